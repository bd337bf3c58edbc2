import Derived.Test.YtikphefllmemjaaGreatAm26
import Derived.IntWalk
/-
The engine, part 27: the obligations of runs over open values.
-/
namespace Go.Am
open Go
set_option linter.unusedVariables false
set_option linter.unusedSimpArgs false

/-- a string's byte, as a number -/
def byteAt (s : ByteArray) (i : Int) : Int := ((s.data.toList.getD i.toNat 0).toNat : Int)
def strSub (s : ByteArray) (l h : Int) : ByteArray := s.extract l.toNat h.toNat
def sliceSV (x : Value) (lo hi : Option Value) : Option Value := match x with
    | .string s => do
      let h ← sliceB s.size s.size hi
      let l ← sliceB 0 h lo
      some (.string (s.extract l h))
    | _ => none

theorem byteAt_lo (s : ByteArray) (i : Int) : 0 ≤ byteAt s i := by unfold byteAt; omega
theorem byteAt_hi (s : ByteArray) (i : Int) : byteAt s i < 256 := by
  unfold byteAt
  have := (s.data.toList.getD i.toNat 0).toNat_lt
  omega

namespace Fx
variable {k : IntKind} {a b : Int}
theorem lss_t (h : a < b) : binV .lss (.int k a) (.int k b) = some (.bool true) := by simp [binV, intBin, h]
theorem lss_f (h : ¬ a < b) : binV .lss (.int k a) (.int k b) = some (.bool false) := by simp only [binV, intBin, if_true, decide_eq_false h]
theorem leq_t (h : a ≤ b) : binV .leq (.int k a) (.int k b) = some (.bool true) := by simp [binV, intBin, h]
theorem leq_f (h : ¬ a ≤ b) : binV .leq (.int k a) (.int k b) = some (.bool false) := by simp only [binV, intBin, if_true, decide_eq_false h]
theorem gtr_t (h : b < a) : binV .gtr (.int k a) (.int k b) = some (.bool true) := by simp [binV, intBin, h]
theorem gtr_f (h : ¬ b < a) : binV .gtr (.int k a) (.int k b) = some (.bool false) := by simp only [binV, intBin, if_true, gt_iff_lt, decide_eq_false h]
theorem geq_t (h : b ≤ a) : binV .geq (.int k a) (.int k b) = some (.bool true) := by simp [binV, intBin, h]
theorem geq_f (h : ¬ b ≤ a) : binV .geq (.int k a) (.int k b) = some (.bool false) := by simp only [binV, intBin, if_true, ge_iff_le, decide_eq_false h]
theorem eql_t (h : a = b) : binV .eql (.int k a) (.int k b) = some (.bool true) := by subst h; simp [binV, intBin]
theorem eql_f (h : ¬ a = b) : binV .eql (.int k a) (.int k b) = some (.bool false) := by
  simp only [binV, intBin, if_true]
  rw [show (a == b) = false from by simpa using h]
theorem neq_t (h : ¬ a = b) : binV .neq (.int k a) (.int k b) = some (.bool true) := by
  simp only [binV, intBin, if_true]
  rw [show (a != b) = true from by simpa using h]
theorem neq_f (h : a = b) : binV .neq (.int k a) (.int k b) = some (.bool false) := by subst h; simp [binV, intBin]

theorem wrap64 {n : Int} (h1 : -9223372036854775808 ≤ n) (h2 : n ≤ 9223372036854775807) : IntKind.wrap .i64 n = n := IntWalk.i64_in n ⟨h1, h2⟩
theorem add_add (h1 : -9223372036854775808 ≤ a + b) (h2 : a + b ≤ 9223372036854775807) : binV .add (.int .i64 a) (.int .i64 b) = some (.int .i64 (a + b)) := by
  simp only [binV, intBin, if_true, wrap64 h1 h2]
theorem sub_sub (h1 : -9223372036854775808 ≤ a - b) (h2 : a - b ≤ 9223372036854775807) : binV .sub (.int .i64 a) (.int .i64 b) = some (.int .i64 (a - b)) := by
  simp only [binV, intBin, if_true, wrap64 h1 h2]
theorem mul_mul (h1 : -9223372036854775808 ≤ a * b) (h2 : a * b ≤ 9223372036854775807) : binV .mul (.int .i64 a) (.int .i64 b) = some (.int .i64 (a * b)) := by
  simp only [binV, intBin, if_true, wrap64 h1 h2]
theorem conv_i64 {n : Int} (h1 : -9223372036854775808 ≤ n) (h2 : n ≤ 9223372036854775807) : (some (.int .i64 (IntKind.wrap .i64 n)) : Option Value) = some (.int .i64 n) := by rw [wrap64 h1 h2]
theorem conv_i32 {n : Int} (h1 : -2147483648 ≤ n) (h2 : n ≤ 2147483647) : (some (.int .i32 (IntKind.wrap .i32 n)) : Option Value) = some (.int .i32 n) := by rw [IntWalk.i32_in n ⟨h1, h2⟩]
theorem conv_u8 {n : Int} (h1 : 0 ≤ n) (h2 : n ≤ 255) : (some (.int .u8 (IntKind.wrap .u8 n)) : Option Value) = some (.int .u8 n) := by rw [IntWalk.u8_in n ⟨h1, h2⟩]
theorem conv_u16 {n : Int} (h1 : 0 ≤ n) (h2 : n ≤ 65535) : (some (.int .u16 (IntKind.wrap .u16 n)) : Option Value) = some (.int .u16 n) := by rw [IntWalk.u16_in n ⟨h1, h2⟩]
theorem conv_u32 {n : Int} (h1 : 0 ≤ n) (h2 : n ≤ 4294967295) : (some (.int .u32 (IntKind.wrap .u32 n)) : Option Value) = some (.int .u32 n) := by rw [IntWalk.u32_in n ⟨h1, h2⟩]
theorem conv_u64 {n : Int} (h1 : 0 ≤ n) (h2 : n ≤ 18446744073709551615) : (some (.int .u64 (IntKind.wrap .u64 n)) : Option Value) = some (.int .u64 n) := by rw [IntWalk.u64_in n ⟨h1, h2⟩]
theorem cat {x y : ByteArray} (h : x.size + y.size ≤ 9223372036854775807) : binV .add (.string x) (.string y) = some (.string (x ++ y)) := by
  simp only [binV, strBin, h, if_true]
theorem index {s : ByteArray} {i : Int} (h1 : 0 ≤ i) (h2 : i < s.size) :
    (if 0 ≤ i then (s.data.toList[Int.toNat i]?).map (fun b => (.int .u8 b.toNat : Value)) else none) = some (.int .u8 (byteAt s i)) := by
  rw [if_pos h1]
  have h3 : i.toNat < s.data.toList.length := by
    have : s.data.toList.length = s.size := Array.length_toList
    omega
  rw [List.getElem?_eq_getElem h3]
  simp only [Option.map_some, byteAt, List.getD_eq_getElem?_getD, List.getElem?_eq_getElem h3, Option.getD_some]
theorem and255 {a : Int} : binV .and (.int .i64 a) (.int .i64 255) = some (.int .i64 (a % 256)) := by
  simp only [binV, intBin, if_true]
  have h : ((BitVec.ofInt IntKind.i64.bits a &&& BitVec.ofInt IntKind.i64.bits 255).toNat : Int) = a % 256 := by
    show ((BitVec.ofInt 64 a &&& BitVec.ofInt 64 255).toNat : Int) = a % 256
    have e : (BitVec.ofInt 64 255) = 255#64 := rfl
    rw [e, BitVec.toNat_and]
    have e2 : (255#64).toNat = 2 ^ 8 - 1 := rfl
    rw [e2, Nat.and_two_pow_sub_one_eq_mod, BitVec.toNat_ofInt]
    omega
  rw [h, wrap64 (by omega) (by omega)]
theorem ite_t {c : Prop} [Decidable c] (h : c) : (some (.int k (if c then a else b)) : Option Value) = some (.int k a) := by rw [if_pos h]
theorem ite_f {c : Prop} [Decidable c] (h : ¬ c) : (some (.int k (if c then a else b)) : Option Value) = some (.int k b) := by rw [if_neg h]
end Fx
end Go.Am
