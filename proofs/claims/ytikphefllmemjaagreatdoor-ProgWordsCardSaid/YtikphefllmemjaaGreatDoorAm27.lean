import Derived.Test.YtikphefllmemjaaGreatDoorAm26
import Derived.IntWalk
/-
The engine, part 27: the obligations of runs over open values.
-/
namespace Go.Am
open Go
set_option linter.unusedVariables false
set_option linter.unusedSimpArgs false

/-- a string's byte, as a number -/
def byteAt (s : ByteArray) (i : Int) : Int := ((s.data.toList.getD i.toNat 0).toNat : Int)
def strSub (s : ByteArray) (l h : Int) : ByteArray := s.extract l.toNat h.toNat
def sliceSV (x : Value) (lo hi : Option Value) : Option Value := match x with
    | .string s => do
      let h ← sliceB s.size s.size hi
      let l ← sliceB 0 h lo
      some (.string (s.extract l h))
    | _ => none

theorem byteAt_lo (s : ByteArray) (i : Int) : 0 ≤ byteAt s i := by unfold byteAt; omega
theorem byteAt_hi (s : ByteArray) (i : Int) : byteAt s i < 256 := by
  unfold byteAt
  have := (s.data.toList.getD i.toNat 0).toNat_lt
  omega

/-- answers, in short -/
def hT (n : Nat) : Nat × Hint := (n, .q (.bool true))
def hF (n : Nat) : Nat × Hint := (n, .q (.bool false))
def hB (n : Nat) (s : ByteArray) (i : Int) : Nat × Hint := (n, .q (.int .u8 (byteAt s i)))
def hC (n : Nat) (s : ByteArray) (i : Int) : Nat × Hint := (n, .q (.int .i64 (byteAt s i)))
namespace Fx
abbrev cb (op : BinOp) (k : IntKind) (a b : Int) (t : Bool) : Prop := binV op (.int k a) (.int k b) = some (.bool t)
abbrev ci (op : BinOp) (k : IntKind) (a b c : Int) : Prop := binV op (.int k a) (.int k b) = some (.int k c)
abbrev ix (s : ByteArray) (i : Int) : Prop := (if 0 ≤ i then (s.data.toList[Int.toNat i]?).map (fun b => (.int .u8 b.toNat : Value)) else none) = some (.int .u8 (byteAt s i))
abbrev cv (k : IntKind) (n : Int) : Prop := (some (.int k (IntKind.wrap k n)) : Option Value) = some (.int k n)
variable {k : IntKind} {a b : Int}
theorem lss_t (h : a < b) : binV .lss (.int k a) (.int k b) = some (.bool true) := by simp [binV, intBin, h]
theorem lss_f (h : ¬ a < b) : binV .lss (.int k a) (.int k b) = some (.bool false) := by simp only [binV, intBin, if_true, decide_eq_false h]
theorem leq_t (h : a ≤ b) : binV .leq (.int k a) (.int k b) = some (.bool true) := by simp [binV, intBin, h]
theorem leq_f (h : ¬ a ≤ b) : binV .leq (.int k a) (.int k b) = some (.bool false) := by simp only [binV, intBin, if_true, decide_eq_false h]
theorem gtr_t (h : b < a) : binV .gtr (.int k a) (.int k b) = some (.bool true) := by simp [binV, intBin, h]
theorem gtr_f (h : ¬ b < a) : binV .gtr (.int k a) (.int k b) = some (.bool false) := by simp only [binV, intBin, if_true, gt_iff_lt, decide_eq_false h]
theorem geq_t (h : b ≤ a) : binV .geq (.int k a) (.int k b) = some (.bool true) := by simp [binV, intBin, h]
theorem geq_f (h : ¬ b ≤ a) : binV .geq (.int k a) (.int k b) = some (.bool false) := by simp only [binV, intBin, if_true, ge_iff_le, decide_eq_false h]
theorem eql_t (h : a = b) : binV .eql (.int k a) (.int k b) = some (.bool true) := by subst h; simp [binV, intBin]
theorem eql_f (h : ¬ a = b) : binV .eql (.int k a) (.int k b) = some (.bool false) := by
  simp only [binV, intBin, if_true]
  rw [show (a == b) = false from by simpa using h]
theorem neq_t (h : ¬ a = b) : binV .neq (.int k a) (.int k b) = some (.bool true) := by
  simp only [binV, intBin, if_true]
  rw [show (a != b) = true from by simpa using h]
theorem neq_f (h : a = b) : binV .neq (.int k a) (.int k b) = some (.bool false) := by subst h; simp [binV, intBin]

theorem wrap64 {n : Int} (h1 : -9223372036854775808 ≤ n) (h2 : n ≤ 9223372036854775807) : IntKind.wrap .i64 n = n := IntWalk.i64_in n ⟨h1, h2⟩
theorem add_add (h1 : -9223372036854775808 ≤ a + b) (h2 : a + b ≤ 9223372036854775807) : binV .add (.int .i64 a) (.int .i64 b) = some (.int .i64 (a + b)) := by
  simp only [binV, intBin, if_true, wrap64 h1 h2]
theorem sub_sub (h1 : -9223372036854775808 ≤ a - b) (h2 : a - b ≤ 9223372036854775807) : binV .sub (.int .i64 a) (.int .i64 b) = some (.int .i64 (a - b)) := by
  simp only [binV, intBin, if_true, wrap64 h1 h2]
theorem mul_mul (h1 : -9223372036854775808 ≤ a * b) (h2 : a * b ≤ 9223372036854775807) : binV .mul (.int .i64 a) (.int .i64 b) = some (.int .i64 (a * b)) := by
  simp only [binV, intBin, if_true, wrap64 h1 h2]
theorem conv_i64 {n : Int} (h1 : -9223372036854775808 ≤ n) (h2 : n ≤ 9223372036854775807) : (some (.int .i64 (IntKind.wrap .i64 n)) : Option Value) = some (.int .i64 n) := by rw [wrap64 h1 h2]
theorem conv_i32 {n : Int} (h1 : -2147483648 ≤ n) (h2 : n ≤ 2147483647) : (some (.int .i32 (IntKind.wrap .i32 n)) : Option Value) = some (.int .i32 n) := by rw [IntWalk.i32_in n ⟨h1, h2⟩]
theorem conv_u8 {n : Int} (h1 : 0 ≤ n) (h2 : n ≤ 255) : (some (.int .u8 (IntKind.wrap .u8 n)) : Option Value) = some (.int .u8 n) := by rw [IntWalk.u8_in n ⟨h1, h2⟩]
theorem conv_u16 {n : Int} (h1 : 0 ≤ n) (h2 : n ≤ 65535) : (some (.int .u16 (IntKind.wrap .u16 n)) : Option Value) = some (.int .u16 n) := by rw [IntWalk.u16_in n ⟨h1, h2⟩]
theorem conv_u32 {n : Int} (h1 : 0 ≤ n) (h2 : n ≤ 4294967295) : (some (.int .u32 (IntKind.wrap .u32 n)) : Option Value) = some (.int .u32 n) := by rw [IntWalk.u32_in n ⟨h1, h2⟩]
theorem conv_u64 {n : Int} (h1 : 0 ≤ n) (h2 : n ≤ 18446744073709551615) : (some (.int .u64 (IntKind.wrap .u64 n)) : Option Value) = some (.int .u64 n) := by rw [IntWalk.u64_in n ⟨h1, h2⟩]
theorem c64 {n : Int} (h : -9223372036854775808 ≤ n ∧ n ≤ 9223372036854775807) : cv .i64 n := conv_i64 h.1 h.2
theorem a64 (h : -9223372036854775808 ≤ a + b ∧ a + b ≤ 9223372036854775807) : ci .add .i64 a b (a + b) := add_add h.1 h.2
theorem cat {x y : ByteArray} (h : x.size + y.size ≤ 9223372036854775807) : binV .add (.string x) (.string y) = some (.string (x ++ y)) := by
  simp only [binV, strBin, h, if_true]
theorem index {s : ByteArray} {i : Int} (h1 : 0 ≤ i) (h2 : i < s.size) :
    (if 0 ≤ i then (s.data.toList[Int.toNat i]?).map (fun b => (.int .u8 b.toNat : Value)) else none) = some (.int .u8 (byteAt s i)) := by
  rw [if_pos h1]
  have h3 : i.toNat < s.data.toList.length := by
    have : s.data.toList.length = s.size := Array.length_toList
    omega
  rw [List.getElem?_eq_getElem h3]
  simp only [Option.map_some, byteAt, List.getD_eq_getElem?_getD, List.getElem?_eq_getElem h3, Option.getD_some]
theorem and255 {a : Int} : binV .and (.int .i64 a) (.int .i64 255) = some (.int .i64 (a % 256)) := by
  simp only [binV, intBin, if_true]
  have h : ((BitVec.ofInt IntKind.i64.bits a &&& BitVec.ofInt IntKind.i64.bits 255).toNat : Int) = a % 256 := by
    show ((BitVec.ofInt 64 a &&& BitVec.ofInt 64 255).toNat : Int) = a % 256
    have e : (BitVec.ofInt 64 255) = 255#64 := rfl
    rw [e, BitVec.toNat_and]
    have e2 : (255#64).toNat = 2 ^ 8 - 1 := rfl
    rw [e2, Nat.and_two_pow_sub_one_eq_mod, BitVec.toNat_ofInt]
    omega
  rw [h, wrap64 (by omega) (by omega)]
theorem bits_nat {k : IntKind} {a : Int} (h0 : 0 ≤ a) (h1 : a < 2 ^ k.bits) : (BitVec.ofInt k.bits a).toNat = a.toNat := by
  rw [BitVec.toNat_ofInt]
  congr 1
  have : ((2 ^ k.bits : Nat) : Int) = 2 ^ k.bits := by simp
  rw [this, Int.emod_eq_of_lt h0 h1]
theorem wrap_id {k : IntKind} {n : Int} (h0 : 0 ≤ n) (h1 : n < 2 ^ k.bits / 2) : k.wrap n = n := by
  cases k <;> simp only [IntKind.bits] at h1
  · exact IntWalk.i8_in n (by omega)
  · exact IntWalk.i16_in n (by omega)
  · exact IntWalk.i32_in n (by omega)
  · exact IntWalk.i64_in n (by omega)
  · exact IntWalk.u8_in n (by omega)
  · exact IntWalk.u16_in n (by omega)
  · exact IntWalk.u32_in n (by omega)
  · exact IntWalk.u64_in n (by omega)
theorem half_lt {k : IntKind} : (2 : Int) ^ k.bits / 2 ≤ 2 ^ k.bits := by cases k <;> decide
theorem pow_half {k : IntKind} : (128 : Int) ≤ 2 ^ k.bits / 2 := by cases k <;> decide
theorem and_mod {k : IntKind} {a m : Int} {j : Nat} (h0 : 0 ≤ a ∧ a < 256) (hm : m = 2 ^ j - 1 ∧ j ≤ 6) : binV .and (.int k a) (.int k m) = some (.int k (a % (m + 1))) := by
  obtain ⟨rfl, hj⟩ := hm
  have hb : (256 : Int) ≤ 2 ^ k.bits := by cases k <;> decide
  have hp : (1 : Int) ≤ 2 ^ j ∧ (2 : Int) ^ j ≤ 64 := by
    rcases (by omega : j = 0 ∨ j = 1 ∨ j = 2 ∨ j = 3 ∨ j = 4 ∨ j = 5 ∨ j = 6) with rfl | rfl | rfl | rfl | rfl | rfl | rfl <;> decide
  simp only [binV, intBin, if_true]
  have e : ((BitVec.ofInt k.bits a &&& BitVec.ofInt k.bits (2 ^ j - 1)).toNat : Int) = a % (2 ^ j - 1 + 1) := by
    rw [BitVec.toNat_and, bits_nat h0.1 (by omega), bits_nat (by omega) (by omega)]
    have e2 : ((2 : Int) ^ j - 1).toNat = 2 ^ j - 1 := by
      have : ((2 ^ j : Nat) : Int) = (2 : Int) ^ j := by simp
      omega
    rw [e2, Nat.and_two_pow_sub_one_eq_mod]
    have e3 : (2 : Int) ^ j - 1 + 1 = ((2 ^ j : Nat) : Int) := by simp
    rw [e3]
    obtain ⟨x, rfl⟩ := Int.eq_ofNat_of_zero_le h0.1
    rw [Int.toNat_natCast, Int.natCast_emod]
  rw [e]
  have hlt : a % (2 ^ j - 1 + 1) < 128 := by
    have := Int.emod_lt_of_pos a (show (0 : Int) < 2 ^ j - 1 + 1 by omega)
    omega
  have hge : 0 ≤ a % ((2 : Int) ^ j - 1 + 1) := Int.emod_nonneg _ (by omega)
  rw [wrap_id hge (by have := pow_half (k := k); omega)]
theorem and_mod64 {a m : Int} {j : Nat} (h0 : 0 ≤ a ∧ a < 9223372036854775807) (hm : m = 2 ^ j - 1 ∧ j ≤ 6) : binV .and (.int .i64 a) (.int .i64 m) = some (.int .i64 (a % (m + 1))) := by
  obtain ⟨rfl, hj⟩ := hm
  have hb : (2 : Int) ^ IntKind.i64.bits = 18446744073709551616 := by decide
  have hp : (1 : Int) ≤ 2 ^ j ∧ (2 : Int) ^ j ≤ 64 := by
    rcases (by omega : j = 0 ∨ j = 1 ∨ j = 2 ∨ j = 3 ∨ j = 4 ∨ j = 5 ∨ j = 6) with rfl | rfl | rfl | rfl | rfl | rfl | rfl <;> decide
  simp only [binV, intBin, if_true]
  have e : ((BitVec.ofInt IntKind.i64.bits a &&& BitVec.ofInt IntKind.i64.bits (2 ^ j - 1)).toNat : Int) = a % (2 ^ j - 1 + 1) := by
    rw [BitVec.toNat_and, bits_nat h0.1 (by rw [hb]; omega), bits_nat (by omega) (by rw [hb]; omega)]
    have e2 : ((2 : Int) ^ j - 1).toNat = 2 ^ j - 1 := by
      have : ((2 ^ j : Nat) : Int) = (2 : Int) ^ j := by simp
      omega
    rw [e2, Nat.and_two_pow_sub_one_eq_mod]
    have e3 : (2 : Int) ^ j - 1 + 1 = ((2 ^ j : Nat) : Int) := by simp
    rw [e3]
    obtain ⟨x, rfl⟩ := Int.eq_ofNat_of_zero_le h0.1
    rw [Int.toNat_natCast, Int.natCast_emod]
  rw [e]
  have hlt : a % (2 ^ j - 1 + 1) < 128 := by
    have := Int.emod_lt_of_pos a (show (0 : Int) < 2 ^ j - 1 + 1 by omega)
    omega
  have hge : 0 ≤ a % ((2 : Int) ^ j - 1 + 1) := Int.emod_nonneg _ (by omega)
  rw [wrap64 (by omega) (by omega)]
theorem shl6 {k : IntKind} {a : Int} (h1 : 0 ≤ a) (h2 : a * 64 ≤ 9223372036854775807) : binV .shl (.int .i64 a) (.int k 6) = some (.int .i64 (a * 64)) := by
  have e : (2 : Int) ^ (min (6 : Int).toNat IntKind.i64.bits) = 64 := by decide
  simp only [binV]
  rw [if_neg (by omega), e, wrap64 (by omega) h2]
theorem shr_div {k k' : IntKind} {a m : Int} {j : Nat} (h : m = j ∧ j ≤ k.bits) : binV .shr (.int k a) (.int k' m) = some (.int k (a / 2 ^ j)) := by
  obtain ⟨rfl, hj⟩ := h
  simp only [binV]
  rw [if_neg (by omega)]
  have e : min ((j : Int)).toNat k.bits = j := by
    rw [Int.toNat_natCast]
    exact Nat.min_eq_left hj
  rw [e, Int.fdiv_eq_ediv_of_nonneg]
  exact Int.le_of_lt (Int.pow_pos (by decide))
theorem or_add {a b : Int} {j : Nat} (h0 : 0 ≤ a) (h1 : a % 2 ^ j = 0) (h2 : 0 ≤ b) (h3 : b < 2 ^ j) (h4 : a + b ≤ 9223372036854775807) : binV .or (.int .i64 a) (.int .i64 b) = some (.int .i64 (a + b)) := by
  simp only [binV, intBin, if_true]
  have hb : (2 : Int) ^ IntKind.i64.bits = 18446744073709551616 := by decide
  have e : ((BitVec.ofInt IntKind.i64.bits a ||| BitVec.ofInt IntKind.i64.bits b).toNat : Int) = a + b := by
    rw [BitVec.toNat_or, bits_nat h0 (by rw [hb]; omega), bits_nat h2 (by rw [hb]; omega)]
    obtain ⟨x, rfl⟩ := Int.eq_ofNat_of_zero_le h0
    obtain ⟨y, rfl⟩ := Int.eq_ofNat_of_zero_le h2
    simp only [Int.toNat_natCast]
    have hp : ((2 ^ j : Nat) : Int) = (2 : Int) ^ j := by simp
    rw [← hp] at h1 h3
    have hx : x % 2 ^ j = 0 := by omega
    have hy : y < 2 ^ j := by omega
    obtain ⟨q, rfl⟩ := Nat.dvd_of_mod_eq_zero hx
    rw [Nat.mul_comm, ← Nat.shiftLeft_eq, ← Nat.shiftLeft_add_eq_or_of_lt hy]
    simp
  rw [e, wrap64 (by omega) h4]
theorem slice_b {s : ByteArray} {k k' : IntKind} {l h : Int} (h0 : 0 ≤ l) (h1 : l ≤ h) (h2 : h ≤ s.size) : sliceSV (.string s) (some (.int k l)) (some (.int k' h)) = some (.string (strSub s l h)) := by
  have e1 : sliceB s.size s.size (some (.int k' h)) = some h.toNat := by simp only [sliceB]; rw [if_pos ⟨by omega, h2⟩]
  have e2 : sliceB 0 h.toNat (some (.int k l)) = some l.toNat := by simp only [sliceB]; rw [if_pos ⟨h0, by omega⟩]
  simp only [sliceSV, e1, e2, Option.bind_eq_bind, Option.bind_some, strSub]
theorem slice_l {s : ByteArray} {k : IntKind} {l : Int} (h0 : 0 ≤ l) (h1 : l ≤ s.size) : sliceSV (.string s) (some (.int k l)) none = some (.string (strSub s l (s.size : Int))) := by
  have e1 : sliceB s.size s.size (none : Option Value) = some s.size := rfl
  have e2 : sliceB 0 s.size (some (.int k l)) = some l.toNat := by simp only [sliceB]; rw [if_pos ⟨h0, h1⟩]
  simp only [sliceSV, e1, e2, Option.bind_eq_bind, Option.bind_some, strSub, Int.toNat_natCast]
theorem slice_h {s : ByteArray} {k : IntKind} {h : Int} (h0 : 0 ≤ h) (h1 : h ≤ s.size) : sliceSV (.string s) none (some (.int k h)) = some (.string (strSub s 0 h)) := by
  have e1 : sliceB s.size s.size (some (.int k h)) = some h.toNat := by simp only [sliceB]; rw [if_pos ⟨h0, h1⟩]
  have e2 : sliceB 0 h.toNat (none : Option Value) = some 0 := rfl
  simp only [sliceSV, e1, e2, Option.bind_eq_bind, Option.bind_some, strSub, Int.toNat_zero]
theorem i8 {s : ByteArray} {i : Int} (h : 0 ≤ i ∧ i < s.size) : ix s i := index h.1 h.2
theorem ite_t {c : Prop} [Decidable c] (h : c) : (some (.int k (if c then a else b)) : Option Value) = some (.int k a) := by rw [if_pos h]
theorem ite_f {c : Prop} [Decidable c] (h : ¬ c) : (some (.int k (if c then a else b)) : Option Value) = some (.int k b) := by rw [if_neg h]
end Fx
end Go.Am
