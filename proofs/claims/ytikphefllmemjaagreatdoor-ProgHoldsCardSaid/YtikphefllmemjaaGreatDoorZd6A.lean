import Derived.Test.YtikphefllmemjaaGreatDoorZd3
import Derived.Test.YtikphefllmemjaaGreatDoorAm27
/-
ProgHolds: the runs of the functions, case by case (printed by wip/zd/Zd6gen.lean), and what they come to.
-/
namespace Go.Am.Zd
open Go Go.Am Go.Proofs
set_option linter.unusedVariables false
set_option maxRecDepth 100000

/-- a byte of a word -/
def wb (n : Int) : Bool := (decide (48 ≤ n) && decide (n ≤ 57)) || (decide (65 ≤ n) && decide (n ≤ 90)) || (decide (97 ≤ n) && decide (n ≤ 122)) || decide (n = 95)
def wd (s : ByteArray) (k : Int) : Bool := if k < 0 then false else if s.size ≤ k then false else wb (byteAt s k)
theorem parts (n : Int) : n < 48 ∨ (48 ≤ n ∧ n ≤ 57) ∨ (57 < n ∧ n < 65) ∨ (65 ≤ n ∧ n ≤ 90) ∨ (90 < n ∧ n < 95) ∨ n = 95 ∨ n = 96 ∨ (97 ≤ n ∧ n ≤ 122) ∨ 122 < n := by omega
theorem wb_t {n : Int} (h : (48 ≤ n ∧ n ≤ 57) ∨ (65 ≤ n ∧ n ≤ 90) ∨ (97 ≤ n ∧ n ≤ 122) ∨ n = 95) : wb n = true := by
  simp only [wb, Bool.or_eq_true, Bool.and_eq_true, decide_eq_true_eq]; omega
theorem wb_f {n : Int} (h : ¬ ((48 ≤ n ∧ n ≤ 57) ∨ (65 ≤ n ∧ n ≤ 90) ∨ (97 ≤ n ∧ n ≤ 122) ∨ n = 95)) : wb n = false := by
  rw [Bool.eq_false_iff]
  intro e
  simp only [wb, Bool.or_eq_true, Bool.and_eq_true, decide_eq_true_eq] at e
  omega
/- 5 steps -/
set_option maxHeartbeats 4000000 in
theorem w32a (s : ByteArray) (k : Int) (h : AH) (h0 : k < 0) : Ev Tryz.prog tbl 32 [(.string s), (.int .i64 k)] h ((.bool false), h) := by
  refine Ev.ofH (n := 200) (hs := [(2, (.q (.bool true)))]) (cs := [binV .lss (.int .i64 k) (.int .i64 0) = some (.bool true)]) (by kernel_rfl) ?_
  exact ⟨(Fx.lss_t (by omega)),
    trivial⟩

/- 8 steps -/
set_option maxHeartbeats 4000000 in
theorem w32b (s : ByteArray) (k : Int) (h : AH) (h0 : 0 ≤ k) (h1 : s.size ≤ k) : Ev Tryz.prog tbl 32 [(.string s), (.int .i64 k)] h ((.bool false), h) := by
  refine Ev.ofH (n := 200) (hs := [(2, (.q (.bool false))), (4, (.q (.bool true)))]) (cs := [binV .geq (.int .i64 k) (.int .i64 ((s).size : Int)) = some (.bool true),
    binV .lss (.int .i64 k) (.int .i64 0) = some (.bool false)]) (by kernel_rfl) ?_
  exact ⟨(Fx.geq_t (by omega)),
    (Fx.lss_f (by omega)),
    trivial⟩

/- 27 steps -/
set_option maxHeartbeats 4000000 in
theorem w32c0 (s : ByteArray) (k : Int) (h : AH) (h0 : 0 ≤ k) (h1 : k < s.size) (hb : byteAt s k < 48) : Ev Tryz.prog tbl 32 [(.string s), (.int .i64 k)] h ((.bool false), h) := by
  refine Ev.ofH (n := 200) (hs := [(2, (.q (.bool false))), (4, (.q (.bool false))), (3, (.q (.int .u8 (byteAt s k)))), (2, (.q (.bool false))), (4, (.q (.bool false))), (5, (.q (.bool false))), (5, (.q (.bool false)))]) (cs := [binV .eql (.int .u8 (byteAt s k)) (.int .u8 95) = some (.bool false),
    binV .geq (.int .u8 (byteAt s k)) (.int .u8 97) = some (.bool false),
    binV .geq (.int .u8 (byteAt s k)) (.int .u8 65) = some (.bool false),
    binV .geq (.int .u8 (byteAt s k)) (.int .u8 48) = some (.bool false),
    (if 0 ≤ (k : Int) then ((ByteArray.data s).toList[Int.toNat k]?).map (fun b => (.int .u8 b.toNat : Value)) else none) = some (.int .u8 (byteAt s k)),
    binV .geq (.int .i64 k) (.int .i64 ((s).size : Int)) = some (.bool false),
    binV .lss (.int .i64 k) (.int .i64 0) = some (.bool false)]) (by kernel_rfl) ?_
  exact ⟨(Fx.eql_f (by omega)),
    (Fx.geq_f (by omega)),
    (Fx.geq_f (by omega)),
    (Fx.geq_f (by omega)),
    (Fx.index (by omega) (by omega)),
    (Fx.geq_f (by omega)),
    (Fx.lss_f (by omega)),
    trivial⟩

/- 21 steps -/
set_option maxHeartbeats 4000000 in
theorem w32c1 (s : ByteArray) (k : Int) (h : AH) (h0 : 0 ≤ k) (h1 : k < s.size) (hb : 48 ≤ byteAt s k ∧ byteAt s k ≤ 57) : Ev Tryz.prog tbl 32 [(.string s), (.int .i64 k)] h ((.bool true), h) := by
  refine Ev.ofH (n := 200) (hs := [(2, (.q (.bool false))), (4, (.q (.bool false))), (3, (.q (.int .u8 (byteAt s k)))), (2, (.q (.bool true))), (2, (.q (.bool true)))]) (cs := [binV .leq (.int .u8 (byteAt s k)) (.int .u8 57) = some (.bool true),
    binV .geq (.int .u8 (byteAt s k)) (.int .u8 48) = some (.bool true),
    (if 0 ≤ (k : Int) then ((ByteArray.data s).toList[Int.toNat k]?).map (fun b => (.int .u8 b.toNat : Value)) else none) = some (.int .u8 (byteAt s k)),
    binV .geq (.int .i64 k) (.int .i64 ((s).size : Int)) = some (.bool false),
    binV .lss (.int .i64 k) (.int .i64 0) = some (.bool false)]) (by kernel_rfl) ?_
  exact ⟨(Fx.leq_t (by omega)),
    (Fx.geq_t (by omega)),
    (Fx.index (by omega) (by omega)),
    (Fx.geq_f (by omega)),
    (Fx.lss_f (by omega)),
    trivial⟩

/- 28 steps -/
set_option maxHeartbeats 4000000 in
theorem w32c2 (s : ByteArray) (k : Int) (h : AH) (h0 : 0 ≤ k) (h1 : k < s.size) (hb : 57 < byteAt s k ∧ byteAt s k < 65) : Ev Tryz.prog tbl 32 [(.string s), (.int .i64 k)] h ((.bool false), h) := by
  refine Ev.ofH (n := 200) (hs := [(2, (.q (.bool false))), (4, (.q (.bool false))), (3, (.q (.int .u8 (byteAt s k)))), (2, (.q (.bool true))), (2, (.q (.bool false))), (3, (.q (.bool false))), (5, (.q (.bool false))), (5, (.q (.bool false)))]) (cs := [binV .eql (.int .u8 (byteAt s k)) (.int .u8 95) = some (.bool false),
    binV .geq (.int .u8 (byteAt s k)) (.int .u8 97) = some (.bool false),
    binV .geq (.int .u8 (byteAt s k)) (.int .u8 65) = some (.bool false),
    binV .leq (.int .u8 (byteAt s k)) (.int .u8 57) = some (.bool false),
    binV .geq (.int .u8 (byteAt s k)) (.int .u8 48) = some (.bool true),
    (if 0 ≤ (k : Int) then ((ByteArray.data s).toList[Int.toNat k]?).map (fun b => (.int .u8 b.toNat : Value)) else none) = some (.int .u8 (byteAt s k)),
    binV .geq (.int .i64 k) (.int .i64 ((s).size : Int)) = some (.bool false),
    binV .lss (.int .i64 k) (.int .i64 0) = some (.bool false)]) (by kernel_rfl) ?_
  exact ⟨(Fx.eql_f (by omega)),
    (Fx.geq_f (by omega)),
    (Fx.geq_f (by omega)),
    (Fx.leq_f (by omega)),
    (Fx.geq_t (by omega)),
    (Fx.index (by omega) (by omega)),
    (Fx.geq_f (by omega)),
    (Fx.lss_f (by omega)),
    trivial⟩

/- 25 steps -/
set_option maxHeartbeats 4000000 in
theorem w32c3 (s : ByteArray) (k : Int) (h : AH) (h0 : 0 ≤ k) (h1 : k < s.size) (hb : 65 ≤ byteAt s k ∧ byteAt s k ≤ 90) : Ev Tryz.prog tbl 32 [(.string s), (.int .i64 k)] h ((.bool true), h) := by
  refine Ev.ofH (n := 200) (hs := [(2, (.q (.bool false))), (4, (.q (.bool false))), (3, (.q (.int .u8 (byteAt s k)))), (2, (.q (.bool true))), (2, (.q (.bool false))), (3, (.q (.bool true))), (2, (.q (.bool true)))]) (cs := [binV .leq (.int .u8 (byteAt s k)) (.int .u8 90) = some (.bool true),
    binV .geq (.int .u8 (byteAt s k)) (.int .u8 65) = some (.bool true),
    binV .leq (.int .u8 (byteAt s k)) (.int .u8 57) = some (.bool false),
    binV .geq (.int .u8 (byteAt s k)) (.int .u8 48) = some (.bool true),
    (if 0 ≤ (k : Int) then ((ByteArray.data s).toList[Int.toNat k]?).map (fun b => (.int .u8 b.toNat : Value)) else none) = some (.int .u8 (byteAt s k)),
    binV .geq (.int .i64 k) (.int .i64 ((s).size : Int)) = some (.bool false),
    binV .lss (.int .i64 k) (.int .i64 0) = some (.bool false)]) (by kernel_rfl) ?_
  exact ⟨(Fx.leq_t (by omega)),
    (Fx.geq_t (by omega)),
    (Fx.leq_f (by omega)),
    (Fx.geq_t (by omega)),
    (Fx.index (by omega) (by omega)),
    (Fx.geq_f (by omega)),
    (Fx.lss_f (by omega)),
    trivial⟩

/- 29 steps -/
set_option maxHeartbeats 4000000 in
theorem w32c4 (s : ByteArray) (k : Int) (h : AH) (h0 : 0 ≤ k) (h1 : k < s.size) (hb : 90 < byteAt s k ∧ byteAt s k < 95) : Ev Tryz.prog tbl 32 [(.string s), (.int .i64 k)] h ((.bool false), h) := by
  refine Ev.ofH (n := 200) (hs := [(2, (.q (.bool false))), (4, (.q (.bool false))), (3, (.q (.int .u8 (byteAt s k)))), (2, (.q (.bool true))), (2, (.q (.bool false))), (3, (.q (.bool true))), (2, (.q (.bool false))), (4, (.q (.bool false))), (5, (.q (.bool false)))]) (cs := [binV .eql (.int .u8 (byteAt s k)) (.int .u8 95) = some (.bool false),
    binV .geq (.int .u8 (byteAt s k)) (.int .u8 97) = some (.bool false),
    binV .leq (.int .u8 (byteAt s k)) (.int .u8 90) = some (.bool false),
    binV .geq (.int .u8 (byteAt s k)) (.int .u8 65) = some (.bool true),
    binV .leq (.int .u8 (byteAt s k)) (.int .u8 57) = some (.bool false),
    binV .geq (.int .u8 (byteAt s k)) (.int .u8 48) = some (.bool true),
    (if 0 ≤ (k : Int) then ((ByteArray.data s).toList[Int.toNat k]?).map (fun b => (.int .u8 b.toNat : Value)) else none) = some (.int .u8 (byteAt s k)),
    binV .geq (.int .i64 k) (.int .i64 ((s).size : Int)) = some (.bool false),
    binV .lss (.int .i64 k) (.int .i64 0) = some (.bool false)]) (by kernel_rfl) ?_
  exact ⟨(Fx.eql_f (by omega)),
    (Fx.geq_f (by omega)),
    (Fx.leq_f (by omega)),
    (Fx.geq_t (by omega)),
    (Fx.leq_f (by omega)),
    (Fx.geq_t (by omega)),
    (Fx.index (by omega) (by omega)),
    (Fx.geq_f (by omega)),
    (Fx.lss_f (by omega)),
    trivial⟩

/- 29 steps -/
set_option maxHeartbeats 4000000 in
theorem w32c5 (s : ByteArray) (k : Int) (h : AH) (h0 : 0 ≤ k) (h1 : k < s.size) (hb : byteAt s k = 95) : Ev Tryz.prog tbl 32 [(.string s), (.int .i64 k)] h ((.bool true), h) := by
  refine Ev.ofH (n := 200) (hs := [(2, (.q (.bool false))), (4, (.q (.bool false))), (3, (.q (.int .u8 (byteAt s k)))), (2, (.q (.bool true))), (2, (.q (.bool false))), (3, (.q (.bool true))), (2, (.q (.bool false))), (4, (.q (.bool false))), (5, (.q (.bool true)))]) (cs := [binV .eql (.int .u8 (byteAt s k)) (.int .u8 95) = some (.bool true),
    binV .geq (.int .u8 (byteAt s k)) (.int .u8 97) = some (.bool false),
    binV .leq (.int .u8 (byteAt s k)) (.int .u8 90) = some (.bool false),
    binV .geq (.int .u8 (byteAt s k)) (.int .u8 65) = some (.bool true),
    binV .leq (.int .u8 (byteAt s k)) (.int .u8 57) = some (.bool false),
    binV .geq (.int .u8 (byteAt s k)) (.int .u8 48) = some (.bool true),
    (if 0 ≤ (k : Int) then ((ByteArray.data s).toList[Int.toNat k]?).map (fun b => (.int .u8 b.toNat : Value)) else none) = some (.int .u8 (byteAt s k)),
    binV .geq (.int .i64 k) (.int .i64 ((s).size : Int)) = some (.bool false),
    binV .lss (.int .i64 k) (.int .i64 0) = some (.bool false)]) (by kernel_rfl) ?_
  exact ⟨(Fx.eql_t (by omega)),
    (Fx.geq_f (by omega)),
    (Fx.leq_f (by omega)),
    (Fx.geq_t (by omega)),
    (Fx.leq_f (by omega)),
    (Fx.geq_t (by omega)),
    (Fx.index (by omega) (by omega)),
    (Fx.geq_f (by omega)),
    (Fx.lss_f (by omega)),
    trivial⟩

/- 29 steps -/
set_option maxHeartbeats 4000000 in
theorem w32c6 (s : ByteArray) (k : Int) (h : AH) (h0 : 0 ≤ k) (h1 : k < s.size) (hb : byteAt s k = 96) : Ev Tryz.prog tbl 32 [(.string s), (.int .i64 k)] h ((.bool false), h) := by
  refine Ev.ofH (n := 200) (hs := [(2, (.q (.bool false))), (4, (.q (.bool false))), (3, (.q (.int .u8 (byteAt s k)))), (2, (.q (.bool true))), (2, (.q (.bool false))), (3, (.q (.bool true))), (2, (.q (.bool false))), (4, (.q (.bool false))), (5, (.q (.bool false)))]) (cs := [binV .eql (.int .u8 (byteAt s k)) (.int .u8 95) = some (.bool false),
    binV .geq (.int .u8 (byteAt s k)) (.int .u8 97) = some (.bool false),
    binV .leq (.int .u8 (byteAt s k)) (.int .u8 90) = some (.bool false),
    binV .geq (.int .u8 (byteAt s k)) (.int .u8 65) = some (.bool true),
    binV .leq (.int .u8 (byteAt s k)) (.int .u8 57) = some (.bool false),
    binV .geq (.int .u8 (byteAt s k)) (.int .u8 48) = some (.bool true),
    (if 0 ≤ (k : Int) then ((ByteArray.data s).toList[Int.toNat k]?).map (fun b => (.int .u8 b.toNat : Value)) else none) = some (.int .u8 (byteAt s k)),
    binV .geq (.int .i64 k) (.int .i64 ((s).size : Int)) = some (.bool false),
    binV .lss (.int .i64 k) (.int .i64 0) = some (.bool false)]) (by kernel_rfl) ?_
  exact ⟨(Fx.eql_f (by omega)),
    (Fx.geq_f (by omega)),
    (Fx.leq_f (by omega)),
    (Fx.geq_t (by omega)),
    (Fx.leq_f (by omega)),
    (Fx.geq_t (by omega)),
    (Fx.index (by omega) (by omega)),
    (Fx.geq_f (by omega)),
    (Fx.lss_f (by omega)),
    trivial⟩

/- 29 steps -/
set_option maxHeartbeats 4000000 in
theorem w32c7 (s : ByteArray) (k : Int) (h : AH) (h0 : 0 ≤ k) (h1 : k < s.size) (hb : 97 ≤ byteAt s k ∧ byteAt s k ≤ 122) : Ev Tryz.prog tbl 32 [(.string s), (.int .i64 k)] h ((.bool true), h) := by
  refine Ev.ofH (n := 200) (hs := [(2, (.q (.bool false))), (4, (.q (.bool false))), (3, (.q (.int .u8 (byteAt s k)))), (2, (.q (.bool true))), (2, (.q (.bool false))), (3, (.q (.bool true))), (2, (.q (.bool false))), (4, (.q (.bool true))), (2, (.q (.bool true)))]) (cs := [binV .leq (.int .u8 (byteAt s k)) (.int .u8 122) = some (.bool true),
    binV .geq (.int .u8 (byteAt s k)) (.int .u8 97) = some (.bool true),
    binV .leq (.int .u8 (byteAt s k)) (.int .u8 90) = some (.bool false),
    binV .geq (.int .u8 (byteAt s k)) (.int .u8 65) = some (.bool true),
    binV .leq (.int .u8 (byteAt s k)) (.int .u8 57) = some (.bool false),
    binV .geq (.int .u8 (byteAt s k)) (.int .u8 48) = some (.bool true),
    (if 0 ≤ (k : Int) then ((ByteArray.data s).toList[Int.toNat k]?).map (fun b => (.int .u8 b.toNat : Value)) else none) = some (.int .u8 (byteAt s k)),
    binV .geq (.int .i64 k) (.int .i64 ((s).size : Int)) = some (.bool false),
    binV .lss (.int .i64 k) (.int .i64 0) = some (.bool false)]) (by kernel_rfl) ?_
  exact ⟨(Fx.leq_t (by omega)),
    (Fx.geq_t (by omega)),
    (Fx.leq_f (by omega)),
    (Fx.geq_t (by omega)),
    (Fx.leq_f (by omega)),
    (Fx.geq_t (by omega)),
    (Fx.index (by omega) (by omega)),
    (Fx.geq_f (by omega)),
    (Fx.lss_f (by omega)),
    trivial⟩

/- 30 steps -/
set_option maxHeartbeats 4000000 in
theorem w32c8 (s : ByteArray) (k : Int) (h : AH) (h0 : 0 ≤ k) (h1 : k < s.size) (hb : 122 < byteAt s k) : Ev Tryz.prog tbl 32 [(.string s), (.int .i64 k)] h ((.bool false), h) := by
  refine Ev.ofH (n := 200) (hs := [(2, (.q (.bool false))), (4, (.q (.bool false))), (3, (.q (.int .u8 (byteAt s k)))), (2, (.q (.bool true))), (2, (.q (.bool false))), (3, (.q (.bool true))), (2, (.q (.bool false))), (4, (.q (.bool true))), (2, (.q (.bool false))), (4, (.q (.bool false)))]) (cs := [binV .eql (.int .u8 (byteAt s k)) (.int .u8 95) = some (.bool false),
    binV .leq (.int .u8 (byteAt s k)) (.int .u8 122) = some (.bool false),
    binV .geq (.int .u8 (byteAt s k)) (.int .u8 97) = some (.bool true),
    binV .leq (.int .u8 (byteAt s k)) (.int .u8 90) = some (.bool false),
    binV .geq (.int .u8 (byteAt s k)) (.int .u8 65) = some (.bool true),
    binV .leq (.int .u8 (byteAt s k)) (.int .u8 57) = some (.bool false),
    binV .geq (.int .u8 (byteAt s k)) (.int .u8 48) = some (.bool true),
    (if 0 ≤ (k : Int) then ((ByteArray.data s).toList[Int.toNat k]?).map (fun b => (.int .u8 b.toNat : Value)) else none) = some (.int .u8 (byteAt s k)),
    binV .geq (.int .i64 k) (.int .i64 ((s).size : Int)) = some (.bool false),
    binV .lss (.int .i64 k) (.int .i64 0) = some (.bool false)]) (by kernel_rfl) ?_
  exact ⟨(Fx.eql_f (by omega)),
    (Fx.leq_f (by omega)),
    (Fx.geq_t (by omega)),
    (Fx.leq_f (by omega)),
    (Fx.geq_t (by omega)),
    (Fx.leq_f (by omega)),
    (Fx.geq_t (by omega)),
    (Fx.index (by omega) (by omega)),
    (Fx.geq_f (by omega)),
    (Fx.lss_f (by omega)),
    trivial⟩

/- 5 steps -/
set_option maxHeartbeats 4000000 in
theorem w33a (s : ByteArray) (k : Int) (h : AH) (h0 : k < 0) : Ev Tryz.prog tbl 33 [(.string s), (.int .i64 k)] h ((.bool false), h) := by
  refine Ev.ofH (n := 200) (hs := [(2, (.q (.bool true)))]) (cs := [binV .lss (.int .i64 k) (.int .i64 0) = some (.bool true)]) (by kernel_rfl) ?_
  exact ⟨(Fx.lss_t (by omega)),
    trivial⟩

/- 8 steps -/
set_option maxHeartbeats 4000000 in
theorem w33b (s : ByteArray) (k : Int) (h : AH) (h0 : 0 ≤ k) (h1 : s.size ≤ k) : Ev Tryz.prog tbl 33 [(.string s), (.int .i64 k)] h ((.bool false), h) := by
  refine Ev.ofH (n := 200) (hs := [(2, (.q (.bool false))), (4, (.q (.bool true)))]) (cs := [binV .geq (.int .i64 k) (.int .i64 ((s).size : Int)) = some (.bool true),
    binV .lss (.int .i64 k) (.int .i64 0) = some (.bool false)]) (by kernel_rfl) ?_
  exact ⟨(Fx.geq_t (by omega)),
    (Fx.lss_f (by omega)),
    trivial⟩

/- 27 steps -/
set_option maxHeartbeats 4000000 in
theorem w33c0 (s : ByteArray) (k : Int) (h : AH) (h0 : 0 ≤ k) (h1 : k < s.size) (hb : byteAt s k < 48) : Ev Tryz.prog tbl 33 [(.string s), (.int .i64 k)] h ((.bool false), h) := by
  refine Ev.ofH (n := 200) (hs := [(2, (.q (.bool false))), (4, (.q (.bool false))), (3, (.q (.int .u8 (byteAt s k)))), (2, (.q (.bool false))), (2, (.q (.bool false))), (5, (.q (.bool false))), (5, (.q (.bool false)))]) (cs := [binV .gtr (.int .u8 (byteAt s k)) (.int .u8 96) = some (.bool false),
    binV .gtr (.int .u8 (byteAt s k)) (.int .u8 64) = some (.bool false),
    binV .gtr (.int .u8 (byteAt s k)) (.int .u8 47) = some (.bool false),
    binV .eql (.int .u8 (byteAt s k)) (.int .u8 95) = some (.bool false),
    (if 0 ≤ (k : Int) then ((ByteArray.data s).toList[Int.toNat k]?).map (fun b => (.int .u8 b.toNat : Value)) else none) = some (.int .u8 (byteAt s k)),
    binV .geq (.int .i64 k) (.int .i64 ((s).size : Int)) = some (.bool false),
    binV .lss (.int .i64 k) (.int .i64 0) = some (.bool false)]) (by kernel_rfl) ?_
  exact ⟨(Fx.gtr_f (by omega)),
    (Fx.gtr_f (by omega)),
    (Fx.gtr_f (by omega)),
    (Fx.eql_f (by omega)),
    (Fx.index (by omega) (by omega)),
    (Fx.geq_f (by omega)),
    (Fx.lss_f (by omega)),
    trivial⟩

/- 22 steps -/
set_option maxHeartbeats 4000000 in
theorem w33c1 (s : ByteArray) (k : Int) (h : AH) (h0 : 0 ≤ k) (h1 : k < s.size) (hb : 48 ≤ byteAt s k ∧ byteAt s k ≤ 57) : Ev Tryz.prog tbl 33 [(.string s), (.int .i64 k)] h ((.bool true), h) := by
  refine Ev.ofH (n := 200) (hs := [(2, (.q (.bool false))), (4, (.q (.bool false))), (3, (.q (.int .u8 (byteAt s k)))), (2, (.q (.bool false))), (2, (.q (.bool true))), (2, (.q (.bool true)))]) (cs := [binV .lss (.int .u8 (byteAt s k)) (.int .u8 58) = some (.bool true),
    binV .gtr (.int .u8 (byteAt s k)) (.int .u8 47) = some (.bool true),
    binV .eql (.int .u8 (byteAt s k)) (.int .u8 95) = some (.bool false),
    (if 0 ≤ (k : Int) then ((ByteArray.data s).toList[Int.toNat k]?).map (fun b => (.int .u8 b.toNat : Value)) else none) = some (.int .u8 (byteAt s k)),
    binV .geq (.int .i64 k) (.int .i64 ((s).size : Int)) = some (.bool false),
    binV .lss (.int .i64 k) (.int .i64 0) = some (.bool false)]) (by kernel_rfl) ?_
  exact ⟨(Fx.lss_t (by omega)),
    (Fx.gtr_t (by omega)),
    (Fx.eql_f (by omega)),
    (Fx.index (by omega) (by omega)),
    (Fx.geq_f (by omega)),
    (Fx.lss_f (by omega)),
    trivial⟩

/- 28 steps -/
set_option maxHeartbeats 4000000 in
theorem w33c2 (s : ByteArray) (k : Int) (h : AH) (h0 : 0 ≤ k) (h1 : k < s.size) (hb : 57 < byteAt s k ∧ byteAt s k < 65) : Ev Tryz.prog tbl 33 [(.string s), (.int .i64 k)] h ((.bool false), h) := by
  refine Ev.ofH (n := 200) (hs := [(2, (.q (.bool false))), (4, (.q (.bool false))), (3, (.q (.int .u8 (byteAt s k)))), (2, (.q (.bool false))), (2, (.q (.bool true))), (2, (.q (.bool false))), (4, (.q (.bool false))), (5, (.q (.bool false)))]) (cs := [binV .gtr (.int .u8 (byteAt s k)) (.int .u8 96) = some (.bool false),
    binV .gtr (.int .u8 (byteAt s k)) (.int .u8 64) = some (.bool false),
    binV .lss (.int .u8 (byteAt s k)) (.int .u8 58) = some (.bool false),
    binV .gtr (.int .u8 (byteAt s k)) (.int .u8 47) = some (.bool true),
    binV .eql (.int .u8 (byteAt s k)) (.int .u8 95) = some (.bool false),
    (if 0 ≤ (k : Int) then ((ByteArray.data s).toList[Int.toNat k]?).map (fun b => (.int .u8 b.toNat : Value)) else none) = some (.int .u8 (byteAt s k)),
    binV .geq (.int .i64 k) (.int .i64 ((s).size : Int)) = some (.bool false),
    binV .lss (.int .i64 k) (.int .i64 0) = some (.bool false)]) (by kernel_rfl) ?_
  exact ⟨(Fx.gtr_f (by omega)),
    (Fx.gtr_f (by omega)),
    (Fx.lss_f (by omega)),
    (Fx.gtr_t (by omega)),
    (Fx.eql_f (by omega)),
    (Fx.index (by omega) (by omega)),
    (Fx.geq_f (by omega)),
    (Fx.lss_f (by omega)),
    trivial⟩

/- 26 steps -/
set_option maxHeartbeats 4000000 in
theorem w33c3 (s : ByteArray) (k : Int) (h : AH) (h0 : 0 ≤ k) (h1 : k < s.size) (hb : 65 ≤ byteAt s k ∧ byteAt s k ≤ 90) : Ev Tryz.prog tbl 33 [(.string s), (.int .i64 k)] h ((.bool true), h) := by
  refine Ev.ofH (n := 200) (hs := [(2, (.q (.bool false))), (4, (.q (.bool false))), (3, (.q (.int .u8 (byteAt s k)))), (2, (.q (.bool false))), (2, (.q (.bool true))), (2, (.q (.bool false))), (4, (.q (.bool true))), (2, (.q (.bool true)))]) (cs := [binV .lss (.int .u8 (byteAt s k)) (.int .u8 91) = some (.bool true),
    binV .gtr (.int .u8 (byteAt s k)) (.int .u8 64) = some (.bool true),
    binV .lss (.int .u8 (byteAt s k)) (.int .u8 58) = some (.bool false),
    binV .gtr (.int .u8 (byteAt s k)) (.int .u8 47) = some (.bool true),
    binV .eql (.int .u8 (byteAt s k)) (.int .u8 95) = some (.bool false),
    (if 0 ≤ (k : Int) then ((ByteArray.data s).toList[Int.toNat k]?).map (fun b => (.int .u8 b.toNat : Value)) else none) = some (.int .u8 (byteAt s k)),
    binV .geq (.int .i64 k) (.int .i64 ((s).size : Int)) = some (.bool false),
    binV .lss (.int .i64 k) (.int .i64 0) = some (.bool false)]) (by kernel_rfl) ?_
  exact ⟨(Fx.lss_t (by omega)),
    (Fx.gtr_t (by omega)),
    (Fx.lss_f (by omega)),
    (Fx.gtr_t (by omega)),
    (Fx.eql_f (by omega)),
    (Fx.index (by omega) (by omega)),
    (Fx.geq_f (by omega)),
    (Fx.lss_f (by omega)),
    trivial⟩

/- 29 steps -/
set_option maxHeartbeats 4000000 in
theorem w33c4 (s : ByteArray) (k : Int) (h : AH) (h0 : 0 ≤ k) (h1 : k < s.size) (hb : 90 < byteAt s k ∧ byteAt s k < 95) : Ev Tryz.prog tbl 33 [(.string s), (.int .i64 k)] h ((.bool false), h) := by
  refine Ev.ofH (n := 200) (hs := [(2, (.q (.bool false))), (4, (.q (.bool false))), (3, (.q (.int .u8 (byteAt s k)))), (2, (.q (.bool false))), (2, (.q (.bool true))), (2, (.q (.bool false))), (4, (.q (.bool true))), (2, (.q (.bool false))), (4, (.q (.bool false)))]) (cs := [binV .gtr (.int .u8 (byteAt s k)) (.int .u8 96) = some (.bool false),
    binV .lss (.int .u8 (byteAt s k)) (.int .u8 91) = some (.bool false),
    binV .gtr (.int .u8 (byteAt s k)) (.int .u8 64) = some (.bool true),
    binV .lss (.int .u8 (byteAt s k)) (.int .u8 58) = some (.bool false),
    binV .gtr (.int .u8 (byteAt s k)) (.int .u8 47) = some (.bool true),
    binV .eql (.int .u8 (byteAt s k)) (.int .u8 95) = some (.bool false),
    (if 0 ≤ (k : Int) then ((ByteArray.data s).toList[Int.toNat k]?).map (fun b => (.int .u8 b.toNat : Value)) else none) = some (.int .u8 (byteAt s k)),
    binV .geq (.int .i64 k) (.int .i64 ((s).size : Int)) = some (.bool false),
    binV .lss (.int .i64 k) (.int .i64 0) = some (.bool false)]) (by kernel_rfl) ?_
  exact ⟨(Fx.gtr_f (by omega)),
    (Fx.lss_f (by omega)),
    (Fx.gtr_t (by omega)),
    (Fx.lss_f (by omega)),
    (Fx.gtr_t (by omega)),
    (Fx.eql_f (by omega)),
    (Fx.index (by omega) (by omega)),
    (Fx.geq_f (by omega)),
    (Fx.lss_f (by omega)),
    trivial⟩

/- 18 steps -/
set_option maxHeartbeats 4000000 in
theorem w33c5 (s : ByteArray) (k : Int) (h : AH) (h0 : 0 ≤ k) (h1 : k < s.size) (hb : byteAt s k = 95) : Ev Tryz.prog tbl 33 [(.string s), (.int .i64 k)] h ((.bool true), h) := by
  refine Ev.ofH (n := 200) (hs := [(2, (.q (.bool false))), (4, (.q (.bool false))), (3, (.q (.int .u8 (byteAt s k)))), (2, (.q (.bool true)))]) (cs := [binV .eql (.int .u8 (byteAt s k)) (.int .u8 95) = some (.bool true),
    (if 0 ≤ (k : Int) then ((ByteArray.data s).toList[Int.toNat k]?).map (fun b => (.int .u8 b.toNat : Value)) else none) = some (.int .u8 (byteAt s k)),
    binV .geq (.int .i64 k) (.int .i64 ((s).size : Int)) = some (.bool false),
    binV .lss (.int .i64 k) (.int .i64 0) = some (.bool false)]) (by kernel_rfl) ?_
  exact ⟨(Fx.eql_t (by omega)),
    (Fx.index (by omega) (by omega)),
    (Fx.geq_f (by omega)),
    (Fx.lss_f (by omega)),
    trivial⟩

/- 29 steps -/
set_option maxHeartbeats 4000000 in
theorem w33c6 (s : ByteArray) (k : Int) (h : AH) (h0 : 0 ≤ k) (h1 : k < s.size) (hb : byteAt s k = 96) : Ev Tryz.prog tbl 33 [(.string s), (.int .i64 k)] h ((.bool false), h) := by
  refine Ev.ofH (n := 200) (hs := [(2, (.q (.bool false))), (4, (.q (.bool false))), (3, (.q (.int .u8 (byteAt s k)))), (2, (.q (.bool false))), (2, (.q (.bool true))), (2, (.q (.bool false))), (4, (.q (.bool true))), (2, (.q (.bool false))), (4, (.q (.bool false)))]) (cs := [binV .gtr (.int .u8 (byteAt s k)) (.int .u8 96) = some (.bool false),
    binV .lss (.int .u8 (byteAt s k)) (.int .u8 91) = some (.bool false),
    binV .gtr (.int .u8 (byteAt s k)) (.int .u8 64) = some (.bool true),
    binV .lss (.int .u8 (byteAt s k)) (.int .u8 58) = some (.bool false),
    binV .gtr (.int .u8 (byteAt s k)) (.int .u8 47) = some (.bool true),
    binV .eql (.int .u8 (byteAt s k)) (.int .u8 95) = some (.bool false),
    (if 0 ≤ (k : Int) then ((ByteArray.data s).toList[Int.toNat k]?).map (fun b => (.int .u8 b.toNat : Value)) else none) = some (.int .u8 (byteAt s k)),
    binV .geq (.int .i64 k) (.int .i64 ((s).size : Int)) = some (.bool false),
    binV .lss (.int .i64 k) (.int .i64 0) = some (.bool false)]) (by kernel_rfl) ?_
  exact ⟨(Fx.gtr_f (by omega)),
    (Fx.lss_f (by omega)),
    (Fx.gtr_t (by omega)),
    (Fx.lss_f (by omega)),
    (Fx.gtr_t (by omega)),
    (Fx.eql_f (by omega)),
    (Fx.index (by omega) (by omega)),
    (Fx.geq_f (by omega)),
    (Fx.lss_f (by omega)),
    trivial⟩

/- 30 steps -/
set_option maxHeartbeats 4000000 in
theorem w33c7 (s : ByteArray) (k : Int) (h : AH) (h0 : 0 ≤ k) (h1 : k < s.size) (hb : 97 ≤ byteAt s k ∧ byteAt s k ≤ 122) : Ev Tryz.prog tbl 33 [(.string s), (.int .i64 k)] h ((.bool true), h) := by
  refine Ev.ofH (n := 200) (hs := [(2, (.q (.bool false))), (4, (.q (.bool false))), (3, (.q (.int .u8 (byteAt s k)))), (2, (.q (.bool false))), (2, (.q (.bool true))), (2, (.q (.bool false))), (4, (.q (.bool true))), (2, (.q (.bool false))), (4, (.q (.bool true))), (2, (.q (.bool true)))]) (cs := [binV .lss (.int .u8 (byteAt s k)) (.int .u8 123) = some (.bool true),
    binV .gtr (.int .u8 (byteAt s k)) (.int .u8 96) = some (.bool true),
    binV .lss (.int .u8 (byteAt s k)) (.int .u8 91) = some (.bool false),
    binV .gtr (.int .u8 (byteAt s k)) (.int .u8 64) = some (.bool true),
    binV .lss (.int .u8 (byteAt s k)) (.int .u8 58) = some (.bool false),
    binV .gtr (.int .u8 (byteAt s k)) (.int .u8 47) = some (.bool true),
    binV .eql (.int .u8 (byteAt s k)) (.int .u8 95) = some (.bool false),
    (if 0 ≤ (k : Int) then ((ByteArray.data s).toList[Int.toNat k]?).map (fun b => (.int .u8 b.toNat : Value)) else none) = some (.int .u8 (byteAt s k)),
    binV .geq (.int .i64 k) (.int .i64 ((s).size : Int)) = some (.bool false),
    binV .lss (.int .i64 k) (.int .i64 0) = some (.bool false)]) (by kernel_rfl) ?_
  exact ⟨(Fx.lss_t (by omega)),
    (Fx.gtr_t (by omega)),
    (Fx.lss_f (by omega)),
    (Fx.gtr_t (by omega)),
    (Fx.lss_f (by omega)),
    (Fx.gtr_t (by omega)),
    (Fx.eql_f (by omega)),
    (Fx.index (by omega) (by omega)),
    (Fx.geq_f (by omega)),
    (Fx.lss_f (by omega)),
    trivial⟩

/- 30 steps -/
set_option maxHeartbeats 4000000 in
theorem w33c8 (s : ByteArray) (k : Int) (h : AH) (h0 : 0 ≤ k) (h1 : k < s.size) (hb : 122 < byteAt s k) : Ev Tryz.prog tbl 33 [(.string s), (.int .i64 k)] h ((.bool false), h) := by
  refine Ev.ofH (n := 200) (hs := [(2, (.q (.bool false))), (4, (.q (.bool false))), (3, (.q (.int .u8 (byteAt s k)))), (2, (.q (.bool false))), (2, (.q (.bool true))), (2, (.q (.bool false))), (4, (.q (.bool true))), (2, (.q (.bool false))), (4, (.q (.bool true))), (2, (.q (.bool false)))]) (cs := [binV .lss (.int .u8 (byteAt s k)) (.int .u8 123) = some (.bool false),
    binV .gtr (.int .u8 (byteAt s k)) (.int .u8 96) = some (.bool true),
    binV .lss (.int .u8 (byteAt s k)) (.int .u8 91) = some (.bool false),
    binV .gtr (.int .u8 (byteAt s k)) (.int .u8 64) = some (.bool true),
    binV .lss (.int .u8 (byteAt s k)) (.int .u8 58) = some (.bool false),
    binV .gtr (.int .u8 (byteAt s k)) (.int .u8 47) = some (.bool true),
    binV .eql (.int .u8 (byteAt s k)) (.int .u8 95) = some (.bool false),
    (if 0 ≤ (k : Int) then ((ByteArray.data s).toList[Int.toNat k]?).map (fun b => (.int .u8 b.toNat : Value)) else none) = some (.int .u8 (byteAt s k)),
    binV .geq (.int .i64 k) (.int .i64 ((s).size : Int)) = some (.bool false),
    binV .lss (.int .i64 k) (.int .i64 0) = some (.bool false)]) (by kernel_rfl) ?_
  exact ⟨(Fx.lss_f (by omega)),
    (Fx.gtr_t (by omega)),
    (Fx.lss_f (by omega)),
    (Fx.gtr_t (by omega)),
    (Fx.lss_f (by omega)),
    (Fx.gtr_t (by omega)),
    (Fx.eql_f (by omega)),
    (Fx.index (by omega) (by omega)),
    (Fx.geq_f (by omega)),
    (Fx.lss_f (by omega)),
    trivial⟩

theorem e32 (s : ByteArray) (k : Int) (h : AH) : Ev Tryz.prog tbl 32 [.string s, .int .i64 k] h (.bool (wd s k), h) := by
  unfold wd
  by_cases h0 : k < 0
  · rw [if_pos h0]; exact w32a s k h h0
  by_cases h1 : (s.size : Int) ≤ k
  · rw [if_neg h0, if_pos h1]; exact w32b s k h (by omega) h1
  rw [if_neg h0, if_neg h1]
  rcases parts (byteAt s k) with p | p | p | p | p | p | p | p | p
  · rw [wb_f (by omega)]; exact w32c0 s k h (by omega) (by omega) p
  · rw [wb_t (by omega)]; exact w32c1 s k h (by omega) (by omega) p
  · rw [wb_f (by omega)]; exact w32c2 s k h (by omega) (by omega) p
  · rw [wb_t (by omega)]; exact w32c3 s k h (by omega) (by omega) p
  · rw [wb_f (by omega)]; exact w32c4 s k h (by omega) (by omega) p
  · rw [wb_t (by omega)]; exact w32c5 s k h (by omega) (by omega) p
  · rw [wb_f (by omega)]; exact w32c6 s k h (by omega) (by omega) p
  · rw [wb_t (by omega)]; exact w32c7 s k h (by omega) (by omega) p
  · rw [wb_f (by omega)]; exact w32c8 s k h (by omega) (by omega) p
theorem l32 (s : ByteArray) (k : Int) (h : AH) : lim Tryz.prog tbl 32 [.string s, .int .i64 k] h = some (.bool (wd s k), h) := lim_of (e32 s k h)
theorem c32 {s : ByteArray} {k : Int} {h : AH} {b : Bool} (e : wd s k = b) : lim Tryz.prog tbl 32 [.string s, .int .i64 k] h = some (.bool b, h) := by rw [l32, e]
theorem e33 (s : ByteArray) (k : Int) (h : AH) : Ev Tryz.prog tbl 33 [.string s, .int .i64 k] h (.bool (wd s k), h) := by
  unfold wd
  by_cases h0 : k < 0
  · rw [if_pos h0]; exact w33a s k h h0
  by_cases h1 : (s.size : Int) ≤ k
  · rw [if_neg h0, if_pos h1]; exact w33b s k h (by omega) h1
  rw [if_neg h0, if_neg h1]
  rcases parts (byteAt s k) with p | p | p | p | p | p | p | p | p
  · rw [wb_f (by omega)]; exact w33c0 s k h (by omega) (by omega) p
  · rw [wb_t (by omega)]; exact w33c1 s k h (by omega) (by omega) p
  · rw [wb_f (by omega)]; exact w33c2 s k h (by omega) (by omega) p
  · rw [wb_t (by omega)]; exact w33c3 s k h (by omega) (by omega) p
  · rw [wb_f (by omega)]; exact w33c4 s k h (by omega) (by omega) p
  · rw [wb_t (by omega)]; exact w33c5 s k h (by omega) (by omega) p
  · rw [wb_f (by omega)]; exact w33c6 s k h (by omega) (by omega) p
  · rw [wb_t (by omega)]; exact w33c7 s k h (by omega) (by omega) p
  · rw [wb_f (by omega)]; exact w33c8 s k h (by omega) (by omega) p
theorem l33 (s : ByteArray) (k : Int) (h : AH) : lim Tryz.prog tbl 33 [.string s, .int .i64 k] h = some (.bool (wd s k), h) := lim_of (e33 s k h)
theorem c33 {s : ByteArray} {k : Int} {h : AH} {b : Bool} (e : wd s k = b) : lim Tryz.prog tbl 33 [.string s, .int .i64 k] h = some (.bool b, h) := by rw [l33, e]
end Go.Am.Zd
