import Derived.Test.YtikphefllmemjaaGreatZs4
import Derived.Test.YtikphefllmemjaaGreatZs5a
import Derived.Test.YtikphefllmemjaaGreatZs5b
import Derived.Test.YtikphefllmemjaaGreatZs5d
/-
PikeStars: the law's own function (its runs printed by wip/z/JobL.lean).
-/
namespace Go.Am.Zt
open Go Go.Am Go.Proofs
set_option linter.unusedVariables false
set_option maxRecDepth 100000

theorem con8 : Con Tryz.prog 8 [] (mkH 4096 []) (.bool true) (mkH 4096 []) := by
  refine Con.ofSX ok (fn := f8) rfl (by kernel_rfl) (by kernel_rfl) (by kernel_rfl) (by kernel_rfl) (by decide) (by decide) ?_
  have hx : SX Tryz.prog 4096 f8.body (S0 fun _ => undef) (fun e st => (e = .normal ∨ e = .ret) ∧ st.ds = [] ∧ (resVs st.h st.tmps f8.results).map packV = some (.bool true) ∧ st.h = mkH 4096 []) := by
    refine SX.next sp0 (SX.next sp1 (SX.next sp2 (SX.next sp3 ?_))) _
    intro j
    refine SX.mono (sp4 j) ?_
    rintro e st ⟨rfl, j, rfl⟩
    exact ⟨.inr rfl, rfl, by kernel_rfl, by kernel_rfl⟩
  exact hx
def flags : Value := .agg ⟨[.bool false, .bool false, .bool false, .bool false]⟩
def l1 : List (Nat × VObj) := [(4096, (.cells [(.slice (some ⟨4097, 0, none⟩) 6 6), (.int .i64 1)] 30 none 0)), (4097, pr1)]
def l1z : List (Nat × VObj) := [(4096, (.cells [(.slice (some ⟨4097, 0, none⟩) 6 6), (.int .i64 1)] 30 none 0)), (4097, pr1z)]
noncomputable def T1 : Tbl := Tbl.with1 Tryz.prog tbl 8 [] (mkH 4096 []) (.bool true, mkH 4096 [])
theorem T1_ok : TblOk Tryz.prog T1 := with1_ok ok mixed con8 (mkH_hn (by kernel_rfl) (by decide))
/-- n letters a and m letters b, by numbers -/
def Ht (s : ByteArray) (n m : Int) : Prop := ∃ a b : Nat, n = a ∧ m = b ∧ 0 < b ∧ Txt s a b
def Hte (s : ByteArray) (n m : Int) : Prop := ∃ a b : Nat, n = a ∧ m = b ∧ b = 0 ∧ Txt s a b

def a1 (s : ByteArray) : List Value := [.string ⟨⟨[97, 42]⟩⟩, flags, .int .i64 (s.size : Int)]
def a2 (s : ByteArray) : List Value := [.string ⟨⟨[97, 42, 98, 43]⟩⟩, flags, .int .i64 (s.size : Int)]
theorem con9 {s : ByteArray} (hs : (s.size : Int) ≤ 510) : Con Tryz.prog 9 (a1 s) (mkH 4096 []) (.pointer (some ⟨4096, 0, none⟩)) (mkH 4098 l1) := by
  refine Con.ofSX ok (fn := f9) rfl (by kernel_rfl) (by kernel_rfl) (by kernel_rfl) (by kernel_rfl) (by decide) (by decide) ?_
  refine SX.mono (m1 s.size (by omega) hs fun _ => undef) ?_
  rintro e st ⟨rfl, j, rfl⟩
  exact ⟨.inr rfl, rfl, by kernel_rfl, by kernel_rfl⟩
theorem con9b {s : ByteArray} (hs : (s.size : Int) ≤ 510) : Con Tryz.prog 9 (a2 s) (mkH 4098 l1) (.pointer (some ⟨4098, 0, none⟩)) (mkH 4100 l2) := by
  refine Con.ofSX ok (fn := f9) rfl (by kernel_rfl) (by kernel_rfl) (by kernel_rfl) (by kernel_rfl) (by decide) (by decide) ?_
  refine SX.mono (m2 s.size (by omega) hs fun _ => undef) ?_
  rintro e st ⟨rfl, j, rfl⟩
  exact ⟨.inr rfl, rfl, by kernel_rfl, by kernel_rfl⟩
noncomputable def T2i (s : ByteArray) : Tbl := Tbl.with1 Tryz.prog tbl 9 (a1 s) (mkH 4096 []) (.pointer (some ⟨4096, 0, none⟩), mkH 4098 l1)
noncomputable def T2 (s : ByteArray) : Tbl := Tbl.with1 Tryz.prog (T2i s) 9 (a2 s) (mkH 4098 l1) (.pointer (some ⟨4098, 0, none⟩), mkH 4100 l2)
theorem T2_ok {s : ByteArray} (hs : (s.size : Int) ≤ 510) : TblOk Tryz.prog (T2 s) :=
  with1_ok (with1_ok ok mixed (con9 hs) (mkH_hn (by kernel_rfl) (by decide))) mixed (con9b hs) (mkH_hn (by kernel_rfl) (by decide))
theorem made1 (s : ByteArray) : lim Tryz.prog (T2 s) 9 (a1 s) (mkH 4096 []) = some (.pointer (some ⟨4096, 0, none⟩), mkH 4098 l1) :=
  with1_other (by rintro ⟨h, _⟩; simp [a1, a2] at h) with1_at
theorem made2 (s : ByteArray) : lim Tryz.prog (T2 s) 9 (a2 s) (mkH 4098 l1) = some (.pointer (some ⟨4098, 0, none⟩), mkH 4100 l2) := with1_at

def b1 (s : ByteArray) : List Value := [prog1, .string s, .int .i64 0, .bool true]
def b2 (s : ByteArray) : List Value := [prog2, .string s, .int .i64 0, .bool true]
noncomputable def T3i (s : ByteArray) (n : Int) : Tbl := Tbl.with1 Tryz.prog tbl 10 (b1 s) (mkH 4100 l2) (.slice (some ⟨4100, 0, none⟩) 2 2, mkH 4101 (l2 ++ [(4100, notes n)]))
noncomputable def T3 (s : ByteArray) (n : Int) : Tbl := Tbl.with1 Tryz.prog (T3i s n) 10 (b2 s) (mkH 4101 (l2 ++ [(4100, notes n)])) (.slice (some ⟨4101, 0, none⟩) 2 2, mkH 4102 (l2 ++ [(4100, notes n), (4101, notes s.size)]))
noncomputable def T3e (s : ByteArray) (n : Int) : Tbl := Tbl.with1 Tryz.prog (T3i s n) 10 (b2 s) (mkH 4101 (l2 ++ [(4100, notes n)])) (.slice none 0 0, mkH 4101 (l2 ++ [(4100, notes n)]))
theorem T3_ok (s : ByteArray) (n m : Int) (h : Ht s n m) : TblOk Tryz.prog (T3 s n) := by
  obtain ⟨a, b, rfl, rfl, hb, ht⟩ := h
  exact with1_ok (with1_ok ok mixed (runA ht) (mkH_hn (by kernel_rfl) (by decide))) mixed (runB ht _ hb) (mkH_hn (by kernel_rfl) (by decide))
theorem T3e_ok (s : ByteArray) (n m : Int) (h : Hte s n m) : TblOk Tryz.prog (T3e s n) := by
  obtain ⟨a, b, rfl, rfl, hb, ht⟩ := h
  exact with1_ok (with1_ok ok mixed (runA ht) (mkH_hn (by kernel_rfl) (by decide))) mixed (runB_n ht _ hb) (mkH_hn (by kernel_rfl) (by decide))
theorem b12 {s : ByteArray} {h h' : AH} : ¬ (b1 s = b2 s ∧ h = h') := by
  rintro ⟨h, _⟩
  simp [b1, b2, prog1, prog2] at h
theorem ran1 (s : ByteArray) (n : Int) : lim Tryz.prog (T3 s n) 10 (b1 s) (mkH 4100 l2) = some (.slice (some ⟨4100, 0, none⟩) 2 2, mkH 4101 (l2 ++ [(4100, notes n)])) := with1_other b12 with1_at
theorem ran2 (s : ByteArray) (n : Int) : lim Tryz.prog (T3 s n) 10 (b2 s) (mkH 4101 (l2 ++ [(4100, notes n)])) = some (.slice (some ⟨4101, 0, none⟩) 2 2, mkH 4102 (l2 ++ [(4100, notes n), (4101, notes s.size)])) := with1_at
theorem ran1e (s : ByteArray) (n : Int) : lim Tryz.prog (T3e s n) 10 (b1 s) (mkH 4100 l2) = some (.slice (some ⟨4100, 0, none⟩) 2 2, mkH 4101 (l2 ++ [(4100, notes n)])) := with1_other b12 with1_at
theorem ran2e (s : ByteArray) (n : Int) : lim Tryz.prog (T3e s n) 10 (b2 s) (mkH 4101 (l2 ++ [(4100, notes n)])) = some (.slice none 0 0, mkH 4101 (l2 ++ [(4100, notes n)])) := with1_at

def a1z (s : ByteArray) : List Value := [.string ⟨⟨[97, 42, 63]⟩⟩, flags, .int .i64 (s.size : Int)]
def a2z (s : ByteArray) : List Value := [.string ⟨⟨[97, 42, 63, 98, 43]⟩⟩, flags, .int .i64 (s.size : Int)]
theorem con9z {s : ByteArray} (hs : (s.size : Int) ≤ 510) : Con Tryz.prog 9 (a1z s) (mkH 4096 []) (.pointer (some ⟨4096, 0, none⟩)) (mkH 4098 l1z) := by
  refine Con.ofSX ok (fn := f9) rfl (by kernel_rfl) (by kernel_rfl) (by kernel_rfl) (by kernel_rfl) (by decide) (by decide) ?_
  refine SX.mono (m1z s.size (by omega) hs fun _ => undef) ?_
  rintro e st ⟨rfl, j, rfl⟩
  exact ⟨.inr rfl, rfl, by kernel_rfl, by kernel_rfl⟩
theorem con9bz {s : ByteArray} (hs : (s.size : Int) ≤ 510) : Con Tryz.prog 9 (a2z s) (mkH 4098 l1z) (.pointer (some ⟨4098, 0, none⟩)) (mkH 4100 l2z) := by
  refine Con.ofSX ok (fn := f9) rfl (by kernel_rfl) (by kernel_rfl) (by kernel_rfl) (by kernel_rfl) (by decide) (by decide) ?_
  refine SX.mono (m2z s.size (by omega) hs fun _ => undef) ?_
  rintro e st ⟨rfl, j, rfl⟩
  exact ⟨.inr rfl, rfl, by kernel_rfl, by kernel_rfl⟩
noncomputable def T2iz (s : ByteArray) : Tbl := Tbl.with1 Tryz.prog tbl 9 (a1z s) (mkH 4096 []) (.pointer (some ⟨4096, 0, none⟩), mkH 4098 l1z)
noncomputable def T2z (s : ByteArray) : Tbl := Tbl.with1 Tryz.prog (T2iz s) 9 (a2z s) (mkH 4098 l1z) (.pointer (some ⟨4098, 0, none⟩), mkH 4100 l2z)
theorem T2z_ok {s : ByteArray} (hs : (s.size : Int) ≤ 510) : TblOk Tryz.prog (T2z s) :=
  with1_ok (with1_ok ok mixed (con9z hs) (mkH_hn (by kernel_rfl) (by decide))) mixed (con9bz hs) (mkH_hn (by kernel_rfl) (by decide))
theorem made1z (s : ByteArray) : lim Tryz.prog (T2z s) 9 (a1z s) (mkH 4096 []) = some (.pointer (some ⟨4096, 0, none⟩), mkH 4098 l1z) :=
  with1_other (by rintro ⟨h, _⟩; simp [a1z, a2z] at h) with1_at
theorem made2z (s : ByteArray) : lim Tryz.prog (T2z s) 9 (a2z s) (mkH 4098 l1z) = some (.pointer (some ⟨4098, 0, none⟩), mkH 4100 l2z) := with1_at

noncomputable def T3iz (s : ByteArray) (n : Int) : Tbl := Tbl.with1 Tryz.prog tbl 10 (b1 s) (mkH 4100 l2z) (.slice (some ⟨4100, 0, none⟩) 2 2, mkH 4101 (l2z ++ [(4100, notes 0)]))
noncomputable def T3z (s : ByteArray) (n : Int) : Tbl := Tbl.with1 Tryz.prog (T3iz s n) 10 (b2 s) (mkH 4101 (l2z ++ [(4100, notes 0)])) (.slice (some ⟨4101, 0, none⟩) 2 2, mkH 4102 (l2z ++ [(4100, notes 0), (4101, notes s.size)]))
noncomputable def T3ze (s : ByteArray) (n : Int) : Tbl := Tbl.with1 Tryz.prog (T3iz s n) 10 (b2 s) (mkH 4101 (l2z ++ [(4100, notes 0)])) (.slice none 0 0, mkH 4101 (l2z ++ [(4100, notes 0)]))
theorem T3z_ok (s : ByteArray) (n m : Int) (h : Ht s n m) : TblOk Tryz.prog (T3z s n) := by
  obtain ⟨a, b, rfl, rfl, hb, ht⟩ := h
  exact with1_ok (with1_ok ok mixed (runAz ht) (mkH_hn (by kernel_rfl) (by decide))) mixed (runBz ht _ hb) (mkH_hn (by kernel_rfl) (by decide))
theorem T3ze_ok (s : ByteArray) (n m : Int) (h : Hte s n m) : TblOk Tryz.prog (T3ze s n) := by
  obtain ⟨a, b, rfl, rfl, hb, ht⟩ := h
  exact with1_ok (with1_ok ok mixed (runAz ht) (mkH_hn (by kernel_rfl) (by decide))) mixed (runBz_n ht _ hb) (mkH_hn (by kernel_rfl) (by decide))
theorem ran1z (s : ByteArray) (n : Int) : lim Tryz.prog (T3z s n) 10 (b1 s) (mkH 4100 l2z) = some (.slice (some ⟨4100, 0, none⟩) 2 2, mkH 4101 (l2z ++ [(4100, notes 0)])) := with1_other b12 with1_at
theorem ran2z (s : ByteArray) (n : Int) : lim Tryz.prog (T3z s n) 10 (b2 s) (mkH 4101 (l2z ++ [(4100, notes 0)])) = some (.slice (some ⟨4101, 0, none⟩) 2 2, mkH 4102 (l2z ++ [(4100, notes 0), (4101, notes s.size)])) := with1_at
theorem ran1ze (s : ByteArray) (n : Int) : lim Tryz.prog (T3ze s n) 10 (b1 s) (mkH 4100 l2z) = some (.slice (some ⟨4100, 0, none⟩) 2 2, mkH 4101 (l2z ++ [(4100, notes 0)])) := with1_other b12 with1_at
theorem ran2ze (s : ByteArray) (n : Int) : lim Tryz.prog (T3ze s n) 10 (b2 s) (mkH 4101 (l2z ++ [(4100, notes 0)])) = some (.slice none 0 0, mkH 4101 (l2z ++ [(4100, notes 0)])) := with1_at
end Go.Am.Zt
