import Derived.Test.YtikphefllmemjaaGreatDoorZe8
import Derived.Test.YtikphefllmemjaaGreatDoorZe5
import Derived.Test.YtikphefllmemjaaGreatDoorZe4
import Derived.Test.YtikphefllmemjaaGreatDoorZe6a
import Derived.Test.YtikphefllmemjaaGreatDoorZe6b
import Derived.Test.YtikphefllmemjaaGreatDoorZe6c
import Derived.Test.YtikphefllmemjaaGreatDoorZe6g
/-
ProgWords: what Parse answers to a word of letters, and Compile to its row.
-/
namespace Go.Am.Zd
open Go Go.Am Go.Proofs
set_option maxRecDepth 100000
set_option linter.unusedVariables false
set_option linter.unusedSectionVars false
noncomputable def a19 (w : ByteArray) (R : List Value) : List Value := [(.string w), (vI 1), vT]
noncomputable def v19 (R : List Value) (A : List Value) (Q : List Value) (m : Nat) : Value := (.tuple ⟨[(.agg ⟨[(vI 1), (vS 4101 m m), (vS 4102 (m + 1) (m + 1)), (vI 0)]⟩), (.agg ⟨[(vI 0), (vI 0)]⟩)]⟩)
noncomputable def a38 (R : List Value) (A : List Value) (Q : List Value) (k : Nat) : List Value := [(vP 4097)]
noncomputable def v38 (F : Nat → Option VObj) (R : List Value) (A : List Value) (Q : List Value) (L : List Value) (k : Nat) (m : Nat) (i : Int) : Value := (.agg ⟨(nC 8 (vS 4105 m m))⟩)
noncomputable def a21 (R : List Value) (A : List Value) (Q : List Value) (k : Nat) : List Value := [(vP 4097)]
noncomputable def v21 (F : Nat → Option VObj) (R : List Value) (A : List Value) (Q : List Value) (L : List Value) (k : Nat) (m : Nat) (i : Int) : Value := (.agg ⟨(nC 8 (vS 4104 m m))⟩)
noncomputable def a8 (w : ByteArray) (R : List Value) : List Value := [(.string w), (.agg ⟨[vF, vF, vF, vF]⟩)]
noncomputable def v8 (F : Nat → Option VObj) (R : List Value) (L : List Value) (m : Nat) : Value := (.tuple ⟨[(.agg ⟨(nB 8 (vS 4098 m m) (vS 4099 1 1))⟩), (.agg ⟨[(vI 0), (vI 0)]⟩)]⟩)
noncomputable def a41 (G : Nat → Option VObj) (R : List Value) (L : List Value) (m : Nat) : List Value := [(.agg ⟨(nC 8 (vS 4098 m m))⟩)]
noncomputable def v41 (G : Nat → Option VObj) (R : List Value) (L : List Value) (m : Nat) (s : Int) : Value := (vI s)
noncomputable def a70 (G : Nat → Option VObj) (R : List Value) (L : List Value) (M : List Value) (m : Nat) (n : Nat) : List Value := [(vS 4105 m m), (vI 8)]
noncomputable def v70 (G : Nat → Option VObj) (R : List Value) (L : List Value) (M : List Value) (N : List Value) (m : Nat) (n : Nat) : Value := (vS 4109 m m)
noncomputable def a68 (G : Nat → Option VObj) (R : List Value) (L : List Value) (M : List Value) (m : Nat) (n : Nat) : List Value := [(vS 4105 m m)]
noncomputable def v68 (G : Nat → Option VObj) (R : List Value) (L : List Value) (M : List Value) (C : List Value) (m : Nat) (n : Nat) : Value := (.agg ⟨(nC 8 (vS 4109 m m))⟩)
noncomputable def a24 (G : Nat → Option VObj) (R : List Value) (L : List Value) (C : List Value) (m : Nat) (n : Nat) : List Value := [(vP 4101), (.agg ⟨(nC 8 (vS 4104 m m))⟩)]
noncomputable def v24 (G : Nat → Option VObj) (R : List Value) (L : List Value) (C : List Value) (D : List Value) (m : Nat) (n : Nat) (d : Nat) : Value := undef
noncomputable def a42 (G : Nat → Option VObj) (R : List Value) (L : List Value) (m : Nat) : List Value := [(.agg ⟨(nC 8 (vS 4098 m m))⟩)]
noncomputable def v42 (G : Nat → Option VObj) (R : List Value) (L : List Value) (C : List Value) (m : Nat) (n : Nat) : Value := (.agg ⟨(nC 8 (vS 4106 m m))⟩)
noncomputable def a22 (G : Nat → Option VObj) (R : List Value) (L : List Value) (m : Nat) : List Value := [(.agg ⟨(nC 8 (vS 4098 m m))⟩)]
noncomputable def v22 (G : Nat → Option VObj) (R : List Value) (L : List Value) (C : List Value) (m : Nat) (n : Nat) : Value := (.tuple ⟨[(.agg ⟨(nC 8 (vS 4104 m m))⟩), (vI 0)]⟩)
noncomputable def a9 (G : Nat → Option VObj) (R : List Value) (L : List Value) (m : Nat) : List Value := [(.agg ⟨(nB 8 (vS 4098 m m) (vS 4099 1 1))⟩)]
noncomputable def v9 (G : Nat → Option VObj) (R : List Value) (L : List Value) (D : List Value) (m : Nat) (n : Nat) (d : Nat) : Value := (.tuple ⟨[(.agg ⟨[(vS 4102 d d), (vI 1)]⟩), (vI 0)]⟩)

theorem SX.blockE {P : Program} {K id i : Nat} {x : ICode} {st : St} {A : (Nat → Value) → St} (hne : i ≠ id) (h : SX P K x st (To (.exit i) A)) : SX P K (.block id x) st (To (.exit i) A) :=
  SX.block h (fun e st h => by
    obtain ⟨rfl, h⟩ := h
    refine ⟨?_, h⟩
    show (if i = id then IEx.normal else .exit i) = .exit i
    rw [if_neg hne])
theorem SX.blockX' {P : Program} {K id : Nat} {x : ICode} {st : St} {A : (Nat → Value) → St} (h : SX P K x st (To (.exit id) A)) : SX P K (.block id x) st (To .normal A) :=
  SX.block h (fun e st h => by
    obtain ⟨rfl, h⟩ := h
    refine ⟨?_, h⟩
    show (if id = id then IEx.normal else .exit id) = .normal
    rw [if_pos rfl])
theorem SX.blockR {P : Program} {K id : Nat} {x : ICode} {st : St} {A : (Nat → Value) → St} (h : SX P K x st (To .ret A)) : SX P K (.block id x) st (To .ret A) :=
  SX.block h (fun e st h => by obtain ⟨rfl, h⟩ := h; exact ⟨rfl, h⟩)
theorem SX.blockN {P : Program} {K id : Nat} {x : ICode} {st : St} {A : (Nat → Value) → St} (h : SX P K x st (To .normal A)) : SX P K (.block id x) st (To .normal A) :=
  SX.block h (fun e st h => by obtain ⟨rfl, h⟩ := h; exact ⟨rfl, h⟩)
theorem SX.loop1 {P : Program} {K : Nat} {x : ICode} {st : St} {e : IEx} {A : (Nat → Value) → St} (hne : e ≠ .normal) (h : SX P K x st (To e A)) : SX P K (.loop x) st (To e A) :=
  SX.ofR (SXR.last h (fun e' st h1 => ⟨by rw [h1.1]; exact hne, h1⟩))

/-- the letters, by number -/
def letr (w : ByteArray) (k : Nat) : Int := lc w (k : Int)
/-- at the head of the row's loop, behind so many rounds -/
noncomputable def HR (w : ByteArray) (R Q : List Value) : Nat → (Nat → Value) → St
  | 0 => B03 R (runes w w.size) Q w.size
  | i + 1 => BB (famOf (letr w) (i + 1)) R (runes w w.size) Q (nrow id (i + 1)) w.size (i + 1) ((i + 1 : Nat) : Int)

theorem id_st (n : Nat) : AllSt (famD 0 n) (nrow id n) := nrow_st (fun k hk => hk)

section
variable {w : ByteArray} {R Q : List Value} (hL : LW w) (hR : AllInt R) (hw : w.size ≤ 1000) (h2 : 2 ≤ w.size) (hQ : AllInt Q) (lQ : Q.length = (w.size + 1) * 1)
include hL hR hw h2 hQ lQ

theorem rune_at {i : Nat} (hi : i < w.size) : (runes w w.size)[i]? = some (.int .i64 (letr w i)) := ci_get _ hi
theorem letr_ok {i : Nat} (hi : i < w.size) : 97 ≤ letr w i ∧ letr w i ≤ 122 := by
  have := hL (i : Int) (by omega) (by omega)
  rw [← lc_eq (by omega) (by omega)] at this
  exact this

theorem hr_round (i : Nat) (hi : i < w.size) (j : Nat → Value) : SX Tryz.prog 4104 bBody (HR w R Q i j) (To .normal (HR w R Q (i + 1))) := by
  have hA : AllInt (runes w w.size) := ci_int _ _
  have lA : (runes w w.size).length = w.size * 1 := ci_len _ _
  cases i with
  | zero => exact SX.toMono (bF R _ Q w.size hR hA hQ lA lQ h2 hw (letr w 0) (letr_ok hL hR hw h2 hQ lQ hi) (rune_at hL hR hw h2 hQ lQ hi) j) (fun j => rfl)
  | succ i =>
    refine SX.toMono (bR R _ Q w.size hR hA hQ lA lQ h2 hw (nrow id (i + 1)) (i + 1) ((i + 1 : Nat) : Int) (letr w (i + 1)) (famOf (letr w) (i + 1)) (AllSt.up (id_st _)) (nrow_len _ _) (by omega) (by omega) (by omega) (lt_OFF (by omega)) (FamK.up (fam_K _ _)) (letr_ok hL hR hw h2 hQ lQ hi) ?_ ?_ j) (fun j => rfl)
    · rw [show 0 + Int.toNat (((i + 1 : Nat) : Int) + 0) * 1 = i + 1 by omega]; exact rune_at hL hR hw h2 hQ lQ hi
    · rw [show 0 + Int.toNat ((i + 1 : Nat) : Int) * 1 = i + 1 by omega]; exact rune_at hL hR hw h2 hQ lQ hi

theorem row_all (j : Nat → Value) : SX Tryz.prog 4104 f38.body (B00 R (runes w w.size) Q w.size j) (To .ret (BX (famOf (letr w) w.size) R (runes w w.size) Q (nrow id w.size) w.size w.size (w.size : Int))) := by
  have hA : AllInt (runes w w.size) := ci_int _ _
  have lA : (runes w w.size).length = w.size * 1 := ci_len _ _
  obtain ⟨k, hk⟩ : ∃ k, w.size = k + 1 := ⟨w.size - 1, by omega⟩
  have hx : ∀ j, SX Tryz.prog 4104 bBody (HR w R Q w.size j) (To .ret (BX (famOf (letr w) w.size) R (runes w w.size) Q (nrow id w.size) w.size w.size (w.size : Int))) := fun j => by
    have e : HR w R Q w.size j = BB (famOf (letr w) w.size) R (runes w w.size) Q (nrow id w.size) w.size w.size (w.size : Int) j := by
      have : ∀ n, n = k + 1 → HR w R Q n j = BB (famOf (letr w) n) R (runes w w.size) Q (nrow id n) w.size n (n : Int) j := fun n hn => by subst hn; rfl
      exact this _ hk
    rw [e]
    exact bX R _ Q w.size hR hA hQ lA lQ h2 hw _ w.size (w.size : Int) _ (AllSt.up (id_st _)) (nrow_len _ _) (by omega) (by omega) (by omega) (by omega) (by omega) (lt_OFF (by omega)) (FamK.up (fam_K _ _)) j
  refine SX.next (b00 w R _ Q w.size rfl hR hA hQ lA lQ h2 hw j) fun j => SX.next (b01 w R _ Q w.size rfl hR hA hQ lA lQ h2 hw j) fun j => SX.next (b02 w R _ Q w.size rfl hR hA hQ lA lQ h2 hw j) fun j => ?_
  exact SX.rangeRet (HR w R Q) w.size (hr_round hL hR hw h2 hQ lQ) hx j

theorem con_row : Con Tryz.prog 38 (a38 R (runes w w.size) Q w.size) (B00 R (runes w w.size) Q w.size (fun _ => undef)).h (v38 (famOf (letr w) w.size) R (runes w w.size) Q (nrow id w.size) w.size w.size (w.size : Int))
    (BX (famOf (letr w) w.size) R (runes w w.size) Q (nrow id w.size) w.size w.size (w.size : Int) (fun _ => undef)).h :=
  con38 (w := w) (i := (w.size : Int)) hR (ci_int (fun k => lc w (k : Int)) w.size) hQ (id_st w.size) (Nat.le_of_lt (lt_OFF (by omega))) (fam_K (letr w) w.size)
    (g_B00 (w := w) (L := nrow id w.size) (m := w.size) (i := 0) (F := famOf (letr w) w.size) hR (ci_int _ _) hQ (id_st w.size) (Nat.le_of_lt (lt_OFF (by omega))) (fam_K (letr w) w.size) _)
    (g_BX (w := w) hR (ci_int _ _) hQ (id_st w.size) (Nat.le_of_lt (lt_OFF (by omega))) (fam_K (letr w) w.size) _) (row_all hL hR hw h2 hQ lQ _)
theorem good_row : HN (B00 R (runes w w.size) Q w.size (fun _ => undef)).h (BX (famOf (letr w) w.size) R (runes w w.size) Q (nrow id w.size) w.size w.size (w.size : Int) (fun _ => undef)).h :=
  good_hn (g_BX (w := w) hR (ci_int _ _) hQ (id_st w.size) (Nat.le_of_lt (lt_OFF (by omega))) (fam_K (letr w) w.size) _) ⟨Nat.le_of_ble_eq_true (by kernel_rfl), Nat.zero_le _⟩

/-- the table in which 'row' is answered -/
noncomputable def T38 (w : ByteArray) (R Q : List Value) : Tbl := tbl.with1 Tryz.prog 38 (a38 R (runes w w.size) Q w.size) (B00 R (runes w w.size) Q w.size (fun _ => undef)).h
  (v38 (famOf (letr w) w.size) R (runes w w.size) Q (nrow id w.size) w.size w.size (w.size : Int), (BX (famOf (letr w) w.size) R (runes w w.size) Q (nrow id w.size) w.size w.size (w.size : Int) (fun _ => undef)).h)

theorem alt_all (j : Nat → Value) : SX Tryz.prog 4103 f21.body (A0 R (runes w w.size) Q w.size j) (To .ret (A5 (famOf (letr w) w.size) R (runes w w.size) Q (nrow id w.size) w.size w.size (w.size : Int))) := by
  have hA : AllInt (runes w w.size) := ci_int _ _
  have lA : (runes w w.size).length = w.size * 1 := ci_len _ _
  have ok38 : TblOk Tryz.prog (T38 w R Q) := with1_ok ok mixed (con_row hL hR hw h2 hQ lQ) (good_row hL hR hw h2 hQ lQ)
  refine SX.next (a0 w R _ Q w.size rfl hR hA hQ lA lQ h2 hw j) fun j => SX.next (a1 w R _ Q w.size rfl hR hA hQ lA lQ h2 hw j) fun j => ?_
  refine SX.next (A := A4 (famOf (letr w) w.size) R (runes w w.size) Q (nrow id w.size) w.size w.size (w.size : Int)) (SX.blockX' (SX.loop1 (by simp) (SX.blockE (by decide) ?_))) fun j => ?_
  · refine SX.next (a2 (T38 w R Q) ok38 w R _ Q w.size rfl hR hA hQ lA lQ h2 hw (nrow id w.size) w.size (w.size : Int) (famOf (letr w) w.size) (AllSt.up (id_st _)) (nrow_len _ _) h2 hw (by omega) (by omega) (by omega) (lt_OFF (by omega)) (FamK.up (fam_K _ _)) with1_at j) fun j => ?_
    exact a3 w R _ Q w.size rfl hR hA hQ lA lQ h2 hw (nrow id w.size) w.size (w.size : Int) (famOf (letr w) w.size) (AllSt.up (id_st _)) (nrow_len _ _) h2 hw (by omega) (by omega) (by omega) (lt_OFF (by omega)) (FamK.up (fam_K _ _)) j
  · exact a4 w R _ Q w.size rfl hR hA hQ lA lQ h2 hw (nrow id w.size) w.size (w.size : Int) (famOf (letr w) w.size) (AllSt.up (id_st _)) (nrow_len _ _) h2 hw (by omega) (by omega) (by omega) (lt_OFF (by omega)) (FamK.up (fam_K _ _)) j

theorem con_alt : Con Tryz.prog 21 (a21 R (runes w w.size) Q w.size) (A0 R (runes w w.size) Q w.size (fun _ => undef)).h (v21 (famOf (letr w) w.size) R (runes w w.size) Q (nrow id w.size) w.size w.size (w.size : Int))
    (A5 (famOf (letr w) w.size) R (runes w w.size) Q (nrow id w.size) w.size w.size (w.size : Int) (fun _ => undef)).h :=
  con21 (w := w) (i := (w.size : Int)) hR (ci_int (fun k => lc w (k : Int)) w.size) hQ (id_st w.size) (Nat.le_of_lt (lt_OFF (by omega))) (fam_K (letr w) w.size)
    (g_A0 (w := w) (L := nrow id w.size) (m := w.size) (i := 0) (F := famOf (letr w) w.size) hR (ci_int _ _) hQ (id_st w.size) (Nat.le_of_lt (lt_OFF (by omega))) (fam_K (letr w) w.size) _)
    (g_A5 (w := w) hR (ci_int _ _) hQ (id_st w.size) (Nat.le_of_lt (lt_OFF (by omega))) (fam_K (letr w) w.size) _) (alt_all hL hR hw h2 hQ lQ _)
theorem good_alt : HN (A0 R (runes w w.size) Q w.size (fun _ => undef)).h (A5 (famOf (letr w) w.size) R (runes w w.size) Q (nrow id w.size) w.size w.size (w.size : Int) (fun _ => undef)).h :=
  good_hn (g_A5 (w := w) hR (ci_int _ _) hQ (id_st w.size) (Nat.le_of_lt (lt_OFF (by omega))) (fam_K (letr w) w.size) _) ⟨Nat.le_of_ble_eq_true (by kernel_rfl), Nat.zero_le _⟩
end

noncomputable def T21 (w : ByteArray) (R Q : List Value) : Tbl := tbl.with1 Tryz.prog 21 (a21 R (runes w w.size) Q w.size) (A0 R (runes w w.size) Q w.size (fun _ => undef)).h
  (v21 (famOf (letr w) w.size) R (runes w w.size) Q (nrow id w.size) w.size w.size (w.size : Int), (A5 (famOf (letr w) w.size) R (runes w w.size) Q (nrow id w.size) w.size w.size (w.size : Int) (fun _ => undef)).h)
/-- the places, the end with them -/
def plcs (w : ByteArray) : List Value := places w.size ++ [.int .i64 (w.size : Int)]
noncomputable def T19 (w : ByteArray) (R : List Value) : Tbl := tbl.with1 Tryz.prog 19 (a19 w R) (D0 w R (fun _ => undef)).h (v19 R (runes w w.size) (plcs w) w.size, (DZ R (runes w w.size) (plcs w) w.size (fun _ => undef)).h)

section
variable {w : ByteArray} {R : List Value} (hL : LW w) (hR : AllInt R) (hw : w.size ≤ 1000) (h2 : 2 ≤ w.size)
include hL hR hw h2
theorem plcs_int : AllInt (plcs w) := AllInt.snoc (ci_int _ _)
theorem plcs_len : (plcs w).length = (w.size + 1) * 1 := by simp [plcs, places, ci]
theorem con_dec : Con Tryz.prog 19 (a19 w R) (D0 w R (fun _ => undef)).h (v19 R (runes w w.size) (plcs w) w.size) (DZ R (runes w w.size) (plcs w) w.size (fun _ => undef)).h :=
  con19 (w := w) hR (ci_int (fun k => lc w (k : Int)) w.size) (plcs_int hL hR hw h2) (g_D0 hR _) (g_DZ (w := w) hR (ci_int _ _) (plcs_int hL hR hw h2) _) (hd_all hL hR hw h2 _)
theorem ok19 : TblOk Tryz.prog (T19 w R) := with1_ok ok mixed (con_dec hL hR hw h2) (good_hn (g_DZ (w := w) hR (ci_int _ _) (plcs_int hL hR hw h2) _) ⟨Nat.le_of_ble_eq_true (by kernel_rfl), Nat.zero_le _⟩)

theorem parse_all (h5 : w.size ≤ 1000) (j : Nat → Value) : SX Tryz.prog 4097 f8.body (P0 w R j) (To .ret (P8 (famOf (letr w) w.size) R (nrow id w.size) w.size)) := by
  have hA : AllInt (runes w w.size) := ci_int _ _
  have lA : (runes w w.size).length = w.size * 1 := ci_len _ _
  have hQ := plcs_int hL hR hw h2
  have lQ := plcs_len hL hR hw h2
  have ok21 : TblOk Tryz.prog (T21 w R (plcs w)) := with1_ok ok mixed (con_alt hL hR hw h2 hQ lQ) (good_alt hL hR hw h2 hQ lQ)
  refine SX.next (p0 w R _ _ w.size rfl hR hA hQ lA lQ h2 hw j) fun j => SX.next (p1 w R _ _ w.size rfl hR hA hQ lA lQ h2 hw j) fun j => ?_
  refine SX.next (p2 (T19 w R) (ok19 hL hR hw h2) w R _ _ w.size rfl hR hA hQ lA lQ h2 hw with1_at j) fun j => ?_
  refine SX.next (p3 w R _ _ w.size rfl hR hA hQ lA lQ h2 hw j) fun j => SX.next (p4 w R _ _ w.size rfl hR hA hQ lA lQ h2 hw j) fun j => SX.next (p5 w R _ _ w.size rfl hR hA hQ lA lQ h2 hw j) fun j => ?_
  refine SX.next (p6 (T21 w R (plcs w)) ok21 w R _ _ w.size rfl hR hA hQ lA lQ h2 hw (nrow id w.size) w.size (w.size : Int) (famOf (letr w) w.size) (AllSt.up (id_st _)) (nrow_len _ _) h2 hw (by omega) (by omega) (by omega) (lt_OFF (by omega)) (FamK.up (fam_K _ _)) with1_at j) fun j => ?_
  exact p7 w R _ _ w.size rfl hR hA hQ lA lQ h2 hw (nrow id w.size) w.size (w.size : Int) (famOf (letr w) w.size) (AllSt.up (id_st _)) (nrow_len _ _) h2 hw (by omega) (by omega) (by omega) (lt_OFF (by omega)) (FamK.up (fam_K _ _)) j

/-- WHAT PARSE ANSWERS -/
theorem con_parse : Con Tryz.prog 8 (a8 w R) (P0 w R (fun _ => undef)).h (v8 (famOf (letr w) w.size) R (nrow id w.size) w.size) (P8 (famOf (letr w) w.size) R (nrow id w.size) w.size (fun _ => undef)).h :=
  con8 (w := w) (k := 0) (i := (w.size : Int)) hR (ci_int (fun k => lc w (k : Int)) w.size) (plcs_int hL hR hw h2) (id_st w.size) (Nat.le_of_lt (lt_OFF (by omega))) (fam_K (letr w) w.size)
    (g_P0 (w := w) (A := []) (Q := []) (L := nrow id w.size) (k := 0) (m := w.size) (i := 0) (F := famOf (letr w) w.size) hR AllInt.nil AllInt.nil (id_st w.size) (Nat.le_of_lt (lt_OFF (by omega))) (fam_K (letr w) w.size) _)
    (g_P8 (w := w) (A := []) (Q := []) (k := 0) (i := 0) hR AllInt.nil AllInt.nil (id_st w.size) (Nat.le_of_lt (lt_OFF (by omega))) (fam_K (letr w) w.size) _) (parse_all hL hR hw h2 hw _)
theorem good_parse : HN (P0 w R (fun _ => undef)).h (P8 (famOf (letr w) w.size) R (nrow id w.size) w.size (fun _ => undef)).h :=
  good_hn (g_P8 (w := w) (A := []) (Q := []) (k := 0) (i := 0) hR AllInt.nil AllInt.nil (id_st w.size) (Nat.le_of_lt (lt_OFF (by omega))) (fam_K (letr w) w.size) _) ⟨Nat.le_of_ble_eq_true (by kernel_rfl), Nat.zero_le _⟩
end

/-- the letters twice -/
def dbl (m : Nat) (c : Nat → Int) (k : Nat) : Int := if k < m then c k else c (k - m)
theorem dbl_lo {m : Nat} {c : Nat → Int} {k : Nat} (h : k < m) : dbl m c k = c k := if_pos h
theorem dbl_hi {m : Nat} {c : Nat → Int} {k : Nat} : dbl m c (m + k) = c k := by unfold dbl; rw [if_neg (by omega), Nat.add_sub_cancel_left]
theorem fam_dbl (m : Nat) (c : Nat → Int) : famOf (dbl m c) m = famOf c m := fam_congr (fun k hk => dbl_lo hk)
/-- the first nodes, and the others -/
def rowL (m : Nat) : List Value := nrow id m
def rowM (m n : Nat) : List Value := nrow (fun k => m + k) n
theorem rowL_len (m : Nat) : (rowL m).length = m * 9 := nrow_len _ _
theorem rowM_len (m n : Nat) : (rowM m n).length = n * 9 := nrow_len _ _
theorem rowL_st {m n : Nat} (h : m ≤ n) : AllSt (famD 0 n) (rowL m) := nrow_st (fun k hk => Nat.lt_of_lt_of_le hk h)
theorem rowM_st {m n q : Nat} (h : m + q ≤ n) : AllSt (famD 0 n) (rowM m q) := nrow_st (fun k hk => by omega)

section
variable {R : List Value} {m : Nat} {c : Nat → Int} (hR : AllInt R) (lR : R.length = m * 1) (k2 : 2 ≤ m) (k5 : m ≤ 500) (hc : ∀ k, k < m → 97 ≤ c k ∧ c k ≤ 122)
include hR lR k2 k5 hc

/-! ### Count -/
noncomputable def HCo (R : List Value) (m : Nat) (c : Nat → Int) : Nat → (Nat → Value) → St := fun i => CoB (famOf c m) R (rowL m) m (i : Int) ((i + 1 : Nat) : Int)
theorem count_all (j : Nat → Value) : SX Tryz.prog 4105 f41.body (Co0 (famOf c m) R (rowL m) m j) (To .ret (CoX1 (famOf c m) R (rowL m) m ((m + 1 : Nat) : Int))) := by
  have hL : AllSt (famD 0 m) (rowL m) := rowL_st (Nat.le_refl _)
  have lL := rowL_len m
  have hn : m < OFF := lt_OFF (by omega)
  have hF := fam_K c m
  refine SX.next (co_0 R _ m _ hR lR (AllSt.up hL) lL k2 k5 hn (FamK.up hF) j) fun j => ?_
  refine SX.stop (by simp) (SX.next (co_1 R _ m _ hR lR (AllSt.up hL) lL k2 k5 hn (FamK.up hF) j) fun j => SX.blockR ?_)
  refine SX.next (co_2 R _ m _ hR lR (AllSt.up hL) lL k2 k5 hn (FamK.up hF) j) fun j => ?_
  refine SX.cond true (by kernel_rfl) ?_
  refine SX.next (co_3 R _ m _ hR lR (AllSt.up hL) lL k2 k5 hn (FamK.up hF) j) fun j => ?_
  refine SX.next (A := CoX (famOf c m) R (rowL m) m ((m + 1 : Nat) : Int)) (SX.next (co_4 R _ m _ hR lR (AllSt.up hL) lL k2 k5 hn (FamK.up hF) j) fun j => ?_) fun j => ?_
  · refine SX.range (HCo R m c) m (fun i hi j => ?_) (fun j => ?_) j
    · exact SX.toMono (co_R R _ m _ hR lR (AllSt.up hL) lL k2 k5 hn (FamK.up hF) (i : Int) ((i + 1 : Nat) : Int) 0 i (by omega) (by omega) (by omega) (by omega) (by omega) (nrow_load id (by omega) (by omega)) j) (fun j => rfl)
    · exact co_X R _ m _ hR lR (AllSt.up hL) lL k2 k5 hn (FamK.up hF) (m : Int) ((m + 1 : Nat) : Int) (by omega) (by omega) (by omega) (by omega) (by omega) j
  · exact cox_0 R _ m _ hR lR (AllSt.up hL) lL k2 k5 hn (FamK.up hF) (m : Int) ((m + 1 : Nat) : Int) (by omega) (by omega) (by omega) (by omega) (by omega) j

theorem con_count : Con Tryz.prog 41 (a41 (famOf c m) R (rowL m) m) (Co0 (famOf c m) R (rowL m) m (fun _ => undef)).h (v41 (famOf c m) R (rowL m) m ((m + 1 : Nat) : Int)) (CoX1 (famOf c m) R (rowL m) m ((m + 1 : Nat) : Int) (fun _ => undef)).h :=
  con41 (M := []) (N := []) (C := []) (D := []) (n := m) (d := 0) (q := 0) (i := 0) (G0 := noF) (Nat.le_refl m) (g_Co0 (i := 0) (s := 0) hR (rowL_st (Nat.le_refl _)) (Nat.le_of_lt (lt_OFF (by omega))) (fam_K c m) _)
    (g_CoX1 (i := 0) hR (rowL_st (Nat.le_refl _)) (Nat.le_of_lt (lt_OFF (by omega))) (fam_K c m) _) (count_all hR lR k2 k5 hc _)
theorem hn_count : HN (Co0 (famOf c m) R (rowL m) m (fun _ => undef)).h (CoX1 (famOf c m) R (rowL m) m ((m + 1 : Nat) : Int) (fun _ => undef)).h :=
  good_hn (g_CoX1 (i := 0) hR (rowL_st (Nat.le_refl _)) (Nat.le_of_lt (lt_OFF (by omega))) (fam_K c m) _) ⟨Nat.le_of_ble_eq_true (by kernel_rfl), Nat.le_refl _⟩

/-! ### flat, row -/
abbrev GG (m : Nat) (c : Nat → Int) : Nat → Option VObj := famOf (dbl m c) (m + m)
noncomputable def HFl (R : List Value) (m : Nat) (c : Nat → Int) : Nat → (Nat → Value) → St
  | 0 => Fl3 (GG m c) R (rowL m) (rowM m m) m (m + m)
  | i + 1 => FlB (GG m c) R (rowL m) (rowM m m) (rowM m (i + 1)) m (m + m) (i + 1) ((i + 1 : Nat) : Int)
theorem flat_all (j : Nat → Value) : SX Tryz.prog 4109 f70.body (Fl0 (GG m c) R (rowL m) (rowM m m) m (m + m) j) (To .ret (Fm1 (GG m c) R (rowL m) (rowM m m) (rowM m m) m (m + m))) := by
  have hL : AllSt (famD 0 (m + m)) (rowL m) := rowL_st (by omega)
  have lL := rowL_len m
  have hM : AllSt (famD 0 (m + m)) (rowM m m) := rowM_st (by omega)
  have lM := rowM_len m m
  have hn : m + m < OFF := lt_OFF (by omega)
  have hF := fam_K (dbl m c) (m + m)
  refine SX.next (fl_0 R _ _ m _ _ hR lR (AllSt.up hL) lL k2 k5 hn (FamK.up hF) (AllSt.up hM) lM j) fun j => SX.next (fl_1 R _ _ m _ _ hR lR (AllSt.up hL) lL k2 k5 hn (FamK.up hF) (AllSt.up hM) lM j) fun j => ?_
  refine SX.next (A := FlX (GG m c) R (rowL m) (rowM m m) (rowM m m) m (m + m) m) (SX.next (fl_2 R _ _ m _ _ hR lR (AllSt.up hL) lL k2 k5 hn (FamK.up hF) (AllSt.up hM) lM j) fun j => ?_) fun j => ?_
  · refine SX.range (HFl R m c) m (fun i hi j => ?_) (fun j => ?_) j
    · cases i with
      | zero => exact SX.toMono (fl_F R _ _ m _ _ hR lR (AllSt.up hL) lL k2 k5 hn (FamK.up hF) (AllSt.up hM) lM 0 (m + 0) (by omega) (nrow_load0 _ (by omega)) j) (fun j => rfl)
      | succ i =>
        refine SX.toMono (fl_R R _ _ m _ _ hR lR (AllSt.up hL) lL k2 k5 hn (FamK.up hF) (AllSt.up hM) lM (rowM m (i + 1)) (i + 1) ((i + 1 : Nat) : Int) (AllSt.up (rowM_st (by omega))) (rowM_len _ _) (by omega) (by omega) (by omega) 0 (m + (i + 1)) (by omega) (nrow_load (fun k => m + k) (by omega) (by omega)) j) (fun j => rfl)
    · obtain ⟨k, rfl⟩ : ∃ k, m = k + 1 := ⟨m - 1, by omega⟩
      exact fl_X R _ _ (k + 1) _ _ hR lR (AllSt.up hL) lL k2 k5 hn (FamK.up hF) (AllSt.up hM) lM (rowM (k + 1) (k + 1)) (k + 1) ((k + 1 : Nat) : Int) (AllSt.up hM) lM (by omega) (by omega) (by omega) j
  · exact fm_0 R _ _ m _ _ hR lR (AllSt.up hL) lL k2 k5 hn (FamK.up hF) (AllSt.up hM) lM (rowM m m) (AllSt.up hM) lM j
theorem con_flat : Con Tryz.prog 70 (a70 (GG m c) R (rowL m) (rowM m m) m (m + m)) (Fl0 (GG m c) R (rowL m) (rowM m m) m (m + m) (fun _ => undef)).h (v70 (GG m c) R (rowL m) (rowM m m) (rowM m m) m (m + m)) (Fm1 (GG m c) R (rowL m) (rowM m m) (rowM m m) m (m + m) (fun _ => undef)).h :=
  con70 (C := []) (D := []) (d := 0) (q := 0) (i := 0) (s := 0) (G0 := noF) (n := m + m) (m := m) (by omega) (g_Fl0 (N := []) (C := []) (D := []) (d := 0) (q := 0) (i := 0) (s := 0) (G0 := noF) hR (rowL_st (by omega)) (rowM_st (by omega)) AllSt.nil AllSt.nil AllInt.nil (Nat.le_of_lt (lt_OFF (by omega))) (fam_K _ _) _)
    (g_Fm1 (C := []) (D := []) (d := 0) (q := 0) (i := 0) (s := 0) (G0 := noF) hR (rowL_st (by omega)) (rowM_st (by omega)) (rowM_st (by omega)) AllSt.nil AllInt.nil (Nat.le_of_lt (lt_OFF (by omega))) (fam_K _ _) _) (flat_all hR lR k2 k5 hc _)
theorem hn_flat : HN (Fl0 (GG m c) R (rowL m) (rowM m m) m (m + m) (fun _ => undef)).h (Fm1 (GG m c) R (rowL m) (rowM m m) (rowM m m) m (m + m) (fun _ => undef)).h :=
  good_hn (g_Fm1 (C := []) (D := []) (d := 0) (q := 0) (i := 0) (s := 0) (G0 := noF) hR (rowL_st (by omega)) (rowM_st (by omega)) (rowM_st (by omega)) AllSt.nil AllInt.nil (Nat.le_of_lt (lt_OFF (by omega))) (fam_K _ _) _) ⟨Nat.le_of_ble_eq_true (by kernel_rfl), Nat.le_refl _⟩
end

section
variable {R : List Value} {m : Nat} {c : Nat → Int} (hR : AllInt R) (lR : R.length = m * 1) (k2 : 2 ≤ m) (k5 : m ≤ 500) (hc : ∀ k, k < m → 97 ≤ c k ∧ c k ≤ 122)
include hR lR k2 k5 hc

/-! ### row -/
noncomputable def T70 (R : List Value) (m : Nat) (c : Nat → Int) : Tbl := tbl.with1 Tryz.prog 70 (a70 (GG m c) R (rowL m) (rowM m m) m (m + m)) (Fl0 (GG m c) R (rowL m) (rowM m m) m (m + m) (fun _ => undef)).h
  (v70 (GG m c) R (rowL m) (rowM m m) (rowM m m) m (m + m), (Fm1 (GG m c) R (rowL m) (rowM m m) (rowM m m) m (m + m) (fun _ => undef)).h)
noncomputable def HRw (R : List Value) (m : Nat) (c : Nat → Int) : Nat → (Nat → Value) → St
  | 0 => Rw3 (GG m c) R (rowL m) (rowM m m) (rowM m m) m (m + m)
  | i + 1 => RwB (GG m c) R (rowL m) (rowM m m) (rowM m m) (rowM m (i + 1)) m (m + m) (i + 1) ((i + 1 : Nat) : Int)
theorem rowc_all (j : Nat → Value) : SX Tryz.prog 4108 f68.body (Rw0 (GG m c) R (rowL m) (rowM m m) m (m + m) j) (To .ret (Rm1 (GG m c) R (rowL m) (rowM m m) (rowM m m) m (m + m))) := by
  have hL : AllSt (famD 0 (m + m)) (rowL m) := rowL_st (by omega)
  have lL := rowL_len m
  have hM : AllSt (famD 0 (m + m)) (rowM m m) := rowM_st (by omega)
  have lM := rowM_len m m
  have hn : m + m < OFF := lt_OFF (by omega)
  have hF := fam_K (dbl m c) (m + m)
  have hT : TblOk Tryz.prog (T70 R m c) := with1_ok ok mixed (con_flat hR lR k2 k5 hc) (hn_flat hR lR k2 k5 hc)
  refine SX.next (rw_0 R _ _ m _ _ hR lR (AllSt.up hL) lL k2 k5 hn (FamK.up hF) (AllSt.up hM) lM j) fun j => SX.next (rw_1 R _ _ m _ _ hR lR (AllSt.up hL) lL k2 k5 hn (FamK.up hF) (AllSt.up hM) lM j) fun j => ?_
  refine SX.next (A := RwX (GG m c) R (rowL m) (rowM m m) (rowM m m) m (m + m) m) (SX.next (rw_2 (T70 R m c) hT R _ _ m _ _ hR lR (AllSt.up hL) lL k2 k5 hn (FamK.up hF) (AllSt.up hM) lM (rowM m m) (AllSt.up hM) lM with1_at j) fun j => ?_) fun j => ?_
  · refine SX.range (HRw R m c) m (fun i hi j => ?_) (fun j => ?_) j
    · cases i with
      | zero => exact SX.toMono (rw_F R _ _ m _ _ hR lR (AllSt.up hL) lL k2 k5 hn (FamK.up hF) (AllSt.up hM) lM (rowM m m) (AllSt.up hM) lM 0 (m + 0) (by omega) (nrow_load0 _ (by omega)) j) (fun j => rfl)
      | succ i =>
        refine SX.toMono (rw_R R _ _ m _ _ hR lR (AllSt.up hL) lL k2 k5 hn (FamK.up hF) (AllSt.up hM) lM (rowM m m) (AllSt.up hM) lM (rowM m (i + 1)) (i + 1) ((i + 1 : Nat) : Int) (AllSt.up (rowM_st (by omega))) (rowM_len _ _) (by omega) (by omega) (by omega) 0 (m + (i + 1)) (by omega) (nrow_load (fun k => m + k) (by omega) (by omega)) j) (fun j => rfl)
    · obtain ⟨k, rfl⟩ : ∃ k, m = k + 1 := ⟨m - 1, by omega⟩
      exact rw_X R _ _ (k + 1) _ _ hR lR (AllSt.up hL) lL k2 k5 hn (FamK.up hF) (AllSt.up hM) lM (rowM (k + 1) (k + 1)) (AllSt.up hM) lM (rowM (k + 1) (k + 1)) (k + 1) ((k + 1 : Nat) : Int) (AllSt.up hM) lM (by omega) (by omega) (by omega) j
  · exact rm_0 R _ _ m _ _ hR lR (AllSt.up hL) lL k2 k5 hn (FamK.up hF) (AllSt.up hM) lM (rowM m m) (AllSt.up hM) lM (rowM m m) (AllSt.up hM) lM j
theorem con_rowc : Con Tryz.prog 68 (a68 (GG m c) R (rowL m) (rowM m m) m (m + m)) (Rw0 (GG m c) R (rowL m) (rowM m m) m (m + m) (fun _ => undef)).h (v68 (GG m c) R (rowL m) (rowM m m) (rowM m m) m (m + m)) (Rm1 (GG m c) R (rowL m) (rowM m m) (rowM m m) m (m + m) (fun _ => undef)).h :=
  con68 (N := []) (D := []) (d := 0) (q := 0) (i := 0) (s := 0) (G0 := noF) (n := m + m) (m := m) (by omega) (g_Rw0 (N := []) (C := []) (D := []) (d := 0) (q := 0) (i := 0) (s := 0) (G0 := noF) hR (rowL_st (by omega)) (rowM_st (by omega)) AllSt.nil AllSt.nil AllInt.nil (Nat.le_of_lt (lt_OFF (by omega))) (fam_K _ _) _)
    (g_Rm1 (N := []) (D := []) (d := 0) (q := 0) (i := 0) (s := 0) (G0 := noF) hR (rowL_st (by omega)) (rowM_st (by omega)) AllSt.nil (rowM_st (by omega)) AllInt.nil (Nat.le_of_lt (lt_OFF (by omega))) (fam_K _ _) _) (rowc_all hR lR k2 k5 hc _)
theorem hn_rowc : HN (Rw0 (GG m c) R (rowL m) (rowM m m) m (m + m) (fun _ => undef)).h (Rm1 (GG m c) R (rowL m) (rowM m m) (rowM m m) m (m + m) (fun _ => undef)).h :=
  good_hn (g_Rm1 (N := []) (D := []) (d := 0) (q := 0) (i := 0) (s := 0) (G0 := noF) hR (rowL_st (by omega)) (rowM_st (by omega)) AllSt.nil (rowM_st (by omega)) AllInt.nil (Nat.le_of_lt (lt_OFF (by omega))) (fam_K _ _) _) ⟨Nat.le_of_ble_eq_true (by kernel_rfl), Nat.le_refl _⟩

/-! ### made -/
noncomputable def T68 (R : List Value) (m : Nat) (c : Nat → Int) : Tbl := tbl.with1 Tryz.prog 68 (a68 (GG m c) R (rowL m) (rowM m m) m (m + m)) (Rw0 (GG m c) R (rowL m) (rowM m m) m (m + m) (fun _ => undef)).h
  (v68 (GG m c) R (rowL m) (rowM m m) (rowM m m) m (m + m), (Rm1 (GG m c) R (rowL m) (rowM m m) (rowM m m) m (m + m) (fun _ => undef)).h)
noncomputable def HMa (R : List Value) (m : Nat) (c : Nat → Int) : Nat → (Nat → Value) → St
  | 0 => MaF (famOf (dbl m c) m) R (rowL m) m m
  | i + 1 => MaB (famOf (dbl m c) (m + (i + 1))) R (rowL m) (rowM m (i + 1)) m (m + (i + 1)) (i + 1) ((i + 1 : Nat) : Int)
theorem dbl_eq {i : Nat} (hi : i < m) : dbl m c (m + i) = dbl m c i := by rw [dbl_hi, dbl_lo hi]
theorem made_round (i : Nat) (hi : i < m) (j : Nat → Value) : SX Tryz.prog 4105 (.seq f42r5 (.seq (.cond (.tmp 24) .skip (.exit 0)) (.seq (.block 1 (.seq f42r6 f42r7)) f42r8))) (HMa R m c i j) (To .normal (HMa R m c (i + 1))) := by
  have lL := rowL_len m
  have e := dbl_eq hR lR k2 k5 hc hi
  have hF := fam_K (dbl m c) (m + i)
  have hL : AllSt (famD 0 (m + i)) (rowL m) := rowL_st (by omega)
  have hn : m + i < OFF := lt_OFF (by omega)
  have hx : 97 ≤ dbl m c (m + i) ∧ dbl m c (m + i) ≤ 122 := by rw [dbl_hi]; exact hc i hi
  have m2 : loadH (famOf (dbl m c) (m + i)) (OFF + i) 0 2 = some (.agg ⟨[.int .i64 (dbl m c (m + i)), .int .i64 (dbl m c (m + i))]⟩) := by rw [e]; exact fam_load _ (by omega)
  have m0 : load1H (famOf (dbl m c) (m + i)) (OFF + i) 0 = some (.int .i64 (dbl m c (m + i))) := by rw [e]; exact fam_load0 _ (by omega)
  have m1 : load1H (famOf (dbl m c) (m + i)) (OFF + i) 1 = some (.int .i64 (dbl m c (m + i))) := by rw [e]; exact fam_load1 _ (by omega)
  cases i with
  | zero => exact SX.toMono (ma_F R _ m m _ hR lR (AllSt.up hL) lL k2 k5 hn (FamK.up hF) (dbl m c (m + 0)) 0 (by omega) (nrow_load0 _ (by omega)) m2 m0 m1 hx j) (fun j => rfl)
  | succ i => exact SX.toMono (ma_R R _ m (m + (i + 1)) _ hR lR (AllSt.up hL) lL k2 k5 hn (FamK.up hF) (rowM m (i + 1)) (i + 1) ((i + 1 : Nat) : Int) (AllSt.up (rowM_st (by omega))) (rowM_len _ _) (by omega) (by omega) (by omega) (dbl m c (m + (i + 1))) (i + 1) (by omega) (nrow_load id (by omega) (by omega)) m2 m0 m1 hx j) (fun j => rfl)
theorem made_all (j : Nat → Value) : SX Tryz.prog 4105 f42.body (Ma0 (famOf c m) R (rowL m) m j) (To .ret (Mb4 (GG m c) R (rowL m) (rowM m m) m (m + m))) := by
  have lL := rowL_len m
  have lM := rowM_len m m
  have h0 : AllSt (famD 0 m) (rowL m) := rowL_st (by omega)
  have n0 : m < OFF := lt_OFF (by omega)
  have f0 := fam_K c m
  have hL : AllSt (famD 0 (m + m)) (rowL m) := rowL_st (by omega)
  have hM : AllSt (famD 0 (m + m)) (rowM m m) := rowM_st (by omega)
  have hn : m + m < OFF := lt_OFF (by omega)
  have hF := fam_K (dbl m c) (m + m)
  have hT : TblOk Tryz.prog (T68 R m c) := with1_ok ok mixed (con_rowc hR lR k2 k5 hc) (hn_rowc hR lR k2 k5 hc)
  refine SX.next (ma_0 R _ m _ hR lR (AllSt.up h0) lL k2 k5 n0 (FamK.up f0) j) fun j => SX.next (ma_1 R _ m _ hR lR (AllSt.up h0) lL k2 k5 n0 (FamK.up f0) j) fun j => SX.next (ma_2 R _ m _ hR lR (AllSt.up h0) lL k2 k5 n0 (FamK.up f0) j) fun j => ?_
  refine SX.next (A := MaX (GG m c) R (rowL m) (rowM m m) m (m + m) m) (SX.next (ma_3 R _ m _ hR lR (AllSt.up h0) lL k2 k5 n0 (FamK.up f0) j) fun j => ?_) fun j => SX.stop (by simp) ?_
  · have e : Ma4 (famOf c m) R (rowL m) m j = HMa R m c 0 j := by
      show Ma4 (famOf c m) R (rowL m) m j = MaF (famOf (dbl m c) m) R (rowL m) m m j
      rw [fam_dbl]; rfl
    rw [e]
    refine SX.range (HMa R m c) m (made_round hR lR k2 k5 hc) (fun j => ?_) j
    obtain ⟨k, rfl⟩ : ∃ k, m = k + 1 := ⟨m - 1, by omega⟩
    exact ma_X R _ (k + 1) _ _ hR lR (AllSt.up hL) lL k2 k5 hn (FamK.up hF) (rowM (k + 1) (k + 1)) (k + 1) ((k + 1 : Nat) : Int) (AllSt.up hM) lM (by omega) (by omega) (by omega) j
  · refine SX.next (mb_0 R _ _ m _ _ hR lR (AllSt.up hL) lL k2 k5 hn (FamK.up hF) (AllSt.up hM) lM j) fun j => SX.blockR (SX.next (mb_1 R _ _ m _ _ hR lR (AllSt.up hL) lL k2 k5 hn (FamK.up hF) (AllSt.up hM) lM j) fun j => ?_)
    refine SX.cond false (by kernel_rfl) (SX.next (mb_2 R _ _ m _ _ hR lR (AllSt.up hL) lL k2 k5 hn (FamK.up hF) (AllSt.up hM) lM j) fun j => SX.cond true (by kernel_rfl) ?_)
    exact mb_3 (T68 R m c) hT R _ _ m _ _ hR lR (AllSt.up hL) lL k2 k5 hn (FamK.up hF) (AllSt.up hM) lM (rowM m m) (AllSt.up hM) lM (rowM m m) (AllSt.up hM) lM with1_at j
theorem con_made : Con Tryz.prog 42 (a42 (famOf c m) R (rowL m) m) (Ma0 (famOf c m) R (rowL m) m (fun _ => undef)).h (v42 (GG m c) R (rowL m) (rowM m m) m (m + m)) (Mb4 (GG m c) R (rowL m) (rowM m m) m (m + m) (fun _ => undef)).h :=
  con42 (M := []) (N := []) (D := []) (d := 0) (q := 0) (i := 0) (s := 0) (m := m) (n := m + m) (by omega) (g_Ma0 (i := 0) (s := 0) hR (rowL_st (Nat.le_refl _)) (Nat.le_of_lt (lt_OFF (by omega))) (fam_K c m) _)
    (g_Mb4 (M := []) (N := []) (D := []) (d := 0) (q := 0) (i := 0) (s := 0) (G0 := noF) hR (rowL_st (by omega)) AllSt.nil AllSt.nil (rowM_st (by omega)) AllInt.nil (Nat.le_of_lt (lt_OFF (by omega))) (fam_K _ _) _) (made_all hR lR k2 k5 hc _)
theorem hn_made : HN (Ma0 (famOf c m) R (rowL m) m (fun _ => undef)).h (Mb4 (GG m c) R (rowL m) (rowM m m) m (m + m) (fun _ => undef)).h :=
  good_hn (g_Mb4 (M := []) (N := []) (D := []) (d := 0) (q := 0) (i := 0) (s := 0) (G0 := noF) hR (rowL_st (by omega)) AllSt.nil AllSt.nil (rowM_st (by omega)) AllInt.nil (Nat.le_of_lt (lt_OFF (by omega))) (fam_K _ _) _) ⟨Nat.le_of_ble_eq_true (by kernel_rfl), Nat.le_add_right _ _⟩
end

/-- the program's rows: Start, then a Char per letter -/
def inst (c : Nat → Int) : Nat → List Value
  | 0 => [.int .i64 3, .int .i64 1, .int .i64 0, .int .i64 0, .int .i64 0]
  | k + 1 => inst c k ++ [.int .i64 0, .int .i64 (((k + 1 : Nat) : Int) + 1), .int .i64 0, .int .i64 (c k), .int .i64 (c k)]
theorem inst_len (c : Nat → Int) : ∀ k, (inst c k).length = (k + 1) * 5
  | 0 => rfl
  | k + 1 => by simp only [inst, List.length_append, inst_len c k]; show (k + 1) * 5 + 5 = (k + 1 + 1) * 5; omega
theorem inst_int (c : Nat → Int) : ∀ k, AllInt (inst c k)
  | 0 => AllInt.nil.cons.cons.cons.cons.cons
  | k + 1 => (inst_int c k).append AllInt.nil.cons.cons.cons.cons.cons
theorem inst_get (c : Nat → Int) (z : List Value) : ∀ {m k : Nat}, k < m → ((inst c m ++ z).drop ((1 + k) * 5)).take 5 = [.int .i64 0, .int .i64 (((k + 1 : Nat) : Int) + 1), .int .i64 0, .int .i64 (c k), .int .i64 (c k)] := by
  intro m
  induction m generalizing z with
  | zero => intro k h; omega
  | succ m ih =>
    intro k h
    simp only [inst, List.append_assoc]
    rcases Nat.lt_or_ge k m with h1 | h1
    · exact ih _ h1
    · have : k = m := by omega
      subst this
      rw [List.drop_append, Nat.add_comm 1 k, ← inst_len c k, List.drop_length, Nat.sub_self]
      rfl
def fin3 (m : Nat) : List Value := [.int .i64 3, .int .i64 (((m + 1 : Nat) : Int) + 1), .int .i64 1, .int .i64 0, .int .i64 0]
def fin5 (m : Nat) : List Value := [.int .i64 5, .int .i64 (((m + 1 + 1 : Nat) : Int) + 1), .int .i64 0, .int .i64 0, .int .i64 0]
/-- the program of a word -/
def prg (c : Nat → Int) (m : Nat) : List Value := storeL ((inst c m ++ fin3 m) ++ fin5 m) ((0 + Int.toNat (((m + 1 + 1 + 1 : Nat) : Int) - 1) * 5) + 1) [.int .i64 0]
theorem fin3_int (m : Nat) : AllInt (fin3 m) := AllInt.nil.cons.cons.cons.cons.cons
theorem fin5_int (m : Nat) : AllInt (fin5 m) := AllInt.nil.cons.cons.cons.cons.cons
theorem prg_int (c : Nat → Int) (m : Nat) : AllInt (prg c m) := AllInt.store _ (((inst_int c m).append (fin3_int m)).append (fin5_int m)) AllInt.nil.cons
theorem prg_len (c : Nat → Int) (m : Nat) : (prg c m).length = (m + 3) * 5 := by
  simp only [prg, storeL, List.length_set, List.length_append, inst_len, fin3, fin5, List.length_cons, List.length_nil]
  omega
theorem prg_get (c : Nat → Int) {m k : Nat} (h : k < m) : ((prg c m).drop ((1 + k) * 5)).take 5 = [.int .i64 0, .int .i64 (((k + 1 : Nat) : Int) + 1), .int .i64 0, .int .i64 (c k), .int .i64 (c k)] := by
  have e : ∀ (v : Value), (prg c m).drop ((1 + k) * 5) = ((inst c m ++ (fin3 m ++ fin5 m)).drop ((1 + k) * 5)).set (((0 + Int.toNat (((m + 1 + 1 + 1 : Nat) : Int) - 1) * 5) + 1) - (1 + k) * 5) (.int .i64 0) := fun v => by
    simp only [prg, storeL, List.append_assoc]
    rw [List.drop_set, if_neg (by omega)]
  rw [e undef, List.take_set, List.set_eq_of_length_le, inst_get c _ h]
  rw [List.length_take]
  omega

section
variable {R : List Value} {m : Nat} {c : Nat → Int} (hR : AllInt R) (lR : R.length = m * 1) (k2 : 2 ≤ m) (k5 : m ≤ 500) (hc : ∀ k, k < m → 97 ≤ c k ∧ c k ≤ 122)
include hR lR k2 k5 hc

/-! ### Simplify -/
noncomputable def T41 (R : List Value) (m : Nat) (c : Nat → Int) : Tbl := tbl.with1 Tryz.prog 41 (a41 (famOf c m) R (rowL m) m) (Co0 (famOf c m) R (rowL m) m (fun _ => undef)).h
  (v41 (famOf c m) R (rowL m) m ((m + 1 : Nat) : Int), (CoX1 (famOf c m) R (rowL m) m ((m + 1 : Nat) : Int) (fun _ => undef)).h)
noncomputable def T42 (R : List Value) (m : Nat) (c : Nat → Int) : Tbl := tbl.with1 Tryz.prog 42 (a42 (famOf c m) R (rowL m) m) (Ma0 (famOf c m) R (rowL m) m (fun _ => undef)).h
  (v42 (GG m c) R (rowL m) (rowM m m) m (m + m), (Mb4 (GG m c) R (rowL m) (rowM m m) m (m + m) (fun _ => undef)).h)
theorem simp_all (j : Nat → Value) : SX Tryz.prog 4103 f22.body (Si0 (famOf c m) R (rowL m) m j) (To .ret (Si3 (GG m c) R (rowL m) (rowM m m) m (m + m))) := by
  have lL := rowL_len m
  have lM := rowM_len m m
  have h0 : AllSt (famD 0 m) (rowL m) := rowL_st (by omega)
  have n0 : m < OFF := lt_OFF (by omega)
  have f0 := fam_K c m
  have hL : AllSt (famD 0 (m + m)) (rowL m) := rowL_st (by omega)
  have hM : AllSt (famD 0 (m + m)) (rowM m m) := rowM_st (by omega)
  have hn : m + m < OFF := lt_OFF (by omega)
  have hF := fam_K (dbl m c) (m + m)
  have hT : TblOk Tryz.prog (T41 R m c) := with1_ok ok mixed (con_count hR lR k2 k5 hc) (hn_count hR lR k2 k5 hc)
  have hT2 : TblOk Tryz.prog (T42 R m c) := with1_ok ok mixed (con_made hR lR k2 k5 hc) (hn_made hR lR k2 k5 hc)
  refine SX.next (si_0 R _ m _ hR lR (AllSt.up h0) lL k2 k5 n0 (FamK.up f0) j) fun j => SX.next (si_1 (T41 R m c) hT R _ m _ hR lR (AllSt.up h0) lL k2 k5 n0 (FamK.up f0) ((m + 1 : Nat) : Int) (by omega) (by omega) with1_at j) fun j => ?_
  exact si_2 (T42 R m c) hT2 R _ m _ _ hR lR (AllSt.up hL) lL k2 k5 hn (FamK.up hF) (rowM m m) (AllSt.up hM) lM (famOf c m) with1_at j
theorem con_simp : Con Tryz.prog 22 (a22 (famOf c m) R (rowL m) m) (Si0 (famOf c m) R (rowL m) m (fun _ => undef)).h (v22 (GG m c) R (rowL m) (rowM m m) m (m + m)) (Si3 (GG m c) R (rowL m) (rowM m m) m (m + m) (fun _ => undef)).h :=
  con22 (M := []) (N := []) (D := []) (d := 0) (q := 0) (i := 0) (s := 0) (m := m) (n := m + m) (by omega) (g_Si0 (i := 0) (s := 0) hR (rowL_st (Nat.le_refl _)) (Nat.le_of_lt (lt_OFF (by omega))) (fam_K c m) _)
    (g_Si3 (M := []) (N := []) (D := []) (d := 0) (q := 0) (i := 0) (s := 0) (G0 := noF) hR (rowL_st (by omega)) AllSt.nil AllSt.nil (rowM_st (by omega)) AllInt.nil (Nat.le_of_lt (lt_OFF (by omega))) (fam_K _ _) _) (simp_all hR lR k2 k5 hc _)
theorem hn_simp : HN (Si0 (famOf c m) R (rowL m) m (fun _ => undef)).h (Si3 (GG m c) R (rowL m) (rowM m m) m (m + m) (fun _ => undef)).h :=
  good_hn (g_Si3 (M := []) (N := []) (D := []) (d := 0) (q := 0) (i := 0) (s := 0) (G0 := noF) hR (rowL_st (by omega)) AllSt.nil AllSt.nil (rowM_st (by omega)) AllInt.nil (Nat.le_of_lt (lt_OFF (by omega))) (fam_K _ _) _) ⟨Nat.le_of_ble_eq_true (by kernel_rfl), Nat.le_add_right _ _⟩

/-! ### node -/
noncomputable def HNd (R : List Value) (m : Nat) (c : Nat → Int) : Nat → (Nat → Value) → St
  | 0 => Nd7 (GG m c) R (rowL m) (rowM m m) m (m + m)
  | i + 1 => NdB (GG m c) R (rowL m) (rowM m m) (inst c (i + 1)) m (m + m) (i + 1 + 1) ((i + 1 : Nat) : Int)
theorem node_round (i : Nat) (hi : i < m) (j : Nat → Value) : SX Tryz.prog 4107 (.seq f24r8 (.seq (.cond (.tmp 30) .skip (.exit 1)) (.seq (.block 2 (.seq f24r9 f24r10)) f24r11))) (HNd R m c i j) (To .normal (HNd R m c (i + 1))) := by
  have lL := rowL_len m
  have lM := rowM_len m m
  have hL : AllSt (famD 0 (m + m)) (rowL m) := rowL_st (by omega)
  have hM : AllSt (famD 0 (m + m)) (rowM m m) := rowM_st (by omega)
  have hn : m + m < OFF := lt_OFF (by omega)
  have hF := fam_K (dbl m c) (m + m)
  have e : dbl m c (m + i) = c i := dbl_hi
  have m2 : loadH (GG m c) (OFF + (m + i)) 0 2 = some (.agg ⟨[.int .i64 (c i), .int .i64 (c i)]⟩) := by rw [← e]; exact fam_load _ (by omega)
  have m0 : load1H (GG m c) (OFF + (m + i)) 0 = some (.int .i64 (c i)) := by rw [← e]; exact fam_load0 _ (by omega)
  have m1 : load1H (GG m c) (OFF + (m + i)) 1 = some (.int .i64 (c i)) := by rw [← e]; exact fam_load1 _ (by omega)
  cases i with
  | zero => exact SX.toMono (nd_F R _ m _ _ hR lR (AllSt.up hL) lL k2 k5 hn (FamK.up hF) (rowM m m) (AllSt.up hM) lM (c 0) (m + 0) (by omega) (nrow_load0 _ (by omega)) m2 m0 m1 (hc 0 hi) j) (fun j => rfl)
  | succ i => exact SX.toMono (nd_R R _ m _ _ hR lR (AllSt.up hL) lL k2 k5 hn (FamK.up hF) (rowM m m) (AllSt.up hM) lM (inst c (i + 1)) (i + 1 + 1) ((i + 1 : Nat) : Int) (inst_int _ _) (inst_len _ _) (by omega) (by omega) (by omega) (c (i + 1)) (m + (i + 1)) (by omega) (nrow_load (fun k => m + k) (by omega) (by omega)) m2 m0 m1 (hc _ hi) j) (fun j => rfl)
theorem node_all (j : Nat → Value) : SX Tryz.prog 4107 f24.body (Nd0 (GG m c) R (rowL m) (rowM m m) m (m + m) j) (To .normal (NdX (GG m c) R (rowL m) (rowM m m) (inst c m) m (m + m) (m + 1))) := by
  have lL := rowL_len m
  have lM := rowM_len m m
  have hL : AllSt (famD 0 (m + m)) (rowL m) := rowL_st (by omega)
  have hM : AllSt (famD 0 (m + m)) (rowM m m) := rowM_st (by omega)
  have hn : m + m < OFF := lt_OFF (by omega)
  have hF := fam_K (dbl m c) (m + m)
  refine SX.next (nd_0 R _ m _ _ hR lR (AllSt.up hL) lL k2 k5 hn (FamK.up hF) _ (AllSt.up hM) lM j) fun j => SX.next (nd_1 R _ m _ _ hR lR (AllSt.up hL) lL k2 k5 hn (FamK.up hF) _ (AllSt.up hM) lM j) fun j => SX.next (nd_2 R _ m _ _ hR lR (AllSt.up hL) lL k2 k5 hn (FamK.up hF) _ (AllSt.up hM) lM j) fun j => SX.blockN ?_
  refine SX.next (nd_3 R _ m _ _ hR lR (AllSt.up hL) lL k2 k5 hn (FamK.up hF) _ (AllSt.up hM) lM j) fun j => SX.cond false (by kernel_rfl) ?_
  refine SX.next (nd_4 R _ m _ _ hR lR (AllSt.up hL) lL k2 k5 hn (FamK.up hF) _ (AllSt.up hM) lM j) fun j => SX.cond false (by kernel_rfl) ?_
  refine SX.next (nd_5 R _ m _ _ hR lR (AllSt.up hL) lL k2 k5 hn (FamK.up hF) _ (AllSt.up hM) lM j) fun j => SX.cond true (by kernel_rfl) ?_
  refine SX.next (nd_6 R _ m _ _ hR lR (AllSt.up hL) lL k2 k5 hn (FamK.up hF) _ (AllSt.up hM) lM j) fun j => ?_
  refine SX.range (HNd R m c) m (node_round hR lR k2 k5 hc) (fun j => ?_) j
  obtain ⟨k, rfl⟩ : ∃ k, m = k + 1 := ⟨m - 1, by omega⟩
  exact nd_X R _ (k + 1) _ _ hR lR (AllSt.up hL) lL k2 k5 hn (FamK.up hF) _ (AllSt.up hM) lM (inst c (k + 1)) (k + 1 + 1) ((k + 1 : Nat) : Int) (inst_int _ _) (inst_len _ _) (by omega) (by omega) (by omega) j
theorem con_node : Con Tryz.prog 24 (a24 (GG m c) R (rowL m) (rowM m m) m (m + m)) (Nd0 (GG m c) R (rowL m) (rowM m m) m (m + m) (fun _ => undef)).h undef (NdX (GG m c) R (rowL m) (rowM m m) (inst c m) m (m + m) (m + 1) (fun _ => undef)).h :=
  con24 (M := []) (N := []) (q := 0) (i := 0) (s := 0) (G0 := noF) (m := m) (n := m + m) (by omega) (g_Nd0 (M := []) (N := []) (D := []) (d := 0) (q := 0) (i := 0) (s := 0) (G0 := noF) hR (rowL_st (by omega)) AllSt.nil AllSt.nil (rowM_st (by omega)) AllInt.nil (Nat.le_of_lt (lt_OFF (by omega))) (fam_K _ _) _)
    (g_NdX (M := []) (N := []) (q := 0) (i := 0) (s := 0) (G0 := noF) hR (rowL_st (by omega)) AllSt.nil AllSt.nil (rowM_st (by omega)) (inst_int _ _) (Nat.le_of_lt (lt_OFF (by omega))) (fam_K _ _) _) (node_all hR lR k2 k5 hc _)
theorem hn_node : HN (Nd0 (GG m c) R (rowL m) (rowM m m) m (m + m) (fun _ => undef)).h (NdX (GG m c) R (rowL m) (rowM m m) (inst c m) m (m + m) (m + 1) (fun _ => undef)).h :=
  good_hn (g_NdX (M := []) (N := []) (q := 0) (i := 0) (s := 0) (G0 := noF) hR (rowL_st (by omega)) AllSt.nil AllSt.nil (rowM_st (by omega)) (inst_int _ _) (Nat.le_of_lt (lt_OFF (by omega))) (fam_K _ _) _) ⟨Nat.le_of_ble_eq_true (by kernel_rfl), Nat.le_refl _⟩

/-! ### Compile -/
noncomputable def T22 (R : List Value) (m : Nat) (c : Nat → Int) : Tbl := tbl.with1 Tryz.prog 22 (a22 (famOf c m) R (rowL m) m) (Si0 (famOf c m) R (rowL m) m (fun _ => undef)).h
  (v22 (GG m c) R (rowL m) (rowM m m) m (m + m), (Si3 (GG m c) R (rowL m) (rowM m m) m (m + m) (fun _ => undef)).h)
noncomputable def T24 (R : List Value) (m : Nat) (c : Nat → Int) : Tbl := tbl.with1 Tryz.prog 24 (a24 (GG m c) R (rowL m) (rowM m m) m (m + m)) (Nd0 (GG m c) R (rowL m) (rowM m m) m (m + m) (fun _ => undef)).h
  (undef, (NdX (GG m c) R (rowL m) (rowM m m) (inst c m) m (m + m) (m + 1) (fun _ => undef)).h)
theorem comp_all (j : Nat → Value) : SX Tryz.prog 4101 f9.body (Cm0 (famOf c m) R (rowL m) m j) (To .ret (Cm11 (GG m c) R (rowL m) (prg c m) m (m + m) (m + 3))) := by
  have lL := rowL_len m
  have lM := rowM_len m m
  have h0 : AllSt (famD 0 m) (rowL m) := rowL_st (by omega)
  have n0 : m < OFF := lt_OFF (by omega)
  have f0 := fam_K c m
  have hL : AllSt (famD 0 (m + m)) (rowL m) := rowL_st (by omega)
  have hM : AllSt (famD 0 (m + m)) (rowM m m) := rowM_st (by omega)
  have hn : m + m < OFF := lt_OFF (by omega)
  have hF := fam_K (dbl m c) (m + m)
  have hT : TblOk Tryz.prog (T22 R m c) := with1_ok ok mixed (con_simp hR lR k2 k5 hc) (hn_simp hR lR k2 k5 hc)
  have hT2 : TblOk Tryz.prog (T24 R m c) := with1_ok ok mixed (con_node hR lR k2 k5 hc) (hn_node hR lR k2 k5 hc)
  have l1 := inst_len c m
  have l2 : (inst c m ++ fin3 m).length = (m + 1 + 1) * 5 := by rw [List.length_append, l1]; show (m + 1) * 5 + 5 = _; omega
  have l3 : ((inst c m ++ fin3 m) ++ fin5 m).length = (m + 1 + 1 + 1) * 5 := by rw [List.length_append, l2]; show (m + 1 + 1) * 5 + 5 = _; omega
  have i1 := inst_int c m
  have i2 := i1.append (fin3_int m)
  have i3 := i2.append (fin5_int m)
  refine SX.next (cm_0 R _ m _ hR lR (AllSt.up h0) lL k2 k5 n0 (FamK.up f0) j) fun j => SX.next (cm_1 (T22 R m c) hT R _ m _ _ hR lR (AllSt.up hL) lL k2 k5 hn (FamK.up hF) _ (AllSt.up hM) lM (famOf c m) with1_at j) fun j => ?_
  refine SX.next (cm_2 R _ m _ _ hR lR (AllSt.up hL) lL k2 k5 hn (FamK.up hF) _ (AllSt.up hM) lM j) fun j => SX.next (cm_3 R _ m _ _ hR lR (AllSt.up hL) lL k2 k5 hn (FamK.up hF) _ (AllSt.up hM) lM j) fun j => SX.next (cm_4 R _ m _ _ hR lR (AllSt.up hL) lL k2 k5 hn (FamK.up hF) _ (AllSt.up hM) lM j) fun j => ?_
  refine SX.next (cm_5 (T24 R m c) hT2 R _ m _ _ hR lR (AllSt.up hL) lL k2 k5 hn (FamK.up hF) _ (AllSt.up hM) lM (inst c m) (m + 1) i1 l1 (by omega) (by omega) with1_at j) fun j => ?_
  refine SX.next (cm_6 R _ m _ _ hR lR (AllSt.up hL) lL k2 k5 hn (FamK.up hF) _ (AllSt.up hM) lM (inst c m) (m + 1) i1 l1 (by omega) (by omega) j) fun j => ?_
  refine SX.next (cm_7 R _ m _ _ hR lR (AllSt.up hL) lL k2 k5 hn (FamK.up hF) _ (AllSt.up hM) lM (inst c m ++ fin3 m) (m + 1 + 1) i2 l2 (by omega) (by omega) j) fun j => ?_
  refine SX.next (cm_8 R _ m _ _ hR lR (AllSt.up hL) lL k2 k5 hn (FamK.up hF) _ (AllSt.up hM) lM ((inst c m ++ fin3 m) ++ fin5 m) (m + 1 + 1 + 1) i3 l3 (by omega) (by omega) (((m + 1 + 1 + 1 : Nat) : Int) - 1) (by omega) (by omega) j) fun j => ?_
  refine SX.next (cm_9 R _ m _ _ hR lR (AllSt.up hL) lL k2 k5 hn (FamK.up hF) _ (AllSt.up hM) lM (prg c m) (m + 3) (prg_int _ _) (prg_len _ _) (by omega) (by omega) j) fun j => ?_
  exact cm_10 R _ m _ _ hR lR (AllSt.up hL) lL k2 k5 hn (FamK.up hF) _ (AllSt.up hM) lM (prg c m) (m + 3) (prg_int _ _) (prg_len _ _) (by omega) (by omega) j
/-- WHAT COMPILE ANSWERS -/
theorem con_comp : Con Tryz.prog 9 (a9 (famOf c m) R (rowL m) m) (Cm0 (famOf c m) R (rowL m) m (fun _ => undef)).h (v9 (GG m c) R (rowL m) (prg c m) m (m + m) (m + 3)) (Cm11 (GG m c) R (rowL m) (prg c m) m (m + m) (m + 3) (fun _ => undef)).h :=
  con9 (M := []) (N := []) (C := []) (q := 0) (i := 0) (s := 0) (m := m) (n := m + m) (by omega) (g_Cm0 (i := 0) (s := 0) hR (rowL_st (Nat.le_refl _)) (Nat.le_of_lt (lt_OFF (by omega))) (fam_K c m) _)
    (g_Cm11 (M := []) (N := []) (C := []) (q := 0) (i := 0) (s := 0) (G0 := noF) hR (rowL_st (by omega)) AllSt.nil AllSt.nil AllSt.nil (prg_int _ _) (Nat.le_of_lt (lt_OFF (by omega))) (fam_K _ _) _) (comp_all hR lR k2 k5 hc _)
theorem hn_comp : HN (Cm0 (famOf c m) R (rowL m) m (fun _ => undef)).h (Cm11 (GG m c) R (rowL m) (prg c m) m (m + m) (m + 3) (fun _ => undef)).h :=
  good_hn (g_Cm11 (M := []) (N := []) (C := []) (q := 0) (i := 0) (s := 0) (G0 := noF) hR (rowL_st (by omega)) AllSt.nil AllSt.nil AllSt.nil (prg_int _ _) (Nat.le_of_lt (lt_OFF (by omega))) (fam_K _ _) _) ⟨Nat.le_of_ble_eq_true (by kernel_rfl), Nat.le_add_right _ _⟩
end
end Go.Am.Zd
