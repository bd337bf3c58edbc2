import Derived.Test.YtikphefllmemjaaGreatZu2r
import Derived.Test.YtikphefllmemjaaGreatZx1
/-
PikeAny: what coding.Decode answers to a text that begins with 'x'.
-/
namespace Go.Am.Zt
open Go Go.Am Go.Proofs
set_option linter.unusedVariables false
set_option maxRecDepth 100000

theorem SX.next {K : Nat} {a b : ICode} {S1 S2 : (Nat → Value) → St} {B : IEx → St → Prop} (h : ∀ j, SX Tryz.prog K a (S1 j) (fun e st => e = .normal ∧ ∃ j, st = S2 j)) (k : ∀ j, SX Tryz.prog K b (S2 j) B) : ∀ j, SX Tryz.prog K (.seq a b) (S1 j) B :=
  fun j => SX.seq (h j) (fun st1 ⟨_, j', e⟩ => e ▸ k j') (fun e st1 hne hB => absurd hB.1 hne)

def rep (v : Int) : Int := if v < 0 then 65533 else v
/-- the heap behind coding.Decode -/
def dlr (q1 q2 : Int) (w1 p2 bd : Int) (R Q : List Value) (r : Nat) : List (Nat × VObj) := ([(4096, (.cells [(.int .i64 q1), (.int .i64 q2)] 3 (some 1) 0)), (4097, (.cells [(.int .i64 1), (.slice (some ⟨4098, 0, none⟩) r r), (.slice (some ⟨4099, 0, none⟩) (r + 1) (r + 1)), (.int .i64 bd)] 34 none 0)), (4100, (.cells [(.int .i64 0), (.int .i64 0)] 37 none 0))] ++ [(4098, (.cells ((.int .i64 120) :: (.int .i64 w1) :: R) 3 (some 1) 0)), (4099, (.cells ((.int .i64 0) :: (.int .i64 1) :: (.int .i64 p2) :: Q) 3 (some 1) 0))])
def dvr (bd : Int) (r : Nat) : Value := .tuple ⟨[.agg ⟨[.int .i64 1, .slice (some ⟨4098, 0, none⟩) r r, .slice (some ⟨4099, 0, none⟩) (r + 1) (r + 1), .int .i64 bd]⟩, .agg ⟨[.int .i64 0, .int .i64 0]⟩]⟩


open Classical in
/-- the scalar at a place, and its width -/
noncomputable def nextW (d : ByteArray) (a : Int) : Int × Int := if k : ∃ p : Int × Int, U8 (strSub d a d.size) p.1 p.2 ∧ -1 ≤ p.1 ∧ p.1 < 2097152 ∧ 1 ≤ p.2 ∧ p.2 ≤ d.size - a then k.choose else (0, 0)
theorem Xs.nextW {d : ByteArray} (h : Xs d) (a : Int) (h0 : 0 ≤ a) (h1 : a < d.size) : U8 (strSub d a d.size) (nextW d a).1 (nextW d a).2 ∧ -1 ≤ (nextW d a).1 ∧ (nextW d a).1 < 2097152 ∧ 1 ≤ (nextW d a).2 ∧ (nextW d a).2 ≤ d.size - a := by
  obtain ⟨w, m, k1, _, k2, k3, k4, k5⟩ := h.next a h0 h1
  have k : ∃ p : Int × Int, U8 (strSub d a d.size) p.1 p.2 ∧ -1 ≤ p.1 ∧ p.1 < 2097152 ∧ 1 ≤ p.2 ∧ p.2 ≤ d.size - a := ⟨(w, m), k1, k2, k3, k4, k5⟩
  unfold Zt.nextW
  rw [dif_pos k]
  exact k.choose_spec
/-- what is laid from a place on -/
noncomputable def laid (d : ByteArray) : Nat → Int → List Value → List Value → Int → List Value × List Value × Int
  | 0, _, R, L, bd => (R, L, bd)
  | k + 1, a, R, L, bd => if a < d.size then laid d k (a + (nextW d a).2) (R ++ [.int .i64 (rep (nextW d a).1)]) (L ++ [.int .i64 a]) (bd + (if (nextW d a).1 < 0 then 1 else 0)) else (R, L, bd)
def bad0 (v : Int) : Int := if v < 0 then 1 else 0

theorem loopDr (q1 q2 : Int) {d : ByteArray} {v n : Int} (F : List Value × List Value × Int) (hF : laid d d.size (1 + n) [] [] (bad0 v) = F) (h : Xs d) (hu : U8 (strSub d 1 d.size) v n) (hv : -1 ≤ v) (hn : 1 ≤ n) (hn2 : n ≤ d.size - 1) (j : Nat → Value) : SX Tryz.prog 4097 (.loop body11) (DL0r  d q1 q2 j) (fun e st => e = .exit 0 ∧
    ((1 + n = d.size ∧ F = ([], [], bad0 v) ∧ ∃ bd j, bd = bad0 v ∧ 0 ≤ bd ∧ bd ≤ 999999 ∧ st = DX2r d q1 q2 120 (rep v) 1 bd j) ∨
     ∃ (R Q : List Value) (r : Nat) (bd : Int) (j : Nat → Value), AllInt R ∧ AllInt Q ∧ R.length + 2 = r ∧ Q.length + 3 = r ∧ r ≤ 999999 ∧ F = (R, .int .i64 (1 + n) :: Q, bd) ∧ 0 ≤ bd ∧ bd ≤ 999999 ∧ st = DXHr d R Q r q1 q2 120 (rep v) 1 (1 + n) bd j)) := by
  have hz := h.size
  have hz2 := h.small
  refine SX.loop (fun k st => (k = d.size + 1 ∧ ∃ j, st = DL0r d q1 q2 j) ∨
    (k = d.size ∧ ∃ j, st = DL1r d q1 q2 120 0 1 j) ∨
    (k = d.size - n.toNat ∧ ∃ bd j, bd = bad0 v ∧ 0 ≤ bd ∧ bd ≤ 1 ∧ st = DL2r d q1 q2 120 (rep v) 1 bd (1 + n) j) ∨
    (∃ (a : Nat) (R Q : List Value) (r : Nat) (bd : Int) (j : Nat → Value), a ≤ d.size ∧ n < a ∧ r ≤ a ∧ bd ≤ a ∧ 0 ≤ bd ∧ k = d.size + 1 - a ∧ AllInt R ∧ AllInt Q ∧ R.length + 2 = r ∧ Q.length + 3 = r ∧ (∃ f : Nat, d.size ≤ f + a ∧ laid d f a R (.int .i64 (1 + n) :: Q) bd = F) ∧ st = DHr d R Q r q1 q2 120 (rep v) 1 (1 + n) bd a j)) ?_ (n := d.size + 1) (.inl ⟨rfl, j, rfl⟩)
  rintro k st (⟨rfl, j, rfl⟩ | ⟨rfl, j, rfl⟩ | ⟨rfl, bd, j, hbd, b0, b1, rfl⟩ | ⟨a, R, Q, r, bd, j, ha, hna, hra, hba, hb0, rfl, hR, hQ, hr, hq, ⟨f, hf, hfin⟩, rfl⟩)
  · refine SX.mono (e0r q1 q2 d (by omega) 120 1 h.u8 (by omega) (by omega) (by omega) (by omega) j) ?_
    rintro e st ⟨rfl, j, rfl⟩
    exact .inl ⟨rfl, d.size, by omega, .inr (.inl ⟨rfl, j, by kernel_rfl⟩)⟩
  · by_cases hneg : v < 0
    · refine SX.mono (e1br q1 q2 d (by omega) 0 1 (by omega) (by omega) (by omega) 120 0 0 0 0 v n hu hneg (by omega) (by omega) (by omega) j) ?_
      rintro e st ⟨rfl, j, rfl⟩
      have e1 : rep v = 65533 := if_pos hneg
      rw [e1]
      exact .inl ⟨rfl, d.size - n.toNat, by omega, .inr (.inr (.inl ⟨rfl, 1, j, (if_pos hneg).symm, by omega, by omega, by kernel_rfl⟩))⟩
    · refine SX.mono (e1r q1 q2 d (by omega) 0 1 (by omega) (by omega) (by omega) 120 0 0 0 0 v n hu (by omega) (by omega) (by omega) (by omega) j) ?_
      rintro e st ⟨rfl, j, rfl⟩
      have e1 : rep v = v := if_neg hneg
      rw [e1]
      exact .inl ⟨rfl, d.size - n.toNat, by omega, .inr (.inr (.inl ⟨rfl, 0, j, (if_neg hneg).symm, by omega, by omega, by kernel_rfl⟩))⟩
  · by_cases hend : 1 + n < d.size
    · obtain ⟨hw, hwa, hwb, hwc, hwd⟩ := h.nextW (1 + n) (by omega) hend
      have hfin : laid d (d.size - 1) (1 + n + (nextW d (1 + n)).2) [.int .i64 (rep (nextW d (1 + n)).1)] [.int .i64 (1 + n)] (bad0 v + (if (nextW d (1 + n)).1 < 0 then 1 else 0)) = F := by
        rw [← hF]
        obtain ⟨z, ez⟩ : ∃ z, d.size = z + 1 := ⟨d.size - 1, by omega⟩
        have hz1 : d.size - 1 = z := by omega
        have : laid d d.size (1 + n) [] [] (bad0 v) = laid d (z + 1) (1 + n) [] [] (bad0 v) := congrArg (fun k => laid d k (1 + n) [] [] (bad0 v)) ez
        rw [this, hz1]
        simp only [laid]
        rw [if_pos hend]
        rfl
      generalize nextW d (1 + n) = wm at hw hwa hwb hwc hwd hfin
      obtain ⟨w, m⟩ := wm
      simp only at hw hwa hwb hwc hwd hfin
      by_cases hneg : w < 0
      · refine SX.mono (e2br q1 q2 d (by omega) bd (1 + n) b0 (by omega) (by omega) 120 (rep v) 0 1 0 w m hw hneg (by omega) (by omega) hend j) ?_
        rintro e st ⟨rfl, j, rfl⟩
        have e2 : ((1 + n + m).toNat : Int) = 1 + n + m := by omega
        refine .inl ⟨rfl, d.size + 1 - (1 + n + m).toNat, by omega, .inr (.inr (.inr ⟨(1 + n + m).toNat, [.int .i64 65533], [], 3, bd + 1, j, by omega, by omega, by omega, by omega, by omega, rfl, AllInt.nil.cons, AllInt.nil, rfl, rfl, ⟨d.size - 1, by omega, ?_⟩, ?_⟩))⟩
        · rw [e2, hbd]
          rw [if_pos hneg] at hfin
          rw [show rep w = 65533 from if_pos hneg] at hfin
          exact hfin
        · rw [e2]
          kernel_rfl
      · refine SX.mono (e2r q1 q2 d (by omega) bd (1 + n) b0 (by omega) (by omega) 120 (rep v) 0 1 0 w m hw (by omega) (by omega) (by omega) hend j) ?_
        rintro e st ⟨rfl, j, rfl⟩
        have e2 : ((1 + n + m).toNat : Int) = 1 + n + m := by omega
        refine .inl ⟨rfl, d.size + 1 - (1 + n + m).toNat, by omega, .inr (.inr (.inr ⟨(1 + n + m).toNat, [.int .i64 w], [], 3, bd, j, by omega, by omega, by omega, by omega, by omega, rfl, AllInt.nil.cons, AllInt.nil, rfl, rfl, ⟨d.size - 1, by omega, ?_⟩, ?_⟩))⟩
        · rw [e2, hbd]
          rw [if_neg hneg, Int.add_zero] at hfin
          rw [show rep w = w from if_neg hneg] at hfin
          exact hfin
        · rw [e2]
          kernel_rfl
    · refine SX.mono (x2r q1 q2 d (by omega) bd (1 + n) b0 (by omega) (by omega) 120 (rep v) 0 1 0 hend j) ?_
      rintro e st ⟨rfl, j, rfl⟩
      have hsz : 1 + n = d.size := by omega
      have hF2 : F = ([], [], bad0 v) := by
        rw [← hF]
        obtain ⟨z, ez⟩ : ∃ z, d.size = z + 1 := ⟨d.size - 1, by omega⟩
        have : laid d d.size (1 + n) [] [] (bad0 v) = laid d (z + 1) (1 + n) [] [] (bad0 v) := congrArg (fun k => laid d k (1 + n) [] [] (bad0 v)) ez
        rw [this]
        simp only [laid]
        rw [if_neg hend]
      exact .inr ⟨by simp, rfl, .inl ⟨hsz, hF2, bd, j, hbd, b0, by omega, rfl⟩⟩
  · by_cases hend : (a : Int) < d.size
    · obtain ⟨hw, hwa, hwb, hwc, hwd⟩ := h.nextW a (by omega) hend
      obtain ⟨f, rfl⟩ : ∃ f', f = f' + 1 := ⟨f - 1, by omega⟩
      simp only [laid] at hfin
      rw [if_pos hend] at hfin
      generalize nextW d a = wm at hw hwa hwb hwc hwd hfin
      obtain ⟨w, m⟩ := wm
      simp only at hw hwa hwb hwc hwd hfin
      by_cases hneg : w < 0
      · refine SX.mono (eHbr q1 q2 d (by omega) bd a hb0 (by omega) (by omega) 120 (rep v) 0 1 (1 + n) R Q r hR hQ hr hq (by omega) w m hw hneg (by omega) (by omega) hend j) ?_
        rintro e st ⟨rfl, j, rfl⟩
        have e2 : ((a + m.toNat : Nat) : Int) = a + m := by omega
        refine .inl ⟨rfl, d.size + 1 - (a + m.toNat), by omega, .inr (.inr (.inr ⟨a + m.toNat, _, _, r + 1, bd + 1, j, by omega, by omega, by omega, by omega, by omega, rfl, hR.snoc, hQ.snoc, ?_, ?_, ⟨f, by omega, ?_⟩, by rw [e2]⟩))⟩
        · simp; omega
        · simp; omega
        · rw [e2]
          rw [if_pos hneg] at hfin
          rw [show rep w = 65533 from if_pos hneg] at hfin
          exact hfin
      · refine SX.mono (eHr q1 q2 d (by omega) bd a hb0 (by omega) (by omega) 120 (rep v) 0 1 (1 + n) R Q r hR hQ hr hq (by omega) w m hw (by omega) (by omega) (by omega) hend j) ?_
        rintro e st ⟨rfl, j, rfl⟩
        have e2 : ((a + m.toNat : Nat) : Int) = a + m := by omega
        refine .inl ⟨rfl, d.size + 1 - (a + m.toNat), by omega, .inr (.inr (.inr ⟨a + m.toNat, _, _, r + 1, bd, j, by omega, by omega, by omega, by omega, by omega, rfl, hR.snoc, hQ.snoc, ?_, ?_, ⟨f, by omega, ?_⟩, by rw [e2]⟩))⟩
        · simp; omega
        · simp; omega
        · rw [e2]
          rw [if_neg hneg, Int.add_zero] at hfin
          rw [show rep w = w from if_neg hneg] at hfin
          exact hfin
    · refine SX.mono (xHr q1 q2 d (by omega) bd a hb0 (by omega) (by omega) 120 (rep v) 0 1 (1 + n) R Q r hR hQ hr hq (by omega) hend j) ?_
      rintro e st ⟨rfl, j, rfl⟩
      have hF2 : F = (R, .int .i64 (1 + n) :: Q, bd) := by
        rw [← hfin]
        cases f with
        | zero => rfl
        | succ z =>
          simp only [laid]
          rw [if_neg hend]
      exact .inr ⟨by simp, rfl, .inr ⟨R, Q, r, bd, j, hR, hQ, hr, hq, by omega, hF2, hb0, by omega, rfl⟩⟩

def GoodDr (q1 q2 : Int) (d : ByteArray) (w1 p2 : Int) (F : List Value × List Value × Int) (e : IEx) (st : St) : Prop := (AllInt F.1 ∧ AllInt (F.2.1 ++ [Value.int .i64 (d.size : Int)]).tail ∧ (F.2.1 ++ [Value.int .i64 (d.size : Int)]).tail.length = F.1.length) ∧
  (e = .normal ∨ e = .ret) ∧ st.ds = [] ∧ (resVs st.h st.tmps f11.results).map packV = some (dvr F.2.2 (F.1.length + 2)) ∧ st.h = mkH 4101 (dlr q1 q2 w1 p2 F.2.2 F.1 (F.2.1 ++ [Value.int .i64 (d.size : Int)]).tail (F.1.length + 2))

theorem decoder (q1 q2 : Int) {d : ByteArray} {v n : Int} (F : List Value × List Value × Int) (hF : laid d d.size (1 + n) [] [] (bad0 v) = F) (h : Xs d) (hu : U8 (strSub d 1 d.size) v n) (hv : -1 ≤ v) (hn : 1 ≤ n) (hn2 : n ≤ d.size - 1) (j : Nat → Value) :
    SX Tryz.prog 4097 f11.body (D0r d q1 q2 j) (GoodDr q1 q2 d (rep v) (1 + n) F) := by
  have hz := h.size
  have hz2 := h.small
  refine SX.next (d0r q1 q2 d (by omega)) (SX.next (d1r q1 q2 d (by omega)) (SX.next (d2r q1 q2 d (by omega)) (SX.next (d3r q1 q2 d (by omega)) (SX.next (d4r q1 q2 d (by omega)) (SX.next (S2 := D6r d q1 q2) ?_ (SX.next (d6r q1 q2 d (by omega)) ?_)))))) j
  · intro j
    by_cases h3 : d.size < 3
    · refine SX.mono (d5sr q1 q2 d (by omega) h3 j) ?_
      rintro e st ⟨rfl, j, rfl⟩
      exact ⟨rfl, j, by kernel_rfl⟩
    · refine SX.mono (d5lr q1 q2 d (by omega) (by omega) (h.noMark (by omega)) j) ?_
      rintro e st ⟨rfl, j, rfl⟩
      exact ⟨rfl, j, by kernel_rfl⟩
  intro j
  refine SX.seq (SX.block (loopDr q1 q2 F hF h hu hv hn hn2 j) (B := fun e st => e = .normal ∧ ((1 + n = d.size ∧ F = ([], [], bad0 v) ∧ ∃ bd j, bd = bad0 v ∧ 0 ≤ bd ∧ bd ≤ 999999 ∧ st = DX2r d q1 q2 120 (rep v) 1 bd j) ∨
     ∃ (R Q : List Value) (r : Nat) (bd : Int) (j : Nat → Value), AllInt R ∧ AllInt Q ∧ R.length + 2 = r ∧ Q.length + 3 = r ∧ r ≤ 999999 ∧ F = (R, .int .i64 (1 + n) :: Q, bd) ∧ 0 ≤ bd ∧ bd ≤ 999999 ∧ st = DXHr d R Q r q1 q2 120 (rep v) 1 (1 + n) bd j)) ?_) ?_ (fun e st hne hB => absurd hB.1 hne)
  · rintro e st ⟨rfl, h⟩
    exact ⟨rfl, h⟩
  rintro st ⟨_, ⟨he, rfl, bd, j, rfl, b0, b1, rfl⟩ | ⟨R, Q, r, bd, j, hR, hQ, rfl, hq, hrr, rfl, b0, b1, rfl⟩⟩
  · refine SX.sub (y2r q1 q2 d (by omega) (bad0 v) 0 b0 (by omega) (by omega) 120 (rep v) 0 1 0 j) ?_
    rintro e st ⟨rfl, j, rfl⟩
    rw [he]
    exact ⟨dlr q1 q2 (rep v) d.size (bad0 v) [] [] 2, by kernel_rfl, ⟨AllInt.nil, AllInt.nil, rfl⟩, .inr rfl, rfl, by kernel_rfl, by kernel_rfl⟩
  · refine SX.sub (yHr q1 q2 d (by omega) bd 0 b0 (by omega) (by omega) 120 (rep v) 0 1 (1 + n) R Q (R.length + 2) hR hQ rfl hq (by omega) j) ?_
    rintro e st ⟨rfl, j, rfl⟩
    exact ⟨dlr q1 q2 (rep v) (1 + n) bd R (Q ++ [.int .i64 d.size]) (R.length + 2), by kernel_rfl, ⟨hR, hQ.snoc, by show (Q ++ [Value.int .i64 d.size]).length = R.length; rw [List.length_append]; simp only [List.length_cons, List.length_nil]; omega⟩, .inr rfl, rfl, by kernel_rfl, by kernel_rfl⟩
end Go.Am.Zt
