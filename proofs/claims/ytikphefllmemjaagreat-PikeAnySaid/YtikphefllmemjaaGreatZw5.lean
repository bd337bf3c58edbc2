import Derived.Test.YtikphefllmemjaaGreatZw1

import Derived.Test.YtikphefllmemjaaGreatZw3
import Derived.Test.YtikphefllmemjaaGreatZw4
import Derived.Test.YtikphefllmemjaaGreatZx1
/-
PikeAny: what pike.Run answers with the program of '(?s).'.
-/
namespace Go.Am.Zt
open Go Go.Am Go.Proofs
set_option linter.unusedVariables false
set_option maxRecDepth 100000

theorem gl_le {B : Int} : ∀ {l : List Int}, (∀ x ∈ l, x ≤ B) → 0 ≤ B → ∀ k, gl l k ≤ B := by
  intro l h h0 k
  unfold gl
  rw [List.getD_eq_getElem?_getD]
  cases e : l[k]? with
  | none => exact h0
  | some v => exact h v (List.mem_of_getElem? e)
def AllLe : List Int → Int → Prop
  | [], _ => True
  | x :: l, B => x ≤ B ∧ AllLe l B
theorem AllLe.mem {B : Int} : ∀ {l : List Int}, AllLe l B → ∀ x ∈ l, x ≤ B
  | [], _, x, h => by simp at h
  | y :: l, h, x, hx => by
    rcases List.mem_cons.1 hx with rfl | hx
    · exact h.1
    · exact AllLe.mem h.2 x hx
def Bnd (i : Int) (c d : Nat → Int) : Prop := (∀ k, c k ≤ i + 1) ∧ (∀ k, d k ≤ i)
/-- the byte there lies between -/
def fits (s : ByteArray) (lo hi i : Int) : Prop := i < s.size ∧ lo ≤ byteAt s i ∧ byteAt s i ≤ hi
theorem fits_not {s : ByteArray} {lo hi i : Int} (h : ¬ fits s lo hi i) (hle : i ≤ s.size) : i = s.size ∨ (i < s.size ∧ byteAt s i < lo) ∨ (i < s.size ∧ ¬ byteAt s i < lo ∧ hi < byteAt s i) := by
  unfold fits at h
  omega
section
variable {s : ByteArray} {fr : Int}
def InE (s : ByteArray) (fr i : Int) (st : St) : Prop := (∃ u q c d j, Bnd i c d ∧ st = CE s fr u q i c d j) ∨ (∃ t u q c d j, Bnd i c d ∧ st = EA s fr t u q i c d j) ∨ (∃ t u q c d j, Bnd i c d ∧ st = EB s fr t u q i c d j)
def InG (s : ByteArray) (fr x i : Int) (st : St) : Prop := (∃ t u q c d j, Bnd i c d ∧ st = GA s fr t u x q i c d j) ∨ (∃ t u q c d j, Bnd i c d ∧ st = GB s fr t u x q i c d j)
def InM (s : ByteArray) (fr x i : Int) (st : St) : Prop := (∃ u q c d j, Bnd i c d ∧ st = CM s fr 45 u x q i c d j) ∨ (∃ u q c d j, Bnd i c d ∧ st = MB s fr 45 u x q i c d j) ∨ (∃ u q c d j, Bnd i c d ∧ st = MA2 s fr 45 u x q i c d j)
def InA (s : ByteArray) (fr t i : Int) (st : St) : Prop := ∃ u q c d j, Bnd i c d ∧ st = CA s fr t u q i c d j
def InB (s : ByteArray) (fr t i : Int) (st : St) : Prop := ∃ u q c d j, Bnd i c d ∧ st = HB s fr t u q i c d j
def InA2 (s : ByteArray) (fr t i : Int) (st : St) : Prop := ∃ u q c d j, Bnd i c d ∧ st = HA2 s fr t u q i c d j
/-- the loop is left so: with a match that ends there, or without -/
def Res (s : ByteArray) (fr : Int) (o : Option Int) (e : IEx) (st : St) : Prop := e = .exit 0 ∧ match o with | none => ∃ j, st = XCE s fr j | some x => ∃ j, st = XGA s fr x j
structure Sm (s : ByteArray) (fr : Int) : Prop where
  small : s.size ≤ 9223372036854775000
  lo : 0 ≤ fr
  hi : fr ≤ s.size

theorem fromE (h : Sm s fr) {i : Int} (hi : fr < i) {st : St} (k : InE s fr i st) : SXR Tryz.prog 4098 1 bodyA st (Res s fr none) := by
  have h1 := h.small
  have h2 := h.lo
  have fin : ∀ e st, (e = IEx.exit 0 ∧ ∃ j, st = XCE s fr j) → e ≠ .normal ∧ Res s fr none e st := fun e st ⟨h1, h2⟩ => ⟨by rw [h1]; simp, h1, h2⟩
  by_cases hx : i ≤ s.size
  · rcases k with ⟨u, q, c, d, j, hb, rfl⟩ | ⟨t, u, q, c, d, j, hb, rfl⟩ | ⟨t, u, q, c, d, j, hb, rfl⟩
    · exact SXR.last (CE_y s fr 0 u 0 0 q i c d h1 h2 hi hb.1 hb.2 hx j) fin
    · exact SXR.last (EA_y s fr t u 0 0 q i c d h1 h2 hi hb.1 hb.2 hx j) fin
    · exact SXR.last (EB_y s fr t u 0 0 q i c d h1 h2 hi hb.1 hb.2 hx j) fin
  · have hx : (s.size : Int) < i := by omega
    rcases k with ⟨u, q, c, d, j, hb, rfl⟩ | ⟨t, u, q, c, d, j, hb, rfl⟩ | ⟨t, u, q, c, d, j, hb, rfl⟩
    · exact SXR.last (CE_x s fr 0 u 0 0 q i c d h1 h2 hi hb.1 hb.2 hx j) fin
    · exact SXR.last (EA_x s fr t u 0 0 q i c d h1 h2 hi hb.1 hb.2 hx j) fin
    · exact SXR.last (EB_x s fr t u 0 0 q i c d h1 h2 hi hb.1 hb.2 hx j) fin
theorem fromG (h : Sm s fr) {i x : Int} (hi : fr < i) {st : St} (k : InG s fr x i st) : SXR Tryz.prog 4098 1 bodyA st (Res s fr (some x)) := by
  have h1 := h.small
  have h2 := h.lo
  have fin : ∀ e st, (e = IEx.exit 0 ∧ ∃ j, st = XGA s fr x j) → e ≠ .normal ∧ Res s fr (some x) e st := fun e st ⟨h1, h2⟩ => ⟨by rw [h1]; simp, h1, h2⟩
  by_cases hx : i ≤ s.size
  · rcases k with ⟨t, u, q, c, d, j, hb, rfl⟩ | ⟨t, u, q, c, d, j, hb, rfl⟩
    · exact SXR.last (GA_y s fr t u 0 x q i c d h1 h2 hi hb.1 hb.2 hx j) fin
    · exact SXR.last (GB_y s fr t u 0 x q i c d h1 h2 hi hb.1 hb.2 hx j) fin
  · have hx : (s.size : Int) < i := by omega
    rcases k with ⟨t, u, q, c, d, j, hb, rfl⟩ | ⟨t, u, q, c, d, j, hb, rfl⟩
    · exact SXR.last (GA_x s fr t u 0 x q i c d h1 h2 hi hb.1 hb.2 hx j) fin
    · exact SXR.last (GB_x s fr t u 0 x q i c d h1 h2 hi hb.1 hb.2 hx j) fin
theorem swapB {i : Int} {c d : Nat → Int} (h : Bnd i c d) : Bnd (i + 1) d c := ⟨fun k => by have := h.2 k; omega, fun k => h.1 k⟩
theorem fromM (h : Sm s fr) {i x : Int} (hi : fr < i) (hi2 : i ≤ s.size) {st : St} (k : InM s fr x i st) : SXR Tryz.prog 4098 2 bodyA st (Res s fr (some x)) := by
  have h1 := h.small
  have h2 := h.lo
  rcases k with ⟨u, q, c, d, j, hb, rfl⟩ | ⟨u, q, c, d, j, hb, rfl⟩ | ⟨u, q, c, d, j, hb, rfl⟩
  · refine SXR.step (CM_m s fr 0 u x 0 q i c d h1 h2 hi hb.1 hb.2 hi2 j) ?_ (fun e st hne hB => absurd hB.1 hne)
    rintro st ⟨_, j, rfl⟩
    exact fromG h (by omega) (.inl ⟨_, _, _, _, _, j, swapB hb, rfl⟩)
  · refine SXR.step (MB_m s fr 0 u x 0 q i c d h1 h2 hi hb.1 hb.2 hi2 j) ?_ (fun e st hne hB => absurd hB.1 hne)
    rintro st ⟨_, j, rfl⟩
    exact fromG h (by omega) (.inr ⟨_, _, _, _, _, j, swapB hb, rfl⟩)
  · refine SXR.step (MA2_m s fr 0 u x 0 q i c d h1 h2 hi hb.1 hb.2 hi2 j) ?_ (fun e st hne hB => absurd hB.1 hne)
    rintro st ⟨_, j, rfl⟩
    exact fromG h (by omega) (.inl ⟨_, _, _, _, _, j, swapB hb, rfl⟩)

theorem ok_A6 (h : Sm s fr) {i : Int} (hi : fr < i) (g : fits s 128 191 i) {st : St} (k : InA s fr 6 i st) : SX Tryz.prog 4098 bodyA st (fun e st => e = .normal ∧ InM s fr (i + 1) (i + 1) st) := by
  obtain ⟨u, q, c, d, j, hb, rfl⟩ := k
  refine SX.mono (CA_6_ok s fr 0 u 0 0 q i c d h.small h.lo hi hb.1 hb.2 g.1 g.2.1 g.2.2 j) ?_
  rintro e st ⟨rfl, j, rfl⟩
  have hd := hb.2
  have h0 := h.lo
  refine ⟨rfl, .inr (.inl ⟨_, _, _, _, j, ⟨?_, hb.1⟩, rfl⟩)⟩
  exact gl_le (AllLe.mem (by repeat' (first | exact trivial | refine ⟨?_, ?_⟩ | exact Int.le_trans (hd _) (by omega) | exact Int.le_refl _ | omega))) (by omega)
theorem no_A6 (h : Sm s fr) {i : Int} (hi : fr < i) (hi2 : i ≤ s.size) (g : ¬ fits s 128 191 i) {st : St} (k : InA s fr 6 i st) : SX Tryz.prog 4098 bodyA st (fun e st => e = .normal ∧ InE s fr (i + 1) st) := by
  obtain ⟨u, q, c, d, j, hb, rfl⟩ := k
  rcases fits_not g hi2 with hx | ⟨hx, hl⟩ | ⟨hx, hl, hh⟩
  · refine SX.mono (CA_6_x s fr 0 u 0 0 q i c d h.small h.lo hi hb.1 hb.2 hx j) ?_
    rintro e st ⟨rfl, j, rfl⟩
    exact ⟨rfl, .inr (.inl ⟨_, _, _, _, _, j, swapB hb, rfl⟩)⟩
  · refine SX.mono (CA_6_l s fr 0 u 0 0 q i c d h.small h.lo hi hb.1 hb.2 hx hl (byteAt_lo s i) j) ?_
    rintro e st ⟨rfl, j, rfl⟩
    exact ⟨rfl, .inr (.inl ⟨_, _, _, _, _, j, swapB hb, rfl⟩)⟩
  · refine SX.mono (CA_6_h s fr 0 u 0 0 q i c d h.small h.lo hi hb.1 hb.2 hx hh (byteAt_hi s i) j) ?_
    rintro e st ⟨rfl, j, rfl⟩
    exact ⟨rfl, .inr (.inl ⟨_, _, _, _, _, j, swapB hb, rfl⟩)⟩
theorem ok_A10 (h : Sm s fr) {i : Int} (hi : fr < i) (g : fits s 160 191 i) {st : St} (k : InA s fr 10 i st) : SX Tryz.prog 4098 bodyA st (fun e st => e = .normal ∧ InB s fr 11 (i + 1) st) := by
  obtain ⟨u, q, c, d, j, hb, rfl⟩ := k
  refine SX.mono (CA_10_ok s fr 0 u 0 0 q i c d h.small h.lo hi hb.1 hb.2 g.1 g.2.1 g.2.2 j) ?_
  rintro e st ⟨rfl, j, rfl⟩
  have hd := hb.2
  have h0 := h.lo
  refine ⟨rfl, ⟨_, _, _, _, j, ⟨?_, hb.1⟩, rfl⟩⟩
  exact gl_le (AllLe.mem (by repeat' (first | exact trivial | refine ⟨?_, ?_⟩ | exact Int.le_trans (hd _) (by omega) | exact Int.le_refl _ | omega))) (by omega)
theorem no_A10 (h : Sm s fr) {i : Int} (hi : fr < i) (hi2 : i ≤ s.size) (g : ¬ fits s 160 191 i) {st : St} (k : InA s fr 10 i st) : SX Tryz.prog 4098 bodyA st (fun e st => e = .normal ∧ InE s fr (i + 1) st) := by
  obtain ⟨u, q, c, d, j, hb, rfl⟩ := k
  rcases fits_not g hi2 with hx | ⟨hx, hl⟩ | ⟨hx, hl, hh⟩
  · refine SX.mono (CA_10_x s fr 0 u 0 0 q i c d h.small h.lo hi hb.1 hb.2 hx j) ?_
    rintro e st ⟨rfl, j, rfl⟩
    exact ⟨rfl, .inr (.inl ⟨_, _, _, _, _, j, swapB hb, rfl⟩)⟩
  · refine SX.mono (CA_10_l s fr 0 u 0 0 q i c d h.small h.lo hi hb.1 hb.2 hx hl (byteAt_lo s i) j) ?_
    rintro e st ⟨rfl, j, rfl⟩
    exact ⟨rfl, .inr (.inl ⟨_, _, _, _, _, j, swapB hb, rfl⟩)⟩
  · refine SX.mono (CA_10_h s fr 0 u 0 0 q i c d h.small h.lo hi hb.1 hb.2 hx hh (byteAt_hi s i) j) ?_
    rintro e st ⟨rfl, j, rfl⟩
    exact ⟨rfl, .inr (.inl ⟨_, _, _, _, _, j, swapB hb, rfl⟩)⟩
theorem ok_A15 (h : Sm s fr) {i : Int} (hi : fr < i) (g : fits s 128 191 i) {st : St} (k : InA s fr 15 i st) : SX Tryz.prog 4098 bodyA st (fun e st => e = .normal ∧ InB s fr 16 (i + 1) st) := by
  obtain ⟨u, q, c, d, j, hb, rfl⟩ := k
  refine SX.mono (CA_15_ok s fr 0 u 0 0 q i c d h.small h.lo hi hb.1 hb.2 g.1 g.2.1 g.2.2 j) ?_
  rintro e st ⟨rfl, j, rfl⟩
  have hd := hb.2
  have h0 := h.lo
  refine ⟨rfl, ⟨_, _, _, _, j, ⟨?_, hb.1⟩, rfl⟩⟩
  exact gl_le (AllLe.mem (by repeat' (first | exact trivial | refine ⟨?_, ?_⟩ | exact Int.le_trans (hd _) (by omega) | exact Int.le_refl _ | omega))) (by omega)
theorem no_A15 (h : Sm s fr) {i : Int} (hi : fr < i) (hi2 : i ≤ s.size) (g : ¬ fits s 128 191 i) {st : St} (k : InA s fr 15 i st) : SX Tryz.prog 4098 bodyA st (fun e st => e = .normal ∧ InE s fr (i + 1) st) := by
  obtain ⟨u, q, c, d, j, hb, rfl⟩ := k
  rcases fits_not g hi2 with hx | ⟨hx, hl⟩ | ⟨hx, hl, hh⟩
  · refine SX.mono (CA_15_x s fr 0 u 0 0 q i c d h.small h.lo hi hb.1 hb.2 hx j) ?_
    rintro e st ⟨rfl, j, rfl⟩
    exact ⟨rfl, .inr (.inl ⟨_, _, _, _, _, j, swapB hb, rfl⟩)⟩
  · refine SX.mono (CA_15_l s fr 0 u 0 0 q i c d h.small h.lo hi hb.1 hb.2 hx hl (byteAt_lo s i) j) ?_
    rintro e st ⟨rfl, j, rfl⟩
    exact ⟨rfl, .inr (.inl ⟨_, _, _, _, _, j, swapB hb, rfl⟩)⟩
  · refine SX.mono (CA_15_h s fr 0 u 0 0 q i c d h.small h.lo hi hb.1 hb.2 hx hh (byteAt_hi s i) j) ?_
    rintro e st ⟨rfl, j, rfl⟩
    exact ⟨rfl, .inr (.inl ⟨_, _, _, _, _, j, swapB hb, rfl⟩)⟩
theorem ok_A20 (h : Sm s fr) {i : Int} (hi : fr < i) (g : fits s 128 159 i) {st : St} (k : InA s fr 20 i st) : SX Tryz.prog 4098 bodyA st (fun e st => e = .normal ∧ InB s fr 21 (i + 1) st) := by
  obtain ⟨u, q, c, d, j, hb, rfl⟩ := k
  refine SX.mono (CA_20_ok s fr 0 u 0 0 q i c d h.small h.lo hi hb.1 hb.2 g.1 g.2.1 g.2.2 j) ?_
  rintro e st ⟨rfl, j, rfl⟩
  have hd := hb.2
  have h0 := h.lo
  refine ⟨rfl, ⟨_, _, _, _, j, ⟨?_, hb.1⟩, rfl⟩⟩
  exact gl_le (AllLe.mem (by repeat' (first | exact trivial | refine ⟨?_, ?_⟩ | exact Int.le_trans (hd _) (by omega) | exact Int.le_refl _ | omega))) (by omega)
theorem no_A20 (h : Sm s fr) {i : Int} (hi : fr < i) (hi2 : i ≤ s.size) (g : ¬ fits s 128 159 i) {st : St} (k : InA s fr 20 i st) : SX Tryz.prog 4098 bodyA st (fun e st => e = .normal ∧ InE s fr (i + 1) st) := by
  obtain ⟨u, q, c, d, j, hb, rfl⟩ := k
  rcases fits_not g hi2 with hx | ⟨hx, hl⟩ | ⟨hx, hl, hh⟩
  · refine SX.mono (CA_20_x s fr 0 u 0 0 q i c d h.small h.lo hi hb.1 hb.2 hx j) ?_
    rintro e st ⟨rfl, j, rfl⟩
    exact ⟨rfl, .inr (.inl ⟨_, _, _, _, _, j, swapB hb, rfl⟩)⟩
  · refine SX.mono (CA_20_l s fr 0 u 0 0 q i c d h.small h.lo hi hb.1 hb.2 hx hl (byteAt_lo s i) j) ?_
    rintro e st ⟨rfl, j, rfl⟩
    exact ⟨rfl, .inr (.inl ⟨_, _, _, _, _, j, swapB hb, rfl⟩)⟩
  · refine SX.mono (CA_20_h s fr 0 u 0 0 q i c d h.small h.lo hi hb.1 hb.2 hx hh (byteAt_hi s i) j) ?_
    rintro e st ⟨rfl, j, rfl⟩
    exact ⟨rfl, .inr (.inl ⟨_, _, _, _, _, j, swapB hb, rfl⟩)⟩
theorem ok_A25 (h : Sm s fr) {i : Int} (hi : fr < i) (g : fits s 128 191 i) {st : St} (k : InA s fr 25 i st) : SX Tryz.prog 4098 bodyA st (fun e st => e = .normal ∧ InB s fr 26 (i + 1) st) := by
  obtain ⟨u, q, c, d, j, hb, rfl⟩ := k
  refine SX.mono (CA_25_ok s fr 0 u 0 0 q i c d h.small h.lo hi hb.1 hb.2 g.1 g.2.1 g.2.2 j) ?_
  rintro e st ⟨rfl, j, rfl⟩
  have hd := hb.2
  have h0 := h.lo
  refine ⟨rfl, ⟨_, _, _, _, j, ⟨?_, hb.1⟩, rfl⟩⟩
  exact gl_le (AllLe.mem (by repeat' (first | exact trivial | refine ⟨?_, ?_⟩ | exact Int.le_trans (hd _) (by omega) | exact Int.le_refl _ | omega))) (by omega)
theorem no_A25 (h : Sm s fr) {i : Int} (hi : fr < i) (hi2 : i ≤ s.size) (g : ¬ fits s 128 191 i) {st : St} (k : InA s fr 25 i st) : SX Tryz.prog 4098 bodyA st (fun e st => e = .normal ∧ InE s fr (i + 1) st) := by
  obtain ⟨u, q, c, d, j, hb, rfl⟩ := k
  rcases fits_not g hi2 with hx | ⟨hx, hl⟩ | ⟨hx, hl, hh⟩
  · refine SX.mono (CA_25_x s fr 0 u 0 0 q i c d h.small h.lo hi hb.1 hb.2 hx j) ?_
    rintro e st ⟨rfl, j, rfl⟩
    exact ⟨rfl, .inr (.inl ⟨_, _, _, _, _, j, swapB hb, rfl⟩)⟩
  · refine SX.mono (CA_25_l s fr 0 u 0 0 q i c d h.small h.lo hi hb.1 hb.2 hx hl (byteAt_lo s i) j) ?_
    rintro e st ⟨rfl, j, rfl⟩
    exact ⟨rfl, .inr (.inl ⟨_, _, _, _, _, j, swapB hb, rfl⟩)⟩
  · refine SX.mono (CA_25_h s fr 0 u 0 0 q i c d h.small h.lo hi hb.1 hb.2 hx hh (byteAt_hi s i) j) ?_
    rintro e st ⟨rfl, j, rfl⟩
    exact ⟨rfl, .inr (.inl ⟨_, _, _, _, _, j, swapB hb, rfl⟩)⟩
theorem ok_A30 (h : Sm s fr) {i : Int} (hi : fr < i) (g : fits s 144 191 i) {st : St} (k : InA s fr 30 i st) : SX Tryz.prog 4098 bodyA st (fun e st => e = .normal ∧ InB s fr 31 (i + 1) st) := by
  obtain ⟨u, q, c, d, j, hb, rfl⟩ := k
  refine SX.mono (CA_30_ok s fr 0 u 0 0 q i c d h.small h.lo hi hb.1 hb.2 g.1 g.2.1 g.2.2 j) ?_
  rintro e st ⟨rfl, j, rfl⟩
  have hd := hb.2
  have h0 := h.lo
  refine ⟨rfl, ⟨_, _, _, _, j, ⟨?_, hb.1⟩, rfl⟩⟩
  exact gl_le (AllLe.mem (by repeat' (first | exact trivial | refine ⟨?_, ?_⟩ | exact Int.le_trans (hd _) (by omega) | exact Int.le_refl _ | omega))) (by omega)
theorem no_A30 (h : Sm s fr) {i : Int} (hi : fr < i) (hi2 : i ≤ s.size) (g : ¬ fits s 144 191 i) {st : St} (k : InA s fr 30 i st) : SX Tryz.prog 4098 bodyA st (fun e st => e = .normal ∧ InE s fr (i + 1) st) := by
  obtain ⟨u, q, c, d, j, hb, rfl⟩ := k
  rcases fits_not g hi2 with hx | ⟨hx, hl⟩ | ⟨hx, hl, hh⟩
  · refine SX.mono (CA_30_x s fr 0 u 0 0 q i c d h.small h.lo hi hb.1 hb.2 hx j) ?_
    rintro e st ⟨rfl, j, rfl⟩
    exact ⟨rfl, .inr (.inl ⟨_, _, _, _, _, j, swapB hb, rfl⟩)⟩
  · refine SX.mono (CA_30_l s fr 0 u 0 0 q i c d h.small h.lo hi hb.1 hb.2 hx hl (byteAt_lo s i) j) ?_
    rintro e st ⟨rfl, j, rfl⟩
    exact ⟨rfl, .inr (.inl ⟨_, _, _, _, _, j, swapB hb, rfl⟩)⟩
  · refine SX.mono (CA_30_h s fr 0 u 0 0 q i c d h.small h.lo hi hb.1 hb.2 hx hh (byteAt_hi s i) j) ?_
    rintro e st ⟨rfl, j, rfl⟩
    exact ⟨rfl, .inr (.inl ⟨_, _, _, _, _, j, swapB hb, rfl⟩)⟩
theorem ok_A36 (h : Sm s fr) {i : Int} (hi : fr < i) (g : fits s 128 191 i) {st : St} (k : InA s fr 36 i st) : SX Tryz.prog 4098 bodyA st (fun e st => e = .normal ∧ InB s fr 37 (i + 1) st) := by
  obtain ⟨u, q, c, d, j, hb, rfl⟩ := k
  refine SX.mono (CA_36_ok s fr 0 u 0 0 q i c d h.small h.lo hi hb.1 hb.2 g.1 g.2.1 g.2.2 j) ?_
  rintro e st ⟨rfl, j, rfl⟩
  have hd := hb.2
  have h0 := h.lo
  refine ⟨rfl, ⟨_, _, _, _, j, ⟨?_, hb.1⟩, rfl⟩⟩
  exact gl_le (AllLe.mem (by repeat' (first | exact trivial | refine ⟨?_, ?_⟩ | exact Int.le_trans (hd _) (by omega) | exact Int.le_refl _ | omega))) (by omega)
theorem no_A36 (h : Sm s fr) {i : Int} (hi : fr < i) (hi2 : i ≤ s.size) (g : ¬ fits s 128 191 i) {st : St} (k : InA s fr 36 i st) : SX Tryz.prog 4098 bodyA st (fun e st => e = .normal ∧ InE s fr (i + 1) st) := by
  obtain ⟨u, q, c, d, j, hb, rfl⟩ := k
  rcases fits_not g hi2 with hx | ⟨hx, hl⟩ | ⟨hx, hl, hh⟩
  · refine SX.mono (CA_36_x s fr 0 u 0 0 q i c d h.small h.lo hi hb.1 hb.2 hx j) ?_
    rintro e st ⟨rfl, j, rfl⟩
    exact ⟨rfl, .inr (.inl ⟨_, _, _, _, _, j, swapB hb, rfl⟩)⟩
  · refine SX.mono (CA_36_l s fr 0 u 0 0 q i c d h.small h.lo hi hb.1 hb.2 hx hl (byteAt_lo s i) j) ?_
    rintro e st ⟨rfl, j, rfl⟩
    exact ⟨rfl, .inr (.inl ⟨_, _, _, _, _, j, swapB hb, rfl⟩)⟩
  · refine SX.mono (CA_36_h s fr 0 u 0 0 q i c d h.small h.lo hi hb.1 hb.2 hx hh (byteAt_hi s i) j) ?_
    rintro e st ⟨rfl, j, rfl⟩
    exact ⟨rfl, .inr (.inl ⟨_, _, _, _, _, j, swapB hb, rfl⟩)⟩
theorem ok_A41 (h : Sm s fr) {i : Int} (hi : fr < i) (g : fits s 128 143 i) {st : St} (k : InA s fr 41 i st) : SX Tryz.prog 4098 bodyA st (fun e st => e = .normal ∧ InB s fr 42 (i + 1) st) := by
  obtain ⟨u, q, c, d, j, hb, rfl⟩ := k
  refine SX.mono (CA_41_ok s fr 0 u 0 0 q i c d h.small h.lo hi hb.1 hb.2 g.1 g.2.1 g.2.2 j) ?_
  rintro e st ⟨rfl, j, rfl⟩
  have hd := hb.2
  have h0 := h.lo
  refine ⟨rfl, ⟨_, _, _, _, j, ⟨?_, hb.1⟩, rfl⟩⟩
  exact gl_le (AllLe.mem (by repeat' (first | exact trivial | refine ⟨?_, ?_⟩ | exact Int.le_trans (hd _) (by omega) | exact Int.le_refl _ | omega))) (by omega)
theorem no_A41 (h : Sm s fr) {i : Int} (hi : fr < i) (hi2 : i ≤ s.size) (g : ¬ fits s 128 143 i) {st : St} (k : InA s fr 41 i st) : SX Tryz.prog 4098 bodyA st (fun e st => e = .normal ∧ InE s fr (i + 1) st) := by
  obtain ⟨u, q, c, d, j, hb, rfl⟩ := k
  rcases fits_not g hi2 with hx | ⟨hx, hl⟩ | ⟨hx, hl, hh⟩
  · refine SX.mono (CA_41_x s fr 0 u 0 0 q i c d h.small h.lo hi hb.1 hb.2 hx j) ?_
    rintro e st ⟨rfl, j, rfl⟩
    exact ⟨rfl, .inr (.inl ⟨_, _, _, _, _, j, swapB hb, rfl⟩)⟩
  · refine SX.mono (CA_41_l s fr 0 u 0 0 q i c d h.small h.lo hi hb.1 hb.2 hx hl (byteAt_lo s i) j) ?_
    rintro e st ⟨rfl, j, rfl⟩
    exact ⟨rfl, .inr (.inl ⟨_, _, _, _, _, j, swapB hb, rfl⟩)⟩
  · refine SX.mono (CA_41_h s fr 0 u 0 0 q i c d h.small h.lo hi hb.1 hb.2 hx hh (byteAt_hi s i) j) ?_
    rintro e st ⟨rfl, j, rfl⟩
    exact ⟨rfl, .inr (.inl ⟨_, _, _, _, _, j, swapB hb, rfl⟩)⟩
theorem ok_B11 (h : Sm s fr) {i : Int} (hi : fr < i) (g : fits s 128 191 i) {st : St} (k : InB s fr 11 i st) : SX Tryz.prog 4098 bodyA st (fun e st => e = .normal ∧ InM s fr (i + 1) (i + 1) st) := by
  obtain ⟨u, q, c, d, j, hb, rfl⟩ := k
  refine SX.mono (HB_11_ok s fr 0 u 0 0 q i c d h.small h.lo hi hb.1 hb.2 g.1 g.2.1 g.2.2 j) ?_
  rintro e st ⟨rfl, j, rfl⟩
  have hd := hb.2
  have h0 := h.lo
  refine ⟨rfl, .inr (.inr ⟨_, _, _, _, j, ⟨?_, hb.1⟩, rfl⟩)⟩
  exact gl_le (AllLe.mem (by repeat' (first | exact trivial | refine ⟨?_, ?_⟩ | exact Int.le_trans (hd _) (by omega) | exact Int.le_refl _ | omega))) (by omega)
theorem no_B11 (h : Sm s fr) {i : Int} (hi : fr < i) (hi2 : i ≤ s.size) (g : ¬ fits s 128 191 i) {st : St} (k : InB s fr 11 i st) : SX Tryz.prog 4098 bodyA st (fun e st => e = .normal ∧ InE s fr (i + 1) st) := by
  obtain ⟨u, q, c, d, j, hb, rfl⟩ := k
  rcases fits_not g hi2 with hx | ⟨hx, hl⟩ | ⟨hx, hl, hh⟩
  · refine SX.mono (HB_11_x s fr 0 u 0 0 q i c d h.small h.lo hi hb.1 hb.2 hx j) ?_
    rintro e st ⟨rfl, j, rfl⟩
    exact ⟨rfl, .inr (.inr ⟨_, _, _, _, _, j, swapB hb, rfl⟩)⟩
  · refine SX.mono (HB_11_l s fr 0 u 0 0 q i c d h.small h.lo hi hb.1 hb.2 hx hl (byteAt_lo s i) j) ?_
    rintro e st ⟨rfl, j, rfl⟩
    exact ⟨rfl, .inr (.inr ⟨_, _, _, _, _, j, swapB hb, rfl⟩)⟩
  · refine SX.mono (HB_11_h s fr 0 u 0 0 q i c d h.small h.lo hi hb.1 hb.2 hx hh (byteAt_hi s i) j) ?_
    rintro e st ⟨rfl, j, rfl⟩
    exact ⟨rfl, .inr (.inr ⟨_, _, _, _, _, j, swapB hb, rfl⟩)⟩
theorem ok_B16 (h : Sm s fr) {i : Int} (hi : fr < i) (g : fits s 128 191 i) {st : St} (k : InB s fr 16 i st) : SX Tryz.prog 4098 bodyA st (fun e st => e = .normal ∧ InM s fr (i + 1) (i + 1) st) := by
  obtain ⟨u, q, c, d, j, hb, rfl⟩ := k
  refine SX.mono (HB_16_ok s fr 0 u 0 0 q i c d h.small h.lo hi hb.1 hb.2 g.1 g.2.1 g.2.2 j) ?_
  rintro e st ⟨rfl, j, rfl⟩
  have hd := hb.2
  have h0 := h.lo
  refine ⟨rfl, .inr (.inr ⟨_, _, _, _, j, ⟨?_, hb.1⟩, rfl⟩)⟩
  exact gl_le (AllLe.mem (by repeat' (first | exact trivial | refine ⟨?_, ?_⟩ | exact Int.le_trans (hd _) (by omega) | exact Int.le_refl _ | omega))) (by omega)
theorem no_B16 (h : Sm s fr) {i : Int} (hi : fr < i) (hi2 : i ≤ s.size) (g : ¬ fits s 128 191 i) {st : St} (k : InB s fr 16 i st) : SX Tryz.prog 4098 bodyA st (fun e st => e = .normal ∧ InE s fr (i + 1) st) := by
  obtain ⟨u, q, c, d, j, hb, rfl⟩ := k
  rcases fits_not g hi2 with hx | ⟨hx, hl⟩ | ⟨hx, hl, hh⟩
  · refine SX.mono (HB_16_x s fr 0 u 0 0 q i c d h.small h.lo hi hb.1 hb.2 hx j) ?_
    rintro e st ⟨rfl, j, rfl⟩
    exact ⟨rfl, .inr (.inr ⟨_, _, _, _, _, j, swapB hb, rfl⟩)⟩
  · refine SX.mono (HB_16_l s fr 0 u 0 0 q i c d h.small h.lo hi hb.1 hb.2 hx hl (byteAt_lo s i) j) ?_
    rintro e st ⟨rfl, j, rfl⟩
    exact ⟨rfl, .inr (.inr ⟨_, _, _, _, _, j, swapB hb, rfl⟩)⟩
  · refine SX.mono (HB_16_h s fr 0 u 0 0 q i c d h.small h.lo hi hb.1 hb.2 hx hh (byteAt_hi s i) j) ?_
    rintro e st ⟨rfl, j, rfl⟩
    exact ⟨rfl, .inr (.inr ⟨_, _, _, _, _, j, swapB hb, rfl⟩)⟩
theorem ok_B21 (h : Sm s fr) {i : Int} (hi : fr < i) (g : fits s 128 191 i) {st : St} (k : InB s fr 21 i st) : SX Tryz.prog 4098 bodyA st (fun e st => e = .normal ∧ InM s fr (i + 1) (i + 1) st) := by
  obtain ⟨u, q, c, d, j, hb, rfl⟩ := k
  refine SX.mono (HB_21_ok s fr 0 u 0 0 q i c d h.small h.lo hi hb.1 hb.2 g.1 g.2.1 g.2.2 j) ?_
  rintro e st ⟨rfl, j, rfl⟩
  have hd := hb.2
  have h0 := h.lo
  refine ⟨rfl, .inr (.inr ⟨_, _, _, _, j, ⟨?_, hb.1⟩, rfl⟩)⟩
  exact gl_le (AllLe.mem (by repeat' (first | exact trivial | refine ⟨?_, ?_⟩ | exact Int.le_trans (hd _) (by omega) | exact Int.le_refl _ | omega))) (by omega)
theorem no_B21 (h : Sm s fr) {i : Int} (hi : fr < i) (hi2 : i ≤ s.size) (g : ¬ fits s 128 191 i) {st : St} (k : InB s fr 21 i st) : SX Tryz.prog 4098 bodyA st (fun e st => e = .normal ∧ InE s fr (i + 1) st) := by
  obtain ⟨u, q, c, d, j, hb, rfl⟩ := k
  rcases fits_not g hi2 with hx | ⟨hx, hl⟩ | ⟨hx, hl, hh⟩
  · refine SX.mono (HB_21_x s fr 0 u 0 0 q i c d h.small h.lo hi hb.1 hb.2 hx j) ?_
    rintro e st ⟨rfl, j, rfl⟩
    exact ⟨rfl, .inr (.inr ⟨_, _, _, _, _, j, swapB hb, rfl⟩)⟩
  · refine SX.mono (HB_21_l s fr 0 u 0 0 q i c d h.small h.lo hi hb.1 hb.2 hx hl (byteAt_lo s i) j) ?_
    rintro e st ⟨rfl, j, rfl⟩
    exact ⟨rfl, .inr (.inr ⟨_, _, _, _, _, j, swapB hb, rfl⟩)⟩
  · refine SX.mono (HB_21_h s fr 0 u 0 0 q i c d h.small h.lo hi hb.1 hb.2 hx hh (byteAt_hi s i) j) ?_
    rintro e st ⟨rfl, j, rfl⟩
    exact ⟨rfl, .inr (.inr ⟨_, _, _, _, _, j, swapB hb, rfl⟩)⟩
theorem ok_B26 (h : Sm s fr) {i : Int} (hi : fr < i) (g : fits s 128 191 i) {st : St} (k : InB s fr 26 i st) : SX Tryz.prog 4098 bodyA st (fun e st => e = .normal ∧ InM s fr (i + 1) (i + 1) st) := by
  obtain ⟨u, q, c, d, j, hb, rfl⟩ := k
  refine SX.mono (HB_26_ok s fr 0 u 0 0 q i c d h.small h.lo hi hb.1 hb.2 g.1 g.2.1 g.2.2 j) ?_
  rintro e st ⟨rfl, j, rfl⟩
  have hd := hb.2
  have h0 := h.lo
  refine ⟨rfl, .inr (.inr ⟨_, _, _, _, j, ⟨?_, hb.1⟩, rfl⟩)⟩
  exact gl_le (AllLe.mem (by repeat' (first | exact trivial | refine ⟨?_, ?_⟩ | exact Int.le_trans (hd _) (by omega) | exact Int.le_refl _ | omega))) (by omega)
theorem no_B26 (h : Sm s fr) {i : Int} (hi : fr < i) (hi2 : i ≤ s.size) (g : ¬ fits s 128 191 i) {st : St} (k : InB s fr 26 i st) : SX Tryz.prog 4098 bodyA st (fun e st => e = .normal ∧ InE s fr (i + 1) st) := by
  obtain ⟨u, q, c, d, j, hb, rfl⟩ := k
  rcases fits_not g hi2 with hx | ⟨hx, hl⟩ | ⟨hx, hl, hh⟩
  · refine SX.mono (HB_26_x s fr 0 u 0 0 q i c d h.small h.lo hi hb.1 hb.2 hx j) ?_
    rintro e st ⟨rfl, j, rfl⟩
    exact ⟨rfl, .inr (.inr ⟨_, _, _, _, _, j, swapB hb, rfl⟩)⟩
  · refine SX.mono (HB_26_l s fr 0 u 0 0 q i c d h.small h.lo hi hb.1 hb.2 hx hl (byteAt_lo s i) j) ?_
    rintro e st ⟨rfl, j, rfl⟩
    exact ⟨rfl, .inr (.inr ⟨_, _, _, _, _, j, swapB hb, rfl⟩)⟩
  · refine SX.mono (HB_26_h s fr 0 u 0 0 q i c d h.small h.lo hi hb.1 hb.2 hx hh (byteAt_hi s i) j) ?_
    rintro e st ⟨rfl, j, rfl⟩
    exact ⟨rfl, .inr (.inr ⟨_, _, _, _, _, j, swapB hb, rfl⟩)⟩
theorem ok_B31 (h : Sm s fr) {i : Int} (hi : fr < i) (g : fits s 128 191 i) {st : St} (k : InB s fr 31 i st) : SX Tryz.prog 4098 bodyA st (fun e st => e = .normal ∧ InA2 s fr 32 (i + 1) st) := by
  obtain ⟨u, q, c, d, j, hb, rfl⟩ := k
  refine SX.mono (HB_31_ok s fr 0 u 0 0 q i c d h.small h.lo hi hb.1 hb.2 g.1 g.2.1 g.2.2 j) ?_
  rintro e st ⟨rfl, j, rfl⟩
  have hd := hb.2
  have h0 := h.lo
  refine ⟨rfl, ⟨_, _, _, _, j, ⟨?_, hb.1⟩, rfl⟩⟩
  exact gl_le (AllLe.mem (by repeat' (first | exact trivial | refine ⟨?_, ?_⟩ | exact Int.le_trans (hd _) (by omega) | exact Int.le_refl _ | omega))) (by omega)
theorem no_B31 (h : Sm s fr) {i : Int} (hi : fr < i) (hi2 : i ≤ s.size) (g : ¬ fits s 128 191 i) {st : St} (k : InB s fr 31 i st) : SX Tryz.prog 4098 bodyA st (fun e st => e = .normal ∧ InE s fr (i + 1) st) := by
  obtain ⟨u, q, c, d, j, hb, rfl⟩ := k
  rcases fits_not g hi2 with hx | ⟨hx, hl⟩ | ⟨hx, hl, hh⟩
  · refine SX.mono (HB_31_x s fr 0 u 0 0 q i c d h.small h.lo hi hb.1 hb.2 hx j) ?_
    rintro e st ⟨rfl, j, rfl⟩
    exact ⟨rfl, .inr (.inr ⟨_, _, _, _, _, j, swapB hb, rfl⟩)⟩
  · refine SX.mono (HB_31_l s fr 0 u 0 0 q i c d h.small h.lo hi hb.1 hb.2 hx hl (byteAt_lo s i) j) ?_
    rintro e st ⟨rfl, j, rfl⟩
    exact ⟨rfl, .inr (.inr ⟨_, _, _, _, _, j, swapB hb, rfl⟩)⟩
  · refine SX.mono (HB_31_h s fr 0 u 0 0 q i c d h.small h.lo hi hb.1 hb.2 hx hh (byteAt_hi s i) j) ?_
    rintro e st ⟨rfl, j, rfl⟩
    exact ⟨rfl, .inr (.inr ⟨_, _, _, _, _, j, swapB hb, rfl⟩)⟩
theorem ok_B37 (h : Sm s fr) {i : Int} (hi : fr < i) (g : fits s 128 191 i) {st : St} (k : InB s fr 37 i st) : SX Tryz.prog 4098 bodyA st (fun e st => e = .normal ∧ InA2 s fr 38 (i + 1) st) := by
  obtain ⟨u, q, c, d, j, hb, rfl⟩ := k
  refine SX.mono (HB_37_ok s fr 0 u 0 0 q i c d h.small h.lo hi hb.1 hb.2 g.1 g.2.1 g.2.2 j) ?_
  rintro e st ⟨rfl, j, rfl⟩
  have hd := hb.2
  have h0 := h.lo
  refine ⟨rfl, ⟨_, _, _, _, j, ⟨?_, hb.1⟩, rfl⟩⟩
  exact gl_le (AllLe.mem (by repeat' (first | exact trivial | refine ⟨?_, ?_⟩ | exact Int.le_trans (hd _) (by omega) | exact Int.le_refl _ | omega))) (by omega)
theorem no_B37 (h : Sm s fr) {i : Int} (hi : fr < i) (hi2 : i ≤ s.size) (g : ¬ fits s 128 191 i) {st : St} (k : InB s fr 37 i st) : SX Tryz.prog 4098 bodyA st (fun e st => e = .normal ∧ InE s fr (i + 1) st) := by
  obtain ⟨u, q, c, d, j, hb, rfl⟩ := k
  rcases fits_not g hi2 with hx | ⟨hx, hl⟩ | ⟨hx, hl, hh⟩
  · refine SX.mono (HB_37_x s fr 0 u 0 0 q i c d h.small h.lo hi hb.1 hb.2 hx j) ?_
    rintro e st ⟨rfl, j, rfl⟩
    exact ⟨rfl, .inr (.inr ⟨_, _, _, _, _, j, swapB hb, rfl⟩)⟩
  · refine SX.mono (HB_37_l s fr 0 u 0 0 q i c d h.small h.lo hi hb.1 hb.2 hx hl (byteAt_lo s i) j) ?_
    rintro e st ⟨rfl, j, rfl⟩
    exact ⟨rfl, .inr (.inr ⟨_, _, _, _, _, j, swapB hb, rfl⟩)⟩
  · refine SX.mono (HB_37_h s fr 0 u 0 0 q i c d h.small h.lo hi hb.1 hb.2 hx hh (byteAt_hi s i) j) ?_
    rintro e st ⟨rfl, j, rfl⟩
    exact ⟨rfl, .inr (.inr ⟨_, _, _, _, _, j, swapB hb, rfl⟩)⟩
theorem ok_B42 (h : Sm s fr) {i : Int} (hi : fr < i) (g : fits s 128 191 i) {st : St} (k : InB s fr 42 i st) : SX Tryz.prog 4098 bodyA st (fun e st => e = .normal ∧ InA2 s fr 43 (i + 1) st) := by
  obtain ⟨u, q, c, d, j, hb, rfl⟩ := k
  refine SX.mono (HB_42_ok s fr 0 u 0 0 q i c d h.small h.lo hi hb.1 hb.2 g.1 g.2.1 g.2.2 j) ?_
  rintro e st ⟨rfl, j, rfl⟩
  have hd := hb.2
  have h0 := h.lo
  refine ⟨rfl, ⟨_, _, _, _, j, ⟨?_, hb.1⟩, rfl⟩⟩
  exact gl_le (AllLe.mem (by repeat' (first | exact trivial | refine ⟨?_, ?_⟩ | exact Int.le_trans (hd _) (by omega) | exact Int.le_refl _ | omega))) (by omega)
theorem no_B42 (h : Sm s fr) {i : Int} (hi : fr < i) (hi2 : i ≤ s.size) (g : ¬ fits s 128 191 i) {st : St} (k : InB s fr 42 i st) : SX Tryz.prog 4098 bodyA st (fun e st => e = .normal ∧ InE s fr (i + 1) st) := by
  obtain ⟨u, q, c, d, j, hb, rfl⟩ := k
  rcases fits_not g hi2 with hx | ⟨hx, hl⟩ | ⟨hx, hl, hh⟩
  · refine SX.mono (HB_42_x s fr 0 u 0 0 q i c d h.small h.lo hi hb.1 hb.2 hx j) ?_
    rintro e st ⟨rfl, j, rfl⟩
    exact ⟨rfl, .inr (.inr ⟨_, _, _, _, _, j, swapB hb, rfl⟩)⟩
  · refine SX.mono (HB_42_l s fr 0 u 0 0 q i c d h.small h.lo hi hb.1 hb.2 hx hl (byteAt_lo s i) j) ?_
    rintro e st ⟨rfl, j, rfl⟩
    exact ⟨rfl, .inr (.inr ⟨_, _, _, _, _, j, swapB hb, rfl⟩)⟩
  · refine SX.mono (HB_42_h s fr 0 u 0 0 q i c d h.small h.lo hi hb.1 hb.2 hx hh (byteAt_hi s i) j) ?_
    rintro e st ⟨rfl, j, rfl⟩
    exact ⟨rfl, .inr (.inr ⟨_, _, _, _, _, j, swapB hb, rfl⟩)⟩
theorem ok_C32 (h : Sm s fr) {i : Int} (hi : fr < i) (g : fits s 128 191 i) {st : St} (k : InA2 s fr 32 i st) : SX Tryz.prog 4098 bodyA st (fun e st => e = .normal ∧ InM s fr (i + 1) (i + 1) st) := by
  obtain ⟨u, q, c, d, j, hb, rfl⟩ := k
  refine SX.mono (HA2_32_ok s fr 0 u 0 0 q i c d h.small h.lo hi hb.1 hb.2 g.1 g.2.1 g.2.2 j) ?_
  rintro e st ⟨rfl, j, rfl⟩
  have hd := hb.2
  have h0 := h.lo
  refine ⟨rfl, .inr (.inl ⟨_, _, _, _, j, ⟨?_, hb.1⟩, rfl⟩)⟩
  exact gl_le (AllLe.mem (by repeat' (first | exact trivial | refine ⟨?_, ?_⟩ | exact Int.le_trans (hd _) (by omega) | exact Int.le_refl _ | omega))) (by omega)
theorem no_C32 (h : Sm s fr) {i : Int} (hi : fr < i) (hi2 : i ≤ s.size) (g : ¬ fits s 128 191 i) {st : St} (k : InA2 s fr 32 i st) : SX Tryz.prog 4098 bodyA st (fun e st => e = .normal ∧ InE s fr (i + 1) st) := by
  obtain ⟨u, q, c, d, j, hb, rfl⟩ := k
  rcases fits_not g hi2 with hx | ⟨hx, hl⟩ | ⟨hx, hl, hh⟩
  · refine SX.mono (HA2_32_x s fr 0 u 0 0 q i c d h.small h.lo hi hb.1 hb.2 hx j) ?_
    rintro e st ⟨rfl, j, rfl⟩
    exact ⟨rfl, .inr (.inl ⟨_, _, _, _, _, j, swapB hb, rfl⟩)⟩
  · refine SX.mono (HA2_32_l s fr 0 u 0 0 q i c d h.small h.lo hi hb.1 hb.2 hx hl (byteAt_lo s i) j) ?_
    rintro e st ⟨rfl, j, rfl⟩
    exact ⟨rfl, .inr (.inl ⟨_, _, _, _, _, j, swapB hb, rfl⟩)⟩
  · refine SX.mono (HA2_32_h s fr 0 u 0 0 q i c d h.small h.lo hi hb.1 hb.2 hx hh (byteAt_hi s i) j) ?_
    rintro e st ⟨rfl, j, rfl⟩
    exact ⟨rfl, .inr (.inl ⟨_, _, _, _, _, j, swapB hb, rfl⟩)⟩
theorem ok_C38 (h : Sm s fr) {i : Int} (hi : fr < i) (g : fits s 128 191 i) {st : St} (k : InA2 s fr 38 i st) : SX Tryz.prog 4098 bodyA st (fun e st => e = .normal ∧ InM s fr (i + 1) (i + 1) st) := by
  obtain ⟨u, q, c, d, j, hb, rfl⟩ := k
  refine SX.mono (HA2_38_ok s fr 0 u 0 0 q i c d h.small h.lo hi hb.1 hb.2 g.1 g.2.1 g.2.2 j) ?_
  rintro e st ⟨rfl, j, rfl⟩
  have hd := hb.2
  have h0 := h.lo
  refine ⟨rfl, .inr (.inl ⟨_, _, _, _, j, ⟨?_, hb.1⟩, rfl⟩)⟩
  exact gl_le (AllLe.mem (by repeat' (first | exact trivial | refine ⟨?_, ?_⟩ | exact Int.le_trans (hd _) (by omega) | exact Int.le_refl _ | omega))) (by omega)
theorem no_C38 (h : Sm s fr) {i : Int} (hi : fr < i) (hi2 : i ≤ s.size) (g : ¬ fits s 128 191 i) {st : St} (k : InA2 s fr 38 i st) : SX Tryz.prog 4098 bodyA st (fun e st => e = .normal ∧ InE s fr (i + 1) st) := by
  obtain ⟨u, q, c, d, j, hb, rfl⟩ := k
  rcases fits_not g hi2 with hx | ⟨hx, hl⟩ | ⟨hx, hl, hh⟩
  · refine SX.mono (HA2_38_x s fr 0 u 0 0 q i c d h.small h.lo hi hb.1 hb.2 hx j) ?_
    rintro e st ⟨rfl, j, rfl⟩
    exact ⟨rfl, .inr (.inl ⟨_, _, _, _, _, j, swapB hb, rfl⟩)⟩
  · refine SX.mono (HA2_38_l s fr 0 u 0 0 q i c d h.small h.lo hi hb.1 hb.2 hx hl (byteAt_lo s i) j) ?_
    rintro e st ⟨rfl, j, rfl⟩
    exact ⟨rfl, .inr (.inl ⟨_, _, _, _, _, j, swapB hb, rfl⟩)⟩
  · refine SX.mono (HA2_38_h s fr 0 u 0 0 q i c d h.small h.lo hi hb.1 hb.2 hx hh (byteAt_hi s i) j) ?_
    rintro e st ⟨rfl, j, rfl⟩
    exact ⟨rfl, .inr (.inl ⟨_, _, _, _, _, j, swapB hb, rfl⟩)⟩
theorem ok_C43 (h : Sm s fr) {i : Int} (hi : fr < i) (g : fits s 128 191 i) {st : St} (k : InA2 s fr 43 i st) : SX Tryz.prog 4098 bodyA st (fun e st => e = .normal ∧ InM s fr (i + 1) (i + 1) st) := by
  obtain ⟨u, q, c, d, j, hb, rfl⟩ := k
  refine SX.mono (HA2_43_ok s fr 0 u 0 0 q i c d h.small h.lo hi hb.1 hb.2 g.1 g.2.1 g.2.2 j) ?_
  rintro e st ⟨rfl, j, rfl⟩
  have hd := hb.2
  have h0 := h.lo
  refine ⟨rfl, .inr (.inl ⟨_, _, _, _, j, ⟨?_, hb.1⟩, rfl⟩)⟩
  exact gl_le (AllLe.mem (by repeat' (first | exact trivial | refine ⟨?_, ?_⟩ | exact Int.le_trans (hd _) (by omega) | exact Int.le_refl _ | omega))) (by omega)
theorem no_C43 (h : Sm s fr) {i : Int} (hi : fr < i) (hi2 : i ≤ s.size) (g : ¬ fits s 128 191 i) {st : St} (k : InA2 s fr 43 i st) : SX Tryz.prog 4098 bodyA st (fun e st => e = .normal ∧ InE s fr (i + 1) st) := by
  obtain ⟨u, q, c, d, j, hb, rfl⟩ := k
  rcases fits_not g hi2 with hx | ⟨hx, hl⟩ | ⟨hx, hl, hh⟩
  · refine SX.mono (HA2_43_x s fr 0 u 0 0 q i c d h.small h.lo hi hb.1 hb.2 hx j) ?_
    rintro e st ⟨rfl, j, rfl⟩
    exact ⟨rfl, .inr (.inl ⟨_, _, _, _, _, j, swapB hb, rfl⟩)⟩
  · refine SX.mono (HA2_43_l s fr 0 u 0 0 q i c d h.small h.lo hi hb.1 hb.2 hx hl (byteAt_lo s i) j) ?_
    rintro e st ⟨rfl, j, rfl⟩
    exact ⟨rfl, .inr (.inl ⟨_, _, _, _, _, j, swapB hb, rfl⟩)⟩
  · refine SX.mono (HA2_43_h s fr 0 u 0 0 q i c d h.small h.lo hi hb.1 hb.2 hx hh (byteAt_hi s i) j) ?_
    rintro e st ⟨rfl, j, rfl⟩
    exact ⟨rfl, .inr (.inl ⟨_, _, _, _, _, j, swapB hb, rfl⟩)⟩
theorem go_C32 (h : Sm s fr) {i : Int} (hi : fr < i) (g0 : fits s 128 191 i) {st : St} (k : InA2 s fr 32 i st) : SXR Tryz.prog 4098 3 bodyA st (Res s fr (some (i + 1))) :=
  SXR.step (ok_C32 h hi g0 k) (fun st1 hB => fromM h (by omega) (by have := g0.1; omega) hB.2) (fun e st hne hB => absurd hB.1 hne)
theorem go_C32_0 (h : Sm s fr) {i : Int} (hi : fr < i) (hi2 : i ≤ s.size) (g0 : ¬ fits s 128 191 i) {st : St} (k : InA2 s fr 32 i st) : SXR Tryz.prog 4098 2 bodyA st (Res s fr none) :=
  SXR.step (no_C32 h hi hi2 g0 k) (fun st1 hB => fromE h (by omega) hB.2) (fun e st hne hB => absurd hB.1 hne)
theorem go_C38 (h : Sm s fr) {i : Int} (hi : fr < i) (g0 : fits s 128 191 i) {st : St} (k : InA2 s fr 38 i st) : SXR Tryz.prog 4098 3 bodyA st (Res s fr (some (i + 1))) :=
  SXR.step (ok_C38 h hi g0 k) (fun st1 hB => fromM h (by omega) (by have := g0.1; omega) hB.2) (fun e st hne hB => absurd hB.1 hne)
theorem go_C38_0 (h : Sm s fr) {i : Int} (hi : fr < i) (hi2 : i ≤ s.size) (g0 : ¬ fits s 128 191 i) {st : St} (k : InA2 s fr 38 i st) : SXR Tryz.prog 4098 2 bodyA st (Res s fr none) :=
  SXR.step (no_C38 h hi hi2 g0 k) (fun st1 hB => fromE h (by omega) hB.2) (fun e st hne hB => absurd hB.1 hne)
theorem go_C43 (h : Sm s fr) {i : Int} (hi : fr < i) (g0 : fits s 128 191 i) {st : St} (k : InA2 s fr 43 i st) : SXR Tryz.prog 4098 3 bodyA st (Res s fr (some (i + 1))) :=
  SXR.step (ok_C43 h hi g0 k) (fun st1 hB => fromM h (by omega) (by have := g0.1; omega) hB.2) (fun e st hne hB => absurd hB.1 hne)
theorem go_C43_0 (h : Sm s fr) {i : Int} (hi : fr < i) (hi2 : i ≤ s.size) (g0 : ¬ fits s 128 191 i) {st : St} (k : InA2 s fr 43 i st) : SXR Tryz.prog 4098 2 bodyA st (Res s fr none) :=
  SXR.step (no_C43 h hi hi2 g0 k) (fun st1 hB => fromE h (by omega) hB.2) (fun e st hne hB => absurd hB.1 hne)
theorem go_B11 (h : Sm s fr) {i : Int} (hi : fr < i) (g0 : fits s 128 191 i) {st : St} (k : InB s fr 11 i st) : SXR Tryz.prog 4098 3 bodyA st (Res s fr (some (i + 1))) :=
  SXR.step (ok_B11 h hi g0 k) (fun st1 hB => fromM h (by omega) (by have := g0.1; omega) hB.2) (fun e st hne hB => absurd hB.1 hne)
theorem go_B11_0 (h : Sm s fr) {i : Int} (hi : fr < i) (hi2 : i ≤ s.size) (g0 : ¬ fits s 128 191 i) {st : St} (k : InB s fr 11 i st) : SXR Tryz.prog 4098 2 bodyA st (Res s fr none) :=
  SXR.step (no_B11 h hi hi2 g0 k) (fun st1 hB => fromE h (by omega) hB.2) (fun e st hne hB => absurd hB.1 hne)
theorem go_B16 (h : Sm s fr) {i : Int} (hi : fr < i) (g0 : fits s 128 191 i) {st : St} (k : InB s fr 16 i st) : SXR Tryz.prog 4098 3 bodyA st (Res s fr (some (i + 1))) :=
  SXR.step (ok_B16 h hi g0 k) (fun st1 hB => fromM h (by omega) (by have := g0.1; omega) hB.2) (fun e st hne hB => absurd hB.1 hne)
theorem go_B16_0 (h : Sm s fr) {i : Int} (hi : fr < i) (hi2 : i ≤ s.size) (g0 : ¬ fits s 128 191 i) {st : St} (k : InB s fr 16 i st) : SXR Tryz.prog 4098 2 bodyA st (Res s fr none) :=
  SXR.step (no_B16 h hi hi2 g0 k) (fun st1 hB => fromE h (by omega) hB.2) (fun e st hne hB => absurd hB.1 hne)
theorem go_B21 (h : Sm s fr) {i : Int} (hi : fr < i) (g0 : fits s 128 191 i) {st : St} (k : InB s fr 21 i st) : SXR Tryz.prog 4098 3 bodyA st (Res s fr (some (i + 1))) :=
  SXR.step (ok_B21 h hi g0 k) (fun st1 hB => fromM h (by omega) (by have := g0.1; omega) hB.2) (fun e st hne hB => absurd hB.1 hne)
theorem go_B21_0 (h : Sm s fr) {i : Int} (hi : fr < i) (hi2 : i ≤ s.size) (g0 : ¬ fits s 128 191 i) {st : St} (k : InB s fr 21 i st) : SXR Tryz.prog 4098 2 bodyA st (Res s fr none) :=
  SXR.step (no_B21 h hi hi2 g0 k) (fun st1 hB => fromE h (by omega) hB.2) (fun e st hne hB => absurd hB.1 hne)
theorem go_B26 (h : Sm s fr) {i : Int} (hi : fr < i) (g0 : fits s 128 191 i) {st : St} (k : InB s fr 26 i st) : SXR Tryz.prog 4098 3 bodyA st (Res s fr (some (i + 1))) :=
  SXR.step (ok_B26 h hi g0 k) (fun st1 hB => fromM h (by omega) (by have := g0.1; omega) hB.2) (fun e st hne hB => absurd hB.1 hne)
theorem go_B26_0 (h : Sm s fr) {i : Int} (hi : fr < i) (hi2 : i ≤ s.size) (g0 : ¬ fits s 128 191 i) {st : St} (k : InB s fr 26 i st) : SXR Tryz.prog 4098 2 bodyA st (Res s fr none) :=
  SXR.step (no_B26 h hi hi2 g0 k) (fun st1 hB => fromE h (by omega) hB.2) (fun e st hne hB => absurd hB.1 hne)
theorem go_B31 (h : Sm s fr) {i : Int} (hi : fr < i) (g0 : fits s 128 191 i) (g1 : fits s 128 191 (i + 1)) {st : St} (k : InB s fr 31 i st) : SXR Tryz.prog 4098 4 bodyA st (Res s fr (some (i + 2))) := by
  refine SXR.step (ok_B31 h hi g0 k) (fun st1 hB => ?_) (fun e st hne hB => absurd hB.1 hne)
  have := go_C32 h (show fr < i + 1 by omega) g1 hB.2
  rwa [show i + 1 + 1 = i + 2 by omega] at this
theorem go_B31_0 (h : Sm s fr) {i : Int} (hi : fr < i) (hi2 : i ≤ s.size) (g0 : ¬ fits s 128 191 i) {st : St} (k : InB s fr 31 i st) : SXR Tryz.prog 4098 2 bodyA st (Res s fr none) :=
  SXR.step (no_B31 h hi hi2 g0 k) (fun st1 hB => fromE h (by omega) hB.2) (fun e st hne hB => absurd hB.1 hne)
theorem go_B31_1 (h : Sm s fr) {i : Int} (hi : fr < i) (g0 : fits s 128 191 i) (g1 : ¬ fits s 128 191 (i + 1)) {st : St} (k : InB s fr 31 i st) : SXR Tryz.prog 4098 3 bodyA st (Res s fr none) :=
  SXR.step (ok_B31 h hi g0 k) (fun st1 hB => go_C32_0 h (show fr < i + 1 by omega) (by have := g0.1; omega) g1 hB.2) (fun e st hne hB => absurd hB.1 hne)
theorem go_B37 (h : Sm s fr) {i : Int} (hi : fr < i) (g0 : fits s 128 191 i) (g1 : fits s 128 191 (i + 1)) {st : St} (k : InB s fr 37 i st) : SXR Tryz.prog 4098 4 bodyA st (Res s fr (some (i + 2))) := by
  refine SXR.step (ok_B37 h hi g0 k) (fun st1 hB => ?_) (fun e st hne hB => absurd hB.1 hne)
  have := go_C38 h (show fr < i + 1 by omega) g1 hB.2
  rwa [show i + 1 + 1 = i + 2 by omega] at this
theorem go_B37_0 (h : Sm s fr) {i : Int} (hi : fr < i) (hi2 : i ≤ s.size) (g0 : ¬ fits s 128 191 i) {st : St} (k : InB s fr 37 i st) : SXR Tryz.prog 4098 2 bodyA st (Res s fr none) :=
  SXR.step (no_B37 h hi hi2 g0 k) (fun st1 hB => fromE h (by omega) hB.2) (fun e st hne hB => absurd hB.1 hne)
theorem go_B37_1 (h : Sm s fr) {i : Int} (hi : fr < i) (g0 : fits s 128 191 i) (g1 : ¬ fits s 128 191 (i + 1)) {st : St} (k : InB s fr 37 i st) : SXR Tryz.prog 4098 3 bodyA st (Res s fr none) :=
  SXR.step (ok_B37 h hi g0 k) (fun st1 hB => go_C38_0 h (show fr < i + 1 by omega) (by have := g0.1; omega) g1 hB.2) (fun e st hne hB => absurd hB.1 hne)
theorem go_B42 (h : Sm s fr) {i : Int} (hi : fr < i) (g0 : fits s 128 191 i) (g1 : fits s 128 191 (i + 1)) {st : St} (k : InB s fr 42 i st) : SXR Tryz.prog 4098 4 bodyA st (Res s fr (some (i + 2))) := by
  refine SXR.step (ok_B42 h hi g0 k) (fun st1 hB => ?_) (fun e st hne hB => absurd hB.1 hne)
  have := go_C43 h (show fr < i + 1 by omega) g1 hB.2
  rwa [show i + 1 + 1 = i + 2 by omega] at this
theorem go_B42_0 (h : Sm s fr) {i : Int} (hi : fr < i) (hi2 : i ≤ s.size) (g0 : ¬ fits s 128 191 i) {st : St} (k : InB s fr 42 i st) : SXR Tryz.prog 4098 2 bodyA st (Res s fr none) :=
  SXR.step (no_B42 h hi hi2 g0 k) (fun st1 hB => fromE h (by omega) hB.2) (fun e st hne hB => absurd hB.1 hne)
theorem go_B42_1 (h : Sm s fr) {i : Int} (hi : fr < i) (g0 : fits s 128 191 i) (g1 : ¬ fits s 128 191 (i + 1)) {st : St} (k : InB s fr 42 i st) : SXR Tryz.prog 4098 3 bodyA st (Res s fr none) :=
  SXR.step (ok_B42 h hi g0 k) (fun st1 hB => go_C43_0 h (show fr < i + 1 by omega) (by have := g0.1; omega) g1 hB.2) (fun e st hne hB => absurd hB.1 hne)
theorem go_A6 (h : Sm s fr) {i : Int} (hi : fr < i) (g0 : fits s 128 191 i) {st : St} (k : InA s fr 6 i st) : SXR Tryz.prog 4098 3 bodyA st (Res s fr (some (i + 1))) :=
  SXR.step (ok_A6 h hi g0 k) (fun st1 hB => fromM h (by omega) (by have := g0.1; omega) hB.2) (fun e st hne hB => absurd hB.1 hne)
theorem go_A6_0 (h : Sm s fr) {i : Int} (hi : fr < i) (hi2 : i ≤ s.size) (g0 : ¬ fits s 128 191 i) {st : St} (k : InA s fr 6 i st) : SXR Tryz.prog 4098 2 bodyA st (Res s fr none) :=
  SXR.step (no_A6 h hi hi2 g0 k) (fun st1 hB => fromE h (by omega) hB.2) (fun e st hne hB => absurd hB.1 hne)
theorem go_A10 (h : Sm s fr) {i : Int} (hi : fr < i) (g0 : fits s 160 191 i) (g1 : fits s 128 191 (i + 1)) {st : St} (k : InA s fr 10 i st) : SXR Tryz.prog 4098 4 bodyA st (Res s fr (some (i + 2))) := by
  refine SXR.step (ok_A10 h hi g0 k) (fun st1 hB => ?_) (fun e st hne hB => absurd hB.1 hne)
  have := go_B11 h (show fr < i + 1 by omega) g1 hB.2
  rwa [show i + 1 + 1 = i + 2 by omega] at this
theorem go_A10_0 (h : Sm s fr) {i : Int} (hi : fr < i) (hi2 : i ≤ s.size) (g0 : ¬ fits s 160 191 i) {st : St} (k : InA s fr 10 i st) : SXR Tryz.prog 4098 2 bodyA st (Res s fr none) :=
  SXR.step (no_A10 h hi hi2 g0 k) (fun st1 hB => fromE h (by omega) hB.2) (fun e st hne hB => absurd hB.1 hne)
theorem go_A10_1 (h : Sm s fr) {i : Int} (hi : fr < i) (g0 : fits s 160 191 i) (g1 : ¬ fits s 128 191 (i + 1)) {st : St} (k : InA s fr 10 i st) : SXR Tryz.prog 4098 3 bodyA st (Res s fr none) :=
  SXR.step (ok_A10 h hi g0 k) (fun st1 hB => go_B11_0 h (show fr < i + 1 by omega) (by have := g0.1; omega) g1 hB.2) (fun e st hne hB => absurd hB.1 hne)
theorem go_A15 (h : Sm s fr) {i : Int} (hi : fr < i) (g0 : fits s 128 191 i) (g1 : fits s 128 191 (i + 1)) {st : St} (k : InA s fr 15 i st) : SXR Tryz.prog 4098 4 bodyA st (Res s fr (some (i + 2))) := by
  refine SXR.step (ok_A15 h hi g0 k) (fun st1 hB => ?_) (fun e st hne hB => absurd hB.1 hne)
  have := go_B16 h (show fr < i + 1 by omega) g1 hB.2
  rwa [show i + 1 + 1 = i + 2 by omega] at this
theorem go_A15_0 (h : Sm s fr) {i : Int} (hi : fr < i) (hi2 : i ≤ s.size) (g0 : ¬ fits s 128 191 i) {st : St} (k : InA s fr 15 i st) : SXR Tryz.prog 4098 2 bodyA st (Res s fr none) :=
  SXR.step (no_A15 h hi hi2 g0 k) (fun st1 hB => fromE h (by omega) hB.2) (fun e st hne hB => absurd hB.1 hne)
theorem go_A15_1 (h : Sm s fr) {i : Int} (hi : fr < i) (g0 : fits s 128 191 i) (g1 : ¬ fits s 128 191 (i + 1)) {st : St} (k : InA s fr 15 i st) : SXR Tryz.prog 4098 3 bodyA st (Res s fr none) :=
  SXR.step (ok_A15 h hi g0 k) (fun st1 hB => go_B16_0 h (show fr < i + 1 by omega) (by have := g0.1; omega) g1 hB.2) (fun e st hne hB => absurd hB.1 hne)
theorem go_A20 (h : Sm s fr) {i : Int} (hi : fr < i) (g0 : fits s 128 159 i) (g1 : fits s 128 191 (i + 1)) {st : St} (k : InA s fr 20 i st) : SXR Tryz.prog 4098 4 bodyA st (Res s fr (some (i + 2))) := by
  refine SXR.step (ok_A20 h hi g0 k) (fun st1 hB => ?_) (fun e st hne hB => absurd hB.1 hne)
  have := go_B21 h (show fr < i + 1 by omega) g1 hB.2
  rwa [show i + 1 + 1 = i + 2 by omega] at this
theorem go_A20_0 (h : Sm s fr) {i : Int} (hi : fr < i) (hi2 : i ≤ s.size) (g0 : ¬ fits s 128 159 i) {st : St} (k : InA s fr 20 i st) : SXR Tryz.prog 4098 2 bodyA st (Res s fr none) :=
  SXR.step (no_A20 h hi hi2 g0 k) (fun st1 hB => fromE h (by omega) hB.2) (fun e st hne hB => absurd hB.1 hne)
theorem go_A20_1 (h : Sm s fr) {i : Int} (hi : fr < i) (g0 : fits s 128 159 i) (g1 : ¬ fits s 128 191 (i + 1)) {st : St} (k : InA s fr 20 i st) : SXR Tryz.prog 4098 3 bodyA st (Res s fr none) :=
  SXR.step (ok_A20 h hi g0 k) (fun st1 hB => go_B21_0 h (show fr < i + 1 by omega) (by have := g0.1; omega) g1 hB.2) (fun e st hne hB => absurd hB.1 hne)
theorem go_A25 (h : Sm s fr) {i : Int} (hi : fr < i) (g0 : fits s 128 191 i) (g1 : fits s 128 191 (i + 1)) {st : St} (k : InA s fr 25 i st) : SXR Tryz.prog 4098 4 bodyA st (Res s fr (some (i + 2))) := by
  refine SXR.step (ok_A25 h hi g0 k) (fun st1 hB => ?_) (fun e st hne hB => absurd hB.1 hne)
  have := go_B26 h (show fr < i + 1 by omega) g1 hB.2
  rwa [show i + 1 + 1 = i + 2 by omega] at this
theorem go_A25_0 (h : Sm s fr) {i : Int} (hi : fr < i) (hi2 : i ≤ s.size) (g0 : ¬ fits s 128 191 i) {st : St} (k : InA s fr 25 i st) : SXR Tryz.prog 4098 2 bodyA st (Res s fr none) :=
  SXR.step (no_A25 h hi hi2 g0 k) (fun st1 hB => fromE h (by omega) hB.2) (fun e st hne hB => absurd hB.1 hne)
theorem go_A25_1 (h : Sm s fr) {i : Int} (hi : fr < i) (g0 : fits s 128 191 i) (g1 : ¬ fits s 128 191 (i + 1)) {st : St} (k : InA s fr 25 i st) : SXR Tryz.prog 4098 3 bodyA st (Res s fr none) :=
  SXR.step (ok_A25 h hi g0 k) (fun st1 hB => go_B26_0 h (show fr < i + 1 by omega) (by have := g0.1; omega) g1 hB.2) (fun e st hne hB => absurd hB.1 hne)
theorem go_A30 (h : Sm s fr) {i : Int} (hi : fr < i) (g0 : fits s 144 191 i) (g1 : fits s 128 191 (i + 1)) (g2 : fits s 128 191 (i + 2)) {st : St} (k : InA s fr 30 i st) : SXR Tryz.prog 4098 5 bodyA st (Res s fr (some (i + 3))) := by
  refine SXR.step (ok_A30 h hi g0 k) (fun st1 hB => ?_) (fun e st hne hB => absurd hB.1 hne)
  have := go_B31 h (show fr < i + 1 by omega) g1 (by rw [show i + 1 + 1 = i + 2 by omega]; exact g2) hB.2
  rwa [show i + 1 + 2 = i + 3 by omega] at this
theorem go_A30_0 (h : Sm s fr) {i : Int} (hi : fr < i) (hi2 : i ≤ s.size) (g0 : ¬ fits s 144 191 i) {st : St} (k : InA s fr 30 i st) : SXR Tryz.prog 4098 2 bodyA st (Res s fr none) :=
  SXR.step (no_A30 h hi hi2 g0 k) (fun st1 hB => fromE h (by omega) hB.2) (fun e st hne hB => absurd hB.1 hne)
theorem go_A30_1 (h : Sm s fr) {i : Int} (hi : fr < i) (g0 : fits s 144 191 i) (g1 : ¬ fits s 128 191 (i + 1)) {st : St} (k : InA s fr 30 i st) : SXR Tryz.prog 4098 3 bodyA st (Res s fr none) :=
  SXR.step (ok_A30 h hi g0 k) (fun st1 hB => go_B31_0 h (show fr < i + 1 by omega) (by have := g0.1; omega) g1 hB.2) (fun e st hne hB => absurd hB.1 hne)
theorem go_A30_2 (h : Sm s fr) {i : Int} (hi : fr < i) (g0 : fits s 144 191 i) (g1 : fits s 128 191 (i + 1)) (g2 : ¬ fits s 128 191 (i + 2)) {st : St} (k : InA s fr 30 i st) : SXR Tryz.prog 4098 4 bodyA st (Res s fr none) :=
  SXR.step (ok_A30 h hi g0 k) (fun st1 hB => go_B31_1 h (show fr < i + 1 by omega) g1 (by rw [show i + 1 + 1 = i + 2 by omega]; exact g2) hB.2) (fun e st hne hB => absurd hB.1 hne)
theorem go_A36 (h : Sm s fr) {i : Int} (hi : fr < i) (g0 : fits s 128 191 i) (g1 : fits s 128 191 (i + 1)) (g2 : fits s 128 191 (i + 2)) {st : St} (k : InA s fr 36 i st) : SXR Tryz.prog 4098 5 bodyA st (Res s fr (some (i + 3))) := by
  refine SXR.step (ok_A36 h hi g0 k) (fun st1 hB => ?_) (fun e st hne hB => absurd hB.1 hne)
  have := go_B37 h (show fr < i + 1 by omega) g1 (by rw [show i + 1 + 1 = i + 2 by omega]; exact g2) hB.2
  rwa [show i + 1 + 2 = i + 3 by omega] at this
theorem go_A36_0 (h : Sm s fr) {i : Int} (hi : fr < i) (hi2 : i ≤ s.size) (g0 : ¬ fits s 128 191 i) {st : St} (k : InA s fr 36 i st) : SXR Tryz.prog 4098 2 bodyA st (Res s fr none) :=
  SXR.step (no_A36 h hi hi2 g0 k) (fun st1 hB => fromE h (by omega) hB.2) (fun e st hne hB => absurd hB.1 hne)
theorem go_A36_1 (h : Sm s fr) {i : Int} (hi : fr < i) (g0 : fits s 128 191 i) (g1 : ¬ fits s 128 191 (i + 1)) {st : St} (k : InA s fr 36 i st) : SXR Tryz.prog 4098 3 bodyA st (Res s fr none) :=
  SXR.step (ok_A36 h hi g0 k) (fun st1 hB => go_B37_0 h (show fr < i + 1 by omega) (by have := g0.1; omega) g1 hB.2) (fun e st hne hB => absurd hB.1 hne)
theorem go_A36_2 (h : Sm s fr) {i : Int} (hi : fr < i) (g0 : fits s 128 191 i) (g1 : fits s 128 191 (i + 1)) (g2 : ¬ fits s 128 191 (i + 2)) {st : St} (k : InA s fr 36 i st) : SXR Tryz.prog 4098 4 bodyA st (Res s fr none) :=
  SXR.step (ok_A36 h hi g0 k) (fun st1 hB => go_B37_1 h (show fr < i + 1 by omega) g1 (by rw [show i + 1 + 1 = i + 2 by omega]; exact g2) hB.2) (fun e st hne hB => absurd hB.1 hne)
theorem go_A41 (h : Sm s fr) {i : Int} (hi : fr < i) (g0 : fits s 128 143 i) (g1 : fits s 128 191 (i + 1)) (g2 : fits s 128 191 (i + 2)) {st : St} (k : InA s fr 41 i st) : SXR Tryz.prog 4098 5 bodyA st (Res s fr (some (i + 3))) := by
  refine SXR.step (ok_A41 h hi g0 k) (fun st1 hB => ?_) (fun e st hne hB => absurd hB.1 hne)
  have := go_B42 h (show fr < i + 1 by omega) g1 (by rw [show i + 1 + 1 = i + 2 by omega]; exact g2) hB.2
  rwa [show i + 1 + 2 = i + 3 by omega] at this
theorem go_A41_0 (h : Sm s fr) {i : Int} (hi : fr < i) (hi2 : i ≤ s.size) (g0 : ¬ fits s 128 143 i) {st : St} (k : InA s fr 41 i st) : SXR Tryz.prog 4098 2 bodyA st (Res s fr none) :=
  SXR.step (no_A41 h hi hi2 g0 k) (fun st1 hB => fromE h (by omega) hB.2) (fun e st hne hB => absurd hB.1 hne)
theorem go_A41_1 (h : Sm s fr) {i : Int} (hi : fr < i) (g0 : fits s 128 143 i) (g1 : ¬ fits s 128 191 (i + 1)) {st : St} (k : InA s fr 41 i st) : SXR Tryz.prog 4098 3 bodyA st (Res s fr none) :=
  SXR.step (ok_A41 h hi g0 k) (fun st1 hB => go_B42_0 h (show fr < i + 1 by omega) (by have := g0.1; omega) g1 hB.2) (fun e st hne hB => absurd hB.1 hne)
theorem go_A41_2 (h : Sm s fr) {i : Int} (hi : fr < i) (g0 : fits s 128 143 i) (g1 : fits s 128 191 (i + 1)) (g2 : ¬ fits s 128 191 (i + 2)) {st : St} (k : InA s fr 41 i st) : SXR Tryz.prog 4098 4 bodyA st (Res s fr none) :=
  SXR.step (ok_A41 h hi g0 k) (fun st1 hB => go_B42_1 h (show fr < i + 1 by omega) g1 (by rw [show i + 1 + 1 = i + 2 by omega]; exact g2) hB.2) (fun e st hne hB => absurd hB.1 hne)
end
end Go.Am.Zt
