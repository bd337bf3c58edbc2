import Derived.Test.YtikphefllmemjaaGreatZw2
import Derived.Test.YtikphefllmemjaaGreatZw5
/-
PikeAny: pike.Run with the program of '(?s).' over any text, from a place in it.
-/
namespace Go.Am.Zt
open Go Go.Am Go.Proofs
set_option linter.unusedVariables false
set_option maxRecDepth 100000
section
variable {s : ByteArray} {fr : Int}

theorem SXnext {K : Nat} {a b : ICode} {S1 S2 : (Nat → Value) → St} {B : IEx → St → Prop} (h : ∀ j, SX Tryz.prog K a (S1 j) (fun e st => e = .normal ∧ ∃ j, st = S2 j)) (k : ∀ j, SX Tryz.prog K b (S2 j) B) : ∀ j, SX Tryz.prog K (.seq a b) (S1 j) B :=
  fun j => SX.seq (h j) (fun st1 ⟨_, j', e⟩ => e ▸ k j') (fun e st1 hne hB => absurd hB.1 hne)

theorem firstRound {S1 S2 : (Nat → Value) → St} (h : Sm s fr) (hz : ∀ j, SX Tryz.prog 4098 bodyXc (AS s fr j) (fun e st => e = .normal ∧ ∃ j, st = S1 j)) (hd : ∀ j, SX Tryz.prog 4098 f10r28 (S1 j) (fun e st => e = .normal ∧ ∃ j, st = S2 j)) (j : Nat → Value) :
    SX Tryz.prog 4098 bodyA (AH0 s fr j) (fun e st => e = .normal ∧ ∃ j, st = S2 j) := by
  refine SXnext (aXa s fr h.small h.lo h.hi) (fun j => ?_) j
  refine SX.seq (B1 := fun e st => e = .normal ∧ ∃ j, st = S1 j) (SX.block (SXnext (aXb s fr h.small h.lo h.hi) hz j) ?_) ?_ (fun e st hne hB => absurd hB.1 hne)
  · rintro e st ⟨rfl, j, rfl⟩
    exact ⟨rfl, j, rfl⟩
  · rintro st ⟨_, j, rfl⟩
    exact hd j
abbrev sub (s : ByteArray) (fr : Int) : ByteArray := strSub s fr s.size
theorem sub_size (h : Sm s fr) : ((sub s fr).size : Int) = s.size - fr := strSub_size h.lo h.hi (Int.le_refl _)
theorem sub_byte (h : Sm s fr) {i : Int} (h0 : 0 ≤ i) (h1 : fr + i < s.size) : byteAt (sub s fr) i = byteAt s (fr + i) := strSub_byte h.lo (Int.le_refl _) h0 h1
theorem goes_one (h : Sm s fr) (hlt : fr < s.size) {lo hi : Int} (e1 : lo2 (byteAt s fr) = lo) (e2 : hi2 (byteAt s fr) = hi) : goes (sub s fr) 1 ↔ fits s lo hi (fr + 1) := by
  have hs := sub_size h
  have hb0 : byteAt (sub s fr) 0 = byteAt s fr := by rw [sub_byte h (by omega) (by omega), Int.add_zero]
  unfold goes fits
  simp only [if_true, hb0, e1, e2]
  by_cases hx : fr + 1 < s.size
  · have hb := sub_byte h (i := 1) (by omega) hx
    have : ((1 : Nat) : Int) = 1 := rfl
    rw [this, hb]
    constructor
    · rintro ⟨a, b, c⟩; exact ⟨by omega, b, c⟩
    · rintro ⟨a, b, c⟩; exact ⟨by omega, b, c⟩
  · constructor
    · rintro ⟨a, b, c⟩; exfalso; omega
    · rintro ⟨a, b, c⟩; exfalso; omega
theorem goes_more (h : Sm s fr) (hlt : fr < s.size) {k : Nat} (hk : 2 ≤ k) : goes (sub s fr) k ↔ fits s 128 191 (fr + k) := by
  have hs := sub_size h
  unfold goes fits
  rw [if_neg (by omega), if_neg (by omega)]
  by_cases hx : fr + k < s.size
  · have hb := sub_byte h (i := k) (by omega) hx
    rw [hb]
    constructor
    · rintro ⟨a, b, c⟩; exact ⟨by omega, b, c⟩
    · rintro ⟨a, b, c⟩; exact ⟨by omega, b, c⟩
  · constructor
    · rintro ⟨a, b, c⟩; exfalso; omega
    · rintro ⟨a, b, c⟩; exfalso; omega

theorem cl_c2 (h : Sm s fr) (hlt : fr < s.size) (hb : 194 ≤ byteAt s fr) (hb2 : byteAt s fr ≤ 223) (j : Nat → Value) : SX Tryz.prog 4098 bodyA (AH0 s fr j) (fun e st => e = .normal ∧ InA s fr 6 (fr + 1) st) := by
  have h0 := h.lo
  have h1 := h.small
  refine SX.mono (firstRound h (z_c2 s fr h.small h.lo hlt hb hb2) (aXd_CA s fr 6 2 0 0 6 fr _ _ h.lo (by omega)) j) ?_
  rintro e st ⟨rfl, j, rfl⟩
  refine ⟨rfl, _, _, _, _, j, ⟨?_, ?_⟩, rfl⟩
  · exact gl_le (AllLe.mem (by repeat' (first | exact trivial | refine ⟨?_, ?_⟩ | omega))) (by omega)
  · exact gl_le (AllLe.mem (by repeat' (first | exact trivial | refine ⟨?_, ?_⟩ | omega))) (by omega)
theorem fin_c2 (h : Sm s fr) (hlt : fr < s.size) (hb : 194 ≤ byteAt s fr) (hb2 : byteAt s fr ≤ 223) {v n : Int} (hc : U8c (sub s fr) v n) (j : Nat → Value) : SX Tryz.prog 4098 (.loop bodyA) (AH0 s fr j) (Res s fr (if v < 0 then none else some (fr + n))) := by
  have hb0 : byteAt (sub s fr) 0 = byteAt s fr := by rw [sub_byte h (by omega) (by omega), Int.add_zero]
  have hm : moreOf (byteAt (sub s fr) 0) = 1 := by
    rw [hb0]; unfold moreOf; repeat' split
    all_goals omega
  have e1 : lo2 (byteAt s fr) = 128 := by
    unfold lo2; repeat' split
    all_goals omega
  have e2 : hi2 (byteAt s fr) = 191 := by
    unfold hi2; repeat' split
    all_goals omega
  have ab := bitsOf_lo (byteAt_lo (sub s fr) 0) (byteAt_hi (sub s fr) 0)
  cases hc with
  | ok0 e =>
    omega
  | bad0 e =>
    omega
  | ok1 e a =>
    have := SX.ofR (SXR.step (cl_c2 h hlt hb hb2 j) (fun st hB => go_A6 h (show fr < fr + 1 by omega) ((goes_one h hlt e1 e2).1 a) hB.2) (fun e st hne hB => absurd hB.1 hne))
    rw [if_neg (by omega)]
    rwa [show fr + 1 + 1 = fr + 2 by omega] at this
  | ok2 e a b =>
    omega
  | ok3 e a b c =>
    omega
  | bad1 e a =>
    rw [if_pos (by omega)]
    exact SX.ofR (SXR.step (cl_c2 h hlt hb hb2 j) (fun st hB => go_A6_0 h (show fr < fr + 1 by omega) (by omega) (fun g => a ((goes_one h hlt e1 e2).2 g)) hB.2) (fun e st hne hB => absurd hB.1 hne))
  | bad2 e a b =>
    omega
  | bad3 e a b c =>
    omega
theorem cl_e0 (h : Sm s fr) (hlt : fr < s.size) (hb : byteAt s fr = 224) (j : Nat → Value) : SX Tryz.prog 4098 bodyA (AH0 s fr j) (fun e st => e = .normal ∧ InA s fr 10 (fr + 1) st) := by
  have h0 := h.lo
  have h1 := h.small
  refine SX.mono (firstRound h (z_e0 s fr h.small h.lo hlt hb) (aXd_CA s fr 10 2 0 0 10 fr _ _ h.lo (by omega)) j) ?_
  rintro e st ⟨rfl, j, rfl⟩
  refine ⟨rfl, _, _, _, _, j, ⟨?_, ?_⟩, rfl⟩
  · exact gl_le (AllLe.mem (by repeat' (first | exact trivial | refine ⟨?_, ?_⟩ | omega))) (by omega)
  · exact gl_le (AllLe.mem (by repeat' (first | exact trivial | refine ⟨?_, ?_⟩ | omega))) (by omega)
theorem fin_e0 (h : Sm s fr) (hlt : fr < s.size) (hb : byteAt s fr = 224) {v n : Int} (hc : U8c (sub s fr) v n) (j : Nat → Value) : SX Tryz.prog 4098 (.loop bodyA) (AH0 s fr j) (Res s fr (if v < 0 then none else some (fr + n))) := by
  have hb0 : byteAt (sub s fr) 0 = byteAt s fr := by rw [sub_byte h (by omega) (by omega), Int.add_zero]
  have hm : moreOf (byteAt (sub s fr) 0) = 2 := by
    rw [hb0]; unfold moreOf; repeat' split
    all_goals omega
  have e1 : lo2 (byteAt s fr) = 160 := by
    unfold lo2; repeat' split
    all_goals omega
  have e2 : hi2 (byteAt s fr) = 191 := by
    unfold hi2; repeat' split
    all_goals omega
  have ab := bitsOf_lo (byteAt_lo (sub s fr) 0) (byteAt_hi (sub s fr) 0)
  cases hc with
  | ok0 e =>
    omega
  | bad0 e =>
    omega
  | ok1 e a =>
    omega
  | ok2 e a b =>
    have := SX.ofR (SXR.step (cl_e0 h hlt hb j) (fun st hB => go_A10 h (show fr < fr + 1 by omega) ((goes_one h hlt e1 e2).1 a) (by have := (goes_more h hlt (k := 2) (by omega)).1 b; rwa [show fr + ((2 : Nat) : Int) = fr + 1 + 1 by omega] at this) hB.2) (fun e st hne hB => absurd hB.1 hne))
    rw [if_neg (by omega)]
    rwa [show fr + 1 + 2 = fr + 3 by omega] at this
  | ok3 e a b c =>
    omega
  | bad1 e a =>
    rw [if_pos (by omega)]
    exact SX.ofR (SXR.step (cl_e0 h hlt hb j) (fun st hB => go_A10_0 h (show fr < fr + 1 by omega) (by omega) (fun g => a ((goes_one h hlt e1 e2).2 g)) hB.2) (fun e st hne hB => absurd hB.1 hne))
  | bad2 e a b =>
    rw [if_pos (by omega)]
    exact SX.ofR (SXR.step (cl_e0 h hlt hb j) (fun st hB => go_A10_1 h (show fr < fr + 1 by omega) ((goes_one h hlt e1 e2).1 a) (fun g => b ((goes_more h hlt (k := 2) (by omega)).2 (by rw [show fr + ((2 : Nat) : Int) = fr + 1 + 1 by omega]; exact g))) hB.2) (fun e st hne hB => absurd hB.1 hne))
  | bad3 e a b c =>
    omega
theorem cl_e1 (h : Sm s fr) (hlt : fr < s.size) (hb : 225 ≤ byteAt s fr) (hb2 : byteAt s fr ≤ 236) (j : Nat → Value) : SX Tryz.prog 4098 bodyA (AH0 s fr j) (fun e st => e = .normal ∧ InA s fr 15 (fr + 1) st) := by
  have h0 := h.lo
  have h1 := h.small
  refine SX.mono (firstRound h (z_e1 s fr h.small h.lo hlt hb hb2) (aXd_CA s fr 15 2 0 0 15 fr _ _ h.lo (by omega)) j) ?_
  rintro e st ⟨rfl, j, rfl⟩
  refine ⟨rfl, _, _, _, _, j, ⟨?_, ?_⟩, rfl⟩
  · exact gl_le (AllLe.mem (by repeat' (first | exact trivial | refine ⟨?_, ?_⟩ | omega))) (by omega)
  · exact gl_le (AllLe.mem (by repeat' (first | exact trivial | refine ⟨?_, ?_⟩ | omega))) (by omega)
theorem fin_e1 (h : Sm s fr) (hlt : fr < s.size) (hb : 225 ≤ byteAt s fr) (hb2 : byteAt s fr ≤ 236) {v n : Int} (hc : U8c (sub s fr) v n) (j : Nat → Value) : SX Tryz.prog 4098 (.loop bodyA) (AH0 s fr j) (Res s fr (if v < 0 then none else some (fr + n))) := by
  have hb0 : byteAt (sub s fr) 0 = byteAt s fr := by rw [sub_byte h (by omega) (by omega), Int.add_zero]
  have hm : moreOf (byteAt (sub s fr) 0) = 2 := by
    rw [hb0]; unfold moreOf; repeat' split
    all_goals omega
  have e1 : lo2 (byteAt s fr) = 128 := by
    unfold lo2; repeat' split
    all_goals omega
  have e2 : hi2 (byteAt s fr) = 191 := by
    unfold hi2; repeat' split
    all_goals omega
  have ab := bitsOf_lo (byteAt_lo (sub s fr) 0) (byteAt_hi (sub s fr) 0)
  cases hc with
  | ok0 e =>
    omega
  | bad0 e =>
    omega
  | ok1 e a =>
    omega
  | ok2 e a b =>
    have := SX.ofR (SXR.step (cl_e1 h hlt hb hb2 j) (fun st hB => go_A15 h (show fr < fr + 1 by omega) ((goes_one h hlt e1 e2).1 a) (by have := (goes_more h hlt (k := 2) (by omega)).1 b; rwa [show fr + ((2 : Nat) : Int) = fr + 1 + 1 by omega] at this) hB.2) (fun e st hne hB => absurd hB.1 hne))
    rw [if_neg (by omega)]
    rwa [show fr + 1 + 2 = fr + 3 by omega] at this
  | ok3 e a b c =>
    omega
  | bad1 e a =>
    rw [if_pos (by omega)]
    exact SX.ofR (SXR.step (cl_e1 h hlt hb hb2 j) (fun st hB => go_A15_0 h (show fr < fr + 1 by omega) (by omega) (fun g => a ((goes_one h hlt e1 e2).2 g)) hB.2) (fun e st hne hB => absurd hB.1 hne))
  | bad2 e a b =>
    rw [if_pos (by omega)]
    exact SX.ofR (SXR.step (cl_e1 h hlt hb hb2 j) (fun st hB => go_A15_1 h (show fr < fr + 1 by omega) ((goes_one h hlt e1 e2).1 a) (fun g => b ((goes_more h hlt (k := 2) (by omega)).2 (by rw [show fr + ((2 : Nat) : Int) = fr + 1 + 1 by omega]; exact g))) hB.2) (fun e st hne hB => absurd hB.1 hne))
  | bad3 e a b c =>
    omega
theorem cl_ed (h : Sm s fr) (hlt : fr < s.size) (hb : byteAt s fr = 237) (j : Nat → Value) : SX Tryz.prog 4098 bodyA (AH0 s fr j) (fun e st => e = .normal ∧ InA s fr 20 (fr + 1) st) := by
  have h0 := h.lo
  have h1 := h.small
  refine SX.mono (firstRound h (z_ed s fr h.small h.lo hlt hb) (aXd_CA s fr 20 2 0 0 20 fr _ _ h.lo (by omega)) j) ?_
  rintro e st ⟨rfl, j, rfl⟩
  refine ⟨rfl, _, _, _, _, j, ⟨?_, ?_⟩, rfl⟩
  · exact gl_le (AllLe.mem (by repeat' (first | exact trivial | refine ⟨?_, ?_⟩ | omega))) (by omega)
  · exact gl_le (AllLe.mem (by repeat' (first | exact trivial | refine ⟨?_, ?_⟩ | omega))) (by omega)
theorem fin_ed (h : Sm s fr) (hlt : fr < s.size) (hb : byteAt s fr = 237) {v n : Int} (hc : U8c (sub s fr) v n) (j : Nat → Value) : SX Tryz.prog 4098 (.loop bodyA) (AH0 s fr j) (Res s fr (if v < 0 then none else some (fr + n))) := by
  have hb0 : byteAt (sub s fr) 0 = byteAt s fr := by rw [sub_byte h (by omega) (by omega), Int.add_zero]
  have hm : moreOf (byteAt (sub s fr) 0) = 2 := by
    rw [hb0]; unfold moreOf; repeat' split
    all_goals omega
  have e1 : lo2 (byteAt s fr) = 128 := by
    unfold lo2; repeat' split
    all_goals omega
  have e2 : hi2 (byteAt s fr) = 159 := by
    unfold hi2; repeat' split
    all_goals omega
  have ab := bitsOf_lo (byteAt_lo (sub s fr) 0) (byteAt_hi (sub s fr) 0)
  cases hc with
  | ok0 e =>
    omega
  | bad0 e =>
    omega
  | ok1 e a =>
    omega
  | ok2 e a b =>
    have := SX.ofR (SXR.step (cl_ed h hlt hb j) (fun st hB => go_A20 h (show fr < fr + 1 by omega) ((goes_one h hlt e1 e2).1 a) (by have := (goes_more h hlt (k := 2) (by omega)).1 b; rwa [show fr + ((2 : Nat) : Int) = fr + 1 + 1 by omega] at this) hB.2) (fun e st hne hB => absurd hB.1 hne))
    rw [if_neg (by omega)]
    rwa [show fr + 1 + 2 = fr + 3 by omega] at this
  | ok3 e a b c =>
    omega
  | bad1 e a =>
    rw [if_pos (by omega)]
    exact SX.ofR (SXR.step (cl_ed h hlt hb j) (fun st hB => go_A20_0 h (show fr < fr + 1 by omega) (by omega) (fun g => a ((goes_one h hlt e1 e2).2 g)) hB.2) (fun e st hne hB => absurd hB.1 hne))
  | bad2 e a b =>
    rw [if_pos (by omega)]
    exact SX.ofR (SXR.step (cl_ed h hlt hb j) (fun st hB => go_A20_1 h (show fr < fr + 1 by omega) ((goes_one h hlt e1 e2).1 a) (fun g => b ((goes_more h hlt (k := 2) (by omega)).2 (by rw [show fr + ((2 : Nat) : Int) = fr + 1 + 1 by omega]; exact g))) hB.2) (fun e st hne hB => absurd hB.1 hne))
  | bad3 e a b c =>
    omega
theorem cl_ee (h : Sm s fr) (hlt : fr < s.size) (hb : 238 ≤ byteAt s fr) (hb2 : byteAt s fr ≤ 239) (j : Nat → Value) : SX Tryz.prog 4098 bodyA (AH0 s fr j) (fun e st => e = .normal ∧ InA s fr 25 (fr + 1) st) := by
  have h0 := h.lo
  have h1 := h.small
  refine SX.mono (firstRound h (z_ee s fr h.small h.lo hlt hb hb2) (aXd_CA s fr 25 2 0 0 25 fr _ _ h.lo (by omega)) j) ?_
  rintro e st ⟨rfl, j, rfl⟩
  refine ⟨rfl, _, _, _, _, j, ⟨?_, ?_⟩, rfl⟩
  · exact gl_le (AllLe.mem (by repeat' (first | exact trivial | refine ⟨?_, ?_⟩ | omega))) (by omega)
  · exact gl_le (AllLe.mem (by repeat' (first | exact trivial | refine ⟨?_, ?_⟩ | omega))) (by omega)
theorem fin_ee (h : Sm s fr) (hlt : fr < s.size) (hb : 238 ≤ byteAt s fr) (hb2 : byteAt s fr ≤ 239) {v n : Int} (hc : U8c (sub s fr) v n) (j : Nat → Value) : SX Tryz.prog 4098 (.loop bodyA) (AH0 s fr j) (Res s fr (if v < 0 then none else some (fr + n))) := by
  have hb0 : byteAt (sub s fr) 0 = byteAt s fr := by rw [sub_byte h (by omega) (by omega), Int.add_zero]
  have hm : moreOf (byteAt (sub s fr) 0) = 2 := by
    rw [hb0]; unfold moreOf; repeat' split
    all_goals omega
  have e1 : lo2 (byteAt s fr) = 128 := by
    unfold lo2; repeat' split
    all_goals omega
  have e2 : hi2 (byteAt s fr) = 191 := by
    unfold hi2; repeat' split
    all_goals omega
  have ab := bitsOf_lo (byteAt_lo (sub s fr) 0) (byteAt_hi (sub s fr) 0)
  cases hc with
  | ok0 e =>
    omega
  | bad0 e =>
    omega
  | ok1 e a =>
    omega
  | ok2 e a b =>
    have := SX.ofR (SXR.step (cl_ee h hlt hb hb2 j) (fun st hB => go_A25 h (show fr < fr + 1 by omega) ((goes_one h hlt e1 e2).1 a) (by have := (goes_more h hlt (k := 2) (by omega)).1 b; rwa [show fr + ((2 : Nat) : Int) = fr + 1 + 1 by omega] at this) hB.2) (fun e st hne hB => absurd hB.1 hne))
    rw [if_neg (by omega)]
    rwa [show fr + 1 + 2 = fr + 3 by omega] at this
  | ok3 e a b c =>
    omega
  | bad1 e a =>
    rw [if_pos (by omega)]
    exact SX.ofR (SXR.step (cl_ee h hlt hb hb2 j) (fun st hB => go_A25_0 h (show fr < fr + 1 by omega) (by omega) (fun g => a ((goes_one h hlt e1 e2).2 g)) hB.2) (fun e st hne hB => absurd hB.1 hne))
  | bad2 e a b =>
    rw [if_pos (by omega)]
    exact SX.ofR (SXR.step (cl_ee h hlt hb hb2 j) (fun st hB => go_A25_1 h (show fr < fr + 1 by omega) ((goes_one h hlt e1 e2).1 a) (fun g => b ((goes_more h hlt (k := 2) (by omega)).2 (by rw [show fr + ((2 : Nat) : Int) = fr + 1 + 1 by omega]; exact g))) hB.2) (fun e st hne hB => absurd hB.1 hne))
  | bad3 e a b c =>
    omega
theorem cl_f0 (h : Sm s fr) (hlt : fr < s.size) (hb : byteAt s fr = 240) (j : Nat → Value) : SX Tryz.prog 4098 bodyA (AH0 s fr j) (fun e st => e = .normal ∧ InA s fr 30 (fr + 1) st) := by
  have h0 := h.lo
  have h1 := h.small
  refine SX.mono (firstRound h (z_f0 s fr h.small h.lo hlt hb) (aXd_CA s fr 30 2 0 0 30 fr _ _ h.lo (by omega)) j) ?_
  rintro e st ⟨rfl, j, rfl⟩
  refine ⟨rfl, _, _, _, _, j, ⟨?_, ?_⟩, rfl⟩
  · exact gl_le (AllLe.mem (by repeat' (first | exact trivial | refine ⟨?_, ?_⟩ | omega))) (by omega)
  · exact gl_le (AllLe.mem (by repeat' (first | exact trivial | refine ⟨?_, ?_⟩ | omega))) (by omega)
theorem fin_f0 (h : Sm s fr) (hlt : fr < s.size) (hb : byteAt s fr = 240) {v n : Int} (hc : U8c (sub s fr) v n) (j : Nat → Value) : SX Tryz.prog 4098 (.loop bodyA) (AH0 s fr j) (Res s fr (if v < 0 then none else some (fr + n))) := by
  have hb0 : byteAt (sub s fr) 0 = byteAt s fr := by rw [sub_byte h (by omega) (by omega), Int.add_zero]
  have hm : moreOf (byteAt (sub s fr) 0) = 3 := by
    rw [hb0]; unfold moreOf; repeat' split
    all_goals omega
  have e1 : lo2 (byteAt s fr) = 144 := by
    unfold lo2; repeat' split
    all_goals omega
  have e2 : hi2 (byteAt s fr) = 191 := by
    unfold hi2; repeat' split
    all_goals omega
  have ab := bitsOf_lo (byteAt_lo (sub s fr) 0) (byteAt_hi (sub s fr) 0)
  cases hc with
  | ok0 e =>
    omega
  | bad0 e =>
    omega
  | ok1 e a =>
    omega
  | ok2 e a b =>
    omega
  | ok3 e a b c =>
    have := SX.ofR (SXR.step (cl_f0 h hlt hb j) (fun st hB => go_A30 h (show fr < fr + 1 by omega) ((goes_one h hlt e1 e2).1 a) (by have := (goes_more h hlt (k := 2) (by omega)).1 b; rwa [show fr + ((2 : Nat) : Int) = fr + 1 + 1 by omega] at this) (by have := (goes_more h hlt (k := 3) (by omega)).1 c; rwa [show fr + ((3 : Nat) : Int) = fr + 1 + 2 by omega] at this) hB.2) (fun e st hne hB => absurd hB.1 hne))
    rw [if_neg (by omega)]
    rwa [show fr + 1 + 3 = fr + 4 by omega] at this
  | bad1 e a =>
    rw [if_pos (by omega)]
    exact SX.ofR (SXR.step (cl_f0 h hlt hb j) (fun st hB => go_A30_0 h (show fr < fr + 1 by omega) (by omega) (fun g => a ((goes_one h hlt e1 e2).2 g)) hB.2) (fun e st hne hB => absurd hB.1 hne))
  | bad2 e a b =>
    rw [if_pos (by omega)]
    exact SX.ofR (SXR.step (cl_f0 h hlt hb j) (fun st hB => go_A30_1 h (show fr < fr + 1 by omega) ((goes_one h hlt e1 e2).1 a) (fun g => b ((goes_more h hlt (k := 2) (by omega)).2 (by rw [show fr + ((2 : Nat) : Int) = fr + 1 + 1 by omega]; exact g))) hB.2) (fun e st hne hB => absurd hB.1 hne))
  | bad3 e a b c =>
    rw [if_pos (by omega)]
    exact SX.ofR (SXR.step (cl_f0 h hlt hb j) (fun st hB => go_A30_2 h (show fr < fr + 1 by omega) ((goes_one h hlt e1 e2).1 a) (by have := (goes_more h hlt (k := 2) (by omega)).1 b; rwa [show fr + ((2 : Nat) : Int) = fr + 1 + 1 by omega] at this) (fun g => c ((goes_more h hlt (k := 3) (by omega)).2 (by rw [show fr + ((3 : Nat) : Int) = fr + 1 + 2 by omega]; exact g))) hB.2) (fun e st hne hB => absurd hB.1 hne))
theorem cl_f1 (h : Sm s fr) (hlt : fr < s.size) (hb : 241 ≤ byteAt s fr) (hb2 : byteAt s fr ≤ 243) (j : Nat → Value) : SX Tryz.prog 4098 bodyA (AH0 s fr j) (fun e st => e = .normal ∧ InA s fr 36 (fr + 1) st) := by
  have h0 := h.lo
  have h1 := h.small
  refine SX.mono (firstRound h (z_f1 s fr h.small h.lo hlt hb hb2) (aXd_CA s fr 36 2 0 0 36 fr _ _ h.lo (by omega)) j) ?_
  rintro e st ⟨rfl, j, rfl⟩
  refine ⟨rfl, _, _, _, _, j, ⟨?_, ?_⟩, rfl⟩
  · exact gl_le (AllLe.mem (by repeat' (first | exact trivial | refine ⟨?_, ?_⟩ | omega))) (by omega)
  · exact gl_le (AllLe.mem (by repeat' (first | exact trivial | refine ⟨?_, ?_⟩ | omega))) (by omega)
theorem fin_f1 (h : Sm s fr) (hlt : fr < s.size) (hb : 241 ≤ byteAt s fr) (hb2 : byteAt s fr ≤ 243) {v n : Int} (hc : U8c (sub s fr) v n) (j : Nat → Value) : SX Tryz.prog 4098 (.loop bodyA) (AH0 s fr j) (Res s fr (if v < 0 then none else some (fr + n))) := by
  have hb0 : byteAt (sub s fr) 0 = byteAt s fr := by rw [sub_byte h (by omega) (by omega), Int.add_zero]
  have hm : moreOf (byteAt (sub s fr) 0) = 3 := by
    rw [hb0]; unfold moreOf; repeat' split
    all_goals omega
  have e1 : lo2 (byteAt s fr) = 128 := by
    unfold lo2; repeat' split
    all_goals omega
  have e2 : hi2 (byteAt s fr) = 191 := by
    unfold hi2; repeat' split
    all_goals omega
  have ab := bitsOf_lo (byteAt_lo (sub s fr) 0) (byteAt_hi (sub s fr) 0)
  cases hc with
  | ok0 e =>
    omega
  | bad0 e =>
    omega
  | ok1 e a =>
    omega
  | ok2 e a b =>
    omega
  | ok3 e a b c =>
    have := SX.ofR (SXR.step (cl_f1 h hlt hb hb2 j) (fun st hB => go_A36 h (show fr < fr + 1 by omega) ((goes_one h hlt e1 e2).1 a) (by have := (goes_more h hlt (k := 2) (by omega)).1 b; rwa [show fr + ((2 : Nat) : Int) = fr + 1 + 1 by omega] at this) (by have := (goes_more h hlt (k := 3) (by omega)).1 c; rwa [show fr + ((3 : Nat) : Int) = fr + 1 + 2 by omega] at this) hB.2) (fun e st hne hB => absurd hB.1 hne))
    rw [if_neg (by omega)]
    rwa [show fr + 1 + 3 = fr + 4 by omega] at this
  | bad1 e a =>
    rw [if_pos (by omega)]
    exact SX.ofR (SXR.step (cl_f1 h hlt hb hb2 j) (fun st hB => go_A36_0 h (show fr < fr + 1 by omega) (by omega) (fun g => a ((goes_one h hlt e1 e2).2 g)) hB.2) (fun e st hne hB => absurd hB.1 hne))
  | bad2 e a b =>
    rw [if_pos (by omega)]
    exact SX.ofR (SXR.step (cl_f1 h hlt hb hb2 j) (fun st hB => go_A36_1 h (show fr < fr + 1 by omega) ((goes_one h hlt e1 e2).1 a) (fun g => b ((goes_more h hlt (k := 2) (by omega)).2 (by rw [show fr + ((2 : Nat) : Int) = fr + 1 + 1 by omega]; exact g))) hB.2) (fun e st hne hB => absurd hB.1 hne))
  | bad3 e a b c =>
    rw [if_pos (by omega)]
    exact SX.ofR (SXR.step (cl_f1 h hlt hb hb2 j) (fun st hB => go_A36_2 h (show fr < fr + 1 by omega) ((goes_one h hlt e1 e2).1 a) (by have := (goes_more h hlt (k := 2) (by omega)).1 b; rwa [show fr + ((2 : Nat) : Int) = fr + 1 + 1 by omega] at this) (fun g => c ((goes_more h hlt (k := 3) (by omega)).2 (by rw [show fr + ((3 : Nat) : Int) = fr + 1 + 2 by omega]; exact g))) hB.2) (fun e st hne hB => absurd hB.1 hne))
theorem cl_f4 (h : Sm s fr) (hlt : fr < s.size) (hb : byteAt s fr = 244) (j : Nat → Value) : SX Tryz.prog 4098 bodyA (AH0 s fr j) (fun e st => e = .normal ∧ InA s fr 41 (fr + 1) st) := by
  have h0 := h.lo
  have h1 := h.small
  refine SX.mono (firstRound h (z_f4 s fr h.small h.lo hlt hb) (aXd_CA s fr 41 2 0 0 41 fr _ _ h.lo (by omega)) j) ?_
  rintro e st ⟨rfl, j, rfl⟩
  refine ⟨rfl, _, _, _, _, j, ⟨?_, ?_⟩, rfl⟩
  · exact gl_le (AllLe.mem (by repeat' (first | exact trivial | refine ⟨?_, ?_⟩ | omega))) (by omega)
  · exact gl_le (AllLe.mem (by repeat' (first | exact trivial | refine ⟨?_, ?_⟩ | omega))) (by omega)
theorem fin_f4 (h : Sm s fr) (hlt : fr < s.size) (hb : byteAt s fr = 244) {v n : Int} (hc : U8c (sub s fr) v n) (j : Nat → Value) : SX Tryz.prog 4098 (.loop bodyA) (AH0 s fr j) (Res s fr (if v < 0 then none else some (fr + n))) := by
  have hb0 : byteAt (sub s fr) 0 = byteAt s fr := by rw [sub_byte h (by omega) (by omega), Int.add_zero]
  have hm : moreOf (byteAt (sub s fr) 0) = 3 := by
    rw [hb0]; unfold moreOf; repeat' split
    all_goals omega
  have e1 : lo2 (byteAt s fr) = 128 := by
    unfold lo2; repeat' split
    all_goals omega
  have e2 : hi2 (byteAt s fr) = 143 := by
    unfold hi2; repeat' split
    all_goals omega
  have ab := bitsOf_lo (byteAt_lo (sub s fr) 0) (byteAt_hi (sub s fr) 0)
  cases hc with
  | ok0 e =>
    omega
  | bad0 e =>
    omega
  | ok1 e a =>
    omega
  | ok2 e a b =>
    omega
  | ok3 e a b c =>
    have := SX.ofR (SXR.step (cl_f4 h hlt hb j) (fun st hB => go_A41 h (show fr < fr + 1 by omega) ((goes_one h hlt e1 e2).1 a) (by have := (goes_more h hlt (k := 2) (by omega)).1 b; rwa [show fr + ((2 : Nat) : Int) = fr + 1 + 1 by omega] at this) (by have := (goes_more h hlt (k := 3) (by omega)).1 c; rwa [show fr + ((3 : Nat) : Int) = fr + 1 + 2 by omega] at this) hB.2) (fun e st hne hB => absurd hB.1 hne))
    rw [if_neg (by omega)]
    rwa [show fr + 1 + 3 = fr + 4 by omega] at this
  | bad1 e a =>
    rw [if_pos (by omega)]
    exact SX.ofR (SXR.step (cl_f4 h hlt hb j) (fun st hB => go_A41_0 h (show fr < fr + 1 by omega) (by omega) (fun g => a ((goes_one h hlt e1 e2).2 g)) hB.2) (fun e st hne hB => absurd hB.1 hne))
  | bad2 e a b =>
    rw [if_pos (by omega)]
    exact SX.ofR (SXR.step (cl_f4 h hlt hb j) (fun st hB => go_A41_1 h (show fr < fr + 1 by omega) ((goes_one h hlt e1 e2).1 a) (fun g => b ((goes_more h hlt (k := 2) (by omega)).2 (by rw [show fr + ((2 : Nat) : Int) = fr + 1 + 1 by omega]; exact g))) hB.2) (fun e st hne hB => absurd hB.1 hne))
  | bad3 e a b c =>
    rw [if_pos (by omega)]
    exact SX.ofR (SXR.step (cl_f4 h hlt hb j) (fun st hB => go_A41_2 h (show fr < fr + 1 by omega) ((goes_one h hlt e1 e2).1 a) (by have := (goes_more h hlt (k := 2) (by omega)).1 b; rwa [show fr + ((2 : Nat) : Int) = fr + 1 + 1 by omega] at this) (fun g => c ((goes_more h hlt (k := 3) (by omega)).2 (by rw [show fr + ((3 : Nat) : Int) = fr + 1 + 2 by omega]; exact g))) hB.2) (fun e st hne hB => absurd hB.1 hne))
theorem cl_lo (h : Sm s fr) (hlt : fr < s.size) (hb : byteAt s fr < 128) (j : Nat → Value) : SX Tryz.prog 4098 bodyA (AH0 s fr j) (fun e st => e = .normal ∧ InM s fr (fr + 1) (fr + 1) st) := by
  have h0 := h.lo
  have h1 := h.small
  refine SX.mono (firstRound h (z_lo s fr h.small h.lo hlt hb (byteAt_lo s fr)) (aXd_CM s fr 45 2 (fr + 1) 0 3 fr _ _ h.lo (by omega)) j) ?_
  rintro e st ⟨rfl, j, rfl⟩
  refine ⟨rfl, .inl ⟨_, _, _, _, j, ⟨?_, ?_⟩, rfl⟩⟩
  · exact gl_le (AllLe.mem (by repeat' (first | exact trivial | refine ⟨?_, ?_⟩ | omega))) (by omega)
  · exact gl_le (AllLe.mem (by repeat' (first | exact trivial | refine ⟨?_, ?_⟩ | omega))) (by omega)
theorem cl_bad (h : Sm s fr) (hlt : fr < s.size) (hb : (128 ≤ byteAt s fr ∧ byteAt s fr < 194) ∨ 244 < byteAt s fr) (j : Nat → Value) : SX Tryz.prog 4098 bodyA (AH0 s fr j) (fun e st => e = .normal ∧ InE s fr (fr + 1) st) := by
  have h0 := h.lo
  have h1 := h.small
  rcases hb with ⟨hb, hb2⟩ | hb
  · refine SX.mono (firstRound h (z_b1 s fr h.small h.lo hlt hb hb2) (aXd_CE s fr 0 2 0 0 40 fr _ _ h.lo (by omega)) j) ?_
    rintro e st ⟨rfl, j, rfl⟩
    refine ⟨rfl, .inl ⟨_, _, _, _, j, ⟨?_, ?_⟩, rfl⟩⟩
    · exact gl_le (AllLe.mem (by repeat' (first | exact trivial | refine ⟨?_, ?_⟩ | omega))) (by omega)
    · exact gl_le (AllLe.mem (by repeat' (first | exact trivial | refine ⟨?_, ?_⟩ | omega))) (by omega)
  · refine SX.mono (firstRound h (z_b2 s fr h.small h.lo hlt hb (byteAt_hi s fr)) (aXd_CE s fr 0 2 0 0 40 fr _ _ h.lo (by omega)) j) ?_
    rintro e st ⟨rfl, j, rfl⟩
    refine ⟨rfl, .inl ⟨_, _, _, _, j, ⟨?_, ?_⟩, rfl⟩⟩
    · exact gl_le (AllLe.mem (by repeat' (first | exact trivial | refine ⟨?_, ?_⟩ | omega))) (by omega)
    · exact gl_le (AllLe.mem (by repeat' (first | exact trivial | refine ⟨?_, ?_⟩ | omega))) (by omega)
theorem fin_end (h : Sm s fr) (he : fr = s.size) (j : Nat → Value) : SX Tryz.prog 4098 (.loop bodyA) (AH0 s fr j) (Res s fr none) := by
  have h0 := h.lo
  have h1 := h.small
  refine SX.ofR (SXR.step (B1 := fun e st => e = .normal ∧ InE s fr (fr + 1) st) ?_ (fun st hB => fromE h (by omega) hB.2) (fun e st hne hB => absurd hB.1 hne))
  refine SX.mono (firstRound h (z_end s fr h.small h.lo he) (aXd_CE s fr 0 2 0 0 40 fr _ _ h.lo (by omega)) j) ?_
  rintro e st ⟨rfl, j, rfl⟩
  refine ⟨rfl, .inl ⟨_, _, _, _, j, ⟨?_, ?_⟩, rfl⟩⟩
  · exact gl_le (AllLe.mem (by repeat' (first | exact trivial | refine ⟨?_, ?_⟩ | omega))) (by omega)
  · exact gl_le (AllLe.mem (by repeat' (first | exact trivial | refine ⟨?_, ?_⟩ | omega))) (by omega)

theorem loopAny (h : Sm s fr) (hlt : fr < s.size) {v n : Int} (hc : U8c (sub s fr) v n) (j : Nat → Value) : SX Tryz.prog 4098 (.loop bodyA) (AH0 s fr j) (Res s fr (if v < 0 then none else some (fr + n))) := by
  have a0 := byteAt_lo s fr
  have z0 := byteAt_hi s fr
  have hb0 : byteAt (sub s fr) 0 = byteAt s fr := by rw [sub_byte h (by omega) (by omega), Int.add_zero]
  by_cases c1 : byteAt s fr < 128
  · have hm : moreOf (byteAt (sub s fr) 0) = 0 := by rw [hb0]; unfold moreOf; rw [if_pos c1]
    have : v = byteAt s fr ∧ n = 1 := by cases hc <;> first | exact ⟨hb0, rfl⟩ | (exfalso; omega)
    obtain ⟨rfl, rfl⟩ := this
    rw [if_neg (by omega)]
    exact SX.ofR (SXR.step (cl_lo h hlt c1 j) (fun st hB => fromM h (by omega) (by omega) hB.2) (fun e st hne hB => absurd hB.1 hne))
  by_cases c2 : (128 ≤ byteAt s fr ∧ byteAt s fr < 194) ∨ 244 < byteAt s fr
  · have hm : moreOf (byteAt (sub s fr) 0) = -1 := by
      rw [hb0]; unfold moreOf; repeat' split
      all_goals omega
    have : v = -1 := by cases hc <;> first | rfl | (exfalso; omega)
    rw [if_pos (by omega)]
    exact SX.ofR (SXR.step (cl_bad h hlt c2 j) (fun st hB => fromE h (by omega) hB.2) (fun e st hne hB => absurd hB.1 hne))
  by_cases c3 : byteAt s fr ≤ 223
  · exact fin_c2 h hlt (by omega) c3 hc j
  by_cases c4 : byteAt s fr = 224
  · exact fin_e0 h hlt c4 hc j
  by_cases c5 : byteAt s fr ≤ 236
  · exact fin_e1 h hlt (by omega) c5 hc j
  by_cases c6 : byteAt s fr = 237
  · exact fin_ed h hlt c6 hc j
  by_cases c7 : byteAt s fr ≤ 239
  · exact fin_ee h hlt (by omega) c7 hc j
  by_cases c8 : byteAt s fr = 240
  · exact fin_f0 h hlt c8 hc j
  by_cases c9 : byteAt s fr ≤ 243
  · exact fin_f1 h hlt (by omega) c9 hc j
  · exact fin_f4 h hlt (by omega) hc j

end
end Go.Am.Zt
