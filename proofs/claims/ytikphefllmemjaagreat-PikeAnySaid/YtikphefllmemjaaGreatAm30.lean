import Derived.Test.YtikphefllmemjaaGreatAm29
/-
The engine, part 30: blocks whose cells are a list of any length, without addresses.
-/
namespace Go.Am
open Go
set_option linter.unusedVariables false
set_option linter.unusedSimpArgs false

/-- an object without addresses -/
structure PureO (o : VObj) : Prop where
  ren : ∀ r, renO r o = o
  dom : ∀ d, domO d o = true

def isInt (v : Value) : Prop := ∃ k n, v = .int k n
def AllInt (l : List Value) : Prop := ∀ v ∈ l, isInt v
theorem AllInt.nil : AllInt [] := fun v h => by simp at h
theorem AllInt.cons {k : IntKind} {n : Int} {l : List Value} (h : AllInt l) : AllInt (.int k n :: l) := fun v hv => by
  rcases List.mem_cons.1 hv with rfl | hv
  · exact ⟨k, n, rfl⟩
  · exact h v hv
theorem AllInt.append {l l' : List Value} (h : AllInt l) (h' : AllInt l') : AllInt (l ++ l') := fun v hv => by
  rcases List.mem_append.1 hv with hv | hv
  · exact h v hv
  · exact h' v hv
theorem AllInt.snoc {k : IntKind} {n : Int} {l : List Value} (h : AllInt l) : AllInt (l ++ [.int k n]) := h.append (AllInt.nil.cons)

theorem pure_ints {cs : List Value} {e : TypeId} {s : Option Nat} {f : Nat} (h : AllInt cs) : PureO (.cells cs e s f) := by
  refine ⟨fun r => ?_, fun d => ?_⟩
  · simp only [renO]
    congr 1
    rw [List.map_congr_left (g := id) (fun v hv => ?_), List.map_id]
    obtain ⟨k, n, rfl⟩ := h v hv
    rfl
  · simp only [domO, List.all_eq_true]
    intro v hv
    obtain ⟨k, n, rfl⟩ := h v hv
    rfl

def AllPure : List (Nat × VObj) → Prop
  | [] => True
  | p :: l => PureO p.2 ∧ AllPure l
theorem AllPure.mem : ∀ {l : List (Nat × VObj)}, AllPure l → ∀ p ∈ l, PureO p.2
  | [], _, p, hp => by simp at hp
  | q :: l, h, p, hp => by
    rcases List.mem_cons.1 hp with rfl | hp
    · exact h.1
    · exact AllPure.mem h.2 p hp

section
variable {P : Program} {T : Tbl} {K : Nat}

/-- as runChk, and some objects as they are -/
def runChk2 (P : Program) (T : Tbl) (n : Nat) (c : ICode) (st : St) (hs : List (Nat × Hint)) (pat : List (Option Value)) (l lo : List (Nat × VObj)) (K : Nat) (σ : List (Nat × Nat)) :
    Option (IEx × List Prop × List Value × List (Option VObj) × List (Option VObj) × Bool) :=
  match execH P T (runFnH P T n) n c st ⟨hs, []⟩ with
  | some (e, st', s) => match s.hs with
    | [] => some (e, s.cs, selT pat st'.tmps, l.map (fun p => st'.h.get (ren K σ p.1)), lo.map (fun p => st'.h.get (ren K σ p.1)), decide (st'.tmps.length = pat.length) && decide (st'.h.next ≤ OFF) && st'.ds.isEmpty)
    | _ => none
  | none => none

theorem okHp_append {d : Nat → Bool} {l lo : List (Nat × VObj)} (h : okHp d l = true) (h' : (lo.all fun p => d p.1) = true) (hp : AllPure lo) : okHp d (l ++ lo) = true := by
  unfold okHp at *
  rw [List.all_append, h, Bool.true_and, List.all_eq_true]
  intro p hm
  rw [List.all_eq_true] at h'
  rw [h' p hm, (hp.mem p hm).dom]
  rfl
theorem map_append' {r : Nat → Nat} {g : Nat → Option VObj} {l lo : List (Nat × VObj)} (h : l.map (fun p => g (r p.1)) = l.map (fun p => some (renO r p.2)))
    (h' : lo.map (fun p => g (r p.1)) = lo.map (fun p => some p.2)) (hp : AllPure lo) : (l ++ lo).map (fun p => g (r p.1)) = (l ++ lo).map (fun p => some (renO r p.2)) := by
  rw [List.map_append, List.map_append, h, h']
  congr 1
  exact List.map_congr_left fun p hm => by rw [(hp.mem p hm).ren]

/-- a run over open values, brought to other names; 'lo': blocks without addresses -/
theorem SX.run2 (hT : TblOk P T) (hmix : P.follows .mixedOrders = true) {n : Nat} {c : ICode} {st : St} {hs : List (Nat × Hint)} {e : IEx} {cs : List Prop} {next : Nat} {σ : List (Nat × Nat)} {pat : List (Option Value)} {l lo : List (Nat × VObj)}
    (k : runChk2 P T n c st hs pat l lo K σ = some (e, cs, (liveT pat).map (renV (ren K σ) 8), l.map (fun p => some (renO (ren K σ) p.2)), lo.map (fun p => some p.2), true)) (hcs : AllP cs) (hK : K ≤ st.h.next)
    (ok : (okσ K next σ && okHp (inDom K σ) l && (lo.all fun p => inDom K σ p.1) && (liveT pat).all (domV (inDom K σ) 8)) = true) (hp : AllPure lo) : SX P K c st (fun e' st' => e' = e ∧ ∃ j, st' = ⟨fillT pat j 0, mkH next (l ++ lo), []⟩) := by
  unfold runChk2 at k
  split at k
  case h_2 => cases k
  rename_i e1 st1 s1 hx
  split at k
  case h_2 => cases k
  rename_i hsn
  simp only [Option.some.injEq, Prod.mk.injEq, Bool.and_eq_true, decide_eq_true_eq, List.isEmpty_iff] at k
  obtain ⟨rfl, rfl, h1, h2, h2', ⟨h3, h4⟩, h5⟩ := k
  simp only [Bool.and_eq_true] at ok
  have hEx : Ex P T c st (e1, st1) := ⟨n, (execH_ok (runFnH_ok n) n hx hcs).2⟩
  refine SX.andThen (SX.ofEx hT hmix hEx hK h4 (B := fun e st => e = e1 ∧ st = st1) ⟨rfl, rfl⟩) ?_
  rintro e st2 ⟨rfl, rfl⟩ ρ w a hR hC
  obtain ⟨j, k1, k2⟩ := hR.renamed ok.1.1.1 (okHp_append ok.1.1.2 ok.1.2 hp) (map_append' h2 h2' hp) ok.2 h1 h3 h5
  exact ⟨_, _, ⟨rfl, j, rfl⟩, k1, ren2_clear ok.1.1.1, k2⟩

/-- so many rounds of a loop -/
def SXR (P : Program) (K n : Nat) (x : ICode) (st : St) (B : IEx → St → Prop) : Prop :=
  ∀ c' : Code, cCode P c' = x → ∀ (ρ : Ren) (w : World) (a : Act), Rel ρ st a w → Clear ρ st.h.next → ∀ Q : Exit → Act → World → Prop,
    (∀ e st' ρ' a' w', B e st' → Rel ρ' st' a' w' → Clear ρ' st'.h.next → Hist K ρ st.h.get w ρ' st'.h.get w' → Q (exOf e) a' w') → Code.rounds P c' Q n a w
theorem SXR.step {n : Nat} {x : ICode} {st : St} {B1 B : IEx → St → Prop} (h : SX P K x st B1) (k : ∀ st1, B1 .normal st1 → SXR P K n x st1 B) (hx : ∀ e st1, e ≠ .normal → B1 e st1 → B e st1) : SXR P K (n + 1) x st B := by
  intro c' hc ρ w a hR hC Q hQ
  rw [rounds_succ]
  refine h c' hc ρ w a hR hC _ (fun e st' ρ' a' w' hB hR' hC' hH => ?_)
  cases e with
  | normal => exact k st' hB c' hc ρ' w' a' hR' hC' Q (fun e2 st2 ρ2 a2 w2 hB2 hR2 hC2 hH2 => hQ e2 st2 ρ2 a2 w2 hB2 hR2 hC2 (hH.trans hH2))
  | exit i => exact hQ _ st' ρ' a' w' (hx (.exit i) _ (by simp) hB) hR' hC' hH
  | goto l => exact hQ _ st' ρ' a' w' (hx (.goto l) _ (by simp) hB) hR' hC' hH
  | ret => exact hQ _ st' ρ' a' w' (hx .ret _ (by simp) hB) hR' hC' hH
theorem SX.ofR {n : Nat} {x : ICode} {st : St} {B : IEx → St → Prop} (h : SXR P K n x st B) : SX P K (.loop x) st B := by
  intro c' hc ρ w a hR hC Q hQ
  obtain ⟨c1, rfl, h1⟩ := cCode_loop hc
  exact wp_loop_rounds n (h c1 h1 ρ w a hR hC Q hQ)
theorem SXR.last {x : ICode} {st : St} {B1 B : IEx → St → Prop} (h : SX P K x st B1) (hx : ∀ e st1, B1 e st1 → e ≠ .normal ∧ B e st1) : SXR P K 1 x st B :=
  SXR.step h (fun st1 hB => absurd rfl (hx _ _ hB).1) (fun e st1 _ hB => (hx _ _ hB).2)

/-- of the heap that is left, some blocks -/
theorem SX.sub {c : ICode} {st : St} {B1 B : IEx → St → Prop} (h : SX P K c st B1)
    (k : ∀ e st1, B1 e st1 → ∃ l : List (Nat × VObj), l.map (fun p => st1.h.get p.1) = l.map (fun p => some p.2) ∧ B e ⟨st1.tmps, mkH st1.h.next l, st1.ds⟩) : SX P K c st B := by
  refine SX.andThen h (fun e st1 hB ρ w a hR hC => ?_)
  obtain ⟨l, h1, h2⟩ := k e st1 hB
  have hsub : ∀ b o, (mkH st1.h.next l).get b = some o → st1.h.get b = some o := fun b o hb => List.map_inj_left.1 h1 _ (mkH_get hb)
  exact ⟨ρ, _, h2, ⟨hR.sim.weaken hsub, hR.tm, hR.ds⟩, hC, ⟨rfl, rfl, Nat.le_refl _, fun _ _ _ => rfl, fun b o r x h3 h4 _ => ⟨b, o, x, hsub b o h3, h4⟩, fun _ _ => rfl⟩⟩

/-- a function's contract from its body, blocks without addresses among the heap's -/
theorem okHp2 {d : Nat → Bool} {l lo : List (Nat × VObj)} (h : (okHp d l && (lo.all fun p => d p.1)) = true) (hp : AllPure lo) : okHp d (l ++ lo) = true := by
  rw [Bool.and_eq_true] at h
  exact okHp_append h.1 h.2 hp
end

/-- a piece of a slice, between two numbers -/
def sliceSlV (size : Nat) (x : Value) (lo hi : Int) : Option Value :=
  match x with
    | .slice a len cap => do
      let h ← sliceB len cap (some (.int .i64 hi))
      let l ← sliceB 0 h (some (.int .i64 lo))
      match a with
      | none => if l = 0 then some (.slice none (h - l) (cap - l)) else none
      | some ⟨b, o, none⟩ => if l = 0 then some (.slice (some ⟨b, o, none⟩) h cap) else if l < cap then some (.slice (some ⟨b, o + l * size, none⟩) (h - l) (cap - l)) else none
      | _ => none
    | _ => none
namespace Fx
theorem sliceSl {b n c : Nat} (h : 2 ≤ n) (hc : 2 ≤ c) : sliceSlV 1 (.slice (some ⟨b, 0, none⟩) n c) 1 2 = some (.slice (some ⟨b, 1, none⟩) 1 (c - 1)) := by
  unfold sliceSlV
  have h1 : sliceB n c (some (.int .i64 2)) = some 2 := by
    simp only [sliceB]
    rw [if_pos ⟨by omega, by omega⟩]
    rfl
  have h2 : sliceB 0 2 (some (.int .i64 1)) = some 1 := rfl
  simp only [h1, h2, Option.bind_eq_bind, Option.bind_some]
  rw [if_neg (by omega), if_pos (by omega)]
theorem append {elem : TypeId} {size bytes : Nat} {H : AH} {b r n : Nat} {cs news : List Value} {fz : Nat} {x : Value} (hg : H.get b = some (.cells cs elem (some size) fz)) (hx : newCells H.get size x = some (n, news)) (h1 : news.all oneC = true)
    (hn : 0 < n) (hl : cs.length = r * size) (hfz : fz ≤ r * size) (hb : (2 * (r + n) + 768) * bytes ≤ 281474976710656) :
    doAppend elem size bytes H (.slice (some ⟨b, 0, none⟩) r r) x = some (.slice (some ⟨H.next, 0, none⟩) (r + n) (r + n), (H.put b none).add (.cells (cs ++ news) elem (some size) fz)) := by
  unfold doAppend
  simp only [hx, hg, h1, if_true]
  rw [if_neg (by omega), if_pos ⟨hb, by omega⟩, if_pos ⟨trivial, trivial, trivial, hl, hfz, Nat.le_refl _⟩]
  rw [← hl, List.take_length]
theorem ite_some {α : Type} {c : Prop} [Decidable c] {a b : Option α} (h : c) : (if c then a else b) = a := if_pos h
theorem ite_none {α : Type} {c : Prop} [Decidable c] {a b : Option α} (h : ¬ c) : (if c then a else b) = b := if_neg h
end Fx
end Go.Am
