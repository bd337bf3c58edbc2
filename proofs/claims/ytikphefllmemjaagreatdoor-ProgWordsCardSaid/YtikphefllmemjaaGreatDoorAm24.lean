import Derived.Test.YtikphefllmemjaaGreatDoorAm23
import Derived.WalkKit
import Derived.ProofKit
import Derived.OpenShut
/-
The engine, part 24: the rule for a call with arguments that hold no address, over any world; the conclusion of a law that returns true.
-/
namespace Go.Am
open Go Go.ChangeShapes Go.WideShapes Go.ChangeAt Go.RowKit
set_option linter.unusedVariables false
set_option linter.unusedSimpArgs false

def h0 : AH := ⟨fixN, .lf, 0, fun _ => none⟩
def ρ0 : Ren := fun b => if b < fixN then some (b, 0) else none

theorem h0_get (b : Nat) : h0.get b = none := by
  unfold AH.get
  split <;> rfl
theorem ρ0_new {h' : AH} {b : Nat} (h : isNew h0 h' b) : ρ0 b = none := by
  have h1 : h0.next = fixN := rfl
  have h2 : fixN ≤ OFF := by decide
  unfold isNew at h
  rw [h1] at h
  unfold ρ0
  rw [if_neg (by omega)]
theorem sim0 (w : World) : Sim ρ0 h0.get w :=
  ⟨fun b hb => by simp [ρ0, hb], fun b o h => by simp [h0_get] at h, fun b c o1 o2 r x y h => by simp [h0_get] at h⟩

/-- what a call leaves: the outside, the output and all that was there before stand. -/
structure Left0 (w w' : World) : Prop where
  os : w'.os = w.os
  output : w'.output = w.output
  size : w.heap.size ≤ w'.heap.size
  old : ∀ r, r < w.heap.size → w'.heap[r]? = w.heap[r]?

theorem Left0.kept {w w' : World} (h : Left0 w w') (may : MemPlace → Prop) : w.keptBut w' may := by
  refine ⟨h.os, h.output, fun i hi => ?_⟩
  rw [h.old i hi]
  cases e : w.heap[i]? with
  | none => trivial
  | some o => cases o <;> simp

theorem top_calls {P : Program} {T : Tbl} (hT : TblOk P T) (hmix : P.follows .mixedOrders = true) {f : FuncId} {fn : IFn} (hfn : T.fn f = some fn) {args : List Value} (hargs : args.all closed = true)
    {b : Bool} (he : ∃ h', h'.next ≤ OFF ∧ Ev P T f args h0 (.bool b, h')) (w : World) :
    Calls P f ⟨args⟩ w fun e w' => e = .returned (.bool b) ∧ Left0 w w' := by
  obtain ⟨h', ho, n, hn⟩ := he
  have hA : Rvs ρ0 args args := all_closed_refl hargs
  have := runFn_sound hT hmix n f args h0 _ h' hn ρ0 w args hA (sim0 w) ⟨ho, fun b hb => ρ0_new hb⟩
  rcases this with ⟨_, h⟩ | ⟨v, w', h, _⟩
  · refine h.mono ?_
    intro e w' ⟨v, he, ρ', ha⟩
    have : v = .bool b := by have := ha.val; cases this; rfl
    subst this
    exact ⟨he, ha.ext.os, ha.ext.output, ha.ext.size, fun r hr => ha.ext.frame r hr (fun c o x hc => by simp [h0_get] at hc)⟩
  · obtain ⟨pf, hpf, hcf⟩ := hT.fn f fn hfn
    obtain ⟨c, rs, hb, _, hnm, _⟩ := cFn_parts hcf
    rw [callFunc_run hpf hb hnm] at h
    cases h

section
variable {H : Type} {enc : TypeId × Value → H} {P : Program}

/-- the conclusion, where nothing is handed in by its place -/
theorem post_of_left {f : Func} {s : ChangeSpec} {apart fresh handsOn again : Bool} {W W' : World} {args : Array Value} {v : Value} {ds gs : List (DataW H)}
    (hW : DataW.Whole enc P f.params.toList s.vars apart W args.toList ds gs [])
    (hres : ∀ (b : Nat) (sp : Nat → Bool) (hd : Bool), DataW.TrodAll enc P W' b sp hd f.resultTypes.toList (v.resultList f.resultTypes.size) (s.fn H (ds ++ gs)).results [])
    (hargs : ∀ sp : Nat → Bool, DataW.TrodAll enc P W' 0 sp true f.params.toList args.toList (s.fn H (ds ++ gs)).args [])
    (hvars : ∀ sp : Nat → Bool, DataW.TrodVars enc P W' sp s.vars (s.fn H (ds ++ gs)).vars [])
    (hk : Left0 W W')
    (hok : ∀ (j : Nat) (t : TypeId) (r : Value), f.resultTypes[j]? = some t → (v.resultList f.resultTypes.size)[j]? = some r → Value.okWide P W' .any 0 t r) :
    s.post enc P f apart fresh handsOn again W args v W' := by
  refine ⟨ds, gs, [], [], [], [], hW, hres _ _ _, hargs _, hvars _, World.keptBut_mono (fun p hp => by simp at hp) (hk.kept (fun _ => False)), fun _ => ?_⟩
  obtain ⟨_, _, _, _, _, hz, hn⟩ := hW
  refine ⟨hok, _, _, [], ⟨[], [], trodAll_append (hargs _) (hres _ _ _), hvars _, rfl, ?_, ?_⟩, ?_⟩
  · intro b off hp; simp at hp
  · intro ha; simp
  · intro p hp _; simp at hp

end
end Go.Am
