import Derived.Test.YtikphefllmemjaaGreatDoorAm12
/-
The engine, part 13: block numbers only grow; operations in a row.
-/
namespace Go.Am
open Go
set_option linter.unusedVariables false
set_option linter.unusedSimpArgs false

/-- no block lies where numbers come up to M -/
def WF (M : AH) (h : AH) : Prop := M.next ≤ OFF ∧ ∀ b, isNew h M b → h.get b = none
/-- block numbers only grow; what is free above stays free -/
def HN (h h' : AH) : Prop := AH.le h h' ∧ ∀ M, AH.le h' M → WF M h → WF M h'
theorem HN.refl (h : AH) : HN h h := ⟨AH.le_refl _, fun _ _ k => k⟩
theorem HN.trans {h h1 h2 : AH} (a : HN h h1) (b : HN h1 h2) : HN h h2 := ⟨AH.le_trans a.1 b.1, fun M l k => b.2 M l (a.2 M (AH.le_trans b.1 l) k)⟩
theorem HN.add (h : AH) (o : VObj) : HN h (h.add o) := ⟨AH.le_add h o, fun M l k => ⟨k.1, fun b h1 => by
  have hne : b ≠ h.next := by
    intro e
    subst e
    have h2 := k.1
    have h3 := l.1
    unfold isNew at h1
    rw [AH.next_add] at h1 h3
    rw [AH.hn_add] at h1
    omega
  rw [AH.get_add, if_neg hne]
  exact k.2 b (isNew_right (AH.le_add h o) h1)⟩⟩
theorem HN.put {h : AH} {b : Nat} {o0 : VObj} (hb : h.get b = some o0) (o : Option VObj) : HN h (h.put b o) := ⟨AH.le_put _ _ _, fun M l k => ⟨k.1, fun c h1 => by
  have h2 := isNew_right (AH.le_put h b o) h1
  rw [AH.get_put]
  split
  · rename_i e; subst e; rw [k.2 c h2] at hb; cases hb
  · exact k.2 c h2⟩⟩

def CallMono (call : CallF) : Prop := ∀ f args h v h', call f args h = some (v, h') → HN h h'

section
variable {P : Program} {call : CallF} {ev : Operand → Value} {h h' : AH}
theorem hide_next : ∀ (l : List Nat) (h : AH), (hide h l).next = h.next
  | [], _ => rfl
  | b :: l, h => by simp only [hide, hide_next l, AH.next_put]
theorem show_next : ∀ (l : List Nat) (h h0 : AH), (show' h h0 l).next = h.next
  | [], _, _ => rfl
  | b :: l, h, h0 => by simp only [show', show_next l, AH.next_put]
theorem hide_get : ∀ (l : List Nat) (h : AH) (b : Nat), (hide h l).get b = if b ∈ l then none else h.get b
  | [], h, b => by simp [hide]
  | c :: l, h, b => by
    simp only [hide, hide_get l, AH.get_put, List.mem_cons]
    by_cases h1 : b ∈ l
    · simp [h1]
    · by_cases h2 : b = c <;> simp [h1, h2]
theorem show_get : ∀ (l : List Nat) (h h0 : AH) (b : Nat), (show' h h0 l).get b = if b ∈ l then h0.get b else h.get b
  | [], h, h0, b => by simp [show']
  | c :: l, h, h0, b => by
    simp only [show', show_get l, AH.get_put, List.mem_cons]
    by_cases h1 : b ∈ l
    · simp [h1]
    · by_cases h2 : b = c
      · subst h2; simp [h1]
      · simp [h1, h2]
theorem hide_hn : ∀ (l : List Nat) (h : AH), (hide h l).hn = h.hn
  | [], _ => rfl
  | b :: l, h => by simp only [hide, hide_hn l, AH.hn_put]
theorem show_hn : ∀ (l : List Nat) (h h0 : AH), (show' h h0 l).hn = h.hn
  | [], _, _ => rfl
  | b :: l, h, h0 => by simp only [show', show_hn l, AH.hn_put]
theorem isNew_hide {h h1 : AH} {l : List Nat} {b : Nat} : isNew (hide h l) h1 b ↔ isNew h h1 b := isNew_congr (hide_next l h) (hide_hn l h) rfl rfl
theorem isNew_show {h h0 h1 : AH} {l : List Nat} {b : Nat} : isNew h (show' h1 h0 l) b ↔ isNew h h1 b := isNew_congr rfl rfl (show_next l h1 h0) (show_hn l h1 h0)
theorem isNew_show_l {h h0 h1 : AH} {l : List Nat} {b : Nat} : isNew (show' h h0 l) h1 b ↔ isNew h h1 b := isNew_congr (show_next l h h0) (show_hn l h h0) rfl rfl
theorem HN.shown {h h1 : AH} {l : List Nat} (k : HN (hide h l) h1) : HN h (show' h1 h l) := by
  have hle : AH.le h h1 := ⟨by have := k.1.1; rwa [hide_next] at this, by have := k.1.2; rwa [hide_hn] at this⟩
  refine ⟨⟨by rw [show_next]; exact hle.1, by rw [show_hn]; exact hle.2⟩, fun M hl hw => ⟨hw.1, fun b h2 => ?_⟩⟩
  rw [isNew_show_l] at h2
  have hlM : AH.le h1 M := ⟨by have := hl.1; rwa [show_next] at this, by have := hl.2; rwa [show_hn] at this⟩
  rw [show_get]
  split
  · exact hw.2 b (isNew_right hle h2)
  · refine (k.2 M hlM ⟨hw.1, fun c h4 => ?_⟩).2 b h2
    rw [isNew_hide] at h4
    rw [hide_get]
    split
    · rfl
    · exact hw.2 c h4

theorem doAppend_next {elem size bytes : Nat} {s x v : Value} (k : doAppend elem size bytes h s x = some (v, h')) : HN h h' := by
  unfold doAppend at k
  repeat' (split at k)
  all_goals first
    | (cases k; done)
    | (simp only [Option.some.injEq, Prod.mk.injEq] at k; obtain ⟨_, rfl⟩ := k; first | exact HN.refl _ | exact HN.add _ _ | exact HN.put (by assumption) _ | exact (HN.put (by assumption) _).trans (HN.add _ _))
theorem evalE_next {io : IOp} {v : Value} (k : evalE ev h io = some (v, h')) : HN h h' := by
  unfold evalE at k
  repeat' (split at k)
  all_goals first
    | (cases k; done)
    | exact doAppend_next k
    | (simp only [Option.some.injEq, Prod.mk.injEq] at k; obtain ⟨_, rfl⟩ := k; first | exact HN.refl _ | exact HN.add _ _ | exact HN.put (by assumption) _)
theorem act_next (hc : CallMono call) {io : IOp} {v : Value} (k : act P call ev h io = some (v, h')) : HN h h' := by
  unfold act at k
  split at k
  · exact hc _ _ _ _ _ k
  · exact evalE_next k
theorem stepOp_next (hc : CallMono call) {st st' : St} {o : IOper} (k : stepOp P call st o = some st') : HN st.h st'.h := by
  unfold stepOp at k
  split at k
  · split at k
    · split at k
      · cases k; exact HN.refl _
      · cases k
    · split at k
      · cases k; exact HN.add _ _
      · cases k
    · split at k
      · rename_i e; cases k; exact act_next hc e
      · cases k
    · split at k
      · cases k; exact HN.refl _
      · cases k
  · cases k; exact HN.refl _
theorem runOps_next (hc : CallMono call) : ∀ {l : List IOper} {st st' : St}, runOps P call l st = some st' → HN st.h st'.h
  | [], st, st', k => by simp only [runOps] at k; cases k; exact HN.refl _
  | o :: l, st, st', k => by
    simp only [runOps] at k
    split at k
    · rename_i e; exact HN.trans (stepOp_next hc e) (runOps_next hc k)
    · cases k
theorem stepD_next (hc : CallMono call) {dr : IDraw} {d d' : DSt} {j : Nat} {o : IOper} (k : stepD P call dr d j o = some d') : HN d.st.h d'.st.h := by
  unfold stepD at k
  simp only at k
  split at k
  · split at k
    · split at k
      · cases k; exact HN.refl _
      · cases k
    · split at k
      · cases k; exact HN.add _ _
      · cases k
    · split at k
      · rename_i e
        cases k
        exact (act_next hc e).shown
      · cases k
    · cases k
  · cases k; exact HN.refl _
theorem runD_next (hc : CallMono call) {dr : IDraw} : ∀ {l : List IOper} {j : Nat} {d d' : DSt}, runD P call dr l j d = some d' → HN d.st.h d'.st.h
  | [], j, d, d', k => by simp only [runD] at k; cases k; exact HN.refl _
  | o :: l, j, d, d', k => by
    simp only [runD] at k
    split at k
    · rename_i e; exact HN.trans (stepD_next hc e) (runD_next hc k)
    · cases k
theorem runRegion_next (hc : CallMono call) {ops : List IOper} {dr : Option IDraw} {st st' : St} (k : runRegion P call ops dr st = some st') : HN st.h st'.h := by
  unfold runRegion at k
  split at k
  · exact runOps_next hc k
  · split at k
    · rename_i e
      split at k
      · cases k; exact runD_next hc e
      · cases k
    · cases k
theorem exec_next (hc : CallMono call) : ∀ (n : Nat) {c : ICode} {st st' : St} {e : IEx}, exec P call n c st = some (e, st') → HN st.h st'.h
  | 0, c, st, st', e, k => by simp [exec] at k
  | n + 1, c, st, st', e, k => by
    have ih := fun {c : ICode} {st st' : St} {e : IEx} => exec_next hc n (c := c) (st := st) (st' := st') (e := e)
    cases c <;> simp only [exec] at k
    case skip => cases k; exact HN.refl _
    case bad => cases k
    case region ops dr =>
      simp only [Option.map_eq_some_iff, Prod.mk.injEq] at k
      obtain ⟨s, h1, _, rfl⟩ := k
      exact runRegion_next hc h1
    case seq a b =>
      split at k
      · rename_i e1; exact HN.trans (ih e1) (ih k)
      · exact ih k
    case cond c a b =>
      split at k
      · exact ih k
      · cases k
    case block id b =>
      split at k
      · rename_i e1; simp only [Option.some.injEq, Prod.mk.injEq] at k; obtain ⟨_, rfl⟩ := k; exact ih e1
      · exact ih k
    case loop b =>
      split at k
      · rename_i e1; exact HN.trans (ih e1) (ih k)
      · exact ih k
    case exit id => cases k; exact HN.refl _
    case within b c =>
      split at k
      · rename_i e1
        split at k
        · exact HN.trans (ih e1) (ih k)
        · cases k; exact ih e1
      · exact ih k
    case label l => cases k; exact HN.refl _
    case goto l => cases k; exact HN.refl _
    case ret => cases k; exact HN.refl _
theorem runDefers_next (hc : CallMono call) {T : Tbl} {n : Nat} : ∀ {ds : List (FuncId × List Value)} {h h' : AH}, runDefers P T call n ds h = some h' → HN h h'
  | [], h, h', k => by simp only [runDefers] at k; cases k; exact HN.refl _
  | (f, args) :: ds, h, h', k => by
    simp only [runDefers] at k
    split at k
    · split at k
      · rename_i e1
        split at k
        · rename_i e2
          split at k
          · exact HN.trans (runOps_next hc e1) (HN.trans (exec_next hc n e2) (runDefers_next hc k))
          · cases k
        · rename_i e2
          split at k
          · exact HN.trans (runOps_next hc e1) (HN.trans (exec_next hc n e2) (runDefers_next hc k))
          · cases k
        · cases k
      · cases k
    · cases k
theorem finishFn_next (hc : CallMono call) {T : Tbl} {n : Nat} {fn : IFn} {st : St} {v : Value} (k : finishFn P T call n fn st = some (v, h')) : HN st.h h' := by
  unfold finishFn at k
  split at k
  · rename_i e1
    split at k
    · cases k; exact runDefers_next hc e1
    · cases k
  · cases k
end

/-! ### the relation of states -/
inductive RDs (ρ : Ren) : List (FuncId × List Value) → List Deferred → Prop
  | nil : RDs ρ [] []
  | cons {f : FuncId} {args : List Value} {a c : Array Value} {ds : List (FuncId × List Value)} {ds' : List Deferred} :
      Rvs ρ args (a.toList ++ c.toList) → RDs ρ ds ds' → RDs ρ ((f, args) :: ds) ({ target := .fn (.func f) c, args := a } :: ds')
theorem RDs.mono {ρ ρ' : Ren} (hle : Ren.le ρ ρ') {ds : List (FuncId × List Value)} {ds' : List Deferred} (h : RDs ρ ds ds') : RDs ρ' ds ds' := by
  induction h with
  | nil => exact .nil
  | cons h _ ih => exact .cons (h.mono hle) ih

structure Rel (ρ : Ren) (st : St) (a : Act) (w : World) : Prop where
  sim : Sim ρ st.h.get w
  tm : Rvs ρ st.tmps a.tmps.toList
  ds : RDs ρ st.ds a.defers

/-- from the one state to the other -/
structure Goes (ρ : Ren) (h : AH) (w : World) (ρ' : Ren) (h' : AH) (w' : World) : Prop where
  ext : Ext ρ h.get w ρ' h'.get w'
  only : ∀ b, ¬ isNew h h' b → ρ' b = ρ b
theorem Goes.refl (ρ : Ren) (h : AH) (w : World) : Goes ρ h w ρ h w := ⟨Ext.refl _ _ _, fun _ _ => rfl⟩
theorem Goes.trans {ρ ρ1 ρ2 : Ren} {h h1 h2 : AH} {w w1 w2 : World} (a : Goes ρ h w ρ1 h1 w1) (b : Goes ρ1 h1 w1 ρ2 h2 w2) (n1 : AH.le h h1) (n2 : AH.le h1 h2) : Goes ρ h w ρ2 h2 w2 :=
  ⟨a.ext.trans b.ext, fun c hc => by rw [b.only c (fun k => hc (isNew_right n1 k)), a.only c (fun k => hc (isNew_left n2 k))]⟩

def Fresh (ρ : Ren) (h h' : AH) : Prop := h'.next ≤ OFF ∧ ∀ b, isNew h h' b → ρ b = none
theorem Fresh.left {ρ : Ren} {a b c : AH} (h : Fresh ρ a c) (hb : AH.le b c) : Fresh ρ a b := ⟨Nat.le_trans hb.1 h.1, fun x h1 => h.2 x (isNew_left hb h1)⟩
theorem Fresh.right {ρ ρ' : Ren} {h h1 c : AH} {w w1 : World} (f : Fresh ρ h c) (g : Goes ρ h w ρ' h1 w1) (hn : AH.le h h1) (hc : AH.le h1 c) : Fresh ρ' h1 c := ⟨f.1, fun x a => by
  have hno : ¬ isNew h h1 x := fun k => by
    have h1 := f.1
    have h2 := hn.1
    have h3 := hn.2
    have h4 := hc.1
    unfold isNew at a k
    omega
  rw [g.only x hno]; exact f.2 x (isNew_right hn a)⟩

/-- how a call comes out -/
def CallOk (P : Program) (f : FuncId) (args : List Value) (w : World) (R : Value → World → Prop) : Prop :=
  ((callFunc f ⟨args⟩).run P w = .ok (.enter f ⟨args⟩) w ∧ Calls P f ⟨args⟩ w fun e w' => ∃ v, e = .returned v ∧ R v w') ∨
  ∃ v w', (callFunc f ⟨args⟩).run P w = .ok (.value v) w' ∧ R v w'
theorem CallOk.mono {P : Program} {f : FuncId} {args : List Value} {w : World} {R R' : Value → World → Prop} (h : CallOk P f args w R) (hr : ∀ v w, R v w → R' v w) : CallOk P f args w R' := by
  rcases h with ⟨h1, h2⟩ | ⟨v, w', h1, h2⟩
  · exact .inl ⟨h1, h2.mono fun e w' ⟨v, he, h3⟩ => ⟨v, he, hr _ _ h3⟩⟩
  · exact .inr ⟨v, w', h1, hr _ _ h2⟩

def CallSound (P : Program) (call : CallF) : Prop :=
  ∀ f args h v h', call f args h = some (v, h') → ∀ ρ w args', Rvs ρ args args' → Sim ρ h.get w → Fresh ρ h h' →
    CallOk P f args' w fun v' w' => ∃ ρ', Acted ρ h w v h' v' w' ρ'

section
variable {P : Program} {call : CallF} {ρ : Ren} {w : World}

theorem putT_rel {tm : List Value} {a : Act} {dst : Option Nat} {v v' : Value} (h : Rvs ρ tm a.tmps.toList) (hv : Rv ρ v v') : Rvs ρ (putT tm dst v) (a.put dst v').tmps.toList := by
  cases dst with
  | none => exact h
  | some d => simp only [putT, Act.put, Array.toList_setIfInBounds]; exact h.set d hv
theorem put_defers (a : Act) (dst : Option Nat) (v : Value) : (a.put dst v).defers = a.defers := by cases dst <;> rfl

theorem wanted_rel {ops : Array Oper} {tm : List Value} {a : Act} (h : Rvs ρ tm a.tmps.toList) (o : Oper) :
    wantedT tm (cOper P ops o).guard = Region.wanted o (yielded ops a.tmps) := by
  simp only [cOper, Region.wanted]
  cases hg : o.guard with
  | none => rfl
  | some jw =>
    obtain ⟨j, want⟩ := jw
    simp only [Option.map_some, wantedT, yielded]
    cases hd : (ops[j]?).bind (·.dst) with
    | none => simp
    | some t =>
      simp only [Option.bind_some]
      cases hv : tm[t]? with
      | none =>
        have : a.tmps[t]? = none := by
          have h1 := h.1
          rw [List.getElem?_eq_none_iff] at hv
          rw [Array.getElem?_eq_none_iff, ← Array.length_toList]; omega
        simp [this]
      | some v =>
        obtain ⟨v', h1, h2⟩ := h.get hv
        have : a.tmps[t]? = some v' := by rw [← h1]; simp
        rw [this]
        cases h2 <;> simp

theorem ops_rel {tm : List Value} {a : Act} (h : Rvs ρ tm a.tmps.toList) {o : Op} (hok : o.operands.toList.all okO = true) : ∀ x ∈ o.operands.toList, Rv ρ (evT tm x) (a.eval x) :=
  fun x hx => ev_ok h (List.all_eq_true.1 hok x hx)
theorem cOp_ok {op : Op} (h : cOp P op ≠ .bad) : op.operands.toList.all okO = true := by
  unfold cOp at h
  split at h
  · assumption
  · exact absurd rfl h
end
end Go.Am
