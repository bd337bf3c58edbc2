import Derived.Test.YtikphefllmemjaaGreatDoorAm14
import Derived.LoopN
/-
The engine, part 15: code.
-/
namespace Go.Am
open Go
set_option linter.unusedVariables false
set_option linter.unusedSimpArgs false

def exOf : IEx → Exit
  | .normal => .normal
  | .exit id => .exit id
  | .goto l => .goto l
  | .ret => .ret

/-- regions that draw their order -/
def DrawSound (P : Program) (call : CallF) : Prop :=
  ∀ (ops : Array Oper) (dr : IDraw) (id : Nat) (ρ : Ren) (w : World) (st st' : St) (a : Act) (Q : Exit → Act → World → Prop),
    okDraw ops (ops.toList.map (cOper P ops)) dr = true → runRegion P call (ops.toList.map (cOper P ops)) (some dr) st = some st' → Rel ρ st a w → Fresh ρ st.h st'.h →
    (∀ ρ' a' w', Rel ρ' st' a' w' → Goes ρ st.h w ρ' st'.h w' → Q .normal a' w') → (Code.region id ops true).wp P Q a w

section
variable {P : Program} {call : CallF} {ρ : Ren} {w : World}

theorem findI_cCode (l : Nat) : ∀ c : Code, findI (cCode P c) l = (findLabel c l).map (cCode P)
  | .seq a b => by
    simp only [cCode, findI, findLabel, findI_cCode l a, findI_cCode l b]
    cases findLabel a l <;> simp [cCode]
  | .label l' => by
    simp only [cCode, findI, findLabel]
    split <;> simp [cCode]
  | .skip => by simp [cCode, findI, findLabel]
  | .region _ ops draw => by
    simp only [cCode, cRegion, findLabel]
    repeat' split
    all_goals simp [findI]
  | .cond c a b => by simp only [cCode, findLabel]; split <;> simp [findI]
  | .block _ _ => by simp [cCode, findI, findLabel]
  | .loop _ => by simp [cCode, findI, findLabel]
  | .rangeFunc .. => by simp [cCode, findI, findLabel]
  | .exit _ => by simp [cCode, findI, findLabel]
  | .scope _ => by simp [cCode, findI, findLabel]
  | .goto _ => by simp [cCode, findI, findLabel]
  | .ret => by simp [cCode, findI, findLabel]
  | .refuse _ => by simp [cCode, findI, findLabel]

def wpW (P : Program) (body c : Code) (Q : Exit → Act → World → Prop) (a : Act) (w : World) : Prop :=
  ∀ (b : Frame) (k : List Item) (cs : List Frame), ∃ e a' w', Q e a' w' ∧ Arrives P (lone (b.at a (.code c :: .inScope body :: k)) cs w) b k cs e a' w'

def scopeQ (P : Program) (body : Code) (Q : Exit → Act → World → Prop) : Exit → Act → World → Prop
  | .goto l, a, w => match findLabel body l with | some rest => wpW P body rest Q a w | none => Q (.goto l) a w
  | e, a, w => Q e a w

theorem wpW_of {body c : Code} {Q : Exit → Act → World → Prop} {a : Act} (h : c.wp P (scopeQ P body Q) a w) : wpW P body c Q a w := by
  intro b k cs
  obtain ⟨e, a₁, w₁, hq, harr⟩ := h b (.inScope body :: k) cs
  cases e with
  | normal => exact ⟨.normal, a₁, w₁, hq, Steps.trans harr (.one step_inScope)⟩
  | exit id => exact ⟨.exit id, a₁, w₁, hq, fun k' hk => harr k' (by simp [exitTo, hk])⟩
  | goto l =>
    simp only [scopeQ] at hq
    split at hq
    · rename_i rest hl
      obtain ⟨e2, a2, w2, hq2, harr2⟩ := hq b k cs
      exact ⟨e2, a2, w2, hq2, .of_steps (harr _ (by simp [gotoIn, hl])) harr2⟩
    · rename_i hl
      exact ⟨.goto l, a₁, w₁, hq, fun k' hk => harr k' (by simp [gotoIn, hl, hk])⟩
  | ret => exact ⟨_, a₁, w₁, hq, harr⟩
  | panic ch => exact ⟨_, a₁, w₁, hq, harr⟩
  | outgrown => exact ⟨_, a₁, w₁, hq, harr⟩
theorem wp_scope_of {body : Code} {Q : Exit → Act → World → Prop} {a : Act} (h : wpW P body body Q a w) : (Code.scope body).wp P Q a w := by
  intro b k cs
  obtain ⟨e, a₁, w₁, hq, harr⟩ := h b k cs
  exact ⟨e, a₁, w₁, hq, .of_steps (.one step_scope) harr⟩

/-- what is asked of a code's post -/
def QOk (ρ : Ren) (st : St) (w : World) (e : IEx) (st' : St) (Q : Exit → Act → World → Prop) : Prop :=
  ∀ ρ' a' w', Rel ρ' st' a' w' → Goes ρ st.h w ρ' st'.h w' → Q (exOf e) a' w'

structure ExecSound (P : Program) (call : CallF) (n : Nat) : Prop where
  code : ∀ (c : Code) (ρ : Ren) (w : World) (st st' : St) (e : IEx) (a : Act) (Q : Exit → Act → World → Prop), exec P call n (cCode P c) st = some (e, st') → Rel ρ st a w → Fresh ρ st.h st'.h →
    QOk ρ st w e st' Q → c.wp P Q a w
  loop : ∀ (c : Code) (ρ : Ren) (w : World) (st st' : St) (e : IEx) (a : Act) (Q : Exit → Act → World → Prop), exec P call n (.loop (cCode P c)) st = some (e, st') → Rel ρ st a w → Fresh ρ st.h st'.h →
    QOk ρ st w e st' Q → Code.rounds P c Q n a w
  within : ∀ (b c : Code) (ρ : Ren) (w : World) (st st' : St) (e : IEx) (a : Act) (Q : Exit → Act → World → Prop), exec P call n (.within (cCode P b) (cCode P c)) st = some (e, st') → Rel ρ st a w → Fresh ρ st.h st'.h →
    QOk ρ st w e st' Q → wpW P b c Q a w

theorem cond_rel {tm : List Value} {a : Act} (hT : Rvs ρ tm a.tmps.toList) {c : Operand} (hok : okO c = true) {t : Bool} (h : evT tm c = .bool t) : a.eval c = .bool t := by
  have := ev_ok hT hok
  rw [h] at this
  exact this.bool_inv

theorem exec_sound (hc : CallSound P call) (hm : CallMono call) (hd : DrawSound P call) : ∀ n, ExecSound P call n := by
  intro n
  induction n with
  | zero =>
    exact ⟨fun c ρ w st st' e a Q h => by simp [exec] at h, fun c ρ w st st' e a Q h => by simp [exec] at h, fun b c ρ w st st' e a Q h => by simp [exec] at h⟩
  | succ n ih =>
    have hcode : ∀ (c : Code) (ρ : Ren) (w : World) (st st' : St) (e : IEx) (a : Act) (Q : Exit → Act → World → Prop), exec P call (n + 1) (cCode P c) st = some (e, st') → Rel ρ st a w → Fresh ρ st.h st'.h →
        (∀ (b : Code), c = .loop b → False) → QOk ρ st w e st' Q → c.wp P Q a w := by
      intro c ρ w st st' e a Q h hR hf hnl hQ
      cases c <;> simp only [cCode] at h
      case skip => simp only [exec] at h; cases h; exact wp_skip (hQ ρ a w hR (Goes.refl _ _ _))
      case region id ops draw =>
        unfold cRegion at h
        cases draw with
        | false =>
          simp only [Bool.false_eq_true, if_false, exec, Option.map_eq_some_iff, Prod.mk.injEq] at h
          obtain ⟨s, h1, rfl, rfl⟩ := h
          refine wp_region ?_
          have := runOps_sound hc hm (ops := ops) (Q := Q) ops.toList 0 (fun j => by simp) hR h1 hf hQ
          rw [List.range_eq_range']
          simpa using this
        | true =>
          simp only [if_true] at h
          split at h
          · rename_i hok
            simp only [exec, Option.map_eq_some_iff, Prod.mk.injEq] at h
            obtain ⟨s, h1, rfl, rfl⟩ := h
            exact hd ops _ id ρ w st s a Q hok h1 hR hf hQ
          · simp [exec] at h
      case seq x y =>
        simp only [exec] at h
        refine wp_seq ?_
        split at h
        · rename_i st1 h1
          have n1 := (exec_next hm n h1).1
          have n2 := (exec_next hm n h).1
          refine ih.code x ρ w st st1 .normal a _ h1 hR (hf.left n2) (fun ρ' a' w' hR' hG => ?_)
          exact ih.code y ρ' w' st1 st' e a' Q h hR' (hf.right hG n1 n2) (fun ρ2 a2 w2 hR2 hG2 => hQ ρ2 a2 w2 hR2 (hG.trans hG2 n1 n2))
        · rename_i hne
          refine ih.code x ρ w st st' e a _ h hR hf (fun ρ' a' w' hR' hG => ?_)
          have := hQ ρ' a' w' hR' hG
          cases e with
          | normal => exact absurd h (hne st')
          | _ => exact this
      case cond c x y =>
        split at h
        · rename_i hok
          simp only [exec] at h
          split at h
          · rename_i t ht
            refine wp_cond (cond_rel hR.tm hok ht) ?_
            cases t
            · exact ih.code y ρ w st st' e a Q h hR hf hQ
            · exact ih.code x ρ w st st' e a Q h hR hf hQ
          · cases h
        · simp [exec] at h
      case block id b =>
        simp only [exec] at h
        refine wp_block ?_
        split at h
        · rename_i i st1 h1
          simp only [Option.some.injEq, Prod.mk.injEq] at h
          obtain ⟨rfl, rfl⟩ := h
          refine ih.code b ρ w st st1 (.exit i) a _ h1 hR hf (fun ρ' a' w' hR' hG => ?_)
          have := hQ ρ' a' w' hR' hG
          simp only [exOf, Exit.inBlock]
          split
          · rename_i hi; rw [if_pos hi] at this; exact this
          · rename_i hi; rw [if_neg hi] at this; exact this
        · rename_i hne
          refine ih.code b ρ w st st' e a _ h hR hf (fun ρ' a' w' hR' hG => ?_)
          have := hQ ρ' a' w' hR' hG
          cases e with
          | exit i => exact absurd h (hne i st')
          | _ => exact this
      case loop b => exact (hnl b rfl).elim
      case rangeFunc => simp [exec] at h
      case exit id => simp only [exec] at h; cases h; exact wp_exit (hQ ρ a w hR (Goes.refl _ _ _))
      case scope b =>
        refine wp_scope_of ?_
        simp only [exec] at h
        refine wpW_of ?_
        split at h
        · rename_i l st1 h1
          have n1 := (exec_next hm n h1).1
          split at h
          · rename_i rest hfl
            rw [findI_cCode, Option.map_eq_some_iff] at hfl
            obtain ⟨rest', hfl, rfl⟩ := hfl
            have n2 := (exec_next hm n h).1
            refine ih.code b ρ w st st1 (.goto l) a _ h1 hR (hf.left n2) (fun ρ' a' w' hR' hG => ?_)
            simp only [exOf, scopeQ, hfl]
            exact ih.within b rest' ρ' w' st1 st' e a' Q h hR' (hf.right hG n1 n2) (fun ρ2 a2 w2 hR2 hG2 => hQ ρ2 a2 w2 hR2 (hG.trans hG2 n1 n2))
          · rename_i hfl
            rw [findI_cCode, Option.map_eq_none_iff] at hfl
            cases h
            refine ih.code b ρ w st _ (.goto l) a _ h1 hR hf (fun ρ' a' w' hR' hG => ?_)
            simp only [exOf, scopeQ, hfl]
            exact hQ ρ' a' w' hR' hG
        · rename_i hne
          refine ih.code b ρ w st st' e a _ h hR hf (fun ρ' a' w' hR' hG => ?_)
          have := hQ ρ' a' w' hR' hG
          cases e with
          | goto i => exact absurd h (hne i st')
          | _ => exact this
      case label l => simp only [exec] at h; cases h; exact wp_label (hQ ρ a w hR (Goes.refl _ _ _))
      case goto l => simp only [exec] at h; cases h; exact wp_goto (hQ ρ a w hR (Goes.refl _ _ _))
      case ret => simp only [exec] at h; cases h; exact wp_ret (hQ ρ a w hR (Goes.refl _ _ _))
      case refuse => simp [exec] at h
    have hloop : ∀ (c : Code) (ρ : Ren) (w : World) (st st' : St) (e : IEx) (a : Act) (Q : Exit → Act → World → Prop), exec P call (n + 1) (.loop (cCode P c)) st = some (e, st') → Rel ρ st a w → Fresh ρ st.h st'.h →
        QOk ρ st w e st' Q → Code.rounds P c Q (n + 1) a w := by
      intro c ρ w st st' e a Q h hR hf hQ
      simp only [exec] at h
      rw [rounds_succ]
      split at h
      · rename_i st1 h1
        have n1 := (exec_next hm n h1).1
        have n2 := (exec_next hm n h).1
        refine ih.code c ρ w st st1 .normal a _ h1 hR (hf.left n2) (fun ρ' a' w' hR' hG => ?_)
        exact ih.loop c ρ' w' st1 st' e a' Q h hR' (hf.right hG n1 n2) (fun ρ2 a2 w2 hR2 hG2 => hQ ρ2 a2 w2 hR2 (hG.trans hG2 n1 n2))
      · rename_i hne
        refine ih.code c ρ w st st' e a _ h hR hf (fun ρ' a' w' hR' hG => ?_)
        have := hQ ρ' a' w' hR' hG
        cases e with
        | normal => exact absurd h (hne st')
        | _ => exact this
    refine ⟨fun c ρ w st st' e a Q h hR hf hQ => ?_, hloop, fun b c ρ w st st' e a Q h hR hf hQ => ?_⟩
    · by_cases hl : ∃ b, c = .loop b
      · obtain ⟨b, rfl⟩ := hl
        simp only [cCode] at h
        exact wp_loop_rounds (n + 1) (hloop b ρ w st st' e a Q h hR hf hQ)
      · exact hcode c ρ w st st' e a Q h hR hf (fun b hb => hl ⟨b, hb⟩) hQ
    · simp only [exec] at h
      refine wpW_of ?_
      split at h
      · rename_i l st1 h1
        have n1 := (exec_next hm n h1).1
        split at h
        · rename_i rest hfl
          rw [findI_cCode, Option.map_eq_some_iff] at hfl
          obtain ⟨rest', hfl, rfl⟩ := hfl
          have n2 := (exec_next hm n h).1
          refine ih.code c ρ w st st1 (.goto l) a _ h1 hR (hf.left n2) (fun ρ' a' w' hR' hG => ?_)
          simp only [exOf, scopeQ, hfl]
          exact ih.within b rest' ρ' w' st1 st' e a' Q h hR' (hf.right hG n1 n2) (fun ρ2 a2 w2 hR2 hG2 => hQ ρ2 a2 w2 hR2 (hG.trans hG2 n1 n2))
        · rename_i hfl
          rw [findI_cCode, Option.map_eq_none_iff] at hfl
          cases h
          refine ih.code c ρ w st _ (.goto l) a _ h1 hR hf (fun ρ' a' w' hR' hG => ?_)
          simp only [exOf, scopeQ, hfl]
          exact hQ ρ' a' w' hR' hG
      · rename_i hne
        refine ih.code c ρ w st st' e a _ h hR hf (fun ρ' a' w' hR' hG => ?_)
        have := hQ ρ' a' w' hR' hG
        cases e with
        | goto i => exact absurd h (hne i st')
        | _ => exact this
end
end Go.Am
