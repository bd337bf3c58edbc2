import Derived.Test.YtikphefllmemjaaGreatDoorAm13
/-
The engine, part 14: one operation; operations in a row.
-/
namespace Go.Am
open Go
set_option linter.unusedVariables false
set_option linter.unusedSimpArgs false

section
variable {P : Program} {call : CallF} {ρ : Ren} {w : World}

theorem func_inv {f : FuncId} {v : Value} (h : Rv ρ (.func (.func f) #[] #[]) v) : v = .func (.func f) #[] #[] := by
  cases h with
  | @func _ a a' c c' h1 h2 _ _ =>
    have e1 : a' = [] := List.eq_nil_of_length_eq_zero h1.symm
    have e2 : c' = [] := List.eq_nil_of_length_eq_zero h2.symm
    rw [e1, e2]

theorem arr_toList_mk {α : Type} (a : Array α) : (⟨a.toList⟩ : Array α) = a := by cases a; rfl

/-- the function value of a call, and its arguments -/
theorem callee_rel {tm : List Value} {a : Act} {fo : Operand} (hx : Rv ρ (evT tm fo) (a.eval fo)) {args : Array Operand} (H : ∀ x ∈ args.toList, Rv ρ (evT tm x) (a.eval x)) {f : FuncId} {first cap : Array Value}
    (he : evT tm fo = .func (.func f) first cap) :
    ∃ fs cs : Array Value, a.eval fo = .func (.func f) fs cs ∧ Rvs ρ (first.toList ++ args.toList.map (evT tm) ++ cap.toList) ((fs ++ args.map a.eval) ++ cs).toList := by
  rw [he] at hx
  have h1 : ∃ fs cs : List Value, a.eval fo = .func (.func f) ⟨fs⟩ ⟨cs⟩ ∧ Rvs ρ first.toList fs ∧ Rvs ρ cap.toList cs := by
    generalize a.eval fo = u at hx
    cases hx with
    | func _ h1 h2 h3 h4 => exact ⟨_, _, rfl, ⟨h1, h3⟩, ⟨h2, h4⟩⟩
  obtain ⟨fs, cs, e, h2, h3⟩ := h1
  refine ⟨⟨fs⟩, ⟨cs⟩, e, ?_⟩
  simp only [Array.toList_append, Array.toList_map]
  exact (h2.append (Rvs.map H)).append h3

theorem evalC_kind {ev : Operand → Value} {io : IOp} {r : FuncId × List Value} (k : evalC ev io = some r) : io.kind = 2 := by
  cases io <;> first | rfl | simp [evalC] at k
theorem deferV_kind {ev : Operand → Value} {io : IOp} {r : FuncId × List Value} (k : deferV ev io = some r) : io.kind = 3 := by
  cases io <;> first | rfl | simp [deferV] at k

theorem callC_exec {o : Oper} {tm : List Value} {a : Act} (H : ∀ x ∈ o.op.operands.toList, Rv ρ (evT tm x) (a.eval x)) {f : FuncId} {args : List Value} (hv : evalC (evT tm) (cOp P o.op) = some (f, args)) :
    ∃ args' : List Value, Rvs ρ args args' ∧ ∀ w, (execOp a.eval o).run P w = (callFunc f ⟨args'⟩).run P w := by
  unfold cOp at hv
  split at hv
  case isFalse => simp [evalC] at hv
  rename_i hok
  obtain ⟨dst, op, ty, pos, after, guard⟩ := o
  simp only at *
  cases op
  case call c =>
    simp only [cOp'] at hv
    have Ha : ∀ x ∈ c.args.toList, Rv ρ (evT tm x) (a.eval x) := fun x hx => H x (by simp only [Op.operands, Call.operands, Array.toList_append, List.mem_append]; exact .inr hx)
    have key : ∀ (fo : Operand), c.callee = .value fo → ∀ first cap : Array Value, evT tm fo = .func (.func f) first cap → args = first.toList ++ c.args.toList.map (evT tm) ++ cap.toList →
        ∃ args' : List Value, Rvs ρ args args' ∧ ∀ w, (execOp a.eval { dst := dst, op := .call c, type := ty, pos := pos, after := after, guard := guard }).run P w = (callFunc f ⟨args'⟩).run P w := by
      intro fo hc first cap he ha
      obtain ⟨fs, cs, e, h2⟩ := callee_rel (ρ := ρ) (tm := tm) (a := a) (fo := fo) (H fo (by simp [Op.operands, Call.operands, hc])) Ha he
      refine ⟨((fs ++ c.args.map a.eval) ++ cs).toList, by rw [ha]; exact h2, fun w => ?_⟩
      simp only [execOp, resolve, hc, Deferred.ofValue, e, Sem.run_bind, Sem.run_pure, Result.andThen_ok, invoke, arr_toList_mk]
    unfold cCall at hv
    split at hv
    · rename_i g hc
      simp only [evalC, Option.some.injEq, Prod.mk.injEq] at hv
      obtain ⟨rfl, rfl⟩ := hv
      exact key (.func g) hc #[] #[] rfl (by simp)
    · rename_i fo hc1 hc
      simp only [evalC] at hv
      split at hv
      · rename_i f2 first cap he
        simp only [Option.some.injEq, Prod.mk.injEq] at hv
        obtain ⟨rfl, rfl⟩ := hv
        exact key fo hc first cap he rfl
      · cases hv
    all_goals (repeat' (split at hv))
    all_goals (simp [evalC] at hv)
  case binOp op t x y yt => simp only [cOp'] at hv; have := evalC_kind hv; rw [cBin_kind] at this; cases this
  case slice t x lo hi mx =>
    cases mx
    · simp only [cOp'] at hv
      repeat' (split at hv)
      all_goals (simp [evalC] at hv)
    · simp [cOp', evalC] at hv
  case makeMap t r => cases r <;> simp [cOp', evalC] at hv
  all_goals (try simp only [cOp'] at hv)
  all_goals (try (simp [evalC] at hv; done))
  all_goals (repeat' (split at hv))
  all_goals (simp [evalC] at hv)

theorem defer_exec {o : Oper} {tm : List Value} {a : Act} (H : ∀ x ∈ o.op.operands.toList, Rv ρ (evT tm x) (a.eval x)) {f : FuncId} {args : List Value} (hv : deferV (evT tm) (cOp P o.op) = some (f, args)) :
    ∃ (fs cs : Array Value), Rvs ρ args (fs.toList ++ cs.toList) ∧ ∀ w, (execOp a.eval o).run P w = .ok (.defer { target := .fn (.func f) cs, args := fs }) w := by
  unfold cOp at hv
  split at hv
  case isFalse => simp [deferV] at hv
  rename_i hok
  obtain ⟨dst, op, ty, pos, after, guard⟩ := o
  simp only at *
  cases op
  case defer c =>
    simp only [cOp'] at hv
    split at hv
    · rename_i fo hc
      simp only [deferV] at hv
      split at hv
      · rename_i f2 first cap he
        simp only [Option.some.injEq, Prod.mk.injEq] at hv
        obtain ⟨rfl, rfl⟩ := hv
        have Ha : ∀ x ∈ c.args.toList, Rv ρ (evT tm x) (a.eval x) := fun x hx => H x (by simp only [Op.operands, Call.operands, Array.toList_append, List.mem_append]; exact .inr hx)
        obtain ⟨fs, cs, e, h2⟩ := callee_rel (ρ := ρ) (tm := tm) (a := a) (fo := fo) (H fo (by simp [Op.operands, Call.operands, hc])) Ha he
        refine ⟨fs ++ c.args.map a.eval, cs, by simpa using h2, fun w => ?_⟩
        simp only [execOp, resolve, hc, Deferred.ofValue, e, Sem.run_bind, Sem.run_pure, Result.andThen_ok]
      · cases hv
    · simp [deferV] at hv
  case binOp op t x y yt => simp only [cOp'] at hv; have := deferV_kind hv; rw [cBin_kind] at this; cases this
  case call c => simp only [cOp'] at hv; have := deferV_kind hv; rcases cCall_kind (P := P) c with h | h <;> rw [h] at this <;> cases this
  case slice t x lo hi mx =>
    cases mx
    · simp only [cOp'] at hv
      repeat' (split at hv)
      all_goals (simp [deferV] at hv)
    · simp [cOp', deferV] at hv
  case makeMap t r => cases r <;> simp [cOp', deferV] at hv
  all_goals (try simp only [cOp'] at hv)
  all_goals (try (simp [deferV] at hv; done))
  all_goals (repeat' (split at hv))
  all_goals (simp [deferV] at hv)

/-- an act, at an operation -/
theorem act_wp (hc : CallSound P call) {o : Oper} {tm : List Value} {a : Act} (H : ∀ x ∈ o.op.operands.toList, Rv ρ (evT tm x) (a.eval x)) {h h' : AH} (hS : Sim ρ h.get w) {v : Value}
    (k : act P call (evT tm) h (cOp P o.op) = some (v, h')) (hf : Fresh ρ h h') {K : Act → World → Prop} {Q : Exit → Act → World → Prop}
    (hK : ∀ ρ' v' w', Acted ρ h w v h' v' w' ρ' → K (a.put o.dst v') w') : o.wp P a w K Q := by
  unfold act at k
  cases hC : evalC (evT tm) (cOp P o.op) with
  | some fa =>
    obtain ⟨f, args⟩ := fa
    rw [hC] at k
    obtain ⟨args', h1, h2⟩ := callC_exec (P := P) H hC
    rcases hc f args h v h' k ρ w args' h1 hS hf with ⟨e1, e2⟩ | ⟨v', w', e1, ρ', e2⟩
    · unfold Oper.wp
      rw [h2 w, e1]
      simp only [Oper.upon]
      refine e2.mono fun e w' ⟨v', he, ρ', h3⟩ => ?_
      subst he
      exact hK ρ' v' w' h3
    · unfold Oper.wp
      rw [h2 w, e1]
      exact hK ρ' v' w' e2
  | none =>
    rw [hC] at k
    simp only at k
    obtain ⟨v', w', ρ', h1, h2⟩ := act_sound (P := P) hS o H k hf.2
    unfold Oper.wp
    rcases h1 with h1 | ⟨h1, rfl⟩
    · rw [h1]; exact hK ρ' v' w' h2
    · rw [h1]; exact hK ρ' undef w' h2

theorem Acted.goes {h h' : AH} {v v' : Value} {w' : World} {ρ' : Ren} (h1 : Acted ρ h w v h' v' w' ρ') : Goes ρ h w ρ' h' w' := ⟨h1.ext, h1.only⟩

theorem step_sound (hc : CallSound P call) {ops : Array Oper} {o : Oper} {st st' : St} {a : Act} (hR : Rel ρ st a w) (k : stepOp P call st (cOper P ops o) = some st')
    (hf : Fresh ρ st.h st'.h) {K : Act → World → Prop} {Q : Exit → Act → World → Prop}
    (hK : ∀ ρ' a' w', Rel ρ' st' a' w' → Goes ρ st.h w ρ' st'.h w' → K a' w') :
    if Region.wanted o (yielded ops a.tmps) then o.wp P a w K Q else K (a.put o.dst undef) w := by
  unfold stepOp at k
  rw [wanted_rel hR.tm o] at k
  split at k
  · rename_i hw
    rw [if_pos hw]
    split at k
    · rename_i hkd
      split at k
      · rename_i v hv
        cases k
        have hok : o.op.operands.toList.all okO = true := cOp_ok (P := P) (fun e => by
          have : (cOper P ops o).op = .bad := e
          rw [this] at hv; simp [evalQ] at hv)
        obtain ⟨v', h1, h2⟩ := quiet_sound (P := P) hR.sim o (ops_rel hR.tm hok) hkd hv
        unfold Oper.wp
        rw [h1]
        exact hK ρ _ w ⟨hR.sim, putT_rel hR.tm h2, by rw [put_defers]; exact hR.ds⟩ (Goes.refl _ _ _)
      · cases k
    · split at k
      · rename_i cs elem mk hv
        cases k
        have hok : o.op.operands.toList.all okO = true := cOp_ok (P := P) (fun e => by
          have : (cOper P ops o).op = .bad := e
          rw [this] at hv; simp [evalA] at hv)
        obtain ⟨cs', h1, v', h2, h3⟩ := alloc_sound (P := P) (w := w) o (ops_rel hR.tm hok) hv
        have hN := hf.2 st.h.next (by first | exact isNew_add.2 rfl | exact isNew_padd.2 rfl)
        obtain ⟨s1, s2⟩ := hR.sim.add (x := 0) (w' := w.alloc (.cells ⟨cs'⟩ elem)) hN rfl rfl rfl (RObj.new (h1.mono (Ren.le_with hN)) elem)
        unfold Oper.wp
        rw [h2]
        refine hK (ρ.with st.h.next (w.heap.size, 0)) _ _ ⟨?_, putT_rel (hR.tm.mono s2.le) (h3 _ _ Ren.with_same), by rw [put_defers]; exact hR.ds.mono s2.le⟩ ⟨?_, fun b hb => only_add (fun e => hb (by first | exact isNew_add.2 e | exact isNew_padd.2 e))⟩
        · rw [get_add_eq]; exact s1
        · rw [get_add_eq]; exact s2
      · cases k
    · split at k
      · rename_i v h hv
        cases k
        have hok : o.op.operands.toList.all okO = true := cOp_ok (P := P) (fun e => by
          have : (cOper P ops o).op = .bad := e
          rw [this] at hv; simp [act, evalC, evalE] at hv)
        exact act_wp hc (ops_rel hR.tm hok) hR.sim hv hf (fun ρ' v' w' h1 => hK ρ' _ w' ⟨h1.sim, putT_rel (hR.tm.mono h1.ext.le) h1.val, by rw [put_defers]; exact hR.ds.mono h1.ext.le⟩ h1.goes)
      · cases k
    · split at k
      · rename_i d hd
        obtain ⟨f, args⟩ := d
        cases k
        have hok : o.op.operands.toList.all okO = true := cOp_ok (P := P) (fun e => by
          have : (cOper P ops o).op = .bad := e
          rw [this] at hd; simp [deferV] at hd)
        obtain ⟨fs, cs, h1, h2⟩ := defer_exec (P := P) (ops_rel hR.tm hok) hd
        unfold Oper.wp
        rw [h2]
        refine hK ρ _ w ⟨hR.sim, ?_, ?_⟩ (Goes.refl _ _ _)
        · have := putT_rel (dst := o.dst) hR.tm (Rv.undef (ρ := ρ))
          cases ho : o.dst with
          | none => rw [ho] at this; simpa [cOper, ho, Act.put, putT] using this
          | some d => rw [ho] at this; simpa [cOper, ho, Act.put, putT] using this
        · rw [put_defers]; exact .cons h1 hR.ds
      · cases k
  · rename_i hw
    rw [if_neg hw]
    cases k
    exact hK ρ _ w ⟨hR.sim, putT_rel hR.tm Rv.undef, by rw [put_defers]; exact hR.ds⟩ (Goes.refl _ _ _)

theorem runOps_sound (hc : CallSound P call) (hm : CallMono call) {ops : Array Oper} {Q : Exit → Act → World → Prop} : ∀ (l : List Oper) (k : Nat) {ρ : Ren} {w : World} {st st' : St} {a : Act},
    (∀ j, l[j]? = ops[k + j]?) → Rel ρ st a w → runOps P call (l.map (cOper P ops)) st = some st' → Fresh ρ st.h st'.h →
    (∀ ρ' a' w', Rel ρ' st' a' w' → Goes ρ st.h w ρ' st'.h w' → Q .normal a' w') → wpOps P ops Q (List.range' k l.length) a w
  | [], k, ρ, w, st, st', a, hl, hR, h, hf, hQ => by
    simp only [List.map_nil, runOps] at h
    cases h
    simp only [List.length_nil, List.range'_zero, wpOps]
    exact hQ ρ a w hR (Goes.refl _ _ _)
  | o :: l, k, ρ, w, st, st', a, hl, hR, h, hf, hQ => by
    have h0 : ops[k]? = some o := by simpa using (hl 0).symm
    simp only [List.map_cons, runOps] at h
    split at h
    case h_2 => cases h
    rename_i st1 h1
    have n1 := (stepOp_next hm h1).1
    have n2 := (runOps_next hm h).1
    have hstep := step_sound hc hR h1 (hf.left n2) (K := wpOps P ops Q (List.range' (k + 1) l.length)) (Q := Q) (fun ρ' a' w' hR' hG =>
      runOps_sound hc hm l (k + 1) (fun j => by have := hl (j + 1); simpa [Nat.add_assoc, Nat.add_comm 1 j] using this) hR' h (hf.right hG n1 n2)
        (fun ρ2 a2 w2 hR2 hG2 => hQ ρ2 a2 w2 hR2 (hG.trans hG2 n1 n2)))
    simp only [List.length_cons, List.range'_succ, wpOps, h0]
    split
    · rename_i hw; rw [if_pos hw] at hstep; exact .inl hstep
    · rename_i hw; rw [if_neg hw] at hstep; exact hstep
end
end Go.Am
