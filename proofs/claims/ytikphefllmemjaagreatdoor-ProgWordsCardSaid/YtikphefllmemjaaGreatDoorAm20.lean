import Derived.Test.YtikphefllmemjaaGreatDoorAm19
/-
The engine, part 20: functions.
-/
namespace Go.Am
open Go
set_option linter.unusedVariables false
set_option linter.unusedSimpArgs false

structure TblOk (P : Program) (T : Tbl) : Prop where
  fn : ∀ f d, T.fn f = some d → ∃ pf, P.funcs[f]? = some pf ∧ cFn P pf = some d
  df : ∀ f d, T.df f = some d → ∃ pf, P.funcs[f]? = some pf ∧ cDf P pf = some d
  prim : CallSound P T.prim
  primM : CallMono T.prim

section
variable {P : Program} {T : Tbl} {call : CallF} {ρ : Ren} {w : World}

theorem callFunc_run {f : FuncId} {pf : Func} {c : Code} (hf : P.funcs[f]? = some pf) (hb : pf.body = some c) (hn : (pf.name == "runtime.NumGoroutine") = false) (args : Array Value) (w : World) :
    (callFunc f args).run P w = .ok (.enter f args) w := by
  have hn' : pf.name ≠ "runtime.NumGoroutine" := by simpa using hn
  simp [callFunc, hf, hn', hb]

theorem cFn_parts {pf : Func} {d : IFn} (h : cFn P pf = some d) : ∃ c rs, pf.body = some c ∧ cRes P pf.results.toList = some rs ∧ (pf.name == "runtime.NumGoroutine") = false ∧ d = { ntmps := pf.ntmps, results := rs, body := cCode P c } := by
  unfold cFn at h
  split at h
  · rename_i c rs h1 h2
    split at h
    · cases h
    · rename_i h3; cases h; exact ⟨c, rs, h1, h2, by simpa using h3, rfl⟩
  · cases h

theorem resVs_run {h : AH} (hS : Sim ρ h.get w) {tm : List Value} {a : Array Value} (hT : Rvs ρ tm a.toList) : ∀ {rv : List ResultVar} {rs : List (Sum Nat (Nat × Option Nat))} {vs : List Value}, cRes P rv = some rs → resVs h tm rs = some vs →
    ∃ vs', (rv.mapM (fun (r : ResultVar) => match r with
      | .tmp t => pure (a.getD t undef)
      | .cell ad t => do loadVar t (← asAddr (a.getD ad undef)) : ResultVar → Sem Value)).run P w = .ok vs' w ∧ Rvs ρ vs vs'
  | [], rs, vs, h1, h2 => by simp [cRes] at h1; subst h1; simp [resVs] at h2; subst h2; exact ⟨[], by simp, Rvs.nil⟩
  | r :: rv, rs, vs, h1, h2 => by
    have e1 : ∀ t, a.getD t undef = a.toList.getD t (.tuple #[]) := fun t => by rw [List.getD_eq_getElem?_getD]; simp [undef]
    cases r with
    | tmp t =>
      simp only [cRes, Option.map_eq_some_iff] at h1
      obtain ⟨rs', h3, rfl⟩ := h1
      simp only [resVs, resV] at h2
      cases h4 : resVs h tm rs' with
      | none => simp [h4] at h2
      | some vs1 =>
        simp [h4] at h2
        subst h2
        obtain ⟨vs', k1, k2⟩ := resVs_run hS hT h3 h4
        refine ⟨a.getD t undef :: vs', ?_, Rvs.cons (by rw [e1]; have := hT.getD t; simpa [List.getD_eq_getElem?_getD, undef] using this) k2⟩
        simp only [List.mapM_cons, Sem.run_bind, Sem.run_pure, Result.andThen_ok, k1]
    | cell ad t =>
      simp only [cRes] at h1
      cases hA : cAgg P t with
      | none => simp [hA] at h1
      | some agg =>
        cases h3 : cRes P rv with
        | none => simp [hA, h3] at h1
        | some rs' =>
          simp [hA, h3] at h1
          subst h1
          simp only [resVs] at h2
          cases h5 : resV h tm (.inr (ad, agg)) with
          | none => simp [h5] at h2
          | some v1 =>
            cases h4 : resVs h tm rs' with
            | none => simp [h5, h4] at h2
            | some vs1 =>
              simp [h5, h4] at h2
              subst h2
              obtain ⟨vs', k1, k2⟩ := resVs_run hS hT h3 h4
              have hp := hT.getD ad
              simp only [resV, undef] at h5
              split at h5
              case h_2 => cases h5
              rename_i b o he
              rw [he] at hp
              have h6 : ∃ r xx, a.toList.getD ad (.tuple #[]) = .pointer (some ⟨r, o, none⟩) ∧ ρ b = some (r, xx) := by
                generalize a.toList.getD ad (.tuple #[]) = u at hp; cases hp; exact ⟨_, _, rfl, by assumption⟩
              obtain ⟨r, xx, e2, hb⟩ := h6
              obtain ⟨d, hd, hrun, hn⟩ := run_isAgg (w := w) hA
              have h7 : ∃ v1', (loadVar t ⟨r, o, none⟩).run P w = .ok v1' w ∧ Rv ρ v1 v1' := by
                cases agg with
                | none =>
                  simp only at h5
                  split at h5
                  · rename_i hg
                    obtain ⟨v', m1, m2⟩ := hS.cell hb hg h5
                    exact ⟨v', by simp [loadVar, hrun, m1], m2⟩
                  · cases h5
                | some n =>
                  simp only [Option.map_eq_some_iff] at h5
                  obtain ⟨cs, hc, rfl⟩ := h5
                  obtain ⟨cs', m1, m2, m3⟩ := hS.row hb hc
                  exact ⟨.agg ⟨cs'⟩, by simp [loadVar, hrun, run_size (hn n rfl), run_row m2 m3], Rv.agg' m1⟩
              obtain ⟨v1', m1, m2⟩ := h7
              refine ⟨v1' :: vs', ?_, Rvs.cons m2 k2⟩
              have e3 : (asAddr (a.getD ad undef)).run P w = .ok ⟨r, o, none⟩ w := by rw [e1, e2]; rfl
              simp only [List.mapM_cons, Sem.run_bind, e3, Sem.run_pure, Result.andThen_ok, m1, k1]

theorem results_run {pf : Func} {h : AH} (hS : Sim ρ h.get w) {tm : List Value} {a : Array Value} (hT : Rvs ρ tm a.toList) {rs : List (Sum Nat (Nat × Option Nat))} {vs : List Value} (h1 : cRes P pf.results.toList = some rs) (h2 : resVs h tm rs = some vs) :
    ∃ v', (results pf a).run P w = .ok v' w ∧ Rv ρ (packV vs) v' := by
  obtain ⟨vs', k1, k2⟩ := resVs_run hS hT h1 h2
  have hm : (pf.results.mapM (fun (r : ResultVar) => match r with
      | .tmp t => pure (a.getD t undef)
      | .cell ad t => do loadVar t (← asAddr (a.getD ad undef)) : ResultVar → Sem Value)).run P w = .ok ⟨vs'⟩ w := by
    rw [Array.mapM_eq_mapM_toList, Sem.run_map, k1]; rfl
  refine ⟨if h : (⟨vs'⟩ : Array Value).size = 1 then (⟨vs'⟩ : Array Value)[0] else .tuple ⟨vs'⟩, ?_, ?_⟩
  · unfold results
    rw [Sem.run_bind]
    erw [hm]
    rfl
  · cases vs with
    | nil => rw [k2.nil_inv]; exact Rv.undef
    | cons v vs =>
      obtain ⟨v', t, rfl, m1, m2⟩ := k2.cons_inv
      cases vs with
      | nil => rw [m2.nil_inv]; exact m1
      | cons u vs =>
        obtain ⟨u', t2, rfl, m3, m4⟩ := m2.cons_inv
        rw [dif_neg (by simp)]
        exact Rv.tuple' (.cons m1 (.cons m3 m4))

/-! ### deferred calls -/
theorem wpOpsS_of_wpOps {ops : Array Oper} {Q : Exit → Act → List Frame → World → Prop} {cs : List Frame} (hno : ∀ a w, ¬ Q .outgrown a cs w) : ∀ (l : List Nat) (a : Act) (w : World),
    wpOps P ops (fun e a w => Q e a cs w) l a w → wpOpsS P ops Q l a cs w
  | [], a, w, h => h
  | i :: l, a, w, h => by
    simp only [wpOps] at h
    simp only [wpOpsS]
    cases ho : ops[i]? with
    | none => simp only [ho] at h ⊢; exact wpOpsS_of_wpOps hno l a w h
    | some o =>
      simp only [ho] at h ⊢
      split
      · rename_i hw
        rw [if_pos hw] at h
        rcases h with h | ⟨_, a', w', h⟩
        · have h2 := Oper.wp_mono (fun a w => wpOpsS_of_wpOps hno l a w) h
          unfold Oper.wp at h2
          generalize (execOp a.eval o).run P w = r at h2 ⊢
          split
          · simp only [Oper.upon] at h2
          · exact h2
        · exact absurd h (hno a' w')
      · rename_i hw
        rw [if_neg hw] at h
        exact wpOpsS_of_wpOps hno l _ w h

theorem cDf_parts {pf : Func} {d : IDf} (h : cDf P pf = some d) : ∃ id ops rest o os c, pf.body = some (.seq (.region id ops false) rest) ∧ ops.toList = o :: os ∧ o.op = .call c ∧ o.guard = none ∧ c.callee = .builtin .recover ∧ c.args.toList = [] ∧
    pf.results.toList = [] ∧ (pf.name == "runtime.NumGoroutine") = false ∧ d = { ntmps := pf.ntmps, dst := o.dst, ops := os.map (cOper P ops), rest := cCode P rest } := by
  unfold cDf at h
  split at h <;> try (cases h; done)
  rename_i id ops rest hb
  split at h <;> try (cases h; done)
  rename_i o os hos
  split at h <;> try (cases h; done)
  rename_i c hc hg
  split at h <;> try (cases h; done)
  rename_i h1 h2
  split at h
  · rename_i h3
    rw [Bool.and_eq_true] at h3
    cases h
    exact ⟨id, ops, rest, o, os, c, hb, hos, hc, hg, h1, h2, by simpa using h3.1, by simpa using h3.2, rfl⟩
  · cases h

theorem start_rel {args : List Value} {args' : Array Value} (h : Rvs ρ args args'.toList) (n : Nat) : Rvs ρ (startT args n) (args' ++ Array.replicate (n - args'.size) undef).toList := by
  unfold startT
  rw [Array.toList_append, Array.toList_replicate]
  have : args.length = args'.size := by rw [← Array.length_toList]; exact h.1
  rw [this]
  exact h.append (Rvs.replicate _ Rv.undef)

theorem RDs.nil_inv {d : List Deferred} (h : RDs ρ [] d) : d = [] := by cases h; rfl

theorem leaves_sound (hT : TblOk P T) (hc : CallSound P call) (hm : CallMono call) (hd : DrawSound P call) {n : Nat} {pf : Func} {tmps : Array Value} {R : Ending → World → Prop} (hno : ∀ w, ¬ R .outgrown w) :
    ∀ (ds : List (FuncId × List Value)) (h h' : AH) (ρ : Ren) (w : World) (ds' : List Deferred), runDefers P T call n ds h = some h' → RDs ρ ds ds' → Sim ρ h.get w → Fresh ρ h h' →
      (∀ ρ' w', Sim ρ' h'.get w' → Goes ρ h w ρ' h' w' → ∃ v, (results pf tmps).run P w' = .ok v w' ∧ R (.returned v) w') → Leaves P pf tmps R ds' .returning w
  | [], h, h', ρ, w, ds', hr, hD, hS, hf, hQ => by
    cases hD
    simp only [runDefers] at hr
    cases hr
    exact hQ ρ w hS (Goes.refl _ _ _)
  | (f, args) :: ds, h, h', ρ, w, ds', hr, hD, hS, hf, hQ => by
    cases hD with
    | @cons _ _ a c _ ds2 hargs hD =>
      simp only [runDefers] at hr
      split at hr
      case h_2 => cases hr
      rename_i d hdf
      obtain ⟨pd, hpd, hcd⟩ := hT.df f d hdf
      obtain ⟨id, ops, rest, o, os, cc, hb, hos, hop, hg, hcal, hca, hres, hnm, rfl⟩ := cDf_parts hcd
      simp only at hr
      split at hr
      case h_2 => cases hr
      rename_i st1 h1
      have n1 := (runOps_next hm h1).1
      refine leaves_cons (by simp) (f := f) (args := a ++ c) (by simp only [invoke]; exact callFunc_run hpd hb hnm _ w) ?_
      refine callsD_of_wpS hpd hb (fun c₀ cs hu => ?_)
      refine wpS_seq ?_
      refine wpS_region ?_
      have hsz : ops.size = os.length + 1 := by rw [← Array.length_toList, hos]; rfl
      have h0 : ops[0]? = some o := by rw [← Array.getElem?_toList, hos]; rfl
      have hrange : List.range ops.size = 0 :: List.range' 1 os.length := by rw [hsz, List.range_eq_range', List.range'_succ]
      rw [hrange]
      simp only [wpOpsS, h0]
      have hw : Region.wanted o (yielded ops (a ++ c ++ Array.replicate (pd.ntmps - (a ++ c).size) undef)) = true := by simp [Region.wanted, hg]
      rw [if_pos hw]
      have hrec : ∀ ev, (execOp ev o).run P w = .ok .recover w := by
        intro ev
        have : cc.args = #[] := by apply Array.ext'; simpa using hca
        simp [execOp, hop, resolve, hcal, invoke, builtin]
      rw [hrec]
      simp only
      have hrd : recoverD (c₀ :: cs) = none := by simp [recoverD, hu]
      rw [hrd]
      simp only
      have hR0 : Rel ρ ⟨putT (startT args pd.ntmps) o.dst .nilIface, h, []⟩ (({ tmps := a ++ c ++ Array.replicate (pd.ntmps - (a ++ c).size) undef, defers := [] } : Act).put o.dst .nilIface) w :=
        ⟨hS, putT_rel (a := { tmps := a ++ c ++ Array.replicate (pd.ntmps - (a ++ c).size) undef, defers := [] }) (start_rel (args' := a ++ c) (by simpa using hargs) pd.ntmps) .nilIface, by rw [put_defers]; exact .nil⟩
      have tail : ∀ (e : IEx) (st2 : St), (e = .normal ∨ e = .ret) → exec P call n (cCode P rest) st1 = some (e, st2) → st2.ds.isEmpty = true → runDefers P T call n ds st2.h = some h' →
          wpOpsS P ops (Exit.thenS (rest.wpS P (bodyPostS P pd c₀ cs fun
            | .returned _, u', w' => Leaves P pf tmps R ds2 (settle u') w'
            | .panicked chain, u', w' => Leaves P pf tmps R ds2 (raised u' chain) w'
            | .outgrown, _, w' => R .outgrown w')) (bodyPostS P pd c₀ cs fun
            | .returned _, u', w' => Leaves P pf tmps R ds2 (settle u') w'
            | .panicked chain, u', w' => Leaves P pf tmps R ds2 (raised u' chain) w'
            | .outgrown, _, w' => R .outgrown w')) (List.range' 1 os.length) (({ tmps := a ++ c ++ Array.replicate (pd.ntmps - (a ++ c).size) undef, defers := [] } : Act).put o.dst .nilIface) (c₀ :: cs) w := by
        intro e st2 he h2 hde h3
        have n2 := (exec_next hm n h2).1
        have n3 := (runDefers_next hm h3).1
        refine wpOpsS_of_wpOps (fun a w hq => ?_) _ _ _ ?_
        · obtain ⟨u', hq⟩ := hq; exact hno _ hq
        refine runOps_sound hc hm os 1 (fun j => by rw [← Array.getElem?_toList, hos, Nat.add_comm]; rfl) hR0 h1 (hf.left (AH.le_trans n2 n3)) (fun ρ1 a1 w1 hR1 hG1 => ?_)
        simp only [Exit.thenS]
        refine wpS_of_wp ?_
        have hf1 := hf.right hG1 n1 (AH.le_trans n2 n3)
        refine (exec_sound hc hm hd n).code rest ρ1 w1 st1 st2 e a1 _ h2 hR1 (hf1.left n3) (fun ρ2 a2 w2 hR2 hG2 => ?_)
        have hnil : st2.ds = [] := by simpa using hde
        have hdef : a2.defers = [] := by have := hR2.ds; rw [hnil] at this; exact RDs.nil_inv this
        have hre : ∃ v, (results pd a2.tmps).run P w2 = .ok v w2 := by
          have : pd.results = #[] := by apply Array.ext'; simpa using hres
          exact ⟨.tuple #[], by simp [results, this]⟩
        obtain ⟨v, hv⟩ := hre
        have hL : Leaves P pf tmps R ds2 (settle .returning) w2 := leaves_sound hT hc hm hd hno ds st2.h h' ρ2 w2 ds2 h3 (hD.mono (Ren.le_trans hG1.ext.le hG2.ext.le)) hR2.sim (hf1.right hG2 n2 n3)
          (fun ρ3 w3 k1 k2 => hQ ρ3 w3 k1 ((hG1.trans hG2 n1 n2).trans k2 (AH.le_trans n1 n2) n3))
        have hc0 : (c₀ :: cs) = { c₀ with mode := .returning } :: cs := by rw [← hu]
        rcases he with rfl | rfl
        · exact ⟨hdef, .returning, hc0, v, hv, hL⟩
        · exact ⟨hdef, .returning, hc0, v, hv, hL⟩
      split at hr
      · rename_i st2 h2
        split at hr
        · rename_i hde; exact tail .normal st2 (.inl rfl) h2 hde hr
        · cases hr
      · rename_i st2 h2
        split at hr
        · rename_i hde; exact tail .ret st2 (.inr rfl) h2 hde hr
        · cases hr
      · cases hr

theorem runFn_mono (hT : TblOk P T) : ∀ n, CallMono (runFn P T n)
  | 0 => fun f args h v h' k => by simp [runFn] at k
  | n + 1 => fun f args h v h' k => by
    have ih := runFn_mono hT n
    simp only [runFn] at k
    split at k
    · split at k
      · rename_i st h1; exact HN.trans (exec_next ih n h1) (finishFn_next ih k)
      · rename_i st h1; exact HN.trans (exec_next ih n h1) (finishFn_next ih k)
      · cases k
    · exact hT.primM f args h v h' k

theorem runFn_sound (hT : TblOk P T) (hmix : P.follows .mixedOrders = true) : ∀ n, CallSound P (runFn P T n) := by
  intro n
  induction n with
  | zero => intro f args h v h' k; simp [runFn] at k
  | succ n ih =>
    intro f args h v h' k ρ w args' hargs hS hf
    simp only [runFn] at k
    split at k
    case h_2 => exact hT.prim f args h v h' k ρ w args' hargs hS hf
    rename_i fn hfn
    have hm := runFn_mono hT n
    have hd := drawSound ih hm hmix
    obtain ⟨pf, hpf, hcf⟩ := hT.fn f fn hfn
    obtain ⟨c, rs, hb, hrs, hnm, rfl⟩ := cFn_parts hcf
    left
    refine ⟨callFunc_run hpf hb hnm _ w, ?_⟩
    refine calls_of_wp_defers hpf hb ?_
    have fin : ∀ (e : IEx) (st : St), (e = .normal ∨ e = .ret) → exec P (runFn P T n) n (cCode P c) ⟨startT args pf.ntmps, h, []⟩ = some (e, st) → finishFn P T (runFn P T n) n { ntmps := pf.ntmps, results := rs, body := cCode P c } st = some (v, h') →
        c.wp P (bodyPostD P pf fun e w' => ∃ v', e = .returned v' ∧ ∃ ρ', Acted ρ h w v h' v' w' ρ') { tmps := (⟨args'⟩ : Array Value) ++ Array.replicate (pf.ntmps - (⟨args'⟩ : Array Value).size) undef, defers := [] } w := by
      intro e st he h1 h2
      have n1 := (exec_next hm n h1).1
      have n2 := (finishFn_next hm h2).1
      unfold finishFn at h2
      split at h2
      case h_2 => cases h2
      rename_i h3 hdf
      split at h2
      case h_2 => cases h2
      rename_i vs hvs
      simp only [Option.some.injEq, Prod.mk.injEq] at h2
      obtain ⟨rfl, rfl⟩ := h2
      refine (exec_sound ih hm hd n).code c ρ w _ st e _ _ h1 ⟨hS, start_rel (args' := ⟨args'⟩) hargs pf.ntmps, .nil⟩ (hf.left n2) (fun ρ1 a1 w1 hR1 hG1 => ?_)
      have hL : Leaves P pf a1.tmps (fun e w' => ∃ v', e = .returned v' ∧ ∃ ρ', Acted ρ h w (packV vs) h3 v' w' ρ') a1.defers .returning w1 := by
        refine leaves_sound hT ih hm hd (fun w hq => by obtain ⟨v', hq, _⟩ := hq; cases hq) st.ds st.h h3 ρ1 w1 a1.defers hdf hR1.ds hR1.sim (hf.right hG1 n1 n2) (fun ρ2 w2 k1 k2 => ?_)
        obtain ⟨v', m1, m2⟩ := results_run (pf := pf) k1 (hR1.tm.mono k2.ext.le) hrs hvs
        have hG := hG1.trans k2 n1 n2
        exact ⟨v', m1, v', rfl, ρ2, ⟨m2, k1, hG.ext, AH.le_trans n1 n2, hG.only⟩⟩
      rcases he with rfl | rfl
      · exact hL
      · exact hL
    split at k
    · rename_i st h1; exact fin .normal st (.inl rfl) h1 k
    · rename_i st h1; exact fin .ret st (.inr rfl) h1 k
    · cases k

end
end Go.Am
