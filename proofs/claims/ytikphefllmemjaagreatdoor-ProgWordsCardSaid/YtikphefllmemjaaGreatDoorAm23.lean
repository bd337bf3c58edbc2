import Derived.Test.YtikphefllmemjaaGreatDoorAm22
/-
The engine, part 23: more fuel and more answers change nothing that is already answered.
-/
namespace Go.Am
open Go
set_option linter.unusedVariables false
set_option linter.unusedSimpArgs false

def CallLe (c c' : CallF) : Prop := ∀ f args h r, c f args h = some r → c' f args h = some r
theorem CallLe.refl (c : CallF) : CallLe c c := fun _ _ _ _ h => h

section
variable {P : Program} {T : Tbl} {c c' : CallF}

theorem act_le (hc : CallLe c c') {ev : Operand → Value} {h : AH} {op : IOp} {r : Value × AH} (k : act P c ev h op = some r) : act P c' ev h op = some r := by
  unfold act at k ⊢
  split at k
  · exact hc _ _ _ _ k
  · exact k

theorem stepOp_le (hc : CallLe c c') {st st' : St} {o : IOper} (k : stepOp P c st o = some st') : stepOp P c' st o = some st' := by
  unfold stepOp at k ⊢
  split
  · rename_i hw
    rw [if_pos hw] at k
    split
    · rename_i hk; rw [hk] at k; exact k
    · rename_i hk; rw [hk] at k; exact k
    · rename_i hk
      rw [hk] at k
      simp only at k ⊢
      cases e : act P c (evT st.tmps) st.h o.op with
      | none => rw [e] at k; cases k
      | some r => rw [e] at k; rw [act_le hc e]; exact k
    · split at k
      · rename_i h _ _; exact absurd (by assumption) (by simp_all)
      · simp_all
      · simp_all
      · exact k
  · rename_i hw
    rw [if_neg hw] at k
    exact k

theorem runOps_le (hc : CallLe c c') : ∀ {l : List IOper} {st st' : St}, runOps P c l st = some st' → runOps P c' l st = some st'
  | [], _, _, k => k
  | o :: l, st, st', k => by
    simp only [runOps] at k ⊢
    split at k
    · rename_i e; rw [stepOp_le hc e]; exact runOps_le hc k
    · cases k

theorem stepD_le (hc : CallLe c c') {dr : IDraw} {d d' : DSt} {j : Nat} {o : IOper} (k : stepD P c dr d j o = some d') : stepD P c' dr d j o = some d' := by
  unfold stepD at k ⊢
  simp only at k ⊢
  split
  · rename_i hw
    rw [if_pos hw] at k
    split
    · rename_i hk; rw [hk] at k; exact k
    · rename_i hk; rw [hk] at k; exact k
    · rename_i hk
      rw [hk] at k
      simp only at k ⊢
      cases e : act P c (evT d.st.tmps) (hide d.st.h (idsOf d.ids (maskOf dr.masks j))) o.op with
      | none => rw [e] at k; cases k
      | some r => rw [e] at k; rw [act_le hc e]; exact k
    · split at k
      · simp_all
      · simp_all
      · simp_all
      · exact k
  · rename_i hw
    rw [if_neg hw] at k
    exact k

theorem runD_le (hc : CallLe c c') {dr : IDraw} : ∀ {l : List IOper} {j : Nat} {d d' : DSt}, runD P c dr l j d = some d' → runD P c' dr l j d = some d'
  | [], _, _, _, k => k
  | o :: l, j, d, d', k => by
    simp only [runD] at k ⊢
    split at k
    · rename_i e; rw [stepD_le hc e]; exact runD_le hc k
    · cases k

theorem runRegion_le (hc : CallLe c c') {ops : List IOper} {dr : Option IDraw} {st st' : St} (k : runRegion P c ops dr st = some st') : runRegion P c' ops dr st = some st' := by
  unfold runRegion at k ⊢
  split at k
  · exact runOps_le hc k
  · split at k
    · rename_i e; rw [runD_le hc e]; exact k
    · cases k

theorem exec_le (hc : CallLe c c') : ∀ {n n' : Nat} {code : ICode} {st : St} {r : IEx × St}, n ≤ n' → exec P c n code st = some r → exec P c' n' code st = some r
  | 0, _, _, _, _, _, k => by simp [exec] at k
  | n + 1, 0, _, _, _, hn, _ => by omega
  | n + 1, n' + 1, code, st, r, hn, k => by
    have hn' : n ≤ n' := by omega
    have ih : ∀ {code : ICode} {st : St} {r : IEx × St}, exec P c n code st = some r → exec P c' n' code st = some r := fun k => exec_le hc hn' k
    cases code with
    | skip => simpa only [exec] using k
    | bad => simp [exec] at k
    | region ops dr =>
      simp only [exec, Option.map_eq_some_iff] at k ⊢
      obtain ⟨st', e, rfl⟩ := k
      exact ⟨st', runRegion_le hc e, rfl⟩
    | seq a b =>
      simp only [exec] at k ⊢
      cases e : exec P c n a st with
      | none => rw [e] at k; cases k
      | some q =>
        rw [e] at k
        rw [ih e]
        obtain ⟨x, st'⟩ := q
        cases x with
        | normal => exact ih k
        | exit i => exact k
        | goto l => exact k
        | ret => exact k
    | cond x a b =>
      simp only [exec] at k ⊢
      split at k
      · exact ih k
      · cases k
    | block id b =>
      simp only [exec] at k ⊢
      cases e : exec P c n b st with
      | none => rw [e] at k; cases k
      | some q =>
        rw [e] at k
        rw [ih e]
        exact k
    | loop b =>
      simp only [exec] at k ⊢
      cases e : exec P c n b st with
      | none => rw [e] at k; cases k
      | some q =>
        rw [e] at k
        rw [ih e]
        obtain ⟨x, st'⟩ := q
        cases x with
        | normal => exact ih k
        | exit i => exact k
        | goto l => exact k
        | ret => exact k
    | exit id => simpa only [exec] using k
    | within b x =>
      simp only [exec] at k ⊢
      cases e : exec P c n x st with
      | none => rw [e] at k; cases k
      | some q =>
        rw [e] at k
        rw [ih e]
        obtain ⟨x, st'⟩ := q
        cases x with
        | normal => exact k
        | exit i => exact k
        | goto l =>
          simp only at k ⊢
          split at k
          · exact ih k
          · exact k
        | ret => exact k
    | label l => simpa only [exec] using k
    | goto l => simpa only [exec] using k
    | ret => simpa only [exec] using k

theorem runDefers_le (hc : CallLe c c') {n n' : Nat} (hn : n ≤ n') : ∀ {ds : List (FuncId × List Value)} {h h' : AH}, runDefers P T c n ds h = some h' → runDefers P T c' n' ds h = some h'
  | [], _, _, k => k
  | (f, args) :: ds, h, h', k => by
    simp only [runDefers] at k ⊢
    cases e : T.df f with
    | none => rw [e] at k; cases k
    | some d =>
      rw [e] at k
      simp only at k ⊢
      cases e1 : runOps P c d.ops ⟨putT (startT args d.ntmps) d.dst .nilIface, h, []⟩ with
      | none => rw [e1] at k; cases k
      | some st =>
        rw [e1] at k
        rw [runOps_le hc e1]
        simp only at k ⊢
        cases e2 : exec P c n d.rest st with
        | none => rw [e2] at k; cases k
        | some q =>
          rw [e2] at k
          rw [exec_le hc hn e2]
          obtain ⟨x, st'⟩ := q
          cases x with
          | normal =>
            simp only at k ⊢
            split at k
            · rename_i hi; rw [if_pos hi]; exact runDefers_le hc hn k
            · cases k
          | ret =>
            simp only at k ⊢
            split at k
            · rename_i hi; rw [if_pos hi]; exact runDefers_le hc hn k
            · cases k
          | exit i => cases k
          | goto l => cases k

theorem finishFn_le (hc : CallLe c c') {n n' : Nat} (hn : n ≤ n') {fn : IFn} {st : St} {r : Value × AH} (k : finishFn P T c n fn st = some r) : finishFn P T c' n' fn st = some r := by
  unfold finishFn at k ⊢
  split at k
  · rename_i e; rw [runDefers_le hc hn e]; exact k
  · cases k

/-- a function's body, answered by the calls that 'c' knows -/
def bodyF (P : Program) (T : Tbl) (c : CallF) (n : Nat) (f : FuncId) (args : List Value) (h : AH) : Option (Value × AH) :=
  match T.fn f with
  | some fn => match exec P c n fn.body ⟨startT args fn.ntmps, h, []⟩ with
    | some (.normal, st) => finishFn P T c n fn st
    | some (.ret, st) => finishFn P T c n fn st
    | _ => none
  | none => T.prim f args h

theorem runFn_succ (n : Nat) (f : FuncId) (args : List Value) (h : AH) : runFn P T (n + 1) f args h = bodyF P T (runFn P T n) n f args h := rfl

theorem bodyF_le (hc : CallLe c c') {n n' : Nat} (hn : n ≤ n') {f : FuncId} {args : List Value} {h : AH} {r : Value × AH} (k : bodyF P T c n f args h = some r) : bodyF P T c' n' f args h = some r := by
  unfold bodyF at k ⊢
  split
  · rename_i fn e
    rw [e] at k
    simp only at k
    cases e2 : exec P c n fn.body ⟨startT args fn.ntmps, h, []⟩ with
    | none => rw [e2] at k; cases k
    | some q =>
      rw [e2] at k
      rw [exec_le hc hn e2]
      obtain ⟨x, st'⟩ := q
      cases x with
      | normal => exact finishFn_le hc hn k
      | ret => exact finishFn_le hc hn k
      | exit i => cases k
      | goto l => cases k
  · rename_i e; rw [e] at k; exact k

theorem runFn_le : ∀ {n n' : Nat}, n ≤ n' → CallLe (runFn P T n) (runFn P T n')
  | 0, _, _ => fun _ _ _ _ k => by simp [runFn] at k
  | n + 1, 0, hn => by omega
  | n + 1, n' + 1, hn => fun f args h r k => by
    rw [runFn_succ] at k ⊢
    exact bodyF_le (runFn_le (by omega)) (by omega) k

/-- the call of 'f' is answered, at some fuel -/
def Ev (P : Program) (T : Tbl) (f : FuncId) (args : List Value) (h : AH) (r : Value × AH) : Prop := ∃ n, runFn P T n f args h = some r

theorem Ev.det {f : FuncId} {args : List Value} {h : AH} {r r' : Value × AH} (a : Ev P T f args h r) (b : Ev P T f args h r') : r = r' := by
  obtain ⟨n, a⟩ := a
  obtain ⟨m, b⟩ := b
  have a' := runFn_le (Nat.le_max_left n m) f args h r a
  have b' := runFn_le (Nat.le_max_right n m) f args h r' b
  rw [a'] at b'
  cases b'; rfl

/-- every answer of 'c' is an answer of the machine, at some fuel -/
def EvC (P : Program) (T : Tbl) (c : CallF) : Prop := ∀ f args h r, c f args h = some r → Ev P T f args h r

theorem act_lim (hc : EvC P T c) {ev : Operand → Value} {h : AH} {op : IOp} {r : Value × AH} (k : act P c ev h op = some r) : ∃ m, act P (runFn P T m) ev h op = some r := by
  unfold act at k ⊢
  split at k
  · rename_i e; obtain ⟨m, e2⟩ := hc _ _ _ _ k; exact ⟨m, by simpa only [e] using e2⟩
  · rename_i e; exact ⟨0, by simpa only [e] using k⟩

theorem stepOp_lim (hc : EvC P T c) {st st' : St} {o : IOper} (k : stepOp P c st o = some st') : ∃ m, stepOp P (runFn P T m) st o = some st' := by
  by_cases hw : wantedT st.tmps o.guard = true
  · cases hk : o.op.kind with
    | zero => exact ⟨0, by unfold stepOp at k ⊢; simp only [hw, hk, if_true] at k ⊢; exact k⟩
    | succ n =>
      match n, hk with
      | 0, hk => exact ⟨0, by unfold stepOp at k ⊢; simp only [hw, hk, if_true] at k ⊢; exact k⟩
      | 1, hk =>
        unfold stepOp at k ⊢
        simp only [hw, hk, if_true] at k ⊢
        cases e : act P c (evT st.tmps) st.h o.op with
        | none => rw [e] at k; cases k
        | some r => obtain ⟨m, e2⟩ := act_lim hc e; rw [e] at k; exact ⟨m, by rw [e2]; exact k⟩
      | n + 2, hk => exact ⟨0, by unfold stepOp at k ⊢; simp only [hw, hk, if_true] at k ⊢; exact k⟩
  · exact ⟨0, by unfold stepOp at k ⊢; rw [if_neg hw] at k ⊢; exact k⟩

theorem runOps_lim (hc : EvC P T c) : ∀ {l : List IOper} {st st' : St}, runOps P c l st = some st' → ∃ m, runOps P (runFn P T m) l st = some st'
  | [], _, _, k => ⟨0, k⟩
  | o :: l, st, st', k => by
    simp only [runOps] at k ⊢
    split at k
    · rename_i e
      obtain ⟨m, e⟩ := stepOp_lim hc e
      obtain ⟨m2, e2⟩ := runOps_lim hc k
      refine ⟨max m m2, ?_⟩
      rw [stepOp_le (runFn_le (Nat.le_max_left m m2)) e]
      exact runOps_le (runFn_le (Nat.le_max_right m m2)) e2
    · cases k

theorem stepD_lim (hc : EvC P T c) {dr : IDraw} {d d' : DSt} {j : Nat} {o : IOper} (k : stepD P c dr d j o = some d') : ∃ m, stepD P (runFn P T m) dr d j o = some d' := by
  by_cases hw : wantedT d.st.tmps o.guard = true
  · cases hk : o.op.kind with
    | zero => exact ⟨0, by unfold stepD at k ⊢; simp only [hw, hk, if_true] at k ⊢; exact k⟩
    | succ n =>
      match n, hk with
      | 0, hk => exact ⟨0, by unfold stepD at k ⊢; simp only [hw, hk, if_true] at k ⊢; exact k⟩
      | 1, hk =>
        unfold stepD at k ⊢
        simp only [hw, hk, if_true] at k ⊢
        cases e : act P c (evT d.st.tmps) (hide d.st.h (idsOf d.ids (maskOf dr.masks j))) o.op with
        | none => rw [e] at k; cases k
        | some r => obtain ⟨m, e2⟩ := act_lim hc e; rw [e] at k; exact ⟨m, by rw [e2]; exact k⟩
      | n + 2, hk => exact ⟨0, by unfold stepD at k ⊢; simp only [hw, hk, if_true] at k ⊢; exact k⟩
  · exact ⟨0, by unfold stepD at k ⊢; simp only at k ⊢; rw [if_neg hw] at k ⊢; exact k⟩

theorem runD_lim (hc : EvC P T c) {dr : IDraw} : ∀ {l : List IOper} {j : Nat} {d d' : DSt}, runD P c dr l j d = some d' → ∃ m, runD P (runFn P T m) dr l j d = some d'
  | [], _, _, _, k => ⟨0, k⟩
  | o :: l, j, d, d', k => by
    simp only [runD] at k ⊢
    split at k
    · rename_i e
      obtain ⟨m, e⟩ := stepD_lim hc e
      obtain ⟨m2, e2⟩ := runD_lim hc k
      refine ⟨max m m2, ?_⟩
      rw [stepD_le (runFn_le (Nat.le_max_left m m2)) e]
      exact runD_le (runFn_le (Nat.le_max_right m m2)) e2
    · cases k

theorem runRegion_lim (hc : EvC P T c) {ops : List IOper} {dr : Option IDraw} {st st' : St} (k : runRegion P c ops dr st = some st') : ∃ m, runRegion P (runFn P T m) ops dr st = some st' := by
  unfold runRegion at k ⊢
  cases dr with
  | none => exact runOps_lim hc k
  | some dr =>
    simp only at k ⊢
    cases e : runD P c dr ops 0 ⟨st, [], []⟩ with
    | none => rw [e] at k; cases k
    | some d => obtain ⟨m, e2⟩ := runD_lim hc e; rw [e] at k; exact ⟨m, by rw [e2]; exact k⟩

theorem exec_lim (hc : EvC P T c) : ∀ {n : Nat} {code : ICode} {st : St} {r : IEx × St}, exec P c n code st = some r → ∃ m, exec P (runFn P T m) m code st = some r
  | 0, _, _, _, k => by simp [exec] at k
  | n + 1, code, st, r, k => by
    have ih : ∀ {code : ICode} {st : St} {r : IEx × St}, exec P c n code st = some r → ∃ m, exec P (runFn P T m) m code st = some r := fun k => exec_lim hc k
    have up : ∀ {m m' : Nat} {code : ICode} {st : St} {r : IEx × St}, m ≤ m' → exec P (runFn P T m) m code st = some r → exec P (runFn P T (m' + 1)) m' code st = some r :=
      fun h k => exec_le (runFn_le (by omega)) h k
    cases code with
    | skip => exact ⟨1, by simpa only [exec] using k⟩
    | bad => simp [exec] at k
    | region ops dr =>
      simp only [exec, Option.map_eq_some_iff] at k
      obtain ⟨st', e, rfl⟩ := k
      obtain ⟨m, e⟩ := runRegion_lim hc e
      refine ⟨m + 1, ?_⟩
      simp only [exec, runRegion_le (runFn_le (Nat.le_succ m)) e, Option.map_some]
    | seq a b =>
      simp only [exec] at k
      cases e : exec P c n a st with
      | none => rw [e] at k; cases k
      | some q =>
        rw [e] at k
        obtain ⟨m, e⟩ := ih e
        obtain ⟨x, st'⟩ := q
        cases x with
        | normal =>
          obtain ⟨m2, e2⟩ := ih k
          refine ⟨max m m2 + 1, ?_⟩
          simp only [exec, up (Nat.le_max_left m m2) e]
          exact up (Nat.le_max_right m m2) e2
        | exit i => exact ⟨m + 1, by simp only [exec, up (Nat.le_refl m) e]; exact k⟩
        | goto l => exact ⟨m + 1, by simp only [exec, up (Nat.le_refl m) e]; exact k⟩
        | ret => exact ⟨m + 1, by simp only [exec, up (Nat.le_refl m) e]; exact k⟩
    | cond x a b =>
      simp only [exec] at k
      cases hx : evT st.tmps x <;> rw [hx] at k <;> try (cases k; done)
      obtain ⟨m, e⟩ := ih k
      exact ⟨m + 1, by simp only [exec, hx]; exact up (Nat.le_refl m) e⟩
    | block id b =>
      simp only [exec] at k
      cases e : exec P c n b st with
      | none => rw [e] at k; cases k
      | some q =>
        rw [e] at k
        obtain ⟨m, e⟩ := ih e
        exact ⟨m + 1, by simp only [exec, up (Nat.le_refl m) e]; exact k⟩
    | loop b =>
      simp only [exec] at k
      cases e : exec P c n b st with
      | none => rw [e] at k; cases k
      | some q =>
        rw [e] at k
        obtain ⟨m, e⟩ := ih e
        obtain ⟨x, st'⟩ := q
        cases x with
        | normal =>
          obtain ⟨m2, e2⟩ := ih k
          refine ⟨max m m2 + 1, ?_⟩
          simp only [exec, up (Nat.le_max_left m m2) e]
          exact up (Nat.le_max_right m m2) e2
        | exit i => exact ⟨m + 1, by simp only [exec, up (Nat.le_refl m) e]; exact k⟩
        | goto l => exact ⟨m + 1, by simp only [exec, up (Nat.le_refl m) e]; exact k⟩
        | ret => exact ⟨m + 1, by simp only [exec, up (Nat.le_refl m) e]; exact k⟩
    | exit id => exact ⟨1, by simpa only [exec] using k⟩
    | within b x =>
      simp only [exec] at k
      cases e : exec P c n x st with
      | none => rw [e] at k; cases k
      | some q =>
        rw [e] at k
        obtain ⟨m, e⟩ := ih e
        obtain ⟨x, st'⟩ := q
        cases x with
        | normal => exact ⟨m + 1, by simp only [exec, up (Nat.le_refl m) e]; exact k⟩
        | exit i => exact ⟨m + 1, by simp only [exec, up (Nat.le_refl m) e]; exact k⟩
        | goto l =>
          simp only at k
          cases hf : findI b l with
          | none => rw [hf] at k; exact ⟨m + 1, by simp only [exec, up (Nat.le_refl m) e, hf]; exact k⟩
          | some rest =>
            rw [hf] at k
            obtain ⟨m2, e2⟩ := ih k
            refine ⟨max m m2 + 1, ?_⟩
            simp only [exec, up (Nat.le_max_left m m2) e, hf]
            exact up (Nat.le_max_right m m2) e2
        | ret => exact ⟨m + 1, by simp only [exec, up (Nat.le_refl m) e]; exact k⟩
    | label l => exact ⟨1, by simpa only [exec] using k⟩
    | goto l => exact ⟨1, by simpa only [exec] using k⟩
    | ret => exact ⟨1, by simpa only [exec] using k⟩

theorem runDefers_lim (hc : EvC P T c) {n : Nat} : ∀ {ds : List (FuncId × List Value)} {h h' : AH}, runDefers P T c n ds h = some h' → ∃ m, runDefers P T (runFn P T m) m ds h = some h'
  | [], _, _, k => ⟨0, k⟩
  | (f, args) :: ds, h, h', k => by
    simp only [runDefers] at k
    cases e : T.df f with
    | none => rw [e] at k; cases k
    | some d =>
      rw [e] at k
      simp only at k
      cases e1 : runOps P c d.ops ⟨putT (startT args d.ntmps) d.dst .nilIface, h, []⟩ with
      | none => rw [e1] at k; cases k
      | some st =>
        rw [e1] at k
        simp only at k
        obtain ⟨m1, e1⟩ := runOps_lim hc e1
        cases e2 : exec P c n d.rest st with
        | none => rw [e2] at k; cases k
        | some q =>
          rw [e2] at k
          obtain ⟨m2, e2⟩ := exec_lim hc e2
          obtain ⟨x, st'⟩ := q
          have fin : ∀ (m3 : Nat), runDefers P T (runFn P T m3) m3 ds st'.h = some h' → st'.ds.isEmpty = true → (x = .normal ∨ x = .ret) → ∃ m, runDefers P T (runFn P T m) m ((f, args) :: ds) h = some h' := by
            intro m3 e3 hi hx
            have l1 : m1 ≤ max m1 (max m2 m3) := by omega
            have l2 : m2 ≤ max m1 (max m2 m3) := by omega
            have l3 : m3 ≤ max m1 (max m2 m3) := by omega
            refine ⟨max m1 (max m2 m3), ?_⟩
            generalize max m1 (max m2 m3) = M at l1 l2 l3
            simp only [runDefers, e, runOps_le (runFn_le l1) e1, exec_le (runFn_le l2) l2 e2]
            rcases hx with rfl | rfl
            · simp only [hi, if_true]; exact runDefers_le (runFn_le l3) l3 e3
            · simp only [hi, if_true]; exact runDefers_le (runFn_le l3) l3 e3
          cases x with
          | normal =>
            simp only at k
            split at k
            · rename_i hi; obtain ⟨m3, e3⟩ := runDefers_lim hc k; exact fin m3 e3 hi (.inl rfl)
            · cases k
          | ret =>
            simp only at k
            split at k
            · rename_i hi; obtain ⟨m3, e3⟩ := runDefers_lim hc k; exact fin m3 e3 hi (.inr rfl)
            · cases k
          | exit i => cases k
          | goto l => cases k

theorem finishFn_lim (hc : EvC P T c) {n : Nat} {fn : IFn} {st : St} {r : Value × AH} (k : finishFn P T c n fn st = some r) : ∃ m, finishFn P T (runFn P T m) m fn st = some r := by
  unfold finishFn at k ⊢
  split at k
  · rename_i e; obtain ⟨m, e⟩ := runDefers_lim hc e; exact ⟨m, by rw [e]; exact k⟩
  · cases k

/-- THE RULE: a function's body, its calls answered by what is known. -/
theorem Ev.intro (hc : EvC P T c) {n : Nat} {f : FuncId} {args : List Value} {h : AH} {r : Value × AH} (k : bodyF P T c n f args h = some r) : Ev P T f args h r := by
  unfold bodyF at k
  cases e : T.fn f with
  | none => rw [e] at k; exact ⟨1, by rw [runFn_succ]; unfold bodyF; rw [e]; exact k⟩
  | some fn =>
    rw [e] at k
    simp only at k
    cases e2 : exec P c n fn.body ⟨startT args fn.ntmps, h, []⟩ with
    | none => rw [e2] at k; cases k
    | some q =>
      rw [e2] at k
      obtain ⟨m, e2⟩ := exec_lim hc e2
      obtain ⟨x, st'⟩ := q
      have fin : (x = .normal ∨ x = .ret) → finishFn P T c n fn st' = some r → Ev P T f args h r := by
        intro hx hf
        obtain ⟨m2, e3⟩ := finishFn_lim hc hf
        have l1 := Nat.le_max_left m m2
        have l2 := Nat.le_max_right m m2
        refine ⟨max m m2 + 1, ?_⟩
        generalize max m m2 = M at l1 l2
        rw [runFn_succ]
        unfold bodyF
        rw [e]
        simp only [exec_le (runFn_le l1) l1 e2]
        rcases hx with rfl | rfl <;> exact finishFn_le (runFn_le l2) l2 e3
      cases x with
      | normal => exact fin (.inl rfl) k
      | ret => exact fin (.inr rfl) k
      | exit i => cases k
      | goto l => cases k

/-- one answer that is known -/
structure Ans where
  f : FuncId
  args : List Value
  h : AH
  r : Value × AH

end
end Go.Am
