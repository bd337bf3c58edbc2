import Derived.Test.YtikphefllmemjaaGreatDoorAm16
/-
The engine, part 17: regions that draw their order: whatever order comes up, the state at the end is the one of the text's order.
-/
namespace Go.Am
open Go
set_option linter.unusedVariables false
set_option linter.unusedSimpArgs false

theorem eqV_eq : ∀ (n : Nat) (x y : Value), eqV n x y = true → x = y
  | 0, _, _, h => by simp [eqV] at h
  | n + 1, x, y, h => by
    have hl : ∀ (l m : List Value), l.length = m.length → ((l.zip m).all fun p => eqV n p.1 p.2) = true → l = m := by
      intro l
      induction l with
      | nil => intro m h1 _; exact (List.eq_nil_of_length_eq_zero h1.symm).symm
      | cons a l ih =>
        intro m h1 h2
        cases m with
        | nil => simp at h1
        | cons b m =>
          simp only [List.zip_cons_cons, List.all_cons, Bool.and_eq_true] at h2
          rw [eqV_eq n a b h2.1, ih m (by simpa using h1) h2.2]
    cases x <;> cases y <;> simp only [eqV, Bool.false_eq_true] at h
    case bool.bool a b => rw [beq_iff_eq] at h; rw [h]
    case int.int k a j b => simp at h; rw [h.1, h.2]
    case string.string a b =>
      simp at h
      cases a; cases b
      simp at h
      rw [h]
    case pointer.pointer a b => simp at h; rw [h]
    case slice.slice a l c b m d => simp at h; rw [h.1.1, h.1.2, h.2]
    case map.map a b => simp at h; rw [h]
    case nilFunc.nilFunc => rfl
    case nilIface.nilIface => rfl
    case agg.agg a b =>
      simp only [Bool.and_eq_true, decide_eq_true_eq] at h
      have := hl _ _ h.1 h.2
      rw [Array.ext' this]
    case tuple.tuple a b =>
      simp only [Bool.and_eq_true, decide_eq_true_eq] at h
      have := hl _ _ h.1 h.2
      rw [Array.ext' this]

theorem evalQ_pure {P : Program} {ev : Operand → Value} {io : IOp} (h : readsOp io = false) (g g' : VH) : evalQ P ev g io = evalQ P ev g' io := by
  cases io <;> first | rfl | (simp [readsOp] at h; done) | skip
  case len k x =>
    by_cases hk : k = 2
    · subst hk; simp [readsOp] at h
    · simp only [evalQ]
      split <;> first | rfl | (exact absurd rfl hk)

section
variable {P : Program} {call : CallF} {ops : Array Oper} {dr : IDraw} {D : Nat → DSt}

theorem Trc.tm_step (T : Trc P call ops dr D) {i : Nat} {o : Oper} (ho : ops[i]? = some o) : ∃ v, (D (i + 1)).st.tmps = putT (D i).st.tmps o.dst v := by
  have hs := T.sd ho
  generalize D (i + 1) = d' at hs
  cases hs with
  | no _ => exact ⟨_, rfl⟩
  | q _ _ _ => exact ⟨_, rfl⟩
  | a _ _ _ => exact ⟨_, rfl⟩
  | e _ _ _ => exact ⟨_, rfl⟩
theorem Trc.ds_same (T : Trc P call ops dr D) : ∀ {i : Nat}, i ≤ ops.size → (D i).st.ds = (D 0).st.ds := by
  intro i
  induction i with
  | zero => intro _; rfl
  | succ i ih =>
    intro hi
    obtain ⟨o, ho⟩ := T.get (i := i) (by omega)
    have hs := T.sd ho
    rw [← ih (by omega)]
    generalize D (i + 1) = d' at hs
    cases hs <;> rfl
theorem putT_length (tm : List Value) (dst : Option Nat) (v : Value) : (putT tm dst v).length = tm.length := by cases dst <;> simp [putT]
theorem putT_other {tm : List Value} {dst : Option Nat} {v : Value} {t : Nat} (h : dst ≠ some t) : (putT tm dst v).getD t undef = tm.getD t undef := by
  cases dst with
  | none => rfl
  | some d =>
    have : d ≠ t := fun e => h (by rw [e])
    simp [putT, List.getD_eq_getElem?_getD, List.getElem?_set_ne this]
theorem putT_same {tm : List Value} {v : Value} {t : Nat} (h : t < tm.length) : (putT tm (some t) v).getD t undef = v := by
  simp [putT, List.getD_eq_getElem?_getD, h]
theorem Trc.tm_len (T : Trc P call ops dr D) : ∀ {i : Nat}, i ≤ ops.size → (D i).st.tmps.length = (D 0).st.tmps.length := by
  intro i
  induction i with
  | zero => intro _; rfl
  | succ i ih =>
    intro hi
    obtain ⟨o, ho⟩ := T.get (i := i) (by omega)
    obtain ⟨v, hv⟩ := T.tm_step ho
    rw [hv, putT_length, ih (by omega)]
theorem Trc.tm_same (T : Trc P call ops dr D) {t : Nat} : ∀ {q r : Nat}, q ≤ r → r ≤ ops.size → (∀ i o, q ≤ i → i < r → ops[i]? = some o → o.dst ≠ some t) → (D r).st.tmps.getD t undef = (D q).st.tmps.getD t undef := by
  intro q r hqr
  induction hqr with
  | refl => intros; rfl
  | @step r hqr ih =>
    intro hr h
    obtain ⟨o, ho⟩ := T.get (i := r) (by omega)
    obtain ⟨v, hv⟩ := T.tm_step ho
    rw [hv, putT_other (h r o hqr (by omega) ho)]
    exact ih (by omega) (fun i o h1 h2 => h i o h1 (by omega))
/-- the value that operation i leaves -/
theorem Trc.tm_val (T : Trc P call ops dr D) {i : Nat} {o : Oper} (ho : ops[i]? = some o) {t : Nat} (ht : o.dst = some t) : (D ops.size).st.tmps.getD t undef = (D (i + 1)).st.tmps.getD t undef := by
  have hi := (Array.getElem?_eq_some_iff.1 ho).1
  refine T.tm_same (by omega) (Nat.le_refl _) (fun k ok h1 h2 hk => ?_)
  intro e
  exact T.ok.dst i o ho k ok t hk (by omega) e ht

theorem wanted_rel2 {ρ : Ren} {tm : List Value} {a : Act} {o : Oper} (hl : a.tmps.toList.length = tm.length) (H : ∀ t ∈ o.looksAt ops, Rv ρ (tm.getD t undef) (a.tmps.toList.getD t undef)) :
    wantedT tm (cOper P ops o).guard = Region.wanted o (yielded ops a.tmps) := by
  simp only [cOper, Region.wanted]
  cases hg : o.guard with
  | none => rfl
  | some jw =>
    obtain ⟨j, want⟩ := jw
    simp only [Option.map_some, wantedT, yielded]
    cases hd : (ops[j]?).bind (·.dst) with
    | none => simp
    | some t =>
      simp only [Option.bind_some]
      have ht : t ∈ o.looksAt ops := by simp [Oper.looksAt, hg, hd]
      have h1 := H t ht
      by_cases hlt : (t : Nat) < tm.length
      · have e1 : tm[t]? = some (tm.getD t undef) := by simp [List.getD_eq_getElem?_getD, hlt]
        have hlt2 : (t : Nat) < a.tmps.toList.length := by rw [hl]; exact hlt
        have e2 : a.tmps[t]? = some (a.tmps.toList.getD t undef) := by
          rw [List.getD_eq_getElem?_getD, ← Array.getElem?_toList]
          simp [List.getElem?_eq_getElem hlt2]
        rw [e1, e2]
        generalize tm.getD t undef = x at h1
        generalize a.tmps.toList.getD t undef = y at h1
        cases h1 <;> simp
      · have e1 : tm[t]? = none := by rw [List.getElem?_eq_none_iff]; exact Nat.le_of_not_lt hlt
        have e2 : a.tmps[t]? = none := by rw [← Array.getElem?_toList, List.getElem?_eq_none_iff, hl]; exact Nat.le_of_not_lt hlt
        simp [e1, e2]

theorem opnds_rel2 {ρ : Ren} {tm : List Value} {a : Act} {o : Oper} (hok : o.op.operands.toList.all okO = true) (H : ∀ t ∈ o.looksAt ops, Rv ρ (tm.getD t undef) (a.tmps.toList.getD t undef)) :
    ∀ x ∈ o.op.operands.toList, Rv ρ (evT tm x) (a.eval x) := by
  intro x hx
  have hk := List.all_eq_true.1 hok x hx
  cases x with
  | tmp t =>
    have h1 := H t (List.mem_append_left _ (List.mem_filterMap.2 ⟨.tmp t, hx, rfl⟩))
    have e : a.tmps.getD t undef = a.tmps.toList.getD t undef := by rw [List.getD_eq_getElem?_getD]; simp
    simp only [evT, Act.eval, e]
    exact h1
  | const v => exact closed_refl hk
  | global g => simp [okO] at hk
  | func f => exact .func _ (a := []) (a' := []) (c := []) (c' := []) rfl rfl (fun i v v' h => by simp at h) (fun i v v' h => by simp at h)

open Classical in
/-- the virtual heap when the operations of S have been carried out, the acts among them being those below p -/
noncomputable def Trc.hS (T : Trc P call ops dr D) (S : Nat → Prop) (p : Nat) : VH := fun b =>
  if h : ∃ i, T.ex 1 i ∧ b = (D i).st.h.next then (if S (Classical.choose h) then (D (max p (Classical.choose h + 1))).st.h.get b else none)
  else (D p).st.h.get b

theorem Trc.hS_own (T : Trc P call ops dr D) {S : Nat → Prop} {p i : Nat} (hi : T.ex 1 i) (hs : S i) : T.hS S p (D i).st.h.next = (D (max p (i + 1))).st.h.get (D i).st.h.next := by
  unfold Trc.hS
  have h : ∃ k, T.ex 1 k ∧ (D i).st.h.next = (D k).st.h.next := ⟨i, hi, rfl⟩
  rw [dif_pos h]
  have e : Classical.choose h = i := (T.owner hi (Classical.choose_spec h).1 (Classical.choose_spec h).2).symm
  rw [e, if_pos hs]
theorem Trc.hS_no (T : Trc P call ops dr D) {S : Nat → Prop} {p i : Nat} (hi : T.ex 1 i) (hs : ¬ S i) : T.hS S p (D i).st.h.next = none := by
  unfold Trc.hS
  have h : ∃ k, T.ex 1 k ∧ (D i).st.h.next = (D k).st.h.next := ⟨i, hi, rfl⟩
  rw [dif_pos h]
  have e : Classical.choose h = i := (T.owner hi (Classical.choose_spec h).1 (Classical.choose_spec h).2).symm
  rw [e, if_neg hs]
theorem Trc.hS_non (T : Trc P call ops dr D) {S : Nat → Prop} {p b : Nat} (hb : ∀ i, T.ex 1 i → b ≠ (D i).st.h.next) : T.hS S p b = (D p).st.h.get b := by
  unfold Trc.hS
  rw [dif_neg (fun ⟨i, h1, h2⟩ => hb i h1 h2)]

theorem Trc.ex_lt (T : Trc P call ops dr D) {k i : Nat} (h : T.ex k i) : i < ops.size := by obtain ⟨o, ho, _⟩ := h; exact (Array.getElem?_eq_some_iff.1 ho).1

structure Inv (T : Trc P call ops dr D) (ρ0 : Ren) (w0 : World) (S : Nat → Prop) (p : Nat) (ρ : Ren) (a : Act) (w : World) : Prop where
  hp : p ≤ ops.size
  last : p = 0 ∨ ∃ e, p = e + 1 ∧ T.ex 2 e
  eff : ∀ e, T.ex 2 e → (S e ↔ e < p)
  clos : ∀ j, S j → ∀ i, i < ops.size → depB ops i j = true → S i
  len : a.tmps.toList.length = (D 0).st.tmps.length
  tm1 : ∀ (i : Nat) (o : Oper) (t : Nat), ops[i]? = some o → S i → o.dst = some t → Rv ρ ((D ops.size).st.tmps.getD t undef) (a.tmps.toList.getD t undef)
  tm0 : ∀ (t : Nat), (∀ (i : Nat) (o : Oper), ops[i]? = some o → S i → o.dst ≠ some t) → Rv ρ ((D 0).st.tmps.getD t undef) (a.tmps.toList.getD t undef)
  ds : RDs ρ (D 0).st.ds a.defers
  sim : Sim ρ (T.hS S p) w
  ext : Ext ρ0 (D 0).st.h.get w0 ρ (T.hS S p) w
  fresh : ∀ j, j < ops.size → ¬ S j → Fresh ρ (D j).st.h (D (j + 1)).st.h
  only : ∀ b, ¬ isNew (D 0).st.h (D ops.size).st.h b → ρ b = ρ0 b

theorem Inv.looks {T : Trc P call ops dr D} {ρ0 ρ : Ren} {w0 w : World} {S : Nat → Prop} {p : Nat} {a : Act} (I : Inv T ρ0 w0 S p ρ a w) {j : Nat} {o : Oper} (ho : ops[j]? = some o) (hnS : ¬ S j)
    (hdeps : ∀ i, i < ops.size → depB ops i j = true → S i) : ∀ t ∈ o.looksAt ops, Rv ρ ((D j).st.tmps.getD t undef) (a.tmps.toList.getD t undef) := by
  intro t ht
  have hj := (Array.getElem?_eq_some_iff.1 ho).1
  by_cases hw : ∃ (i : Nat) (oi : Oper), ops[i]? = some oi ∧ oi.dst = some t
  · obtain ⟨i, oi, hoi, hd⟩ := hw
    have hi := (Array.getElem?_eq_some_iff.1 hoi).1
    have uniq : ∀ (k : Nat) (ok : Oper), ops[k]? = some ok → ok.dst = some t → k = i := fun k ok hk hkd => by
      by_cases e : k = i
      · exact e
      · exact absurd hkd (T.ok.dst k ok hk i oi t hoi (fun e' => e e'.symm) hd)
    have case0 : ¬ S i → j ≤ i → Rv ρ ((D j).st.tmps.getD t undef) (a.tmps.toList.getD t undef) := by
      intro hSi hji
      rw [T.tm_same (q := 0) (r := j) (by omega) (by omega) (fun k ok _ h2 hk hkd => by have := uniq k ok hk hkd; omega)]
      exact I.tm0 t (fun k ok hk hs hkd => by rw [uniq k ok hk hkd] at hs; exact hSi hs)
    by_cases hij : i = j
    · subst hij; exact case0 hnS (Nat.le_refl _)
    · rcases T.ok.tmp j o ho i oi t hoi hij hd ht with h | h
      · have hlt := (T.ok.just j o ho i hi h).1
        have hS := hdeps i hi h
        have e := T.tm_same (t := t) (q := j) (r := ops.size) (by omega) (Nat.le_refl _) (fun k ok h1 h2 hk hkd => by have := uniq k ok hk hkd; omega)
        rw [← e]
        exact I.tm1 i oi t hoi hS hd
      · have hlt := (T.ok.just i oi hoi j hj h).1
        exact case0 (fun hs => hnS (I.clos i hs j hj h)) (by omega)
  · have hno : ∀ (k : Nat) (ok : Oper), ops[k]? = some ok → ok.dst ≠ some t := fun k ok hk hkd => hw ⟨k, ok, hk, hkd⟩
    rw [T.tm_same (q := 0) (r := j) (by omega) (by omega) (fun k ok _ _ hk => hno k ok hk)]
    exact I.tm0 t (fun k ok hk _ => hno k ok hk)

/-- the temporaries behind operation j -/
theorem Inv.put {T : Trc P call ops dr D} {ρ0 ρ ρ' : Ren} {w0 w : World} {S : Nat → Prop} {p : Nat} {a : Act} (I : Inv T ρ0 w0 S p ρ a w) {j : Nat} {o : Oper} (ho : ops[j]? = some o) (hle : Ren.le ρ ρ') {v' : Value}
    (hv : ∀ t, o.dst = some t → t < (D 0).st.tmps.length → Rv ρ' ((D ops.size).st.tmps.getD t undef) v') :
    (a.put o.dst v').tmps.toList.length = (D 0).st.tmps.length ∧
    (∀ (i : Nat) (oi : Oper) (t : Nat), ops[i]? = some oi → (S i ∨ i = j) → oi.dst = some t → Rv ρ' ((D ops.size).st.tmps.getD t undef) ((a.put o.dst v').tmps.toList.getD t undef)) ∧
    (∀ (t : Nat), (∀ (i : Nat) (oi : Oper), ops[i]? = some oi → (S i ∨ i = j) → oi.dst ≠ some t) → Rv ρ' ((D 0).st.tmps.getD t undef) ((a.put o.dst v').tmps.toList.getD t undef)) := by
  have e : (a.put o.dst v').tmps.toList = putT a.tmps.toList o.dst v' := by cases h : o.dst <;> simp [Act.put, putT, h]
  rw [e]
  refine ⟨by rw [putT_length]; exact I.len, fun i oi t hoi hs hd => ?_, fun t hno => ?_⟩
  · by_cases hij : i = j
    · subst hij
      rw [ho] at hoi; cases hoi
      by_cases hlt : t < (D 0).st.tmps.length
      · rw [hd, putT_same (by rw [I.len]; exact hlt)]
        exact hv t hd hlt
      · have h1 : (D ops.size).st.tmps.getD t undef = undef := by
          rw [List.getD_eq_getElem?_getD, List.getElem?_eq_none (by rw [T.tm_len (Nat.le_refl _)]; omega)]; rfl
        have h2 : (putT a.tmps.toList o.dst v').getD t undef = undef := by
          rw [List.getD_eq_getElem?_getD, List.getElem?_eq_none (by rw [putT_length, I.len]; omega)]; rfl
        rw [h1, h2]; exact Rv.undef
    · rw [putT_other (T.ok.dst j o ho i oi t hoi hij hd)]
      exact (I.tm1 i oi t hoi (hs.resolve_right hij) hd).mono hle
  · rw [putT_other (hno j o ho (.inr rfl))]
    exact (I.tm0 t (fun i oi hoi hs => hno i oi hoi (.inl hs))).mono hle

/-- what can be seen of the heap of the text's run at q lies in the heap now -/
theorem Inv.seen {T : Trc P call ops dr D} {ρ0 ρ : Ren} {w0 w : World} {S : Nat → Prop} {p : Nat} {a : Act} (I : Inv T ρ0 w0 S p ρ a w) (hwf : WF (D ops.size).st.h (D 0).st.h) {q : Nat} (hpq : p ≤ q) (hq : q ≤ ops.size)
    (hne : ∀ e, p ≤ e → e < q → ¬ T.ex 2 e) {hid : List Nat} (hvis : ∀ i, T.ex 1 i → i < q → (D i).st.h.next ∉ hid → S i) :
    ∀ b o, (hide (D q).st.h hid).get b = some o → T.hS S p b = some o := by
  intro b o hb
  rw [hide_get] at hb
  split at hb
  · cases hb
  · rename_i hnh
    by_cases hown : ∃ i, T.ex 1 i ∧ b = (D i).st.h.next
    · obtain ⟨i, hi, rfl⟩ := hown
      have hil := T.ex_lt hi
      by_cases hiq : i < q
      · rw [T.hS_own hi (hvis i hi hiq hnh)]
        rw [← T.still (b := (D i).st.h.next) (q := max p (i + 1)) (r := q) (by omega) hq (fun k h1 h2 hk e => by have := T.owner hi hk e; omega) (fun e h1 h2 he => absurd he (hne e (by omega) h2))]
        exact hb
      · exfalso
        have h1 := (T.hn (i := 0) (j := q) (by omega) hq).2 _ (T.hn (i := q) (j := ops.size) hq (Nat.le_refl _)).1 hwf
        have h2 := (T.hn (i := q) (j := i) (by omega) (by omega)).1.1
        have h3 := (T.hn (i := i + 1) (j := ops.size) (by omega) (Nat.le_refl _)).1.1
        obtain ⟨_, _, _, _, _, _, _, he, _, _⟩ := T.h_add hi
        rw [he, AH.next_add] at h3
        rw [h1.2 _ (.inl ⟨h2, by omega⟩)] at hb
        cases hb
    · have hno : ∀ i, T.ex 1 i → b ≠ (D i).st.h.next := fun i hi e => hown ⟨i, hi, e⟩
      rw [T.hS_non hno, ← T.still (q := p) (r := q) hpq hq (fun i _ _ hi => hno i hi) (fun e h1 h2 he => absurd he (hne e h1 h2))]
      exact hb

end
end Go.Am
