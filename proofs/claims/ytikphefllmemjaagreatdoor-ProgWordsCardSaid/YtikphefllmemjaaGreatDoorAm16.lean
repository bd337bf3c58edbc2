import Derived.Test.YtikphefllmemjaaGreatDoorAm15
/-
The engine, part 16: regions that draw their order: what the compiled region says, and the trace of the run in the text's order.
-/
namespace Go.Am
open Go
set_option linter.unusedVariables false
set_option linter.unusedSimpArgs false

structure DOk (P : Program) (ops : Array Oper) (dr : IDraw) : Prop where
  nosel : Region.noSelect ops = true
  kd2 : ∀ (j : Nat) (o : Oper), ops[j]? = some o → (cOp P o.op).kind ≤ 2
  edge : ∀ (j : Nat) (o : Oper), ops[j]? = some o → ∀ e ∈ o.after, Region.binds .any e = true → e.on < j ∧ depB ops e.on j = true
  just : ∀ (j : Nat) (o : Oper), ops[j]? = some o → ∀ i, i < ops.size → depB ops i j = true → i < j ∧ ∃ e ∈ o.after, Region.binds .any e = true ∧ (e.on = i ∨ depB ops i e.on = true)
  tmp : ∀ (j : Nat) (o : Oper), ops[j]? = some o → ∀ (i : Nat) (oi : Oper) (d : Tmp), ops[i]? = some oi → i ≠ j → oi.dst = some d → d ∈ o.looksAt ops → depB ops i j = true ∨ depB ops j i = true
  dst : ∀ (j : Nat) (o : Oper), ops[j]? = some o → ∀ (i : Nat) (oi : Oper) (d : Tmp), ops[i]? = some oi → i ≠ j → oi.dst = some d → o.dst ≠ some d
  free : ∀ (i j : Nat) (oi oj : Oper), ops[i]? = some oi → ops[j]? = some oj → i < j → depB ops i j = false →
    ¬ ((cOp P oi.op).kind = 2 ∧ (cOp P oj.op).kind = 2) ∧
    ((cOp P oi.op).kind = 2 → readsOp (cOp P oj.op) = true → (j, i) ∈ dr.twice) ∧
    (readsOp (cOp P oi.op) = true → (cOp P oj.op).kind = 2 → (i, j) ∈ dr.twice) ∧
    ((cOp P oi.op).kind = 1 → ((cOp P oj.op).kind = 2 ∨ readsOp (cOp P oj.op) = true) → i ∈ maskOf dr.masks j)
  tw : ∀ (r e : Nat), (r, e) ∈ dr.twice → ∀ (o : Oper), ops[r]? = some o → ∀ (i : Nat) (oi : Oper) (d : Tmp), ops[i]? = some oi → oi.dst = some d → d ∈ o.looksAt ops → depB ops i r = true

theorem okDraw_ok {P : Program} {ops : Array Oper} {dr : IDraw} (h : okDraw ops (ops.toList.map (cOper P ops)) dr = true) : DOk P ops dr := by
  have his : ∀ i : Nat, (ops.toList.map (cOper P ops))[i]? = (ops[i]?).map (cOper P ops) := fun i => by simp
  unfold okDraw at h
  simp only [his, Bool.and_eq_true, List.all_eq_true, decide_eq_true_eq, List.mem_range] at h
  obtain ⟨⟨⟨h1, h2⟩, h3⟩, h4⟩ := h
  have lt : ∀ {j : Nat} {o : Oper}, ops[j]? = some o → j < ops.size := fun hj => (Array.getElem?_eq_some_iff.1 hj).1
  have hj : ∀ j o, ops[j]? = some o → _ := fun j o ho => by
    have := h4 j (lt ho)
    simp only [ho, Option.map_some, Bool.and_eq_true, List.all_eq_true, decide_eq_true_eq, List.mem_range] at this
    exact this
  refine ⟨h1, fun j o ho => (hj j o ho).1, fun j o ho e he hb => ?_, fun j o ho i hi hd => ?_, fun j o ho i oi d hoi hij hd hl => ?_, fun j o ho i oi d hoi hij hd => ?_, fun i j oi oj hoi hoj hij hd => ?_, fun r e hre o ho i oi d hoi hd hl => ?_⟩
  · have := (hj j o ho).2.1.1.1.1 e (by simpa using he)
    simp only [hb, Bool.not_true, Bool.false_or, Bool.and_eq_true, decide_eq_true_eq] at this
    exact this
  · have := (hj j o ho).2.1.1.1.2 i hi
    simp only [show ((Region.before ops).getD j 0).testBit i = true from hd, Bool.not_true, Bool.false_or, Bool.and_eq_true, decide_eq_true_eq, List.any_eq_true, Bool.or_eq_true, beq_iff_eq] at this
    obtain ⟨a, e, he, hb, hc⟩ := this
    exact ⟨a, e, by simpa using he, hb, hc⟩
  · have := (hj j o ho).2.1.1.2 i (lt hoi)
    simp only [hoi, Option.bind_some, hd] at this
    have hne : (i == j) = false := by simpa using hij
    have hc : (o.looksAt ops).contains d = true := by simpa using hl
    simp only [hne, Bool.false_or, hc, Bool.not_true, Bool.false_and, Bool.or_eq_true] at this
    exact this
  · have := (hj j o ho).2.1.2 i (lt hoi)
    simp only [hoi, Option.bind_some, hd] at this
    have hne : (i == j) = false := by simpa using hij
    simp only [hne, Bool.false_or, bne_iff_ne] at this
    exact this
  · have := (hj j oj hoj).2.2 i (lt hoi)
    simp only [hoi, Option.map_some] at this
    have hd' : ((Region.before ops).getD j 0).testBit i = false := hd
    simp only [hij, decide_true, Bool.not_true, Bool.false_or, hd', Bool.and_eq_true, Bool.not_eq_true', Bool.and_eq_false_iff, decide_eq_false_iff_not, Bool.not_eq_false'] at this
    obtain ⟨⟨⟨a, b⟩, c⟩, d⟩ := this
    refine ⟨fun ⟨x, y⟩ => a.elim (fun h => h x) (fun h => h y), fun x y => ?_, fun x y => ?_, fun x y => ?_⟩
    · rcases b with (b | b) | b
      · exact absurd x b
      · rw [show readsOp (cOper P ops oj).op = readsOp (cOp P oj.op) from rfl, y] at b; cases b
      · simpa using b
    · rcases c with (c | c) | c
      · rw [show readsOp (cOper P ops oi).op = readsOp (cOp P oi.op) from rfl, x] at c; cases c
      · exact absurd y c
      · simpa using c
    · rcases d with (d | d) | d
      · exact absurd x d
      · simp only [Bool.or_eq_false_iff, decide_eq_false_iff_not] at d
        rcases y with y | y
        · exact absurd y d.1
        · rw [show readsOp (cOper P ops oj).op = readsOp (cOp P oj.op) from rfl, y] at d; cases d.2
      · simpa using d
  · have := h3 (r, e) (by simpa using hre)
    simp only [ho, List.all_eq_true, List.mem_range] at this
    have := this i (lt hoi)
    simp only [hoi, Option.bind_some, hd] at this
    have hc : (o.looksAt ops).contains d = true := by simpa using hl
    simp only [hc, Bool.not_true, Bool.or_false] at this
    exact this

/-! ### the trace -/
inductive SD (P : Program) (call : CallF) (dr : IDraw) (d : DSt) (j : Nat) (o : IOper) : DSt → Prop
  | no : wantedT d.st.tmps o.guard = false → SD P call dr d j o { d with st := { d.st with tmps := putT d.st.tmps o.dst undef } }
  | q {v : Value} : wantedT d.st.tmps o.guard = true → o.op.kind = 0 → evalQ P (evT d.st.tmps) (hide d.st.h (idsOf d.ids (maskOf dr.masks j))).get o.op = some v →
      SD P call dr d j o { d with st := { d.st with tmps := putT d.st.tmps o.dst v } }
  | a {cs : List Value} {elem : TypeId} {mk : Nat → Value} : wantedT d.st.tmps o.guard = true → o.op.kind = 1 → evalA (evT d.st.tmps) o.op = some (cs, elem, mk) →
      SD P call dr d j o { d with st := { d.st with tmps := putT d.st.tmps o.dst (mk d.st.h.next), h := d.st.h.add (.cells cs elem none 0) }, ids := (j, d.st.h.next) :: d.ids }
  | e {v : Value} {h : AH} : wantedT d.st.tmps o.guard = true → o.op.kind = 2 → act P call (evT d.st.tmps) (hide d.st.h (idsOf d.ids (maskOf dr.masks j))) o.op = some (v, h) →
      SD P call dr d j o { d with st := { d.st with tmps := putT d.st.tmps o.dst v, h := show' h d.st.h (idsOf d.ids (maskOf dr.masks j)) }, snaps := (j, d.st.h, show' h d.st.h (idsOf d.ids (maskOf dr.masks j))) :: d.snaps }

theorem stepD_cases {P : Program} {call : CallF} {dr : IDraw} {d d' : DSt} {j : Nat} {o : IOper} (h : stepD P call dr d j o = some d') : SD P call dr d j o d' := by
  unfold stepD at h
  simp only at h
  split at h
  · rename_i hw
    split at h
    · rename_i hk
      split at h
      · rename_i v hv; cases h; exact .q hw hk hv
      · cases h
    · rename_i hk
      split at h
      · rename_i cs elem mk hv; cases h; exact .a hw hk hv
      · cases h
    · rename_i hk
      split at h
      · rename_i v h1 hv; cases h; exact .e hw hk hv
      · cases h
    · cases h
  · rename_i hw
    cases h
    exact .no (by simpa using hw)

theorem runD_trace {P : Program} {call : CallF} {dr : IDraw} : ∀ (l : List IOper) (j : Nat) (d d' : DSt), runD P call dr l j d = some d' →
    ∃ D : Nat → DSt, D 0 = d ∧ D l.length = d' ∧ ∀ i o, l[i]? = some o → stepD P call dr (D i) (j + i) o = some (D (i + 1))
  | [], j, d, d', h => by
    simp only [runD] at h
    cases h
    exact ⟨fun _ => d, rfl, rfl, fun i o hi => by simp at hi⟩
  | o :: l, j, d, d', h => by
    simp only [runD] at h
    split at h
    · rename_i d1 h1
      obtain ⟨D, e0, e1, e2⟩ := runD_trace l (j + 1) d1 d' h
      refine ⟨fun i => match i with | 0 => d | i + 1 => D i, rfl, by simpa using e1, fun i o' hi => ?_⟩
      cases i with
      | zero => simp at hi; subst hi; simpa [e0] using h1
      | succ i =>
        simp at hi
        have := e2 i o' hi
        simpa [Nat.add_assoc, Nat.add_comm 1 i] using this
    · cases h

structure Trc (P : Program) (call : CallF) (ops : Array Oper) (dr : IDraw) (D : Nat → DSt) : Prop where
  ok : DOk P ops dr
  hm : CallMono call
  step : ∀ (i : Nat) (o : Oper), ops[i]? = some o → stepD P call dr (D i) i (cOper P ops o) = some (D (i + 1))
  ids0 : (D 0).ids = []
  snaps0 : (D 0).snaps = []

section
variable {P : Program} {call : CallF} {ops : Array Oper} {dr : IDraw} {D : Nat → DSt}

theorem Trc.sd (T : Trc P call ops dr D) {i : Nat} {o : Oper} (ho : ops[i]? = some o) : SD P call dr (D i) i (cOper P ops o) (D (i + 1)) := stepD_cases (T.step i o ho)

/-- operation i is carried out, and is of this kind -/
def Trc.ex (_ : Trc P call ops dr D) (k i : Nat) : Prop := ∃ o, ops[i]? = some o ∧ wantedT (D i).st.tmps (cOper P ops o).guard = true ∧ (cOp P o.op).kind = k

theorem Trc.get (T : Trc P call ops dr D) {i : Nat} (hi : i < ops.size) : ∃ o, ops[i]? = some o := ⟨ops[i], by simp [hi]⟩

theorem Trc.hn (T : Trc P call ops dr D) : ∀ {i j : Nat}, i ≤ j → j ≤ ops.size → HN (D i).st.h (D j).st.h := by
  intro i j hij
  induction hij with
  | refl => intro _; exact HN.refl _
  | @step j hij ih =>
    intro hj
    obtain ⟨o, ho⟩ := T.get (i := j) (by omega)
    exact (ih (by omega)).trans (stepD_next T.hm (T.step j o ho))

theorem Trc.h_same (T : Trc P call ops dr D) {i : Nat} (hi : i < ops.size) (h1 : ¬ T.ex 1 i) (h2 : ¬ T.ex 2 i) : (D (i + 1)).st.h = (D i).st.h := by
  obtain ⟨o, ho⟩ := T.get hi
  have hs := T.sd ho
  generalize D (i + 1) = d' at hs
  cases hs with
  | no _ => rfl
  | q _ _ _ => rfl
  | a hw hk _ => exact absurd ⟨o, ho, hw, hk⟩ h1
  | e hw hk _ => exact absurd ⟨o, ho, hw, hk⟩ h2

theorem Trc.h_add (T : Trc P call ops dr D) {i : Nat} (h1 : T.ex 1 i) : ∃ o cs elem mk, ops[i]? = some o ∧ wantedT (D i).st.tmps (cOper P ops o).guard = true ∧ evalA (evT (D i).st.tmps) (cOp P o.op) = some (cs, elem, mk) ∧
    (D (i + 1)).st.h = (D i).st.h.add (.cells cs elem none 0) ∧ (D (i + 1)).st.tmps = putT (D i).st.tmps o.dst (mk (D i).st.h.next) ∧ (D (i + 1)).ids = (i, (D i).st.h.next) :: (D i).ids := by
  obtain ⟨o, ho, hw, hk⟩ := h1
  have hs := T.sd ho
  generalize D (i + 1) = d' at hs
  cases hs with
  | no hw' => rw [hw] at hw'; cases hw'
  | q _ hk' _ => rw [show (cOper P ops o).op.kind = 1 from hk] at hk'; cases hk'
  | @a cs elem mk _ _ hv => exact ⟨o, cs, elem, mk, ho, hw, hv, rfl, rfl, rfl⟩
  | e _ hk' _ => rw [show (cOper P ops o).op.kind = 1 from hk] at hk'; cases hk'

theorem Trc.h_act (T : Trc P call ops dr D) {i : Nat} (h1 : T.ex 2 i) : ∃ o v h, ops[i]? = some o ∧ wantedT (D i).st.tmps (cOper P ops o).guard = true ∧ act P call (evT (D i).st.tmps) (hide (D i).st.h (idsOf (D i).ids (maskOf dr.masks i))) (cOp P o.op) = some (v, h) ∧
    (D (i + 1)).st.h = show' h (D i).st.h (idsOf (D i).ids (maskOf dr.masks i)) ∧ (D (i + 1)).st.tmps = putT (D i).st.tmps o.dst v := by
  obtain ⟨o, ho, hw, hk⟩ := h1
  have hs := T.sd ho
  generalize D (i + 1) = d' at hs
  cases hs with
  | no hw' => rw [hw] at hw'; cases hw'
  | q _ hk' _ => rw [show (cOper P ops o).op.kind = 2 from hk] at hk'; cases hk'
  | a _ hk' _ => rw [show (cOper P ops o).op.kind = 2 from hk] at hk'; cases hk'
  | @e v h _ _ hv => exact ⟨o, v, h, ho, hw, hv, rfl, rfl⟩

theorem Trc.ids (T : Trc P call ops dr D) : ∀ {i : Nat}, i ≤ ops.size → ∀ k b, (k, b) ∈ (D i).ids ↔ k < i ∧ T.ex 1 k ∧ b = (D k).st.h.next := by
  intro i
  induction i with
  | zero => intro _ k b; rw [T.ids0]; simp
  | succ i ih =>
    intro hi k b
    have ih := ih (by omega) k b
    by_cases h1 : T.ex 1 i
    · obtain ⟨o, cs, elem, mk, _, _, _, _, _, he⟩ := T.h_add h1
      rw [he, List.mem_cons, ih]
      constructor
      · rintro (e | ⟨a, b, c⟩)
        · cases e; exact ⟨by omega, h1, rfl⟩
        · exact ⟨by omega, b, c⟩
      · rintro ⟨a, b', c⟩
        by_cases hk : k = i
        · subst hk; left; rw [c]
        · right; exact ⟨by omega, b', c⟩
    · obtain ⟨o, ho⟩ := T.get (i := i) (by omega)
      have he : (D (i + 1)).ids = (D i).ids := by
        have hs := T.sd ho
        generalize D (i + 1) = d' at hs
        cases hs with
        | no _ => rfl
        | q _ _ _ => rfl
        | a hw hk _ => exact absurd ⟨o, ho, hw, hk⟩ h1
        | e _ _ _ => rfl
      rw [he, ih]
      constructor
      · rintro ⟨a, b, c⟩; exact ⟨by omega, b, c⟩
      · rintro ⟨a, b', c⟩
        by_cases hk : k = i
        · subst hk; exact absurd b' h1
        · exact ⟨by omega, b', c⟩

theorem Trc.snap (T : Trc P call ops dr D) : ∀ {i : Nat}, i ≤ ops.size → ∀ e, e < i → T.ex 2 e → (D i).snaps.find? (fun s => s.1 == e) = some (e, (D e).st.h, (D (e + 1)).st.h) := by
  intro i
  induction i with
  | zero => intro _ e he; omega
  | succ i ih =>
    intro hi e he hx
    obtain ⟨o, ho⟩ := T.get (i := i) (by omega)
    have hs := T.step i o ho
    by_cases h2 : T.ex 2 i
    · have hsd := T.sd ho
      obtain ⟨o', ho', hw, hk⟩ := h2
      rw [ho] at ho'; cases ho'
      have hsn : (D (i + 1)).snaps = (i, (D i).st.h, (D (i + 1)).st.h) :: (D i).snaps := by
        generalize D (i + 1) = d' at hsd
        cases hsd with
        | no hw' => rw [hw] at hw'; cases hw'
        | q _ hk' _ => rw [show (cOper P ops o).op.kind = 2 from hk] at hk'; cases hk'
        | a _ hk' _ => rw [show (cOper P ops o).op.kind = 2 from hk] at hk'; cases hk'
        | e _ _ _ => rfl
      rw [hsn, List.find?_cons]
      by_cases hei : e = i
      · subst hei; simp
      · have : (i == e) = false := by simpa using fun h => hei h.symm
        simp only [this]
        exact ih (by omega) e (by omega) hx
    · have hsn : (D (i + 1)).snaps = (D i).snaps := by
        have hsd := T.sd ho
        generalize D (i + 1) = d' at hsd
        cases hsd with
        | no _ => rfl
        | q _ _ _ => rfl
        | a _ _ _ => rfl
        | e hw hk _ => exact absurd ⟨o, ho, hw, hk⟩ h2
      rw [hsn]
      have : e ≠ i := fun h => by subst h; exact h2 hx
      exact ih (by omega) e (by omega) hx

/-- the numbers of new blocks tell their operations -/
theorem Trc.owner (T : Trc P call ops dr D) {i k : Nat} (hi : T.ex 1 i) (hk : T.ex 1 k) (h : (D i).st.h.next = (D k).st.h.next) : i = k := by
  have key : ∀ {i k : Nat}, T.ex 1 i → T.ex 1 k → i < k → (D i).st.h.next < (D k).st.h.next := by
    intro i k hi hk hlt
    obtain ⟨ok, hok, _⟩ := hk
    have hksz := (Array.getElem?_eq_some_iff.1 hok).1
    obtain ⟨o, cs, elem, mk, _, _, _, he, _, _⟩ := T.h_add hi
    have := (T.hn (i := i + 1) (j := k) (by omega) (by omega)).1.1
    rw [he, AH.next_add] at this
    omega
  rcases Nat.lt_trichotomy i k with h1 | h1 | h1
  · have := key hi hk h1; omega
  · exact h1
  · have := key hk hi h1; omega

/-- what one operation lays is not what another one lays -/
theorem Trc.apart (T : Trc P call ops dr D) (ho : (D ops.size).st.h.next ≤ OFF) {j k c : Nat} (hj : j < ops.size) (hk : k < ops.size) (hne : k ≠ j) (h1 : isNew (D k).st.h (D (k + 1)).st.h c) (h2 : isNew (D j).st.h (D (j + 1)).st.h c) : False := by
  have a1 := (T.hn (i := k + 1) (j := ops.size) (by omega) (Nat.le_refl _)).1
  have a2 := (T.hn (i := j + 1) (j := ops.size) (by omega) (Nat.le_refl _)).1
  have b1 := a1.1
  have b2 := a2.1
  unfold isNew at h1 h2
  rcases Nat.lt_or_ge k j with h | h
  · have a3 := (T.hn (i := k + 1) (j := j) (by omega) (Nat.le_of_lt hj)).1
    have b3 := a3.1
    have b4 := a3.2
    omega
  · have a3 := (T.hn (i := j + 1) (j := k) (by omega) (by omega)).1
    have b3 := a3.1
    have b4 := a3.2
    omega

theorem mem_idsOf {ids : List (Nat × Nat)} {m : List Nat} {b : Nat} : b ∈ idsOf ids m ↔ ∃ k, (k, b) ∈ ids ∧ k ∈ m := by
  unfold idsOf
  simp only [List.mem_map, List.mem_filter, Prod.exists]
  constructor
  · rintro ⟨k, b', ⟨h1, h2⟩, rfl⟩; exact ⟨k, h1, by simpa using h2⟩
  · rintro ⟨k, h1, h2⟩; exact ⟨k, b, ⟨h1, by simpa using h2⟩, rfl⟩
theorem mem_idsLaid {d : DSt} {m : List Nat} {r e b : Nat} : b ∈ idsLaid d m r e ↔ ∃ k, (k, b) ∈ d.ids ∧ e < k ∧ k < r ∧ k ∉ m ∧ ∀ s ∈ d.snaps, s.1 < k := by
  unfold idsLaid
  simp only [List.mem_map, List.mem_filter, Prod.exists, Bool.and_eq_true, decide_eq_true_eq, Bool.not_eq_true', List.all_eq_true, List.contains_eq_mem, decide_eq_false_iff_not]
  constructor
  · rintro ⟨k, b', ⟨h1, ⟨⟨h2, h3⟩, h4⟩, h5⟩, rfl⟩; exact ⟨k, h1, h2, h3, h4, h5⟩
  · rintro ⟨k, h1, h2, h3, h4, h5⟩; exact ⟨k, b, ⟨h1, ⟨⟨h2, h3⟩, h4⟩, h5⟩, rfl⟩
theorem mem_idsTwice {ids : List (Nat × Nat)} {m : List Nat} {r b : Nat} : b ∈ idsTwice ids m r ↔ ∃ k, (k, b) ∈ ids ∧ (k ∈ m ∨ r < k) := by
  unfold idsTwice
  simp only [List.mem_map, List.mem_filter, Prod.exists]
  constructor
  · rintro ⟨k, b', ⟨h1, h2⟩, rfl⟩; exact ⟨k, h1, by simpa using h2⟩
  · rintro ⟨k, h1, h2⟩; exact ⟨k, b, ⟨h1, by simpa using h2⟩, rfl⟩

/-- what a block holds does not turn where nothing acts on it -/
theorem Trc.still (T : Trc P call ops dr D) {b : Nat} : ∀ {q r : Nat}, q ≤ r → r ≤ ops.size →
    (∀ i, q ≤ i → i < r → T.ex 1 i → b ≠ (D i).st.h.next) → (∀ e, q ≤ e → e < r → T.ex 2 e → b ∈ idsOf (D e).ids (maskOf dr.masks e)) →
    (D r).st.h.get b = (D q).st.h.get b := by
  intro q r hqr
  induction hqr with
  | refl => intros; rfl
  | @step r hqr ih =>
    intro hr ha he
    have ih := ih (by omega) (fun i h1 h2 => ha i h1 (by omega)) (fun e h1 h2 => he e h1 (by omega))
    rw [← ih]
    by_cases h1 : T.ex 1 r
    · obtain ⟨o, cs, elem, mk, _, _, _, e, _, _⟩ := T.h_add h1
      rw [e, AH.get_add, if_neg (ha r hqr (by omega) h1)]
    · by_cases h2 : T.ex 2 r
      · obtain ⟨o, v, h, _, _, _, e, _⟩ := T.h_act h2
        rw [e, show_get, if_pos (he r hqr (by omega) h2)]
      · rw [T.h_same (by omega) h1 h2]

end
end Go.Am
