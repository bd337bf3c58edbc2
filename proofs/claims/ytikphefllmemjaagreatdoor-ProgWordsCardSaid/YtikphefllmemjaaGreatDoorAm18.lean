import Derived.Test.YtikphefllmemjaaGreatDoorAm17
/-
The engine, part 18: the theorem on regions that draw their order.
-/
namespace Go.Am
open Go
set_option linter.unusedVariables false
set_option linter.unusedSimpArgs false

theorem Sim.drew {ρ : Ren} {g : VH} {w : World} (h : Sim ρ g w) : Sim ρ g { w with drawn := w.drawn + 1 } := ⟨h.fix, h.blk, h.inj⟩

section
variable {P : Program} {call : CallF} {ops : Array Oper} {dr : IDraw} {D : Nat → DSt}

theorem Trc.hS_congr (T : Trc P call ops dr D) {S S' : Nat → Prop} {p : Nat} (h : ∀ i, T.ex 1 i → (S i ↔ S' i)) : T.hS S p = T.hS S' p := by
  funext b
  by_cases hown : ∃ i, T.ex 1 i ∧ b = (D i).st.h.next
  · obtain ⟨i, hi, rfl⟩ := hown
    by_cases hs : S i
    · rw [T.hS_own hi hs, T.hS_own hi ((h i hi).1 hs)]
    · rw [T.hS_no hi hs, T.hS_no hi (fun k => hs ((h i hi).2 k))]
  · have hno : ∀ i, T.ex 1 i → b ≠ (D i).st.h.next := fun i hi e => hown ⟨i, hi, e⟩
    rw [T.hS_non hno, T.hS_non hno]

theorem twice_use (T : Trc P call ops dr D) (htw : twiceOk P dr (ops.toList.map (cOper P ops)) (D ops.size) = true) {r e : Nat} (hre : (r, e) ∈ dr.twice) {o : Oper} (ho : ops[r]? = some o) (he : T.ex 2 e)
    (hw : wantedT (D ops.size).st.tmps (cOper P ops o).guard = true) :
    ∃ t v, o.dst = some t ∧ evalQ P (evT (D ops.size).st.tmps) (twiceHeap (D ops.size) (maskOf dr.masks r) r e (D e).st.h (D (e + 1)).st.h).get (cOp P o.op) = some v ∧
      v = (D ops.size).st.tmps.getD t undef := by
  unfold twiceOk at htw
  have h1 := List.all_eq_true.1 htw (r, e) hre
  have his : (ops.toList.map (cOper P ops))[r]? = some (cOper P ops o) := by
    rw [List.getElem?_map]; simp [ho]
  simp only [his, T.snap (Nat.le_refl _) e (T.ex_lt he) he, hw, if_true] at h1
  cases hd : o.dst with
  | none => simp [cOper, hd] at h1
  | some t =>
    rw [Bool.and_eq_true] at h1
    obtain ⟨_, h2⟩ := h1
    split at h2
    · rename_i v hv
      refine ⟨t, v, rfl, hv, ?_⟩
      have := eqV_eq _ _ _ h2
      simpa [cOper, hd] using this
    · cases h2

theorem Trc.kinds (T : Trc P call ops dr D) {k k' i : Nat} (h : T.ex k i) (h' : T.ex k' i) : k = k' := by
  obtain ⟨o, ho, _, hk⟩ := h
  obtain ⟨o', ho', _, hk'⟩ := h'
  rw [ho] at ho'; cases ho'
  rw [← hk, ← hk']

theorem Inv.wanted {T : Trc P call ops dr D} {ρ0 ρ : Ren} {w0 w : World} {S : Nat → Prop} {p : Nat} {a : Act} (I : Inv T ρ0 w0 S p ρ a w) {j : Nat} {o : Oper} (ho : ops[j]? = some o) (hnS : ¬ S j)
    (hdeps : ∀ i, i < ops.size → depB ops i j = true → S i) : wantedT (D j).st.tmps (cOper P ops o).guard = Region.wanted o (yielded ops a.tmps) :=
  wanted_rel2 (by rw [I.len, T.tm_len (Nat.le_of_lt (Array.getElem?_eq_some_iff.1 ho).1)]) (I.looks ho hnS hdeps)

/-- the frame of a step that leaves the heap as it is -/
theorem Inv.quietStep {T : Trc P call ops dr D} {ρ0 ρ : Ren} {w0 w : World} {S : Nat → Prop} {p : Nat} {a : Act} (I : Inv T ρ0 w0 S p ρ a w) {j : Nat} {o : Oper} (ho : ops[j]? = some o)
    (hdeps : ∀ i, i < ops.size → depB ops i j = true → S i) (h1 : ¬ T.ex 1 j) (h2 : ¬ T.ex 2 j) {v' : Value}
    (hv : ∀ t, o.dst = some t → t < (D 0).st.tmps.length → Rv ρ ((D ops.size).st.tmps.getD t undef) v') :
    Inv T ρ0 w0 (fun i => S i ∨ i = j) p ρ (a.put o.dst v') w := by
  obtain ⟨p1, p2, p3⟩ := I.put ho (Ren.le_refl ρ) hv
  have hc : T.hS (fun i => S i ∨ i = j) p = T.hS S p := T.hS_congr (fun i hi => ⟨fun h => h.resolve_right (fun e => by subst e; exact h1 hi), .inl⟩)
  refine ⟨I.hp, I.last, fun e he => ⟨fun h => (I.eff e he).1 (h.resolve_right (fun e' => by subst e'; exact h2 he)), fun h => .inl ((I.eff e he).2 h)⟩,
    fun k hk i hi hd => ?_, p1, p2, p3, by rw [put_defers]; exact I.ds, by rw [hc]; exact I.sim, by rw [hc]; exact I.ext, fun k hk hn => I.fresh k hk (fun h => hn (.inl h)), I.only⟩
  rcases hk with hk | rfl
  · exact .inl (I.clos k hk i hi hd)
  · exact .inl (hdeps i hi hd)

theorem Inv.stepOp {T : Trc P call ops dr D} (hc : CallSound P call) (htw : twiceOk P dr (ops.toList.map (cOper P ops)) (D ops.size) = true) (hwf : WF (D ops.size).st.h (D 0).st.h)
    {ρ0 ρ : Ren} {w0 w : World} {S : Nat → Prop} {p : Nat} {a : Act} (I : Inv T ρ0 w0 S p ρ a w) {j : Nat} {o : Oper} (ho : ops[j]? = some o) (hnS : ¬ S j)
    (hdeps : ∀ i, i < ops.size → depB ops i j = true → S i) {K : Act → World → Prop} {Q : Exit → Act → World → Prop}
    (hK : ∀ p' ρ' a' w', Inv T ρ0 w0 (fun i => S i ∨ i = j) p' ρ' a' w' → K a' w') : wpOp P ops Q j K a w := by
  have hj := (Array.getElem?_eq_some_iff.1 ho).1
  have hlooks := I.looks ho hnS hdeps
  have hwant := I.wanted ho hnS hdeps
  have hval : ∀ {t : Nat} {v : Value}, o.dst = some t → t < (D 0).st.tmps.length → (D (j + 1)).st.tmps = putT (D j).st.tmps o.dst v → (D ops.size).st.tmps.getD t undef = v := by
    intro t v ht hlt he
    rw [T.tm_val ho ht, he, ht, putT_same (by rw [T.tm_len (Nat.le_of_lt hj)]; exact hlt)]
  unfold wpOp
  simp only [ho]
  by_cases hw : Region.wanted o (yielded ops a.tmps) = true
  case neg =>
    rw [if_neg hw]
    have hw0 : wantedT (D j).st.tmps (cOper P ops o).guard = false := by rw [hwant]; simpa using hw
    have hno : ∀ k, ¬ T.ex k j := fun k ⟨o', ho', hw', _⟩ => by rw [ho] at ho'; cases ho'; rw [hw0] at hw'; cases hw'
    refine hK p ρ _ w (I.quietStep ho hdeps (hno 1) (hno 2) (fun t ht hlt => ?_))
    have hs := T.sd ho
    have : (D (j + 1)).st.tmps = putT (D j).st.tmps o.dst undef := by
      generalize D (j + 1) = d' at hs
      cases hs with
      | no _ => rfl
      | q hw' _ _ => rw [hw0] at hw'; cases hw'
      | a hw' _ _ => rw [hw0] at hw'; cases hw'
      | e hw' _ _ => rw [hw0] at hw'; cases hw'
    rw [hval ht hlt this]
    exact Rv.undef
  case pos =>
    rw [if_pos hw]
    left
    have hw1 : wantedT (D j).st.tmps (cOper P ops o).guard = true := by rw [hwant]; exact hw
    have hk2 := T.ok.kd2 j o ho
    have hex : T.ex (cOp P o.op).kind j := ⟨o, ho, hw1, rfl⟩
    -- a reader sees no block that has not been laid
    have vis : ∀ (i : Nat), T.ex 1 i → i < j → (readsOp (cOp P o.op) = true ∨ (cOp P o.op).kind = 2) → i ∉ maskOf dr.masks j → S i := by
      intro i hi hij hr hm
      obtain ⟨oi, hoi, _, hki⟩ := hi
      cases hd : depB ops i j with
      | true => exact hdeps i (Array.getElem?_eq_some_iff.1 hoi).1 hd
      | false => exact absurd ((T.ok.free i j oi o hoi ho hij hd).2.2.2 hki (hr.symm)) hm
    have own : ∀ (i q : Nat), T.ex 1 i → i < q → q ≤ ops.size → (i, (D i).st.h.next) ∈ (D q).ids := fun i q hi hiq hq => (T.ids hq i _).2 ⟨hiq, hi, rfl⟩
    -- the last act is not behind j if it must run first; ...
    have plast : ∀ (hlt : j < p), ∃ e, p = e + 1 ∧ T.ex 2 e ∧ S e ∧ j ≤ e := by
      intro hlt
      rcases I.last with h | ⟨e, h1, h2⟩
      · omega
      · exact ⟨e, h1, h2, (I.eff e h2).2 (by omega), by omega⟩
    by_cases hk0 : (cOp P o.op).kind = 0
    · -- quiet
      have hn1 : ¬ T.ex 1 j := fun h => by have := T.kinds h hex; omega
      have hn2 : ¬ T.ex 2 j := fun h => by have := T.kinds h hex; omega
      have hsd := T.sd ho
      have hq : ∃ v, evalQ P (evT (D j).st.tmps) (hide (D j).st.h (idsOf (D j).ids (maskOf dr.masks j))).get (cOp P o.op) = some v ∧ (D (j + 1)).st.tmps = putT (D j).st.tmps o.dst v := by
        generalize D (j + 1) = d' at hsd
        cases hsd with
        | no hw' => rw [hw1] at hw'; cases hw'
        | @q v _ _ hv => exact ⟨v, hv, rfl⟩
        | a _ hk' _ => rw [show (cOper P ops o).op.kind = 0 from hk0] at hk'; cases hk'
        | e _ hk' _ => rw [show (cOper P ops o).op.kind = 0 from hk0] at hk'; cases hk'
      obtain ⟨v, hv, htm⟩ := hq
      have hok : o.op.operands.toList.all okO = true := cOp_ok (P := P) (fun e => by rw [e] at hv; simp [evalQ] at hv)
      have main : ∃ v', (execOp a.eval o).run P w = .ok (.value v') w ∧ (∀ t, o.dst = some t → t < (D 0).st.tmps.length → Rv ρ ((D ops.size).st.tmps.getD t undef) v') := by
        have plain : ∀ (g : VH), (∀ b ob, g b = some ob → T.hS S p b = some ob) → evalQ P (evT (D j).st.tmps) g (cOp P o.op) = some v →
            ∃ v', (execOp a.eval o).run P w = .ok (.value v') w ∧ (∀ t, o.dst = some t → t < (D 0).st.tmps.length → Rv ρ ((D ops.size).st.tmps.getD t undef) v') := by
          intro g hg he
          obtain ⟨v', r1, r2⟩ := quiet_sound (P := P) (I.sim.weaken hg) o (opnds_rel2 hok hlooks) hk0 he
          exact ⟨v', r1, fun t ht hlt => by rw [hval ht hlt htm]; exact r2⟩
        cases hr : readsOp (cOp P o.op) with
        | false => exact plain (T.hS S p) (fun _ _ h => h) (by rw [evalQ_pure hr _ (hide (D j).st.h (idsOf (D j).ids (maskOf dr.masks j))).get]; exact hv)
        | true =>
          -- looked at once more, beside an act in either order
          have again : ∀ (e q : Nat), (j, e) ∈ dr.twice → T.ex 2 e → q = (if j < e then e + 1 else e) → p ≤ q → (∀ x, p ≤ x → x < q → ¬ T.ex 2 x) →
              ∃ v', (execOp a.eval o).run P w = .ok (.value v') w ∧ (∀ t, o.dst = some t → t < (D 0).st.tmps.length → Rv ρ ((D ops.size).st.tmps.getD t undef) v') := by
            intro e q hre he hq hpq hne
            have hel := T.ex_lt he
            have hlooks2 : ∀ t ∈ o.looksAt ops, Rv ρ ((D ops.size).st.tmps.getD t undef) (a.tmps.toList.getD t undef) := by
              intro t ht
              rw [T.tm_same (t := t) (q := j) (r := ops.size) (Nat.le_of_lt hj) (Nat.le_refl _) (fun i oi h1 h2 hoi hd => by
                have := T.ok.tw j e hre o ho i oi t hoi hd ht
                have := (T.ok.just j o ho i h2 this).1
                omega)]
              exact hlooks t ht
            have hw2 : wantedT (D ops.size).st.tmps (cOper P ops o).guard = true := by
              rw [wanted_rel2 (by rw [I.len, T.tm_len (Nat.le_refl _)]) hlooks2]; exact hw
            obtain ⟨t, v2, ht, hv2, he2⟩ := twice_use T htw hre ho he hw2
            have hhid : (if j < e then (D (e + 1)).st.h else (D e).st.h) = (D q).st.h := by rw [hq]; split <;> rfl
            unfold twiceHeap at hv2
            rw [hhid] at hv2
            have hq2 : q ≤ ops.size := by rw [hq]; split <;> omega
            have hsub0 := I.seen hwf hpq hq2 hne (hid := idsTwice (D ops.size).ids (maskOf dr.masks j) j) (fun i hi hiq hni => by
              have hni2 : ¬ (i ∈ maskOf dr.masks j ∨ j < i) := fun h => hni (mem_idsTwice.2 ⟨i, own i ops.size hi (T.ex_lt hi) (Nat.le_refl _), h⟩)
              have hij : i ≠ j := fun e => by subst e; exact hn1 hi
              exact vis i hi (by omega) (.inl hr) (fun h => hni2 (.inl h)))
            have hsub : ∀ b ob, (show' (hide (D q).st.h (idsTwice (D ops.size).ids (maskOf dr.masks j) j)) (D ops.size).st.h (idsLaid (D ops.size) (maskOf dr.masks j) j e)).get b = some ob → T.hS S p b = some ob := by
              intro b ob hb
              rw [show_get] at hb
              split at hb
              · rename_i hin
                obtain ⟨k, k1, k2, k3, k4, k5⟩ := mem_idsLaid.1 hin
                obtain ⟨_, k6, rfl⟩ := (T.ids (Nat.le_refl _) k b).1 k1
                rw [if_neg (show ¬ j < e by omega)] at hq
                have hkl := T.ex_lt k6
                rw [T.hS_own k6 (vis k k6 k3 (.inl hr) k4)]
                rw [show max p (k + 1) = k + 1 by omega]
                rw [← T.still (b := (D k).st.h.next) (q := k + 1) (r := ops.size) (by omega) (Nat.le_refl _) (fun k' h1 h2 hk e' => by have := T.owner k6 hk e'; omega) (fun x h1 h2 hx => by
                  have := k5 _ (List.mem_of_find?_eq_some (T.snap (Nat.le_refl _) x h2 hx))
                  simp only at this
                  omega)]
                exact hb
              · exact hsub0 b ob hb
            obtain ⟨v', r1, r2⟩ := quiet_sound (P := P) (I.sim.weaken hsub) o (opnds_rel2 hok hlooks2) hk0 hv2
            refine ⟨v', r1, fun t' ht' hlt => ?_⟩
            rw [ht] at ht'; cases ht'
            rw [← he2]; exact r2
          by_cases hpj : j < p
          · obtain ⟨e, e1, e2, e3, e4⟩ := plast hpj
            have hje : j ≠ e := fun h => by subst h; exact hn2 e2
            obtain ⟨oe, hoe, _, hke⟩ := id e2
            have hdep : depB ops j e = false := by
              cases hd : depB ops j e with
              | false => rfl
              | true => exact absurd (I.clos e e3 j hj hd) hnS
            have hre := (T.ok.free j e o oe ho hoe (by omega) hdep).2.2.1 hr hke
            exact again e p hre e2 (by rw [if_pos (by omega)]; exact e1) (Nat.le_refl _) (fun x h1 h2 => by omega)
          · by_cases hmid : ∃ e, p ≤ e ∧ e < j ∧ T.ex 2 e
            · -- the first of them
              have hfirst : ∀ k, ∀ e, e = k → p ≤ e → e < j → T.ex 2 e → ∃ e', p ≤ e' ∧ e' < j ∧ T.ex 2 e' ∧ ∀ x, p ≤ x → x < e' → ¬ T.ex 2 x := by
                intro k
                induction k using Nat.strongRecOn with
                | _ k ih =>
                  intro e hek h1 h2 h3
                  by_cases hx : ∃ x, p ≤ x ∧ x < e ∧ T.ex 2 x
                  · obtain ⟨x, hx1, hx2, hx3⟩ := hx
                    exact ih x (by omega) x rfl hx1 (by omega) hx3
                  · exact ⟨e, h1, h2, h3, fun x hx1 hx2 hx3 => hx ⟨x, hx1, hx2, hx3⟩⟩
              obtain ⟨e0, h1, h2, h3⟩ := hmid
              obtain ⟨e, h1, h2, h3, h4⟩ := hfirst e0 e0 rfl h1 h2 h3
              obtain ⟨oe, hoe, _, hke⟩ := id h3
              have hdep : depB ops e j = false := by
                cases hd : depB ops e j with
                | false => rfl
                | true => have := (I.eff e h3).1 (hdeps e (T.ex_lt h3) hd); omega
              have hre := (T.ok.free e j oe o hoe ho h2 hdep).2.1 hke hr
              exact again e e hre h3 (by rw [if_neg (by omega)]) h1 h4
            · have hsub := I.seen hwf (q := j) (by omega) (Nat.le_of_lt hj) (fun e h1 h2 h3 => hmid ⟨e, h1, h2, h3⟩) (hid := idsOf (D j).ids (maskOf dr.masks j)) (fun i hi hij hni =>
                vis i hi hij (.inl hr) (fun h => hni (mem_idsOf.2 ⟨i, own i j hi hij (Nat.le_of_lt hj), h⟩)))
              exact plain _ hsub hv
      obtain ⟨v', r1, r2⟩ := main
      unfold Oper.wp
      rw [r1]
      exact hK p ρ _ w (I.quietStep ho hdeps hn1 hn2 r2)
    by_cases hk1 : (cOp P o.op).kind = 1
    · -- a new block
      have hx1 : T.ex 1 j := by rw [← hk1]; exact hex
      have hn2 : ¬ T.ex 2 j := fun h => by have := T.kinds h hx1; omega
      obtain ⟨o', cs, elem, mk, ho', _, hv, hH, htm, _⟩ := T.h_add hx1
      rw [ho] at ho'; cases ho'
      have hok : o.op.operands.toList.all okO = true := cOp_ok (P := P) (fun e => by rw [e] at hv; simp [evalA] at hv)
      obtain ⟨cs', h1, v', h2, h3⟩ := alloc_sound (P := P) (w := w) o (opnds_rel2 hok hlooks) hv
      have hN : ρ (D j).st.h.next = none := (I.fresh j hj hnS).2 _ (by rw [hH]; exact isNew_add.2 rfl)
      obtain ⟨s1, s2⟩ := I.sim.add (x := 0) (w' := w.alloc (.cells ⟨cs'⟩ elem)) hN rfl rfl rfl (RObj.new (h1.mono (Ren.le_with hN)) elem)
      have hg : T.hS (fun i => S i ∨ i = j) p = (T.hS S p).with (D j).st.h.next (some (.cells cs elem none 0)) := by
        funext b
        by_cases hb : b = (D j).st.h.next
        · subst hb
          rw [T.hS_own hx1 (.inr rfl)]
          rw [T.still (b := (D j).st.h.next) (q := j + 1) (r := max p (j + 1)) (by omega) (by have := I.hp; omega) (fun k k1 k2 hk e => by have := T.owner hx1 hk e; omega) (fun e k1 k2 he => by
            have hep : e < p := by omega
            have hSe := (I.eff e he).2 hep
            obtain ⟨oe, hoe, _, hke⟩ := id he
            have hdep : depB ops j e = false := by
              cases hd : depB ops j e with
              | false => rfl
              | true => exact absurd (I.clos e hSe j hj hd) hnS
            exact mem_idsOf.2 ⟨j, own j e hx1 (by omega) (by have := I.hp; omega), (T.ok.free j e o oe ho hoe (by omega) hdep).2.2.2 hk1 (.inl hke)⟩)]
          rw [hH, AH.get_add, if_pos rfl]
          simp [VH.with]
        · unfold VH.with
          rw [if_neg hb]
          by_cases hown : ∃ i, T.ex 1 i ∧ b = (D i).st.h.next
          · obtain ⟨i, hi, rfl⟩ := hown
            have hij : i ≠ j := fun e => hb (by rw [e])
            by_cases hs : S i
            · rw [T.hS_own hi hs, T.hS_own hi (.inl hs)]
            · rw [T.hS_no hi hs, T.hS_no hi (fun h => h.elim hs hij)]
          · have hno : ∀ i, T.ex 1 i → b ≠ (D i).st.h.next := fun i hi e => hown ⟨i, hi, e⟩
            rw [T.hS_non hno, T.hS_non hno]
      obtain ⟨p1, p2, p3⟩ := I.put (ρ' := ρ.with (D j).st.h.next (w.heap.size, 0)) ho s2.le (v' := v') (fun t ht hlt => by rw [hval ht hlt htm]; exact h3 _ _ Ren.with_same)
      unfold Oper.wp
      rw [h2]
      have hnj : (D (j + 1)).st.h.next = (D j).st.h.next + 1 := by rw [hH, AH.next_add]
      refine hK p (ρ.with (D j).st.h.next (w.heap.size, 0)) _ _ ⟨I.hp, I.last, fun e he => ⟨fun h => (I.eff e he).1 (h.resolve_right (fun e' => by subst e'; exact hn2 he)), fun h => .inl ((I.eff e he).2 h)⟩,
        fun k hk i hi hd => ?_, p1, p2, p3, by rw [put_defers]; exact I.ds.mono s2.le, by rw [hg]; exact s1, by rw [hg]; exact I.ext.trans s2, fun k hk hn => ?_, fun b hb => ?_⟩
      · rcases hk with hk | rfl
        · exact .inl (I.clos k hk i hi hd)
        · exact .inl (hdeps i hi hd)
      · have hkj : k ≠ j := fun e => hn (.inr e)
        refine ⟨(I.fresh k hk (fun h => hn (.inl h))).1, fun c c1 => ?_⟩
        have hc : c ≠ (D j).st.h.next := fun e => T.apart hwf.1 hj hk hkj c1 (by rw [hH, e]; exact isNew_add.2 rfl)
        unfold Ren.with
        rw [if_neg hc]
        exact (I.fresh k hk (fun h => hn (.inl h))).2 c c1
      · have h4 := (T.hn (i := 0) (j := j) (by omega) (Nat.le_of_lt hj)).1
        have h5 := (T.hn (i := j + 1) (j := ops.size) (by omega) (Nat.le_refl _)).1
        unfold Ren.with
        rw [if_neg (fun e => hb (isNew_right h4 (isNew_left h5 (by rw [e, hH]; exact isNew_add.2 rfl))))]
        exact I.only b hb
    · -- an act
      have hk3 : (cOp P o.op).kind = 2 := by omega
      have hx2 : T.ex 2 j := by rw [← hk3]; exact hex
      have hn1 : ¬ T.ex 1 j := fun h => by have := T.kinds h hx2; omega
      obtain ⟨o', v, M', ho', _, hv, hH, htm⟩ := T.h_act hx2
      rw [ho] at ho'; cases ho'
      have hok : o.op.operands.toList.all okO = true := cOp_ok (P := P) (fun e => by rw [e] at hv; simp [act, evalC, evalE] at hv)
      have acts : ∀ (e : Nat), T.ex 2 e → e < j → S e := by
        intro e he hej
        obtain ⟨oe, hoe, _, hke⟩ := id he
        cases hd : depB ops e j with
        | true => exact hdeps e (T.ex_lt he) hd
        | false => exact absurd ⟨hke, hk3⟩ (T.ok.free e j oe o hoe ho hej hd).1
      have hpj : p ≤ j := by
        rcases Nat.lt_or_ge j p with h | h
        · exfalso
          obtain ⟨e, e1, e2, e3, e4⟩ := plast h
          by_cases hje : j = e
          · subst hje; exact hnS e3
          · obtain ⟨oe, hoe, _, hke⟩ := id e2
            cases hd : depB ops j e with
            | true => exact hnS (I.clos e e3 j hj hd)
            | false => exact (T.ok.free j e o oe ho hoe (by omega) hd).1 ⟨hk3, hke⟩
        · exact h
      have hne : ∀ e, p ≤ e → e < j → ¬ T.ex 2 e := fun e h1 h2 h3 => by have := (I.eff e h3).1 (acts e h3 h2); omega
      have hsub := I.seen hwf (q := j) hpj (Nat.le_of_lt hj) hne (hid := idsOf (D j).ids (maskOf dr.masks j)) (fun i hi hij hni =>
        vis i hi hij (.inr hk3) (fun h => hni (mem_idsOf.2 ⟨i, own i j hi hij (Nat.le_of_lt hj), h⟩)))
      have hnext : (D (j + 1)).st.h.next = M'.next := by rw [hH, show_next]
      refine act_wp hc (opnds_rel2 hok hlooks) (I.sim.weaken hsub) hv (⟨by rw [← hnext]; exact (I.fresh j hj hnS).1, fun b h1 => by
        rw [isNew_hide] at h1
        exact (I.fresh j hj hnS).2 b (by rw [hH, isNew_show]; exact h1)⟩) (fun ρ' v' w' A => ?_)
      have honly : ∀ b, ¬ isNew (D j).st.h (D (j + 1)).st.h b → ρ' b = ρ b := fun b hb => A.only b (fun k => hb (by rw [hH, isNew_show]; exact isNew_hide.1 k))
      -- what the heap is behind the act
      have F1 : ∀ b ob, T.hS (fun i => S i ∨ i = j) (j + 1) b = some ob → M'.get b = some ob ∨ ((hide (D j).st.h (idsOf (D j).ids (maskOf dr.masks j))).get b = none ∧ T.hS S p b = some ob) := by
        intro b ob hb
        by_cases hown : ∃ i, T.ex 1 i ∧ b = (D i).st.h.next
        · obtain ⟨i, hi, rfl⟩ := hown
          have hij : i ≠ j := fun e => by subst e; exact hn1 hi
          by_cases hs : S i
          · rw [T.hS_own hi (.inl hs)] at hb
            rcases Nat.lt_or_ge i j with hlt | hge
            · rw [show max (j + 1) (i + 1) = j + 1 by omega, hH, show_get] at hb
              split at hb
              · rename_i hin
                right
                refine ⟨by rw [hide_get, if_pos hin], ?_⟩
                rw [T.hS_own hi hs, ← T.still (b := (D i).st.h.next) (q := max p (i + 1)) (r := j) (by omega) (Nat.le_of_lt hj) (fun k k1 k2 hk e => by have := T.owner hi hk e; omega) (fun e k1 k2 he => absurd he (hne e (by omega) k2))]
                exact hb
              · exact .inl hb
            · rw [show max (j + 1) (i + 1) = i + 1 by omega] at hb
              right
              refine ⟨?_, by rw [T.hS_own hi hs, show max p (i + 1) = i + 1 by omega]; exact hb⟩
              have hil := T.ex_lt hi
              obtain ⟨_, _, _, _, _, _, _, he, _, _⟩ := T.h_add hi
              have k3 := (T.hn (i := i + 1) (j := ops.size) (by omega) (Nat.le_refl _)).1.1
              rw [he, AH.next_add] at k3
              rw [hide_get]
              split
              · rfl
              · exact ((T.hn (i := 0) (j := j) (by omega) (Nat.le_of_lt hj)).2 _ (T.hn (i := j) (j := ops.size) (Nat.le_of_lt hj) (Nat.le_refl _)).1 hwf).2 _ (.inl ⟨(T.hn (i := j) (j := i) hge (by omega)).1.1, by omega⟩)
          · rw [T.hS_no hi (fun h => h.elim hs hij)] at hb; cases hb
        · have hno : ∀ i, T.ex 1 i → b ≠ (D i).st.h.next := fun i hi e => hown ⟨i, hi, e⟩
          rw [T.hS_non hno, hH, show_get] at hb
          split at hb
          · rename_i hin
            obtain ⟨k, hk1, hk2⟩ := mem_idsOf.1 hin
            obtain ⟨_, hk3, hk4⟩ := (T.ids (Nat.le_of_lt hj) k b).1 hk1
            exact absurd hk4 (hno k hk3)
          · exact .inl hb
      have oldBlock : ∀ {b : Nat} {ob : VObj}, (hide (D j).st.h (idsOf (D j).ids (maskOf dr.masks j))).get b = none → T.hS S p b = some ob →
          ∃ r x o', ρ b = some (r, x) ∧ r < w.heap.size ∧ w'.heap[r]? = some o' ∧ RObj ρ x ob o' := by
        intro b ob hM hb
        obtain ⟨r, x, o', k1, k2, k3⟩ := I.sim.blk b ob hb
        have hlt := (Array.getElem?_eq_some_iff.1 k2).1
        refine ⟨r, x, o', k1, hlt, ?_, k3⟩
        rw [A.ext.frame r hlt (fun c oc y hc hρ => ?_)]
        · exact k2
        · have := I.sim.inj c b oc ob r y x (hsub c oc hc) hb hρ k1
          subst this
          rw [hM] at hc; cases hc
      have mixed : ∀ {c d : Nat} {oc od : VObj} {r y z : Nat}, M'.get c = some oc → (hide (D j).st.h (idsOf (D j).ids (maskOf dr.masks j))).get d = none → T.hS S p d = some od → ρ' c = some (r, y) → ρ' d = some (r, z) → False := by
        intro c d oc od r y z hc hM hd h1 h2
        obtain ⟨r2, x2, _, k1, k2, _, _⟩ := oldBlock hM hd
        have := A.ext.le _ _ k1
        rw [h2] at this; cases this
        obtain ⟨c0, oc0, y0, m1, m2⟩ := A.ext.new c oc r y hc h1 k2
        have := I.sim.inj c0 d oc0 od r y0 _ (hsub _ _ m1) hd m2 k1
        subst this
        rw [hM] at m1; cases m1
      have simN : Sim ρ' (T.hS (fun i => S i ∨ i = j) (j + 1)) w' := by
        refine ⟨A.sim.fix, fun b ob hb => ?_, fun c d oc od r y z hc hd h1 h2 => ?_⟩
        · rcases F1 b ob hb with hb | ⟨hM, hb⟩
          · exact A.sim.blk b ob hb
          · obtain ⟨r, x, o', k1, _, k3, k4⟩ := oldBlock hM hb
            exact ⟨r, x, o', A.ext.le _ _ k1, k3, k4.mono A.ext.le⟩
        · rcases F1 c oc hc with hc | ⟨hMc, hc⟩ <;> rcases F1 d od hd with hd | ⟨hMd, hd⟩
          · exact A.sim.inj c d oc od r y z hc hd h1 h2
          · exact (mixed hc hMd hd h1 h2).elim
          · exact (mixed hd hMc hc h2 h1).elim
          · obtain ⟨r1, x1, _, k1, _, _, _⟩ := oldBlock hMc hc
            obtain ⟨r2, x2, _, m1, _, _, _⟩ := oldBlock hMd hd
            have e1 := A.ext.le _ _ k1
            have e2 := A.ext.le _ _ m1
            rw [h1] at e1; cases e1
            rw [h2] at e2; cases e2
            exact I.sim.inj c d oc od r y z hc hd k1 m1
      have extN : Ext ρ (T.hS S p) w ρ' (T.hS (fun i => S i ∨ i = j) (j + 1)) w' := by
        refine ⟨A.ext.le, A.ext.os, A.ext.output, A.ext.size, fun r hr hn => A.ext.frame r hr (fun b ob x hb hρ => hn b ob x (hsub b ob hb) hρ), fun b ob r x hb hρ hr => ?_⟩
        rcases F1 b ob hb with hb | ⟨hM, hb⟩
        · obtain ⟨c, oc, y, k1, k2⟩ := A.ext.new b ob r x hb hρ hr
          exact ⟨c, oc, y, hsub c oc k1, k2⟩
        · obtain ⟨r2, x2, _, k1, _, _, _⟩ := oldBlock hM hb
          have := A.ext.le _ _ k1
          rw [hρ] at this; cases this
          exact ⟨b, ob, x, hb, k1⟩
      obtain ⟨p1, p2, p3⟩ := I.put (ρ' := ρ') ho A.ext.le (v' := v') (fun t ht hlt => by rw [hval ht hlt htm]; exact A.val)
      refine hK (j + 1) ρ' _ w' ⟨by omega, .inr ⟨j, rfl, hx2⟩, fun e he => ⟨fun h => ?_, fun h => ?_⟩, fun k hk i hi hd => ?_, p1, p2, p3, by rw [put_defers]; exact I.ds.mono A.ext.le, simN, I.ext.trans extN, fun k hk hn => ?_, fun b hb => ?_⟩
      · rcases h with h | h
        · have := (I.eff e he).1 h; omega
        · omega
      · by_cases hej : e = j
        · exact .inr hej
        · exact .inl (acts e he (by omega))
      · rcases hk with hk | rfl
        · exact .inl (I.clos k hk i hi hd)
        · exact .inl (hdeps i hi hd)
      · have hkj : k ≠ j := fun e => hn (.inr e)
        refine ⟨(I.fresh k hk (fun h => hn (.inl h))).1, fun c c1 => ?_⟩
        rw [honly c (fun k2 => T.apart hwf.1 hj hk hkj c1 k2)]
        exact (I.fresh k hk (fun h => hn (.inl h))).2 c c1
      · have h4 := (T.hn (i := 0) (j := j) (by omega) (Nat.le_of_lt hj)).1
        have h5 := (T.hn (i := j + 1) (j := ops.size) (by omega) (Nat.le_refl _)).1
        rw [honly b (fun k => hb (isNew_right h4 (isNew_left h5 k)))]
        exact I.only b hb

end
end Go.Am
