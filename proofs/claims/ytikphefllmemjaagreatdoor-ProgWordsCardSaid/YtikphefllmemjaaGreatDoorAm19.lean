import Derived.Test.YtikphefllmemjaaGreatDoorAm18
/-
The engine, part 19: regions that draw, whole; functions.
-/
namespace Go.Am
open Go
set_option linter.unusedVariables false
set_option linter.unusedSimpArgs false

section
variable {P : Program} {call : CallF} {ops : Array Oper} {dr : IDraw} {D : Nat → DSt}

/-- all has been carried out -/
theorem Inv.done {T : Trc P call ops dr D} (hwf : WF (D ops.size).st.h (D 0).st.h) {ρ0 ρ : Ren} {w0 w : World} {S : Nat → Prop} {p : Nat} {a : Act} (I : Inv T ρ0 w0 S p ρ a w)
    (hall : ∀ i, i < ops.size → S i) : Rel ρ (D ops.size).st a w ∧ Goes ρ0 (D 0).st.h w0 ρ (D ops.size).st.h w := by
  have hsub : ∀ b o, (D ops.size).st.h.get b = some o → T.hS S p b = some o := by
    have := I.seen hwf (q := ops.size) I.hp (Nat.le_refl _) (fun e h1 h2 h3 => by have := (I.eff e h3).1 (hall e h2); omega) (hid := []) (fun i hi hiq _ => hall i hiq)
    exact this
  refine ⟨⟨I.sim.weaken hsub, ⟨by rw [I.len, T.tm_len (Nat.le_refl _)], fun t v v' h1 h2 => ?_⟩, by rw [T.ds_same (Nat.le_refl _)]; exact I.ds⟩, ⟨⟨I.ext.le, I.ext.os, I.ext.output, I.ext.size, I.ext.frame, fun b o r x h1 h2 h3 => I.ext.new b o r x (hsub b o h1) h2 h3⟩, I.only⟩⟩
  have e1 : (D ops.size).st.tmps.getD t undef = v := by rw [List.getD_eq_getElem?_getD, h1]; rfl
  have e2 : a.tmps.toList.getD t undef = v' := by rw [List.getD_eq_getElem?_getD, h2]; rfl
  rw [← e1, ← e2]
  by_cases hw : ∃ (i : Nat) (oi : Oper), ops[i]? = some oi ∧ oi.dst = some t
  · obtain ⟨i, oi, hoi, hd⟩ := hw
    exact I.tm1 i oi t hoi (hall i (Array.getElem?_eq_some_iff.1 hoi).1) hd
  · have hno : ∀ (k : Nat) (ok : Oper), ops[k]? = some ok → ok.dst ≠ some t := fun k ok hk hkd => hw ⟨k, ok, hk, hkd⟩
    rw [T.tm_same (q := 0) (r := ops.size) (by omega) (Nat.le_refl _) (fun k ok _ _ hk => hno k ok hk)]
    exact I.tm0 t (fun k ok hk _ => hno k ok hk)

theorem draw_any {T : Trc P call ops dr D} (hc : CallSound P call) (htw : twiceOk P dr (ops.toList.map (cOper P ops)) (D ops.size) = true) (hwf : WF (D ops.size).st.h (D 0).st.h)
    {ρ0 : Ren} {w0 : World} {Q : Exit → Act → World → Prop} (hQ : ∀ ρ' a' w', Rel ρ' (D ops.size).st a' w' → Goes ρ0 (D 0).st.h w0 ρ' (D ops.size).st.h w' → Q .normal a' w') :
    ∀ (fuel : Nat) (L : List Nat) (listed : Array Bool) (p : Nat) (ρ : Ren) (a : Act) (w : World), listed.size = ops.size → (∀ i, i < ops.size → listed.getD i false = true ∨ i ∈ L) → L.length ≤ fuel →
      Inv T ρ0 w0 (fun i => listed.getD i false = true) p ρ a w → wpAny P .any ops Q fuel listed a w := by
  have fin : ∀ (listed : Array Bool) (p : Nat) (ρ : Ren) (a : Act) (w : World), listed.size = ops.size → Inv T ρ0 w0 (fun i => listed.getD i false = true) p ρ a w → (∀ i, i < ops.size → listed.getD i false = true) → Q .normal a w :=
    fun listed p ρ a w _ I hall => by obtain ⟨h1, h2⟩ := I.done hwf hall; exact hQ ρ a w h1 h2
  have getD_tf : ∀ (listed : Array Bool) (i : Nat), listed.size = ops.size → i < ops.size → listed.getD i true = listed.getD i false := by
    intro listed i h1 h2
    have : i < listed.size := by omega
    simp [this]
  have readyAll : ∀ (listed : Array Bool), listed.size = ops.size → Region.ready .any ops listed = [] → ∀ i, i < ops.size → listed.getD i false = true := by
    intro listed hsz hr i
    induction i using Nat.strongRecOn with
    | _ i ih =>
      intro hi
      cases hl : listed.getD i false with
      | true => rfl
      | false =>
        exfalso
        obtain ⟨o, ho⟩ := T.get hi
        have : i ∈ Region.ready .any ops listed := mem_ready.2 ⟨by rw [getD_tf listed i hsz hi]; exact hl, o, ho, fun e he hb => by
          have h1 := T.ok.edge i o ho e he hb
          exact ih e.on h1.1 (by omega)⟩
        rw [hr] at this
        cases this
  intro fuel
  induction fuel with
  | zero =>
    intro L listed p ρ a w hsz hL hlen I
    have hall : ∀ i, i < ops.size → listed.getD i false = true := fun i hi => (hL i hi).resolve_right (by
      have : L = [] := List.eq_nil_of_length_eq_zero (by omega)
      rw [this]; simp)
    refine ⟨?_, fin listed p ρ a w hsz I hall⟩
    apply List.eq_nil_iff_forall_not_mem.2
    intro i hi
    obtain ⟨h1, o, ho, _⟩ := mem_ready.1 hi
    have hlt := (Array.getElem?_eq_some_iff.1 ho).1
    rw [getD_tf listed i hsz hlt, hall i hlt] at h1
    cases h1
  | succ fuel ih =>
    intro L listed p ρ a w hsz hL hlen I
    refine ⟨fun hr => fin listed p ρ a w hsz I (readyAll listed hsz hr), fun j hj => ?_⟩
    obtain ⟨h1, o, ho, hall⟩ := mem_ready.1 hj
    have hjl := (Array.getElem?_eq_some_iff.1 ho).1
    have hnS : ¬ (listed.getD j false = true) := by rw [← getD_tf listed j hsz hjl, h1]; simp
    have hdeps : ∀ i, i < ops.size → depB ops i j = true → listed.getD i false = true := by
      intro i hi hd
      obtain ⟨_, e, he, hb, hc⟩ := T.ok.just j o ho i hi hd
      have hon := hall e he hb
      rcases hc with rfl | hc
      · exact hon
      · exact I.clos e.on hon i hi hc
    refine I.stepOp hc htw hwf ho hnS hdeps (fun p' ρ' a' w' I' => ?_)
    have hS : (fun i => listed.getD i false = true ∨ i = j) = (fun i => (listed.setIfInBounds j true).getD i false = true) := by
      funext i
      apply propext
      by_cases hij : j = i
      · subst hij
        have : j < listed.size := by omega
        simp [this]
      · rw [getD_set_ne false hij]
        constructor
        · rintro (h | h)
          · exact h
          · exact absurd h.symm hij
        · exact .inl
    rw [hS] at I'
    have hjL : j ∈ L := (hL j hjl).resolve_left hnS
    refine ih (L.erase j) (listed.setIfInBounds j true) p' ρ' a' w' (by simpa using hsz) (fun i hi => ?_) (by rw [List.length_erase_of_mem hjL]; omega) I'
    by_cases hij : j = i
    · subst hij
      left
      have : j < listed.size := by omega
      simp [this]
    · rw [getD_set_ne false hij]
      rcases hL i hi with h | h
      · exact .inl h
      · exact .inr ((List.mem_erase_of_ne (fun e => hij e.symm)).2 h)

theorem drawSound (hc : CallSound P call) (hm : CallMono call) (hmix : P.follows .mixedOrders = true) : DrawSound P call := by
  intro ops dr id ρ w st st' a Q hok hrun hR hf hQ
  unfold runRegion at hrun
  simp only at hrun
  split at hrun
  case h_2 => cases hrun
  rename_i dF hdF
  split at hrun
  case isFalse => cases hrun
  rename_i htw
  cases hrun
  obtain ⟨D, e0, e1, e2⟩ := runD_trace _ 0 _ _ hdF
  have hlen : (ops.toList.map (cOper P ops)).length = ops.size := by simp
  rw [hlen] at e1
  have T : Trc P call ops dr D := ⟨okDraw_ok hok, hm, fun i o ho => by
    have := e2 i (cOper P ops o) (by rw [List.getElem?_map]; simp [ho])
    simpa using this, by rw [e0], by rw [e0]⟩
  subst e1
  have h0 : (D 0).st = st := by rw [e0]
  have hwf : WF (D ops.size).st.h (D 0).st.h := by
    refine ⟨hf.1, fun b h1 => ?_⟩
    rw [h0] at h1 ⊢
    cases hb : st.h.get b with
    | none => rfl
    | some o =>
      obtain ⟨r, x, _, h3, _⟩ := hR.sim.blk b o hb
      rw [hf.2 b h1] at h3; cases h3
  refine wp_region_any hmix ?_
  refine draw_any (T := T) (ρ0 := ρ) (w0 := w) hc htw hwf (fun ρ' a' w' k1 k2 => hQ ρ' a' w' k1 (by rw [h0] at k2; exact k2)) ops.size (List.range ops.size) (Array.replicate ops.size false) 0 ρ a { w with drawn := w.drawn + 1 }
    (by simp) (fun i hi => .inr (List.mem_range.2 hi)) (by simp) ?_
  have hno : ∀ i, ¬ ((Array.replicate ops.size false).getD i false = true) := fun i => by
    rcases Nat.lt_or_ge i ops.size with h | h <;> simp [h]
  have hsub : ∀ b o, T.hS (fun i => (Array.replicate ops.size false).getD i false = true) 0 b = some o → st.h.get b = some o := by
    intro b o hb
    by_cases hown : ∃ i, T.ex 1 i ∧ b = (D i).st.h.next
    · obtain ⟨i, hi, rfl⟩ := hown
      rw [T.hS_no hi (hno i)] at hb; cases hb
    · rw [T.hS_non (fun i hi e => hown ⟨i, hi, e⟩), h0] at hb
      exact hb
  refine ⟨Nat.zero_le _, .inl rfl, fun e he => ⟨fun h => absurd h (hno e), fun h => by omega⟩, fun j hj => absurd hj (hno j), by rw [h0]; exact hR.tm.1.symm, fun i o t _ hs => absurd hs (hno i), fun t _ => by rw [h0]; exact hR.tm.getD t, by rw [h0]; exact hR.ds,
    (hR.sim.weaken hsub).drew, ?_, fun j hj _ => ?_, fun b hb => rfl⟩
  · rw [h0]
    exact ⟨Ren.le_refl _, rfl, rfl, Nat.le_refl _, fun _ _ _ => rfl, fun b o r x h1 h2 _ => ⟨b, o, x, hsub b o h1, h2⟩⟩
  · have h4 := (T.hn (i := 0) (j := j) (by omega) (Nat.le_of_lt hj)).1
    have h5 := (T.hn (i := j + 1) (j := ops.size) (by omega) (Nat.le_refl _)).1
    rw [h0] at h4
    exact ⟨Nat.le_trans h5.1 hf.1, fun c c1 => hf.2 c (isNew_right h4 (isNew_left h5 c1))⟩
end
end Go.Am
