import Derived.Test.YtikphefllmemjaaGreatAm28
/-
The engine, part 29: code from state to state, up to the names of blocks: its rules.
-/
namespace Go.Am
open Go
set_option linter.unusedVariables false
set_option linter.unusedSimpArgs false

/-- from 'st' the code comes to an exit and a state that B allows; K: blocks below are named as before -/
def SX (P : Program) (K : Nat) (c : ICode) (st : St) (B : IEx → St → Prop) : Prop :=
  ∀ c' : Code, cCode P c' = c → ∀ (ρ : Ren) (w : World) (a : Act), Rel ρ st a w → Clear ρ st.h.next → ∀ Q : Exit → Act → World → Prop,
    (∀ e st' ρ' a' w', B e st' → Rel ρ' st' a' w' → Clear ρ' st'.h.next → Hist K ρ st.h.get w ρ' st'.h.get w' → Q (exOf e) a' w') → c'.wp P Q a w

section
variable {P : Program} {T : Tbl} {K : Nat}

theorem SX.mono {c : ICode} {st : St} {B B' : IEx → St → Prop} (h : SX P K c st B) (hb : ∀ e st', B e st' → B' e st') : SX P K c st B' :=
  fun c' hc ρ w a hR hC Q hQ => h c' hc ρ w a hR hC Q fun e st' ρ' a' w' hB => hQ e st' ρ' a' w' (hb _ _ hB)

theorem lim_sound (hT : TblOk P T) (hmix : P.follows .mixedOrders = true) : CallSound P (lim P T) := by
  intro f args h v h' k
  obtain ⟨n, hn⟩ := lim_ev _ _ _ _ k
  exact runFn_sound hT hmix n f args h v h' hn
theorem lim_mono (hT : TblOk P T) : CallMono (lim P T) := by
  intro f args h v h' k
  obtain ⟨n, hn⟩ := lim_ev _ _ _ _ k
  exact runFn_mono hT n f args h v h' hn

theorem SX.ofEx (hT : TblOk P T) (hmix : P.follows .mixedOrders = true) {c : ICode} {st st' : St} {e : IEx} {B : IEx → St → Prop} (hx : Ex P T c st (e, st')) (hK : K ≤ st.h.next) (hn : st'.h.next ≤ OFF) (hB : B e st') : SX P K c st B := by
  intro c' hc ρ w a hR hC Q hQ
  obtain ⟨n, hx⟩ := hx
  rw [← hc] at hx
  have hm := lim_mono hT
  have hcs := lim_sound hT hmix
  have n1 := (exec_next hm n hx).1
  refine (exec_sound hcs hm (drawSound hcs hm hmix) n).code c' ρ w st st' e a Q hx hR (fun b h1 h2 => hC b h1 (by omega)) (fun ρ' a' w' hR' hG => ?_)
  exact hQ e st' ρ' a' w' hB hR' (fun b h1 h2 => by rw [hG.only b (.inr h1)]; exact hC b (by omega) h2) (Hist.of_goes hG hK)

theorem cCode_seq {c : Code} {x y : ICode} (h : cCode P c = .seq x y) : ∃ a b, c = .seq a b ∧ cCode P a = x ∧ cCode P b = y := by
  cases c <;> simp only [cCode, cRegion] at h <;> first | (cases h; exact ⟨_, _, rfl, rfl, rfl⟩) | (exfalso; revert h; (repeat' split) <;> intro h <;> cases h)
theorem cCode_cond {c : Code} {o : Operand} {x y : ICode} (h : cCode P c = .cond o x y) : ∃ a b, c = .cond o a b ∧ cCode P a = x ∧ cCode P b = y ∧ okO o = true := by
  cases c <;> simp only [cCode, cRegion] at h
  case cond => split at h
               · cases h; exact ⟨_, _, rfl, rfl, rfl, by assumption⟩
               · cases h
  all_goals (exfalso; revert h; (repeat' split) <;> intro h <;> cases h)
theorem cCode_block {c : Code} {id : Nat} {x : ICode} (h : cCode P c = .block id x) : ∃ a, c = .block id a ∧ cCode P a = x := by
  cases c <;> simp only [cCode, cRegion] at h <;> first | (cases h; exact ⟨_, rfl, rfl⟩) | (exfalso; revert h; (repeat' split) <;> intro h <;> cases h)
theorem cCode_loop {c : Code} {x : ICode} (h : cCode P c = .loop x) : ∃ a, c = .loop a ∧ cCode P a = x := by
  cases c <;> simp only [cCode, cRegion] at h <;> first | (cases h; exact ⟨_, rfl, rfl⟩) | (exfalso; revert h; (repeat' split) <;> intro h <;> cases h)

theorem SX.seq {x y : ICode} {st : St} {B1 B : IEx → St → Prop} (h : SX P K x st B1) (k : ∀ st1, B1 .normal st1 → SX P K y st1 B) (hx : ∀ e st1, e ≠ .normal → B1 e st1 → B e st1) : SX P K (.seq x y) st B := by
  intro c' hc ρ w a hR hC Q hQ
  obtain ⟨c1, c2, rfl, h1, h2⟩ := cCode_seq hc
  refine wp_seq ?_
  refine h c1 h1 ρ w a hR hC _ (fun e st' ρ' a' w' hB hR' hC' hH => ?_)
  cases e with
  | normal => exact k st' hB c2 h2 ρ' w' a' hR' hC' Q (fun e2 st2 ρ2 a2 w2 hB2 hR2 hC2 hH2 => hQ e2 st2 ρ2 a2 w2 hB2 hR2 hC2 (hH.trans hH2))
  | exit i => exact hQ _ st' ρ' a' w' (hx (.exit i) _ (by simp) hB) hR' hC' hH
  | goto l => exact hQ _ st' ρ' a' w' (hx (.goto l) _ (by simp) hB) hR' hC' hH
  | ret => exact hQ _ st' ρ' a' w' (hx .ret _ (by simp) hB) hR' hC' hH

theorem SX.cond {o : Operand} {x y : ICode} {st : St} {B : IEx → St → Prop} (t : Bool) (ht : evT st.tmps o = .bool t) (h : SX P K (if t then x else y) st B) : SX P K (.cond o x y) st B := by
  intro c' hc ρ w a hR hC Q hQ
  obtain ⟨c1, c2, rfl, h1, h2, h3⟩ := cCode_cond hc
  refine wp_cond (cond_rel hR.tm h3 ht) ?_
  cases t
  · exact h c2 h2 ρ w a hR hC Q hQ
  · exact h c1 h1 ρ w a hR hC Q hQ

theorem SX.block {id : Nat} {x : ICode} {st : St} {B1 B : IEx → St → Prop} (h : SX P K x st B1) (hx : ∀ e st1, B1 e st1 → B (blockX id e) st1) : SX P K (.block id x) st B := by
  intro c' hc ρ w a hR hC Q hQ
  obtain ⟨c1, rfl, h1⟩ := cCode_block hc
  refine wp_block ?_
  refine h c1 h1 ρ w a hR hC _ (fun e st' ρ' a' w' hB hR' hC' hH => ?_)
  have := hQ _ st' ρ' a' w' (hx e st' hB) hR' hC' hH
  cases e with
  | exit i =>
    simp only [exOf, Exit.inBlock]
    simp only [blockX] at this
    split
    · rename_i hi; rw [if_pos hi] at this; exact this
    · rename_i hi; rw [if_neg hi] at this; exact this
  | normal => exact this
  | goto l => exact this
  | ret => exact this

theorem SX.loop {x : ICode} {B : IEx → St → Prop} (Inv : Nat → St → Prop) (hi : ∀ n st, Inv n st → SX P K x st (fun e st' => (e = .normal ∧ ∃ m, m < n ∧ Inv m st') ∨ (e ≠ .normal ∧ B e st'))) {n : Nat} {st : St} (h : Inv n st) : SX P K (.loop x) st B := by
  intro c' hc ρ w a hR hC Q hQ
  obtain ⟨c1, rfl, h1⟩ := cCode_loop hc
  refine wp_loop_rounds (n + 1) ?_
  have key : ∀ (N n : Nat), n ≤ N → ∀ (st : St) (ρ : Ren) (w : World) (a : Act), Inv n st → Rel ρ st a w → Clear ρ st.h.next →
      (∀ e st' ρ' a' w', B e st' → Rel ρ' st' a' w' → Clear ρ' st'.h.next → Hist K ρ st.h.get w ρ' st'.h.get w' → Q (exOf e) a' w') → Code.rounds P c1 Q (N + 1) a w := by
    intro N
    induction N with
    | zero =>
      intro n hn st ρ w a hI hR hC hQ
      rw [rounds_succ]
      refine hi n st hI c1 h1 ρ w a hR hC _ (fun e st' ρ' a' w' hB hR' hC' hH => ?_)
      rcases hB with ⟨rfl, m, hm, _⟩ | ⟨hne, hB⟩
      · omega
      · have := hQ e st' ρ' a' w' hB hR' hC' hH
        cases e with
        | normal => exact absurd rfl hne
        | exit i => exact this
        | goto i => exact this
        | ret => exact this
    | succ N ih =>
      intro n hn st ρ w a hI hR hC hQ
      rw [rounds_succ]
      refine hi n st hI c1 h1 ρ w a hR hC _ (fun e st' ρ' a' w' hB hR' hC' hH => ?_)
      rcases hB with ⟨rfl, m, hm, hI'⟩ | ⟨hne, hB⟩
      · exact ih m (by omega) st' ρ' w' a' hI' hR' hC' (fun e2 st2 ρ2 a2 w2 hB2 hR2 hC2 hH2 => hQ e2 st2 ρ2 a2 w2 hB2 hR2 hC2 (hH.trans hH2))
      · have := hQ e st' ρ' a' w' hB hR' hC' hH
        cases e with
        | normal => exact absurd rfl hne
        | exit i => exact this
        | goto i => exact this
        | ret => exact this
  exact key n n (Nat.le_refl _) st ρ w a h hR hC hQ

/-- under other names -/
theorem SX.renamed {c : ICode} {st : St} {B : IEx → St → Prop} {next : Nat} {σ : List (Nat × Nat)} (h : okσ K next σ = true) {pat : List (Option Value)} {l : List (Nat × VObj)}
    (hl : okHp (inDom K σ) l = true) (hm : l.map (fun p => st.h.get (ren K σ p.1)) = l.map (fun p => some (renO (ren K σ) p.2)))
    (hp : (liveT pat).all (domV (inDom K σ) 8) = true) (hs : selT pat st.tmps = (liveT pat).map (renV (ren K σ) 8)) (hn : st.tmps.length = pat.length) (hd : st.ds = [])
    (k : ∀ j, SX P K c ⟨fillT pat j 0, mkH next l, []⟩ B) : SX P K c st B := by
  intro c' hc ρ w a hR hC Q hQ
  obtain ⟨j, h1, h2⟩ := hR.renamed h hl hm hp hs hn hd
  exact k j c' hc _ w a h1 (ren2_clear h) Q (fun e st' ρ' a' w' hB hR' hC' hH => hQ e st' ρ' a' w' hB hR' hC' (h2.trans hH))

/-- code, then other names -/
theorem SX.andThen {c : ICode} {st : St} {B1 B : IEx → St → Prop} (h : SX P K c st B1)
    (k : ∀ e st1, B1 e st1 → ∀ (ρ : Ren) (w : World) (a : Act), Rel ρ st1 a w → Clear ρ st1.h.next → ∃ ρ' st2, B e st2 ∧ Rel ρ' st2 a w ∧ Clear ρ' st2.h.next ∧ Hist K ρ st1.h.get w ρ' st2.h.get w) : SX P K c st B := by
  intro c' hc ρ w a hR hC Q hQ
  refine h c' hc ρ w a hR hC Q (fun e st' ρ' a' w' hB hR' hC' hH => ?_)
  obtain ⟨ρ2, st2, k1, k2, k3, k4⟩ := k e st' hB ρ' w' a' hR' hC'
  exact hQ e st2 ρ2 a' w' k1 k2 k3 (hH.trans k4)

/-- so many numbers -/
def ci (c : Nat → Int) (n : Nat) : List Value := (List.range n).map fun k => .int .i64 (c k)
def gl (l : List Int) (k : Nat) : Int := l.getD k 0
/-- a row of so many, some of them known -/
def patOf (n : Nat) (l : List (Nat × Value)) : List (Option Value) := (List.range n).map fun i => (l.find? fun p => p.1 == i).map (·.2)

/-- what a run over open values leaves, as far as it is asked -/
def runChk (P : Program) (T : Tbl) (n : Nat) (c : ICode) (st : St) (hs : List (Nat × Hint)) (pat : List (Option Value)) (l : List (Nat × VObj)) (K : Nat) (σ : List (Nat × Nat)) :
    Option (IEx × List Prop × List Value × List (Option VObj) × Bool) :=
  match execH P T (runFnH P T n) n c st ⟨hs, []⟩ with
  | some (e, st', s) => match s.hs with
    | [] => some (e, s.cs, selT pat st'.tmps, l.map (fun p => st'.h.get (ren K σ p.1)), decide (st'.tmps.length = pat.length) && decide (st'.h.next ≤ OFF) && st'.ds.isEmpty)
    | _ => none
  | none => none

/-- a run over open values, brought to other names -/
theorem SX.run (hT : TblOk P T) (hmix : P.follows .mixedOrders = true) {n : Nat} {c : ICode} {st : St} {hs : List (Nat × Hint)} {e : IEx} {cs : List Prop} {next : Nat} {σ : List (Nat × Nat)} {pat : List (Option Value)} {l : List (Nat × VObj)}
    (k : runChk P T n c st hs pat l K σ = some (e, cs, (liveT pat).map (renV (ren K σ) 8), l.map (fun p => some (renO (ren K σ) p.2)), true)) (hcs : AllP cs) (hK : K ≤ st.h.next)
    (ok : (okσ K next σ && okHp (inDom K σ) l && (liveT pat).all (domV (inDom K σ) 8)) = true) : SX P K c st (fun e' st' => e' = e ∧ ∃ j, st' = ⟨fillT pat j 0, mkH next l, []⟩) := by
  unfold runChk at k
  split at k
  case h_2 => cases k
  rename_i e1 st1 s1 hx
  split at k
  case h_2 => cases k
  rename_i hsn
  simp only [Option.some.injEq, Prod.mk.injEq, Bool.and_eq_true, decide_eq_true_eq, List.isEmpty_iff] at k
  obtain ⟨rfl, rfl, h1, h2, ⟨h3, h4⟩, h5⟩ := k
  simp only [Bool.and_eq_true] at ok
  have hEx : Ex P T c st (e1, st1) := ⟨n, (execH_ok (runFnH_ok n) n hx hcs).2⟩
  refine SX.andThen (SX.ofEx hT hmix hEx hK h4 (B := fun e st => e = e1 ∧ st = st1) ⟨rfl, rfl⟩) ?_
  rintro e st2 ⟨rfl, rfl⟩ ρ w a hR hC
  obtain ⟨j, k1, k2⟩ := hR.renamed ok.1.1 ok.1.2 h2 ok.2 h1 h3 h5
  exact ⟨_, _, ⟨rfl, j, rfl⟩, k1, ren2_clear ok.1.1, k2⟩

/-! ### contracts -/
/-- the call of f with these arguments in this heap comes out so -/
def Con (P : Program) (f : FuncId) (args : List Value) (h : AH) (v : Value) (h' : AH) : Prop :=
  ∀ (ρ : Ren) (w : World) (args' : List Value), Rvs ρ args args' → Sim ρ h.get w → Fresh ρ h.next h'.next → CallOk P f args' w fun v' w' => ∃ ρ', Acted ρ h w v h' v' w' ρ'

theorem Con.ofEv (hT : TblOk P T) (hmix : P.follows .mixedOrders = true) {f : FuncId} {args : List Value} {h h' : AH} {v : Value} (e : Ev P T f args h (v, h')) : Con P f args h v h' := by
  obtain ⟨n, hn⟩ := e
  exact runFn_sound hT hmix n f args h v h' hn

theorem all_agree {ρ ρ2 : Ren} {d : Nat → Bool} (hρ : ∀ b, d b = true → ρ2 b = ρ b) {l l' : List Value} (h : l.all (domV d 8) = true) (k : Rvs ρ l l') : Rvs ρ2 l l' :=
  ⟨k.1, fun i u u' h1 h2 => agree_ok hρ 8 u u' (List.all_eq_true.1 h u (List.mem_of_getElem? h1)) (k.2 i u u' h1 h2)⟩

/-- a function's contract from its body -/
theorem Con.ofSX (hT : TblOk P T) {f : FuncId} {fn : IFn} (hfn : T.fn f = some fn) {args : List Value} {n n' : Nat} {l l' : List (Nat × VObj)} {v : Value}
    (ha : args.all (domV (fun b => decide (b < n)) 8) = true) (hl : okHp (fun b => decide (b < n)) l = true) (hl' : okHp (fun b => decide (b < n')) l' = true) (hv : domV (fun b => decide (b < n')) 8 v = true)
    (hN : fixN ≤ n) (hnn : n ≤ n')
    (hx : SX P n fn.body ⟨startT args fn.ntmps, mkH n l, []⟩ (fun e st' => (e = .normal ∨ e = .ret) ∧ st'.ds = [] ∧ (resVs st'.h st'.tmps fn.results).map packV = some v ∧ st'.h = mkH n' l')) : Con P f args (mkH n l) v (mkH n' l') := by
  intro ρ w args' hargs hS hf
  have hf' : ∀ b, n ≤ b → b < n' → ρ b = none := hf
  let ρs : Ren := fun b => if b < n then ρ b else none
  have hag : ∀ b, decide (b < n) = true → ρs b = ρ b := fun b hb => by have : b < n := of_decide_eq_true hb; simp [ρs, this]
  have hkey : ∀ {m : Nat} {q : List (Nat × VObj)}, okHp (fun b => decide (b < m)) q = true → ∀ {b o}, (mkH m q).get b = some o → b < m ∧ domO (fun b => decide (b < m)) o = true := by
    intro m q hq b o hb
    have := List.all_eq_true.1 hq _ (mkH_get hb)
    simp only [Bool.and_eq_true, decide_eq_true_eq] at this
    exact this
  have hA : Rvs ρs args args' := all_agree hag ha hargs
  have hSs : Sim ρs (mkH n l).get w := by
    refine ⟨fun b hb => ?_, fun b o hb => ?_, fun b c o1 o2 r x y hb hc e1 e2 => ?_⟩
    · rw [hag b (decide_eq_true (by omega))]; exact hS.fix b hb
    · obtain ⟨r, x, o', m1, m2, m3⟩ := hS.blk b o hb
      have := hkey hl hb
      exact ⟨r, x, o', by rw [hag b (decide_eq_true this.1)]; exact m1, m2, agreeO_ok hag this.2 m3⟩
    · rw [hag b (decide_eq_true (hkey hl hb).1)] at e1
      rw [hag c (decide_eq_true (hkey hl hc).1)] at e2
      exact hS.inj b c o1 o2 r x y hb hc e1 e2
  obtain ⟨pf, hpf, hcf⟩ := hT.fn f fn hfn
  obtain ⟨c, rs, hb, hrs, hnm, rfl⟩ := cFn_parts hcf
  left
  refine ⟨callFunc_run hpf hb hnm _ w, ?_⟩
  refine calls_of_wp_defers hpf hb ?_
  refine hx c rfl ρs w _ ⟨hSs, start_rel (args' := ⟨args'⟩) hA pf.ntmps, .nil⟩ (fun b h1 h2 => by
    have : ¬ b < n := Nat.not_lt.2 h1
    simp [ρs, this]) _ (fun e st ρ1 a1 w1 hB hR1 hC1 hH => ?_)
  obtain ⟨he, hds, hres, hh⟩ := hB
  have hd0 : a1.defers = [] := by have := hR1.ds; rw [hds] at this; exact RDs.nil_inv this
  have hvs : ∃ vs, resVs st.h st.tmps rs = some vs ∧ packV vs = v := by
    simp only [Option.map_eq_some_iff] at hres
    exact hres
  obtain ⟨vs, hvs, hpk⟩ := hvs
  obtain ⟨v', m1, m2⟩ := results_run (pf := pf) hR1.sim hR1.tm hrs hvs
  rw [hpk] at m2
  have hS1 : Sim ρ1 (mkH n' l').get w1 := by have := hR1.sim; rw [hh] at this; exact this
  have hH1 : Hist n ρs (mkH n l).get w ρ1 (mkH n' l').get w1 := by rw [hh] at hH; exact hH
  let ρf : Ren := fun b => if b < n ∨ n' ≤ b then ρ b else ρ1 b
  have hag2 : ∀ b, decide (b < n') = true → ρf b = ρ1 b := fun b hb => by
    have hb : b < n' := of_decide_eq_true hb
    by_cases h1 : b < n
    · have e1 := hH1.anch b h1
      rw [hag b (decide_eq_true h1)] at e1
      simp [ρf, h1, e1]
    · have h2 : ¬ n' ≤ b := by omega
      simp [ρf, h1, h2]
  have hact : Acted ρ (mkH n l) w v (mkH n' l') v' w1 ρf := by
    refine ⟨agree_ok hag2 8 v v' hv m2, ⟨fun b hb => ?_, fun b o hb => ?_, fun b c o1 o2 r x y hb hc e1 e2 => ?_⟩, ⟨fun b p hb => ?_, hH1.os, hH1.output, hH1.size, fun r hr hno => ?_, fun b o r x hb e1 hr => ?_⟩, hnn, fun b hb => ?_⟩
    · rw [hag2 b (decide_eq_true (by omega))]; exact hS1.fix b hb
    · obtain ⟨r, x, o', k1, k2, k3⟩ := hS1.blk b o hb
      have := hkey hl' hb
      exact ⟨r, x, o', by rw [hag2 b (decide_eq_true this.1)]; exact k1, k2, agreeO_ok hag2 this.2 k3⟩
    · rw [hag2 b (decide_eq_true (hkey hl' hb).1)] at e1
      rw [hag2 c (decide_eq_true (hkey hl' hc).1)] at e2
      exact hS1.inj b c o1 o2 r x y hb hc e1 e2
    · by_cases h1 : b < n ∨ n' ≤ b
      · simp [ρf, h1, hb]
      · rw [hf' b (by omega) (by omega)] at hb; cases hb
    · refine hH1.frame r hr (fun b o x hb e1 => ?_)
      rw [hag b (decide_eq_true (hkey hl hb).1)] at e1
      exact hno b o x hb e1
    · rw [hag2 b (decide_eq_true (hkey hl' hb).1)] at e1
      obtain ⟨c, o', y, k1, k2⟩ := hH1.new b o r x hb e1 hr
      rw [hag c (decide_eq_true (hkey hl k1).1)] at k2
      exact ⟨c, o', y, k1, k2⟩
    · have : b < n ∨ n' ≤ b := hb
      simp [ρf, this]
  have hL : Leaves P pf a1.tmps (fun e w' => ∃ v', e = .returned v' ∧ ∃ ρ', Acted ρ (mkH n l) w v (mkH n' l') v' w' ρ') a1.defers .returning w1 := by
    rw [hd0]
    exact ⟨v', m1, v', rfl, ρf, hact⟩
  rcases he with rfl | rfl
  · exact hL
  · exact hL

open Classical in
/-- a table with one call answered by its contract -/
noncomputable def Tbl.with1 (P : Program) (T : Tbl) (f : FuncId) (args : List Value) (h : AH) (r : Value × AH) : Tbl where
  fn := fun g => if g = f then none else T.fn g
  df := T.df
  prim := fun g a h0 => if g = f ∧ a = args ∧ h0 = h then some r else if g = f then lim P T g a h0 else T.prim g a h0

theorem with1_at {f : FuncId} {args : List Value} {h : AH} {r : Value × AH} : lim P (T.with1 P f args h r) f args h = some r := by
  refine lim_of ⟨1, ?_⟩
  simp [runFn, Tbl.with1]

theorem with1_other {f : FuncId} {args a : List Value} {h h0 : AH} {r x : Value × AH} (hne : ¬ (a = args ∧ h0 = h)) (k : lim P T f a h0 = some x) : lim P (T.with1 P f args h r) f a h0 = some x := by
  refine lim_of ⟨1, ?_⟩
  simp only [runFn, Tbl.with1, if_true]
  rw [if_neg (fun e => hne e.2)]
  exact k

def hnOk (h h' : AH) : Prop := h.next ≤ h'.next ∧ ∀ M, WF M h → WF M h'
theorem mkH_hn {n n' : Nat} {l l' : List (Nat × VObj)} (hl' : okHp (fun b => decide (b < n')) l' = true) (hn : n ≤ n') : HN (mkH n l) (mkH n' l') := by
  refine ⟨hn, fun M _ b h1 h2 => ?_⟩
  cases hb : (mkH n' l').get b with
  | none => rfl
  | some o =>
    have := List.all_eq_true.1 hl' _ (mkH_get hb)
    simp only [Bool.and_eq_true, decide_eq_true_eq] at this
    have : b < n' := this.1
    have h1 : n' ≤ b := h1
    omega

theorem with1_ok (hT : TblOk P T) (hmix : P.follows .mixedOrders = true) {f : FuncId} {args : List Value} {h h' : AH} {v : Value} (hc : Con P f args h v h') (hn : HN h h') : TblOk P (T.with1 P f args h (v, h')) where
  fn := fun g d k => by
    simp only [Tbl.with1] at k
    split at k
    · cases k
    · exact hT.fn g d k
  df := hT.df
  prim := fun g a h0 v' h0' k => by
    simp only [Tbl.with1] at k
    split at k
    · rename_i e
      obtain ⟨rfl, rfl, rfl⟩ := e
      cases k
      exact hc
    · split at k
      · exact lim_sound hT hmix g a h0 v' h0' k
      · exact hT.prim g a h0 v' h0' k
  primM := fun g a h0 v' h0' k => by
    simp only [Tbl.with1] at k
    split at k
    · rename_i e
      obtain ⟨rfl, rfl, rfl⟩ := e
      cases k
      exact hn
    · split at k
      · exact lim_mono hT g a h0 v' h0' k
      · exact hT.primM g a h0 v' h0' k

/-- a contract of the law's own function over any world -/
theorem con_calls (hT : TblOk P T) {f : FuncId} {fn : IFn} (hfn : T.fn f = some fn) {args : List Value} (hargs : args.all closed = true) {b : Bool} {n : Nat} {l : List (Nat × VObj)} (he : Con P f args (mkH fixN []) (.bool b) (mkH n l)) (w : World) :
    Calls P f ⟨args⟩ w fun e w' => e = .returned (.bool b) ∧ Left0 w w' := by
  have hA : Rvs ρ0 args args := all_closed_refl hargs
  have := he ρ0 w args hA (sim0 w) (fun b h1 h2 => by
    have : ¬ b < fixN := Nat.not_lt.2 h1
    simp [ρ0, this])
  rcases this with ⟨_, h⟩ | ⟨v, w', h, _⟩
  · refine h.mono ?_
    intro e w' ⟨v, he, ρ', ha⟩
    have : v = .bool b := by have := ha.val; cases this; rfl
    subst this
    exact ⟨he, ha.ext.os, ha.ext.output, ha.ext.size, fun r hr => ha.ext.frame r hr (fun c o x hc => by have := mkH_get hc; simp at this)⟩
  · obtain ⟨pf, hpf, hcf⟩ := hT.fn f fn hfn
    obtain ⟨c, rs, hb, _, hnm, _⟩ := cFn_parts hcf
    rw [callFunc_run hpf hb hnm] at h
    cases h
end
end Go.Am
