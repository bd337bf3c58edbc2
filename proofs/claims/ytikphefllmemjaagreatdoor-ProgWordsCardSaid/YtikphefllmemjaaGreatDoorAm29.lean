import Derived.Test.YtikphefllmemjaaGreatDoorAm28
/-
The engine, part 29: code from state to state, up to the names of blocks: its rules.
-/
namespace Go.Am
open Go
set_option linter.unusedVariables false
set_option linter.unusedSimpArgs false

/-- from 'st' the code comes to an exit and a state that B allows; K: blocks below are named as before -/
def SX (P : Program) (K : Nat) (c : ICode) (st : St) (B : IEx → St → Prop) : Prop :=
  ∀ c' : Code, cCode P c' = c → ∀ (ρ : Ren) (w : World) (a : Act), Rel ρ st a w → Clear ρ st.h → ∀ Q : Exit → Act → World → Prop,
    (∀ e st' ρ' a' w', B e st' → Rel ρ' st' a' w' → Clear ρ' st'.h → Hist K ρ st.h w ρ' st'.h w' → Q (exOf e) a' w') → c'.wp P Q a w

/-- comes out so, in one of these states -/
def To (e : IEx) (A : (Nat → Value) → St) : IEx → St → Prop := fun e' st' => e' = e ∧ ∃ j, st' = A j

section
variable {P : Program} {T : Tbl} {K : Nat}

theorem SX.mono {c : ICode} {st : St} {B B' : IEx → St → Prop} (h : SX P K c st B) (hb : ∀ e st', B e st' → B' e st') : SX P K c st B' :=
  fun c' hc ρ w a hR hC Q hQ => h c' hc ρ w a hR hC Q fun e st' ρ' a' w' hB => hQ e st' ρ' a' w' (hb _ _ hB)

theorem lim_sound (hT : TblOk P T) (hmix : P.follows .mixedOrders = true) : CallSound P (lim P T) := by
  intro f args h v h' k
  obtain ⟨n, hn⟩ := lim_ev _ _ _ _ k
  exact runFn_sound hT hmix n f args h v h' hn
theorem lim_mono (hT : TblOk P T) : CallMono (lim P T) := by
  intro f args h v h' k
  obtain ⟨n, hn⟩ := lim_ev _ _ _ _ k
  exact runFn_mono hT n f args h v h' hn

theorem SX.ofEx (hT : TblOk P T) (hmix : P.follows .mixedOrders = true) {c : ICode} {st st' : St} {e : IEx} {B : IEx → St → Prop} (hx : Ex P T c st (e, st')) (hK : K ≤ st.h.next) (hn : st'.h.next ≤ OFF) (hn2 : st'.h.hn ≤ OFF) (hB : B e st') : SX P K c st B := by
  intro c' hc ρ w a hR hC Q hQ
  obtain ⟨n, hx⟩ := hx
  rw [← hc] at hx
  have hm := lim_mono hT
  have hcs := lim_sound hT hmix
  have n1 := (exec_next hm n hx).1
  refine (exec_sound hcs hm (drawSound hcs hm hmix) n).code c' ρ w st st' e a Q hx hR ⟨hn, fun b h1 => hC b (by unfold isNew at h1; omega)⟩ (fun ρ' a' w' hR' hG => ?_)
  exact hQ e st' ρ' a' w' hB hR' (fun b h1 => by
    have := n1.1
    have := n1.2
    rw [hG.only b (fun k => by unfold isNew at k; omega)]
    exact hC b (by omega)) (Hist.of_goes hG hK n1 hn)

theorem cCode_seq {c : Code} {x y : ICode} (h : cCode P c = .seq x y) : ∃ a b, c = .seq a b ∧ cCode P a = x ∧ cCode P b = y := by
  cases c <;> simp only [cCode, cRegion] at h <;> first | (cases h; exact ⟨_, _, rfl, rfl, rfl⟩) | (exfalso; revert h; (repeat' split) <;> intro h <;> cases h)
theorem cCode_cond {c : Code} {o : Operand} {x y : ICode} (h : cCode P c = .cond o x y) : ∃ a b, c = .cond o a b ∧ cCode P a = x ∧ cCode P b = y ∧ okO o = true := by
  cases c <;> simp only [cCode, cRegion] at h
  case cond => split at h
               · cases h; exact ⟨_, _, rfl, rfl, rfl, by assumption⟩
               · cases h
  all_goals (exfalso; revert h; (repeat' split) <;> intro h <;> cases h)
theorem cCode_block {c : Code} {id : Nat} {x : ICode} (h : cCode P c = .block id x) : ∃ a, c = .block id a ∧ cCode P a = x := by
  cases c <;> simp only [cCode, cRegion] at h <;> first | (cases h; exact ⟨_, rfl, rfl⟩) | (exfalso; revert h; (repeat' split) <;> intro h <;> cases h)
theorem cCode_loop {c : Code} {x : ICode} (h : cCode P c = .loop x) : ∃ a, c = .loop a ∧ cCode P a = x := by
  cases c <;> simp only [cCode, cRegion] at h <;> first | (cases h; exact ⟨_, rfl, rfl⟩) | (exfalso; revert h; (repeat' split) <;> intro h <;> cases h)

theorem SX.seq {x y : ICode} {st : St} {B1 B : IEx → St → Prop} (h : SX P K x st B1) (k : ∀ st1, B1 .normal st1 → SX P K y st1 B) (hx : ∀ e st1, e ≠ .normal → B1 e st1 → B e st1) : SX P K (.seq x y) st B := by
  intro c' hc ρ w a hR hC Q hQ
  obtain ⟨c1, c2, rfl, h1, h2⟩ := cCode_seq hc
  refine wp_seq ?_
  refine h c1 h1 ρ w a hR hC _ (fun e st' ρ' a' w' hB hR' hC' hH => ?_)
  cases e with
  | normal => exact k st' hB c2 h2 ρ' w' a' hR' hC' Q (fun e2 st2 ρ2 a2 w2 hB2 hR2 hC2 hH2 => hQ e2 st2 ρ2 a2 w2 hB2 hR2 hC2 (hH.trans hH2))
  | exit i => exact hQ _ st' ρ' a' w' (hx (.exit i) _ (by simp) hB) hR' hC' hH
  | goto l => exact hQ _ st' ρ' a' w' (hx (.goto l) _ (by simp) hB) hR' hC' hH
  | ret => exact hQ _ st' ρ' a' w' (hx .ret _ (by simp) hB) hR' hC' hH

theorem SX.cond {o : Operand} {x y : ICode} {st : St} {B : IEx → St → Prop} (t : Bool) (ht : evT st.tmps o = .bool t) (h : SX P K (if t then x else y) st B) : SX P K (.cond o x y) st B := by
  intro c' hc ρ w a hR hC Q hQ
  obtain ⟨c1, c2, rfl, h1, h2, h3⟩ := cCode_cond hc
  refine wp_cond (cond_rel hR.tm h3 ht) ?_
  cases t
  · exact h c2 h2 ρ w a hR hC Q hQ
  · exact h c1 h1 ρ w a hR hC Q hQ

theorem SX.block {id : Nat} {x : ICode} {st : St} {B1 B : IEx → St → Prop} (h : SX P K x st B1) (hx : ∀ e st1, B1 e st1 → B (blockX id e) st1) : SX P K (.block id x) st B := by
  intro c' hc ρ w a hR hC Q hQ
  obtain ⟨c1, rfl, h1⟩ := cCode_block hc
  refine wp_block ?_
  refine h c1 h1 ρ w a hR hC _ (fun e st' ρ' a' w' hB hR' hC' hH => ?_)
  have := hQ _ st' ρ' a' w' (hx e st' hB) hR' hC' hH
  cases e with
  | exit i =>
    simp only [exOf, Exit.inBlock]
    simp only [blockX] at this
    split
    · rename_i hi; rw [if_pos hi] at this; exact this
    · rename_i hi; rw [if_neg hi] at this; exact this
  | normal => exact this
  | goto l => exact this
  | ret => exact this

theorem SX.loop {x : ICode} {B : IEx → St → Prop} (Inv : Nat → St → Prop) (hi : ∀ n st, Inv n st → SX P K x st (fun e st' => (e = .normal ∧ ∃ m, m < n ∧ Inv m st') ∨ (e ≠ .normal ∧ B e st'))) {n : Nat} {st : St} (h : Inv n st) : SX P K (.loop x) st B := by
  intro c' hc ρ w a hR hC Q hQ
  obtain ⟨c1, rfl, h1⟩ := cCode_loop hc
  refine wp_loop_rounds (n + 1) ?_
  have key : ∀ (N n : Nat), n ≤ N → ∀ (st : St) (ρ : Ren) (w : World) (a : Act), Inv n st → Rel ρ st a w → Clear ρ st.h →
      (∀ e st' ρ' a' w', B e st' → Rel ρ' st' a' w' → Clear ρ' st'.h → Hist K ρ st.h w ρ' st'.h w' → Q (exOf e) a' w') → Code.rounds P c1 Q (N + 1) a w := by
    intro N
    induction N with
    | zero =>
      intro n hn st ρ w a hI hR hC hQ
      rw [rounds_succ]
      refine hi n st hI c1 h1 ρ w a hR hC _ (fun e st' ρ' a' w' hB hR' hC' hH => ?_)
      rcases hB with ⟨rfl, m, hm, _⟩ | ⟨hne, hB⟩
      · omega
      · have := hQ e st' ρ' a' w' hB hR' hC' hH
        cases e with
        | normal => exact absurd rfl hne
        | exit i => exact this
        | goto i => exact this
        | ret => exact this
    | succ N ih =>
      intro n hn st ρ w a hI hR hC hQ
      rw [rounds_succ]
      refine hi n st hI c1 h1 ρ w a hR hC _ (fun e st' ρ' a' w' hB hR' hC' hH => ?_)
      rcases hB with ⟨rfl, m, hm, hI'⟩ | ⟨hne, hB⟩
      · exact ih m (by omega) st' ρ' w' a' hI' hR' hC' (fun e2 st2 ρ2 a2 w2 hB2 hR2 hC2 hH2 => hQ e2 st2 ρ2 a2 w2 hB2 hR2 hC2 (hH.trans hH2))
      · have := hQ e st' ρ' a' w' hB hR' hC' hH
        cases e with
        | normal => exact absurd rfl hne
        | exit i => exact this
        | goto i => exact this
        | ret => exact this
  exact key n n (Nat.le_refl _) st ρ w a h hR hC hQ

/-- code, then other names -/
theorem SX.andThen {c : ICode} {st : St} {B1 B : IEx → St → Prop} (h : SX P K c st B1)
    (k : ∀ e st1, B1 e st1 → ∀ (ρ : Ren) (w : World) (a : Act), Rel ρ st1 a w → Clear ρ st1.h → ∃ ρ' st2, B e st2 ∧ Rel ρ' st2 a w ∧ Clear ρ' st2.h ∧ Hist K ρ st1.h w ρ' st2.h w) : SX P K c st B := by
  intro c' hc ρ w a hR hC Q hQ
  refine h c' hc ρ w a hR hC Q (fun e st' ρ' a' w' hB hR' hC' hH => ?_)
  obtain ⟨ρ2, st2, k1, k2, k3, k4⟩ := k e st' hB ρ' w' a' hR' hC'
  exact hQ e st2 ρ2 a' w' k1 k2 k3 (hH.trans k4)

/-- so many numbers -/
def ci (c : Nat → Int) (n : Nat) : List Value := (List.range n).map fun k => .int .i64 (c k)
def gl (l : List Int) (k : Nat) : Int := l.getD k 0
/-- a row of so many, some of them known -/
def patOf (n : Nat) (l : List (Nat × Value)) : List (Option Value) := (List.range n).map fun i => (l.find? fun p => p.1 == i).map (·.2)

/-- live temporaries: those at 'om' as they are, the others under other names -/
def expM (r : Nat → Nat) (om : List Nat) : List (Option Value) → Nat → List Value
  | [], _ => []
  | some v :: l, i => (match om.contains i with | true => v | false => renV r 8 v) :: expM r om l (i + 1)
  | none :: l, i => expM r om l (i + 1)
def domM (d : Nat → Bool) (om : List Nat) : List (Option Value) → Nat → Bool
  | [], _ => true
  | some v :: l, i => (match om.contains i with | true => true | false => domV d 8 v) && domM d om l (i + 1)
  | none :: l, i => domM d om l (i + 1)
def StabM (K : Nat) (om : List Nat) : List (Option Value) → Nat → Prop
  | [], _ => True
  | some v :: l, i => match om.contains i with | true => StabV K v ∧ StabM K om l (i + 1) | false => StabM K om l (i + 1)
  | none :: l, i => StabM K om l (i + 1)
/-- an object that is the same under these other names -/
structure StabS (K : Nat) (σ : List (Nat × Nat)) (o : VObj) : Prop where
  ren : renO (Am.ren K σ) o = o
  dom : domO (inDom K σ) o = true
def StabL (K : Nat) (σ : List (Nat × Nat)) : List (Nat × VObj) → Prop
  | [] => True
  | p :: l => StabS K σ p.2 ∧ StabL K σ l
theorem StabL.mem {K : Nat} {σ : List (Nat × Nat)} : ∀ {l : List (Nat × VObj)}, StabL K σ l → ∀ p ∈ l, StabS K σ p.2
  | [], _, p, hp => by simp at hp
  | q :: l, h, p, hp => by
    rcases List.mem_cons.1 hp with rfl | hp
    · exact h.1
    · exact StabL.mem h.2 p hp
theorem expM_ok {σ : List (Nat × Nat)} {om : List Nat} : ∀ {pat : List (Option Value)} {i : Nat}, StabM K om pat i → expM (ren K σ) om pat i = (liveT pat).map (renV (ren K σ) 8)
  | [], _, _ => rfl
  | none :: l, i, h => expM_ok (pat := l) (i := i + 1) h
  | some v :: l, i, h => by
    simp only [StabM] at h
    simp only [expM, liveT, List.map_cons]
    cases hb : om.contains i <;> rw [hb] at h <;> simp only at h ⊢
    · rw [expM_ok h]
    · rw [expM_ok h.2, (h.1 σ).1]
theorem domM_ok {σ : List (Nat × Nat)} {om : List Nat} : ∀ {pat : List (Option Value)} {i : Nat}, StabM K om pat i → domM (inDom K σ) om pat i = true → (liveT pat).all (domV (inDom K σ) 8) = true
  | [], _, _, _ => rfl
  | none :: l, i, h, k => domM_ok (pat := l) (i := i + 1) h k
  | some v :: l, i, h, k => by
    simp only [StabM] at h
    simp only [domM, Bool.and_eq_true] at k
    simp only [liveT, List.all_cons, Bool.and_eq_true]
    cases hb : om.contains i <;> rw [hb] at h k <;> simp only at h k
    · exact ⟨k.1, domM_ok h k.2⟩
    · exact ⟨(h.1 σ).2, domM_ok h.2 k.2⟩

/-- what a run over open values leaves, as far as it is asked -/
def runChk (P : Program) (T : Tbl) (n : Nat) (c : ICode) (st : St) (hs : List (Nat × Hint)) (pat : List (Option Value)) (l lo : List (Nat × VObj)) (K : Nat) (σ : List (Nat × Nat)) :
    Option (IEx × List Prop × List Value × List (Option VObj) × List (Option VObj) × Nat × (Nat → Option VObj) × List (FuncId × List Value) × Bool) :=
  match execH P T (runFnH P T n) n c st ⟨hs, []⟩ with
  | some (e, st', s) => match s.hs with
    | [] => some (e, s.cs, selT pat st'.tmps, l.map (fun p => st'.h.get (ren K σ p.1)), lo.map (fun p => st'.h.get (ren K σ p.1)), st'.h.hn, st'.h.hid, st'.ds, decide (st'.tmps.length = pat.length) && decide (st'.h.next ≤ OFF))
    | _ => none
  | none => none

theorem okHp_append {K : Nat} {σ : List (Nat × Nat)} {l lo : List (Nat × VObj)} (h : okHp (inDom K σ) l = true) (h' : (lo.all fun p => inDom K σ p.1) = true) (hp : StabL K σ lo) : okHp (inDom K σ) (l ++ lo) = true := by
  unfold okHp at *
  rw [List.all_append, h, Bool.true_and, List.all_eq_true]
  intro p hm
  rw [List.all_eq_true] at h'
  rw [h' p hm, (hp.mem p hm).dom]
  rfl
theorem map_append' {K : Nat} {σ : List (Nat × Nat)} {g : Nat → Option VObj} {l lo : List (Nat × VObj)} (h : l.map (fun p => g (ren K σ p.1)) = l.map (fun p => some (renO (ren K σ) p.2)))
    (h' : lo.map (fun p => g (ren K σ p.1)) = lo.map (fun p => some p.2)) (hp : StabL K σ lo) : (l ++ lo).map (fun p => g (ren K σ p.1)) = (l ++ lo).map (fun p => some (renO (ren K σ) p.2)) := by
  rw [List.map_append, List.map_append, h, h']
  congr 1
  exact List.map_congr_left fun p hm => by rw [(hp.mem p hm).ren]

/-- A RUN OVER OPEN VALUES, BROUGHT TO OTHER NAMES. 'om': open live temporaries; 'lo': open blocks; n, F: the families -/
theorem SX.run (hT : TblOk P T) (hmix : P.follows .mixedOrders = true) {f : Nat} {c : ICode} {st : St} {hs : List (Nat × Hint)} {e : IEx} {cs : List Prop} {next : Nat} {σ : List (Nat × Nat)} {pat : List (Option Value)} {l lo L : List (Nat × VObj)} {om : List Nat} {n : Nat} {F : Nat → Option VObj} {ds : List (FuncId × List Value)}
    (k : runChk P T f c st hs pat l lo K σ = some (e, cs, expM (ren K σ) om pat 0, l.map (fun p => some (renO (ren K σ) p.2)), lo.map (fun p => some p.2), n, F, renD (ren K σ) ds, true)) (hcs : AllP cs) (hK : K ≤ st.h.next)
    (ok : (okσ K next σ && okHp (inDom K σ) l && (lo.all fun p => inDom K σ p.1) && domM (inDom K σ) om pat 0 && domD (inDom K σ) ds) = true) (hom : StabM K om pat 0) (hlo : StabL K σ lo) (hF : FamOk K F) (hnn : n ≤ OFF) (hL : l ++ lo = L) :
    SX P K c st (To e fun j => ⟨fillT pat j 0, mkG next L n F, ds⟩) := by
  subst hL
  unfold runChk at k
  split at k
  case h_2 => cases k
  rename_i e1 st1 s1 hx
  split at k
  case h_2 => cases k
  rename_i hsn
  simp only [Option.some.injEq, Prod.mk.injEq, Bool.and_eq_true, decide_eq_true_eq] at k
  obtain ⟨rfl, rfl, h1, h2, h2', hn1, hF1, h5, h3, h4⟩ := k
  simp only [Bool.and_eq_true] at ok
  have hEx : Ex P T c st (e1, st1) := ⟨f, (execH_ok (runFnH_ok f) f hx hcs).2⟩
  refine SX.andThen (SX.ofEx hT hmix hEx hK h4 (by rw [hn1]; exact hnn) (B := fun e st => e = e1 ∧ st = st1) ⟨rfl, rfl⟩) ?_
  rintro e st2 ⟨rfl, rfl⟩ ρ w a hR hC
  rw [expM_ok hom] at h1
  obtain ⟨j, k1, k2⟩ := hR.renamed ok.1.1.1.1 (okHp_append ok.1.1.1.2 ok.1.1.2 hlo) (map_append' h2 h2' hlo) hn1 hF1 hF (domM_ok hom ok.1.2) h1 h3 h5 ok.2
  exact ⟨_, _, ⟨rfl, j, rfl⟩, k1, ren2_clear ok.1.1.1.1 hC hn1, k2⟩

/-! ### contracts -/
/-- the call of f with these arguments in this heap comes out so -/
def Con (P : Program) (f : FuncId) (args : List Value) (h : AH) (v : Value) (h' : AH) : Prop :=
  ∀ (ρ : Ren) (w : World) (args' : List Value), Rvs ρ args args' → Sim ρ h.get w → Fresh ρ h h' → CallOk P f args' w fun v' w' => ∃ ρ', Acted ρ h w v h' v' w' ρ'

theorem Con.ofEv (hT : TblOk P T) (hmix : P.follows .mixedOrders = true) {f : FuncId} {args : List Value} {h h' : AH} {v : Value} (e : Ev P T f args h (v, h')) : Con P f args h v h' := by
  obtain ⟨n, hn⟩ := e
  exact runFn_sound hT hmix n f args h v h' hn

theorem all_agree {ρ ρ2 : Ren} {d : Nat → Bool} (hρ : ∀ b, d b = true → ρ2 b = ρ b) {l l' : List Value} (h : l.all (domV d 8) = true) (k : Rvs ρ l l') : Rvs ρ2 l l' :=
  ⟨k.1, fun i u u' h1 h2 => agree_ok hρ 8 u u' (List.all_eq_true.1 h u (List.mem_of_getElem? h1)) (k.2 i u u' h1 h2)⟩

/-- the names of a heap -/
def dn (n m : Nat) (b : Nat) : Bool := decide (b < n) || (decide (OFF ≤ b) && decide (b < OFF + m))
theorem dn_iff {n m b : Nat} : dn n m b = true ↔ b < n ∨ (OFF ≤ b ∧ b < OFF + m) := by simp [dn]
/-- all addresses in a heap are names of it -/
def Good (h : AH) : Prop := h.next ≤ OFF ∧ h.hn ≤ OFF ∧ fixN ≤ h.next ∧ ∀ b o, h.get b = some o → dn h.next h.hn b = true ∧ domO (dn h.next h.hn) o = true

theorem good_hn {h h' : AH} (hg : Good h') (hle : AH.le h h') : HN h h' := by
  refine ⟨hle, fun M hM hw => ⟨hw.1, fun b hb => ?_⟩⟩
  cases hx : h'.get b with
  | none => rfl
  | some o =>
    have := dn_iff.1 (hg.2.2.2 b o hx).1
    have := hM.1
    have := hw.1
    unfold isNew at hb
    omega

open Classical in
theorem con_acted {h h' : AH} {v v' : Value} {ρ ρs ρ1 : Ren} {w w1 : World} (hag : ∀ b, dn h.next h.hn b = true → ρs b = ρ b)
    (hkey : ∀ b o, h.get b = some o → dn h.next h.hn b = true ∧ domO (dn h.next h.hn) o = true) (hkey' : ∀ b o, h'.get b = some o → dn h'.next h'.hn b = true ∧ domO (dn h'.next h'.hn) o = true)
    (hn1 : h.next ≤ OFF) (hn2 : h.hn ≤ OFF) (hm2 : h'.hn ≤ OFF) (hn3 : fixN ≤ h.next) (hv : domV (dn h'.next h'.hn) 8 v = true) (hle : AH.le h h') (hf : Fresh ρ h h')
    (m2 : Rv ρ1 v v') (hS1 : Sim ρ1 h'.get w1) (hH1 : Hist h.next ρs h w ρ1 h' w1) : ∃ ρ', Acted ρ h w v h' v' w1 ρ' := by
  let ρf : Ren := fun b => if isNew h h' b then ρ1 b else ρ b
  have hag2 : ∀ b, dn h'.next h'.hn b = true → ρf b = ρ1 b := fun b hb => by
    have hb := dn_iff.1 hb
    by_cases h1 : isNew h h' b
    · simp [ρf, h1]
    · have e1 : ρ1 b = ρ b := by
        by_cases h2 : b < h.next
        · rw [hH1.anch b h2, hag b (dn_iff.2 (.inl h2))]
        · have h3 : OFF ≤ b ∧ b < OFF + h.hn := by unfold isNew at h1; omega
          rw [hH1.fam b h3.1 h3.2 (by omega), hag b (dn_iff.2 (.inr h3))]
      simp [ρf, h1, e1]
  refine ⟨ρf, agree_ok hag2 8 v v' hv m2, ⟨fun b hb => ?_, fun b o hb => ?_, fun b c o1 o2 r x y hb hc e1 e2 => ?_⟩, ⟨fun b p hb => ?_, hH1.os, hH1.output, hH1.size, fun r hr hno => ?_, fun b o r x hb e1 hr => ?_⟩, hle, fun b hb => ?_⟩
  · rw [hag2 b (dn_iff.2 (.inl (by have := hle.1; omega)))]; exact hS1.fix b hb
  · obtain ⟨r, x, o', k1, k2, k3⟩ := hS1.blk b o hb
    have := hkey' b o hb
    exact ⟨r, x, o', by rw [hag2 b this.1]; exact k1, k2, agreeO_ok hag2 this.2 k3⟩
  · rw [hag2 b (hkey' b o1 hb).1] at e1
    rw [hag2 c (hkey' c o2 hc).1] at e2
    exact hS1.inj b c o1 o2 r x y hb hc e1 e2
  · by_cases h1 : isNew h h' b
    · rw [hf.2 b h1] at hb; cases hb
    · simp [ρf, h1, hb]
  · refine hH1.frame r hr (fun b o x hb e1 => ?_)
    rw [hag b (hkey b o hb).1] at e1
    exact hno b o x hb e1
  · rw [hag2 b (hkey' b o hb).1] at e1
    obtain ⟨c, o', y, k1, k2⟩ := hH1.new b o r x hb e1 hr
    rw [hag c (hkey c o' k1).1] at k2
    exact ⟨c, o', y, k1, k2⟩
  · simp [ρf, hb]

open Classical in
/-- a function's contract from its body -/
theorem Con.ofSX (hT : TblOk P T) (hmix : P.follows .mixedOrders = true) {f : FuncId} {fn : IFn} (hfn : T.fn f = some fn) {args : List Value} {h h' : AH} {v : Value}
    (ha : args.all (domV (dn h.next h.hn) 8) = true) (hl : Good h) (hl' : Good h') (hv : domV (dn h'.next h'.hn) 8 v = true) (hle : AH.le h h')
    (hx : SX P h.next fn.body ⟨startT args fn.ntmps, h, []⟩ (fun e st' => (e = .normal ∨ e = .ret) ∧ h.next ≤ st'.h.next ∧ (∃ m, runDefers P T (lim P T) m st'.ds st'.h = some h') ∧ (resVs h' st'.tmps fn.results).map packV = some v)) : Con P f args h v h' := by
  intro ρ w args' hargs hS hf
  let ρs : Ren := fun b => if dn h.next h.hn b = true then ρ b else none
  have hag : ∀ b, dn h.next h.hn b = true → ρs b = ρ b := fun b hb => by simp [ρs, hb]
  have hA : Rvs ρs args args' := all_agree hag ha hargs
  have hkey := hl.2.2.2
  have hkey' := hl'.2.2.2
  have hn1 := hl.1
  have hn2 := hl.2.1
  have hn3 := hl.2.2.1
  have hm2 := hl'.2.1
  have hSs : Sim ρs h.get w := by
    refine ⟨fun b hb => ?_, fun b o hb => ?_, fun b c o1 o2 r x y hb hc e1 e2 => ?_⟩
    · rw [hag b (dn_iff.2 (.inl (by omega)))]; exact hS.fix b hb
    · obtain ⟨r, x, o', m1, m2, m3⟩ := hS.blk b o hb
      have := hkey b o hb
      exact ⟨r, x, o', by rw [hag b this.1]; exact m1, m2, agreeO_ok hag this.2 m3⟩
    · rw [hag b (hkey b o1 hb).1] at e1
      rw [hag c (hkey c o2 hc).1] at e2
      exact hS.inj b c o1 o2 r x y hb hc e1 e2
  obtain ⟨pf, hpf, hcf⟩ := hT.fn f fn hfn
  obtain ⟨c, rs, hb, hrs, hnm, rfl⟩ := cFn_parts hcf
  left
  refine ⟨callFunc_run hpf hb hnm _ w, ?_⟩
  refine calls_of_wp_defers hpf hb ?_
  refine hx c rfl ρs w _ ⟨hSs, start_rel (args' := ⟨args'⟩) hA pf.ntmps, .nil⟩ (fun b h1 => by
    have h1 : (h.next ≤ b ∧ b < OFF) ∨ (OFF + h.hn ≤ b ∧ b < 2 * OFF) := h1
    have : ¬ dn h.next h.hn b = true := fun k => by have := dn_iff.1 k; omega
    simp [ρs, this]) _ (fun e st ρ1 a1 w1 hB hR1 hC1 hH => ?_)
  obtain ⟨he, hnx, ⟨m, hds⟩, hres⟩ := hB
  have hvs : ∃ vs, resVs h' st.tmps rs = some vs ∧ packV vs = v := by
    simp only [Option.map_eq_some_iff] at hres
    exact hres
  obtain ⟨vs, hvs, hpk⟩ := hvs
  have hm := lim_mono hT
  have hcs := lim_sound hT hmix
  have nD := (runDefers_next hm hds).1
  have hL : Leaves P pf a1.tmps (fun e w' => ∃ v', e = .returned v' ∧ ∃ ρ', Acted ρ h w v h' v' w' ρ') a1.defers .returning w1 := by
    refine leaves_sound hT hcs hm (drawSound hcs hm hmix) (fun w hq => by obtain ⟨v', hq, _⟩ := hq; cases hq) st.ds st.h h' ρ1 w1 a1.defers hds hR1.ds hR1.sim ⟨hl'.1, fun b hb => hC1 b (by have := hl'.1; have := hl'.2.1; unfold isNew at hb; omega)⟩ (fun ρ2 w2 hS1 hG => ?_)
    obtain ⟨v', m1, m2⟩ := results_run (pf := pf) hS1 (hR1.tm.mono hG.ext.le) hrs hvs
    rw [hpk] at m2
    have hH1 : Hist h.next ρs h w ρ2 h' w2 := hH.trans (Hist.of_goes hG hnx nD hl'.1)
    exact ⟨v', m1, v', rfl, con_acted (ρs := ρs) hag hkey hkey' hn1 hn2 hm2 hl.2.2.1 hv hle hf m2 hS1 hH1⟩
  rcases he with rfl | rfl
  · exact hL
  · exact hL

open Classical in
/-- a table with one call answered by its contract -/
noncomputable def Tbl.with1 (P : Program) (T : Tbl) (f : FuncId) (args : List Value) (h : AH) (r : Value × AH) : Tbl where
  fn := fun g => if g = f then none else T.fn g
  df := T.df
  prim := fun g a h0 => if g = f ∧ a = args ∧ h0 = h then some r else if g = f then lim P T g a h0 else T.prim g a h0

theorem with1_at {f : FuncId} {args : List Value} {h : AH} {r : Value × AH} : lim P (T.with1 P f args h r) f args h = some r := by
  refine lim_of ⟨1, ?_⟩
  simp [runFn, Tbl.with1]

theorem with1_other {f : FuncId} {args a : List Value} {h h0 : AH} {r x : Value × AH} (hne : ¬ (a = args ∧ h0 = h)) (k : lim P T f a h0 = some x) : lim P (T.with1 P f args h r) f a h0 = some x := by
  refine lim_of ⟨1, ?_⟩
  simp only [runFn, Tbl.with1, if_true]
  rw [if_neg (fun e => hne e.2)]
  exact k

theorem with1_ok (hT : TblOk P T) (hmix : P.follows .mixedOrders = true) {f : FuncId} {args : List Value} {h h' : AH} {v : Value} (hc : Con P f args h v h') (hn : HN h h') : TblOk P (T.with1 P f args h (v, h')) where
  fn := fun g d k => by
    simp only [Tbl.with1] at k
    split at k
    · cases k
    · exact hT.fn g d k
  df := hT.df
  prim := fun g a h0 v' h0' k => by
    simp only [Tbl.with1] at k
    split at k
    · rename_i e
      obtain ⟨rfl, rfl, rfl⟩ := e
      cases k
      exact hc
    · split at k
      · exact lim_sound hT hmix g a h0 v' h0' k
      · exact hT.prim g a h0 v' h0' k
  primM := fun g a h0 v' h0' k => by
    simp only [Tbl.with1] at k
    split at k
    · rename_i e
      obtain ⟨rfl, rfl, rfl⟩ := e
      cases k
      exact hn
    · split at k
      · exact lim_mono hT g a h0 v' h0' k
      · exact hT.primM g a h0 v' h0' k

/-- a contract of the law's own function over any world -/
theorem con_calls (hT : TblOk P T) {f : FuncId} {fn : IFn} (hfn : T.fn f = some fn) {args : List Value} (hargs : args.all closed = true) {b : Bool} {h' : AH} (ho : h'.next ≤ OFF) (he : Con P f args h0 (.bool b) h') (w : World) :
    Calls P f ⟨args⟩ w fun e w' => e = .returned (.bool b) ∧ Left0 w w' := by
  have hA : Rvs ρ0 args args := all_closed_refl hargs
  have := he ρ0 w args hA (sim0 w) ⟨ho, fun b hb => ρ0_new hb⟩
  rcases this with ⟨_, h⟩ | ⟨v, w', h, _⟩
  · refine h.mono ?_
    intro e w' ⟨v, he, ρ', ha⟩
    have : v = .bool b := by have := ha.val; cases this; rfl
    subst this
    exact ⟨he, ha.ext.os, ha.ext.output, ha.ext.size, fun r hr => ha.ext.frame r hr (fun c o x hc => by rw [h0_get] at hc; cases hc)⟩
  · obtain ⟨pf, hpf, hcf⟩ := hT.fn f fn hfn
    obtain ⟨c, rs, hb, _, hnm, _⟩ := cFn_parts hcf
    rw [callFunc_run hpf hb hnm] at h
    cases h
end
end Go.Am
