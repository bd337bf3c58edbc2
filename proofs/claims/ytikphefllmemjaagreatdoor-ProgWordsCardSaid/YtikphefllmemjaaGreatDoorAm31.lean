import Derived.Test.YtikphefllmemjaaGreatDoorAm30
/-
The engine, part 31: families that grow; what is read in them; rows at open places.
-/
namespace Go.Am
open Go
set_option linter.unusedVariables false
set_option linter.unusedSimpArgs false

/-- below K, or of the first n of the families -/
def famD (K n : Nat) (b : Nat) : Prop := b < K ∨ (OFF ≤ b ∧ b < OFF + n)
theorem famD_mono {K n m : Nat} (h : n ≤ m) : ∀ b, famD K n b → famD K m b := fun b hb => by unfold famD at *; omega
theorem famD_stab {K n : Nat} (h : n ≤ OFF) : ∀ b, famD K n b → stabD K b := fun b hb => by unfold famD at hb; unfold stabD; omega
theorem famD_dn {K n m : Nat} (h : K ≤ m) : ∀ b, famD K n b → dnP m n b := fun b hb => by unfold famD at hb; unfold dnP; omega
def objSt (D : Nat → Prop) : VObj → Prop
  | .cells cs _ _ _ => AllSt D cs
  | .map es _ => ∀ e ∈ es, stV D 8 e.val
theorem objSt.mono {D D' : Nat → Prop} (hD : ∀ b, D b → D' b) {o : VObj} (h : objSt D o) : objSt D' o := by
  cases o with
  | cells cs e s f => exact AllSt.mono hD h
  | map es c => exact fun e he => stV_mono hD 8 _ (h e he)
theorem objSt.ren {r : Nat → Nat} {d : Nat → Bool} {D : Nat → Prop} (hD : ∀ b, D b → r b = b ∧ d b = true) {o : VObj} (h : objSt D o) : renO r o = o ∧ domO d o = true := by
  cases o with
  | cells cs e s f =>
    refine ⟨?_, ?_⟩
    · simp only [renO]
      congr 1
      rw [List.map_congr_left (g := id) (fun v hv => (stV_ren (K := 0) (σ := []) hD 8 v (h v hv)).1), List.map_id]
    · simp only [domO, List.all_eq_true]
      exact fun v hv => (stV_ren (K := 0) (σ := []) hD 8 v (h v hv)).2
  | map es c =>
    refine ⟨?_, ?_⟩
    · simp only [renO]
      congr 1
      rw [List.map_congr_left (g := id) (fun e he => by rw [(stV_ren (K := 0) (σ := []) hD 8 e.val (h e he)).1]; rfl), List.map_id]
    · simp only [domO, List.all_eq_true]
      exact fun e he => (stV_ren (K := 0) (σ := []) hD 8 e.val (h e he)).2
theorem objSt.stab {K : Nat} {o : VObj} (h : objSt (stabD K) o) : StabO K o := ⟨fun σ => (h.ren (fun b hb => stabD_ren hb σ)).1, fun σ => (h.ren (fun b hb => stabD_ren hb σ)).2⟩
/-- n blocks of families, whose addresses are such -/
def FamK (K n : Nat) (F : Nat → Option VObj) : Prop := ∀ b o, F b = some o → OFF ≤ b → b < OFF + n ∧ objSt (famD K n) o
theorem FamK.ok {K n : Nat} {F : Nat → Option VObj} (h : FamK K n F) (hn : n ≤ OFF) : FamOk K F := fun b o hb ho => by
  obtain ⟨h1, h2⟩ := h b o hb ho
  exact ⟨by omega, (h2.mono (famD_stab hn)).stab⟩
theorem FamK.fin {K n m : Nat} {F : Nat → Option VObj} (h : FamK K n F) (hm : K ≤ m) : FamIn m n F := fun b o hb ho => by
  obtain ⟨h1, h2⟩ := h b o hb ho
  exact ⟨h1, (h2.ren (r := id) (d := dn m n) (fun b hb => ⟨rfl, dn_iff.2 (famD_dn hm b hb)⟩)).2⟩
theorem noF_K (K : Nat) : FamK K 0 noF := fun b o h => by cases h

/-- one more -/
def famAdd (F : Nat → Option VObj) (n : Nat) (o : VObj) : Nat → Option VObj := fun c => if c = OFF + n then some o else F c
theorem FamK.add {K n : Nat} {F : Nat → Option VObj} {o : VObj} (h : FamK K n F) (ho : objSt (famD K n) o) : FamK K (n + 1) (famAdd F n o) := fun b o' hb hbo => by
  unfold famAdd at hb
  split at hb
  · cases hb; exact ⟨by omega, ho.mono (famD_mono (by omega))⟩
  · obtain ⟨h1, h2⟩ := h b o' hb hbo
    exact ⟨by omega, h2.mono (famD_mono (by omega))⟩

/-- a name below 'nx', but not b -/
def nb (nx b : Nat) (c : Nat) : Bool := decide (c ≠ b) && decide (c < nx) && decide (c < OFF)
def HidL (h : AH) (nx B b : Nat) : List (Nat × VObj) → Prop
  | [] => True
  | p :: l => ((p.1 ≠ b ∧ p.1 < nx ∧ p.1 < OFF) ∧ domO (dH nx b) p.2 = true ∧ h.get p.1 = some (renO (back B b) p.2)) ∧ HidL h nx B b l
theorem HidL.mem {h : AH} {nx B b : Nat} : ∀ {l : List (Nat × VObj)}, HidL h nx B b l → ∀ p ∈ l, (p.1 ≠ b ∧ p.1 < nx ∧ p.1 < OFF) ∧ domO (dH nx b) p.2 = true ∧ h.get p.1 = some (renO (back B b) p.2)
  | [], _, p, hp => by simp at hp
  | q :: l, h, p, hp => by
    rcases List.mem_cons.1 hp with rfl | hp
    · exact h.1
    · exact HidL.mem h.2 p hp

theorem nb_D {nx b B c : Nat} (hB : OFF ≤ B) (hc : nb nx b c = true) : back B b c = c ∧ dH nx b c = true := by
  simp only [nb, Bool.and_eq_true, decide_eq_true_eq] at hc
  exact ⟨by unfold back; rw [if_neg (by omega)], dH_iff.2 (by omega)⟩
theorem nb_ren {nx b B : Nat} (hB : OFF ≤ B) : ∀ (n : Nat) (v : Value), domV (nb nx b) n v = true → renV (back B b) n v = v ∧ domV (dH nx b) n v = true
  | 0, v, h => by simp [domV] at h
  | n + 1, v, h => by
    have hl : ∀ l : List Value, l.all (domV (nb nx b) n) = true → l.map (renV (back B b) n) = l ∧ l.all (domV (dH nx b) n) = true := fun l hl =>
      ⟨by rw [List.map_congr_left (g := id) (fun v hv => (nb_ren hB n v (List.all_eq_true.1 hl v hv)).1), List.map_id], List.all_eq_true.2 fun v hv => (nb_ren hB n v (List.all_eq_true.1 hl v hv)).2⟩
    cases v with
    | pointer a =>
      cases a with
      | none => exact ⟨rfl, rfl⟩
      | some a =>
        obtain ⟨c, o, z⟩ := a
        cases z with
        | none => simp only [domV] at h; have := nb_D hB h; exact ⟨by simp only [renV, this.1], by simp only [domV]; exact this.2⟩
        | some z => simp [domV] at h
    | slice a l c =>
      cases a with
      | none => exact ⟨rfl, rfl⟩
      | some a =>
        obtain ⟨c, o, z⟩ := a
        cases z with
        | none => simp only [domV] at h; have := nb_D hB h; exact ⟨by simp only [renV, this.1], by simp only [domV]; exact this.2⟩
        | some z => simp [domV] at h
    | map a =>
      cases a with
      | none => exact ⟨rfl, rfl⟩
      | some c => simp only [domV] at h; have := nb_D hB h; exact ⟨by simp only [renV, this.1], by simp only [domV]; exact this.2⟩
    | iface t v => simp only [domV] at h; have := nb_ren hB n v h; simp only [renV, domV, this.1, this.2, and_self]
    | func f a c =>
      simp only [domV, Bool.and_eq_true] at h
      simp only [renV, domV, (hl _ h.1).1, (hl _ h.1).2, (hl _ h.2).1, (hl _ h.2).2, Bool.and_self, and_self]
    | agg a => simp only [domV] at h; simp only [renV, domV, (hl _ h).1, (hl _ h).2, and_self]
    | tuple a => simp only [domV] at h; simp only [renV, domV, (hl _ h).1, (hl _ h).2, and_self]
    | _ => first | exact ⟨rfl, rfl⟩ | (simp [domV] at h)
theorem nb_renO {nx b B : Nat} (hB : OFF ≤ B) {o : VObj} (h : domO (nb nx b) o = true) : renO (back B b) o = o ∧ domO (dH nx b) o = true := by
  cases o with
  | cells cs e s f =>
    simp only [domO, List.all_eq_true] at h
    refine ⟨?_, ?_⟩
    · simp only [renO]
      congr 1
      rw [List.map_congr_left (g := id) (fun v hv => (nb_ren hB 8 v (h v hv)).1), List.map_id]
    · simp only [domO, List.all_eq_true]
      exact fun v hv => (nb_ren hB 8 v (h v hv)).2
  | map es c =>
    simp only [domO, List.all_eq_true] at h
    refine ⟨?_, ?_⟩
    · simp only [renO]
      congr 1
      rw [List.map_congr_left (g := id) (fun e he => by rw [(nb_ren hB 8 e.val (h e he)).1]; rfl), List.map_id]
    · simp only [domO, List.all_eq_true]
      exact fun e he => (nb_ren hB 8 e.val (h e he)).2

section
variable {P : Program} {T : Tbl} {K : Nat}
theorem famD_back {nx n m b c : Nat} (hm : m ≤ n) (hn : n < OFF) (hx : K ≤ nx) (hk : K ≤ b) (hx2 : nx ≤ OFF) (hb : b < OFF) (hc : famD K m c) : back (OFF + n) b c = c ∧ dH nx b c = true := by
  unfold famD at hc
  exact ⟨by unfold back; rw [if_neg (by omega)], dH_iff.2 (by omega)⟩
/-- THE BLOCK b BECOMES THE NEXT MEMBER OF THE FAMILIES -/
theorem SX.hide {c : ICode} {st : St} {e0 : IEx} {pat : List (Option Value)} {next next2 n b : Nat} {L Lc Lo L2 : List (Nat × VObj)} {F : Nat → Option VObj} {o : VObj} {ds : List (FuncId × List Value)}
    (h : SX P K c st (To e0 fun j => ⟨fillT pat j 0, mkG next L n F, ds⟩))
    (ok : (decide (K ≤ b) && decide (fixN ≤ K) && decide (b < next) && decide (next ≤ OFF) && (decide (next2 ≤ next) && decide (K ≤ next2)) && (Lc.all fun p => nb next2 b p.1 && domO (nb next2 b) p.2) && (liveT pat).all (domV (nb next2 b) 8) && domD (nb next2 b) ds) = true)
    (hn : n < OFF) (hb : (mkG next L n F).get b = some o) (ho : objSt (famD K n) o) (hF : FamK K n F)
    (hc : Lc.map (fun p => (mkG next L n F).get p.1) = Lc.map (fun p => some p.2)) (hlo : HidL (mkG next L n F) next2 (OFF + n) b Lo) (hL : Lc ++ Lo = L2) :
    SX P K c st (To e0 fun j => ⟨fillT pat j 0, mkG next2 L2 (n + 1) (famAdd F n o), ds⟩) := by
  subst hL
  simp only [Bool.and_eq_true, decide_eq_true_eq] at ok
  obtain ⟨⟨⟨⟨⟨⟨⟨k1, k2⟩, k3⟩, k4⟩, k5⟩, k6⟩, k7⟩, k8⟩ := ok
  refine SX.andThen h ?_
  rintro e st1 ⟨rfl, j, rfl⟩ ρ w a hR hC
  have hlive : ∀ v ∈ liveT pat, renV (back (OFF + n) b) 8 v = v ∧ domV (dH next2 b) 8 v = true := fun v hv =>
    nb_ren (Nat.le_add_right _ _) 8 v (List.all_eq_true.1 k7 v hv)
  have hds : ds = renD (back (OFF + n) b) ds ∧ domD (dH next2 b) ds = true := by
    have key : ∀ p ∈ ds, p.2.map (renV (back (OFF + n) b) 8) = p.2 ∧ p.2.all (domV (dH next2 b) 8) = true := fun p hp => by
      have hall := List.all_eq_true.1 (List.all_eq_true.1 k8 p hp)
      refine ⟨by rw [List.map_congr_left (g := id) (fun v hv => (nb_ren (Nat.le_add_right _ _) 8 v (hall v hv)).1), List.map_id], List.all_eq_true.2 fun v hv => (nb_ren (B := OFF + n) (Nat.le_add_right _ _) 8 v (hall v hv)).2⟩
    refine ⟨?_, List.all_eq_true.2 fun p hp => (key p hp).2⟩
    unfold renD
    rw [List.map_congr_left (g := id) (fun p hp => by rw [(key p hp).1]; rfl), List.map_id]
  have hsel : ∀ (pat : List (Option Value)) (j : Nat → Value) (i : Nat), selT pat (fillT pat j i) = liveT pat ∧ (fillT pat j i).length = pat.length := by
    intro pat j
    induction pat with
    | nil => intro i; exact ⟨rfl, rfl⟩
    | cons p l ih =>
      intro i
      cases p with
      | none => simp only [fillT, selT, liveT, List.length_cons]; exact ⟨(ih (i + 1)).1, by rw [(ih (i + 1)).2]⟩
      | some v => simp only [fillT, selT, liveT, List.length_cons]; exact ⟨by rw [(ih (i + 1)).1], by rw [(ih (i + 1)).2]⟩
  have hbo : b < OFF := by omega
  have hgg : ∀ c o2, (mkG next2 (Lc ++ Lo) (n + 1) (famAdd F n o)).get c = some o2 → dH next2 b c = true ∧ domO (dH next2 b) o2 = true ∧ (mkG next L n F).get (back (OFF + n) b c) = some (renO (back (OFF + n) b) o2) := by
    intro c o2 hg
    have hfam : ∀ {m : Nat} {o : VObj}, m ≤ n → objSt (famD K m) o → renO (back (OFF + n) b) o = o ∧ domO (dH next2 b) o = true := fun hm h => h.ren (fun c hc =>
      famD_back hm hn k5.2 k1 (Nat.le_trans k5.1 k4) hbo hc)
    rcases mkG_get hg with hm | ⟨hco, hf⟩
    · rcases List.mem_append.1 hm with hm | hm
      · have := List.all_eq_true.1 k6 _ hm
        simp only [Bool.and_eq_true] at this
        have e1 := nb_D (B := OFF + n) (Nat.le_add_right _ _) this.1
        have e2 := nb_renO (B := OFF + n) (Nat.le_add_right _ _) this.2
        have hg2 := List.map_inj_left.1 hc _ hm
        refine ⟨e1.2, e2.2, ?_⟩
        rw [e2.1, e1.1]
        exact hg2
      · obtain ⟨m1, m3, m4⟩ := hlo.mem _ hm
        simp only at m1
        refine ⟨dH_iff.2 (by omega), m3, ?_⟩
        have : back (OFF + n) b c = c := by unfold back; rw [if_neg (by omega)]
        rw [this]
        exact m4
    · unfold famAdd at hf
      split at hf
      · rename_i e
        cases hf
        subst e
        have := hfam (Nat.le_refl _) ho
        refine ⟨dH_iff.2 (by omega), this.2, ?_⟩
        rw [this.1]
        have : back (OFF + n) b (OFF + n) = b := by unfold back; rw [if_pos rfl]
        rw [this]
        exact hb
      · rename_i hne
        obtain ⟨m1, m2⟩ := hF c o2 hf hco
        have := hfam (Nat.le_refl _) m2
        refine ⟨dH_iff.2 (by omega), this.2, ?_⟩
        rw [this.1]
        have : back (OFF + n) b c = c := by unfold back; rw [if_neg hne]
        rw [this]
        unfold AH.get
        rw [Nat.ble_eq_true_of_le hco]
        exact hf
  obtain ⟨ρ2, j2, h1, h2, h3⟩ := Rel.hide (K := K) (h2 := mkG next2 (Lc ++ Lo) (n + 1) (famAdd F n o)) (pat := pat) (b := b) hR hC k1 k2 k3 k4 hn
    k5.1 k5.2 rfl hgg
    (List.all_eq_true.2 fun v hv => (hlive v hv).2)
    (by
      rw [(hsel pat j 0).1]
      show liveT pat = List.map (renV (back (OFF + n) b) 8) (liveT pat)
      rw [List.map_congr_left (g := id) (fun v hv => (hlive v hv).1), List.map_id]) (hsel pat j 0).2 (ds2 := ds) hds.1 hds.2
  exact ⟨ρ2, _, ⟨rfl, j2, rfl⟩, h1, h2, h3⟩

/-- a row ahead in which nothing has the name b, and a piece behind -/
theorem hid_app {nx n b nm : Nat} {L t1 t2 : List Value} {e : TypeId} {s : Option Nat} {f : Nat} {H : AH} (ok : (decide (K ≤ b) && decide (K ≤ nx) && decide (nx ≤ OFF) && decide (b < OFF) && nb nx b nm) = true) (hn : n < OFF)
    (hL : AllSt (famD K n) L) (hg : H.get nm = some (.cells (L ++ t1) e s f)) (ht : t2.map (renV (back (OFF + n) b) 8) = t1) (hd' : AllSt (fun c => nb nx b c = true ∨ c = OFF + n) t2) :
    ((nm ≠ b ∧ nm < nx ∧ nm < OFF) ∧ domO (dH nx b) (.cells (L ++ t2) e s f) = true ∧ H.get nm = some (renO (back (OFF + n) b) (.cells (L ++ t2) e s f))) := by
  simp only [Bool.and_eq_true, decide_eq_true_eq, nb] at ok
  obtain ⟨⟨⟨⟨k1, k2⟩, k3⟩, k4⟩, k5⟩ := ok
  have hd : t2.all (domV (dH nx b) 8) = true := List.all_eq_true.2 fun v hv => (stV_ren (K := 0) (σ := []) (r := id) (d := dH nx b) (fun c hc => ⟨rfl, by
    rcases hc with hc | hc
    · exact (nb_D (B := OFF) (Nat.le_refl _) hc).2
    · exact dH_iff.2 (by omega)⟩) 8 v (hd' v hv)).2
  have hLr := fun v hv => stV_ren (K := 0) (σ := []) (fun c hc => famD_back (Nat.le_refl n) hn k2 k1 k3 k4 hc) 8 v (hL v hv)
  refine ⟨⟨k5.1.1, k5.1.2, k5.2⟩, ?_, ?_⟩
  · simp only [domO, List.all_append, hd, Bool.and_true]
    exact List.all_eq_true.2 fun v hv => (hLr v hv).2
  · simp only [renO, List.map_append, ht]
    rw [hg, List.map_congr_left (g := id) (fun v hv => (hLr v hv).1), List.map_id]
theorem hid_cl {nx n b nm : Nat} {t1 t2 : List Value} {e : TypeId} {s : Option Nat} {f : Nat} {H : AH} (ok : (decide (K ≤ b) && decide (K ≤ nx) && decide (nx ≤ OFF) && decide (b < OFF) && nb nx b nm) = true) (hn : n < OFF)
    (hg : H.get nm = some (.cells t1 e s f)) (ht : t2.map (renV (back (OFF + n) b) 8) = t1) (hd' : AllSt (fun c => nb nx b c = true ∨ c = OFF + n) t2) :
    ((nm ≠ b ∧ nm < nx ∧ nm < OFF) ∧ domO (dH nx b) (.cells t2 e s f) = true ∧ H.get nm = some (renO (back (OFF + n) b) (.cells t2 e s f))) :=
  hid_app (L := []) ok hn AllSt.nil hg ht hd'
theorem hid_row {nx n b nm : Nat} {L : List Value} {e : TypeId} {s : Option Nat} {f : Nat} {H : AH} (ok : (decide (K ≤ b) && decide (K ≤ nx) && decide (nx ≤ OFF) && decide (b < OFF) && nb nx b nm) = true) (hn : n < OFF)
    (hL : AllSt (famD K n) L) (hg : H.get nm = some (.cells L e s f)) :
    ((nm ≠ b ∧ nm < nx ∧ nm < OFF) ∧ domO (dH nx b) (.cells L e s f) = true ∧ H.get nm = some (renO (back (OFF + n) b) (.cells L e s f))) := by
  have := hid_app (t1 := []) (t2 := []) (L := L) ok hn hL (by rw [List.append_nil]; exact hg) rfl AllSt.nil
  rw [List.append_nil] at this
  exact this
end

/-- a function's contract from its body: it comes to one state, and what is deferred leaves the heap as it is -/
theorem Con.ofTo {P : Program} {T : Tbl} (hT : TblOk P T) (hmix : P.follows .mixedOrders = true) {f : FuncId} {fn : IFn} (hfn : T.fn f = some fn) {args : List Value} {h h' : AH} {v : Value} {e : IEx} {pat : List (Option Value)} {ds : List (FuncId × List Value)}
    (ha : args.all (domV (dn h.next h.hn) 8) = true) (hl : Good h) (hl' : Good h') (hv : domV (dn h'.next h'.hn) 8 v = true) (hle : AH.le h h') (he : e = .normal ∨ e = .ret)
    (hd : runDefers P T (lim P T) 50 ds h' = some h') (hres : ∀ j, (resVs h' (fillT pat j 0) fn.results).map packV = some v)
    (hx : SX P h.next fn.body ⟨startT args fn.ntmps, h, []⟩ (To e fun j => ⟨fillT pat j 0, h', ds⟩)) : Con P f args h v h' :=
  Con.ofSX hT hmix hfn ha hl hl' hv hle (SX.mono hx (fun e' st' h => by
    obtain ⟨rfl, j, rfl⟩ := h
    exact ⟨he, hle.1, ⟨50, hd⟩, hres j⟩))

/-- what is read in a block of a family -/
def loadH (F : Nat → Option VObj) (b o n : Nat) : Option Value := (cellsIn F b o n).map fun cs => .agg ⟨cs⟩
def load1H (F : Nat → Option VObj) (b o : Nat) : Option Value := match F b with | some (.cells cs _ _ _) => cs[o]? | _ => none
/-- the cells at a place of a row -/
def loadNV (cs : List Value) (o n : Nat) : Option Value := (if o + n ≤ cs.length then some ((cs.drop o).take n) else none).map fun cs => .agg ⟨cs⟩
/-- the bytes of a piece of a row, as a string -/
def bytesV (cs : List Value) (o n : Nat) : Option Value := ((if o + n ≤ cs.length then some ((cs.drop o).take n) else none).bind bytesOf).map fun l => .string ⟨⟨l⟩⟩
/-- are two values one? -/
def eqCV (P : Program) (neg : Bool) (t : TypeId) (x y : Value) : Option Value :=
  if closed x && closed y then (pureRun P (Op.equal t x y)).map fun b => .bool (b != neg) else none
/-- the address of a row's element -/
def idxV (b o size len : Nat) (i : Int) : Option Value := if 0 ≤ i ∧ i < len then some (.pointer (some ⟨b, o + i.toNat * size, none⟩)) else none
def OneAll (cs : List Value) : Prop := cs.all oneC = true
theorem OneAll.nil : OneAll [] := rfl
theorem OneAll.append {a b : List Value} (h : OneAll a) (h' : OneAll b) : OneAll (a ++ b) := by unfold OneAll at *; rw [List.all_append, h, h', Bool.true_and]
theorem AllInt.one {l : List Value} (h : AllInt l) : OneAll l := by
  unfold OneAll
  rw [List.all_eq_true]
  intro v hv
  obtain ⟨k, n, rfl⟩ := h v hv
  rfl
theorem storeL_len : ∀ (vs cs : List Value) (o : Nat), (storeL cs o vs).length = cs.length
  | [], cs, o => rfl
  | v :: vs, cs, o => by simp only [storeL]; rw [storeL_len vs]; simp
theorem AllInt.store : ∀ (vs : List Value) {l : List Value} {o : Nat}, AllInt l → AllInt vs → AllInt (storeL l o vs)
  | [], l, o, h, _ => h
  | v :: vs, l, o, h, h' => by
    obtain ⟨k, n, rfl⟩ := h' v (List.mem_cons_self ..)
    simp only [storeL]
    exact AllInt.store vs h.set (fun x hx => h' x (List.mem_cons_of_mem _ hx))

namespace Fx
theorem idx {b o size len : Nat} {i : Int} (h : 0 ≤ i ∧ i < len) : idxV b o size len i = some (.pointer (some ⟨b, o + i.toNat * size, none⟩)) := if_pos h
theorem newc {H : AH} {b n c size : Nat} {cs : List Value} {e : TypeId} {s : Option Nat} {f : Nat} (hg : H.get b = some (.cells cs e s f)) (hl : cs.length = n * size) : newCells H.get size (.slice (some ⟨b, 0, none⟩) n c) = some (n, cs) := by
  unfold newCells
  simp only [cellsIn, hg]
  rw [if_pos (by omega), List.drop_zero, ← hl, List.take_length]
  rfl
theorem append0 {elem : TypeId} {size bytes : Nat} {H : AH} {n N : Nat} (hN : H.next = N) {news : List Value} {x : Value} (hx : newCells H.get size x = some (n, news)) (h1 : news.all oneC = true)
    (hn : 0 < n) (hb : (2 * n + 768) * bytes ≤ 281474976710656) :
    doAppend elem size bytes H (.slice none 0 0) x = some (.slice (some ⟨N, 0, none⟩) n n, H.add (.cells news elem (some size) 0)) := by
  subst hN
  unfold doAppend
  simp only [hx, h1, true_and]
  simp only [and_self, if_true]
  rw [if_neg (by omega), if_pos hb]
/-- to a row of which more is known to be closed -/
theorem store {H : AH} {b o n : Nat} {cs vs : List Value} {e : TypeId} {s : Option Nat} {f : Nat} (h1 : vs.length = n) (h2 : vs.all oneC = true) (h3 : o + n ≤ cs.length) (h4 : f ≤ o) :
    (if vs.length = n ∧ vs.all oneC ∧ o + n ≤ cs.length ∧ f ≤ o then some (undef, H.put b (some (.cells (storeL cs o vs) e s f))) else none) = some (undef, H.put b (some (.cells (storeL cs o vs) e s f))) := if_pos ⟨h1, h2, h3, h4⟩
end Fx

end Go.Am
