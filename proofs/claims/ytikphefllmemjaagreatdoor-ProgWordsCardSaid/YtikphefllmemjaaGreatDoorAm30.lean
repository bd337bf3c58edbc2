import Derived.Test.YtikphefllmemjaaGreatDoorAm29
/-
The engine, part 30: rows of any length; blocks that become members of families.
-/
namespace Go.Am
open Go
set_option linter.unusedVariables false
set_option linter.unusedSimpArgs false

def isInt (v : Value) : Prop := ∃ k n, v = .int k n
def AllInt (l : List Value) : Prop := ∀ v ∈ l, isInt v
theorem AllInt.nil : AllInt [] := fun v h => by simp at h
theorem AllInt.cons {k : IntKind} {n : Int} {l : List Value} (h : AllInt l) : AllInt (.int k n :: l) := fun v hv => by
  rcases List.mem_cons.1 hv with rfl | hv
  · exact ⟨k, n, rfl⟩
  · exact h v hv
theorem AllInt.append {l l' : List Value} (h : AllInt l) (h' : AllInt l') : AllInt (l ++ l') := fun v hv => by
  rcases List.mem_append.1 hv with hv | hv
  · exact h v hv
  · exact h' v hv
theorem AllInt.snoc {k : IntKind} {n : Int} {l : List Value} (h : AllInt l) : AllInt (l ++ [.int k n]) := h.append (AllInt.nil.cons)

/-! ### what keeps its names -/
/-- below K, or of families -/
def stabD (K : Nat) (b : Nat) : Prop := b < K ∨ (OFF ≤ b ∧ b < 2 * OFF)
theorem stabD_ren {K b : Nat} (h : stabD K b) (σ : List (Nat × Nat)) : ren K σ b = b ∧ inDom K σ b = true := by
  refine ⟨?_, inDom_iff.2 (h.elim .inl (fun h => .inr (.inl h)))⟩
  unfold ren
  by_cases hk : b < K
  · rw [if_pos hk]
  · rw [if_neg hk, if_pos (by unfold stabD at h; omega)]
/-- all addresses in a value are such -/
def stV (D : Nat → Prop) : Nat → Value → Prop
  | 0, _ => False
  | n + 1, v => match v with
    | .bool _ | .int _ _ | .float _ _ | .string _ | .pointer none | .slice none _ _ | .map none | .nilFunc | .nilIface => True
    | .pointer (some ⟨b, _, none⟩) => D b
    | .slice (some ⟨b, _, none⟩) _ _ => D b
    | .map (some b) => D b
    | .iface _ v => stV D n v
    | .func _ a c => (∀ v ∈ a.toList, stV D n v) ∧ ∀ v ∈ c.toList, stV D n v
    | .agg a => ∀ v ∈ a.toList, stV D n v
    | .tuple a => ∀ v ∈ a.toList, stV D n v
    | _ => False
theorem stV_ren {K : Nat} {σ : List (Nat × Nat)} {r : Nat → Nat} {d : Nat → Bool} {D : Nat → Prop} (hD : ∀ b, D b → r b = b ∧ d b = true) : ∀ (n : Nat) (v : Value), stV D n v → renV r n v = v ∧ domV d n v = true
  | 0, v, h => h.elim
  | n + 1, v, h => by
    have hl : ∀ l : List Value, (∀ v ∈ l, stV D n v) → l.map (renV r n) = l ∧ l.all (domV d n) = true := fun l hl =>
      ⟨by rw [List.map_congr_left (g := id) (fun v hv => (stV_ren hD (K := K) (σ := σ) n v (hl v hv)).1), List.map_id], List.all_eq_true.2 fun v hv => (stV_ren hD (K := K) (σ := σ) n v (hl v hv)).2⟩
    cases v with
    | pointer a =>
      cases a with
      | none => exact ⟨rfl, rfl⟩
      | some a =>
        obtain ⟨b, o, z⟩ := a
        cases z with
        | none => simp only [stV] at h; simp only [renV, domV, (hD b h).1, (hD b h).2, and_self]
        | some z => simp [stV] at h
    | slice a l c =>
      cases a with
      | none => exact ⟨rfl, rfl⟩
      | some a =>
        obtain ⟨b, o, z⟩ := a
        cases z with
        | none => simp only [stV] at h; simp only [renV, domV, (hD b h).1, (hD b h).2, and_self]
        | some z => simp [stV] at h
    | map a =>
      cases a with
      | none => exact ⟨rfl, rfl⟩
      | some b => simp only [stV] at h; simp only [renV, domV, (hD b h).1, (hD b h).2, and_self]
    | iface t v => simp only [stV] at h; have := stV_ren hD (K := K) (σ := σ) n v h; simp only [renV, domV, this.1, this.2, and_self]
    | func f a c =>
      simp only [stV] at h
      simp only [renV, domV, (hl _ h.1).1, (hl _ h.1).2, (hl _ h.2).1, (hl _ h.2).2, Bool.and_self, and_self]
    | agg a => simp only [stV] at h; simp only [renV, domV, (hl _ h).1, (hl _ h).2, and_self]
    | tuple a => simp only [stV] at h; simp only [renV, domV, (hl _ h).1, (hl _ h).2, and_self]
    | _ => first | exact ⟨rfl, rfl⟩ | (simp [stV] at h)
theorem stV_mono {D D' : Nat → Prop} (hD : ∀ b, D b → D' b) : ∀ (n : Nat) (v : Value), stV D n v → stV D' n v
  | 0, v, h => h.elim
  | n + 1, v, h => by
    cases v with
    | pointer a =>
      cases a with
      | none => trivial
      | some a =>
        obtain ⟨b, o, z⟩ := a
        cases z with
        | none => exact hD b h
        | some z => simp [stV] at h
    | slice a l c =>
      cases a with
      | none => trivial
      | some a =>
        obtain ⟨b, o, z⟩ := a
        cases z with
        | none => exact hD b h
        | some z => simp [stV] at h
    | map a =>
      cases a with
      | none => trivial
      | some b => exact hD b h
    | iface t v => exact stV_mono hD n v h
    | func f a c => exact ⟨fun v hv => stV_mono hD n v (h.1 v hv), fun v hv => stV_mono hD n v (h.2 v hv)⟩
    | agg a => exact fun v hv => stV_mono hD n v (h v hv)
    | tuple a => exact fun v hv => stV_mono hD n v (h v hv)
    | _ => first | trivial | (simp [stV] at h)

/-- a row whose addresses are such -/
def AllSt (D : Nat → Prop) (l : List Value) : Prop := ∀ v ∈ l, stV D 8 v
theorem AllSt.nil {D : Nat → Prop} : AllSt D [] := fun v h => by simp at h
theorem AllSt.cons {D : Nat → Prop} {v : Value} {l : List Value} (hv : stV D 8 v) (h : AllSt D l) : AllSt D (v :: l) := fun x hx => by
  rcases List.mem_cons.1 hx with rfl | hx
  · exact hv
  · exact h x hx
theorem AllSt.append {D : Nat → Prop} {l l' : List Value} (h : AllSt D l) (h' : AllSt D l') : AllSt D (l ++ l') := fun v hv => by
  rcases List.mem_append.1 hv with hv | hv
  · exact h v hv
  · exact h' v hv
theorem AllSt.mono {D D' : Nat → Prop} (hD : ∀ b, D b → D' b) {l : List Value} (h : AllSt D l) : AllSt D' l := fun v hv => stV_mono hD 8 v (h v hv)
theorem AllInt.st {D : Nat → Prop} {l : List Value} (h : AllInt l) : AllSt D l := fun v hv => by
  obtain ⟨k, n, rfl⟩ := h v hv
  trivial
theorem AllInt.set {l : List Value} (h : AllInt l) {i : Nat} {k : IntKind} {n : Int} : AllInt (l.set i (.int k n)) := fun v hv => by
  rcases List.mem_or_eq_of_mem_set hv with hv | rfl
  · exact h v hv
  · exact ⟨k, n, rfl⟩
theorem AllSt.set {D : Nat → Prop} {l : List Value} (h : AllSt D l) {i : Nat} {v : Value} (hv : stV D 8 v) : AllSt D (l.set i v) := fun x hx => by
  rcases List.mem_or_eq_of_mem_set hx with hx | rfl
  · exact h x hx
  · exact hv

/-- a name that stays under these other names -/
def stabS (K : Nat) (σ : List (Nat × Nat)) (b : Nat) : Prop := ren K σ b = b ∧ inDom K σ b = true
theorem stab_cells {K : Nat} {σ : List (Nat × Nat)} {cs : List Value} {e : TypeId} {s : Option Nat} {f : Nat} (h : AllSt (stabS K σ) cs) : StabS K σ (.cells cs e s f) := by
  refine ⟨?_, ?_⟩
  · simp only [renO]
    congr 1
    rw [List.map_congr_left (g := id) (fun v hv => (stV_ren (K := K) (σ := σ) (fun b hb => hb) 8 v (h v hv)).1), List.map_id]
  · simp only [domO, List.all_eq_true]
    exact fun v hv => (stV_ren (K := K) (σ := σ) (fun b hb => hb) 8 v (h v hv)).2
theorem stab_val {K : Nat} {v : Value} (h : stV (stabD K) 8 v) : StabV K v := fun σ => stV_ren (K := K) (σ := σ) (fun b hb => stabD_ren hb σ) 8 v h

/-! ### heaps whose addresses are their names -/
def dnP (n m : Nat) (b : Nat) : Prop := b < n ∨ (OFF ≤ b ∧ b < OFF + m)
theorem dom_of_st {n m : Nat} {v : Value} (h : stV (dnP n m) 8 v) : domV (dn n m) 8 v = true := (stV_ren (K := 0) (σ := []) (r := id) (fun b hb => ⟨rfl, dn_iff.2 hb⟩) 8 v h).2
theorem doms_of_st {n m : Nat} {l : List Value} (h : AllSt (dnP n m) l) : l.all (domV (dn n m) 8) = true := List.all_eq_true.2 fun v hv => dom_of_st (h v hv)
def OpenL (n m : Nat) : List (Nat × VObj) → Prop
  | [] => True
  | p :: l => (dn n m p.1 = true ∧ domO (dn n m) p.2 = true) ∧ OpenL n m l
theorem OpenL.mem {n m : Nat} : ∀ {l : List (Nat × VObj)}, OpenL n m l → ∀ p ∈ l, dn n m p.1 = true ∧ domO (dn n m) p.2 = true
  | [], _, p, hp => by simp at hp
  | q :: l, h, p, hp => by
    rcases List.mem_cons.1 hp with rfl | hp
    · exact h.1
    · exact OpenL.mem h.2 p hp
/-- families whose addresses are names -/
def FamIn (n m : Nat) (F : Nat → Option VObj) : Prop := ∀ b o, F b = some o → OFF ≤ b → b < OFF + m ∧ domO (dn n m) o = true
theorem noF_in (n m : Nat) : FamIn n m noF := fun b o h => by cases h
theorem good_mkG {n m : Nat} {l lo L : List (Nat × VObj)} {F : Nat → Option VObj} (ok : (okHp (dn n m) l && decide (n ≤ OFF) && decide (fixN ≤ n)) = true) (hm : m ≤ OFF) (ho : OpenL n m lo) (hF : FamIn n m F) (hL : l ++ lo = L) : Good (mkG n L m F) := by
  subst hL
  simp only [Bool.and_eq_true, decide_eq_true_eq] at ok
  refine ⟨ok.1.2, hm, ok.2, fun b o hb => ?_⟩
  show dn n m b = true ∧ domO (dn n m) o = true
  rcases mkG_get hb with h | ⟨h1, h2⟩
  · rcases List.mem_append.1 h with h | h
    · have := List.all_eq_true.1 ok.1.1 _ h
      simp only [Bool.and_eq_true] at this
      exact this
    · exact ho.mem _ h
  · obtain ⟨k1, k2⟩ := hF b o h2 h1
    exact ⟨dn_iff.2 (.inr ⟨h1, k1⟩), k2⟩
theorem dom_cells {n m : Nat} {cs : List Value} {e : TypeId} {s : Option Nat} {f : Nat} (h : AllSt (dnP n m) cs) : domO (dn n m) (.cells cs e s f) = true := doms_of_st h

section
variable {P : Program} {T : Tbl} {K : Nat}
/-- so many rounds of a loop -/
def SXR (P : Program) (K n : Nat) (x : ICode) (st : St) (B : IEx → St → Prop) : Prop :=
  ∀ c' : Code, cCode P c' = x → ∀ (ρ : Ren) (w : World) (a : Act), Rel ρ st a w → Clear ρ st.h → ∀ Q : Exit → Act → World → Prop,
    (∀ e st' ρ' a' w', B e st' → Rel ρ' st' a' w' → Clear ρ' st'.h → Hist K ρ st.h w ρ' st'.h w' → Q (exOf e) a' w') → Code.rounds P c' Q n a w
theorem SXR.step {n : Nat} {x : ICode} {st : St} {B1 B : IEx → St → Prop} (h : SX P K x st B1) (k : ∀ st1, B1 .normal st1 → SXR P K n x st1 B) (hx : ∀ e st1, e ≠ .normal → B1 e st1 → B e st1) : SXR P K (n + 1) x st B := by
  intro c' hc ρ w a hR hC Q hQ
  rw [rounds_succ]
  refine h c' hc ρ w a hR hC _ (fun e st' ρ' a' w' hB hR' hC' hH => ?_)
  cases e with
  | normal => exact k st' hB c' hc ρ' w' a' hR' hC' Q (fun e2 st2 ρ2 a2 w2 hB2 hR2 hC2 hH2 => hQ e2 st2 ρ2 a2 w2 hB2 hR2 hC2 (hH.trans hH2))
  | exit i => exact hQ _ st' ρ' a' w' (hx (.exit i) _ (by simp) hB) hR' hC' hH
  | goto l => exact hQ _ st' ρ' a' w' (hx (.goto l) _ (by simp) hB) hR' hC' hH
  | ret => exact hQ _ st' ρ' a' w' (hx .ret _ (by simp) hB) hR' hC' hH
theorem SX.ofR {n : Nat} {x : ICode} {st : St} {B : IEx → St → Prop} (h : SXR P K n x st B) : SX P K (.loop x) st B := by
  intro c' hc ρ w a hR hC Q hQ
  obtain ⟨c1, rfl, h1⟩ := cCode_loop hc
  exact wp_loop_rounds n (h c1 h1 ρ w a hR hC Q hQ)
theorem SXR.last {x : ICode} {st : St} {B1 B : IEx → St → Prop} (h : SX P K x st B1) (hx : ∀ e st1, B1 e st1 → e ≠ .normal ∧ B e st1) : SXR P K 1 x st B :=
  SXR.step h (fun st1 hB => absurd rfl (hx _ _ hB).1) (fun e st1 _ hB => (hx _ _ hB).2)

theorem SX.next {x y : ICode} {st : St} {A : (Nat → Value) → St} {B : IEx → St → Prop} (h : SX P K x st (To .normal A)) (k : ∀ j, SX P K y (A j) B) : SX P K (.seq x y) st B :=
  SX.seq h (fun st1 h1 => by obtain ⟨_, j, rfl⟩ := h1; exact k j) (fun e st1 hne h1 => absurd h1.1 hne)
/-- the first part is the last -/
theorem SX.stop {x y : ICode} {st : St} {A : (Nat → Value) → St} {e : IEx} (hne : e ≠ .normal) (h : SX P K x st (To e A)) : SX P K (.seq x y) st (To e A) :=
  SX.seq h (fun st1 h1 => absurd h1.1.symm hne) (fun e st1 _ h1 => h1)
/-- n rounds, then out -/
theorem SX.rounds {x : ICode} {e : IEx} {A : (Nat → Value) → St} (hne : e ≠ .normal) (H : Nat → (Nat → Value) → St) (n : Nat) (hr : ∀ i, i < n → ∀ j, SX P K x (H i j) (To .normal (H (i + 1)))) (hl : ∀ j, SX P K x (H n j) (To e A)) (j : Nat → Value) :
    SX P K (.loop x) (H 0 j) (To e A) := by
  refine SX.loop (fun m st => ∃ i j, i ≤ n ∧ m = n - i ∧ st = H i j) (fun m st hI => ?_) (n := n) ⟨0, j, Nat.zero_le _, rfl, rfl⟩
  obtain ⟨i, j, hi, rfl, rfl⟩ := hI
  rcases Nat.lt_or_ge i n with h | h
  · refine SX.mono (hr i h j) (fun e' st' h1 => .inl ?_)
    obtain ⟨rfl, j', rfl⟩ := h1
    exact ⟨rfl, n - (i + 1), by omega, i + 1, j', by omega, rfl, rfl⟩
  · have : i = n := by omega
    subst this
    exact SX.mono (hl j) (fun e' st' h1 => .inr ⟨by rw [h1.1]; exact hne, h1⟩)
/-- a loop that ends by leaving its block -/
theorem SX.range {x : ICode} {b : Nat} {A : (Nat → Value) → St} (H : Nat → (Nat → Value) → St) (n : Nat) (hr : ∀ i, i < n → ∀ j, SX P K x (H i j) (To .normal (H (i + 1)))) (hl : ∀ j, SX P K x (H n j) (To (.exit b) A)) (j : Nat → Value) :
    SX P K (.block b (.loop x)) (H 0 j) (To .normal A) :=
  SX.block (SX.rounds (by simp) H n hr hl j) (fun e st h => by
    obtain ⟨rfl, h⟩ := h
    refine ⟨?_, h⟩
    show (if b = b then IEx.normal else .exit b) = .normal
    rw [if_pos rfl])
/-- .. that ends by returning -/
theorem SX.rangeRet {x : ICode} {b : Nat} {A : (Nat → Value) → St} (H : Nat → (Nat → Value) → St) (n : Nat) (hr : ∀ i, i < n → ∀ j, SX P K x (H i j) (To .normal (H (i + 1)))) (hl : ∀ j, SX P K x (H n j) (To .ret A)) (j : Nat → Value) :
    SX P K (.block b (.loop x)) (H 0 j) (To .ret A) :=
  SX.block (SX.rounds (by simp) H n hr hl j) (fun e st h => by
    obtain ⟨rfl, h⟩ := h
    exact ⟨rfl, h⟩)
theorem SX.toMono {c : ICode} {st : St} {e : IEx} {A A' : (Nat → Value) → St} (h : SX P K c st (To e A)) (k : ∀ j, A j = A' j) : SX P K c st (To e A') :=
  SX.mono h (fun e' st' h => ⟨h.1, h.2.elim fun j h2 => ⟨j, h2.trans (k j)⟩⟩)
theorem SX.from' {c : ICode} {st st2 : St} {B : IEx → St → Prop} (h : SX P K c st B) (k : st = st2) : SX P K c st2 B := k ▸ h

/-- of the heap that is left, some blocks -/
theorem SX.sub {c : ICode} {st : St} {B1 B : IEx → St → Prop} (h : SX P K c st B1)
    (k : ∀ e st1, B1 e st1 → ∃ l : List (Nat × VObj), l.map (fun p => st1.h.get p.1) = l.map (fun p => some p.2) ∧ B e ⟨st1.tmps, mkG st1.h.next l st1.h.hn st1.h.hid, st1.ds⟩) : SX P K c st B := by
  refine SX.andThen h (fun e st1 hB ρ w a hR hC => ?_)
  obtain ⟨l, h1, h2⟩ := k e st1 hB
  have hsub : ∀ b o, (mkG st1.h.next l st1.h.hn st1.h.hid).get b = some o → st1.h.get b = some o := fun b o hb => by
    rcases mkG_get hb with hb | ⟨hb, hf⟩
    · exact List.map_inj_left.1 h1 _ hb
    · unfold AH.get; rw [Nat.ble_eq_true_of_le hb]; exact hf
  exact ⟨ρ, _, h2, ⟨hR.sim.weaken hsub, hR.tm, hR.ds⟩, hC, ⟨rfl, rfl, Nat.le_refl _, fun _ _ _ => rfl, fun b o r x h3 h4 _ => ⟨b, o, x, hsub b o h3, h4⟩, fun _ _ => rfl, fun _ _ _ _ => rfl, Nat.le_refl _⟩⟩

/-! ### a block becomes a member of a family -/
/-- the member's name, and the block's name before -/
def back (B b : Nat) (c : Nat) : Nat := if c = B then b else c
/-- names that are left: below 'nx' or of families, but not b -/
def dH (nx b c : Nat) : Bool := decide (c ≠ b) && (decide (c < nx) || decide (OFF ≤ c)) && decide (c < 2 * OFF)
theorem dH_iff {nx b c : Nat} : dH nx b c = true ↔ c ≠ b ∧ (c < nx ∨ OFF ≤ c) ∧ c < 2 * OFF := by
  simp [dH, and_assoc]
theorem Rel.hide {ρ : Ren} {h h2 : AH} {tm : List Value} {a : Act} {w : World} {b : Nat} {pat : List (Option Value)} {ds ds2 : List (FuncId × List Value)} (hR : Rel ρ ⟨tm, h, ds⟩ a w) (hC : Clear ρ h) (hK : K ≤ b) (hfix : fixN ≤ K) (hb2 : b < h.next) (hbo : h.next ≤ OFF) (hn : h.hn < OFF)
    (e1 : h2.next ≤ h.next) (e3 : K ≤ h2.next) (e2 : h2.hn = h.hn + 1)
    (hg : ∀ c o, h2.get c = some o → dH h2.next b c = true ∧ domO (dH h2.next b) o = true ∧ h.get (back (OFF + h.hn) b c) = some (renO (back (OFF + h.hn) b) o))
    (hp : (liveT pat).all (domV (dH h2.next b) 8) = true) (hs : selT pat tm = (liveT pat).map (renV (back (OFF + h.hn) b) 8)) (hl : tm.length = pat.length)
    (hd1 : ds = renD (back (OFF + h.hn) b) ds2) (hd2 : domD (dH h2.next b) ds2 = true) :
    ∃ ρ2 j, Rel ρ2 ⟨fillT pat j 0, h2, ds2⟩ a w ∧ Clear ρ2 h2 ∧ Hist K ρ h w ρ2 h2 w := by
  let ρ2 : Ren := fun c => if c = OFF + h.hn then ρ b else if 2 * OFF ≤ c then ρ (c - 2 * OFF) else if c = b ∨ (h2.next ≤ c ∧ c < OFF) then none else ρ c
  have hd : ∀ c, dH h2.next b c = true → ρ2 c = ρ (back (OFF + h.hn) b c) := fun c hc => by
    have hc := dH_iff.1 hc
    simp only [ρ2, back]
    split
    · rfl
    · rw [if_neg (by omega), if_neg (by omega)]
  have hall : ∀ c p, ρ c = some p → ∃ c', ρ2 c' = some p := fun c p hc => ⟨2 * OFF + c, by
    simp only [ρ2]
    rw [if_neg (by omega), if_pos (by omega), Nat.add_sub_cancel_left]
    exact hc⟩
  obtain ⟨j, hj⟩ := fill_ok hd hall pat tm a.tmps.toList 0 hR.tm hl hs hp
  refine ⟨ρ2, j, ⟨⟨fun c hc => ?_, fun c o hc => ?_, fun c d o1 o2 r x y hc hdd e1 e2 => ?_⟩, hj, (by have := hR.ds; simp only at this; rw [hd1] at this; exact renD_ok hd hd2 this)⟩, fun c hc => ?_, ⟨rfl, rfl, Nat.le_refl _, fun _ _ _ => rfl, fun c o r x hc e1 _ => ?_, fun c hc => ?_, fun c k1 k2 k3 => ?_, by omega⟩⟩
  · simp only [ρ2]
    rw [if_neg (by omega), if_neg (by omega), if_neg (by omega)]
    exact hR.sim.fix c hc
  · obtain ⟨k1, k3, k4⟩ := hg c o hc
    obtain ⟨r, x, o', m1, m2, m3⟩ := hR.sim.blk _ _ k4
    exact ⟨r, x, o', by rw [hd c k1]; exact m1, m2, renO_ok hd k3 m3⟩
  · obtain ⟨k1, _, k4⟩ := hg c o1 hc
    obtain ⟨l1, _, l4⟩ := hg d o2 hdd
    rw [hd c k1] at e1
    rw [hd d l1] at e2
    have := hR.sim.inj _ _ _ _ r x y k4 l4 e1 e2
    have k1 := dH_iff.1 k1
    have l1 := dH_iff.1 l1
    simp only [back] at this
    split at this <;> split at this <;> omega
  · rw [e2] at hc
    simp only [ρ2]
    rw [if_neg (by omega), if_neg (by omega)]
    split
    · rfl
    · exact hC c (by
        show (h.next ≤ c ∧ c < OFF) ∨ (OFF + h.hn ≤ c ∧ c < 2 * OFF)
        omega)
  · obtain ⟨k1, _, k4⟩ := hg c o hc
    rw [hd c k1] at e1
    exact ⟨_, _, x, k4, e1⟩
  · simp only [ρ2]
    rw [if_neg (by omega), if_neg (by omega), if_neg (by omega)]
  · simp only [ρ2]
    rw [if_neg (by omega), if_neg (by omega), if_neg (by omega)]
end
/-- a piece of a slice, between two numbers -/
def sliceSlV (size : Nat) (x : Value) (lo hi : Int) : Option Value :=
  match x with
    | .slice a len cap => do
      let h ← sliceB len cap (some (.int .i64 hi))
      let l ← sliceB 0 h (some (.int .i64 lo))
      match a with
      | none => if l = 0 then some (.slice none (h - l) (cap - l)) else none
      | some ⟨b, o, none⟩ => if l = 0 then some (.slice (some ⟨b, o, none⟩) h cap) else if l < cap then some (.slice (some ⟨b, o + l * size, none⟩) (h - l) (cap - l)) else none
      | _ => none
    | _ => none
namespace Fx
theorem sliceSl {b n c : Nat} (h : 2 ≤ n) (hc : 2 ≤ c) : sliceSlV 1 (.slice (some ⟨b, 0, none⟩) n c) 1 2 = some (.slice (some ⟨b, 1, none⟩) 1 (c - 1)) := by
  unfold sliceSlV
  have h1 : sliceB n c (some (.int .i64 2)) = some 2 := by
    simp only [sliceB]
    rw [if_pos ⟨by omega, by omega⟩]
    rfl
  have h2 : sliceB 0 2 (some (.int .i64 1)) = some 1 := rfl
  simp only [h1, h2, Option.bind_eq_bind, Option.bind_some]
  rw [if_neg (by omega), if_pos (by omega)]
theorem append {elem : TypeId} {size bytes : Nat} {H : AH} {b r n N : Nat} (hN : H.next = N) {cs news : List Value} {fz : Nat} {x : Value} (hg : H.get b = some (.cells cs elem (some size) fz)) (hx : newCells H.get size x = some (n, news)) (h1 : news.all oneC = true)
    (hn : 0 < n) (hl : cs.length = r * size) (hfz : fz ≤ r * size) (hb : (2 * (r + n) + 768) * bytes ≤ 281474976710656) :
    doAppend elem size bytes H (.slice (some ⟨b, 0, none⟩) r r) x = some (.slice (some ⟨N, 0, none⟩) (r + n) (r + n), (H.put b none).add (.cells (cs ++ news) elem (some size) fz)) := by
  subst hN
  unfold doAppend
  simp only [hx, hg, h1, if_true]
  rw [if_neg (by omega), if_pos ⟨hb, by omega⟩, if_pos ⟨trivial, trivial, trivial, hl, hfz, Nat.le_refl _⟩]
  rw [← hl, List.take_length]
theorem ite_some {α : Type} {c : Prop} [Decidable c] {a b : Option α} (h : c) : (if c then a else b) = a := if_pos h
theorem ite_none {α : Type} {c : Prop} [Decidable c] {a b : Option α} (h : ¬ c) : (if c then a else b) = b := if_neg h
end Fx
end Go.Am
