import Derived.Test.YtikphefllmemjaaGreatDoorAm27
/-
The engine, part 28: from state to state up to the names of blocks, what lies about left out: so that loops come back to where they were.
-/
namespace Go.Am
open Go
set_option linter.unusedVariables false
set_option linter.unusedSimpArgs false


/-! ### renaming -/
def ren (K : Nat) (σ : List (Nat × Nat)) (b : Nat) : Nat := if b < K then b else if OFF ≤ b then b else ((σ.find? fun p => p.1 == b).map (·.2)).getD 0
def inDom (K : Nat) (σ : List (Nat × Nat)) (b : Nat) : Bool := decide (b < K) || (decide (OFF ≤ b) && decide (b < 2 * OFF)) || σ.any fun p => p.1 == b

def renV (r : Nat → Nat) : Nat → Value → Value
  | 0, v => v
  | n + 1, v => match v with
    | .pointer (some ⟨b, o, none⟩) => .pointer (some ⟨r b, o, none⟩)
    | .slice (some ⟨b, o, none⟩) l c => .slice (some ⟨r b, o, none⟩) l c
    | .map (some b) => .map (some (r b))
    | .iface t v => .iface t (renV r n v)
    | .func f a c => .func f ⟨a.toList.map (renV r n)⟩ ⟨c.toList.map (renV r n)⟩
    | .agg a => .agg ⟨a.toList.map (renV r n)⟩
    | .tuple a => .tuple ⟨a.toList.map (renV r n)⟩
    | v => v

/-- all its addresses are in the domain -/
def domV (d : Nat → Bool) : Nat → Value → Bool
  | 0, _ => false
  | n + 1, v => match v with
    | .bool _ | .int _ _ | .float _ _ | .string _ | .pointer none | .slice none _ _ | .map none | .nilFunc | .nilIface => true
    | .pointer (some ⟨b, _, none⟩) => d b
    | .slice (some ⟨b, _, none⟩) _ _ => d b
    | .map (some b) => d b
    | .iface _ v => domV d n v
    | .func _ a c => a.toList.all (domV d n) && c.toList.all (domV d n)
    | .agg a => a.toList.all (domV d n)
    | .tuple a => a.toList.all (domV d n)
    | _ => false

section
variable {ρ ρ2 : Ren} {d : Nat → Bool} {r : Nat → Nat}

theorem renV_ok (hρ : ∀ b, d b = true → ρ2 b = ρ (r b)) : ∀ (n : Nat) (v x : Value), domV d n v = true → Rv ρ (renV r n v) x → Rv ρ2 v x
  | 0, v, x, h, _ => by simp [domV] at h
  | n + 1, v, x, h, k => by
    have hl : ∀ (l l' : List Value), l.all (domV d n) = true → Rvs ρ (l.map (renV r n)) l' → Rvs ρ2 l l' := fun l l' h1 h2 =>
      ⟨by simpa using h2.1, fun i u u' h3 h4 => renV_ok hρ n u u' (List.all_eq_true.1 h1 u (List.mem_of_getElem? h3)) (h2.2 i _ u' (by rw [List.getElem?_map, h3]; rfl) h4)⟩
    cases v with
    | bool b => simp only [renV] at k; cases k; exact .bool b
    | int a b => simp only [renV] at k; cases k; exact .int a b
    | float a b => simp only [renV] at k; cases k; exact .float a b
    | string b => simp only [renV] at k; cases k; exact .string b
    | nilFunc => simp only [renV] at k; cases k; exact .nilFunc
    | nilIface => simp only [renV] at k; cases k; exact .nilIface
    | pointer a =>
      cases a with
      | none => simp only [renV] at k; cases k; exact .ptrNil
      | some a =>
        obtain ⟨b, o, z⟩ := a
        cases z with
        | none => simp only [renV] at k; simp only [domV] at h; cases k with | ptr e => exact .ptr (by rw [hρ b h]; exact e)
        | some z => simp [domV] at h
    | slice a l c =>
      cases a with
      | none => simp only [renV] at k; cases k; exact .sliceNil l c
      | some a =>
        obtain ⟨b, o, z⟩ := a
        cases z with
        | none => simp only [renV] at k; simp only [domV] at h; cases k with | slice e => exact .slice (by rw [hρ b h]; exact e)
        | some z => simp [domV] at h
    | map a =>
      cases a with
      | none => simp only [renV] at k; cases k; exact .mapNil
      | some b => simp only [renV] at k; simp only [domV] at h; cases k with | map e => exact .map (by rw [hρ b h]; exact e)
    | iface t v => simp only [renV] at k; simp only [domV] at h; cases k with | iface _ e => exact .iface t (renV_ok hρ n v _ h e)
    | func f a c =>
      simp only [renV] at k
      simp only [domV, Bool.and_eq_true] at h
      cases k with
      | func _ h1 h2 h3 h4 => exact Rv.func' (a := a.toList) (c := c.toList) (hl _ _ h.1 ⟨h1, h3⟩) (hl _ _ h.2 ⟨h2, h4⟩)
    | agg a => simp only [renV] at k; simp only [domV] at h; cases k with | agg h1 h2 => exact Rv.agg' (a := a.toList) (hl _ _ h ⟨h1, h2⟩)
    | tuple a => simp only [renV] at k; simp only [domV] at h; cases k with | tuple h1 h2 => exact Rv.tuple' (a := a.toList) (hl _ _ h ⟨h1, h2⟩)
    | _ => simp [domV] at h

theorem agree_ok (hρ : ∀ b, d b = true → ρ2 b = ρ b) : ∀ (n : Nat) (v x : Value), domV d n v = true → Rv ρ v x → Rv ρ2 v x
  | 0, v, x, h, _ => by simp [domV] at h
  | n + 1, v, x, h, k => by
    have hl : ∀ (l l' : List Value), l.all (domV d n) = true → Rvs ρ l l' → Rvs ρ2 l l' := fun l l' h1 h2 =>
      ⟨h2.1, fun i u u' h3 h4 => agree_ok hρ n u u' (List.all_eq_true.1 h1 u (List.mem_of_getElem? h3)) (h2.2 i _ u' h3 h4)⟩
    cases k with
    | bool b => exact .bool b
    | int a b => exact .int a b
    | float a b => exact .float a b
    | string b => exact .string b
    | nilFunc => exact .nilFunc
    | nilIface => exact .nilIface
    | ptrNil => exact .ptrNil
    | ptr e => simp only [domV] at h; exact .ptr (by rw [hρ _ h]; exact e)
    | sliceNil l c => exact .sliceNil l c
    | slice e => simp only [domV] at h; exact .slice (by rw [hρ _ h]; exact e)
    | mapNil => exact .mapNil
    | map e => simp only [domV] at h; exact .map (by rw [hρ _ h]; exact e)
    | iface t e => simp only [domV] at h; exact .iface t (agree_ok hρ n _ _ h e)
    | func f h1 h2 h3 h4 => simp only [domV, Bool.and_eq_true] at h; exact Rv.func' (hl _ _ h.1 ⟨h1, h3⟩) (hl _ _ h.2 ⟨h2, h4⟩)
    | agg h1 h2 => simp only [domV] at h; exact Rv.agg' (hl _ _ h ⟨h1, h2⟩)
    | tuple h1 h2 => simp only [domV] at h; exact Rv.tuple' (hl _ _ h ⟨h1, h2⟩)

theorem junk_list {a' : List Value} (h : ∀ (i : Nat) v', a'[i]? = some v' → ∃ v, Rv ρ2 v v') : ∃ a, Rvs ρ2 a a' := by
  induction a' with
  | nil => exact ⟨[], Rvs.nil⟩
  | cons x l ih =>
    obtain ⟨v, hv⟩ := h 0 x rfl
    obtain ⟨a, ha⟩ := ih (fun i v' hi => h (i + 1) v' (by simpa using hi))
    exact ⟨v :: a, Rvs.cons hv ha⟩

/-- whatever a value is, it is somewhere -/
theorem junk_ok (hall : ∀ b p, ρ b = some p → ∃ b', ρ2 b' = some p) {v x : Value} (h : Rv ρ v x) : ∃ v', Rv ρ2 v' x := by
  have hl : ∀ {a a' : List Value}, a.length = a'.length → (∀ (i : Nat) v v', a[i]? = some v → a'[i]? = some v' → ∃ u, Rv ρ2 u v') → ∃ u, Rvs ρ2 u a' := fun {a a'} h1 h2 => by
    refine junk_list fun i v' hi => ?_
    have hi' : i < a.length := by rw [h1]; exact (List.getElem?_eq_some_iff.1 hi).1
    exact h2 i a[i] v' (by simp [hi']) hi
  induction h with
  | bool b => exact ⟨_, .bool b⟩
  | int a b => exact ⟨_, .int a b⟩
  | float a b => exact ⟨_, .float a b⟩
  | string b => exact ⟨_, .string b⟩
  | nilFunc => exact ⟨_, .nilFunc⟩
  | nilIface => exact ⟨_, .nilIface⟩
  | ptrNil => exact ⟨_, .ptrNil⟩
  | ptr e => obtain ⟨b', hb⟩ := hall _ _ e; exact ⟨_, .ptr hb⟩
  | sliceNil l c => exact ⟨_, .sliceNil l c⟩
  | slice e => obtain ⟨b', hb⟩ := hall _ _ e; exact ⟨_, .slice hb⟩
  | mapNil => exact ⟨_, .mapNil⟩
  | map e => obtain ⟨b', hb⟩ := hall _ _ e; exact ⟨_, .map hb⟩
  | iface t _ ih => obtain ⟨u, hu⟩ := ih; exact ⟨_, .iface t hu⟩
  | func f h1 h2 _ _ ih1 ih2 => obtain ⟨u, hu⟩ := hl h1 ih1; obtain ⟨u2, hu2⟩ := hl h2 ih2; exact ⟨_, Rv.func' (f := f) hu hu2⟩
  | agg h1 _ ih => obtain ⟨u, hu⟩ := hl h1 ih; exact ⟨_, Rv.agg' hu⟩
  | tuple h1 _ ih => obtain ⟨u, hu⟩ := hl h1 ih; exact ⟨_, Rv.tuple' hu⟩

def renO (r : Nat → Nat) : VObj → VObj
  | .cells cs e s f => .cells (cs.map (renV r 8)) e s f
  | .map es c => .map (es.map fun e => { e with val := renV r 8 e.val }) c
def domO (d : Nat → Bool) : VObj → Bool
  | .cells cs _ _ _ => cs.all (domV d 8)
  | .map es _ => es.all fun e => domV d 8 e.val

theorem renO_ok (hρ : ∀ b, d b = true → ρ2 b = ρ (r b)) {x : Nat} {o : VObj} {o' : Obj} (h : domO d o = true) (k : RObj ρ x (renO r o) o') : RObj ρ2 x o o' := by
  cases o with
  | cells cs e s f =>
    simp only [renO] at k
    simp only [domO] at h
    cases k with
    | cells h1 h2 h3 =>
      exact .cells ⟨by simpa using h1.1, fun i u u' h4 h5 => renV_ok hρ 8 u u' (List.all_eq_true.1 h u (List.mem_of_getElem? h4)) (h1.2 i _ u' (by rw [List.getElem?_map, h4]; rfl) h5)⟩ h2 h3
  | map es c =>
    simp only [renO] at k
    simp only [domO] at h
    cases k with
    | map h1 h2 h3 =>
      refine .map (by simpa using h1) (fun i e e' h4 h5 => ?_) h3
      have := h2 i _ e' (by rw [List.getElem?_map, h4]; rfl) h5
      exact ⟨this.1, this.2.1, this.2.2.1, renV_ok hρ 8 _ _ (List.all_eq_true.1 h e (List.mem_of_getElem? h4)) this.2.2.2⟩
theorem agreeO_ok (hρ : ∀ b, d b = true → ρ2 b = ρ b) {x : Nat} {o : VObj} {o' : Obj} (h : domO d o = true) (k : RObj ρ x o o') : RObj ρ2 x o o' := by
  cases k with
  | cells h1 h2 h3 =>
    simp only [domO] at h
    exact .cells ⟨h1.1, fun i u u' h4 h5 => agree_ok hρ 8 u u' (List.all_eq_true.1 h u (List.mem_of_getElem? h4)) (h1.2 i _ u' h4 h5)⟩ h2 h3
  | map h1 h2 h3 =>
    simp only [domO] at h
    refine .map h1 (fun i e e' h4 h5 => ?_) h3
    have := h2 i _ e' h4 h5
    exact ⟨this.1, this.2.1, this.2.2.1, agree_ok hρ 8 _ _ (List.all_eq_true.1 h e (List.mem_of_getElem? h4)) this.2.2.2⟩
end

/-! ### states with some of the temporaries left open -/
def fillT : List (Option Value) → (Nat → Value) → Nat → List Value
  | [], _, _ => []
  | some v :: l, j, i => v :: fillT l j (i + 1)
  | none :: l, j, i => j i :: fillT l j (i + 1)
def selT : List (Option Value) → List Value → List Value
  | some _ :: p, t :: ts => t :: selT p ts
  | none :: p, _ :: ts => selT p ts
  | _, _ => []
def liveT : List (Option Value) → List Value
  | [] => []
  | some v :: l => v :: liveT l
  | none :: l => liveT l

theorem fillT_congr : ∀ (l : List (Option Value)) {j j' : Nat → Value} {i : Nat}, (∀ k, i ≤ k → j k = j' k) → fillT l j i = fillT l j' i
  | [], _, _, _, _ => rfl
  | some v :: l, j, j', i, h => by simp only [fillT]; rw [fillT_congr l (i := i + 1) (fun k hk => h k (by omega))]
  | none :: l, j, j', i, h => by simp only [fillT]; rw [fillT_congr l (i := i + 1) (fun k hk => h k (by omega)), h i (Nat.le_refl _)]

theorem fill_ok {ρ ρ2 : Ren} {d : Nat → Bool} {r : Nat → Nat} (hρ : ∀ b, d b = true → ρ2 b = ρ (r b)) (hall : ∀ b p, ρ b = some p → ∃ b', ρ2 b' = some p) :
    ∀ (pat : List (Option Value)) (ts rs : List Value) (i : Nat), Rvs ρ ts rs → ts.length = pat.length → selT pat ts = (liveT pat).map (renV r 8) → (liveT pat).all (domV d 8) = true →
      ∃ j, Rvs ρ2 (fillT pat j i) rs
  | [], ts, rs, i, h, hl, _, _ => by
    have : ts = [] := List.eq_nil_of_length_eq_zero hl
    subst this
    exact ⟨fun _ => undef, by rw [h.nil_inv]; exact Rvs.nil⟩
  | p :: pat, [], rs, i, h, hl, _, _ => by simp at hl
  | some v :: pat, t :: ts, rs, i, h, hl, hs, hd => by
    obtain ⟨x, xs, rfl, h1, h2⟩ := h.cons_inv
    simp only [selT, liveT, List.map_cons, List.cons.injEq] at hs
    simp only [liveT, List.all_cons, Bool.and_eq_true] at hd
    obtain ⟨j, hj⟩ := fill_ok hρ hall pat ts xs (i + 1) h2 (by simpa using hl) hs.2 hd.2
    rw [hs.1] at h1
    exact ⟨j, Rvs.cons (renV_ok hρ 8 v x hd.1 h1) hj⟩
  | none :: pat, t :: ts, rs, i, h, hl, hs, hd => by
    obtain ⟨x, xs, rfl, h1, h2⟩ := h.cons_inv
    simp only [selT, liveT] at hs
    simp only [liveT] at hd
    obtain ⟨j, hj⟩ := fill_ok hρ hall pat ts xs (i + 1) h2 (by simpa using hl) hs hd
    obtain ⟨u, hu⟩ := junk_ok hall h1
    refine ⟨fun k => if k = i then u else j k, ?_⟩
    simp only [fillT, if_true]
    rw [fillT_congr pat (j' := j) (i := i + 1) (fun k hk => by show (if k = i then u else j k) = j k; rw [if_neg (by omega)])]
    exact Rvs.cons hu hj

/-! ### heaps from lists -/
def mkTr : List (Nat × VObj) → Tr → Tr
  | [], t => t
  | p :: l, t => mkTr l (t.set p.1 (some p.2))
/-- a heap: the next number, its blocks, the families of blocks -/
def mkG (next : Nat) (l : List (Nat × VObj)) (n : Nat) (F : Nat → Option VObj) : AH := ⟨next, mkTr l .lf, n, F⟩
def noF : Nat → Option VObj := fun _ => none
def mkH (next : Nat) (l : List (Nat × VObj)) : AH := mkG next l 0 noF
theorem mkTr_get : ∀ (l : List (Nat × VObj)) (t : Tr) (b : Nat) (o : VObj), (mkTr l t).get b = some o → t.get b = some o ∨ (b, o) ∈ l
  | [], t, b, o, h => .inl h
  | p :: l, t, b, o, h => by
    simp only [mkTr] at h
    rcases mkTr_get l _ b o h with h1 | h1
    · rw [Tr.get_set] at h1
      split at h1
      · rename_i e; subst e; cases h1; exact .inr (List.mem_cons_self ..)
      · exact .inl h1
    · exact .inr (List.mem_cons_of_mem _ h1)
theorem mkG_get {n m : Nat} {l : List (Nat × VObj)} {F : Nat → Option VObj} {b : Nat} {o : VObj} (h : (mkG n l m F).get b = some o) : (b, o) ∈ l ∨ (OFF ≤ b ∧ F b = some o) := by
  unfold AH.get at h
  split at h
  · rename_i e; exact .inr ⟨Nat.le_of_ble_eq_true e, h⟩
  · rcases mkTr_get l .lf b o h with h1 | h1
    · simp [Tr.get] at h1
    · exact .inl h1
theorem mkH_get {n : Nat} {l : List (Nat × VObj)} {b : Nat} {o : VObj} (h : (mkH n l).get b = some o) : (b, o) ∈ l := by
  rcases mkG_get h with h1 | ⟨_, h1⟩
  · exact h1
  · cases h1

/-! ### what stays of the history of a state -/
structure Hist (K : Nat) (ρ0 : Ren) (h0 : AH) (w0 : World) (ρ : Ren) (h : AH) (w : World) : Prop where
  os : w.os = w0.os
  output : w.output = w0.output
  size : w0.heap.size ≤ w.heap.size
  frame : ∀ r, r < w0.heap.size → (∀ b o x, h0.get b = some o → ρ0 b = some (r, x) → False) → w.heap[r]? = w0.heap[r]?
  new : ∀ b o r x, h.get b = some o → ρ b = some (r, x) → r < w0.heap.size → ∃ c o' y, h0.get c = some o' ∧ ρ0 c = some (r, y)
  anch : ∀ b, b < K → ρ b = ρ0 b
  fam : ∀ b, OFF ≤ b → b < OFF + h0.hn → b < 2 * OFF → ρ b = ρ0 b
  hn : h0.hn ≤ h.hn
theorem Hist.refl (K : Nat) (ρ : Ren) (h : AH) (w : World) : Hist K ρ h w ρ h w :=
  ⟨rfl, rfl, Nat.le_refl _, fun _ _ _ => rfl, fun b o r x h1 h2 _ => ⟨b, o, x, h1, h2⟩, fun _ _ => rfl, fun _ _ _ _ => rfl, Nat.le_refl _⟩
theorem Hist.trans {K : Nat} {ρ ρ1 ρ2 : Ren} {g g1 g2 : AH} {w w1 w2 : World} (h : Hist K ρ g w ρ1 g1 w1) (k : Hist K ρ1 g1 w1 ρ2 g2 w2) : Hist K ρ g w ρ2 g2 w2 := by
  refine ⟨k.os.trans h.os, k.output.trans h.output, Nat.le_trans h.size k.size, fun r hr hn => ?_, fun b o r x hb hρ hr => ?_, fun b hb => (k.anch b hb).trans (h.anch b hb), fun b h1 h2 h3 => (k.fam b h1 (by have := h.hn; omega) h3).trans (h.fam b h1 h2 h3), Nat.le_trans h.hn k.hn⟩
  · rw [k.frame r (Nat.lt_of_lt_of_le hr h.size) (fun b o x hb hρ => ?_), h.frame r hr hn]
    obtain ⟨c, o', y, hc, hy⟩ := h.new b o r x hb hρ hr
    exact hn c o' y hc hy
  · obtain ⟨c, o', y, hc, hy⟩ := k.new b o r x hb hρ (Nat.lt_of_lt_of_le hr h.size)
    exact h.new c o' r y hc hy hr
theorem Hist.of_goes {K : Nat} {ρ ρ' : Ren} {h h' : AH} {w w' : World} (g : Goes ρ h w ρ' h' w') (hK : K ≤ h.next) (hle : AH.le h h') (ho : h'.next ≤ OFF) : Hist K ρ h w ρ' h' w' :=
  ⟨g.ext.os, g.ext.output, g.ext.size, g.ext.frame, g.ext.new,
    fun b hb => g.only b (fun k => by have := hle.1; unfold isNew at k; omega), fun b h1 h2 _ => g.only b (fun k => by unfold isNew at k; omega), hle.2⟩

/-- free: what would be next, and the families that would be next -/
def Clear (ρ : Ren) (h : AH) : Prop := ∀ b, ((h.next ≤ b ∧ b < OFF) ∨ (OFF + h.hn ≤ b ∧ b < 2 * OFF)) → ρ b = none

/-! ### renaming a state -/
def ren2 (K : Nat) (σ : List (Nat × Nat)) (ρ : Ren) : Ren := fun b =>
  if b < K then ρ b else if OFF ≤ b ∧ b < 2 * OFF then ρ b else match σ.find? fun p => p.1 == b with
    | some p => ρ p.2
    | none => if 2 * OFF ≤ b then ρ (b - 2 * OFF) else none
def nodup2 : List (Nat × Nat) → Bool
  | [] => true
  | p :: l => l.all (fun q => p.2 != q.2) && nodup2 l
theorem nodup2_ok : ∀ {l : List (Nat × Nat)}, nodup2 l = true → ∀ p ∈ l, ∀ q ∈ l, p.2 = q.2 → p = q
  | [], _, p, hp, _, _, _ => by simp at hp
  | a :: l, h, p, hp, q, hq, e => by
    simp only [nodup2, Bool.and_eq_true, List.all_eq_true] at h
    rcases List.mem_cons.1 hp with e1 | hp1 <;> rcases List.mem_cons.1 hq with e2 | hq1
    · rw [e1, e2]
    · have := h.1 q hq1; rw [← e1] at this; simp [e] at this
    · have := h.1 p hp1; rw [← e2] at this; simp [e] at this
    · exact nodup2_ok h.2 p hp1 q hq1 e

/-- what is to be looked at, of the renaming alone -/
def okσ (K next : Nat) (σ : List (Nat × Nat)) : Bool :=
  decide (fixN ≤ K) && decide (K ≤ next) && decide (next ≤ OFF) && (σ.all fun p => decide (K ≤ p.1) && decide (p.1 < next) && decide (K ≤ p.2) && decide (p.2 < OFF)) && nodup2 σ
def okHp (d : Nat → Bool) (l : List (Nat × VObj)) : Bool := l.all fun p => d p.1 && domO d p.2

/-- the same under names that are kept: below K, of families -/
def StabV (K : Nat) (v : Value) : Prop := ∀ σ, renV (ren K σ) 8 v = v ∧ domV (inDom K σ) 8 v = true
structure StabO (K : Nat) (o : VObj) : Prop where
  ren : ∀ σ, renO (ren K σ) o = o
  dom : ∀ σ, domO (inDom K σ) o = true
/-- families of such blocks -/
def FamOk (K : Nat) (F : Nat → Option VObj) : Prop := ∀ b o, F b = some o → OFF ≤ b → b < 2 * OFF ∧ StabO K o
theorem noF_ok (K : Nat) : FamOk K noF := fun b o h => by cases h

section
variable {K next : Nat} {σ : List (Nat × Nat)} {ρ : Ren}

theorem find_key {σ : List (Nat × Nat)} {b : Nat} {p : Nat × Nat} (h : σ.find? (fun p => p.1 == b) = some p) : p ∈ σ ∧ p.1 = b :=
  ⟨List.mem_of_find?_eq_some h, by have := List.find?_some h; simpa using this⟩

theorem okσ_parts (h : okσ K next σ = true) : fixN ≤ K ∧ K ≤ next ∧ next ≤ OFF ∧ (∀ p ∈ σ, K ≤ p.1 ∧ p.1 < next ∧ K ≤ p.2 ∧ p.2 < OFF) ∧ nodup2 σ = true := by
  simp only [okσ, Bool.and_eq_true, decide_eq_true_eq, List.all_eq_true] at h
  exact ⟨h.1.1.1.1, h.1.1.1.2, h.1.1.2, fun p hp => ⟨(h.1.2 p hp).1.1.1, (h.1.2 p hp).1.1.2, (h.1.2 p hp).1.2, (h.1.2 p hp).2⟩, h.2⟩

theorem inDom_iff {b : Nat} : inDom K σ b = true ↔ b < K ∨ (OFF ≤ b ∧ b < 2 * OFF) ∨ ∃ p, p ∈ σ ∧ p.1 = b := by
  unfold inDom
  rw [Bool.or_eq_true, Bool.or_eq_true, Bool.and_eq_true, decide_eq_true_eq, decide_eq_true_eq, decide_eq_true_eq, List.any_eq_true, or_assoc]
  simp only [beq_iff_eq]
theorem ren2_dom (h : okσ K next σ = true) {b : Nat} (hb : inDom K σ b = true) : ren2 K σ ρ b = ρ (ren K σ b) := by
  obtain ⟨h1, h2, h3, h4, _⟩ := okσ_parts h
  unfold ren2 ren
  by_cases hk : b < K
  · rw [if_pos hk, if_pos hk]
  · rw [if_neg hk, if_neg hk]
    by_cases ho : OFF ≤ b ∧ b < 2 * OFF
    · rw [if_pos ho, if_pos ho.1]
    · rw [if_neg ho]
      obtain ⟨p, hp, e⟩ := ((inDom_iff.1 hb).resolve_left hk).resolve_left ho
      have := (h4 p hp).2.1
      rw [if_neg (show ¬ OFF ≤ b by omega)]
      cases hf : σ.find? (fun p => p.1 == b) with
      | some p => rfl
      | none => exact absurd e (by simpa using List.find?_eq_none.1 hf p hp)

theorem ren2_all (h : okσ K next σ = true) : ∀ b p, ρ b = some p → ∃ b', ren2 K σ ρ b' = some p := by
  obtain ⟨h1, h2, h3, h4, _⟩ := okσ_parts h
  intro b p hb
  refine ⟨2 * OFF + b, ?_⟩
  unfold ren2
  rw [if_neg (by omega), if_neg (by omega)]
  have : σ.find? (fun p => p.1 == 2 * OFF + b) = none := by
    rw [List.find?_eq_none]
    intro q hq
    have := (h4 q hq).2.1
    simp only [beq_iff_eq]
    omega
  rw [this]
  simp only
  rw [if_pos (by omega), Nat.add_sub_cancel_left]
  exact hb
theorem ren2_clear (h : okσ K next σ = true) {l : List (Nat × VObj)} {n : Nat} {F : Nat → Option VObj} {hp : AH} (hc : Clear ρ hp) (hn : hp.hn = n) : Clear (ren2 K σ ρ) (mkG next l n F) := by
  obtain ⟨h1, h2, h3, h4, _⟩ := okσ_parts h
  intro b hb
  have e1 : (mkG next l n F).next = next := rfl
  have e2 : (mkG next l n F).hn = n := rfl
  rw [e1, e2] at hb
  unfold ren2
  rw [if_neg (by omega)]
  rcases hb with hb | hb
  · rw [if_neg (by omega)]
    have : σ.find? (fun p => p.1 == b) = none := by
      rw [List.find?_eq_none]
      intro q hq
      have := (h4 q hq).2.1
      simp only [beq_iff_eq]
      omega
    rw [this]
    simp only
    rw [if_neg (by omega)]
  · rw [if_pos (by omega)]
    exact hc b (.inr (by omega))
theorem ren_inj (h : okσ K next σ = true) {b c : Nat} (hb : inDom K σ b = true) (hc : inDom K σ c = true) (e : ren K σ b = ren K σ c) : b = c := by
  obtain ⟨h1, h2, h3, h4, h5⟩ := okσ_parts h
  have key : ∀ b, inDom K σ b = true → (ren K σ b = b ∧ (b < K ∨ OFF ≤ b)) ∨ ∃ p, p ∈ σ ∧ p.1 = b ∧ ren K σ b = p.2 := by
    intro b hb
    by_cases hk : b < K
    · exact .inl ⟨by unfold ren; rw [if_pos hk], .inl hk⟩
    · by_cases ho : OFF ≤ b
      · exact .inl ⟨by unfold ren; rw [if_neg hk, if_pos ho], .inr ho⟩
      · right
        obtain ⟨p, hp, e⟩ := ((inDom_iff.1 hb).resolve_left hk).resolve_left (fun x => ho x.1)
        cases hf : σ.find? (fun p => p.1 == b) with
        | none => exact absurd e (by simpa using List.find?_eq_none.1 hf p hp)
        | some q =>
          obtain ⟨h6, h7⟩ := find_key hf
          exact ⟨q, h6, h7, by unfold ren; rw [if_neg hk, if_neg ho, hf]; rfl⟩
  rcases key b hb with ⟨e1, k1⟩ | ⟨p, h6, h7, h8⟩ <;> rcases key c hc with ⟨e2, k2⟩ | ⟨q, k6, k7, k8⟩
  · rw [e1, e2] at e; exact e
  · have := h4 q k6
    rw [e1, k8] at e
    omega
  · have := h4 p h6
    rw [h8, e2] at e
    omega
  · rw [h8, k8] at e
    have := nodup2_ok h5 p h6 q k6 e
    rw [← h7, ← k7, this]

theorem ren_sim (h : okσ K next σ = true) {hp : AH} {w : World} (hS : Sim ρ hp.get w) {l : List (Nat × VObj)} {n : Nat} {F : Nat → Option VObj} (hl : okHp (inDom K σ) l = true)
    (hm : l.map (fun p => hp.get (ren K σ p.1)) = l.map (fun p => some (renO (ren K σ) p.2))) (hn : hp.hn = n) (hF : hp.hid = F) (hfam : FamOk K F) :
    Sim (ren2 K σ ρ) (mkG next l n F).get w ∧ Hist K ρ hp w (ren2 K σ ρ) (mkG next l n F) w := by
  obtain ⟨h1, h2, h3, h4, h5⟩ := okσ_parts h
  have hin : ∀ b o, (mkG next l n F).get b = some o → inDom K σ b = true ∧ domO (inDom K σ) o = true ∧ hp.get (ren K σ b) = some (renO (ren K σ) o) := by
    intro b o hb
    rcases mkG_get hb with hmem | ⟨ho, hb⟩
    · have := List.all_eq_true.1 hl _ hmem
      simp only [Bool.and_eq_true] at this
      exact ⟨this.1, this.2, List.map_inj_left.1 hm _ hmem⟩
    · obtain ⟨k1, k2⟩ := hfam b o hb ho
      refine ⟨?_, k2.dom σ, ?_⟩
      · exact inDom_iff.2 (.inr (.inl ⟨ho, k1⟩))
      · have e1 : Am.ren K σ b = b := by unfold Am.ren; rw [if_neg (by omega), if_pos ho]
        rw [k2.ren σ, e1]
        unfold AH.get
        rw [Nat.ble_eq_true_of_le ho, hF]
        exact hb
  refine ⟨⟨fun b hb => ?_, fun b o hb => ?_, fun b c o1 o2 r x y hb hc e1 e2 => ?_⟩, ⟨rfl, rfl, Nat.le_refl _, fun _ _ _ => rfl, fun b o r x hb e1 _ => ?_, fun b hb => ?_, fun b k1 k2 k3 => ?_, by rw [hn]; exact Nat.le_refl _⟩⟩
  · unfold ren2; rw [if_pos (by omega)]; exact hS.fix b hb
  · obtain ⟨k1, k2, k3⟩ := hin b o hb
    obtain ⟨r, x, o', m1, m2, m3⟩ := hS.blk _ _ k3
    exact ⟨r, x, o', by rw [ren2_dom h k1]; exact m1, m2, renO_ok (fun b hb => ren2_dom h hb) k2 m3⟩
  · obtain ⟨k1, _, k3⟩ := hin b o1 hb
    obtain ⟨l1, _, l3⟩ := hin c o2 hc
    rw [ren2_dom h k1] at e1
    rw [ren2_dom h l1] at e2
    exact ren_inj h k1 l1 (hS.inj _ _ _ _ r x y k3 l3 e1 e2)
  · obtain ⟨k1, _, k3⟩ := hin b o hb
    rw [ren2_dom h k1] at e1
    exact ⟨_, _, x, k3, e1⟩
  · unfold ren2; rw [if_pos hb]
  · unfold ren2
    by_cases hk : b < K
    · rw [if_pos hk]
    · rw [if_neg hk, if_pos ⟨k1, k3⟩]
end

theorem RDs.empty {ρ : Ren} {d : List Deferred} (h : RDs ρ [] d) : d = [] := by cases h; rfl
/-- deferred calls under other names -/
def renD (r : Nat → Nat) (ds : List (FuncId × List Value)) : List (FuncId × List Value) := ds.map fun p => (p.1, p.2.map (renV r 8))
def domD (d : Nat → Bool) (ds : List (FuncId × List Value)) : Bool := ds.all fun p => p.2.all (domV d 8)
theorem renD_ok {ρ ρ2 : Ren} {d : Nat → Bool} {r : Nat → Nat} (hρ : ∀ b, d b = true → ρ2 b = ρ (r b)) : ∀ {ds : List (FuncId × List Value)} {ds' : List Deferred}, domD d ds = true → RDs ρ (renD r ds) ds' → RDs ρ2 ds ds'
  | [], ds', _, h => by cases h; exact .nil
  | (f, args) :: ds, ds', hd, h => by
    simp only [domD, List.all_cons, Bool.and_eq_true] at hd
    simp only [renD, List.map_cons] at h
    cases h with
    | cons ha ht =>
      refine .cons ⟨by simpa using ha.1, fun i u u' h1 h2 => ?_⟩ (renD_ok hρ hd.2 ht)
      exact renV_ok hρ 8 u u' (List.all_eq_true.1 hd.1 u (List.mem_of_getElem? h1)) (ha.2 i _ u' (by rw [List.getElem?_map, h1]; rfl) h2)

/-- a state and the same under other names, the rest left out -/
theorem Rel.renamed {K next : Nat} {σ : List (Nat × Nat)} {ρ : Ren} {st : St} {a : Act} {w : World} (hR : Rel ρ st a w) (h : okσ K next σ = true) {pat : List (Option Value)} {l : List (Nat × VObj)} {n : Nat} {F : Nat → Option VObj}
    (hl : okHp (inDom K σ) l = true) (hm : l.map (fun p => st.h.get (ren K σ p.1)) = l.map (fun p => some (renO (ren K σ) p.2))) (hnn : st.h.hn = n) (hF : st.h.hid = F) (hfam : FamOk K F)
    (hp : (liveT pat).all (domV (inDom K σ) 8) = true) (hs : selT pat st.tmps = (liveT pat).map (renV (ren K σ) 8)) (hn : st.tmps.length = pat.length) {ds : List (FuncId × List Value)} (hd : st.ds = renD (ren K σ) ds) (hdd : domD (inDom K σ) ds = true) :
    ∃ j, Rel (ren2 K σ ρ) ⟨fillT pat j 0, mkG next l n F, ds⟩ a w ∧ Hist K ρ st.h w (ren2 K σ ρ) (mkG next l n F) w := by
  obtain ⟨h1, h2⟩ := ren_sim (next := next) h hR.sim hl hm hnn hF hfam
  obtain ⟨j, hj⟩ := fill_ok (fun b hb => ren2_dom (ρ := ρ) h hb) (ren2_all h) pat st.tmps a.tmps.toList 0 hR.tm hn hs hp
  refine ⟨j, ⟨h1, hj, ?_⟩, h2⟩
  have := hR.ds
  rw [hd] at this
  exact renD_ok (fun b hb => ren2_dom h hb) hdd this
end Go.Am
