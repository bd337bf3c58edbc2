import Derived.Test.YtikphefllmemjaaGreatAm27
/-
The engine, part 28: from state to state up to the names of blocks, what lies about left out: so that loops come back to where they were.
-/
namespace Go.Am
open Go
set_option linter.unusedVariables false
set_option linter.unusedSimpArgs false

def OFF : Nat := 18446744073709551616

/-! ### renaming -/
def ren (K : Nat) (σ : List (Nat × Nat)) (b : Nat) : Nat := if b < K then b else ((σ.find? fun p => p.1 == b).map (·.2)).getD 0
def inDom (K : Nat) (σ : List (Nat × Nat)) (b : Nat) : Bool := decide (b < K) || σ.any fun p => p.1 == b

def renV (r : Nat → Nat) : Nat → Value → Value
  | 0, v => v
  | n + 1, v => match v with
    | .pointer (some ⟨b, o, none⟩) => .pointer (some ⟨r b, o, none⟩)
    | .slice (some ⟨b, o, none⟩) l c => .slice (some ⟨r b, o, none⟩) l c
    | .map (some b) => .map (some (r b))
    | .iface t v => .iface t (renV r n v)
    | .func f a c => .func f ⟨a.toList.map (renV r n)⟩ ⟨c.toList.map (renV r n)⟩
    | .agg a => .agg ⟨a.toList.map (renV r n)⟩
    | .tuple a => .tuple ⟨a.toList.map (renV r n)⟩
    | v => v

/-- all its addresses are in the domain -/
def domV (d : Nat → Bool) : Nat → Value → Bool
  | 0, _ => false
  | n + 1, v => match v with
    | .bool _ | .int _ _ | .float _ _ | .string _ | .pointer none | .slice none _ _ | .map none | .nilFunc | .nilIface => true
    | .pointer (some ⟨b, _, none⟩) => d b
    | .slice (some ⟨b, _, none⟩) _ _ => d b
    | .map (some b) => d b
    | .iface _ v => domV d n v
    | .func _ a c => a.toList.all (domV d n) && c.toList.all (domV d n)
    | .agg a => a.toList.all (domV d n)
    | .tuple a => a.toList.all (domV d n)
    | _ => false

section
variable {ρ ρ2 : Ren} {d : Nat → Bool} {r : Nat → Nat}

theorem renV_ok (hρ : ∀ b, d b = true → ρ2 b = ρ (r b)) : ∀ (n : Nat) (v x : Value), domV d n v = true → Rv ρ (renV r n v) x → Rv ρ2 v x
  | 0, v, x, h, _ => by simp [domV] at h
  | n + 1, v, x, h, k => by
    have hl : ∀ (l l' : List Value), l.all (domV d n) = true → Rvs ρ (l.map (renV r n)) l' → Rvs ρ2 l l' := fun l l' h1 h2 =>
      ⟨by simpa using h2.1, fun i u u' h3 h4 => renV_ok hρ n u u' (List.all_eq_true.1 h1 u (List.mem_of_getElem? h3)) (h2.2 i _ u' (by rw [List.getElem?_map, h3]; rfl) h4)⟩
    cases v with
    | bool b => simp only [renV] at k; cases k; exact .bool b
    | int a b => simp only [renV] at k; cases k; exact .int a b
    | float a b => simp only [renV] at k; cases k; exact .float a b
    | string b => simp only [renV] at k; cases k; exact .string b
    | nilFunc => simp only [renV] at k; cases k; exact .nilFunc
    | nilIface => simp only [renV] at k; cases k; exact .nilIface
    | pointer a =>
      cases a with
      | none => simp only [renV] at k; cases k; exact .ptrNil
      | some a =>
        obtain ⟨b, o, z⟩ := a
        cases z with
        | none => simp only [renV] at k; simp only [domV] at h; cases k with | ptr e => exact .ptr (by rw [hρ b h]; exact e)
        | some z => simp [domV] at h
    | slice a l c =>
      cases a with
      | none => simp only [renV] at k; cases k; exact .sliceNil l c
      | some a =>
        obtain ⟨b, o, z⟩ := a
        cases z with
        | none => simp only [renV] at k; simp only [domV] at h; cases k with | slice e => exact .slice (by rw [hρ b h]; exact e)
        | some z => simp [domV] at h
    | map a =>
      cases a with
      | none => simp only [renV] at k; cases k; exact .mapNil
      | some b => simp only [renV] at k; simp only [domV] at h; cases k with | map e => exact .map (by rw [hρ b h]; exact e)
    | iface t v => simp only [renV] at k; simp only [domV] at h; cases k with | iface _ e => exact .iface t (renV_ok hρ n v _ h e)
    | func f a c =>
      simp only [renV] at k
      simp only [domV, Bool.and_eq_true] at h
      cases k with
      | func _ h1 h2 h3 h4 => exact Rv.func' (a := a.toList) (c := c.toList) (hl _ _ h.1 ⟨h1, h3⟩) (hl _ _ h.2 ⟨h2, h4⟩)
    | agg a => simp only [renV] at k; simp only [domV] at h; cases k with | agg h1 h2 => exact Rv.agg' (a := a.toList) (hl _ _ h ⟨h1, h2⟩)
    | tuple a => simp only [renV] at k; simp only [domV] at h; cases k with | tuple h1 h2 => exact Rv.tuple' (a := a.toList) (hl _ _ h ⟨h1, h2⟩)
    | _ => simp [domV] at h

theorem agree_ok (hρ : ∀ b, d b = true → ρ2 b = ρ b) : ∀ (n : Nat) (v x : Value), domV d n v = true → Rv ρ v x → Rv ρ2 v x
  | 0, v, x, h, _ => by simp [domV] at h
  | n + 1, v, x, h, k => by
    have hl : ∀ (l l' : List Value), l.all (domV d n) = true → Rvs ρ l l' → Rvs ρ2 l l' := fun l l' h1 h2 =>
      ⟨h2.1, fun i u u' h3 h4 => agree_ok hρ n u u' (List.all_eq_true.1 h1 u (List.mem_of_getElem? h3)) (h2.2 i _ u' h3 h4)⟩
    cases k with
    | bool b => exact .bool b
    | int a b => exact .int a b
    | float a b => exact .float a b
    | string b => exact .string b
    | nilFunc => exact .nilFunc
    | nilIface => exact .nilIface
    | ptrNil => exact .ptrNil
    | ptr e => simp only [domV] at h; exact .ptr (by rw [hρ _ h]; exact e)
    | sliceNil l c => exact .sliceNil l c
    | slice e => simp only [domV] at h; exact .slice (by rw [hρ _ h]; exact e)
    | mapNil => exact .mapNil
    | map e => simp only [domV] at h; exact .map (by rw [hρ _ h]; exact e)
    | iface t e => simp only [domV] at h; exact .iface t (agree_ok hρ n _ _ h e)
    | func f h1 h2 h3 h4 => simp only [domV, Bool.and_eq_true] at h; exact Rv.func' (hl _ _ h.1 ⟨h1, h3⟩) (hl _ _ h.2 ⟨h2, h4⟩)
    | agg h1 h2 => simp only [domV] at h; exact Rv.agg' (hl _ _ h ⟨h1, h2⟩)
    | tuple h1 h2 => simp only [domV] at h; exact Rv.tuple' (hl _ _ h ⟨h1, h2⟩)

theorem junk_list {a' : List Value} (h : ∀ (i : Nat) v', a'[i]? = some v' → ∃ v, Rv ρ2 v v') : ∃ a, Rvs ρ2 a a' := by
  induction a' with
  | nil => exact ⟨[], Rvs.nil⟩
  | cons x l ih =>
    obtain ⟨v, hv⟩ := h 0 x rfl
    obtain ⟨a, ha⟩ := ih (fun i v' hi => h (i + 1) v' (by simpa using hi))
    exact ⟨v :: a, Rvs.cons hv ha⟩

/-- whatever a value is, it is somewhere -/
theorem junk_ok (hall : ∀ b p, ρ b = some p → ∃ b', ρ2 b' = some p) {v x : Value} (h : Rv ρ v x) : ∃ v', Rv ρ2 v' x := by
  have hl : ∀ {a a' : List Value}, a.length = a'.length → (∀ (i : Nat) v v', a[i]? = some v → a'[i]? = some v' → ∃ u, Rv ρ2 u v') → ∃ u, Rvs ρ2 u a' := fun {a a'} h1 h2 => by
    refine junk_list fun i v' hi => ?_
    have hi' : i < a.length := by rw [h1]; exact (List.getElem?_eq_some_iff.1 hi).1
    exact h2 i a[i] v' (by simp [hi']) hi
  induction h with
  | bool b => exact ⟨_, .bool b⟩
  | int a b => exact ⟨_, .int a b⟩
  | float a b => exact ⟨_, .float a b⟩
  | string b => exact ⟨_, .string b⟩
  | nilFunc => exact ⟨_, .nilFunc⟩
  | nilIface => exact ⟨_, .nilIface⟩
  | ptrNil => exact ⟨_, .ptrNil⟩
  | ptr e => obtain ⟨b', hb⟩ := hall _ _ e; exact ⟨_, .ptr hb⟩
  | sliceNil l c => exact ⟨_, .sliceNil l c⟩
  | slice e => obtain ⟨b', hb⟩ := hall _ _ e; exact ⟨_, .slice hb⟩
  | mapNil => exact ⟨_, .mapNil⟩
  | map e => obtain ⟨b', hb⟩ := hall _ _ e; exact ⟨_, .map hb⟩
  | iface t _ ih => obtain ⟨u, hu⟩ := ih; exact ⟨_, .iface t hu⟩
  | func f h1 h2 _ _ ih1 ih2 => obtain ⟨u, hu⟩ := hl h1 ih1; obtain ⟨u2, hu2⟩ := hl h2 ih2; exact ⟨_, Rv.func' (f := f) hu hu2⟩
  | agg h1 _ ih => obtain ⟨u, hu⟩ := hl h1 ih; exact ⟨_, Rv.agg' hu⟩
  | tuple h1 _ ih => obtain ⟨u, hu⟩ := hl h1 ih; exact ⟨_, Rv.tuple' hu⟩

def renO (r : Nat → Nat) : VObj → VObj
  | .cells cs e s f => .cells (cs.map (renV r 8)) e s f
  | .map es c => .map (es.map fun e => { e with val := renV r 8 e.val }) c
def domO (d : Nat → Bool) : VObj → Bool
  | .cells cs _ _ _ => cs.all (domV d 8)
  | .map es _ => es.all fun e => domV d 8 e.val

theorem renO_ok (hρ : ∀ b, d b = true → ρ2 b = ρ (r b)) {x : Nat} {o : VObj} {o' : Obj} (h : domO d o = true) (k : RObj ρ x (renO r o) o') : RObj ρ2 x o o' := by
  cases o with
  | cells cs e s f =>
    simp only [renO] at k
    simp only [domO] at h
    cases k with
    | cells h1 h2 h3 =>
      exact .cells ⟨by simpa using h1.1, fun i u u' h4 h5 => renV_ok hρ 8 u u' (List.all_eq_true.1 h u (List.mem_of_getElem? h4)) (h1.2 i _ u' (by rw [List.getElem?_map, h4]; rfl) h5)⟩ h2 h3
  | map es c =>
    simp only [renO] at k
    simp only [domO] at h
    cases k with
    | map h1 h2 h3 =>
      refine .map (by simpa using h1) (fun i e e' h4 h5 => ?_) h3
      have := h2 i _ e' (by rw [List.getElem?_map, h4]; rfl) h5
      exact ⟨this.1, this.2.1, this.2.2.1, renV_ok hρ 8 _ _ (List.all_eq_true.1 h e (List.mem_of_getElem? h4)) this.2.2.2⟩
theorem agreeO_ok (hρ : ∀ b, d b = true → ρ2 b = ρ b) {x : Nat} {o : VObj} {o' : Obj} (h : domO d o = true) (k : RObj ρ x o o') : RObj ρ2 x o o' := by
  cases k with
  | cells h1 h2 h3 =>
    simp only [domO] at h
    exact .cells ⟨h1.1, fun i u u' h4 h5 => agree_ok hρ 8 u u' (List.all_eq_true.1 h u (List.mem_of_getElem? h4)) (h1.2 i _ u' h4 h5)⟩ h2 h3
  | map h1 h2 h3 =>
    simp only [domO] at h
    refine .map h1 (fun i e e' h4 h5 => ?_) h3
    have := h2 i _ e' h4 h5
    exact ⟨this.1, this.2.1, this.2.2.1, agree_ok hρ 8 _ _ (List.all_eq_true.1 h e (List.mem_of_getElem? h4)) this.2.2.2⟩
end

/-! ### states with some of the temporaries left open -/
def fillT : List (Option Value) → (Nat → Value) → Nat → List Value
  | [], _, _ => []
  | some v :: l, j, i => v :: fillT l j (i + 1)
  | none :: l, j, i => j i :: fillT l j (i + 1)
def selT : List (Option Value) → List Value → List Value
  | some _ :: p, t :: ts => t :: selT p ts
  | none :: p, _ :: ts => selT p ts
  | _, _ => []
def liveT : List (Option Value) → List Value
  | [] => []
  | some v :: l => v :: liveT l
  | none :: l => liveT l

theorem fillT_congr : ∀ (l : List (Option Value)) {j j' : Nat → Value} {i : Nat}, (∀ k, i ≤ k → j k = j' k) → fillT l j i = fillT l j' i
  | [], _, _, _, _ => rfl
  | some v :: l, j, j', i, h => by simp only [fillT]; rw [fillT_congr l (i := i + 1) (fun k hk => h k (by omega))]
  | none :: l, j, j', i, h => by simp only [fillT]; rw [fillT_congr l (i := i + 1) (fun k hk => h k (by omega)), h i (Nat.le_refl _)]

theorem fill_ok {ρ ρ2 : Ren} {d : Nat → Bool} {r : Nat → Nat} (hρ : ∀ b, d b = true → ρ2 b = ρ (r b)) (hall : ∀ b p, ρ b = some p → ∃ b', ρ2 b' = some p) :
    ∀ (pat : List (Option Value)) (ts rs : List Value) (i : Nat), Rvs ρ ts rs → ts.length = pat.length → selT pat ts = (liveT pat).map (renV r 8) → (liveT pat).all (domV d 8) = true →
      ∃ j, Rvs ρ2 (fillT pat j i) rs
  | [], ts, rs, i, h, hl, _, _ => by
    have : ts = [] := List.eq_nil_of_length_eq_zero hl
    subst this
    exact ⟨fun _ => undef, by rw [h.nil_inv]; exact Rvs.nil⟩
  | p :: pat, [], rs, i, h, hl, _, _ => by simp at hl
  | some v :: pat, t :: ts, rs, i, h, hl, hs, hd => by
    obtain ⟨x, xs, rfl, h1, h2⟩ := h.cons_inv
    simp only [selT, liveT, List.map_cons, List.cons.injEq] at hs
    simp only [liveT, List.all_cons, Bool.and_eq_true] at hd
    obtain ⟨j, hj⟩ := fill_ok hρ hall pat ts xs (i + 1) h2 (by simpa using hl) hs.2 hd.2
    rw [hs.1] at h1
    exact ⟨j, Rvs.cons (renV_ok hρ 8 v x hd.1 h1) hj⟩
  | none :: pat, t :: ts, rs, i, h, hl, hs, hd => by
    obtain ⟨x, xs, rfl, h1, h2⟩ := h.cons_inv
    simp only [selT, liveT] at hs
    simp only [liveT] at hd
    obtain ⟨j, hj⟩ := fill_ok hρ hall pat ts xs (i + 1) h2 (by simpa using hl) hs hd
    obtain ⟨u, hu⟩ := junk_ok hall h1
    refine ⟨fun k => if k = i then u else j k, ?_⟩
    simp only [fillT, if_true]
    rw [fillT_congr pat (j' := j) (i := i + 1) (fun k hk => by show (if k = i then u else j k) = j k; rw [if_neg (by omega)])]
    exact Rvs.cons hu hj

/-! ### heaps from lists -/
def mkTr : List (Nat × VObj) → Tr → Tr
  | [], t => t
  | p :: l, t => mkTr l (t.set p.1 (some p.2))
def mkH (next : Nat) (l : List (Nat × VObj)) : AH := ⟨next, mkTr l .lf⟩
theorem mkTr_get : ∀ (l : List (Nat × VObj)) (t : Tr) (b : Nat) (o : VObj), (mkTr l t).get b = some o → t.get b = some o ∨ (b, o) ∈ l
  | [], t, b, o, h => .inl h
  | p :: l, t, b, o, h => by
    simp only [mkTr] at h
    rcases mkTr_get l _ b o h with h1 | h1
    · rw [Tr.get_set] at h1
      split at h1
      · rename_i e; subst e; cases h1; exact .inr (List.mem_cons_self ..)
      · exact .inl h1
    · exact .inr (List.mem_cons_of_mem _ h1)
theorem mkH_get {n : Nat} {l : List (Nat × VObj)} {b : Nat} {o : VObj} (h : (mkH n l).get b = some o) : (b, o) ∈ l := by
  rcases mkTr_get l .lf b o h with h1 | h1
  · simp [Tr.get] at h1
  · exact h1

/-! ### what stays of the history of a state -/
structure Hist (K : Nat) (ρ0 : Ren) (g0 : VH) (w0 : World) (ρ : Ren) (g : VH) (w : World) : Prop where
  os : w.os = w0.os
  output : w.output = w0.output
  size : w0.heap.size ≤ w.heap.size
  frame : ∀ r, r < w0.heap.size → (∀ b o x, g0 b = some o → ρ0 b = some (r, x) → False) → w.heap[r]? = w0.heap[r]?
  new : ∀ b o r x, g b = some o → ρ b = some (r, x) → r < w0.heap.size → ∃ c o' y, g0 c = some o' ∧ ρ0 c = some (r, y)
  anch : ∀ b, b < K → ρ b = ρ0 b
theorem Hist.refl (K : Nat) (ρ : Ren) (g : VH) (w : World) : Hist K ρ g w ρ g w :=
  ⟨rfl, rfl, Nat.le_refl _, fun _ _ _ => rfl, fun b o r x h1 h2 _ => ⟨b, o, x, h1, h2⟩, fun _ _ => rfl⟩
theorem Hist.trans {K : Nat} {ρ ρ1 ρ2 : Ren} {g g1 g2 : VH} {w w1 w2 : World} (h : Hist K ρ g w ρ1 g1 w1) (k : Hist K ρ1 g1 w1 ρ2 g2 w2) : Hist K ρ g w ρ2 g2 w2 := by
  refine ⟨k.os.trans h.os, k.output.trans h.output, Nat.le_trans h.size k.size, fun r hr hn => ?_, fun b o r x hb hρ hr => ?_, fun b hb => (k.anch b hb).trans (h.anch b hb)⟩
  · rw [k.frame r (Nat.lt_of_lt_of_le hr h.size) (fun b o x hb hρ => ?_), h.frame r hr hn]
    obtain ⟨c, o', y, hc, hy⟩ := h.new b o r x hb hρ hr
    exact hn c o' y hc hy
  · obtain ⟨c, o', y, hc, hy⟩ := k.new b o r x hb hρ (Nat.lt_of_lt_of_le hr h.size)
    exact h.new c o' r y hc hy hr
theorem Hist.of_goes {K : Nat} {ρ ρ' : Ren} {h h' : AH} {w w' : World} (g : Goes ρ h w ρ' h' w') (hK : K ≤ h.next) : Hist K ρ h.get w ρ' h'.get w' :=
  ⟨g.ext.os, g.ext.output, g.ext.size, g.ext.frame, g.ext.new, fun b hb => g.only b (.inl (Nat.lt_of_lt_of_le hb hK))⟩

/-- free from 'lo' on, below the junk -/
def Clear (ρ : Ren) (lo : Nat) : Prop := ∀ b, lo ≤ b → b < OFF → ρ b = none

/-! ### renaming a state -/
def ren2 (K : Nat) (σ : List (Nat × Nat)) (ρ : Ren) : Ren := fun b =>
  if b < K then ρ b else match σ.find? fun p => p.1 == b with
    | some p => ρ p.2
    | none => if OFF ≤ b then ρ (b - OFF) else none
def nodup2 : List (Nat × Nat) → Bool
  | [] => true
  | p :: l => l.all (fun q => p.2 != q.2) && nodup2 l
theorem nodup2_ok : ∀ {l : List (Nat × Nat)}, nodup2 l = true → ∀ p ∈ l, ∀ q ∈ l, p.2 = q.2 → p = q
  | [], _, p, hp, _, _, _ => by simp at hp
  | a :: l, h, p, hp, q, hq, e => by
    simp only [nodup2, Bool.and_eq_true, List.all_eq_true] at h
    rcases List.mem_cons.1 hp with e1 | hp1 <;> rcases List.mem_cons.1 hq with e2 | hq1
    · rw [e1, e2]
    · have := h.1 q hq1; rw [← e1] at this; simp [e] at this
    · have := h.1 p hp1; rw [← e2] at this; simp [e] at this
    · exact nodup2_ok h.2 p hp1 q hq1 e

/-- what is to be looked at, of the renaming alone -/
def okσ (K next : Nat) (σ : List (Nat × Nat)) : Bool :=
  decide (fixN ≤ K) && decide (K ≤ next) && decide (next ≤ OFF) && (σ.all fun p => decide (K ≤ p.1) && decide (p.1 < next) && decide (K ≤ p.2)) && nodup2 σ
def okHp (d : Nat → Bool) (l : List (Nat × VObj)) : Bool := l.all fun p => d p.1 && domO d p.2

section
variable {K next : Nat} {σ : List (Nat × Nat)} {ρ : Ren}

theorem find_key {σ : List (Nat × Nat)} {b : Nat} {p : Nat × Nat} (h : σ.find? (fun p => p.1 == b) = some p) : p ∈ σ ∧ p.1 = b :=
  ⟨List.mem_of_find?_eq_some h, by have := List.find?_some h; simpa using this⟩

theorem ren2_dom {b : Nat} (h : inDom K σ b = true) : ren2 K σ ρ b = ρ (ren K σ b) := by
  unfold ren2 ren
  by_cases hb : b < K
  · rw [if_pos hb, if_pos hb]
  · rw [if_neg hb, if_neg hb]
    cases hf : σ.find? (fun p => p.1 == b) with
    | some p => rfl
    | none =>
      simp only [inDom, hb, decide_false, Bool.false_or, List.any_eq_true] at h
      obtain ⟨p, hp, e⟩ := h
      have := List.find?_eq_none.1 hf p hp
      exact absurd e this

theorem okσ_parts (h : okσ K next σ = true) : fixN ≤ K ∧ K ≤ next ∧ next ≤ OFF ∧ (∀ p ∈ σ, K ≤ p.1 ∧ p.1 < next ∧ K ≤ p.2) ∧ nodup2 σ = true := by
  simp only [okσ, Bool.and_eq_true, decide_eq_true_eq, List.all_eq_true] at h
  exact ⟨h.1.1.1.1, h.1.1.1.2, h.1.1.2, fun p hp => ⟨(h.1.2 p hp).1.1, (h.1.2 p hp).1.2, (h.1.2 p hp).2⟩, h.2⟩

theorem ren2_all (h : okσ K next σ = true) : ∀ b p, ρ b = some p → ∃ b', ren2 K σ ρ b' = some p := by
  obtain ⟨h1, h2, h3, h4, _⟩ := okσ_parts h
  intro b p hb
  by_cases hk : b < K
  · exact ⟨b, by unfold ren2; rw [if_pos hk]; exact hb⟩
  · refine ⟨OFF + b, ?_⟩
    unfold ren2
    rw [if_neg (by omega)]
    have : σ.find? (fun p => p.1 == OFF + b) = none := by
      rw [List.find?_eq_none]
      intro q hq
      have := (h4 q hq).2.1
      simp only [beq_iff_eq]
      omega
    rw [this]
    simp only
    rw [if_pos (by omega), Nat.add_sub_cancel_left]
    exact hb
theorem ren2_clear (h : okσ K next σ = true) : Clear (ren2 K σ ρ) next := by
  obtain ⟨h1, h2, h3, h4, _⟩ := okσ_parts h
  intro b hb hb2
  unfold ren2
  rw [if_neg (by omega)]
  have : σ.find? (fun p => p.1 == b) = none := by
    rw [List.find?_eq_none]
    intro q hq
    have := (h4 q hq).2.1
    simp only [beq_iff_eq]
    omega
  rw [this]
  simp only
  rw [if_neg (by omega)]
theorem ren_inj (h : okσ K next σ = true) {b c : Nat} (hb : inDom K σ b = true) (hc : inDom K σ c = true) (e : ren K σ b = ren K σ c) : b = c := by
  obtain ⟨h1, h2, h3, h4, h5⟩ := okσ_parts h
  have key : ∀ b, inDom K σ b = true → ¬ b < K → ∃ p, p ∈ σ ∧ p.1 = b ∧ ren K σ b = p.2 := by
    intro b hb hk
    simp only [inDom, hk, decide_false, Bool.false_or, List.any_eq_true] at hb
    obtain ⟨p, hp, e⟩ := hb
    cases hf : σ.find? (fun p => p.1 == b) with
    | none => exact absurd e (List.find?_eq_none.1 hf p hp)
    | some q =>
      obtain ⟨h6, h7⟩ := find_key hf
      exact ⟨q, h6, h7, by unfold ren; rw [if_neg hk, hf]; rfl⟩
  by_cases hk : b < K <;> by_cases hl : c < K
  · unfold ren at e; rwa [if_pos hk, if_pos hl] at e
  · obtain ⟨p, h6, h7, h8⟩ := key c hc hl
    have := (h4 p h6).2.2
    rw [h8] at e
    unfold ren at e; rw [if_pos hk] at e
    omega
  · obtain ⟨p, h6, h7, h8⟩ := key b hb hk
    have := (h4 p h6).2.2
    rw [h8] at e
    unfold ren at e; rw [if_pos hl] at e
    omega
  · obtain ⟨p, h6, h7, h8⟩ := key b hb hk
    obtain ⟨q, k6, k7, k8⟩ := key c hc hl
    rw [h8, k8] at e
    have := nodup2_ok h5 p h6 q k6 e
    rw [← h7, ← k7, this]

theorem ren_sim (h : okσ K next σ = true) {hp : AH} {w : World} (hS : Sim ρ hp.get w) {l : List (Nat × VObj)} (hl : okHp (inDom K σ) l = true)
    (hm : l.map (fun p => hp.get (ren K σ p.1)) = l.map (fun p => some (renO (ren K σ) p.2))) : Sim (ren2 K σ ρ) (mkH next l).get w ∧ Hist K ρ hp.get w (ren2 K σ ρ) (mkH next l).get w := by
  obtain ⟨h1, h2, h3, h4, h5⟩ := okσ_parts h
  have hin : ∀ b o, (mkH next l).get b = some o → inDom K σ b = true ∧ domO (inDom K σ) o = true ∧ hp.get (ren K σ b) = some (renO (ren K σ) o) := by
    intro b o hb
    have hmem := mkH_get hb
    have := List.all_eq_true.1 hl _ hmem
    simp only [Bool.and_eq_true] at this
    exact ⟨this.1, this.2, List.map_inj_left.1 hm _ hmem⟩
  refine ⟨⟨fun b hb => ?_, fun b o hb => ?_, fun b c o1 o2 r x y hb hc e1 e2 => ?_⟩, ⟨rfl, rfl, Nat.le_refl _, fun _ _ _ => rfl, fun b o r x hb e1 _ => ?_, fun b hb => ?_⟩⟩
  · unfold ren2; rw [if_pos (by omega)]; exact hS.fix b hb
  · obtain ⟨k1, k2, k3⟩ := hin b o hb
    obtain ⟨r, x, o', m1, m2, m3⟩ := hS.blk _ _ k3
    exact ⟨r, x, o', by rw [ren2_dom k1]; exact m1, m2, renO_ok (fun b hb => ren2_dom hb) k2 m3⟩
  · obtain ⟨k1, _, k3⟩ := hin b o1 hb
    obtain ⟨l1, _, l3⟩ := hin c o2 hc
    rw [ren2_dom k1] at e1
    rw [ren2_dom l1] at e2
    exact ren_inj h k1 l1 (hS.inj _ _ _ _ r x y k3 l3 e1 e2)
  · obtain ⟨k1, _, k3⟩ := hin b o hb
    rw [ren2_dom k1] at e1
    exact ⟨_, _, x, k3, e1⟩
  · unfold ren2; rw [if_pos hb]
end

theorem RDs.empty {ρ : Ren} {d : List Deferred} (h : RDs ρ [] d) : d = [] := by cases h; rfl

/-- a state and the same under other names, the rest left out -/
theorem Rel.renamed {K next : Nat} {σ : List (Nat × Nat)} {ρ : Ren} {st : St} {a : Act} {w : World} (hR : Rel ρ st a w) (h : okσ K next σ = true) {pat : List (Option Value)} {l : List (Nat × VObj)}
    (hl : okHp (inDom K σ) l = true) (hm : l.map (fun p => st.h.get (ren K σ p.1)) = l.map (fun p => some (renO (ren K σ) p.2)))
    (hp : (liveT pat).all (domV (inDom K σ) 8) = true) (hs : selT pat st.tmps = (liveT pat).map (renV (ren K σ) 8)) (hn : st.tmps.length = pat.length) (hd : st.ds = []) :
    ∃ j, Rel (ren2 K σ ρ) ⟨fillT pat j 0, mkH next l, []⟩ a w ∧ Hist K ρ st.h.get w (ren2 K σ ρ) (mkH next l).get w := by
  obtain ⟨h1, h2⟩ := ren_sim h hR.sim hl hm
  obtain ⟨j, hj⟩ := fill_ok (fun b hb => ren2_dom (ρ := ρ) hb) (ren2_all h) pat st.tmps a.tmps.toList 0 hR.tm hn hs hp
  refine ⟨j, ⟨h1, hj, ?_⟩, h2⟩
  have := hR.ds
  rw [hd] at this
  rw [RDs.empty this]
  exact .nil
end Go.Am
