import Derived.Orders
import Derived.Scope
import Derived.Recover
import Derived.Below
/-
The engine, part 1: the relation between virtual and real values, the virtual heap, and the relation between a virtual heap and a world.
-/
namespace Go.Am
open Go
set_option linter.unusedVariables false
set_option linter.unusedSimpArgs false

/-- virtual block ↦ (real block, spare capacity). -/
abbrev Ren := Nat → Option (Nat × Nat)

inductive Rv (ρ : Ren) : Value → Value → Prop
  | bool (b : Bool) : Rv ρ (.bool b) (.bool b)
  | int (k : IntKind) (n : Int) : Rv ρ (.int k n) (.int k n)
  | float (k : FloatKind) (n : Nat) : Rv ρ (.float k n) (.float k n)
  | string (s : ByteArray) : Rv ρ (.string s) (.string s)
  | ptrNil : Rv ρ (.pointer none) (.pointer none)
  | ptr {b b' x o : Nat} : ρ b = some (b', x) → Rv ρ (.pointer (some ⟨b, o, none⟩)) (.pointer (some ⟨b', o, none⟩))
  | sliceNil (l c : Nat) : Rv ρ (.slice none l c) (.slice none l c)
  | slice {b b' x o l c : Nat} : ρ b = some (b', x) → Rv ρ (.slice (some ⟨b, o, none⟩) l c) (.slice (some ⟨b', o, none⟩) l (c + x))
  | mapNil : Rv ρ (.map none) (.map none)
  | map {b b' x : Nat} : ρ b = some (b', x) → Rv ρ (.map (some b)) (.map (some b'))
  | nilFunc : Rv ρ .nilFunc .nilFunc
  | nilIface : Rv ρ .nilIface .nilIface
  | iface (t : TypeId) {v v' : Value} : Rv ρ v v' → Rv ρ (.iface t v) (.iface t v')
  | func (f : Fn) {a a' c c' : List Value} : a.length = a'.length → c.length = c'.length →
      (∀ (i : Nat) v v', a[i]? = some v → a'[i]? = some v' → Rv ρ v v') → (∀ (i : Nat) v v', c[i]? = some v → c'[i]? = some v' → Rv ρ v v') →
      Rv ρ (.func f ⟨a⟩ ⟨c⟩) (.func f ⟨a'⟩ ⟨c'⟩)
  | agg {a a' : List Value} : a.length = a'.length → (∀ (i : Nat) v v', a[i]? = some v → a'[i]? = some v' → Rv ρ v v') → Rv ρ (.agg ⟨a⟩) (.agg ⟨a'⟩)
  | tuple {a a' : List Value} : a.length = a'.length → (∀ (i : Nat) v v', a[i]? = some v → a'[i]? = some v' → Rv ρ v v') → Rv ρ (.tuple ⟨a⟩) (.tuple ⟨a'⟩)

def Rvs (ρ : Ren) (a a' : List Value) : Prop := a.length = a'.length ∧ ∀ (i : Nat) v v', a[i]? = some v → a'[i]? = some v' → Rv ρ v v'

def Ren.le (ρ ρ' : Ren) : Prop := ∀ b p, ρ b = some p → ρ' b = some p
theorem Ren.le_refl (ρ : Ren) : Ren.le ρ ρ := fun _ _ h => h
theorem Ren.le_trans {a b c : Ren} (h : Ren.le a b) (k : Ren.le b c) : Ren.le a c := fun x p hx => k x p (h x p hx)

theorem Rv.mono {ρ ρ' : Ren} (hle : Ren.le ρ ρ') {v v' : Value} (h : Rv ρ v v') : Rv ρ' v v' := by
  induction h with
  | bool b => exact .bool b
  | int k n => exact .int k n
  | float k n => exact .float k n
  | string s => exact .string s
  | ptrNil => exact .ptrNil
  | ptr h => exact .ptr (hle _ _ h)
  | sliceNil l c => exact .sliceNil l c
  | slice h => exact .slice (hle _ _ h)
  | mapNil => exact .mapNil
  | map h => exact .map (hle _ _ h)
  | nilFunc => exact .nilFunc
  | nilIface => exact .nilIface
  | iface t _ ih => exact .iface t ih
  | func f h1 h2 _ _ ih1 ih2 => exact .func f h1 h2 ih1 ih2
  | agg h1 _ ih => exact .agg h1 ih
  | tuple h1 _ ih => exact .tuple h1 ih

theorem Rvs.mono {ρ ρ' : Ren} (hle : Ren.le ρ ρ') {a a' : List Value} (h : Rvs ρ a a') : Rvs ρ' a a' := ⟨h.1, fun i v v' h1 h2 => (h.2 i v v' h1 h2).mono hle⟩
theorem Rvs.nil {ρ : Ren} : Rvs ρ [] [] := ⟨rfl, fun i v v' h => by simp at h⟩
theorem Rvs.cons {ρ : Ren} {v v' : Value} {a a' : List Value} (h : Rv ρ v v') (hs : Rvs ρ a a') : Rvs ρ (v :: a) (v' :: a') := by
  refine ⟨by simp [hs.1], fun i w w' h1 h2 => ?_⟩
  cases i with
  | zero => simp at h1 h2; subst h1; subst h2; exact h
  | succ i => simp at h1 h2; exact hs.2 i w w' h1 h2
theorem Rvs.cons_inv {ρ : Ren} {v : Value} {a b : List Value} (h : Rvs ρ (v :: a) b) : ∃ v' a', b = v' :: a' ∧ Rv ρ v v' ∧ Rvs ρ a a' := by
  cases b with
  | nil => have := h.1; simp at this
  | cons v' a' => exact ⟨v', a', rfl, h.2 0 v v' rfl rfl, by have := h.1; simpa using this, fun i w w' h1 h2 => h.2 (i + 1) w w' h1 h2⟩
theorem Rvs.nil_inv {ρ : Ren} {b : List Value} (h : Rvs ρ [] b) : b = [] := by
  have := h.1; simp at this; exact List.eq_nil_of_length_eq_zero this.symm
theorem Rvs.append {ρ : Ren} {a a' b b' : List Value} (h : Rvs ρ a a') (k : Rvs ρ b b') : Rvs ρ (a ++ b) (a' ++ b') := by
  induction a generalizing a' with
  | nil => rw [h.nil_inv]; exact k
  | cons v a ih => obtain ⟨v', t, rfl, h1, h2⟩ := h.cons_inv; exact Rvs.cons h1 (ih h2)
theorem Rvs.take {ρ : Ren} {a a' : List Value} (h : Rvs ρ a a') (n : Nat) : Rvs ρ (a.take n) (a'.take n) := by
  refine ⟨by simp [h.1], fun i v v' h1 h2 => ?_⟩
  rw [List.getElem?_take] at h1 h2
  split at h1 <;> simp_all
  exact h.2 i v v' h1 h2
theorem Rvs.drop {ρ : Ren} {a a' : List Value} (h : Rvs ρ a a') (n : Nat) : Rvs ρ (a.drop n) (a'.drop n) := by
  refine ⟨by simp [h.1], fun i v v' h1 h2 => ?_⟩
  rw [List.getElem?_drop] at h1 h2
  exact h.2 _ v v' h1 h2
theorem Rvs.set {ρ : Ren} {a a' : List Value} (h : Rvs ρ a a') (n : Nat) {v v' : Value} (hv : Rv ρ v v') : Rvs ρ (a.set n v) (a'.set n v') := by
  refine ⟨by simp [h.1], fun i w w' h1 h2 => ?_⟩
  rw [List.getElem?_set] at h1 h2
  split at h1
  · rename_i e
    subst e
    rw [if_pos rfl] at h2
    split at h1 <;> split at h2 <;> simp_all
  · rw [if_neg ‹_›] at h2; exact h.2 i w w' h1 h2
theorem Rvs.get {ρ : Ren} {a a' : List Value} (h : Rvs ρ a a') {i : Nat} {v : Value} (hv : a[i]? = some v) : ∃ v', a'[i]? = some v' ∧ Rv ρ v v' := by
  have hi : i < a'.length := by have := (List.getElem?_eq_some_iff.1 hv).1; rw [← h.1]; exact this
  exact ⟨a'[i], by simp [hi], h.2 i v _ hv (by simp [hi])⟩
theorem Rvs.getD {ρ : Ren} {a a' : List Value} (h : Rvs ρ a a') (i : Nat) : Rv ρ (a.getD i (.tuple #[])) (a'.getD i (.tuple #[])) := by
  rw [List.getD_eq_getElem?_getD, List.getD_eq_getElem?_getD]
  cases hv : a[i]? with
  | some v => obtain ⟨v', h1, h2⟩ := h.get hv; rw [h1]; exact h2
  | none =>
    have : a'[i]? = none := by rw [List.getElem?_eq_none_iff] at hv ⊢; rw [← h.1]; exact hv
    rw [this]
    exact .tuple (a := []) (a' := []) rfl (fun i v v' h => by simp at h)
theorem Rvs.replicate {ρ : Ren} (n : Nat) {v v' : Value} (h : Rv ρ v v') : Rvs ρ (List.replicate n v) (List.replicate n v') := by
  refine ⟨by simp, fun i w w' h1 h2 => ?_⟩
  rw [List.getElem?_replicate] at h1 h2
  split at h1 <;> simp_all
theorem Rvs.reverse {ρ : Ren} {a a' : List Value} (h : Rvs ρ a a') : Rvs ρ a.reverse a'.reverse := by
  induction a generalizing a' with
  | nil => rw [h.nil_inv]; exact Rvs.nil
  | cons v a ih => obtain ⟨v', t, rfl, h1, h2⟩ := h.cons_inv; simp only [List.reverse_cons]; exact (ih h2).append (Rvs.cons h1 Rvs.nil)

theorem Rv.agg' {ρ : Ren} {a a' : List Value} (h : Rvs ρ a a') : Rv ρ (.agg ⟨a⟩) (.agg ⟨a'⟩) := .agg h.1 h.2
theorem Rv.tuple' {ρ : Ren} {a a' : List Value} (h : Rvs ρ a a') : Rv ρ (.tuple ⟨a⟩) (.tuple ⟨a'⟩) := .tuple h.1 h.2
theorem Rv.undef {ρ : Ren} : Rv ρ undef undef := .tuple (a := []) (a' := []) rfl (fun i v v' h => by simp at h)
theorem Rv.func' {ρ : Ren} {f : Fn} {a a' c c' : List Value} (h : Rvs ρ a a') (k : Rvs ρ c c') : Rv ρ (.func f ⟨a⟩ ⟨c⟩) (.func f ⟨a'⟩ ⟨c'⟩) := .func f h.1 k.1 h.2 k.2
theorem Rv.agg_inv {ρ : Ren} {a : List Value} {v : Value} (h : Rv ρ (.agg ⟨a⟩) v) : ∃ a', v = .agg ⟨a'⟩ ∧ Rvs ρ a a' := by cases h with | agg h1 h2 => exact ⟨_, rfl, h1, h2⟩
theorem Rv.tuple_inv {ρ : Ren} {a : List Value} {v : Value} (h : Rv ρ (.tuple ⟨a⟩) v) : ∃ a', v = .tuple ⟨a'⟩ ∧ Rvs ρ a a' := by cases h with | tuple h1 h2 => exact ⟨_, rfl, h1, h2⟩

/-- the cells of a value, as a list -/
def vcells : Value → List Value
  | .agg cs => cs.toList
  | v => [v]
theorem vcells_eq (v : Value) : v.cells.toList = vcells v := by cases v <;> rfl
theorem Rv.cells {ρ : Ren} {v v' : Value} (h : Rv ρ v v') : Rvs ρ (vcells v) (vcells v') := by
  cases h <;> (simp only [vcells]; try (refine Rvs.cons ?_ Rvs.nil; first | constructor | skip))
  case ptr h => exact h
  case slice h => exact h
  case map h => exact h
  case iface h => exact h
  case func h1 h2 h3 h4 => exact h1
  all_goals first | assumption | exact ⟨‹_›, ‹_›⟩

/-- no address in it -/
def closedF : Nat → Value → Bool
  | 0, _ => false
  | n + 1, v => match v with
    | .bool _ | .int _ _ | .float _ _ | .string _ | .pointer none | .slice none _ _ | .map none | .nilFunc | .nilIface => true
    | .iface _ v => closedF n v
    | .agg cs => cs.toList.all (closedF n)
    | .tuple cs => cs.toList.all (closedF n)
    | .func _ a c => a.toList.all (closedF n) && c.toList.all (closedF n)
    | _ => false
def closed (v : Value) : Bool := closedF 8 v

theorem closedF_refl (ρ : Ren) : ∀ (n : Nat) (v : Value), closedF n v = true → Rv ρ v v
  | 0, _, h => by simp [closedF] at h
  | n + 1, v, h => by
    have hl : ∀ l : List Value, l.all (closedF n) = true → ∀ (i : Nat) v v', l[i]? = some v → l[i]? = some v' → Rv ρ v v' := fun l hl i v v' h1 h2 => by
      rw [h1] at h2; cases h2
      exact closedF_refl ρ n v (List.all_eq_true.1 hl v (List.mem_of_getElem? h1))
    cases v <;> simp only [closedF] at h
    case bool b => exact .bool b
    case int k m => exact .int k m
    case float k m => exact .float k m
    case string s => exact .string s
    case nilFunc => exact .nilFunc
    case nilIface => exact .nilIface
    case iface t v => exact .iface t (closedF_refl ρ n v h)
    case pointer a => cases a with | none => exact .ptrNil | some a => simp at h
    case slice a l c => cases a with | none => exact .sliceNil l c | some a => simp at h
    case map a => cases a with | none => exact .mapNil | some a => simp at h
    case agg cs => exact .agg (a := cs.toList) (a' := cs.toList) rfl (hl _ h)
    case tuple cs => exact .tuple (a := cs.toList) (a' := cs.toList) rfl (hl _ h)
    case func f a c =>
      rw [Bool.and_eq_true] at h
      exact .func f (a := a.toList) (a' := a.toList) (c := c.toList) (c' := c.toList) rfl rfl (hl _ h.1) (hl _ h.2)
    all_goals simp at h

theorem closedF_eq {ρ : Ren} {v v' : Value} (hv : Rv ρ v v') : ∀ n : Nat, closedF n v = true → v' = v := by
  have hl : ∀ (n : Nat) (a a' : List Value), a.length = a'.length → a.all (closedF n) = true →
      (∀ (i : Nat) v v', a[i]? = some v → a'[i]? = some v' → ∀ n : Nat, closedF n v = true → v' = v) → a' = a := fun n a a' h1 h2 h3 => by
    refine (List.ext_getElem? fun i => ?_)
    cases hi : a[i]? with
    | none => rw [List.getElem?_eq_none_iff] at hi ⊢; rw [← h1]; exact hi
    | some v =>
      have hi' : i < a'.length := by have := (List.getElem?_eq_some_iff.1 hi).1; rw [← h1]; exact this
      have e : a'[i]? = some a'[i] := by simp [hi']
      rw [e, h3 i v a'[i] hi e n (List.all_eq_true.1 h2 v (List.mem_of_getElem? hi))]
  induction hv with
  | iface t _ ih => intro n h; cases n with | zero => simp [closedF] at h | succ n => simp only [closedF] at h; rw [ih n h]
  | func f h1 h2 _ _ ih1 ih2 =>
    intro n h
    cases n with
    | zero => simp [closedF] at h
    | succ n =>
      simp only [closedF, Bool.and_eq_true] at h
      rw [hl n _ _ h1 h.1 ih1, hl n _ _ h2 h.2 ih2]
  | agg h1 _ ih => intro n h; cases n with | zero => simp [closedF] at h | succ n => simp only [closedF] at h; rw [hl n _ _ h1 h ih]
  | tuple h1 _ ih => intro n h; cases n with | zero => simp [closedF] at h | succ n => simp only [closedF] at h; rw [hl n _ _ h1 h ih]
  | ptr _ => intro n h; cases n <;> simp [closedF] at h
  | slice _ => intro n h; cases n <;> simp [closedF] at h
  | map _ => intro n h; cases n <;> simp [closedF] at h
  | _ => intros; rfl
theorem closed_refl {ρ : Ren} {v : Value} (h : closed v = true) : Rv ρ v v := closedF_refl ρ _ v h
theorem closed_eq {ρ : Ren} {v v' : Value} (h : closed v = true) (hv : Rv ρ v v') : v' = v := closedF_eq hv _ h

/-- one cell holds it -/
def oneC : Value → Bool
  | .agg _ | .tuple _ => false
  | _ => true
theorem Rv.oneC {ρ : Ren} {v v' : Value} (h : Rv ρ v v') : oneC v' = oneC v := by cases h <;> rfl

/-! ### the virtual heap -/
/-- a block: cells; 'spare': none: just these; some s: there may be more behind them, s cells an element; 'fz': cells below are frozen -/
inductive VObj
  | cells (cs : List Value) (elem : TypeId) (spare : Option Nat) (fz : Nat)
  | map (es : List MapEntry) (clock : Nat)

inductive Tr
  | lf
  | nd (v : Option VObj) (l r : Tr)

def Tr.get : Tr → Nat → Option VObj
  | .lf, _ => none
  | .nd v l r, k => if k = 0 then v else if k % 2 = 1 then l.get (k / 2) else r.get (k / 2 - 1)

def Tr.setF : Nat → Tr → Nat → Option VObj → Tr
  | 0, t, _, _ => t
  | f + 1, t, k, o =>
    match t with
    | .lf => if k = 0 then .nd o .lf .lf else if k % 2 = 1 then .nd none (Tr.setF f .lf (k / 2) o) .lf else .nd none .lf (Tr.setF f .lf (k / 2 - 1) o)
    | .nd v l r => if k = 0 then .nd o l r else if k % 2 = 1 then .nd v (Tr.setF f l (k / 2) o) r else .nd v l (Tr.setF f r (k / 2 - 1) o)
def Tr.set (t : Tr) (k : Nat) (o : Option VObj) : Tr := Tr.setF (k + 1) t k o

theorem Tr.get_lf (k : Nat) : Tr.get .lf k = none := rfl
theorem Tr.get_setF : ∀ (f : Nat) (t : Tr) (k j : Nat) (o : Option VObj), k < f → (Tr.setF f t k o).get j = if j = k then o else t.get j
  | 0, _, _, _, _, h => by omega
  | f + 1, t, k, j, o, h => by
    have ih := fun t k j o => Tr.get_setF f t k j o
    cases t with
    | lf =>
      simp only [Tr.setF]
      by_cases hk : k = 0
      · subst hk; simp only [if_true, Tr.get, Tr.get_lf]; split <;> simp
      · rw [if_neg hk]
        by_cases hp : k % 2 = 1
        · rw [if_pos hp]
          simp only [Tr.get]
          by_cases hj : j = 0
          · rw [if_pos hj, if_neg (by omega)]
          · rw [if_neg hj]
            by_cases hq : j % 2 = 1
            · rw [if_pos hq, ih _ _ _ _ (by omega)]
              by_cases e : j = k
              · rw [if_pos e, if_pos (by omega)]
              · rw [if_neg e, if_neg (by omega)]; rfl
            · rw [if_neg hq, if_neg (by intro e; subst e; exact hq hp)]
        · rw [if_neg hp]
          simp only [Tr.get]
          by_cases hj : j = 0
          · rw [if_pos hj, if_neg (by omega)]
          · rw [if_neg hj]
            by_cases hq : j % 2 = 1
            · rw [if_pos hq, if_neg (by intro e; subst e; exact hp hq)]
            · rw [if_neg hq, ih _ _ _ _ (by omega)]
              by_cases e : j = k
              · rw [if_pos e, if_pos (by omega)]
              · rw [if_neg e, if_neg (by omega)]; rfl
    | nd v l r =>
      simp only [Tr.setF]
      by_cases hk : k = 0
      · subst hk; simp only [if_true, Tr.get]; split <;> simp
      · rw [if_neg hk]
        by_cases hp : k % 2 = 1
        · rw [if_pos hp]
          simp only [Tr.get]
          by_cases hj : j = 0
          · rw [if_pos hj, if_neg (by omega), if_pos hj]
          · rw [if_neg hj, if_neg hj]
            by_cases hq : j % 2 = 1
            · rw [if_pos hq, if_pos hq, ih _ _ _ _ (by omega)]
              by_cases e : j = k
              · rw [if_pos e, if_pos (by omega)]
              · rw [if_neg e, if_neg (by omega)]
            · rw [if_neg hq, if_neg hq, if_neg (by intro e; subst e; exact hq hp)]
        · rw [if_neg hp]
          simp only [Tr.get]
          by_cases hj : j = 0
          · rw [if_pos hj, if_neg (by omega), if_pos hj]
          · rw [if_neg hj, if_neg hj]
            by_cases hq : j % 2 = 1
            · rw [if_pos hq, if_pos hq, if_neg (by intro e; subst e; exact hp hq)]
            · rw [if_neg hq, if_neg hq, ih _ _ _ _ (by omega)]
              by_cases e : j = k
              · rw [if_pos e, if_pos (by omega)]
              · rw [if_neg e, if_neg (by omega)]
theorem Tr.get_set (t : Tr) (k j : Nat) (o : Option VObj) : (t.set k o).get j = if j = k then o else t.get j := Tr.get_setF _ _ _ _ _ (by omega)

/-- block numbers from here on: the families of blocks -/
def OFF : Nat := 18446744073709551616

/-- a heap: the next number; the blocks by their numbers; how many blocks of families there are, and these (from OFF on) -/
structure AH where
  next : Nat
  tr : Tr
  hn : Nat
  hid : Nat → Option VObj
def AH.get (h : AH) (b : Nat) : Option VObj := match Nat.ble OFF b with | true => h.hid b | false => h.tr.get b
def AH.put (h : AH) (b : Nat) (o : Option VObj) : AH where
  next := h.next
  tr := match Nat.ble OFF b with | true => h.tr | false => h.tr.set b o
  hn := h.hn
  hid := match Nat.ble OFF b with | true => fun c => if c = b then o else h.hid c | false => h.hid
def AH.add (h : AH) (o : VObj) : AH where
  next := h.next + 1
  tr := match Nat.ble OFF h.next with | true => h.tr | false => h.tr.set h.next (some o)
  hn := h.hn
  hid := match Nat.ble OFF h.next with | true => fun c => if c = h.next then some o else h.hid c | false => h.hid
theorem AH.get_put (h : AH) (b c : Nat) (o : Option VObj) : (h.put b o).get c = if c = b then o else h.get c := by
  unfold AH.put AH.get
  cases hb : Nat.ble OFF b <;> cases hc : Nat.ble OFF c
  · simp only; exact Tr.get_set _ _ _ _
  · simp only; rw [if_neg (fun e => by subst e; rw [hb] at hc; cases hc)]
  · simp only; rw [if_neg (fun e => by subst e; rw [hb] at hc; cases hc)]
  · simp only
theorem AH.get_add (h : AH) (c : Nat) (o : VObj) : (h.add o).get c = if c = h.next then some o else h.get c := by
  unfold AH.add AH.get
  cases hb : Nat.ble OFF h.next <;> cases hc : Nat.ble OFF c
  · simp only; exact Tr.get_set _ _ _ _
  · simp only; rw [if_neg (fun e => by subst e; rw [hb] at hc; cases hc)]
  · simp only; rw [if_neg (fun e => by subst e; rw [hb] at hc; cases hc)]
  · simp only
theorem AH.next_put (h : AH) (b : Nat) (o : Option VObj) : (h.put b o).next = h.next := rfl
theorem AH.next_add (h : AH) (o : VObj) : (h.add o).next = h.next + 1 := rfl
theorem AH.hn_put (h : AH) (b : Nat) (o : Option VObj) : (h.put b o).hn = h.hn := rfl
theorem AH.hn_add (h : AH) (o : VObj) : (h.add o).hn = h.hn := rfl

/-- block numbers that are there behind, and not ahead -/
def isNew (h h' : AH) (b : Nat) : Prop := (h.next ≤ b ∧ b < h'.next) ∨ (OFF + h.hn ≤ b ∧ b < OFF + h'.hn)
def AH.le (h h' : AH) : Prop := h.next ≤ h'.next ∧ h.hn ≤ h'.hn
theorem AH.le_refl (h : AH) : AH.le h h := ⟨Nat.le_refl _, Nat.le_refl _⟩
theorem AH.le_trans {a b c : AH} (h : AH.le a b) (k : AH.le b c) : AH.le a c := ⟨Nat.le_trans h.1 k.1, Nat.le_trans h.2 k.2⟩
theorem isNew_self {h : AH} {b : Nat} : ¬ isNew h h b := by unfold isNew; omega
theorem isNew_left {a b c : AH} (k : AH.le b c) {x : Nat} (h : isNew a b x) : isNew a c x := by
  unfold isNew at *
  have := k.1
  have := k.2
  omega
theorem isNew_right {a b c : AH} (k : AH.le a b) {x : Nat} (h : isNew b c x) : isNew a c x := by
  unfold isNew at *
  have := k.1
  have := k.2
  omega
theorem isNew_split {a b c : AH} {x : Nat} (h : isNew a c x) : isNew a b x ∨ isNew b c x := by
  unfold isNew at *
  omega
theorem isNew_congr {a b a' b' : AH} (h1 : a.next = a'.next) (h2 : a.hn = a'.hn) (h3 : b.next = b'.next) (h4 : b.hn = b'.hn) {x : Nat} : isNew a b x ↔ isNew a' b' x := by
  unfold isNew
  rw [h1, h2, h3, h4]
theorem isNew_add {h : AH} {o : VObj} {b : Nat} : isNew h (h.add o) b ↔ b = h.next := by
  unfold isNew
  rw [AH.next_add, AH.hn_add]
  omega
theorem isNew_padd {h : AH} {c : Nat} {o2 : Option VObj} {o : VObj} {b : Nat} : isNew h ((h.put c o2).add o) b ↔ b = h.next := by
  unfold isNew
  rw [AH.next_add, AH.hn_add, AH.next_put, AH.hn_put]
  omega
theorem AH.le_add (h : AH) (o : VObj) : AH.le h (h.add o) := ⟨by rw [AH.next_add]; omega, by rw [AH.hn_add]; exact Nat.le_refl _⟩
theorem AH.le_put (h : AH) (b : Nat) (o : Option VObj) : AH.le h (h.put b o) := ⟨by rw [AH.next_put]; exact Nat.le_refl _, by rw [AH.hn_put]; exact Nat.le_refl _⟩

/-! ### the virtual heap and the world -/
inductive RObj (ρ : Ren) (x : Nat) : VObj → Obj → Prop
  | cells {cs cs' rest : List Value} {elem : TypeId} {spare : Option Nat} {fz lo hi : Nat} : Rvs ρ cs cs' →
      (match spare with | none => rest = [] ∧ x = 0 | some s => rest.length = x * s) →
      (∀ off, off < cs'.length + rest.length → lo ≤ off → off < hi → off < fz) →
      RObj ρ x (.cells cs elem spare fz) (.cells ⟨cs' ++ rest⟩ elem (lo, hi))
  | map {es es' : List MapEntry} {clock : Nat} : es.length = es'.length →
      (∀ (i : Nat) e e', es[i]? = some e → es'[i]? = some e' → closed e.key = true ∧ e'.key = e.key ∧ e'.born = e.born ∧ Rv ρ e.val e'.val) →
      x = 0 → RObj ρ x (.map es clock) (.map ⟨es'⟩ clock)

theorem RObj.mono {ρ ρ' : Ren} (hle : Ren.le ρ ρ') {x : Nat} {o : VObj} {o' : Obj} (h : RObj ρ x o o') : RObj ρ' x o o' := by
  cases h with
  | cells h1 h2 h3 => exact .cells (h1.mono hle) h2 h3
  | map h1 h2 h3 => exact .map h1 (fun i e e' a b => ⟨(h2 i e e' a b).1, (h2 i e e' a b).2.1, (h2 i e e' a b).2.2.1, (h2 i e e' a b).2.2.2.mono hle⟩) h3

abbrev VH := Nat → Option VObj

/-- the virtual blocks below this number are the real blocks of the same number. -/
def fixN : Nat := 4096

structure Sim (ρ : Ren) (g : VH) (w : World) : Prop where
  fix : ∀ b, b < fixN → ρ b = some (b, 0)
  blk : ∀ b o, g b = some o → ∃ r x o', ρ b = some (r, x) ∧ w.heap[r]? = some o' ∧ RObj ρ x o o'
  inj : ∀ b c o1 o2 r x y, g b = some o1 → g c = some o2 → ρ b = some (r, x) → ρ c = some (r, y) → b = c

theorem Sim.weaken {ρ : Ren} {g g0 : VH} {w : World} (h : Sim ρ g w) (hs : ∀ b o, g0 b = some o → g b = some o) : Sim ρ g0 w :=
  ⟨h.fix, fun b o hb => h.blk b o (hs b o hb), fun b c o1 o2 r x y hb hc => h.inj b c o1 o2 r x y (hs _ _ hb) (hs _ _ hc)⟩

structure Ext (ρ : Ren) (g : VH) (w : World) (ρ' : Ren) (g' : VH) (w' : World) : Prop where
  le : Ren.le ρ ρ'
  os : w'.os = w.os
  output : w'.output = w.output
  size : w.heap.size ≤ w'.heap.size
  frame : ∀ r, r < w.heap.size → (∀ b o x, g b = some o → ρ b = some (r, x) → False) → w'.heap[r]? = w.heap[r]?
  new : ∀ b o r x, g' b = some o → ρ' b = some (r, x) → r < w.heap.size → ∃ c o' y, g c = some o' ∧ ρ c = some (r, y)

theorem Ext.refl (ρ : Ren) (g : VH) (w : World) : Ext ρ g w ρ g w :=
  ⟨Ren.le_refl _, rfl, rfl, Nat.le_refl _, fun _ _ _ => rfl, fun b o r x h1 h2 _ => ⟨b, o, x, h1, h2⟩⟩
theorem Ext.trans {ρ ρ1 ρ2 : Ren} {g g1 g2 : VH} {w w1 w2 : World} (h : Ext ρ g w ρ1 g1 w1) (k : Ext ρ1 g1 w1 ρ2 g2 w2) : Ext ρ g w ρ2 g2 w2 := by
  refine ⟨Ren.le_trans h.le k.le, k.os.trans h.os, k.output.trans h.output, Nat.le_trans h.size k.size, fun r hr hn => ?_, fun b o r x hb hρ hr => ?_⟩
  · rw [k.frame r (Nat.lt_of_lt_of_le hr h.size) (fun b o x hb hρ => ?_), h.frame r hr hn]
    obtain ⟨c, o', y, hc, hy⟩ := h.new b o r x hb hρ hr
    exact hn c o' y hc hy
  · obtain ⟨c, o', y, hc, hy⟩ := k.new b o r x hb hρ (Nat.lt_of_lt_of_le hr h.size)
    exact h.new c o' r y hc hy hr

end Go.Am
