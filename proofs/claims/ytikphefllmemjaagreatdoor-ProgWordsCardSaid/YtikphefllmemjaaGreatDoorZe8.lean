import Derived.Test.YtikphefllmemjaaGreatDoorZe5
/-
Rows of nodes of one letter each, and their sets.
-/
namespace Go.Am.Zd
open Go Go.Am Go.Proofs
set_option maxRecDepth 100000
set_option linter.unusedVariables false
/-- a node of one letter: its set is the member y -/
def nodeC (y : Nat) : List Value := [.int .i64 1, .slice (some ⟨OFF + y, 0, none⟩) 1 1, .bool false, .int .i64 0, .int .i64 0, .bool false, .int .i64 0, .string ⟨⟨[]⟩⟩, .slice none 0 0]
def nrow (f : Nat → Nat) : Nat → List Value
  | 0 => []
  | n + 1 => nrow f n ++ nodeC (f n)
def setO (x : Int) : VObj := .cells [.int .i64 x, .int .i64 x] 53 (some 2) 0
def famOf (c : Nat → Int) : Nat → Nat → Option VObj
  | 0 => noF
  | n + 1 => famAdd (famOf c n) n (setO (c n))
theorem node_st {y n : Nat} (h : y < n) : AllSt (famD 0 n) (nodeC y) :=
  AllSt.cons True.intro (AllSt.cons (Or.inr ⟨Nat.le_add_right _ _, by omega⟩) (AllSt.cons True.intro (AllSt.cons True.intro (AllSt.cons True.intro (AllSt.cons True.intro (AllSt.cons True.intro (AllSt.cons True.intro (AllSt.cons True.intro AllSt.nil))))))))
theorem nrow_st {f : Nat → Nat} {m : Nat} : ∀ {n : Nat}, (∀ k, k < n → f k < m) → AllSt (famD 0 m) (nrow f n)
  | 0, _ => AllSt.nil
  | n + 1, h => (nrow_st (fun k hk => h k (by omega))).append (node_st (h n (by omega)))
theorem nrow_len (f : Nat → Nat) : ∀ n, (nrow f n).length = n * 9
  | 0 => rfl
  | n + 1 => by simp only [nrow, List.length_append, nrow_len f n]; show n * 9 + 9 = (n + 1) * 9; omega
theorem nrow_get (f : Nat → Nat) : ∀ {n i : Nat}, i < n → ((nrow f n).drop (i * 9)).take 9 = nodeC (f i)
  | 0, i, h => by omega
  | n + 1, i, h => by
    simp only [nrow]
    have hl := nrow_len f n
    rcases Nat.lt_or_ge i n with h1 | h1
    · rw [List.drop_append_of_le_length (by omega), List.take_append_of_le_length (by rw [List.length_drop]; omega)]
      exact nrow_get f h1
    · have : i = n := by omega
      subst this
      rw [List.drop_append, ← hl, List.drop_length, Nat.sub_self]
      rfl
theorem nrow_load (f : Nat → Nat) {n : Nat} {i : Int} (h0 : 0 ≤ i) (h1 : i < n) : loadNV (nrow f n) (0 + Int.toNat i * 9) 9 = some (.agg ⟨nodeC (f i.toNat)⟩) := by
  unfold loadNV
  rw [if_pos (by rw [nrow_len]; omega), Nat.zero_add, nrow_get f (by omega)]
  rfl
theorem nrow_load0 (f : Nat → Nat) {n : Nat} (h1 : 0 < n) : loadNV (nrow f n) 0 9 = some (.agg ⟨nodeC (f 0)⟩) := nrow_load f (i := 0) (Int.le_refl _) (by omega)
theorem fam_K (c : Nat → Int) : ∀ n, FamK 0 n (famOf c n)
  | 0 => noF_K 0
  | n + 1 => (fam_K c n).add (show AllSt _ _ from AllSt.cons True.intro (AllSt.cons True.intro AllSt.nil))
theorem fam_get (c : Nat → Int) : ∀ {n y : Nat}, y < n → famOf c n (OFF + y) = some (setO (c y))
  | 0, y, h => by omega
  | n + 1, y, h => by
    simp only [famOf, famAdd]
    rcases Nat.lt_or_ge y n with h1 | h1
    · rw [if_neg (by omega)]; exact fam_get c h1
    · have : y = n := by omega
      subst this
      rw [if_pos rfl]
theorem fam_load (c : Nat → Int) {n y : Nat} (h : y < n) : loadH (famOf c n) (OFF + y) 0 2 = some (.agg ⟨[.int .i64 (c y), .int .i64 (c y)]⟩) := by
  unfold loadH cellsIn
  rw [fam_get c h]
  rfl
theorem fam_load0 (c : Nat → Int) {n y : Nat} (h : y < n) : load1H (famOf c n) (OFF + y) 0 = some (vI (c y)) := by
  unfold load1H
  rw [fam_get c h]
  rfl
theorem fam_load1 (c : Nat → Int) {n y : Nat} (h : y < n) : load1H (famOf c n) (OFF + y) 1 = some (vI (c y)) := by
  unfold load1H
  rw [fam_get c h]
  rfl
theorem fam_congr {c c' : Nat → Int} : ∀ {n : Nat}, (∀ k, k < n → c k = c' k) → famOf c n = famOf c' n
  | 0, _ => rfl
  | n + 1, h => by simp only [famOf]; rw [fam_congr (fun k hk => h k (by omega)), h n (by omega)]
theorem AllSt.up {K n : Nat} {l : List Value} (h : AllSt (famD 0 n) l) : AllSt (famD K n) l := AllSt.mono (fun b hb => by unfold famD at *; omega) h
theorem AllSt.more {K n m : Nat} {l : List Value} (h : AllSt (famD K n) l) (hm : n ≤ m) : AllSt (famD K m) l := AllSt.mono (famD_mono hm) h
theorem FamK.up {K n : Nat} {F : Nat → Option VObj} (h : FamK 0 n F) : FamK K n F := fun b o hb ho => ⟨(h b o hb ho).1, (h b o hb ho).2.mono (fun b hb => by unfold famD at *; omega)⟩
theorem lt_OFF {n : Nat} (h : n ≤ 100000) : n < OFF := Nat.lt_of_le_of_lt h (by decide)
end Go.Am.Zd
