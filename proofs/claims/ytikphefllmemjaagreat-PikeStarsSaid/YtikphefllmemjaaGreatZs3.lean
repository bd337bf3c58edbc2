import Derived.Test.YtikphefllmemjaaGreatZs2A
import Derived.Test.YtikphefllmemjaaGreatZs2Az
/-
PikeStars: what pike.Run answers to 'a*', and to its lazy form.
-/
namespace Go.Am.Zt
open Go Go.Am Go.Proofs
set_option linter.unusedVariables false
set_option maxRecDepth 100000

/-- n letters a, then m letters b -/
structure Txt (s : ByteArray) (n m : Nat) : Prop where
  size : s.size = n + m
  small : s.size ≤ 9223372036854775806
  a : ∀ i : Int, 0 ≤ i → i < n → byteAt s i = 97
  b : ∀ i : Int, n ≤ i → i < n + m → byteAt s i = 98

theorem gl_le {B : Int} : ∀ {l : List Int}, (∀ x ∈ l, x ≤ B) → 0 ≤ B → ∀ k, gl l k ≤ B := by
  intro l h h0 k
  unfold gl
  rw [List.getD_eq_getElem?_getD]
  cases e : l[k]? with
  | none => exact h0
  | some v => exact h v (List.mem_of_getElem? e)

theorem SX.next {K : Nat} {a b : ICode} {S1 S2 : (Nat → Value) → St} {B : IEx → St → Prop} (h : ∀ j, SX Tryz.prog K a (S1 j) (fun e st => e = .normal ∧ ∃ j, st = S2 j)) (k : ∀ j, SX Tryz.prog K b (S2 j) B) : ∀ j, SX Tryz.prog K (.seq a b) (S1 j) B :=
  fun j => SX.seq (h j) (fun st1 ⟨_, j', e⟩ => e ▸ k j') (fun e st1 hne hB => absurd hB.1 hne)

def l2 : List (Nat × VObj) := [(4096, (.cells [(.slice (some ⟨4097, 0, none⟩) 6 6), (.int .i64 1)] 30 none 0)), (4097, pr1), (4098, (.cells [(.slice (some ⟨4099, 0, none⟩) 10 10), (.int .i64 1)] 30 none 0)), (4099, pr2)]
def l2z : List (Nat × VObj) := [(4096, (.cells [(.slice (some ⟨4097, 0, none⟩) 6 6), (.int .i64 1)] 30 none 0)), (4097, pr1z), (4098, (.cells [(.slice (some ⟨4099, 0, none⟩) 10 10), (.int .i64 1)] 30 none 0)), (4099, pr2z)]
def notes (e : Int) : VObj := .cells [.int .i64 0, .int .i64 e] 3 (some 1) 0
def prog1 : Value := .agg ⟨[.slice (some ⟨4097, 0, none⟩) 6 6, .int .i64 1]⟩
def prog2 : Value := .agg ⟨[.slice (some ⟨4099, 0, none⟩) 10 10, .int .i64 1]⟩

/-- where the rounds of 'a*' stand -/
def InvA (s : ByteArray) (n : Nat) (k : Nat) (st : St) : Prop :=
  (k = s.size + 3 ∧ ∃ j, st = H0A s j) ∨
  (∃ (i : Nat) (b : Int) (c d : Nat → Int) (j : Nat → Value), 1 ≤ i ∧ i ≤ n ∧ k = s.size + 2 - i ∧ (∀ k, c k ≤ i + 1) ∧ (∀ k, d k ≤ i) ∧ st = HAA s i b c d j) ∨
  (∃ (i : Nat) (y z : Int) (c d : Nat → Int) (j : Nat → Value), 1 ≤ i ∧ k = 1 ∧ (∀ k, c k ≤ i + 1) ∧ (∀ k, d k ≤ i) ∧ st = HEA s i n y z c d j) ∨
  (k = 1 ∧ n = 0 ∧ ∃ j, st = HE0A s j)

theorem loopA {s : ByteArray} {n m : Nat} (h : Txt s n m) (j : Nat → Value) : SX Tryz.prog 4100 (.loop body10) (H0A s j) (fun e st => e = .exit 0 ∧ ∃ j, st = XxA s n j) := by
  have hz := h.size
  refine SX.loop (InvA s n) ?_ (n := s.size + 3) (.inl ⟨rfl, j, rfl⟩)
  rintro k st (⟨rfl, j, rfl⟩ | ⟨i, b, c, d, j, h1, h2, rfl, hc, hd, rfl⟩ | ⟨i, y, z, c, d, j, h1, rfl, hc, hd, rfl⟩ | ⟨rfl, hn, j, rfl⟩)
  · by_cases h0 : s.size = 0
    · refine SX.mono (rA_0e s h.small h0 j) ?_
      rintro e st ⟨rfl, j, rfl⟩
      have : n = 0 := by omega
      subst this
      exact .inl ⟨rfl, 1, by omega, .inr (.inr (.inr ⟨rfl, rfl, j, rfl⟩))⟩
    · by_cases hn : n = 0
      · refine SX.mono (rA_0b s h.small (by omega) (h.b 0 (by omega) (by omega)) j) ?_
        rintro e st ⟨rfl, j, rfl⟩
        subst hn
        exact .inl ⟨rfl, 1, by omega, .inr (.inr (.inr ⟨rfl, rfl, j, rfl⟩))⟩
      · refine SX.mono (rA_0a s h.small (by omega) (h.a 0 (by omega) (by omega)) j) ?_
        rintro e st ⟨rfl, j, rfl⟩
        refine .inl ⟨rfl, s.size + 2 - 1, by omega, .inr (.inl ⟨1, _, _, _, j, by omega, by omega, rfl, gl_le ?_ (by omega), gl_le ?_ (by omega), rfl⟩)⟩ <;> simp
  · have hc0 := hc 0; have hc1 := hc 1; have hc2 := hc 2; have hc3 := hc 3; have hc4 := hc 4; have hc5 := hc 5
    have hd0 := hd 0; have hd1 := hd 1; have hd2 := hd 2; have hd3 := hd 3; have hd4 := hd 4; have hd5 := hd 5
    by_cases hn : i < n
    · refine SX.mono (rA_a s h.small i b 0 0 c d (by omega) hc hd (by omega) (h.a i (by omega) (by omega)) j) ?_
      rintro e st ⟨rfl, j, rfl⟩
      refine .inl ⟨rfl, s.size + 2 - (i + 1), by omega, .inr (.inl ⟨i + 1, _, _, _, j, by omega, by omega, rfl, gl_le ?_ (by omega), gl_le ?_ (by omega), rfl⟩)⟩
      · simp; omega
      · simp; omega
    · have hi : i = n := by omega
      by_cases hm : m = 0
      · refine SX.mono (rA_e s h.small i b 0 0 c d (by omega) hc hd (by omega) j) ?_
        rintro e st ⟨rfl, j, rfl⟩
        subst hi
        refine .inl ⟨rfl, 1, by omega, .inr (.inr (.inl ⟨i + 1, _, _, _, _, j, by omega, rfl, gl_le ?_ (by omega), gl_le ?_ (by omega), rfl⟩))⟩
        · simp; omega
        · simp; omega
      · refine SX.mono (rA_b s h.small i b 0 0 c d (by omega) hc hd (by omega) (h.b i (by omega) (by omega)) j) ?_
        rintro e st ⟨rfl, j, rfl⟩
        subst hi
        refine .inl ⟨rfl, 1, by omega, .inr (.inr (.inl ⟨i + 1, _, _, _, _, j, by omega, rfl, gl_le ?_ (by omega), gl_le ?_ (by omega), rfl⟩))⟩
        · simp; omega
        · simp; omega
  · by_cases hx : (s.size : Int) < i
    · refine SX.mono (rA_x s h.small i n y z c d (by omega) hc hd hx j) ?_
      rintro e st ⟨rfl, j, rfl⟩
      exact .inr ⟨by simp, rfl, j, rfl⟩
    · refine SX.mono (rA_y s h.small i n y z c d (by omega) hc hd (by omega) j) ?_
      rintro e st ⟨rfl, j, rfl⟩
      exact .inr ⟨by simp, rfl, j, rfl⟩
  · subst hn
    by_cases hs : s.size = 0
    · refine SX.mono (rA_x0 s h.small hs j) ?_
      rintro e st ⟨rfl, j, rfl⟩
      exact .inr ⟨by simp, rfl, j, rfl⟩
    · refine SX.mono (rA_y0 s h.small (by omega) j) ?_
      rintro e st ⟨rfl, j, rfl⟩
      exact .inr ⟨by simp, rfl, j, rfl⟩

theorem runA {s : ByteArray} {n m : Nat} (h : Txt s n m) :
    Con Tryz.prog 10 [prog1, .string s, .int .i64 0, .bool true] (mkH 4100 l2) (.slice (some ⟨4100, 0, none⟩) 2 2) (mkH 4101 (l2 ++ [(4100, notes n)])) := by
  refine Con.ofSX ok (fn := f10) rfl (by kernel_rfl) (by kernel_rfl) (by kernel_rfl) (by kernel_rfl) (by decide) (by decide) ?_
  have hx : SX Tryz.prog 4100 f10.body (P0A s fun _ => undef) (fun e st => (e = .normal ∨ e = .ret) ∧ st.ds = [] ∧ (resVs st.h st.tmps f10.results).map packV = some (.slice (some ⟨4100, 0, none⟩) 2 2) ∧ st.h = mkH 4101 (l2 ++ [(4100, notes n)])) := by
    refine SX.next (pA0 s h.small) (SX.next (pA1 s h.small) (SX.next (pA2 s h.small) (SX.next (pA3 s h.small) (SX.next (pA4 s h.small) (SX.next (S2 := XxA s n) ?_ ?_))))) _
    · refine SX.next (pA5 s h.small) (fun j => SX.block (loopA h j) ?_)
      rintro e st ⟨rfl, j, rfl⟩
      exact ⟨rfl, j, rfl⟩
    · intro j
      refine SX.mono (fA_x s h.small n j) ?_
      rintro e st ⟨rfl, j, rfl⟩
      exact ⟨.inr rfl, rfl, by kernel_rfl, by kernel_rfl⟩
  exact hx

theorem runAz {s : ByteArray} {n m : Nat} (h : Txt s n m) :
    Con Tryz.prog 10 [prog1, .string s, .int .i64 0, .bool true] (mkH 4100 l2z) (.slice (some ⟨4100, 0, none⟩) 2 2) (mkH 4101 (l2z ++ [(4100, notes 0)])) := by
  refine Con.ofSX ok (fn := f10) rfl (by kernel_rfl) (by kernel_rfl) (by kernel_rfl) (by kernel_rfl) (by decide) (by decide) ?_
  have hx : SX Tryz.prog 4100 f10.body (P0Az s fun _ => undef) (fun e st => (e = .normal ∨ e = .ret) ∧ st.ds = [] ∧ (resVs st.h st.tmps f10.results).map packV = some (.slice (some ⟨4100, 0, none⟩) 2 2) ∧ st.h = mkH 4101 (l2z ++ [(4100, notes 0)])) := by
    refine SX.next (pAz0 s h.small) (SX.next (pAz1 s h.small) (SX.next (pAz2 s h.small) (SX.next (pAz3 s h.small) (SX.next (pAz4 s h.small) (SX.next (S2 := XxAz s) ?_ ?_))))) _
    · refine SX.next (pAz5 s h.small) (fun j => SX.block (B1 := fun e st => e = .exit 0 ∧ ∃ j, st = XxAz s j) ?_ ?_)
      · refine SX.loop (fun k st => (k = 2 ∧ ∃ j, st = H0Az s j) ∨ (k = 1 ∧ ∃ j, st = HEAz s j)) ?_ (n := 2) (.inl ⟨rfl, j, rfl⟩)
        rintro k st (⟨rfl, j, rfl⟩ | ⟨rfl, j, rfl⟩)
        · refine SX.mono (rAz_0 s h.small j) ?_
          rintro e st ⟨rfl, j, rfl⟩
          exact .inl ⟨rfl, 1, by omega, .inr ⟨rfl, j, rfl⟩⟩
        · by_cases h0 : s.size = 0
          · refine SX.mono (rAz_x s h.small h0 j) ?_
            rintro e st ⟨rfl, j, rfl⟩
            exact .inr ⟨by simp, rfl, j, rfl⟩
          · refine SX.mono (rAz_y s h.small (by omega) j) ?_
            rintro e st ⟨rfl, j, rfl⟩
            exact .inr ⟨by simp, rfl, j, rfl⟩
      · rintro e st ⟨rfl, j, rfl⟩
        exact ⟨rfl, j, rfl⟩
    · intro j
      refine SX.mono (fAz_x s h.small j) ?_
      rintro e st ⟨rfl, j, rfl⟩
      exact ⟨.inr rfl, rfl, by kernel_rfl, by kernel_rfl⟩
  exact hx
end Go.Am.Zt
