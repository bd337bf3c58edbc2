import Derived.Test.YtikphefllmemjaaGreatZs3
import Derived.Test.YtikphefllmemjaaGreatZs2B
import Derived.Test.YtikphefllmemjaaGreatZs2Bz
/-
PikeStars: what pike.Run answers to 'a*b+', and to its lazy form.
-/
namespace Go.Am.Zt
open Go Go.Am Go.Proofs
set_option linter.unusedVariables false
set_option maxRecDepth 100000

/-- where the rounds of 'a*b+' stand -/
def InvB (s : ByteArray) (q : Int) (n m : Nat) (k : Nat) (st : St) : Prop :=
  (k = s.size + 3 ∧ ∃ j, st = H0B s q j) ∨
  (∃ (i : Nat) (c d : Nat → Int) (j : Nat → Value), 1 ≤ i ∧ i ≤ n ∧ k = s.size + 2 - i ∧ (∀ k, c k ≤ i + 1) ∧ (∀ k, d k ≤ i) ∧ st = HBB s q i c d j) ∨
  (∃ (i : Nat) (c d : Nat → Int) (j : Nat → Value), i = n + 1 ∧ i ≤ s.size ∧ k = s.size + 2 - i ∧ (∀ k, c k ≤ i + 1) ∧ (∀ k, d k ≤ i) ∧ st = HCB s q i 0 0 c d j) ∨
  (∃ (i : Nat) (b : Int) (c d : Nat → Int) (j : Nat → Value), n + 2 ≤ i ∧ i ≤ s.size ∧ k = s.size + 2 - i ∧ (∀ k, c k ≤ i + 1) ∧ (∀ k, d k ≤ i) ∧ st = HDB s q i b 0 0 c d j) ∨
  (∃ (i : Nat) (c d : Nat → Int) (j : Nat → Value), m = 0 ∧ s.size < i ∧ k = 1 ∧ (∀ k, c k ≤ i + 1) ∧ (∀ k, d k ≤ i) ∧ st = HNB s q i 0 0 c d j) ∨
  (∃ (i : Nat) (c d : Nat → Int) (j : Nat → Value), 0 < m ∧ s.size < i ∧ k = 1 ∧ (∀ k, c k ≤ i + 1) ∧ (∀ k, d k ≤ i) ∧ st = HEB s q i s.size 0 0 c d j) ∨
  (∃ (i : Nat) (y : Int) (c d : Nat → Int) (j : Nat → Value), 0 < m ∧ s.size < i ∧ k = 1 ∧ (∀ k, c k ≤ i + 1) ∧ (∀ k, d k ≤ i) ∧ st = HFB s q i s.size y 0 c d j) ∨
  (k = 1 ∧ s.size = 0 ∧ ∃ j, st = HN0B s q j)

theorem loopB {s : ByteArray} {n m : Nat} (h : Txt s n m) (q : Int) (j : Nat → Value) : SX Tryz.prog 4101 (.loop body10) (H0B s q j) (fun e st => e = .exit 0 ∧ ((m = 0 ∧ ∃ j, st = Xx0B s q j) ∨ (0 < m ∧ ∃ j, st = XxEB s q s.size j))) := by
  have hz := h.size
  refine SX.loop (InvB s q n m) ?_ (n := s.size + 3) (.inl ⟨rfl, j, rfl⟩)
  rintro k st (⟨rfl, j, rfl⟩ | ⟨i, c, d, j, h1, h2, rfl, hc, hd, rfl⟩ | ⟨i, c, d, j, h1, h2, rfl, hc, hd, rfl⟩ | ⟨i, b, c, d, j, h1, h2, rfl, hc, hd, rfl⟩ | ⟨i, c, d, j, h1, h2, rfl, hc, hd, rfl⟩ | ⟨i, c, d, j, h1, h2, rfl, hc, hd, rfl⟩ | ⟨i, y, c, d, j, h1, h2, rfl, hc, hd, rfl⟩ | ⟨rfl, hs, j, rfl⟩)
  · by_cases h0 : s.size = 0
    · refine SX.mono (rB_0e s q h.small h0 j) ?_
      rintro e st ⟨rfl, j, rfl⟩
      exact .inl ⟨rfl, 1, by omega, .inr (.inr (.inr (.inr (.inr (.inr (.inr ⟨rfl, h0, j, rfl⟩))))))⟩
    · by_cases hn : n = 0
      · refine SX.mono (rB_0b s q h.small (by omega) (h.b 0 (by omega) (by omega)) j) ?_
        rintro e st ⟨rfl, j, rfl⟩
        refine .inl ⟨rfl, s.size + 2 - 1, by omega, .inr (.inr (.inl ⟨1, _, _, j, by omega, by omega, rfl, gl_le ?_ (by omega), gl_le ?_ (by omega), rfl⟩))⟩ <;> simp
      · refine SX.mono (rB_0a s q h.small (by omega) (h.a 0 (by omega) (by omega)) j) ?_
        rintro e st ⟨rfl, j, rfl⟩
        refine .inl ⟨rfl, s.size + 2 - 1, by omega, .inr (.inl ⟨1, _, _, j, by omega, by omega, rfl, gl_le ?_ (by omega), gl_le ?_ (by omega), rfl⟩)⟩ <;> simp
  · have hc0 := hc 0; have hd0 := hd 0; have hc1 := hc 1; have hd1 := hd 1; have hc2 := hc 2; have hd2 := hd 2; have hc3 := hc 3; have hd3 := hd 3; have hc4 := hc 4; have hd4 := hd 4; have hc5 := hc 5; have hd5 := hd 5; have hc6 := hc 6; have hd6 := hd 6; have hc7 := hc 7; have hd7 := hd 7; have hc8 := hc 8; have hd8 := hd 8; have hc9 := hc 9; have hd9 := hd 9
    by_cases hn : i < n
    · refine SX.mono (rB_Ba s q h.small i 0 0 0 c d (by omega) hc hd (by omega) (h.a i (by omega) (by omega)) j) ?_
      rintro e st ⟨rfl, j, rfl⟩
      refine .inl ⟨rfl, s.size + 2 - (i + 1), by omega, .inr (.inl ⟨i + 1, _, _, j, by omega, by omega, rfl, gl_le ?_ (by omega), gl_le ?_ (by omega), rfl⟩)⟩ <;> (simp; omega)
    · by_cases hm : m = 0
      · refine SX.mono (rB_Be s q h.small i 0 0 0 c d (by omega) hc hd (by omega) j) ?_
        rintro e st ⟨rfl, j, rfl⟩
        refine .inl ⟨rfl, 1, by omega, .inr (.inr (.inr (.inr (.inl ⟨i + 1, _, _, j, hm, by omega, rfl, gl_le ?_ (by omega), gl_le ?_ (by omega), rfl⟩))))⟩ <;> (simp; omega)
      · refine SX.mono (rB_Bb s q h.small i 0 0 0 c d (by omega) hc hd (by omega) (h.b i (by omega) (by omega)) j) ?_
        rintro e st ⟨rfl, j, rfl⟩
        refine .inl ⟨rfl, s.size + 2 - (i + 1), by omega, .inr (.inr (.inl ⟨i + 1, _, _, j, by omega, by omega, rfl, gl_le ?_ (by omega), gl_le ?_ (by omega), rfl⟩))⟩ <;> (simp; omega)
  · have hc0 := hc 0; have hd0 := hd 0; have hc1 := hc 1; have hd1 := hd 1; have hc2 := hc 2; have hd2 := hd 2; have hc3 := hc 3; have hd3 := hd 3; have hc4 := hc 4; have hd4 := hd 4; have hc5 := hc 5; have hd5 := hd 5; have hc6 := hc 6; have hd6 := hd 6; have hc7 := hc 7; have hd7 := hd 7; have hc8 := hc 8; have hd8 := hd 8; have hc9 := hc 9; have hd9 := hd 9
    by_cases hn : i < s.size
    · refine SX.mono (rB_Cb s q h.small i 0 0 0 c d (by omega) hc hd (by omega) (h.b i (by omega) (by omega)) j) ?_
      rintro e st ⟨rfl, j, rfl⟩
      refine .inl ⟨rfl, s.size + 2 - (i + 1), by omega, .inr (.inr (.inr (.inl ⟨i + 1, _, _, _, j, by omega, by omega, rfl, gl_le ?_ (by omega), gl_le ?_ (by omega), rfl⟩)))⟩ <;> (simp; omega)
    · have hi : i = s.size := by omega
      refine SX.mono (rB_Ce s q h.small i 0 0 0 c d (by omega) hc hd (by omega) j) ?_
      rintro e st ⟨rfl, j, rfl⟩
      have e : ((i : Nat) : Int) = (s.size : Int) := by omega
      refine .inl ⟨rfl, 1, by omega, .inr (.inr (.inr (.inr (.inr (.inl ⟨i + 1, _, _, j, by omega, by omega, rfl, gl_le ?_ (by omega), gl_le ?_ (by omega), congrArg (fun b => HEB s q ((i : Int) + 1) b 0 0 _ _ j) e⟩)))))⟩ <;> (simp; omega)
  · have hc0 := hc 0; have hd0 := hd 0; have hc1 := hc 1; have hd1 := hd 1; have hc2 := hc 2; have hd2 := hd 2; have hc3 := hc 3; have hd3 := hd 3; have hc4 := hc 4; have hd4 := hd 4; have hc5 := hc 5; have hd5 := hd 5; have hc6 := hc 6; have hd6 := hd 6; have hc7 := hc 7; have hd7 := hd 7; have hc8 := hc 8; have hd8 := hd 8; have hc9 := hc 9; have hd9 := hd 9
    by_cases hn : i < s.size
    · refine SX.mono (rB_Db s q h.small i b 0 0 c d (by omega) hc hd (by omega) (h.b i (by omega) (by omega)) j) ?_
      rintro e st ⟨rfl, j, rfl⟩
      refine .inl ⟨rfl, s.size + 2 - (i + 1), by omega, .inr (.inr (.inr (.inl ⟨i + 1, _, _, _, j, by omega, by omega, rfl, gl_le ?_ (by omega), gl_le ?_ (by omega), rfl⟩)))⟩ <;> (simp; omega)
    · have hi : i = s.size := by omega
      refine SX.mono (rB_De s q h.small i b 0 0 c d (by omega) hc hd (by omega) j) ?_
      rintro e st ⟨rfl, j, rfl⟩
      have e : ((i : Nat) : Int) = (s.size : Int) := by omega
      refine .inl ⟨rfl, 1, by omega, .inr (.inr (.inr (.inr (.inr (.inr (.inl ⟨i + 1, b, _, _, j, by omega, by omega, rfl, gl_le ?_ (by omega), gl_le ?_ (by omega), congrArg (fun v => HFB s q ((i : Int) + 1) v b 0 _ _ j) e⟩))))))⟩ <;> (simp; omega)
  · refine SX.mono (rB_xN s q h.small i 0 0 0 c d (by omega) hc hd (by omega) j) ?_
    rintro e st ⟨rfl, j, rfl⟩
    exact .inr ⟨by simp, rfl, .inl ⟨h1, j, rfl⟩⟩
  · refine SX.mono (rB_xE s q h.small i s.size 0 0 c d (by omega) hc hd (by omega) j) ?_
    rintro e st ⟨rfl, j, rfl⟩
    exact .inr ⟨by simp, rfl, .inr ⟨h1, j, rfl⟩⟩
  · refine SX.mono (rB_xF s q h.small i s.size y 0 c d (by omega) hc hd (by omega) j) ?_
    rintro e st ⟨rfl, j, rfl⟩
    exact .inr ⟨by simp, rfl, .inr ⟨h1, j, rfl⟩⟩
  · refine SX.mono (rB_x0 s q h.small hs j) ?_
    rintro e st ⟨rfl, j, rfl⟩
    exact .inr ⟨by simp, rfl, .inl ⟨by omega, j, rfl⟩⟩

theorem runB_n {s : ByteArray} {n m : Nat} (h : Txt s n m) (q : Int) (hm : m = 0) :
    Con Tryz.prog 10 [prog2, .string s, .int .i64 0, .bool true] (mkH 4101 (l2 ++ [(4100, notes q)])) (.slice none 0 0) (mkH 4101 (l2 ++ [(4100, notes q)])) := by
  refine Con.ofSX ok (fn := f10) rfl (by kernel_rfl) (by kernel_rfl) (by kernel_rfl) (by kernel_rfl) (by decide) (by decide) ?_
  have hx : SX Tryz.prog 4101 f10.body (P0B s q fun _ => undef) (fun e st => (e = .normal ∨ e = .ret) ∧ st.ds = [] ∧ (resVs st.h st.tmps f10.results).map packV = some (.slice none 0 0) ∧ st.h = mkH 4101 (l2 ++ [(4100, notes q)])) := by
    refine SX.next (pB0 s q h.small) (SX.next (pB1 s q h.small) (SX.next (pB2 s q h.small) (SX.next (pB3 s q h.small) (SX.next (pB4 s q h.small) (SX.next (S2 := Xx0B s q) ?_ ?_))))) _
    · refine SX.next (pB5 s q h.small) (fun j => SX.block (loopB h q j) ?_)
      rintro e st ⟨rfl, ⟨_, j, rfl⟩ | ⟨hm', _⟩⟩
      · exact ⟨rfl, j, rfl⟩
      · omega
    · intro j
      refine SX.mono (fB_x0 s q h.small j) ?_
      rintro e st ⟨rfl, j, rfl⟩
      exact ⟨.inr rfl, rfl, by kernel_rfl, by kernel_rfl⟩
  exact hx

theorem runB {s : ByteArray} {n m : Nat} (h : Txt s n m) (q : Int) (hm : 0 < m) :
    Con Tryz.prog 10 [prog2, .string s, .int .i64 0, .bool true] (mkH 4101 (l2 ++ [(4100, notes q)])) (.slice (some ⟨4101, 0, none⟩) 2 2) (mkH 4102 (l2 ++ [(4100, notes q), (4101, notes s.size)])) := by
  refine Con.ofSX ok (fn := f10) rfl (by kernel_rfl) (by kernel_rfl) (by kernel_rfl) (by kernel_rfl) (by decide) (by decide) ?_
  have hx : SX Tryz.prog 4101 f10.body (P0B s q fun _ => undef) (fun e st => (e = .normal ∨ e = .ret) ∧ st.ds = [] ∧ (resVs st.h st.tmps f10.results).map packV = some (.slice (some ⟨4101, 0, none⟩) 2 2) ∧ st.h = mkH 4102 (l2 ++ [(4100, notes q), (4101, notes s.size)])) := by
    refine SX.next (pB0 s q h.small) (SX.next (pB1 s q h.small) (SX.next (pB2 s q h.small) (SX.next (pB3 s q h.small) (SX.next (pB4 s q h.small) (SX.next (S2 := XxEB s q s.size) ?_ ?_))))) _
    · refine SX.next (pB5 s q h.small) (fun j => SX.block (loopB h q j) ?_)
      rintro e st ⟨rfl, ⟨hm', _⟩ | ⟨_, j, rfl⟩⟩
      · omega
      · exact ⟨rfl, j, rfl⟩
    · intro j
      refine SX.mono (fB_xE s q h.small s.size j) ?_
      rintro e st ⟨rfl, j, rfl⟩
      exact ⟨.inr rfl, rfl, by kernel_rfl, by kernel_rfl⟩
  exact hx

/-- where the rounds of 'a*?b+' stand -/
def InvBz (s : ByteArray) (q : Int) (n m : Nat) (k : Nat) (st : St) : Prop :=
  (k = s.size + 3 ∧ ∃ j, st = H0Bz s q j) ∨
  (∃ (i : Nat) (c d : Nat → Int) (j : Nat → Value), 1 ≤ i ∧ i ≤ n ∧ k = s.size + 2 - i ∧ (∀ k, c k ≤ i + 1) ∧ (∀ k, d k ≤ i) ∧ st = HBBz s q i c d j) ∨
  (∃ (i : Nat) (c d : Nat → Int) (j : Nat → Value), i = n + 1 ∧ i ≤ s.size ∧ k = s.size + 2 - i ∧ (∀ k, c k ≤ i + 1) ∧ (∀ k, d k ≤ i) ∧ st = HCBz s q i 0 0 c d j) ∨
  (∃ (i : Nat) (b : Int) (c d : Nat → Int) (j : Nat → Value), n + 2 ≤ i ∧ i ≤ s.size ∧ k = s.size + 2 - i ∧ (∀ k, c k ≤ i + 1) ∧ (∀ k, d k ≤ i) ∧ st = HDBz s q i b 0 0 c d j) ∨
  (∃ (i : Nat) (c d : Nat → Int) (j : Nat → Value), m = 0 ∧ s.size < i ∧ k = 1 ∧ (∀ k, c k ≤ i + 1) ∧ (∀ k, d k ≤ i) ∧ st = HNBz s q i 0 0 c d j) ∨
  (∃ (i : Nat) (c d : Nat → Int) (j : Nat → Value), 0 < m ∧ s.size < i ∧ k = 1 ∧ (∀ k, c k ≤ i + 1) ∧ (∀ k, d k ≤ i) ∧ st = HEBz s q i s.size 0 0 c d j) ∨
  (∃ (i : Nat) (y : Int) (c d : Nat → Int) (j : Nat → Value), 0 < m ∧ s.size < i ∧ k = 1 ∧ (∀ k, c k ≤ i + 1) ∧ (∀ k, d k ≤ i) ∧ st = HFBz s q i s.size y 0 c d j) ∨
  (k = 1 ∧ s.size = 0 ∧ ∃ j, st = HN0Bz s q j)

theorem loopBz {s : ByteArray} {n m : Nat} (h : Txt s n m) (q : Int) (j : Nat → Value) : SX Tryz.prog 4101 (.loop body10) (H0Bz s q j) (fun e st => e = .exit 0 ∧ ((m = 0 ∧ ∃ j, st = Xx0Bz s q j) ∨ (0 < m ∧ ∃ j, st = XxEBz s q s.size j))) := by
  have hz := h.size
  refine SX.loop (InvBz s q n m) ?_ (n := s.size + 3) (.inl ⟨rfl, j, rfl⟩)
  rintro k st (⟨rfl, j, rfl⟩ | ⟨i, c, d, j, h1, h2, rfl, hc, hd, rfl⟩ | ⟨i, c, d, j, h1, h2, rfl, hc, hd, rfl⟩ | ⟨i, b, c, d, j, h1, h2, rfl, hc, hd, rfl⟩ | ⟨i, c, d, j, h1, h2, rfl, hc, hd, rfl⟩ | ⟨i, c, d, j, h1, h2, rfl, hc, hd, rfl⟩ | ⟨i, y, c, d, j, h1, h2, rfl, hc, hd, rfl⟩ | ⟨rfl, hs, j, rfl⟩)
  · by_cases h0 : s.size = 0
    · refine SX.mono (rBz_0e s q h.small h0 j) ?_
      rintro e st ⟨rfl, j, rfl⟩
      exact .inl ⟨rfl, 1, by omega, .inr (.inr (.inr (.inr (.inr (.inr (.inr ⟨rfl, h0, j, rfl⟩))))))⟩
    · by_cases hn : n = 0
      · refine SX.mono (rBz_0b s q h.small (by omega) (h.b 0 (by omega) (by omega)) j) ?_
        rintro e st ⟨rfl, j, rfl⟩
        refine .inl ⟨rfl, s.size + 2 - 1, by omega, .inr (.inr (.inl ⟨1, _, _, j, by omega, by omega, rfl, gl_le ?_ (by omega), gl_le ?_ (by omega), rfl⟩))⟩ <;> simp
      · refine SX.mono (rBz_0a s q h.small (by omega) (h.a 0 (by omega) (by omega)) j) ?_
        rintro e st ⟨rfl, j, rfl⟩
        refine .inl ⟨rfl, s.size + 2 - 1, by omega, .inr (.inl ⟨1, _, _, j, by omega, by omega, rfl, gl_le ?_ (by omega), gl_le ?_ (by omega), rfl⟩)⟩ <;> simp
  · have hc0 := hc 0; have hd0 := hd 0; have hc1 := hc 1; have hd1 := hd 1; have hc2 := hc 2; have hd2 := hd 2; have hc3 := hc 3; have hd3 := hd 3; have hc4 := hc 4; have hd4 := hd 4; have hc5 := hc 5; have hd5 := hd 5; have hc6 := hc 6; have hd6 := hd 6; have hc7 := hc 7; have hd7 := hd 7; have hc8 := hc 8; have hd8 := hd 8; have hc9 := hc 9; have hd9 := hd 9
    by_cases hn : i < n
    · refine SX.mono (rBz_Ba s q h.small i 0 0 0 c d (by omega) hc hd (by omega) (h.a i (by omega) (by omega)) j) ?_
      rintro e st ⟨rfl, j, rfl⟩
      refine .inl ⟨rfl, s.size + 2 - (i + 1), by omega, .inr (.inl ⟨i + 1, _, _, j, by omega, by omega, rfl, gl_le ?_ (by omega), gl_le ?_ (by omega), rfl⟩)⟩ <;> (simp; omega)
    · by_cases hm : m = 0
      · refine SX.mono (rBz_Be s q h.small i 0 0 0 c d (by omega) hc hd (by omega) j) ?_
        rintro e st ⟨rfl, j, rfl⟩
        refine .inl ⟨rfl, 1, by omega, .inr (.inr (.inr (.inr (.inl ⟨i + 1, _, _, j, hm, by omega, rfl, gl_le ?_ (by omega), gl_le ?_ (by omega), rfl⟩))))⟩ <;> (simp; omega)
      · refine SX.mono (rBz_Bb s q h.small i 0 0 0 c d (by omega) hc hd (by omega) (h.b i (by omega) (by omega)) j) ?_
        rintro e st ⟨rfl, j, rfl⟩
        refine .inl ⟨rfl, s.size + 2 - (i + 1), by omega, .inr (.inr (.inl ⟨i + 1, _, _, j, by omega, by omega, rfl, gl_le ?_ (by omega), gl_le ?_ (by omega), rfl⟩))⟩ <;> (simp; omega)
  · have hc0 := hc 0; have hd0 := hd 0; have hc1 := hc 1; have hd1 := hd 1; have hc2 := hc 2; have hd2 := hd 2; have hc3 := hc 3; have hd3 := hd 3; have hc4 := hc 4; have hd4 := hd 4; have hc5 := hc 5; have hd5 := hd 5; have hc6 := hc 6; have hd6 := hd 6; have hc7 := hc 7; have hd7 := hd 7; have hc8 := hc 8; have hd8 := hd 8; have hc9 := hc 9; have hd9 := hd 9
    by_cases hn : i < s.size
    · refine SX.mono (rBz_Cb s q h.small i 0 0 0 c d (by omega) hc hd (by omega) (h.b i (by omega) (by omega)) j) ?_
      rintro e st ⟨rfl, j, rfl⟩
      refine .inl ⟨rfl, s.size + 2 - (i + 1), by omega, .inr (.inr (.inr (.inl ⟨i + 1, _, _, _, j, by omega, by omega, rfl, gl_le ?_ (by omega), gl_le ?_ (by omega), rfl⟩)))⟩ <;> (simp; omega)
    · have hi : i = s.size := by omega
      refine SX.mono (rBz_Ce s q h.small i 0 0 0 c d (by omega) hc hd (by omega) j) ?_
      rintro e st ⟨rfl, j, rfl⟩
      have e : ((i : Nat) : Int) = (s.size : Int) := by omega
      refine .inl ⟨rfl, 1, by omega, .inr (.inr (.inr (.inr (.inr (.inl ⟨i + 1, _, _, j, by omega, by omega, rfl, gl_le ?_ (by omega), gl_le ?_ (by omega), congrArg (fun b => HEBz s q ((i : Int) + 1) b 0 0 _ _ j) e⟩)))))⟩ <;> (simp; omega)
  · have hc0 := hc 0; have hd0 := hd 0; have hc1 := hc 1; have hd1 := hd 1; have hc2 := hc 2; have hd2 := hd 2; have hc3 := hc 3; have hd3 := hd 3; have hc4 := hc 4; have hd4 := hd 4; have hc5 := hc 5; have hd5 := hd 5; have hc6 := hc 6; have hd6 := hd 6; have hc7 := hc 7; have hd7 := hd 7; have hc8 := hc 8; have hd8 := hd 8; have hc9 := hc 9; have hd9 := hd 9
    by_cases hn : i < s.size
    · refine SX.mono (rBz_Db s q h.small i b 0 0 c d (by omega) hc hd (by omega) (h.b i (by omega) (by omega)) j) ?_
      rintro e st ⟨rfl, j, rfl⟩
      refine .inl ⟨rfl, s.size + 2 - (i + 1), by omega, .inr (.inr (.inr (.inl ⟨i + 1, _, _, _, j, by omega, by omega, rfl, gl_le ?_ (by omega), gl_le ?_ (by omega), rfl⟩)))⟩ <;> (simp; omega)
    · have hi : i = s.size := by omega
      refine SX.mono (rBz_De s q h.small i b 0 0 c d (by omega) hc hd (by omega) j) ?_
      rintro e st ⟨rfl, j, rfl⟩
      have e : ((i : Nat) : Int) = (s.size : Int) := by omega
      refine .inl ⟨rfl, 1, by omega, .inr (.inr (.inr (.inr (.inr (.inr (.inl ⟨i + 1, b, _, _, j, by omega, by omega, rfl, gl_le ?_ (by omega), gl_le ?_ (by omega), congrArg (fun v => HFBz s q ((i : Int) + 1) v b 0 _ _ j) e⟩))))))⟩ <;> (simp; omega)
  · refine SX.mono (rBz_xN s q h.small i 0 0 0 c d (by omega) hc hd (by omega) j) ?_
    rintro e st ⟨rfl, j, rfl⟩
    exact .inr ⟨by simp, rfl, .inl ⟨h1, j, rfl⟩⟩
  · refine SX.mono (rBz_xE s q h.small i s.size 0 0 c d (by omega) hc hd (by omega) j) ?_
    rintro e st ⟨rfl, j, rfl⟩
    exact .inr ⟨by simp, rfl, .inr ⟨h1, j, rfl⟩⟩
  · refine SX.mono (rBz_xF s q h.small i s.size y 0 c d (by omega) hc hd (by omega) j) ?_
    rintro e st ⟨rfl, j, rfl⟩
    exact .inr ⟨by simp, rfl, .inr ⟨h1, j, rfl⟩⟩
  · refine SX.mono (rBz_x0 s q h.small hs j) ?_
    rintro e st ⟨rfl, j, rfl⟩
    exact .inr ⟨by simp, rfl, .inl ⟨by omega, j, rfl⟩⟩

theorem runBz_n {s : ByteArray} {n m : Nat} (h : Txt s n m) (q : Int) (hm : m = 0) :
    Con Tryz.prog 10 [prog2, .string s, .int .i64 0, .bool true] (mkH 4101 (l2z ++ [(4100, notes q)])) (.slice none 0 0) (mkH 4101 (l2z ++ [(4100, notes q)])) := by
  refine Con.ofSX ok (fn := f10) rfl (by kernel_rfl) (by kernel_rfl) (by kernel_rfl) (by kernel_rfl) (by decide) (by decide) ?_
  have hx : SX Tryz.prog 4101 f10.body (P0Bz s q fun _ => undef) (fun e st => (e = .normal ∨ e = .ret) ∧ st.ds = [] ∧ (resVs st.h st.tmps f10.results).map packV = some (.slice none 0 0) ∧ st.h = mkH 4101 (l2z ++ [(4100, notes q)])) := by
    refine SX.next (pBz0 s q h.small) (SX.next (pBz1 s q h.small) (SX.next (pBz2 s q h.small) (SX.next (pBz3 s q h.small) (SX.next (pBz4 s q h.small) (SX.next (S2 := Xx0Bz s q) ?_ ?_))))) _
    · refine SX.next (pBz5 s q h.small) (fun j => SX.block (loopBz h q j) ?_)
      rintro e st ⟨rfl, ⟨_, j, rfl⟩ | ⟨hm', _⟩⟩
      · exact ⟨rfl, j, rfl⟩
      · omega
    · intro j
      refine SX.mono (fBz_x0 s q h.small j) ?_
      rintro e st ⟨rfl, j, rfl⟩
      exact ⟨.inr rfl, rfl, by kernel_rfl, by kernel_rfl⟩
  exact hx

theorem runBz {s : ByteArray} {n m : Nat} (h : Txt s n m) (q : Int) (hm : 0 < m) :
    Con Tryz.prog 10 [prog2, .string s, .int .i64 0, .bool true] (mkH 4101 (l2z ++ [(4100, notes q)])) (.slice (some ⟨4101, 0, none⟩) 2 2) (mkH 4102 (l2z ++ [(4100, notes q), (4101, notes s.size)])) := by
  refine Con.ofSX ok (fn := f10) rfl (by kernel_rfl) (by kernel_rfl) (by kernel_rfl) (by kernel_rfl) (by decide) (by decide) ?_
  have hx : SX Tryz.prog 4101 f10.body (P0Bz s q fun _ => undef) (fun e st => (e = .normal ∨ e = .ret) ∧ st.ds = [] ∧ (resVs st.h st.tmps f10.results).map packV = some (.slice (some ⟨4101, 0, none⟩) 2 2) ∧ st.h = mkH 4102 (l2z ++ [(4100, notes q), (4101, notes s.size)])) := by
    refine SX.next (pBz0 s q h.small) (SX.next (pBz1 s q h.small) (SX.next (pBz2 s q h.small) (SX.next (pBz3 s q h.small) (SX.next (pBz4 s q h.small) (SX.next (S2 := XxEBz s q s.size) ?_ ?_))))) _
    · refine SX.next (pBz5 s q h.small) (fun j => SX.block (loopBz h q j) ?_)
      rintro e st ⟨rfl, ⟨hm', _⟩ | ⟨_, j, rfl⟩⟩
      · omega
      · exact ⟨rfl, j, rfl⟩
    · intro j
      refine SX.mono (fBz_xE s q h.small s.size j) ?_
      rintro e st ⟨rfl, j, rfl⟩
      exact ⟨.inr rfl, rfl, by kernel_rfl, by kernel_rfl⟩
  exact hx
end Go.Am.Zt
