import Derived.Test.YtikphefllmemjaaGreatZs7
/-
PikeStars: the law's own function.
-/
namespace Go.Am.Zt
open Go Go.Am Go.Proofs
set_option linter.unusedVariables false
set_option maxRecDepth 100000

theorem app_list (s t : ByteArray) : (s ++ t).data.toList = s.data.toList ++ t.data.toList := by simp
theorem byteAt_l {s t : ByteArray} {k : Int} (h0 : 0 ≤ k) (h : k < s.size) : byteAt (s ++ t) k = byteAt s k := by
  unfold byteAt
  have : s.data.toList.length = s.size := Array.length_toList
  rw [app_list, List.getD_eq_getElem?_getD, List.getD_eq_getElem?_getD, List.getElem?_append_left (by omega)]
theorem byteAt_r {s : ByteArray} {c : UInt8} {k : Int} (h : k = s.size) : byteAt (s ++ ⟨⟨[c]⟩⟩) k = c.toNat := by
  unfold byteAt
  have : s.data.toList.length = s.size := Array.length_toList
  rw [app_list, List.getD_eq_getElem?_getD, List.getElem?_append_right (by omega)]
  have : k.toNat - s.data.toList.length = 0 := by omega
  rw [this]
  rfl
theorem Txt.none : Txt ⟨⟨[]⟩⟩ 0 0 := ⟨rfl, by decide, fun i h1 h2 => by omega, fun i h1 h2 => by omega⟩
theorem Txt.a1 {s : ByteArray} {i : Nat} (h : Txt s i 0) (hi : i ≤ 600) : Txt (s ++ ⟨⟨[97]⟩⟩) (i + 1) 0 := by
  have hz := h.size
  have hs : (s ++ (⟨⟨[97]⟩⟩ : ByteArray)).size = s.size + 1 := by rw [ByteArray.size_append]; rfl
  refine ⟨by omega, by omega, fun k h1 h2 => ?_, fun k h1 h2 => by omega⟩
  by_cases hk : k < s.size
  · rw [byteAt_l h1 hk]; exact h.a k h1 (by omega)
  · rw [byteAt_r (by omega)]; rfl
theorem Txt.b1 {s : ByteArray} {n i : Nat} (h : Txt s n i) (hi : n + i ≤ 600) : Txt (s ++ ⟨⟨[98]⟩⟩) n (i + 1) := by
  have hz := h.size
  have hs : (s ++ (⟨⟨[98]⟩⟩ : ByteArray)).size = s.size + 1 := by rw [ByteArray.size_append]; rfl
  refine ⟨by omega, by omega, fun k h1 h2 => ?_, fun k h1 h2 => ?_⟩
  · rw [byteAt_l h1 (by omega)]; exact h.a k h1 h2
  by_cases hk : k < s.size
  · rw [byteAt_l (by omega) hk]; exact h.b k h1 (by omega)
  · rw [byteAt_r (by omega)]; rfl

theorem loop1 {n : Nat} (m : Int) (hn : n ≤ 255) (j : Nat → Value) : SX Tryz.prog 4096 (.loop lb1) (W1 ⟨⟨[]⟩⟩ n m 0 j) (fun e st => e = .exit 0 ∧ ∃ s j, Txt s n 0 ∧ st = V1 s n m j) := by
  refine SX.loop (fun k st => ∃ (i : Nat) (s : ByteArray) (j : Nat → Value), i ≤ n ∧ k = n - i ∧ Txt s i 0 ∧ st = W1 s n m i j) ?_ (n := n) ⟨0, _, j, by omega, by omega, Txt.none, rfl⟩
  rintro k st ⟨i, s, j, h1, rfl, ht, rfl⟩
  have hz := ht.size
  by_cases hi : i < n
  · refine SX.mono (k4a s n m i (by omega) (by omega) (by omega) (by omega) j) ?_
    rintro e st ⟨rfl, j, rfl⟩
    exact .inl ⟨rfl, n - (i + 1), by omega, i + 1, _, j, by omega, rfl, ht.a1 (by omega), rfl⟩
  · refine SX.mono (k4x s n m i (by omega) j) ?_
    rintro e st ⟨rfl, j, rfl⟩
    have : i = n := by omega
    subst this
    exact .inr ⟨by simp, rfl, s, j, ht, rfl⟩
theorem loop2 {s : ByteArray} {n m : Nat} (hn : n ≤ 255) (hm : m ≤ 255) (hs : Txt s n 0) (j : Nat → Value) : SX Tryz.prog 4096 (.loop lb2) (W2 s n m 0 j) (fun e st => e = .exit 2 ∧ ∃ s j, Txt s n m ∧ st = V2 s n m j) := by
  refine SX.loop (fun k st => ∃ (i : Nat) (s : ByteArray) (j : Nat → Value), i ≤ m ∧ k = m - i ∧ Txt s n i ∧ st = W2 s n m i j) ?_ (n := m) ⟨0, _, j, by omega, by omega, hs, rfl⟩
  rintro k st ⟨i, s, j, h1, rfl, ht, rfl⟩
  have hz := ht.size
  by_cases hi : i < m
  · refine SX.mono (k5a s n m i (by omega) (by omega) (by omega) (by omega) j) ?_
    rintro e st ⟨rfl, j, rfl⟩
    exact .inl ⟨rfl, m - (i + 1), by omega, i + 1, _, j, by omega, rfl, ht.b1 (by omega), rfl⟩
  · refine SX.mono (k5x s n m i (by omega) j) ?_
    rintro e st ⟨rfl, j, rfl⟩
    have : i = m := by omega
    subst this
    exact .inr ⟨by simp, rfl, s, j, ht, rfl⟩

def Good (e : IEx) (st : St) : Prop := (e = .normal ∨ e = .ret) ∧ st.ds = [] ∧ (resVs st.h st.tmps f4.results).map packV = some (.bool true) ∧ st.h = mkH 4096 []

theorem last {s : ByteArray} {n m : Nat} (hn : n ≤ 255) (hm : m ≤ 255) (ht : Txt s n m) : ∀ j, SX Tryz.prog 4096 (.seq f4r13 (.seq (.seq f4r14 (.cond (.tmp 36) f4r15 .skip)) (.seq f4r16 (.seq (.seq f4r17 (.cond (.tmp 53) (.seq f4r18 .ret) .skip)) (.seq f4r19 (.seq f4r20 (.seq (.seq f4r21 (.cond (.tmp 65) f4r22 .skip)) (.seq f4r23 .ret)))))))) (V2 s n m j) Good := by
  have hz := ht.size
  refine SX.next (k6 s n m) (SX.next (k7 s n m) (SX.next (k8 s n m (by omega)) (SX.next (k9 s n m) ?_)))
  by_cases h0 : m = 0
  · refine SX.next (k10e s n m ⟨n, m, rfl, rfl, h0, ht⟩) (SX.next (k11e s n m) (SX.next (k12e s n m) ?_))
    intro j
    refine SX.mono (k13e s n m (by omega) (by omega) (by omega) j) ?_
    rintro e st ⟨rfl, j, rfl⟩
    exact ⟨.inr rfl, rfl, by kernel_rfl, by kernel_rfl⟩
  · refine SX.next (k10 s n m ⟨n, m, rfl, rfl, by omega, ht⟩) (SX.next (k11 s n m) (SX.next (k12 s n m) ?_))
    intro j
    refine SX.mono (k13 s n m (by omega) (by omega) (by omega) (by omega) (by omega) j) ?_
    rintro e st ⟨rfl, j, rfl⟩
    exact ⟨.inr rfl, rfl, by kernel_rfl, by kernel_rfl⟩

theorem law4 (a0 a1 : Int) : Con Tryz.prog 4 [.int .i64 a0, .int .i64 a1, .bool false] (mkH fixN []) (.bool true) (mkH 4096 []) := by
  refine Con.ofSX (n := 4096) ok (fn := f4) rfl (by kernel_rfl) (by kernel_rfl) (by kernel_rfl) (by kernel_rfl) (by decide) (by decide) ?_
  have hx : SX Tryz.prog 4096 f4.body (Q0 a0 a1 fun _ => undef) Good := by
    obtain ⟨n, hn⟩ : ∃ n : Nat, a0 % 256 = n := ⟨(a0 % 256).toNat, by omega⟩
    obtain ⟨m, hm⟩ : ∃ m : Nat, a1 % 256 = m := ⟨(a1 % 256).toNat, by omega⟩
    have k2' := k2 a0 a1
    rw [hn, hm] at k2'
    have hn' : n ≤ 255 := by omega
    have hm' : m ≤ 255 := by omega
    refine SX.next (k0 a0 a1) (SX.next (k1 a0 a1) (SX.next k2' (SX.next (k3 n m) ?_))) _
    intro j
    refine SX.seq (B1 := fun e st => e = .normal ∧ ∃ s j, Txt s n 0 ∧ st = V1 s n m j) ?_ ?_ (fun e st hne hB => absurd hB.1 hne)
    · refine SX.next (k4 n m) (fun j => SX.block (loop1 m hn' j) ?_) j
      rintro e st ⟨rfl, s, j, ht, rfl⟩
      exact ⟨rfl, s, j, ht, rfl⟩
    rintro st ⟨_, s, j, ht, rfl⟩
    refine SX.seq (B1 := fun e st => e = .normal ∧ ∃ s j, Txt s n m ∧ st = V2 s n m j) ?_ ?_ (fun e st hne hB => absurd hB.1 hne)
    · refine SX.next (k5 s n m) (fun j => SX.block (loop2 hn' hm' ht j) ?_) j
      rintro e st ⟨rfl, s, j, ht, rfl⟩
      exact ⟨rfl, s, j, ht, rfl⟩
    rintro st ⟨_, s, j, ht, rfl⟩
    exact last hn' hm' ht j
  exact hx

theorem loop1z {n : Nat} (m : Int) (hn : n ≤ 255) (j : Nat → Value) : SX Tryz.prog 4096 (.loop lb1) (W1z ⟨⟨[]⟩⟩ n m 0 j) (fun e st => e = .exit 0 ∧ ∃ s j, Txt s n 0 ∧ st = V1z s n m j) := by
  refine SX.loop (fun k st => ∃ (i : Nat) (s : ByteArray) (j : Nat → Value), i ≤ n ∧ k = n - i ∧ Txt s i 0 ∧ st = W1z s n m i j) ?_ (n := n) ⟨0, _, j, by omega, by omega, Txt.none, rfl⟩
  rintro k st ⟨i, s, j, h1, rfl, ht, rfl⟩
  have hz := ht.size
  by_cases hi : i < n
  · refine SX.mono (k4az s n m i (by omega) (by omega) (by omega) (by omega) j) ?_
    rintro e st ⟨rfl, j, rfl⟩
    exact .inl ⟨rfl, n - (i + 1), by omega, i + 1, _, j, by omega, rfl, ht.a1 (by omega), rfl⟩
  · refine SX.mono (k4xz s n m i (by omega) j) ?_
    rintro e st ⟨rfl, j, rfl⟩
    have : i = n := by omega
    subst this
    exact .inr ⟨by simp, rfl, s, j, ht, rfl⟩
theorem loop2z {s : ByteArray} {n m : Nat} (hn : n ≤ 255) (hm : m ≤ 255) (hs : Txt s n 0) (j : Nat → Value) : SX Tryz.prog 4096 (.loop lb2) (W2z s n m 0 j) (fun e st => e = .exit 2 ∧ ∃ s j, Txt s n m ∧ st = V2z s n m j) := by
  refine SX.loop (fun k st => ∃ (i : Nat) (s : ByteArray) (j : Nat → Value), i ≤ m ∧ k = m - i ∧ Txt s n i ∧ st = W2z s n m i j) ?_ (n := m) ⟨0, _, j, by omega, by omega, hs, rfl⟩
  rintro k st ⟨i, s, j, h1, rfl, ht, rfl⟩
  have hz := ht.size
  by_cases hi : i < m
  · refine SX.mono (k5az s n m i (by omega) (by omega) (by omega) (by omega) j) ?_
    rintro e st ⟨rfl, j, rfl⟩
    exact .inl ⟨rfl, m - (i + 1), by omega, i + 1, _, j, by omega, rfl, ht.b1 (by omega), rfl⟩
  · refine SX.mono (k5xz s n m i (by omega) j) ?_
    rintro e st ⟨rfl, j, rfl⟩
    have : i = m := by omega
    subst this
    exact .inr ⟨by simp, rfl, s, j, ht, rfl⟩


theorem lastz {s : ByteArray} {n m : Nat} (hn : n ≤ 255) (hm : m ≤ 255) (ht : Txt s n m) : ∀ j, SX Tryz.prog 4096 (.seq f4r13 (.seq (.seq f4r14 (.cond (.tmp 36) f4r15 .skip)) (.seq f4r16 (.seq (.seq f4r17 (.cond (.tmp 53) (.seq f4r18 .ret) .skip)) (.seq f4r19 (.seq f4r20 (.seq (.seq f4r21 (.cond (.tmp 65) f4r22 .skip)) (.seq f4r23 .ret)))))))) (V2z s n m j) Good := by
  have hz := ht.size
  refine SX.next (k6z s n m) (SX.next (k7z s n m) (SX.next (k8z s n m (by omega)) (SX.next (k9z s n m) ?_)))
  by_cases h0 : m = 0
  · refine SX.next (k10ze s n m ⟨n, m, rfl, rfl, h0, ht⟩) (SX.next (k11ze s n m) (SX.next (k12ze s n m) ?_))
    intro j
    refine SX.mono (k13ze s n m (by omega) (by omega) (by omega) j) ?_
    rintro e st ⟨rfl, j, rfl⟩
    exact ⟨.inr rfl, rfl, by kernel_rfl, by kernel_rfl⟩
  · refine SX.next (k10z s n m ⟨n, m, rfl, rfl, by omega, ht⟩) (SX.next (k11z s n m) (SX.next (k12z s n m) ?_))
    intro j
    refine SX.mono (k13z s n m (by omega) (by omega) (by omega) (by omega) (by omega) j) ?_
    rintro e st ⟨rfl, j, rfl⟩
    exact ⟨.inr rfl, rfl, by kernel_rfl, by kernel_rfl⟩

theorem law4z (a0 a1 : Int) : Con Tryz.prog 4 [.int .i64 a0, .int .i64 a1, .bool true] (mkH fixN []) (.bool true) (mkH 4096 []) := by
  refine Con.ofSX (n := 4096) ok (fn := f4) rfl (by kernel_rfl) (by kernel_rfl) (by kernel_rfl) (by kernel_rfl) (by decide) (by decide) ?_
  have hx : SX Tryz.prog 4096 f4.body (Q0z a0 a1 fun _ => undef) Good := by
    obtain ⟨n, hn⟩ : ∃ n : Nat, a0 % 256 = n := ⟨(a0 % 256).toNat, by omega⟩
    obtain ⟨m, hm⟩ : ∃ m : Nat, a1 % 256 = m := ⟨(a1 % 256).toNat, by omega⟩
    have k2' := k2z a0 a1
    rw [hn, hm] at k2'
    have hn' : n ≤ 255 := by omega
    have hm' : m ≤ 255 := by omega
    refine SX.next (k0z a0 a1) (SX.next (k1z a0 a1) (SX.next k2' (SX.next (k3z n m) ?_))) _
    intro j
    refine SX.seq (B1 := fun e st => e = .normal ∧ ∃ s j, Txt s n 0 ∧ st = V1z s n m j) ?_ ?_ (fun e st hne hB => absurd hB.1 hne)
    · refine SX.next (k4z n m) (fun j => SX.block (loop1z m hn' j) ?_) j
      rintro e st ⟨rfl, s, j, ht, rfl⟩
      exact ⟨rfl, s, j, ht, rfl⟩
    rintro st ⟨_, s, j, ht, rfl⟩
    refine SX.seq (B1 := fun e st => e = .normal ∧ ∃ s j, Txt s n m ∧ st = V2z s n m j) ?_ ?_ (fun e st hne hB => absurd hB.1 hne)
    · refine SX.next (k5z s n m) (fun j => SX.block (loop2z hn' hm' ht j) ?_) j
      rintro e st ⟨rfl, s, j, ht, rfl⟩
      exact ⟨rfl, s, j, ht, rfl⟩
    rintro st ⟨_, s, j, ht, rfl⟩
    exact lastz hn' hm' ht j
  exact hx

theorem pikeStars (a0 a1 : Int) (lz : Bool) (_ : (Lit.int .i64 a0).wf = true) (_ : (Lit.int .i64 a1).wf = true) : Con Tryz.prog 4 [.int .i64 a0, .int .i64 a1, .bool lz] (mkH fixN []) (.bool true) (mkH 4096 []) := by
  cases lz
  · exact law4 a0 a1
  · exact law4z a0 a1
end Go.Am.Zt
