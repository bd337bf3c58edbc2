import Derived.Test.YtikphefllmemjaaGreatDoorZe3
/-
ProgWords: what Decode answers to a word of letters.
-/
namespace Go.Am.Zd
open Go Go.Am Go.Proofs
set_option maxRecDepth 100000
set_option linter.unusedVariables false
theorem strSub_list (s : ByteArray) (l h : Int) : (strSub s l h).data.toList = (s.data.toList.take h.toNat).drop l.toNat := by
  unfold strSub
  rw [ByteArray.data_extract, Array.toList_extract, List.extract_eq_take_drop, List.drop_take]
theorem size_list (s : ByteArray) : s.data.toList.length = s.size := Array.length_toList
theorem strSub_size {s : ByteArray} {l h : Int} (h0 : 0 ≤ l) (h1 : l ≤ h) (h2 : h ≤ s.size) : ((strSub s l h).size : Int) = h - l := by
  rw [← size_list, strSub_list, List.length_drop, List.length_take, size_list]
  omega
theorem strSub_byte {s : ByteArray} {l h i : Int} (h0 : 0 ≤ l) (h1 : h ≤ s.size) (h2 : 0 ≤ i) (h3 : l + i < h) : byteAt (strSub s l h) i = byteAt s (l + i) := by
  unfold byteAt
  rw [strSub_list, List.getD_eq_getElem?_getD, List.getD_eq_getElem?_getD, List.getElem?_drop, List.getElem?_take]
  rw [if_pos (by omega), show l.toNat + i.toNat = (l + i).toNat by omega]
theorem str_eql (x y : ByteArray) : binV .eql (.string x) (.string y) = some (.bool (x.data.toList == y.data.toList)) := by
  simp only [binV, strBin, ByteArray.toList_eq]
/-- all its bytes are letters -/
def LW (w : ByteArray) : Prop := ∀ i : Int, 0 ≤ i → i < w.size → 97 ≤ byteAt w i ∧ byteAt w i ≤ 122
theorem sub_size {w : ByteArray} {i : Int} (h0 : 0 ≤ i) (h1 : i ≤ w.size) : ((strSub w i (w.size : Int)).size : Int) = w.size - i := strSub_size h0 h1 (Int.le_refl _)
theorem lc_eq {w : ByteArray} {i : Int} (h0 : 0 ≤ i) (h1 : i < w.size) : lc w i = byteAt w i := by
  unfold lc
  rw [strSub_byte h0 (Int.le_refl _) (Int.le_refl _) (by omega), Int.add_zero]
theorem no_mark {w : ByteArray} (hL : LW w) (h3 : 3 ≤ w.size) : binV .eql (.string (strSub w 0 3)) (.string ⟨⟨[239, 187, 191]⟩⟩) = some vF := by
  rw [str_eql]
  have hb := strSub_byte (s := w) (l := 0) (h := 3) (i := 0) (Int.le_refl _) (by omega) (Int.le_refl _) (by decide)
  have hl := hL 0 (Int.le_refl _) (by omega)
  rw [show (0 : Int) + 0 = 0 from rfl] at hb
  cases e : (strSub w 0 3).data.toList == (⟨⟨[239, 187, 191]⟩⟩ : ByteArray).data.toList with
  | false => rfl
  | true =>
    have e := eq_of_beq e
    unfold byteAt at hb
    rw [e] at hb
    have : (((⟨⟨[239, 187, 191]⟩⟩ : ByteArray).data.toList.getD (0 : Int).toNat 0).toNat : Int) = 239 := rfl
    rw [this] at hb
    unfold byteAt at hl
    omega
theorem ci_succ (c : Nat → Int) (n : Nat) : ci c (n + 1) = ci c n ++ [.int .i64 (c n)] := by
  unfold ci
  rw [List.range_succ, List.map_append]
  rfl
theorem ci_len (c : Nat → Int) (n : Nat) : (ci c n).length = n * 1 := by simp [ci]
theorem ci_int (c : Nat → Int) (n : Nat) : AllInt (ci c n) := fun v hv => by
  obtain ⟨k, _, rfl⟩ := List.mem_map.1 hv
  exact ⟨_, _, rfl⟩
theorem ci_get (c : Nat → Int) {n k : Nat} (h : k < n) : (ci c n)[k]? = some (vI (c k)) := by
  unfold ci
  rw [List.getElem?_map, List.getElem?_range h]
  rfl
/-- runes and places of the first n -/
def runes (w : ByteArray) (n : Nat) : List Value := ci (fun k => lc w (k : Int)) n
def places (n : Nat) : List Value := ci (fun k => (k : Int)) n
/-- behind so many rounds of Decode -/
noncomputable def HD (w : ByteArray) (R : List Value) : Nat → (Nat → Value) → St
  | 0 => D7 w R
  | i + 1 => DB w R (runes w (i + 1)) (places (i + 1)) (i + 1) ((i + 1 : Nat) : Int)
section
variable {w : ByteArray} {R : List Value} (hL : LW w) (hR : AllInt R) (hw : w.size ≤ 1000) (h2 : 2 ≤ w.size)
include hL hR hw h2
theorem hd_round (i : Nat) (hi : i < w.size) (j : Nat → Value) : SX Tryz.prog 4100 dBody (HD w R i j) (To .normal (HD w R (i + 1))) := by
  cases i with
  | zero =>
    have hc := hL 0 (Int.le_refl _) (by omega)
    rw [← lc_eq (Int.le_refl _) (by omega)] at hc
    exact SX.toMono (dF w R hR hw h2 hc (sub_size (Int.le_refl _) (by omega)) j) (fun j => rfl)
  | succ i =>
    have hc := hL ((i + 1 : Nat) : Int) (by omega) (by omega)
    rw [← lc_eq (by omega) (by omega)] at hc
    refine SX.toMono (dR w R hR hw h2 _ _ (i + 1) ((i + 1 : Nat) : Int) (ci_int _ _) (ci_int _ _) (ci_len _ _) (ci_len _ _) (by omega) (by omega) (by omega) hc (sub_size (by omega) (by omega)) (by omega) j) (fun j => ?_)
    show _ = DB w R (runes w (i + 1 + 1)) (places (i + 1 + 1)) (i + 1 + 1) ((i + 1 + 1 : Nat) : Int) j
    rw [show runes w (i + 1 + 1) = runes w (i + 1) ++ [.int .i64 (lc w ((i + 1 : Nat) : Int))] from ci_succ _ _, show places (i + 1 + 1) = places (i + 1) ++ [.int .i64 ((i + 1 : Nat) : Int)] from ci_succ _ _]
    rfl
theorem hd_all (j : Nat → Value) : SX Tryz.prog 4100 f19.body (D0 w R j) (To .ret (DZ R (runes w w.size) (places w.size ++ [.int .i64 (w.size : Int)]) w.size)) := by
  have hp : ∀ j, SX Tryz.prog 4100 (.seq f19r7 (.seq f19r8 (.cond (.tmp 37) f19r9 .skip))) (D5 w R j) (To .normal (D6 w R)) := fun j => by
    by_cases h3 : 3 ≤ w.size
    · exact d5 w R hR hw h2 (no_mark hL) h3 j
    · exact dk5 w R hR hw h2 (no_mark hL) h3 j
  obtain ⟨k, hk⟩ : ∃ k, w.size = k + 1 := ⟨w.size - 1, by omega⟩
  have hx : ∀ j, SX Tryz.prog 4100 dBody (HD w R w.size j) (To (.exit 0) (DX w R (runes w w.size) (places w.size) w.size)) := fun j => by
    rw [hk]
    exact dX w R hR hw h2 _ _ (k + 1) ((k + 1 : Nat) : Int) (ci_int _ _) (ci_int _ _) (ci_len _ _) (ci_len _ _) (by omega) (by omega) (by omega) (by omega) j
  refine SX.next (d0 w R hR hw h2 j) fun j => SX.next (d1 w R hR hw h2 j) fun j => SX.next (d2 w R hR hw h2 j) fun j => SX.next (d3 w R hR hw h2 j) fun j => SX.next (d4 w R hR hw h2 j) fun j => SX.next (hp j) fun j => SX.next (d6 w R hR hw h2 j) fun j => ?_
  refine SX.next (SX.range (HD w R) w.size (hd_round hL hR hw h2) hx j) fun j => ?_
  refine SX.next (dY w R hR hw h2 _ _ w.size (w.size : Int) (ci_int _ _) (ci_int _ _) (ci_len _ _) (ci_len _ _) (by omega) (by omega) (by omega) j) fun j => ?_
  exact dZ w R hR hw h2 _ _ w.size (ci_int _ _) (AllInt.snoc (ci_int _ _)) (ci_len _ _) (by simp [ci]) (by omega) j
end
end Go.Am.Zd
