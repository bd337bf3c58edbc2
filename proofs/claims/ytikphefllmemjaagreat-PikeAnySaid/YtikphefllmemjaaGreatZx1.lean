import Derived.Test.YtikphefllmemjaaGreatZu1
import Derived.Laws.Strings
/-
PikeAny: pieces of texts; the text that is decoded.
-/
namespace Go.Am.Zt
open Go Go.Am Go.Proofs
set_option linter.unusedVariables false
set_option maxRecDepth 100000

theorem strSub_list (s : ByteArray) (l h : Int) : (strSub s l h).data.toList = (s.data.toList.take h.toNat).drop l.toNat := by
  unfold strSub
  rw [ByteArray.data_extract, Array.toList_extract, List.extract_eq_take_drop, List.drop_take]
theorem size_list (s : ByteArray) : s.data.toList.length = s.size := Array.length_toList
theorem strSub_size {s : ByteArray} {l h : Int} (h0 : 0 ≤ l) (h1 : l ≤ h) (h2 : h ≤ s.size) : ((strSub s l h).size : Int) = h - l := by
  rw [← size_list, strSub_list, List.length_drop, List.length_take, size_list]
  omega
theorem strSub_byte {s : ByteArray} {l h i : Int} (h0 : 0 ≤ l) (h1 : h ≤ s.size) (h2 : 0 ≤ i) (h3 : l + i < h) : byteAt (strSub s l h) i = byteAt s (l + i) := by
  unfold byteAt
  rw [strSub_list, List.getD_eq_getElem?_getD, List.getD_eq_getElem?_getD, List.getElem?_drop, List.getElem?_take]
  rw [if_pos (by omega), show l.toNat + i.toNat = (l + i).toNat by omega]
theorem str_eql (x y : ByteArray) : binV .eql (.string x) (.string y) = some (.bool (x.data.toList == y.data.toList)) := by
  simp only [binV, strBin, ByteArray.toList_eq]

/-- a text that begins with 'x' -/
structure Xs (d : ByteArray) : Prop where
  size : 2 ≤ d.size
  small : d.size ≤ 2001
  x : byteAt d 0 = 120
theorem Xs.next {d : ByteArray} (h : Xs d) (a : Int) (h0 : 0 ≤ a) (h1 : a < d.size) : ∃ w m, U8 (strSub d a d.size) w m ∧ U8c (strSub d a d.size) w m ∧ -1 ≤ w ∧ w < 2097152 ∧ 1 ≤ m ∧ m ≤ d.size - a := by
  have hs := strSub_size h0 (show a ≤ (d.size : Int) by omega) (Int.le_refl _)
  have hsm := h.small
  obtain ⟨w, m, k1, k2⟩ := u8_all (strSub d a d.size) (by omega) (by omega)
  have := k2.bounds (by omega)
  exact ⟨w, m, k1, k2, by omega, by omega, by omega, by omega⟩
theorem Xs.u8 {d : ByteArray} (h : Xs d) : U8 (strSub d 0 d.size) 120 1 := by
  have hz := h.size
  obtain ⟨w, m, k1, k2, _⟩ := h.next 0 (by omega) (by omega)
  have hb : byteAt (strSub d 0 d.size) 0 = 120 := by rw [strSub_byte (by omega) (Int.le_refl _) (by omega) (by omega)]; exact h.x
  have hm : moreOf (byteAt (strSub d 0 d.size) 0) = 0 := by rw [hb]; decide
  cases k2 with
  | ok0 _ => rw [hb] at k1; exact k1
  | bad0 e => omega
  | ok1 e => omega
  | ok2 e => omega
  | ok3 e => omega
  | bad1 e => omega
  | bad2 e => omega
  | bad3 e => omega
theorem Xs.noMark {d : ByteArray} (h : Xs d) (h3 : 3 ≤ d.size) : binV .eql (.string (strSub d 0 3)) (.string ⟨⟨[239, 187, 191]⟩⟩) = some (.bool false) := by
  rw [str_eql]
  congr 2
  rw [beq_eq_false_iff_ne]
  intro e
  have hb : byteAt (strSub d 0 3) 0 = 120 := by rw [strSub_byte (by omega) (by omega) (by omega) (by omega)]; exact h.x
  unfold byteAt at hb
  rw [e] at hb
  exact absurd hb (by decide)
end Go.Am.Zt
