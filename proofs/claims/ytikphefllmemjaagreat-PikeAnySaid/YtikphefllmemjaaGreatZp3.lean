import Derived.Test.YtikphefllmemjaaGreatZp2
/-
PikeAny: the law.
-/
namespace Go.Am.Zt
open Go Go.Am Go.Proofs
set_option linter.unusedVariables false
set_option maxRecDepth 100000
section
variable {s : ByteArray} {fr : Int}

theorem u8_back {x : Int} (i : Int) (h : x = byteAt s i) : UInt8.ofNat x.toNat = s.data.toList.getD i.toNat 0 := by
  subst h
  unfold byteAt
  rw [Int.toNat_natCast]
  exact UInt8.ofNat_toNat
theorem list_of (l : List UInt8) (k : Nat) (h : k + 1 ≤ l.length) : (l.drop k).take 1 = [l.getD k 0] := by
  rw [List.getD_eq_getElem?_getD, List.getElem?_eq_getElem (by omega)]
  rw [List.drop_eq_getElem_cons (by omega)]
  rfl
/-- a piece of a text, byte by byte -/
theorem piece_cons {l h : Int} (h0 : 0 ≤ l) (h1 : l < h) (h2 : h ≤ s.size) : (strSub s l h).data.toList = s.data.toList.getD l.toNat 0 :: (strSub s (l + 1) h).data.toList := by
  rw [strSub_list, strSub_list]
  have hz := size_list s
  have e : (l + 1).toNat = l.toNat + 1 := by omega
  rw [e, List.drop_eq_getElem_cons (i := l.toNat) (by rw [List.length_take]; omega)]
  congr 1
  rw [List.getElem_take, List.getD_eq_getElem?_getD, List.getElem?_eq_getElem (by omega)]
  rfl
theorem piece_nil {l : Int} : (strSub s l l).data.toList = [] := by
  rw [strSub_list, List.drop_take_self]

/-- an encoding is the piece -/
theorem enc1 (h0 : 0 ≤ fr) (h1 : fr + 1 ≤ s.size) {a : Int} (ea : a = byteAt s fr) : binV .eql (.string (⟨⟨[UInt8.ofNat a.toNat]⟩⟩ : ByteArray)) (.string (strSub s fr (fr + 1))) = some (.bool true) := by
  rw [str_eql, piece_cons h0 (by omega) h1, piece_nil, u8_back fr ea]
  simp
theorem enc2 (h0 : 0 ≤ fr) (h1 : fr + 2 ≤ s.size) {a b : Int} (ea : a = byteAt s fr) (eb : b = byteAt s (fr + 1)) :
    binV .eql (.string (⟨⟨[UInt8.ofNat a.toNat, UInt8.ofNat b.toNat]⟩⟩ : ByteArray)) (.string (strSub s fr (fr + 2))) = some (.bool true) := by
  rw [str_eql, piece_cons h0 (by omega) h1, piece_cons (by omega) (by omega) h1, show fr + 1 + 1 = fr + 2 by omega, piece_nil, u8_back fr ea, u8_back (fr + 1) eb]
  simp
theorem enc3 (h0 : 0 ≤ fr) (h1 : fr + 3 ≤ s.size) {a b c : Int} (ea : a = byteAt s fr) (eb : b = byteAt s (fr + 1)) (ec : c = byteAt s (fr + 2)) :
    binV .eql (.string (⟨⟨[UInt8.ofNat a.toNat, UInt8.ofNat b.toNat, UInt8.ofNat c.toNat]⟩⟩ : ByteArray)) (.string (strSub s fr (fr + 3))) = some (.bool true) := by
  rw [str_eql, piece_cons h0 (by omega) h1, piece_cons (by omega) (by omega) h1, show fr + 1 + 1 = fr + 2 by omega, piece_cons (by omega) (by omega) h1, show fr + 2 + 1 = fr + 3 by omega, piece_nil, u8_back fr ea, u8_back (fr + 1) eb, u8_back (fr + 2) ec]
  simp
theorem enc4 (h0 : 0 ≤ fr) (h1 : fr + 4 ≤ s.size) {a b c d : Int} (ea : a = byteAt s fr) (eb : b = byteAt s (fr + 1)) (ec : c = byteAt s (fr + 2)) (ed : d = byteAt s (fr + 3)) :
    binV .eql (.string (⟨⟨[UInt8.ofNat a.toNat, UInt8.ofNat b.toNat, UInt8.ofNat c.toNat, UInt8.ofNat d.toNat]⟩⟩ : ByteArray)) (.string (strSub s fr (fr + 4))) = some (.bool true) := by
  rw [str_eql, piece_cons h0 (by omega) h1, piece_cons (by omega) (by omega) h1, show fr + 1 + 1 = fr + 2 by omega, piece_cons (by omega) (by omega) h1, show fr + 2 + 1 = fr + 3 by omega, piece_cons (by omega) (by omega) h1, show fr + 3 + 1 = fr + 4 by omega, piece_nil, u8_back fr ea, u8_back (fr + 1) eb, u8_back (fr + 2) ec, u8_back (fr + 3) ed]
  simp
/-- the stand-in is no bad scalar's piece -/
theorem encNo {n : Int} (h : Sm s fr) (hlt : fr < s.size) (hc : U8c (sub s fr) (-1) n) (hn : n ≤ s.size - fr) : binV .eql (.string (⟨⟨[UInt8.ofNat (Int.toNat (224 + 65533 / 4096)), UInt8.ofNat (Int.toNat (128 + 65533 / 64 % 64)), UInt8.ofNat (Int.toNat (128 + 65533 % 64))]⟩⟩ : ByteArray)) (.string (strSub s fr (fr + n))) = some (.bool false) := by
  have h0 := h.lo
  have hn1 := (hc.bounds (by have := sub_size h; omega)).2.2.1
  rw [str_eql]
  congr 2
  rw [beq_eq_false_iff_ne]
  intro e
  have hsz := strSub_size h0 (show fr ≤ fr + n by omega) (show fr + n ≤ s.size by omega)
  rw [← size_list, ← e] at hsz
  change ((3 : Nat) : Int) = fr + n - fr at hsz
  have hn3 : n = 3 := by omega
  rw [piece_cons h0 (by omega) (by omega)] at e
  have e1 : (239 : UInt8) = s.data.toList.getD fr.toNat 0 := (List.cons.inj e).1
  have hb : byteAt s fr = 239 := by unfold byteAt; rw [← e1]; rfl
  have hb0 : byteAt (sub s fr) 0 = byteAt s fr := by rw [sub_byte h (by omega) (by omega), Int.add_zero]
  have hm : moreOf (byteAt (sub s fr) 0) = 2 := by rw [hb0, hb]; decide
  have ab := bitsOf_lo (byteAt_lo (sub s fr) 0) (byteAt_hi (sub s fr) 0)
  generalize hv : (-1 : Int) = v at hc
  cases hc with
  | ok0 e => omega
  | bad0 e => omega
  | ok1 e => omega
  | ok2 e => omega
  | ok3 e => omega
  | bad1 e => omega
  | bad2 e => omega
  | bad3 e => omega

/-- the pieces behind the match -/
abbrev tail6 : ICode := (.seq f5r9 (.seq (.seq f5r10 (.cond (.tmp 68) (.seq f5r11 .ret) .skip)) (.seq f5r12 (.seq f5r13 (.seq f5r14 (.seq f5r15 .ret))))))
def GoodP (e : IEx) (st : St) : Prop := (e = .normal ∨ e = .ret) ∧ st.ds = [] ∧ (resVs st.h st.tmps f5.results).map packV = some (.bool true) ∧ st.h = mkH 4096 []

theorem tailN (h : Sm s fr) (hs : s.size ≤ 2000) (hlt : fr < s.size) {n q1 q2 : Int} (hu : U8 (strSub s fr s.size) (-1) n) (hc : U8c (sub s fr) (-1) n) (j : Nat → Value) : SX Tryz.prog 4096 tail6 (L6N s fr q1 q2 j) GoodP := by
  have hb := hc.bounds (by have := sub_size h; omega)
  have hsz := sub_size h
  have h0 := h.lo
  obtain ⟨bd, R, Q, r, hR, hQ, hr, hq, hd⟩ := dec_ok (q1 := q1) (q2 := q2) h.lo hlt hs hu (by omega) hb.2.2.1 (by omega)
  have e1 : rep (-1) = 65533 := rfl
  rw [e1] at hd
  refine SXnext (l6N s fr q1 q2 65533 (1 + n) bd R Q r hs h0 hlt hR hQ hr hq hd) (SXnext (l7N s fr q1 q2 65533 (1 + n) bd R Q r hs h0 hlt hR hQ hr hq) (SXnext (l8N s fr q1 q2 65533 (1 + n) bd R Q r hs h0 hlt hR hQ hr hq (by omega) (by omega)) ?_)) j
  rw [show 1 + n - 1 = n by omega]
  refine SXnext (l9N5 s fr q1 q2 65533 (1 + n) bd n R Q r hs h0 hlt hR hQ hr hq (by omega) (by omega)) (SXnext (l10N5 s fr q1 q2 65533 (1 + n) bd n R Q r hs h0 hlt hR hQ hr hq (by omega) (by omega) (by omega) (by omega) (encNo h hlt hc (by omega))) ?_)
  intro j
  refine SX.mono (l11N5 s fr q1 q2 65533 (1 + n) bd n R Q r hs h0 hlt hR hQ hr hq (by omega) (by omega) (by omega) (by omega) j) ?_
  rintro e st ⟨rfl, j, rfl⟩
  exact ⟨.inr rfl, rfl, by kernel_rfl, by kernel_rfl⟩

theorem tailS1 (h : Sm s fr) (hs : s.size ≤ 2000) (hlt : fr < s.size) {v n : Int} (hu : U8 (strSub s fr s.size) v n) (hv : 0 ≤ v) (hn : 1 ≤ n) (hn2 : n ≤ s.size - fr) (k1 : v < 128) (he : binV .eql (.string (⟨⟨[(UInt8.ofNat (Int.toNat v))]⟩⟩ : ByteArray)) (.string (strSub s fr (fr + n))) = some (.bool true)) (j : Nat → Value) : SX Tryz.prog 4096 tail6 (L6S s fr fr (fr + n) j) GoodP := by
  have h0 := h.lo
  obtain ⟨bd, R, Q, r, hR, hQ, hr, hq, hd⟩ := dec_ok (q1 := fr) (q2 := fr + n) h.lo hlt hs hu (by omega) hn (by omega)
  have e1 : rep v = v := if_neg (by omega)
  rw [e1] at hd
  refine SXnext (l6S s fr fr (fr + n) v (1 + n) bd R Q r hs h0 hlt hR hQ hr hq hd) (SXnext (l7S s fr fr (fr + n) v (1 + n) bd R Q r hs h0 hlt hR hQ hr hq) (SXnext (l8S s fr fr (fr + n) v (1 + n) bd R Q r hs h0 hlt hR hQ hr hq (by omega) (by omega)) ?_)) j
  rw [show 1 + n - 1 = n by omega]
  refine SXnext (l9S1 s fr fr (fr + n) v (1 + n) bd n R Q r hs h0 hlt hR hQ hr hq hv k1) (SXnext (l10S1 s fr fr (fr + n) v (1 + n) bd n R Q r hs h0 hlt hR hQ hr hq hv k1 (by omega) (by omega) he) ?_)
  intro j
  refine SX.mono (l11S1 s fr fr (fr + n) v (1 + n) bd n R Q r hs h0 hlt hR hQ hr hq hv k1 (by omega) (by omega) rfl rfl j) ?_
  rintro e st ⟨rfl, j, rfl⟩
  exact ⟨.inr rfl, rfl, by kernel_rfl, by kernel_rfl⟩

theorem tailS2 (h : Sm s fr) (hs : s.size ≤ 2000) (hlt : fr < s.size) {v n : Int} (hu : U8 (strSub s fr s.size) v n) (hv : 0 ≤ v) (hn : 1 ≤ n) (hn2 : n ≤ s.size - fr) (k0 : 128 ≤ v) (k1 : v < 2048) (he : binV .eql (.string (⟨⟨[(UInt8.ofNat (Int.toNat (192 + (v / 64)))), (UInt8.ofNat (Int.toNat (128 + (v % 64))))]⟩⟩ : ByteArray)) (.string (strSub s fr (fr + n))) = some (.bool true)) (j : Nat → Value) : SX Tryz.prog 4096 tail6 (L6S s fr fr (fr + n) j) GoodP := by
  have h0 := h.lo
  obtain ⟨bd, R, Q, r, hR, hQ, hr, hq, hd⟩ := dec_ok (q1 := fr) (q2 := fr + n) h.lo hlt hs hu (by omega) hn (by omega)
  have e1 : rep v = v := if_neg (by omega)
  rw [e1] at hd
  refine SXnext (l6S s fr fr (fr + n) v (1 + n) bd R Q r hs h0 hlt hR hQ hr hq hd) (SXnext (l7S s fr fr (fr + n) v (1 + n) bd R Q r hs h0 hlt hR hQ hr hq) (SXnext (l8S s fr fr (fr + n) v (1 + n) bd R Q r hs h0 hlt hR hQ hr hq (by omega) (by omega)) ?_)) j
  rw [show 1 + n - 1 = n by omega]
  refine SXnext (l9S2 s fr fr (fr + n) v (1 + n) bd n R Q r hs h0 hlt hR hQ hr hq k0 k1) (SXnext (l10S2 s fr fr (fr + n) v (1 + n) bd n R Q r hs h0 hlt hR hQ hr hq k0 k1 (by omega) (by omega) he) ?_)
  intro j
  refine SX.mono (l11S2 s fr fr (fr + n) v (1 + n) bd n R Q r hs h0 hlt hR hQ hr hq k0 k1 (by omega) (by omega) rfl rfl j) ?_
  rintro e st ⟨rfl, j, rfl⟩
  exact ⟨.inr rfl, rfl, by kernel_rfl, by kernel_rfl⟩

theorem tailS3 (h : Sm s fr) (hs : s.size ≤ 2000) (hlt : fr < s.size) {v n : Int} (hu : U8 (strSub s fr s.size) v n) (hv : 0 ≤ v) (hn : 1 ≤ n) (hn2 : n ≤ s.size - fr) (k0 : 2048 ≤ v) (k1 : v < 55296) (he : binV .eql (.string (⟨⟨[(UInt8.ofNat (Int.toNat (224 + (v / 4096)))), (UInt8.ofNat (Int.toNat (128 + ((v / 64) % 64)))), (UInt8.ofNat (Int.toNat (128 + (v % 64))))]⟩⟩ : ByteArray)) (.string (strSub s fr (fr + n))) = some (.bool true)) (j : Nat → Value) : SX Tryz.prog 4096 tail6 (L6S s fr fr (fr + n) j) GoodP := by
  have h0 := h.lo
  obtain ⟨bd, R, Q, r, hR, hQ, hr, hq, hd⟩ := dec_ok (q1 := fr) (q2 := fr + n) h.lo hlt hs hu (by omega) hn (by omega)
  have e1 : rep v = v := if_neg (by omega)
  rw [e1] at hd
  refine SXnext (l6S s fr fr (fr + n) v (1 + n) bd R Q r hs h0 hlt hR hQ hr hq hd) (SXnext (l7S s fr fr (fr + n) v (1 + n) bd R Q r hs h0 hlt hR hQ hr hq) (SXnext (l8S s fr fr (fr + n) v (1 + n) bd R Q r hs h0 hlt hR hQ hr hq (by omega) (by omega)) ?_)) j
  rw [show 1 + n - 1 = n by omega]
  refine SXnext (l9S3 s fr fr (fr + n) v (1 + n) bd n R Q r hs h0 hlt hR hQ hr hq k0 k1) (SXnext (l10S3 s fr fr (fr + n) v (1 + n) bd n R Q r hs h0 hlt hR hQ hr hq k0 k1 (by omega) (by omega) he) ?_)
  intro j
  refine SX.mono (l11S3 s fr fr (fr + n) v (1 + n) bd n R Q r hs h0 hlt hR hQ hr hq k0 k1 (by omega) (by omega) rfl rfl j) ?_
  rintro e st ⟨rfl, j, rfl⟩
  exact ⟨.inr rfl, rfl, by kernel_rfl, by kernel_rfl⟩


theorem tailS5 (h : Sm s fr) (hs : s.size ≤ 2000) (hlt : fr < s.size) {v n : Int} (hu : U8 (strSub s fr s.size) v n) (hv : 0 ≤ v) (hn : 1 ≤ n) (hn2 : n ≤ s.size - fr) (k0 : 57344 ≤ v) (k1 : v < 65536) (he : binV .eql (.string (⟨⟨[(UInt8.ofNat (Int.toNat (224 + (v / 4096)))), (UInt8.ofNat (Int.toNat (128 + ((v / 64) % 64)))), (UInt8.ofNat (Int.toNat (128 + (v % 64))))]⟩⟩ : ByteArray)) (.string (strSub s fr (fr + n))) = some (.bool true)) (j : Nat → Value) : SX Tryz.prog 4096 tail6 (L6S s fr fr (fr + n) j) GoodP := by
  have h0 := h.lo
  obtain ⟨bd, R, Q, r, hR, hQ, hr, hq, hd⟩ := dec_ok (q1 := fr) (q2 := fr + n) h.lo hlt hs hu (by omega) hn (by omega)
  have e1 : rep v = v := if_neg (by omega)
  rw [e1] at hd
  refine SXnext (l6S s fr fr (fr + n) v (1 + n) bd R Q r hs h0 hlt hR hQ hr hq hd) (SXnext (l7S s fr fr (fr + n) v (1 + n) bd R Q r hs h0 hlt hR hQ hr hq) (SXnext (l8S s fr fr (fr + n) v (1 + n) bd R Q r hs h0 hlt hR hQ hr hq (by omega) (by omega)) ?_)) j
  rw [show 1 + n - 1 = n by omega]
  refine SXnext (l9S5 s fr fr (fr + n) v (1 + n) bd n R Q r hs h0 hlt hR hQ hr hq k0 k1) (SXnext (l10S5 s fr fr (fr + n) v (1 + n) bd n R Q r hs h0 hlt hR hQ hr hq k0 k1 (by omega) (by omega) he) ?_)
  intro j
  refine SX.mono (l11S5 s fr fr (fr + n) v (1 + n) bd n R Q r hs h0 hlt hR hQ hr hq k0 k1 (by omega) (by omega) rfl rfl j) ?_
  rintro e st ⟨rfl, j, rfl⟩
  exact ⟨.inr rfl, rfl, by kernel_rfl, by kernel_rfl⟩

theorem tailS4 (h : Sm s fr) (hs : s.size ≤ 2000) (hlt : fr < s.size) {v n : Int} (hu : U8 (strSub s fr s.size) v n) (hv : 0 ≤ v) (hn : 1 ≤ n) (hn2 : n ≤ s.size - fr) (k0 : 65536 ≤ v) (k1 : v ≤ 1114111) (he : binV .eql (.string (⟨⟨[(UInt8.ofNat (Int.toNat (240 + (v / 262144)))), (UInt8.ofNat (Int.toNat (128 + ((v / 4096) % 64)))), (UInt8.ofNat (Int.toNat (128 + ((v / 64) % 64)))), (UInt8.ofNat (Int.toNat (128 + (v % 64))))]⟩⟩ : ByteArray)) (.string (strSub s fr (fr + n))) = some (.bool true)) (j : Nat → Value) : SX Tryz.prog 4096 tail6 (L6S s fr fr (fr + n) j) GoodP := by
  have h0 := h.lo
  obtain ⟨bd, R, Q, r, hR, hQ, hr, hq, hd⟩ := dec_ok (q1 := fr) (q2 := fr + n) h.lo hlt hs hu (by omega) hn (by omega)
  have e1 : rep v = v := if_neg (by omega)
  rw [e1] at hd
  refine SXnext (l6S s fr fr (fr + n) v (1 + n) bd R Q r hs h0 hlt hR hQ hr hq hd) (SXnext (l7S s fr fr (fr + n) v (1 + n) bd R Q r hs h0 hlt hR hQ hr hq) (SXnext (l8S s fr fr (fr + n) v (1 + n) bd R Q r hs h0 hlt hR hQ hr hq (by omega) (by omega)) ?_)) j
  rw [show 1 + n - 1 = n by omega]
  refine SXnext (l9S4 s fr fr (fr + n) v (1 + n) bd n R Q r hs h0 hlt hR hQ hr hq k0 k1) (SXnext (l10S4 s fr fr (fr + n) v (1 + n) bd n R Q r hs h0 hlt hR hQ hr hq k0 k1 (by omega) (by omega) he) ?_)
  intro j
  refine SX.mono (l11S4 s fr fr (fr + n) v (1 + n) bd n R Q r hs h0 hlt hR hQ hr hq k0 k1 (by omega) (by omega) rfl rfl j) ?_
  rintro e st ⟨rfl, j, rfl⟩
  exact ⟨.inr rfl, rfl, by kernel_rfl, by kernel_rfl⟩

theorem tailS (h : Sm s fr) (hs : s.size ≤ 2000) (hlt : fr < s.size) {v n : Int} (hu : U8 (strSub s fr s.size) v n) (hc : U8c (sub s fr) v n) (hv : 0 ≤ v) (j : Nat → Value) : SX Tryz.prog 4096 tail6 (L6S s fr fr (fr + n) j) GoodP := by
  have hsz := sub_size h
  have hb := hc.bounds (by omega)
  have h0 := h.lo
  have hby : ∀ i : Int, 0 ≤ i → fr + i < s.size → byteAt (sub s fr) i = byteAt s (fr + i) := fun i a b => sub_byte h a b
  have b0 := byteAt_lo (sub s fr) 0; have z0 := byteAt_hi (sub s fr) 0
  have b1 := byteAt_lo (sub s fr) 1; have z1 := byteAt_hi (sub s fr) 1
  have b2 := byteAt_lo (sub s fr) 2; have z2 := byteAt_hi (sub s fr) 2
  have b3 := byteAt_lo (sub s fr) 3; have z3 := byteAt_hi (sub s fr) 3
  have y0 : byteAt s fr = byteAt (sub s fr) 0 := by rw [hby 0 (by omega) (by omega), Int.add_zero]
  cases hc with
  | bad0 e => omega
  | bad1 e => omega
  | bad2 e => omega
  | bad3 e => omega
  | ok0 e =>
    have e1 : byteAt (sub s fr) 0 < 128 := by
      unfold moreOf at e
      split at e
      · assumption
      · (repeat' split at e) <;> omega
    exact tailS1 h hs hlt hu hv (by omega) (by omega) e1 (enc1 h0 (by omega) y0.symm) j
  | ok1 e g =>
    have y1 := (hby 1 (by omega) (by omega)).symm
    have e1 : 194 ≤ byteAt (sub s fr) 0 ∧ byteAt (sub s fr) 0 < 224 := by
      unfold moreOf at e
      (repeat' split at e) <;> omega
    have e2 : bitsOf (byteAt (sub s fr) 0) = byteAt (sub s fr) 0 % 32 := by
      unfold bitsOf; rw [if_neg (by omega), if_pos (by omega)]
    have e3 : lo2 (byteAt (sub s fr) 0) = 128 := by unfold lo2; rw [if_neg (by omega), if_neg (by omega)]
    have e4 : hi2 (byteAt (sub s fr) 0) = 191 := by unfold hi2; rw [if_neg (by omega), if_neg (by omega)]
    have g1 := g.2.1; have g2 := g.2.2
    rw [if_pos rfl, e3] at g1
    rw [if_pos rfl, e4] at g2
    have g1 : 128 ≤ byteAt (sub s fr) 1 := g1
    have g2 : byteAt (sub s fr) 1 ≤ 191 := g2
    rw [e2] at hu hv hb
    exact tailS2 h hs hlt hu hv (by omega) (by omega) (by omega) (by omega) (enc2 h0 (by omega) (by omega) (by omega)) j
  | ok2 e g k =>
    have y1 := (hby 1 (by omega) (by omega)).symm
    have y2 := (hby 2 (by omega) (by omega)).symm
    have e1 : 224 ≤ byteAt (sub s fr) 0 ∧ byteAt (sub s fr) 0 < 240 := by
      unfold moreOf at e
      (repeat' split at e) <;> omega
    have e2 : bitsOf (byteAt (sub s fr) 0) = byteAt (sub s fr) 0 % 16 := by
      unfold bitsOf; rw [if_neg (by omega), if_neg (by omega), if_pos (by omega)]
    have g1 := g.2.1; have g2 := g.2.2
    rw [if_pos rfl] at g1 g2
    have g1 : lo2 (byteAt (sub s fr) 0) ≤ byteAt (sub s fr) 1 := g1
    have g2 : byteAt (sub s fr) 1 ≤ hi2 (byteAt (sub s fr) 0) := g2
    have k1 : 128 ≤ byteAt (sub s fr) 2 := by have := k.2.1; rwa [if_neg (by omega)] at this
    have k2 : byteAt (sub s fr) 2 ≤ 191 := by have := k.2.2; rwa [if_neg (by omega)] at this
    have e3 : 128 ≤ lo2 (byteAt (sub s fr) 0) ∧ (byteAt (sub s fr) 0 = 224 → lo2 (byteAt (sub s fr) 0) = 160) := by
      unfold lo2; (repeat' split) <;> omega
    have e4 : hi2 (byteAt (sub s fr) 0) ≤ 191 ∧ (byteAt (sub s fr) 0 = 237 → hi2 (byteAt (sub s fr) 0) = 159) := by
      unfold hi2; (repeat' split) <;> omega
    rw [e2] at hu hv hb
    by_cases hsur : byteAt (sub s fr) 0 < 238
    · exact tailS3 h hs hlt hu hv (by omega) (by omega) (by omega) (by omega) (enc3 h0 (by omega) (by omega) (by omega) (by omega)) j
    · exact tailS5 h hs hlt hu hv (by omega) (by omega) (by omega) (by omega) (enc3 h0 (by omega) (by omega) (by omega) (by omega)) j
  | ok3 e g k l =>
    have y1 := (hby 1 (by omega) (by omega)).symm
    have y2 := (hby 2 (by omega) (by omega)).symm
    have y3 := (hby 3 (by omega) (by omega)).symm
    have e1 : 240 ≤ byteAt (sub s fr) 0 ∧ byteAt (sub s fr) 0 ≤ 244 := by
      unfold moreOf at e
      (repeat' split at e) <;> omega
    have e2 : bitsOf (byteAt (sub s fr) 0) = byteAt (sub s fr) 0 % 8 := by
      unfold bitsOf; rw [if_neg (by omega), if_neg (by omega), if_neg (by omega)]
    have g1 := g.2.1; have g2 := g.2.2
    rw [if_pos rfl] at g1 g2
    have g1 : lo2 (byteAt (sub s fr) 0) ≤ byteAt (sub s fr) 1 := g1
    have g2 : byteAt (sub s fr) 1 ≤ hi2 (byteAt (sub s fr) 0) := g2
    have k1 : 128 ≤ byteAt (sub s fr) 2 := by have := k.2.1; rwa [if_neg (by omega)] at this
    have k2 : byteAt (sub s fr) 2 ≤ 191 := by have := k.2.2; rwa [if_neg (by omega)] at this
    have l1 : 128 ≤ byteAt (sub s fr) 3 := by have := l.2.1; rwa [if_neg (by omega)] at this
    have l2 : byteAt (sub s fr) 3 ≤ 191 := by have := l.2.2; rwa [if_neg (by omega)] at this
    have e3 : 128 ≤ lo2 (byteAt (sub s fr) 0) ∧ (byteAt (sub s fr) 0 = 240 → lo2 (byteAt (sub s fr) 0) = 144) := by
      unfold lo2; (repeat' split) <;> omega
    have e4 : hi2 (byteAt (sub s fr) 0) ≤ 191 ∧ (byteAt (sub s fr) 0 = 244 → hi2 (byteAt (sub s fr) 0) = 143) := by
      unfold hi2; (repeat' split) <;> omega
    rw [e2] at hu hv hb
    exact tailS4 h hs hlt hu hv (by omega) (by omega) (by omega) (by omega) (enc4 h0 (by omega) (by omega) (by omega) (by omega) (by omega)) j

theorem law5 (s : ByteArray) (fr : Int) (hsl : s.size ≤ maxLen) (_ : (Lit.int .i64 fr).wf = true) : Con Tryz.prog 5 [.string s, .int .i64 fr] (mkH fixN []) (.bool true) (mkH 4096 []) := by
  refine Con.ofSX (n := 4096) ok (fn := f5) rfl (by kernel_rfl) (by kernel_rfl) (by kernel_rfl) (by kernel_rfl) (by decide) (by decide) ?_
  have hx : SX Tryz.prog 4096 f5.body (L0 s fr fun _ => undef) GoodP := by
    refine SXnext (l0 s fr) (SXnext (l1 s fr) ?_) _
    intro j
    by_cases hbig : 2000 < s.size
    · refine SX.seq (B1 := fun e st => e = .ret ∧ GoodP e st) ?_ (fun st hB => absurd hB.1 (by simp)) (fun e st _ hB => hB.2)
      refine SX.mono (l2x s fr hbig j) ?_
      rintro e st ⟨rfl, j, rfl⟩
      exact ⟨rfl, .inr rfl, rfl, by kernel_rfl, by kernel_rfl⟩
    have hs : s.size ≤ 2000 := by omega
    refine SXnext (l2 s fr hbig) (SXnext (l3 s fr (by omega)) ?_) j
    intro j
    by_cases hin : 0 ≤ fr ∧ fr < s.size
    · have hSm : Sm s fr := ⟨by omega, hin.1, by omega⟩
      have hsz := sub_size hSm
      obtain ⟨v, n, hu, hc⟩ := u8_all (sub s fr) (by omega) (by omega)
      have hb := hc.bounds (by omega)
      refine SXnext (l4 s fr hin.1 hin.2) ?_ j
      by_cases hv : v < 0
      · have : v = -1 := by omega
        subst this
        have hN : NoM s fr := runNone hSm (fun j => by have := loopAny hSm hin.2 hc j; rwa [if_pos (by omega)] at this)
        exact SXnext (l5N s fr hN) (fun j => tailN (q1 := fr) (q2 := -1) hSm hs hin.2 hu hc j)
      · have hY : YesM s fr (fr + n) := runSome hSm hin.2 hc (by omega)
        exact SXnext (l5S s fr (fr + n) hY) (fun j => tailS hSm hs hin.2 hu hc (by omega) j)
    · refine SX.seq (B1 := fun e st => e = .ret ∧ GoodP e st) ?_ (fun st hB => absurd hB.1 (by simp)) (fun e st _ hB => hB.2)
      by_cases hneg : fr < 0
      · refine SX.mono (l4n s fr ⟨by omega, .inl hneg⟩ hneg j) ?_
        rintro e st ⟨rfl, j, rfl⟩
        exact ⟨rfl, .inr rfl, rfl, by kernel_rfl, by kernel_rfl⟩
      by_cases hend : fr = s.size
      · have hSm : Sm s fr := ⟨by omega, by omega, by omega⟩
        refine SX.mono (l4e s fr (runNone hSm (fun j => fin_end hSm hend j)) (by omega) hend j) ?_
        rintro e st ⟨rfl, j, rfl⟩
        exact ⟨rfl, .inr rfl, rfl, by kernel_rfl, by kernel_rfl⟩
      · refine SX.mono (l4p s fr ⟨by omega, .inr (by omega)⟩ (by omega) (by omega) j) ?_
        rintro e st ⟨rfl, j, rfl⟩
        exact ⟨rfl, .inr rfl, rfl, by kernel_rfl, by kernel_rfl⟩
  exact hx
end
end Go.Am.Zt
