import Derived.Test.YtikphefllmemjaaGreatZw7
import Derived.Test.YtikphefllmemjaaGreatZu3
import Derived.Test.YtikphefllmemjaaGreatZs5d
/-
PikeAny: the calls of the law, by their contracts.
-/
namespace Go.Am.Zt
open Go Go.Am Go.Proofs
set_option linter.unusedVariables false
set_option maxRecDepth 100000

theorem con8 : Con Tryz.prog 8 [] (mkH 4096 []) (.bool true) (mkH 4096 []) := by
  refine Con.ofSX ok (fn := f8) rfl (by kernel_rfl) (by kernel_rfl) (by kernel_rfl) (by kernel_rfl) (by decide) (by decide) ?_
  have hx : SX Tryz.prog 4096 f8.body (S0 fun _ => undef) (fun e st => (e = .normal ∨ e = .ret) ∧ st.ds = [] ∧ (resVs st.h st.tmps f8.results).map packV = some (.bool true) ∧ st.h = mkH 4096 []) := by
    refine SXnext sp0 (SXnext sp1 (SXnext sp2 (SXnext sp3 ?_))) _
    intro j
    refine SX.mono (sp4 j) ?_
    rintro e st ⟨rfl, j, rfl⟩
    exact ⟨.inr rfl, rfl, by kernel_rfl, by kernel_rfl⟩
  exact hx
noncomputable def T1 : Tbl := Tbl.with1 Tryz.prog tbl 8 [] (mkH 4096 []) (.bool true, mkH 4096 [])
theorem T1_ok : TblOk Tryz.prog T1 := with1_ok ok mixed con8 (mkH_hn (by kernel_rfl) (by decide))

noncomputable def TM (s : ByteArray) : Tbl := Tbl.with1 Tryz.prog tbl 9 (argM s) (mkH 4096 []) (.pointer (some ⟨4096, 0, none⟩), mkH 4098 lA)
theorem TM_ok {s : ByteArray} (hs : (s.size : Int) ≤ 2000) : TblOk Tryz.prog (TM s) := with1_ok ok mixed (madeA hs) (mkH_hn (by kernel_rfl) (by decide))
def Out (s : ByteArray) (fr : Int) : Prop := s.size ≤ 9223372036854775000 ∧ (fr < 0 ∨ (s.size : Int) < fr)
noncomputable def TO (s : ByteArray) (fr : Int) : Tbl := Tbl.with1 Tryz.prog tbl 10 (argA s fr) (mkH 4098 lA) (.slice none 0 0, mkH 4098 lA)
theorem TO_ok {s : ByteArray} {fr : Int} (h : Out s fr) : TblOk Tryz.prog (TO s fr) := with1_ok ok mixed (runOut h.1 h.2) (mkH_hn (by kernel_rfl) (by decide))
def NoM (s : ByteArray) (fr : Int) : Prop := Con Tryz.prog 10 (argA s fr) (mkH 4098 lA) (.slice none 0 0) (mkH 4099 (lA ++ [(4098, pair fr (-1))]))
noncomputable def TN (s : ByteArray) (fr : Int) : Tbl := Tbl.with1 Tryz.prog tbl 10 (argA s fr) (mkH 4098 lA) (.slice none 0 0, mkH 4099 (lA ++ [(4098, pair fr (-1))]))
theorem TN_ok {s : ByteArray} {fr : Int} (h : NoM s fr) : TblOk Tryz.prog (TN s fr) := with1_ok ok mixed h (mkH_hn (by kernel_rfl) (by decide))
def YesM (s : ByteArray) (fr q : Int) : Prop := Con Tryz.prog 10 (argA s fr) (mkH 4098 lA) (.slice (some ⟨4098, 0, none⟩) 2 2) (mkH 4099 (lA ++ [(4098, pair fr q)]))
noncomputable def TS (s : ByteArray) (fr q : Int) : Tbl := Tbl.with1 Tryz.prog tbl 10 (argA s fr) (mkH 4098 lA) (.slice (some ⟨4098, 0, none⟩) 2 2, mkH 4099 (lA ++ [(4098, pair fr q)]))
theorem TS_ok {s : ByteArray} {fr q : Int} (h : YesM s fr q) : TblOk Tryz.prog (TS s fr q) := with1_ok ok mixed h (mkH_hn (by kernel_rfl) (by decide))
/-- the text that the law decodes -/
def xs (s : ByteArray) (fr : Int) : ByteArray := ⟨⟨[120]⟩⟩ ++ strSub s fr (s.size : Int)
def argD (s : ByteArray) (fr : Int) : List Value := [.string (xs s fr), .int .i64 1, .bool false]
def Dec (s : ByteArray) (fr q1 q2 w1 p2 bd : Int) (R Q : List Value) (r : Nat) : Prop := AllInt R ∧ AllInt Q ∧ Con Tryz.prog 11 (argD s fr) (mkH 4097 [(4096, pair q1 q2)]) (dvr bd r) (mkH 4101 (dlr q1 q2 w1 p2 bd R Q r))
theorem dlr_ok {q1 q2 w1 p2 bd : Int} {R Q : List Value} {r : Nat} (hR : AllInt R) (hQ : AllInt Q) : okHp (fun b => decide (b < 4101)) (dlr q1 q2 w1 p2 bd R Q r) = true :=
  okHp2 (by kernel_rfl) ⟨pure_ints hR.cons.cons, pure_ints hQ.cons.cons.cons, trivial⟩
noncomputable def TD (s : ByteArray) (fr q1 q2 w1 p2 bd : Int) (R Q : List Value) (r : Nat) : Tbl := Tbl.with1 Tryz.prog tbl 11 (argD s fr) (mkH 4097 [(4096, pair q1 q2)]) (dvr bd r, mkH 4101 (dlr q1 q2 w1 p2 bd R Q r))
theorem TD_ok {s : ByteArray} {fr q1 q2 w1 p2 bd : Int} {R Q : List Value} {r : Nat} (h : Dec s fr q1 q2 w1 p2 bd R Q r) : TblOk Tryz.prog (TD s fr q1 q2 w1 p2 bd R Q r) := with1_ok ok mixed h.2.2 (mkH_hn (dlr_ok h.1 h.2.1) (by decide))

theorem xs_size {s : ByteArray} {fr : Int} (h0 : 0 ≤ fr) (h1 : fr ≤ s.size) : ((xs s fr).size : Int) = 1 + (s.size - fr) := by
  have := strSub_size h0 h1 (Int.le_refl _)
  unfold xs
  rw [ByteArray.size_append]
  have e : (ByteArray.size ⟨⟨[120]⟩⟩) = 1 := rfl
  omega
theorem xs_sub {s : ByteArray} {fr : Int} (h0 : 0 ≤ fr) (h1 : fr ≤ s.size) : strSub (xs s fr) 1 (xs s fr).size = strSub s fr s.size := by
  have hz := xs_size h0 h1
  have hl : (xs s fr).data.toList = 120 :: (strSub s fr s.size).data.toList := by simp [xs]
  have : (strSub (xs s fr) 1 (xs s fr).size).data.toList = (strSub s fr s.size).data.toList := by
    rw [strSub_list, hl]
    have e1 : ((xs s fr).size : Int).toNat = (120 :: (strSub s fr s.size).data.toList).length := by
      rw [← hl, size_list]; simp
    rw [e1, List.take_length]
    rfl
  have e2 : (strSub (xs s fr) 1 (xs s fr).size).data = (strSub s fr s.size).data := Array.toList_inj.1 this
  generalize strSub (xs s fr) 1 (xs s fr).size = x at e2 ⊢
  generalize strSub s fr s.size = y at e2 ⊢
  cases x; cases y; simp only at e2; rw [e2]
theorem cat_ok {s : ByteArray} {fr : Int} (h0 : 0 ≤ fr) (h1 : fr < s.size) (hs : s.size ≤ 2000) : (⟨⟨[120]⟩⟩ : ByteArray).size + (strSub s fr (s.size : Int)).size ≤ 9223372036854775807 := by
  have := strSub_size h0 (show fr ≤ (s.size : Int) by omega) (Int.le_refl _)
  have e : (ByteArray.size ⟨⟨[120]⟩⟩) = 1 := rfl
  omega
theorem xs_ok {s : ByteArray} {fr : Int} (h0 : 0 ≤ fr) (h1 : fr < s.size) (hs : s.size ≤ 2000) : Xs (xs s fr) := by
  have hz := xs_size h0 (show fr ≤ s.size by omega)
  refine ⟨by omega, by omega, ?_⟩
  unfold byteAt
  have hl : (xs s fr).data.toList = 120 :: (strSub s fr s.size).data.toList := by simp [xs]
  rw [hl]
  rfl

theorem laid_ints {d : ByteArray} : ∀ (k : Nat) (a : Int) (R L : List Value) (bd : Int), AllInt R → AllInt L → R.length = L.length → AllInt (laid d k a R L bd).1 ∧ AllInt (laid d k a R L bd).2.1 ∧ (laid d k a R L bd).1.length = (laid d k a R L bd).2.1.length
  | 0, a, R, L, bd, hR, hL, hl => ⟨hR, hL, hl⟩
  | k + 1, a, R, L, bd, hR, hL, hl => by
    simp only [laid]
    split
    · exact laid_ints k _ _ _ _ hR.snoc hL.snoc (by simp [hl])
    · exact ⟨hR, hL, hl⟩
theorem dec_ok {s : ByteArray} {fr q1 q2 v n : Int} (h0 : 0 ≤ fr) (h1 : fr < s.size) (hs : s.size ≤ 2000) (hu : U8 (strSub s fr s.size) v n) (hv : -1 ≤ v) (hn : 1 ≤ n) (hn2 : n ≤ s.size - fr) :
    ∃ bd R Q r, AllInt R ∧ AllInt Q ∧ R.length + 2 = r ∧ Q.length = R.length ∧ Dec s fr q1 q2 (rep v) (1 + n) bd R Q r := by
  have hz := xs_size h0 (show fr ≤ s.size by omega)
  have hu' : U8 (strSub (xs s fr) 1 (xs s fr).size) v n := by rw [xs_sub h0 (by omega)]; exact hu
  generalize hF : laid (xs s fr) (xs s fr).size (1 + n) [] [] (bad0 v) = F
  have key := fun j => decoder q1 q2 F hF (xs_ok h0 h1 hs) hu' hv hn (by omega) j
  have hl := laid_ints (d := xs s fr) (xs s fr).size (1 + n) [] [] (bad0 v) AllInt.nil AllInt.nil rfl
  rw [hF] at hl
  have hall : AllInt F.1 ∧ AllInt (F.2.1 ++ [Value.int .i64 ((xs s fr).size : Int)]).tail ∧ (F.2.1 ++ [Value.int .i64 ((xs s fr).size : Int)]).tail.length = F.1.length :=
    ⟨hl.1, fun x hx => hl.2.1.snoc (k := .i64) (n := ((xs s fr).size : Int)) x (List.mem_of_mem_tail hx), by rw [List.length_tail, List.length_append, hl.2.2]; simp⟩
  refine ⟨F.2.2, F.1, (F.2.1 ++ [Value.int .i64 ((xs s fr).size : Int)]).tail, F.1.length + 2, hall.1, hall.2.1, rfl, hall.2.2, hall.1, hall.2.1, ?_⟩
  refine Con.ofSX ok (fn := f11) rfl (by kernel_rfl) (by kernel_rfl) (dlr_ok hall.1 hall.2.1) (by kernel_rfl) (by decide) (by decide) ?_
  have hx : SX Tryz.prog 4097 f11.body (D0r (xs s fr) q1 q2 fun _ => undef) (fun e st => (e = .normal ∨ e = .ret) ∧ st.ds = [] ∧ (resVs st.h st.tmps f11.results).map packV = some (dvr F.2.2 (F.1.length + 2)) ∧ st.h = mkH 4101 (dlr q1 q2 (rep v) (1 + n) F.2.2 F.1 (F.2.1 ++ [Value.int .i64 ((xs s fr).size : Int)]).tail (F.1.length + 2))) :=
    SX.mono (key _) (fun e st hg => hg.2)
  exact hx
end Go.Am.Zt
