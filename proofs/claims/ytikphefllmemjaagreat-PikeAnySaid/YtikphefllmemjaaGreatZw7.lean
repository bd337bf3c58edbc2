import Derived.Test.YtikphefllmemjaaGreatZw6
import Derived.Test.YtikphefllmemjaaGreatZn
/-
PikeAny: the contracts of pike.Run and of the law's 'made' for '(?s).'.
-/
namespace Go.Am.Zt
open Go Go.Am Go.Proofs
set_option linter.unusedVariables false
set_option maxRecDepth 100000
/- 2 steps -/
set_option maxHeartbeats 4000000 in
theorem o0 (s : ByteArray) (fr : Int) (hs : s.size ≤ 9223372036854775000) (j : Nat → Value) : SX Tryz.prog 4098 f10r0 (A0 s fr j) (fun e' st' => e' = .normal ∧ ∃ j, st' = (A1 s fr j)) := by
  refine SX.mono (SX.run ok mixed (T := tbl) (n := 400) (hs := []) (cs := []) (next := 4099) (σ := [(4098, 4098)]) (pat := (A1_p s fr)) (l := (A1_l s fr)) (by kernel_rfl) ?_ (Nat.le_of_ble_eq_true rfl) (by kernel_rfl)) (fun e st h => ⟨h.1, h.2.elim fun j h2 => ⟨j, h2.trans (by kernel_rfl)⟩⟩)
  exact trivial

/- 6 steps -/
set_option maxHeartbeats 4000000 in
theorem o1n (s : ByteArray) (fr : Int) (hs : s.size ≤ 9223372036854775000) (h0 : fr < 0) (j : Nat → Value) : SX Tryz.prog 4098 (.seq f10r1 (.cond (.tmp 32) (.seq f10r2 .ret) .skip)) (A1 s fr j) (fun e' st' => e' = .ret ∧ ∃ j, st' = ⟨fillT (patOf 165 [(8, (.slice none 0 0))]) j 0, mkH 4098 [(4096, (.cells [(.slice (some ⟨4097, 0, none⟩) 46 46), (.int .i64 1)] 30 none 0)), (4097, prA)], []⟩) := by
  refine SX.mono (SX.run ok mixed (T := tbl) (n := 400) (hs := [(1, (.q (.bool true)))]) (cs := [Fx.cb .lss .i64 fr 0 true]) (next := 4098) (σ := []) (pat := (patOf 165 [(8, (.slice none 0 0))])) (l := [(4096, (.cells [(.slice (some ⟨4097, 0, none⟩) 46 46), (.int .i64 1)] 30 none 0)), (4097, prA)]) (by kernel_rfl) ?_ (Nat.le_of_ble_eq_true rfl) (by kernel_rfl)) (fun e st h => ⟨h.1, h.2.elim fun j h2 => ⟨j, h2.trans (by kernel_rfl)⟩⟩)
  exact ⟨(Fx.lss_t (by omega)),
    trivial⟩

/- 9 steps -/
set_option maxHeartbeats 4000000 in
theorem o1p (s : ByteArray) (fr : Int) (hs : s.size ≤ 9223372036854775000) (h0 : 0 ≤ fr) (h1 : s.size < fr) (j : Nat → Value) : SX Tryz.prog 4098 (.seq f10r1 (.cond (.tmp 32) (.seq f10r2 .ret) .skip)) (A1 s fr j) (fun e' st' => e' = .ret ∧ ∃ j, st' = ⟨fillT (patOf 165 [(8, (.slice none 0 0))]) j 0, mkH 4098 [(4096, (.cells [(.slice (some ⟨4097, 0, none⟩) 46 46), (.int .i64 1)] 30 none 0)), (4097, prA)], []⟩) := by
  refine SX.mono (SX.run ok mixed (T := tbl) (n := 400) (hs := [(1, (.q (.bool false))), (4, (.q (.bool true)))]) (cs := [Fx.cb .gtr .i64 fr ((s).size : Int) true,
    Fx.cb .lss .i64 fr 0 false]) (next := 4098) (σ := []) (pat := (patOf 165 [(8, (.slice none 0 0))])) (l := [(4096, (.cells [(.slice (some ⟨4097, 0, none⟩) 46 46), (.int .i64 1)] 30 none 0)), (4097, prA)]) (by kernel_rfl) ?_ (Nat.le_of_ble_eq_true rfl) (by kernel_rfl)) (fun e st h => ⟨h.1, h.2.elim fun j h2 => ⟨j, h2.trans (by kernel_rfl)⟩⟩)
  exact ⟨(Fx.gtr_t (by omega)),
    (Fx.lss_f (by omega)),
    trivial⟩


def lA : List (Nat × VObj) := [(4096, (.cells [(.slice (some ⟨4097, 0, none⟩) 46 46), (.int .i64 1)] 30 none 0)), (4097, prA)]
def progA : Value := .agg ⟨[.slice (some ⟨4097, 0, none⟩) 46 46, .int .i64 1]⟩
def pair (a b : Int) : VObj := .cells [.int .i64 a, .int .i64 b] 3 (some 1) 0
def argA (s : ByteArray) (fr : Int) : List Value := [progA, .string s, .int .i64 fr, .bool true]

theorem runSome {s : ByteArray} {fr v n : Int} (h : Sm s fr) (hlt : fr < s.size) (hc : U8c (sub s fr) v n) (hv : 0 ≤ v) :
    Con Tryz.prog 10 (argA s fr) (mkH 4098 lA) (.slice (some ⟨4098, 0, none⟩) 2 2) (mkH 4099 (lA ++ [(4098, pair fr (fr + n))])) := by
  refine Con.ofSX ok (fn := f10) rfl (by kernel_rfl) (by kernel_rfl) (by kernel_rfl) (by kernel_rfl) (by decide) (by decide) ?_
  have hx : SX Tryz.prog 4098 f10.body (A0 s fr fun _ => undef) (fun e st => (e = .normal ∨ e = .ret) ∧ st.ds = [] ∧ (resVs st.h st.tmps f10.results).map packV = some (.slice (some ⟨4098, 0, none⟩) 2 2) ∧ st.h = mkH 4099 (lA ++ [(4098, pair fr (fr + n))])) := by
    refine SXnext (a0 s fr h.small h.lo h.hi) (SXnext (a1 s fr h.small h.lo h.hi) (SXnext (a2 s fr h.small h.lo h.hi) (SXnext (a3 s fr h.small h.lo h.hi) (SXnext (a4 s fr h.small h.lo h.hi) (SXnext (S2 := XGA s fr (fr + n)) ?_ ?_))))) _
    · refine SXnext (a5 s fr h.small h.lo h.hi) (fun j => SX.block (loopAny h hlt hc j) ?_)
      rintro e st ⟨rfl, hr⟩
      rw [if_neg (by omega)] at hr
      exact ⟨rfl, hr⟩
    · intro j
      refine SX.mono (fin_GA s fr 0 (fr + n) j) ?_
      rintro e st ⟨rfl, j, rfl⟩
      exact ⟨.inr rfl, rfl, by kernel_rfl, by kernel_rfl⟩
  exact hx
theorem runNone {s : ByteArray} {fr : Int} (h : Sm s fr) (hl : ∀ j, SX Tryz.prog 4098 (.loop bodyA) (AH0 s fr j) (Res s fr none)) :
    Con Tryz.prog 10 (argA s fr) (mkH 4098 lA) (.slice none 0 0) (mkH 4099 (lA ++ [(4098, pair fr (-1))])) := by
  refine Con.ofSX ok (fn := f10) rfl (by kernel_rfl) (by kernel_rfl) (by kernel_rfl) (by kernel_rfl) (by decide) (by decide) ?_
  have hx : SX Tryz.prog 4098 f10.body (A0 s fr fun _ => undef) (fun e st => (e = .normal ∨ e = .ret) ∧ st.ds = [] ∧ (resVs st.h st.tmps f10.results).map packV = some (.slice none 0 0) ∧ st.h = mkH 4099 (lA ++ [(4098, pair fr (-1))])) := by
    refine SXnext (a0 s fr h.small h.lo h.hi) (SXnext (a1 s fr h.small h.lo h.hi) (SXnext (a2 s fr h.small h.lo h.hi) (SXnext (a3 s fr h.small h.lo h.hi) (SXnext (a4 s fr h.small h.lo h.hi) (SXnext (S2 := XCE s fr) ?_ ?_))))) _
    · refine SXnext (a5 s fr h.small h.lo h.hi) (fun j => SX.block (hl j) ?_)
      rintro e st ⟨rfl, hr⟩
      exact ⟨rfl, hr⟩
    · intro j
      refine SX.mono (fin_CE s fr 0 0 j) ?_
      rintro e st ⟨rfl, j, rfl⟩
      exact ⟨.inr rfl, rfl, by kernel_rfl, by kernel_rfl⟩
  exact hx
theorem runOut {s : ByteArray} {fr : Int} (hs : s.size ≤ 9223372036854775000) (h : fr < 0 ∨ (s.size : Int) < fr) :
    Con Tryz.prog 10 (argA s fr) (mkH 4098 lA) (.slice none 0 0) (mkH 4098 lA) := by
  refine Con.ofSX ok (fn := f10) rfl (by kernel_rfl) (by kernel_rfl) (by kernel_rfl) (by kernel_rfl) (by decide) (by decide) ?_
  have hx : SX Tryz.prog 4098 f10.body (A0 s fr fun _ => undef) (fun e st => (e = .normal ∨ e = .ret) ∧ st.ds = [] ∧ (resVs st.h st.tmps f10.results).map packV = some (.slice none 0 0) ∧ st.h = mkH 4098 lA) := by
    refine SXnext (o0 s fr hs) (fun j => ?_) _
    refine SX.seq (B1 := fun e st => e = .ret ∧ ((e = .normal ∨ e = .ret) ∧ st.ds = [] ∧ (resVs st.h st.tmps f10.results).map packV = some (.slice none 0 0) ∧ st.h = mkH 4098 lA)) ?_ (fun st hB => absurd hB.1 (by simp)) (fun e st _ hB => hB.2)
    by_cases hneg : fr < 0
    · refine SX.mono (o1n s fr hs hneg j) ?_
      rintro e st ⟨rfl, j, rfl⟩
      exact ⟨rfl, .inr rfl, rfl, by kernel_rfl, by kernel_rfl⟩
    · refine SX.mono (o1p s fr hs (by omega) (by omega) j) ?_
      rintro e st ⟨rfl, j, rfl⟩
      exact ⟨rfl, .inr rfl, rfl, by kernel_rfl, by kernel_rfl⟩
  exact hx

def flagsA : Value := .agg ⟨[.bool false, .bool false, .bool false, .bool false]⟩
def argM (s : ByteArray) : List Value := [.string ⟨⟨[40, 63, 115, 41, 46]⟩⟩, flagsA, .int .i64 (s.size : Int)]
theorem madeA {s : ByteArray} (hs : (s.size : Int) ≤ 2000) : Con Tryz.prog 9 (argM s) (mkH 4096 []) (.pointer (some ⟨4096, 0, none⟩)) (mkH 4098 lA) := by
  refine Con.ofSX ok (fn := f9) rfl (by kernel_rfl) (by kernel_rfl) (by kernel_rfl) (by kernel_rfl) (by decide) (by decide) ?_
  have hx : SX Tryz.prog 4096 f9.body (N0 s.size fun _ => undef) (fun e st => (e = .normal ∨ e = .ret) ∧ st.ds = [] ∧ (resVs st.h st.tmps f9.results).map packV = some (.pointer (some ⟨4096, 0, none⟩)) ∧ st.h = mkH 4098 lA) := by
    refine SXnext (n0 s.size (by omega) hs) (SXnext (n1 s.size (by omega) hs) (SXnext (n2 s.size (by omega) hs) (SXnext (n3 s.size (by omega) hs) (SXnext (n4 s.size (by omega) hs) ?_)))) _
    intro j
    refine SX.mono (n5 0 (by omega) (by omega) j) ?_
    rintro e st ⟨rfl, j, rfl⟩
    exact ⟨.inr rfl, rfl, by kernel_rfl, by kernel_rfl⟩
  exact hx
end Go.Am.Zt
