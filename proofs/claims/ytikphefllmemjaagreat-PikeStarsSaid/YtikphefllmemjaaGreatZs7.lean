import Derived.Test.YtikphefllmemjaaGreatZs6
/-
PikeStars: the runs of the law's own function (printed by wip/z/JobL.lean).
-/
namespace Go.Am.Zt
open Go Go.Am Go.Proofs
set_option linter.unusedVariables false
set_option maxRecDepth 100000
def Q0 (a0 : Int) (a1 : Int) (j : Nat → Value) : St := ⟨fillT (patOf 97 [(0, (.int .i64 a0)), (1, (.int .i64 a1)), (2, (.bool false))]) j 0, mkH 4096 [], []⟩
def Q3 (n : Int) (m : Int) (j : Nat → Value) : St := ⟨fillT (patOf 97 [(0, (.int .i64 n)), (1, (.int .i64 m)), (2, (.bool false))]) j 0, mkH 4096 [], []⟩
def W1 (s : ByteArray) (n : Int) (m : Int) (i : Int) (j : Nat → Value) : St := ⟨fillT (patOf 97 [(8, (.int .i64 i)), (0, (.int .i64 n)), (7, (.string s)), (1, (.int .i64 m)), (2, (.bool false))]) j 0, mkH 4096 [], []⟩
def V1 (s : ByteArray) (n : Int) (m : Int) (j : Nat → Value) : St := ⟨fillT (patOf 97 [(1, (.int .i64 m)), (7, (.string s)), (2, (.bool false)), (0, (.int .i64 n))]) j 0, mkH 4096 [], []⟩
def W2 (s : ByteArray) (n : Int) (m : Int) (i : Int) (j : Nat → Value) : St := ⟨fillT (patOf 97 [(9, (.int .i64 i)), (1, (.int .i64 m)), (7, (.string s)), (2, (.bool false)), (0, (.int .i64 n))]) j 0, mkH 4096 [], []⟩
def V2 (s : ByteArray) (n : Int) (m : Int) (j : Nat → Value) : St := ⟨fillT (patOf 97 [(2, (.bool false)), (7, (.string s)), (0, (.int .i64 n)), (1, (.int .i64 m))]) j 0, mkH 4096 [], []⟩
def Q6 (s : ByteArray) (n : Int) (m : Int) (j : Nat → Value) : St := ⟨fillT (patOf 97 [(2, (.bool false)), (7, (.string s)), (0, (.int .i64 n)), (1, (.int .i64 m))]) j 0, mkH 4096 [], []⟩
def Q7 (s : ByteArray) (n : Int) (m : Int) (j : Nat → Value) : St := ⟨fillT (patOf 97 [(2, (.bool false)), (7, (.string s)), (0, (.int .i64 n)), (1, (.int .i64 m)), (10, (.string ⟨⟨[97, 42]⟩⟩))]) j 0, mkH 4096 [], []⟩
def lb1 : ICode := (.seq (.seq f4r6 (.cond (.tmp 24) .skip (.exit 0))) (.seq (.block 1 f4r7) f4r8))
def lb2 : ICode := (.seq (.seq f4r10 (.cond (.tmp 31) .skip (.exit 2))) (.seq (.block 3 f4r11) f4r12))
/- 1 steps -/
set_option maxHeartbeats 4000000 in
theorem k0 (a0 a1 : Int) (j : Nat → Value) : SX Tryz.prog 4096 f4r0 (Q0  a0 a1 j) (fun e' st' => e' = .normal ∧ ∃ j, st' = (Q0  a0 a1 j)) := by
  refine SX.mono (SX.run ok mixed (T := tbl) (n := 400) (hs := []) (cs := []) (next := 4096) (σ := []) (pat := (patOf 97 [(0, (.int .i64 a0)), (1, (.int .i64 a1)), (2, (.bool false))])) (l := []) (by kernel_rfl) ?_ (Nat.le_of_ble_eq_true rfl) (by kernel_rfl)) (fun e st h => ⟨h.1, h.2.elim fun j h2 => ⟨j, h2.trans (by kernel_rfl)⟩⟩)
  exact trivial

/- 1 steps -/
set_option maxHeartbeats 4000000 in
theorem k1 (a0 a1 : Int) (j : Nat → Value) : SX Tryz.prog 4096 (.seq f4r1 (.cond (.tmp 17) (.seq f4r2 .ret) .skip)) (Q0  a0 a1 j) (fun e' st' => e' = .normal ∧ ∃ j, st' = (Q0  a0 a1 j)) := by
  refine SX.mono (SX.run T1_ok mixed (T := T1) (n := 400) (hs := [(0, (.x (.bool true) (mkH 4096 [])))]) (cs := [lim Tryz.prog T1 8 [] (mkH 4096 []) = some ((.bool true), (mkH 4096 []))]) (next := 4096) (σ := []) (pat := (patOf 97 [(0, (.int .i64 a0)), (1, (.int .i64 a1)), (2, (.bool false))])) (l := []) (by kernel_rfl) ?_ (Nat.le_of_ble_eq_true rfl) (by kernel_rfl)) (fun e st h => ⟨h.1, h.2.elim fun j h2 => ⟨j, h2.trans (by kernel_rfl)⟩⟩)
  exact ⟨with1_at,
    trivial⟩

/- 4 steps -/
set_option maxHeartbeats 4000000 in
theorem k2 (a0 a1 : Int) (j : Nat → Value) : SX Tryz.prog 4096 f4r3 (Q0  a0 a1 j) (fun e' st' => e' = .normal ∧ ∃ j, st' = (Q0  (a0 % 256) (a1 % 256) j)) := by
  refine SX.mono (SX.run ok mixed (T := tbl) (n := 400) (hs := [(1, (.q (.int .i64 (a0 % 256)))), (1, (.q (.int .i64 (a1 % 256))))]) (cs := [binV .and (.int .i64 a1) (.int .i64 255) = some (.int .i64 (a1 % 256)),
    binV .and (.int .i64 a0) (.int .i64 255) = some (.int .i64 (a0 % 256))]) (next := 4096) (σ := []) (pat := (patOf 97 [(0, (.int .i64 (a0 % 256))), (1, (.int .i64 (a1 % 256))), (2, (.bool false))])) (l := []) (by kernel_rfl) ?_ (Nat.le_of_ble_eq_true rfl) (by kernel_rfl)) (fun e st h => ⟨h.1, h.2.elim fun j h2 => ⟨j, h2.trans (by kernel_rfl)⟩⟩)
  exact ⟨Fx.and255,
    Fx.and255,
    trivial⟩

/- 1 steps -/
set_option maxHeartbeats 4000000 in
theorem k3 (n m : Int) (j : Nat → Value) : SX Tryz.prog 4096 f4r4 (Q0  n m j) (fun e' st' => e' = .normal ∧ ∃ j, st' = ⟨fillT (patOf 97 [(0, (.int .i64 n)), (7, (.string ⟨⟨[]⟩⟩)), (1, (.int .i64 m)), (2, (.bool false))]) j 0, mkH 4096 [], []⟩) := by
  refine SX.mono (SX.run ok mixed (T := tbl) (n := 400) (hs := []) (cs := []) (next := 4096) (σ := []) (pat := (patOf 97 [(0, (.int .i64 n)), (7, (.string ⟨⟨[]⟩⟩)), (1, (.int .i64 m)), (2, (.bool false))])) (l := []) (by kernel_rfl) ?_ (Nat.le_of_ble_eq_true rfl) (by kernel_rfl)) (fun e st h => ⟨h.1, h.2.elim fun j h2 => ⟨j, h2.trans (by kernel_rfl)⟩⟩)
  exact trivial

/- 1 steps -/
set_option maxHeartbeats 4000000 in
theorem k4 (n m : Int) (j : Nat → Value) : SX Tryz.prog 4096 f4r5 ⟨fillT (patOf 97 [(0, (.int .i64 n)), (7, (.string ⟨⟨[]⟩⟩)), (1, (.int .i64 m)), (2, (.bool false))]) j 0, mkH 4096 [], []⟩ (fun e' st' => e' = .normal ∧ ∃ j, st' = ⟨fillT (patOf 97 [(8, (.int .i64 0)), (0, (.int .i64 n)), (7, (.string ⟨⟨[]⟩⟩)), (1, (.int .i64 m)), (2, (.bool false))]) j 0, mkH 4096 [], []⟩) := by
  refine SX.mono (SX.run ok mixed (T := tbl) (n := 400) (hs := []) (cs := []) (next := 4096) (σ := []) (pat := (patOf 97 [(8, (.int .i64 0)), (0, (.int .i64 n)), (7, (.string ⟨⟨[]⟩⟩)), (1, (.int .i64 m)), (2, (.bool false))])) (l := []) (by kernel_rfl) ?_ (Nat.le_of_ble_eq_true rfl) (by kernel_rfl)) (fun e st h => ⟨h.1, h.2.elim fun j h2 => ⟨j, h2.trans (by kernel_rfl)⟩⟩)
  exact trivial

/- 6 steps -/
set_option maxHeartbeats 4000000 in
theorem k4a (s : ByteArray) (n m i : Int) (h0 : i < n) (h1 : 0 ≤ i) (h2 : n ≤ 255) (hs : (s.size : Int) ≤ 600) (j : Nat → Value) : SX Tryz.prog 4096 lb1 (W1  s n m i j) (fun e' st' => e' = .normal ∧ ∃ j, st' = (W1  (s ++ ⟨⟨[97]⟩⟩) n m (i + 1) j)) := by
  refine SX.mono (SX.run ok mixed (T := tbl) (n := 400) (hs := [(2, (.q (.bool true))), (1, (.q (.string (s ++ ⟨⟨[97]⟩⟩)))), (2, (.q (.int .i64 (i + 1))))]) (cs := [binV .add (.int .i64 i) (.int .i64 1) = some (.int .i64 (i + 1)),
    binV .add (.string s) (.string ⟨⟨[97]⟩⟩) = some (.string (s ++ ⟨⟨[97]⟩⟩)),
    binV .lss (.int .i64 i) (.int .i64 n) = some (.bool true)]) (next := 4096) (σ := []) (pat := (patOf 97 [(8, (.int .i64 (i + 1))), (0, (.int .i64 n)), (7, (.string (s ++ ⟨⟨[97]⟩⟩))), (1, (.int .i64 m)), (2, (.bool false))])) (l := []) (by kernel_rfl) ?_ (Nat.le_of_ble_eq_true rfl) (by kernel_rfl)) (fun e st h => ⟨h.1, h.2.elim fun j h2 => ⟨j, h2.trans (by kernel_rfl)⟩⟩)
  exact ⟨(Fx.add_add (by omega) (by omega)),
    (Fx.cat (show s.size + 1 ≤ 9223372036854775807 by omega)),
    (Fx.lss_t (by omega)),
    trivial⟩

/- 2 steps -/
set_option maxHeartbeats 4000000 in
theorem k4x (s : ByteArray) (n m i : Int) (h0 : ¬ i < n) (j : Nat → Value) : SX Tryz.prog 4096 lb1 (W1  s n m i j) (fun e' st' => e' = (.exit 0) ∧ ∃ j, st' = (V1  s n m j)) := by
  refine SX.mono (SX.run ok mixed (T := tbl) (n := 400) (hs := [(2, (.q (.bool false)))]) (cs := [binV .lss (.int .i64 i) (.int .i64 n) = some (.bool false)]) (next := 4096) (σ := []) (pat := (patOf 97 [(1, (.int .i64 m)), (7, (.string s)), (2, (.bool false)), (0, (.int .i64 n))])) (l := []) (by kernel_rfl) ?_ (Nat.le_of_ble_eq_true rfl) (by kernel_rfl)) (fun e st h => ⟨h.1, h.2.elim fun j h2 => ⟨j, h2.trans (by kernel_rfl)⟩⟩)
  exact ⟨(Fx.lss_f (by omega)),
    trivial⟩

/- 1 steps -/
set_option maxHeartbeats 4000000 in
theorem k5 (s : ByteArray) (n m : Int) (j : Nat → Value) : SX Tryz.prog 4096 f4r9 (V1  s n m j) (fun e' st' => e' = .normal ∧ ∃ j, st' = ⟨fillT (patOf 97 [(9, (.int .i64 0)), (1, (.int .i64 m)), (7, (.string s)), (2, (.bool false)), (0, (.int .i64 n))]) j 0, mkH 4096 [], []⟩) := by
  refine SX.mono (SX.run ok mixed (T := tbl) (n := 400) (hs := []) (cs := []) (next := 4096) (σ := []) (pat := (patOf 97 [(9, (.int .i64 0)), (1, (.int .i64 m)), (7, (.string s)), (2, (.bool false)), (0, (.int .i64 n))])) (l := []) (by kernel_rfl) ?_ (Nat.le_of_ble_eq_true rfl) (by kernel_rfl)) (fun e st h => ⟨h.1, h.2.elim fun j h2 => ⟨j, h2.trans (by kernel_rfl)⟩⟩)
  exact trivial

/- 6 steps -/
set_option maxHeartbeats 4000000 in
theorem k5a (s : ByteArray) (n m i : Int) (h0 : i < m) (h1 : 0 ≤ i) (h2 : m ≤ 255) (hs : (s.size : Int) ≤ 600) (j : Nat → Value) : SX Tryz.prog 4096 lb2 (W2  s n m i j) (fun e' st' => e' = .normal ∧ ∃ j, st' = (W2  (s ++ ⟨⟨[98]⟩⟩) n m (i + 1) j)) := by
  refine SX.mono (SX.run ok mixed (T := tbl) (n := 400) (hs := [(2, (.q (.bool true))), (1, (.q (.string (s ++ ⟨⟨[98]⟩⟩)))), (2, (.q (.int .i64 (i + 1))))]) (cs := [binV .add (.int .i64 i) (.int .i64 1) = some (.int .i64 (i + 1)),
    binV .add (.string s) (.string ⟨⟨[98]⟩⟩) = some (.string (s ++ ⟨⟨[98]⟩⟩)),
    binV .lss (.int .i64 i) (.int .i64 m) = some (.bool true)]) (next := 4096) (σ := []) (pat := (patOf 97 [(9, (.int .i64 (i + 1))), (1, (.int .i64 m)), (7, (.string (s ++ ⟨⟨[98]⟩⟩))), (2, (.bool false)), (0, (.int .i64 n))])) (l := []) (by kernel_rfl) ?_ (Nat.le_of_ble_eq_true rfl) (by kernel_rfl)) (fun e st h => ⟨h.1, h.2.elim fun j h2 => ⟨j, h2.trans (by kernel_rfl)⟩⟩)
  exact ⟨(Fx.add_add (by omega) (by omega)),
    (Fx.cat (show s.size + 1 ≤ 9223372036854775807 by omega)),
    (Fx.lss_t (by omega)),
    trivial⟩

/- 2 steps -/
set_option maxHeartbeats 4000000 in
theorem k5x (s : ByteArray) (n m i : Int) (h0 : ¬ i < m) (j : Nat → Value) : SX Tryz.prog 4096 lb2 (W2  s n m i j) (fun e' st' => e' = (.exit 2) ∧ ∃ j, st' = (V2  s n m j)) := by
  refine SX.mono (SX.run ok mixed (T := tbl) (n := 400) (hs := [(2, (.q (.bool false)))]) (cs := [binV .lss (.int .i64 i) (.int .i64 m) = some (.bool false)]) (next := 4096) (σ := []) (pat := (patOf 97 [(2, (.bool false)), (7, (.string s)), (0, (.int .i64 n)), (1, (.int .i64 m))])) (l := []) (by kernel_rfl) ?_ (Nat.le_of_ble_eq_true rfl) (by kernel_rfl)) (fun e st h => ⟨h.1, h.2.elim fun j h2 => ⟨j, h2.trans (by kernel_rfl)⟩⟩)
  exact ⟨(Fx.lss_f (by omega)),
    trivial⟩

/- 1 steps -/
set_option maxHeartbeats 4000000 in
theorem k6 (s : ByteArray) (n m : Int) (j : Nat → Value) : SX Tryz.prog 4096 f4r13 (V2  s n m j) (fun e' st' => e' = .normal ∧ ∃ j, st' = ⟨fillT (patOf 97 [(2, (.bool false)), (7, (.string s)), (0, (.int .i64 n)), (1, (.int .i64 m)), (10, (.string ⟨⟨[97, 42]⟩⟩))]) j 0, mkH 4096 [], []⟩) := by
  refine SX.mono (SX.run ok mixed (T := tbl) (n := 400) (hs := []) (cs := []) (next := 4096) (σ := []) (pat := (patOf 97 [(2, (.bool false)), (7, (.string s)), (0, (.int .i64 n)), (1, (.int .i64 m)), (10, (.string ⟨⟨[97, 42]⟩⟩))])) (l := []) (by kernel_rfl) ?_ (Nat.le_of_ble_eq_true rfl) (by kernel_rfl)) (fun e st h => ⟨h.1, h.2.elim fun j h2 => ⟨j, h2.trans (by kernel_rfl)⟩⟩)
  exact trivial

/- 1 steps -/
set_option maxHeartbeats 4000000 in
theorem k7 (s : ByteArray) (n m : Int) (j : Nat → Value) : SX Tryz.prog 4096 (.seq f4r14 (.cond (.tmp 36) f4r15 .skip)) ⟨fillT (patOf 97 [(2, (.bool false)), (7, (.string s)), (0, (.int .i64 n)), (1, (.int .i64 m)), (10, (.string ⟨⟨[97, 42]⟩⟩))]) j 0, mkH 4096 [], []⟩ (fun e' st' => e' = .normal ∧ ∃ j, st' = ⟨fillT (patOf 97 [(10, (.string ⟨⟨[97, 42]⟩⟩)), (7, (.string s)), (0, (.int .i64 n)), (2, (.bool false)), (1, (.int .i64 m))]) j 0, mkH 4096 [], []⟩) := by
  refine SX.mono (SX.run ok mixed (T := tbl) (n := 400) (hs := []) (cs := []) (next := 4096) (σ := []) (pat := (patOf 97 [(10, (.string ⟨⟨[97, 42]⟩⟩)), (7, (.string s)), (0, (.int .i64 n)), (2, (.bool false)), (1, (.int .i64 m))])) (l := []) (by kernel_rfl) ?_ (Nat.le_of_ble_eq_true rfl) (by kernel_rfl)) (fun e st h => ⟨h.1, h.2.elim fun j h2 => ⟨j, h2.trans (by kernel_rfl)⟩⟩)
  exact trivial

/- 11 steps -/
set_option maxHeartbeats 4000000 in
theorem k8 (s : ByteArray) (n m : Int) (hs : (s.size : Int) ≤ 510) (j : Nat → Value) : SX Tryz.prog 4096 f4r16 ⟨fillT (patOf 97 [(10, (.string ⟨⟨[97, 42]⟩⟩)), (7, (.string s)), (0, (.int .i64 n)), (2, (.bool false)), (1, (.int .i64 m))]) j 0, mkH 4096 [], []⟩ (fun e' st' => e' = .normal ∧ ∃ j, st' = ⟨fillT (patOf 97 [(11, (.pointer (some ⟨4096, 0, none⟩))), (12, (.pointer (some ⟨4098, 0, none⟩))), (7, (.string s)), (0, (.int .i64 n)), (2, (.bool false)), (1, (.int .i64 m))]) j 0, mkH 4100 [(4096, (.cells [(.slice (some ⟨4097, 0, none⟩) 6 6), (.int .i64 1)] 30 none 0)), (4097, pr1), (4098, (.cells [(.slice (some ⟨4099, 0, none⟩) 10 10), (.int .i64 1)] 30 none 0)), (4099, pr2)], []⟩) := by
  refine SX.mono (SX.run (T2_ok hs) mixed (T := (T2 s)) (n := 400) (hs := [(4, (.x (.pointer (some ⟨4096, 0, none⟩)) (mkH 4098 l1))), (5, (.x (.pointer (some ⟨4098, 0, none⟩)) (mkH 4100 l2)))]) (cs := [lim Tryz.prog (T2 s) 9 [(.string ⟨⟨[97, 42, 98, 43]⟩⟩), (.agg ⟨[(.bool false), (.bool false), (.bool false), (.bool false)]⟩), (.int .i64 ((s).size : Int))] (mkH 4098 l1) = some ((.pointer (some ⟨4098, 0, none⟩)), (mkH 4100 l2)),
    lim Tryz.prog (T2 s) 9 [(.string ⟨⟨[97, 42]⟩⟩), (.agg ⟨[(.bool false), (.bool false), (.bool false), (.bool false)]⟩), (.int .i64 ((s).size : Int))] (mkH 4096 []) = some ((.pointer (some ⟨4096, 0, none⟩)), (mkH 4098 l1))]) (next := 4100) (σ := [(4096, 4096), (4097, 4097), (4098, 4098), (4099, 4099)]) (pat := (patOf 97 [(11, (.pointer (some ⟨4096, 0, none⟩))), (12, (.pointer (some ⟨4098, 0, none⟩))), (7, (.string s)), (0, (.int .i64 n)), (2, (.bool false)), (1, (.int .i64 m))])) (l := [(4096, (.cells [(.slice (some ⟨4097, 0, none⟩) 6 6), (.int .i64 1)] 30 none 0)), (4097, pr1), (4098, (.cells [(.slice (some ⟨4099, 0, none⟩) 10 10), (.int .i64 1)] 30 none 0)), (4099, pr2)]) (by kernel_rfl) ?_ (Nat.le_of_ble_eq_true rfl) (by kernel_rfl)) (fun e st h => ⟨h.1, h.2.elim fun j h2 => ⟨j, h2.trans (by kernel_rfl)⟩⟩)
  exact ⟨(made2 s),
    (made1 s),
    trivial⟩

/- 6 steps -/
set_option maxHeartbeats 4000000 in
theorem k9 (s : ByteArray) (n m : Int) (j : Nat → Value) : SX Tryz.prog 4096 (.seq f4r17 (.cond (.tmp 53) (.seq f4r18 .ret) .skip)) ⟨fillT (patOf 97 [(11, (.pointer (some ⟨4096, 0, none⟩))), (12, (.pointer (some ⟨4098, 0, none⟩))), (7, (.string s)), (0, (.int .i64 n)), (2, (.bool false)), (1, (.int .i64 m))]) j 0, mkH 4100 [(4096, (.cells [(.slice (some ⟨4097, 0, none⟩) 6 6), (.int .i64 1)] 30 none 0)), (4097, pr1), (4098, (.cells [(.slice (some ⟨4099, 0, none⟩) 10 10), (.int .i64 1)] 30 none 0)), (4099, pr2)], []⟩ (fun e' st' => e' = .normal ∧ ∃ j, st' = ⟨fillT (patOf 97 [(11, (.pointer (some ⟨4096, 0, none⟩))), (7, (.string s)), (12, (.pointer (some ⟨4098, 0, none⟩))), (0, (.int .i64 n)), (2, (.bool false)), (1, (.int .i64 m))]) j 0, mkH 4100 [(4096, (.cells [(.slice (some ⟨4097, 0, none⟩) 6 6), (.int .i64 1)] 30 none 0)), (4097, pr1), (4098, (.cells [(.slice (some ⟨4099, 0, none⟩) 10 10), (.int .i64 1)] 30 none 0)), (4099, pr2)], []⟩) := by
  refine SX.mono (SX.run ok mixed (T := tbl) (n := 400) (hs := []) (cs := []) (next := 4100) (σ := [(4096, 4096), (4097, 4097), (4098, 4098), (4099, 4099)]) (pat := (patOf 97 [(11, (.pointer (some ⟨4096, 0, none⟩))), (7, (.string s)), (12, (.pointer (some ⟨4098, 0, none⟩))), (0, (.int .i64 n)), (2, (.bool false)), (1, (.int .i64 m))])) (l := [(4096, (.cells [(.slice (some ⟨4097, 0, none⟩) 6 6), (.int .i64 1)] 30 none 0)), (4097, pr1), (4098, (.cells [(.slice (some ⟨4099, 0, none⟩) 10 10), (.int .i64 1)] 30 none 0)), (4099, pr2)]) (by kernel_rfl) ?_ (Nat.le_of_ble_eq_true rfl) (by kernel_rfl)) (fun e st h => ⟨h.1, h.2.elim fun j h2 => ⟨j, h2.trans (by kernel_rfl)⟩⟩)
  exact trivial

/- 10 steps -/
set_option maxHeartbeats 4000000 in
theorem k10 (s : ByteArray) (n m : Int) (ht : Ht s n m) (j : Nat → Value) : SX Tryz.prog 4096 f4r19 ⟨fillT (patOf 97 [(11, (.pointer (some ⟨4096, 0, none⟩))), (7, (.string s)), (12, (.pointer (some ⟨4098, 0, none⟩))), (0, (.int .i64 n)), (2, (.bool false)), (1, (.int .i64 m))]) j 0, mkH 4100 [(4096, (.cells [(.slice (some ⟨4097, 0, none⟩) 6 6), (.int .i64 1)] 30 none 0)), (4097, pr1), (4098, (.cells [(.slice (some ⟨4099, 0, none⟩) 10 10), (.int .i64 1)] 30 none 0)), (4099, pr2)], []⟩ (fun e' st' => e' = .normal ∧ ∃ j, st' = ⟨fillT (patOf 97 [(0, (.int .i64 n)), (2, (.bool false)), (13, (.slice (some ⟨4096, 0, none⟩) 2 2)), (14, (.slice (some ⟨4097, 0, none⟩) 2 2)), (1, (.int .i64 m))]) j 0, mkH 4098 [(4096, (.cells [(.int .i64 0), (.int .i64 n)] 3 (some 1) 0)), (4097, (.cells [(.int .i64 0), (.int .i64 (s.size : Int))] 3 (some 1) 0))], []⟩) := by
  refine SX.mono (SX.run (T3_ok s n m ht) mixed (T := (T3 s n)) (n := 400) (hs := [(4, (.x (.slice (some ⟨4100, 0, none⟩) 2 2) (mkH 4101 (l2 ++ [(4100, notes n)])))), (4, (.x (.slice (some ⟨4101, 0, none⟩) 2 2) (mkH 4102 (l2 ++ [(4100, notes n), (4101, notes s.size)]))))]) (cs := [(10 : Nat) = 10,
    (10 : Nat) = 10,
    (1 : Int) = 1,
    lim Tryz.prog (T3 s n) 10 [(.agg ⟨[(.slice (some ⟨4099, 0, none⟩) 10 10), (.int .i64 1)]⟩), (.string s), (.int .i64 0), (.bool true)] (mkH 4101 (l2 ++ [(4100, notes n)])) = some ((.slice (some ⟨4101, 0, none⟩) 2 2), (mkH 4102 (l2 ++ [(4100, notes n), (4101, notes s.size)]))),
    lim Tryz.prog (T3 s n) 10 [(.agg ⟨[(.slice (some ⟨4097, 0, none⟩) 6 6), (.int .i64 1)]⟩), (.string s), (.int .i64 0), (.bool true)] (mkH 4100 l2) = some ((.slice (some ⟨4100, 0, none⟩) 2 2), (mkH 4101 (l2 ++ [(4100, notes n)])))]) (next := 4098) (σ := [(4096, 4100), (4097, 4101)]) (pat := (patOf 97 [(0, (.int .i64 n)), (2, (.bool false)), (13, (.slice (some ⟨4096, 0, none⟩) 2 2)), (14, (.slice (some ⟨4097, 0, none⟩) 2 2)), (1, (.int .i64 m))])) (l := [(4096, (.cells [(.int .i64 0), (.int .i64 n)] 3 (some 1) 0)), (4097, (.cells [(.int .i64 0), (.int .i64 (s.size : Int))] 3 (some 1) 0))]) (by kernel_rfl) ?_ (Nat.le_of_ble_eq_true rfl) (by kernel_rfl)) (fun e st h => ⟨h.1, h.2.elim fun j h2 => ⟨j, h2.trans (by kernel_rfl)⟩⟩)
  exact ⟨rfl,
    rfl,
    rfl,
    (ran2 s n),
    (ran1 s n),
    trivial⟩

/- 2 steps -/
set_option maxHeartbeats 4000000 in
theorem k11 (s : ByteArray) (n m : Int) (j : Nat → Value) : SX Tryz.prog 4096 f4r20 ⟨fillT (patOf 97 [(0, (.int .i64 n)), (2, (.bool false)), (13, (.slice (some ⟨4096, 0, none⟩) 2 2)), (14, (.slice (some ⟨4097, 0, none⟩) 2 2)), (1, (.int .i64 m))]) j 0, mkH 4098 [(4096, (.cells [(.int .i64 0), (.int .i64 n)] 3 (some 1) 0)), (4097, (.cells [(.int .i64 0), (.int .i64 (s.size : Int))] 3 (some 1) 0))], []⟩ (fun e' st' => e' = .normal ∧ ∃ j, st' = ⟨fillT (patOf 97 [(2, (.bool false)), (13, (.slice (some ⟨4096, 0, none⟩) 2 2)), (14, (.slice (some ⟨4097, 0, none⟩) 2 2)), (1, (.int .i64 m)), (0, (.int .i64 n)), (15, (.int .i64 n))]) j 0, mkH 4098 [(4096, (.cells [(.int .i64 0), (.int .i64 n)] 3 (some 1) 0)), (4097, (.cells [(.int .i64 0), (.int .i64 (s.size : Int))] 3 (some 1) 0))], []⟩) := by
  refine SX.mono (SX.run ok mixed (T := tbl) (n := 400) (hs := []) (cs := []) (next := 4098) (σ := [(4096, 4096), (4097, 4097)]) (pat := (patOf 97 [(2, (.bool false)), (13, (.slice (some ⟨4096, 0, none⟩) 2 2)), (14, (.slice (some ⟨4097, 0, none⟩) 2 2)), (1, (.int .i64 m)), (0, (.int .i64 n)), (15, (.int .i64 n))])) (l := [(4096, (.cells [(.int .i64 0), (.int .i64 n)] 3 (some 1) 0)), (4097, (.cells [(.int .i64 0), (.int .i64 (s.size : Int))] 3 (some 1) 0))]) (by kernel_rfl) ?_ (Nat.le_of_ble_eq_true rfl) (by kernel_rfl)) (fun e st h => ⟨h.1, h.2.elim fun j h2 => ⟨j, h2.trans (by kernel_rfl)⟩⟩)
  exact trivial

/- 1 steps -/
set_option maxHeartbeats 4000000 in
theorem k12 (s : ByteArray) (n m : Int) (j : Nat → Value) : SX Tryz.prog 4096 (.seq f4r21 (.cond (.tmp 65) f4r22 .skip)) ⟨fillT (patOf 97 [(2, (.bool false)), (13, (.slice (some ⟨4096, 0, none⟩) 2 2)), (14, (.slice (some ⟨4097, 0, none⟩) 2 2)), (1, (.int .i64 m)), (0, (.int .i64 n)), (15, (.int .i64 n))]) j 0, mkH 4098 [(4096, (.cells [(.int .i64 0), (.int .i64 n)] 3 (some 1) 0)), (4097, (.cells [(.int .i64 0), (.int .i64 (s.size : Int))] 3 (some 1) 0))], []⟩ (fun e' st' => e' = .normal ∧ ∃ j, st' = ⟨fillT (patOf 97 [(13, (.slice (some ⟨4096, 0, none⟩) 2 2)), (15, (.int .i64 n)), (14, (.slice (some ⟨4097, 0, none⟩) 2 2)), (1, (.int .i64 m)), (0, (.int .i64 n))]) j 0, mkH 4098 [(4096, (.cells [(.int .i64 0), (.int .i64 n)] 3 (some 1) 0)), (4097, (.cells [(.int .i64 0), (.int .i64 (s.size : Int))] 3 (some 1) 0))], []⟩) := by
  refine SX.mono (SX.run ok mixed (T := tbl) (n := 400) (hs := []) (cs := []) (next := 4098) (σ := [(4096, 4096), (4097, 4097)]) (pat := (patOf 97 [(13, (.slice (some ⟨4096, 0, none⟩) 2 2)), (15, (.int .i64 n)), (14, (.slice (some ⟨4097, 0, none⟩) 2 2)), (1, (.int .i64 m)), (0, (.int .i64 n))])) (l := [(4096, (.cells [(.int .i64 0), (.int .i64 n)] 3 (some 1) 0)), (4097, (.cells [(.int .i64 0), (.int .i64 (s.size : Int))] 3 (some 1) 0))]) (by kernel_rfl) ?_ (Nat.le_of_ble_eq_true rfl) (by kernel_rfl)) (fun e st h => ⟨h.1, h.2.elim fun j h2 => ⟨j, h2.trans (by kernel_rfl)⟩⟩)
  exact trivial

/- 27 steps -/
set_option maxHeartbeats 4000000 in
theorem k13 (s : ByteArray) (n m : Int) (h0 : 0 ≤ n) (h1 : 0 < m) (h2 : n ≤ 255) (h3 : m ≤ 255) (hz : (s.size : Int) = n + m) (j : Nat → Value) : SX Tryz.prog 4096 (.seq f4r23 .ret) ⟨fillT (patOf 97 [(13, (.slice (some ⟨4096, 0, none⟩) 2 2)), (15, (.int .i64 n)), (14, (.slice (some ⟨4097, 0, none⟩) 2 2)), (1, (.int .i64 m)), (0, (.int .i64 n))]) j 0, mkH 4098 [(4096, (.cells [(.int .i64 0), (.int .i64 n)] 3 (some 1) 0)), (4097, (.cells [(.int .i64 0), (.int .i64 (s.size : Int))] 3 (some 1) 0))], []⟩ (fun e' st' => e' = .ret ∧ ∃ j, st' = ⟨fillT (patOf 97 [(6, (.bool true))]) j 0, mkH 4096 [], []⟩) := by
  refine SX.mono (SX.run ok mixed (T := tbl) (n := 400) (hs := [(8, (.q (.bool true))), (6, (.q (.bool true))), (4, (.q (.bool false))), (6, (.q (.int .i64 (n + m)))), (0, (.q (.bool true)))]) (cs := [binV .eql (.int .i64 (s.size : Int)) (.int .i64 (n + m)) = some (.bool true),
    binV .add (.int .i64 n) (.int .i64 m) = some (.int .i64 (n + m)),
    binV .eql (.int .i64 m) (.int .i64 0) = some (.bool false),
    binV .gtr (.int .i64 m) (.int .i64 0) = some (.bool true),
    binV .eql (.int .i64 n) (.int .i64 n) = some (.bool true)]) (next := 4096) (σ := []) (pat := (patOf 97 [(6, (.bool true))])) (l := []) (by kernel_rfl) ?_ (Nat.le_of_ble_eq_true rfl) (by kernel_rfl)) (fun e st h => ⟨h.1, h.2.elim fun j h2 => ⟨j, h2.trans (by kernel_rfl)⟩⟩)
  exact ⟨(Fx.eql_t (by omega)),
    (Fx.add_add (by omega) (by omega)),
    (Fx.eql_f (by omega)),
    (Fx.gtr_t (by omega)),
    (Fx.eql_t (by omega)),
    trivial⟩

/- 10 steps -/
set_option maxHeartbeats 4000000 in
theorem k10e (s : ByteArray) (n m : Int) (ht : Hte s n m) (j : Nat → Value) : SX Tryz.prog 4096 f4r19 ⟨fillT (patOf 97 [(11, (.pointer (some ⟨4096, 0, none⟩))), (7, (.string s)), (12, (.pointer (some ⟨4098, 0, none⟩))), (0, (.int .i64 n)), (2, (.bool false)), (1, (.int .i64 m))]) j 0, mkH 4100 [(4096, (.cells [(.slice (some ⟨4097, 0, none⟩) 6 6), (.int .i64 1)] 30 none 0)), (4097, pr1), (4098, (.cells [(.slice (some ⟨4099, 0, none⟩) 10 10), (.int .i64 1)] 30 none 0)), (4099, pr2)], []⟩ (fun e' st' => e' = .normal ∧ ∃ j, st' = ⟨fillT (patOf 97 [(0, (.int .i64 n)), (2, (.bool false)), (13, (.slice (some ⟨4096, 0, none⟩) 2 2)), (14, (.slice none 0 0)), (1, (.int .i64 m))]) j 0, mkH 4097 [(4096, (.cells [(.int .i64 0), (.int .i64 n)] 3 (some 1) 0))], []⟩) := by
  refine SX.mono (SX.run (T3e_ok s n m ht) mixed (T := (T3e s n)) (n := 400) (hs := [(4, (.x (.slice (some ⟨4100, 0, none⟩) 2 2) (mkH 4101 (l2 ++ [(4100, notes n)])))), (4, (.x (.slice none 0 0) (mkH 4101 (l2 ++ [(4100, notes n)]))))]) (cs := [(10 : Nat) = 10,
    (10 : Nat) = 10,
    (1 : Int) = 1,
    lim Tryz.prog (T3e s n) 10 [(.agg ⟨[(.slice (some ⟨4099, 0, none⟩) 10 10), (.int .i64 1)]⟩), (.string s), (.int .i64 0), (.bool true)] (mkH 4101 (l2 ++ [(4100, notes n)])) = some ((.slice none 0 0), (mkH 4101 (l2 ++ [(4100, notes n)]))),
    lim Tryz.prog (T3e s n) 10 [(.agg ⟨[(.slice (some ⟨4097, 0, none⟩) 6 6), (.int .i64 1)]⟩), (.string s), (.int .i64 0), (.bool true)] (mkH 4100 l2) = some ((.slice (some ⟨4100, 0, none⟩) 2 2), (mkH 4101 (l2 ++ [(4100, notes n)])))]) (next := 4097) (σ := [(4096, 4100)]) (pat := (patOf 97 [(0, (.int .i64 n)), (2, (.bool false)), (13, (.slice (some ⟨4096, 0, none⟩) 2 2)), (14, (.slice none 0 0)), (1, (.int .i64 m))])) (l := [(4096, (.cells [(.int .i64 0), (.int .i64 n)] 3 (some 1) 0))]) (by kernel_rfl) ?_ (Nat.le_of_ble_eq_true rfl) (by kernel_rfl)) (fun e st h => ⟨h.1, h.2.elim fun j h2 => ⟨j, h2.trans (by kernel_rfl)⟩⟩)
  exact ⟨rfl,
    rfl,
    rfl,
    (ran2e s n),
    (ran1e s n),
    trivial⟩

/- 2 steps -/
set_option maxHeartbeats 4000000 in
theorem k11e (s : ByteArray) (n m : Int) (j : Nat → Value) : SX Tryz.prog 4096 f4r20 ⟨fillT (patOf 97 [(0, (.int .i64 n)), (2, (.bool false)), (13, (.slice (some ⟨4096, 0, none⟩) 2 2)), (14, (.slice none 0 0)), (1, (.int .i64 m))]) j 0, mkH 4097 [(4096, (.cells [(.int .i64 0), (.int .i64 n)] 3 (some 1) 0))], []⟩ (fun e' st' => e' = .normal ∧ ∃ j, st' = ⟨fillT (patOf 97 [(2, (.bool false)), (13, (.slice (some ⟨4096, 0, none⟩) 2 2)), (14, (.slice none 0 0)), (1, (.int .i64 m)), (0, (.int .i64 n)), (15, (.int .i64 n))]) j 0, mkH 4097 [(4096, (.cells [(.int .i64 0), (.int .i64 n)] 3 (some 1) 0))], []⟩) := by
  refine SX.mono (SX.run ok mixed (T := tbl) (n := 400) (hs := []) (cs := []) (next := 4097) (σ := [(4096, 4096)]) (pat := (patOf 97 [(2, (.bool false)), (13, (.slice (some ⟨4096, 0, none⟩) 2 2)), (14, (.slice none 0 0)), (1, (.int .i64 m)), (0, (.int .i64 n)), (15, (.int .i64 n))])) (l := [(4096, (.cells [(.int .i64 0), (.int .i64 n)] 3 (some 1) 0))]) (by kernel_rfl) ?_ (Nat.le_of_ble_eq_true rfl) (by kernel_rfl)) (fun e st h => ⟨h.1, h.2.elim fun j h2 => ⟨j, h2.trans (by kernel_rfl)⟩⟩)
  exact trivial

/- 1 steps -/
set_option maxHeartbeats 4000000 in
theorem k12e (s : ByteArray) (n m : Int) (j : Nat → Value) : SX Tryz.prog 4096 (.seq f4r21 (.cond (.tmp 65) f4r22 .skip)) ⟨fillT (patOf 97 [(2, (.bool false)), (13, (.slice (some ⟨4096, 0, none⟩) 2 2)), (14, (.slice none 0 0)), (1, (.int .i64 m)), (0, (.int .i64 n)), (15, (.int .i64 n))]) j 0, mkH 4097 [(4096, (.cells [(.int .i64 0), (.int .i64 n)] 3 (some 1) 0))], []⟩ (fun e' st' => e' = .normal ∧ ∃ j, st' = ⟨fillT (patOf 97 [(13, (.slice (some ⟨4096, 0, none⟩) 2 2)), (15, (.int .i64 n)), (14, (.slice none 0 0)), (1, (.int .i64 m)), (0, (.int .i64 n))]) j 0, mkH 4097 [(4096, (.cells [(.int .i64 0), (.int .i64 n)] 3 (some 1) 0))], []⟩) := by
  refine SX.mono (SX.run ok mixed (T := tbl) (n := 400) (hs := []) (cs := []) (next := 4097) (σ := [(4096, 4096)]) (pat := (patOf 97 [(13, (.slice (some ⟨4096, 0, none⟩) 2 2)), (15, (.int .i64 n)), (14, (.slice none 0 0)), (1, (.int .i64 m)), (0, (.int .i64 n))])) (l := [(4096, (.cells [(.int .i64 0), (.int .i64 n)] 3 (some 1) 0))]) (by kernel_rfl) ?_ (Nat.le_of_ble_eq_true rfl) (by kernel_rfl)) (fun e st h => ⟨h.1, h.2.elim fun j h2 => ⟨j, h2.trans (by kernel_rfl)⟩⟩)
  exact trivial

/- 22 steps -/
set_option maxHeartbeats 4000000 in
theorem k13e (s : ByteArray) (n m : Int) (h0 : 0 ≤ n) (h1 : m = 0) (h2 : n ≤ 255) (j : Nat → Value) : SX Tryz.prog 4096 (.seq f4r23 .ret) ⟨fillT (patOf 97 [(13, (.slice (some ⟨4096, 0, none⟩) 2 2)), (15, (.int .i64 n)), (14, (.slice none 0 0)), (1, (.int .i64 m)), (0, (.int .i64 n))]) j 0, mkH 4097 [(4096, (.cells [(.int .i64 0), (.int .i64 n)] 3 (some 1) 0))], []⟩ (fun e' st' => e' = .ret ∧ ∃ j, st' = ⟨fillT (patOf 97 [(6, (.bool true))]) j 0, mkH 4096 [], []⟩) := by
  refine SX.mono (SX.run ok mixed (T := tbl) (n := 400) (hs := [(8, (.q (.bool true))), (6, (.q (.bool false))), (4, (.q (.bool true)))]) (cs := [binV .eql (.int .i64 m) (.int .i64 0) = some (.bool true),
    binV .gtr (.int .i64 m) (.int .i64 0) = some (.bool false),
    binV .eql (.int .i64 n) (.int .i64 n) = some (.bool true)]) (next := 4096) (σ := []) (pat := (patOf 97 [(6, (.bool true))])) (l := []) (by kernel_rfl) ?_ (Nat.le_of_ble_eq_true rfl) (by kernel_rfl)) (fun e st h => ⟨h.1, h.2.elim fun j h2 => ⟨j, h2.trans (by kernel_rfl)⟩⟩)
  exact ⟨(Fx.eql_t (by omega)),
    (Fx.gtr_f (by omega)),
    (Fx.eql_t (by omega)),
    trivial⟩


def Q0z (a0 : Int) (a1 : Int) (j : Nat → Value) : St := ⟨fillT (patOf 97 [(0, (.int .i64 a0)), (1, (.int .i64 a1)), (2, (.bool true))]) j 0, mkH 4096 [], []⟩
def Q3z (n : Int) (m : Int) (j : Nat → Value) : St := ⟨fillT (patOf 97 [(0, (.int .i64 n)), (1, (.int .i64 m)), (2, (.bool true))]) j 0, mkH 4096 [], []⟩
def W1z (s : ByteArray) (n : Int) (m : Int) (i : Int) (j : Nat → Value) : St := ⟨fillT (patOf 97 [(8, (.int .i64 i)), (0, (.int .i64 n)), (7, (.string s)), (1, (.int .i64 m)), (2, (.bool true))]) j 0, mkH 4096 [], []⟩
def V1z (s : ByteArray) (n : Int) (m : Int) (j : Nat → Value) : St := ⟨fillT (patOf 97 [(1, (.int .i64 m)), (7, (.string s)), (2, (.bool true)), (0, (.int .i64 n))]) j 0, mkH 4096 [], []⟩
def W2z (s : ByteArray) (n : Int) (m : Int) (i : Int) (j : Nat → Value) : St := ⟨fillT (patOf 97 [(9, (.int .i64 i)), (1, (.int .i64 m)), (7, (.string s)), (2, (.bool true)), (0, (.int .i64 n))]) j 0, mkH 4096 [], []⟩
def V2z (s : ByteArray) (n : Int) (m : Int) (j : Nat → Value) : St := ⟨fillT (patOf 97 [(2, (.bool true)), (7, (.string s)), (0, (.int .i64 n)), (1, (.int .i64 m))]) j 0, mkH 4096 [], []⟩
def Q6z (s : ByteArray) (n : Int) (m : Int) (j : Nat → Value) : St := ⟨fillT (patOf 97 [(2, (.bool true)), (7, (.string s)), (0, (.int .i64 n)), (1, (.int .i64 m))]) j 0, mkH 4096 [], []⟩
def Q7z (s : ByteArray) (n : Int) (m : Int) (j : Nat → Value) : St := ⟨fillT (patOf 97 [(2, (.bool true)), (7, (.string s)), (0, (.int .i64 n)), (1, (.int .i64 m)), (10, (.string ⟨⟨[97, 42]⟩⟩))]) j 0, mkH 4096 [], []⟩
/- 1 steps -/
set_option maxHeartbeats 4000000 in
theorem k0z (a0 a1 : Int) (j : Nat → Value) : SX Tryz.prog 4096 f4r0 (Q0z  a0 a1 j) (fun e' st' => e' = .normal ∧ ∃ j, st' = (Q0z  a0 a1 j)) := by
  refine SX.mono (SX.run ok mixed (T := tbl) (n := 400) (hs := []) (cs := []) (next := 4096) (σ := []) (pat := (patOf 97 [(0, (.int .i64 a0)), (1, (.int .i64 a1)), (2, (.bool true))])) (l := []) (by kernel_rfl) ?_ (Nat.le_of_ble_eq_true rfl) (by kernel_rfl)) (fun e st h => ⟨h.1, h.2.elim fun j h2 => ⟨j, h2.trans (by kernel_rfl)⟩⟩)
  exact trivial

/- 1 steps -/
set_option maxHeartbeats 4000000 in
theorem k1z (a0 a1 : Int) (j : Nat → Value) : SX Tryz.prog 4096 (.seq f4r1 (.cond (.tmp 17) (.seq f4r2 .ret) .skip)) (Q0z  a0 a1 j) (fun e' st' => e' = .normal ∧ ∃ j, st' = (Q0z  a0 a1 j)) := by
  refine SX.mono (SX.run T1_ok mixed (T := T1) (n := 400) (hs := [(0, (.x (.bool true) (mkH 4096 [])))]) (cs := [lim Tryz.prog T1 8 [] (mkH 4096 []) = some ((.bool true), (mkH 4096 []))]) (next := 4096) (σ := []) (pat := (patOf 97 [(0, (.int .i64 a0)), (1, (.int .i64 a1)), (2, (.bool true))])) (l := []) (by kernel_rfl) ?_ (Nat.le_of_ble_eq_true rfl) (by kernel_rfl)) (fun e st h => ⟨h.1, h.2.elim fun j h2 => ⟨j, h2.trans (by kernel_rfl)⟩⟩)
  exact ⟨with1_at,
    trivial⟩

/- 4 steps -/
set_option maxHeartbeats 4000000 in
theorem k2z (a0 a1 : Int) (j : Nat → Value) : SX Tryz.prog 4096 f4r3 (Q0z  a0 a1 j) (fun e' st' => e' = .normal ∧ ∃ j, st' = (Q0z  (a0 % 256) (a1 % 256) j)) := by
  refine SX.mono (SX.run ok mixed (T := tbl) (n := 400) (hs := [(1, (.q (.int .i64 (a0 % 256)))), (1, (.q (.int .i64 (a1 % 256))))]) (cs := [binV .and (.int .i64 a1) (.int .i64 255) = some (.int .i64 (a1 % 256)),
    binV .and (.int .i64 a0) (.int .i64 255) = some (.int .i64 (a0 % 256))]) (next := 4096) (σ := []) (pat := (patOf 97 [(0, (.int .i64 (a0 % 256))), (1, (.int .i64 (a1 % 256))), (2, (.bool true))])) (l := []) (by kernel_rfl) ?_ (Nat.le_of_ble_eq_true rfl) (by kernel_rfl)) (fun e st h => ⟨h.1, h.2.elim fun j h2 => ⟨j, h2.trans (by kernel_rfl)⟩⟩)
  exact ⟨Fx.and255,
    Fx.and255,
    trivial⟩

/- 1 steps -/
set_option maxHeartbeats 4000000 in
theorem k3z (n m : Int) (j : Nat → Value) : SX Tryz.prog 4096 f4r4 (Q0z  n m j) (fun e' st' => e' = .normal ∧ ∃ j, st' = ⟨fillT (patOf 97 [(0, (.int .i64 n)), (7, (.string ⟨⟨[]⟩⟩)), (1, (.int .i64 m)), (2, (.bool true))]) j 0, mkH 4096 [], []⟩) := by
  refine SX.mono (SX.run ok mixed (T := tbl) (n := 400) (hs := []) (cs := []) (next := 4096) (σ := []) (pat := (patOf 97 [(0, (.int .i64 n)), (7, (.string ⟨⟨[]⟩⟩)), (1, (.int .i64 m)), (2, (.bool true))])) (l := []) (by kernel_rfl) ?_ (Nat.le_of_ble_eq_true rfl) (by kernel_rfl)) (fun e st h => ⟨h.1, h.2.elim fun j h2 => ⟨j, h2.trans (by kernel_rfl)⟩⟩)
  exact trivial

/- 1 steps -/
set_option maxHeartbeats 4000000 in
theorem k4z (n m : Int) (j : Nat → Value) : SX Tryz.prog 4096 f4r5 ⟨fillT (patOf 97 [(0, (.int .i64 n)), (7, (.string ⟨⟨[]⟩⟩)), (1, (.int .i64 m)), (2, (.bool true))]) j 0, mkH 4096 [], []⟩ (fun e' st' => e' = .normal ∧ ∃ j, st' = ⟨fillT (patOf 97 [(8, (.int .i64 0)), (0, (.int .i64 n)), (7, (.string ⟨⟨[]⟩⟩)), (1, (.int .i64 m)), (2, (.bool true))]) j 0, mkH 4096 [], []⟩) := by
  refine SX.mono (SX.run ok mixed (T := tbl) (n := 400) (hs := []) (cs := []) (next := 4096) (σ := []) (pat := (patOf 97 [(8, (.int .i64 0)), (0, (.int .i64 n)), (7, (.string ⟨⟨[]⟩⟩)), (1, (.int .i64 m)), (2, (.bool true))])) (l := []) (by kernel_rfl) ?_ (Nat.le_of_ble_eq_true rfl) (by kernel_rfl)) (fun e st h => ⟨h.1, h.2.elim fun j h2 => ⟨j, h2.trans (by kernel_rfl)⟩⟩)
  exact trivial

/- 6 steps -/
set_option maxHeartbeats 4000000 in
theorem k4az (s : ByteArray) (n m i : Int) (h0 : i < n) (h1 : 0 ≤ i) (h2 : n ≤ 255) (hs : (s.size : Int) ≤ 600) (j : Nat → Value) : SX Tryz.prog 4096 lb1 (W1z  s n m i j) (fun e' st' => e' = .normal ∧ ∃ j, st' = (W1z  (s ++ ⟨⟨[97]⟩⟩) n m (i + 1) j)) := by
  refine SX.mono (SX.run ok mixed (T := tbl) (n := 400) (hs := [(2, (.q (.bool true))), (1, (.q (.string (s ++ ⟨⟨[97]⟩⟩)))), (2, (.q (.int .i64 (i + 1))))]) (cs := [binV .add (.int .i64 i) (.int .i64 1) = some (.int .i64 (i + 1)),
    binV .add (.string s) (.string ⟨⟨[97]⟩⟩) = some (.string (s ++ ⟨⟨[97]⟩⟩)),
    binV .lss (.int .i64 i) (.int .i64 n) = some (.bool true)]) (next := 4096) (σ := []) (pat := (patOf 97 [(8, (.int .i64 (i + 1))), (0, (.int .i64 n)), (7, (.string (s ++ ⟨⟨[97]⟩⟩))), (1, (.int .i64 m)), (2, (.bool true))])) (l := []) (by kernel_rfl) ?_ (Nat.le_of_ble_eq_true rfl) (by kernel_rfl)) (fun e st h => ⟨h.1, h.2.elim fun j h2 => ⟨j, h2.trans (by kernel_rfl)⟩⟩)
  exact ⟨(Fx.add_add (by omega) (by omega)),
    (Fx.cat (show s.size + 1 ≤ 9223372036854775807 by omega)),
    (Fx.lss_t (by omega)),
    trivial⟩

/- 2 steps -/
set_option maxHeartbeats 4000000 in
theorem k4xz (s : ByteArray) (n m i : Int) (h0 : ¬ i < n) (j : Nat → Value) : SX Tryz.prog 4096 lb1 (W1z  s n m i j) (fun e' st' => e' = (.exit 0) ∧ ∃ j, st' = (V1z  s n m j)) := by
  refine SX.mono (SX.run ok mixed (T := tbl) (n := 400) (hs := [(2, (.q (.bool false)))]) (cs := [binV .lss (.int .i64 i) (.int .i64 n) = some (.bool false)]) (next := 4096) (σ := []) (pat := (patOf 97 [(1, (.int .i64 m)), (7, (.string s)), (2, (.bool true)), (0, (.int .i64 n))])) (l := []) (by kernel_rfl) ?_ (Nat.le_of_ble_eq_true rfl) (by kernel_rfl)) (fun e st h => ⟨h.1, h.2.elim fun j h2 => ⟨j, h2.trans (by kernel_rfl)⟩⟩)
  exact ⟨(Fx.lss_f (by omega)),
    trivial⟩

/- 1 steps -/
set_option maxHeartbeats 4000000 in
theorem k5z (s : ByteArray) (n m : Int) (j : Nat → Value) : SX Tryz.prog 4096 f4r9 (V1z  s n m j) (fun e' st' => e' = .normal ∧ ∃ j, st' = ⟨fillT (patOf 97 [(9, (.int .i64 0)), (1, (.int .i64 m)), (7, (.string s)), (2, (.bool true)), (0, (.int .i64 n))]) j 0, mkH 4096 [], []⟩) := by
  refine SX.mono (SX.run ok mixed (T := tbl) (n := 400) (hs := []) (cs := []) (next := 4096) (σ := []) (pat := (patOf 97 [(9, (.int .i64 0)), (1, (.int .i64 m)), (7, (.string s)), (2, (.bool true)), (0, (.int .i64 n))])) (l := []) (by kernel_rfl) ?_ (Nat.le_of_ble_eq_true rfl) (by kernel_rfl)) (fun e st h => ⟨h.1, h.2.elim fun j h2 => ⟨j, h2.trans (by kernel_rfl)⟩⟩)
  exact trivial

/- 6 steps -/
set_option maxHeartbeats 4000000 in
theorem k5az (s : ByteArray) (n m i : Int) (h0 : i < m) (h1 : 0 ≤ i) (h2 : m ≤ 255) (hs : (s.size : Int) ≤ 600) (j : Nat → Value) : SX Tryz.prog 4096 lb2 (W2z  s n m i j) (fun e' st' => e' = .normal ∧ ∃ j, st' = (W2z  (s ++ ⟨⟨[98]⟩⟩) n m (i + 1) j)) := by
  refine SX.mono (SX.run ok mixed (T := tbl) (n := 400) (hs := [(2, (.q (.bool true))), (1, (.q (.string (s ++ ⟨⟨[98]⟩⟩)))), (2, (.q (.int .i64 (i + 1))))]) (cs := [binV .add (.int .i64 i) (.int .i64 1) = some (.int .i64 (i + 1)),
    binV .add (.string s) (.string ⟨⟨[98]⟩⟩) = some (.string (s ++ ⟨⟨[98]⟩⟩)),
    binV .lss (.int .i64 i) (.int .i64 m) = some (.bool true)]) (next := 4096) (σ := []) (pat := (patOf 97 [(9, (.int .i64 (i + 1))), (1, (.int .i64 m)), (7, (.string (s ++ ⟨⟨[98]⟩⟩))), (2, (.bool true)), (0, (.int .i64 n))])) (l := []) (by kernel_rfl) ?_ (Nat.le_of_ble_eq_true rfl) (by kernel_rfl)) (fun e st h => ⟨h.1, h.2.elim fun j h2 => ⟨j, h2.trans (by kernel_rfl)⟩⟩)
  exact ⟨(Fx.add_add (by omega) (by omega)),
    (Fx.cat (show s.size + 1 ≤ 9223372036854775807 by omega)),
    (Fx.lss_t (by omega)),
    trivial⟩

/- 2 steps -/
set_option maxHeartbeats 4000000 in
theorem k5xz (s : ByteArray) (n m i : Int) (h0 : ¬ i < m) (j : Nat → Value) : SX Tryz.prog 4096 lb2 (W2z  s n m i j) (fun e' st' => e' = (.exit 2) ∧ ∃ j, st' = (V2z  s n m j)) := by
  refine SX.mono (SX.run ok mixed (T := tbl) (n := 400) (hs := [(2, (.q (.bool false)))]) (cs := [binV .lss (.int .i64 i) (.int .i64 m) = some (.bool false)]) (next := 4096) (σ := []) (pat := (patOf 97 [(2, (.bool true)), (7, (.string s)), (0, (.int .i64 n)), (1, (.int .i64 m))])) (l := []) (by kernel_rfl) ?_ (Nat.le_of_ble_eq_true rfl) (by kernel_rfl)) (fun e st h => ⟨h.1, h.2.elim fun j h2 => ⟨j, h2.trans (by kernel_rfl)⟩⟩)
  exact ⟨(Fx.lss_f (by omega)),
    trivial⟩

/- 1 steps -/
set_option maxHeartbeats 4000000 in
theorem k6z (s : ByteArray) (n m : Int) (j : Nat → Value) : SX Tryz.prog 4096 f4r13 (V2z  s n m j) (fun e' st' => e' = .normal ∧ ∃ j, st' = ⟨fillT (patOf 97 [(2, (.bool true)), (7, (.string s)), (0, (.int .i64 n)), (1, (.int .i64 m)), (10, (.string ⟨⟨[97, 42]⟩⟩))]) j 0, mkH 4096 [], []⟩) := by
  refine SX.mono (SX.run ok mixed (T := tbl) (n := 400) (hs := []) (cs := []) (next := 4096) (σ := []) (pat := (patOf 97 [(2, (.bool true)), (7, (.string s)), (0, (.int .i64 n)), (1, (.int .i64 m)), (10, (.string ⟨⟨[97, 42]⟩⟩))])) (l := []) (by kernel_rfl) ?_ (Nat.le_of_ble_eq_true rfl) (by kernel_rfl)) (fun e st h => ⟨h.1, h.2.elim fun j h2 => ⟨j, h2.trans (by kernel_rfl)⟩⟩)
  exact trivial

/- 2 steps -/
set_option maxHeartbeats 4000000 in
theorem k7z (s : ByteArray) (n m : Int) (j : Nat → Value) : SX Tryz.prog 4096 (.seq f4r14 (.cond (.tmp 36) f4r15 .skip)) ⟨fillT (patOf 97 [(2, (.bool true)), (7, (.string s)), (0, (.int .i64 n)), (1, (.int .i64 m)), (10, (.string ⟨⟨[97, 42]⟩⟩))]) j 0, mkH 4096 [], []⟩ (fun e' st' => e' = .normal ∧ ∃ j, st' = ⟨fillT (patOf 97 [(10, (.string ⟨⟨[97, 42, 63]⟩⟩)), (7, (.string s)), (0, (.int .i64 n)), (2, (.bool true)), (1, (.int .i64 m))]) j 0, mkH 4096 [], []⟩) := by
  refine SX.mono (SX.run ok mixed (T := tbl) (n := 400) (hs := []) (cs := []) (next := 4096) (σ := []) (pat := (patOf 97 [(10, (.string ⟨⟨[97, 42, 63]⟩⟩)), (7, (.string s)), (0, (.int .i64 n)), (2, (.bool true)), (1, (.int .i64 m))])) (l := []) (by kernel_rfl) ?_ (Nat.le_of_ble_eq_true rfl) (by kernel_rfl)) (fun e st h => ⟨h.1, h.2.elim fun j h2 => ⟨j, h2.trans (by kernel_rfl)⟩⟩)
  exact trivial

/- 11 steps -/
set_option maxHeartbeats 4000000 in
theorem k8z (s : ByteArray) (n m : Int) (hs : (s.size : Int) ≤ 510) (j : Nat → Value) : SX Tryz.prog 4096 f4r16 ⟨fillT (patOf 97 [(10, (.string ⟨⟨[97, 42, 63]⟩⟩)), (7, (.string s)), (0, (.int .i64 n)), (2, (.bool true)), (1, (.int .i64 m))]) j 0, mkH 4096 [], []⟩ (fun e' st' => e' = .normal ∧ ∃ j, st' = ⟨fillT (patOf 97 [(11, (.pointer (some ⟨4096, 0, none⟩))), (12, (.pointer (some ⟨4098, 0, none⟩))), (7, (.string s)), (0, (.int .i64 n)), (2, (.bool true)), (1, (.int .i64 m))]) j 0, mkH 4100 [(4096, (.cells [(.slice (some ⟨4097, 0, none⟩) 6 6), (.int .i64 1)] 30 none 0)), (4097, pr1z), (4098, (.cells [(.slice (some ⟨4099, 0, none⟩) 10 10), (.int .i64 1)] 30 none 0)), (4099, pr2z)], []⟩) := by
  refine SX.mono (SX.run (T2z_ok hs) mixed (T := (T2z s)) (n := 400) (hs := [(4, (.x (.pointer (some ⟨4096, 0, none⟩)) (mkH 4098 l1z))), (5, (.x (.pointer (some ⟨4098, 0, none⟩)) (mkH 4100 l2z)))]) (cs := [lim Tryz.prog (T2z s) 9 [(.string ⟨⟨[97, 42, 63, 98, 43]⟩⟩), (.agg ⟨[(.bool false), (.bool false), (.bool false), (.bool false)]⟩), (.int .i64 ((s).size : Int))] (mkH 4098 l1z) = some ((.pointer (some ⟨4098, 0, none⟩)), (mkH 4100 l2z)),
    lim Tryz.prog (T2z s) 9 [(.string ⟨⟨[97, 42, 63]⟩⟩), (.agg ⟨[(.bool false), (.bool false), (.bool false), (.bool false)]⟩), (.int .i64 ((s).size : Int))] (mkH 4096 []) = some ((.pointer (some ⟨4096, 0, none⟩)), (mkH 4098 l1z))]) (next := 4100) (σ := [(4096, 4096), (4097, 4097), (4098, 4098), (4099, 4099)]) (pat := (patOf 97 [(11, (.pointer (some ⟨4096, 0, none⟩))), (12, (.pointer (some ⟨4098, 0, none⟩))), (7, (.string s)), (0, (.int .i64 n)), (2, (.bool true)), (1, (.int .i64 m))])) (l := [(4096, (.cells [(.slice (some ⟨4097, 0, none⟩) 6 6), (.int .i64 1)] 30 none 0)), (4097, pr1z), (4098, (.cells [(.slice (some ⟨4099, 0, none⟩) 10 10), (.int .i64 1)] 30 none 0)), (4099, pr2z)]) (by kernel_rfl) ?_ (Nat.le_of_ble_eq_true rfl) (by kernel_rfl)) (fun e st h => ⟨h.1, h.2.elim fun j h2 => ⟨j, h2.trans (by kernel_rfl)⟩⟩)
  exact ⟨(made2z s),
    (made1z s),
    trivial⟩

/- 6 steps -/
set_option maxHeartbeats 4000000 in
theorem k9z (s : ByteArray) (n m : Int) (j : Nat → Value) : SX Tryz.prog 4096 (.seq f4r17 (.cond (.tmp 53) (.seq f4r18 .ret) .skip)) ⟨fillT (patOf 97 [(11, (.pointer (some ⟨4096, 0, none⟩))), (12, (.pointer (some ⟨4098, 0, none⟩))), (7, (.string s)), (0, (.int .i64 n)), (2, (.bool true)), (1, (.int .i64 m))]) j 0, mkH 4100 [(4096, (.cells [(.slice (some ⟨4097, 0, none⟩) 6 6), (.int .i64 1)] 30 none 0)), (4097, pr1z), (4098, (.cells [(.slice (some ⟨4099, 0, none⟩) 10 10), (.int .i64 1)] 30 none 0)), (4099, pr2z)], []⟩ (fun e' st' => e' = .normal ∧ ∃ j, st' = ⟨fillT (patOf 97 [(11, (.pointer (some ⟨4096, 0, none⟩))), (7, (.string s)), (12, (.pointer (some ⟨4098, 0, none⟩))), (0, (.int .i64 n)), (2, (.bool true)), (1, (.int .i64 m))]) j 0, mkH 4100 [(4096, (.cells [(.slice (some ⟨4097, 0, none⟩) 6 6), (.int .i64 1)] 30 none 0)), (4097, pr1z), (4098, (.cells [(.slice (some ⟨4099, 0, none⟩) 10 10), (.int .i64 1)] 30 none 0)), (4099, pr2z)], []⟩) := by
  refine SX.mono (SX.run ok mixed (T := tbl) (n := 400) (hs := []) (cs := []) (next := 4100) (σ := [(4096, 4096), (4097, 4097), (4098, 4098), (4099, 4099)]) (pat := (patOf 97 [(11, (.pointer (some ⟨4096, 0, none⟩))), (7, (.string s)), (12, (.pointer (some ⟨4098, 0, none⟩))), (0, (.int .i64 n)), (2, (.bool true)), (1, (.int .i64 m))])) (l := [(4096, (.cells [(.slice (some ⟨4097, 0, none⟩) 6 6), (.int .i64 1)] 30 none 0)), (4097, pr1z), (4098, (.cells [(.slice (some ⟨4099, 0, none⟩) 10 10), (.int .i64 1)] 30 none 0)), (4099, pr2z)]) (by kernel_rfl) ?_ (Nat.le_of_ble_eq_true rfl) (by kernel_rfl)) (fun e st h => ⟨h.1, h.2.elim fun j h2 => ⟨j, h2.trans (by kernel_rfl)⟩⟩)
  exact trivial

/- 10 steps -/
set_option maxHeartbeats 4000000 in
theorem k10z (s : ByteArray) (n m : Int) (ht : Ht s n m) (j : Nat → Value) : SX Tryz.prog 4096 f4r19 ⟨fillT (patOf 97 [(11, (.pointer (some ⟨4096, 0, none⟩))), (7, (.string s)), (12, (.pointer (some ⟨4098, 0, none⟩))), (0, (.int .i64 n)), (2, (.bool true)), (1, (.int .i64 m))]) j 0, mkH 4100 [(4096, (.cells [(.slice (some ⟨4097, 0, none⟩) 6 6), (.int .i64 1)] 30 none 0)), (4097, pr1z), (4098, (.cells [(.slice (some ⟨4099, 0, none⟩) 10 10), (.int .i64 1)] 30 none 0)), (4099, pr2z)], []⟩ (fun e' st' => e' = .normal ∧ ∃ j, st' = ⟨fillT (patOf 97 [(0, (.int .i64 n)), (2, (.bool true)), (13, (.slice (some ⟨4096, 0, none⟩) 2 2)), (14, (.slice (some ⟨4097, 0, none⟩) 2 2)), (1, (.int .i64 m))]) j 0, mkH 4098 [(4096, (.cells [(.int .i64 0), (.int .i64 0)] 3 (some 1) 0)), (4097, (.cells [(.int .i64 0), (.int .i64 (s.size : Int))] 3 (some 1) 0))], []⟩) := by
  refine SX.mono (SX.run (T3z_ok s n m ht) mixed (T := (T3z s n)) (n := 400) (hs := [(4, (.x (.slice (some ⟨4100, 0, none⟩) 2 2) (mkH 4101 (l2z ++ [(4100, notes 0)])))), (4, (.x (.slice (some ⟨4101, 0, none⟩) 2 2) (mkH 4102 (l2z ++ [(4100, notes 0), (4101, notes s.size)]))))]) (cs := [(10 : Nat) = 10,
    (10 : Nat) = 10,
    (1 : Int) = 1,
    lim Tryz.prog (T3z s n) 10 [(.agg ⟨[(.slice (some ⟨4099, 0, none⟩) 10 10), (.int .i64 1)]⟩), (.string s), (.int .i64 0), (.bool true)] (mkH 4101 (l2z ++ [(4100, notes 0)])) = some ((.slice (some ⟨4101, 0, none⟩) 2 2), (mkH 4102 (l2z ++ [(4100, notes 0), (4101, notes s.size)]))),
    lim Tryz.prog (T3z s n) 10 [(.agg ⟨[(.slice (some ⟨4097, 0, none⟩) 6 6), (.int .i64 1)]⟩), (.string s), (.int .i64 0), (.bool true)] (mkH 4100 l2z) = some ((.slice (some ⟨4100, 0, none⟩) 2 2), (mkH 4101 (l2z ++ [(4100, notes 0)])))]) (next := 4098) (σ := [(4096, 4100), (4097, 4101)]) (pat := (patOf 97 [(0, (.int .i64 n)), (2, (.bool true)), (13, (.slice (some ⟨4096, 0, none⟩) 2 2)), (14, (.slice (some ⟨4097, 0, none⟩) 2 2)), (1, (.int .i64 m))])) (l := [(4096, (.cells [(.int .i64 0), (.int .i64 0)] 3 (some 1) 0)), (4097, (.cells [(.int .i64 0), (.int .i64 (s.size : Int))] 3 (some 1) 0))]) (by kernel_rfl) ?_ (Nat.le_of_ble_eq_true rfl) (by kernel_rfl)) (fun e st h => ⟨h.1, h.2.elim fun j h2 => ⟨j, h2.trans (by kernel_rfl)⟩⟩)
  exact ⟨rfl,
    rfl,
    rfl,
    (ran2z s n),
    (ran1z s n),
    trivial⟩

/- 2 steps -/
set_option maxHeartbeats 4000000 in
theorem k11z (s : ByteArray) (n m : Int) (j : Nat → Value) : SX Tryz.prog 4096 f4r20 ⟨fillT (patOf 97 [(0, (.int .i64 n)), (2, (.bool true)), (13, (.slice (some ⟨4096, 0, none⟩) 2 2)), (14, (.slice (some ⟨4097, 0, none⟩) 2 2)), (1, (.int .i64 m))]) j 0, mkH 4098 [(4096, (.cells [(.int .i64 0), (.int .i64 0)] 3 (some 1) 0)), (4097, (.cells [(.int .i64 0), (.int .i64 (s.size : Int))] 3 (some 1) 0))], []⟩ (fun e' st' => e' = .normal ∧ ∃ j, st' = ⟨fillT (patOf 97 [(2, (.bool true)), (13, (.slice (some ⟨4096, 0, none⟩) 2 2)), (14, (.slice (some ⟨4097, 0, none⟩) 2 2)), (1, (.int .i64 m)), (0, (.int .i64 n)), (15, (.int .i64 n))]) j 0, mkH 4098 [(4096, (.cells [(.int .i64 0), (.int .i64 0)] 3 (some 1) 0)), (4097, (.cells [(.int .i64 0), (.int .i64 (s.size : Int))] 3 (some 1) 0))], []⟩) := by
  refine SX.mono (SX.run ok mixed (T := tbl) (n := 400) (hs := []) (cs := []) (next := 4098) (σ := [(4096, 4096), (4097, 4097)]) (pat := (patOf 97 [(2, (.bool true)), (13, (.slice (some ⟨4096, 0, none⟩) 2 2)), (14, (.slice (some ⟨4097, 0, none⟩) 2 2)), (1, (.int .i64 m)), (0, (.int .i64 n)), (15, (.int .i64 n))])) (l := [(4096, (.cells [(.int .i64 0), (.int .i64 0)] 3 (some 1) 0)), (4097, (.cells [(.int .i64 0), (.int .i64 (s.size : Int))] 3 (some 1) 0))]) (by kernel_rfl) ?_ (Nat.le_of_ble_eq_true rfl) (by kernel_rfl)) (fun e st h => ⟨h.1, h.2.elim fun j h2 => ⟨j, h2.trans (by kernel_rfl)⟩⟩)
  exact trivial

/- 2 steps -/
set_option maxHeartbeats 4000000 in
theorem k12z (s : ByteArray) (n m : Int) (j : Nat → Value) : SX Tryz.prog 4096 (.seq f4r21 (.cond (.tmp 65) f4r22 .skip)) ⟨fillT (patOf 97 [(2, (.bool true)), (13, (.slice (some ⟨4096, 0, none⟩) 2 2)), (14, (.slice (some ⟨4097, 0, none⟩) 2 2)), (1, (.int .i64 m)), (0, (.int .i64 n)), (15, (.int .i64 n))]) j 0, mkH 4098 [(4096, (.cells [(.int .i64 0), (.int .i64 0)] 3 (some 1) 0)), (4097, (.cells [(.int .i64 0), (.int .i64 (s.size : Int))] 3 (some 1) 0))], []⟩ (fun e' st' => e' = .normal ∧ ∃ j, st' = ⟨fillT (patOf 97 [(13, (.slice (some ⟨4096, 0, none⟩) 2 2)), (15, (.int .i64 0)), (14, (.slice (some ⟨4097, 0, none⟩) 2 2)), (1, (.int .i64 m)), (0, (.int .i64 n))]) j 0, mkH 4098 [(4096, (.cells [(.int .i64 0), (.int .i64 0)] 3 (some 1) 0)), (4097, (.cells [(.int .i64 0), (.int .i64 (s.size : Int))] 3 (some 1) 0))], []⟩) := by
  refine SX.mono (SX.run ok mixed (T := tbl) (n := 400) (hs := []) (cs := []) (next := 4098) (σ := [(4096, 4096), (4097, 4097)]) (pat := (patOf 97 [(13, (.slice (some ⟨4096, 0, none⟩) 2 2)), (15, (.int .i64 0)), (14, (.slice (some ⟨4097, 0, none⟩) 2 2)), (1, (.int .i64 m)), (0, (.int .i64 n))])) (l := [(4096, (.cells [(.int .i64 0), (.int .i64 0)] 3 (some 1) 0)), (4097, (.cells [(.int .i64 0), (.int .i64 (s.size : Int))] 3 (some 1) 0))]) (by kernel_rfl) ?_ (Nat.le_of_ble_eq_true rfl) (by kernel_rfl)) (fun e st h => ⟨h.1, h.2.elim fun j h2 => ⟨j, h2.trans (by kernel_rfl)⟩⟩)
  exact trivial

/- 28 steps -/
set_option maxHeartbeats 4000000 in
theorem k13z (s : ByteArray) (n m : Int) (h0 : 0 ≤ n) (h1 : 0 < m) (h2 : n ≤ 255) (h3 : m ≤ 255) (hz : (s.size : Int) = n + m) (j : Nat → Value) : SX Tryz.prog 4096 (.seq f4r23 .ret) ⟨fillT (patOf 97 [(13, (.slice (some ⟨4096, 0, none⟩) 2 2)), (15, (.int .i64 0)), (14, (.slice (some ⟨4097, 0, none⟩) 2 2)), (1, (.int .i64 m)), (0, (.int .i64 n))]) j 0, mkH 4098 [(4096, (.cells [(.int .i64 0), (.int .i64 0)] 3 (some 1) 0)), (4097, (.cells [(.int .i64 0), (.int .i64 (s.size : Int))] 3 (some 1) 0))], []⟩ (fun e' st' => e' = .ret ∧ ∃ j, st' = ⟨fillT (patOf 97 [(6, (.bool true))]) j 0, mkH 4096 [], []⟩) := by
  refine SX.mono (SX.run ok mixed (T := tbl) (n := 400) (hs := [(15, (.q (.bool true))), (4, (.q (.bool false))), (6, (.q (.int .i64 (n + m)))), (0, (.q (.bool true)))]) (cs := [binV .eql (.int .i64 (s.size : Int)) (.int .i64 (n + m)) = some (.bool true),
    binV .add (.int .i64 n) (.int .i64 m) = some (.int .i64 (n + m)),
    binV .eql (.int .i64 m) (.int .i64 0) = some (.bool false),
    binV .gtr (.int .i64 m) (.int .i64 0) = some (.bool true)]) (next := 4096) (σ := []) (pat := (patOf 97 [(6, (.bool true))])) (l := []) (by kernel_rfl) ?_ (Nat.le_of_ble_eq_true rfl) (by kernel_rfl)) (fun e st h => ⟨h.1, h.2.elim fun j h2 => ⟨j, h2.trans (by kernel_rfl)⟩⟩)
  exact ⟨(Fx.eql_t (by omega)),
    (Fx.add_add (by omega) (by omega)),
    (Fx.eql_f (by omega)),
    (Fx.gtr_t (by omega)),
    trivial⟩

/- 10 steps -/
set_option maxHeartbeats 4000000 in
theorem k10ze (s : ByteArray) (n m : Int) (ht : Hte s n m) (j : Nat → Value) : SX Tryz.prog 4096 f4r19 ⟨fillT (patOf 97 [(11, (.pointer (some ⟨4096, 0, none⟩))), (7, (.string s)), (12, (.pointer (some ⟨4098, 0, none⟩))), (0, (.int .i64 n)), (2, (.bool true)), (1, (.int .i64 m))]) j 0, mkH 4100 [(4096, (.cells [(.slice (some ⟨4097, 0, none⟩) 6 6), (.int .i64 1)] 30 none 0)), (4097, pr1z), (4098, (.cells [(.slice (some ⟨4099, 0, none⟩) 10 10), (.int .i64 1)] 30 none 0)), (4099, pr2z)], []⟩ (fun e' st' => e' = .normal ∧ ∃ j, st' = ⟨fillT (patOf 97 [(0, (.int .i64 n)), (2, (.bool true)), (13, (.slice (some ⟨4096, 0, none⟩) 2 2)), (14, (.slice none 0 0)), (1, (.int .i64 m))]) j 0, mkH 4097 [(4096, (.cells [(.int .i64 0), (.int .i64 0)] 3 (some 1) 0))], []⟩) := by
  refine SX.mono (SX.run (T3ze_ok s n m ht) mixed (T := (T3ze s n)) (n := 400) (hs := [(4, (.x (.slice (some ⟨4100, 0, none⟩) 2 2) (mkH 4101 (l2z ++ [(4100, notes 0)])))), (4, (.x (.slice none 0 0) (mkH 4101 (l2z ++ [(4100, notes 0)]))))]) (cs := [(10 : Nat) = 10,
    (10 : Nat) = 10,
    (1 : Int) = 1,
    lim Tryz.prog (T3ze s n) 10 [(.agg ⟨[(.slice (some ⟨4099, 0, none⟩) 10 10), (.int .i64 1)]⟩), (.string s), (.int .i64 0), (.bool true)] (mkH 4101 (l2z ++ [(4100, notes 0)])) = some ((.slice none 0 0), (mkH 4101 (l2z ++ [(4100, notes 0)]))),
    lim Tryz.prog (T3ze s n) 10 [(.agg ⟨[(.slice (some ⟨4097, 0, none⟩) 6 6), (.int .i64 1)]⟩), (.string s), (.int .i64 0), (.bool true)] (mkH 4100 l2z) = some ((.slice (some ⟨4100, 0, none⟩) 2 2), (mkH 4101 (l2z ++ [(4100, notes 0)])))]) (next := 4097) (σ := [(4096, 4100)]) (pat := (patOf 97 [(0, (.int .i64 n)), (2, (.bool true)), (13, (.slice (some ⟨4096, 0, none⟩) 2 2)), (14, (.slice none 0 0)), (1, (.int .i64 m))])) (l := [(4096, (.cells [(.int .i64 0), (.int .i64 0)] 3 (some 1) 0))]) (by kernel_rfl) ?_ (Nat.le_of_ble_eq_true rfl) (by kernel_rfl)) (fun e st h => ⟨h.1, h.2.elim fun j h2 => ⟨j, h2.trans (by kernel_rfl)⟩⟩)
  exact ⟨rfl,
    rfl,
    rfl,
    (ran2ze s n),
    (ran1ze s n),
    trivial⟩

/- 2 steps -/
set_option maxHeartbeats 4000000 in
theorem k11ze (s : ByteArray) (n m : Int) (j : Nat → Value) : SX Tryz.prog 4096 f4r20 ⟨fillT (patOf 97 [(0, (.int .i64 n)), (2, (.bool true)), (13, (.slice (some ⟨4096, 0, none⟩) 2 2)), (14, (.slice none 0 0)), (1, (.int .i64 m))]) j 0, mkH 4097 [(4096, (.cells [(.int .i64 0), (.int .i64 0)] 3 (some 1) 0))], []⟩ (fun e' st' => e' = .normal ∧ ∃ j, st' = ⟨fillT (patOf 97 [(2, (.bool true)), (13, (.slice (some ⟨4096, 0, none⟩) 2 2)), (14, (.slice none 0 0)), (1, (.int .i64 m)), (0, (.int .i64 n)), (15, (.int .i64 n))]) j 0, mkH 4097 [(4096, (.cells [(.int .i64 0), (.int .i64 0)] 3 (some 1) 0))], []⟩) := by
  refine SX.mono (SX.run ok mixed (T := tbl) (n := 400) (hs := []) (cs := []) (next := 4097) (σ := [(4096, 4096)]) (pat := (patOf 97 [(2, (.bool true)), (13, (.slice (some ⟨4096, 0, none⟩) 2 2)), (14, (.slice none 0 0)), (1, (.int .i64 m)), (0, (.int .i64 n)), (15, (.int .i64 n))])) (l := [(4096, (.cells [(.int .i64 0), (.int .i64 0)] 3 (some 1) 0))]) (by kernel_rfl) ?_ (Nat.le_of_ble_eq_true rfl) (by kernel_rfl)) (fun e st h => ⟨h.1, h.2.elim fun j h2 => ⟨j, h2.trans (by kernel_rfl)⟩⟩)
  exact trivial

/- 2 steps -/
set_option maxHeartbeats 4000000 in
theorem k12ze (s : ByteArray) (n m : Int) (j : Nat → Value) : SX Tryz.prog 4096 (.seq f4r21 (.cond (.tmp 65) f4r22 .skip)) ⟨fillT (patOf 97 [(2, (.bool true)), (13, (.slice (some ⟨4096, 0, none⟩) 2 2)), (14, (.slice none 0 0)), (1, (.int .i64 m)), (0, (.int .i64 n)), (15, (.int .i64 n))]) j 0, mkH 4097 [(4096, (.cells [(.int .i64 0), (.int .i64 0)] 3 (some 1) 0))], []⟩ (fun e' st' => e' = .normal ∧ ∃ j, st' = ⟨fillT (patOf 97 [(13, (.slice (some ⟨4096, 0, none⟩) 2 2)), (15, (.int .i64 0)), (14, (.slice none 0 0)), (1, (.int .i64 m)), (0, (.int .i64 n))]) j 0, mkH 4097 [(4096, (.cells [(.int .i64 0), (.int .i64 0)] 3 (some 1) 0))], []⟩) := by
  refine SX.mono (SX.run ok mixed (T := tbl) (n := 400) (hs := []) (cs := []) (next := 4097) (σ := [(4096, 4096)]) (pat := (patOf 97 [(13, (.slice (some ⟨4096, 0, none⟩) 2 2)), (15, (.int .i64 0)), (14, (.slice none 0 0)), (1, (.int .i64 m)), (0, (.int .i64 n))])) (l := [(4096, (.cells [(.int .i64 0), (.int .i64 0)] 3 (some 1) 0))]) (by kernel_rfl) ?_ (Nat.le_of_ble_eq_true rfl) (by kernel_rfl)) (fun e st h => ⟨h.1, h.2.elim fun j h2 => ⟨j, h2.trans (by kernel_rfl)⟩⟩)
  exact trivial

/- 23 steps -/
set_option maxHeartbeats 4000000 in
theorem k13ze (s : ByteArray) (n m : Int) (h0 : 0 ≤ n) (h1 : m = 0) (h2 : n ≤ 255) (j : Nat → Value) : SX Tryz.prog 4096 (.seq f4r23 .ret) ⟨fillT (patOf 97 [(13, (.slice (some ⟨4096, 0, none⟩) 2 2)), (15, (.int .i64 0)), (14, (.slice none 0 0)), (1, (.int .i64 m)), (0, (.int .i64 n))]) j 0, mkH 4097 [(4096, (.cells [(.int .i64 0), (.int .i64 0)] 3 (some 1) 0))], []⟩ (fun e' st' => e' = .ret ∧ ∃ j, st' = ⟨fillT (patOf 97 [(6, (.bool true))]) j 0, mkH 4096 [], []⟩) := by
  refine SX.mono (SX.run ok mixed (T := tbl) (n := 400) (hs := [(15, (.q (.bool false))), (4, (.q (.bool true)))]) (cs := [binV .eql (.int .i64 m) (.int .i64 0) = some (.bool true),
    binV .gtr (.int .i64 m) (.int .i64 0) = some (.bool false)]) (next := 4096) (σ := []) (pat := (patOf 97 [(6, (.bool true))])) (l := []) (by kernel_rfl) ?_ (Nat.le_of_ble_eq_true rfl) (by kernel_rfl)) (fun e st h => ⟨h.1, h.2.elim fun j h2 => ⟨j, h2.trans (by kernel_rfl)⟩⟩)
  exact ⟨(Fx.eql_t (by omega)),
    (Fx.gtr_f (by omega)),
    trivial⟩


end Go.Am.Zt
