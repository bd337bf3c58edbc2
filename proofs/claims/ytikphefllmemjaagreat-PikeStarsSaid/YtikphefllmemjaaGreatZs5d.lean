import Derived.Test.YtikphefllmemjaaGreatZt3
import Derived.Test.YtikphefllmemjaaGreatZs5c
/-
PikeStars: the test of the law (printed by wip/z/JobM.lean).
-/
namespace Go.Am.Zt
open Go Go.Am Go.Proofs
set_option linter.unusedVariables false
set_option maxRecDepth 100000
/- 6669 steps -/
set_option maxHeartbeats 4000000 in
theorem sp2  (j : Nat → Value) : SX Tryz.prog 4096 f8r2 (S2   j) (fun e' st' => e' = .normal ∧ ∃ j, st' = ⟨fillT (patOf 37 [(3, (.pointer (some ⟨4096, 0, none⟩))), (4, (.int .i64 0))]) j 0, mkH 4098 [(4096, (.cells [(.slice (some ⟨4097, 0, none⟩) 19 19), (.int .i64 3)] 30 none 0)), (4097, (.cells [(.int .i64 3), (.int .i64 1), (.int .i64 0), (.int .i64 0), (.int .i64 0), (.int .i64 3), (.int .i64 2), (.int .i64 2), (.int .i64 0), (.int .i64 0), (.int .i64 1), (.int .i64 3), (.int .i64 5), (.int .i64 0), (.int .i64 0), (.int .i64 0), (.int .i64 4), (.int .i64 0), (.int .i64 97), (.int .i64 97), (.int .i64 2), (.int .i64 7), (.int .i64 0), (.int .i64 0), (.int .i64 0), (.int .i64 0), (.int .i64 6), (.int .i64 0), (.int .i64 97), (.int .i64 97), (.int .i64 0), (.int .i64 7), (.int .i64 0), (.int .i64 98), (.int .i64 98), (.int .i64 3), (.int .i64 8), (.int .i64 3), (.int .i64 0), (.int .i64 0), (.int .i64 1), (.int .i64 9), (.int .i64 17), (.int .i64 0), (.int .i64 0), (.int .i64 3), (.int .i64 10), (.int .i64 4), (.int .i64 0), (.int .i64 0), (.int .i64 1), (.int .i64 11), (.int .i64 13), (.int .i64 0), (.int .i64 0), (.int .i64 0), (.int .i64 12), (.int .i64 0), (.int .i64 99), (.int .i64 99), (.int .i64 2), (.int .i64 16), (.int .i64 0), (.int .i64 0), (.int .i64 0), (.int .i64 0), (.int .i64 14), (.int .i64 0), (.int .i64 98), (.int .i64 98), (.int .i64 0), (.int .i64 15), (.int .i64 0), (.int .i64 99), (.int .i64 99), (.int .i64 0), (.int .i64 16), (.int .i64 0), (.int .i64 100), (.int .i64 100), (.int .i64 3), (.int .i64 17), (.int .i64 5), (.int .i64 0), (.int .i64 0), (.int .i64 3), (.int .i64 18), (.int .i64 1), (.int .i64 0), (.int .i64 0), (.int .i64 5), (.int .i64 0), (.int .i64 0), (.int .i64 0), (.int .i64 0)] 77 (some 5) 0))], []⟩) := by
  refine SX.mono (SX.run ok mixed (T := tbl) (n := 3000) (hs := []) (cs := [(10 : Int) = 10,
    (0 : Nat) = 0,
    (0 : Nat) = 0,
    (false : Bool) = false,
    (0 : Int) = 0,
    (1 : Int) = 1,
    (false : Bool) = false,
    (0 : Int) = 0,
    (⟨⟨[]⟩⟩ : ByteArray) = ⟨⟨[]⟩⟩,
    (1 : Nat) = 1,
    (1 : Nat) = 1,
    (1 : Nat) = 1,
    (1 : Nat) = 1,
    (1 : Nat) = 1,
    (1 : Nat) = 1,
    (1 : Nat) = 1,
    (1 : Nat) = 1,
    (1 : Nat) = 1,
    (1 : Nat) = 1,
    (1 : Nat) = 1,
    (1 : Nat) = 1,
    (1 : Nat) = 1,
    (1 : Nat) = 1,
    (1 : Nat) = 1,
    (1 : Nat) = 1]) (next := 4098) (σ := [(4096, 4668), (4097, 4667)]) (pat := (patOf 37 [(3, (.pointer (some ⟨4096, 0, none⟩))), (4, (.int .i64 0))])) (l := [(4096, (.cells [(.slice (some ⟨4097, 0, none⟩) 19 19), (.int .i64 3)] 30 none 0)), (4097, (.cells [(.int .i64 3), (.int .i64 1), (.int .i64 0), (.int .i64 0), (.int .i64 0), (.int .i64 3), (.int .i64 2), (.int .i64 2), (.int .i64 0), (.int .i64 0), (.int .i64 1), (.int .i64 3), (.int .i64 5), (.int .i64 0), (.int .i64 0), (.int .i64 0), (.int .i64 4), (.int .i64 0), (.int .i64 97), (.int .i64 97), (.int .i64 2), (.int .i64 7), (.int .i64 0), (.int .i64 0), (.int .i64 0), (.int .i64 0), (.int .i64 6), (.int .i64 0), (.int .i64 97), (.int .i64 97), (.int .i64 0), (.int .i64 7), (.int .i64 0), (.int .i64 98), (.int .i64 98), (.int .i64 3), (.int .i64 8), (.int .i64 3), (.int .i64 0), (.int .i64 0), (.int .i64 1), (.int .i64 9), (.int .i64 17), (.int .i64 0), (.int .i64 0), (.int .i64 3), (.int .i64 10), (.int .i64 4), (.int .i64 0), (.int .i64 0), (.int .i64 1), (.int .i64 11), (.int .i64 13), (.int .i64 0), (.int .i64 0), (.int .i64 0), (.int .i64 12), (.int .i64 0), (.int .i64 99), (.int .i64 99), (.int .i64 2), (.int .i64 16), (.int .i64 0), (.int .i64 0), (.int .i64 0), (.int .i64 0), (.int .i64 14), (.int .i64 0), (.int .i64 98), (.int .i64 98), (.int .i64 0), (.int .i64 15), (.int .i64 0), (.int .i64 99), (.int .i64 99), (.int .i64 0), (.int .i64 16), (.int .i64 0), (.int .i64 100), (.int .i64 100), (.int .i64 3), (.int .i64 17), (.int .i64 5), (.int .i64 0), (.int .i64 0), (.int .i64 3), (.int .i64 18), (.int .i64 1), (.int .i64 0), (.int .i64 0), (.int .i64 5), (.int .i64 0), (.int .i64 0), (.int .i64 0), (.int .i64 0)] 77 (some 5) 0))]) (by kernel_rfl) ?_ (Nat.le_of_ble_eq_true rfl) (by kernel_rfl)) (fun e st h => ⟨h.1, h.2.elim fun j h2 => ⟨j, h2.trans (by kernel_rfl)⟩⟩)
  exact ⟨rfl,
    rfl,
    rfl,
    rfl,
    rfl,
    rfl,
    rfl,
    rfl,
    rfl,
    rfl,
    rfl,
    rfl,
    rfl,
    rfl,
    rfl,
    rfl,
    rfl,
    rfl,
    rfl,
    rfl,
    rfl,
    rfl,
    rfl,
    rfl,
    rfl,
    trivial⟩

/- 2578 steps -/
set_option maxHeartbeats 4000000 in
theorem sp3  (j : Nat → Value) : SX Tryz.prog 4096 f8r3 (S3   j) (fun e' st' => e' = .normal ∧ ∃ j, st' = ⟨fillT (patOf 37 [(4, (.int .i64 0)), (5, (.slice (some ⟨4096, 0, none⟩) 6 6))]) j 0, mkH 4097 [(4096, (.cells [(.int .i64 0), (.int .i64 4), (.int .i64 0), (.int .i64 1), (.int .i64 1), (.int .i64 4)] 3 (some 1) 0))], []⟩) := by
  refine SX.mono (SX.run ok mixed (T := tbl) (n := 3000) (hs := []) (cs := []) (next := 4097) (σ := [(4096, 4201)]) (pat := (patOf 37 [(4, (.int .i64 0)), (5, (.slice (some ⟨4096, 0, none⟩) 6 6))])) (l := [(4096, (.cells [(.int .i64 0), (.int .i64 4), (.int .i64 0), (.int .i64 1), (.int .i64 1), (.int .i64 4)] 3 (some 1) 0))]) (by kernel_rfl) ?_ (Nat.le_of_ble_eq_true rfl) (by kernel_rfl)) (fun e st h => ⟨h.1, h.2.elim fun j h2 => ⟨j, h2.trans (by kernel_rfl)⟩⟩)
  exact trivial

end Go.Am.Zt
