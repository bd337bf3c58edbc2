import Derived.Test.YtikphefllmemjaaGreatZt3
import Derived.Test.YtikphefllmemjaaGreatAm29
/-
PikeStars: the programs are made; the test of the law (printed by wip/z/JobM.lean).
-/
namespace Go.Am.Zt
open Go Go.Am Go.Proofs
set_option linter.unusedVariables false
set_option maxRecDepth 100000
def S0 (j : Nat → Value) : St := ⟨fillT (patOf 37 []) j 0, mkH 4096 [], []⟩
def S1 (j : Nat → Value) : St := ⟨fillT (patOf 37 []) j 0, mkH 4096 [], []⟩
def S2 (j : Nat → Value) : St := ⟨fillT (patOf 37 [(1, (.pointer (some ⟨4096, 0, none⟩)))]) j 0, mkH 4113 [(4096, (.cells [(.int .i64 8), (.slice none 0 0), (.bool false), (.int .i64 0), (.int .i64 0), (.bool false), (.int .i64 0), (.string ⟨⟨[]⟩⟩), (.slice (some ⟨4097, 0, none⟩) 2 2), (.slice (some ⟨4112, 0, none⟩) 3 3)] 57 none 0)), (4097, (.cells [(.int .i64 11), (.slice none 0 0), (.bool false), (.int .i64 0), (.int .i64 0), (.bool false), (.int .i64 1), (.string ⟨⟨[]⟩⟩), (.slice (some ⟨4098, 0, none⟩) 1 1), (.int .i64 10), (.slice none 0 0), (.bool false), (.int .i64 0), (.int .i64 1), (.bool false), (.int .i64 0), (.string ⟨⟨[]⟩⟩), (.slice (some ⟨4104, 0, none⟩) 1 1)] 54 (some 9) 0)), (4098, (.cells [(.int .i64 9), (.slice none 0 0), (.bool false), (.int .i64 0), (.int .i64 0), (.bool false), (.int .i64 0), (.string ⟨⟨[]⟩⟩), (.slice (some ⟨4099, 0, none⟩) 2 2)] 54 none 0)), (4099, (.cells [(.int .i64 1), (.slice (some ⟨4100, 0, none⟩) 1 1), (.bool false), (.int .i64 0), (.int .i64 0), (.bool false), (.int .i64 0), (.string ⟨⟨[]⟩⟩), (.slice none 0 0), (.int .i64 8), (.slice none 0 0), (.bool false), (.int .i64 0), (.int .i64 0), (.bool false), (.int .i64 0), (.string ⟨⟨[]⟩⟩), (.slice (some ⟨4101, 0, none⟩) 2 2)] 54 (some 9) 0)), (4100, (.cells [(.int .i64 97), (.int .i64 97)] 75 (some 2) 0)), (4101, (.cells [(.int .i64 1), (.slice (some ⟨4102, 0, none⟩) 1 1), (.bool false), (.int .i64 0), (.int .i64 0), (.bool false), (.int .i64 0), (.string ⟨⟨[]⟩⟩), (.slice none 0 0), (.int .i64 1), (.slice (some ⟨4103, 0, none⟩) 1 1), (.bool false), (.int .i64 0), (.int .i64 0), (.bool false), (.int .i64 0), (.string ⟨⟨[]⟩⟩), (.slice none 0 0)] 54 (some 9) 0)), (4102, (.cells [(.int .i64 97), (.int .i64 97)] 75 (some 2) 0)), (4103, (.cells [(.int .i64 98), (.int .i64 98)] 75 (some 2) 0)), (4104, (.cells [(.int .i64 11), (.slice none 0 0), (.bool false), (.int .i64 0), (.int .i64 0), (.bool false), (.int .i64 2), (.string ⟨⟨[]⟩⟩), (.slice (some ⟨4105, 0, none⟩) 1 1)] 54 none 0)), (4105, (.cells [(.int .i64 9), (.slice none 0 0), (.bool false), (.int .i64 0), (.int .i64 0), (.bool false), (.int .i64 0), (.string ⟨⟨[]⟩⟩), (.slice (some ⟨4106, 0, none⟩) 2 2)] 54 none 0)), (4106, (.cells [(.int .i64 1), (.slice (some ⟨4107, 0, none⟩) 1 1), (.bool false), (.int .i64 0), (.int .i64 0), (.bool false), (.int .i64 0), (.string ⟨⟨[]⟩⟩), (.slice none 0 0), (.int .i64 8), (.slice none 0 0), (.bool false), (.int .i64 0), (.int .i64 0), (.bool false), (.int .i64 0), (.string ⟨⟨[]⟩⟩), (.slice (some ⟨4108, 0, none⟩) 3 3)] 54 (some 9) 0)), (4107, (.cells [(.int .i64 99), (.int .i64 99)] 75 (some 2) 0)), (4108, (.cells [(.int .i64 1), (.slice (some ⟨4109, 0, none⟩) 1 1), (.bool false), (.int .i64 0), (.int .i64 0), (.bool false), (.int .i64 0), (.string ⟨⟨[]⟩⟩), (.slice none 0 0), (.int .i64 1), (.slice (some ⟨4110, 0, none⟩) 1 1), (.bool false), (.int .i64 0), (.int .i64 0), (.bool false), (.int .i64 0), (.string ⟨⟨[]⟩⟩), (.slice none 0 0), (.int .i64 1), (.slice (some ⟨4111, 0, none⟩) 1 1), (.bool false), (.int .i64 0), (.int .i64 0), (.bool false), (.int .i64 0), (.string ⟨⟨[]⟩⟩), (.slice none 0 0)] 54 (some 9) 0)), (4109, (.cells [(.int .i64 98), (.int .i64 98)] 75 (some 2) 0)), (4110, (.cells [(.int .i64 99), (.int .i64 99)] 75 (some 2) 0)), (4111, (.cells [(.int .i64 100), (.int .i64 100)] 75 (some 2) 0)), (4112, (.cells [(.string ⟨⟨[]⟩⟩), (.string ⟨⟨[]⟩⟩), (.string ⟨⟨[]⟩⟩)] 9 (some 1) 0))], []⟩
def S3 (j : Nat → Value) : St := ⟨fillT (patOf 37 [(3, (.pointer (some ⟨4096, 0, none⟩))), (4, (.int .i64 0))]) j 0, mkH 4098 [(4096, (.cells [(.slice (some ⟨4097, 0, none⟩) 19 19), (.int .i64 3)] 30 none 0)), (4097, (.cells [(.int .i64 3), (.int .i64 1), (.int .i64 0), (.int .i64 0), (.int .i64 0), (.int .i64 3), (.int .i64 2), (.int .i64 2), (.int .i64 0), (.int .i64 0), (.int .i64 1), (.int .i64 3), (.int .i64 5), (.int .i64 0), (.int .i64 0), (.int .i64 0), (.int .i64 4), (.int .i64 0), (.int .i64 97), (.int .i64 97), (.int .i64 2), (.int .i64 7), (.int .i64 0), (.int .i64 0), (.int .i64 0), (.int .i64 0), (.int .i64 6), (.int .i64 0), (.int .i64 97), (.int .i64 97), (.int .i64 0), (.int .i64 7), (.int .i64 0), (.int .i64 98), (.int .i64 98), (.int .i64 3), (.int .i64 8), (.int .i64 3), (.int .i64 0), (.int .i64 0), (.int .i64 1), (.int .i64 9), (.int .i64 17), (.int .i64 0), (.int .i64 0), (.int .i64 3), (.int .i64 10), (.int .i64 4), (.int .i64 0), (.int .i64 0), (.int .i64 1), (.int .i64 11), (.int .i64 13), (.int .i64 0), (.int .i64 0), (.int .i64 0), (.int .i64 12), (.int .i64 0), (.int .i64 99), (.int .i64 99), (.int .i64 2), (.int .i64 16), (.int .i64 0), (.int .i64 0), (.int .i64 0), (.int .i64 0), (.int .i64 14), (.int .i64 0), (.int .i64 98), (.int .i64 98), (.int .i64 0), (.int .i64 15), (.int .i64 0), (.int .i64 99), (.int .i64 99), (.int .i64 0), (.int .i64 16), (.int .i64 0), (.int .i64 100), (.int .i64 100), (.int .i64 3), (.int .i64 17), (.int .i64 5), (.int .i64 0), (.int .i64 0), (.int .i64 3), (.int .i64 18), (.int .i64 1), (.int .i64 0), (.int .i64 0), (.int .i64 5), (.int .i64 0), (.int .i64 0), (.int .i64 0), (.int .i64 0)] 77 (some 5) 0))], []⟩
def S4 (j : Nat → Value) : St := ⟨fillT (patOf 37 [(4, (.int .i64 0)), (5, (.slice (some ⟨4096, 0, none⟩) 6 6))]) j 0, mkH 4097 [(4096, (.cells [(.int .i64 0), (.int .i64 4), (.int .i64 0), (.int .i64 1), (.int .i64 1), (.int .i64 4)] 3 (some 1) 0))], []⟩
/- 1 steps -/
set_option maxHeartbeats 4000000 in
theorem sp0  (j : Nat → Value) : SX Tryz.prog 4096 f8r0 (S0   j) (fun e' st' => e' = .normal ∧ ∃ j, st' = (S0   j)) := by
  refine SX.mono (SX.run ok mixed (T := tbl) (n := 3000) (hs := []) (cs := []) (next := 4096) (σ := []) (pat := (patOf 37 [])) (l := []) (by kernel_rfl) ?_ (Nat.le_of_ble_eq_true rfl) (by kernel_rfl)) (fun e st h => ⟨h.1, h.2.elim fun j h2 => ⟨j, h2.trans (by kernel_rfl)⟩⟩)
  exact trivial

/- 8377 steps -/
set_option maxHeartbeats 4000000 in
theorem sp1  (j : Nat → Value) : SX Tryz.prog 4096 f8r1 (S0   j) (fun e' st' => e' = .normal ∧ ∃ j, st' = ⟨fillT (patOf 37 [(1, (.pointer (some ⟨4096, 0, none⟩)))]) j 0, mkH 4113 [(4096, (.cells [(.int .i64 8), (.slice none 0 0), (.bool false), (.int .i64 0), (.int .i64 0), (.bool false), (.int .i64 0), (.string ⟨⟨[]⟩⟩), (.slice (some ⟨4097, 0, none⟩) 2 2), (.slice (some ⟨4112, 0, none⟩) 3 3)] 57 none 0)), (4097, (.cells [(.int .i64 11), (.slice none 0 0), (.bool false), (.int .i64 0), (.int .i64 0), (.bool false), (.int .i64 1), (.string ⟨⟨[]⟩⟩), (.slice (some ⟨4098, 0, none⟩) 1 1), (.int .i64 10), (.slice none 0 0), (.bool false), (.int .i64 0), (.int .i64 1), (.bool false), (.int .i64 0), (.string ⟨⟨[]⟩⟩), (.slice (some ⟨4104, 0, none⟩) 1 1)] 54 (some 9) 0)), (4098, (.cells [(.int .i64 9), (.slice none 0 0), (.bool false), (.int .i64 0), (.int .i64 0), (.bool false), (.int .i64 0), (.string ⟨⟨[]⟩⟩), (.slice (some ⟨4099, 0, none⟩) 2 2)] 54 none 0)), (4099, (.cells [(.int .i64 1), (.slice (some ⟨4100, 0, none⟩) 1 1), (.bool false), (.int .i64 0), (.int .i64 0), (.bool false), (.int .i64 0), (.string ⟨⟨[]⟩⟩), (.slice none 0 0), (.int .i64 8), (.slice none 0 0), (.bool false), (.int .i64 0), (.int .i64 0), (.bool false), (.int .i64 0), (.string ⟨⟨[]⟩⟩), (.slice (some ⟨4101, 0, none⟩) 2 2)] 54 (some 9) 0)), (4100, (.cells [(.int .i64 97), (.int .i64 97)] 75 (some 2) 0)), (4101, (.cells [(.int .i64 1), (.slice (some ⟨4102, 0, none⟩) 1 1), (.bool false), (.int .i64 0), (.int .i64 0), (.bool false), (.int .i64 0), (.string ⟨⟨[]⟩⟩), (.slice none 0 0), (.int .i64 1), (.slice (some ⟨4103, 0, none⟩) 1 1), (.bool false), (.int .i64 0), (.int .i64 0), (.bool false), (.int .i64 0), (.string ⟨⟨[]⟩⟩), (.slice none 0 0)] 54 (some 9) 0)), (4102, (.cells [(.int .i64 97), (.int .i64 97)] 75 (some 2) 0)), (4103, (.cells [(.int .i64 98), (.int .i64 98)] 75 (some 2) 0)), (4104, (.cells [(.int .i64 11), (.slice none 0 0), (.bool false), (.int .i64 0), (.int .i64 0), (.bool false), (.int .i64 2), (.string ⟨⟨[]⟩⟩), (.slice (some ⟨4105, 0, none⟩) 1 1)] 54 none 0)), (4105, (.cells [(.int .i64 9), (.slice none 0 0), (.bool false), (.int .i64 0), (.int .i64 0), (.bool false), (.int .i64 0), (.string ⟨⟨[]⟩⟩), (.slice (some ⟨4106, 0, none⟩) 2 2)] 54 none 0)), (4106, (.cells [(.int .i64 1), (.slice (some ⟨4107, 0, none⟩) 1 1), (.bool false), (.int .i64 0), (.int .i64 0), (.bool false), (.int .i64 0), (.string ⟨⟨[]⟩⟩), (.slice none 0 0), (.int .i64 8), (.slice none 0 0), (.bool false), (.int .i64 0), (.int .i64 0), (.bool false), (.int .i64 0), (.string ⟨⟨[]⟩⟩), (.slice (some ⟨4108, 0, none⟩) 3 3)] 54 (some 9) 0)), (4107, (.cells [(.int .i64 99), (.int .i64 99)] 75 (some 2) 0)), (4108, (.cells [(.int .i64 1), (.slice (some ⟨4109, 0, none⟩) 1 1), (.bool false), (.int .i64 0), (.int .i64 0), (.bool false), (.int .i64 0), (.string ⟨⟨[]⟩⟩), (.slice none 0 0), (.int .i64 1), (.slice (some ⟨4110, 0, none⟩) 1 1), (.bool false), (.int .i64 0), (.int .i64 0), (.bool false), (.int .i64 0), (.string ⟨⟨[]⟩⟩), (.slice none 0 0), (.int .i64 1), (.slice (some ⟨4111, 0, none⟩) 1 1), (.bool false), (.int .i64 0), (.int .i64 0), (.bool false), (.int .i64 0), (.string ⟨⟨[]⟩⟩), (.slice none 0 0)] 54 (some 9) 0)), (4109, (.cells [(.int .i64 98), (.int .i64 98)] 75 (some 2) 0)), (4110, (.cells [(.int .i64 99), (.int .i64 99)] 75 (some 2) 0)), (4111, (.cells [(.int .i64 100), (.int .i64 100)] 75 (some 2) 0)), (4112, (.cells [(.string ⟨⟨[]⟩⟩), (.string ⟨⟨[]⟩⟩), (.string ⟨⟨[]⟩⟩)] 9 (some 1) 0))], []⟩) := by
  refine SX.mono (SX.run ok mixed (T := tbl) (n := 3000) (hs := []) (cs := [(false : Bool) = false,
    (11 : Int) = 11,
    (0 : Nat) = 0,
    (0 : Nat) = 0,
    (false : Bool) = false,
    (0 : Int) = 0,
    (0 : Int) = 0,
    (false : Bool) = false,
    (2 : Int) = 2,
    (⟨⟨[]⟩⟩ : ByteArray) = ⟨⟨[]⟩⟩,
    (1 : Nat) = 1,
    (1 : Nat) = 1,
    (13 : Nat) = 13,
    (13 : Nat) = 13,
    (12 : Nat) = 12,
    (12 : Nat) = 12,
    (11 : Nat) = 11,
    (11 : Nat) = 11,
    (10 : Nat) = 10,
    (10 : Nat) = 10,
    (9 : Nat) = 9,
    (9 : Nat) = 9,
    (8 : Nat) = 8,
    (8 : Nat) = 8,
    (7 : Nat) = 7,
    (7 : Nat) = 7,
    (6 : Nat) = 6,
    (6 : Nat) = 6,
    (5 : Nat) = 5,
    (5 : Nat) = 5,
    (4 : Nat) = 4,
    (4 : Nat) = 4,
    (3 : Nat) = 3,
    (3 : Nat) = 3,
    (2 : Nat) = 2,
    (2 : Nat) = 2,
    (1 : Nat) = 1,
    (1 : Nat) = 1,
    (0 : Nat) = 0,
    (0 : Nat) = 0]) (next := 4113) (σ := [(4096, 4430), (4097, 4418), (4098, 4275), (4099, 4270), (4100, 4204), (4101, 4267), (4102, 4236), (4103, 4263), (4104, 4423), (4105, 4415), (4106, 4410), (4107, 4317), (4108, 4407), (4109, 4349), (4110, 4376), (4111, 4403), (4112, 4291)]) (pat := (patOf 37 [(1, (.pointer (some ⟨4096, 0, none⟩)))])) (l := [(4096, (.cells [(.int .i64 8), (.slice none 0 0), (.bool false), (.int .i64 0), (.int .i64 0), (.bool false), (.int .i64 0), (.string ⟨⟨[]⟩⟩), (.slice (some ⟨4097, 0, none⟩) 2 2), (.slice (some ⟨4112, 0, none⟩) 3 3)] 57 none 0)), (4097, (.cells [(.int .i64 11), (.slice none 0 0), (.bool false), (.int .i64 0), (.int .i64 0), (.bool false), (.int .i64 1), (.string ⟨⟨[]⟩⟩), (.slice (some ⟨4098, 0, none⟩) 1 1), (.int .i64 10), (.slice none 0 0), (.bool false), (.int .i64 0), (.int .i64 1), (.bool false), (.int .i64 0), (.string ⟨⟨[]⟩⟩), (.slice (some ⟨4104, 0, none⟩) 1 1)] 54 (some 9) 0)), (4098, (.cells [(.int .i64 9), (.slice none 0 0), (.bool false), (.int .i64 0), (.int .i64 0), (.bool false), (.int .i64 0), (.string ⟨⟨[]⟩⟩), (.slice (some ⟨4099, 0, none⟩) 2 2)] 54 none 0)), (4099, (.cells [(.int .i64 1), (.slice (some ⟨4100, 0, none⟩) 1 1), (.bool false), (.int .i64 0), (.int .i64 0), (.bool false), (.int .i64 0), (.string ⟨⟨[]⟩⟩), (.slice none 0 0), (.int .i64 8), (.slice none 0 0), (.bool false), (.int .i64 0), (.int .i64 0), (.bool false), (.int .i64 0), (.string ⟨⟨[]⟩⟩), (.slice (some ⟨4101, 0, none⟩) 2 2)] 54 (some 9) 0)), (4100, (.cells [(.int .i64 97), (.int .i64 97)] 75 (some 2) 0)), (4101, (.cells [(.int .i64 1), (.slice (some ⟨4102, 0, none⟩) 1 1), (.bool false), (.int .i64 0), (.int .i64 0), (.bool false), (.int .i64 0), (.string ⟨⟨[]⟩⟩), (.slice none 0 0), (.int .i64 1), (.slice (some ⟨4103, 0, none⟩) 1 1), (.bool false), (.int .i64 0), (.int .i64 0), (.bool false), (.int .i64 0), (.string ⟨⟨[]⟩⟩), (.slice none 0 0)] 54 (some 9) 0)), (4102, (.cells [(.int .i64 97), (.int .i64 97)] 75 (some 2) 0)), (4103, (.cells [(.int .i64 98), (.int .i64 98)] 75 (some 2) 0)), (4104, (.cells [(.int .i64 11), (.slice none 0 0), (.bool false), (.int .i64 0), (.int .i64 0), (.bool false), (.int .i64 2), (.string ⟨⟨[]⟩⟩), (.slice (some ⟨4105, 0, none⟩) 1 1)] 54 none 0)), (4105, (.cells [(.int .i64 9), (.slice none 0 0), (.bool false), (.int .i64 0), (.int .i64 0), (.bool false), (.int .i64 0), (.string ⟨⟨[]⟩⟩), (.slice (some ⟨4106, 0, none⟩) 2 2)] 54 none 0)), (4106, (.cells [(.int .i64 1), (.slice (some ⟨4107, 0, none⟩) 1 1), (.bool false), (.int .i64 0), (.int .i64 0), (.bool false), (.int .i64 0), (.string ⟨⟨[]⟩⟩), (.slice none 0 0), (.int .i64 8), (.slice none 0 0), (.bool false), (.int .i64 0), (.int .i64 0), (.bool false), (.int .i64 0), (.string ⟨⟨[]⟩⟩), (.slice (some ⟨4108, 0, none⟩) 3 3)] 54 (some 9) 0)), (4107, (.cells [(.int .i64 99), (.int .i64 99)] 75 (some 2) 0)), (4108, (.cells [(.int .i64 1), (.slice (some ⟨4109, 0, none⟩) 1 1), (.bool false), (.int .i64 0), (.int .i64 0), (.bool false), (.int .i64 0), (.string ⟨⟨[]⟩⟩), (.slice none 0 0), (.int .i64 1), (.slice (some ⟨4110, 0, none⟩) 1 1), (.bool false), (.int .i64 0), (.int .i64 0), (.bool false), (.int .i64 0), (.string ⟨⟨[]⟩⟩), (.slice none 0 0), (.int .i64 1), (.slice (some ⟨4111, 0, none⟩) 1 1), (.bool false), (.int .i64 0), (.int .i64 0), (.bool false), (.int .i64 0), (.string ⟨⟨[]⟩⟩), (.slice none 0 0)] 54 (some 9) 0)), (4109, (.cells [(.int .i64 98), (.int .i64 98)] 75 (some 2) 0)), (4110, (.cells [(.int .i64 99), (.int .i64 99)] 75 (some 2) 0)), (4111, (.cells [(.int .i64 100), (.int .i64 100)] 75 (some 2) 0)), (4112, (.cells [(.string ⟨⟨[]⟩⟩), (.string ⟨⟨[]⟩⟩), (.string ⟨⟨[]⟩⟩)] 9 (some 1) 0))]) (by kernel_rfl) ?_ (Nat.le_of_ble_eq_true rfl) (by kernel_rfl)) (fun e st h => ⟨h.1, h.2.elim fun j h2 => ⟨j, h2.trans (by kernel_rfl)⟩⟩)
  exact ⟨rfl,
    rfl,
    rfl,
    rfl,
    rfl,
    rfl,
    rfl,
    rfl,
    rfl,
    rfl,
    rfl,
    rfl,
    rfl,
    rfl,
    rfl,
    rfl,
    rfl,
    rfl,
    rfl,
    rfl,
    rfl,
    rfl,
    rfl,
    rfl,
    rfl,
    rfl,
    rfl,
    rfl,
    rfl,
    rfl,
    rfl,
    rfl,
    rfl,
    rfl,
    rfl,
    rfl,
    rfl,
    rfl,
    rfl,
    rfl,
    trivial⟩

/- 20 steps -/
set_option maxHeartbeats 4000000 in
theorem sp4  (j : Nat → Value) : SX Tryz.prog 4096 (.seq f8r4 .ret) (S4   j) (fun e' st' => e' = .ret ∧ ∃ j, st' = ⟨fillT (patOf 37 [(0, (.bool true))]) j 0, mkH 4096 [], []⟩) := by
  refine SX.mono (SX.run ok mixed (T := tbl) (n := 3000) (hs := []) (cs := []) (next := 4096) (σ := []) (pat := (patOf 37 [(0, (.bool true))])) (l := []) (by kernel_rfl) ?_ (Nat.le_of_ble_eq_true rfl) (by kernel_rfl)) (fun e st h => ⟨h.1, h.2.elim fun j h2 => ⟨j, h2.trans (by kernel_rfl)⟩⟩)
  exact trivial


end Go.Am.Zt
