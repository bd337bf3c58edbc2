import Derived.Test.YtikphefllmemjaaGreatZt3
import Derived.Test.YtikphefllmemjaaGreatZs2o
/-
PikeStars: the runs of pike.Run (printed by wip/z/JobA.lean).
-/
namespace Go.Am.Zt
open Go Go.Am Go.Proofs
set_option linter.unusedVariables false
set_option maxRecDepth 100000
def H0Bz (s : ByteArray) (q : Int) (j : Nat → Value) : St := ⟨fillT (patOf 165 [(13, (.int .i64 0)), (1, (.string s)), (12, (.slice none 0 0)), (2, (.int .i64 0)), (3, (.bool true)), (4, (.pointer (some ⟨4101, 0, none⟩))), (9, (.pointer (some ⟨4102, 0, none⟩))), (10, (.pointer (some ⟨4103, 0, none⟩))), (11, (.pointer (some ⟨4105, 0, none⟩)))]) j 0, mkH 4107 [(4099, pr2z), (4096, (.cells [(.slice (some ⟨4097, 0, none⟩) 6 6), (.int .i64 1)] 30 none 0)), (4097, pr1z), (4098, (.cells [(.slice (some ⟨4099, 0, none⟩) 10 10), (.int .i64 1)] 30 none 0)), (4100, (.cells [(.int .i64 0), (.int .i64 q)] 3 (some 1) 0)), (4101, (.cells [(.slice (some ⟨4099, 0, none⟩) 10 10), (.int .i64 1)] 30 none 0)), (4102, (.cells [(.slice (some ⟨4099, 0, none⟩) 10 10), (.int .i64 1), (.string s), (.slice none 0 0)] 67 none 0)), (4103, (.cells [(.slice none 0 0), (.slice (some ⟨4104, 0, none⟩) 10 10)] 70 none 0)), (4104, (.cells [(.int .i64 0), (.int .i64 0), (.int .i64 0), (.int .i64 0), (.int .i64 0), (.int .i64 0), (.int .i64 0), (.int .i64 0), (.int .i64 0), (.int .i64 0)] 3 none 0)), (4105, (.cells [(.slice none 0 0), (.slice (some ⟨4106, 0, none⟩) 10 10)] 70 none 0)), (4106, (.cells [(.int .i64 0), (.int .i64 0), (.int .i64 0), (.int .i64 0), (.int .i64 0), (.int .i64 0), (.int .i64 0), (.int .i64 0), (.int .i64 0), (.int .i64 0)] 3 none 0))], []⟩
def HN0Bz (s : ByteArray) (q : Int) (j : Nat → Value) : St := ⟨fillT (patOf 165 [(13, (.int .i64 1)), (1, (.string s)), (12, (.slice none 0 0)), (2, (.int .i64 0)), (3, (.bool true)), (4, (.pointer (some ⟨4101, 0, none⟩))), (9, (.pointer (some ⟨4102, 0, none⟩))), (10, (.pointer (some ⟨4105, 0, none⟩))), (11, (.pointer (some ⟨4107, 0, none⟩)))]) j 0, mkH 4110 [(4099, pr2z), (4096, (.cells [(.slice (some ⟨4097, 0, none⟩) 6 6), (.int .i64 1)] 30 none 0)), (4097, pr1z), (4098, (.cells [(.slice (some ⟨4099, 0, none⟩) 10 10), (.int .i64 1)] 30 none 0)), (4100, (.cells [(.int .i64 0), (.int .i64 q)] 3 (some 1) 0)), (4101, (.cells [(.slice (some ⟨4099, 0, none⟩) 10 10), (.int .i64 1)] 30 none 0)), (4102, (.cells [(.slice (some ⟨4099, 0, none⟩) 10 10), (.int .i64 1), (.string s), (.slice (some ⟨4103, 0, none⟩) 0 1)] 67 none 0)), (4103, (.cells [(.int .i64 2), (.slice (some ⟨4104, 0, none⟩) 2 2)] 73 (some 2) 0)), (4104, (.cells [(.int .i64 0), (.int .i64 (-1))] 3 (some 1) 0)), (4105, (.cells [(.slice none 0 0), (.slice (some ⟨4106, 0, none⟩) 10 10)] 70 none 0)), (4106, (.cells [(.int .i64 0), (.int .i64 0), (.int .i64 0), (.int .i64 0), (.int .i64 0), (.int .i64 0), (.int .i64 0), (.int .i64 0), (.int .i64 0), (.int .i64 0)] 3 none 0)), (4107, (.cells [(.slice (some ⟨4108, 0, none⟩) 2 2), (.slice (some ⟨4109, 0, none⟩) 10 10)] 70 none 0)), (4108, (.cells [(.int .i64 4), (.slice (some ⟨4104, 0, none⟩) 2 2), (.int .i64 2), (.slice (some ⟨4104, 0, none⟩) 2 2)] 73 (some 2) 0)), (4109, (.cells [(.int .i64 1), (.int .i64 1), (.int .i64 1), (.int .i64 0), (.int .i64 1), (.int .i64 0), (.int .i64 0), (.int .i64 0), (.int .i64 0), (.int .i64 0)] 3 none 0))], []⟩
def HBBz (s : ByteArray) (q : Int) (i : Int) (c : Nat → Int) (d : Nat → Int) (j : Nat → Value) : St := ⟨fillT (patOf 165 [(13, (.int .i64 i)), (1, (.string s)), (12, (.slice none 0 0)), (2, (.int .i64 0)), (3, (.bool true)), (4, (.pointer (some ⟨4101, 0, none⟩))), (9, (.pointer (some ⟨4102, 0, none⟩))), (10, (.pointer (some ⟨4105, 0, none⟩))), (11, (.pointer (some ⟨4108, 0, none⟩)))]) j 0, mkH 4111 [(4099, pr2z), (4096, (.cells [(.slice (some ⟨4097, 0, none⟩) 6 6), (.int .i64 1)] 30 none 0)), (4097, pr1z), (4098, (.cells [(.slice (some ⟨4099, 0, none⟩) 10 10), (.int .i64 1)] 30 none 0)), (4100, (.cells [(.int .i64 0), (.int .i64 q)] 3 (some 1) 0)), (4101, (.cells [(.slice (some ⟨4099, 0, none⟩) 10 10), (.int .i64 1)] 30 none 0)), (4102, (.cells [(.slice (some ⟨4099, 0, none⟩) 10 10), (.int .i64 1), (.string s), (.slice (some ⟨4103, 0, none⟩) 0 1)] 67 none 0)), (4103, (.cells [(.int .i64 2), (.slice (some ⟨4104, 0, none⟩) 2 2)] 73 (some 2) 0)), (4104, (.cells [(.int .i64 0), (.int .i64 (-1))] 3 (some 1) 0)), (4105, (.cells [(.slice (some ⟨4106, 0, none⟩) 2 2), (.slice (some ⟨4107, 0, none⟩) 10 10)] 70 none 0)), (4106, (.cells [(.int .i64 4), (.slice (some ⟨4104, 0, none⟩) 2 2), (.int .i64 2), (.slice (some ⟨4104, 0, none⟩) 2 2)] 73 (some 2) 0)), (4107, (.cells [(.int .i64 (c 0)), (.int .i64 (c 1)), (.int .i64 (c 2)), (.int .i64 (c 3)), (.int .i64 (c 4)), (.int .i64 (c 5)), (.int .i64 (c 6)), (.int .i64 (c 7)), (.int .i64 (c 8)), (.int .i64 (c 9))] 3 none 0)), (4108, (.cells [(.slice (some ⟨4109, 0, none⟩) 2 2), (.slice (some ⟨4110, 0, none⟩) 10 10)] 70 none 0)), (4109, (.cells [(.int .i64 4), (.slice (some ⟨4104, 0, none⟩) 2 2), (.int .i64 2), (.slice (some ⟨4104, 0, none⟩) 2 2)] 73 (some 2) 0)), (4110, (.cells [(.int .i64 (d 0)), (.int .i64 (d 1)), (.int .i64 (d 2)), (.int .i64 (d 3)), (.int .i64 (d 4)), (.int .i64 (d 5)), (.int .i64 (d 6)), (.int .i64 (d 7)), (.int .i64 (d 8)), (.int .i64 (d 9))] 3 none 0))], []⟩
def HNBz (s : ByteArray) (q : Int) (i : Int) (y : Int) (z : Int) (c : Nat → Int) (d : Nat → Int) (j : Nat → Value) : St := ⟨fillT (patOf 165 [(13, (.int .i64 i)), (1, (.string s)), (12, (.slice none 0 0)), (2, (.int .i64 0)), (3, (.bool true)), (4, (.pointer (some ⟨4101, 0, none⟩))), (9, (.pointer (some ⟨4102, 0, none⟩))), (10, (.pointer (some ⟨4105, 0, none⟩))), (11, (.pointer (some ⟨4108, 0, none⟩)))]) j 0, mkH 4111 [(4099, pr2z), (4096, (.cells [(.slice (some ⟨4097, 0, none⟩) 6 6), (.int .i64 1)] 30 none 0)), (4097, pr1z), (4098, (.cells [(.slice (some ⟨4099, 0, none⟩) 10 10), (.int .i64 1)] 30 none 0)), (4100, (.cells [(.int .i64 0), (.int .i64 q)] 3 (some 1) 0)), (4101, (.cells [(.slice (some ⟨4099, 0, none⟩) 10 10), (.int .i64 1)] 30 none 0)), (4102, (.cells [(.slice (some ⟨4099, 0, none⟩) 10 10), (.int .i64 1), (.string s), (.slice (some ⟨4103, 0, none⟩) 0 1)] 67 none 0)), (4103, (.cells [(.int .i64 2), (.slice (some ⟨4104, 0, none⟩) 2 2)] 73 (some 2) 0)), (4104, (.cells [(.int .i64 0), (.int .i64 (-1))] 3 (some 1) 0)), (4105, (.cells [(.slice (some ⟨4106, 0, none⟩) 0 2), (.slice (some ⟨4107, 0, none⟩) 10 10)] 70 none 0)), (4106, (.cells [(.int .i64 4), (.slice (some ⟨4104, 0, none⟩) 2 2), (.int .i64 2), (.slice (some ⟨4104, 0, none⟩) 2 2)] 73 (some 2) 0)), (4107, (.cells [(.int .i64 (c 0)), (.int .i64 (c 1)), (.int .i64 (c 2)), (.int .i64 (c 3)), (.int .i64 (c 4)), (.int .i64 (c 5)), (.int .i64 (c 6)), (.int .i64 (c 7)), (.int .i64 (c 8)), (.int .i64 (c 9))] 3 none 0)), (4108, (.cells [(.slice (some ⟨4109, 0, none⟩) 2 2), (.slice (some ⟨4110, 0, none⟩) 10 10)] 70 none 0)), (4109, (.cells [(.int .i64 4), (.slice (some ⟨4104, 0, none⟩) 2 2), (.int .i64 2), (.slice (some ⟨4104, 0, none⟩) 2 2)] 73 (some 2) 0)), (4110, (.cells [(.int .i64 (d 0)), (.int .i64 (d 1)), (.int .i64 (d 2)), (.int .i64 (d 3)), (.int .i64 (d 4)), (.int .i64 (d 5)), (.int .i64 (d 6)), (.int .i64 (d 7)), (.int .i64 (d 8)), (.int .i64 (d 9))] 3 none 0))], []⟩
def HCBz (s : ByteArray) (q : Int) (i : Int) (y : Int) (z : Int) (c : Nat → Int) (d : Nat → Int) (j : Nat → Value) : St := ⟨fillT (patOf 165 [(13, (.int .i64 i)), (1, (.string s)), (12, (.slice none 0 0)), (2, (.int .i64 0)), (3, (.bool true)), (4, (.pointer (some ⟨4101, 0, none⟩))), (9, (.pointer (some ⟨4102, 0, none⟩))), (10, (.pointer (some ⟨4105, 0, none⟩))), (11, (.pointer (some ⟨4109, 0, none⟩)))]) j 0, mkH 4112 [(4099, pr2z), (4096, (.cells [(.slice (some ⟨4097, 0, none⟩) 6 6), (.int .i64 1)] 30 none 0)), (4097, pr1z), (4098, (.cells [(.slice (some ⟨4099, 0, none⟩) 10 10), (.int .i64 1)] 30 none 0)), (4100, (.cells [(.int .i64 0), (.int .i64 q)] 3 (some 1) 0)), (4101, (.cells [(.slice (some ⟨4099, 0, none⟩) 10 10), (.int .i64 1)] 30 none 0)), (4102, (.cells [(.slice (some ⟨4099, 0, none⟩) 10 10), (.int .i64 1), (.string s), (.slice (some ⟨4103, 0, none⟩) 0 1)] 67 none 0)), (4103, (.cells [(.int .i64 8), (.slice (some ⟨4104, 0, none⟩) 2 2)] 73 (some 2) 0)), (4104, (.cells [(.int .i64 0), (.int .i64 (-1))] 3 (some 1) 0)), (4105, (.cells [(.slice (some ⟨4106, 0, none⟩) 2 2), (.slice (some ⟨4108, 0, none⟩) 10 10)] 70 none 0)), (4106, (.cells [(.int .i64 6), (.slice (some ⟨4104, 0, none⟩) 2 2), (.int .i64 9), (.slice (some ⟨4107, 0, none⟩) 2 2)] 73 (some 2) 0)), (4107, (.cells [(.int .i64 0), (.int .i64 i)] 3 (some 1) 0)), (4108, (.cells [(.int .i64 (c 0)), (.int .i64 (c 1)), (.int .i64 (c 2)), (.int .i64 (c 3)), (.int .i64 (c 4)), (.int .i64 (c 5)), (.int .i64 (c 6)), (.int .i64 (c 7)), (.int .i64 (c 8)), (.int .i64 (c 9))] 3 none 0)), (4109, (.cells [(.slice (some ⟨4110, 0, none⟩) 2 2), (.slice (some ⟨4111, 0, none⟩) 10 10)] 70 none 0)), (4110, (.cells [(.int .i64 4), (.slice (some ⟨4104, 0, none⟩) 2 2), (.int .i64 2), (.slice (some ⟨4104, 0, none⟩) 2 2)] 73 (some 2) 0)), (4111, (.cells [(.int .i64 (d 0)), (.int .i64 (d 1)), (.int .i64 (d 2)), (.int .i64 (d 3)), (.int .i64 (d 4)), (.int .i64 (d 5)), (.int .i64 (d 6)), (.int .i64 (d 7)), (.int .i64 (d 8)), (.int .i64 (d 9))] 3 none 0))], []⟩
def HEBz (s : ByteArray) (q : Int) (i : Int) (b : Int) (y : Int) (z : Int) (c : Nat → Int) (d : Nat → Int) (j : Nat → Value) : St := ⟨fillT (patOf 165 [(13, (.int .i64 i)), (1, (.string s)), (12, (.slice (some ⟨4101, 0, none⟩) 2 2)), (2, (.int .i64 0)), (3, (.bool true)), (4, (.pointer (some ⟨4102, 0, none⟩))), (9, (.pointer (some ⟨4103, 0, none⟩))), (10, (.pointer (some ⟨4106, 0, none⟩))), (11, (.pointer (some ⟨4109, 0, none⟩)))]) j 0, mkH 4112 [(4099, pr2z), (4096, (.cells [(.slice (some ⟨4097, 0, none⟩) 6 6), (.int .i64 1)] 30 none 0)), (4097, pr1z), (4098, (.cells [(.slice (some ⟨4099, 0, none⟩) 10 10), (.int .i64 1)] 30 none 0)), (4100, (.cells [(.int .i64 0), (.int .i64 q)] 3 (some 1) 0)), (4101, (.cells [(.int .i64 0), (.int .i64 b)] 3 (some 1) 0)), (4102, (.cells [(.slice (some ⟨4099, 0, none⟩) 10 10), (.int .i64 1)] 30 none 0)), (4103, (.cells [(.slice (some ⟨4099, 0, none⟩) 10 10), (.int .i64 1), (.string s), (.slice (some ⟨4104, 0, none⟩) 0 1)] 67 none 0)), (4104, (.cells [(.int .i64 8), (.slice (some ⟨4105, 0, none⟩) 2 2)] 73 (some 2) 0)), (4105, (.cells [(.int .i64 0), (.int .i64 (-1))] 3 (some 1) 0)), (4106, (.cells [(.slice (some ⟨4107, 0, none⟩) 0 2), (.slice (some ⟨4108, 0, none⟩) 10 10)] 70 none 0)), (4107, (.cells [(.int .i64 4), (.slice (some ⟨4105, 0, none⟩) 2 2), (.int .i64 2), (.slice (some ⟨4105, 0, none⟩) 2 2)] 73 (some 2) 0)), (4108, (.cells [(.int .i64 (c 0)), (.int .i64 (c 1)), (.int .i64 (c 2)), (.int .i64 (c 3)), (.int .i64 (c 4)), (.int .i64 (c 5)), (.int .i64 (c 6)), (.int .i64 (c 7)), (.int .i64 (c 8)), (.int .i64 (c 9))] 3 none 0)), (4109, (.cells [(.slice (some ⟨4110, 0, none⟩) 2 2), (.slice (some ⟨4111, 0, none⟩) 10 10)] 70 none 0)), (4110, (.cells [(.int .i64 6), (.slice (some ⟨4105, 0, none⟩) 2 2), (.int .i64 9), (.slice (some ⟨4101, 0, none⟩) 2 2)] 73 (some 2) 0)), (4111, (.cells [(.int .i64 (d 0)), (.int .i64 (d 1)), (.int .i64 (d 2)), (.int .i64 (d 3)), (.int .i64 (d 4)), (.int .i64 (d 5)), (.int .i64 (d 6)), (.int .i64 (d 7)), (.int .i64 (d 8)), (.int .i64 (d 9))] 3 none 0))], []⟩
def HDBz (s : ByteArray) (q : Int) (i : Int) (b : Int) (y : Int) (z : Int) (c : Nat → Int) (d : Nat → Int) (j : Nat → Value) : St := ⟨fillT (patOf 165 [(13, (.int .i64 i)), (1, (.string s)), (12, (.slice (some ⟨4101, 0, none⟩) 2 2)), (2, (.int .i64 0)), (3, (.bool true)), (4, (.pointer (some ⟨4102, 0, none⟩))), (9, (.pointer (some ⟨4103, 0, none⟩))), (10, (.pointer (some ⟨4106, 0, none⟩))), (11, (.pointer (some ⟨4110, 0, none⟩)))]) j 0, mkH 4113 [(4099, pr2z), (4096, (.cells [(.slice (some ⟨4097, 0, none⟩) 6 6), (.int .i64 1)] 30 none 0)), (4097, pr1z), (4098, (.cells [(.slice (some ⟨4099, 0, none⟩) 10 10), (.int .i64 1)] 30 none 0)), (4100, (.cells [(.int .i64 0), (.int .i64 q)] 3 (some 1) 0)), (4101, (.cells [(.int .i64 0), (.int .i64 b)] 3 (some 1) 0)), (4102, (.cells [(.slice (some ⟨4099, 0, none⟩) 10 10), (.int .i64 1)] 30 none 0)), (4103, (.cells [(.slice (some ⟨4099, 0, none⟩) 10 10), (.int .i64 1), (.string s), (.slice (some ⟨4104, 0, none⟩) 0 1)] 67 none 0)), (4104, (.cells [(.int .i64 8), (.slice (some ⟨4105, 0, none⟩) 2 2)] 73 (some 2) 0)), (4105, (.cells [(.int .i64 0), (.int .i64 (-1))] 3 (some 1) 0)), (4106, (.cells [(.slice (some ⟨4107, 0, none⟩) 2 2), (.slice (some ⟨4109, 0, none⟩) 10 10)] 70 none 0)), (4107, (.cells [(.int .i64 6), (.slice (some ⟨4105, 0, none⟩) 2 2), (.int .i64 9), (.slice (some ⟨4108, 0, none⟩) 2 2)] 73 (some 2) 0)), (4108, (.cells [(.int .i64 0), (.int .i64 i)] 3 (some 1) 0)), (4109, (.cells [(.int .i64 (c 0)), (.int .i64 (c 1)), (.int .i64 (c 2)), (.int .i64 (c 3)), (.int .i64 (c 4)), (.int .i64 (c 5)), (.int .i64 (c 6)), (.int .i64 (c 7)), (.int .i64 (c 8)), (.int .i64 (c 9))] 3 none 0)), (4110, (.cells [(.slice (some ⟨4111, 0, none⟩) 2 2), (.slice (some ⟨4112, 0, none⟩) 10 10)] 70 none 0)), (4111, (.cells [(.int .i64 6), (.slice (some ⟨4105, 0, none⟩) 2 2), (.int .i64 9), (.slice (some ⟨4101, 0, none⟩) 2 2)] 73 (some 2) 0)), (4112, (.cells [(.int .i64 (d 0)), (.int .i64 (d 1)), (.int .i64 (d 2)), (.int .i64 (d 3)), (.int .i64 (d 4)), (.int .i64 (d 5)), (.int .i64 (d 6)), (.int .i64 (d 7)), (.int .i64 (d 8)), (.int .i64 (d 9))] 3 none 0))], []⟩
def HFBz (s : ByteArray) (q : Int) (i : Int) (b : Int) (y : Int) (z : Int) (c : Nat → Int) (d : Nat → Int) (j : Nat → Value) : St := ⟨fillT (patOf 165 [(13, (.int .i64 i)), (1, (.string s)), (12, (.slice (some ⟨4101, 0, none⟩) 2 2)), (2, (.int .i64 0)), (3, (.bool true)), (4, (.pointer (some ⟨4102, 0, none⟩))), (9, (.pointer (some ⟨4103, 0, none⟩))), (10, (.pointer (some ⟨4106, 0, none⟩))), (11, (.pointer (some ⟨4110, 0, none⟩)))]) j 0, mkH 4113 [(4099, pr2z), (4096, (.cells [(.slice (some ⟨4097, 0, none⟩) 6 6), (.int .i64 1)] 30 none 0)), (4097, pr1z), (4098, (.cells [(.slice (some ⟨4099, 0, none⟩) 10 10), (.int .i64 1)] 30 none 0)), (4100, (.cells [(.int .i64 0), (.int .i64 q)] 3 (some 1) 0)), (4101, (.cells [(.int .i64 0), (.int .i64 b)] 3 (some 1) 0)), (4102, (.cells [(.slice (some ⟨4099, 0, none⟩) 10 10), (.int .i64 1)] 30 none 0)), (4103, (.cells [(.slice (some ⟨4099, 0, none⟩) 10 10), (.int .i64 1), (.string s), (.slice (some ⟨4104, 0, none⟩) 0 1)] 67 none 0)), (4104, (.cells [(.int .i64 8), (.slice (some ⟨4105, 0, none⟩) 2 2)] 73 (some 2) 0)), (4105, (.cells [(.int .i64 0), (.int .i64 (-1))] 3 (some 1) 0)), (4106, (.cells [(.slice (some ⟨4107, 0, none⟩) 0 2), (.slice (some ⟨4109, 0, none⟩) 10 10)] 70 none 0)), (4107, (.cells [(.int .i64 6), (.slice (some ⟨4105, 0, none⟩) 2 2), (.int .i64 9), (.slice (some ⟨4108, 0, none⟩) 2 2)] 73 (some 2) 0)), (4108, (.cells [(.int .i64 0), (.int .i64 y)] 3 (some 1) 0)), (4109, (.cells [(.int .i64 (c 0)), (.int .i64 (c 1)), (.int .i64 (c 2)), (.int .i64 (c 3)), (.int .i64 (c 4)), (.int .i64 (c 5)), (.int .i64 (c 6)), (.int .i64 (c 7)), (.int .i64 (c 8)), (.int .i64 (c 9))] 3 none 0)), (4110, (.cells [(.slice (some ⟨4111, 0, none⟩) 2 2), (.slice (some ⟨4112, 0, none⟩) 10 10)] 70 none 0)), (4111, (.cells [(.int .i64 6), (.slice (some ⟨4105, 0, none⟩) 2 2), (.int .i64 9), (.slice (some ⟨4101, 0, none⟩) 2 2)] 73 (some 2) 0)), (4112, (.cells [(.int .i64 (d 0)), (.int .i64 (d 1)), (.int .i64 (d 2)), (.int .i64 (d 3)), (.int .i64 (d 4)), (.int .i64 (d 5)), (.int .i64 (d 6)), (.int .i64 (d 7)), (.int .i64 (d 8)), (.int .i64 (d 9))] 3 none 0))], []⟩
def P0Bz (s : ByteArray) (q : Int) (j : Nat → Value) : St := ⟨fillT (patOf 165 [(0, (.agg ⟨[(.slice (some ⟨4099, 0, none⟩) 10 10), (.int .i64 1)]⟩)), (1, (.string s)), (2, (.int .i64 0)), (3, (.bool true))]) j 0, mkH 4101 [(4096, (.cells [(.slice (some ⟨4097, 0, none⟩) 6 6), (.int .i64 1)] 30 none 0)), (4097, pr1z), (4098, (.cells [(.slice (some ⟨4099, 0, none⟩) 10 10), (.int .i64 1)] 30 none 0)), (4099, pr2z), (4100, (.cells [(.int .i64 0), (.int .i64 q)] 3 (some 1) 0))], []⟩
def P1Bz (s : ByteArray) (q : Int) (j : Nat → Value) : St := ⟨fillT (patOf 165 [(2, (.int .i64 0)), (1, (.string s)), (4, (.pointer (some ⟨4101, 0, none⟩))), (3, (.bool true))]) j 0, mkH 4102 [(4099, pr2z), (4096, (.cells [(.slice (some ⟨4097, 0, none⟩) 6 6), (.int .i64 1)] 30 none 0)), (4097, pr1z), (4098, (.cells [(.slice (some ⟨4099, 0, none⟩) 10 10), (.int .i64 1)] 30 none 0)), (4100, (.cells [(.int .i64 0), (.int .i64 q)] 3 (some 1) 0)), (4101, (.cells [(.slice (some ⟨4099, 0, none⟩) 10 10), (.int .i64 1)] 30 none 0))], []⟩
def P2Bz (s : ByteArray) (q : Int) (j : Nat → Value) : St := ⟨fillT (patOf 165 [(4, (.pointer (some ⟨4101, 0, none⟩))), (1, (.string s)), (2, (.int .i64 0)), (3, (.bool true))]) j 0, mkH 4102 [(4099, pr2z), (4096, (.cells [(.slice (some ⟨4097, 0, none⟩) 6 6), (.int .i64 1)] 30 none 0)), (4097, pr1z), (4098, (.cells [(.slice (some ⟨4099, 0, none⟩) 10 10), (.int .i64 1)] 30 none 0)), (4100, (.cells [(.int .i64 0), (.int .i64 q)] 3 (some 1) 0)), (4101, (.cells [(.slice (some ⟨4099, 0, none⟩) 10 10), (.int .i64 1)] 30 none 0))], []⟩
def P3Bz (s : ByteArray) (q : Int) (j : Nat → Value) : St := ⟨fillT (patOf 165 [(4, (.pointer (some ⟨4101, 0, none⟩))), (2, (.int .i64 0)), (1, (.string s)), (3, (.bool true)), (9, (.pointer (some ⟨4102, 0, none⟩)))]) j 0, mkH 4103 [(4099, pr2z), (4096, (.cells [(.slice (some ⟨4097, 0, none⟩) 6 6), (.int .i64 1)] 30 none 0)), (4097, pr1z), (4098, (.cells [(.slice (some ⟨4099, 0, none⟩) 10 10), (.int .i64 1)] 30 none 0)), (4100, (.cells [(.int .i64 0), (.int .i64 q)] 3 (some 1) 0)), (4101, (.cells [(.slice (some ⟨4099, 0, none⟩) 10 10), (.int .i64 1)] 30 none 0)), (4102, (.cells [(.slice (some ⟨4099, 0, none⟩) 10 10), (.int .i64 1), (.string s), (.slice none 0 0)] 67 none 0))], []⟩
def P4Bz (s : ByteArray) (q : Int) (j : Nat → Value) : St := ⟨fillT (patOf 165 [(2, (.int .i64 0)), (1, (.string s)), (3, (.bool true)), (4, (.pointer (some ⟨4101, 0, none⟩))), (9, (.pointer (some ⟨4102, 0, none⟩))), (10, (.pointer (some ⟨4103, 0, none⟩))), (11, (.pointer (some ⟨4105, 0, none⟩)))]) j 0, mkH 4107 [(4099, pr2z), (4096, (.cells [(.slice (some ⟨4097, 0, none⟩) 6 6), (.int .i64 1)] 30 none 0)), (4097, pr1z), (4098, (.cells [(.slice (some ⟨4099, 0, none⟩) 10 10), (.int .i64 1)] 30 none 0)), (4100, (.cells [(.int .i64 0), (.int .i64 q)] 3 (some 1) 0)), (4101, (.cells [(.slice (some ⟨4099, 0, none⟩) 10 10), (.int .i64 1)] 30 none 0)), (4102, (.cells [(.slice (some ⟨4099, 0, none⟩) 10 10), (.int .i64 1), (.string s), (.slice none 0 0)] 67 none 0)), (4103, (.cells [(.slice none 0 0), (.slice (some ⟨4104, 0, none⟩) 10 10)] 70 none 0)), (4104, (.cells [(.int .i64 0), (.int .i64 0), (.int .i64 0), (.int .i64 0), (.int .i64 0), (.int .i64 0), (.int .i64 0), (.int .i64 0), (.int .i64 0), (.int .i64 0)] 3 none 0)), (4105, (.cells [(.slice none 0 0), (.slice (some ⟨4106, 0, none⟩) 10 10)] 70 none 0)), (4106, (.cells [(.int .i64 0), (.int .i64 0), (.int .i64 0), (.int .i64 0), (.int .i64 0), (.int .i64 0), (.int .i64 0), (.int .i64 0), (.int .i64 0), (.int .i64 0)] 3 none 0))], []⟩
def P5Bz (s : ByteArray) (q : Int) (j : Nat → Value) : St := ⟨fillT (patOf 165 [(2, (.int .i64 0)), (1, (.string s)), (12, (.slice none 0 0)), (3, (.bool true)), (4, (.pointer (some ⟨4101, 0, none⟩))), (9, (.pointer (some ⟨4102, 0, none⟩))), (10, (.pointer (some ⟨4103, 0, none⟩))), (11, (.pointer (some ⟨4105, 0, none⟩)))]) j 0, mkH 4107 [(4099, pr2z), (4096, (.cells [(.slice (some ⟨4097, 0, none⟩) 6 6), (.int .i64 1)] 30 none 0)), (4097, pr1z), (4098, (.cells [(.slice (some ⟨4099, 0, none⟩) 10 10), (.int .i64 1)] 30 none 0)), (4100, (.cells [(.int .i64 0), (.int .i64 q)] 3 (some 1) 0)), (4101, (.cells [(.slice (some ⟨4099, 0, none⟩) 10 10), (.int .i64 1)] 30 none 0)), (4102, (.cells [(.slice (some ⟨4099, 0, none⟩) 10 10), (.int .i64 1), (.string s), (.slice none 0 0)] 67 none 0)), (4103, (.cells [(.slice none 0 0), (.slice (some ⟨4104, 0, none⟩) 10 10)] 70 none 0)), (4104, (.cells [(.int .i64 0), (.int .i64 0), (.int .i64 0), (.int .i64 0), (.int .i64 0), (.int .i64 0), (.int .i64 0), (.int .i64 0), (.int .i64 0), (.int .i64 0)] 3 none 0)), (4105, (.cells [(.slice none 0 0), (.slice (some ⟨4106, 0, none⟩) 10 10)] 70 none 0)), (4106, (.cells [(.int .i64 0), (.int .i64 0), (.int .i64 0), (.int .i64 0), (.int .i64 0), (.int .i64 0), (.int .i64 0), (.int .i64 0), (.int .i64 0), (.int .i64 0)] 3 none 0))], []⟩
/- 2 steps -/
set_option maxHeartbeats 4000000 in
theorem pBz0 (s : ByteArray) (q : Int) (hs : s.size ≤ 9223372036854775806) (j : Nat → Value) : SX Tryz.prog 4101 f10r0 (P0Bz s q  j) (fun e' st' => e' = .normal ∧ ∃ j, st' = (P1Bz s q  j)) := by
  refine SX.mono (SX.run ok mixed (T := tbl) (n := 400) (hs := []) (cs := []) (next := 4102) (σ := [(4101, 4101)]) (pat := (patOf 165 [(2, (.int .i64 0)), (1, (.string s)), (4, (.pointer (some ⟨4101, 0, none⟩))), (3, (.bool true))])) (l := [(4099, pr2z), (4096, (.cells [(.slice (some ⟨4097, 0, none⟩) 6 6), (.int .i64 1)] 30 none 0)), (4097, pr1z), (4098, (.cells [(.slice (some ⟨4099, 0, none⟩) 10 10), (.int .i64 1)] 30 none 0)), (4100, (.cells [(.int .i64 0), (.int .i64 q)] 3 (some 1) 0)), (4101, (.cells [(.slice (some ⟨4099, 0, none⟩) 10 10), (.int .i64 1)] 30 none 0))]) (by kernel_rfl) ?_ (Nat.le_of_ble_eq_true rfl) (by kernel_rfl)) (fun e st h => ⟨h.1, h.2.elim fun j h2 => ⟨j, h2.trans (by kernel_rfl)⟩⟩)
  exact trivial

/- 13 steps -/
set_option maxHeartbeats 4000000 in
theorem pBz1 (s : ByteArray) (q : Int) (hs : s.size ≤ 9223372036854775806) (j : Nat → Value) : SX Tryz.prog 4101 (.seq f10r1 (.cond (.tmp 32) (.seq f10r2 .ret) .skip)) (P1Bz s q  j) (fun e' st' => e' = .normal ∧ ∃ j, st' = (P2Bz s q  j)) := by
  refine SX.mono (SX.run ok mixed (T := tbl) (n := 400) (hs := [(6, (.q (.bool false)))]) (cs := [binV .gtr (.int .i64 0) (.int .i64 ((s).size : Int)) = some (.bool false)]) (next := 4102) (σ := [(4101, 4101)]) (pat := (patOf 165 [(4, (.pointer (some ⟨4101, 0, none⟩))), (1, (.string s)), (2, (.int .i64 0)), (3, (.bool true))])) (l := [(4099, pr2z), (4096, (.cells [(.slice (some ⟨4097, 0, none⟩) 6 6), (.int .i64 1)] 30 none 0)), (4097, pr1z), (4098, (.cells [(.slice (some ⟨4099, 0, none⟩) 10 10), (.int .i64 1)] 30 none 0)), (4100, (.cells [(.int .i64 0), (.int .i64 q)] 3 (some 1) 0)), (4101, (.cells [(.slice (some ⟨4099, 0, none⟩) 10 10), (.int .i64 1)] 30 none 0))]) (by kernel_rfl) ?_ (Nat.le_of_ble_eq_true rfl) (by kernel_rfl)) (fun e st h => ⟨h.1, h.2.elim fun j h2 => ⟨j, h2.trans (by kernel_rfl)⟩⟩)
  exact ⟨(Fx.gtr_f (by omega)),
    trivial⟩

/- 5 steps -/
set_option maxHeartbeats 4000000 in
theorem pBz2 (s : ByteArray) (q : Int) (hs : s.size ≤ 9223372036854775806) (j : Nat → Value) : SX Tryz.prog 4101 f10r3 (P2Bz s q  j) (fun e' st' => e' = .normal ∧ ∃ j, st' = (P3Bz s q  j)) := by
  refine SX.mono (SX.run ok mixed (T := tbl) (n := 400) (hs := []) (cs := []) (next := 4103) (σ := [(4101, 4101), (4102, 4102)]) (pat := (patOf 165 [(4, (.pointer (some ⟨4101, 0, none⟩))), (2, (.int .i64 0)), (1, (.string s)), (3, (.bool true)), (9, (.pointer (some ⟨4102, 0, none⟩)))])) (l := [(4099, pr2z), (4096, (.cells [(.slice (some ⟨4097, 0, none⟩) 6 6), (.int .i64 1)] 30 none 0)), (4097, pr1z), (4098, (.cells [(.slice (some ⟨4099, 0, none⟩) 10 10), (.int .i64 1)] 30 none 0)), (4100, (.cells [(.int .i64 0), (.int .i64 q)] 3 (some 1) 0)), (4101, (.cells [(.slice (some ⟨4099, 0, none⟩) 10 10), (.int .i64 1)] 30 none 0)), (4102, (.cells [(.slice (some ⟨4099, 0, none⟩) 10 10), (.int .i64 1), (.string s), (.slice none 0 0)] 67 none 0))]) (by kernel_rfl) ?_ (Nat.le_of_ble_eq_true rfl) (by kernel_rfl)) (fun e st h => ⟨h.1, h.2.elim fun j h2 => ⟨j, h2.trans (by kernel_rfl)⟩⟩)
  exact trivial

/- 14 steps -/
set_option maxHeartbeats 4000000 in
theorem pBz3 (s : ByteArray) (q : Int) (hs : s.size ≤ 9223372036854775806) (j : Nat → Value) : SX Tryz.prog 4101 f10r4 (P3Bz s q  j) (fun e' st' => e' = .normal ∧ ∃ j, st' = (P4Bz s q  j)) := by
  refine SX.mono (SX.run ok mixed (T := tbl) (n := 400) (hs := []) (cs := []) (next := 4107) (σ := [(4101, 4101), (4102, 4102), (4103, 4104), (4104, 4103), (4105, 4106), (4106, 4105)]) (pat := (patOf 165 [(2, (.int .i64 0)), (1, (.string s)), (3, (.bool true)), (4, (.pointer (some ⟨4101, 0, none⟩))), (9, (.pointer (some ⟨4102, 0, none⟩))), (10, (.pointer (some ⟨4103, 0, none⟩))), (11, (.pointer (some ⟨4105, 0, none⟩)))])) (l := [(4099, pr2z), (4096, (.cells [(.slice (some ⟨4097, 0, none⟩) 6 6), (.int .i64 1)] 30 none 0)), (4097, pr1z), (4098, (.cells [(.slice (some ⟨4099, 0, none⟩) 10 10), (.int .i64 1)] 30 none 0)), (4100, (.cells [(.int .i64 0), (.int .i64 q)] 3 (some 1) 0)), (4101, (.cells [(.slice (some ⟨4099, 0, none⟩) 10 10), (.int .i64 1)] 30 none 0)), (4102, (.cells [(.slice (some ⟨4099, 0, none⟩) 10 10), (.int .i64 1), (.string s), (.slice none 0 0)] 67 none 0)), (4103, (.cells [(.slice none 0 0), (.slice (some ⟨4104, 0, none⟩) 10 10)] 70 none 0)), (4104, (.cells [(.int .i64 0), (.int .i64 0), (.int .i64 0), (.int .i64 0), (.int .i64 0), (.int .i64 0), (.int .i64 0), (.int .i64 0), (.int .i64 0), (.int .i64 0)] 3 none 0)), (4105, (.cells [(.slice none 0 0), (.slice (some ⟨4106, 0, none⟩) 10 10)] 70 none 0)), (4106, (.cells [(.int .i64 0), (.int .i64 0), (.int .i64 0), (.int .i64 0), (.int .i64 0), (.int .i64 0), (.int .i64 0), (.int .i64 0), (.int .i64 0), (.int .i64 0)] 3 none 0))]) (by kernel_rfl) ?_ (Nat.le_of_ble_eq_true rfl) (by kernel_rfl)) (fun e st h => ⟨h.1, h.2.elim fun j h2 => ⟨j, h2.trans (by kernel_rfl)⟩⟩)
  exact trivial

/- 1 steps -/
set_option maxHeartbeats 4000000 in
theorem pBz4 (s : ByteArray) (q : Int) (hs : s.size ≤ 9223372036854775806) (j : Nat → Value) : SX Tryz.prog 4101 f10r5 (P4Bz s q  j) (fun e' st' => e' = .normal ∧ ∃ j, st' = (P5Bz s q  j)) := by
  refine SX.mono (SX.run ok mixed (T := tbl) (n := 400) (hs := []) (cs := []) (next := 4107) (σ := [(4101, 4101), (4102, 4102), (4103, 4103), (4104, 4104), (4105, 4105), (4106, 4106)]) (pat := (patOf 165 [(2, (.int .i64 0)), (1, (.string s)), (12, (.slice none 0 0)), (3, (.bool true)), (4, (.pointer (some ⟨4101, 0, none⟩))), (9, (.pointer (some ⟨4102, 0, none⟩))), (10, (.pointer (some ⟨4103, 0, none⟩))), (11, (.pointer (some ⟨4105, 0, none⟩)))])) (l := [(4099, pr2z), (4096, (.cells [(.slice (some ⟨4097, 0, none⟩) 6 6), (.int .i64 1)] 30 none 0)), (4097, pr1z), (4098, (.cells [(.slice (some ⟨4099, 0, none⟩) 10 10), (.int .i64 1)] 30 none 0)), (4100, (.cells [(.int .i64 0), (.int .i64 q)] 3 (some 1) 0)), (4101, (.cells [(.slice (some ⟨4099, 0, none⟩) 10 10), (.int .i64 1)] 30 none 0)), (4102, (.cells [(.slice (some ⟨4099, 0, none⟩) 10 10), (.int .i64 1), (.string s), (.slice none 0 0)] 67 none 0)), (4103, (.cells [(.slice none 0 0), (.slice (some ⟨4104, 0, none⟩) 10 10)] 70 none 0)), (4104, (.cells [(.int .i64 0), (.int .i64 0), (.int .i64 0), (.int .i64 0), (.int .i64 0), (.int .i64 0), (.int .i64 0), (.int .i64 0), (.int .i64 0), (.int .i64 0)] 3 none 0)), (4105, (.cells [(.slice none 0 0), (.slice (some ⟨4106, 0, none⟩) 10 10)] 70 none 0)), (4106, (.cells [(.int .i64 0), (.int .i64 0), (.int .i64 0), (.int .i64 0), (.int .i64 0), (.int .i64 0), (.int .i64 0), (.int .i64 0), (.int .i64 0), (.int .i64 0)] 3 none 0))]) (by kernel_rfl) ?_ (Nat.le_of_ble_eq_true rfl) (by kernel_rfl)) (fun e st h => ⟨h.1, h.2.elim fun j h2 => ⟨j, h2.trans (by kernel_rfl)⟩⟩)
  exact trivial

/- 2 steps -/
set_option maxHeartbeats 4000000 in
theorem pBz5 (s : ByteArray) (q : Int) (hs : s.size ≤ 9223372036854775806) (j : Nat → Value) : SX Tryz.prog 4101 f10r6 (P5Bz s q  j) (fun e' st' => e' = .normal ∧ ∃ j, st' = (H0Bz s q  j)) := by
  refine SX.mono (SX.run ok mixed (T := tbl) (n := 400) (hs := []) (cs := []) (next := 4107) (σ := [(4101, 4101), (4102, 4102), (4103, 4103), (4104, 4104), (4105, 4105), (4106, 4106)]) (pat := (patOf 165 [(13, (.int .i64 0)), (1, (.string s)), (12, (.slice none 0 0)), (2, (.int .i64 0)), (3, (.bool true)), (4, (.pointer (some ⟨4101, 0, none⟩))), (9, (.pointer (some ⟨4102, 0, none⟩))), (10, (.pointer (some ⟨4103, 0, none⟩))), (11, (.pointer (some ⟨4105, 0, none⟩)))])) (l := [(4099, pr2z), (4096, (.cells [(.slice (some ⟨4097, 0, none⟩) 6 6), (.int .i64 1)] 30 none 0)), (4097, pr1z), (4098, (.cells [(.slice (some ⟨4099, 0, none⟩) 10 10), (.int .i64 1)] 30 none 0)), (4100, (.cells [(.int .i64 0), (.int .i64 q)] 3 (some 1) 0)), (4101, (.cells [(.slice (some ⟨4099, 0, none⟩) 10 10), (.int .i64 1)] 30 none 0)), (4102, (.cells [(.slice (some ⟨4099, 0, none⟩) 10 10), (.int .i64 1), (.string s), (.slice none 0 0)] 67 none 0)), (4103, (.cells [(.slice none 0 0), (.slice (some ⟨4104, 0, none⟩) 10 10)] 70 none 0)), (4104, (.cells [(.int .i64 0), (.int .i64 0), (.int .i64 0), (.int .i64 0), (.int .i64 0), (.int .i64 0), (.int .i64 0), (.int .i64 0), (.int .i64 0), (.int .i64 0)] 3 none 0)), (4105, (.cells [(.slice none 0 0), (.slice (some ⟨4106, 0, none⟩) 10 10)] 70 none 0)), (4106, (.cells [(.int .i64 0), (.int .i64 0), (.int .i64 0), (.int .i64 0), (.int .i64 0), (.int .i64 0), (.int .i64 0), (.int .i64 0), (.int .i64 0), (.int .i64 0)] 3 none 0))]) (by kernel_rfl) ?_ (Nat.le_of_ble_eq_true rfl) (by kernel_rfl)) (fun e st h => ⟨h.1, h.2.elim fun j h2 => ⟨j, h2.trans (by kernel_rfl)⟩⟩)
  exact trivial

/- 744 steps -/
set_option maxHeartbeats 4000000 in
theorem rBz_0a (s : ByteArray) (q : Int) (hs : s.size ≤ 9223372036854775806) (h0 : 0 < s.size) (hb : byteAt s 0 = 97) (j : Nat → Value) : SX Tryz.prog 4101 body10 (H0Bz s q  j) (fun e' st' => e' = .normal ∧ ∃ j, st' = (HBBz s q 1 (gl [0, 2, 2, 2, 2, 0, 0, 0, 0, 0]) (gl [1, 1, 1, 0, 1, 0, 0, 0, 0, 0]) j)) := by
  refine SX.mono (SX.run ok mixed (T := tbl) (n := 400) (hs := [(3, (.q (.bool true))), (385, (.q (.bool true))), (3, (.q (.int .u8 (byteAt s 0)))), (0, (.q (.int .i64 (byteAt s 0)))), (3, (.q (.bool false))), (24, (.q (.bool true))), (3, (.q (.int .u8 (byteAt s 0)))), (0, (.q (.int .i64 (byteAt s 0)))), (3, (.q (.bool true))), (4, (.q (.int .u8 (byteAt s 0)))), (0, (.q (.int .i64 (byteAt s 0)))), (3, (.q (.bool true)))]) (cs := [binV .leq (.int .i64 (byteAt s 0)) (.int .i64 97) = some (.bool true),
    (some (.int .i64 (IntKind.wrap .i64 (byteAt s 0))) : Option Value) = some (.int .i64 (byteAt s 0)),
    (if 0 ≤ (0 : Int) then ((ByteArray.data s).toList[Int.toNat 0]?).map (fun b => (.int .u8 b.toNat : Value)) else none) = some (.int .u8 (byteAt s 0)),
    binV .geq (.int .i64 (byteAt s 0)) (.int .i64 97) = some (.bool true),
    (some (.int .i64 (IntKind.wrap .i64 (byteAt s 0))) : Option Value) = some (.int .i64 (byteAt s 0)),
    (if 0 ≤ (0 : Int) then ((ByteArray.data s).toList[Int.toNat 0]?).map (fun b => (.int .u8 b.toNat : Value)) else none) = some (.int .u8 (byteAt s 0)),
    binV .lss (.int .i64 0) (.int .i64 ((s).size : Int)) = some (.bool true),
    binV .geq (.int .i64 (byteAt s 0)) (.int .i64 98) = some (.bool false),
    (some (.int .i64 (IntKind.wrap .i64 (byteAt s 0))) : Option Value) = some (.int .i64 (byteAt s 0)),
    (if 0 ≤ (0 : Int) then ((ByteArray.data s).toList[Int.toNat 0]?).map (fun b => (.int .u8 b.toNat : Value)) else none) = some (.int .u8 (byteAt s 0)),
    binV .lss (.int .i64 0) (.int .i64 ((s).size : Int)) = some (.bool true),
    binV .leq (.int .i64 0) (.int .i64 ((s).size : Int)) = some (.bool true)]) (next := 4111) (σ := [(4101, 4101), (4102, 4102), (4103, 4110), (4104, 4113), (4105, 4105), (4106, 4139), (4107, 4106), (4108, 4103), (4109, 4122), (4110, 4104)]) (pat := (patOf 165 [(13, (.int .i64 1)), (1, (.string s)), (12, (.slice none 0 0)), (2, (.int .i64 0)), (3, (.bool true)), (4, (.pointer (some ⟨4101, 0, none⟩))), (9, (.pointer (some ⟨4102, 0, none⟩))), (10, (.pointer (some ⟨4105, 0, none⟩))), (11, (.pointer (some ⟨4108, 0, none⟩)))])) (l := [(4099, pr2z), (4096, (.cells [(.slice (some ⟨4097, 0, none⟩) 6 6), (.int .i64 1)] 30 none 0)), (4097, pr1z), (4098, (.cells [(.slice (some ⟨4099, 0, none⟩) 10 10), (.int .i64 1)] 30 none 0)), (4100, (.cells [(.int .i64 0), (.int .i64 q)] 3 (some 1) 0)), (4101, (.cells [(.slice (some ⟨4099, 0, none⟩) 10 10), (.int .i64 1)] 30 none 0)), (4102, (.cells [(.slice (some ⟨4099, 0, none⟩) 10 10), (.int .i64 1), (.string s), (.slice (some ⟨4103, 0, none⟩) 0 1)] 67 none 0)), (4103, (.cells [(.int .i64 2), (.slice (some ⟨4104, 0, none⟩) 2 2)] 73 (some 2) 0)), (4104, (.cells [(.int .i64 0), (.int .i64 (-1))] 3 (some 1) 0)), (4105, (.cells [(.slice (some ⟨4106, 0, none⟩) 2 2), (.slice (some ⟨4107, 0, none⟩) 10 10)] 70 none 0)), (4106, (.cells [(.int .i64 4), (.slice (some ⟨4104, 0, none⟩) 2 2), (.int .i64 2), (.slice (some ⟨4104, 0, none⟩) 2 2)] 73 (some 2) 0)), (4107, (.cells [(.int .i64 0), (.int .i64 2), (.int .i64 2), (.int .i64 2), (.int .i64 2), (.int .i64 0), (.int .i64 0), (.int .i64 0), (.int .i64 0), (.int .i64 0)] 3 none 0)), (4108, (.cells [(.slice (some ⟨4109, 0, none⟩) 2 2), (.slice (some ⟨4110, 0, none⟩) 10 10)] 70 none 0)), (4109, (.cells [(.int .i64 4), (.slice (some ⟨4104, 0, none⟩) 2 2), (.int .i64 2), (.slice (some ⟨4104, 0, none⟩) 2 2)] 73 (some 2) 0)), (4110, (.cells [(.int .i64 1), (.int .i64 1), (.int .i64 1), (.int .i64 0), (.int .i64 1), (.int .i64 0), (.int .i64 0), (.int .i64 0), (.int .i64 0), (.int .i64 0)] 3 none 0))]) (by kernel_rfl) ?_ (Nat.le_of_ble_eq_true rfl) (by kernel_rfl)) (fun e st h => ⟨h.1, h.2.elim fun j h2 => ⟨j, h2.trans (by kernel_rfl)⟩⟩)
  exact ⟨(Fx.leq_t (by omega)),
    (Fx.conv_i64 (by omega) (by omega)),
    (Fx.index (by omega) (by omega)),
    (Fx.geq_t (by omega)),
    (Fx.conv_i64 (by omega) (by omega)),
    (Fx.index (by omega) (by omega)),
    (Fx.lss_t (by omega)),
    (Fx.geq_f (by omega)),
    (Fx.conv_i64 (by omega) (by omega)),
    (Fx.index (by omega) (by omega)),
    (Fx.lss_t (by omega)),
    (Fx.leq_t (by omega)),
    trivial⟩

/- 427 steps -/
set_option maxHeartbeats 4000000 in
theorem rBz_0e (s : ByteArray) (q : Int) (hs : s.size ≤ 9223372036854775806) (h0 : s.size = 0) (j : Nat → Value) : SX Tryz.prog 4101 body10 (H0Bz s q  j) (fun e' st' => e' = .normal ∧ ∃ j, st' = (HN0Bz s q  j)) := by
  refine SX.mono (SX.run ok mixed (T := tbl) (n := 400) (hs := [(3, (.q (.bool true))), (385, (.q (.bool false))), (25, (.q (.bool false)))]) (cs := [binV .lss (.int .i64 0) (.int .i64 ((s).size : Int)) = some (.bool false),
    binV .lss (.int .i64 0) (.int .i64 ((s).size : Int)) = some (.bool false),
    binV .leq (.int .i64 0) (.int .i64 ((s).size : Int)) = some (.bool true)]) (next := 4110) (σ := [(4101, 4101), (4102, 4102), (4103, 4110), (4104, 4113), (4105, 4105), (4106, 4106), (4107, 4103), (4108, 4122), (4109, 4104)]) (pat := (patOf 165 [(13, (.int .i64 1)), (1, (.string s)), (12, (.slice none 0 0)), (2, (.int .i64 0)), (3, (.bool true)), (4, (.pointer (some ⟨4101, 0, none⟩))), (9, (.pointer (some ⟨4102, 0, none⟩))), (10, (.pointer (some ⟨4105, 0, none⟩))), (11, (.pointer (some ⟨4107, 0, none⟩)))])) (l := [(4099, pr2z), (4096, (.cells [(.slice (some ⟨4097, 0, none⟩) 6 6), (.int .i64 1)] 30 none 0)), (4097, pr1z), (4098, (.cells [(.slice (some ⟨4099, 0, none⟩) 10 10), (.int .i64 1)] 30 none 0)), (4100, (.cells [(.int .i64 0), (.int .i64 q)] 3 (some 1) 0)), (4101, (.cells [(.slice (some ⟨4099, 0, none⟩) 10 10), (.int .i64 1)] 30 none 0)), (4102, (.cells [(.slice (some ⟨4099, 0, none⟩) 10 10), (.int .i64 1), (.string s), (.slice (some ⟨4103, 0, none⟩) 0 1)] 67 none 0)), (4103, (.cells [(.int .i64 2), (.slice (some ⟨4104, 0, none⟩) 2 2)] 73 (some 2) 0)), (4104, (.cells [(.int .i64 0), (.int .i64 (-1))] 3 (some 1) 0)), (4105, (.cells [(.slice none 0 0), (.slice (some ⟨4106, 0, none⟩) 10 10)] 70 none 0)), (4106, (.cells [(.int .i64 0), (.int .i64 0), (.int .i64 0), (.int .i64 0), (.int .i64 0), (.int .i64 0), (.int .i64 0), (.int .i64 0), (.int .i64 0), (.int .i64 0)] 3 none 0)), (4107, (.cells [(.slice (some ⟨4108, 0, none⟩) 2 2), (.slice (some ⟨4109, 0, none⟩) 10 10)] 70 none 0)), (4108, (.cells [(.int .i64 4), (.slice (some ⟨4104, 0, none⟩) 2 2), (.int .i64 2), (.slice (some ⟨4104, 0, none⟩) 2 2)] 73 (some 2) 0)), (4109, (.cells [(.int .i64 1), (.int .i64 1), (.int .i64 1), (.int .i64 0), (.int .i64 1), (.int .i64 0), (.int .i64 0), (.int .i64 0), (.int .i64 0), (.int .i64 0)] 3 none 0))]) (by kernel_rfl) ?_ (Nat.le_of_ble_eq_true rfl) (by kernel_rfl)) (fun e st h => ⟨h.1, h.2.elim fun j h2 => ⟨j, h2.trans (by kernel_rfl)⟩⟩)
  exact ⟨(Fx.lss_f (by omega)),
    (Fx.lss_f (by omega)),
    (Fx.leq_t (by omega)),
    trivial⟩

/- 760 steps -/
set_option maxHeartbeats 4000000 in
theorem rBz_0b (s : ByteArray) (q : Int) (hs : s.size ≤ 9223372036854775806) (h0 : 0 < s.size) (hb : byteAt s 0 = 98) (j : Nat → Value) : SX Tryz.prog 4101 body10 (H0Bz s q  j) (fun e' st' => e' = .normal ∧ ∃ j, st' = (HCBz s q 1 0 0 (gl [0, 0, 0, 0, 0, 2, 2, 0, 2, 2]) (gl [1, 1, 1, 0, 1, 0, 0, 0, 0, 0]) j)) := by
  refine SX.mono (SX.run ok mixed (T := tbl) (n := 400) (hs := [(3, (.q (.bool true))), (385, (.q (.bool true))), (3, (.q (.int .u8 (byteAt s 0)))), (0, (.q (.int .i64 (byteAt s 0)))), (3, (.q (.bool true))), (4, (.q (.int .u8 (byteAt s 0)))), (0, (.q (.int .i64 (byteAt s 0)))), (3, (.q (.bool true))), (335, (.q (.bool true))), (3, (.q (.int .u8 (byteAt s 0)))), (0, (.q (.int .i64 (byteAt s 0)))), (3, (.q (.bool true))), (4, (.q (.int .u8 (byteAt s 0)))), (0, (.q (.int .i64 (byteAt s 0)))), (3, (.q (.bool false)))]) (cs := [binV .leq (.int .i64 (byteAt s 0)) (.int .i64 97) = some (.bool false),
    (some (.int .i64 (IntKind.wrap .i64 (byteAt s 0))) : Option Value) = some (.int .i64 (byteAt s 0)),
    (if 0 ≤ (0 : Int) then ((ByteArray.data s).toList[Int.toNat 0]?).map (fun b => (.int .u8 b.toNat : Value)) else none) = some (.int .u8 (byteAt s 0)),
    binV .geq (.int .i64 (byteAt s 0)) (.int .i64 97) = some (.bool true),
    (some (.int .i64 (IntKind.wrap .i64 (byteAt s 0))) : Option Value) = some (.int .i64 (byteAt s 0)),
    (if 0 ≤ (0 : Int) then ((ByteArray.data s).toList[Int.toNat 0]?).map (fun b => (.int .u8 b.toNat : Value)) else none) = some (.int .u8 (byteAt s 0)),
    binV .lss (.int .i64 0) (.int .i64 ((s).size : Int)) = some (.bool true),
    binV .leq (.int .i64 (byteAt s 0)) (.int .i64 98) = some (.bool true),
    (some (.int .i64 (IntKind.wrap .i64 (byteAt s 0))) : Option Value) = some (.int .i64 (byteAt s 0)),
    (if 0 ≤ (0 : Int) then ((ByteArray.data s).toList[Int.toNat 0]?).map (fun b => (.int .u8 b.toNat : Value)) else none) = some (.int .u8 (byteAt s 0)),
    binV .geq (.int .i64 (byteAt s 0)) (.int .i64 98) = some (.bool true),
    (some (.int .i64 (IntKind.wrap .i64 (byteAt s 0))) : Option Value) = some (.int .i64 (byteAt s 0)),
    (if 0 ≤ (0 : Int) then ((ByteArray.data s).toList[Int.toNat 0]?).map (fun b => (.int .u8 b.toNat : Value)) else none) = some (.int .u8 (byteAt s 0)),
    binV .lss (.int .i64 0) (.int .i64 ((s).size : Int)) = some (.bool true),
    binV .leq (.int .i64 0) (.int .i64 ((s).size : Int)) = some (.bool true)]) (next := 4112) (σ := [(4101, 4101), (4102, 4102), (4103, 4110), (4104, 4113), (4105, 4105), (4106, 4138), (4107, 4135), (4108, 4106), (4109, 4103), (4110, 4122), (4111, 4104)]) (pat := (patOf 165 [(13, (.int .i64 1)), (1, (.string s)), (12, (.slice none 0 0)), (2, (.int .i64 0)), (3, (.bool true)), (4, (.pointer (some ⟨4101, 0, none⟩))), (9, (.pointer (some ⟨4102, 0, none⟩))), (10, (.pointer (some ⟨4105, 0, none⟩))), (11, (.pointer (some ⟨4109, 0, none⟩)))])) (l := [(4099, pr2z), (4096, (.cells [(.slice (some ⟨4097, 0, none⟩) 6 6), (.int .i64 1)] 30 none 0)), (4097, pr1z), (4098, (.cells [(.slice (some ⟨4099, 0, none⟩) 10 10), (.int .i64 1)] 30 none 0)), (4100, (.cells [(.int .i64 0), (.int .i64 q)] 3 (some 1) 0)), (4101, (.cells [(.slice (some ⟨4099, 0, none⟩) 10 10), (.int .i64 1)] 30 none 0)), (4102, (.cells [(.slice (some ⟨4099, 0, none⟩) 10 10), (.int .i64 1), (.string s), (.slice (some ⟨4103, 0, none⟩) 0 1)] 67 none 0)), (4103, (.cells [(.int .i64 8), (.slice (some ⟨4104, 0, none⟩) 2 2)] 73 (some 2) 0)), (4104, (.cells [(.int .i64 0), (.int .i64 (-1))] 3 (some 1) 0)), (4105, (.cells [(.slice (some ⟨4106, 0, none⟩) 2 2), (.slice (some ⟨4108, 0, none⟩) 10 10)] 70 none 0)), (4106, (.cells [(.int .i64 6), (.slice (some ⟨4104, 0, none⟩) 2 2), (.int .i64 9), (.slice (some ⟨4107, 0, none⟩) 2 2)] 73 (some 2) 0)), (4107, (.cells [(.int .i64 0), (.int .i64 1)] 3 (some 1) 0)), (4108, (.cells [(.int .i64 0), (.int .i64 0), (.int .i64 0), (.int .i64 0), (.int .i64 0), (.int .i64 2), (.int .i64 2), (.int .i64 0), (.int .i64 2), (.int .i64 2)] 3 none 0)), (4109, (.cells [(.slice (some ⟨4110, 0, none⟩) 2 2), (.slice (some ⟨4111, 0, none⟩) 10 10)] 70 none 0)), (4110, (.cells [(.int .i64 4), (.slice (some ⟨4104, 0, none⟩) 2 2), (.int .i64 2), (.slice (some ⟨4104, 0, none⟩) 2 2)] 73 (some 2) 0)), (4111, (.cells [(.int .i64 1), (.int .i64 1), (.int .i64 1), (.int .i64 0), (.int .i64 1), (.int .i64 0), (.int .i64 0), (.int .i64 0), (.int .i64 0), (.int .i64 0)] 3 none 0))]) (by kernel_rfl) ?_ (Nat.le_of_ble_eq_true rfl) (by kernel_rfl)) (fun e st h => ⟨h.1, h.2.elim fun j h2 => ⟨j, h2.trans (by kernel_rfl)⟩⟩)
  exact ⟨(Fx.leq_f (by omega)),
    (Fx.conv_i64 (by omega) (by omega)),
    (Fx.index (by omega) (by omega)),
    (Fx.geq_t (by omega)),
    (Fx.conv_i64 (by omega) (by omega)),
    (Fx.index (by omega) (by omega)),
    (Fx.lss_t (by omega)),
    (Fx.leq_t (by omega)),
    (Fx.conv_i64 (by omega) (by omega)),
    (Fx.index (by omega) (by omega)),
    (Fx.geq_t (by omega)),
    (Fx.conv_i64 (by omega) (by omega)),
    (Fx.index (by omega) (by omega)),
    (Fx.lss_t (by omega)),
    (Fx.leq_t (by omega)),
    trivial⟩

/- 397 steps -/
set_option maxHeartbeats 4000000 in
theorem rBz_Ba (s : ByteArray) (q : Int) (hs : s.size ≤ 9223372036854775806) (i b y z : Int) (c d : Nat → Int) (hi : 1 ≤ i) (hc : ∀ k, c k ≤ i + 1) (hd : ∀ k, d k ≤ i) (h0 : i < s.size) (hb : byteAt s i = 97) (j : Nat → Value) : SX Tryz.prog 4101 body10 (HBBz s q i c d j) (fun e' st' => e' = .normal ∧ ∃ j, st' = (HBBz s q (i + 1) (gl [(d 0), ((i + 1) + 1), ((i + 1) + 1), ((i + 1) + 1), ((i + 1) + 1), (d 5), (d 6), (d 7), (d 8), (d 9)]) (gl [(c 0), (c 1), (c 2), (c 3), (c 4), (c 5), (c 6), (c 7), (c 8), (c 9)]) j)) := by
  have hc0 := hc 0
  have hd0 := hd 0
  have hc1 := hc 1
  have hd1 := hd 1
  have hc2 := hc 2
  have hd2 := hd 2
  have hc3 := hc 3
  have hd3 := hd 3
  have hc4 := hc 4
  have hd4 := hd 4
  have hc5 := hc 5
  have hd5 := hd 5
  have hc6 := hc 6
  have hd6 := hd 6
  have hc7 := hc 7
  have hd7 := hd 7
  have hc8 := hc 8
  have hd8 := hd 8
  have hc9 := hc 9
  have hd9 := hd 9
  refine SX.mono (SX.run ok mixed (T := tbl) (n := 400) (hs := [(3, (.q (.bool true))), (5, (.q (.bool false))), (47, (.q (.bool true))), (3, (.q (.int .u8 (byteAt s i)))), (0, (.q (.int .i64 (byteAt s i)))), (3, (.q (.bool false))), (24, (.q (.bool true))), (3, (.q (.int .u8 (byteAt s i)))), (0, (.q (.int .i64 (byteAt s i)))), (3, (.q (.bool true))), (4, (.q (.int .u8 (byteAt s i)))), (0, (.q (.int .i64 (byteAt s i)))), (3, (.q (.bool true))), (9, (.q (.int .i64 (i + 1)))), (58, (.q (.int .i64 ((i + 1) + 1)))), (0, (.q (.bool false))), (7, (.q (.int .i64 ((i + 1) + 1)))), (40, (.q (.int .i64 ((i + 1) + 1)))), (0, (.q (.bool false))), (7, (.q (.int .i64 ((i + 1) + 1)))), (49, (.q (.int .i64 ((i + 1) + 1)))), (0, (.q (.bool false))), (7, (.q (.int .i64 ((i + 1) + 1)))), (72, (.q (.int .i64 ((i + 1) + 1)))), (0, (.q (.bool false))), (7, (.q (.int .i64 ((i + 1) + 1)))), (42, (.q (.int .i64 (i + 1))))]) (cs := [binV .add (.int .i64 i) (.int .i64 1) = some (.int .i64 (i + 1)),
    binV .add (.int .i64 (i + 1)) (.int .i64 1) = some (.int .i64 ((i + 1) + 1)),
    binV .eql (.int .i64 (d 2)) (.int .i64 ((i + 1) + 1)) = some (.bool false),
    binV .add (.int .i64 (i + 1)) (.int .i64 1) = some (.int .i64 ((i + 1) + 1)),
    binV .add (.int .i64 (i + 1)) (.int .i64 1) = some (.int .i64 ((i + 1) + 1)),
    binV .eql (.int .i64 (d 4)) (.int .i64 ((i + 1) + 1)) = some (.bool false),
    binV .add (.int .i64 (i + 1)) (.int .i64 1) = some (.int .i64 ((i + 1) + 1)),
    binV .add (.int .i64 (i + 1)) (.int .i64 1) = some (.int .i64 ((i + 1) + 1)),
    binV .eql (.int .i64 (d 1)) (.int .i64 ((i + 1) + 1)) = some (.bool false),
    binV .add (.int .i64 (i + 1)) (.int .i64 1) = some (.int .i64 ((i + 1) + 1)),
    binV .add (.int .i64 (i + 1)) (.int .i64 1) = some (.int .i64 ((i + 1) + 1)),
    binV .eql (.int .i64 (d 3)) (.int .i64 ((i + 1) + 1)) = some (.bool false),
    binV .add (.int .i64 (i + 1)) (.int .i64 1) = some (.int .i64 ((i + 1) + 1)),
    binV .add (.int .i64 i) (.int .i64 1) = some (.int .i64 (i + 1)),
    binV .leq (.int .i64 (byteAt s i)) (.int .i64 97) = some (.bool true),
    (some (.int .i64 (IntKind.wrap .i64 (byteAt s i))) : Option Value) = some (.int .i64 (byteAt s i)),
    (if 0 ≤ (i : Int) then ((ByteArray.data s).toList[Int.toNat i]?).map (fun b => (.int .u8 b.toNat : Value)) else none) = some (.int .u8 (byteAt s i)),
    binV .geq (.int .i64 (byteAt s i)) (.int .i64 97) = some (.bool true),
    (some (.int .i64 (IntKind.wrap .i64 (byteAt s i))) : Option Value) = some (.int .i64 (byteAt s i)),
    (if 0 ≤ (i : Int) then ((ByteArray.data s).toList[Int.toNat i]?).map (fun b => (.int .u8 b.toNat : Value)) else none) = some (.int .u8 (byteAt s i)),
    binV .lss (.int .i64 i) (.int .i64 ((s).size : Int)) = some (.bool true),
    binV .geq (.int .i64 (byteAt s i)) (.int .i64 98) = some (.bool false),
    (some (.int .i64 (IntKind.wrap .i64 (byteAt s i))) : Option Value) = some (.int .i64 (byteAt s i)),
    (if 0 ≤ (i : Int) then ((ByteArray.data s).toList[Int.toNat i]?).map (fun b => (.int .u8 b.toNat : Value)) else none) = some (.int .u8 (byteAt s i)),
    binV .lss (.int .i64 i) (.int .i64 ((s).size : Int)) = some (.bool true),
    binV .eql (.int .i64 i) (.int .i64 0) = some (.bool false),
    binV .leq (.int .i64 i) (.int .i64 ((s).size : Int)) = some (.bool true)]) (next := 4111) (σ := [(4101, 4101), (4102, 4102), (4103, 4103), (4104, 4104), (4105, 4108), (4106, 4109), (4107, 4110), (4108, 4105), (4109, 4106), (4110, 4107)]) (pat := (patOf 165 [(13, (.int .i64 (i + 1))), (1, (.string s)), (12, (.slice none 0 0)), (2, (.int .i64 0)), (3, (.bool true)), (4, (.pointer (some ⟨4101, 0, none⟩))), (9, (.pointer (some ⟨4102, 0, none⟩))), (10, (.pointer (some ⟨4105, 0, none⟩))), (11, (.pointer (some ⟨4108, 0, none⟩)))])) (l := [(4099, pr2z), (4096, (.cells [(.slice (some ⟨4097, 0, none⟩) 6 6), (.int .i64 1)] 30 none 0)), (4097, pr1z), (4098, (.cells [(.slice (some ⟨4099, 0, none⟩) 10 10), (.int .i64 1)] 30 none 0)), (4100, (.cells [(.int .i64 0), (.int .i64 q)] 3 (some 1) 0)), (4101, (.cells [(.slice (some ⟨4099, 0, none⟩) 10 10), (.int .i64 1)] 30 none 0)), (4102, (.cells [(.slice (some ⟨4099, 0, none⟩) 10 10), (.int .i64 1), (.string s), (.slice (some ⟨4103, 0, none⟩) 0 1)] 67 none 0)), (4103, (.cells [(.int .i64 2), (.slice (some ⟨4104, 0, none⟩) 2 2)] 73 (some 2) 0)), (4104, (.cells [(.int .i64 0), (.int .i64 (-1))] 3 (some 1) 0)), (4105, (.cells [(.slice (some ⟨4106, 0, none⟩) 2 2), (.slice (some ⟨4107, 0, none⟩) 10 10)] 70 none 0)), (4106, (.cells [(.int .i64 4), (.slice (some ⟨4104, 0, none⟩) 2 2), (.int .i64 2), (.slice (some ⟨4104, 0, none⟩) 2 2)] 73 (some 2) 0)), (4107, (.cells [(.int .i64 (d 0)), (.int .i64 ((i + 1) + 1)), (.int .i64 ((i + 1) + 1)), (.int .i64 ((i + 1) + 1)), (.int .i64 ((i + 1) + 1)), (.int .i64 (d 5)), (.int .i64 (d 6)), (.int .i64 (d 7)), (.int .i64 (d 8)), (.int .i64 (d 9))] 3 none 0)), (4108, (.cells [(.slice (some ⟨4109, 0, none⟩) 2 2), (.slice (some ⟨4110, 0, none⟩) 10 10)] 70 none 0)), (4109, (.cells [(.int .i64 4), (.slice (some ⟨4104, 0, none⟩) 2 2), (.int .i64 2), (.slice (some ⟨4104, 0, none⟩) 2 2)] 73 (some 2) 0)), (4110, (.cells [(.int .i64 (c 0)), (.int .i64 (c 1)), (.int .i64 (c 2)), (.int .i64 (c 3)), (.int .i64 (c 4)), (.int .i64 (c 5)), (.int .i64 (c 6)), (.int .i64 (c 7)), (.int .i64 (c 8)), (.int .i64 (c 9))] 3 none 0))]) (by kernel_rfl) ?_ (Nat.le_of_ble_eq_true rfl) (by kernel_rfl)) (fun e st h => ⟨h.1, h.2.elim fun j h2 => ⟨j, h2.trans (by kernel_rfl)⟩⟩)
  exact ⟨(Fx.add_add (by omega) (by omega)),
    (Fx.add_add (by omega) (by omega)),
    (Fx.eql_f (by omega)),
    (Fx.add_add (by omega) (by omega)),
    (Fx.add_add (by omega) (by omega)),
    (Fx.eql_f (by omega)),
    (Fx.add_add (by omega) (by omega)),
    (Fx.add_add (by omega) (by omega)),
    (Fx.eql_f (by omega)),
    (Fx.add_add (by omega) (by omega)),
    (Fx.add_add (by omega) (by omega)),
    (Fx.eql_f (by omega)),
    (Fx.add_add (by omega) (by omega)),
    (Fx.add_add (by omega) (by omega)),
    (Fx.leq_t (by omega)),
    (Fx.conv_i64 (by omega) (by omega)),
    (Fx.index (by omega) (by omega)),
    (Fx.geq_t (by omega)),
    (Fx.conv_i64 (by omega) (by omega)),
    (Fx.index (by omega) (by omega)),
    (Fx.lss_t (by omega)),
    (Fx.geq_f (by omega)),
    (Fx.conv_i64 (by omega) (by omega)),
    (Fx.index (by omega) (by omega)),
    (Fx.lss_t (by omega)),
    (Fx.eql_f (by omega)),
    (Fx.leq_t (by omega)),
    trivial⟩

/- 93 steps -/
set_option maxHeartbeats 4000000 in
theorem rBz_Be (s : ByteArray) (q : Int) (hs : s.size ≤ 9223372036854775806) (i b y z : Int) (c d : Nat → Int) (hi : 1 ≤ i) (hc : ∀ k, c k ≤ i + 1) (hd : ∀ k, d k ≤ i) (h0 : i = s.size) (j : Nat → Value) : SX Tryz.prog 4101 body10 (HBBz s q i c d j) (fun e' st' => e' = .normal ∧ ∃ j, st' = (HNBz s q (i + 1) 0 0 (gl [(d 0), (d 1), (d 2), (d 3), (d 4), (d 5), (d 6), (d 7), (d 8), (d 9)]) (gl [(c 0), (c 1), (c 2), (c 3), (c 4), (c 5), (c 6), (c 7), (c 8), (c 9)]) j)) := by
  have hc0 := hc 0
  have hd0 := hd 0
  have hc1 := hc 1
  have hd1 := hd 1
  have hc2 := hc 2
  have hd2 := hd 2
  have hc3 := hc 3
  have hd3 := hd 3
  have hc4 := hc 4
  have hd4 := hd 4
  have hc5 := hc 5
  have hd5 := hd 5
  have hc6 := hc 6
  have hd6 := hd 6
  have hc7 := hc 7
  have hd7 := hd 7
  have hc8 := hc 8
  have hd8 := hd 8
  have hc9 := hc 9
  have hd9 := hd 9
  refine SX.mono (SX.run ok mixed (T := tbl) (n := 400) (hs := [(3, (.q (.bool true))), (5, (.q (.bool false))), (47, (.q (.bool false))), (25, (.q (.bool false))), (12, (.q (.int .i64 (i + 1))))]) (cs := [binV .add (.int .i64 i) (.int .i64 1) = some (.int .i64 (i + 1)),
    binV .lss (.int .i64 i) (.int .i64 ((s).size : Int)) = some (.bool false),
    binV .lss (.int .i64 i) (.int .i64 ((s).size : Int)) = some (.bool false),
    binV .eql (.int .i64 i) (.int .i64 0) = some (.bool false),
    binV .leq (.int .i64 i) (.int .i64 ((s).size : Int)) = some (.bool true)]) (next := 4111) (σ := [(4101, 4101), (4102, 4102), (4103, 4103), (4104, 4104), (4105, 4108), (4106, 4109), (4107, 4110), (4108, 4105), (4109, 4106), (4110, 4107)]) (pat := (patOf 165 [(13, (.int .i64 (i + 1))), (1, (.string s)), (12, (.slice none 0 0)), (2, (.int .i64 0)), (3, (.bool true)), (4, (.pointer (some ⟨4101, 0, none⟩))), (9, (.pointer (some ⟨4102, 0, none⟩))), (10, (.pointer (some ⟨4105, 0, none⟩))), (11, (.pointer (some ⟨4108, 0, none⟩)))])) (l := [(4099, pr2z), (4096, (.cells [(.slice (some ⟨4097, 0, none⟩) 6 6), (.int .i64 1)] 30 none 0)), (4097, pr1z), (4098, (.cells [(.slice (some ⟨4099, 0, none⟩) 10 10), (.int .i64 1)] 30 none 0)), (4100, (.cells [(.int .i64 0), (.int .i64 q)] 3 (some 1) 0)), (4101, (.cells [(.slice (some ⟨4099, 0, none⟩) 10 10), (.int .i64 1)] 30 none 0)), (4102, (.cells [(.slice (some ⟨4099, 0, none⟩) 10 10), (.int .i64 1), (.string s), (.slice (some ⟨4103, 0, none⟩) 0 1)] 67 none 0)), (4103, (.cells [(.int .i64 2), (.slice (some ⟨4104, 0, none⟩) 2 2)] 73 (some 2) 0)), (4104, (.cells [(.int .i64 0), (.int .i64 (-1))] 3 (some 1) 0)), (4105, (.cells [(.slice (some ⟨4106, 0, none⟩) 0 2), (.slice (some ⟨4107, 0, none⟩) 10 10)] 70 none 0)), (4106, (.cells [(.int .i64 4), (.slice (some ⟨4104, 0, none⟩) 2 2), (.int .i64 2), (.slice (some ⟨4104, 0, none⟩) 2 2)] 73 (some 2) 0)), (4107, (.cells [(.int .i64 (d 0)), (.int .i64 (d 1)), (.int .i64 (d 2)), (.int .i64 (d 3)), (.int .i64 (d 4)), (.int .i64 (d 5)), (.int .i64 (d 6)), (.int .i64 (d 7)), (.int .i64 (d 8)), (.int .i64 (d 9))] 3 none 0)), (4108, (.cells [(.slice (some ⟨4109, 0, none⟩) 2 2), (.slice (some ⟨4110, 0, none⟩) 10 10)] 70 none 0)), (4109, (.cells [(.int .i64 4), (.slice (some ⟨4104, 0, none⟩) 2 2), (.int .i64 2), (.slice (some ⟨4104, 0, none⟩) 2 2)] 73 (some 2) 0)), (4110, (.cells [(.int .i64 (c 0)), (.int .i64 (c 1)), (.int .i64 (c 2)), (.int .i64 (c 3)), (.int .i64 (c 4)), (.int .i64 (c 5)), (.int .i64 (c 6)), (.int .i64 (c 7)), (.int .i64 (c 8)), (.int .i64 (c 9))] 3 none 0))]) (by kernel_rfl) ?_ (Nat.le_of_ble_eq_true rfl) (by kernel_rfl)) (fun e st h => ⟨h.1, h.2.elim fun j h2 => ⟨j, h2.trans (by kernel_rfl)⟩⟩)
  exact ⟨(Fx.add_add (by omega) (by omega)),
    (Fx.lss_f (by omega)),
    (Fx.lss_f (by omega)),
    (Fx.eql_f (by omega)),
    (Fx.leq_t (by omega)),
    trivial⟩

/- 413 steps -/
set_option maxHeartbeats 4000000 in
theorem rBz_Bb (s : ByteArray) (q : Int) (hs : s.size ≤ 9223372036854775806) (i b y z : Int) (c d : Nat → Int) (hi : 1 ≤ i) (hc : ∀ k, c k ≤ i + 1) (hd : ∀ k, d k ≤ i) (h0 : i < s.size) (hb : byteAt s i = 98) (j : Nat → Value) : SX Tryz.prog 4101 body10 (HBBz s q i c d j) (fun e' st' => e' = .normal ∧ ∃ j, st' = (HCBz s q (i + 1) 0 0 (gl [(d 0), (d 1), (d 2), (d 3), (d 4), ((i + 1) + 1), ((i + 1) + 1), (d 7), ((i + 1) + 1), ((i + 1) + 1)]) (gl [(c 0), (c 1), (c 2), (c 3), (c 4), (c 5), (c 6), (c 7), (c 8), (c 9)]) j)) := by
  have hc0 := hc 0
  have hd0 := hd 0
  have hc1 := hc 1
  have hd1 := hd 1
  have hc2 := hc 2
  have hd2 := hd 2
  have hc3 := hc 3
  have hd3 := hd 3
  have hc4 := hc 4
  have hd4 := hd 4
  have hc5 := hc 5
  have hd5 := hd 5
  have hc6 := hc 6
  have hd6 := hd 6
  have hc7 := hc 7
  have hd7 := hd 7
  have hc8 := hc 8
  have hd8 := hd 8
  have hc9 := hc 9
  have hd9 := hd 9
  refine SX.mono (SX.run ok mixed (T := tbl) (n := 400) (hs := [(3, (.q (.bool true))), (5, (.q (.bool false))), (47, (.q (.bool true))), (3, (.q (.int .u8 (byteAt s i)))), (0, (.q (.int .i64 (byteAt s i)))), (3, (.q (.bool true))), (4, (.q (.int .u8 (byteAt s i)))), (0, (.q (.int .i64 (byteAt s i)))), (3, (.q (.bool true))), (9, (.q (.int .i64 (i + 1)))), (58, (.q (.int .i64 ((i + 1) + 1)))), (0, (.q (.bool false))), (7, (.q (.int .i64 ((i + 1) + 1)))), (49, (.q (.int .i64 ((i + 1) + 1)))), (0, (.q (.bool false))), (7, (.q (.int .i64 ((i + 1) + 1)))), (72, (.q (.int .i64 ((i + 1) + 1)))), (0, (.q (.bool false))), (7, (.q (.int .i64 ((i + 1) + 1)))), (49, (.q (.int .i64 ((i + 1) + 1)))), (0, (.q (.bool false))), (7, (.q (.int .i64 ((i + 1) + 1)))), (57, (.q (.bool true))), (3, (.q (.int .u8 (byteAt s i)))), (0, (.q (.int .i64 (byteAt s i)))), (3, (.q (.bool true))), (4, (.q (.int .u8 (byteAt s i)))), (0, (.q (.int .i64 (byteAt s i)))), (3, (.q (.bool false))), (9, (.q (.int .i64 (i + 1))))]) (cs := [binV .add (.int .i64 i) (.int .i64 1) = some (.int .i64 (i + 1)),
    binV .leq (.int .i64 (byteAt s i)) (.int .i64 97) = some (.bool false),
    (some (.int .i64 (IntKind.wrap .i64 (byteAt s i))) : Option Value) = some (.int .i64 (byteAt s i)),
    (if 0 ≤ (i : Int) then ((ByteArray.data s).toList[Int.toNat i]?).map (fun b => (.int .u8 b.toNat : Value)) else none) = some (.int .u8 (byteAt s i)),
    binV .geq (.int .i64 (byteAt s i)) (.int .i64 97) = some (.bool true),
    (some (.int .i64 (IntKind.wrap .i64 (byteAt s i))) : Option Value) = some (.int .i64 (byteAt s i)),
    (if 0 ≤ (i : Int) then ((ByteArray.data s).toList[Int.toNat i]?).map (fun b => (.int .u8 b.toNat : Value)) else none) = some (.int .u8 (byteAt s i)),
    binV .lss (.int .i64 i) (.int .i64 ((s).size : Int)) = some (.bool true),
    binV .add (.int .i64 (i + 1)) (.int .i64 1) = some (.int .i64 ((i + 1) + 1)),
    binV .eql (.int .i64 (d 9)) (.int .i64 ((i + 1) + 1)) = some (.bool false),
    binV .add (.int .i64 (i + 1)) (.int .i64 1) = some (.int .i64 ((i + 1) + 1)),
    binV .add (.int .i64 (i + 1)) (.int .i64 1) = some (.int .i64 ((i + 1) + 1)),
    binV .eql (.int .i64 (d 8)) (.int .i64 ((i + 1) + 1)) = some (.bool false),
    binV .add (.int .i64 (i + 1)) (.int .i64 1) = some (.int .i64 ((i + 1) + 1)),
    binV .add (.int .i64 (i + 1)) (.int .i64 1) = some (.int .i64 ((i + 1) + 1)),
    binV .eql (.int .i64 (d 6)) (.int .i64 ((i + 1) + 1)) = some (.bool false),
    binV .add (.int .i64 (i + 1)) (.int .i64 1) = some (.int .i64 ((i + 1) + 1)),
    binV .add (.int .i64 (i + 1)) (.int .i64 1) = some (.int .i64 ((i + 1) + 1)),
    binV .eql (.int .i64 (d 5)) (.int .i64 ((i + 1) + 1)) = some (.bool false),
    binV .add (.int .i64 (i + 1)) (.int .i64 1) = some (.int .i64 ((i + 1) + 1)),
    binV .add (.int .i64 i) (.int .i64 1) = some (.int .i64 (i + 1)),
    binV .leq (.int .i64 (byteAt s i)) (.int .i64 98) = some (.bool true),
    (some (.int .i64 (IntKind.wrap .i64 (byteAt s i))) : Option Value) = some (.int .i64 (byteAt s i)),
    (if 0 ≤ (i : Int) then ((ByteArray.data s).toList[Int.toNat i]?).map (fun b => (.int .u8 b.toNat : Value)) else none) = some (.int .u8 (byteAt s i)),
    binV .geq (.int .i64 (byteAt s i)) (.int .i64 98) = some (.bool true),
    (some (.int .i64 (IntKind.wrap .i64 (byteAt s i))) : Option Value) = some (.int .i64 (byteAt s i)),
    (if 0 ≤ (i : Int) then ((ByteArray.data s).toList[Int.toNat i]?).map (fun b => (.int .u8 b.toNat : Value)) else none) = some (.int .u8 (byteAt s i)),
    binV .lss (.int .i64 i) (.int .i64 ((s).size : Int)) = some (.bool true),
    binV .eql (.int .i64 i) (.int .i64 0) = some (.bool false),
    binV .leq (.int .i64 i) (.int .i64 ((s).size : Int)) = some (.bool true)]) (next := 4112) (σ := [(4101, 4101), (4102, 4102), (4103, 4103), (4104, 4104), (4105, 4108), (4106, 4109), (4107, 4122), (4108, 4110), (4109, 4105), (4110, 4106), (4111, 4107)]) (pat := (patOf 165 [(13, (.int .i64 (i + 1))), (1, (.string s)), (12, (.slice none 0 0)), (2, (.int .i64 0)), (3, (.bool true)), (4, (.pointer (some ⟨4101, 0, none⟩))), (9, (.pointer (some ⟨4102, 0, none⟩))), (10, (.pointer (some ⟨4105, 0, none⟩))), (11, (.pointer (some ⟨4109, 0, none⟩)))])) (l := [(4099, pr2z), (4096, (.cells [(.slice (some ⟨4097, 0, none⟩) 6 6), (.int .i64 1)] 30 none 0)), (4097, pr1z), (4098, (.cells [(.slice (some ⟨4099, 0, none⟩) 10 10), (.int .i64 1)] 30 none 0)), (4100, (.cells [(.int .i64 0), (.int .i64 q)] 3 (some 1) 0)), (4101, (.cells [(.slice (some ⟨4099, 0, none⟩) 10 10), (.int .i64 1)] 30 none 0)), (4102, (.cells [(.slice (some ⟨4099, 0, none⟩) 10 10), (.int .i64 1), (.string s), (.slice (some ⟨4103, 0, none⟩) 0 1)] 67 none 0)), (4103, (.cells [(.int .i64 8), (.slice (some ⟨4104, 0, none⟩) 2 2)] 73 (some 2) 0)), (4104, (.cells [(.int .i64 0), (.int .i64 (-1))] 3 (some 1) 0)), (4105, (.cells [(.slice (some ⟨4106, 0, none⟩) 2 2), (.slice (some ⟨4108, 0, none⟩) 10 10)] 70 none 0)), (4106, (.cells [(.int .i64 6), (.slice (some ⟨4104, 0, none⟩) 2 2), (.int .i64 9), (.slice (some ⟨4107, 0, none⟩) 2 2)] 73 (some 2) 0)), (4107, (.cells [(.int .i64 0), (.int .i64 (i + 1))] 3 (some 1) 0)), (4108, (.cells [(.int .i64 (d 0)), (.int .i64 (d 1)), (.int .i64 (d 2)), (.int .i64 (d 3)), (.int .i64 (d 4)), (.int .i64 ((i + 1) + 1)), (.int .i64 ((i + 1) + 1)), (.int .i64 (d 7)), (.int .i64 ((i + 1) + 1)), (.int .i64 ((i + 1) + 1))] 3 none 0)), (4109, (.cells [(.slice (some ⟨4110, 0, none⟩) 2 2), (.slice (some ⟨4111, 0, none⟩) 10 10)] 70 none 0)), (4110, (.cells [(.int .i64 4), (.slice (some ⟨4104, 0, none⟩) 2 2), (.int .i64 2), (.slice (some ⟨4104, 0, none⟩) 2 2)] 73 (some 2) 0)), (4111, (.cells [(.int .i64 (c 0)), (.int .i64 (c 1)), (.int .i64 (c 2)), (.int .i64 (c 3)), (.int .i64 (c 4)), (.int .i64 (c 5)), (.int .i64 (c 6)), (.int .i64 (c 7)), (.int .i64 (c 8)), (.int .i64 (c 9))] 3 none 0))]) (by kernel_rfl) ?_ (Nat.le_of_ble_eq_true rfl) (by kernel_rfl)) (fun e st h => ⟨h.1, h.2.elim fun j h2 => ⟨j, h2.trans (by kernel_rfl)⟩⟩)
  exact ⟨(Fx.add_add (by omega) (by omega)),
    (Fx.leq_f (by omega)),
    (Fx.conv_i64 (by omega) (by omega)),
    (Fx.index (by omega) (by omega)),
    (Fx.geq_t (by omega)),
    (Fx.conv_i64 (by omega) (by omega)),
    (Fx.index (by omega) (by omega)),
    (Fx.lss_t (by omega)),
    (Fx.add_add (by omega) (by omega)),
    (Fx.eql_f (by omega)),
    (Fx.add_add (by omega) (by omega)),
    (Fx.add_add (by omega) (by omega)),
    (Fx.eql_f (by omega)),
    (Fx.add_add (by omega) (by omega)),
    (Fx.add_add (by omega) (by omega)),
    (Fx.eql_f (by omega)),
    (Fx.add_add (by omega) (by omega)),
    (Fx.add_add (by omega) (by omega)),
    (Fx.eql_f (by omega)),
    (Fx.add_add (by omega) (by omega)),
    (Fx.add_add (by omega) (by omega)),
    (Fx.leq_t (by omega)),
    (Fx.conv_i64 (by omega) (by omega)),
    (Fx.index (by omega) (by omega)),
    (Fx.geq_t (by omega)),
    (Fx.conv_i64 (by omega) (by omega)),
    (Fx.index (by omega) (by omega)),
    (Fx.lss_t (by omega)),
    (Fx.eql_f (by omega)),
    (Fx.leq_t (by omega)),
    trivial⟩

/- 443 steps -/
set_option maxHeartbeats 4000000 in
theorem rBz_Cb (s : ByteArray) (q : Int) (hs : s.size ≤ 9223372036854775806) (i b y z : Int) (c d : Nat → Int) (hi : 1 ≤ i) (hc : ∀ k, c k ≤ i + 1) (hd : ∀ k, d k ≤ i) (h0 : i < s.size) (hb : byteAt s i = 98) (j : Nat → Value) : SX Tryz.prog 4101 body10 (HCBz s q i 0 0 c d j) (fun e' st' => e' = .normal ∧ ∃ j, st' = (HDBz s q (i + 1) i 0 0 (gl [(d 0), (d 1), (d 2), (d 3), (d 4), ((i + 1) + 1), ((i + 1) + 1), ((i + 1) + 1), ((i + 1) + 1), ((i + 1) + 1)]) (gl [(c 0), (c 1), (c 2), (c 3), (c 4), (c 5), (c 6), (c 7), (c 8), (c 9)]) j)) := by
  have hc0 := hc 0
  have hd0 := hd 0
  have hc1 := hc 1
  have hd1 := hd 1
  have hc2 := hc 2
  have hd2 := hd 2
  have hc3 := hc 3
  have hd3 := hd 3
  have hc4 := hc 4
  have hd4 := hd 4
  have hc5 := hc 5
  have hd5 := hd 5
  have hc6 := hc 6
  have hd6 := hd 6
  have hc7 := hc 7
  have hd7 := hd 7
  have hc8 := hc 8
  have hd8 := hd 8
  have hc9 := hc 9
  have hd9 := hd 9
  refine SX.mono (SX.run ok mixed (T := tbl) (n := 400) (hs := [(3, (.q (.bool true))), (5, (.q (.bool false))), (47, (.q (.bool true))), (3, (.q (.int .u8 (byteAt s i)))), (0, (.q (.int .i64 (byteAt s i)))), (3, (.q (.bool true))), (4, (.q (.int .u8 (byteAt s i)))), (0, (.q (.int .i64 (byteAt s i)))), (3, (.q (.bool true))), (9, (.q (.int .i64 (i + 1)))), (58, (.q (.int .i64 ((i + 1) + 1)))), (0, (.q (.bool false))), (7, (.q (.int .i64 ((i + 1) + 1)))), (40, (.q (.int .i64 ((i + 1) + 1)))), (0, (.q (.bool false))), (7, (.q (.int .i64 ((i + 1) + 1)))), (49, (.q (.int .i64 ((i + 1) + 1)))), (0, (.q (.bool false))), (7, (.q (.int .i64 ((i + 1) + 1)))), (72, (.q (.int .i64 ((i + 1) + 1)))), (0, (.q (.bool false))), (7, (.q (.int .i64 ((i + 1) + 1)))), (49, (.q (.int .i64 ((i + 1) + 1)))), (0, (.q (.bool false))), (7, (.q (.int .i64 ((i + 1) + 1)))), (62, (.q (.int .i64 (i + 1))))]) (cs := [binV .add (.int .i64 i) (.int .i64 1) = some (.int .i64 (i + 1)),
    binV .add (.int .i64 (i + 1)) (.int .i64 1) = some (.int .i64 ((i + 1) + 1)),
    binV .eql (.int .i64 (d 9)) (.int .i64 ((i + 1) + 1)) = some (.bool false),
    binV .add (.int .i64 (i + 1)) (.int .i64 1) = some (.int .i64 ((i + 1) + 1)),
    binV .add (.int .i64 (i + 1)) (.int .i64 1) = some (.int .i64 ((i + 1) + 1)),
    binV .eql (.int .i64 (d 8)) (.int .i64 ((i + 1) + 1)) = some (.bool false),
    binV .add (.int .i64 (i + 1)) (.int .i64 1) = some (.int .i64 ((i + 1) + 1)),
    binV .add (.int .i64 (i + 1)) (.int .i64 1) = some (.int .i64 ((i + 1) + 1)),
    binV .eql (.int .i64 (d 6)) (.int .i64 ((i + 1) + 1)) = some (.bool false),
    binV .add (.int .i64 (i + 1)) (.int .i64 1) = some (.int .i64 ((i + 1) + 1)),
    binV .add (.int .i64 (i + 1)) (.int .i64 1) = some (.int .i64 ((i + 1) + 1)),
    binV .eql (.int .i64 (d 5)) (.int .i64 ((i + 1) + 1)) = some (.bool false),
    binV .add (.int .i64 (i + 1)) (.int .i64 1) = some (.int .i64 ((i + 1) + 1)),
    binV .add (.int .i64 (i + 1)) (.int .i64 1) = some (.int .i64 ((i + 1) + 1)),
    binV .eql (.int .i64 (d 7)) (.int .i64 ((i + 1) + 1)) = some (.bool false),
    binV .add (.int .i64 (i + 1)) (.int .i64 1) = some (.int .i64 ((i + 1) + 1)),
    binV .add (.int .i64 i) (.int .i64 1) = some (.int .i64 (i + 1)),
    binV .leq (.int .i64 (byteAt s i)) (.int .i64 98) = some (.bool true),
    (some (.int .i64 (IntKind.wrap .i64 (byteAt s i))) : Option Value) = some (.int .i64 (byteAt s i)),
    (if 0 ≤ (i : Int) then ((ByteArray.data s).toList[Int.toNat i]?).map (fun b => (.int .u8 b.toNat : Value)) else none) = some (.int .u8 (byteAt s i)),
    binV .geq (.int .i64 (byteAt s i)) (.int .i64 98) = some (.bool true),
    (some (.int .i64 (IntKind.wrap .i64 (byteAt s i))) : Option Value) = some (.int .i64 (byteAt s i)),
    (if 0 ≤ (i : Int) then ((ByteArray.data s).toList[Int.toNat i]?).map (fun b => (.int .u8 b.toNat : Value)) else none) = some (.int .u8 (byteAt s i)),
    binV .lss (.int .i64 i) (.int .i64 ((s).size : Int)) = some (.bool true),
    binV .eql (.int .i64 i) (.int .i64 0) = some (.bool false),
    binV .leq (.int .i64 i) (.int .i64 ((s).size : Int)) = some (.bool true)]) (next := 4113) (σ := [(4101, 4107), (4102, 4101), (4103, 4102), (4104, 4103), (4105, 4104), (4106, 4109), (4107, 4110), (4108, 4124), (4109, 4111), (4110, 4105), (4111, 4106), (4112, 4108)]) (pat := (patOf 165 [(13, (.int .i64 (i + 1))), (1, (.string s)), (12, (.slice (some ⟨4101, 0, none⟩) 2 2)), (2, (.int .i64 0)), (3, (.bool true)), (4, (.pointer (some ⟨4102, 0, none⟩))), (9, (.pointer (some ⟨4103, 0, none⟩))), (10, (.pointer (some ⟨4106, 0, none⟩))), (11, (.pointer (some ⟨4110, 0, none⟩)))])) (l := [(4099, pr2z), (4096, (.cells [(.slice (some ⟨4097, 0, none⟩) 6 6), (.int .i64 1)] 30 none 0)), (4097, pr1z), (4098, (.cells [(.slice (some ⟨4099, 0, none⟩) 10 10), (.int .i64 1)] 30 none 0)), (4100, (.cells [(.int .i64 0), (.int .i64 q)] 3 (some 1) 0)), (4101, (.cells [(.int .i64 0), (.int .i64 i)] 3 (some 1) 0)), (4102, (.cells [(.slice (some ⟨4099, 0, none⟩) 10 10), (.int .i64 1)] 30 none 0)), (4103, (.cells [(.slice (some ⟨4099, 0, none⟩) 10 10), (.int .i64 1), (.string s), (.slice (some ⟨4104, 0, none⟩) 0 1)] 67 none 0)), (4104, (.cells [(.int .i64 8), (.slice (some ⟨4105, 0, none⟩) 2 2)] 73 (some 2) 0)), (4105, (.cells [(.int .i64 0), (.int .i64 (-1))] 3 (some 1) 0)), (4106, (.cells [(.slice (some ⟨4107, 0, none⟩) 2 2), (.slice (some ⟨4109, 0, none⟩) 10 10)] 70 none 0)), (4107, (.cells [(.int .i64 6), (.slice (some ⟨4105, 0, none⟩) 2 2), (.int .i64 9), (.slice (some ⟨4108, 0, none⟩) 2 2)] 73 (some 2) 0)), (4108, (.cells [(.int .i64 0), (.int .i64 (i + 1))] 3 (some 1) 0)), (4109, (.cells [(.int .i64 (d 0)), (.int .i64 (d 1)), (.int .i64 (d 2)), (.int .i64 (d 3)), (.int .i64 (d 4)), (.int .i64 ((i + 1) + 1)), (.int .i64 ((i + 1) + 1)), (.int .i64 ((i + 1) + 1)), (.int .i64 ((i + 1) + 1)), (.int .i64 ((i + 1) + 1))] 3 none 0)), (4110, (.cells [(.slice (some ⟨4111, 0, none⟩) 2 2), (.slice (some ⟨4112, 0, none⟩) 10 10)] 70 none 0)), (4111, (.cells [(.int .i64 6), (.slice (some ⟨4105, 0, none⟩) 2 2), (.int .i64 9), (.slice (some ⟨4101, 0, none⟩) 2 2)] 73 (some 2) 0)), (4112, (.cells [(.int .i64 (c 0)), (.int .i64 (c 1)), (.int .i64 (c 2)), (.int .i64 (c 3)), (.int .i64 (c 4)), (.int .i64 (c 5)), (.int .i64 (c 6)), (.int .i64 (c 7)), (.int .i64 (c 8)), (.int .i64 (c 9))] 3 none 0))]) (by kernel_rfl) ?_ (Nat.le_of_ble_eq_true rfl) (by kernel_rfl)) (fun e st h => ⟨h.1, h.2.elim fun j h2 => ⟨j, h2.trans (by kernel_rfl)⟩⟩)
  exact ⟨(Fx.add_add (by omega) (by omega)),
    (Fx.add_add (by omega) (by omega)),
    (Fx.eql_f (by omega)),
    (Fx.add_add (by omega) (by omega)),
    (Fx.add_add (by omega) (by omega)),
    (Fx.eql_f (by omega)),
    (Fx.add_add (by omega) (by omega)),
    (Fx.add_add (by omega) (by omega)),
    (Fx.eql_f (by omega)),
    (Fx.add_add (by omega) (by omega)),
    (Fx.add_add (by omega) (by omega)),
    (Fx.eql_f (by omega)),
    (Fx.add_add (by omega) (by omega)),
    (Fx.add_add (by omega) (by omega)),
    (Fx.eql_f (by omega)),
    (Fx.add_add (by omega) (by omega)),
    (Fx.add_add (by omega) (by omega)),
    (Fx.leq_t (by omega)),
    (Fx.conv_i64 (by omega) (by omega)),
    (Fx.index (by omega) (by omega)),
    (Fx.geq_t (by omega)),
    (Fx.conv_i64 (by omega) (by omega)),
    (Fx.index (by omega) (by omega)),
    (Fx.lss_t (by omega)),
    (Fx.eql_f (by omega)),
    (Fx.leq_t (by omega)),
    trivial⟩

/- 86 steps -/
set_option maxHeartbeats 4000000 in
theorem rBz_Ce (s : ByteArray) (q : Int) (hs : s.size ≤ 9223372036854775806) (i b y z : Int) (c d : Nat → Int) (hi : 1 ≤ i) (hc : ∀ k, c k ≤ i + 1) (hd : ∀ k, d k ≤ i) (h0 : i = s.size) (j : Nat → Value) : SX Tryz.prog 4101 body10 (HCBz s q i 0 0 c d j) (fun e' st' => e' = .normal ∧ ∃ j, st' = (HEBz s q (i + 1) i 0 0 (gl [(d 0), (d 1), (d 2), (d 3), (d 4), (d 5), (d 6), (d 7), (d 8), (d 9)]) (gl [(c 0), (c 1), (c 2), (c 3), (c 4), (c 5), (c 6), (c 7), (c 8), (c 9)]) j)) := by
  have hc0 := hc 0
  have hd0 := hd 0
  have hc1 := hc 1
  have hd1 := hd 1
  have hc2 := hc 2
  have hd2 := hd 2
  have hc3 := hc 3
  have hd3 := hd 3
  have hc4 := hc 4
  have hd4 := hd 4
  have hc5 := hc 5
  have hd5 := hd 5
  have hc6 := hc 6
  have hd6 := hd 6
  have hc7 := hc 7
  have hd7 := hd 7
  have hc8 := hc 8
  have hd8 := hd 8
  have hc9 := hc 9
  have hd9 := hd 9
  refine SX.mono (SX.run ok mixed (T := tbl) (n := 400) (hs := [(3, (.q (.bool true))), (5, (.q (.bool false))), (47, (.q (.bool false))), (30, (.q (.int .i64 (i + 1))))]) (cs := [binV .add (.int .i64 i) (.int .i64 1) = some (.int .i64 (i + 1)),
    binV .lss (.int .i64 i) (.int .i64 ((s).size : Int)) = some (.bool false),
    binV .eql (.int .i64 i) (.int .i64 0) = some (.bool false),
    binV .leq (.int .i64 i) (.int .i64 ((s).size : Int)) = some (.bool true)]) (next := 4112) (σ := [(4101, 4107), (4102, 4101), (4103, 4102), (4104, 4103), (4105, 4104), (4106, 4109), (4107, 4110), (4108, 4111), (4109, 4105), (4110, 4106), (4111, 4108)]) (pat := (patOf 165 [(13, (.int .i64 (i + 1))), (1, (.string s)), (12, (.slice (some ⟨4101, 0, none⟩) 2 2)), (2, (.int .i64 0)), (3, (.bool true)), (4, (.pointer (some ⟨4102, 0, none⟩))), (9, (.pointer (some ⟨4103, 0, none⟩))), (10, (.pointer (some ⟨4106, 0, none⟩))), (11, (.pointer (some ⟨4109, 0, none⟩)))])) (l := [(4099, pr2z), (4096, (.cells [(.slice (some ⟨4097, 0, none⟩) 6 6), (.int .i64 1)] 30 none 0)), (4097, pr1z), (4098, (.cells [(.slice (some ⟨4099, 0, none⟩) 10 10), (.int .i64 1)] 30 none 0)), (4100, (.cells [(.int .i64 0), (.int .i64 q)] 3 (some 1) 0)), (4101, (.cells [(.int .i64 0), (.int .i64 i)] 3 (some 1) 0)), (4102, (.cells [(.slice (some ⟨4099, 0, none⟩) 10 10), (.int .i64 1)] 30 none 0)), (4103, (.cells [(.slice (some ⟨4099, 0, none⟩) 10 10), (.int .i64 1), (.string s), (.slice (some ⟨4104, 0, none⟩) 0 1)] 67 none 0)), (4104, (.cells [(.int .i64 8), (.slice (some ⟨4105, 0, none⟩) 2 2)] 73 (some 2) 0)), (4105, (.cells [(.int .i64 0), (.int .i64 (-1))] 3 (some 1) 0)), (4106, (.cells [(.slice (some ⟨4107, 0, none⟩) 0 2), (.slice (some ⟨4108, 0, none⟩) 10 10)] 70 none 0)), (4107, (.cells [(.int .i64 4), (.slice (some ⟨4105, 0, none⟩) 2 2), (.int .i64 2), (.slice (some ⟨4105, 0, none⟩) 2 2)] 73 (some 2) 0)), (4108, (.cells [(.int .i64 (d 0)), (.int .i64 (d 1)), (.int .i64 (d 2)), (.int .i64 (d 3)), (.int .i64 (d 4)), (.int .i64 (d 5)), (.int .i64 (d 6)), (.int .i64 (d 7)), (.int .i64 (d 8)), (.int .i64 (d 9))] 3 none 0)), (4109, (.cells [(.slice (some ⟨4110, 0, none⟩) 2 2), (.slice (some ⟨4111, 0, none⟩) 10 10)] 70 none 0)), (4110, (.cells [(.int .i64 6), (.slice (some ⟨4105, 0, none⟩) 2 2), (.int .i64 9), (.slice (some ⟨4101, 0, none⟩) 2 2)] 73 (some 2) 0)), (4111, (.cells [(.int .i64 (c 0)), (.int .i64 (c 1)), (.int .i64 (c 2)), (.int .i64 (c 3)), (.int .i64 (c 4)), (.int .i64 (c 5)), (.int .i64 (c 6)), (.int .i64 (c 7)), (.int .i64 (c 8)), (.int .i64 (c 9))] 3 none 0))]) (by kernel_rfl) ?_ (Nat.le_of_ble_eq_true rfl) (by kernel_rfl)) (fun e st h => ⟨h.1, h.2.elim fun j h2 => ⟨j, h2.trans (by kernel_rfl)⟩⟩)
  exact ⟨(Fx.add_add (by omega) (by omega)),
    (Fx.lss_f (by omega)),
    (Fx.eql_f (by omega)),
    (Fx.leq_t (by omega)),
    trivial⟩

/- 437 steps -/
set_option maxHeartbeats 4000000 in
theorem rBz_Db (s : ByteArray) (q : Int) (hs : s.size ≤ 9223372036854775806) (i b y z : Int) (c d : Nat → Int) (hi : 1 ≤ i) (hc : ∀ k, c k ≤ i + 1) (hd : ∀ k, d k ≤ i) (h0 : i < s.size) (hb : byteAt s i = 98) (j : Nat → Value) : SX Tryz.prog 4101 body10 (HDBz s q i b 0 0 c d j) (fun e' st' => e' = .normal ∧ ∃ j, st' = (HDBz s q (i + 1) i 0 0 (gl [(d 0), (d 1), (d 2), (d 3), (d 4), ((i + 1) + 1), ((i + 1) + 1), ((i + 1) + 1), ((i + 1) + 1), ((i + 1) + 1)]) (gl [(c 0), (c 1), (c 2), (c 3), (c 4), (c 5), (c 6), (c 7), (c 8), (c 9)]) j)) := by
  have hc0 := hc 0
  have hd0 := hd 0
  have hc1 := hc 1
  have hd1 := hd 1
  have hc2 := hc 2
  have hd2 := hd 2
  have hc3 := hc 3
  have hd3 := hd 3
  have hc4 := hc 4
  have hd4 := hd 4
  have hc5 := hc 5
  have hd5 := hd 5
  have hc6 := hc 6
  have hd6 := hd 6
  have hc7 := hc 7
  have hd7 := hd 7
  have hc8 := hc 8
  have hd8 := hd 8
  have hc9 := hc 9
  have hd9 := hd 9
  refine SX.mono (SX.run ok mixed (T := tbl) (n := 400) (hs := [(3, (.q (.bool true))), (46, (.q (.bool true))), (3, (.q (.int .u8 (byteAt s i)))), (0, (.q (.int .i64 (byteAt s i)))), (3, (.q (.bool true))), (4, (.q (.int .u8 (byteAt s i)))), (0, (.q (.int .i64 (byteAt s i)))), (3, (.q (.bool true))), (9, (.q (.int .i64 (i + 1)))), (58, (.q (.int .i64 ((i + 1) + 1)))), (0, (.q (.bool false))), (7, (.q (.int .i64 ((i + 1) + 1)))), (40, (.q (.int .i64 ((i + 1) + 1)))), (0, (.q (.bool false))), (7, (.q (.int .i64 ((i + 1) + 1)))), (49, (.q (.int .i64 ((i + 1) + 1)))), (0, (.q (.bool false))), (7, (.q (.int .i64 ((i + 1) + 1)))), (72, (.q (.int .i64 ((i + 1) + 1)))), (0, (.q (.bool false))), (7, (.q (.int .i64 ((i + 1) + 1)))), (49, (.q (.int .i64 ((i + 1) + 1)))), (0, (.q (.bool false))), (7, (.q (.int .i64 ((i + 1) + 1)))), (62, (.q (.int .i64 (i + 1))))]) (cs := [binV .add (.int .i64 i) (.int .i64 1) = some (.int .i64 (i + 1)),
    binV .add (.int .i64 (i + 1)) (.int .i64 1) = some (.int .i64 ((i + 1) + 1)),
    binV .eql (.int .i64 (d 9)) (.int .i64 ((i + 1) + 1)) = some (.bool false),
    binV .add (.int .i64 (i + 1)) (.int .i64 1) = some (.int .i64 ((i + 1) + 1)),
    binV .add (.int .i64 (i + 1)) (.int .i64 1) = some (.int .i64 ((i + 1) + 1)),
    binV .eql (.int .i64 (d 8)) (.int .i64 ((i + 1) + 1)) = some (.bool false),
    binV .add (.int .i64 (i + 1)) (.int .i64 1) = some (.int .i64 ((i + 1) + 1)),
    binV .add (.int .i64 (i + 1)) (.int .i64 1) = some (.int .i64 ((i + 1) + 1)),
    binV .eql (.int .i64 (d 6)) (.int .i64 ((i + 1) + 1)) = some (.bool false),
    binV .add (.int .i64 (i + 1)) (.int .i64 1) = some (.int .i64 ((i + 1) + 1)),
    binV .add (.int .i64 (i + 1)) (.int .i64 1) = some (.int .i64 ((i + 1) + 1)),
    binV .eql (.int .i64 (d 5)) (.int .i64 ((i + 1) + 1)) = some (.bool false),
    binV .add (.int .i64 (i + 1)) (.int .i64 1) = some (.int .i64 ((i + 1) + 1)),
    binV .add (.int .i64 (i + 1)) (.int .i64 1) = some (.int .i64 ((i + 1) + 1)),
    binV .eql (.int .i64 (d 7)) (.int .i64 ((i + 1) + 1)) = some (.bool false),
    binV .add (.int .i64 (i + 1)) (.int .i64 1) = some (.int .i64 ((i + 1) + 1)),
    binV .add (.int .i64 i) (.int .i64 1) = some (.int .i64 (i + 1)),
    binV .leq (.int .i64 (byteAt s i)) (.int .i64 98) = some (.bool true),
    (some (.int .i64 (IntKind.wrap .i64 (byteAt s i))) : Option Value) = some (.int .i64 (byteAt s i)),
    (if 0 ≤ (i : Int) then ((ByteArray.data s).toList[Int.toNat i]?).map (fun b => (.int .u8 b.toNat : Value)) else none) = some (.int .u8 (byteAt s i)),
    binV .geq (.int .i64 (byteAt s i)) (.int .i64 98) = some (.bool true),
    (some (.int .i64 (IntKind.wrap .i64 (byteAt s i))) : Option Value) = some (.int .i64 (byteAt s i)),
    (if 0 ≤ (i : Int) then ((ByteArray.data s).toList[Int.toNat i]?).map (fun b => (.int .u8 b.toNat : Value)) else none) = some (.int .u8 (byteAt s i)),
    binV .lss (.int .i64 i) (.int .i64 ((s).size : Int)) = some (.bool true),
    binV .leq (.int .i64 i) (.int .i64 ((s).size : Int)) = some (.bool true)]) (next := 4113) (σ := [(4101, 4108), (4102, 4102), (4103, 4103), (4104, 4104), (4105, 4105), (4106, 4110), (4107, 4111), (4108, 4125), (4109, 4112), (4110, 4106), (4111, 4107), (4112, 4109)]) (pat := (patOf 165 [(13, (.int .i64 (i + 1))), (1, (.string s)), (12, (.slice (some ⟨4101, 0, none⟩) 2 2)), (2, (.int .i64 0)), (3, (.bool true)), (4, (.pointer (some ⟨4102, 0, none⟩))), (9, (.pointer (some ⟨4103, 0, none⟩))), (10, (.pointer (some ⟨4106, 0, none⟩))), (11, (.pointer (some ⟨4110, 0, none⟩)))])) (l := [(4099, pr2z), (4096, (.cells [(.slice (some ⟨4097, 0, none⟩) 6 6), (.int .i64 1)] 30 none 0)), (4097, pr1z), (4098, (.cells [(.slice (some ⟨4099, 0, none⟩) 10 10), (.int .i64 1)] 30 none 0)), (4100, (.cells [(.int .i64 0), (.int .i64 q)] 3 (some 1) 0)), (4101, (.cells [(.int .i64 0), (.int .i64 i)] 3 (some 1) 0)), (4102, (.cells [(.slice (some ⟨4099, 0, none⟩) 10 10), (.int .i64 1)] 30 none 0)), (4103, (.cells [(.slice (some ⟨4099, 0, none⟩) 10 10), (.int .i64 1), (.string s), (.slice (some ⟨4104, 0, none⟩) 0 1)] 67 none 0)), (4104, (.cells [(.int .i64 8), (.slice (some ⟨4105, 0, none⟩) 2 2)] 73 (some 2) 0)), (4105, (.cells [(.int .i64 0), (.int .i64 (-1))] 3 (some 1) 0)), (4106, (.cells [(.slice (some ⟨4107, 0, none⟩) 2 2), (.slice (some ⟨4109, 0, none⟩) 10 10)] 70 none 0)), (4107, (.cells [(.int .i64 6), (.slice (some ⟨4105, 0, none⟩) 2 2), (.int .i64 9), (.slice (some ⟨4108, 0, none⟩) 2 2)] 73 (some 2) 0)), (4108, (.cells [(.int .i64 0), (.int .i64 (i + 1))] 3 (some 1) 0)), (4109, (.cells [(.int .i64 (d 0)), (.int .i64 (d 1)), (.int .i64 (d 2)), (.int .i64 (d 3)), (.int .i64 (d 4)), (.int .i64 ((i + 1) + 1)), (.int .i64 ((i + 1) + 1)), (.int .i64 ((i + 1) + 1)), (.int .i64 ((i + 1) + 1)), (.int .i64 ((i + 1) + 1))] 3 none 0)), (4110, (.cells [(.slice (some ⟨4111, 0, none⟩) 2 2), (.slice (some ⟨4112, 0, none⟩) 10 10)] 70 none 0)), (4111, (.cells [(.int .i64 6), (.slice (some ⟨4105, 0, none⟩) 2 2), (.int .i64 9), (.slice (some ⟨4101, 0, none⟩) 2 2)] 73 (some 2) 0)), (4112, (.cells [(.int .i64 (c 0)), (.int .i64 (c 1)), (.int .i64 (c 2)), (.int .i64 (c 3)), (.int .i64 (c 4)), (.int .i64 (c 5)), (.int .i64 (c 6)), (.int .i64 (c 7)), (.int .i64 (c 8)), (.int .i64 (c 9))] 3 none 0))]) (by kernel_rfl) ?_ (Nat.le_of_ble_eq_true rfl) (by kernel_rfl)) (fun e st h => ⟨h.1, h.2.elim fun j h2 => ⟨j, h2.trans (by kernel_rfl)⟩⟩)
  exact ⟨(Fx.add_add (by omega) (by omega)),
    (Fx.add_add (by omega) (by omega)),
    (Fx.eql_f (by omega)),
    (Fx.add_add (by omega) (by omega)),
    (Fx.add_add (by omega) (by omega)),
    (Fx.eql_f (by omega)),
    (Fx.add_add (by omega) (by omega)),
    (Fx.add_add (by omega) (by omega)),
    (Fx.eql_f (by omega)),
    (Fx.add_add (by omega) (by omega)),
    (Fx.add_add (by omega) (by omega)),
    (Fx.eql_f (by omega)),
    (Fx.add_add (by omega) (by omega)),
    (Fx.add_add (by omega) (by omega)),
    (Fx.eql_f (by omega)),
    (Fx.add_add (by omega) (by omega)),
    (Fx.add_add (by omega) (by omega)),
    (Fx.leq_t (by omega)),
    (Fx.conv_i64 (by omega) (by omega)),
    (Fx.index (by omega) (by omega)),
    (Fx.geq_t (by omega)),
    (Fx.conv_i64 (by omega) (by omega)),
    (Fx.index (by omega) (by omega)),
    (Fx.lss_t (by omega)),
    (Fx.leq_t (by omega)),
    trivial⟩

/- 80 steps -/
set_option maxHeartbeats 4000000 in
theorem rBz_De (s : ByteArray) (q : Int) (hs : s.size ≤ 9223372036854775806) (i b y z : Int) (c d : Nat → Int) (hi : 1 ≤ i) (hc : ∀ k, c k ≤ i + 1) (hd : ∀ k, d k ≤ i) (h0 : i = s.size) (j : Nat → Value) : SX Tryz.prog 4101 body10 (HDBz s q i b 0 0 c d j) (fun e' st' => e' = .normal ∧ ∃ j, st' = (HFBz s q (i + 1) i b 0 (gl [(d 0), (d 1), (d 2), (d 3), (d 4), (d 5), (d 6), (d 7), (d 8), (d 9)]) (gl [(c 0), (c 1), (c 2), (c 3), (c 4), (c 5), (c 6), (c 7), (c 8), (c 9)]) j)) := by
  have hc0 := hc 0
  have hd0 := hd 0
  have hc1 := hc 1
  have hd1 := hd 1
  have hc2 := hc 2
  have hd2 := hd 2
  have hc3 := hc 3
  have hd3 := hd 3
  have hc4 := hc 4
  have hd4 := hd 4
  have hc5 := hc 5
  have hd5 := hd 5
  have hc6 := hc 6
  have hd6 := hd 6
  have hc7 := hc 7
  have hd7 := hd 7
  have hc8 := hc 8
  have hd8 := hd 8
  have hc9 := hc 9
  have hd9 := hd 9
  refine SX.mono (SX.run ok mixed (T := tbl) (n := 400) (hs := [(3, (.q (.bool true))), (46, (.q (.bool false))), (30, (.q (.int .i64 (i + 1))))]) (cs := [binV .add (.int .i64 i) (.int .i64 1) = some (.int .i64 (i + 1)),
    binV .lss (.int .i64 i) (.int .i64 ((s).size : Int)) = some (.bool false),
    binV .leq (.int .i64 i) (.int .i64 ((s).size : Int)) = some (.bool true)]) (next := 4113) (σ := [(4101, 4108), (4102, 4102), (4103, 4103), (4104, 4104), (4105, 4105), (4106, 4110), (4107, 4111), (4108, 4101), (4109, 4112), (4110, 4106), (4111, 4107), (4112, 4109)]) (pat := (patOf 165 [(13, (.int .i64 (i + 1))), (1, (.string s)), (12, (.slice (some ⟨4101, 0, none⟩) 2 2)), (2, (.int .i64 0)), (3, (.bool true)), (4, (.pointer (some ⟨4102, 0, none⟩))), (9, (.pointer (some ⟨4103, 0, none⟩))), (10, (.pointer (some ⟨4106, 0, none⟩))), (11, (.pointer (some ⟨4110, 0, none⟩)))])) (l := [(4099, pr2z), (4096, (.cells [(.slice (some ⟨4097, 0, none⟩) 6 6), (.int .i64 1)] 30 none 0)), (4097, pr1z), (4098, (.cells [(.slice (some ⟨4099, 0, none⟩) 10 10), (.int .i64 1)] 30 none 0)), (4100, (.cells [(.int .i64 0), (.int .i64 q)] 3 (some 1) 0)), (4101, (.cells [(.int .i64 0), (.int .i64 i)] 3 (some 1) 0)), (4102, (.cells [(.slice (some ⟨4099, 0, none⟩) 10 10), (.int .i64 1)] 30 none 0)), (4103, (.cells [(.slice (some ⟨4099, 0, none⟩) 10 10), (.int .i64 1), (.string s), (.slice (some ⟨4104, 0, none⟩) 0 1)] 67 none 0)), (4104, (.cells [(.int .i64 8), (.slice (some ⟨4105, 0, none⟩) 2 2)] 73 (some 2) 0)), (4105, (.cells [(.int .i64 0), (.int .i64 (-1))] 3 (some 1) 0)), (4106, (.cells [(.slice (some ⟨4107, 0, none⟩) 0 2), (.slice (some ⟨4109, 0, none⟩) 10 10)] 70 none 0)), (4107, (.cells [(.int .i64 6), (.slice (some ⟨4105, 0, none⟩) 2 2), (.int .i64 9), (.slice (some ⟨4108, 0, none⟩) 2 2)] 73 (some 2) 0)), (4108, (.cells [(.int .i64 0), (.int .i64 b)] 3 (some 1) 0)), (4109, (.cells [(.int .i64 (d 0)), (.int .i64 (d 1)), (.int .i64 (d 2)), (.int .i64 (d 3)), (.int .i64 (d 4)), (.int .i64 (d 5)), (.int .i64 (d 6)), (.int .i64 (d 7)), (.int .i64 (d 8)), (.int .i64 (d 9))] 3 none 0)), (4110, (.cells [(.slice (some ⟨4111, 0, none⟩) 2 2), (.slice (some ⟨4112, 0, none⟩) 10 10)] 70 none 0)), (4111, (.cells [(.int .i64 6), (.slice (some ⟨4105, 0, none⟩) 2 2), (.int .i64 9), (.slice (some ⟨4101, 0, none⟩) 2 2)] 73 (some 2) 0)), (4112, (.cells [(.int .i64 (c 0)), (.int .i64 (c 1)), (.int .i64 (c 2)), (.int .i64 (c 3)), (.int .i64 (c 4)), (.int .i64 (c 5)), (.int .i64 (c 6)), (.int .i64 (c 7)), (.int .i64 (c 8)), (.int .i64 (c 9))] 3 none 0))]) (by kernel_rfl) ?_ (Nat.le_of_ble_eq_true rfl) (by kernel_rfl)) (fun e st h => ⟨h.1, h.2.elim fun j h2 => ⟨j, h2.trans (by kernel_rfl)⟩⟩)
  exact ⟨(Fx.add_add (by omega) (by omega)),
    (Fx.lss_f (by omega)),
    (Fx.leq_t (by omega)),
    trivial⟩

def Xx0Bz (s : ByteArray) (q : Int) (j : Nat → Value) : St := ⟨fillT (patOf 165 [(12, (.slice none 0 0))]) j 0, mkH 4101 [(4096, (.cells [(.slice (some ⟨4097, 0, none⟩) 6 6), (.int .i64 1)] 30 none 0)), (4097, pr1z), (4098, (.cells [(.slice (some ⟨4099, 0, none⟩) 10 10), (.int .i64 1)] 30 none 0)), (4099, pr2z), (4100, (.cells [(.int .i64 0), (.int .i64 q)] 3 (some 1) 0))], []⟩
/- 2 steps -/
set_option maxHeartbeats 4000000 in
theorem fBz_x0 (s : ByteArray) (q : Int) (hs : s.size ≤ 9223372036854775806) (j : Nat → Value) : SX Tryz.prog 4101 (.seq f10r29 .ret) (Xx0Bz s q  j) (fun e' st' => e' = .ret ∧ ∃ j, st' = ⟨fillT (patOf 165 [(8, (.slice none 0 0))]) j 0, mkH 4101 [(4096, (.cells [(.slice (some ⟨4097, 0, none⟩) 6 6), (.int .i64 1)] 30 none 0)), (4097, pr1z), (4098, (.cells [(.slice (some ⟨4099, 0, none⟩) 10 10), (.int .i64 1)] 30 none 0)), (4099, pr2z), (4100, (.cells [(.int .i64 0), (.int .i64 q)] 3 (some 1) 0))], []⟩) := by
  refine SX.mono (SX.run ok mixed (T := tbl) (n := 400) (hs := []) (cs := []) (next := 4101) (σ := []) (pat := (patOf 165 [(8, (.slice none 0 0))])) (l := [(4096, (.cells [(.slice (some ⟨4097, 0, none⟩) 6 6), (.int .i64 1)] 30 none 0)), (4097, pr1z), (4098, (.cells [(.slice (some ⟨4099, 0, none⟩) 10 10), (.int .i64 1)] 30 none 0)), (4099, pr2z), (4100, (.cells [(.int .i64 0), (.int .i64 q)] 3 (some 1) 0))]) (by kernel_rfl) ?_ (Nat.le_of_ble_eq_true rfl) (by kernel_rfl)) (fun e st h => ⟨h.1, h.2.elim fun j h2 => ⟨j, h2.trans (by kernel_rfl)⟩⟩)
  exact trivial

/- 3 steps -/
set_option maxHeartbeats 4000000 in
theorem rBz_x0 (s : ByteArray) (q : Int) (hs : s.size ≤ 9223372036854775806) (h0 : s.size = 0) (j : Nat → Value) : SX Tryz.prog 4101 body10 (HN0Bz s q  j) (fun e' st' => e' = (.exit 0) ∧ ∃ j, st' = (Xx0Bz s q  j)) := by
  refine SX.mono (SX.run ok mixed (T := tbl) (n := 400) (hs := [(3, (.q (.bool false)))]) (cs := [binV .leq (.int .i64 1) (.int .i64 ((s).size : Int)) = some (.bool false)]) (next := 4101) (σ := []) (pat := (patOf 165 [(12, (.slice none 0 0))])) (l := [(4096, (.cells [(.slice (some ⟨4097, 0, none⟩) 6 6), (.int .i64 1)] 30 none 0)), (4097, pr1z), (4098, (.cells [(.slice (some ⟨4099, 0, none⟩) 10 10), (.int .i64 1)] 30 none 0)), (4099, pr2z), (4100, (.cells [(.int .i64 0), (.int .i64 q)] 3 (some 1) 0))]) (by kernel_rfl) ?_ (Nat.le_of_ble_eq_true rfl) (by kernel_rfl)) (fun e st h => ⟨h.1, h.2.elim fun j h2 => ⟨j, h2.trans (by kernel_rfl)⟩⟩)
  exact ⟨(Fx.leq_f (by omega)),
    trivial⟩

/- 3 steps -/
set_option maxHeartbeats 4000000 in
theorem rBz_xN (s : ByteArray) (q : Int) (hs : s.size ≤ 9223372036854775806) (i b y z : Int) (c d : Nat → Int) (hi : 1 ≤ i) (hc : ∀ k, c k ≤ i + 1) (hd : ∀ k, d k ≤ i) (h0 : s.size < i) (j : Nat → Value) : SX Tryz.prog 4101 body10 (HNBz s q i 0 0 c d j) (fun e' st' => e' = (.exit 0) ∧ ∃ j, st' = (Xx0Bz s q  j)) := by
  have hc0 := hc 0
  have hd0 := hd 0
  have hc1 := hc 1
  have hd1 := hd 1
  have hc2 := hc 2
  have hd2 := hd 2
  have hc3 := hc 3
  have hd3 := hd 3
  have hc4 := hc 4
  have hd4 := hd 4
  have hc5 := hc 5
  have hd5 := hd 5
  have hc6 := hc 6
  have hd6 := hd 6
  have hc7 := hc 7
  have hd7 := hd 7
  have hc8 := hc 8
  have hd8 := hd 8
  have hc9 := hc 9
  have hd9 := hd 9
  refine SX.mono (SX.run ok mixed (T := tbl) (n := 400) (hs := [(3, (.q (.bool false)))]) (cs := [binV .leq (.int .i64 i) (.int .i64 ((s).size : Int)) = some (.bool false)]) (next := 4101) (σ := []) (pat := (patOf 165 [(12, (.slice none 0 0))])) (l := [(4096, (.cells [(.slice (some ⟨4097, 0, none⟩) 6 6), (.int .i64 1)] 30 none 0)), (4097, pr1z), (4098, (.cells [(.slice (some ⟨4099, 0, none⟩) 10 10), (.int .i64 1)] 30 none 0)), (4099, pr2z), (4100, (.cells [(.int .i64 0), (.int .i64 q)] 3 (some 1) 0))]) (by kernel_rfl) ?_ (Nat.le_of_ble_eq_true rfl) (by kernel_rfl)) (fun e st h => ⟨h.1, h.2.elim fun j h2 => ⟨j, h2.trans (by kernel_rfl)⟩⟩)
  exact ⟨(Fx.leq_f (by omega)),
    trivial⟩

def XxEBz (s : ByteArray) (q : Int) (b : Int) (j : Nat → Value) : St := ⟨fillT (patOf 165 [(12, (.slice (some ⟨4101, 0, none⟩) 2 2))]) j 0, mkH 4102 [(4096, (.cells [(.slice (some ⟨4097, 0, none⟩) 6 6), (.int .i64 1)] 30 none 0)), (4097, pr1z), (4098, (.cells [(.slice (some ⟨4099, 0, none⟩) 10 10), (.int .i64 1)] 30 none 0)), (4099, pr2z), (4100, (.cells [(.int .i64 0), (.int .i64 q)] 3 (some 1) 0)), (4101, (.cells [(.int .i64 0), (.int .i64 b)] 3 (some 1) 0))], []⟩
/- 2 steps -/
set_option maxHeartbeats 4000000 in
theorem fBz_xE (s : ByteArray) (q : Int) (hs : s.size ≤ 9223372036854775806) (b : Int) (j : Nat → Value) : SX Tryz.prog 4101 (.seq f10r29 .ret) (XxEBz s q b j) (fun e' st' => e' = .ret ∧ ∃ j, st' = ⟨fillT (patOf 165 [(8, (.slice (some ⟨4101, 0, none⟩) 2 2))]) j 0, mkH 4102 [(4096, (.cells [(.slice (some ⟨4097, 0, none⟩) 6 6), (.int .i64 1)] 30 none 0)), (4097, pr1z), (4098, (.cells [(.slice (some ⟨4099, 0, none⟩) 10 10), (.int .i64 1)] 30 none 0)), (4099, pr2z), (4100, (.cells [(.int .i64 0), (.int .i64 q)] 3 (some 1) 0)), (4101, (.cells [(.int .i64 0), (.int .i64 b)] 3 (some 1) 0))], []⟩) := by
  refine SX.mono (SX.run ok mixed (T := tbl) (n := 400) (hs := []) (cs := []) (next := 4102) (σ := [(4101, 4101)]) (pat := (patOf 165 [(8, (.slice (some ⟨4101, 0, none⟩) 2 2))])) (l := [(4096, (.cells [(.slice (some ⟨4097, 0, none⟩) 6 6), (.int .i64 1)] 30 none 0)), (4097, pr1z), (4098, (.cells [(.slice (some ⟨4099, 0, none⟩) 10 10), (.int .i64 1)] 30 none 0)), (4099, pr2z), (4100, (.cells [(.int .i64 0), (.int .i64 q)] 3 (some 1) 0)), (4101, (.cells [(.int .i64 0), (.int .i64 b)] 3 (some 1) 0))]) (by kernel_rfl) ?_ (Nat.le_of_ble_eq_true rfl) (by kernel_rfl)) (fun e st h => ⟨h.1, h.2.elim fun j h2 => ⟨j, h2.trans (by kernel_rfl)⟩⟩)
  exact trivial

/- 3 steps -/
set_option maxHeartbeats 4000000 in
theorem rBz_xE (s : ByteArray) (q : Int) (hs : s.size ≤ 9223372036854775806) (i b y z : Int) (c d : Nat → Int) (hi : 1 ≤ i) (hc : ∀ k, c k ≤ i + 1) (hd : ∀ k, d k ≤ i) (h0 : s.size < i) (j : Nat → Value) : SX Tryz.prog 4101 body10 (HEBz s q i b 0 0 c d j) (fun e' st' => e' = (.exit 0) ∧ ∃ j, st' = (XxEBz s q b j)) := by
  have hc0 := hc 0
  have hd0 := hd 0
  have hc1 := hc 1
  have hd1 := hd 1
  have hc2 := hc 2
  have hd2 := hd 2
  have hc3 := hc 3
  have hd3 := hd 3
  have hc4 := hc 4
  have hd4 := hd 4
  have hc5 := hc 5
  have hd5 := hd 5
  have hc6 := hc 6
  have hd6 := hd 6
  have hc7 := hc 7
  have hd7 := hd 7
  have hc8 := hc 8
  have hd8 := hd 8
  have hc9 := hc 9
  have hd9 := hd 9
  refine SX.mono (SX.run ok mixed (T := tbl) (n := 400) (hs := [(3, (.q (.bool false)))]) (cs := [binV .leq (.int .i64 i) (.int .i64 ((s).size : Int)) = some (.bool false)]) (next := 4102) (σ := [(4101, 4101)]) (pat := (patOf 165 [(12, (.slice (some ⟨4101, 0, none⟩) 2 2))])) (l := [(4096, (.cells [(.slice (some ⟨4097, 0, none⟩) 6 6), (.int .i64 1)] 30 none 0)), (4097, pr1z), (4098, (.cells [(.slice (some ⟨4099, 0, none⟩) 10 10), (.int .i64 1)] 30 none 0)), (4099, pr2z), (4100, (.cells [(.int .i64 0), (.int .i64 q)] 3 (some 1) 0)), (4101, (.cells [(.int .i64 0), (.int .i64 b)] 3 (some 1) 0))]) (by kernel_rfl) ?_ (Nat.le_of_ble_eq_true rfl) (by kernel_rfl)) (fun e st h => ⟨h.1, h.2.elim fun j h2 => ⟨j, h2.trans (by kernel_rfl)⟩⟩)
  exact ⟨(Fx.leq_f (by omega)),
    trivial⟩

/- 3 steps -/
set_option maxHeartbeats 4000000 in
theorem rBz_xF (s : ByteArray) (q : Int) (hs : s.size ≤ 9223372036854775806) (i b y z : Int) (c d : Nat → Int) (hi : 1 ≤ i) (hc : ∀ k, c k ≤ i + 1) (hd : ∀ k, d k ≤ i) (h0 : s.size < i) (j : Nat → Value) : SX Tryz.prog 4101 body10 (HFBz s q i b y 0 c d j) (fun e' st' => e' = (.exit 0) ∧ ∃ j, st' = (XxEBz s q b j)) := by
  have hc0 := hc 0
  have hd0 := hd 0
  have hc1 := hc 1
  have hd1 := hd 1
  have hc2 := hc 2
  have hd2 := hd 2
  have hc3 := hc 3
  have hd3 := hd 3
  have hc4 := hc 4
  have hd4 := hd 4
  have hc5 := hc 5
  have hd5 := hd 5
  have hc6 := hc 6
  have hd6 := hd 6
  have hc7 := hc 7
  have hd7 := hd 7
  have hc8 := hc 8
  have hd8 := hd 8
  have hc9 := hc 9
  have hd9 := hd 9
  refine SX.mono (SX.run ok mixed (T := tbl) (n := 400) (hs := [(3, (.q (.bool false)))]) (cs := [binV .leq (.int .i64 i) (.int .i64 ((s).size : Int)) = some (.bool false)]) (next := 4102) (σ := [(4101, 4101)]) (pat := (patOf 165 [(12, (.slice (some ⟨4101, 0, none⟩) 2 2))])) (l := [(4096, (.cells [(.slice (some ⟨4097, 0, none⟩) 6 6), (.int .i64 1)] 30 none 0)), (4097, pr1z), (4098, (.cells [(.slice (some ⟨4099, 0, none⟩) 10 10), (.int .i64 1)] 30 none 0)), (4099, pr2z), (4100, (.cells [(.int .i64 0), (.int .i64 q)] 3 (some 1) 0)), (4101, (.cells [(.int .i64 0), (.int .i64 b)] 3 (some 1) 0))]) (by kernel_rfl) ?_ (Nat.le_of_ble_eq_true rfl) (by kernel_rfl)) (fun e st h => ⟨h.1, h.2.elim fun j h2 => ⟨j, h2.trans (by kernel_rfl)⟩⟩)
  exact ⟨(Fx.leq_f (by omega)),
    trivial⟩


end Go.Am.Zt
