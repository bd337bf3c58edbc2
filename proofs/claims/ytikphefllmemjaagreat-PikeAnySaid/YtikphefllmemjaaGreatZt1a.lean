import Derived.Test.YtikphefllmemjaaGreatAm22
/-
The table of the program for the engine: printed by a program of mine.
-/
namespace Go.Am.Zt
open Go Go.Am
set_option maxRecDepth 100000
def qM (d s : Nat) : IOper := ⟨some d, .move (.tmp s), none⟩
def qO (d : Nat) (op : IOp) : IOper := ⟨some d, op, none⟩
def qK (n : Nat) : Operand := .const (.int .i64 (.ofNat n))
def qZ : Value := .int .i64 (.ofNat 0)
def f5r0 : ICode := .region [
 qO 4 (.move (.const (.bool false)))] none
def f5r1 : ICode := .region [
 qO 13 (.call 8 []),
 qO 14 (.un .not (.tmp 13))] none
def f5r2 : ICode := .region [
 qO 4 (.move (.const (.bool false)))] none
def f5r3 : ICode := .region [
 qM 15 0,
 qO 16 (.len 0 (.tmp 15)),
 qO 17 (.bin .gtr (.tmp 16) (qK 2000))] none
def f5r4 : ICode := .region [
 qO 4 (.move (.const (.bool true)))] none
def f5r5 : ICode := .region [
 qO 18 (.build [(.bool false), (.bool false), (.bool false), (.bool false)] []),
 qM 19 0,
 qO 20 (.len 0 (.tmp 19)),
 qO 21 (.call 9 [(.const (.string ⟨⟨[40, 63, 115, 41, 46]⟩⟩)), (.tmp 18), (.tmp 20)]),
 qM 5 21] none
def f5r6 : ICode := .region [
 qM 22 5,
 qO 23 (.nilEq false 0 (.tmp 22) (.const (.pointer none))),
 qM 24 23,
  ⟨(some 25), .move (.tmp 1), (some ((some 24), false))⟩,
  ⟨(some 26), .bin .lss (.tmp 25) (qK 0), (some ((some 24), false))⟩,
 qO 27 (.pick (.tmp 24) (.const (.bool true)) (.tmp 26)),
 qM 28 27,
  ⟨(some 29), .move (.tmp 1), (some ((some 28), false))⟩,
  ⟨(some 30), .move (.tmp 0), (some ((some 28), false))⟩,
  ⟨(some 31), .len 0 (.tmp 30), (some ((some 28), false))⟩,
  ⟨(some 32), .bin .geq (.tmp 29) (.tmp 31), (some ((some 28), false))⟩,
 qO 33 (.pick (.tmp 28) (.const (.bool true)) (.tmp 32))] none
def f5r7 : ICode := .region [
 qM 34 5,
 qO 35 (.nilEq false 0 (.tmp 34) (.const (.pointer none))),
 qM 36 35,
  ⟨(some 37), .move (.tmp 5), (some ((some 36), false))⟩,
  ⟨(some 38), .nilCheck (.tmp 37), (some ((some 36), false))⟩,
  ⟨(some 39), .loadN 2 (.tmp 38), (some ((some 36), false))⟩,
  ⟨(some 40), .move (.tmp 0), (some ((some 36), false))⟩,
  ⟨(some 41), .move (.tmp 1), (some ((some 36), false))⟩,
  ⟨(some 42), .call 10 [(.tmp 39), (.tmp 40), (.tmp 41), (.const (.bool true))], (some ((some 36), false))⟩,
  ⟨(some 43), .len 1 (.tmp 42), (some ((some 36), false))⟩,
  ⟨(some 44), .bin .eql (.tmp 43) (qK 0), (some ((some 36), false))⟩,
 qO 45 (.pick (.tmp 36) (.const (.bool true)) (.tmp 44)),
 qM 4 45] none
def f5r8 : ICode := .region [
 qM 46 5,
 qO 47 (.nilCheck (.tmp 46)),
 qO 48 (.loadN 2 (.tmp 47)),
 qM 49 0,
 qM 50 1,
 qO 51 (.call 10 [(.tmp 48), (.tmp 49), (.tmp 50), (.const (.bool true))]),
 qM 6 51] none
def f5r9 : ICode := .region [
 qM 53 0,
 qM 54 1,
 qO 55 (.sliceStr (.tmp 53) (some (.tmp 54)) none),
 qO 56 (.bin .add (.const (.string ⟨⟨[120]⟩⟩)) (.tmp 55)),
 qO 57 (.call 11 [(.tmp 56), (qK 1), (.const (.bool false))]),
 qM 52 57,
 qO 58 (.extract (.tmp 52) 0),
 qO 59 (.extract (.tmp 52) 1),
 qO 7 (.new [qZ, (.slice none 0 0), (.slice none 0 0), qZ] 34),
 qO 8 (.new [qZ, qZ] 37),
  ⟨none, .store 4 (.tmp 7) (.tmp 58), none⟩,
  ⟨none, .store 2 (.tmp 8) (.tmp 59), none⟩] none
def f5r10 : ICode := .region [
 qO 60 (.loadN 2 (.tmp 8)),
 qO 61 (.build [qZ, qZ] []),
 qO 62 (.eqC true 37 (.tmp 60) (.tmp 61)),
 qM 63 62,
  ⟨(some 64), .fieldAddr 1 (.tmp 7), (some ((some 63), false))⟩,
  ⟨(some 65), .load1 (.tmp 64), (some ((some 63), false))⟩,
  ⟨(some 66), .len 1 (.tmp 65), (some ((some 63), false))⟩,
  ⟨(some 67), .bin .lss (.tmp 66) (qK 2), (some ((some 63), false))⟩,
 qO 68 (.pick (.tmp 63) (.const (.bool true)) (.tmp 67))] none
def f5r11 : ICode := .region [
 qO 4 (.move (.const (.bool false)))] none
def f5r12 : ICode := .region [
 qO 69 (.fieldAddr 2 (.tmp 7)),
 qO 70 (.load1 (.tmp 69)),
 qO 71 (.indexSl 1 (.tmp 70) (qK 2)),
 qO 72 (.load1 (.tmp 71)),
 qO 73 (.fieldAddr 2 (.tmp 7)),
 qO 74 (.load1 (.tmp 73)),
 qO 75 (.indexSl 1 (.tmp 74) (qK 1)),
 qO 76 (.load1 (.tmp 75)),
 qO 77 (.bin .sub (.tmp 72) (.tmp 76)),
 qM 9 77] (some ⟨[], []⟩)
def f5r13 : ICode := .region [
 qO 79 (.fieldAddr 1 (.tmp 7)),
 qO 80 (.load1 (.tmp 79)),
 qO 81 (.sliceSl 1 (.tmp 80) (some (qK 1)) (some (qK 2))),
 qO 82 (.call 12 [(.tmp 81), (qK 1), (.const (.bool false))]),
 qM 78 82,
 qO 83 (.extract (.tmp 78) 0),
 qO 84 (.extract (.tmp 78) 1),
 qM 10 83,
 qM 11 84] none
def f5r14 : ICode := .region [
 qM 85 10,
 qM 86 0,
 qM 87 1,
 qM 88 1,
 qM 89 9,
 qO 90 (.bin .add (.tmp 88) (.tmp 89)),
 qO 91 (.sliceStr (.tmp 86) (some (.tmp 87)) (some (.tmp 90))),
 qO 92 (.bin .eql (.tmp 85) (.tmp 91)),
 qM 12 92] none
def f5r15 : ICode := .region [
 qM 93 6,
 qO 94 (.len 1 (.tmp 93)),
 qO 95 (.bin .eql (.tmp 94) (qK 2)),
 qM 96 12,
 qO 97 (.eqB false (.tmp 95) (.tmp 96)),
 qM 98 97,
  ⟨(some 99), .move (.tmp 12), (some ((some 98), true))⟩,
  ⟨(some 100), .un .not (.tmp 99), (some ((some 98), true))⟩,
  ⟨(some 101), .move (.tmp 100), (some ((some 98), true))⟩,
  ⟨(some 102), .move (.tmp 6), (some ((some 101), false))⟩,
  ⟨(some 103), .indexSl 1 (.tmp 102) (qK 0), (some ((some 101), false))⟩,
  ⟨(some 104), .load1 (.tmp 103), (some ((some 101), false))⟩,
  ⟨(some 105), .move (.tmp 1), (some ((some 101), false))⟩,
  ⟨(some 106), .bin .eql (.tmp 104) (.tmp 105), (some ((some 101), false))⟩,
  ⟨(some 107), .move (.tmp 106), (some ((some 101), false))⟩,
  ⟨(some 108), .move (.tmp 6), (some ((some 107), true))⟩,
  ⟨(some 109), .indexSl 1 (.tmp 108) (qK 1), (some ((some 107), true))⟩,
  ⟨(some 110), .load1 (.tmp 109), (some ((some 107), true))⟩,
  ⟨(some 111), .move (.tmp 1), (some ((some 107), true))⟩,
  ⟨(some 112), .move (.tmp 9), (some ((some 107), true))⟩,
  ⟨(some 113), .bin .add (.tmp 111) (.tmp 112), (some ((some 107), true))⟩,
  ⟨(some 114), .bin .eql (.tmp 110) (.tmp 113), (some ((some 107), true))⟩,
  ⟨(some 115), .pick (.tmp 107) (.tmp 114) (.const (.bool false)), (some ((some 101), false))⟩,
  ⟨(some 116), .pick (.tmp 101) (.const (.bool true)) (.tmp 115), (some ((some 98), true))⟩,
 qO 117 (.pick (.tmp 98) (.tmp 116) (.const (.bool false))),
 qM 4 117] none
/- ferret/ferretlaw15.PikeAny -/
def f5 : IFn := ⟨118, [.inl 4], (.seq f5r0 (.seq (.seq f5r1 (.cond (.tmp 14) (.seq f5r2 .ret) .skip)) (.seq (.seq f5r3 (.cond (.tmp 17) (.seq f5r4 .ret) .skip)) (.seq f5r5 (.seq (.seq f5r6 (.cond (.tmp 33) (.seq f5r7 .ret) .skip)) (.seq f5r8 (.seq f5r9 (.seq (.seq f5r10 (.cond (.tmp 68) (.seq f5r11 .ret) .skip)) (.seq f5r12 (.seq f5r13 (.seq f5r14 (.seq f5r15 .ret))))))))))))⟩
def f8r0 : ICode := .region [
 qO 0 (.move (.const (.bool false)))] none
def f8r1 : ICode := .region [
 qO 7 (.build [(.bool false), (.bool false), (.bool false), (.bool false)] []),
 qO 8 (.call 18 [(.const (.string ⟨⟨[40, 97, 124, 97, 98, 41, 40, 99, 124, 98, 99, 100, 41, 63]⟩⟩)), (.tmp 7)]),
 qM 6 8,
 qO 9 (.extract (.tmp 6) 0),
 qO 10 (.extract (.tmp 6) 1),
 qO 1 (.new [qZ, (.slice none 0 0), (.bool false), qZ, qZ, (.bool false), qZ, (.string ⟨⟨[]⟩⟩), (.slice none 0 0), (.slice none 0 0)] 57),
 qO 2 (.new [qZ, qZ] 37),
  ⟨none, .store 10 (.tmp 1) (.tmp 9), none⟩,
  ⟨none, .store 2 (.tmp 2) (.tmp 10), none⟩] none
def f8r2 : ICode := .region [
 qO 12 (.loadN 10 (.tmp 1)),
 qO 13 (.call 19 [(.tmp 12)]),
 qM 11 13,
 qO 14 (.extract (.tmp 11) 0),
 qO 15 (.extract (.tmp 11) 1),
 qO 3 (.new [(.slice none 0 0), qZ] 30),
  ⟨none, .store 2 (.tmp 3) (.tmp 14), none⟩,
 qM 4 15] none
def f8r3 : ICode := .region [
 qO 16 (.loadN 2 (.tmp 3)),
 qO 17 (.call 10 [(.tmp 16), (.const (.string ⟨⟨[97, 98, 99, 100]⟩⟩)), (qK 0), (.const (.bool false))]),
 qM 5 17] none
def f8r4 : ICode := .region [
 qM 18 4,
 qO 19 (.bin .eql (.tmp 18) (qK 0)),
 qM 20 19,
  ⟨(some 21), .move (.tmp 5), (some ((some 20), true))⟩,
  ⟨(some 22), .len 1 (.tmp 21), (some ((some 20), true))⟩,
  ⟨(some 23), .bin .eql (.tmp 22) (qK 6), (some ((some 20), true))⟩,
 qO 24 (.pick (.tmp 20) (.tmp 23) (.const (.bool false))),
 qM 25 24,
  ⟨(some 26), .move (.tmp 5), (some ((some 25), true))⟩,
  ⟨(some 27), .indexSl 1 (.tmp 26) (qK 1), (some ((some 25), true))⟩,
  ⟨(some 28), .load1 (.tmp 27), (some ((some 25), true))⟩,
  ⟨(some 29), .bin .eql (.tmp 28) (qK 4), (some ((some 25), true))⟩,
 qO 30 (.pick (.tmp 25) (.tmp 29) (.const (.bool false))),
 qM 31 30,
  ⟨(some 32), .move (.tmp 5), (some ((some 31), true))⟩,
  ⟨(some 33), .indexSl 1 (.tmp 32) (qK 3), (some ((some 31), true))⟩,
  ⟨(some 34), .load1 (.tmp 33), (some ((some 31), true))⟩,
  ⟨(some 35), .bin .eql (.tmp 34) (qK 1), (some ((some 31), true))⟩,
 qO 36 (.pick (.tmp 31) (.tmp 35) (.const (.bool false))),
 qM 0 36] none
/- ferret/ferretlaw15.speaks -/
def f8 : IFn := ⟨37, [.inl 0], (.seq f8r0 (.seq f8r1 (.seq f8r2 (.seq f8r3 (.seq f8r4 .ret)))))⟩
def f9r0 : ICode := .region [
 qO 4 (.box 25 (.tmp 1)),
 qO 6 (.move (.const (.pointer none)))] none
def f9r1 : ICode := .region [
 qM 12 0,
 qO 13 (.indexArrA 4 1 (.tmp 4) (qK 0)),
 qO 14 (.load1 (.tmp 13)),
 qO 15 (.indexArrA 4 1 (.tmp 4) (qK 1)),
 qO 16 (.load1 (.tmp 15)),
 qO 17 (.indexArrA 4 1 (.tmp 4) (qK 2)),
 qO 18 (.load1 (.tmp 17)),
 qO 19 (.indexArrA 4 1 (.tmp 4) (qK 3)),
 qO 20 (.load1 (.tmp 19)),
 qO 21 (.build [(.bool false), (.bool false), (.bool false), (.bool false)] [(0, 1, (.tmp 14)), (1, 1, (.tmp 16)), (2, 1, (.tmp 18)), (3, 1, (.tmp 20))]),
 qO 22 (.call 18 [(.tmp 12), (.tmp 21)]),
 qM 11 22,
 qO 23 (.extract (.tmp 11) 0),
 qO 24 (.extract (.tmp 11) 1),
 qO 7 (.new [qZ, (.slice none 0 0), (.bool false), qZ, qZ, (.bool false), qZ, (.string ⟨⟨[]⟩⟩), (.slice none 0 0), (.slice none 0 0)] 57),
 qO 8 (.new [qZ, qZ] 37),
  ⟨none, .store 10 (.tmp 7) (.tmp 23), none⟩,
  ⟨none, .store 2 (.tmp 8) (.tmp 24), none⟩] none
def f9r2 : ICode := .region [
 qO 25 (.loadN 2 (.tmp 8)),
 qO 26 (.build [qZ, qZ] []),
 qO 27 (.eqC true 37 (.tmp 25) (.tmp 26))] none
def f9r3 : ICode := .region [
 qO 6 (.move (.const (.pointer none)))] none
def f9r4 : ICode := .region [
 qO 29 (.loadN 10 (.tmp 7)),
 qO 30 (.call 19 [(.tmp 29)]),
 qM 28 30,
 qO 31 (.extract (.tmp 28) 0),
 qO 32 (.extract (.tmp 28) 1),
 qO 9 (.new [(.slice none 0 0), qZ] 30),
  ⟨none, .store 2 (.tmp 9) (.tmp 31), none⟩,
 qM 10 32] none
def f9r5 : ICode := .region [
 qM 33 10,
 qO 34 (.bin .neq (.tmp 33) (qK 0)),
 qM 35 34,
  ⟨(some 36), .move (.tmp 2), (some ((some 35), false))⟩,
  ⟨(some 37), .bin .gtr (.tmp 36) (qK 1048576), (some ((some 35), false))⟩,
 qO 38 (.pick (.tmp 35) (.const (.bool true)) (.tmp 37)),
 qM 39 38,
  ⟨(some 40), .fieldAddr 0 (.tmp 9), (some ((some 39), false))⟩,
  ⟨(some 41), .load1 (.tmp 40), (some ((some 39), false))⟩,
  ⟨(some 42), .len 1 (.tmp 41), (some ((some 39), false))⟩,
  ⟨(some 43), .move (.tmp 2), (some ((some 39), false))⟩,
  ⟨(some 44), .bin .add (.tmp 43) (qK 1), (some ((some 39), false))⟩,
  ⟨(some 45), .bin .mul (.tmp 42) (.tmp 44), (some ((some 39), false))⟩,
  ⟨(some 46), .bin .gtr (.tmp 45) (qK 2097152), (some ((some 39), false))⟩,
 qO 47 (.pick (.tmp 39) (.const (.bool true)) (.tmp 46))] none
def f9r6 : ICode := .region [
 qO 6 (.move (.const (.pointer none)))] none
def f9r7 : ICode := .region [
 qM 6 9] none
/- ferret/ferretlaw15.made -/
def f9 : IFn := ⟨48, [.inl 6], (.seq f9r0 (.seq f9r1 (.seq (.seq f9r2 (.cond (.tmp 27) (.seq f9r3 .ret) .skip)) (.seq f9r4 (.seq (.seq f9r5 (.cond (.tmp 47) (.seq f9r6 .ret) .skip)) (.seq f9r7 .ret))))))⟩
def f10r0 : ICode := .region [
 qO 4 (.box 30 (.tmp 0)),
 qO 8 (.move (.const (.slice none 0 0)))] none
def f10r1 : ICode := .region [
 qM 19 2,
 qO 20 (.bin .lss (.tmp 19) (qK 0)),
 qM 21 20,
  ⟨(some 22), .move (.tmp 2), (some ((some 21), false))⟩,
  ⟨(some 23), .move (.tmp 1), (some ((some 21), false))⟩,
  ⟨(some 24), .len 0 (.tmp 23), (some ((some 21), false))⟩,
  ⟨(some 25), .bin .gtr (.tmp 22) (.tmp 24), (some ((some 21), false))⟩,
 qO 26 (.pick (.tmp 21) (.const (.bool true)) (.tmp 25)),
 qM 27 26,
  ⟨(some 28), .fieldAddr 0 (.tmp 4), (some ((some 27), false))⟩,
  ⟨(some 29), .load1 (.tmp 28), (some ((some 27), false))⟩,
  ⟨(some 30), .len 1 (.tmp 29), (some ((some 27), false))⟩,
  ⟨(some 31), .bin .eql (.tmp 30) (qK 0), (some ((some 27), false))⟩,
 qO 32 (.pick (.tmp 27) (.const (.bool true)) (.tmp 31))] none
def f10r2 : ICode := .region [
 qO 8 (.move (.const (.slice none 0 0)))] none
def f10r3 : ICode := .region [
 qO 33 (.loadN 2 (.tmp 4)),
 qM 34 1,
 qO 35 (.build [(.slice none 0 0), qZ, (.string ⟨⟨[]⟩⟩), (.slice none 0 0)] [(0, 2, (.tmp 33)), (2, 1, (.tmp 34))]),
 qO 36 (.box 67 (.tmp 35)),
 qM 9 36] none
def f10r4 : ICode := .region [
 qO 37 (.fieldAddr 0 (.tmp 4)),
 qO 38 (.load1 (.tmp 37)),
 qO 39 (.len 1 (.tmp 38)),
 qO 40 (.makeSlice 3 8 qZ (.tmp 39) (.tmp 39)),
 qO 41 (.build [(.slice none 0 0), (.slice none 0 0)] [(1, 1, (.tmp 40))]),
 qO 42 (.box 70 (.tmp 41)),
 qO 43 (.fieldAddr 0 (.tmp 4)),
 qO 44 (.load1 (.tmp 43)),
 qO 45 (.len 1 (.tmp 44)),
 qO 46 (.makeSlice 3 8 qZ (.tmp 45) (.tmp 45)),
 qO 47 (.build [(.slice none 0 0), (.slice none 0 0)] [(1, 1, (.tmp 46))]),
 qO 48 (.box 70 (.tmp 47)),
 qM 10 42,
 qM 11 48] (some ⟨[(7, [3, 5])], []⟩)
def f10r5 : ICode := .region [
 qO 12 (.move (.const (.slice none 0 0)))] none
def f10r6 : ICode := .region [
 qM 49 2,
 qM 13 49] none
def f10r7 : ICode := .region [
 qM 50 13,
 qM 51 1,
 qO 52 (.len 0 (.tmp 51)),
 qO 53 (.bin .leq (.tmp 50) (.tmp 52))] none
def f10r8 : ICode := .region [
 qM 56 12,
 qO 57 (.nilEq false 1 (.tmp 56) (.const (.slice none 0 0))),
 qM 58 57,
  ⟨(some 59), .move (.tmp 13), (some ((some 58), true))⟩,
  ⟨(some 60), .move (.tmp 2), (some ((some 58), true))⟩,
  ⟨(some 61), .bin .eql (.tmp 59) (.tmp 60), (some ((some 58), true))⟩,
  ⟨(some 62), .move (.tmp 61), (some ((some 58), true))⟩,
  ⟨(some 63), .move (.tmp 3), (some ((some 62), false))⟩,
  ⟨(some 64), .un .not (.tmp 63), (some ((some 62), false))⟩,
  ⟨(some 65), .pick (.tmp 62) (.const (.bool true)) (.tmp 64), (some ((some 58), true))⟩,
 qO 66 (.pick (.tmp 58) (.tmp 65) (.const (.bool false)))] none
def f10r9 : ICode := .region [
 qO 67 (.fieldAddr 1 (.tmp 4)),
 qO 68 (.load1 (.tmp 67)),
 qO 69 (.bin .mul (qK 2) (.tmp 68)),
 qO 70 (.makeSlice 3 8 qZ (.tmp 69) (.tmp 69)),
 qM 14 70] none
def f10r10 : ICode := .region [
 qM 71 14,
 qO 72 (.len 1 (.tmp 71)),
 qO 73 (.move (qK 0))] none
def f10r11 : ICode := .region [
 qO 74 (.bin .lss (.tmp 73) (.tmp 72))] none
def f10r12 : ICode := .region [
 qM 75 73,
 qM 15 75] none
def f10r13 : ICode := .region [
 qM 76 14,
 qM 77 15,
 qO 78 (.indexSl 1 (.tmp 76) (.tmp 77)),
  ⟨none, .store 1 (.tmp 78) (.const (.int .i64 (.negSucc 0))), none⟩] none
def f10r14 : ICode := .region [
 qO 79 (.bin .add (.tmp 73) (qK 1)),
 qM 73 79] none
def f10r15 : ICode := .region [
 qM 80 9,
 qM 81 10,
 qM 82 14,
 qO 83 (.build [qZ, (.slice none 0 0)] [(0, 1, (qK 0)), (1, 1, (.tmp 82))]),
 qM 84 13,
 qO 85 (.call 20 [(.tmp 80), (.tmp 81), (.tmp 83), (.tmp 84)])] none
def f10r16 : ICode := .region [
 qM 86 10,
 qO 87 (.nilCheck (.tmp 86)),
 qO 88 (.fieldAddr 0 (.tmp 87)),
 qO 89 (.load1 (.tmp 88)),
 qO 90 (.len 1 (.tmp 89)),
 qO 91 (.bin .eql (.tmp 90) (qK 0)),
 qM 92 91,
  ⟨(some 93), .move (.tmp 12), (some ((some 92), true))⟩,
  ⟨(some 94), .nilEq true 1 (.tmp 93) (.const (.slice none 0 0)), (some ((some 92), true))⟩,
  ⟨(some 95), .move (.tmp 94), (some ((some 92), true))⟩,
  ⟨(some 96), .move (.tmp 3), (some ((some 95), false))⟩,
  ⟨(some 97), .pick (.tmp 95) (.const (.bool true)) (.tmp 96), (some ((some 92), true))⟩,
 qO 98 (.pick (.tmp 92) (.tmp 97) (.const (.bool false)))] none
def f10r17 : ICode := .region [
 qM 99 11,
 qM 100 11,
 qO 101 (.nilCheck (.tmp 100)),
 qO 102 (.fieldAddr 0 (.tmp 101)),
 qO 103 (.load1 (.tmp 102)),
 qO 104 (.sliceSl 2 (.tmp 103) none (some (qK 0))),
 qO 105 (.nilCheck (.tmp 99)),
 qO 106 (.fieldAddr 0 (.tmp 105)),
  ⟨none, .store 1 (.tmp 106) (.tmp 104), none⟩] none
def f10r18 : ICode := .region [
 qM 107 10,
 qO 108 (.nilCheck (.tmp 107)),
 qO 109 (.fieldAddr 0 (.tmp 108)),
 qO 110 (.load1 (.tmp 109)),
 qO 111 (.len 1 (.tmp 110)),
 qO 112 (.move (qK 0))] none
def f10r19 : ICode := .region [
 qO 113 (.bin .lss (.tmp 112) (.tmp 111))] none
def f10r20 : ICode := .region [
 qO 114 (.indexSl 2 (.tmp 110) (.tmp 112)),
 qO 115 (.loadN 2 (.tmp 114)),
 qO 17 (.new [qZ, (.slice none 0 0)] 73),
  ⟨none, .store 2 (.tmp 17) (.tmp 115), none⟩] none
def f10r21 : ICode := .region [
 qO 116 (.fieldAddr 0 (.tmp 4)),
 qO 117 (.load1 (.tmp 116)),
 qO 118 (.fieldAddr 0 (.tmp 17)),
 qO 119 (.load1 (.tmp 118)),
 qO 120 (.indexSl 5 (.tmp 117) (.tmp 119)),
 qO 121 (.loadN 5 (.tmp 120)),
 qO 18 (.new [qZ, qZ, qZ, qZ, qZ] 77),
  ⟨none, .store 5 (.tmp 18) (.tmp 121), none⟩] none
def f10r22 : ICode := .region [
 qO 122 (.fieldAddr 0 (.tmp 18)),
 qO 123 (.load1 (.tmp 122)),
 qO 124 (.bin .eql (.tmp 123) (qK 5))] none
def f10r23 : ICode := .region [
 qO 125 (.fieldAddr 1 (.tmp 17)),
 qO 126 (.load1 (.tmp 125)),
 qM 12 126] none
def f10r24 : ICode := .region [
 qM 127 13,
 qM 128 1,
 qO 129 (.len 0 (.tmp 128)),
 qO 130 (.bin .lss (.tmp 127) (.tmp 129)),
 qM 131 130,
  ⟨(some 132), .move (.tmp 1), (some ((some 131), true))⟩,
  ⟨(some 133), .move (.tmp 13), (some ((some 131), true))⟩,
  ⟨(some 134), .indexStr (.tmp 132) (.tmp 133), (some ((some 131), true))⟩,
  ⟨(some 135), .conv .i64 (.tmp 134), (some ((some 131), true))⟩,
  ⟨(some 136), .fieldAddr 3 (.tmp 18), (some ((some 131), true))⟩,
  ⟨(some 137), .fieldAddr 0 (.tmp 136), (some ((some 131), true))⟩,
  ⟨(some 138), .load1 (.tmp 137), (some ((some 131), true))⟩,
  ⟨(some 139), .bin .geq (.tmp 135) (.tmp 138), (some ((some 131), true))⟩,
 qO 140 (.pick (.tmp 131) (.tmp 139) (.const (.bool false))),
 qM 141 140,
  ⟨(some 142), .move (.tmp 1), (some ((some 141), true))⟩,
  ⟨(some 143), .move (.tmp 13), (some ((some 141), true))⟩,
  ⟨(some 144), .indexStr (.tmp 142) (.tmp 143), (some ((some 141), true))⟩,
  ⟨(some 145), .conv .i64 (.tmp 144), (some ((some 141), true))⟩,
  ⟨(some 146), .fieldAddr 3 (.tmp 18), (some ((some 141), true))⟩,
  ⟨(some 147), .fieldAddr 1 (.tmp 146), (some ((some 141), true))⟩,
  ⟨(some 148), .load1 (.tmp 147), (some ((some 141), true))⟩,
  ⟨(some 149), .bin .leq (.tmp 145) (.tmp 148), (some ((some 141), true))⟩,
 qO 150 (.pick (.tmp 141) (.tmp 149) (.const (.bool false)))] (some ⟨[], []⟩)
def f10r25 : ICode := .region [
 qM 151 9,
 qM 152 11,
 qO 153 (.fieldAddr 1 (.tmp 18)),
 qO 154 (.load1 (.tmp 153)),
 qO 155 (.fieldAddr 1 (.tmp 17)),
 qO 156 (.load1 (.tmp 155)),
 qO 157 (.build [qZ, (.slice none 0 0)] [(0, 1, (.tmp 154)), (1, 1, (.tmp 156))]),
 qM 158 13,
 qO 159 (.bin .add (.tmp 158) (qK 1)),
 qO 160 (.call 20 [(.tmp 151), (.tmp 152), (.tmp 157), (.tmp 159)])] none
def f10r26 : ICode := .region [
 qO 161 (.bin .add (.tmp 112) (qK 1)),
 qM 112 161] none
def f10r27 : ICode := .region [
 qM 162 11,
 qM 163 10,
 qM 10 162,
 qM 11 163] none
def f10r28 : ICode := .region [
 qM 54 13,
 qO 55 (.bin .add (.tmp 54) (qK 1)),
 qM 13 55] none
def f10r29 : ICode := .region [
 qM 164 12,
 qM 8 164] none
/- ferret/pike.Run -/
def f10 : IFn := ⟨165, [.inl 8], (.seq f10r0 (.seq (.seq f10r1 (.cond (.tmp 32) (.seq f10r2 .ret) .skip)) (.seq f10r3 (.seq f10r4 (.seq f10r5 (.seq (.seq f10r6 (.block 0 (.loop (.seq (.seq f10r7 (.cond (.tmp 53) .skip (.exit 0))) (.seq (.block 1 (.seq (.seq f10r8 (.cond (.tmp 66) (.seq f10r9 (.seq (.seq f10r10 (.block 2 (.loop (.seq f10r11 (.seq (.cond (.tmp 74) .skip (.exit 2)) (.seq (.block 3 (.seq f10r12 f10r13)) f10r14)))))) f10r15)) .skip)) (.seq (.seq f10r16 (.cond (.tmp 98) (.exit 0) .skip)) (.seq f10r17 (.seq (.seq f10r18 (.block 4 (.loop (.seq f10r19 (.seq (.cond (.tmp 113) .skip (.exit 4)) (.seq (.block 5 (.seq f10r20 (.seq f10r21 (.seq (.seq f10r22 (.cond (.tmp 124) (.seq f10r23 (.exit 4)) .skip)) (.seq f10r24 (.cond (.tmp 150) f10r25 .skip)))))) f10r26)))))) f10r27))))) f10r28))))) (.seq f10r29 .ret)))))))⟩
def f11r0 : ICode := .region [
 qO 6 (.new [qZ, (.slice none 0 0), (.slice none 0 0), qZ] 34),
 qO 7 (.new [qZ, qZ] 37)] none
def f11r1 : ICode := .region [
 qM 14 1,
 qO 15 (.bin .lss (.tmp 14) (qK 0)),
 qM 16 15,
  ⟨(some 17), .move (.tmp 1), (some ((some 16), false))⟩,
  ⟨(some 18), .bin .gtr (.tmp 17) (qK 4), (some ((some 16), false))⟩,
 qO 19 (.pick (.tmp 16) (.const (.bool true)) (.tmp 18))] none
def f11r2 : ICode := .region [
 qO 20 (.build [qZ, (.slice none 0 0), (.slice none 0 0), qZ] []),
 qO 21 (.build [qZ, qZ] [(0, 1, (qK 1))]),
  ⟨none, .store 4 (.tmp 6) (.tmp 20), none⟩,
  ⟨none, .store 2 (.tmp 7) (.tmp 21), none⟩] none
def f11r3 : ICode := .region [
 qM 22 1,
 qO 23 (.build [qZ, (.slice none 0 0), (.slice none 0 0), qZ] [(0, 1, (.tmp 22))]),
 qO 8 (.new [qZ, (.slice none 0 0), (.slice none 0 0), qZ] 34),
  ⟨none, .store 4 (.tmp 8) (.tmp 23), none⟩] none
def f11r4 : ICode := .region [
 qM 24 1,
 qO 25 (.bin .eql (.tmp 24) (qK 0))] none
def f11r5 : ICode := .region [
 qM 27 0,
 qO 28 (.call 21 [(.tmp 27)]),
 qM 26 28,
 qO 29 (.extract (.tmp 26) 0),
 qO 30 (.extract (.tmp 26) 1),
 qO 31 (.fieldAddr 0 (.tmp 8)),
  ⟨none, .store 1 (.tmp 31) (.tmp 29), none⟩] none
def f11r6 : ICode := .region [
 qO 9 (.move (qK 0))] none
def f11r7 : ICode := .region [
 qO 32 (.fieldAddr 0 (.tmp 8)),
 qO 33 (.load1 (.tmp 32)),
 qO 34 (.call 22 [(.tmp 33)]),
 qM 10 34] none
def f11r8 : ICode := .region [
 qM 35 0,
 qM 36 10,
 qO 37 (.call 23 [(.tmp 35), (.tmp 36)])] none
def f11r9 : ICode := .region [
 qM 38 10,
 qO 39 (.len 0 (.tmp 38)),
 qM 9 39] none
def f11r10 : ICode := .region [
 qO 40 (.fieldAddr 0 (.tmp 8)),
 qO 41 (.load1 (.tmp 40)),
 qO 42 (.call 24 [(.tmp 41)]),
 qM 11 42] none
def f11r11 : ICode := .region [
 qM 43 9,
 qM 44 0,
 qO 45 (.len 0 (.tmp 44)),
 qO 46 (.bin .lss (.tmp 43) (.tmp 45))] none
def f11r12 : ICode := .region [
 qM 48 11,
 qM 49 0,
 qM 50 9,
 qO 51 (.sliceStr (.tmp 49) (some (.tmp 50)) none),
 qO 52 (.callv (.tmp 48) [(.tmp 51)]),
 qM 47 52,
 qO 53 (.extract (.tmp 47) 0),
 qO 54 (.extract (.tmp 47) 1),
 qM 12 53,
 qM 13 54] none
def f11r13 : ICode := .region [
 qM 55 12,
 qO 56 (.bin .lss (.tmp 55) (qK 0))] none
def f11r14 : ICode := .region [
 qM 57 2] none
def f11r15 : ICode := .region [
 qO 58 (.build [qZ, (.slice none 0 0), (.slice none 0 0), qZ] []),
 qM 59 9,
 qO 60 (.build [qZ, qZ] [(0, 1, (qK 17)), (1, 1, (.tmp 59))]),
  ⟨none, .store 4 (.tmp 6) (.tmp 58), none⟩,
  ⟨none, .store 2 (.tmp 7) (.tmp 60), none⟩] none
def f11r16 : ICode := .region [
 qO 12 (.move (qK 65533))] none
def f11r17 : ICode := .region [
 qO 61 (.fieldAddr 3 (.tmp 8)),
 qO 62 (.load1 (.tmp 61)),
 qO 63 (.bin .add (.tmp 62) (qK 1)),
 qO 64 (.fieldAddr 3 (.tmp 8)),
  ⟨none, .store 1 (.tmp 64) (.tmp 63), none⟩] none
def f11r18 : ICode := .region [
 qO 65 (.fieldAddr 1 (.tmp 8)),
 qO 66 (.load1 (.tmp 65)),
 qM 67 12,
 qO 68 (.buildSlice 3 1 [qZ] [(0, 1, (.tmp 67))]),
 qO 69 (.append 3 1 8 (.tmp 66) (.tmp 68)),
 qO 70 (.fieldAddr 2 (.tmp 8)),
 qO 71 (.load1 (.tmp 70)),
 qM 72 9,
 qO 73 (.buildSlice 3 1 [qZ] [(0, 1, (.tmp 72))]),
 qO 74 (.append 3 1 8 (.tmp 71) (.tmp 73)),
 qO 75 (.fieldAddr 1 (.tmp 8)),
  ⟨none, .store 1 (.tmp 75) (.tmp 69), none⟩,
 qO 76 (.fieldAddr 2 (.tmp 8)),
  ⟨none, .store 1 (.tmp 76) (.tmp 74), none⟩] (some ⟨[(6, [3])], [(6, 4)]⟩)
def f11r19 : ICode := .region [
 qM 77 9,
 qM 78 13,
 qO 79 (.bin .add (.tmp 77) (.tmp 78)),
 qM 9 79] none
def f11r20 : ICode := .region [
 qO 80 (.fieldAddr 2 (.tmp 8)),
 qO 81 (.load1 (.tmp 80)),
 qM 82 0,
 qO 83 (.len 0 (.tmp 82)),
 qO 84 (.buildSlice 3 1 [qZ] [(0, 1, (.tmp 83))]),
 qO 85 (.append 3 1 8 (.tmp 81) (.tmp 84)),
 qO 86 (.fieldAddr 2 (.tmp 8)),
  ⟨none, .store 1 (.tmp 86) (.tmp 85), none⟩] none
def f11r21 : ICode := .region [
 qO 87 (.loadN 4 (.tmp 8)),
 qO 88 (.build [qZ, qZ] []),
  ⟨none, .store 4 (.tmp 6) (.tmp 87), none⟩,
  ⟨none, .store 2 (.tmp 7) (.tmp 88), none⟩] none
/- ferret/coding.Decode -/
def f11 : IFn := ⟨89, [.inr (6, (some 4)), .inr (7, (some 2))], (.seq f11r0 (.seq (.seq f11r1 (.cond (.tmp 19) (.seq f11r2 .ret) .skip)) (.seq f11r3 (.seq (.seq f11r4 (.cond (.tmp 25) f11r5 .skip)) (.seq f11r6 (.seq (.seq f11r7 (.seq f11r8 (.cond (.tmp 37) f11r9 .skip))) (.seq f11r10 (.seq (.block 0 (.loop (.seq (.seq f11r11 (.cond (.tmp 46) .skip (.exit 0))) (.block 1 (.seq f11r12 (.seq (.seq f11r13 (.cond (.tmp 56) (.seq (.seq f11r14 (.cond (.tmp 57) (.seq f11r15 .ret) .skip)) (.seq f11r16 f11r17)) .skip)) (.seq f11r18 f11r19))))))) (.seq f11r20 (.seq f11r21 .ret))))))))))⟩
def f12r0 : ICode := .region [
 qO 6 (.move (.const (.string ⟨⟨[]⟩⟩))),
 qO 7 (.move (qK 0))] none
def f12r1 : ICode := .region [
 qM 11 1,
 qO 12 (.bin .lss (.tmp 11) (qK 1)),
 qM 13 12,
  ⟨(some 14), .move (.tmp 1), (some ((some 13), false))⟩,
  ⟨(some 15), .bin .gtr (.tmp 14) (qK 4), (some ((some 13), false))⟩,
 qO 16 (.pick (.tmp 13) (.const (.bool true)) (.tmp 15))] none
def f12r2 : ICode := .region [
 qO 6 (.move (.const (.string ⟨⟨[]⟩⟩))),
 qO 7 (.move (qK 1))] none
def f12r3 : ICode := .region [
 qO 8 (.move (.const (.slice none 0 0)))] none
def f12r4 : ICode := .region [
 qM 17 2] none
def f12r5 : ICode := .region [
 qM 18 8,
 qM 19 1,
 qO 20 (.call 22 [(.tmp 19)]),
 qO 21 (.append 5 1 1 (.tmp 18) (.tmp 20)),
 qM 8 21] none
def f12r6 : ICode := .region [
 qM 22 0,
 qO 23 (.len 1 (.tmp 22)),
 qO 24 (.move (qK 0))] none
def f12r7 : ICode := .region [
 qO 25 (.bin .lss (.tmp 24) (.tmp 23))] none
def f12r8 : ICode := .region [
 qO 26 (.indexSl 1 (.tmp 22) (.tmp 24)),
 qO 27 (.load1 (.tmp 26)),
 qM 10 27] none
def f12r9 : ICode := .region [
 qM 28 10,
 qO 29 (.bin .lss (.tmp 28) (qK 0)),
 qM 30 29,
  ⟨(some 31), .move (.tmp 10), (some ((some 30), false))⟩,
  ⟨(some 32), .bin .gtr (.tmp 31) (qK 1114111), (some ((some 30), false))⟩,
 qO 33 (.pick (.tmp 30) (.const (.bool true)) (.tmp 32)),
 qM 34 33,
  ⟨(some 35), .move (.tmp 10), (some ((some 34), false))⟩,
  ⟨(some 36), .bin .geq (.tmp 35) (qK 55296), (some ((some 34), false))⟩,
  ⟨(some 37), .move (.tmp 36), (some ((some 34), false))⟩,
  ⟨(some 38), .move (.tmp 10), (some ((some 37), true))⟩,
  ⟨(some 39), .bin .leq (.tmp 38) (qK 57343), (some ((some 37), true))⟩,
  ⟨(some 40), .pick (.tmp 37) (.tmp 39) (.const (.bool false)), (some ((some 34), false))⟩,
 qO 41 (.pick (.tmp 34) (.const (.bool true)) (.tmp 40)),
 qM 42 41,
  ⟨(some 43), .move (.tmp 1), (some ((some 42), false))⟩,
  ⟨(some 44), .bin .eql (.tmp 43) (qK 4), (some ((some 42), false))⟩,
  ⟨(some 45), .move (.tmp 44), (some ((some 42), false))⟩,
  ⟨(some 46), .move (.tmp 10), (some ((some 45), true))⟩,
  ⟨(some 47), .bin .gtr (.tmp 46) (qK 255), (some ((some 45), true))⟩,
  ⟨(some 48), .pick (.tmp 45) (.tmp 47) (.const (.bool false)), (some ((some 42), false))⟩,
 qO 49 (.pick (.tmp 42) (.const (.bool true)) (.tmp 48))] none
def f12r10 : ICode := .region [
 qO 6 (.move (.const (.string ⟨⟨[]⟩⟩))),
 qO 7 (.move (qK 17))] none
def f12r11 : ICode := .region [
 qM 50 8,
 qM 51 10,
 qM 52 1,
 qO 53 (.call 25 [(.tmp 50), (.tmp 51), (.tmp 52)]),
 qM 8 53] none
def f12r12 : ICode := .region [
 qO 54 (.bin .add (.tmp 24) (qK 1)),
 qM 24 54] none
def f12r13 : ICode := .region [
 qM 55 8,
 qO 56 (.bytesToStr (.tmp 55)),
 qM 6 56,
 qO 7 (.move (qK 0))] none
/- ferret/coding.Encode -/
def f12 : IFn := ⟨57, [.inl 6, .inl 7], (.seq f12r0 (.seq (.seq f12r1 (.cond (.tmp 16) (.seq f12r2 .ret) .skip)) (.seq f12r3 (.seq (.seq f12r4 (.cond (.tmp 17) f12r5 .skip)) (.seq (.seq f12r6 (.block 0 (.loop (.seq f12r7 (.seq (.cond (.tmp 25) .skip (.exit 0)) (.seq (.block 1 (.seq f12r8 (.seq (.seq f12r9 (.cond (.tmp 49) (.seq f12r10 .ret) .skip)) f12r11))) f12r12)))))) (.seq f12r13 .ret))))))⟩
def f18r0 : ICode := .region [
 qO 3 (.box 61 (.tmp 1)),
 qO 4 (.new [qZ, (.slice none 0 0), (.bool false), qZ, qZ, (.bool false), qZ, (.string ⟨⟨[]⟩⟩), (.slice none 0 0), (.slice none 0 0)] 57),
 qO 5 (.new [qZ, qZ] 37)] none
def f18r1 : ICode := .region [
 qM 9 0,
 qO 10 (.len 0 (.tmp 9)),
 qO 11 (.bin .gtr (.tmp 10) (qK 1024))] none
def f18r2 : ICode := .region [
 qO 12 (.build [qZ, (.slice none 0 0), (.bool false), qZ, qZ, (.bool false), qZ, (.string ⟨⟨[]⟩⟩), (.slice none 0 0), (.slice none 0 0)] []),
 qO 13 (.build [qZ, qZ] [(0, 1, (qK 2))]),
  ⟨none, .store 10 (.tmp 4) (.tmp 12), none⟩,
  ⟨none, .store 2 (.tmp 5) (.tmp 13), none⟩] none
def f18r3 : ICode := .region [
 qM 15 0,
 qO 16 (.call 11 [(.tmp 15), (qK 1), (.const (.bool true))]),
 qM 14 16,
 qO 17 (.extract (.tmp 14) 0),
 qO 18 (.extract (.tmp 14) 1),
 qO 6 (.new [qZ, (.slice none 0 0), (.slice none 0 0), qZ] 34),
  ⟨none, .store 4 (.tmp 6) (.tmp 17), none⟩,
  ⟨none, .store 2 (.tmp 5) (.tmp 18), none⟩] none
def f18r4 : ICode := .region [
 qO 19 (.fieldAddr 0 (.tmp 5)),
 qO 20 (.load1 (.tmp 19)),
 qO 21 (.bin .neq (.tmp 20) (qK 0))] none
def f18r5 : ICode := .region [
 qO 22 (.build [qZ, (.slice none 0 0), (.bool false), qZ, qZ, (.bool false), qZ, (.string ⟨⟨[]⟩⟩), (.slice none 0 0), (.slice none 0 0)] []),
 qO 23 (.loadN 2 (.tmp 5)),
  ⟨none, .store 10 (.tmp 4) (.tmp 22), none⟩,
  ⟨none, .store 2 (.tmp 5) (.tmp 23), none⟩] (some ⟨[], [(1, 2)]⟩)
def f18r6 : ICode := .region [
 qO 24 (.mkFunc (.func 29) [] [(.tmp 4), (.tmp 5)]),
  ⟨none, .defer (.tmp 24) [], none⟩] none
def f18r7 : ICode := .region [
 qO 25 (.loadN 4 (.tmp 6)),
 qO 26 (.buildSlice 9 1 [(.string ⟨⟨[]⟩⟩)] [(0, 1, (.const (.string ⟨⟨[]⟩⟩)))]),
 qO 27 (.loadN 4 (.tmp 3)),
 qO 28 (.build [qZ, (.slice none 0 0), (.slice none 0 0), qZ, qZ, (.slice none 0 0), (.slice none 0 0), (.bool false), (.bool false), (.bool false), (.bool false)] [(0, 4, (.tmp 25)), (6, 1, (.tmp 26)), (7, 4, (.tmp 27))]),
 qO 29 (.box 102 (.tmp 28)),
 qM 7 29] none
def f18r8 : ICode := .region [
 qM 30 7,
 qO 31 (.call 30 [(.tmp 30)]),
 qO 8 (.new [qZ, (.slice none 0 0), (.bool false), qZ, qZ, (.bool false), qZ, (.string ⟨⟨[]⟩⟩), (.slice none 0 0)] 54),
  ⟨none, .store 9 (.tmp 8) (.tmp 31), none⟩] none
def f18r9 : ICode := .region [
 qO 32 (.loadN 9 (.tmp 8)),
 qM 33 7,
 qO 34 (.nilCheck (.tmp 33)),
 qO 35 (.fieldAddr 6 (.tmp 34)),
 qO 36 (.load1 (.tmp 35)),
 qO 37 (.build [qZ, (.slice none 0 0), (.bool false), qZ, qZ, (.bool false), qZ, (.string ⟨⟨[]⟩⟩), (.slice none 0 0), (.slice none 0 0)] [(0, 9, (.tmp 32)), (9, 1, (.tmp 36))]),
 qO 38 (.build [qZ, qZ] []),
  ⟨none, .store 10 (.tmp 4) (.tmp 37), none⟩,
  ⟨none, .store 2 (.tmp 5) (.tmp 38), none⟩] (some ⟨[], []⟩)
/- ferret/syn.Parse -/
def f18 : IFn := ⟨39, [.inr (4, (some 10)), .inr (5, (some 2))], (.seq f18r0 (.seq (.seq f18r1 (.cond (.tmp 11) (.seq f18r2 .ret) .skip)) (.seq f18r3 (.seq (.seq f18r4 (.cond (.tmp 21) (.seq f18r5 .ret) .skip)) (.seq f18r6 (.seq f18r7 (.seq f18r8 (.seq f18r9 .ret))))))))⟩
def f19r0 : ICode := .region [
 qO 1 (.box 57 (.tmp 0)),
 qO 2 (.new [(.slice none 0 0), qZ] 30),
 qO 3 (.move (qK 0))] none
def f19r1 : ICode := .region [
 qO 9 (.fieldAddr 0 (.tmp 1)),
 qO 10 (.loadN 9 (.tmp 9)),
 qO 11 (.call 31 [(.tmp 10)]),
 qM 8 11,
 qO 12 (.extract (.tmp 8) 0),
 qO 13 (.extract (.tmp 8) 1),
 qO 4 (.new [qZ, (.slice none 0 0), (.bool false), qZ, qZ, (.bool false), qZ, (.string ⟨⟨[]⟩⟩), (.slice none 0 0)] 54),
  ⟨none, .store 9 (.tmp 4) (.tmp 12), none⟩,
 qM 5 13] none
def f19r2 : ICode := .region [
 qM 14 5,
 qO 15 (.bin .neq (.tmp 14) (qK 0))] none
def f19r3 : ICode := .region [
 qO 16 (.build [(.slice none 0 0), qZ] []),
 qM 17 5,
  ⟨none, .store 2 (.tmp 2) (.tmp 16), none⟩,
 qM 3 17] none
def f19r4 : ICode := .region [
 qO 18 (.build [(.slice none 0 0), (.bool false)] []),
 qO 19 (.box 108 (.tmp 18)),
 qM 6 19] none
def f19r5 : ICode := .region [
 qM 20 6,
 qO 21 (.build [qZ, qZ, qZ, qZ, qZ] [(0, 1, (qK 3))]),
 qO 22 (.call 32 [(.tmp 20), (.tmp 21)])] none
def f19r6 : ICode := .region [
 qM 23 6,
 qO 24 (.loadN 9 (.tmp 4)),
 qO 25 (.call 33 [(.tmp 23), (.tmp 24)])] none
def f19r7 : ICode := .region [
 qM 26 6,
 qO 27 (.build [qZ, qZ, qZ, qZ, qZ] [(0, 1, (qK 3)), (2, 1, (qK 1))]),
 qO 28 (.call 32 [(.tmp 26), (.tmp 27)])] none
def f19r8 : ICode := .region [
 qM 29 6,
 qO 30 (.build [qZ, qZ, qZ, qZ, qZ] [(0, 1, (qK 5))]),
 qO 31 (.call 32 [(.tmp 29), (.tmp 30)]),
 qM 7 31] none
def f19r9 : ICode := .region [
 qM 32 6,
 qO 33 (.nilCheck (.tmp 32)),
 qO 34 (.fieldAddr 0 (.tmp 33)),
 qO 35 (.load1 (.tmp 34)),
 qM 36 7,
 qO 37 (.indexSl 5 (.tmp 35) (.tmp 36)),
 qO 38 (.fieldAddr 1 (.tmp 37)),
  ⟨none, .store 1 (.tmp 38) (qK 0), none⟩] none
def f19r10 : ICode := .region [
 qM 39 6,
 qO 40 (.nilCheck (.tmp 39)),
 qO 41 (.fieldAddr 1 (.tmp 40)),
 qO 42 (.load1 (.tmp 41))] none
def f19r11 : ICode := .region [
 qO 43 (.build [(.slice none 0 0), qZ] []),
  ⟨none, .store 2 (.tmp 2) (.tmp 43), none⟩,
 qO 3 (.move (qK 26))] none
def f19r12 : ICode := .region [
 qM 44 6,
 qO 45 (.nilCheck (.tmp 44)),
 qO 46 (.fieldAddr 0 (.tmp 45)),
 qO 47 (.load1 (.tmp 46)),
 qO 48 (.fieldAddr 9 (.tmp 1)),
 qO 49 (.load1 (.tmp 48)),
 qO 50 (.len 1 (.tmp 49)),
 qO 51 (.build [(.slice none 0 0), qZ] [(0, 1, (.tmp 47)), (1, 1, (.tmp 50))]),
  ⟨none, .store 2 (.tmp 2) (.tmp 51), none⟩,
 qO 3 (.move (qK 0))] (some ⟨[], []⟩)
/- ferret/prog.Compile -/
def f19 : IFn := ⟨52, [.inr (2, (some 2)), .inl 3], (.seq f19r0 (.seq f19r1 (.seq (.seq f19r2 (.cond (.tmp 15) (.seq f19r3 .ret) .skip)) (.seq f19r4 (.seq f19r5 (.seq f19r6 (.seq f19r7 (.seq f19r8 (.seq f19r9 (.seq (.seq f19r10 (.cond (.tmp 42) (.seq f19r11 .ret) .skip)) (.seq f19r12 .ret)))))))))))⟩
def f20r0 : ICode := .region [
 qO 6 (.box 73 (.tmp 2))] none
def f20r1 : ICode := .region [
 qM 11 0,
 qM 12 0,
 qO 13 (.nilCheck (.tmp 12)),
 qO 14 (.fieldAddr 3 (.tmp 13)),
 qO 15 (.load1 (.tmp 14)),
 qO 16 (.sliceSl 2 (.tmp 15) none (some (qK 0))),
 qO 17 (.loadN 2 (.tmp 6)),
 qO 18 (.buildSlice 73 1 [qZ, (.slice none 0 0)] [(0, 2, (.tmp 17))]),
 qO 19 (.append 73 2 32 (.tmp 16) (.tmp 18)),
 qO 20 (.nilCheck (.tmp 11)),
 qO 21 (.fieldAddr 3 (.tmp 20)),
  ⟨none, .store 1 (.tmp 21) (.tmp 19), none⟩] (some ⟨[], []⟩)
def f20r2 : ICode := .region [
 qM 22 0,
 qO 23 (.nilCheck (.tmp 22)),
 qO 24 (.fieldAddr 3 (.tmp 23)),
 qO 25 (.load1 (.tmp 24)),
 qO 26 (.len 1 (.tmp 25)),
 qO 27 (.bin .eql (.tmp 26) (qK 0))] none
def f20r3 : ICode := .region [
 qM 28 0,
 qO 29 (.nilCheck (.tmp 28)),
 qO 30 (.fieldAddr 3 (.tmp 29)),
 qO 31 (.load1 (.tmp 30)),
 qM 32 0,
 qO 33 (.nilCheck (.tmp 32)),
 qO 34 (.fieldAddr 3 (.tmp 33)),
 qO 35 (.load1 (.tmp 34)),
 qO 36 (.len 1 (.tmp 35)),
 qO 37 (.bin .sub (.tmp 36) (qK 1)),
 qO 38 (.indexSl 2 (.tmp 31) (.tmp 37)),
 qO 39 (.loadN 2 (.tmp 38)),
 qO 8 (.new [qZ, (.slice none 0 0)] 73),
  ⟨none, .store 2 (.tmp 8) (.tmp 39), none⟩] (some ⟨[], []⟩)
def f20r4 : ICode := .region [
 qM 40 0,
 qM 41 0,
 qO 42 (.nilCheck (.tmp 41)),
 qO 43 (.fieldAddr 3 (.tmp 42)),
 qO 44 (.load1 (.tmp 43)),
 qM 45 0,
 qO 46 (.nilCheck (.tmp 45)),
 qO 47 (.fieldAddr 3 (.tmp 46)),
 qO 48 (.load1 (.tmp 47)),
 qO 49 (.len 1 (.tmp 48)),
 qO 50 (.bin .sub (.tmp 49) (qK 1)),
 qO 51 (.sliceSl 2 (.tmp 44) none (some (.tmp 50))),
 qO 52 (.nilCheck (.tmp 40)),
 qO 53 (.fieldAddr 3 (.tmp 52)),
  ⟨none, .store 1 (.tmp 53) (.tmp 51), none⟩] (some ⟨[], []⟩)
def f20r5 : ICode := .region [
 qM 54 1,
 qO 55 (.nilCheck (.tmp 54)),
 qO 56 (.fieldAddr 1 (.tmp 55)),
 qO 57 (.load1 (.tmp 56)),
 qO 58 (.fieldAddr 0 (.tmp 8)),
 qO 59 (.load1 (.tmp 58)),
 qO 60 (.indexSl 1 (.tmp 57) (.tmp 59)),
 qO 61 (.load1 (.tmp 60)),
 qM 62 3,
 qO 63 (.bin .add (.tmp 62) (qK 1)),
 qO 64 (.bin .eql (.tmp 61) (.tmp 63))] (some ⟨[], []⟩)
def f20r6 : ICode := .region [
 qM 65 1,
 qO 66 (.nilCheck (.tmp 65)),
 qO 67 (.fieldAddr 1 (.tmp 66)),
 qO 68 (.load1 (.tmp 67)),
 qO 69 (.fieldAddr 0 (.tmp 8)),
 qO 70 (.load1 (.tmp 69)),
 qM 71 3,
 qO 72 (.bin .add (.tmp 71) (qK 1)),
 qO 73 (.indexSl 1 (.tmp 68) (.tmp 70)),
  ⟨none, .store 1 (.tmp 73) (.tmp 72), none⟩] (some ⟨[], []⟩)
def f20r7 : ICode := .region [
 qM 74 0,
 qO 75 (.nilCheck (.tmp 74)),
 qO 76 (.fieldAddr 0 (.tmp 75)),
 qO 77 (.fieldAddr 0 (.tmp 76)),
 qO 78 (.load1 (.tmp 77)),
 qO 79 (.fieldAddr 0 (.tmp 8)),
 qO 80 (.load1 (.tmp 79)),
 qO 81 (.indexSl 5 (.tmp 78) (.tmp 80)),
 qO 82 (.loadN 5 (.tmp 81)),
 qO 9 (.new [qZ, qZ, qZ, qZ, qZ] 77),
  ⟨none, .store 5 (.tmp 9) (.tmp 82), none⟩] (some ⟨[], []⟩)
def f20r8 : ICode := .region [
 qO 83 (.fieldAddr 0 (.tmp 9)),
 qO 84 (.load1 (.tmp 83))] none
def f20r9 : ICode := .region [
 qO 86 (.bin .eql (.tmp 84) (qK 0)),
 qM 85 86] none
def f20r10 : ICode := .region [
 qO 87 (.bin .eql (.tmp 84) (qK 5)),
 qM 85 87] none
def f20r11 : ICode := .region [
 qM 88 1,
 qM 89 1,
 qO 90 (.nilCheck (.tmp 89)),
 qO 91 (.fieldAddr 0 (.tmp 90)),
 qO 92 (.load1 (.tmp 91)),
 qO 93 (.loadN 2 (.tmp 8)),
 qO 94 (.buildSlice 73 1 [qZ, (.slice none 0 0)] [(0, 2, (.tmp 93))]),
 qO 95 (.append 73 2 32 (.tmp 92) (.tmp 94)),
 qO 96 (.nilCheck (.tmp 88)),
 qO 97 (.fieldAddr 0 (.tmp 96)),
  ⟨none, .store 1 (.tmp 97) (.tmp 95), none⟩] (some ⟨[], []⟩)
def f20r12 : ICode := .region [
 qO 99 (.bin .eql (.tmp 84) (qK 1)),
 qM 98 99] none
def f20r13 : ICode := .region [
 qM 100 0,
 qM 101 0,
 qO 102 (.nilCheck (.tmp 101)),
 qO 103 (.fieldAddr 3 (.tmp 102)),
 qO 104 (.load1 (.tmp 103)),
 qO 105 (.fieldAddr 2 (.tmp 9)),
 qO 106 (.load1 (.tmp 105)),
 qO 107 (.fieldAddr 1 (.tmp 8)),
 qO 108 (.load1 (.tmp 107)),
 qO 109 (.build [qZ, (.slice none 0 0)] [(0, 1, (.tmp 106)), (1, 1, (.tmp 108))]),
 qO 110 (.buildSlice 73 1 [qZ, (.slice none 0 0)] [(0, 2, (.tmp 109))]),
 qO 111 (.append 73 2 32 (.tmp 104) (.tmp 110)),
 qO 112 (.nilCheck (.tmp 100)),
 qO 113 (.fieldAddr 3 (.tmp 112)),
  ⟨none, .store 1 (.tmp 113) (.tmp 111), none⟩] (some ⟨[], []⟩)
def f20r14 : ICode := .region [
 qO 115 (.bin .eql (.tmp 84) (qK 3)),
 qM 114 115] none
def f20r15 : ICode := .region [
 qO 116 (.fieldAddr 1 (.tmp 8)),
 qO 117 (.load1 (.tmp 116)),
 qO 118 (.append 3 1 8 (.const (.slice none 0 0)) (.tmp 117)),
 qM 10 118] none
def f20r16 : ICode := .region [
 qM 119 10,
 qO 120 (.fieldAddr 2 (.tmp 9)),
 qO 121 (.load1 (.tmp 120)),
 qM 122 3,
 qO 123 (.indexSl 1 (.tmp 119) (.tmp 121)),
  ⟨none, .store 1 (.tmp 123) (.tmp 122), none⟩] none
def f20r17 : ICode := .region [
 qM 124 10,
 qO 125 (.fieldAddr 1 (.tmp 8)),
  ⟨none, .store 1 (.tmp 125) (.tmp 124), none⟩] none
def f20r18 : ICode := .region [
 qO 127 (.bin .eql (.tmp 84) (qK 4)),
 qM 126 127] none
def f20r19 : ICode := .region [
 qO 128 (.fieldAddr 2 (.tmp 9)),
 qO 129 (.load1 (.tmp 128)),
 qM 130 0,
 qO 131 (.nilCheck (.tmp 130)),
 qO 132 (.fieldAddr 2 (.tmp 131)),
 qO 133 (.load1 (.tmp 132)),
 qM 134 3,
 qO 135 (.call 34 [(.tmp 129), (.tmp 133), (.tmp 134)]),
 qO 136 (.un .not (.tmp 135))] (some ⟨[], []⟩)
def f20r20 : ICode := .region [
 qO 138 (.bin .eql (.tmp 84) (qK 6)),
 qM 137 138] none
def f20r21 : ICode := .region [
 qO 139 (.fieldAddr 1 (.tmp 9)),
 qO 140 (.load1 (.tmp 139)),
 qO 141 (.fieldAddr 0 (.tmp 8)),
  ⟨none, .store 1 (.tmp 141) (.tmp 140), none⟩] none
def f20r22 : ICode := .region [
 qM 11 0,
 qM 12 0,
 qO 13 (.nilCheck (.tmp 12)),
 qO 14 (.fieldAddr 3 (.tmp 13)),
 qO 15 (.load1 (.tmp 14)),
 qO 16 (.sliceSl 2 (.tmp 15) none (some (qK 0))),
 qO 17 (.loadN 2 (.tmp 6)),
 qO 18 (.buildSlice 73 1 [qZ, (.slice none 0 0)] [(0, 2, (.tmp 17))]),
 qO 19 (.append 73 2 32 (.tmp 16) (.tmp 18)),
 qO 20 (.nilCheck (.tmp 11)),
 qO 21 (.fieldAddr 3 (.tmp 20)),
  ⟨none, .store 1 (.tmp 21) (.tmp 19), none⟩] (some ⟨[], []⟩)
def f20r23 : ICode := .region [
 qM 22 0,
 qO 23 (.nilCheck (.tmp 22)),
 qO 24 (.fieldAddr 3 (.tmp 23)),
 qO 25 (.load1 (.tmp 24)),
 qO 26 (.len 1 (.tmp 25)),
 qO 27 (.bin .eql (.tmp 26) (qK 0))] none
def f20r24 : ICode := .region [
 qM 28 0,
 qO 29 (.nilCheck (.tmp 28)),
 qO 30 (.fieldAddr 3 (.tmp 29)),
 qO 31 (.load1 (.tmp 30)),
 qM 32 0,
 qO 33 (.nilCheck (.tmp 32)),
 qO 34 (.fieldAddr 3 (.tmp 33)),
 qO 35 (.load1 (.tmp 34)),
 qO 36 (.len 1 (.tmp 35)),
 qO 37 (.bin .sub (.tmp 36) (qK 1)),
 qO 38 (.indexSl 2 (.tmp 31) (.tmp 37)),
 qO 39 (.loadN 2 (.tmp 38)),
 qO 8 (.new [qZ, (.slice none 0 0)] 73),
  ⟨none, .store 2 (.tmp 8) (.tmp 39), none⟩] (some ⟨[], []⟩)
def f20r25 : ICode := .region [
 qM 40 0,
 qM 41 0,
 qO 42 (.nilCheck (.tmp 41)),
 qO 43 (.fieldAddr 3 (.tmp 42)),
 qO 44 (.load1 (.tmp 43)),
 qM 45 0,
 qO 46 (.nilCheck (.tmp 45)),
 qO 47 (.fieldAddr 3 (.tmp 46)),
 qO 48 (.load1 (.tmp 47)),
 qO 49 (.len 1 (.tmp 48)),
 qO 50 (.bin .sub (.tmp 49) (qK 1)),
 qO 51 (.sliceSl 2 (.tmp 44) none (some (.tmp 50))),
 qO 52 (.nilCheck (.tmp 40)),
 qO 53 (.fieldAddr 3 (.tmp 52)),
  ⟨none, .store 1 (.tmp 53) (.tmp 51), none⟩] (some ⟨[], []⟩)
def f20r26 : ICode := .region [
 qM 54 1,
 qO 55 (.nilCheck (.tmp 54)),
 qO 56 (.fieldAddr 1 (.tmp 55)),
 qO 57 (.load1 (.tmp 56)),
 qO 58 (.fieldAddr 0 (.tmp 8)),
 qO 59 (.load1 (.tmp 58)),
 qO 60 (.indexSl 1 (.tmp 57) (.tmp 59)),
 qO 61 (.load1 (.tmp 60)),
 qM 62 3,
 qO 63 (.bin .add (.tmp 62) (qK 1)),
 qO 64 (.bin .eql (.tmp 61) (.tmp 63))] (some ⟨[], []⟩)
def f20r27 : ICode := .region [
 qM 65 1,
 qO 66 (.nilCheck (.tmp 65)),
 qO 67 (.fieldAddr 1 (.tmp 66)),
 qO 68 (.load1 (.tmp 67)),
 qO 69 (.fieldAddr 0 (.tmp 8)),
 qO 70 (.load1 (.tmp 69)),
 qM 71 3,
 qO 72 (.bin .add (.tmp 71) (qK 1)),
 qO 73 (.indexSl 1 (.tmp 68) (.tmp 70)),
  ⟨none, .store 1 (.tmp 73) (.tmp 72), none⟩] (some ⟨[], []⟩)
def f20r28 : ICode := .region [
 qM 74 0,
 qO 75 (.nilCheck (.tmp 74)),
 qO 76 (.fieldAddr 0 (.tmp 75)),
 qO 77 (.fieldAddr 0 (.tmp 76)),
 qO 78 (.load1 (.tmp 77)),
 qO 79 (.fieldAddr 0 (.tmp 8)),
 qO 80 (.load1 (.tmp 79)),
 qO 81 (.indexSl 5 (.tmp 78) (.tmp 80)),
 qO 82 (.loadN 5 (.tmp 81)),
 qO 9 (.new [qZ, qZ, qZ, qZ, qZ] 77),
  ⟨none, .store 5 (.tmp 9) (.tmp 82), none⟩] (some ⟨[], []⟩)
def f20r29 : ICode := .region [
 qO 83 (.fieldAddr 0 (.tmp 9)),
 qO 84 (.load1 (.tmp 83))] none
def f20r30 : ICode := .region [
 qO 86 (.bin .eql (.tmp 84) (qK 0)),
 qM 85 86] none
def f20r31 : ICode := .region [
 qO 87 (.bin .eql (.tmp 84) (qK 5)),
 qM 85 87] none
def f20r32 : ICode := .region [
 qM 88 1,
 qM 89 1,
 qO 90 (.nilCheck (.tmp 89)),
 qO 91 (.fieldAddr 0 (.tmp 90)),
 qO 92 (.load1 (.tmp 91)),
 qO 93 (.loadN 2 (.tmp 8)),
 qO 94 (.buildSlice 73 1 [qZ, (.slice none 0 0)] [(0, 2, (.tmp 93))]),
 qO 95 (.append 73 2 32 (.tmp 92) (.tmp 94)),
 qO 96 (.nilCheck (.tmp 88)),
 qO 97 (.fieldAddr 0 (.tmp 96)),
  ⟨none, .store 1 (.tmp 97) (.tmp 95), none⟩] (some ⟨[], []⟩)
def f20r33 : ICode := .region [
 qO 99 (.bin .eql (.tmp 84) (qK 1)),
 qM 98 99] none
def f20r34 : ICode := .region [
 qM 100 0,
 qM 101 0,
 qO 102 (.nilCheck (.tmp 101)),
 qO 103 (.fieldAddr 3 (.tmp 102)),
 qO 104 (.load1 (.tmp 103)),
 qO 105 (.fieldAddr 2 (.tmp 9)),
 qO 106 (.load1 (.tmp 105)),
 qO 107 (.fieldAddr 1 (.tmp 8)),
 qO 108 (.load1 (.tmp 107)),
 qO 109 (.build [qZ, (.slice none 0 0)] [(0, 1, (.tmp 106)), (1, 1, (.tmp 108))]),
 qO 110 (.buildSlice 73 1 [qZ, (.slice none 0 0)] [(0, 2, (.tmp 109))]),
 qO 111 (.append 73 2 32 (.tmp 104) (.tmp 110)),
 qO 112 (.nilCheck (.tmp 100)),
 qO 113 (.fieldAddr 3 (.tmp 112)),
  ⟨none, .store 1 (.tmp 113) (.tmp 111), none⟩] (some ⟨[], []⟩)
def f20r35 : ICode := .region [
 qO 115 (.bin .eql (.tmp 84) (qK 3)),
 qM 114 115] none
def f20r36 : ICode := .region [
 qO 116 (.fieldAddr 1 (.tmp 8)),
 qO 117 (.load1 (.tmp 116)),
 qO 118 (.append 3 1 8 (.const (.slice none 0 0)) (.tmp 117)),
 qM 10 118] none
def f20r37 : ICode := .region [
 qM 119 10,
 qO 120 (.fieldAddr 2 (.tmp 9)),
 qO 121 (.load1 (.tmp 120)),
 qM 122 3,
 qO 123 (.indexSl 1 (.tmp 119) (.tmp 121)),
  ⟨none, .store 1 (.tmp 123) (.tmp 122), none⟩] none
def f20r38 : ICode := .region [
 qM 124 10,
 qO 125 (.fieldAddr 1 (.tmp 8)),
  ⟨none, .store 1 (.tmp 125) (.tmp 124), none⟩] none
def f20r39 : ICode := .region [
 qO 127 (.bin .eql (.tmp 84) (qK 4)),
 qM 126 127] none
def f20r40 : ICode := .region [
 qO 128 (.fieldAddr 2 (.tmp 9)),
 qO 129 (.load1 (.tmp 128)),
 qM 130 0,
 qO 131 (.nilCheck (.tmp 130)),
 qO 132 (.fieldAddr 2 (.tmp 131)),
 qO 133 (.load1 (.tmp 132)),
 qM 134 3,
 qO 135 (.call 34 [(.tmp 129), (.tmp 133), (.tmp 134)]),
 qO 136 (.un .not (.tmp 135))] (some ⟨[], []⟩)
def f20r41 : ICode := .region [
 qO 138 (.bin .eql (.tmp 84) (qK 6)),
 qM 137 138] none
def f20r42 : ICode := .region [
 qO 139 (.fieldAddr 1 (.tmp 9)),
 qO 140 (.load1 (.tmp 139)),
 qO 141 (.fieldAddr 0 (.tmp 8)),
  ⟨none, .store 1 (.tmp 141) (.tmp 140), none⟩] none
/- (*ferret/pike.machine).spread -/
def f20 : IFn := ⟨142, [], (.seq f20r0 (.within (.seq f20r1 (.seq (.label 0) (.seq (.seq f20r2 (.cond (.tmp 27) .ret .skip)) (.seq f20r3 (.seq f20r4 (.seq (.label 1) (.seq (.seq f20r5 (.cond (.tmp 64) (.goto 0) .skip)) (.seq f20r6 (.seq f20r7 (.seq (.seq f20r8 (.block 0 (.seq (.seq f20r9 (.cond (.tmp 85) .skip f20r10)) (.cond (.tmp 85) (.seq f20r11 (.goto 0)) (.seq f20r12 (.cond (.tmp 98) f20r13 (.seq f20r14 (.cond (.tmp 114) (.seq f20r15 (.seq f20r16 f20r17)) (.seq f20r18 (.cond (.tmp 126) (.seq f20r19 (.cond (.tmp 136) (.goto 0) .skip)) (.seq f20r20 (.cond (.tmp 137) (.goto 0) .skip)))))))))))) (.seq f20r21 (.goto 1)))))))))))) (.seq f20r22 (.seq (.label 0) (.seq (.seq f20r23 (.cond (.tmp 27) .ret .skip)) (.seq f20r24 (.seq f20r25 (.seq (.label 1) (.seq (.seq f20r26 (.cond (.tmp 64) (.goto 0) .skip)) (.seq f20r27 (.seq f20r28 (.seq (.seq f20r29 (.block 0 (.seq (.seq f20r30 (.cond (.tmp 85) .skip f20r31)) (.cond (.tmp 85) (.seq f20r32 (.goto 0)) (.seq f20r33 (.cond (.tmp 98) f20r34 (.seq f20r35 (.cond (.tmp 114) (.seq f20r36 (.seq f20r37 f20r38)) (.seq f20r39 (.cond (.tmp 126) (.seq f20r40 (.cond (.tmp 136) (.goto 0) .skip)) (.seq f20r41 (.cond (.tmp 137) (.goto 0) .skip)))))))))))) (.seq f20r42 (.goto 1))))))))))))))⟩
def f21r0 : ICode := .region [
 qO 2 (.move (qK 0)),
 qO 3 (.move (qK 0))] none
def f21r1 : ICode := .region [
 qO 4 (.move (qK 1))] none
def f21r2 : ICode := .region [
 qM 6 4,
 qO 7 (.bin .leq (.tmp 6) (qK 3))] none
def f21r3 : ICode := .region [
 qM 10 4,
 qO 11 (.call 22 [(.tmp 10)]),
 qM 5 11] none
def f21r4 : ICode := .region [
 qM 12 0,
 qM 13 5,
 qO 14 (.call 23 [(.tmp 12), (.tmp 13)])] none
def f21r5 : ICode := .region [
 qM 15 4,
 qM 16 5,
 qO 17 (.len 0 (.tmp 16)),
 qM 2 15,
 qM 3 17] none
def f21r6 : ICode := .region [
 qM 8 4,
 qO 9 (.bin .add (.tmp 8) (qK 1)),
 qM 4 9] none
def f21r7 : ICode := .region [
 qO 2 (.move (qK 1)),
 qO 3 (.move (qK 0))] none
/- ferret/coding.Sniff -/
def f21 : IFn := ⟨18, [.inl 2, .inl 3], (.seq f21r0 (.seq (.seq f21r1 (.block 0 (.loop (.seq (.seq f21r2 (.cond (.tmp 7) .skip (.exit 0))) (.seq (.block 1 (.seq f21r3 (.seq f21r4 (.cond (.tmp 14) (.seq f21r5 .ret) .skip)))) f21r6))))) (.seq f21r7 .ret)))⟩
def f22r0 : ICode := .region [
 qO 2 (.move (.const (.string ⟨⟨[]⟩⟩)))] none
def f22r1 : ICode := .region [
 qM 3 0] none
def f22r2 : ICode := .region [
 qO 5 (.bin .eql (.tmp 3) (qK 1)),
 qM 4 5] none
def f22r3 : ICode := .region [
 qO 2 (.move (.const (.string ⟨⟨[239, 187, 191]⟩⟩)))] none
def f22r4 : ICode := .region [
 qO 7 (.bin .eql (.tmp 3) (qK 2)),
 qM 6 7] none
def f22r5 : ICode := .region [
 qO 2 (.move (.const (.string ⟨⟨[255, 254]⟩⟩)))] none
def f22r6 : ICode := .region [
 qO 9 (.bin .eql (.tmp 3) (qK 3)),
 qM 8 9] none
def f22r7 : ICode := .region [
 qO 2 (.move (.const (.string ⟨⟨[254, 255]⟩⟩)))] none
def f22r8 : ICode := .region [
 qO 2 (.move (.const (.string ⟨⟨[]⟩⟩)))] none
/- ferret/coding.mark -/
def f22 : IFn := ⟨10, [.inl 2], (.seq f22r0 (.seq (.seq f22r1 (.block 0 (.seq f22r2 (.cond (.tmp 4) (.seq f22r3 .ret) (.seq f22r4 (.cond (.tmp 6) (.seq f22r5 .ret) (.seq f22r6 (.cond (.tmp 8) (.seq f22r7 .ret) .skip)))))))) (.seq f22r8 .ret)))⟩
def f23r0 : ICode := .region [
 qO 4 (.move (.const (.bool false)))] none
def f23r1 : ICode := .region [
 qM 5 0,
 qM 6 1,
 qO 7 (.call 35 [(.tmp 5), (.tmp 6)]),
 qM 4 7] none
/- strings.HasPrefix -/
def f23 : IFn := ⟨8, [.inl 4], (.seq f23r0 (.seq f23r1 .ret))⟩
def f24r0 : ICode := .region [
 qO 2 (.move (.const .nilFunc))] none
def f24r1 : ICode := .region [
 qM 3 0] none
def f24r2 : ICode := .region [
 qO 5 (.bin .eql (.tmp 3) (qK 1)),
 qM 4 5] none
def f24r3 : ICode := .region [
 qO 2 (.move (.func 36))] none
def f24r4 : ICode := .region [
 qO 7 (.bin .eql (.tmp 3) (qK 2)),
 qM 6 7] none
def f24r5 : ICode := .region [
 qO 2 (.move (.func 37))] none
def f24r6 : ICode := .region [
 qO 9 (.bin .eql (.tmp 3) (qK 3)),
 qM 8 9] none
def f24r7 : ICode := .region [
 qO 2 (.move (.func 39))] none
def f24r8 : ICode := .region [
 qO 2 (.move (.func 40))] none
/- ferret/coding.scalarOf -/
def f24 : IFn := ⟨10, [.inl 2], (.seq f24r0 (.seq (.seq f24r1 (.block 0 (.seq f24r2 (.cond (.tmp 4) (.seq f24r3 .ret) (.seq f24r4 (.cond (.tmp 6) (.seq f24r5 .ret) (.seq f24r6 (.cond (.tmp 8) (.seq f24r7 .ret) .skip)))))))) (.seq f24r8 .ret)))⟩
def f25r0 : ICode := .region [
 qO 3 (.box 83 (.tmp 0)),
 qO 5 (.box 3 (.tmp 2)),
 qO 6 (.move (.const (.slice none 0 0)))] none
def f25r1 : ICode := .region [
 qO 8 (.mkFunc (.func 41) [] [(.tmp 5), (.tmp 3)]),
 qM 7 8] none
def f25r2 : ICode := .region [
 qO 31 (.load1 (.tmp 5)),
 qO 32 (.bin .eql (.tmp 31) (qK 4)),
 qM 30 32] none
def f25r3 : ICode := .region [
 qO 33 (.load1 (.tmp 3)),
 qM 34 1,
 qO 35 (.conv .u8 (.tmp 34)),
 qO 36 (.buildSlice 5 1 [(.int .u8 (.ofNat 0))] [(0, 1, (.tmp 35))]),
 qO 37 (.append 5 1 1 (.tmp 33) (.tmp 36)),
 qM 6 37] none
def f25r4 : ICode := .region [
 qO 39 (.load1 (.tmp 5)),
 qO 40 (.bin .neq (.tmp 39) (qK 1)),
 qM 41 40,
  ⟨(some 42), .move (.tmp 1), (some ((some 41), true))⟩,
  ⟨(some 43), .bin .geq (.tmp 42) (qK 65536), (some ((some 41), true))⟩,
 qO 44 (.pick (.tmp 41) (.tmp 43) (.const (.bool false))),
 qM 38 44] none
def f25r5 : ICode := .region [
 qM 45 1,
 qO 46 (.bin .sub (.tmp 45) (qK 65536)),
 qM 1 46] none
def f25r6 : ICode := .region [
 qM 47 7,
 qM 48 1,
 qO 49 (.bin .shr (.tmp 48) (.const (.int .u64 (.ofNat 10)))),
 qO 50 (.bin .add (qK 55296) (.tmp 49)),
 qO 51 (.callv (.tmp 47) [(.tmp 50)])] none
def f25r7 : ICode := .region [
 qM 52 7,
 qM 53 1,
 qO 54 (.bin .and (.tmp 53) (qK 1023)),
 qO 55 (.bin .add (qK 56320) (.tmp 54)),
 qO 56 (.callv (.tmp 52) [(.tmp 55)])] none
def f25r8 : ICode := .region [
 qO 58 (.load1 (.tmp 5)),
 qO 59 (.bin .neq (.tmp 58) (qK 1)),
 qM 57 59] none
def f25r9 : ICode := .region [
 qM 60 7,
 qM 61 1,
 qO 62 (.callv (.tmp 60) [(.tmp 61)])] none
def f25r10 : ICode := .region [
 qM 64 1,
 qO 65 (.bin .lss (.tmp 64) (qK 128)),
 qM 63 65] none
def f25r11 : ICode := .region [
 qO 66 (.load1 (.tmp 3)),
 qM 67 1,
 qO 68 (.conv .u8 (.tmp 67)),
 qO 69 (.buildSlice 5 1 [(.int .u8 (.ofNat 0))] [(0, 1, (.tmp 68))]),
 qO 70 (.append 5 1 1 (.tmp 66) (.tmp 69)),
 qM 6 70] none
def f25r12 : ICode := .region [
 qM 72 1,
 qO 73 (.bin .lss (.tmp 72) (qK 2048)),
 qM 71 73] none
def f25r13 : ICode := .region [
 qO 74 (.load1 (.tmp 3)),
 qM 75 1,
 qO 76 (.bin .shr (.tmp 75) (.const (.int .u64 (.ofNat 6)))),
 qO 77 (.bin .or (qK 192) (.tmp 76)),
 qO 78 (.conv .u8 (.tmp 77)),
 qM 79 1,
 qO 80 (.bin .and (.tmp 79) (qK 63)),
 qO 81 (.bin .or (qK 128) (.tmp 80)),
 qO 82 (.conv .u8 (.tmp 81)),
 qO 83 (.buildSlice 5 2 [(.int .u8 (.ofNat 0)), (.int .u8 (.ofNat 0))] [(0, 1, (.tmp 78)), (1, 1, (.tmp 82))]),
 qO 84 (.append 5 1 1 (.tmp 74) (.tmp 83)),
 qM 6 84] none
def f25r14 : ICode := .region [
 qM 86 1,
 qO 87 (.bin .lss (.tmp 86) (qK 65536)),
 qM 85 87] none
def f25r15 : ICode := .region [
 qO 88 (.load1 (.tmp 3)),
 qM 89 1,
 qO 90 (.bin .shr (.tmp 89) (.const (.int .u64 (.ofNat 12)))),
 qO 91 (.bin .or (qK 224) (.tmp 90)),
 qO 92 (.conv .u8 (.tmp 91)),
 qM 93 1,
 qO 94 (.bin .shr (.tmp 93) (.const (.int .u64 (.ofNat 6)))),
 qO 95 (.bin .and (.tmp 94) (qK 63)),
 qO 96 (.bin .or (qK 128) (.tmp 95)),
 qO 97 (.conv .u8 (.tmp 96)),
 qM 98 1,
 qO 99 (.bin .and (.tmp 98) (qK 63)),
 qO 100 (.bin .or (qK 128) (.tmp 99)),
 qO 101 (.conv .u8 (.tmp 100)),
 qO 102 (.buildSlice 5 3 [(.int .u8 (.ofNat 0)), (.int .u8 (.ofNat 0)), (.int .u8 (.ofNat 0))] [(0, 1, (.tmp 92)), (1, 1, (.tmp 97)), (2, 1, (.tmp 101))]),
 qO 103 (.append 5 1 1 (.tmp 88) (.tmp 102)),
 qM 6 103] none
def f25r16 : ICode := .region [
 qO 9 (.load1 (.tmp 3)),
 qM 10 1,
 qO 11 (.bin .shr (.tmp 10) (.const (.int .u64 (.ofNat 18)))),
 qO 12 (.bin .or (qK 240) (.tmp 11)),
 qO 13 (.conv .u8 (.tmp 12)),
 qM 14 1,
 qO 15 (.bin .shr (.tmp 14) (.const (.int .u64 (.ofNat 12)))),
 qO 16 (.bin .and (.tmp 15) (qK 63)),
 qO 17 (.bin .or (qK 128) (.tmp 16)),
 qO 18 (.conv .u8 (.tmp 17)),
 qM 19 1,
 qO 20 (.bin .shr (.tmp 19) (.const (.int .u64 (.ofNat 6)))),
 qO 21 (.bin .and (.tmp 20) (qK 63)),
 qO 22 (.bin .or (qK 128) (.tmp 21)),
 qO 23 (.conv .u8 (.tmp 22)),
 qM 24 1,
 qO 25 (.bin .and (.tmp 24) (qK 63)),
 qO 26 (.bin .or (qK 128) (.tmp 25)),
 qO 27 (.conv .u8 (.tmp 26)),
 qO 28 (.buildSlice 5 4 [(.int .u8 (.ofNat 0)), (.int .u8 (.ofNat 0)), (.int .u8 (.ofNat 0)), (.int .u8 (.ofNat 0))] [(0, 1, (.tmp 13)), (1, 1, (.tmp 18)), (2, 1, (.tmp 23)), (3, 1, (.tmp 27))]),
 qO 29 (.append 5 1 1 (.tmp 9) (.tmp 28)),
 qM 6 29] none
def f25r17 : ICode := .region [
 qO 104 (.load1 (.tmp 3)),
 qM 6 104] none
/- ferret/coding.put -/
def f25 : IFn := ⟨105, [.inl 6], (.seq f25r0 (.seq f25r1 (.seq (.block 0 (.seq f25r2 (.cond (.tmp 30) (.seq f25r3 .ret) (.seq f25r4 (.cond (.tmp 38) (.seq f25r5 (.seq f25r6 f25r7)) (.seq f25r8 (.cond (.tmp 57) f25r9 (.seq f25r10 (.cond (.tmp 63) (.seq f25r11 .ret) (.seq f25r12 (.cond (.tmp 71) (.seq f25r13 .ret) (.seq f25r14 (.cond (.tmp 85) (.seq f25r15 .ret) (.seq f25r16 .ret)))))))))))))) (.seq f25r17 .ret))))⟩
def f30r0 : ICode := .region [
 qO 2 (.new [qZ, (.slice none 0 0), (.bool false), qZ, qZ, (.bool false), qZ, (.string ⟨⟨[]⟩⟩), (.slice none 0 0)] 54)] none
def f30r1 : ICode := .region [
 qO 3 (.move (.const (.slice none 0 0)))] none
def f30r2 : ICode := .region [
 qM 4 3,
 qM 5 0,
 qO 6 (.call 44 [(.tmp 5)]),
 qO 7 (.buildSlice 54 1 [qZ, (.slice none 0 0), (.bool false), qZ, qZ, (.bool false), qZ, (.string ⟨⟨[]⟩⟩), (.slice none 0 0)] [(0, 9, (.tmp 6))]),
 qO 8 (.append 54 9 112 (.tmp 4) (.tmp 7)),
 qM 3 8] none
def f30r3 : ICode := .region [
 qM 9 0,
 qO 10 (.call 45 [(.tmp 9), (.const (.string ⟨⟨[124]⟩⟩))]),
 qO 11 (.un .not (.tmp 10))] none
def f30r4 : ICode := .region [
 qM 12 3,
 qO 13 (.call 46 [(qK 9), (.tmp 12)]),
  ⟨none, .store 9 (.tmp 2) (.tmp 13), none⟩] none
/- (*ferret/syn.parser).alternatives -/
def f30 : IFn := ⟨14, [.inr (2, (some 9))], (.seq f30r0 (.seq f30r1 (.seq (.block 0 (.loop (.block 1 (.seq f30r2 (.seq f30r3 (.cond (.tmp 11) (.exit 0) .skip)))))) (.seq f30r4 .ret))))⟩
def f31r0 : ICode := .region [
 qO 1 (.box 54 (.tmp 0)),
 qO 2 (.new [qZ, (.slice none 0 0), (.bool false), qZ, qZ, (.bool false), qZ, (.string ⟨⟨[]⟩⟩), (.slice none 0 0)] 54),
 qO 3 (.move (qK 0))] none
def f31r1 : ICode := .region [
 qO 4 (.loadN 9 (.tmp 1)),
 qO 5 (.call 47 [(.tmp 4)]),
 qO 6 (.bin .gtr (.tmp 5) (qK 8192))] none
def f31r2 : ICode := .region [
 qO 7 (.build [qZ, (.slice none 0 0), (.bool false), qZ, qZ, (.bool false), qZ, (.string ⟨⟨[]⟩⟩), (.slice none 0 0)] []),
  ⟨none, .store 9 (.tmp 2) (.tmp 7), none⟩,
 qO 3 (.move (qK 26))] none
def f31r3 : ICode := .region [
 qO 8 (.loadN 9 (.tmp 1)),
 qO 9 (.call 48 [(.tmp 8)]),
  ⟨none, .store 9 (.tmp 2) (.tmp 9), none⟩,
 qO 3 (.move (qK 0))] none
/- ferret/simple.Simplify -/
def f31 : IFn := ⟨10, [.inr (2, (some 9)), .inl 3], (.seq f31r0 (.seq (.seq f31r1 (.cond (.tmp 6) (.seq f31r2 .ret) .skip)) (.seq f31r3 .ret)))⟩
def f32r0 : ICode := .region [
 qO 3 (.box 77 (.tmp 1)),
 qO 4 (.move (qK 0))] none
def f32r1 : ICode := .region [
 qM 5 0,
 qM 6 0,
 qO 7 (.nilCheck (.tmp 6)),
 qO 8 (.fieldAddr 1 (.tmp 7)),
 qO 9 (.load1 (.tmp 8)),
 qM 10 9,
  ⟨(some 11), .move (.tmp 0), (some ((some 10), false))⟩,
  ⟨(some 12), .nilCheck (.tmp 11), (some ((some 10), false))⟩,
  ⟨(some 13), .fieldAddr 0 (.tmp 12), (some ((some 10), false))⟩,
  ⟨(some 14), .load1 (.tmp 13), (some ((some 10), false))⟩,
  ⟨(some 15), .len 1 (.tmp 14), (some ((some 10), false))⟩,
  ⟨(some 16), .bin .geq (.tmp 15) (qK 8192), (some ((some 10), false))⟩,
 qO 17 (.pick (.tmp 10) (.const (.bool true)) (.tmp 16)),
 qO 18 (.nilCheck (.tmp 5)),
 qO 19 (.fieldAddr 1 (.tmp 18)),
  ⟨none, .store 1 (.tmp 19) (.tmp 17), none⟩] none
def f32r2 : ICode := .region [
 qM 20 0,
 qO 21 (.nilCheck (.tmp 20)),
 qO 22 (.fieldAddr 1 (.tmp 21)),
 qO 23 (.load1 (.tmp 22))] none
def f32r3 : ICode := .region [
 qM 24 0,
 qM 25 0,
 qO 26 (.nilCheck (.tmp 25)),
 qO 27 (.fieldAddr 0 (.tmp 26)),
 qO 28 (.load1 (.tmp 27)),
 qO 29 (.sliceSl 5 (.tmp 28) none (some (qK 0))),
 qO 30 (.nilCheck (.tmp 24)),
 qO 31 (.fieldAddr 0 (.tmp 30)),
  ⟨none, .store 1 (.tmp 31) (.tmp 29), none⟩] none
def f32r4 : ICode := .region [
 qM 32 0,
 qO 33 (.nilCheck (.tmp 32)),
 qO 34 (.fieldAddr 0 (.tmp 33)),
 qO 35 (.load1 (.tmp 34)),
 qO 36 (.len 1 (.tmp 35)),
 qO 37 (.bin .add (.tmp 36) (qK 1)),
 qO 38 (.fieldAddr 1 (.tmp 3)),
  ⟨none, .store 1 (.tmp 38) (.tmp 37), none⟩] none
def f32r5 : ICode := .region [
 qM 39 0,
 qM 40 0,
 qO 41 (.nilCheck (.tmp 40)),
 qO 42 (.fieldAddr 0 (.tmp 41)),
 qO 43 (.load1 (.tmp 42)),
 qO 44 (.loadN 5 (.tmp 3)),
 qO 45 (.buildSlice 77 1 [qZ, qZ, qZ, qZ, qZ] [(0, 5, (.tmp 44))]),
 qO 46 (.append 77 5 40 (.tmp 43) (.tmp 45)),
 qO 47 (.nilCheck (.tmp 39)),
 qO 48 (.fieldAddr 0 (.tmp 47)),
  ⟨none, .store 1 (.tmp 48) (.tmp 46), none⟩] (some ⟨[], []⟩)
def f32r6 : ICode := .region [
 qM 49 0,
 qO 50 (.nilCheck (.tmp 49)),
 qO 51 (.fieldAddr 0 (.tmp 50)),
 qO 52 (.load1 (.tmp 51)),
 qO 53 (.len 1 (.tmp 52)),
 qO 54 (.bin .sub (.tmp 53) (qK 1)),
 qM 4 54] none
/- (*ferret/prog.compiler).put -/
def f32 : IFn := ⟨55, [.inl 4], (.seq f32r0 (.seq (.seq f32r1 (.seq f32r2 (.cond (.tmp 23) f32r3 .skip))) (.seq f32r4 (.seq f32r5 (.seq f32r6 .ret)))))⟩
def f33r0 : ICode := .region [
 qO 2 (.box 106 (.tmp 0)),
 qO 3 (.box 54 (.tmp 1))] none
def f33r1 : ICode := .region [
 qO 6 (.load1 (.tmp 2)),
 qO 7 (.nilCheck (.tmp 6)),
 qO 8 (.fieldAddr 1 (.tmp 7)),
 qO 9 (.load1 (.tmp 8))] none
def f33r2 : ICode := .region [
 qO 10 (.fieldAddr 0 (.tmp 3)),
 qO 11 (.load1 (.tmp 10))] none
def f33r3 : ICode := .region [
 qO 18 (.bin .eql (.tmp 11) (qK 0)),
 qM 17 18] none
def f33r4 : ICode := .region [
 qO 20 (.bin .eql (.tmp 11) (qK 1)),
 qM 19 20] none
def f33r5 : ICode := .region [
 qO 21 (.load1 (.tmp 2)),
 qO 22 (.loadN 9 (.tmp 3)),
 qO 23 (.call 49 [(.tmp 21), (.tmp 22)])] none
def f33r6 : ICode := .region [
 qO 25 (.bin .eql (.tmp 11) (qK 8)),
 qM 24 25] none
def f33r7 : ICode := .region [
 qO 26 (.fieldAddr 8 (.tmp 3)),
 qO 27 (.load1 (.tmp 26)),
 qO 28 (.len 1 (.tmp 27)),
 qO 29 (.move (qK 0))] none
def f33r8 : ICode := .region [
 qO 30 (.bin .lss (.tmp 29) (.tmp 28))] none
def f33r9 : ICode := .region [
 qO 31 (.indexSl 9 (.tmp 27) (.tmp 29)),
 qO 32 (.loadN 9 (.tmp 31)),
 qO 5 (.new [qZ, (.slice none 0 0), (.bool false), qZ, qZ, (.bool false), qZ, (.string ⟨⟨[]⟩⟩), (.slice none 0 0)] 54),
  ⟨none, .store 9 (.tmp 5) (.tmp 32), none⟩] none
def f33r10 : ICode := .region [
 qO 33 (.load1 (.tmp 2)),
 qO 34 (.loadN 9 (.tmp 5)),
 qO 35 (.call 33 [(.tmp 33), (.tmp 34)])] none
def f33r11 : ICode := .region [
 qO 36 (.bin .add (.tmp 29) (qK 1)),
 qM 29 36] none
def f33r12 : ICode := .region [
 qO 38 (.bin .eql (.tmp 11) (qK 9)),
 qM 37 38] none
def f33r13 : ICode := .region [
 qO 39 (.load1 (.tmp 2)),
 qO 40 (.fieldAddr 8 (.tmp 3)),
 qO 41 (.load1 (.tmp 40)),
 qO 42 (.len 1 (.tmp 41)),
 qO 43 (.mkFunc (.func 51) [] [(.tmp 2), (.tmp 3)]),
 qO 44 (.call 50 [(.tmp 39), (.tmp 42), (.tmp 43)])] none
def f33r14 : ICode := .region [
 qO 46 (.bin .eql (.tmp 11) (qK 10)),
 qM 45 46] none
def f33r15 : ICode := .region [
 qO 47 (.load1 (.tmp 2)),
 qO 48 (.loadN 9 (.tmp 3)),
 qO 49 (.call 52 [(.tmp 47), (.tmp 48)])] none
def f33r16 : ICode := .region [
 qO 51 (.bin .eql (.tmp 11) (qK 11)),
 qM 50 51] none
def f33r17 : ICode := .region [
 qO 52 (.load1 (.tmp 2)),
 qO 53 (.fieldAddr 6 (.tmp 3)),
 qO 54 (.load1 (.tmp 53)),
 qO 55 (.bin .mul (qK 2) (.tmp 54)),
 qO 56 (.build [qZ, qZ, qZ, qZ, qZ] [(0, 1, (qK 3)), (2, 1, (.tmp 55))]),
 qO 57 (.call 32 [(.tmp 52), (.tmp 56)])] none
def f33r18 : ICode := .region [
 qO 58 (.load1 (.tmp 2)),
 qO 59 (.fieldAddr 8 (.tmp 3)),
 qO 60 (.load1 (.tmp 59)),
 qO 61 (.indexSl 9 (.tmp 60) (qK 0)),
 qO 62 (.loadN 9 (.tmp 61)),
 qO 63 (.call 33 [(.tmp 58), (.tmp 62)])] (some ⟨[], []⟩)
def f33r19 : ICode := .region [
 qO 64 (.load1 (.tmp 2)),
 qO 65 (.fieldAddr 6 (.tmp 3)),
 qO 66 (.load1 (.tmp 65)),
 qO 67 (.bin .mul (qK 2) (.tmp 66)),
 qO 68 (.bin .add (.tmp 67) (qK 1)),
 qO 69 (.build [qZ, qZ, qZ, qZ, qZ] [(0, 1, (qK 3)), (2, 1, (.tmp 68))]),
 qO 70 (.call 32 [(.tmp 64), (.tmp 69)])] none
def f33r20 : ICode := .region [
 qO 12 (.load1 (.tmp 2)),
 qO 13 (.fieldAddr 0 (.tmp 3)),
 qO 14 (.load1 (.tmp 13)),
 qO 15 (.build [qZ, qZ, qZ, qZ, qZ] [(0, 1, (qK 4)), (2, 1, (.tmp 14))]),
 qO 16 (.call 32 [(.tmp 12), (.tmp 15)])] none
/- (*ferret/prog.compiler).node -/
def f33 : IFn := ⟨71, [], (.seq f33r0 (.seq (.seq f33r1 (.cond (.tmp 9) .ret .skip)) (.seq f33r2 (.block 0 (.seq f33r3 (.cond (.tmp 17) .skip (.seq f33r4 (.cond (.tmp 19) f33r5 (.seq f33r6 (.cond (.tmp 24) (.seq f33r7 (.block 1 (.loop (.seq f33r8 (.seq (.cond (.tmp 30) .skip (.exit 1)) (.seq (.block 2 (.seq f33r9 f33r10)) f33r11)))))) (.seq f33r12 (.cond (.tmp 37) f33r13 (.seq f33r14 (.cond (.tmp 45) f33r15 (.seq f33r16 (.cond (.tmp 50) (.seq f33r17 (.seq f33r18 f33r19)) f33r20))))))))))))))))⟩
def f34r0 : ICode := .region [
 qO 6 (.move (.const (.bool false)))] none
def f34r1 : ICode := .region [
 qM 7 2,
 qO 8 (.bin .lss (.tmp 7) (qK 0)),
 qM 9 8,
  ⟨(some 10), .move (.tmp 2), (some ((some 9), false))⟩,
  ⟨(some 11), .move (.tmp 1), (some ((some 9), false))⟩,
  ⟨(some 12), .len 0 (.tmp 11), (some ((some 9), false))⟩,
  ⟨(some 13), .bin .gtr (.tmp 10) (.tmp 12), (some ((some 9), false))⟩,
 qO 14 (.pick (.tmp 9) (.const (.bool true)) (.tmp 13))] none
def f34r2 : ICode := .region [
 qO 6 (.move (.const (.bool false)))] none
def f34r3 : ICode := .region [
 qM 15 0] none
def f34r4 : ICode := .region [
 qO 17 (.bin .eql (.tmp 15) (qK 2)),
 qM 16 17] none
def f34r5 : ICode := .region [
 qM 18 2,
 qO 19 (.bin .eql (.tmp 18) (qK 0)),
 qM 6 19] none
def f34r6 : ICode := .region [
 qO 21 (.bin .eql (.tmp 15) (qK 3)),
 qM 20 21] none
def f34r7 : ICode := .region [
 qM 22 2,
 qM 23 1,
 qO 24 (.len 0 (.tmp 23)),
 qO 25 (.bin .eql (.tmp 22) (.tmp 24)),
 qM 6 25] none
def f34r8 : ICode := .region [
 qO 27 (.bin .eql (.tmp 15) (qK 4)),
 qM 26 27] none
def f34r9 : ICode := .region [
 qM 28 2,
 qO 29 (.bin .eql (.tmp 28) (qK 0)),
 qM 30 29,
  ⟨(some 31), .move (.tmp 1), (some ((some 30), false))⟩,
  ⟨(some 32), .move (.tmp 2), (some ((some 30), false))⟩,
  ⟨(some 33), .bin .sub (.tmp 32) (qK 1), (some ((some 30), false))⟩,
  ⟨(some 34), .indexStr (.tmp 31) (.tmp 33), (some ((some 30), false))⟩,
  ⟨(some 35), .bin .eql (.tmp 34) (.const (.int .u8 (.ofNat 10))), (some ((some 30), false))⟩,
 qO 36 (.pick (.tmp 30) (.const (.bool true)) (.tmp 35)),
 qM 6 36] none
def f34r10 : ICode := .region [
 qO 38 (.bin .eql (.tmp 15) (qK 5)),
 qM 37 38] none
def f34r11 : ICode := .region [
 qM 39 2,
 qM 40 1,
 qO 41 (.len 0 (.tmp 40)),
 qO 42 (.bin .eql (.tmp 39) (.tmp 41)),
 qM 43 42,
  ⟨(some 44), .move (.tmp 1), (some ((some 43), false))⟩,
  ⟨(some 45), .move (.tmp 2), (some ((some 43), false))⟩,
  ⟨(some 46), .indexStr (.tmp 44) (.tmp 45), (some ((some 43), false))⟩,
  ⟨(some 47), .bin .eql (.tmp 46) (.const (.int .u8 (.ofNat 10))), (some ((some 43), false))⟩,
 qO 48 (.pick (.tmp 43) (.const (.bool true)) (.tmp 47)),
 qM 6 48] none
def f34r12 : ICode := .region [
 qO 50 (.bin .eql (.tmp 15) (qK 6)),
 qM 49 50] none
def f34r13 : ICode := .region [
 qM 51 1,
 qM 52 2,
 qO 53 (.bin .sub (.tmp 52) (qK 1)),
 qO 54 (.call 53 [(.tmp 51), (.tmp 53)]),
 qM 55 1,
 qM 56 2,
 qO 57 (.call 53 [(.tmp 55), (.tmp 56)]),
 qO 58 (.eqB true (.tmp 54) (.tmp 57)),
 qM 6 58] none
def f34r14 : ICode := .region [
 qO 60 (.bin .eql (.tmp 15) (qK 7)),
 qM 59 60] none
def f34r15 : ICode := .region [
 qM 61 1,
 qM 62 2,
 qO 63 (.bin .sub (.tmp 62) (qK 1)),
 qO 64 (.call 53 [(.tmp 61), (.tmp 63)]),
 qM 65 1,
 qM 66 2,
 qO 67 (.call 53 [(.tmp 65), (.tmp 66)]),
 qO 68 (.eqB false (.tmp 64) (.tmp 67)),
 qM 6 68] none
def f34r16 : ICode := .region [
 qO 6 (.move (.const (.bool false)))] none
/- ferret/prog.Holds -/
def f34 : IFn := ⟨69, [.inl 6], (.seq f34r0 (.seq (.seq f34r1 (.cond (.tmp 14) (.seq f34r2 .ret) .skip)) (.seq (.seq f34r3 (.block 0 (.seq f34r4 (.cond (.tmp 16) (.seq f34r5 .ret) (.seq f34r6 (.cond (.tmp 20) (.seq f34r7 .ret) (.seq f34r8 (.cond (.tmp 26) (.seq f34r9 .ret) (.seq f34r10 (.cond (.tmp 37) (.seq f34r11 .ret) (.seq f34r12 (.cond (.tmp 49) (.seq f34r13 .ret) (.seq f34r14 (.cond (.tmp 59) (.seq f34r15 .ret) .skip)))))))))))))) (.seq f34r16 .ret))))⟩
def f35r0 : ICode := .region [
 qO 4 (.move (.const (.bool false)))] none
def f35r1 : ICode := .region [
 qM 5 0,
 qO 6 (.len 0 (.tmp 5)),
 qM 7 1,
 qO 8 (.len 0 (.tmp 7)),
 qO 9 (.bin .geq (.tmp 6) (.tmp 8)),
 qM 10 9,
  ⟨(some 11), .move (.tmp 0), (some ((some 10), true))⟩,
  ⟨(some 12), .move (.tmp 1), (some ((some 10), true))⟩,
  ⟨(some 13), .len 0 (.tmp 12), (some ((some 10), true))⟩,
  ⟨(some 14), .sliceStr (.tmp 11) none (some (.tmp 13)), (some ((some 10), true))⟩,
  ⟨(some 15), .move (.tmp 1), (some ((some 10), true))⟩,
  ⟨(some 16), .bin .eql (.tmp 14) (.tmp 15), (some ((some 10), true))⟩,
 qO 17 (.pick (.tmp 10) (.tmp 16) (.const (.bool false))),
 qM 4 17] none
/- internal/stringslite.HasPrefix -/
def f35 : IFn := ⟨18, [.inl 4], (.seq f35r0 (.seq f35r1 .ret))⟩
def f36r0 : ICode := .region [
 qO 2 (.move (qK 0)),
 qO 3 (.move (qK 0))] none
def f36r1 : ICode := .region [
 qM 10 0,
 qO 11 (.indexStr (.tmp 10) (qK 0)),
 qO 12 (.call 54 [(.tmp 11)]),
 qM 9 12,
 qO 13 (.extract (.tmp 9) 0),
 qO 14 (.extract (.tmp 9) 1),
 qO 15 (.extract (.tmp 9) 2),
 qO 16 (.extract (.tmp 9) 3),
 qM 4 13,
 qM 5 14,
 qM 6 15,
 qM 7 16] none
def f36r2 : ICode := .region [
 qM 17 4,
 qO 18 (.bin .lss (.tmp 17) (qK 0))] none
def f36r3 : ICode := .region [
 qO 2 (.move (.const (.int .i64 (.negSucc 0)))),
 qO 3 (.move (qK 1))] none
def f36r4 : ICode := .region [
 qO 8 (.move (qK 1))] none
def f36r5 : ICode := .region [
 qM 19 8,
 qM 20 4,
 qO 21 (.bin .leq (.tmp 19) (.tmp 20))] none
def f36r6 : ICode := .region [
 qM 24 8,
 qM 25 0,
 qO 26 (.len 0 (.tmp 25)),
 qO 27 (.bin .geq (.tmp 24) (.tmp 26)),
 qM 28 27,
  ⟨(some 29), .move (.tmp 0), (some ((some 28), false))⟩,
  ⟨(some 30), .move (.tmp 8), (some ((some 28), false))⟩,
  ⟨(some 31), .indexStr (.tmp 29) (.tmp 30), (some ((some 28), false))⟩,
  ⟨(some 32), .move (.tmp 5), (some ((some 28), false))⟩,
  ⟨(some 33), .bin .lss (.tmp 31) (.tmp 32), (some ((some 28), false))⟩,
 qO 34 (.pick (.tmp 28) (.const (.bool true)) (.tmp 33)),
 qM 35 34,
  ⟨(some 36), .move (.tmp 0), (some ((some 35), false))⟩,
  ⟨(some 37), .move (.tmp 8), (some ((some 35), false))⟩,
  ⟨(some 38), .indexStr (.tmp 36) (.tmp 37), (some ((some 35), false))⟩,
  ⟨(some 39), .move (.tmp 6), (some ((some 35), false))⟩,
  ⟨(some 40), .bin .gtr (.tmp 38) (.tmp 39), (some ((some 35), false))⟩,
 qO 41 (.pick (.tmp 35) (.const (.bool true)) (.tmp 40))] none
def f36r7 : ICode := .region [
 qM 42 8,
 qO 2 (.move (.const (.int .i64 (.negSucc 0)))),
 qM 3 42] none
def f36r8 : ICode := .region [
 qM 43 7,
 qO 44 (.bin .shl (.tmp 43) (.const (.int .u64 (.ofNat 6)))),
 qM 45 0,
 qM 46 8,
 qO 47 (.indexStr (.tmp 45) (.tmp 46)),
 qO 48 (.bin .and (.tmp 47) (.const (.int .u8 (.ofNat 63)))),
 qO 49 (.conv .i64 (.tmp 48)),
 qO 50 (.bin .or (.tmp 44) (.tmp 49)),
 qM 7 50] none
def f36r9 : ICode := .region [
 qO 5 (.move (.const (.int .u8 (.ofNat 128)))),
 qO 6 (.move (.const (.int .u8 (.ofNat 191))))] none
def f36r10 : ICode := .region [
 qM 22 8,
 qO 23 (.bin .add (.tmp 22) (qK 1)),
 qM 8 23] none
def f36r11 : ICode := .region [
 qM 51 7,
 qM 52 4,
 qO 53 (.bin .add (.tmp 52) (qK 1)),
 qM 2 51,
 qM 3 53] none
/- ferret/coding.utf8 -/
def f36 : IFn := ⟨54, [.inl 2, .inl 3], (.seq f36r0 (.seq f36r1 (.seq (.seq f36r2 (.cond (.tmp 18) (.seq f36r3 .ret) .skip)) (.seq (.seq f36r4 (.block 0 (.loop (.seq (.seq f36r5 (.cond (.tmp 21) .skip (.exit 0))) (.seq (.block 1 (.seq (.seq f36r6 (.cond (.tmp 41) (.seq f36r7 .ret) .skip)) (.seq f36r8 f36r9))) f36r10))))) (.seq f36r11 .ret)))))⟩
def f37r0 : ICode := .region [
 qO 2 (.move (qK 0)),
 qO 3 (.move (qK 0))] none
def f37r1 : ICode := .region [
 qM 4 0,
 qO 5 (.call 38 [(.tmp 4), (.const (.bool false))]),
 qO 6 (.extract (.tmp 5) 0),
 qO 7 (.extract (.tmp 5) 1),
 qM 2 6,
 qM 3 7] none
/- ferret/coding.scalarOf$1 -/
def f37 : IFn := ⟨8, [.inl 2, .inl 3], (.seq f37r0 (.seq f37r1 .ret))⟩
def f39r0 : ICode := .region [
 qO 2 (.move (qK 0)),
 qO 3 (.move (qK 0))] none
def f39r1 : ICode := .region [
 qM 4 0,
 qO 5 (.call 38 [(.tmp 4), (.const (.bool true))]),
 qO 6 (.extract (.tmp 5) 0),
 qO 7 (.extract (.tmp 5) 1),
 qM 2 6,
 qM 3 7] none
/- ferret/coding.scalarOf$2 -/
def f39 : IFn := ⟨8, [.inl 2, .inl 3], (.seq f39r0 (.seq f39r1 .ret))⟩
def f40r0 : ICode := .region [
 qO 2 (.move (qK 0)),
 qO 3 (.move (qK 0))] none
def f40r1 : ICode := .region [
 qM 4 0,
 qO 5 (.indexStr (.tmp 4) (qK 0)),
 qO 6 (.conv .i64 (.tmp 5)),
 qM 2 6,
 qO 3 (.move (qK 1))] none
/- ferret/coding.latin -/
def f40 : IFn := ⟨7, [.inl 2, .inl 3], (.seq f40r0 (.seq f40r1 .ret))⟩
def f41r0 : ICode := .region [
 qO 4 (.load1 (.tmp 1)),
 qO 5 (.bin .eql (.tmp 4) (qK 3))] none
def f41r1 : ICode := .region [
 qO 6 (.load1 (.tmp 2)),
 qM 7 0,
 qO 8 (.bin .shr (.tmp 7) (.const (.int .u64 (.ofNat 8)))),
 qO 9 (.conv .u8 (.tmp 8)),
 qM 10 0,
 qO 11 (.conv .u8 (.tmp 10)),
 qO 12 (.buildSlice 5 2 [(.int .u8 (.ofNat 0)), (.int .u8 (.ofNat 0))] [(0, 1, (.tmp 9)), (1, 1, (.tmp 11))]),
 qO 13 (.append 5 1 1 (.tmp 6) (.tmp 12)),
  ⟨none, .store 1 (.tmp 2) (.tmp 13), none⟩] none
def f41r2 : ICode := .region [
 qO 14 (.load1 (.tmp 2)),
 qM 15 0,
 qO 16 (.conv .u8 (.tmp 15)),
 qM 17 0,
 qO 18 (.bin .shr (.tmp 17) (.const (.int .u64 (.ofNat 8)))),
 qO 19 (.conv .u8 (.tmp 18)),
 qO 20 (.buildSlice 5 2 [(.int .u8 (.ofNat 0)), (.int .u8 (.ofNat 0))] [(0, 1, (.tmp 16)), (1, 1, (.tmp 19))]),
 qO 21 (.append 5 1 1 (.tmp 14) (.tmp 20)),
  ⟨none, .store 1 (.tmp 2) (.tmp 21), none⟩] none
/- ferret/coding.put$1 -/
def f41 : IFn := ⟨22, [], (.seq f41r0 (.cond (.tmp 5) f41r1 f41r2))⟩
def f44r0 : ICode := .region [
 qO 2 (.new [qZ, (.slice none 0 0), (.bool false), qZ, qZ, (.bool false), qZ, (.string ⟨⟨[]⟩⟩), (.slice none 0 0)] 54)] none
def f44r1 : ICode := .region [
 qO 3 (.move (.const (.slice none 0 0)))] none
def f44r2 : ICode := .region [
 qO 4 (.move (.const (.bool false)))] none
def f44r3 : ICode := .region [
 qM 13 0,
 qO 14 (.nilCheck (.tmp 13)),
 qO 15 (.fieldAddr 4 (.tmp 14)),
 qO 16 (.load1 (.tmp 15)),
 qM 5 16] none
def f44r4 : ICode := .region [
 qM 17 0,
 qO 18 (.call 57 [(.tmp 17), (qK 0)]),
 qM 6 18] none
def f44r5 : ICode := .region [
 qM 19 6] none
def f44r6 : ICode := .region [
 qO 21 (.bin .eql (.tmp 19) (.const (.int .i64 (.negSucc 0)))),
 qM 20 21] none
def f44r7 : ICode := .region [
 qO 22 (.bin .eql (.tmp 19) (qK 124)),
 qM 20 22] none
def f44r8 : ICode := .region [
 qM 23 3,
 qO 24 (.call 46 [(qK 8), (.tmp 23)]),
  ⟨none, .store 9 (.tmp 2) (.tmp 24), none⟩] none
def f44r9 : ICode := .region [
 qO 26 (.bin .eql (.tmp 19) (qK 41)),
 qM 25 26] none
def f44r10 : ICode := .region [
 qM 27 0,
 qO 28 (.nilCheck (.tmp 27)),
 qO 29 (.fieldAddr 5 (.tmp 28)),
 qO 30 (.load1 (.tmp 29)),
 qO 31 (.len 1 (.tmp 30)),
 qO 32 (.bin .eql (.tmp 31) (qK 0))] none
def f44r11 : ICode := .region [
 qM 33 0,
 qM 34 0,
 qO 35 (.nilCheck (.tmp 34)),
 qO 36 (.fieldAddr 4 (.tmp 35)),
 qO 37 (.load1 (.tmp 36)),
 qO 38 (.call 58 [(.tmp 33), (qK 25), (.tmp 37)])] none
def f44r12 : ICode := .region [
 qM 39 3,
 qO 40 (.call 46 [(qK 8), (.tmp 39)]),
  ⟨none, .store 9 (.tmp 2) (.tmp 40), none⟩] none
def f44r13 : ICode := .region [
 qM 42 0,
 qO 43 (.call 59 [(.tmp 42)]),
 qM 41 43,
 qO 44 (.extract (.tmp 41) 0),
 qO 45 (.extract (.tmp 41) 1),
 qO 46 (.extract (.tmp 41) 2),
 qM 7 44,
 qM 8 45,
 qM 9 46] none
def f44r14 : ICode := .region [
 qM 47 9] none
def f44r15 : ICode := .region [
 qM 48 4,
 qO 49 (.un .not (.tmp 48))] none
def f44r16 : ICode := .region [
 qM 50 0,
 qM 51 5,
 qO 52 (.call 58 [(.tmp 50), (qK 23), (.tmp 51)])] none
def f44r17 : ICode := .region [
 qM 53 7,
 qO 54 (.bin .gtr (.tmp 53) (qK 64)),
 qM 55 54,
  ⟨(some 56), .move (.tmp 8), (some ((some 55), false))⟩,
  ⟨(some 57), .bin .gtr (.tmp 56) (qK 64), (some ((some 55), false))⟩,
 qO 58 (.pick (.tmp 55) (.const (.bool true)) (.tmp 57)),
 qM 59 58,
  ⟨(some 60), .move (.tmp 8), (some ((some 59), false))⟩,
  ⟨(some 61), .bin .geq (.tmp 60) (qK 0), (some ((some 59), false))⟩,
  ⟨(some 62), .move (.tmp 61), (some ((some 59), false))⟩,
  ⟨(some 63), .move (.tmp 7), (some ((some 62), true))⟩,
  ⟨(some 64), .move (.tmp 8), (some ((some 62), true))⟩,
  ⟨(some 65), .bin .gtr (.tmp 63) (.tmp 64), (some ((some 62), true))⟩,
  ⟨(some 66), .pick (.tmp 62) (.tmp 65) (.const (.bool false)), (some ((some 59), false))⟩,
 qO 67 (.pick (.tmp 59) (.const (.bool true)) (.tmp 66))] none
def f44r18 : ICode := .region [
 qM 68 0,
 qM 69 5,
 qO 70 (.call 58 [(.tmp 68), (qK 23), (.tmp 69)])] none
def f44r19 : ICode := .region [
 qM 71 3,
 qM 72 3,
 qO 73 (.len 1 (.tmp 72)),
 qO 74 (.bin .sub (.tmp 73) (qK 1)),
 qO 75 (.indexSl 9 (.tmp 71) (.tmp 74)),
 qM 10 75] none
def f44r20 : ICode := .region [
 qM 76 10,
 qM 77 7,
 qM 78 8,
 qM 79 0,
 qO 80 (.call 45 [(.tmp 79), (.const (.string ⟨⟨[63]⟩⟩))]),
 qM 81 0,
 qO 82 (.nilCheck (.tmp 81)),
 qO 83 (.fieldAddr 7 (.tmp 82)),
 qO 84 (.fieldAddr 3 (.tmp 83)),
 qO 85 (.load1 (.tmp 84)),
 qO 86 (.eqB true (.tmp 80) (.tmp 85)),
 qM 87 10,
 qO 88 (.nilCheck (.tmp 87)),
 qO 89 (.loadN 9 (.tmp 88)),
 qO 90 (.buildSlice 54 1 [qZ, (.slice none 0 0), (.bool false), qZ, qZ, (.bool false), qZ, (.string ⟨⟨[]⟩⟩), (.slice none 0 0)] [(0, 9, (.tmp 89))]),
 qO 91 (.build [qZ, (.slice none 0 0), (.bool false), qZ, qZ, (.bool false), qZ, (.string ⟨⟨[]⟩⟩), (.slice none 0 0)] [(0, 1, (qK 10)), (3, 1, (.tmp 77)), (4, 1, (.tmp 78)), (5, 1, (.tmp 86)), (8, 1, (.tmp 90))]),
 qO 92 (.nilCheck (.tmp 76)),
  ⟨none, .store 9 (.tmp 92) (.tmp 91), none⟩] (some ⟨[], [(9, 4), (13, 4)]⟩)
def f44r21 : ICode := .region [
 qO 4 (.move (.const (.bool false)))] none
def f44r22 : ICode := .region [
 qM 94 0,
 qO 95 (.call 60 [(.tmp 94)]),
 qM 93 95,
 qO 96 (.extract (.tmp 93) 0),
 qO 97 (.extract (.tmp 93) 1),
 qO 11 (.new [qZ, (.slice none 0 0), (.bool false), qZ, qZ, (.bool false), qZ, (.string ⟨⟨[]⟩⟩), (.slice none 0 0)] 54),
  ⟨none, .store 9 (.tmp 11) (.tmp 96), none⟩,
 qM 12 97] none
def f44r23 : ICode := .region [
 qM 98 12] none
def f44r24 : ICode := .region [
 qM 99 3,
 qO 100 (.loadN 9 (.tmp 11)),
 qO 101 (.buildSlice 54 1 [qZ, (.slice none 0 0), (.bool false), qZ, qZ, (.bool false), qZ, (.string ⟨⟨[]⟩⟩), (.slice none 0 0)] [(0, 9, (.tmp 100))]),
 qO 102 (.append 54 9 112 (.tmp 99) (.tmp 101)),
 qM 3 102] none
def f44r25 : ICode := .region [
 qM 103 12,
 qM 4 103] none
/- (*ferret/syn.parser).row -/
def f44 : IFn := ⟨104, [.inr (2, (some 9))], (.seq f44r0 (.seq f44r1 (.seq f44r2 (.block 0 (.loop (.block 1 (.seq f44r3 (.seq (.seq f44r4 (.seq f44r5 (.block 2 (.seq (.seq f44r6 (.cond (.tmp 20) .skip f44r7)) (.cond (.tmp 20) (.seq f44r8 .ret) (.seq f44r9 (.cond (.tmp 25) (.seq (.seq f44r10 (.cond (.tmp 32) f44r11 .skip)) (.seq f44r12 .ret)) .skip))))))) (.seq (.seq f44r13 (.seq f44r14 (.cond (.tmp 47) (.seq (.seq f44r15 (.cond (.tmp 49) f44r16 .skip)) (.seq (.seq f44r17 (.cond (.tmp 67) f44r18 .skip)) (.seq f44r19 (.seq f44r20 (.seq f44r21 (.exit 1)))))) .skip))) (.seq f44r22 (.seq (.seq f44r23 (.cond (.tmp 98) f44r24 .skip)) f44r25)))))))))))⟩
def f45r0 : ICode := .region [
 qO 4 (.move (.const (.bool false)))] none
def f45r1 : ICode := .region [
 qM 7 1,
 qO 8 (.strToBytes 5 (.tmp 7)),
 qO 9 (.len 1 (.tmp 8)),
 qO 10 (.move (qK 0))] none
def f45r2 : ICode := .region [
 qO 11 (.bin .lss (.tmp 10) (.tmp 9))] none
def f45r3 : ICode := .region [
 qM 12 10,
 qO 13 (.indexSl 1 (.tmp 8) (.tmp 10)),
 qO 14 (.load1 (.tmp 13)),
 qM 5 12,
 qM 6 14] none
def f45r4 : ICode := .region [
 qM 15 0,
 qM 16 5,
 qO 17 (.call 57 [(.tmp 15), (.tmp 16)]),
 qM 18 6,
 qO 19 (.conv .i64 (.tmp 18)),
 qO 20 (.bin .neq (.tmp 17) (.tmp 19))] none
def f45r5 : ICode := .region [
 qO 4 (.move (.const (.bool false)))] none
def f45r6 : ICode := .region [
 qO 21 (.bin .add (.tmp 10) (qK 1)),
 qM 10 21] none
def f45r7 : ICode := .region [
 qM 22 0,
 qO 23 (.nilCheck (.tmp 22)),
 qO 24 (.fieldAddr 4 (.tmp 23)),
 qO 25 (.load1 (.tmp 24)),
 qM 26 1,
 qO 27 (.len 0 (.tmp 26)),
 qO 28 (.bin .add (.tmp 25) (.tmp 27)),
 qO 29 (.nilCheck (.tmp 22)),
 qO 30 (.fieldAddr 4 (.tmp 29)),
  ⟨none, .store 1 (.tmp 30) (.tmp 28), none⟩] none
def f45r8 : ICode := .region [
 qO 4 (.move (.const (.bool true)))] none
/- (*ferret/syn.parser).has -/
def f45 : IFn := ⟨31, [.inl 4], (.seq f45r0 (.seq (.seq f45r1 (.block 0 (.loop (.seq f45r2 (.seq (.cond (.tmp 11) .skip (.exit 0)) (.seq (.block 1 (.seq f45r3 (.seq f45r4 (.cond (.tmp 20) (.seq f45r5 .ret) .skip)))) f45r6)))))) (.seq f45r7 (.seq f45r8 .ret))))⟩
def f46r0 : ICode := .region [
 qO 4 (.new [qZ, (.slice none 0 0), (.bool false), qZ, qZ, (.bool false), qZ, (.string ⟨⟨[]⟩⟩), (.slice none 0 0)] 54)] none
def f46r1 : ICode := .region [
 qM 6 1,
 qO 7 (.len 1 (.tmp 6)),
 qO 8 (.bin .eql (.tmp 7) (qK 1)),
 qM 5 8] none
def f46r2 : ICode := .region [
 qM 9 1,
 qO 10 (.indexSl 9 (.tmp 9) (qK 0)),
 qO 11 (.loadN 9 (.tmp 10)),
  ⟨none, .store 9 (.tmp 4) (.tmp 11), none⟩] none
def f46r3 : ICode := .region [
 qM 13 1,
 qO 14 (.len 1 (.tmp 13)),
 qO 15 (.bin .eql (.tmp 14) (qK 0)),
 qM 12 15] none
def f46r4 : ICode := .region [
 qO 16 (.build [qZ, (.slice none 0 0), (.bool false), qZ, qZ, (.bool false), qZ, (.string ⟨⟨[]⟩⟩), (.slice none 0 0)] []),
  ⟨none, .store 9 (.tmp 4) (.tmp 16), none⟩] none
def f46r5 : ICode := .region [
 qM 17 0,
 qM 18 1,
 qO 19 (.build [qZ, (.slice none 0 0), (.bool false), qZ, qZ, (.bool false), qZ, (.string ⟨⟨[]⟩⟩), (.slice none 0 0)] [(0, 1, (.tmp 17)), (8, 1, (.tmp 18))]),
  ⟨none, .store 9 (.tmp 4) (.tmp 19), none⟩] none
/- ferret/syn.whole -/
def f46 : IFn := ⟨20, [.inr (4, (some 9))], (.seq f46r0 (.seq (.block 0 (.seq f46r1 (.cond (.tmp 5) (.seq f46r2 .ret) (.seq f46r3 (.cond (.tmp 12) (.seq f46r4 .ret) .skip))))) (.seq f46r5 .ret)))⟩
def f47r0 : ICode := .region [
 qO 1 (.box 54 (.tmp 0)),
 qO 2 (.move (qK 0))] none
def f47r1 : ICode := .region [
 qO 8 (.fieldAddr 0 (.tmp 1)),
 qO 9 (.load1 (.tmp 8))] none
def f47r2 : ICode := .region [
 qO 11 (.bin .eql (.tmp 9) (qK 8)),
 qM 10 11] none
def f47r3 : ICode := .region [
 qO 12 (.bin .eql (.tmp 9) (qK 9)),
 qM 10 12] none
def f47r4 : ICode := .region [
 qO 3 (.move (qK 1))] none
def f47r5 : ICode := .region [
 qO 13 (.fieldAddr 8 (.tmp 1)),
 qO 14 (.load1 (.tmp 13)),
 qO 15 (.len 1 (.tmp 14)),
 qO 16 (.move (qK 0))] none
def f47r6 : ICode := .region [
 qO 17 (.bin .lss (.tmp 16) (.tmp 15))] none
def f47r7 : ICode := .region [
 qO 18 (.indexSl 9 (.tmp 14) (.tmp 16)),
 qO 19 (.loadN 9 (.tmp 18)),
 qO 5 (.new [qZ, (.slice none 0 0), (.bool false), qZ, qZ, (.bool false), qZ, (.string ⟨⟨[]⟩⟩), (.slice none 0 0)] 54),
  ⟨none, .store 9 (.tmp 5) (.tmp 19), none⟩] none
def f47r8 : ICode := .region [
 qM 20 3,
 qO 21 (.loadN 9 (.tmp 5)),
 qO 22 (.call 47 [(.tmp 21)]),
 qO 23 (.bin .add (.tmp 20) (.tmp 22)),
 qO 24 (.call 61 [(.tmp 23)]),
 qM 3 24] none
def f47r9 : ICode := .region [
 qO 25 (.bin .add (.tmp 16) (qK 1)),
 qM 16 25] none
def f47r10 : ICode := .region [
 qM 26 3,
 qM 2 26] none
def f47r11 : ICode := .region [
 qO 28 (.bin .eql (.tmp 9) (qK 11)),
 qM 27 28] none
def f47r12 : ICode := .region [
 qO 29 (.loadN 9 (.tmp 1)),
 qO 30 (.call 62 [(.tmp 29)]),
 qO 31 (.call 47 [(.tmp 30)]),
 qO 32 (.bin .add (qK 1) (.tmp 31)),
 qO 33 (.call 61 [(.tmp 32)]),
 qM 2 33] none
def f47r13 : ICode := .region [
 qO 35 (.bin .eql (.tmp 9) (qK 10)),
 qM 34 35] none
def f47r14 : ICode := .region [
 qO 36 (.loadN 9 (.tmp 1)),
 qO 37 (.call 62 [(.tmp 36)]),
 qO 38 (.call 47 [(.tmp 37)]),
 qM 6 38] none
def f47r15 : ICode := .region [
 qO 39 (.fieldAddr 3 (.tmp 1)),
 qO 40 (.load1 (.tmp 39)),
 qM 41 6,
 qO 42 (.bin .mul (.tmp 40) (.tmp 41)),
 qM 7 42] none
def f47r16 : ICode := .region [
 qO 43 (.fieldAddr 4 (.tmp 1)),
 qO 44 (.load1 (.tmp 43)),
 qO 45 (.bin .eql (.tmp 44) (.const (.int .i64 (.negSucc 0))))] none
def f47r17 : ICode := .region [
 qM 46 7,
 qM 47 6,
 qO 48 (.bin .add (qK 1) (.tmp 47)),
 qO 49 (.bin .add (.tmp 46) (.tmp 48)),
 qM 7 49] none
def f47r18 : ICode := .region [
 qM 50 7,
 qO 51 (.fieldAddr 4 (.tmp 1)),
 qO 52 (.load1 (.tmp 51)),
 qO 53 (.fieldAddr 3 (.tmp 1)),
 qO 54 (.load1 (.tmp 53)),
 qO 55 (.bin .sub (.tmp 52) (.tmp 54)),
 qM 56 6,
 qO 57 (.bin .add (.tmp 56) (qK 2)),
 qO 58 (.bin .mul (.tmp 55) (.tmp 57)),
 qO 59 (.bin .add (.tmp 50) (.tmp 58)),
 qM 7 59] none
def f47r19 : ICode := .region [
 qM 60 7,
 qO 61 (.bin .add (.tmp 60) (qK 1)),
 qO 62 (.call 61 [(.tmp 61)]),
 qM 2 62] none
def f47r20 : ICode := .region [
 qO 2 (.move (qK 1))] none
/- ferret/simple.Count -/
def f47 : IFn := ⟨63, [.inl 2], (.seq f47r0 (.seq (.seq f47r1 (.block 0 (.seq (.seq f47r2 (.cond (.tmp 10) .skip f47r3)) (.cond (.tmp 10) (.seq f47r4 (.seq (.seq f47r5 (.block 1 (.loop (.seq f47r6 (.seq (.cond (.tmp 17) .skip (.exit 1)) (.seq (.block 2 (.seq f47r7 f47r8)) f47r9)))))) (.seq f47r10 .ret))) (.seq f47r11 (.cond (.tmp 27) (.seq f47r12 .ret) (.seq f47r13 (.cond (.tmp 34) (.seq f47r14 (.seq f47r15 (.seq (.seq f47r16 (.cond (.tmp 45) f47r17 f47r18)) (.seq f47r19 .ret)))) .skip)))))))) (.seq f47r20 .ret)))⟩
def f48r0 : ICode := .region [
 qO 1 (.box 54 (.tmp 0)),
 qO 2 (.new [qZ, (.slice none 0 0), (.bool false), qZ, qZ, (.bool false), qZ, (.string ⟨⟨[]⟩⟩), (.slice none 0 0)] 54)] none
def f48r1 : ICode := .region [
 qO 6 (.fieldAddr 0 (.tmp 1)),
 qO 7 (.load1 (.tmp 6)),
 qO 8 (.bin .eql (.tmp 7) (qK 10)),
 qM 9 8,
  ⟨(some 10), .fieldAddr 3 (.tmp 1), (some ((some 9), true))⟩,
  ⟨(some 11), .load1 (.tmp 10), (some ((some 9), true))⟩,
  ⟨(some 12), .bin .eql (.tmp 11) (qK 0), (some ((some 9), true))⟩,
 qO 13 (.pick (.tmp 9) (.tmp 12) (.const (.bool false))),
 qM 14 13,
  ⟨(some 15), .fieldAddr 4 (.tmp 1), (some ((some 14), true))⟩,
  ⟨(some 16), .load1 (.tmp 15), (some ((some 14), true))⟩,
  ⟨(some 17), .bin .eql (.tmp 16) (qK 0), (some ((some 14), true))⟩,
 qO 18 (.pick (.tmp 14) (.tmp 17) (.const (.bool false)))] none
def f48r2 : ICode := .region [
 qO 19 (.build [qZ, (.slice none 0 0), (.bool false), qZ, qZ, (.bool false), qZ, (.string ⟨⟨[]⟩⟩), (.slice none 0 0)] []),
  ⟨none, .store 9 (.tmp 2) (.tmp 19), none⟩] none
def f48r3 : ICode := .region [
 qO 3 (.move (.const (.slice none 0 0)))] none
def f48r4 : ICode := .region [
 qO 20 (.fieldAddr 8 (.tmp 1)),
 qO 21 (.load1 (.tmp 20)),
 qO 22 (.len 1 (.tmp 21)),
 qO 23 (.move (qK 0))] none
def f48r5 : ICode := .region [
 qO 24 (.bin .lss (.tmp 23) (.tmp 22))] none
def f48r6 : ICode := .region [
 qO 25 (.indexSl 9 (.tmp 21) (.tmp 23)),
 qO 26 (.loadN 9 (.tmp 25)),
 qO 5 (.new [qZ, (.slice none 0 0), (.bool false), qZ, qZ, (.bool false), qZ, (.string ⟨⟨[]⟩⟩), (.slice none 0 0)] 54),
  ⟨none, .store 9 (.tmp 5) (.tmp 26), none⟩] none
def f48r7 : ICode := .region [
 qM 27 3,
 qO 28 (.loadN 9 (.tmp 5)),
 qO 29 (.call 48 [(.tmp 28)]),
 qO 30 (.buildSlice 54 1 [qZ, (.slice none 0 0), (.bool false), qZ, qZ, (.bool false), qZ, (.string ⟨⟨[]⟩⟩), (.slice none 0 0)] [(0, 9, (.tmp 29))]),
 qO 31 (.append 54 9 112 (.tmp 27) (.tmp 30)),
 qM 3 31] none
def f48r8 : ICode := .region [
 qO 32 (.bin .add (.tmp 23) (qK 1)),
 qM 23 32] none
def f48r9 : ICode := .region [
 qO 33 (.fieldAddr 0 (.tmp 1)),
 qO 34 (.load1 (.tmp 33))] none
def f48r10 : ICode := .region [
 qO 36 (.bin .eql (.tmp 34) (qK 1)),
 qM 35 36] none
def f48r11 : ICode := .region [
 qO 37 (.fieldAddr 2 (.tmp 1)),
 qO 38 (.load1 (.tmp 37))] none
def f48r12 : ICode := .region [
 qO 39 (.fieldAddr 1 (.tmp 1)),
 qO 40 (.load1 (.tmp 39)),
 qO 41 (.call 63 [(.tmp 40)]),
 qO 42 (.fieldAddr 1 (.tmp 1)),
  ⟨none, .store 1 (.tmp 42) (.tmp 41), none⟩] none
def f48r13 : ICode := .region [
 qO 43 (.fieldAddr 2 (.tmp 1)),
  ⟨none, .store 1 (.tmp 43) (.const (.bool false)), none⟩] none
def f48r14 : ICode := .region [
 qO 44 (.fieldAddr 1 (.tmp 1)),
 qO 45 (.load1 (.tmp 44)),
 qO 46 (.build [qZ, qZ] [(0, 1, (qK 55296)), (1, 1, (qK 57343))]),
 qO 47 (.buildSlice 75 1 [qZ, qZ] [(0, 2, (.tmp 46))]),
 qO 48 (.call 65 [(.tmp 47)]),
 qO 49 (.call 64 [(.tmp 45), (.tmp 48)]),
 qO 50 (.fieldAddr 1 (.tmp 1)),
  ⟨none, .store 1 (.tmp 50) (.tmp 49), none⟩] (some ⟨[], [(1, 4)]⟩)
def f48r15 : ICode := .region [
 qO 51 (.loadN 9 (.tmp 1)),
  ⟨none, .store 9 (.tmp 2) (.tmp 51), none⟩] none
def f48r16 : ICode := .region [
 qO 53 (.bin .eql (.tmp 34) (qK 8)),
 qM 52 53] none
def f48r17 : ICode := .region [
 qM 54 3,
 qO 55 (.call 66 [(.tmp 54)]),
  ⟨none, .store 9 (.tmp 2) (.tmp 55), none⟩] none
def f48r18 : ICode := .region [
 qO 57 (.bin .eql (.tmp 34) (qK 9)),
 qM 56 57] none
def f48r19 : ICode := .region [
 qM 58 3,
 qO 59 (.call 68 [(.tmp 58), (qK 9)]),
 qO 60 (.call 67 [(qK 9), (.tmp 59)]),
  ⟨none, .store 9 (.tmp 2) (.tmp 60), none⟩] none
def f48r20 : ICode := .region [
 qO 62 (.bin .eql (.tmp 34) (qK 10)),
 qM 61 62] none
def f48r21 : ICode := .region [
 qO 63 (.loadN 9 (.tmp 1)),
 qM 64 3,
 qO 65 (.build [qZ, (.slice none 0 0), (.bool false), qZ, qZ, (.bool false), qZ, (.string ⟨⟨[]⟩⟩), (.slice none 0 0)] [(8, 1, (.tmp 64))]),
 qO 66 (.call 62 [(.tmp 65)]),
 qO 67 (.call 69 [(.tmp 63), (.tmp 66)]),
  ⟨none, .store 9 (.tmp 2) (.tmp 67), none⟩] (some ⟨[], [(0, 3)]⟩)
def f48r22 : ICode := .region [
 qM 68 3,
 qO 69 (.fieldAddr 8 (.tmp 1)),
  ⟨none, .store 1 (.tmp 69) (.tmp 68), none⟩] none
def f48r23 : ICode := .region [
 qO 70 (.loadN 9 (.tmp 1)),
  ⟨none, .store 9 (.tmp 2) (.tmp 70), none⟩] none
/- ferret/simple.made -/
def f48 : IFn := ⟨71, [.inr (2, (some 9))], (.seq f48r0 (.seq (.seq f48r1 (.cond (.tmp 18) (.seq f48r2 .ret) .skip)) (.seq f48r3 (.seq (.seq f48r4 (.block 0 (.loop (.seq f48r5 (.seq (.cond (.tmp 24) .skip (.exit 0)) (.seq (.block 1 (.seq f48r6 f48r7)) f48r8)))))) (.seq (.seq f48r9 (.block 2 (.seq f48r10 (.cond (.tmp 35) (.seq (.seq f48r11 (.cond (.tmp 38) f48r12 .skip)) (.seq f48r13 (.seq f48r14 (.seq f48r15 .ret)))) (.seq f48r16 (.cond (.tmp 52) (.seq f48r17 .ret) (.seq f48r18 (.cond (.tmp 56) (.seq f48r19 .ret) (.seq f48r20 (.cond (.tmp 61) (.seq f48r21 .ret) .skip)))))))))) (.seq f48r22 (.seq f48r23 .ret)))))))⟩
def f49r0 : ICode := .region [
 qO 2 (.box 106 (.tmp 0)),
 qO 3 (.box 54 (.tmp 1))] none
def f49r1 : ICode := .region [
 qO 6 (.fieldAddr 1 (.tmp 3)),
 qO 7 (.load1 (.tmp 6)),
 qO 8 (.call 70 [(.tmp 7)]),
 qO 4 (.new [(.slice none 0 0)] 140),
  ⟨none, .store 1 (.tmp 4) (.tmp 8), none⟩] none
def f49r2 : ICode := .region [
 qO 9 (.load1 (.tmp 4)),
 qO 10 (.len 1 (.tmp 9)),
 qO 11 (.bin .eql (.tmp 10) (qK 0))] none
def f49r3 : ICode := .region [
 qO 12 (.load1 (.tmp 2)),
 qO 13 (.build [qZ, qZ, qZ, qZ, qZ] [(0, 1, (qK 6))]),
 qO 14 (.call 32 [(.tmp 12), (.tmp 13)]),
 qM 5 14] none
def f49r4 : ICode := .region [
 qO 15 (.load1 (.tmp 2)),
 qO 16 (.nilCheck (.tmp 15)),
 qO 17 (.fieldAddr 0 (.tmp 16)),
 qO 18 (.load1 (.tmp 17)),
 qM 19 5,
 qO 20 (.indexSl 5 (.tmp 18) (.tmp 19)),
 qO 21 (.fieldAddr 1 (.tmp 20)),
  ⟨none, .store 1 (.tmp 21) (qK 0), none⟩] none
def f49r5 : ICode := .region [
 qO 22 (.load1 (.tmp 2)),
 qO 23 (.load1 (.tmp 4)),
 qO 24 (.len 1 (.tmp 23)),
 qO 25 (.mkFunc (.func 71) [] [(.tmp 4), (.tmp 2)]),
 qO 26 (.call 50 [(.tmp 22), (.tmp 24), (.tmp 25)])] none
/- (*ferret/prog.compiler).class -/
def f49 : IFn := ⟨27, [], (.seq f49r0 (.seq f49r1 (.seq (.seq f49r2 (.cond (.tmp 11) (.seq f49r3 f49r4) .skip)) f49r5)))⟩
def f51r0 : ICode := .region [
 qO 4 (.load1 (.tmp 1)),
 qO 5 (.fieldAddr 8 (.tmp 2)),
 qO 6 (.load1 (.tmp 5)),
 qM 7 0,
 qO 8 (.indexSl 9 (.tmp 6) (.tmp 7)),
 qO 9 (.loadN 9 (.tmp 8)),
 qO 10 (.call 33 [(.tmp 4), (.tmp 9)])] (some ⟨[], []⟩)
/- (*ferret/prog.compiler).node$1 -/
def f51 : IFn := ⟨11, [], f51r0⟩
def f50r0 : ICode := .region [
 qO 6 (.move (.const (.slice none 0 0)))] none
def f50r1 : ICode := .region [
 qM 11 1,
 qO 12 (.move (qK 0))] none
def f50r2 : ICode := .region [
 qO 13 (.bin .lss (.tmp 12) (.tmp 11))] none
def f50r3 : ICode := .region [
 qM 14 12,
 qM 7 14] none
def f50r4 : ICode := .region [
 qM 15 7,
 qM 16 1,
 qO 17 (.bin .sub (.tmp 16) (qK 1)),
 qO 18 (.bin .eql (.tmp 15) (.tmp 17))] none
def f50r5 : ICode := .region [
 qM 19 2,
 qM 20 7,
 qO 21 (.callv (.tmp 19) [(.tmp 20)])] none
def f50r6 : ICode := .region [
 qM 22 0,
 qO 23 (.build [qZ, qZ, qZ, qZ, qZ] [(0, 1, (qK 1))]),
 qO 24 (.call 32 [(.tmp 22), (.tmp 23)]),
 qM 8 24] none
def f50r7 : ICode := .region [
 qM 25 2,
 qM 26 7,
 qO 27 (.callv (.tmp 25) [(.tmp 26)])] none
def f50r8 : ICode := .region [
 qM 28 6,
 qM 29 0,
 qO 30 (.build [qZ, qZ, qZ, qZ, qZ] [(0, 1, (qK 2))]),
 qO 31 (.call 32 [(.tmp 29), (.tmp 30)]),
 qO 32 (.buildSlice 3 1 [qZ] [(0, 1, (.tmp 31))]),
 qO 33 (.append 3 1 8 (.tmp 28) (.tmp 32)),
 qM 6 33] none
def f50r9 : ICode := .region [
 qM 34 0,
 qO 35 (.nilCheck (.tmp 34)),
 qO 36 (.fieldAddr 1 (.tmp 35)),
 qO 37 (.load1 (.tmp 36)),
 qO 38 (.un .not (.tmp 37))] none
def f50r10 : ICode := .region [
 qM 39 0,
 qO 40 (.nilCheck (.tmp 39)),
 qO 41 (.fieldAddr 0 (.tmp 40)),
 qO 42 (.load1 (.tmp 41)),
 qM 43 8,
 qM 44 0,
 qO 45 (.nilCheck (.tmp 44)),
 qO 46 (.fieldAddr 0 (.tmp 45)),
 qO 47 (.load1 (.tmp 46)),
 qO 48 (.len 1 (.tmp 47)),
 qO 49 (.indexSl 5 (.tmp 42) (.tmp 43)),
 qO 50 (.fieldAddr 2 (.tmp 49)),
  ⟨none, .store 1 (.tmp 50) (.tmp 48), none⟩] (some ⟨[], []⟩)
def f50r11 : ICode := .region [
 qO 51 (.bin .add (.tmp 12) (qK 1)),
 qM 12 51] none
def f50r12 : ICode := .region [
 qM 52 6,
 qO 53 (.len 1 (.tmp 52)),
 qO 54 (.move (qK 0))] none
def f50r13 : ICode := .region [
 qO 55 (.bin .lss (.tmp 54) (.tmp 53))] none
def f50r14 : ICode := .region [
 qO 56 (.indexSl 1 (.tmp 52) (.tmp 54)),
 qO 57 (.load1 (.tmp 56)),
 qM 10 57] none
def f50r15 : ICode := .region [
 qM 58 0,
 qO 59 (.nilCheck (.tmp 58)),
 qO 60 (.fieldAddr 1 (.tmp 59)),
 qO 61 (.load1 (.tmp 60)),
 qO 62 (.un .not (.tmp 61))] none
def f50r16 : ICode := .region [
 qM 63 0,
 qO 64 (.nilCheck (.tmp 63)),
 qO 65 (.fieldAddr 0 (.tmp 64)),
 qO 66 (.load1 (.tmp 65)),
 qM 67 10,
 qM 68 0,
 qO 69 (.nilCheck (.tmp 68)),
 qO 70 (.fieldAddr 0 (.tmp 69)),
 qO 71 (.load1 (.tmp 70)),
 qO 72 (.len 1 (.tmp 71)),
 qO 73 (.indexSl 5 (.tmp 66) (.tmp 67)),
 qO 74 (.fieldAddr 1 (.tmp 73)),
  ⟨none, .store 1 (.tmp 74) (.tmp 72), none⟩] (some ⟨[], []⟩)
def f50r17 : ICode := .region [
 qO 75 (.bin .add (.tmp 54) (qK 1)),
 qM 54 75] none
/- (*ferret/prog.compiler).alternatives -/
def f50 : IFn := ⟨76, [], (.seq f50r0 (.seq (.seq f50r1 (.block 0 (.loop (.seq f50r2 (.seq (.cond (.tmp 13) .skip (.exit 0)) (.seq (.block 1 (.seq f50r3 (.seq (.seq f50r4 (.cond (.tmp 18) (.seq f50r5 (.exit 0)) .skip)) (.seq f50r6 (.seq f50r7 (.seq f50r8 (.seq f50r9 (.cond (.tmp 38) f50r10 .skip)))))))) f50r11)))))) (.seq f50r12 (.block 2 (.loop (.seq f50r13 (.seq (.cond (.tmp 55) .skip (.exit 2)) (.seq (.block 3 (.seq f50r14 (.seq f50r15 (.cond (.tmp 62) f50r16 .skip)))) f50r17))))))))⟩
def f52r0 : ICode := .region [
 qO 3 (.box 54 (.tmp 1))] none
def f52r1 : ICode := .region [
 qM 6 0,
 qO 7 (.build [qZ, qZ, qZ, qZ, qZ] [(0, 1, (qK 1))]),
 qO 8 (.call 32 [(.tmp 6), (.tmp 7)]),
 qM 4 8] none
def f52r2 : ICode := .region [
 qM 9 0,
 qO 10 (.fieldAddr 8 (.tmp 3)),
 qO 11 (.load1 (.tmp 10)),
 qO 12 (.indexSl 9 (.tmp 11) (qK 0)),
 qO 13 (.loadN 9 (.tmp 12)),
 qO 14 (.call 33 [(.tmp 9), (.tmp 13)])] none
def f52r3 : ICode := .region [
 qO 15 (.fieldAddr 4 (.tmp 3)),
 qO 16 (.load1 (.tmp 15)),
 qO 17 (.bin .eql (.tmp 16) (.const (.int .i64 (.negSucc 0))))] none
def f52r4 : ICode := .region [
 qM 18 0,
 qO 19 (.build [qZ, qZ, qZ, qZ, qZ] [(0, 1, (qK 2))]),
 qO 20 (.call 32 [(.tmp 18), (.tmp 19)]),
 qM 5 20] none
def f52r5 : ICode := .region [
 qM 21 0,
 qO 22 (.nilCheck (.tmp 21)),
 qO 23 (.fieldAddr 0 (.tmp 22)),
 qO 24 (.load1 (.tmp 23)),
 qM 25 5,
 qM 26 4,
 qO 27 (.indexSl 5 (.tmp 24) (.tmp 25)),
 qO 28 (.fieldAddr 1 (.tmp 27)),
  ⟨none, .store 1 (.tmp 28) (.tmp 26), none⟩] none
def f52r6 : ICode := .region [
 qM 29 0,
 qO 30 (.nilCheck (.tmp 29)),
 qO 31 (.fieldAddr 1 (.tmp 30)),
 qO 32 (.load1 (.tmp 31))] none
def f52r7 : ICode := .region [
 qM 33 0,
 qO 34 (.nilCheck (.tmp 33)),
 qO 35 (.fieldAddr 0 (.tmp 34)),
 qO 36 (.load1 (.tmp 35)),
 qM 37 4,
 qM 38 0,
 qO 39 (.nilCheck (.tmp 38)),
 qO 40 (.fieldAddr 0 (.tmp 39)),
 qO 41 (.load1 (.tmp 40)),
 qO 42 (.len 1 (.tmp 41)),
 qO 43 (.indexSl 5 (.tmp 36) (.tmp 37)),
 qO 44 (.fieldAddr 2 (.tmp 43)),
  ⟨none, .store 1 (.tmp 44) (.tmp 42), none⟩] (some ⟨[], []⟩)
def f52r8 : ICode := .region [
 qO 45 (.fieldAddr 5 (.tmp 3)),
 qO 46 (.load1 (.tmp 45))] none
def f52r9 : ICode := .region [
 qM 47 0,
 qO 48 (.nilCheck (.tmp 47)),
 qO 49 (.fieldAddr 0 (.tmp 48)),
 qO 50 (.load1 (.tmp 49)),
 qM 51 4,
 qM 52 0,
 qO 53 (.nilCheck (.tmp 52)),
 qO 54 (.fieldAddr 0 (.tmp 53)),
 qO 55 (.load1 (.tmp 54)),
 qM 56 4,
 qM 57 0,
 qO 58 (.nilCheck (.tmp 57)),
 qO 59 (.fieldAddr 0 (.tmp 58)),
 qO 60 (.load1 (.tmp 59)),
 qM 61 4,
 qO 62 (.indexSl 5 (.tmp 60) (.tmp 61)),
 qO 63 (.fieldAddr 2 (.tmp 62)),
 qO 64 (.load1 (.tmp 63)),
 qM 65 0,
 qO 66 (.nilCheck (.tmp 65)),
 qO 67 (.fieldAddr 0 (.tmp 66)),
 qO 68 (.load1 (.tmp 67)),
 qM 69 4,
 qO 70 (.indexSl 5 (.tmp 68) (.tmp 69)),
 qO 71 (.fieldAddr 1 (.tmp 70)),
 qO 72 (.load1 (.tmp 71)),
 qO 73 (.indexSl 5 (.tmp 50) (.tmp 51)),
 qO 74 (.fieldAddr 1 (.tmp 73)),
  ⟨none, .store 1 (.tmp 74) (.tmp 64), none⟩,
 qO 75 (.indexSl 5 (.tmp 55) (.tmp 56)),
 qO 76 (.fieldAddr 2 (.tmp 75)),
  ⟨none, .store 1 (.tmp 76) (.tmp 72), none⟩] (some ⟨[], []⟩)
/- (*ferret/prog.compiler).repeat -/
def f52 : IFn := ⟨77, [], (.seq f52r0 (.seq f52r1 (.seq f52r2 (.seq (.seq f52r3 (.cond (.tmp 17) (.seq f52r4 f52r5) .skip)) (.seq (.seq f52r6 (.cond (.tmp 32) .ret .skip)) (.seq f52r7 (.seq f52r8 (.cond (.tmp 46) f52r9 .skip))))))))⟩
def f53r0 : ICode := .region [
 qO 4 (.move (.const (.bool false)))] none
def f53r1 : ICode := .region [
 qM 6 1,
 qO 7 (.bin .lss (.tmp 6) (qK 0)),
 qM 8 7,
  ⟨(some 9), .move (.tmp 1), (some ((some 8), false))⟩,
  ⟨(some 10), .move (.tmp 0), (some ((some 8), false))⟩,
  ⟨(some 11), .len 0 (.tmp 10), (some ((some 8), false))⟩,
  ⟨(some 12), .bin .geq (.tmp 9) (.tmp 11), (some ((some 8), false))⟩,
 qO 13 (.pick (.tmp 8) (.const (.bool true)) (.tmp 12))] none
def f53r2 : ICode := .region [
 qO 4 (.move (.const (.bool false)))] none
def f53r3 : ICode := .region [
 qM 14 0,
 qM 15 1,
 qO 16 (.indexStr (.tmp 14) (.tmp 15)),
 qM 5 16] none
def f53r4 : ICode := .region [
 qM 17 5,
 qO 18 (.bin .geq (.tmp 17) (.const (.int .u8 (.ofNat 48)))),
 qM 19 18,
  ⟨(some 20), .move (.tmp 5), (some ((some 19), true))⟩,
  ⟨(some 21), .bin .leq (.tmp 20) (.const (.int .u8 (.ofNat 57))), (some ((some 19), true))⟩,
 qO 22 (.pick (.tmp 19) (.tmp 21) (.const (.bool false))),
 qM 23 22,
  ⟨(some 24), .move (.tmp 5), (some ((some 23), false))⟩,
  ⟨(some 25), .bin .geq (.tmp 24) (.const (.int .u8 (.ofNat 65))), (some ((some 23), false))⟩,
  ⟨(some 26), .move (.tmp 25), (some ((some 23), false))⟩,
  ⟨(some 27), .move (.tmp 5), (some ((some 26), true))⟩,
  ⟨(some 28), .bin .leq (.tmp 27) (.const (.int .u8 (.ofNat 90))), (some ((some 26), true))⟩,
  ⟨(some 29), .pick (.tmp 26) (.tmp 28) (.const (.bool false)), (some ((some 23), false))⟩,
 qO 30 (.pick (.tmp 23) (.const (.bool true)) (.tmp 29)),
 qM 31 30,
  ⟨(some 32), .move (.tmp 5), (some ((some 31), false))⟩,
  ⟨(some 33), .bin .geq (.tmp 32) (.const (.int .u8 (.ofNat 97))), (some ((some 31), false))⟩,
  ⟨(some 34), .move (.tmp 33), (some ((some 31), false))⟩,
  ⟨(some 35), .move (.tmp 5), (some ((some 34), true))⟩,
  ⟨(some 36), .bin .leq (.tmp 35) (.const (.int .u8 (.ofNat 122))), (some ((some 34), true))⟩,
  ⟨(some 37), .pick (.tmp 34) (.tmp 36) (.const (.bool false)), (some ((some 31), false))⟩,
 qO 38 (.pick (.tmp 31) (.const (.bool true)) (.tmp 37)),
 qM 39 38,
  ⟨(some 40), .move (.tmp 5), (some ((some 39), false))⟩,
  ⟨(some 41), .bin .eql (.tmp 40) (.const (.int .u8 (.ofNat 95))), (some ((some 39), false))⟩,
 qO 42 (.pick (.tmp 39) (.const (.bool true)) (.tmp 41)),
 qM 4 42] none
/- ferret/prog.wordly -/
def f53 : IFn := ⟨43, [.inl 4], (.seq f53r0 (.seq (.seq f53r1 (.cond (.tmp 13) (.seq f53r2 .ret) .skip)) (.seq f53r3 (.seq f53r4 .ret))))⟩
def f54r0 : ICode := .region [
 qO 2 (.move (qK 0)),
 qO 3 (.move (.const (.int .u8 (.ofNat 0)))),
 qO 4 (.move (.const (.int .u8 (.ofNat 0)))),
 qO 5 (.move (qK 0))] none
def f54r1 : ICode := .region [
 qM 10 0,
 qO 11 (.bin .lss (.tmp 10) (.const (.int .u8 (.ofNat 128)))),
 qM 9 11] none
def f54r2 : ICode := .region [
 qM 12 0,
 qO 13 (.conv .i64 (.tmp 12)),
 qO 2 (.move (qK 0)),
 qO 3 (.move (.const (.int .u8 (.ofNat 0)))),
 qO 4 (.move (.const (.int .u8 (.ofNat 0)))),
 qM 5 13] none
def f54r3 : ICode := .region [
 qM 15 0,
 qO 16 (.bin .lss (.tmp 15) (.const (.int .u8 (.ofNat 194)))),
 qM 17 16,
  ⟨(some 18), .move (.tmp 0), (some ((some 17), false))⟩,
  ⟨(some 19), .bin .gtr (.tmp 18) (.const (.int .u8 (.ofNat 244))), (some ((some 17), false))⟩,
 qO 20 (.pick (.tmp 17) (.const (.bool true)) (.tmp 19)),
 qM 14 20] none
def f54r4 : ICode := .region [
 qO 2 (.move (.const (.int .i64 (.negSucc 0)))),
 qO 3 (.move (.const (.int .u8 (.ofNat 0)))),
 qO 4 (.move (.const (.int .u8 (.ofNat 0)))),
 qO 5 (.move (qK 0))] none
def f54r5 : ICode := .region [
 qM 22 0,
 qO 23 (.bin .lss (.tmp 22) (.const (.int .u8 (.ofNat 224)))),
 qM 21 23] none
def f54r6 : ICode := .region [
 qM 24 0,
 qO 25 (.bin .and (.tmp 24) (.const (.int .u8 (.ofNat 31)))),
 qO 26 (.conv .i64 (.tmp 25)),
 qO 2 (.move (qK 1)),
 qM 5 26] none
def f54r7 : ICode := .region [
 qM 28 0,
 qO 29 (.bin .lss (.tmp 28) (.const (.int .u8 (.ofNat 240)))),
 qM 27 29] none
def f54r8 : ICode := .region [
 qM 30 0,
 qO 31 (.bin .and (.tmp 30) (.const (.int .u8 (.ofNat 15)))),
 qO 32 (.conv .i64 (.tmp 31)),
 qO 2 (.move (qK 2)),
 qM 5 32] none
def f54r9 : ICode := .region [
 qM 6 0,
 qO 7 (.bin .and (.tmp 6) (.const (.int .u8 (.ofNat 7)))),
 qO 8 (.conv .i64 (.tmp 7)),
 qO 2 (.move (qK 3)),
 qM 5 8] none
def f54r10 : ICode := .region [
 qO 3 (.move (.const (.int .u8 (.ofNat 128)))),
 qO 4 (.move (.const (.int .u8 (.ofNat 191))))] none
def f54r11 : ICode := .region [
 qM 33 0] none
def f54r12 : ICode := .region [
 qO 35 (.bin .eql (.tmp 33) (.const (.int .u8 (.ofNat 224)))),
 qM 34 35] none
def f54r13 : ICode := .region [
 qO 3 (.move (.const (.int .u8 (.ofNat 160))))] none
def f54r14 : ICode := .region [
 qO 37 (.bin .eql (.tmp 33) (.const (.int .u8 (.ofNat 237)))),
 qM 36 37] none
def f54r15 : ICode := .region [
 qO 4 (.move (.const (.int .u8 (.ofNat 159))))] none
def f54r16 : ICode := .region [
 qO 39 (.bin .eql (.tmp 33) (.const (.int .u8 (.ofNat 240)))),
 qM 38 39] none
def f54r17 : ICode := .region [
 qO 3 (.move (.const (.int .u8 (.ofNat 144))))] none
def f54r18 : ICode := .region [
 qO 41 (.bin .eql (.tmp 33) (.const (.int .u8 (.ofNat 244)))),
 qM 40 41] none
def f54r19 : ICode := .region [
 qO 4 (.move (.const (.int .u8 (.ofNat 143))))] none
def f54r20 : ICode := .region [
 qM 42 2,
 qM 43 3,
 qM 44 4,
 qM 45 5,
 qM 2 42,
 qM 3 43,
 qM 4 44,
 qM 5 45] none
/- ferret/coding.shape -/
def f54 : IFn := ⟨46, [.inl 2, .inl 3, .inl 4, .inl 5], (.seq f54r0 (.seq (.block 0 (.seq f54r1 (.cond (.tmp 9) (.seq f54r2 .ret) (.seq f54r3 (.cond (.tmp 14) (.seq f54r4 .ret) (.seq f54r5 (.cond (.tmp 21) f54r6 (.seq f54r7 (.cond (.tmp 27) f54r8 f54r9))))))))) (.seq f54r10 (.seq (.seq f54r11 (.block 1 (.seq f54r12 (.cond (.tmp 34) f54r13 (.seq f54r14 (.cond (.tmp 36) f54r15 (.seq f54r16 (.cond (.tmp 38) f54r17 (.seq f54r18 (.cond (.tmp 40) f54r19 .skip)))))))))) (.seq f54r20 .ret)))))⟩
def f38r0 : ICode := .region [
 qO 2 (.box 9 (.tmp 0)),
 qO 3 (.box 4 (.tmp 1)),
 qO 4 (.move (qK 0)),
 qO 5 (.move (qK 0))] none
def f38r1 : ICode := .region [
 qO 9 (.mkFunc (.func 55) [] [(.tmp 2), (.tmp 3)]),
 qM 6 9] none
def f38r2 : ICode := .region [
 qM 10 6,
 qO 11 (.callv (.tmp 10) [(qK 0)]),
 qM 7 11] none
def f38r3 : ICode := .region [
 qM 13 7,
 qO 14 (.bin .lss (.tmp 13) (qK 0)),
 qM 12 14] none
def f38r4 : ICode := .region [
 qO 4 (.move (.const (.int .i64 (.negSucc 0)))),
 qO 5 (.move (qK 1))] none
def f38r5 : ICode := .region [
 qM 16 7,
 qO 17 (.bin .lss (.tmp 16) (qK 55296)),
 qM 18 17,
  ⟨(some 19), .move (.tmp 7), (some ((some 18), false))⟩,
  ⟨(some 20), .bin .gtr (.tmp 19) (qK 57343), (some ((some 18), false))⟩,
 qO 21 (.pick (.tmp 18) (.const (.bool true)) (.tmp 20)),
 qM 15 21] none
def f38r6 : ICode := .region [
 qM 22 7,
 qM 4 22,
 qO 5 (.move (qK 2))] none
def f38r7 : ICode := .region [
 qM 24 7,
 qO 25 (.bin .geq (.tmp 24) (qK 56320)),
 qM 23 25] none
def f38r8 : ICode := .region [
 qO 4 (.move (.const (.int .i64 (.negSucc 0)))),
 qO 5 (.move (qK 2))] none
def f38r9 : ICode := .region [
 qM 26 6,
 qO 27 (.callv (.tmp 26) [(qK 2)]),
 qM 8 27] none
def f38r10 : ICode := .region [
 qM 28 8,
 qO 29 (.bin .lss (.tmp 28) (qK 56320)),
 qM 30 29,
  ⟨(some 31), .move (.tmp 8), (some ((some 30), false))⟩,
  ⟨(some 32), .bin .gtr (.tmp 31) (qK 57343), (some ((some 30), false))⟩,
 qO 33 (.pick (.tmp 30) (.const (.bool true)) (.tmp 32))] none
def f38r11 : ICode := .region [
 qO 4 (.move (.const (.int .i64 (.negSucc 0)))),
 qO 5 (.move (qK 2))] none
def f38r12 : ICode := .region [
 qM 34 7,
 qO 35 (.bin .sub (.tmp 34) (qK 55296)),
 qO 36 (.bin .shl (.tmp 35) (.const (.int .u64 (.ofNat 10)))),
 qO 37 (.bin .add (qK 65536) (.tmp 36)),
 qM 38 8,
 qO 39 (.bin .add (.tmp 37) (.tmp 38)),
 qO 40 (.bin .sub (.tmp 39) (qK 56320)),
 qM 4 40,
 qO 5 (.move (qK 4))] none
/- ferret/coding.wide -/
def f38 : IFn := ⟨41, [.inl 4, .inl 5], (.seq f38r0 (.seq f38r1 (.seq f38r2 (.seq (.block 0 (.seq f38r3 (.cond (.tmp 12) (.seq f38r4 .ret) (.seq f38r5 (.cond (.tmp 15) (.seq f38r6 .ret) (.seq f38r7 (.cond (.tmp 23) (.seq f38r8 .ret) .skip))))))) (.seq f38r9 (.seq (.seq f38r10 (.cond (.tmp 33) (.seq f38r11 .ret) .skip)) (.seq f38r12 .ret)))))))⟩
def f57r0 : ICode := .region [
 qO 4 (.move (qK 0))] none
def f57r1 : ICode := .region [
 qM 5 0,
 qO 6 (.nilCheck (.tmp 5)),
 qO 7 (.fieldAddr 4 (.tmp 6)),
 qO 8 (.load1 (.tmp 7)),
 qM 9 1,
 qO 10 (.bin .add (.tmp 8) (.tmp 9)),
 qM 11 0,
 qO 12 (.nilCheck (.tmp 11)),
 qO 13 (.fieldAddr 0 (.tmp 12)),
 qO 14 (.fieldAddr 1 (.tmp 13)),
 qO 15 (.load1 (.tmp 14)),
 qO 16 (.len 1 (.tmp 15)),
 qO 17 (.bin .geq (.tmp 10) (.tmp 16))] (some ⟨[], []⟩)
def f57r2 : ICode := .region [
 qO 4 (.move (.const (.int .i64 (.negSucc 0))))] none
def f57r3 : ICode := .region [
 qM 18 0,
 qO 19 (.nilCheck (.tmp 18)),
 qO 20 (.fieldAddr 0 (.tmp 19)),
 qO 21 (.fieldAddr 1 (.tmp 20)),
 qO 22 (.load1 (.tmp 21)),
 qM 23 0,
 qO 24 (.nilCheck (.tmp 23)),
 qO 25 (.fieldAddr 4 (.tmp 24)),
 qO 26 (.load1 (.tmp 25)),
 qM 27 1,
 qO 28 (.bin .add (.tmp 26) (.tmp 27)),
 qO 29 (.indexSl 1 (.tmp 22) (.tmp 28)),
 qO 30 (.load1 (.tmp 29)),
 qM 4 30] (some ⟨[], []⟩)
/- (*ferret/syn.parser).peek -/
def f57 : IFn := ⟨31, [.inl 4], (.seq f57r0 (.seq (.seq f57r1 (.cond (.tmp 17) (.seq f57r2 .ret) .skip)) (.seq f57r3 .ret)))⟩
def f58r0 : ICode := .region [
 qM 6 1,
 qM 7 0,
 qO 8 (.nilCheck (.tmp 7)),
 qO 9 (.fieldAddr 0 (.tmp 8)),
 qO 10 (.fieldAddr 2 (.tmp 9)),
 qO 11 (.load1 (.tmp 10)),
 qM 12 2,
 qO 13 (.indexSl 1 (.tmp 11) (.tmp 12)),
 qO 14 (.load1 (.tmp 13)),
 qO 15 (.build [qZ, qZ] [(0, 1, (.tmp 6)), (1, 1, (.tmp 14))]),
 qO 16 (.mkIface 98 (.tmp 15)),
  ⟨none, .bad, none⟩] none
/- (*ferret/syn.parser).fail -/
def f58 : IFn := ⟨17, [], f58r0⟩
def f59r0 : ICode := .region [
 qO 2 (.move (qK 0)),
 qO 3 (.move (qK 0)),
 qO 4 (.move (.const (.bool false)))] none
def f59r1 : ICode := .region [
 qM 9 0,
 qO 10 (.call 45 [(.tmp 9), (.const (.string ⟨⟨[42]⟩⟩))]),
 qM 8 10] none
def f59r2 : ICode := .region [
 qO 2 (.move (qK 0)),
 qO 3 (.move (.const (.int .i64 (.negSucc 0)))),
 qO 4 (.move (.const (.bool true)))] none
def f59r3 : ICode := .region [
 qM 12 0,
 qO 13 (.call 45 [(.tmp 12), (.const (.string ⟨⟨[43]⟩⟩))]),
 qM 11 13] none
def f59r4 : ICode := .region [
 qO 2 (.move (qK 1)),
 qO 3 (.move (.const (.int .i64 (.negSucc 0)))),
 qO 4 (.move (.const (.bool true)))] none
def f59r5 : ICode := .region [
 qM 15 0,
 qO 16 (.call 45 [(.tmp 15), (.const (.string ⟨⟨[63]⟩⟩))]),
 qM 14 16] none
def f59r6 : ICode := .region [
 qO 2 (.move (qK 0)),
 qO 3 (.move (qK 1)),
 qO 4 (.move (.const (.bool true)))] none
def f59r7 : ICode := .region [
 qM 17 0,
 qO 18 (.nilCheck (.tmp 17)),
 qO 19 (.fieldAddr 4 (.tmp 18)),
 qO 20 (.load1 (.tmp 19)),
 qM 5 20] none
def f59r8 : ICode := .region [
 qM 21 0,
 qO 22 (.call 45 [(.tmp 21), (.const (.string ⟨⟨[123]⟩⟩))]),
 qO 23 (.un .not (.tmp 22))] none
def f59r9 : ICode := .region [
 qO 2 (.move (qK 0)),
 qO 3 (.move (qK 0)),
 qO 4 (.move (.const (.bool false)))] none
def f59r10 : ICode := .region [
 qM 25 0,
 qO 26 (.call 72 [(.tmp 25)]),
 qM 24 26,
 qO 27 (.extract (.tmp 24) 0),
 qO 28 (.extract (.tmp 24) 1),
 qM 2 27,
 qM 4 28] none
def f59r11 : ICode := .region [
 qM 29 2,
 qM 3 29] none
def f59r12 : ICode := .region [
 qM 30 4,
 qM 31 30,
  ⟨(some 32), .move (.tmp 0), (some ((some 31), true))⟩,
  ⟨(some 33), .call 45 [(.tmp 32), (.const (.string ⟨⟨[44]⟩⟩))], (some ((some 31), true))⟩,
 qO 34 (.pick (.tmp 31) (.tmp 33) (.const (.bool false)))] none
def f59r13 : ICode := .region [
 qO 3 (.move (.const (.int .i64 (.negSucc 0))))] none
def f59r14 : ICode := .region [
 qM 36 0,
 qO 37 (.call 72 [(.tmp 36)]),
 qM 35 37,
 qO 38 (.extract (.tmp 35) 0),
 qO 39 (.extract (.tmp 35) 1),
 qM 6 38,
 qM 7 39] none
def f59r15 : ICode := .region [
 qM 40 7] none
def f59r16 : ICode := .region [
 qM 41 6,
 qM 3 41] none
def f59r17 : ICode := .region [
 qM 42 4,
 qM 43 42,
  ⟨(some 44), .move (.tmp 0), (some ((some 43), true))⟩,
  ⟨(some 45), .call 45 [(.tmp 44), (.const (.string ⟨⟨[125]⟩⟩))], (some ((some 43), true))⟩,
 qO 46 (.pick (.tmp 43) (.tmp 45) (.const (.bool false)))] none
def f59r18 : ICode := .region [
 qM 47 2,
 qM 48 3,
 qM 2 47,
 qM 3 48,
 qO 4 (.move (.const (.bool true)))] none
def f59r19 : ICode := .region [
 qM 49 0,
 qM 50 5,
 qO 51 (.nilCheck (.tmp 49)),
 qO 52 (.fieldAddr 4 (.tmp 51)),
  ⟨none, .store 1 (.tmp 52) (.tmp 50), none⟩] none
def f59r20 : ICode := .region [
 qO 2 (.move (qK 0)),
 qO 3 (.move (qK 0)),
 qO 4 (.move (.const (.bool false)))] none
/- (*ferret/syn.parser).times -/
def f59 : IFn := ⟨53, [.inl 2, .inl 3, .inl 4], (.seq f59r0 (.seq (.block 0 (.seq f59r1 (.cond (.tmp 8) (.seq f59r2 .ret) (.seq f59r3 (.cond (.tmp 11) (.seq f59r4 .ret) (.seq f59r5 (.cond (.tmp 14) (.seq f59r6 .ret) .skip))))))) (.seq f59r7 (.seq (.seq f59r8 (.cond (.tmp 23) (.seq f59r9 .ret) .skip)) (.seq f59r10 (.seq f59r11 (.seq (.seq f59r12 (.cond (.tmp 34) (.seq f59r13 (.seq f59r14 (.seq f59r15 (.cond (.tmp 40) f59r16 .skip)))) .skip)) (.seq (.seq f59r17 (.cond (.tmp 46) (.seq f59r18 .ret) .skip)) (.seq f59r19 (.seq f59r20 .ret))))))))))⟩
def f60r0 : ICode := .region [
 qO 2 (.new [qZ, (.slice none 0 0), (.bool false), qZ, qZ, (.bool false), qZ, (.string ⟨⟨[]⟩⟩), (.slice none 0 0)] 54),
 qO 3 (.move (.const (.bool false)))] none
def f60r1 : ICode := .region [
 qM 10 0,
 qO 11 (.nilCheck (.tmp 10)),
 qO 12 (.fieldAddr 4 (.tmp 11)),
 qO 13 (.load1 (.tmp 12)),
 qM 4 13] none
def f60r2 : ICode := .region [
 qM 15 0,
 qO 16 (.call 45 [(.tmp 15), (.const (.string ⟨⟨[40]⟩⟩))]),
 qM 14 16] none
def f60r3 : ICode := .region [
 qM 17 0,
 qM 18 4,
 qO 19 (.call 73 [(.tmp 17), (.tmp 18)]),
 qO 20 (.extract (.tmp 19) 0),
 qO 21 (.extract (.tmp 19) 1),
  ⟨none, .store 9 (.tmp 2) (.tmp 20), none⟩,
 qM 3 21] none
def f60r4 : ICode := .region [
 qM 23 0,
 qO 24 (.call 45 [(.tmp 23), (.const (.string ⟨⟨[46]⟩⟩))]),
 qM 22 24] none
def f60r5 : ICode := .region [
 qO 25 (.build [qZ, qZ] [(1, 1, (qK 1114111))]),
 qO 26 (.buildSlice 75 1 [qZ, qZ] [(0, 2, (.tmp 25))]),
 qO 27 (.call 65 [(.tmp 26)]),
 qM 5 27] none
def f60r6 : ICode := .region [
 qM 28 0,
 qO 29 (.nilCheck (.tmp 28)),
 qO 30 (.fieldAddr 7 (.tmp 29)),
 qO 31 (.fieldAddr 2 (.tmp 30)),
 qO 32 (.load1 (.tmp 31)),
 qO 33 (.un .not (.tmp 32))] none
def f60r7 : ICode := .region [
 qM 34 5,
 qO 35 (.call 74 [(qK 10)]),
 qO 36 (.call 64 [(.tmp 34), (.tmp 35)]),
 qM 5 36] none
def f60r8 : ICode := .region [
 qM 37 0,
 qM 38 5,
 qO 39 (.call 75 [(.tmp 37), (.tmp 38)]),
  ⟨none, .store 9 (.tmp 2) (.tmp 39), none⟩,
 qO 3 (.move (.const (.bool true)))] none
def f60r9 : ICode := .region [
 qM 41 0,
 qO 42 (.call 45 [(.tmp 41), (.const (.string ⟨⟨[94]⟩⟩))]),
 qM 40 42] none
def f60r10 : ICode := .region [
 qM 43 0,
 qO 44 (.nilCheck (.tmp 43)),
 qO 45 (.fieldAddr 7 (.tmp 44)),
 qO 46 (.fieldAddr 1 (.tmp 45)),
 qO 47 (.load1 (.tmp 46)),
 qO 48 (.call 76 [(.tmp 47), (qK 4), (qK 2)]),
 qO 49 (.build [qZ, (.slice none 0 0), (.bool false), qZ, qZ, (.bool false), qZ, (.string ⟨⟨[]⟩⟩), (.slice none 0 0)] [(0, 1, (.tmp 48))]),
  ⟨none, .store 9 (.tmp 2) (.tmp 49), none⟩,
 qO 3 (.move (.const (.bool true)))] none
def f60r11 : ICode := .region [
 qM 51 0,
 qO 52 (.call 45 [(.tmp 51), (.const (.string ⟨⟨[36]⟩⟩))]),
 qM 50 52] none
def f60r12 : ICode := .region [
 qM 53 0,
 qO 54 (.nilCheck (.tmp 53)),
 qO 55 (.fieldAddr 7 (.tmp 54)),
 qO 56 (.fieldAddr 1 (.tmp 55)),
 qO 57 (.load1 (.tmp 56)),
 qO 58 (.call 76 [(.tmp 57), (qK 5), (qK 3)]),
 qO 59 (.build [qZ, (.slice none 0 0), (.bool false), qZ, qZ, (.bool false), qZ, (.string ⟨⟨[]⟩⟩), (.slice none 0 0)] [(0, 1, (.tmp 58))]),
  ⟨none, .store 9 (.tmp 2) (.tmp 59), none⟩,
 qO 3 (.move (.const (.bool true)))] none
def f60r13 : ICode := .region [
 qM 61 0,
 qO 62 (.call 45 [(.tmp 61), (.const (.string ⟨⟨[91]⟩⟩))]),
 qM 60 62] none
def f60r14 : ICode := .region [
 qM 63 0,
 qM 64 0,
 qM 65 4,
 qO 66 (.call 77 [(.tmp 64), (.tmp 65)]),
 qO 67 (.call 75 [(.tmp 63), (.tmp 66)]),
  ⟨none, .store 9 (.tmp 2) (.tmp 67), none⟩,
 qO 3 (.move (.const (.bool true)))] none
def f60r15 : ICode := .region [
 qM 69 0,
 qO 70 (.call 45 [(.tmp 69), (.const (.string ⟨⟨[92]⟩⟩))]),
 qM 68 70] none
def f60r16 : ICode := .region [
 qO 71 (.build [(.string ⟨⟨[]⟩⟩), qZ] [(0, 1, (.const (.string ⟨⟨[65]⟩⟩))), (1, 1, (qK 2))]),
 qO 72 (.build [(.string ⟨⟨[]⟩⟩), qZ] [(0, 1, (.const (.string ⟨⟨[122]⟩⟩))), (1, 1, (qK 3))]),
 qO 73 (.build [(.string ⟨⟨[]⟩⟩), qZ] [(0, 1, (.const (.string ⟨⟨[98]⟩⟩))), (1, 1, (qK 6))]),
 qO 74 (.build [(.string ⟨⟨[]⟩⟩), qZ] [(0, 1, (.const (.string ⟨⟨[66]⟩⟩))), (1, 1, (qK 7))]),
 qO 75 (.buildSlice 148 4 [(.string ⟨⟨[]⟩⟩), qZ, (.string ⟨⟨[]⟩⟩), qZ, (.string ⟨⟨[]⟩⟩), qZ, (.string ⟨⟨[]⟩⟩), qZ] [(0, 2, (.tmp 71)), (2, 2, (.tmp 72)), (4, 2, (.tmp 73)), (6, 2, (.tmp 74))]),
 qO 76 (.len 1 (.tmp 75)),
 qO 77 (.move (qK 0))] none
def f60r17 : ICode := .region [
 qO 78 (.bin .lss (.tmp 77) (.tmp 76))] none
def f60r18 : ICode := .region [
 qO 79 (.indexSl 2 (.tmp 75) (.tmp 77)),
 qO 80 (.loadN 2 (.tmp 79)),
 qO 7 (.new [(.string ⟨⟨[]⟩⟩), qZ] 148),
  ⟨none, .store 2 (.tmp 7) (.tmp 80), none⟩] none
def f60r19 : ICode := .region [
 qM 81 0,
 qO 82 (.fieldAddr 0 (.tmp 7)),
 qO 83 (.load1 (.tmp 82)),
 qO 84 (.call 45 [(.tmp 81), (.tmp 83)])] none
def f60r20 : ICode := .region [
 qO 85 (.fieldAddr 1 (.tmp 7)),
 qO 86 (.load1 (.tmp 85)),
 qO 87 (.build [qZ, (.slice none 0 0), (.bool false), qZ, qZ, (.bool false), qZ, (.string ⟨⟨[]⟩⟩), (.slice none 0 0)] [(0, 1, (.tmp 86))]),
  ⟨none, .store 9 (.tmp 2) (.tmp 87), none⟩,
 qO 3 (.move (.const (.bool true)))] none
def f60r21 : ICode := .region [
 qO 88 (.bin .add (.tmp 77) (qK 1)),
 qM 77 88] none
def f60r22 : ICode := .region [
 qM 90 0,
 qM 91 4,
 qO 92 (.call 78 [(.tmp 90), (.tmp 91)]),
 qM 89 92,
 qO 93 (.extract (.tmp 89) 0),
 qO 94 (.extract (.tmp 89) 1),
 qM 8 93,
 qM 9 94] none
def f60r23 : ICode := .region [
 qM 95 0,
 qM 96 8,
 qO 97 (.call 75 [(.tmp 95), (.tmp 96)]),
  ⟨none, .store 9 (.tmp 2) (.tmp 97), none⟩,
 qO 3 (.move (.const (.bool true)))] none
def f60r24 : ICode := .region [
 qM 98 0,
 qO 99 (.nilCheck (.tmp 98)),
 qO 100 (.fieldAddr 4 (.tmp 99)),
 qO 101 (.load1 (.tmp 100)),
 qO 102 (.bin .add (.tmp 101) (qK 1)),
 qO 103 (.nilCheck (.tmp 98)),
 qO 104 (.fieldAddr 4 (.tmp 103)),
  ⟨none, .store 1 (.tmp 104) (.tmp 102), none⟩] none
def f60r25 : ICode := .region [
 qM 105 0,
 qM 106 0,
 qO 107 (.nilCheck (.tmp 106)),
 qO 108 (.fieldAddr 0 (.tmp 107)),
 qO 109 (.fieldAddr 1 (.tmp 108)),
 qO 110 (.load1 (.tmp 109)),
 qM 111 4,
 qO 112 (.indexSl 1 (.tmp 110) (.tmp 111)),
 qO 113 (.load1 (.tmp 112)),
 qO 114 (.call 74 [(.tmp 113)]),
 qO 115 (.call 75 [(.tmp 105), (.tmp 114)]),
  ⟨none, .store 9 (.tmp 2) (.tmp 115), none⟩,
 qO 3 (.move (.const (.bool true)))] none
/- (*ferret/syn.parser).atom -/
def f60 : IFn := ⟨116, [.inr (2, (some 9)), .inl 3], (.seq f60r0 (.seq f60r1 (.seq (.block 0 (.seq f60r2 (.cond (.tmp 14) (.seq f60r3 .ret) (.seq f60r4 (.cond (.tmp 22) (.seq f60r5 (.seq (.seq f60r6 (.cond (.tmp 33) f60r7 .skip)) (.seq f60r8 .ret))) (.seq f60r9 (.cond (.tmp 40) (.seq f60r10 .ret) (.seq f60r11 (.cond (.tmp 50) (.seq f60r12 .ret) (.seq f60r13 (.cond (.tmp 60) (.seq f60r14 .ret) (.seq f60r15 (.cond (.tmp 68) (.seq (.seq f60r16 (.block 1 (.loop (.seq f60r17 (.seq (.cond (.tmp 78) .skip (.exit 1)) (.seq (.block 2 (.seq f60r18 (.seq f60r19 (.cond (.tmp 84) (.seq f60r20 .ret) .skip)))) f60r21)))))) (.seq f60r22 (.seq f60r23 .ret))) .skip))))))))))))) (.seq f60r24 (.seq f60r25 .ret)))))⟩
def f61r0 : ICode := .region [
 qO 2 (.move (qK 0))] none
def f61r1 : ICode := .region [
 qM 3 0,
 qO 4 (.minmax false (.tmp 3) (qK 1048577)),
 qM 2 4] none
/- ferret/simple.capped -/
def f61 : IFn := ⟨5, [.inl 2], (.seq f61r0 (.seq f61r1 .ret))⟩
def f62r0 : ICode := .region [
 qO 1 (.box 54 (.tmp 0)),
 qO 2 (.new [qZ, (.slice none 0 0), (.bool false), qZ, qZ, (.bool false), qZ, (.string ⟨⟨[]⟩⟩), (.slice none 0 0)] 54)] none
def f62r1 : ICode := .region [
 qO 3 (.fieldAddr 8 (.tmp 1)),
 qO 4 (.load1 (.tmp 3)),
 qO 5 (.len 1 (.tmp 4)),
 qO 6 (.bin .eql (.tmp 5) (qK 0))] none
def f62r2 : ICode := .region [
 qO 7 (.build [qZ, (.slice none 0 0), (.bool false), qZ, qZ, (.bool false), qZ, (.string ⟨⟨[]⟩⟩), (.slice none 0 0)] []),
  ⟨none, .store 9 (.tmp 2) (.tmp 7), none⟩] none
def f62r3 : ICode := .region [
 qO 8 (.fieldAddr 8 (.tmp 1)),
 qO 9 (.load1 (.tmp 8)),
 qO 10 (.indexSl 9 (.tmp 9) (qK 0)),
 qO 11 (.loadN 9 (.tmp 10)),
  ⟨none, .store 9 (.tmp 2) (.tmp 11), none⟩] none
/- ferret/simple.first -/
def f62 : IFn := ⟨12, [.inr (2, (some 9))], (.seq f62r0 (.seq (.seq f62r1 (.cond (.tmp 6) (.seq f62r2 .ret) .skip)) (.seq f62r3 .ret)))⟩
def f63r0 : ICode := .region [
 qO 2 (.move (.const (.slice none 0 0)))] none
def f63r1 : ICode := .region [
 qM 14 0,
 qO 15 (.call 79 [(.tmp 14)]),
 qM 3 15] none
def f63r2 : ICode := .region [
 qO 16 (.call 80 []),
 qO 17 (.len 1 (.tmp 16)),
 qO 18 (.move (qK 0))] none
def f63r3 : ICode := .region [
 qO 19 (.bin .lss (.tmp 18) (.tmp 17))] none
def f63r4 : ICode := .region [
 qO 20 (.indexSl 3 (.tmp 16) (.tmp 18)),
 qO 21 (.loadN 3 (.tmp 20)),
 qO 5 (.new [qZ, qZ, qZ] 155),
  ⟨none, .store 3 (.tmp 5) (.tmp 21), none⟩] none
def f63r5 : ICode := .region [
 qM 22 0,
 qO 23 (.fieldAddr 0 (.tmp 5)),
 qO 24 (.load1 (.tmp 23)),
 qO 25 (.fieldAddr 1 (.tmp 5)),
 qO 26 (.load1 (.tmp 25)),
 qO 27 (.build [qZ, qZ] [(0, 1, (.tmp 24)), (1, 1, (.tmp 26))]),
 qO 28 (.buildSlice 75 1 [qZ, qZ] [(0, 2, (.tmp 27))]),
 qO 29 (.call 65 [(.tmp 28)]),
 qO 30 (.call 81 [(.tmp 22), (.tmp 29)]),
 qO 31 (.len 1 (.tmp 30)),
 qO 32 (.move (qK 0))] none
def f63r6 : ICode := .region [
 qO 33 (.bin .lss (.tmp 32) (.tmp 31))] none
def f63r7 : ICode := .region [
 qO 34 (.indexSl 2 (.tmp 30) (.tmp 32)),
 qO 35 (.loadN 2 (.tmp 34)),
 qO 7 (.new [qZ, qZ] 75),
  ⟨none, .store 2 (.tmp 7) (.tmp 35), none⟩] none
def f63r8 : ICode := .region [
 qM 36 3,
 qO 37 (.fieldAddr 0 (.tmp 7)),
 qO 38 (.load1 (.tmp 37)),
 qO 39 (.fieldAddr 2 (.tmp 5)),
 qO 40 (.load1 (.tmp 39)),
 qO 41 (.bin .add (.tmp 38) (.tmp 40)),
 qO 42 (.fieldAddr 1 (.tmp 7)),
 qO 43 (.load1 (.tmp 42)),
 qO 44 (.fieldAddr 2 (.tmp 5)),
 qO 45 (.load1 (.tmp 44)),
 qO 46 (.bin .add (.tmp 43) (.tmp 45)),
 qO 47 (.build [qZ, qZ] [(0, 1, (.tmp 41)), (1, 1, (.tmp 46))]),
 qO 48 (.buildSlice 75 1 [qZ, qZ] [(0, 2, (.tmp 47))]),
 qO 49 (.append 75 2 16 (.tmp 36) (.tmp 48)),
 qM 3 49] none
def f63r9 : ICode := .region [
 qO 50 (.bin .add (.tmp 32) (qK 1)),
 qM 32 50] none
def f63r10 : ICode := .region [
 qM 51 0,
 qO 52 (.fieldAddr 0 (.tmp 5)),
 qO 53 (.load1 (.tmp 52)),
 qO 54 (.fieldAddr 2 (.tmp 5)),
 qO 55 (.load1 (.tmp 54)),
 qO 56 (.bin .add (.tmp 53) (.tmp 55)),
 qO 57 (.fieldAddr 1 (.tmp 5)),
 qO 58 (.load1 (.tmp 57)),
 qO 59 (.fieldAddr 2 (.tmp 5)),
 qO 60 (.load1 (.tmp 59)),
 qO 61 (.bin .add (.tmp 58) (.tmp 60)),
 qO 62 (.build [qZ, qZ] [(0, 1, (.tmp 56)), (1, 1, (.tmp 61))]),
 qO 63 (.buildSlice 75 1 [qZ, qZ] [(0, 2, (.tmp 62))]),
 qO 64 (.call 65 [(.tmp 63)]),
 qO 65 (.call 81 [(.tmp 51), (.tmp 64)]),
 qO 66 (.len 1 (.tmp 65)),
 qO 67 (.move (qK 0))] none
def f63r11 : ICode := .region [
 qO 68 (.bin .lss (.tmp 67) (.tmp 66))] none
def f63r12 : ICode := .region [
 qO 69 (.indexSl 2 (.tmp 65) (.tmp 67)),
 qO 70 (.loadN 2 (.tmp 69)),
 qO 9 (.new [qZ, qZ] 75),
  ⟨none, .store 2 (.tmp 9) (.tmp 70), none⟩] none
def f63r13 : ICode := .region [
 qM 71 3,
 qO 72 (.fieldAddr 0 (.tmp 9)),
 qO 73 (.load1 (.tmp 72)),
 qO 74 (.fieldAddr 2 (.tmp 5)),
 qO 75 (.load1 (.tmp 74)),
 qO 76 (.bin .sub (.tmp 73) (.tmp 75)),
 qO 77 (.fieldAddr 1 (.tmp 9)),
 qO 78 (.load1 (.tmp 77)),
 qO 79 (.fieldAddr 2 (.tmp 5)),
 qO 80 (.load1 (.tmp 79)),
 qO 81 (.bin .sub (.tmp 78) (.tmp 80)),
 qO 82 (.build [qZ, qZ] [(0, 1, (.tmp 76)), (1, 1, (.tmp 81))]),
 qO 83 (.buildSlice 75 1 [qZ, qZ] [(0, 2, (.tmp 82))]),
 qO 84 (.append 75 2 16 (.tmp 71) (.tmp 83)),
 qM 3 84] none
def f63r14 : ICode := .region [
 qO 85 (.bin .add (.tmp 67) (qK 1)),
 qM 67 85] none
def f63r15 : ICode := .region [
 qO 86 (.bin .add (.tmp 18) (qK 1)),
 qM 18 86] none
def f63r16 : ICode := .region [
 qO 87 (.call 82 []),
 qO 88 (.len 1 (.tmp 87)),
 qO 89 (.move (qK 0))] none
def f63r17 : ICode := .region [
 qO 90 (.bin .lss (.tmp 89) (.tmp 88))] none
def f63r18 : ICode := .region [
 qO 91 (.indexSl 1 (.tmp 87) (.tmp 89)),
 qO 92 (.load1 (.tmp 91)),
 qM 11 92] none
def f63r19 : ICode := .region [
 qM 93 11,
 qM 94 0,
 qO 95 (.mkFunc (.func 84) [(.tmp 94)] []),
 qO 96 (.call 83 [(.tmp 93), (.tmp 95)])] none
def f63r20 : ICode := .region [
 qM 97 11,
 qO 98 (.len 1 (.tmp 97)),
 qO 99 (.move (qK 0))] none
def f63r21 : ICode := .region [
 qO 100 (.bin .lss (.tmp 99) (.tmp 98))] none
def f63r22 : ICode := .region [
 qO 101 (.indexSl 1 (.tmp 97) (.tmp 99)),
 qO 102 (.load1 (.tmp 101)),
 qM 13 102] none
def f63r23 : ICode := .region [
 qM 103 3,
 qM 104 13,
 qM 105 13,
 qO 106 (.build [qZ, qZ] [(0, 1, (.tmp 104)), (1, 1, (.tmp 105))]),
 qO 107 (.buildSlice 75 1 [qZ, qZ] [(0, 2, (.tmp 106))]),
 qO 108 (.append 75 2 16 (.tmp 103) (.tmp 107)),
 qM 3 108] none
def f63r24 : ICode := .region [
 qO 109 (.bin .add (.tmp 99) (qK 1)),
 qM 99 109] none
def f63r25 : ICode := .region [
 qO 110 (.bin .add (.tmp 89) (qK 1)),
 qM 89 110] none
def f63r26 : ICode := .region [
 qM 111 3,
 qO 112 (.call 65 [(.tmp 111)]),
 qM 2 112] none
/- ferret/ucd.Close -/
def f63 : IFn := ⟨113, [.inl 2], (.seq f63r0 (.seq f63r1 (.seq (.seq f63r2 (.block 0 (.loop (.seq f63r3 (.seq (.cond (.tmp 19) .skip (.exit 0)) (.seq (.block 1 (.seq f63r4 (.seq (.seq f63r5 (.block 2 (.loop (.seq f63r6 (.seq (.cond (.tmp 33) .skip (.exit 2)) (.seq (.block 3 (.seq f63r7 f63r8)) f63r9)))))) (.seq f63r10 (.block 4 (.loop (.seq f63r11 (.seq (.cond (.tmp 68) .skip (.exit 4)) (.seq (.block 5 (.seq f63r12 f63r13)) f63r14))))))))) f63r15)))))) (.seq (.seq f63r16 (.block 6 (.loop (.seq f63r17 (.seq (.cond (.tmp 90) .skip (.exit 6)) (.seq (.block 7 (.seq f63r18 (.seq f63r19 (.cond (.tmp 96) (.seq f63r20 (.block 8 (.loop (.seq f63r21 (.seq (.cond (.tmp 100) .skip (.exit 8)) (.seq (.block 9 (.seq f63r22 f63r23)) f63r24)))))) .skip)))) f63r25)))))) (.seq f63r26 .ret)))))⟩
def f65r0 : ICode := .region [
 qO 2 (.move (.const (.slice none 0 0)))] none
def f65r1 : ICode := .region [
 qO 3 (.new [(.slice none 0 0)] 50)] none
def f65r2 : ICode := .region [
 qM 10 0,
 qO 11 (.len 1 (.tmp 10)),
 qO 12 (.move (qK 0))] none
def f65r3 : ICode := .region [
 qO 13 (.bin .lss (.tmp 12) (.tmp 11))] none
def f65r4 : ICode := .region [
 qO 14 (.indexSl 2 (.tmp 10) (.tmp 12)),
 qO 15 (.loadN 2 (.tmp 14)),
 qO 5 (.new [qZ, qZ] 75),
  ⟨none, .store 2 (.tmp 5) (.tmp 15), none⟩] none
def f65r5 : ICode := .region [
 qO 16 (.fieldAddr 0 (.tmp 5)),
 qO 17 (.load1 (.tmp 16)),
 qO 18 (.minmax true (.tmp 17) (qK 0)),
 qO 19 (.fieldAddr 1 (.tmp 5)),
 qO 20 (.load1 (.tmp 19)),
 qO 21 (.minmax false (.tmp 20) (qK 1114111)),
 qO 22 (.build [qZ, qZ] [(0, 1, (.tmp 18)), (1, 1, (.tmp 21))]),
  ⟨none, .store 2 (.tmp 5) (.tmp 22), none⟩] none
def f65r6 : ICode := .region [
 qO 23 (.fieldAddr 0 (.tmp 5)),
 qO 24 (.load1 (.tmp 23)),
 qO 25 (.fieldAddr 1 (.tmp 5)),
 qO 26 (.load1 (.tmp 25)),
 qO 27 (.bin .leq (.tmp 24) (.tmp 26))] none
def f65r7 : ICode := .region [
 qO 28 (.load1 (.tmp 3)),
 qO 29 (.loadN 2 (.tmp 5)),
 qO 30 (.buildSlice 75 1 [qZ, qZ] [(0, 2, (.tmp 29))]),
 qO 31 (.append 75 2 16 (.tmp 28) (.tmp 30)),
  ⟨none, .store 1 (.tmp 3) (.tmp 31), none⟩] none
def f65r8 : ICode := .region [
 qO 32 (.bin .add (.tmp 12) (qK 1)),
 qM 12 32] none
def f65r9 : ICode := .region [
 qO 33 (.load1 (.tmp 3)),
 qO 34 (.mkIface 50 (.tmp 33)),
 qO 35 (.mkFunc (.func 87) [] [(.tmp 3)]),
 qO 36 (.call 86 [(.tmp 34), (.tmp 35)])] none
def f65r10 : ICode := .region [
 qO 6 (.move (.const (.slice none 0 0)))] none
def f65r11 : ICode := .region [
 qO 37 (.load1 (.tmp 3)),
 qO 38 (.len 1 (.tmp 37)),
 qO 39 (.move (qK 0))] none
def f65r12 : ICode := .region [
 qO 40 (.bin .lss (.tmp 39) (.tmp 38))] none
def f65r13 : ICode := .region [
 qO 41 (.indexSl 2 (.tmp 37) (.tmp 39)),
 qO 42 (.loadN 2 (.tmp 41)),
 qO 8 (.new [qZ, qZ] 75),
  ⟨none, .store 2 (.tmp 8) (.tmp 42), none⟩] none
def f65r14 : ICode := .region [
 qM 43 6,
 qO 44 (.len 1 (.tmp 43)),
 qM 9 44] none
def f65r15 : ICode := .region [
 qM 45 9,
 qO 46 (.bin .gtr (.tmp 45) (qK 0)),
 qM 47 46,
  ⟨(some 48), .fieldAddr 0 (.tmp 8), (some ((some 47), true))⟩,
  ⟨(some 49), .load1 (.tmp 48), (some ((some 47), true))⟩,
  ⟨(some 50), .move (.tmp 6), (some ((some 47), true))⟩,
  ⟨(some 51), .move (.tmp 9), (some ((some 47), true))⟩,
  ⟨(some 52), .bin .sub (.tmp 51) (qK 1), (some ((some 47), true))⟩,
  ⟨(some 53), .indexSl 2 (.tmp 50) (.tmp 52), (some ((some 47), true))⟩,
  ⟨(some 54), .fieldAddr 1 (.tmp 53), (some ((some 47), true))⟩,
  ⟨(some 55), .load1 (.tmp 54), (some ((some 47), true))⟩,
  ⟨(some 56), .bin .add (.tmp 55) (qK 1), (some ((some 47), true))⟩,
  ⟨(some 57), .bin .leq (.tmp 49) (.tmp 56), (some ((some 47), true))⟩,
 qO 58 (.pick (.tmp 47) (.tmp 57) (.const (.bool false)))] (some ⟨[], []⟩)
def f65r16 : ICode := .region [
 qM 59 6,
 qM 60 9,
 qO 61 (.bin .sub (.tmp 60) (qK 1)),
 qM 62 6,
 qM 63 9,
 qO 64 (.bin .sub (.tmp 63) (qK 1)),
 qO 65 (.indexSl 2 (.tmp 62) (.tmp 64)),
 qO 66 (.fieldAddr 1 (.tmp 65)),
 qO 67 (.load1 (.tmp 66)),
 qO 68 (.fieldAddr 1 (.tmp 8)),
 qO 69 (.load1 (.tmp 68)),
 qO 70 (.minmax true (.tmp 67) (.tmp 69)),
 qO 71 (.indexSl 2 (.tmp 59) (.tmp 61)),
 qO 72 (.fieldAddr 1 (.tmp 71)),
  ⟨none, .store 1 (.tmp 72) (.tmp 70), none⟩] (some ⟨[], []⟩)
def f65r17 : ICode := .region [
 qM 73 6,
 qO 74 (.loadN 2 (.tmp 8)),
 qO 75 (.buildSlice 75 1 [qZ, qZ] [(0, 2, (.tmp 74))]),
 qO 76 (.append 75 2 16 (.tmp 73) (.tmp 75)),
 qM 6 76] none
def f65r18 : ICode := .region [
 qO 77 (.bin .add (.tmp 39) (qK 1)),
 qM 39 77] none
def f65r19 : ICode := .region [
 qM 78 6,
 qM 2 78] none
/- ferret/sets.Of -/
def f65 : IFn := ⟨79, [.inl 2], (.seq f65r0 (.seq f65r1 (.seq (.seq f65r2 (.block 0 (.loop (.seq f65r3 (.seq (.cond (.tmp 13) .skip (.exit 0)) (.seq (.block 1 (.seq f65r4 (.seq f65r5 (.seq f65r6 (.cond (.tmp 27) f65r7 .skip))))) f65r8)))))) (.seq f65r9 (.seq f65r10 (.seq (.seq f65r11 (.block 2 (.loop (.seq f65r12 (.seq (.cond (.tmp 40) .skip (.exit 2)) (.seq (.block 3 (.seq f65r13 (.seq f65r14 (.seq f65r15 (.cond (.tmp 58) f65r16 f65r17))))) f65r18)))))) (.seq f65r19 .ret)))))))⟩
def f64r0 : ICode := .region [
 qO 4 (.move (.const (.slice none 0 0)))] none
def f64r1 : ICode := .region [
 qM 5 0,
 qM 6 1,
 qO 7 (.call 85 [(.tmp 6)]),
 qO 8 (.call 81 [(.tmp 5), (.tmp 7)]),
 qM 4 8] none
/- (ferret/sets.Set).Less -/
def f64 : IFn := ⟨9, [.inl 4], (.seq f64r0 (.seq f64r1 .ret))⟩
def f66r0 : ICode := .region [
 qO 2 (.new [qZ, (.slice none 0 0), (.bool false), qZ, qZ, (.bool false), qZ, (.string ⟨⟨[]⟩⟩), (.slice none 0 0)] 54)] none
def f66r1 : ICode := .region [
 qO 3 (.move (.const (.slice none 0 0)))] none
def f66r2 : ICode := .region [
 qM 6 0,
 qO 7 (.call 68 [(.tmp 6), (qK 8)]),
 qO 8 (.len 1 (.tmp 7)),
 qO 9 (.move (qK 0))] none
def f66r3 : ICode := .region [
 qO 10 (.bin .lss (.tmp 9) (.tmp 8))] none
def f66r4 : ICode := .region [
 qO 11 (.indexSl 9 (.tmp 7) (.tmp 9)),
 qO 12 (.loadN 9 (.tmp 11)),
 qO 5 (.new [qZ, (.slice none 0 0), (.bool false), qZ, qZ, (.bool false), qZ, (.string ⟨⟨[]⟩⟩), (.slice none 0 0)] 54),
  ⟨none, .store 9 (.tmp 5) (.tmp 12), none⟩] none
def f66r5 : ICode := .region [
 qO 13 (.fieldAddr 0 (.tmp 5)),
 qO 14 (.load1 (.tmp 13)),
 qO 15 (.bin .neq (.tmp 14) (qK 0))] none
def f66r6 : ICode := .region [
 qM 16 3,
 qO 17 (.loadN 9 (.tmp 5)),
 qO 18 (.buildSlice 54 1 [qZ, (.slice none 0 0), (.bool false), qZ, qZ, (.bool false), qZ, (.string ⟨⟨[]⟩⟩), (.slice none 0 0)] [(0, 9, (.tmp 17))]),
 qO 19 (.append 54 9 112 (.tmp 16) (.tmp 18)),
 qM 3 19] none
def f66r7 : ICode := .region [
 qO 20 (.bin .add (.tmp 9) (qK 1)),
 qM 9 20] none
def f66r8 : ICode := .region [
 qM 21 3,
 qO 22 (.call 67 [(qK 8), (.tmp 21)]),
  ⟨none, .store 9 (.tmp 2) (.tmp 22), none⟩] none
/- ferret/simple.row -/
def f66 : IFn := ⟨23, [.inr (2, (some 9))], (.seq f66r0 (.seq f66r1 (.seq (.seq f66r2 (.block 0 (.loop (.seq f66r3 (.seq (.cond (.tmp 10) .skip (.exit 0)) (.seq (.block 1 (.seq f66r4 (.seq f66r5 (.cond (.tmp 15) f66r6 .skip)))) f66r7)))))) (.seq f66r8 .ret))))⟩
def f68r0 : ICode := .region [
 qO 4 (.move (.const (.slice none 0 0)))] none
def f68r1 : ICode := .region [
 qO 5 (.move (.const (.slice none 0 0)))] none
def f68r2 : ICode := .region [
 qM 8 0,
 qO 9 (.len 1 (.tmp 8)),
 qO 10 (.move (qK 0))] none
def f68r3 : ICode := .region [
 qO 11 (.bin .lss (.tmp 10) (.tmp 9))] none
def f68r4 : ICode := .region [
 qO 12 (.indexSl 9 (.tmp 8) (.tmp 10)),
 qO 13 (.loadN 9 (.tmp 12)),
 qO 7 (.new [qZ, (.slice none 0 0), (.bool false), qZ, qZ, (.bool false), qZ, (.string ⟨⟨[]⟩⟩), (.slice none 0 0)] 54),
  ⟨none, .store 9 (.tmp 7) (.tmp 13), none⟩] none
def f68r5 : ICode := .region [
 qO 14 (.fieldAddr 0 (.tmp 7)),
 qO 15 (.load1 (.tmp 14)),
 qM 16 1,
 qO 17 (.bin .eql (.tmp 15) (.tmp 16))] none
def f68r6 : ICode := .region [
 qM 18 5,
 qO 19 (.fieldAddr 8 (.tmp 7)),
 qO 20 (.load1 (.tmp 19)),
 qO 21 (.append 54 9 112 (.tmp 18) (.tmp 20)),
 qM 5 21] none
def f68r7 : ICode := .region [
 qM 22 5,
 qO 23 (.loadN 9 (.tmp 7)),
 qO 24 (.buildSlice 54 1 [qZ, (.slice none 0 0), (.bool false), qZ, qZ, (.bool false), qZ, (.string ⟨⟨[]⟩⟩), (.slice none 0 0)] [(0, 9, (.tmp 23))]),
 qO 25 (.append 54 9 112 (.tmp 22) (.tmp 24)),
 qM 5 25] none
def f68r8 : ICode := .region [
 qO 26 (.bin .add (.tmp 10) (qK 1)),
 qM 10 26] none
def f68r9 : ICode := .region [
 qM 27 5,
 qM 4 27] none
/- ferret/simple.flat -/
def f68 : IFn := ⟨28, [.inl 4], (.seq f68r0 (.seq f68r1 (.seq (.seq f68r2 (.block 0 (.loop (.seq f68r3 (.seq (.cond (.tmp 11) .skip (.exit 0)) (.seq (.block 1 (.seq f68r4 (.seq f68r5 (.cond (.tmp 17) f68r6 f68r7)))) f68r8)))))) (.seq f68r9 .ret))))⟩
def f67r0 : ICode := .region [
 qO 4 (.new [qZ, (.slice none 0 0), (.bool false), qZ, qZ, (.bool false), qZ, (.string ⟨⟨[]⟩⟩), (.slice none 0 0)] 54)] none
def f67r1 : ICode := .region [
 qM 5 1,
 qO 6 (.len 1 (.tmp 5))] none
def f67r2 : ICode := .region [
 qO 8 (.bin .eql (.tmp 6) (qK 0)),
 qM 7 8] none
def f67r3 : ICode := .region [
 qO 9 (.build [qZ, (.slice none 0 0), (.bool false), qZ, qZ, (.bool false), qZ, (.string ⟨⟨[]⟩⟩), (.slice none 0 0)] []),
  ⟨none, .store 9 (.tmp 4) (.tmp 9), none⟩] none
def f67r4 : ICode := .region [
 qO 11 (.bin .eql (.tmp 6) (qK 1)),
 qM 10 11] none
def f67r5 : ICode := .region [
 qM 12 1,
 qO 13 (.indexSl 9 (.tmp 12) (qK 0)),
 qO 14 (.loadN 9 (.tmp 13)),
  ⟨none, .store 9 (.tmp 4) (.tmp 14), none⟩] none
def f67r6 : ICode := .region [
 qM 15 0,
 qM 16 1,
 qO 17 (.build [qZ, (.slice none 0 0), (.bool false), qZ, qZ, (.bool false), qZ, (.string ⟨⟨[]⟩⟩), (.slice none 0 0)] [(0, 1, (.tmp 15)), (8, 1, (.tmp 16))]),
  ⟨none, .store 9 (.tmp 4) (.tmp 17), none⟩] none
/- ferret/simple.whole -/
def f67 : IFn := ⟨18, [.inr (4, (some 9))], (.seq f67r0 (.seq (.seq f67r1 (.block 0 (.seq f67r2 (.cond (.tmp 7) (.seq f67r3 .ret) (.seq f67r4 (.cond (.tmp 10) (.seq f67r5 .ret) .skip)))))) (.seq f67r6 .ret)))⟩
def f69r0 : ICode := .region [
 qO 2 (.box 54 (.tmp 0)),
 qO 3 (.box 54 (.tmp 1)),
 qO 4 (.new [qZ, (.slice none 0 0), (.bool false), qZ, qZ, (.bool false), qZ, (.string ⟨⟨[]⟩⟩), (.slice none 0 0)] 54)] none
def f69r1 : ICode := .region [
 qO 8 (.mkFunc (.func 88) [] [(.tmp 2)]),
 qM 5 8] none
def f69r2 : ICode := .region [
 qO 6 (.move (.const (.slice none 0 0)))] none
def f69r3 : ICode := .region [
 qO 9 (.fieldAddr 3 (.tmp 2)),
 qO 10 (.load1 (.tmp 9)),
 qO 11 (.move (qK 0))] none
def f69r4 : ICode := .region [
 qO 12 (.bin .lss (.tmp 11) (.tmp 10))] none
def f69r5 : ICode := .region [
 qM 13 6,
 qO 14 (.loadN 9 (.tmp 3)),
 qO 15 (.buildSlice 54 1 [qZ, (.slice none 0 0), (.bool false), qZ, qZ, (.bool false), qZ, (.string ⟨⟨[]⟩⟩), (.slice none 0 0)] [(0, 9, (.tmp 14))]),
 qO 16 (.append 54 9 112 (.tmp 13) (.tmp 15)),
 qM 6 16] none
def f69r6 : ICode := .region [
 qO 17 (.bin .add (.tmp 11) (qK 1)),
 qM 11 17] none
def f69r7 : ICode := .region [
 qO 18 (.fieldAddr 4 (.tmp 2)),
 qO 19 (.load1 (.tmp 18)),
 qO 20 (.bin .eql (.tmp 19) (.const (.int .i64 (.negSucc 0))))] none
def f69r8 : ICode := .region [
 qM 21 6,
 qM 22 5,
 qO 23 (.loadN 9 (.tmp 3)),
 qO 24 (.callv (.tmp 22) [(.tmp 23), (.const (.int .i64 (.negSucc 0)))]),
 qO 25 (.buildSlice 54 1 [qZ, (.slice none 0 0), (.bool false), qZ, qZ, (.bool false), qZ, (.string ⟨⟨[]⟩⟩), (.slice none 0 0)] [(0, 9, (.tmp 24))]),
 qO 26 (.append 54 9 112 (.tmp 21) (.tmp 25)),
 qO 27 (.call 66 [(.tmp 26)]),
  ⟨none, .store 9 (.tmp 4) (.tmp 27), none⟩] none
def f69r9 : ICode := .region [
 qO 7 (.new [qZ, (.slice none 0 0), (.bool false), qZ, qZ, (.bool false), qZ, (.string ⟨⟨[]⟩⟩), (.slice none 0 0)] 54)] none
def f69r10 : ICode := .region [
 qO 28 (.fieldAddr 4 (.tmp 2)),
 qO 29 (.load1 (.tmp 28)),
 qO 30 (.fieldAddr 3 (.tmp 2)),
 qO 31 (.load1 (.tmp 30)),
 qO 32 (.bin .sub (.tmp 29) (.tmp 31)),
 qO 33 (.move (qK 0))] none
def f69r11 : ICode := .region [
 qO 34 (.bin .lss (.tmp 33) (.tmp 32))] none
def f69r12 : ICode := .region [
 qM 35 5,
 qO 36 (.loadN 9 (.tmp 3)),
 qO 37 (.loadN 9 (.tmp 7)),
 qO 38 (.buildSlice 54 2 [qZ, (.slice none 0 0), (.bool false), qZ, qZ, (.bool false), qZ, (.string ⟨⟨[]⟩⟩), (.slice none 0 0), qZ, (.slice none 0 0), (.bool false), qZ, qZ, (.bool false), qZ, (.string ⟨⟨[]⟩⟩), (.slice none 0 0)] [(0, 9, (.tmp 36)), (9, 9, (.tmp 37))]),
 qO 39 (.call 66 [(.tmp 38)]),
 qO 40 (.callv (.tmp 35) [(.tmp 39), (qK 1)]),
  ⟨none, .store 9 (.tmp 7) (.tmp 40), none⟩] none
def f69r13 : ICode := .region [
 qO 41 (.bin .add (.tmp 33) (qK 1)),
 qM 33 41] none
def f69r14 : ICode := .region [
 qM 42 6,
 qO 43 (.loadN 9 (.tmp 7)),
 qO 44 (.buildSlice 54 1 [qZ, (.slice none 0 0), (.bool false), qZ, qZ, (.bool false), qZ, (.string ⟨⟨[]⟩⟩), (.slice none 0 0)] [(0, 9, (.tmp 43))]),
 qO 45 (.append 54 9 112 (.tmp 42) (.tmp 44)),
 qO 46 (.call 66 [(.tmp 45)]),
  ⟨none, .store 9 (.tmp 4) (.tmp 46), none⟩] none
/- ferret/simple.repeat -/
def f69 : IFn := ⟨47, [.inr (4, (some 9))], (.seq f69r0 (.seq f69r1 (.seq f69r2 (.seq (.seq f69r3 (.block 0 (.loop (.seq f69r4 (.seq (.cond (.tmp 12) .skip (.exit 0)) (.seq (.block 1 f69r5) f69r6)))))) (.seq (.seq f69r7 (.cond (.tmp 20) (.seq f69r8 .ret) .skip)) (.seq f69r9 (.seq (.seq f69r10 (.block 2 (.loop (.seq f69r11 (.seq (.cond (.tmp 34) .skip (.exit 2)) (.seq (.block 3 f69r12) f69r13)))))) (.seq f69r14 .ret))))))))⟩
def f70r0 : ICode := .region [
 qO 2 (.move (.const (.slice none 0 0)))] none
def f70r1 : ICode := .region [
 qO 3 (.move (.const (.slice none 0 0)))] none
def f70r2 : ICode := .region [
 qM 10 0,
 qO 11 (.len 1 (.tmp 10)),
 qO 12 (.move (qK 0))] none
def f70r3 : ICode := .region [
 qO 13 (.bin .lss (.tmp 12) (.tmp 11))] none
def f70r4 : ICode := .region [
 qO 14 (.indexSl 2 (.tmp 10) (.tmp 12)),
 qO 15 (.loadN 2 (.tmp 14)),
 qO 5 (.new [qZ, qZ] 75),
  ⟨none, .store 2 (.tmp 5) (.tmp 15), none⟩] none
def f70r5 : ICode := .region [
 qO 6 (.move (qK 0))] none
def f70r6 : ICode := .region [
 qO 16 (.call 89 []),
 qO 17 (.move (qK 0))] none
def f70r7 : ICode := .region [
 qO 18 (.bin .lss (.tmp 17) (qK 6))] none
def f70r8 : ICode := .region [
 qO 19 (.indexArr 6 1 none (.tmp 16) (.tmp 17)),
 qM 8 19] none
def f70r9 : ICode := .region [
 qO 20 (.fieldAddr 0 (.tmp 5)),
 qO 21 (.load1 (.tmp 20)),
 qM 22 6,
 qO 23 (.minmax true (.tmp 21) (.tmp 22)),
 qO 24 (.fieldAddr 1 (.tmp 5)),
 qO 25 (.load1 (.tmp 24)),
 qM 26 8,
 qO 27 (.bin .sub (.tmp 26) (qK 1)),
 qO 28 (.minmax false (.tmp 25) (.tmp 27)),
 qO 29 (.build [qZ, qZ] [(0, 1, (.tmp 23)), (1, 1, (.tmp 28))]),
 qO 9 (.new [qZ, qZ] 75),
  ⟨none, .store 2 (.tmp 9) (.tmp 29), none⟩] none
def f70r10 : ICode := .region [
 qO 30 (.fieldAddr 0 (.tmp 9)),
 qO 31 (.load1 (.tmp 30)),
 qO 32 (.fieldAddr 1 (.tmp 9)),
 qO 33 (.load1 (.tmp 32)),
 qO 34 (.bin .leq (.tmp 31) (.tmp 33)),
 qM 35 34,
  ⟨(some 36), .move (.tmp 8), (some ((some 35), true))⟩,
  ⟨(some 37), .bin .neq (.tmp 36) (qK 57344), (some ((some 35), true))⟩,
 qO 38 (.pick (.tmp 35) (.tmp 37) (.const (.bool false)))] none
def f70r11 : ICode := .region [
 qM 39 3,
 qO 40 (.loadN 2 (.tmp 9)),
 qO 41 (.call 90 [(.tmp 39), (.tmp 40)]),
 qM 3 41] none
def f70r12 : ICode := .region [
 qM 42 8,
 qM 6 42] none
def f70r13 : ICode := .region [
 qO 43 (.bin .add (.tmp 17) (qK 1)),
 qM 17 43] none
def f70r14 : ICode := .region [
 qO 44 (.bin .add (.tmp 12) (qK 1)),
 qM 12 44] none
def f70r15 : ICode := .region [
 qM 45 3,
 qM 2 45] none
/- ferret/utfsplit.Split -/
def f70 : IFn := ⟨46, [.inl 2], (.seq f70r0 (.seq f70r1 (.seq (.seq f70r2 (.block 0 (.loop (.seq f70r3 (.seq (.cond (.tmp 13) .skip (.exit 0)) (.seq (.block 1 (.seq f70r4 (.seq f70r5 (.seq f70r6 (.block 2 (.loop (.seq f70r7 (.seq (.cond (.tmp 18) .skip (.exit 2)) (.seq (.block 3 (.seq f70r8 (.seq f70r9 (.seq (.seq f70r10 (.cond (.tmp 38) f70r11 .skip)) f70r12)))) f70r13))))))))) f70r14)))))) (.seq f70r15 .ret))))⟩
def f71r0 : ICode := .region [
 qO 6 (.load1 (.tmp 1)),
 qM 7 0,
 qO 8 (.indexSl 1 (.tmp 6) (.tmp 7)),
 qO 9 (.load1 (.tmp 8)),
 qO 10 (.len 1 (.tmp 9)),
 qO 11 (.move (qK 0))] none
def f71r1 : ICode := .region [
 qO 12 (.bin .lss (.tmp 11) (.tmp 10))] none
def f71r2 : ICode := .region [
 qO 13 (.indexSl 2 (.tmp 9) (.tmp 11)),
 qO 14 (.loadN 2 (.tmp 13)),
 qO 5 (.new [qZ, qZ] 75),
  ⟨none, .store 2 (.tmp 5) (.tmp 14), none⟩] none
def f71r3 : ICode := .region [
 qO 15 (.load1 (.tmp 2)),
 qO 16 (.loadN 2 (.tmp 5)),
 qO 17 (.build [qZ, qZ, qZ, qZ, qZ] [(0, 1, (qK 0)), (3, 2, (.tmp 16))]),
 qO 18 (.call 32 [(.tmp 15), (.tmp 17)])] none
def f71r4 : ICode := .region [
 qO 19 (.bin .add (.tmp 11) (qK 1)),
 qM 11 19] none
/- (*ferret/prog.compiler).class$1 -/
def f71 : IFn := ⟨20, [], (.seq f71r0 (.block 0 (.loop (.seq f71r1 (.seq (.cond (.tmp 12) .skip (.exit 0)) (.seq (.block 1 (.seq f71r2 f71r3)) f71r4))))))⟩
def f55r0 : ICode := .region [
 qO 4 (.move (qK 0))] none
def f55r1 : ICode := .region [
 qM 5 0,
 qO 6 (.bin .add (.tmp 5) (qK 1)),
 qO 7 (.load1 (.tmp 1)),
 qO 8 (.len 0 (.tmp 7)),
 qO 9 (.bin .geq (.tmp 6) (.tmp 8))] none
def f55r2 : ICode := .region [
 qO 4 (.move (.const (.int .i64 (.negSucc 0))))] none
def f55r3 : ICode := .region [
 qO 10 (.load1 (.tmp 2))] none
def f55r4 : ICode := .region [
 qO 11 (.load1 (.tmp 1)),
 qM 12 0,
 qO 13 (.indexStr (.tmp 11) (.tmp 12)),
 qO 14 (.conv .i64 (.tmp 13)),
 qO 15 (.bin .shl (.tmp 14) (.const (.int .u64 (.ofNat 8)))),
 qO 16 (.load1 (.tmp 1)),
 qM 17 0,
 qO 18 (.bin .add (.tmp 17) (qK 1)),
 qO 19 (.indexStr (.tmp 16) (.tmp 18)),
 qO 20 (.conv .i64 (.tmp 19)),
 qO 21 (.bin .or (.tmp 15) (.tmp 20)),
 qM 4 21] (some ⟨[], []⟩)
def f55r5 : ICode := .region [
 qO 22 (.load1 (.tmp 1)),
 qM 23 0,
 qO 24 (.bin .add (.tmp 23) (qK 1)),
 qO 25 (.indexStr (.tmp 22) (.tmp 24)),
 qO 26 (.conv .i64 (.tmp 25)),
 qO 27 (.bin .shl (.tmp 26) (.const (.int .u64 (.ofNat 8)))),
 qO 28 (.load1 (.tmp 1)),
 qM 29 0,
 qO 30 (.indexStr (.tmp 28) (.tmp 29)),
 qO 31 (.conv .i64 (.tmp 30)),
 qO 32 (.bin .or (.tmp 27) (.tmp 31)),
 qM 4 32] (some ⟨[], []⟩)
/- ferret/coding.wide$1 -/
def f55 : IFn := ⟨33, [.inl 4], (.seq f55r0 (.seq (.seq f55r1 (.cond (.tmp 9) (.seq f55r2 .ret) .skip)) (.seq (.seq f55r3 (.cond (.tmp 10) (.seq f55r4 .ret) .skip)) (.seq f55r5 .ret))))⟩
def f72r0 : ICode := .region [
 qO 2 (.move (qK 0)),
 qO 3 (.move (.const (.bool false)))] none
def f72r1 : ICode := .region [
 qO 4 (.move (qK 0)),
 qO 5 (.move (qK 0))] none
def f72r2 : ICode := .region [
 qM 6 5,
 qO 7 (.bin .lss (.tmp 6) (qK 4)),
 qM 8 7,
  ⟨(some 9), .move (.tmp 0), (some ((some 8), true))⟩,
  ⟨(some 10), .call 57 [(.tmp 9), (qK 0)], (some ((some 8), true))⟩,
  ⟨(some 11), .bin .geq (.tmp 10) (qK 48), (some ((some 8), true))⟩,
 qO 12 (.pick (.tmp 8) (.tmp 11) (.const (.bool false))),
 qM 13 12,
  ⟨(some 14), .move (.tmp 0), (some ((some 13), true))⟩,
  ⟨(some 15), .call 57 [(.tmp 14), (qK 0)], (some ((some 13), true))⟩,
  ⟨(some 16), .bin .leq (.tmp 15) (qK 57), (some ((some 13), true))⟩,
 qO 17 (.pick (.tmp 13) (.tmp 16) (.const (.bool false)))] none
def f72r3 : ICode := .region [
 qM 18 4,
 qO 19 (.bin .mul (qK 10) (.tmp 18)),
 qM 20 0,
 qO 21 (.call 57 [(.tmp 20), (qK 0)]),
 qO 22 (.bin .add (.tmp 19) (.tmp 21)),
 qO 23 (.bin .sub (.tmp 22) (qK 48)),
 qM 4 23] none
def f72r4 : ICode := .region [
 qM 24 0,
 qO 25 (.nilCheck (.tmp 24)),
 qO 26 (.fieldAddr 4 (.tmp 25)),
 qO 27 (.load1 (.tmp 26)),
 qO 28 (.bin .add (.tmp 27) (qK 1)),
 qO 29 (.nilCheck (.tmp 24)),
 qO 30 (.fieldAddr 4 (.tmp 29)),
  ⟨none, .store 1 (.tmp 30) (.tmp 28), none⟩] none
def f72r5 : ICode := .region [
 qM 31 5,
 qO 32 (.bin .add (.tmp 31) (qK 1)),
 qM 5 32] none
def f72r6 : ICode := .region [
 qM 33 4,
 qM 34 5,
 qO 35 (.bin .gtr (.tmp 34) (qK 0)),
 qM 2 33,
 qM 3 35] none
/- (*ferret/syn.parser).digits -/
def f72 : IFn := ⟨36, [.inl 2, .inl 3], (.seq f72r0 (.seq f72r1 (.seq (.block 0 (.loop (.seq (.seq f72r2 (.cond (.tmp 17) .skip (.exit 0))) (.block 1 (.seq f72r3 (.seq f72r4 f72r5)))))) (.seq f72r6 .ret))))⟩
def f73r0 : ICode := .region [
 qO 4 (.new [qZ, (.slice none 0 0), (.bool false), qZ, qZ, (.bool false), qZ, (.string ⟨⟨[]⟩⟩), (.slice none 0 0)] 54),
 qO 5 (.move (.const (.bool false)))] none
def f73r1 : ICode := .region [
 qM 9 0,
 qO 10 (.nilCheck (.tmp 9)),
 qO 11 (.fieldAddr 5 (.tmp 10)),
 qO 12 (.load1 (.tmp 11)),
 qO 13 (.len 1 (.tmp 12)),
 qO 14 (.bin .geq (.tmp 13) (qK 32))] none
def f73r2 : ICode := .region [
 qM 15 0,
 qM 16 1,
 qO 17 (.call 58 [(.tmp 15), (qK 21), (.tmp 16)])] none
def f73r3 : ICode := .region [
 qM 18 0,
 qO 19 (.nilCheck (.tmp 18)),
 qO 20 (.fieldAddr 7 (.tmp 19)),
 qO 21 (.loadN 4 (.tmp 20)),
 qO 6 (.new [(.bool false), (.bool false), (.bool false), (.bool false)] 61),
  ⟨none, .store 4 (.tmp 6) (.tmp 21), none⟩] none
def f73r4 : ICode := .region [
 qO 22 (.build [qZ, (.slice none 0 0), (.bool false), qZ, qZ, (.bool false), qZ, (.string ⟨⟨[]⟩⟩), (.slice none 0 0)] [(0, 1, (qK 11))]),
 qO 7 (.new [qZ, (.slice none 0 0), (.bool false), qZ, qZ, (.bool false), qZ, (.string ⟨⟨[]⟩⟩), (.slice none 0 0)] 54),
  ⟨none, .store 9 (.tmp 7) (.tmp 22), none⟩] none
def f73r5 : ICode := .region [
 qM 27 0,
 qO 28 (.call 45 [(.tmp 27), (.const (.string ⟨⟨[63, 80]⟩⟩))]),
 qM 26 28] none
def f73r6 : ICode := .region [
 qM 29 0,
 qM 30 1,
 qO 31 (.call 91 [(.tmp 29), (.tmp 30)]),
 qO 32 (.fieldAddr 7 (.tmp 7)),
  ⟨none, .store 1 (.tmp 32) (.tmp 31), none⟩] none
def f73r7 : ICode := .region [
 qM 33 0,
 qO 34 (.fieldAddr 7 (.tmp 7)),
 qO 35 (.load1 (.tmp 34)),
 qO 36 (.call 92 [(.tmp 33), (.tmp 35)]),
 qO 37 (.fieldAddr 6 (.tmp 7)),
  ⟨none, .store 1 (.tmp 37) (.tmp 36), none⟩] none
def f73r8 : ICode := .region [
 qM 39 0,
 qO 40 (.call 45 [(.tmp 39), (.const (.string ⟨⟨[63]⟩⟩))]),
 qM 38 40] none
def f73r9 : ICode := .region [
 qO 41 (.build [qZ, (.slice none 0 0), (.bool false), qZ, qZ, (.bool false), qZ, (.string ⟨⟨[]⟩⟩), (.slice none 0 0)] []),
  ⟨none, .store 9 (.tmp 7) (.tmp 41), none⟩] none
def f73r10 : ICode := .region [
 qM 42 0,
 qM 43 1,
 qO 44 (.call 93 [(.tmp 42), (.tmp 43)]),
 qO 45 (.un .not (.tmp 44))] none
def f73r11 : ICode := .region [
 qO 46 (.build [qZ, (.slice none 0 0), (.bool false), qZ, qZ, (.bool false), qZ, (.string ⟨⟨[]⟩⟩), (.slice none 0 0)] []),
  ⟨none, .store 9 (.tmp 4) (.tmp 46), none⟩,
 qO 5 (.move (.const (.bool false)))] none
def f73r12 : ICode := .region [
 qM 23 0,
 qO 24 (.call 92 [(.tmp 23), (.const (.string ⟨⟨[]⟩⟩))]),
 qO 25 (.fieldAddr 6 (.tmp 7)),
  ⟨none, .store 1 (.tmp 25) (.tmp 24), none⟩] none
def f73r13 : ICode := .region [
 qM 47 0,
 qM 48 0,
 qO 49 (.nilCheck (.tmp 48)),
 qO 50 (.fieldAddr 5 (.tmp 49)),
 qO 51 (.load1 (.tmp 50)),
 qM 52 1,
 qO 53 (.buildSlice 3 1 [qZ] [(0, 1, (.tmp 52))]),
 qO 54 (.append 3 1 8 (.tmp 51) (.tmp 53)),
 qO 55 (.nilCheck (.tmp 47)),
 qO 56 (.fieldAddr 5 (.tmp 55)),
  ⟨none, .store 1 (.tmp 56) (.tmp 54), none⟩] none
def f73r14 : ICode := .region [
 qM 57 0,
 qO 58 (.call 30 [(.tmp 57)]),
 qO 8 (.new [qZ, (.slice none 0 0), (.bool false), qZ, qZ, (.bool false), qZ, (.string ⟨⟨[]⟩⟩), (.slice none 0 0)] 54),
  ⟨none, .store 9 (.tmp 8) (.tmp 58), none⟩] none
def f73r15 : ICode := .region [
 qM 59 0,
 qO 60 (.call 45 [(.tmp 59), (.const (.string ⟨⟨[41]⟩⟩))]),
 qO 61 (.un .not (.tmp 60))] none
def f73r16 : ICode := .region [
 qM 62 0,
 qM 63 0,
 qO 64 (.nilCheck (.tmp 63)),
 qO 65 (.fieldAddr 5 (.tmp 64)),
 qO 66 (.load1 (.tmp 65)),
 qM 67 0,
 qO 68 (.nilCheck (.tmp 67)),
 qO 69 (.fieldAddr 5 (.tmp 68)),
 qO 70 (.load1 (.tmp 69)),
 qO 71 (.len 1 (.tmp 70)),
 qO 72 (.bin .sub (.tmp 71) (qK 1)),
 qO 73 (.indexSl 1 (.tmp 66) (.tmp 72)),
 qO 74 (.load1 (.tmp 73)),
 qO 75 (.call 58 [(.tmp 62), (qK 25), (.tmp 74)])] (some ⟨[], []⟩)
def f73r17 : ICode := .region [
 qM 76 0,
 qM 77 0,
 qO 78 (.nilCheck (.tmp 77)),
 qO 79 (.fieldAddr 5 (.tmp 78)),
 qO 80 (.load1 (.tmp 79)),
 qM 81 0,
 qO 82 (.nilCheck (.tmp 81)),
 qO 83 (.fieldAddr 5 (.tmp 82)),
 qO 84 (.load1 (.tmp 83)),
 qO 85 (.len 1 (.tmp 84)),
 qO 86 (.bin .sub (.tmp 85) (qK 1)),
 qO 87 (.sliceSl 1 (.tmp 80) none (some (.tmp 86))),
 qO 88 (.nilCheck (.tmp 76)),
 qO 89 (.fieldAddr 5 (.tmp 88)),
  ⟨none, .store 1 (.tmp 89) (.tmp 87), none⟩] (some ⟨[], []⟩)
def f73r18 : ICode := .region [
 qM 90 0,
 qO 91 (.loadN 4 (.tmp 6)),
 qO 92 (.nilCheck (.tmp 90)),
 qO 93 (.fieldAddr 7 (.tmp 92)),
  ⟨none, .store 4 (.tmp 93) (.tmp 91), none⟩] none
def f73r19 : ICode := .region [
 qO 94 (.fieldAddr 0 (.tmp 7)),
 qO 95 (.load1 (.tmp 94)),
 qO 96 (.bin .neq (.tmp 95) (qK 11))] none
def f73r20 : ICode := .region [
 qO 97 (.loadN 9 (.tmp 8)),
  ⟨none, .store 9 (.tmp 4) (.tmp 97), none⟩,
 qO 5 (.move (.const (.bool true)))] none
def f73r21 : ICode := .region [
 qO 98 (.loadN 9 (.tmp 8)),
 qO 99 (.buildSlice 54 1 [qZ, (.slice none 0 0), (.bool false), qZ, qZ, (.bool false), qZ, (.string ⟨⟨[]⟩⟩), (.slice none 0 0)] [(0, 9, (.tmp 98))]),
 qO 100 (.fieldAddr 8 (.tmp 7)),
  ⟨none, .store 1 (.tmp 100) (.tmp 99), none⟩] none
def f73r22 : ICode := .region [
 qO 101 (.loadN 9 (.tmp 7)),
  ⟨none, .store 9 (.tmp 4) (.tmp 101), none⟩,
 qO 5 (.move (.const (.bool true)))] none
/- (*ferret/syn.parser).brackets -/
def f73 : IFn := ⟨102, [.inr (4, (some 9)), .inl 5], (.seq f73r0 (.seq (.seq f73r1 (.cond (.tmp 14) f73r2 .skip)) (.seq f73r3 (.seq f73r4 (.seq (.block 0 (.seq f73r5 (.cond (.tmp 26) (.seq f73r6 f73r7) (.seq f73r8 (.cond (.tmp 38) (.seq f73r9 (.seq f73r10 (.cond (.tmp 45) (.seq f73r11 .ret) .skip))) f73r12))))) (.seq f73r13 (.seq f73r14 (.seq (.seq f73r15 (.cond (.tmp 61) f73r16 .skip)) (.seq f73r17 (.seq f73r18 (.seq (.seq f73r19 (.cond (.tmp 96) (.seq f73r20 .ret) .skip)) (.seq f73r21 (.seq f73r22 .ret)))))))))))))⟩
def f74r0 : ICode := .region [
 qO 2 (.move (.const (.slice none 0 0)))] none
def f74r1 : ICode := .region [
 qM 3 0,
 qM 4 0,
 qO 5 (.build [qZ, qZ] [(0, 1, (.tmp 3)), (1, 1, (.tmp 4))]),
 qO 6 (.buildSlice 75 1 [qZ, qZ] [(0, 2, (.tmp 5))]),
 qO 7 (.call 65 [(.tmp 6)]),
 qM 2 7] none
/- ferret/syn.one -/
def f74 : IFn := ⟨8, [.inl 2], (.seq f74r0 (.seq f74r1 .ret))⟩
def f75r0 : ICode := .region [
 qO 4 (.new [qZ, (.slice none 0 0), (.bool false), qZ, qZ, (.bool false), qZ, (.string ⟨⟨[]⟩⟩), (.slice none 0 0)] 54)] none
def f75r1 : ICode := .region [
 qM 5 1,
 qM 6 0,
 qO 7 (.nilCheck (.tmp 6)),
 qO 8 (.fieldAddr 7 (.tmp 7)),
 qO 9 (.fieldAddr 0 (.tmp 8)),
 qO 10 (.load1 (.tmp 9)),
 qO 11 (.build [qZ, (.slice none 0 0), (.bool false), qZ, qZ, (.bool false), qZ, (.string ⟨⟨[]⟩⟩), (.slice none 0 0)] [(0, 1, (qK 1)), (1, 1, (.tmp 5)), (2, 1, (.tmp 10))]),
  ⟨none, .store 9 (.tmp 4) (.tmp 11), none⟩] none
/- (*ferret/syn.parser).class -/
def f75 : IFn := ⟨12, [.inr (4, (some 9))], (.seq f75r0 (.seq f75r1 .ret))⟩
def f76r0 : ICode := .region [
 qO 6 (.move (qK 0))] none
def f76r1 : ICode := .region [
 qM 7 0] none
def f76r2 : ICode := .region [
 qM 8 1,
 qM 6 8] none
def f76r3 : ICode := .region [
 qM 9 2,
 qM 6 9] none
/- ferret/syn.pick[int] -/
def f76 : IFn := ⟨10, [.inl 6], (.seq f76r0 (.seq (.seq f76r1 (.cond (.tmp 7) (.seq f76r2 .ret) .skip)) (.seq f76r3 .ret)))⟩
def f77r0 : ICode := .region [
 qO 4 (.move (.const (.slice none 0 0)))] none
def f77r1 : ICode := .region [
 qM 13 0,
 qO 14 (.call 45 [(.tmp 13), (.const (.string ⟨⟨[94]⟩⟩))]),
 qM 5 14] none
def f77r2 : ICode := .region [
 qO 6 (.move (.const (.slice none 0 0)))] none
def f77r3 : ICode := .region [
 qO 7 (.move (.const (.bool true)))] none
def f77r4 : ICode := .region [
 qM 15 7,
 qM 16 15,
  ⟨(some 17), .move (.tmp 0), (some ((some 16), false))⟩,
  ⟨(some 18), .call 57 [(.tmp 17), (qK 0)], (some ((some 16), false))⟩,
  ⟨(some 19), .bin .neq (.tmp 18) (qK 93), (some ((some 16), false))⟩,
 qO 20 (.pick (.tmp 16) (.const (.bool true)) (.tmp 19))] none
def f77r5 : ICode := .region [
 qM 21 0,
 qO 22 (.call 57 [(.tmp 21), (qK 0)]),
 qO 23 (.bin .eql (.tmp 22) (.const (.int .i64 (.negSucc 0))))] none
def f77r6 : ICode := .region [
 qM 24 0,
 qM 25 1,
 qO 26 (.call 58 [(.tmp 24), (qK 24), (.tmp 25)])] none
def f77r7 : ICode := .region [
 qM 27 0,
 qO 28 (.nilCheck (.tmp 27)),
 qO 29 (.fieldAddr 4 (.tmp 28)),
 qO 30 (.load1 (.tmp 29)),
 qM 8 30] none
def f77r8 : ICode := .region [
 qM 32 0,
 qO 33 (.call 94 [(.tmp 32)]),
 qM 31 33,
 qO 34 (.extract (.tmp 31) 0),
 qO 35 (.extract (.tmp 31) 1),
 qM 9 34,
 qM 10 35] none
def f77r9 : ICode := .region [
 qM 36 10,
 qO 37 (.bin .geq (.tmp 36) (qK 0)),
 qM 38 37,
  ⟨(some 39), .move (.tmp 0), (some ((some 38), true))⟩,
  ⟨(some 40), .call 57 [(.tmp 39), (qK 0)], (some ((some 38), true))⟩,
  ⟨(some 41), .bin .eql (.tmp 40) (qK 45), (some ((some 38), true))⟩,
 qO 42 (.pick (.tmp 38) (.tmp 41) (.const (.bool false))),
 qM 43 42,
  ⟨(some 44), .move (.tmp 0), (some ((some 43), true))⟩,
  ⟨(some 45), .call 57 [(.tmp 44), (qK 1)], (some ((some 43), true))⟩,
  ⟨(some 46), .bin .neq (.tmp 45) (qK 93), (some ((some 43), true))⟩,
 qO 47 (.pick (.tmp 43) (.tmp 46) (.const (.bool false))),
 qM 48 47,
  ⟨(some 49), .move (.tmp 0), (some ((some 48), true))⟩,
  ⟨(some 50), .call 57 [(.tmp 49), (qK 1)], (some ((some 48), true))⟩,
  ⟨(some 51), .bin .neq (.tmp 50) (.const (.int .i64 (.negSucc 0))), (some ((some 48), true))⟩,
 qO 52 (.pick (.tmp 48) (.tmp 51) (.const (.bool false)))] none
def f77r10 : ICode := .region [
 qM 53 0,
 qO 54 (.nilCheck (.tmp 53)),
 qO 55 (.fieldAddr 4 (.tmp 54)),
 qO 56 (.load1 (.tmp 55)),
 qO 57 (.bin .add (.tmp 56) (qK 1)),
 qO 58 (.nilCheck (.tmp 53)),
 qO 59 (.fieldAddr 4 (.tmp 58)),
  ⟨none, .store 1 (.tmp 59) (.tmp 57), none⟩] none
def f77r11 : ICode := .region [
 qM 61 0,
 qO 62 (.call 94 [(.tmp 61)]),
 qM 60 62,
 qO 63 (.extract (.tmp 60) 0),
 qO 64 (.extract (.tmp 60) 1),
 qM 11 63,
 qM 12 64] none
def f77r12 : ICode := .region [
 qM 65 12,
 qM 66 10,
 qO 67 (.bin .lss (.tmp 65) (.tmp 66))] none
def f77r13 : ICode := .region [
 qM 68 0,
 qM 69 8,
 qO 70 (.call 58 [(.tmp 68), (qK 22), (.tmp 69)])] none
def f77r14 : ICode := .region [
 qM 71 10,
 qM 72 12,
 qO 73 (.build [qZ, qZ] [(0, 1, (.tmp 71)), (1, 1, (.tmp 72))]),
 qO 74 (.buildSlice 75 1 [qZ, qZ] [(0, 2, (.tmp 73))]),
 qO 75 (.call 65 [(.tmp 74)]),
 qM 9 75] none
def f77r15 : ICode := .region [
 qM 76 6,
 qM 77 9,
 qO 78 (.call 95 [(.tmp 76), (.tmp 77)]),
 qM 6 78] none
def f77r16 : ICode := .region [
 qO 7 (.move (.const (.bool false)))] none
def f77r17 : ICode := .region [
 qM 79 0,
 qO 80 (.nilCheck (.tmp 79)),
 qO 81 (.fieldAddr 4 (.tmp 80)),
 qO 82 (.load1 (.tmp 81)),
 qO 83 (.bin .add (.tmp 82) (qK 1)),
 qO 84 (.nilCheck (.tmp 79)),
 qO 85 (.fieldAddr 4 (.tmp 84)),
  ⟨none, .store 1 (.tmp 85) (.tmp 83), none⟩] none
def f77r18 : ICode := .region [
 qM 86 5] none
def f77r19 : ICode := .region [
 qM 87 6,
 qO 88 (.call 85 [(.tmp 87)]),
 qM 6 88] none
def f77r20 : ICode := .region [
 qM 89 6,
 qM 4 89] none
/- (*ferret/syn.parser).list -/
def f77 : IFn := ⟨90, [.inl 4], (.seq f77r0 (.seq f77r1 (.seq f77r2 (.seq (.seq f77r3 (.block 0 (.loop (.seq (.seq f77r4 (.cond (.tmp 20) .skip (.exit 0))) (.seq (.block 1 (.seq (.seq f77r5 (.cond (.tmp 23) f77r6 .skip)) (.seq f77r7 (.seq f77r8 (.seq (.seq f77r9 (.cond (.tmp 52) (.seq f77r10 (.seq f77r11 (.seq (.seq f77r12 (.cond (.tmp 67) f77r13 .skip)) f77r14))) .skip)) f77r15))))) f77r16))))) (.seq f77r17 (.seq (.seq f77r18 (.cond (.tmp 86) f77r19 .skip)) (.seq f77r20 .ret)))))))⟩
def f78r0 : ICode := .region [
 qO 4 (.move (.const (.slice none 0 0))),
 qO 5 (.move (qK 0))] none
def f78r1 : ICode := .region [
 qM 12 0,
 qO 13 (.call 57 [(.tmp 12), (qK 0)]),
 qM 6 13] none
def f78r2 : ICode := .region [
 qM 14 0,
 qO 15 (.nilCheck (.tmp 14)),
 qO 16 (.fieldAddr 4 (.tmp 15)),
 qO 17 (.load1 (.tmp 16)),
 qO 18 (.bin .add (.tmp 17) (qK 1)),
 qO 19 (.nilCheck (.tmp 14)),
 qO 20 (.fieldAddr 4 (.tmp 19)),
  ⟨none, .store 1 (.tmp 20) (.tmp 18), none⟩] none
def f78r3 : ICode := .region [
 qM 22 6,
 qO 23 (.bin .lss (.tmp 22) (qK 33)),
 qM 24 23,
  ⟨(some 25), .move (.tmp 6), (some ((some 24), false))⟩,
  ⟨(some 26), .bin .gtr (.tmp 25) (qK 126), (some ((some 24), false))⟩,
 qO 27 (.pick (.tmp 24) (.const (.bool true)) (.tmp 26)),
 qM 21 27] none
def f78r4 : ICode := .region [
 qM 28 0,
 qM 29 1,
 qO 30 (.call 58 [(.tmp 28), (qK 20), (.tmp 29)])] none
def f78r5 : ICode := .region [
 qM 32 6,
 qO 33 (.bin .eql (.tmp 32) (qK 112)),
 qM 34 33,
  ⟨(some 35), .move (.tmp 6), (some ((some 34), false))⟩,
  ⟨(some 36), .bin .eql (.tmp 35) (qK 80), (some ((some 34), false))⟩,
 qO 37 (.pick (.tmp 34) (.const (.bool true)) (.tmp 36)),
 qM 31 37] none
def f78r6 : ICode := .region [
 qM 38 0,
 qM 39 1,
 qO 40 (.call 96 [(.tmp 38), (.tmp 39)]),
 qM 7 40] none
def f78r7 : ICode := .region [
 qM 41 6,
 qO 42 (.bin .eql (.tmp 41) (qK 80))] none
def f78r8 : ICode := .region [
 qM 43 7,
 qO 44 (.call 85 [(.tmp 43)]),
 qM 7 44] none
def f78r9 : ICode := .region [
 qM 45 7,
 qM 4 45,
 qO 5 (.move (.const (.int .i64 (.negSucc 0))))] none
def f78r10 : ICode := .region [
 qM 47 6,
 qO 48 (.bin .eql (.tmp 47) (qK 120)),
 qM 46 48] none
def f78r11 : ICode := .region [
 qM 49 0,
 qM 50 1,
 qO 51 (.call 97 [(.tmp 49), (.tmp 50)]),
 qM 8 51] none
def f78r12 : ICode := .region [
 qM 52 8,
 qO 53 (.call 74 [(.tmp 52)]),
 qM 54 8,
 qM 4 53,
 qM 5 54] none
def f78r13 : ICode := .region [
 qM 56 6,
 qO 57 (.conv .u8 (.tmp 56)),
 qO 58 (.call 98 [(.tmp 57)]),
 qM 55 58,
 qO 59 (.extract (.tmp 55) 0),
 qO 60 (.extract (.tmp 55) 1),
 qM 9 59,
 qM 10 60] none
def f78r14 : ICode := .region [
 qM 61 10] none
def f78r15 : ICode := .region [
 qM 62 9,
 qM 4 62,
 qO 5 (.move (.const (.int .i64 (.negSucc 0))))] none
def f78r16 : ICode := .region [
 qM 63 6,
 qO 64 (.conv .u8 (.tmp 63)),
 qO 65 (.call 99 [(.const (.string ⟨⟨[110, 116, 114, 102, 118]⟩⟩)), (.tmp 64)]),
 qM 11 65] none
def f78r17 : ICode := .region [
 qM 66 11,
 qO 67 (.bin .geq (.tmp 66) (qK 0))] none
def f78r18 : ICode := .region [
 qM 68 11,
 qO 69 (.indexStr (.const (.string ⟨⟨[10, 9, 13, 12, 11]⟩⟩)) (.tmp 68)),
 qO 70 (.conv .i64 (.tmp 69)),
 qM 6 70] none
def f78r19 : ICode := .region [
 qM 71 6,
 qO 72 (.call 74 [(.tmp 71)]),
 qM 73 6,
 qM 4 72,
 qM 5 73] none
def f78r20 : ICode := .region [
 qM 74 6,
 qO 75 (.bin .geq (.tmp 74) (qK 48)),
 qM 76 75,
  ⟨(some 77), .move (.tmp 6), (some ((some 76), true))⟩,
  ⟨(some 78), .bin .leq (.tmp 77) (qK 57), (some ((some 76), true))⟩,
 qO 79 (.pick (.tmp 76) (.tmp 78) (.const (.bool false))),
 qM 80 79,
  ⟨(some 81), .move (.tmp 6), (some ((some 80), false))⟩,
  ⟨(some 82), .bin .or (.tmp 81) (qK 32), (some ((some 80), false))⟩,
  ⟨(some 83), .bin .geq (.tmp 82) (qK 97), (some ((some 80), false))⟩,
  ⟨(some 84), .move (.tmp 83), (some ((some 80), false))⟩,
  ⟨(some 85), .move (.tmp 6), (some ((some 84), true))⟩,
  ⟨(some 86), .bin .or (.tmp 85) (qK 32), (some ((some 84), true))⟩,
  ⟨(some 87), .bin .leq (.tmp 86) (qK 122), (some ((some 84), true))⟩,
  ⟨(some 88), .pick (.tmp 84) (.tmp 87) (.const (.bool false)), (some ((some 80), false))⟩,
 qO 89 (.pick (.tmp 80) (.const (.bool true)) (.tmp 88))] none
def f78r21 : ICode := .region [
 qM 90 0,
 qM 91 1,
 qO 92 (.call 58 [(.tmp 90), (qK 20), (.tmp 91)])] none
def f78r22 : ICode := .region [
 qM 93 6,
 qO 94 (.call 74 [(.tmp 93)]),
 qM 95 6,
 qM 4 94,
 qM 5 95] none
/- (*ferret/syn.parser).escape -/
def f78 : IFn := ⟨96, [.inl 4, .inl 5], (.seq f78r0 (.seq f78r1 (.seq f78r2 (.seq (.block 0 (.seq f78r3 (.cond (.tmp 21) f78r4 (.seq f78r5 (.cond (.tmp 31) (.seq f78r6 (.seq (.seq f78r7 (.cond (.tmp 42) f78r8 .skip)) (.seq f78r9 .ret))) (.seq f78r10 (.cond (.tmp 46) (.seq f78r11 (.seq f78r12 .ret)) .skip))))))) (.seq (.seq f78r13 (.seq f78r14 (.cond (.tmp 61) (.seq f78r15 .ret) .skip))) (.seq (.seq f78r16 (.seq f78r17 (.cond (.tmp 67) (.seq f78r18 (.seq f78r19 .ret)) .skip))) (.seq (.seq f78r20 (.cond (.tmp 89) f78r21 .skip)) (.seq f78r22 .ret))))))))⟩
def f79r0 : ICode := .region [
 qO 2 (.move (.const (.slice none 0 0)))] none
def f79r1 : ICode := .region [
 qM 3 0,
 qO 4 (.nilEq false 1 (.tmp 3) (.const (.slice none 0 0)))] none
def f79r2 : ICode := .region [
 qO 2 (.move (.const (.slice none 0 0)))] none
def f79r3 : ICode := .region [
 qO 5 (.bad),
 qM 6 0,
 qO 7 (.append 75 2 16 (.tmp 5) (.tmp 6)),
 qM 2 7] none
/- slices.Clone[ferret/sets.Set,ferret/api.Range] -/
def f79 : IFn := ⟨8, [.inl 2], (.seq f79r0 (.seq (.seq f79r1 (.cond (.tmp 4) (.seq f79r2 .ret) .skip)) (.seq f79r3 .ret)))⟩
def f80r0 : ICode := .region [
 qO 0 (.move (.const (.slice none 0 0)))] none
def f80r1 : ICode := .region [
 qO 1 (.build [qZ, qZ, qZ] [(0, 1, (qK 65)), (1, 1, (qK 90)), (2, 1, (qK 32))]),
 qO 2 (.build [qZ, qZ, qZ] [(0, 1, (qK 192)), (1, 1, (qK 214)), (2, 1, (qK 32))]),
 qO 3 (.build [qZ, qZ, qZ] [(0, 1, (qK 216)), (1, 1, (qK 222)), (2, 1, (qK 32))]),
 qO 4 (.build [qZ, qZ, qZ] [(0, 1, (qK 913)), (1, 1, (qK 929)), (2, 1, (qK 32))]),
 qO 5 (.build [qZ, qZ, qZ] [(0, 1, (qK 931)), (1, 1, (qK 937)), (2, 1, (qK 32))]),
 qO 6 (.build [qZ, qZ, qZ] [(0, 1, (qK 1040)), (1, 1, (qK 1071)), (2, 1, (qK 32))]),
 qO 7 (.build [qZ, qZ, qZ] [(0, 1, (qK 66560)), (1, 1, (qK 66599)), (2, 1, (qK 40))]),
 qO 8 (.buildSlice 155 7 [qZ, qZ, qZ, qZ, qZ, qZ, qZ, qZ, qZ, qZ, qZ, qZ, qZ, qZ, qZ, qZ, qZ, qZ, qZ, qZ, qZ] [(0, 3, (.tmp 1)), (3, 3, (.tmp 2)), (6, 3, (.tmp 3)), (9, 3, (.tmp 4)), (12, 3, (.tmp 5)), (15, 3, (.tmp 6)), (18, 3, (.tmp 7))]),
 qM 0 8] none
/- ferret/ucd.shifts -/
def f80 : IFn := ⟨9, [.inl 0], (.seq f80r0 (.seq f80r1 .ret))⟩
end Go.Am.Zt
