import Derived.Test.YtikphefllmemjaaGreatDoorAm22
/-
The table of the program for the engine: printed by a program of mine.
-/
namespace Go.Am.Zd
open Go Go.Am
set_option maxRecDepth 100000
def qM (d s : Nat) : IOper := ⟨some d, .move (.tmp s), none⟩
def qO (d : Nat) (op : IOp) : IOper := ⟨some d, op, none⟩
def qK (n : Nat) : Operand := .const (.int .i64 (.ofNat n))
def qZ : Value := .int .i64 (.ofNat 0)
def f4r0 : ICode := .region [
 qO 2 (.move (.const (.bool false)))] none
def f4r1 : ICode := .region [
 qO 10 (.call 13 []),
 qO 11 (.un .not (.tmp 10))] none
def f4r2 : ICode := .region [
 qO 2 (.move (.const (.bool false)))] none
def f4r3 : ICode := .region [
 qO 3 (.move (.const (.slice none 0 0)))] none
def f4r4 : ICode := .region [
 qO 4 (.move (qK 0))] none
def f4r5 : ICode := .region [
 qM 12 4,
 qM 13 0,
 qO 14 (.len 0 (.tmp 13)),
 qO 15 (.bin .lss (.tmp 12) (.tmp 14)),
 qM 16 15,
  ⟨(some 17), .move (.tmp 3), (some ((some 16), true))⟩,
  ⟨(some 18), .len 1 (.tmp 17), (some ((some 16), true))⟩,
  ⟨(some 19), .bin .lss (.tmp 18) (qK 500), (some ((some 16), true))⟩,
 qO 20 (.pick (.tmp 16) (.tmp 19) (.const (.bool false)))] none
def f4r6 : ICode := .region [
 qM 23 0,
 qM 24 4,
 qO 25 (.indexStr (.tmp 23) (.tmp 24)),
 qO 26 (.bin .geq (.tmp 25) (.const (.int .u8 (.ofNat 97)))),
 qM 27 26,
  ⟨(some 28), .move (.tmp 0), (some ((some 27), true))⟩,
  ⟨(some 29), .move (.tmp 4), (some ((some 27), true))⟩,
  ⟨(some 30), .indexStr (.tmp 28) (.tmp 29), (some ((some 27), true))⟩,
  ⟨(some 31), .bin .leq (.tmp 30) (.const (.int .u8 (.ofNat 122))), (some ((some 27), true))⟩,
 qO 32 (.pick (.tmp 27) (.tmp 31) (.const (.bool false)))] none
def f4r7 : ICode := .region [
 qM 33 3,
 qM 34 0,
 qM 35 4,
 qO 36 (.indexStr (.tmp 34) (.tmp 35)),
 qO 37 (.buildSlice 5 1 [(.int .u8 (.ofNat 0))] [(0, 1, (.tmp 36))]),
 qO 38 (.append 5 1 1 (.tmp 33) (.tmp 37)),
 qM 3 38] none
def f4r8 : ICode := .region [
 qM 21 4,
 qO 22 (.bin .add (.tmp 21) (qK 1)),
 qM 4 22] none
def f4r9 : ICode := .region [
 qM 40 3,
 qO 41 (.bytesToStr (.tmp 40)),
 qO 42 (.build [(.bool false), (.bool false), (.bool false), (.bool false)] []),
 qO 43 (.call 8 [(.tmp 41), (.tmp 42)]),
 qM 39 43,
 qO 44 (.extract (.tmp 39) 0),
 qO 45 (.extract (.tmp 39) 1),
 qO 5 (.new [qZ, (.slice none 0 0), (.bool false), qZ, qZ, (.bool false), qZ, (.string ⟨⟨[]⟩⟩), (.slice none 0 0), (.slice none 0 0)] 31),
 qO 6 (.new [qZ, qZ] 34),
  ⟨none, .store 10 (.tmp 5) (.tmp 44), none⟩,
  ⟨none, .store 2 (.tmp 6) (.tmp 45), none⟩] none
def f4r10 : ICode := .region [
 qO 47 (.loadN 10 (.tmp 5)),
 qO 48 (.call 9 [(.tmp 47)]),
 qM 46 48,
 qO 49 (.extract (.tmp 46) 0),
 qO 50 (.extract (.tmp 46) 1),
 qO 7 (.new [(.slice none 0 0), qZ] 41),
  ⟨none, .store 2 (.tmp 7) (.tmp 49), none⟩,
 qM 8 50] none
def f4r11 : ICode := .region [
 qO 51 (.loadN 2 (.tmp 6)),
 qO 52 (.build [qZ, qZ] []),
 qO 53 (.eqC true 34 (.tmp 51) (.tmp 52)),
 qM 54 53,
  ⟨(some 55), .move (.tmp 8), (some ((some 54), false))⟩,
  ⟨(some 56), .bin .neq (.tmp 55) (qK 0), (some ((some 54), false))⟩,
 qO 57 (.pick (.tmp 54) (.const (.bool true)) (.tmp 56)),
 qM 58 57,
  ⟨(some 59), .fieldAddr 0 (.tmp 7), (some ((some 58), false))⟩,
  ⟨(some 60), .load1 (.tmp 59), (some ((some 58), false))⟩,
  ⟨(some 61), .len 1 (.tmp 60), (some ((some 58), false))⟩,
  ⟨(some 62), .move (.tmp 3), (some ((some 58), false))⟩,
  ⟨(some 63), .len 1 (.tmp 62), (some ((some 58), false))⟩,
  ⟨(some 64), .bin .add (.tmp 63) (qK 3), (some ((some 58), false))⟩,
  ⟨(some 65), .bin .neq (.tmp 61) (.tmp 64), (some ((some 58), false))⟩,
 qO 66 (.pick (.tmp 58) (.const (.bool true)) (.tmp 65)),
 qM 67 66,
  ⟨(some 68), .fieldAddr 1 (.tmp 7), (some ((some 67), false))⟩,
  ⟨(some 69), .load1 (.tmp 68), (some ((some 67), false))⟩,
  ⟨(some 70), .bin .neq (.tmp 69) (qK 1), (some ((some 67), false))⟩,
 qO 71 (.pick (.tmp 67) (.const (.bool true)) (.tmp 70))] none
def f4r12 : ICode := .region [
 qO 2 (.move (.const (.bool false)))] none
def f4r13 : ICode := .region [
 qO 9 (.move (qK 0))] none
def f4r14 : ICode := .region [
 qM 72 9,
 qM 73 3,
 qO 74 (.len 1 (.tmp 73)),
 qO 75 (.bin .lss (.tmp 72) (.tmp 74))] none
def f4r15 : ICode := .region [
 qO 78 (.fieldAddr 0 (.tmp 7)),
 qO 79 (.load1 (.tmp 78)),
 qM 80 9,
 qO 81 (.bin .add (qK 1) (.tmp 80)),
 qO 82 (.indexSl 5 (.tmp 79) (.tmp 81)),
 qO 83 (.loadN 5 (.tmp 82)),
 qM 84 9,
 qO 85 (.bin .add (qK 2) (.tmp 84)),
 qM 86 3,
 qM 87 9,
 qO 88 (.indexSl 1 (.tmp 86) (.tmp 87)),
 qO 89 (.load1 (.tmp 88)),
 qO 90 (.conv .i64 (.tmp 89)),
 qM 91 3,
 qM 92 9,
 qO 93 (.indexSl 1 (.tmp 91) (.tmp 92)),
 qO 94 (.load1 (.tmp 93)),
 qO 95 (.conv .i64 (.tmp 94)),
 qO 96 (.build [qZ, qZ] [(0, 1, (.tmp 90)), (1, 1, (.tmp 95))]),
 qO 97 (.build [qZ, qZ, qZ, qZ, qZ] [(0, 1, (qK 0)), (1, 1, (.tmp 85)), (3, 2, (.tmp 96))]),
 qO 98 (.eqC true 55 (.tmp 83) (.tmp 97))] (some ⟨[], []⟩)
def f4r16 : ICode := .region [
 qO 2 (.move (.const (.bool false)))] none
def f4r17 : ICode := .region [
 qM 76 9,
 qO 77 (.bin .add (.tmp 76) (qK 1)),
 qM 9 77] none
def f4r18 : ICode := .region [
 qO 2 (.move (.const (.bool true)))] none
/- ferret/ferretlaw14.ProgWords -/
def f4 : IFn := ⟨99, [.inl 2], (.seq f4r0 (.seq (.seq f4r1 (.cond (.tmp 11) (.seq f4r2 .ret) .skip)) (.seq f4r3 (.seq (.seq f4r4 (.block 0 (.loop (.seq (.seq f4r5 (.cond (.tmp 20) .skip (.exit 0))) (.seq (.block 1 (.seq f4r6 (.cond (.tmp 32) f4r7 .skip))) f4r8))))) (.seq f4r9 (.seq f4r10 (.seq (.seq f4r11 (.cond (.tmp 71) (.seq f4r12 .ret) .skip)) (.seq (.seq f4r13 (.block 2 (.loop (.seq (.seq f4r14 (.cond (.tmp 75) .skip (.exit 2))) (.seq (.block 3 (.seq f4r15 (.cond (.tmp 98) (.seq f4r16 .ret) .skip))) f4r17))))) (.seq f4r18 .ret)))))))))⟩
def f5r0 : ICode := .region [
 qO 4 (.move (.const (.bool false)))] none
def f5r1 : ICode := .region [
 qO 10 (.call 13 []),
 qO 11 (.un .not (.tmp 10))] none
def f5r2 : ICode := .region [
 qO 4 (.move (.const (.bool false)))] none
def f5r3 : ICode := .region [
 qM 12 0,
 qO 13 (.bin .and (.tmp 12) (qK 63)),
 qO 14 (.bin .add (qK 1) (.tmp 13)),
 qM 15 1,
 qO 16 (.bin .and (.tmp 15) (qK 63)),
 qO 17 (.bin .add (qK 1) (.tmp 16)),
 qM 0 14,
 qM 1 17] none
def f5r4 : ICode := .region [
 qM 19 0,
 qO 20 (.call 14 [(.tmp 19)]),
 qO 21 (.bin .add (.const (.string ⟨⟨[40, 63, 58, 40, 63, 58, 97, 98, 41, 123]⟩⟩)) (.tmp 20)),
 qO 22 (.bin .add (.tmp 21) (.const (.string ⟨⟨[125, 41, 123]⟩⟩))),
 qM 23 1,
 qO 24 (.call 14 [(.tmp 23)]),
 qO 25 (.bin .add (.tmp 22) (.tmp 24)),
 qO 26 (.bin .add (.tmp 25) (.const (.string ⟨⟨[125]⟩⟩))),
 qO 27 (.build [(.bool false), (.bool false), (.bool false), (.bool false)] []),
 qO 28 (.call 8 [(.tmp 26), (.tmp 27)]),
 qM 18 28,
 qO 29 (.extract (.tmp 18) 0),
 qO 30 (.extract (.tmp 18) 1),
 qO 5 (.new [qZ, (.slice none 0 0), (.bool false), qZ, qZ, (.bool false), qZ, (.string ⟨⟨[]⟩⟩), (.slice none 0 0), (.slice none 0 0)] 31),
 qO 6 (.new [qZ, qZ] 34),
  ⟨none, .store 10 (.tmp 5) (.tmp 29), none⟩,
  ⟨none, .store 2 (.tmp 6) (.tmp 30), none⟩] none
def f5r5 : ICode := .region [
 qO 32 (.loadN 10 (.tmp 5)),
 qO 33 (.call 9 [(.tmp 32)]),
 qM 31 33,
 qO 34 (.extract (.tmp 31) 0),
 qO 35 (.extract (.tmp 31) 1),
 qO 7 (.new [(.slice none 0 0), qZ] 41),
  ⟨none, .store 2 (.tmp 7) (.tmp 34), none⟩,
 qM 8 35] none
def f5r6 : ICode := .region [
 qO 36 (.loadN 2 (.tmp 6)),
 qO 37 (.build [qZ, qZ] []),
 qO 38 (.eqC true 34 (.tmp 36) (.tmp 37))] none
def f5r7 : ICode := .region [
 qO 4 (.move (.const (.bool false)))] none
def f5r8 : ICode := .region [
 qM 39 0,
 qO 40 (.bin .mul (qK 3) (.tmp 39)),
 qO 41 (.bin .add (.tmp 40) (qK 1)),
 qM 9 41] none
def f5r9 : ICode := .region [
 qM 42 9,
 qM 43 1,
 qO 44 (.bin .mul (.tmp 42) (.tmp 43)),
 qO 45 (.bin .add (.tmp 44) (qK 1)),
 qO 46 (.bin .gtr (.tmp 45) (qK 8192)),
 qM 47 46,
  ⟨(some 48), .move (.tmp 0), (some ((some 47), false))⟩,
  ⟨(some 49), .bin .mul (qK 2) (.tmp 48), (some ((some 47), false))⟩,
  ⟨(some 50), .move (.tmp 1), (some ((some 47), false))⟩,
  ⟨(some 51), .bin .mul (.tmp 49) (.tmp 50), (some ((some 47), false))⟩,
  ⟨(some 52), .bin .add (.tmp 51) (qK 3), (some ((some 47), false))⟩,
  ⟨(some 53), .bin .gtr (.tmp 52) (qK 8192), (some ((some 47), false))⟩,
 qO 54 (.pick (.tmp 47) (.const (.bool true)) (.tmp 53))] none
def f5r10 : ICode := .region [
 qM 55 8,
 qO 56 (.bin .eql (.tmp 55) (qK 26)),
 qM 57 56,
  ⟨(some 58), .fieldAddr 0 (.tmp 7), (some ((some 57), true))⟩,
  ⟨(some 59), .load1 (.tmp 58), (some ((some 57), true))⟩,
  ⟨(some 60), .len 1 (.tmp 59), (some ((some 57), true))⟩,
  ⟨(some 61), .bin .eql (.tmp 60) (qK 0), (some ((some 57), true))⟩,
 qO 62 (.pick (.tmp 57) (.tmp 61) (.const (.bool false))),
 qM 4 62] none
def f5r11 : ICode := .region [
 qM 63 8,
 qO 64 (.bin .eql (.tmp 63) (qK 0)),
 qM 65 64,
  ⟨(some 66), .fieldAddr 0 (.tmp 7), (some ((some 65), true))⟩,
  ⟨(some 67), .load1 (.tmp 66), (some ((some 65), true))⟩,
  ⟨(some 68), .len 1 (.tmp 67), (some ((some 65), true))⟩,
  ⟨(some 69), .move (.tmp 0), (some ((some 65), true))⟩,
  ⟨(some 70), .bin .mul (qK 2) (.tmp 69), (some ((some 65), true))⟩,
  ⟨(some 71), .move (.tmp 1), (some ((some 65), true))⟩,
  ⟨(some 72), .bin .mul (.tmp 70) (.tmp 71), (some ((some 65), true))⟩,
  ⟨(some 73), .bin .add (.tmp 72) (qK 3), (some ((some 65), true))⟩,
  ⟨(some 74), .bin .eql (.tmp 68) (.tmp 73), (some ((some 65), true))⟩,
 qO 75 (.pick (.tmp 65) (.tmp 74) (.const (.bool false))),
 qM 4 75] none
/- ferret/ferretlaw14.ProgBig -/
def f5 : IFn := ⟨76, [.inl 4], (.seq f5r0 (.seq (.seq f5r1 (.cond (.tmp 11) (.seq f5r2 .ret) .skip)) (.seq f5r3 (.seq f5r4 (.seq f5r5 (.seq (.seq f5r6 (.cond (.tmp 38) (.seq f5r7 .ret) .skip)) (.seq f5r8 (.seq (.seq f5r9 (.cond (.tmp 54) (.seq f5r10 .ret) .skip)) (.seq f5r11 .ret)))))))))⟩
def f13r0 : ICode := .region [
 qO 0 (.move (.const (.bool false)))] none
def f13r1 : ICode := .region [
 qO 6 (.build [(.bool false), (.bool false), (.bool false), (.bool false)] []),
 qO 7 (.call 8 [(.const (.string ⟨⟨[97, 42]⟩⟩)), (.tmp 6)]),
 qM 5 7,
 qO 8 (.extract (.tmp 5) 0),
 qO 9 (.extract (.tmp 5) 1),
 qO 1 (.new [qZ, (.slice none 0 0), (.bool false), qZ, qZ, (.bool false), qZ, (.string ⟨⟨[]⟩⟩), (.slice none 0 0), (.slice none 0 0)] 31),
 qO 2 (.new [qZ, qZ] 34),
  ⟨none, .store 10 (.tmp 1) (.tmp 8), none⟩,
  ⟨none, .store 2 (.tmp 2) (.tmp 9), none⟩] none
def f13r2 : ICode := .region [
 qO 11 (.loadN 10 (.tmp 1)),
 qO 12 (.call 9 [(.tmp 11)]),
 qM 10 12,
 qO 13 (.extract (.tmp 10) 0),
 qO 14 (.extract (.tmp 10) 1),
 qO 3 (.new [(.slice none 0 0), qZ] 41),
  ⟨none, .store 2 (.tmp 3) (.tmp 13), none⟩,
 qM 4 14] none
def f13r3 : ICode := .region [
 qM 15 4,
 qO 16 (.bin .eql (.tmp 15) (qK 0)),
 qM 17 16,
  ⟨(some 18), .loadN 2 (.tmp 3), (some ((some 17), true))⟩,
  ⟨(some 19), .call 29 [(.tmp 18)], (some ((some 17), true))⟩,
  ⟨(some 20), .bin .eql (.tmp 19) (.const (.string ⟨⟨[48, 32, 115, 97, 118, 101, 32, 48, 32, 49, 10, 49, 32, 115, 112, 108, 105, 116, 32, 50, 32, 52, 10, 50, 32, 98, 121, 116, 101, 32, 57, 55, 32, 57, 55, 32, 51, 10, 51, 32, 106, 117, 109, 112, 32, 49, 10, 52, 32, 115, 97, 118, 101, 32, 49, 32, 53, 10, 53, 32, 109, 97, 116, 99, 104, 10]⟩⟩)), (some ((some 17), true))⟩,
 qO 21 (.pick (.tmp 17) (.tmp 20) (.const (.bool false))),
 qM 0 21] none
/- ferret/ferretlaw14.speaks -/
def f13 : IFn := ⟨22, [.inl 0], (.seq f13r0 (.seq f13r1 (.seq f13r2 (.seq f13r3 .ret))))⟩
def f8r0 : ICode := .region [
 qO 3 (.box 38 (.tmp 1)),
 qO 4 (.new [qZ, (.slice none 0 0), (.bool false), qZ, qZ, (.bool false), qZ, (.string ⟨⟨[]⟩⟩), (.slice none 0 0), (.slice none 0 0)] 31),
 qO 5 (.new [qZ, qZ] 34)] none
def f8r1 : ICode := .region [
 qM 9 0,
 qO 10 (.len 0 (.tmp 9)),
 qO 11 (.bin .gtr (.tmp 10) (qK 1024))] none
def f8r2 : ICode := .region [
 qO 12 (.build [qZ, (.slice none 0 0), (.bool false), qZ, qZ, (.bool false), qZ, (.string ⟨⟨[]⟩⟩), (.slice none 0 0), (.slice none 0 0)] []),
 qO 13 (.build [qZ, qZ] [(0, 1, (qK 2))]),
  ⟨none, .store 10 (.tmp 4) (.tmp 12), none⟩,
  ⟨none, .store 2 (.tmp 5) (.tmp 13), none⟩] none
def f8r3 : ICode := .region [
 qM 15 0,
 qO 16 (.call 19 [(.tmp 15), (qK 1), (.const (.bool true))]),
 qM 14 16,
 qO 17 (.extract (.tmp 14) 0),
 qO 18 (.extract (.tmp 14) 1),
 qO 6 (.new [qZ, (.slice none 0 0), (.slice none 0 0), qZ] 62),
  ⟨none, .store 4 (.tmp 6) (.tmp 17), none⟩,
  ⟨none, .store 2 (.tmp 5) (.tmp 18), none⟩] none
def f8r4 : ICode := .region [
 qO 19 (.fieldAddr 0 (.tmp 5)),
 qO 20 (.load1 (.tmp 19)),
 qO 21 (.bin .neq (.tmp 20) (qK 0))] none
def f8r5 : ICode := .region [
 qO 22 (.build [qZ, (.slice none 0 0), (.bool false), qZ, qZ, (.bool false), qZ, (.string ⟨⟨[]⟩⟩), (.slice none 0 0), (.slice none 0 0)] []),
 qO 23 (.loadN 2 (.tmp 5)),
  ⟨none, .store 10 (.tmp 4) (.tmp 22), none⟩,
  ⟨none, .store 2 (.tmp 5) (.tmp 23), none⟩] (some ⟨[], [(1, 2)]⟩)
def f8r6 : ICode := .region [
 qO 24 (.mkFunc (.func 20) [] [(.tmp 4), (.tmp 5)]),
  ⟨none, .defer (.tmp 24) [], none⟩] none
def f8r7 : ICode := .region [
 qO 25 (.loadN 4 (.tmp 6)),
 qO 26 (.buildSlice 9 1 [(.string ⟨⟨[]⟩⟩)] [(0, 1, (.const (.string ⟨⟨[]⟩⟩)))]),
 qO 27 (.loadN 4 (.tmp 3)),
 qO 28 (.build [qZ, (.slice none 0 0), (.slice none 0 0), qZ, qZ, (.slice none 0 0), (.slice none 0 0), (.bool false), (.bool false), (.bool false), (.bool false)] [(0, 4, (.tmp 25)), (6, 1, (.tmp 26)), (7, 4, (.tmp 27))]),
 qO 29 (.box 69 (.tmp 28)),
 qM 7 29] none
def f8r8 : ICode := .region [
 qM 30 7,
 qO 31 (.call 21 [(.tmp 30)]),
 qO 8 (.new [qZ, (.slice none 0 0), (.bool false), qZ, qZ, (.bool false), qZ, (.string ⟨⟨[]⟩⟩), (.slice none 0 0)] 28),
  ⟨none, .store 9 (.tmp 8) (.tmp 31), none⟩] none
def f8r9 : ICode := .region [
 qO 32 (.loadN 9 (.tmp 8)),
 qM 33 7,
 qO 34 (.nilCheck (.tmp 33)),
 qO 35 (.fieldAddr 6 (.tmp 34)),
 qO 36 (.load1 (.tmp 35)),
 qO 37 (.build [qZ, (.slice none 0 0), (.bool false), qZ, qZ, (.bool false), qZ, (.string ⟨⟨[]⟩⟩), (.slice none 0 0), (.slice none 0 0)] [(0, 9, (.tmp 32)), (9, 1, (.tmp 36))]),
 qO 38 (.build [qZ, qZ] []),
  ⟨none, .store 10 (.tmp 4) (.tmp 37), none⟩,
  ⟨none, .store 2 (.tmp 5) (.tmp 38), none⟩] (some ⟨[], []⟩)
/- ferret/syn.Parse -/
def f8 : IFn := ⟨39, [.inr (4, (some 10)), .inr (5, (some 2))], (.seq f8r0 (.seq (.seq f8r1 (.cond (.tmp 11) (.seq f8r2 .ret) .skip)) (.seq f8r3 (.seq (.seq f8r4 (.cond (.tmp 21) (.seq f8r5 .ret) .skip)) (.seq f8r6 (.seq f8r7 (.seq f8r8 (.seq f8r9 .ret))))))))⟩
def f9r0 : ICode := .region [
 qO 1 (.box 31 (.tmp 0)),
 qO 2 (.new [(.slice none 0 0), qZ] 41),
 qO 3 (.move (qK 0))] none
def f9r1 : ICode := .region [
 qO 9 (.fieldAddr 0 (.tmp 1)),
 qO 10 (.loadN 9 (.tmp 9)),
 qO 11 (.call 22 [(.tmp 10)]),
 qM 8 11,
 qO 12 (.extract (.tmp 8) 0),
 qO 13 (.extract (.tmp 8) 1),
 qO 4 (.new [qZ, (.slice none 0 0), (.bool false), qZ, qZ, (.bool false), qZ, (.string ⟨⟨[]⟩⟩), (.slice none 0 0)] 28),
  ⟨none, .store 9 (.tmp 4) (.tmp 12), none⟩,
 qM 5 13] none
def f9r2 : ICode := .region [
 qM 14 5,
 qO 15 (.bin .neq (.tmp 14) (qK 0))] none
def f9r3 : ICode := .region [
 qO 16 (.build [(.slice none 0 0), qZ] []),
 qM 17 5,
  ⟨none, .store 2 (.tmp 2) (.tmp 16), none⟩,
 qM 3 17] none
def f9r4 : ICode := .region [
 qO 18 (.build [(.slice none 0 0), (.bool false)] []),
 qO 19 (.box 75 (.tmp 18)),
 qM 6 19] none
def f9r5 : ICode := .region [
 qM 20 6,
 qO 21 (.build [qZ, qZ, qZ, qZ, qZ] [(0, 1, (qK 3))]),
 qO 22 (.call 23 [(.tmp 20), (.tmp 21)])] none
def f9r6 : ICode := .region [
 qM 23 6,
 qO 24 (.loadN 9 (.tmp 4)),
 qO 25 (.call 24 [(.tmp 23), (.tmp 24)])] none
def f9r7 : ICode := .region [
 qM 26 6,
 qO 27 (.build [qZ, qZ, qZ, qZ, qZ] [(0, 1, (qK 3)), (2, 1, (qK 1))]),
 qO 28 (.call 23 [(.tmp 26), (.tmp 27)])] none
def f9r8 : ICode := .region [
 qM 29 6,
 qO 30 (.build [qZ, qZ, qZ, qZ, qZ] [(0, 1, (qK 5))]),
 qO 31 (.call 23 [(.tmp 29), (.tmp 30)]),
 qM 7 31] none
def f9r9 : ICode := .region [
 qM 32 6,
 qO 33 (.nilCheck (.tmp 32)),
 qO 34 (.fieldAddr 0 (.tmp 33)),
 qO 35 (.load1 (.tmp 34)),
 qM 36 7,
 qO 37 (.indexSl 5 (.tmp 35) (.tmp 36)),
 qO 38 (.fieldAddr 1 (.tmp 37)),
  ⟨none, .store 1 (.tmp 38) (qK 0), none⟩] none
def f9r10 : ICode := .region [
 qM 39 6,
 qO 40 (.nilCheck (.tmp 39)),
 qO 41 (.fieldAddr 1 (.tmp 40)),
 qO 42 (.load1 (.tmp 41))] none
def f9r11 : ICode := .region [
 qO 43 (.build [(.slice none 0 0), qZ] []),
  ⟨none, .store 2 (.tmp 2) (.tmp 43), none⟩,
 qO 3 (.move (qK 26))] none
def f9r12 : ICode := .region [
 qM 44 6,
 qO 45 (.nilCheck (.tmp 44)),
 qO 46 (.fieldAddr 0 (.tmp 45)),
 qO 47 (.load1 (.tmp 46)),
 qO 48 (.fieldAddr 9 (.tmp 1)),
 qO 49 (.load1 (.tmp 48)),
 qO 50 (.len 1 (.tmp 49)),
 qO 51 (.build [(.slice none 0 0), qZ] [(0, 1, (.tmp 47)), (1, 1, (.tmp 50))]),
  ⟨none, .store 2 (.tmp 2) (.tmp 51), none⟩,
 qO 3 (.move (qK 0))] (some ⟨[], []⟩)
/- ferret/prog.Compile -/
def f9 : IFn := ⟨52, [.inr (2, (some 2)), .inl 3], (.seq f9r0 (.seq f9r1 (.seq (.seq f9r2 (.cond (.tmp 15) (.seq f9r3 .ret) .skip)) (.seq f9r4 (.seq f9r5 (.seq f9r6 (.seq f9r7 (.seq f9r8 (.seq f9r9 (.seq (.seq f9r10 (.cond (.tmp 42) (.seq f9r11 .ret) .skip)) (.seq f9r12 .ret)))))))))))⟩
def f14r0 : ICode := .region [
 qO 2 (.move (.const (.string ⟨⟨[]⟩⟩)))] none
def f14r1 : ICode := .region [
 qM 3 0,
 qO 4 (.bin .lss (.tmp 3) (qK 10))] none
def f14r2 : ICode := .region [
 qM 5 0,
 qO 6 (.bin .add (qK 48) (.tmp 5)),
 qO 7 (.conv .u8 (.tmp 6)),
 qO 8 (.buildSlice 5 1 [(.int .u8 (.ofNat 0))] [(0, 1, (.tmp 7))]),
 qO 9 (.bytesToStr (.tmp 8)),
 qM 2 9] none
def f14r3 : ICode := .region [
 qM 10 0,
 qO 11 (.bin .quo (.tmp 10) (qK 10)),
 qO 12 (.call 14 [(.tmp 11)]),
 qM 13 0,
 qO 14 (.bin .rem (.tmp 13) (qK 10)),
 qO 15 (.bin .add (qK 48) (.tmp 14)),
 qO 16 (.conv .u8 (.tmp 15)),
 qO 17 (.buildSlice 5 1 [(.int .u8 (.ofNat 0))] [(0, 1, (.tmp 16))]),
 qO 18 (.bytesToStr (.tmp 17)),
 qO 19 (.bin .add (.tmp 12) (.tmp 18)),
 qM 2 19] (some ⟨[], [(8, 2)]⟩)
/- ferret/ferretlaw14.number -/
def f14 : IFn := ⟨20, [.inl 2], (.seq f14r0 (.seq (.seq f14r1 (.cond (.tmp 4) (.seq f14r2 .ret) .skip)) (.seq f14r3 .ret)))⟩
def f29r0 : ICode := .region [
 qO 1 (.box 41 (.tmp 0)),
 qO 2 (.move (.const (.string ⟨⟨[]⟩⟩)))] none
def f29r1 : ICode := .region [
 qO 3 (.new [(.pointer none), (.slice none 0 0)] 102)] none
def f29r2 : ICode := .region [
 qO 10 (.fieldAddr 0 (.tmp 1)),
 qO 11 (.load1 (.tmp 10)),
 qO 12 (.len 1 (.tmp 11)),
 qO 13 (.move (qK 0))] none
def f29r3 : ICode := .region [
 qO 14 (.bin .lss (.tmp 13) (.tmp 12))] none
def f29r4 : ICode := .region [
 qM 15 13,
 qO 16 (.indexSl 5 (.tmp 11) (.tmp 13)),
 qO 17 (.loadN 5 (.tmp 16)),
 qO 5 (.new [qZ, qZ, qZ, qZ, qZ] 55),
 qM 4 15,
  ⟨none, .store 5 (.tmp 5) (.tmp 17), none⟩] none
def f29r5 : ICode := .region [
 qM 18 4,
 qO 19 (.call 49 [(.tmp 18)]),
 qO 20 (.call 48 [(.tmp 3), (.tmp 19)])] none
def f29r6 : ICode := .region [
 qO 21 (.buildSlice 9 7 [(.string ⟨⟨[]⟩⟩), (.string ⟨⟨[]⟩⟩), (.string ⟨⟨[]⟩⟩), (.string ⟨⟨[]⟩⟩), (.string ⟨⟨[]⟩⟩), (.string ⟨⟨[]⟩⟩), (.string ⟨⟨[]⟩⟩)] [(0, 1, (.const (.string ⟨⟨[98, 121, 116, 101]⟩⟩))), (1, 1, (.const (.string ⟨⟨[115, 112, 108, 105, 116]⟩⟩))), (2, 1, (.const (.string ⟨⟨[106, 117, 109, 112]⟩⟩))), (3, 1, (.const (.string ⟨⟨[115, 97, 118, 101]⟩⟩))), (4, 1, (.const (.string ⟨⟨[97, 115, 115, 101, 114, 116]⟩⟩))), (5, 1, (.const (.string ⟨⟨[109, 97, 116, 99, 104]⟩⟩))), (6, 1, (.const (.string ⟨⟨[102, 97, 105, 108]⟩⟩)))]),
 qM 6 21] none
def f29r7 : ICode := .region [
 qO 7 (.move (.const (.slice none 0 0)))] none
def f29r8 : ICode := .region [
 qO 22 (.fieldAddr 0 (.tmp 5)),
 qO 23 (.load1 (.tmp 22))] none
def f29r9 : ICode := .region [
 qO 25 (.bin .eql (.tmp 23) (qK 0)),
 qM 24 25] none
def f29r10 : ICode := .region [
 qO 26 (.fieldAddr 3 (.tmp 5)),
 qO 27 (.fieldAddr 0 (.tmp 26)),
 qO 28 (.load1 (.tmp 27)),
 qO 29 (.fieldAddr 3 (.tmp 5)),
 qO 30 (.fieldAddr 1 (.tmp 29)),
 qO 31 (.load1 (.tmp 30)),
 qO 32 (.fieldAddr 1 (.tmp 5)),
 qO 33 (.load1 (.tmp 32)),
 qO 34 (.buildSlice 3 3 [qZ, qZ, qZ] [(0, 1, (.tmp 28)), (1, 1, (.tmp 31)), (2, 1, (.tmp 33))]),
 qM 7 34] none
def f29r11 : ICode := .region [
 qO 36 (.bin .eql (.tmp 23) (qK 1)),
 qM 35 36] none
def f29r12 : ICode := .region [
 qO 37 (.fieldAddr 1 (.tmp 5)),
 qO 38 (.load1 (.tmp 37)),
 qO 39 (.fieldAddr 2 (.tmp 5)),
 qO 40 (.load1 (.tmp 39)),
 qO 41 (.buildSlice 3 2 [qZ, qZ] [(0, 1, (.tmp 38)), (1, 1, (.tmp 40))]),
 qM 7 41] none
def f29r13 : ICode := .region [
 qO 43 (.bin .eql (.tmp 23) (qK 2)),
 qM 42 43] none
def f29r14 : ICode := .region [
 qO 44 (.fieldAddr 1 (.tmp 5)),
 qO 45 (.load1 (.tmp 44)),
 qO 46 (.buildSlice 3 1 [qZ] [(0, 1, (.tmp 45))]),
 qM 7 46] none
def f29r15 : ICode := .region [
 qO 48 (.bin .eql (.tmp 23) (qK 3)),
 qM 47 48] none
def f29r16 : ICode := .region [
 qO 49 (.bin .eql (.tmp 23) (qK 4)),
 qM 47 49] none
def f29r17 : ICode := .region [
 qO 50 (.fieldAddr 2 (.tmp 5)),
 qO 51 (.load1 (.tmp 50)),
 qO 52 (.fieldAddr 1 (.tmp 5)),
 qO 53 (.load1 (.tmp 52)),
 qO 54 (.buildSlice 3 2 [qZ, qZ] [(0, 1, (.tmp 51)), (1, 1, (.tmp 53))]),
 qM 7 54] none
def f29r18 : ICode := .region [
 qO 55 (.fieldAddr 0 (.tmp 5)),
 qO 56 (.load1 (.tmp 55)),
 qO 57 (.bin .geq (.tmp 56) (qK 0)),
 qM 58 57,
  ⟨(some 59), .fieldAddr 0 (.tmp 5), (some ((some 58), true))⟩,
  ⟨(some 60), .load1 (.tmp 59), (some ((some 58), true))⟩,
  ⟨(some 61), .move (.tmp 6), (some ((some 58), true))⟩,
  ⟨(some 62), .len 1 (.tmp 61), (some ((some 58), true))⟩,
  ⟨(some 63), .bin .lss (.tmp 60) (.tmp 62), (some ((some 58), true))⟩,
 qO 64 (.pick (.tmp 58) (.tmp 63) (.const (.bool false)))] none
def f29r19 : ICode := .region [
 qM 65 6,
 qO 66 (.fieldAddr 0 (.tmp 5)),
 qO 67 (.load1 (.tmp 66)),
 qO 68 (.indexSl 1 (.tmp 65) (.tmp 67)),
 qO 69 (.load1 (.tmp 68)),
 qO 70 (.bin .add (.const (.string ⟨⟨[32]⟩⟩)) (.tmp 69)),
 qO 71 (.call 48 [(.tmp 3), (.tmp 70)])] none
def f29r20 : ICode := .region [
 qM 72 7,
 qO 73 (.len 1 (.tmp 72)),
 qO 74 (.move (qK 0))] none
def f29r21 : ICode := .region [
 qO 75 (.bin .lss (.tmp 74) (.tmp 73))] none
def f29r22 : ICode := .region [
 qO 76 (.indexSl 1 (.tmp 72) (.tmp 74)),
 qO 77 (.load1 (.tmp 76)),
 qM 9 77] none
def f29r23 : ICode := .region [
 qM 78 9,
 qO 79 (.call 49 [(.tmp 78)]),
 qO 80 (.bin .add (.const (.string ⟨⟨[32]⟩⟩)) (.tmp 79)),
 qO 81 (.call 48 [(.tmp 3), (.tmp 80)])] none
def f29r24 : ICode := .region [
 qO 82 (.bin .add (.tmp 74) (qK 1)),
 qM 74 82] none
def f29r25 : ICode := .region [
 qO 83 (.call 50 [(.tmp 3), (.const (.int .u8 (.ofNat 10)))])] none
def f29r26 : ICode := .region [
 qO 84 (.bin .add (.tmp 13) (qK 1)),
 qM 13 84] none
def f29r27 : ICode := .region [
 qO 85 (.call 51 [(.tmp 3)]),
 qM 2 85] none
/- (ferret/prog.Program).Text -/
def f29 : IFn := ⟨86, [.inl 2], (.seq f29r0 (.seq f29r1 (.seq (.seq f29r2 (.block 0 (.loop (.seq f29r3 (.seq (.cond (.tmp 14) .skip (.exit 0)) (.seq (.block 1 (.seq f29r4 (.seq f29r5 (.seq f29r6 (.seq f29r7 (.seq (.seq f29r8 (.block 2 (.seq f29r9 (.cond (.tmp 24) f29r10 (.seq f29r11 (.cond (.tmp 35) f29r12 (.seq f29r13 (.cond (.tmp 42) f29r14 (.seq (.seq f29r15 (.cond (.tmp 47) .skip f29r16)) (.cond (.tmp 47) f29r17 .skip)))))))))) (.seq (.seq f29r18 (.cond (.tmp 64) f29r19 .skip)) (.seq (.seq f29r20 (.block 3 (.loop (.seq f29r21 (.seq (.cond (.tmp 75) .skip (.exit 3)) (.seq (.block 4 (.seq f29r22 f29r23)) f29r24)))))) f29r25)))))))) f29r26)))))) (.seq f29r27 .ret))))⟩
def f19r0 : ICode := .region [
 qO 6 (.new [qZ, (.slice none 0 0), (.slice none 0 0), qZ] 62),
 qO 7 (.new [qZ, qZ] 34)] none
def f19r1 : ICode := .region [
 qM 14 1,
 qO 15 (.bin .lss (.tmp 14) (qK 0)),
 qM 16 15,
  ⟨(some 17), .move (.tmp 1), (some ((some 16), false))⟩,
  ⟨(some 18), .bin .gtr (.tmp 17) (qK 4), (some ((some 16), false))⟩,
 qO 19 (.pick (.tmp 16) (.const (.bool true)) (.tmp 18))] none
def f19r2 : ICode := .region [
 qO 20 (.build [qZ, (.slice none 0 0), (.slice none 0 0), qZ] []),
 qO 21 (.build [qZ, qZ] [(0, 1, (qK 1))]),
  ⟨none, .store 4 (.tmp 6) (.tmp 20), none⟩,
  ⟨none, .store 2 (.tmp 7) (.tmp 21), none⟩] none
def f19r3 : ICode := .region [
 qM 22 1,
 qO 23 (.build [qZ, (.slice none 0 0), (.slice none 0 0), qZ] [(0, 1, (.tmp 22))]),
 qO 8 (.new [qZ, (.slice none 0 0), (.slice none 0 0), qZ] 62),
  ⟨none, .store 4 (.tmp 8) (.tmp 23), none⟩] none
def f19r4 : ICode := .region [
 qM 24 1,
 qO 25 (.bin .eql (.tmp 24) (qK 0))] none
def f19r5 : ICode := .region [
 qM 27 0,
 qO 28 (.call 35 [(.tmp 27)]),
 qM 26 28,
 qO 29 (.extract (.tmp 26) 0),
 qO 30 (.extract (.tmp 26) 1),
 qO 31 (.fieldAddr 0 (.tmp 8)),
  ⟨none, .store 1 (.tmp 31) (.tmp 29), none⟩] none
def f19r6 : ICode := .region [
 qO 9 (.move (qK 0))] none
def f19r7 : ICode := .region [
 qO 32 (.fieldAddr 0 (.tmp 8)),
 qO 33 (.load1 (.tmp 32)),
 qO 34 (.call 30 [(.tmp 33)]),
 qM 10 34] none
def f19r8 : ICode := .region [
 qM 35 0,
 qM 36 10,
 qO 37 (.call 36 [(.tmp 35), (.tmp 36)])] none
def f19r9 : ICode := .region [
 qM 38 10,
 qO 39 (.len 0 (.tmp 38)),
 qM 9 39] none
def f19r10 : ICode := .region [
 qO 40 (.fieldAddr 0 (.tmp 8)),
 qO 41 (.load1 (.tmp 40)),
 qO 42 (.call 37 [(.tmp 41)]),
 qM 11 42] none
def f19r11 : ICode := .region [
 qM 43 9,
 qM 44 0,
 qO 45 (.len 0 (.tmp 44)),
 qO 46 (.bin .lss (.tmp 43) (.tmp 45))] none
def f19r12 : ICode := .region [
 qM 48 11,
 qM 49 0,
 qM 50 9,
 qO 51 (.sliceStr (.tmp 49) (some (.tmp 50)) none),
 qO 52 (.callv (.tmp 48) [(.tmp 51)]),
 qM 47 52,
 qO 53 (.extract (.tmp 47) 0),
 qO 54 (.extract (.tmp 47) 1),
 qM 12 53,
 qM 13 54] none
def f19r13 : ICode := .region [
 qM 55 12,
 qO 56 (.bin .lss (.tmp 55) (qK 0))] none
def f19r14 : ICode := .region [
 qM 57 2] none
def f19r15 : ICode := .region [
 qO 58 (.build [qZ, (.slice none 0 0), (.slice none 0 0), qZ] []),
 qM 59 9,
 qO 60 (.build [qZ, qZ] [(0, 1, (qK 17)), (1, 1, (.tmp 59))]),
  ⟨none, .store 4 (.tmp 6) (.tmp 58), none⟩,
  ⟨none, .store 2 (.tmp 7) (.tmp 60), none⟩] none
def f19r16 : ICode := .region [
 qO 12 (.move (qK 65533))] none
def f19r17 : ICode := .region [
 qO 61 (.fieldAddr 3 (.tmp 8)),
 qO 62 (.load1 (.tmp 61)),
 qO 63 (.bin .add (.tmp 62) (qK 1)),
 qO 64 (.fieldAddr 3 (.tmp 8)),
  ⟨none, .store 1 (.tmp 64) (.tmp 63), none⟩] none
def f19r18 : ICode := .region [
 qO 65 (.fieldAddr 1 (.tmp 8)),
 qO 66 (.load1 (.tmp 65)),
 qM 67 12,
 qO 68 (.buildSlice 3 1 [qZ] [(0, 1, (.tmp 67))]),
 qO 69 (.append 3 1 8 (.tmp 66) (.tmp 68)),
 qO 70 (.fieldAddr 2 (.tmp 8)),
 qO 71 (.load1 (.tmp 70)),
 qM 72 9,
 qO 73 (.buildSlice 3 1 [qZ] [(0, 1, (.tmp 72))]),
 qO 74 (.append 3 1 8 (.tmp 71) (.tmp 73)),
 qO 75 (.fieldAddr 1 (.tmp 8)),
  ⟨none, .store 1 (.tmp 75) (.tmp 69), none⟩,
 qO 76 (.fieldAddr 2 (.tmp 8)),
  ⟨none, .store 1 (.tmp 76) (.tmp 74), none⟩] (some ⟨[(6, [3])], [(6, 4)]⟩)
def f19r19 : ICode := .region [
 qM 77 9,
 qM 78 13,
 qO 79 (.bin .add (.tmp 77) (.tmp 78)),
 qM 9 79] none
def f19r20 : ICode := .region [
 qO 80 (.fieldAddr 2 (.tmp 8)),
 qO 81 (.load1 (.tmp 80)),
 qM 82 0,
 qO 83 (.len 0 (.tmp 82)),
 qO 84 (.buildSlice 3 1 [qZ] [(0, 1, (.tmp 83))]),
 qO 85 (.append 3 1 8 (.tmp 81) (.tmp 84)),
 qO 86 (.fieldAddr 2 (.tmp 8)),
  ⟨none, .store 1 (.tmp 86) (.tmp 85), none⟩] none
def f19r21 : ICode := .region [
 qO 87 (.loadN 4 (.tmp 8)),
 qO 88 (.build [qZ, qZ] []),
  ⟨none, .store 4 (.tmp 6) (.tmp 87), none⟩,
  ⟨none, .store 2 (.tmp 7) (.tmp 88), none⟩] none
/- ferret/coding.Decode -/
def f19 : IFn := ⟨89, [.inr (6, (some 4)), .inr (7, (some 2))], (.seq f19r0 (.seq (.seq f19r1 (.cond (.tmp 19) (.seq f19r2 .ret) .skip)) (.seq f19r3 (.seq (.seq f19r4 (.cond (.tmp 25) f19r5 .skip)) (.seq f19r6 (.seq (.seq f19r7 (.seq f19r8 (.cond (.tmp 37) f19r9 .skip))) (.seq f19r10 (.seq (.block 0 (.loop (.seq (.seq f19r11 (.cond (.tmp 46) .skip (.exit 0))) (.block 1 (.seq f19r12 (.seq (.seq f19r13 (.cond (.tmp 56) (.seq (.seq f19r14 (.cond (.tmp 57) (.seq f19r15 .ret) .skip)) (.seq f19r16 f19r17)) .skip)) (.seq f19r18 f19r19))))))) (.seq f19r20 (.seq f19r21 .ret))))))))))⟩
def f21r0 : ICode := .region [
 qO 2 (.new [qZ, (.slice none 0 0), (.bool false), qZ, qZ, (.bool false), qZ, (.string ⟨⟨[]⟩⟩), (.slice none 0 0)] 28)] none
def f21r1 : ICode := .region [
 qO 3 (.move (.const (.slice none 0 0)))] none
def f21r2 : ICode := .region [
 qM 4 3,
 qM 5 0,
 qO 6 (.call 38 [(.tmp 5)]),
 qO 7 (.buildSlice 28 1 [qZ, (.slice none 0 0), (.bool false), qZ, qZ, (.bool false), qZ, (.string ⟨⟨[]⟩⟩), (.slice none 0 0)] [(0, 9, (.tmp 6))]),
 qO 8 (.append 28 9 112 (.tmp 4) (.tmp 7)),
 qM 3 8] none
def f21r3 : ICode := .region [
 qM 9 0,
 qO 10 (.call 39 [(.tmp 9), (.const (.string ⟨⟨[124]⟩⟩))]),
 qO 11 (.un .not (.tmp 10))] none
def f21r4 : ICode := .region [
 qM 12 3,
 qO 13 (.call 40 [(qK 9), (.tmp 12)]),
  ⟨none, .store 9 (.tmp 2) (.tmp 13), none⟩] none
/- (*ferret/syn.parser).alternatives -/
def f21 : IFn := ⟨14, [.inr (2, (some 9))], (.seq f21r0 (.seq f21r1 (.seq (.block 0 (.loop (.block 1 (.seq f21r2 (.seq f21r3 (.cond (.tmp 11) (.exit 0) .skip)))))) (.seq f21r4 .ret))))⟩
def f22r0 : ICode := .region [
 qO 1 (.box 28 (.tmp 0)),
 qO 2 (.new [qZ, (.slice none 0 0), (.bool false), qZ, qZ, (.bool false), qZ, (.string ⟨⟨[]⟩⟩), (.slice none 0 0)] 28),
 qO 3 (.move (qK 0))] none
def f22r1 : ICode := .region [
 qO 4 (.loadN 9 (.tmp 1)),
 qO 5 (.call 41 [(.tmp 4)]),
 qO 6 (.bin .gtr (.tmp 5) (qK 8192))] none
def f22r2 : ICode := .region [
 qO 7 (.build [qZ, (.slice none 0 0), (.bool false), qZ, qZ, (.bool false), qZ, (.string ⟨⟨[]⟩⟩), (.slice none 0 0)] []),
  ⟨none, .store 9 (.tmp 2) (.tmp 7), none⟩,
 qO 3 (.move (qK 26))] none
def f22r3 : ICode := .region [
 qO 8 (.loadN 9 (.tmp 1)),
 qO 9 (.call 42 [(.tmp 8)]),
  ⟨none, .store 9 (.tmp 2) (.tmp 9), none⟩,
 qO 3 (.move (qK 0))] none
/- ferret/simple.Simplify -/
def f22 : IFn := ⟨10, [.inr (2, (some 9)), .inl 3], (.seq f22r0 (.seq (.seq f22r1 (.cond (.tmp 6) (.seq f22r2 .ret) .skip)) (.seq f22r3 .ret)))⟩
def f23r0 : ICode := .region [
 qO 3 (.box 55 (.tmp 1)),
 qO 4 (.move (qK 0))] none
def f23r1 : ICode := .region [
 qM 5 0,
 qM 6 0,
 qO 7 (.nilCheck (.tmp 6)),
 qO 8 (.fieldAddr 1 (.tmp 7)),
 qO 9 (.load1 (.tmp 8)),
 qM 10 9,
  ⟨(some 11), .move (.tmp 0), (some ((some 10), false))⟩,
  ⟨(some 12), .nilCheck (.tmp 11), (some ((some 10), false))⟩,
  ⟨(some 13), .fieldAddr 0 (.tmp 12), (some ((some 10), false))⟩,
  ⟨(some 14), .load1 (.tmp 13), (some ((some 10), false))⟩,
  ⟨(some 15), .len 1 (.tmp 14), (some ((some 10), false))⟩,
  ⟨(some 16), .bin .geq (.tmp 15) (qK 8192), (some ((some 10), false))⟩,
 qO 17 (.pick (.tmp 10) (.const (.bool true)) (.tmp 16)),
 qO 18 (.nilCheck (.tmp 5)),
 qO 19 (.fieldAddr 1 (.tmp 18)),
  ⟨none, .store 1 (.tmp 19) (.tmp 17), none⟩] none
def f23r2 : ICode := .region [
 qM 20 0,
 qO 21 (.nilCheck (.tmp 20)),
 qO 22 (.fieldAddr 1 (.tmp 21)),
 qO 23 (.load1 (.tmp 22))] none
def f23r3 : ICode := .region [
 qM 24 0,
 qM 25 0,
 qO 26 (.nilCheck (.tmp 25)),
 qO 27 (.fieldAddr 0 (.tmp 26)),
 qO 28 (.load1 (.tmp 27)),
 qO 29 (.sliceSl 5 (.tmp 28) none (some (qK 0))),
 qO 30 (.nilCheck (.tmp 24)),
 qO 31 (.fieldAddr 0 (.tmp 30)),
  ⟨none, .store 1 (.tmp 31) (.tmp 29), none⟩] none
def f23r4 : ICode := .region [
 qM 32 0,
 qO 33 (.nilCheck (.tmp 32)),
 qO 34 (.fieldAddr 0 (.tmp 33)),
 qO 35 (.load1 (.tmp 34)),
 qO 36 (.len 1 (.tmp 35)),
 qO 37 (.bin .add (.tmp 36) (qK 1)),
 qO 38 (.fieldAddr 1 (.tmp 3)),
  ⟨none, .store 1 (.tmp 38) (.tmp 37), none⟩] none
def f23r5 : ICode := .region [
 qM 39 0,
 qM 40 0,
 qO 41 (.nilCheck (.tmp 40)),
 qO 42 (.fieldAddr 0 (.tmp 41)),
 qO 43 (.load1 (.tmp 42)),
 qO 44 (.loadN 5 (.tmp 3)),
 qO 45 (.buildSlice 55 1 [qZ, qZ, qZ, qZ, qZ] [(0, 5, (.tmp 44))]),
 qO 46 (.append 55 5 40 (.tmp 43) (.tmp 45)),
 qO 47 (.nilCheck (.tmp 39)),
 qO 48 (.fieldAddr 0 (.tmp 47)),
  ⟨none, .store 1 (.tmp 48) (.tmp 46), none⟩] (some ⟨[], []⟩)
def f23r6 : ICode := .region [
 qM 49 0,
 qO 50 (.nilCheck (.tmp 49)),
 qO 51 (.fieldAddr 0 (.tmp 50)),
 qO 52 (.load1 (.tmp 51)),
 qO 53 (.len 1 (.tmp 52)),
 qO 54 (.bin .sub (.tmp 53) (qK 1)),
 qM 4 54] none
/- (*ferret/prog.compiler).put -/
def f23 : IFn := ⟨55, [.inl 4], (.seq f23r0 (.seq (.seq f23r1 (.seq f23r2 (.cond (.tmp 23) f23r3 .skip))) (.seq f23r4 (.seq f23r5 (.seq f23r6 .ret)))))⟩
def f24r0 : ICode := .region [
 qO 2 (.box 73 (.tmp 0)),
 qO 3 (.box 28 (.tmp 1))] none
def f24r1 : ICode := .region [
 qO 6 (.load1 (.tmp 2)),
 qO 7 (.nilCheck (.tmp 6)),
 qO 8 (.fieldAddr 1 (.tmp 7)),
 qO 9 (.load1 (.tmp 8))] none
def f24r2 : ICode := .region [
 qO 10 (.fieldAddr 0 (.tmp 3)),
 qO 11 (.load1 (.tmp 10))] none
def f24r3 : ICode := .region [
 qO 18 (.bin .eql (.tmp 11) (qK 0)),
 qM 17 18] none
def f24r4 : ICode := .region [
 qO 20 (.bin .eql (.tmp 11) (qK 1)),
 qM 19 20] none
def f24r5 : ICode := .region [
 qO 21 (.load1 (.tmp 2)),
 qO 22 (.loadN 9 (.tmp 3)),
 qO 23 (.call 43 [(.tmp 21), (.tmp 22)])] none
def f24r6 : ICode := .region [
 qO 25 (.bin .eql (.tmp 11) (qK 8)),
 qM 24 25] none
def f24r7 : ICode := .region [
 qO 26 (.fieldAddr 8 (.tmp 3)),
 qO 27 (.load1 (.tmp 26)),
 qO 28 (.len 1 (.tmp 27)),
 qO 29 (.move (qK 0))] none
def f24r8 : ICode := .region [
 qO 30 (.bin .lss (.tmp 29) (.tmp 28))] none
def f24r9 : ICode := .region [
 qO 31 (.indexSl 9 (.tmp 27) (.tmp 29)),
 qO 32 (.loadN 9 (.tmp 31)),
 qO 5 (.new [qZ, (.slice none 0 0), (.bool false), qZ, qZ, (.bool false), qZ, (.string ⟨⟨[]⟩⟩), (.slice none 0 0)] 28),
  ⟨none, .store 9 (.tmp 5) (.tmp 32), none⟩] none
def f24r10 : ICode := .region [
 qO 33 (.load1 (.tmp 2)),
 qO 34 (.loadN 9 (.tmp 5)),
 qO 35 (.call 24 [(.tmp 33), (.tmp 34)])] none
def f24r11 : ICode := .region [
 qO 36 (.bin .add (.tmp 29) (qK 1)),
 qM 29 36] none
def f24r12 : ICode := .region [
 qO 38 (.bin .eql (.tmp 11) (qK 9)),
 qM 37 38] none
def f24r13 : ICode := .region [
 qO 39 (.load1 (.tmp 2)),
 qO 40 (.fieldAddr 8 (.tmp 3)),
 qO 41 (.load1 (.tmp 40)),
 qO 42 (.len 1 (.tmp 41)),
 qO 43 (.mkFunc (.func 45) [] [(.tmp 2), (.tmp 3)]),
 qO 44 (.call 44 [(.tmp 39), (.tmp 42), (.tmp 43)])] none
def f24r14 : ICode := .region [
 qO 46 (.bin .eql (.tmp 11) (qK 10)),
 qM 45 46] none
def f24r15 : ICode := .region [
 qO 47 (.load1 (.tmp 2)),
 qO 48 (.loadN 9 (.tmp 3)),
 qO 49 (.call 46 [(.tmp 47), (.tmp 48)])] none
def f24r16 : ICode := .region [
 qO 51 (.bin .eql (.tmp 11) (qK 11)),
 qM 50 51] none
def f24r17 : ICode := .region [
 qO 52 (.load1 (.tmp 2)),
 qO 53 (.fieldAddr 6 (.tmp 3)),
 qO 54 (.load1 (.tmp 53)),
 qO 55 (.bin .mul (qK 2) (.tmp 54)),
 qO 56 (.build [qZ, qZ, qZ, qZ, qZ] [(0, 1, (qK 3)), (2, 1, (.tmp 55))]),
 qO 57 (.call 23 [(.tmp 52), (.tmp 56)])] none
def f24r18 : ICode := .region [
 qO 58 (.load1 (.tmp 2)),
 qO 59 (.fieldAddr 8 (.tmp 3)),
 qO 60 (.load1 (.tmp 59)),
 qO 61 (.indexSl 9 (.tmp 60) (qK 0)),
 qO 62 (.loadN 9 (.tmp 61)),
 qO 63 (.call 24 [(.tmp 58), (.tmp 62)])] (some ⟨[], []⟩)
def f24r19 : ICode := .region [
 qO 64 (.load1 (.tmp 2)),
 qO 65 (.fieldAddr 6 (.tmp 3)),
 qO 66 (.load1 (.tmp 65)),
 qO 67 (.bin .mul (qK 2) (.tmp 66)),
 qO 68 (.bin .add (.tmp 67) (qK 1)),
 qO 69 (.build [qZ, qZ, qZ, qZ, qZ] [(0, 1, (qK 3)), (2, 1, (.tmp 68))]),
 qO 70 (.call 23 [(.tmp 64), (.tmp 69)])] none
def f24r20 : ICode := .region [
 qO 12 (.load1 (.tmp 2)),
 qO 13 (.fieldAddr 0 (.tmp 3)),
 qO 14 (.load1 (.tmp 13)),
 qO 15 (.build [qZ, qZ, qZ, qZ, qZ] [(0, 1, (qK 4)), (2, 1, (.tmp 14))]),
 qO 16 (.call 23 [(.tmp 12), (.tmp 15)])] none
/- (*ferret/prog.compiler).node -/
def f24 : IFn := ⟨71, [], (.seq f24r0 (.seq (.seq f24r1 (.cond (.tmp 9) .ret .skip)) (.seq f24r2 (.block 0 (.seq f24r3 (.cond (.tmp 17) .skip (.seq f24r4 (.cond (.tmp 19) f24r5 (.seq f24r6 (.cond (.tmp 24) (.seq f24r7 (.block 1 (.loop (.seq f24r8 (.seq (.cond (.tmp 30) .skip (.exit 1)) (.seq (.block 2 (.seq f24r9 f24r10)) f24r11)))))) (.seq f24r12 (.cond (.tmp 37) f24r13 (.seq f24r14 (.cond (.tmp 45) f24r15 (.seq f24r16 (.cond (.tmp 50) (.seq f24r17 (.seq f24r18 f24r19)) f24r20))))))))))))))))⟩
def f49r0 : ICode := .region [
 qO 2 (.move (.const (.string ⟨⟨[]⟩⟩)))] none
def f49r1 : ICode := .region [
 qM 3 0,
 qO 4 (.call 74 [(.tmp 3)]),
 qM 2 4] none
/- strconv.Itoa -/
def f49 : IFn := ⟨5, [.inl 2], (.seq f49r0 (.seq f49r1 .ret))⟩
def f48r0 : ICode := .region [
 qO 4 (.move (qK 0)),
 qO 5 (.move (.const .nilIface))] none
def f48r1 : ICode := .region [
 qM 6 0,
 qO 7 (.call 73 [(.tmp 6)])] none
def f48r2 : ICode := .region [
 qM 8 0,
 qM 9 0,
 qO 10 (.nilCheck (.tmp 9)),
 qO 11 (.fieldAddr 1 (.tmp 10)),
 qO 12 (.load1 (.tmp 11)),
 qM 13 1,
 qO 14 (.append 5 1 1 (.tmp 12) (.tmp 13)),
 qO 15 (.nilCheck (.tmp 8)),
 qO 16 (.fieldAddr 1 (.tmp 15)),
  ⟨none, .store 1 (.tmp 16) (.tmp 14), none⟩] none
def f48r3 : ICode := .region [
 qM 17 1,
 qO 18 (.len 0 (.tmp 17)),
 qM 4 18,
 qO 5 (.move (.const .nilIface))] none
/- (*strings.Builder).WriteString -/
def f48 : IFn := ⟨19, [.inl 4, .inl 5], (.seq f48r0 (.seq f48r1 (.seq f48r2 (.seq f48r3 .ret))))⟩
def f50r0 : ICode := .region [
 qO 4 (.move (.const .nilIface))] none
def f50r1 : ICode := .region [
 qM 5 0,
 qO 6 (.call 73 [(.tmp 5)])] none
def f50r2 : ICode := .region [
 qM 7 0,
 qM 8 0,
 qO 9 (.nilCheck (.tmp 8)),
 qO 10 (.fieldAddr 1 (.tmp 9)),
 qO 11 (.load1 (.tmp 10)),
 qM 12 1,
 qO 13 (.buildSlice 5 1 [(.int .u8 (.ofNat 0))] [(0, 1, (.tmp 12))]),
 qO 14 (.append 5 1 1 (.tmp 11) (.tmp 13)),
 qO 15 (.nilCheck (.tmp 7)),
 qO 16 (.fieldAddr 1 (.tmp 15)),
  ⟨none, .store 1 (.tmp 16) (.tmp 14), none⟩] none
def f50r3 : ICode := .region [
 qO 4 (.move (.const .nilIface))] none
/- (*strings.Builder).WriteByte -/
def f50 : IFn := ⟨17, [.inl 4], (.seq f50r0 (.seq f50r1 (.seq f50r2 (.seq f50r3 .ret))))⟩
def f51r0 : ICode := .region [
 qO 2 (.move (.const (.string ⟨⟨[]⟩⟩)))] none
def f51r1 : ICode := .region [
 qM 3 0,
 qO 4 (.nilCheck (.tmp 3)),
 qO 5 (.fieldAddr 1 (.tmp 4)),
 qO 6 (.load1 (.tmp 5)),
 qO 7 (.unsafeData (.tmp 6)),
 qM 8 0,
 qO 9 (.nilCheck (.tmp 8)),
 qO 10 (.fieldAddr 1 (.tmp 9)),
 qO 11 (.load1 (.tmp 10)),
 qO 12 (.len 1 (.tmp 11)),
 qO 13 (.unsafeStr 5 (.tmp 7) (.tmp 12)),
 qM 2 13] (some ⟨[], []⟩)
/- (*strings.Builder).String -/
def f51 : IFn := ⟨14, [.inl 2], (.seq f51r0 (.seq f51r1 .ret))⟩
def f35r0 : ICode := .region [
 qO 2 (.move (qK 0)),
 qO 3 (.move (qK 0))] none
def f35r1 : ICode := .region [
 qO 4 (.move (qK 1))] none
def f35r2 : ICode := .region [
 qM 6 4,
 qO 7 (.bin .leq (.tmp 6) (qK 3))] none
def f35r3 : ICode := .region [
 qM 10 4,
 qO 11 (.call 30 [(.tmp 10)]),
 qM 5 11] none
def f35r4 : ICode := .region [
 qM 12 0,
 qM 13 5,
 qO 14 (.call 36 [(.tmp 12), (.tmp 13)])] none
def f35r5 : ICode := .region [
 qM 15 4,
 qM 16 5,
 qO 17 (.len 0 (.tmp 16)),
 qM 2 15,
 qM 3 17] none
def f35r6 : ICode := .region [
 qM 8 4,
 qO 9 (.bin .add (.tmp 8) (qK 1)),
 qM 4 9] none
def f35r7 : ICode := .region [
 qO 2 (.move (qK 1)),
 qO 3 (.move (qK 0))] none
/- ferret/coding.Sniff -/
def f35 : IFn := ⟨18, [.inl 2, .inl 3], (.seq f35r0 (.seq (.seq f35r1 (.block 0 (.loop (.seq (.seq f35r2 (.cond (.tmp 7) .skip (.exit 0))) (.seq (.block 1 (.seq f35r3 (.seq f35r4 (.cond (.tmp 14) (.seq f35r5 .ret) .skip)))) f35r6))))) (.seq f35r7 .ret)))⟩
def f30r0 : ICode := .region [
 qO 2 (.move (.const (.string ⟨⟨[]⟩⟩)))] none
def f30r1 : ICode := .region [
 qM 3 0] none
def f30r2 : ICode := .region [
 qO 5 (.bin .eql (.tmp 3) (qK 1)),
 qM 4 5] none
def f30r3 : ICode := .region [
 qO 2 (.move (.const (.string ⟨⟨[239, 187, 191]⟩⟩)))] none
def f30r4 : ICode := .region [
 qO 7 (.bin .eql (.tmp 3) (qK 2)),
 qM 6 7] none
def f30r5 : ICode := .region [
 qO 2 (.move (.const (.string ⟨⟨[255, 254]⟩⟩)))] none
def f30r6 : ICode := .region [
 qO 9 (.bin .eql (.tmp 3) (qK 3)),
 qM 8 9] none
def f30r7 : ICode := .region [
 qO 2 (.move (.const (.string ⟨⟨[254, 255]⟩⟩)))] none
def f30r8 : ICode := .region [
 qO 2 (.move (.const (.string ⟨⟨[]⟩⟩)))] none
/- ferret/coding.mark -/
def f30 : IFn := ⟨10, [.inl 2], (.seq f30r0 (.seq (.seq f30r1 (.block 0 (.seq f30r2 (.cond (.tmp 4) (.seq f30r3 .ret) (.seq f30r4 (.cond (.tmp 6) (.seq f30r5 .ret) (.seq f30r6 (.cond (.tmp 8) (.seq f30r7 .ret) .skip)))))))) (.seq f30r8 .ret)))⟩
def f36r0 : ICode := .region [
 qO 4 (.move (.const (.bool false)))] none
def f36r1 : ICode := .region [
 qM 5 0,
 qM 6 1,
 qO 7 (.call 53 [(.tmp 5), (.tmp 6)]),
 qM 4 7] none
/- strings.HasPrefix -/
def f36 : IFn := ⟨8, [.inl 4], (.seq f36r0 (.seq f36r1 .ret))⟩
def f37r0 : ICode := .region [
 qO 2 (.move (.const .nilFunc))] none
def f37r1 : ICode := .region [
 qM 3 0] none
def f37r2 : ICode := .region [
 qO 5 (.bin .eql (.tmp 3) (qK 1)),
 qM 4 5] none
def f37r3 : ICode := .region [
 qO 2 (.move (.func 54))] none
def f37r4 : ICode := .region [
 qO 7 (.bin .eql (.tmp 3) (qK 2)),
 qM 6 7] none
def f37r5 : ICode := .region [
 qO 2 (.move (.func 55))] none
def f37r6 : ICode := .region [
 qO 9 (.bin .eql (.tmp 3) (qK 3)),
 qM 8 9] none
def f37r7 : ICode := .region [
 qO 2 (.move (.func 57))] none
def f37r8 : ICode := .region [
 qO 2 (.move (.func 58))] none
/- ferret/coding.scalarOf -/
def f37 : IFn := ⟨10, [.inl 2], (.seq f37r0 (.seq (.seq f37r1 (.block 0 (.seq f37r2 (.cond (.tmp 4) (.seq f37r3 .ret) (.seq f37r4 (.cond (.tmp 6) (.seq f37r5 .ret) (.seq f37r6 (.cond (.tmp 8) (.seq f37r7 .ret) .skip)))))))) (.seq f37r8 .ret)))⟩
def f38r0 : ICode := .region [
 qO 2 (.new [qZ, (.slice none 0 0), (.bool false), qZ, qZ, (.bool false), qZ, (.string ⟨⟨[]⟩⟩), (.slice none 0 0)] 28)] none
def f38r1 : ICode := .region [
 qO 3 (.move (.const (.slice none 0 0)))] none
def f38r2 : ICode := .region [
 qO 4 (.move (.const (.bool false)))] none
def f38r3 : ICode := .region [
 qM 13 0,
 qO 14 (.nilCheck (.tmp 13)),
 qO 15 (.fieldAddr 4 (.tmp 14)),
 qO 16 (.load1 (.tmp 15)),
 qM 5 16] none
def f38r4 : ICode := .region [
 qM 17 0,
 qO 18 (.call 59 [(.tmp 17), (qK 0)]),
 qM 6 18] none
def f38r5 : ICode := .region [
 qM 19 6] none
def f38r6 : ICode := .region [
 qO 21 (.bin .eql (.tmp 19) (.const (.int .i64 (.negSucc 0)))),
 qM 20 21] none
def f38r7 : ICode := .region [
 qO 22 (.bin .eql (.tmp 19) (qK 124)),
 qM 20 22] none
def f38r8 : ICode := .region [
 qM 23 3,
 qO 24 (.call 40 [(qK 8), (.tmp 23)]),
  ⟨none, .store 9 (.tmp 2) (.tmp 24), none⟩] none
def f38r9 : ICode := .region [
 qO 26 (.bin .eql (.tmp 19) (qK 41)),
 qM 25 26] none
def f38r10 : ICode := .region [
 qM 27 0,
 qO 28 (.nilCheck (.tmp 27)),
 qO 29 (.fieldAddr 5 (.tmp 28)),
 qO 30 (.load1 (.tmp 29)),
 qO 31 (.len 1 (.tmp 30)),
 qO 32 (.bin .eql (.tmp 31) (qK 0))] none
def f38r11 : ICode := .region [
 qM 33 0,
 qM 34 0,
 qO 35 (.nilCheck (.tmp 34)),
 qO 36 (.fieldAddr 4 (.tmp 35)),
 qO 37 (.load1 (.tmp 36)),
 qO 38 (.call 60 [(.tmp 33), (qK 25), (.tmp 37)])] none
def f38r12 : ICode := .region [
 qM 39 3,
 qO 40 (.call 40 [(qK 8), (.tmp 39)]),
  ⟨none, .store 9 (.tmp 2) (.tmp 40), none⟩] none
def f38r13 : ICode := .region [
 qM 42 0,
 qO 43 (.call 61 [(.tmp 42)]),
 qM 41 43,
 qO 44 (.extract (.tmp 41) 0),
 qO 45 (.extract (.tmp 41) 1),
 qO 46 (.extract (.tmp 41) 2),
 qM 7 44,
 qM 8 45,
 qM 9 46] none
def f38r14 : ICode := .region [
 qM 47 9] none
def f38r15 : ICode := .region [
 qM 48 4,
 qO 49 (.un .not (.tmp 48))] none
def f38r16 : ICode := .region [
 qM 50 0,
 qM 51 5,
 qO 52 (.call 60 [(.tmp 50), (qK 23), (.tmp 51)])] none
def f38r17 : ICode := .region [
 qM 53 7,
 qO 54 (.bin .gtr (.tmp 53) (qK 64)),
 qM 55 54,
  ⟨(some 56), .move (.tmp 8), (some ((some 55), false))⟩,
  ⟨(some 57), .bin .gtr (.tmp 56) (qK 64), (some ((some 55), false))⟩,
 qO 58 (.pick (.tmp 55) (.const (.bool true)) (.tmp 57)),
 qM 59 58,
  ⟨(some 60), .move (.tmp 8), (some ((some 59), false))⟩,
  ⟨(some 61), .bin .geq (.tmp 60) (qK 0), (some ((some 59), false))⟩,
  ⟨(some 62), .move (.tmp 61), (some ((some 59), false))⟩,
  ⟨(some 63), .move (.tmp 7), (some ((some 62), true))⟩,
  ⟨(some 64), .move (.tmp 8), (some ((some 62), true))⟩,
  ⟨(some 65), .bin .gtr (.tmp 63) (.tmp 64), (some ((some 62), true))⟩,
  ⟨(some 66), .pick (.tmp 62) (.tmp 65) (.const (.bool false)), (some ((some 59), false))⟩,
 qO 67 (.pick (.tmp 59) (.const (.bool true)) (.tmp 66))] none
def f38r18 : ICode := .region [
 qM 68 0,
 qM 69 5,
 qO 70 (.call 60 [(.tmp 68), (qK 23), (.tmp 69)])] none
def f38r19 : ICode := .region [
 qM 71 3,
 qM 72 3,
 qO 73 (.len 1 (.tmp 72)),
 qO 74 (.bin .sub (.tmp 73) (qK 1)),
 qO 75 (.indexSl 9 (.tmp 71) (.tmp 74)),
 qM 10 75] none
def f38r20 : ICode := .region [
 qM 76 10,
 qM 77 7,
 qM 78 8,
 qM 79 0,
 qO 80 (.call 39 [(.tmp 79), (.const (.string ⟨⟨[63]⟩⟩))]),
 qM 81 0,
 qO 82 (.nilCheck (.tmp 81)),
 qO 83 (.fieldAddr 7 (.tmp 82)),
 qO 84 (.fieldAddr 3 (.tmp 83)),
 qO 85 (.load1 (.tmp 84)),
 qO 86 (.eqB true (.tmp 80) (.tmp 85)),
 qM 87 10,
 qO 88 (.nilCheck (.tmp 87)),
 qO 89 (.loadN 9 (.tmp 88)),
 qO 90 (.buildSlice 28 1 [qZ, (.slice none 0 0), (.bool false), qZ, qZ, (.bool false), qZ, (.string ⟨⟨[]⟩⟩), (.slice none 0 0)] [(0, 9, (.tmp 89))]),
 qO 91 (.build [qZ, (.slice none 0 0), (.bool false), qZ, qZ, (.bool false), qZ, (.string ⟨⟨[]⟩⟩), (.slice none 0 0)] [(0, 1, (qK 10)), (3, 1, (.tmp 77)), (4, 1, (.tmp 78)), (5, 1, (.tmp 86)), (8, 1, (.tmp 90))]),
 qO 92 (.nilCheck (.tmp 76)),
  ⟨none, .store 9 (.tmp 92) (.tmp 91), none⟩] (some ⟨[], [(9, 4), (13, 4)]⟩)
def f38r21 : ICode := .region [
 qO 4 (.move (.const (.bool false)))] none
def f38r22 : ICode := .region [
 qM 94 0,
 qO 95 (.call 62 [(.tmp 94)]),
 qM 93 95,
 qO 96 (.extract (.tmp 93) 0),
 qO 97 (.extract (.tmp 93) 1),
 qO 11 (.new [qZ, (.slice none 0 0), (.bool false), qZ, qZ, (.bool false), qZ, (.string ⟨⟨[]⟩⟩), (.slice none 0 0)] 28),
  ⟨none, .store 9 (.tmp 11) (.tmp 96), none⟩,
 qM 12 97] none
def f38r23 : ICode := .region [
 qM 98 12] none
def f38r24 : ICode := .region [
 qM 99 3,
 qO 100 (.loadN 9 (.tmp 11)),
 qO 101 (.buildSlice 28 1 [qZ, (.slice none 0 0), (.bool false), qZ, qZ, (.bool false), qZ, (.string ⟨⟨[]⟩⟩), (.slice none 0 0)] [(0, 9, (.tmp 100))]),
 qO 102 (.append 28 9 112 (.tmp 99) (.tmp 101)),
 qM 3 102] none
def f38r25 : ICode := .region [
 qM 103 12,
 qM 4 103] none
/- (*ferret/syn.parser).row -/
def f38 : IFn := ⟨104, [.inr (2, (some 9))], (.seq f38r0 (.seq f38r1 (.seq f38r2 (.block 0 (.loop (.block 1 (.seq f38r3 (.seq (.seq f38r4 (.seq f38r5 (.block 2 (.seq (.seq f38r6 (.cond (.tmp 20) .skip f38r7)) (.cond (.tmp 20) (.seq f38r8 .ret) (.seq f38r9 (.cond (.tmp 25) (.seq (.seq f38r10 (.cond (.tmp 32) f38r11 .skip)) (.seq f38r12 .ret)) .skip))))))) (.seq (.seq f38r13 (.seq f38r14 (.cond (.tmp 47) (.seq (.seq f38r15 (.cond (.tmp 49) f38r16 .skip)) (.seq (.seq f38r17 (.cond (.tmp 67) f38r18 .skip)) (.seq f38r19 (.seq f38r20 (.seq f38r21 (.exit 1)))))) .skip))) (.seq f38r22 (.seq (.seq f38r23 (.cond (.tmp 98) f38r24 .skip)) f38r25)))))))))))⟩
def f39r0 : ICode := .region [
 qO 4 (.move (.const (.bool false)))] none
def f39r1 : ICode := .region [
 qM 7 1,
 qO 8 (.strToBytes 5 (.tmp 7)),
 qO 9 (.len 1 (.tmp 8)),
 qO 10 (.move (qK 0))] none
def f39r2 : ICode := .region [
 qO 11 (.bin .lss (.tmp 10) (.tmp 9))] none
def f39r3 : ICode := .region [
 qM 12 10,
 qO 13 (.indexSl 1 (.tmp 8) (.tmp 10)),
 qO 14 (.load1 (.tmp 13)),
 qM 5 12,
 qM 6 14] none
def f39r4 : ICode := .region [
 qM 15 0,
 qM 16 5,
 qO 17 (.call 59 [(.tmp 15), (.tmp 16)]),
 qM 18 6,
 qO 19 (.conv .i64 (.tmp 18)),
 qO 20 (.bin .neq (.tmp 17) (.tmp 19))] none
def f39r5 : ICode := .region [
 qO 4 (.move (.const (.bool false)))] none
def f39r6 : ICode := .region [
 qO 21 (.bin .add (.tmp 10) (qK 1)),
 qM 10 21] none
def f39r7 : ICode := .region [
 qM 22 0,
 qO 23 (.nilCheck (.tmp 22)),
 qO 24 (.fieldAddr 4 (.tmp 23)),
 qO 25 (.load1 (.tmp 24)),
 qM 26 1,
 qO 27 (.len 0 (.tmp 26)),
 qO 28 (.bin .add (.tmp 25) (.tmp 27)),
 qO 29 (.nilCheck (.tmp 22)),
 qO 30 (.fieldAddr 4 (.tmp 29)),
  ⟨none, .store 1 (.tmp 30) (.tmp 28), none⟩] none
def f39r8 : ICode := .region [
 qO 4 (.move (.const (.bool true)))] none
/- (*ferret/syn.parser).has -/
def f39 : IFn := ⟨31, [.inl 4], (.seq f39r0 (.seq (.seq f39r1 (.block 0 (.loop (.seq f39r2 (.seq (.cond (.tmp 11) .skip (.exit 0)) (.seq (.block 1 (.seq f39r3 (.seq f39r4 (.cond (.tmp 20) (.seq f39r5 .ret) .skip)))) f39r6)))))) (.seq f39r7 (.seq f39r8 .ret))))⟩
def f40r0 : ICode := .region [
 qO 4 (.new [qZ, (.slice none 0 0), (.bool false), qZ, qZ, (.bool false), qZ, (.string ⟨⟨[]⟩⟩), (.slice none 0 0)] 28)] none
def f40r1 : ICode := .region [
 qM 6 1,
 qO 7 (.len 1 (.tmp 6)),
 qO 8 (.bin .eql (.tmp 7) (qK 1)),
 qM 5 8] none
def f40r2 : ICode := .region [
 qM 9 1,
 qO 10 (.indexSl 9 (.tmp 9) (qK 0)),
 qO 11 (.loadN 9 (.tmp 10)),
  ⟨none, .store 9 (.tmp 4) (.tmp 11), none⟩] none
def f40r3 : ICode := .region [
 qM 13 1,
 qO 14 (.len 1 (.tmp 13)),
 qO 15 (.bin .eql (.tmp 14) (qK 0)),
 qM 12 15] none
def f40r4 : ICode := .region [
 qO 16 (.build [qZ, (.slice none 0 0), (.bool false), qZ, qZ, (.bool false), qZ, (.string ⟨⟨[]⟩⟩), (.slice none 0 0)] []),
  ⟨none, .store 9 (.tmp 4) (.tmp 16), none⟩] none
def f40r5 : ICode := .region [
 qM 17 0,
 qM 18 1,
 qO 19 (.build [qZ, (.slice none 0 0), (.bool false), qZ, qZ, (.bool false), qZ, (.string ⟨⟨[]⟩⟩), (.slice none 0 0)] [(0, 1, (.tmp 17)), (8, 1, (.tmp 18))]),
  ⟨none, .store 9 (.tmp 4) (.tmp 19), none⟩] none
/- ferret/syn.whole -/
def f40 : IFn := ⟨20, [.inr (4, (some 9))], (.seq f40r0 (.seq (.block 0 (.seq f40r1 (.cond (.tmp 5) (.seq f40r2 .ret) (.seq f40r3 (.cond (.tmp 12) (.seq f40r4 .ret) .skip))))) (.seq f40r5 .ret)))⟩
def f41r0 : ICode := .region [
 qO 1 (.box 28 (.tmp 0)),
 qO 2 (.move (qK 0))] none
def f41r1 : ICode := .region [
 qO 8 (.fieldAddr 0 (.tmp 1)),
 qO 9 (.load1 (.tmp 8))] none
def f41r2 : ICode := .region [
 qO 11 (.bin .eql (.tmp 9) (qK 8)),
 qM 10 11] none
def f41r3 : ICode := .region [
 qO 12 (.bin .eql (.tmp 9) (qK 9)),
 qM 10 12] none
def f41r4 : ICode := .region [
 qO 3 (.move (qK 1))] none
def f41r5 : ICode := .region [
 qO 13 (.fieldAddr 8 (.tmp 1)),
 qO 14 (.load1 (.tmp 13)),
 qO 15 (.len 1 (.tmp 14)),
 qO 16 (.move (qK 0))] none
def f41r6 : ICode := .region [
 qO 17 (.bin .lss (.tmp 16) (.tmp 15))] none
def f41r7 : ICode := .region [
 qO 18 (.indexSl 9 (.tmp 14) (.tmp 16)),
 qO 19 (.loadN 9 (.tmp 18)),
 qO 5 (.new [qZ, (.slice none 0 0), (.bool false), qZ, qZ, (.bool false), qZ, (.string ⟨⟨[]⟩⟩), (.slice none 0 0)] 28),
  ⟨none, .store 9 (.tmp 5) (.tmp 19), none⟩] none
def f41r8 : ICode := .region [
 qM 20 3,
 qO 21 (.loadN 9 (.tmp 5)),
 qO 22 (.call 41 [(.tmp 21)]),
 qO 23 (.bin .add (.tmp 20) (.tmp 22)),
 qO 24 (.call 63 [(.tmp 23)]),
 qM 3 24] none
def f41r9 : ICode := .region [
 qO 25 (.bin .add (.tmp 16) (qK 1)),
 qM 16 25] none
def f41r10 : ICode := .region [
 qM 26 3,
 qM 2 26] none
def f41r11 : ICode := .region [
 qO 28 (.bin .eql (.tmp 9) (qK 11)),
 qM 27 28] none
def f41r12 : ICode := .region [
 qO 29 (.loadN 9 (.tmp 1)),
 qO 30 (.call 64 [(.tmp 29)]),
 qO 31 (.call 41 [(.tmp 30)]),
 qO 32 (.bin .add (qK 1) (.tmp 31)),
 qO 33 (.call 63 [(.tmp 32)]),
 qM 2 33] none
def f41r13 : ICode := .region [
 qO 35 (.bin .eql (.tmp 9) (qK 10)),
 qM 34 35] none
def f41r14 : ICode := .region [
 qO 36 (.loadN 9 (.tmp 1)),
 qO 37 (.call 64 [(.tmp 36)]),
 qO 38 (.call 41 [(.tmp 37)]),
 qM 6 38] none
def f41r15 : ICode := .region [
 qO 39 (.fieldAddr 3 (.tmp 1)),
 qO 40 (.load1 (.tmp 39)),
 qM 41 6,
 qO 42 (.bin .mul (.tmp 40) (.tmp 41)),
 qM 7 42] none
def f41r16 : ICode := .region [
 qO 43 (.fieldAddr 4 (.tmp 1)),
 qO 44 (.load1 (.tmp 43)),
 qO 45 (.bin .eql (.tmp 44) (.const (.int .i64 (.negSucc 0))))] none
def f41r17 : ICode := .region [
 qM 46 7,
 qM 47 6,
 qO 48 (.bin .add (qK 1) (.tmp 47)),
 qO 49 (.bin .add (.tmp 46) (.tmp 48)),
 qM 7 49] none
def f41r18 : ICode := .region [
 qM 50 7,
 qO 51 (.fieldAddr 4 (.tmp 1)),
 qO 52 (.load1 (.tmp 51)),
 qO 53 (.fieldAddr 3 (.tmp 1)),
 qO 54 (.load1 (.tmp 53)),
 qO 55 (.bin .sub (.tmp 52) (.tmp 54)),
 qM 56 6,
 qO 57 (.bin .add (.tmp 56) (qK 2)),
 qO 58 (.bin .mul (.tmp 55) (.tmp 57)),
 qO 59 (.bin .add (.tmp 50) (.tmp 58)),
 qM 7 59] none
def f41r19 : ICode := .region [
 qM 60 7,
 qO 61 (.bin .add (.tmp 60) (qK 1)),
 qO 62 (.call 63 [(.tmp 61)]),
 qM 2 62] none
def f41r20 : ICode := .region [
 qO 2 (.move (qK 1))] none
/- ferret/simple.Count -/
def f41 : IFn := ⟨63, [.inl 2], (.seq f41r0 (.seq (.seq f41r1 (.block 0 (.seq (.seq f41r2 (.cond (.tmp 10) .skip f41r3)) (.cond (.tmp 10) (.seq f41r4 (.seq (.seq f41r5 (.block 1 (.loop (.seq f41r6 (.seq (.cond (.tmp 17) .skip (.exit 1)) (.seq (.block 2 (.seq f41r7 f41r8)) f41r9)))))) (.seq f41r10 .ret))) (.seq f41r11 (.cond (.tmp 27) (.seq f41r12 .ret) (.seq f41r13 (.cond (.tmp 34) (.seq f41r14 (.seq f41r15 (.seq (.seq f41r16 (.cond (.tmp 45) f41r17 f41r18)) (.seq f41r19 .ret)))) .skip)))))))) (.seq f41r20 .ret)))⟩
def f42r0 : ICode := .region [
 qO 1 (.box 28 (.tmp 0)),
 qO 2 (.new [qZ, (.slice none 0 0), (.bool false), qZ, qZ, (.bool false), qZ, (.string ⟨⟨[]⟩⟩), (.slice none 0 0)] 28)] none
def f42r1 : ICode := .region [
 qO 6 (.fieldAddr 0 (.tmp 1)),
 qO 7 (.load1 (.tmp 6)),
 qO 8 (.bin .eql (.tmp 7) (qK 10)),
 qM 9 8,
  ⟨(some 10), .fieldAddr 3 (.tmp 1), (some ((some 9), true))⟩,
  ⟨(some 11), .load1 (.tmp 10), (some ((some 9), true))⟩,
  ⟨(some 12), .bin .eql (.tmp 11) (qK 0), (some ((some 9), true))⟩,
 qO 13 (.pick (.tmp 9) (.tmp 12) (.const (.bool false))),
 qM 14 13,
  ⟨(some 15), .fieldAddr 4 (.tmp 1), (some ((some 14), true))⟩,
  ⟨(some 16), .load1 (.tmp 15), (some ((some 14), true))⟩,
  ⟨(some 17), .bin .eql (.tmp 16) (qK 0), (some ((some 14), true))⟩,
 qO 18 (.pick (.tmp 14) (.tmp 17) (.const (.bool false)))] none
def f42r2 : ICode := .region [
 qO 19 (.build [qZ, (.slice none 0 0), (.bool false), qZ, qZ, (.bool false), qZ, (.string ⟨⟨[]⟩⟩), (.slice none 0 0)] []),
  ⟨none, .store 9 (.tmp 2) (.tmp 19), none⟩] none
def f42r3 : ICode := .region [
 qO 3 (.move (.const (.slice none 0 0)))] none
def f42r4 : ICode := .region [
 qO 20 (.fieldAddr 8 (.tmp 1)),
 qO 21 (.load1 (.tmp 20)),
 qO 22 (.len 1 (.tmp 21)),
 qO 23 (.move (qK 0))] none
def f42r5 : ICode := .region [
 qO 24 (.bin .lss (.tmp 23) (.tmp 22))] none
def f42r6 : ICode := .region [
 qO 25 (.indexSl 9 (.tmp 21) (.tmp 23)),
 qO 26 (.loadN 9 (.tmp 25)),
 qO 5 (.new [qZ, (.slice none 0 0), (.bool false), qZ, qZ, (.bool false), qZ, (.string ⟨⟨[]⟩⟩), (.slice none 0 0)] 28),
  ⟨none, .store 9 (.tmp 5) (.tmp 26), none⟩] none
def f42r7 : ICode := .region [
 qM 27 3,
 qO 28 (.loadN 9 (.tmp 5)),
 qO 29 (.call 42 [(.tmp 28)]),
 qO 30 (.buildSlice 28 1 [qZ, (.slice none 0 0), (.bool false), qZ, qZ, (.bool false), qZ, (.string ⟨⟨[]⟩⟩), (.slice none 0 0)] [(0, 9, (.tmp 29))]),
 qO 31 (.append 28 9 112 (.tmp 27) (.tmp 30)),
 qM 3 31] none
def f42r8 : ICode := .region [
 qO 32 (.bin .add (.tmp 23) (qK 1)),
 qM 23 32] none
def f42r9 : ICode := .region [
 qO 33 (.fieldAddr 0 (.tmp 1)),
 qO 34 (.load1 (.tmp 33))] none
def f42r10 : ICode := .region [
 qO 36 (.bin .eql (.tmp 34) (qK 1)),
 qM 35 36] none
def f42r11 : ICode := .region [
 qO 37 (.fieldAddr 2 (.tmp 1)),
 qO 38 (.load1 (.tmp 37))] none
def f42r12 : ICode := .region [
 qO 39 (.fieldAddr 1 (.tmp 1)),
 qO 40 (.load1 (.tmp 39)),
 qO 41 (.call 65 [(.tmp 40)]),
 qO 42 (.fieldAddr 1 (.tmp 1)),
  ⟨none, .store 1 (.tmp 42) (.tmp 41), none⟩] none
def f42r13 : ICode := .region [
 qO 43 (.fieldAddr 2 (.tmp 1)),
  ⟨none, .store 1 (.tmp 43) (.const (.bool false)), none⟩] none
def f42r14 : ICode := .region [
 qO 44 (.fieldAddr 1 (.tmp 1)),
 qO 45 (.load1 (.tmp 44)),
 qO 46 (.build [qZ, qZ] [(0, 1, (qK 55296)), (1, 1, (qK 57343))]),
 qO 47 (.buildSlice 53 1 [qZ, qZ] [(0, 2, (.tmp 46))]),
 qO 48 (.call 67 [(.tmp 47)]),
 qO 49 (.call 66 [(.tmp 45), (.tmp 48)]),
 qO 50 (.fieldAddr 1 (.tmp 1)),
  ⟨none, .store 1 (.tmp 50) (.tmp 49), none⟩] (some ⟨[], [(1, 4)]⟩)
def f42r15 : ICode := .region [
 qO 51 (.loadN 9 (.tmp 1)),
  ⟨none, .store 9 (.tmp 2) (.tmp 51), none⟩] none
def f42r16 : ICode := .region [
 qO 53 (.bin .eql (.tmp 34) (qK 8)),
 qM 52 53] none
def f42r17 : ICode := .region [
 qM 54 3,
 qO 55 (.call 68 [(.tmp 54)]),
  ⟨none, .store 9 (.tmp 2) (.tmp 55), none⟩] none
def f42r18 : ICode := .region [
 qO 57 (.bin .eql (.tmp 34) (qK 9)),
 qM 56 57] none
def f42r19 : ICode := .region [
 qM 58 3,
 qO 59 (.call 70 [(.tmp 58), (qK 9)]),
 qO 60 (.call 69 [(qK 9), (.tmp 59)]),
  ⟨none, .store 9 (.tmp 2) (.tmp 60), none⟩] none
def f42r20 : ICode := .region [
 qO 62 (.bin .eql (.tmp 34) (qK 10)),
 qM 61 62] none
def f42r21 : ICode := .region [
 qO 63 (.loadN 9 (.tmp 1)),
 qM 64 3,
 qO 65 (.build [qZ, (.slice none 0 0), (.bool false), qZ, qZ, (.bool false), qZ, (.string ⟨⟨[]⟩⟩), (.slice none 0 0)] [(8, 1, (.tmp 64))]),
 qO 66 (.call 64 [(.tmp 65)]),
 qO 67 (.call 71 [(.tmp 63), (.tmp 66)]),
  ⟨none, .store 9 (.tmp 2) (.tmp 67), none⟩] (some ⟨[], [(0, 3)]⟩)
def f42r22 : ICode := .region [
 qM 68 3,
 qO 69 (.fieldAddr 8 (.tmp 1)),
  ⟨none, .store 1 (.tmp 69) (.tmp 68), none⟩] none
def f42r23 : ICode := .region [
 qO 70 (.loadN 9 (.tmp 1)),
  ⟨none, .store 9 (.tmp 2) (.tmp 70), none⟩] none
/- ferret/simple.made -/
def f42 : IFn := ⟨71, [.inr (2, (some 9))], (.seq f42r0 (.seq (.seq f42r1 (.cond (.tmp 18) (.seq f42r2 .ret) .skip)) (.seq f42r3 (.seq (.seq f42r4 (.block 0 (.loop (.seq f42r5 (.seq (.cond (.tmp 24) .skip (.exit 0)) (.seq (.block 1 (.seq f42r6 f42r7)) f42r8)))))) (.seq (.seq f42r9 (.block 2 (.seq f42r10 (.cond (.tmp 35) (.seq (.seq f42r11 (.cond (.tmp 38) f42r12 .skip)) (.seq f42r13 (.seq f42r14 (.seq f42r15 .ret)))) (.seq f42r16 (.cond (.tmp 52) (.seq f42r17 .ret) (.seq f42r18 (.cond (.tmp 56) (.seq f42r19 .ret) (.seq f42r20 (.cond (.tmp 61) (.seq f42r21 .ret) .skip)))))))))) (.seq f42r22 (.seq f42r23 .ret)))))))⟩
def f43r0 : ICode := .region [
 qO 2 (.box 73 (.tmp 0)),
 qO 3 (.box 28 (.tmp 1))] none
def f43r1 : ICode := .region [
 qO 6 (.fieldAddr 1 (.tmp 3)),
 qO 7 (.load1 (.tmp 6)),
 qO 8 (.call 7 [(.tmp 7)]),
 qO 4 (.new [(.slice none 0 0)] 22),
  ⟨none, .store 1 (.tmp 4) (.tmp 8), none⟩] none
def f43r2 : ICode := .region [
 qO 9 (.load1 (.tmp 4)),
 qO 10 (.len 1 (.tmp 9)),
 qO 11 (.bin .eql (.tmp 10) (qK 0))] none
def f43r3 : ICode := .region [
 qO 12 (.load1 (.tmp 2)),
 qO 13 (.build [qZ, qZ, qZ, qZ, qZ] [(0, 1, (qK 6))]),
 qO 14 (.call 23 [(.tmp 12), (.tmp 13)]),
 qM 5 14] none
def f43r4 : ICode := .region [
 qO 15 (.load1 (.tmp 2)),
 qO 16 (.nilCheck (.tmp 15)),
 qO 17 (.fieldAddr 0 (.tmp 16)),
 qO 18 (.load1 (.tmp 17)),
 qM 19 5,
 qO 20 (.indexSl 5 (.tmp 18) (.tmp 19)),
 qO 21 (.fieldAddr 1 (.tmp 20)),
  ⟨none, .store 1 (.tmp 21) (qK 0), none⟩] none
def f43r5 : ICode := .region [
 qO 22 (.load1 (.tmp 2)),
 qO 23 (.load1 (.tmp 4)),
 qO 24 (.len 1 (.tmp 23)),
 qO 25 (.mkFunc (.func 72) [] [(.tmp 4), (.tmp 2)]),
 qO 26 (.call 44 [(.tmp 22), (.tmp 24), (.tmp 25)])] none
/- (*ferret/prog.compiler).class -/
def f43 : IFn := ⟨27, [], (.seq f43r0 (.seq f43r1 (.seq (.seq f43r2 (.cond (.tmp 11) (.seq f43r3 f43r4) .skip)) f43r5)))⟩
def f45r0 : ICode := .region [
 qO 4 (.load1 (.tmp 1)),
 qO 5 (.fieldAddr 8 (.tmp 2)),
 qO 6 (.load1 (.tmp 5)),
 qM 7 0,
 qO 8 (.indexSl 9 (.tmp 6) (.tmp 7)),
 qO 9 (.loadN 9 (.tmp 8)),
 qO 10 (.call 24 [(.tmp 4), (.tmp 9)])] (some ⟨[], []⟩)
/- (*ferret/prog.compiler).node$1 -/
def f45 : IFn := ⟨11, [], f45r0⟩
def f44r0 : ICode := .region [
 qO 6 (.move (.const (.slice none 0 0)))] none
def f44r1 : ICode := .region [
 qM 11 1,
 qO 12 (.move (qK 0))] none
def f44r2 : ICode := .region [
 qO 13 (.bin .lss (.tmp 12) (.tmp 11))] none
def f44r3 : ICode := .region [
 qM 14 12,
 qM 7 14] none
def f44r4 : ICode := .region [
 qM 15 7,
 qM 16 1,
 qO 17 (.bin .sub (.tmp 16) (qK 1)),
 qO 18 (.bin .eql (.tmp 15) (.tmp 17))] none
def f44r5 : ICode := .region [
 qM 19 2,
 qM 20 7,
 qO 21 (.callv (.tmp 19) [(.tmp 20)])] none
def f44r6 : ICode := .region [
 qM 22 0,
 qO 23 (.build [qZ, qZ, qZ, qZ, qZ] [(0, 1, (qK 1))]),
 qO 24 (.call 23 [(.tmp 22), (.tmp 23)]),
 qM 8 24] none
def f44r7 : ICode := .region [
 qM 25 2,
 qM 26 7,
 qO 27 (.callv (.tmp 25) [(.tmp 26)])] none
def f44r8 : ICode := .region [
 qM 28 6,
 qM 29 0,
 qO 30 (.build [qZ, qZ, qZ, qZ, qZ] [(0, 1, (qK 2))]),
 qO 31 (.call 23 [(.tmp 29), (.tmp 30)]),
 qO 32 (.buildSlice 3 1 [qZ] [(0, 1, (.tmp 31))]),
 qO 33 (.append 3 1 8 (.tmp 28) (.tmp 32)),
 qM 6 33] none
def f44r9 : ICode := .region [
 qM 34 0,
 qO 35 (.nilCheck (.tmp 34)),
 qO 36 (.fieldAddr 1 (.tmp 35)),
 qO 37 (.load1 (.tmp 36)),
 qO 38 (.un .not (.tmp 37))] none
def f44r10 : ICode := .region [
 qM 39 0,
 qO 40 (.nilCheck (.tmp 39)),
 qO 41 (.fieldAddr 0 (.tmp 40)),
 qO 42 (.load1 (.tmp 41)),
 qM 43 8,
 qM 44 0,
 qO 45 (.nilCheck (.tmp 44)),
 qO 46 (.fieldAddr 0 (.tmp 45)),
 qO 47 (.load1 (.tmp 46)),
 qO 48 (.len 1 (.tmp 47)),
 qO 49 (.indexSl 5 (.tmp 42) (.tmp 43)),
 qO 50 (.fieldAddr 2 (.tmp 49)),
  ⟨none, .store 1 (.tmp 50) (.tmp 48), none⟩] (some ⟨[], []⟩)
def f44r11 : ICode := .region [
 qO 51 (.bin .add (.tmp 12) (qK 1)),
 qM 12 51] none
def f44r12 : ICode := .region [
 qM 52 6,
 qO 53 (.len 1 (.tmp 52)),
 qO 54 (.move (qK 0))] none
def f44r13 : ICode := .region [
 qO 55 (.bin .lss (.tmp 54) (.tmp 53))] none
def f44r14 : ICode := .region [
 qO 56 (.indexSl 1 (.tmp 52) (.tmp 54)),
 qO 57 (.load1 (.tmp 56)),
 qM 10 57] none
def f44r15 : ICode := .region [
 qM 58 0,
 qO 59 (.nilCheck (.tmp 58)),
 qO 60 (.fieldAddr 1 (.tmp 59)),
 qO 61 (.load1 (.tmp 60)),
 qO 62 (.un .not (.tmp 61))] none
def f44r16 : ICode := .region [
 qM 63 0,
 qO 64 (.nilCheck (.tmp 63)),
 qO 65 (.fieldAddr 0 (.tmp 64)),
 qO 66 (.load1 (.tmp 65)),
 qM 67 10,
 qM 68 0,
 qO 69 (.nilCheck (.tmp 68)),
 qO 70 (.fieldAddr 0 (.tmp 69)),
 qO 71 (.load1 (.tmp 70)),
 qO 72 (.len 1 (.tmp 71)),
 qO 73 (.indexSl 5 (.tmp 66) (.tmp 67)),
 qO 74 (.fieldAddr 1 (.tmp 73)),
  ⟨none, .store 1 (.tmp 74) (.tmp 72), none⟩] (some ⟨[], []⟩)
def f44r17 : ICode := .region [
 qO 75 (.bin .add (.tmp 54) (qK 1)),
 qM 54 75] none
/- (*ferret/prog.compiler).alternatives -/
def f44 : IFn := ⟨76, [], (.seq f44r0 (.seq (.seq f44r1 (.block 0 (.loop (.seq f44r2 (.seq (.cond (.tmp 13) .skip (.exit 0)) (.seq (.block 1 (.seq f44r3 (.seq (.seq f44r4 (.cond (.tmp 18) (.seq f44r5 (.exit 0)) .skip)) (.seq f44r6 (.seq f44r7 (.seq f44r8 (.seq f44r9 (.cond (.tmp 38) f44r10 .skip)))))))) f44r11)))))) (.seq f44r12 (.block 2 (.loop (.seq f44r13 (.seq (.cond (.tmp 55) .skip (.exit 2)) (.seq (.block 3 (.seq f44r14 (.seq f44r15 (.cond (.tmp 62) f44r16 .skip)))) f44r17))))))))⟩
def f46r0 : ICode := .region [
 qO 3 (.box 28 (.tmp 1))] none
def f46r1 : ICode := .region [
 qM 6 0,
 qO 7 (.build [qZ, qZ, qZ, qZ, qZ] [(0, 1, (qK 1))]),
 qO 8 (.call 23 [(.tmp 6), (.tmp 7)]),
 qM 4 8] none
def f46r2 : ICode := .region [
 qM 9 0,
 qO 10 (.fieldAddr 8 (.tmp 3)),
 qO 11 (.load1 (.tmp 10)),
 qO 12 (.indexSl 9 (.tmp 11) (qK 0)),
 qO 13 (.loadN 9 (.tmp 12)),
 qO 14 (.call 24 [(.tmp 9), (.tmp 13)])] none
def f46r3 : ICode := .region [
 qO 15 (.fieldAddr 4 (.tmp 3)),
 qO 16 (.load1 (.tmp 15)),
 qO 17 (.bin .eql (.tmp 16) (.const (.int .i64 (.negSucc 0))))] none
def f46r4 : ICode := .region [
 qM 18 0,
 qO 19 (.build [qZ, qZ, qZ, qZ, qZ] [(0, 1, (qK 2))]),
 qO 20 (.call 23 [(.tmp 18), (.tmp 19)]),
 qM 5 20] none
def f46r5 : ICode := .region [
 qM 21 0,
 qO 22 (.nilCheck (.tmp 21)),
 qO 23 (.fieldAddr 0 (.tmp 22)),
 qO 24 (.load1 (.tmp 23)),
 qM 25 5,
 qM 26 4,
 qO 27 (.indexSl 5 (.tmp 24) (.tmp 25)),
 qO 28 (.fieldAddr 1 (.tmp 27)),
  ⟨none, .store 1 (.tmp 28) (.tmp 26), none⟩] none
def f46r6 : ICode := .region [
 qM 29 0,
 qO 30 (.nilCheck (.tmp 29)),
 qO 31 (.fieldAddr 1 (.tmp 30)),
 qO 32 (.load1 (.tmp 31))] none
def f46r7 : ICode := .region [
 qM 33 0,
 qO 34 (.nilCheck (.tmp 33)),
 qO 35 (.fieldAddr 0 (.tmp 34)),
 qO 36 (.load1 (.tmp 35)),
 qM 37 4,
 qM 38 0,
 qO 39 (.nilCheck (.tmp 38)),
 qO 40 (.fieldAddr 0 (.tmp 39)),
 qO 41 (.load1 (.tmp 40)),
 qO 42 (.len 1 (.tmp 41)),
 qO 43 (.indexSl 5 (.tmp 36) (.tmp 37)),
 qO 44 (.fieldAddr 2 (.tmp 43)),
  ⟨none, .store 1 (.tmp 44) (.tmp 42), none⟩] (some ⟨[], []⟩)
def f46r8 : ICode := .region [
 qO 45 (.fieldAddr 5 (.tmp 3)),
 qO 46 (.load1 (.tmp 45))] none
def f46r9 : ICode := .region [
 qM 47 0,
 qO 48 (.nilCheck (.tmp 47)),
 qO 49 (.fieldAddr 0 (.tmp 48)),
 qO 50 (.load1 (.tmp 49)),
 qM 51 4,
 qM 52 0,
 qO 53 (.nilCheck (.tmp 52)),
 qO 54 (.fieldAddr 0 (.tmp 53)),
 qO 55 (.load1 (.tmp 54)),
 qM 56 4,
 qM 57 0,
 qO 58 (.nilCheck (.tmp 57)),
 qO 59 (.fieldAddr 0 (.tmp 58)),
 qO 60 (.load1 (.tmp 59)),
 qM 61 4,
 qO 62 (.indexSl 5 (.tmp 60) (.tmp 61)),
 qO 63 (.fieldAddr 2 (.tmp 62)),
 qO 64 (.load1 (.tmp 63)),
 qM 65 0,
 qO 66 (.nilCheck (.tmp 65)),
 qO 67 (.fieldAddr 0 (.tmp 66)),
 qO 68 (.load1 (.tmp 67)),
 qM 69 4,
 qO 70 (.indexSl 5 (.tmp 68) (.tmp 69)),
 qO 71 (.fieldAddr 1 (.tmp 70)),
 qO 72 (.load1 (.tmp 71)),
 qO 73 (.indexSl 5 (.tmp 50) (.tmp 51)),
 qO 74 (.fieldAddr 1 (.tmp 73)),
  ⟨none, .store 1 (.tmp 74) (.tmp 64), none⟩,
 qO 75 (.indexSl 5 (.tmp 55) (.tmp 56)),
 qO 76 (.fieldAddr 2 (.tmp 75)),
  ⟨none, .store 1 (.tmp 76) (.tmp 72), none⟩] (some ⟨[], []⟩)
/- (*ferret/prog.compiler).repeat -/
def f46 : IFn := ⟨77, [], (.seq f46r0 (.seq f46r1 (.seq f46r2 (.seq (.seq f46r3 (.cond (.tmp 17) (.seq f46r4 f46r5) .skip)) (.seq (.seq f46r6 (.cond (.tmp 32) .ret .skip)) (.seq f46r7 (.seq f46r8 (.cond (.tmp 46) f46r9 .skip))))))))⟩
def f74r0 : ICode := .region [
 qO 2 (.move (.const (.string ⟨⟨[]⟩⟩)))] none
def f74r1 : ICode := .region [
 qM 3 0,
 qO 4 (.call 93 [(.tmp 3), (qK 10)]),
 qM 2 4] none
/- internal/strconv.Itoa -/
def f74 : IFn := ⟨5, [.inl 2], (.seq f74r0 (.seq f74r1 .ret))⟩
def f73r0 : ICode := .region [
 qM 2 0,
 qO 3 (.nilCheck (.tmp 2)),
 qO 4 (.fieldAddr 0 (.tmp 3)),
 qO 5 (.load1 (.tmp 4)),
 qO 6 (.nilEq false 0 (.tmp 5) (.const (.pointer none)))] none
def f73r1 : ICode := .region [
 qM 7 0,
 qM 8 0,
 qO 9 (.ptrTo (.tmp 8)),
 qO 10 (.call 92 [(.tmp 9)]),
 qO 11 (.ptrFrom 102 2 (.tmp 10)),
 qO 12 (.nilCheck (.tmp 7)),
 qO 13 (.fieldAddr 0 (.tmp 12)),
  ⟨none, .store 1 (.tmp 13) (.tmp 11), none⟩] none
def f73r2 : ICode := .region [
 qM 14 0,
 qO 15 (.nilCheck (.tmp 14)),
 qO 16 (.fieldAddr 0 (.tmp 15)),
 qO 17 (.load1 (.tmp 16)),
 qM 18 0,
 qO 19 (.nilEq true 0 (.tmp 17) (.tmp 18))] none
/- (*strings.Builder).copyCheck -/
def f73 : IFn := ⟨20, [], (.seq f73r0 (.cond (.tmp 6) f73r1 (.seq f73r2 (.cond (.tmp 19) .bad .skip))))⟩
def f53r0 : ICode := .region [
 qO 4 (.move (.const (.bool false)))] none
def f53r1 : ICode := .region [
 qM 5 0,
 qO 6 (.len 0 (.tmp 5)),
 qM 7 1,
 qO 8 (.len 0 (.tmp 7)),
 qO 9 (.bin .geq (.tmp 6) (.tmp 8)),
 qM 10 9,
  ⟨(some 11), .move (.tmp 0), (some ((some 10), true))⟩,
  ⟨(some 12), .move (.tmp 1), (some ((some 10), true))⟩,
  ⟨(some 13), .len 0 (.tmp 12), (some ((some 10), true))⟩,
  ⟨(some 14), .sliceStr (.tmp 11) none (some (.tmp 13)), (some ((some 10), true))⟩,
  ⟨(some 15), .move (.tmp 1), (some ((some 10), true))⟩,
  ⟨(some 16), .bin .eql (.tmp 14) (.tmp 15), (some ((some 10), true))⟩,
 qO 17 (.pick (.tmp 10) (.tmp 16) (.const (.bool false))),
 qM 4 17] none
/- internal/stringslite.HasPrefix -/
def f53 : IFn := ⟨18, [.inl 4], (.seq f53r0 (.seq f53r1 .ret))⟩
def f54r0 : ICode := .region [
 qO 2 (.move (qK 0)),
 qO 3 (.move (qK 0))] none
def f54r1 : ICode := .region [
 qM 10 0,
 qO 11 (.indexStr (.tmp 10) (qK 0)),
 qO 12 (.call 75 [(.tmp 11)]),
 qM 9 12,
 qO 13 (.extract (.tmp 9) 0),
 qO 14 (.extract (.tmp 9) 1),
 qO 15 (.extract (.tmp 9) 2),
 qO 16 (.extract (.tmp 9) 3),
 qM 4 13,
 qM 5 14,
 qM 6 15,
 qM 7 16] none
def f54r2 : ICode := .region [
 qM 17 4,
 qO 18 (.bin .lss (.tmp 17) (qK 0))] none
def f54r3 : ICode := .region [
 qO 2 (.move (.const (.int .i64 (.negSucc 0)))),
 qO 3 (.move (qK 1))] none
def f54r4 : ICode := .region [
 qO 8 (.move (qK 1))] none
def f54r5 : ICode := .region [
 qM 19 8,
 qM 20 4,
 qO 21 (.bin .leq (.tmp 19) (.tmp 20))] none
def f54r6 : ICode := .region [
 qM 24 8,
 qM 25 0,
 qO 26 (.len 0 (.tmp 25)),
 qO 27 (.bin .geq (.tmp 24) (.tmp 26)),
 qM 28 27,
  ⟨(some 29), .move (.tmp 0), (some ((some 28), false))⟩,
  ⟨(some 30), .move (.tmp 8), (some ((some 28), false))⟩,
  ⟨(some 31), .indexStr (.tmp 29) (.tmp 30), (some ((some 28), false))⟩,
  ⟨(some 32), .move (.tmp 5), (some ((some 28), false))⟩,
  ⟨(some 33), .bin .lss (.tmp 31) (.tmp 32), (some ((some 28), false))⟩,
 qO 34 (.pick (.tmp 28) (.const (.bool true)) (.tmp 33)),
 qM 35 34,
  ⟨(some 36), .move (.tmp 0), (some ((some 35), false))⟩,
  ⟨(some 37), .move (.tmp 8), (some ((some 35), false))⟩,
  ⟨(some 38), .indexStr (.tmp 36) (.tmp 37), (some ((some 35), false))⟩,
  ⟨(some 39), .move (.tmp 6), (some ((some 35), false))⟩,
  ⟨(some 40), .bin .gtr (.tmp 38) (.tmp 39), (some ((some 35), false))⟩,
 qO 41 (.pick (.tmp 35) (.const (.bool true)) (.tmp 40))] none
def f54r7 : ICode := .region [
 qM 42 8,
 qO 2 (.move (.const (.int .i64 (.negSucc 0)))),
 qM 3 42] none
def f54r8 : ICode := .region [
 qM 43 7,
 qO 44 (.bin .shl (.tmp 43) (.const (.int .u64 (.ofNat 6)))),
 qM 45 0,
 qM 46 8,
 qO 47 (.indexStr (.tmp 45) (.tmp 46)),
 qO 48 (.bin .and (.tmp 47) (.const (.int .u8 (.ofNat 63)))),
 qO 49 (.conv .i64 (.tmp 48)),
 qO 50 (.bin .or (.tmp 44) (.tmp 49)),
 qM 7 50] none
def f54r9 : ICode := .region [
 qO 5 (.move (.const (.int .u8 (.ofNat 128)))),
 qO 6 (.move (.const (.int .u8 (.ofNat 191))))] none
def f54r10 : ICode := .region [
 qM 22 8,
 qO 23 (.bin .add (.tmp 22) (qK 1)),
 qM 8 23] none
def f54r11 : ICode := .region [
 qM 51 7,
 qM 52 4,
 qO 53 (.bin .add (.tmp 52) (qK 1)),
 qM 2 51,
 qM 3 53] none
/- ferret/coding.utf8 -/
def f54 : IFn := ⟨54, [.inl 2, .inl 3], (.seq f54r0 (.seq f54r1 (.seq (.seq f54r2 (.cond (.tmp 18) (.seq f54r3 .ret) .skip)) (.seq (.seq f54r4 (.block 0 (.loop (.seq (.seq f54r5 (.cond (.tmp 21) .skip (.exit 0))) (.seq (.block 1 (.seq (.seq f54r6 (.cond (.tmp 41) (.seq f54r7 .ret) .skip)) (.seq f54r8 f54r9))) f54r10))))) (.seq f54r11 .ret)))))⟩
def f55r0 : ICode := .region [
 qO 2 (.move (qK 0)),
 qO 3 (.move (qK 0))] none
def f55r1 : ICode := .region [
 qM 4 0,
 qO 5 (.call 56 [(.tmp 4), (.const (.bool false))]),
 qO 6 (.extract (.tmp 5) 0),
 qO 7 (.extract (.tmp 5) 1),
 qM 2 6,
 qM 3 7] none
/- ferret/coding.scalarOf$1 -/
def f55 : IFn := ⟨8, [.inl 2, .inl 3], (.seq f55r0 (.seq f55r1 .ret))⟩
def f57r0 : ICode := .region [
 qO 2 (.move (qK 0)),
 qO 3 (.move (qK 0))] none
def f57r1 : ICode := .region [
 qM 4 0,
 qO 5 (.call 56 [(.tmp 4), (.const (.bool true))]),
 qO 6 (.extract (.tmp 5) 0),
 qO 7 (.extract (.tmp 5) 1),
 qM 2 6,
 qM 3 7] none
/- ferret/coding.scalarOf$2 -/
def f57 : IFn := ⟨8, [.inl 2, .inl 3], (.seq f57r0 (.seq f57r1 .ret))⟩
def f58r0 : ICode := .region [
 qO 2 (.move (qK 0)),
 qO 3 (.move (qK 0))] none
def f58r1 : ICode := .region [
 qM 4 0,
 qO 5 (.indexStr (.tmp 4) (qK 0)),
 qO 6 (.conv .i64 (.tmp 5)),
 qM 2 6,
 qO 3 (.move (qK 1))] none
/- ferret/coding.latin -/
def f58 : IFn := ⟨7, [.inl 2, .inl 3], (.seq f58r0 (.seq f58r1 .ret))⟩
def f59r0 : ICode := .region [
 qO 4 (.move (qK 0))] none
def f59r1 : ICode := .region [
 qM 5 0,
 qO 6 (.nilCheck (.tmp 5)),
 qO 7 (.fieldAddr 4 (.tmp 6)),
 qO 8 (.load1 (.tmp 7)),
 qM 9 1,
 qO 10 (.bin .add (.tmp 8) (.tmp 9)),
 qM 11 0,
 qO 12 (.nilCheck (.tmp 11)),
 qO 13 (.fieldAddr 0 (.tmp 12)),
 qO 14 (.fieldAddr 1 (.tmp 13)),
 qO 15 (.load1 (.tmp 14)),
 qO 16 (.len 1 (.tmp 15)),
 qO 17 (.bin .geq (.tmp 10) (.tmp 16))] (some ⟨[], []⟩)
def f59r2 : ICode := .region [
 qO 4 (.move (.const (.int .i64 (.negSucc 0))))] none
def f59r3 : ICode := .region [
 qM 18 0,
 qO 19 (.nilCheck (.tmp 18)),
 qO 20 (.fieldAddr 0 (.tmp 19)),
 qO 21 (.fieldAddr 1 (.tmp 20)),
 qO 22 (.load1 (.tmp 21)),
 qM 23 0,
 qO 24 (.nilCheck (.tmp 23)),
 qO 25 (.fieldAddr 4 (.tmp 24)),
 qO 26 (.load1 (.tmp 25)),
 qM 27 1,
 qO 28 (.bin .add (.tmp 26) (.tmp 27)),
 qO 29 (.indexSl 1 (.tmp 22) (.tmp 28)),
 qO 30 (.load1 (.tmp 29)),
 qM 4 30] (some ⟨[], []⟩)
/- (*ferret/syn.parser).peek -/
def f59 : IFn := ⟨31, [.inl 4], (.seq f59r0 (.seq (.seq f59r1 (.cond (.tmp 17) (.seq f59r2 .ret) .skip)) (.seq f59r3 .ret)))⟩
def f60r0 : ICode := .region [
 qM 6 1,
 qM 7 0,
 qO 8 (.nilCheck (.tmp 7)),
 qO 9 (.fieldAddr 0 (.tmp 8)),
 qO 10 (.fieldAddr 2 (.tmp 9)),
 qO 11 (.load1 (.tmp 10)),
 qM 12 2,
 qO 13 (.indexSl 1 (.tmp 11) (.tmp 12)),
 qO 14 (.load1 (.tmp 13)),
 qO 15 (.build [qZ, qZ] [(0, 1, (.tmp 6)), (1, 1, (.tmp 14))]),
 qO 16 (.mkIface 65 (.tmp 15)),
  ⟨none, .bad, none⟩] none
/- (*ferret/syn.parser).fail -/
def f60 : IFn := ⟨17, [], f60r0⟩
def f61r0 : ICode := .region [
 qO 2 (.move (qK 0)),
 qO 3 (.move (qK 0)),
 qO 4 (.move (.const (.bool false)))] none
def f61r1 : ICode := .region [
 qM 9 0,
 qO 10 (.call 39 [(.tmp 9), (.const (.string ⟨⟨[42]⟩⟩))]),
 qM 8 10] none
def f61r2 : ICode := .region [
 qO 2 (.move (qK 0)),
 qO 3 (.move (.const (.int .i64 (.negSucc 0)))),
 qO 4 (.move (.const (.bool true)))] none
def f61r3 : ICode := .region [
 qM 12 0,
 qO 13 (.call 39 [(.tmp 12), (.const (.string ⟨⟨[43]⟩⟩))]),
 qM 11 13] none
def f61r4 : ICode := .region [
 qO 2 (.move (qK 1)),
 qO 3 (.move (.const (.int .i64 (.negSucc 0)))),
 qO 4 (.move (.const (.bool true)))] none
def f61r5 : ICode := .region [
 qM 15 0,
 qO 16 (.call 39 [(.tmp 15), (.const (.string ⟨⟨[63]⟩⟩))]),
 qM 14 16] none
def f61r6 : ICode := .region [
 qO 2 (.move (qK 0)),
 qO 3 (.move (qK 1)),
 qO 4 (.move (.const (.bool true)))] none
def f61r7 : ICode := .region [
 qM 17 0,
 qO 18 (.nilCheck (.tmp 17)),
 qO 19 (.fieldAddr 4 (.tmp 18)),
 qO 20 (.load1 (.tmp 19)),
 qM 5 20] none
def f61r8 : ICode := .region [
 qM 21 0,
 qO 22 (.call 39 [(.tmp 21), (.const (.string ⟨⟨[123]⟩⟩))]),
 qO 23 (.un .not (.tmp 22))] none
def f61r9 : ICode := .region [
 qO 2 (.move (qK 0)),
 qO 3 (.move (qK 0)),
 qO 4 (.move (.const (.bool false)))] none
def f61r10 : ICode := .region [
 qM 25 0,
 qO 26 (.call 77 [(.tmp 25)]),
 qM 24 26,
 qO 27 (.extract (.tmp 24) 0),
 qO 28 (.extract (.tmp 24) 1),
 qM 2 27,
 qM 4 28] none
def f61r11 : ICode := .region [
 qM 29 2,
 qM 3 29] none
def f61r12 : ICode := .region [
 qM 30 4,
 qM 31 30,
  ⟨(some 32), .move (.tmp 0), (some ((some 31), true))⟩,
  ⟨(some 33), .call 39 [(.tmp 32), (.const (.string ⟨⟨[44]⟩⟩))], (some ((some 31), true))⟩,
 qO 34 (.pick (.tmp 31) (.tmp 33) (.const (.bool false)))] none
def f61r13 : ICode := .region [
 qO 3 (.move (.const (.int .i64 (.negSucc 0))))] none
def f61r14 : ICode := .region [
 qM 36 0,
 qO 37 (.call 77 [(.tmp 36)]),
 qM 35 37,
 qO 38 (.extract (.tmp 35) 0),
 qO 39 (.extract (.tmp 35) 1),
 qM 6 38,
 qM 7 39] none
def f61r15 : ICode := .region [
 qM 40 7] none
def f61r16 : ICode := .region [
 qM 41 6,
 qM 3 41] none
def f61r17 : ICode := .region [
 qM 42 4,
 qM 43 42,
  ⟨(some 44), .move (.tmp 0), (some ((some 43), true))⟩,
  ⟨(some 45), .call 39 [(.tmp 44), (.const (.string ⟨⟨[125]⟩⟩))], (some ((some 43), true))⟩,
 qO 46 (.pick (.tmp 43) (.tmp 45) (.const (.bool false)))] none
def f61r18 : ICode := .region [
 qM 47 2,
 qM 48 3,
 qM 2 47,
 qM 3 48,
 qO 4 (.move (.const (.bool true)))] none
def f61r19 : ICode := .region [
 qM 49 0,
 qM 50 5,
 qO 51 (.nilCheck (.tmp 49)),
 qO 52 (.fieldAddr 4 (.tmp 51)),
  ⟨none, .store 1 (.tmp 52) (.tmp 50), none⟩] none
def f61r20 : ICode := .region [
 qO 2 (.move (qK 0)),
 qO 3 (.move (qK 0)),
 qO 4 (.move (.const (.bool false)))] none
/- (*ferret/syn.parser).times -/
def f61 : IFn := ⟨53, [.inl 2, .inl 3, .inl 4], (.seq f61r0 (.seq (.block 0 (.seq f61r1 (.cond (.tmp 8) (.seq f61r2 .ret) (.seq f61r3 (.cond (.tmp 11) (.seq f61r4 .ret) (.seq f61r5 (.cond (.tmp 14) (.seq f61r6 .ret) .skip))))))) (.seq f61r7 (.seq (.seq f61r8 (.cond (.tmp 23) (.seq f61r9 .ret) .skip)) (.seq f61r10 (.seq f61r11 (.seq (.seq f61r12 (.cond (.tmp 34) (.seq f61r13 (.seq f61r14 (.seq f61r15 (.cond (.tmp 40) f61r16 .skip)))) .skip)) (.seq (.seq f61r17 (.cond (.tmp 46) (.seq f61r18 .ret) .skip)) (.seq f61r19 (.seq f61r20 .ret))))))))))⟩
def f62r0 : ICode := .region [
 qO 2 (.new [qZ, (.slice none 0 0), (.bool false), qZ, qZ, (.bool false), qZ, (.string ⟨⟨[]⟩⟩), (.slice none 0 0)] 28),
 qO 3 (.move (.const (.bool false)))] none
def f62r1 : ICode := .region [
 qM 10 0,
 qO 11 (.nilCheck (.tmp 10)),
 qO 12 (.fieldAddr 4 (.tmp 11)),
 qO 13 (.load1 (.tmp 12)),
 qM 4 13] none
def f62r2 : ICode := .region [
 qM 15 0,
 qO 16 (.call 39 [(.tmp 15), (.const (.string ⟨⟨[40]⟩⟩))]),
 qM 14 16] none
def f62r3 : ICode := .region [
 qM 17 0,
 qM 18 4,
 qO 19 (.call 78 [(.tmp 17), (.tmp 18)]),
 qO 20 (.extract (.tmp 19) 0),
 qO 21 (.extract (.tmp 19) 1),
  ⟨none, .store 9 (.tmp 2) (.tmp 20), none⟩,
 qM 3 21] none
def f62r4 : ICode := .region [
 qM 23 0,
 qO 24 (.call 39 [(.tmp 23), (.const (.string ⟨⟨[46]⟩⟩))]),
 qM 22 24] none
def f62r5 : ICode := .region [
 qO 25 (.build [qZ, qZ] [(1, 1, (qK 1114111))]),
 qO 26 (.buildSlice 53 1 [qZ, qZ] [(0, 2, (.tmp 25))]),
 qO 27 (.call 67 [(.tmp 26)]),
 qM 5 27] none
def f62r6 : ICode := .region [
 qM 28 0,
 qO 29 (.nilCheck (.tmp 28)),
 qO 30 (.fieldAddr 7 (.tmp 29)),
 qO 31 (.fieldAddr 2 (.tmp 30)),
 qO 32 (.load1 (.tmp 31)),
 qO 33 (.un .not (.tmp 32))] none
def f62r7 : ICode := .region [
 qM 34 5,
 qO 35 (.call 79 [(qK 10)]),
 qO 36 (.call 66 [(.tmp 34), (.tmp 35)]),
 qM 5 36] none
def f62r8 : ICode := .region [
 qM 37 0,
 qM 38 5,
 qO 39 (.call 80 [(.tmp 37), (.tmp 38)]),
  ⟨none, .store 9 (.tmp 2) (.tmp 39), none⟩,
 qO 3 (.move (.const (.bool true)))] none
def f62r9 : ICode := .region [
 qM 41 0,
 qO 42 (.call 39 [(.tmp 41), (.const (.string ⟨⟨[94]⟩⟩))]),
 qM 40 42] none
def f62r10 : ICode := .region [
 qM 43 0,
 qO 44 (.nilCheck (.tmp 43)),
 qO 45 (.fieldAddr 7 (.tmp 44)),
 qO 46 (.fieldAddr 1 (.tmp 45)),
 qO 47 (.load1 (.tmp 46)),
 qO 48 (.call 81 [(.tmp 47), (qK 4), (qK 2)]),
 qO 49 (.build [qZ, (.slice none 0 0), (.bool false), qZ, qZ, (.bool false), qZ, (.string ⟨⟨[]⟩⟩), (.slice none 0 0)] [(0, 1, (.tmp 48))]),
  ⟨none, .store 9 (.tmp 2) (.tmp 49), none⟩,
 qO 3 (.move (.const (.bool true)))] none
def f62r11 : ICode := .region [
 qM 51 0,
 qO 52 (.call 39 [(.tmp 51), (.const (.string ⟨⟨[36]⟩⟩))]),
 qM 50 52] none
def f62r12 : ICode := .region [
 qM 53 0,
 qO 54 (.nilCheck (.tmp 53)),
 qO 55 (.fieldAddr 7 (.tmp 54)),
 qO 56 (.fieldAddr 1 (.tmp 55)),
 qO 57 (.load1 (.tmp 56)),
 qO 58 (.call 81 [(.tmp 57), (qK 5), (qK 3)]),
 qO 59 (.build [qZ, (.slice none 0 0), (.bool false), qZ, qZ, (.bool false), qZ, (.string ⟨⟨[]⟩⟩), (.slice none 0 0)] [(0, 1, (.tmp 58))]),
  ⟨none, .store 9 (.tmp 2) (.tmp 59), none⟩,
 qO 3 (.move (.const (.bool true)))] none
def f62r13 : ICode := .region [
 qM 61 0,
 qO 62 (.call 39 [(.tmp 61), (.const (.string ⟨⟨[91]⟩⟩))]),
 qM 60 62] none
def f62r14 : ICode := .region [
 qM 63 0,
 qM 64 0,
 qM 65 4,
 qO 66 (.call 82 [(.tmp 64), (.tmp 65)]),
 qO 67 (.call 80 [(.tmp 63), (.tmp 66)]),
  ⟨none, .store 9 (.tmp 2) (.tmp 67), none⟩,
 qO 3 (.move (.const (.bool true)))] none
def f62r15 : ICode := .region [
 qM 69 0,
 qO 70 (.call 39 [(.tmp 69), (.const (.string ⟨⟨[92]⟩⟩))]),
 qM 68 70] none
def f62r16 : ICode := .region [
 qO 71 (.build [(.string ⟨⟨[]⟩⟩), qZ] [(0, 1, (.const (.string ⟨⟨[65]⟩⟩))), (1, 1, (qK 2))]),
 qO 72 (.build [(.string ⟨⟨[]⟩⟩), qZ] [(0, 1, (.const (.string ⟨⟨[122]⟩⟩))), (1, 1, (qK 3))]),
 qO 73 (.build [(.string ⟨⟨[]⟩⟩), qZ] [(0, 1, (.const (.string ⟨⟨[98]⟩⟩))), (1, 1, (qK 6))]),
 qO 74 (.build [(.string ⟨⟨[]⟩⟩), qZ] [(0, 1, (.const (.string ⟨⟨[66]⟩⟩))), (1, 1, (qK 7))]),
 qO 75 (.buildSlice 131 4 [(.string ⟨⟨[]⟩⟩), qZ, (.string ⟨⟨[]⟩⟩), qZ, (.string ⟨⟨[]⟩⟩), qZ, (.string ⟨⟨[]⟩⟩), qZ] [(0, 2, (.tmp 71)), (2, 2, (.tmp 72)), (4, 2, (.tmp 73)), (6, 2, (.tmp 74))]),
 qO 76 (.len 1 (.tmp 75)),
 qO 77 (.move (qK 0))] none
def f62r17 : ICode := .region [
 qO 78 (.bin .lss (.tmp 77) (.tmp 76))] none
def f62r18 : ICode := .region [
 qO 79 (.indexSl 2 (.tmp 75) (.tmp 77)),
 qO 80 (.loadN 2 (.tmp 79)),
 qO 7 (.new [(.string ⟨⟨[]⟩⟩), qZ] 131),
  ⟨none, .store 2 (.tmp 7) (.tmp 80), none⟩] none
def f62r19 : ICode := .region [
 qM 81 0,
 qO 82 (.fieldAddr 0 (.tmp 7)),
 qO 83 (.load1 (.tmp 82)),
 qO 84 (.call 39 [(.tmp 81), (.tmp 83)])] none
def f62r20 : ICode := .region [
 qO 85 (.fieldAddr 1 (.tmp 7)),
 qO 86 (.load1 (.tmp 85)),
 qO 87 (.build [qZ, (.slice none 0 0), (.bool false), qZ, qZ, (.bool false), qZ, (.string ⟨⟨[]⟩⟩), (.slice none 0 0)] [(0, 1, (.tmp 86))]),
  ⟨none, .store 9 (.tmp 2) (.tmp 87), none⟩,
 qO 3 (.move (.const (.bool true)))] none
def f62r21 : ICode := .region [
 qO 88 (.bin .add (.tmp 77) (qK 1)),
 qM 77 88] none
def f62r22 : ICode := .region [
 qM 90 0,
 qM 91 4,
 qO 92 (.call 83 [(.tmp 90), (.tmp 91)]),
 qM 89 92,
 qO 93 (.extract (.tmp 89) 0),
 qO 94 (.extract (.tmp 89) 1),
 qM 8 93,
 qM 9 94] none
def f62r23 : ICode := .region [
 qM 95 0,
 qM 96 8,
 qO 97 (.call 80 [(.tmp 95), (.tmp 96)]),
  ⟨none, .store 9 (.tmp 2) (.tmp 97), none⟩,
 qO 3 (.move (.const (.bool true)))] none
def f62r24 : ICode := .region [
 qM 98 0,
 qO 99 (.nilCheck (.tmp 98)),
 qO 100 (.fieldAddr 4 (.tmp 99)),
 qO 101 (.load1 (.tmp 100)),
 qO 102 (.bin .add (.tmp 101) (qK 1)),
 qO 103 (.nilCheck (.tmp 98)),
 qO 104 (.fieldAddr 4 (.tmp 103)),
  ⟨none, .store 1 (.tmp 104) (.tmp 102), none⟩] none
def f62r25 : ICode := .region [
 qM 105 0,
 qM 106 0,
 qO 107 (.nilCheck (.tmp 106)),
 qO 108 (.fieldAddr 0 (.tmp 107)),
 qO 109 (.fieldAddr 1 (.tmp 108)),
 qO 110 (.load1 (.tmp 109)),
 qM 111 4,
 qO 112 (.indexSl 1 (.tmp 110) (.tmp 111)),
 qO 113 (.load1 (.tmp 112)),
 qO 114 (.call 79 [(.tmp 113)]),
 qO 115 (.call 80 [(.tmp 105), (.tmp 114)]),
  ⟨none, .store 9 (.tmp 2) (.tmp 115), none⟩,
 qO 3 (.move (.const (.bool true)))] none
/- (*ferret/syn.parser).atom -/
def f62 : IFn := ⟨116, [.inr (2, (some 9)), .inl 3], (.seq f62r0 (.seq f62r1 (.seq (.block 0 (.seq f62r2 (.cond (.tmp 14) (.seq f62r3 .ret) (.seq f62r4 (.cond (.tmp 22) (.seq f62r5 (.seq (.seq f62r6 (.cond (.tmp 33) f62r7 .skip)) (.seq f62r8 .ret))) (.seq f62r9 (.cond (.tmp 40) (.seq f62r10 .ret) (.seq f62r11 (.cond (.tmp 50) (.seq f62r12 .ret) (.seq f62r13 (.cond (.tmp 60) (.seq f62r14 .ret) (.seq f62r15 (.cond (.tmp 68) (.seq (.seq f62r16 (.block 1 (.loop (.seq f62r17 (.seq (.cond (.tmp 78) .skip (.exit 1)) (.seq (.block 2 (.seq f62r18 (.seq f62r19 (.cond (.tmp 84) (.seq f62r20 .ret) .skip)))) f62r21)))))) (.seq f62r22 (.seq f62r23 .ret))) .skip))))))))))))) (.seq f62r24 (.seq f62r25 .ret)))))⟩
def f63r0 : ICode := .region [
 qO 2 (.move (qK 0))] none
def f63r1 : ICode := .region [
 qM 3 0,
 qO 4 (.minmax false (.tmp 3) (qK 1048577)),
 qM 2 4] none
/- ferret/simple.capped -/
def f63 : IFn := ⟨5, [.inl 2], (.seq f63r0 (.seq f63r1 .ret))⟩
def f64r0 : ICode := .region [
 qO 1 (.box 28 (.tmp 0)),
 qO 2 (.new [qZ, (.slice none 0 0), (.bool false), qZ, qZ, (.bool false), qZ, (.string ⟨⟨[]⟩⟩), (.slice none 0 0)] 28)] none
def f64r1 : ICode := .region [
 qO 3 (.fieldAddr 8 (.tmp 1)),
 qO 4 (.load1 (.tmp 3)),
 qO 5 (.len 1 (.tmp 4)),
 qO 6 (.bin .eql (.tmp 5) (qK 0))] none
def f64r2 : ICode := .region [
 qO 7 (.build [qZ, (.slice none 0 0), (.bool false), qZ, qZ, (.bool false), qZ, (.string ⟨⟨[]⟩⟩), (.slice none 0 0)] []),
  ⟨none, .store 9 (.tmp 2) (.tmp 7), none⟩] none
def f64r3 : ICode := .region [
 qO 8 (.fieldAddr 8 (.tmp 1)),
 qO 9 (.load1 (.tmp 8)),
 qO 10 (.indexSl 9 (.tmp 9) (qK 0)),
 qO 11 (.loadN 9 (.tmp 10)),
  ⟨none, .store 9 (.tmp 2) (.tmp 11), none⟩] none
/- ferret/simple.first -/
def f64 : IFn := ⟨12, [.inr (2, (some 9))], (.seq f64r0 (.seq (.seq f64r1 (.cond (.tmp 6) (.seq f64r2 .ret) .skip)) (.seq f64r3 .ret)))⟩
def f65r0 : ICode := .region [
 qO 2 (.move (.const (.slice none 0 0)))] none
def f65r1 : ICode := .region [
 qM 14 0,
 qO 15 (.call 84 [(.tmp 14)]),
 qM 3 15] none
def f65r2 : ICode := .region [
 qO 16 (.call 27 []),
 qO 17 (.len 1 (.tmp 16)),
 qO 18 (.move (qK 0))] none
def f65r3 : ICode := .region [
 qO 19 (.bin .lss (.tmp 18) (.tmp 17))] none
def f65r4 : ICode := .region [
 qO 20 (.indexSl 3 (.tmp 16) (.tmp 18)),
 qO 21 (.loadN 3 (.tmp 20)),
 qO 5 (.new [qZ, qZ, qZ] 84),
  ⟨none, .store 3 (.tmp 5) (.tmp 21), none⟩] none
def f65r5 : ICode := .region [
 qM 22 0,
 qO 23 (.fieldAddr 0 (.tmp 5)),
 qO 24 (.load1 (.tmp 23)),
 qO 25 (.fieldAddr 1 (.tmp 5)),
 qO 26 (.load1 (.tmp 25)),
 qO 27 (.build [qZ, qZ] [(0, 1, (.tmp 24)), (1, 1, (.tmp 26))]),
 qO 28 (.buildSlice 53 1 [qZ, qZ] [(0, 2, (.tmp 27))]),
 qO 29 (.call 67 [(.tmp 28)]),
 qO 30 (.call 85 [(.tmp 22), (.tmp 29)]),
 qO 31 (.len 1 (.tmp 30)),
 qO 32 (.move (qK 0))] none
def f65r6 : ICode := .region [
 qO 33 (.bin .lss (.tmp 32) (.tmp 31))] none
def f65r7 : ICode := .region [
 qO 34 (.indexSl 2 (.tmp 30) (.tmp 32)),
 qO 35 (.loadN 2 (.tmp 34)),
 qO 7 (.new [qZ, qZ] 53),
  ⟨none, .store 2 (.tmp 7) (.tmp 35), none⟩] none
def f65r8 : ICode := .region [
 qM 36 3,
 qO 37 (.fieldAddr 0 (.tmp 7)),
 qO 38 (.load1 (.tmp 37)),
 qO 39 (.fieldAddr 2 (.tmp 5)),
 qO 40 (.load1 (.tmp 39)),
 qO 41 (.bin .add (.tmp 38) (.tmp 40)),
 qO 42 (.fieldAddr 1 (.tmp 7)),
 qO 43 (.load1 (.tmp 42)),
 qO 44 (.fieldAddr 2 (.tmp 5)),
 qO 45 (.load1 (.tmp 44)),
 qO 46 (.bin .add (.tmp 43) (.tmp 45)),
 qO 47 (.build [qZ, qZ] [(0, 1, (.tmp 41)), (1, 1, (.tmp 46))]),
 qO 48 (.buildSlice 53 1 [qZ, qZ] [(0, 2, (.tmp 47))]),
 qO 49 (.append 53 2 16 (.tmp 36) (.tmp 48)),
 qM 3 49] none
def f65r9 : ICode := .region [
 qO 50 (.bin .add (.tmp 32) (qK 1)),
 qM 32 50] none
def f65r10 : ICode := .region [
 qM 51 0,
 qO 52 (.fieldAddr 0 (.tmp 5)),
 qO 53 (.load1 (.tmp 52)),
 qO 54 (.fieldAddr 2 (.tmp 5)),
 qO 55 (.load1 (.tmp 54)),
 qO 56 (.bin .add (.tmp 53) (.tmp 55)),
 qO 57 (.fieldAddr 1 (.tmp 5)),
 qO 58 (.load1 (.tmp 57)),
 qO 59 (.fieldAddr 2 (.tmp 5)),
 qO 60 (.load1 (.tmp 59)),
 qO 61 (.bin .add (.tmp 58) (.tmp 60)),
 qO 62 (.build [qZ, qZ] [(0, 1, (.tmp 56)), (1, 1, (.tmp 61))]),
 qO 63 (.buildSlice 53 1 [qZ, qZ] [(0, 2, (.tmp 62))]),
 qO 64 (.call 67 [(.tmp 63)]),
 qO 65 (.call 85 [(.tmp 51), (.tmp 64)]),
 qO 66 (.len 1 (.tmp 65)),
 qO 67 (.move (qK 0))] none
def f65r11 : ICode := .region [
 qO 68 (.bin .lss (.tmp 67) (.tmp 66))] none
def f65r12 : ICode := .region [
 qO 69 (.indexSl 2 (.tmp 65) (.tmp 67)),
 qO 70 (.loadN 2 (.tmp 69)),
 qO 9 (.new [qZ, qZ] 53),
  ⟨none, .store 2 (.tmp 9) (.tmp 70), none⟩] none
def f65r13 : ICode := .region [
 qM 71 3,
 qO 72 (.fieldAddr 0 (.tmp 9)),
 qO 73 (.load1 (.tmp 72)),
 qO 74 (.fieldAddr 2 (.tmp 5)),
 qO 75 (.load1 (.tmp 74)),
 qO 76 (.bin .sub (.tmp 73) (.tmp 75)),
 qO 77 (.fieldAddr 1 (.tmp 9)),
 qO 78 (.load1 (.tmp 77)),
 qO 79 (.fieldAddr 2 (.tmp 5)),
 qO 80 (.load1 (.tmp 79)),
 qO 81 (.bin .sub (.tmp 78) (.tmp 80)),
 qO 82 (.build [qZ, qZ] [(0, 1, (.tmp 76)), (1, 1, (.tmp 81))]),
 qO 83 (.buildSlice 53 1 [qZ, qZ] [(0, 2, (.tmp 82))]),
 qO 84 (.append 53 2 16 (.tmp 71) (.tmp 83)),
 qM 3 84] none
def f65r14 : ICode := .region [
 qO 85 (.bin .add (.tmp 67) (qK 1)),
 qM 67 85] none
def f65r15 : ICode := .region [
 qO 86 (.bin .add (.tmp 18) (qK 1)),
 qM 18 86] none
def f65r16 : ICode := .region [
 qO 87 (.call 25 []),
 qO 88 (.len 1 (.tmp 87)),
 qO 89 (.move (qK 0))] none
def f65r17 : ICode := .region [
 qO 90 (.bin .lss (.tmp 89) (.tmp 88))] none
def f65r18 : ICode := .region [
 qO 91 (.indexSl 1 (.tmp 87) (.tmp 89)),
 qO 92 (.load1 (.tmp 91)),
 qM 11 92] none
def f65r19 : ICode := .region [
 qM 93 11,
 qM 94 0,
 qO 95 (.mkFunc (.func 87) [(.tmp 94)] []),
 qO 96 (.call 86 [(.tmp 93), (.tmp 95)])] none
def f65r20 : ICode := .region [
 qM 97 11,
 qO 98 (.len 1 (.tmp 97)),
 qO 99 (.move (qK 0))] none
def f65r21 : ICode := .region [
 qO 100 (.bin .lss (.tmp 99) (.tmp 98))] none
def f65r22 : ICode := .region [
 qO 101 (.indexSl 1 (.tmp 97) (.tmp 99)),
 qO 102 (.load1 (.tmp 101)),
 qM 13 102] none
def f65r23 : ICode := .region [
 qM 103 3,
 qM 104 13,
 qM 105 13,
 qO 106 (.build [qZ, qZ] [(0, 1, (.tmp 104)), (1, 1, (.tmp 105))]),
 qO 107 (.buildSlice 53 1 [qZ, qZ] [(0, 2, (.tmp 106))]),
 qO 108 (.append 53 2 16 (.tmp 103) (.tmp 107)),
 qM 3 108] none
def f65r24 : ICode := .region [
 qO 109 (.bin .add (.tmp 99) (qK 1)),
 qM 99 109] none
def f65r25 : ICode := .region [
 qO 110 (.bin .add (.tmp 89) (qK 1)),
 qM 89 110] none
def f65r26 : ICode := .region [
 qM 111 3,
 qO 112 (.call 67 [(.tmp 111)]),
 qM 2 112] none
/- ferret/ucd.Close -/
def f65 : IFn := ⟨113, [.inl 2], (.seq f65r0 (.seq f65r1 (.seq (.seq f65r2 (.block 0 (.loop (.seq f65r3 (.seq (.cond (.tmp 19) .skip (.exit 0)) (.seq (.block 1 (.seq f65r4 (.seq (.seq f65r5 (.block 2 (.loop (.seq f65r6 (.seq (.cond (.tmp 33) .skip (.exit 2)) (.seq (.block 3 (.seq f65r7 f65r8)) f65r9)))))) (.seq f65r10 (.block 4 (.loop (.seq f65r11 (.seq (.cond (.tmp 68) .skip (.exit 4)) (.seq (.block 5 (.seq f65r12 f65r13)) f65r14))))))))) f65r15)))))) (.seq (.seq f65r16 (.block 6 (.loop (.seq f65r17 (.seq (.cond (.tmp 90) .skip (.exit 6)) (.seq (.block 7 (.seq f65r18 (.seq f65r19 (.cond (.tmp 96) (.seq f65r20 (.block 8 (.loop (.seq f65r21 (.seq (.cond (.tmp 100) .skip (.exit 8)) (.seq (.block 9 (.seq f65r22 f65r23)) f65r24)))))) .skip)))) f65r25)))))) (.seq f65r26 .ret)))))⟩
def f67r0 : ICode := .region [
 qO 2 (.move (.const (.slice none 0 0)))] none
def f67r1 : ICode := .region [
 qO 3 (.new [(.slice none 0 0)] 24)] none
def f67r2 : ICode := .region [
 qM 10 0,
 qO 11 (.len 1 (.tmp 10)),
 qO 12 (.move (qK 0))] none
def f67r3 : ICode := .region [
 qO 13 (.bin .lss (.tmp 12) (.tmp 11))] none
def f67r4 : ICode := .region [
 qO 14 (.indexSl 2 (.tmp 10) (.tmp 12)),
 qO 15 (.loadN 2 (.tmp 14)),
 qO 5 (.new [qZ, qZ] 53),
  ⟨none, .store 2 (.tmp 5) (.tmp 15), none⟩] none
def f67r5 : ICode := .region [
 qO 16 (.fieldAddr 0 (.tmp 5)),
 qO 17 (.load1 (.tmp 16)),
 qO 18 (.minmax true (.tmp 17) (qK 0)),
 qO 19 (.fieldAddr 1 (.tmp 5)),
 qO 20 (.load1 (.tmp 19)),
 qO 21 (.minmax false (.tmp 20) (qK 1114111)),
 qO 22 (.build [qZ, qZ] [(0, 1, (.tmp 18)), (1, 1, (.tmp 21))]),
  ⟨none, .store 2 (.tmp 5) (.tmp 22), none⟩] none
def f67r6 : ICode := .region [
 qO 23 (.fieldAddr 0 (.tmp 5)),
 qO 24 (.load1 (.tmp 23)),
 qO 25 (.fieldAddr 1 (.tmp 5)),
 qO 26 (.load1 (.tmp 25)),
 qO 27 (.bin .leq (.tmp 24) (.tmp 26))] none
def f67r7 : ICode := .region [
 qO 28 (.load1 (.tmp 3)),
 qO 29 (.loadN 2 (.tmp 5)),
 qO 30 (.buildSlice 53 1 [qZ, qZ] [(0, 2, (.tmp 29))]),
 qO 31 (.append 53 2 16 (.tmp 28) (.tmp 30)),
  ⟨none, .store 1 (.tmp 3) (.tmp 31), none⟩] none
def f67r8 : ICode := .region [
 qO 32 (.bin .add (.tmp 12) (qK 1)),
 qM 12 32] none
def f67r9 : ICode := .region [
 qO 33 (.load1 (.tmp 3)),
 qO 34 (.mkIface 24 (.tmp 33)),
 qO 35 (.mkFunc (.func 90) [] [(.tmp 3)]),
 qO 36 (.call 89 [(.tmp 34), (.tmp 35)])] none
def f67r10 : ICode := .region [
 qO 6 (.move (.const (.slice none 0 0)))] none
def f67r11 : ICode := .region [
 qO 37 (.load1 (.tmp 3)),
 qO 38 (.len 1 (.tmp 37)),
 qO 39 (.move (qK 0))] none
def f67r12 : ICode := .region [
 qO 40 (.bin .lss (.tmp 39) (.tmp 38))] none
def f67r13 : ICode := .region [
 qO 41 (.indexSl 2 (.tmp 37) (.tmp 39)),
 qO 42 (.loadN 2 (.tmp 41)),
 qO 8 (.new [qZ, qZ] 53),
  ⟨none, .store 2 (.tmp 8) (.tmp 42), none⟩] none
def f67r14 : ICode := .region [
 qM 43 6,
 qO 44 (.len 1 (.tmp 43)),
 qM 9 44] none
def f67r15 : ICode := .region [
 qM 45 9,
 qO 46 (.bin .gtr (.tmp 45) (qK 0)),
 qM 47 46,
  ⟨(some 48), .fieldAddr 0 (.tmp 8), (some ((some 47), true))⟩,
  ⟨(some 49), .load1 (.tmp 48), (some ((some 47), true))⟩,
  ⟨(some 50), .move (.tmp 6), (some ((some 47), true))⟩,
  ⟨(some 51), .move (.tmp 9), (some ((some 47), true))⟩,
  ⟨(some 52), .bin .sub (.tmp 51) (qK 1), (some ((some 47), true))⟩,
  ⟨(some 53), .indexSl 2 (.tmp 50) (.tmp 52), (some ((some 47), true))⟩,
  ⟨(some 54), .fieldAddr 1 (.tmp 53), (some ((some 47), true))⟩,
  ⟨(some 55), .load1 (.tmp 54), (some ((some 47), true))⟩,
  ⟨(some 56), .bin .add (.tmp 55) (qK 1), (some ((some 47), true))⟩,
  ⟨(some 57), .bin .leq (.tmp 49) (.tmp 56), (some ((some 47), true))⟩,
 qO 58 (.pick (.tmp 47) (.tmp 57) (.const (.bool false)))] (some ⟨[], []⟩)
def f67r16 : ICode := .region [
 qM 59 6,
 qM 60 9,
 qO 61 (.bin .sub (.tmp 60) (qK 1)),
 qM 62 6,
 qM 63 9,
 qO 64 (.bin .sub (.tmp 63) (qK 1)),
 qO 65 (.indexSl 2 (.tmp 62) (.tmp 64)),
 qO 66 (.fieldAddr 1 (.tmp 65)),
 qO 67 (.load1 (.tmp 66)),
 qO 68 (.fieldAddr 1 (.tmp 8)),
 qO 69 (.load1 (.tmp 68)),
 qO 70 (.minmax true (.tmp 67) (.tmp 69)),
 qO 71 (.indexSl 2 (.tmp 59) (.tmp 61)),
 qO 72 (.fieldAddr 1 (.tmp 71)),
  ⟨none, .store 1 (.tmp 72) (.tmp 70), none⟩] (some ⟨[], []⟩)
def f67r17 : ICode := .region [
 qM 73 6,
 qO 74 (.loadN 2 (.tmp 8)),
 qO 75 (.buildSlice 53 1 [qZ, qZ] [(0, 2, (.tmp 74))]),
 qO 76 (.append 53 2 16 (.tmp 73) (.tmp 75)),
 qM 6 76] none
def f67r18 : ICode := .region [
 qO 77 (.bin .add (.tmp 39) (qK 1)),
 qM 39 77] none
def f67r19 : ICode := .region [
 qM 78 6,
 qM 2 78] none
/- ferret/sets.Of -/
def f67 : IFn := ⟨79, [.inl 2], (.seq f67r0 (.seq f67r1 (.seq (.seq f67r2 (.block 0 (.loop (.seq f67r3 (.seq (.cond (.tmp 13) .skip (.exit 0)) (.seq (.block 1 (.seq f67r4 (.seq f67r5 (.seq f67r6 (.cond (.tmp 27) f67r7 .skip))))) f67r8)))))) (.seq f67r9 (.seq f67r10 (.seq (.seq f67r11 (.block 2 (.loop (.seq f67r12 (.seq (.cond (.tmp 40) .skip (.exit 2)) (.seq (.block 3 (.seq f67r13 (.seq f67r14 (.seq f67r15 (.cond (.tmp 58) f67r16 f67r17))))) f67r18)))))) (.seq f67r19 .ret)))))))⟩
def f66r0 : ICode := .region [
 qO 4 (.move (.const (.slice none 0 0)))] none
def f66r1 : ICode := .region [
 qM 5 0,
 qM 6 1,
 qO 7 (.call 88 [(.tmp 6)]),
 qO 8 (.call 85 [(.tmp 5), (.tmp 7)]),
 qM 4 8] none
/- (ferret/sets.Set).Less -/
def f66 : IFn := ⟨9, [.inl 4], (.seq f66r0 (.seq f66r1 .ret))⟩
def f68r0 : ICode := .region [
 qO 2 (.new [qZ, (.slice none 0 0), (.bool false), qZ, qZ, (.bool false), qZ, (.string ⟨⟨[]⟩⟩), (.slice none 0 0)] 28)] none
def f68r1 : ICode := .region [
 qO 3 (.move (.const (.slice none 0 0)))] none
def f68r2 : ICode := .region [
 qM 6 0,
 qO 7 (.call 70 [(.tmp 6), (qK 8)]),
 qO 8 (.len 1 (.tmp 7)),
 qO 9 (.move (qK 0))] none
def f68r3 : ICode := .region [
 qO 10 (.bin .lss (.tmp 9) (.tmp 8))] none
def f68r4 : ICode := .region [
 qO 11 (.indexSl 9 (.tmp 7) (.tmp 9)),
 qO 12 (.loadN 9 (.tmp 11)),
 qO 5 (.new [qZ, (.slice none 0 0), (.bool false), qZ, qZ, (.bool false), qZ, (.string ⟨⟨[]⟩⟩), (.slice none 0 0)] 28),
  ⟨none, .store 9 (.tmp 5) (.tmp 12), none⟩] none
def f68r5 : ICode := .region [
 qO 13 (.fieldAddr 0 (.tmp 5)),
 qO 14 (.load1 (.tmp 13)),
 qO 15 (.bin .neq (.tmp 14) (qK 0))] none
def f68r6 : ICode := .region [
 qM 16 3,
 qO 17 (.loadN 9 (.tmp 5)),
 qO 18 (.buildSlice 28 1 [qZ, (.slice none 0 0), (.bool false), qZ, qZ, (.bool false), qZ, (.string ⟨⟨[]⟩⟩), (.slice none 0 0)] [(0, 9, (.tmp 17))]),
 qO 19 (.append 28 9 112 (.tmp 16) (.tmp 18)),
 qM 3 19] none
def f68r7 : ICode := .region [
 qO 20 (.bin .add (.tmp 9) (qK 1)),
 qM 9 20] none
def f68r8 : ICode := .region [
 qM 21 3,
 qO 22 (.call 69 [(qK 8), (.tmp 21)]),
  ⟨none, .store 9 (.tmp 2) (.tmp 22), none⟩] none
/- ferret/simple.row -/
def f68 : IFn := ⟨23, [.inr (2, (some 9))], (.seq f68r0 (.seq f68r1 (.seq (.seq f68r2 (.block 0 (.loop (.seq f68r3 (.seq (.cond (.tmp 10) .skip (.exit 0)) (.seq (.block 1 (.seq f68r4 (.seq f68r5 (.cond (.tmp 15) f68r6 .skip)))) f68r7)))))) (.seq f68r8 .ret))))⟩
def f70r0 : ICode := .region [
 qO 4 (.move (.const (.slice none 0 0)))] none
def f70r1 : ICode := .region [
 qO 5 (.move (.const (.slice none 0 0)))] none
def f70r2 : ICode := .region [
 qM 8 0,
 qO 9 (.len 1 (.tmp 8)),
 qO 10 (.move (qK 0))] none
def f70r3 : ICode := .region [
 qO 11 (.bin .lss (.tmp 10) (.tmp 9))] none
def f70r4 : ICode := .region [
 qO 12 (.indexSl 9 (.tmp 8) (.tmp 10)),
 qO 13 (.loadN 9 (.tmp 12)),
 qO 7 (.new [qZ, (.slice none 0 0), (.bool false), qZ, qZ, (.bool false), qZ, (.string ⟨⟨[]⟩⟩), (.slice none 0 0)] 28),
  ⟨none, .store 9 (.tmp 7) (.tmp 13), none⟩] none
def f70r5 : ICode := .region [
 qO 14 (.fieldAddr 0 (.tmp 7)),
 qO 15 (.load1 (.tmp 14)),
 qM 16 1,
 qO 17 (.bin .eql (.tmp 15) (.tmp 16))] none
def f70r6 : ICode := .region [
 qM 18 5,
 qO 19 (.fieldAddr 8 (.tmp 7)),
 qO 20 (.load1 (.tmp 19)),
 qO 21 (.append 28 9 112 (.tmp 18) (.tmp 20)),
 qM 5 21] none
def f70r7 : ICode := .region [
 qM 22 5,
 qO 23 (.loadN 9 (.tmp 7)),
 qO 24 (.buildSlice 28 1 [qZ, (.slice none 0 0), (.bool false), qZ, qZ, (.bool false), qZ, (.string ⟨⟨[]⟩⟩), (.slice none 0 0)] [(0, 9, (.tmp 23))]),
 qO 25 (.append 28 9 112 (.tmp 22) (.tmp 24)),
 qM 5 25] none
def f70r8 : ICode := .region [
 qO 26 (.bin .add (.tmp 10) (qK 1)),
 qM 10 26] none
def f70r9 : ICode := .region [
 qM 27 5,
 qM 4 27] none
/- ferret/simple.flat -/
def f70 : IFn := ⟨28, [.inl 4], (.seq f70r0 (.seq f70r1 (.seq (.seq f70r2 (.block 0 (.loop (.seq f70r3 (.seq (.cond (.tmp 11) .skip (.exit 0)) (.seq (.block 1 (.seq f70r4 (.seq f70r5 (.cond (.tmp 17) f70r6 f70r7)))) f70r8)))))) (.seq f70r9 .ret))))⟩
def f69r0 : ICode := .region [
 qO 4 (.new [qZ, (.slice none 0 0), (.bool false), qZ, qZ, (.bool false), qZ, (.string ⟨⟨[]⟩⟩), (.slice none 0 0)] 28)] none
def f69r1 : ICode := .region [
 qM 5 1,
 qO 6 (.len 1 (.tmp 5))] none
def f69r2 : ICode := .region [
 qO 8 (.bin .eql (.tmp 6) (qK 0)),
 qM 7 8] none
def f69r3 : ICode := .region [
 qO 9 (.build [qZ, (.slice none 0 0), (.bool false), qZ, qZ, (.bool false), qZ, (.string ⟨⟨[]⟩⟩), (.slice none 0 0)] []),
  ⟨none, .store 9 (.tmp 4) (.tmp 9), none⟩] none
def f69r4 : ICode := .region [
 qO 11 (.bin .eql (.tmp 6) (qK 1)),
 qM 10 11] none
def f69r5 : ICode := .region [
 qM 12 1,
 qO 13 (.indexSl 9 (.tmp 12) (qK 0)),
 qO 14 (.loadN 9 (.tmp 13)),
  ⟨none, .store 9 (.tmp 4) (.tmp 14), none⟩] none
def f69r6 : ICode := .region [
 qM 15 0,
 qM 16 1,
 qO 17 (.build [qZ, (.slice none 0 0), (.bool false), qZ, qZ, (.bool false), qZ, (.string ⟨⟨[]⟩⟩), (.slice none 0 0)] [(0, 1, (.tmp 15)), (8, 1, (.tmp 16))]),
  ⟨none, .store 9 (.tmp 4) (.tmp 17), none⟩] none
/- ferret/simple.whole -/
def f69 : IFn := ⟨18, [.inr (4, (some 9))], (.seq f69r0 (.seq (.seq f69r1 (.block 0 (.seq f69r2 (.cond (.tmp 7) (.seq f69r3 .ret) (.seq f69r4 (.cond (.tmp 10) (.seq f69r5 .ret) .skip)))))) (.seq f69r6 .ret)))⟩
def f71r0 : ICode := .region [
 qO 2 (.box 28 (.tmp 0)),
 qO 3 (.box 28 (.tmp 1)),
 qO 4 (.new [qZ, (.slice none 0 0), (.bool false), qZ, qZ, (.bool false), qZ, (.string ⟨⟨[]⟩⟩), (.slice none 0 0)] 28)] none
def f71r1 : ICode := .region [
 qO 8 (.mkFunc (.func 91) [] [(.tmp 2)]),
 qM 5 8] none
def f71r2 : ICode := .region [
 qO 6 (.move (.const (.slice none 0 0)))] none
def f71r3 : ICode := .region [
 qO 9 (.fieldAddr 3 (.tmp 2)),
 qO 10 (.load1 (.tmp 9)),
 qO 11 (.move (qK 0))] none
def f71r4 : ICode := .region [
 qO 12 (.bin .lss (.tmp 11) (.tmp 10))] none
def f71r5 : ICode := .region [
 qM 13 6,
 qO 14 (.loadN 9 (.tmp 3)),
 qO 15 (.buildSlice 28 1 [qZ, (.slice none 0 0), (.bool false), qZ, qZ, (.bool false), qZ, (.string ⟨⟨[]⟩⟩), (.slice none 0 0)] [(0, 9, (.tmp 14))]),
 qO 16 (.append 28 9 112 (.tmp 13) (.tmp 15)),
 qM 6 16] none
def f71r6 : ICode := .region [
 qO 17 (.bin .add (.tmp 11) (qK 1)),
 qM 11 17] none
def f71r7 : ICode := .region [
 qO 18 (.fieldAddr 4 (.tmp 2)),
 qO 19 (.load1 (.tmp 18)),
 qO 20 (.bin .eql (.tmp 19) (.const (.int .i64 (.negSucc 0))))] none
def f71r8 : ICode := .region [
 qM 21 6,
 qM 22 5,
 qO 23 (.loadN 9 (.tmp 3)),
 qO 24 (.callv (.tmp 22) [(.tmp 23), (.const (.int .i64 (.negSucc 0)))]),
 qO 25 (.buildSlice 28 1 [qZ, (.slice none 0 0), (.bool false), qZ, qZ, (.bool false), qZ, (.string ⟨⟨[]⟩⟩), (.slice none 0 0)] [(0, 9, (.tmp 24))]),
 qO 26 (.append 28 9 112 (.tmp 21) (.tmp 25)),
 qO 27 (.call 68 [(.tmp 26)]),
  ⟨none, .store 9 (.tmp 4) (.tmp 27), none⟩] none
def f71r9 : ICode := .region [
 qO 7 (.new [qZ, (.slice none 0 0), (.bool false), qZ, qZ, (.bool false), qZ, (.string ⟨⟨[]⟩⟩), (.slice none 0 0)] 28)] none
def f71r10 : ICode := .region [
 qO 28 (.fieldAddr 4 (.tmp 2)),
 qO 29 (.load1 (.tmp 28)),
 qO 30 (.fieldAddr 3 (.tmp 2)),
 qO 31 (.load1 (.tmp 30)),
 qO 32 (.bin .sub (.tmp 29) (.tmp 31)),
 qO 33 (.move (qK 0))] none
def f71r11 : ICode := .region [
 qO 34 (.bin .lss (.tmp 33) (.tmp 32))] none
def f71r12 : ICode := .region [
 qM 35 5,
 qO 36 (.loadN 9 (.tmp 3)),
 qO 37 (.loadN 9 (.tmp 7)),
 qO 38 (.buildSlice 28 2 [qZ, (.slice none 0 0), (.bool false), qZ, qZ, (.bool false), qZ, (.string ⟨⟨[]⟩⟩), (.slice none 0 0), qZ, (.slice none 0 0), (.bool false), qZ, qZ, (.bool false), qZ, (.string ⟨⟨[]⟩⟩), (.slice none 0 0)] [(0, 9, (.tmp 36)), (9, 9, (.tmp 37))]),
 qO 39 (.call 68 [(.tmp 38)]),
 qO 40 (.callv (.tmp 35) [(.tmp 39), (qK 1)]),
  ⟨none, .store 9 (.tmp 7) (.tmp 40), none⟩] none
def f71r13 : ICode := .region [
 qO 41 (.bin .add (.tmp 33) (qK 1)),
 qM 33 41] none
def f71r14 : ICode := .region [
 qM 42 6,
 qO 43 (.loadN 9 (.tmp 7)),
 qO 44 (.buildSlice 28 1 [qZ, (.slice none 0 0), (.bool false), qZ, qZ, (.bool false), qZ, (.string ⟨⟨[]⟩⟩), (.slice none 0 0)] [(0, 9, (.tmp 43))]),
 qO 45 (.append 28 9 112 (.tmp 42) (.tmp 44)),
 qO 46 (.call 68 [(.tmp 45)]),
  ⟨none, .store 9 (.tmp 4) (.tmp 46), none⟩] none
/- ferret/simple.repeat -/
def f71 : IFn := ⟨47, [.inr (4, (some 9))], (.seq f71r0 (.seq f71r1 (.seq f71r2 (.seq (.seq f71r3 (.block 0 (.loop (.seq f71r4 (.seq (.cond (.tmp 12) .skip (.exit 0)) (.seq (.block 1 f71r5) f71r6)))))) (.seq (.seq f71r7 (.cond (.tmp 20) (.seq f71r8 .ret) .skip)) (.seq f71r9 (.seq (.seq f71r10 (.block 2 (.loop (.seq f71r11 (.seq (.cond (.tmp 34) .skip (.exit 2)) (.seq (.block 3 f71r12) f71r13)))))) (.seq f71r14 .ret))))))))⟩
def f7r0 : ICode := .region [
 qO 2 (.move (.const (.slice none 0 0)))] none
def f7r1 : ICode := .region [
 qO 3 (.move (.const (.slice none 0 0)))] none
def f7r2 : ICode := .region [
 qM 10 0,
 qO 11 (.len 1 (.tmp 10)),
 qO 12 (.move (qK 0))] none
def f7r3 : ICode := .region [
 qO 13 (.bin .lss (.tmp 12) (.tmp 11))] none
def f7r4 : ICode := .region [
 qO 14 (.indexSl 2 (.tmp 10) (.tmp 12)),
 qO 15 (.loadN 2 (.tmp 14)),
 qO 5 (.new [qZ, qZ] 53),
  ⟨none, .store 2 (.tmp 5) (.tmp 15), none⟩] none
def f7r5 : ICode := .region [
 qO 6 (.move (qK 0))] none
def f7r6 : ICode := .region [
 qO 16 (.call 17 []),
 qO 17 (.move (qK 0))] none
def f7r7 : ICode := .region [
 qO 18 (.bin .lss (.tmp 17) (qK 6))] none
def f7r8 : ICode := .region [
 qO 19 (.indexArr 6 1 none (.tmp 16) (.tmp 17)),
 qM 8 19] none
def f7r9 : ICode := .region [
 qO 20 (.fieldAddr 0 (.tmp 5)),
 qO 21 (.load1 (.tmp 20)),
 qM 22 6,
 qO 23 (.minmax true (.tmp 21) (.tmp 22)),
 qO 24 (.fieldAddr 1 (.tmp 5)),
 qO 25 (.load1 (.tmp 24)),
 qM 26 8,
 qO 27 (.bin .sub (.tmp 26) (qK 1)),
 qO 28 (.minmax false (.tmp 25) (.tmp 27)),
 qO 29 (.build [qZ, qZ] [(0, 1, (.tmp 23)), (1, 1, (.tmp 28))]),
 qO 9 (.new [qZ, qZ] 53),
  ⟨none, .store 2 (.tmp 9) (.tmp 29), none⟩] none
def f7r10 : ICode := .region [
 qO 30 (.fieldAddr 0 (.tmp 9)),
 qO 31 (.load1 (.tmp 30)),
 qO 32 (.fieldAddr 1 (.tmp 9)),
 qO 33 (.load1 (.tmp 32)),
 qO 34 (.bin .leq (.tmp 31) (.tmp 33)),
 qM 35 34,
  ⟨(some 36), .move (.tmp 8), (some ((some 35), true))⟩,
  ⟨(some 37), .bin .neq (.tmp 36) (qK 57344), (some ((some 35), true))⟩,
 qO 38 (.pick (.tmp 35) (.tmp 37) (.const (.bool false)))] none
def f7r11 : ICode := .region [
 qM 39 3,
 qO 40 (.loadN 2 (.tmp 9)),
 qO 41 (.call 18 [(.tmp 39), (.tmp 40)]),
 qM 3 41] none
def f7r12 : ICode := .region [
 qM 42 8,
 qM 6 42] none
def f7r13 : ICode := .region [
 qO 43 (.bin .add (.tmp 17) (qK 1)),
 qM 17 43] none
def f7r14 : ICode := .region [
 qO 44 (.bin .add (.tmp 12) (qK 1)),
 qM 12 44] none
def f7r15 : ICode := .region [
 qM 45 3,
 qM 2 45] none
/- ferret/utfsplit.Split -/
def f7 : IFn := ⟨46, [.inl 2], (.seq f7r0 (.seq f7r1 (.seq (.seq f7r2 (.block 0 (.loop (.seq f7r3 (.seq (.cond (.tmp 13) .skip (.exit 0)) (.seq (.block 1 (.seq f7r4 (.seq f7r5 (.seq f7r6 (.block 2 (.loop (.seq f7r7 (.seq (.cond (.tmp 18) .skip (.exit 2)) (.seq (.block 3 (.seq f7r8 (.seq f7r9 (.seq (.seq f7r10 (.cond (.tmp 38) f7r11 .skip)) f7r12)))) f7r13))))))))) f7r14)))))) (.seq f7r15 .ret))))⟩
def f72r0 : ICode := .region [
 qO 6 (.load1 (.tmp 1)),
 qM 7 0,
 qO 8 (.indexSl 1 (.tmp 6) (.tmp 7)),
 qO 9 (.load1 (.tmp 8)),
 qO 10 (.len 1 (.tmp 9)),
 qO 11 (.move (qK 0))] none
def f72r1 : ICode := .region [
 qO 12 (.bin .lss (.tmp 11) (.tmp 10))] none
def f72r2 : ICode := .region [
 qO 13 (.indexSl 2 (.tmp 9) (.tmp 11)),
 qO 14 (.loadN 2 (.tmp 13)),
 qO 5 (.new [qZ, qZ] 53),
  ⟨none, .store 2 (.tmp 5) (.tmp 14), none⟩] none
def f72r3 : ICode := .region [
 qO 15 (.load1 (.tmp 2)),
 qO 16 (.loadN 2 (.tmp 5)),
 qO 17 (.build [qZ, qZ, qZ, qZ, qZ] [(0, 1, (qK 0)), (3, 2, (.tmp 16))]),
 qO 18 (.call 23 [(.tmp 15), (.tmp 17)])] none
def f72r4 : ICode := .region [
 qO 19 (.bin .add (.tmp 11) (qK 1)),
 qM 11 19] none
/- (*ferret/prog.compiler).class$1 -/
def f72 : IFn := ⟨20, [], (.seq f72r0 (.block 0 (.loop (.seq f72r1 (.seq (.cond (.tmp 12) .skip (.exit 0)) (.seq (.block 1 (.seq f72r2 f72r3)) f72r4))))))⟩
def f93r0 : ICode := .region [
 qO 4 (.move (.const (.string ⟨⟨[]⟩⟩)))] none
def f93r1 : ICode := .region [
 qM 10 1,
 qO 11 (.bin .eql (.tmp 10) (qK 10))] none
def f93r2 : ICode := .region [
 qM 12 0,
 qO 13 (.bin .leq (qK 0) (.tmp 12)),
 qM 14 13,
  ⟨(some 15), .move (.tmp 0), (some ((some 14), true))⟩,
  ⟨(some 16), .bin .lss (.tmp 15) (qK 100), (some ((some 14), true))⟩,
 qO 17 (.pick (.tmp 14) (.tmp 16) (.const (.bool false)))] none
def f93r3 : ICode := .region [
 qM 18 0,
 qO 19 (.call 111 [(.tmp 18)]),
 qM 4 19] none
def f93r4 : ICode := .region [
 qO 5 (.new [(.int .u8 (.ofNat 0)), (.int .u8 (.ofNat 0)), (.int .u8 (.ofNat 0)), (.int .u8 (.ofNat 0)), (.int .u8 (.ofNat 0)), (.int .u8 (.ofNat 0)), (.int .u8 (.ofNat 0)), (.int .u8 (.ofNat 0)), (.int .u8 (.ofNat 0)), (.int .u8 (.ofNat 0)), (.int .u8 (.ofNat 0)), (.int .u8 (.ofNat 0)), (.int .u8 (.ofNat 0)), (.int .u8 (.ofNat 0)), (.int .u8 (.ofNat 0)), (.int .u8 (.ofNat 0)), (.int .u8 (.ofNat 0)), (.int .u8 (.ofNat 0)), (.int .u8 (.ofNat 0)), (.int .u8 (.ofNat 0)), (.int .u8 (.ofNat 0)), (.int .u8 (.ofNat 0)), (.int .u8 (.ofNat 0)), (.int .u8 (.ofNat 0))] 161)] none
def f93r5 : ICode := .region [
 qM 20 0,
 qO 21 (.conv .u64 (.tmp 20)),
 qM 6 21] none
def f93r6 : ICode := .region [
 qM 22 0,
 qO 23 (.bin .lss (.tmp 22) (qK 0))] none
def f93r7 : ICode := .region [
 qM 24 6,
 qO 25 (.un .neg (.tmp 24)),
 qM 6 25] none
def f93r8 : ICode := .region [
 qM 26 6,
 qO 27 (.call 112 [(.tmp 26)]),
 qM 7 27] none
def f93r9 : ICode := .region [
 qM 28 7,
 qO 29 (.bin .add (qK 1) (.tmp 28)),
 qO 30 (.sliceArr 24 1 (.tmp 5) (some (qK 1)) (some (.tmp 29))),
 qM 31 6,
 qO 32 (.call 113 [(.tmp 30), (.tmp 31)])] none
def f93r10 : ICode := .region [
 qM 33 0,
 qO 34 (.bin .lss (.tmp 33) (qK 0))] none
def f93r11 : ICode := .region [
 qO 35 (.indexArrA 24 1 (.tmp 5) (qK 0)),
  ⟨none, .store 1 (.tmp 35) (.const (.int .u8 (.ofNat 45))), none⟩] none
def f93r12 : ICode := .region [
 qM 36 7,
 qO 37 (.bin .add (qK 1) (.tmp 36)),
 qO 38 (.sliceArr 24 1 (.tmp 5) none (some (.tmp 37))),
 qO 39 (.bytesToStr (.tmp 38)),
 qM 4 39] none
def f93r13 : ICode := .region [
 qM 40 7,
 qO 41 (.bin .add (qK 1) (.tmp 40)),
 qO 42 (.sliceArr 24 1 (.tmp 5) (some (qK 1)) (some (.tmp 41))),
 qO 43 (.bytesToStr (.tmp 42)),
 qM 4 43] none
def f93r14 : ICode := .region [
 qM 45 0,
 qO 46 (.conv .u64 (.tmp 45)),
 qM 47 1,
 qM 48 0,
 qO 49 (.bin .lss (.tmp 48) (qK 0)),
 qO 50 (.call 114 [(.const (.slice none 0 0)), (.tmp 46), (.tmp 47), (.tmp 49), (.const (.bool false))]),
 qM 44 50,
 qO 51 (.extract (.tmp 44) 0),
 qO 52 (.extract (.tmp 44) 1),
 qM 8 51,
 qM 9 52] none
def f93r15 : ICode := .region [
 qM 53 9,
 qM 4 53] none
/- internal/strconv.FormatInt -/
def f93 : IFn := ⟨54, [.inl 4], (.seq f93r0 (.seq (.seq f93r1 (.cond (.tmp 11) (.seq (.seq f93r2 (.cond (.tmp 17) (.seq f93r3 .ret) .skip)) (.seq f93r4 (.seq f93r5 (.seq (.seq f93r6 (.cond (.tmp 23) f93r7 .skip)) (.seq f93r8 (.seq f93r9 (.seq (.seq f93r10 (.cond (.tmp 34) (.seq f93r11 (.seq f93r12 .ret)) .skip)) (.seq f93r13 .ret)))))))) .skip)) (.seq f93r14 (.seq f93r15 .ret))))⟩
def f75r0 : ICode := .region [
 qO 2 (.move (qK 0)),
 qO 3 (.move (.const (.int .u8 (.ofNat 0)))),
 qO 4 (.move (.const (.int .u8 (.ofNat 0)))),
 qO 5 (.move (qK 0))] none
def f75r1 : ICode := .region [
 qM 10 0,
 qO 11 (.bin .lss (.tmp 10) (.const (.int .u8 (.ofNat 128)))),
 qM 9 11] none
def f75r2 : ICode := .region [
 qM 12 0,
 qO 13 (.conv .i64 (.tmp 12)),
 qO 2 (.move (qK 0)),
 qO 3 (.move (.const (.int .u8 (.ofNat 0)))),
 qO 4 (.move (.const (.int .u8 (.ofNat 0)))),
 qM 5 13] none
def f75r3 : ICode := .region [
 qM 15 0,
 qO 16 (.bin .lss (.tmp 15) (.const (.int .u8 (.ofNat 194)))),
 qM 17 16,
  ⟨(some 18), .move (.tmp 0), (some ((some 17), false))⟩,
  ⟨(some 19), .bin .gtr (.tmp 18) (.const (.int .u8 (.ofNat 244))), (some ((some 17), false))⟩,
 qO 20 (.pick (.tmp 17) (.const (.bool true)) (.tmp 19)),
 qM 14 20] none
def f75r4 : ICode := .region [
 qO 2 (.move (.const (.int .i64 (.negSucc 0)))),
 qO 3 (.move (.const (.int .u8 (.ofNat 0)))),
 qO 4 (.move (.const (.int .u8 (.ofNat 0)))),
 qO 5 (.move (qK 0))] none
def f75r5 : ICode := .region [
 qM 22 0,
 qO 23 (.bin .lss (.tmp 22) (.const (.int .u8 (.ofNat 224)))),
 qM 21 23] none
def f75r6 : ICode := .region [
 qM 24 0,
 qO 25 (.bin .and (.tmp 24) (.const (.int .u8 (.ofNat 31)))),
 qO 26 (.conv .i64 (.tmp 25)),
 qO 2 (.move (qK 1)),
 qM 5 26] none
def f75r7 : ICode := .region [
 qM 28 0,
 qO 29 (.bin .lss (.tmp 28) (.const (.int .u8 (.ofNat 240)))),
 qM 27 29] none
def f75r8 : ICode := .region [
 qM 30 0,
 qO 31 (.bin .and (.tmp 30) (.const (.int .u8 (.ofNat 15)))),
 qO 32 (.conv .i64 (.tmp 31)),
 qO 2 (.move (qK 2)),
 qM 5 32] none
def f75r9 : ICode := .region [
 qM 6 0,
 qO 7 (.bin .and (.tmp 6) (.const (.int .u8 (.ofNat 7)))),
 qO 8 (.conv .i64 (.tmp 7)),
 qO 2 (.move (qK 3)),
 qM 5 8] none
def f75r10 : ICode := .region [
 qO 3 (.move (.const (.int .u8 (.ofNat 128)))),
 qO 4 (.move (.const (.int .u8 (.ofNat 191))))] none
def f75r11 : ICode := .region [
 qM 33 0] none
def f75r12 : ICode := .region [
 qO 35 (.bin .eql (.tmp 33) (.const (.int .u8 (.ofNat 224)))),
 qM 34 35] none
def f75r13 : ICode := .region [
 qO 3 (.move (.const (.int .u8 (.ofNat 160))))] none
def f75r14 : ICode := .region [
 qO 37 (.bin .eql (.tmp 33) (.const (.int .u8 (.ofNat 237)))),
 qM 36 37] none
def f75r15 : ICode := .region [
 qO 4 (.move (.const (.int .u8 (.ofNat 159))))] none
def f75r16 : ICode := .region [
 qO 39 (.bin .eql (.tmp 33) (.const (.int .u8 (.ofNat 240)))),
 qM 38 39] none
def f75r17 : ICode := .region [
 qO 3 (.move (.const (.int .u8 (.ofNat 144))))] none
def f75r18 : ICode := .region [
 qO 41 (.bin .eql (.tmp 33) (.const (.int .u8 (.ofNat 244)))),
 qM 40 41] none
def f75r19 : ICode := .region [
 qO 4 (.move (.const (.int .u8 (.ofNat 143))))] none
def f75r20 : ICode := .region [
 qM 42 2,
 qM 43 3,
 qM 44 4,
 qM 45 5,
 qM 2 42,
 qM 3 43,
 qM 4 44,
 qM 5 45] none
/- ferret/coding.shape -/
def f75 : IFn := ⟨46, [.inl 2, .inl 3, .inl 4, .inl 5], (.seq f75r0 (.seq (.block 0 (.seq f75r1 (.cond (.tmp 9) (.seq f75r2 .ret) (.seq f75r3 (.cond (.tmp 14) (.seq f75r4 .ret) (.seq f75r5 (.cond (.tmp 21) f75r6 (.seq f75r7 (.cond (.tmp 27) f75r8 f75r9))))))))) (.seq f75r10 (.seq (.seq f75r11 (.block 1 (.seq f75r12 (.cond (.tmp 34) f75r13 (.seq f75r14 (.cond (.tmp 36) f75r15 (.seq f75r16 (.cond (.tmp 38) f75r17 (.seq f75r18 (.cond (.tmp 40) f75r19 .skip)))))))))) (.seq f75r20 .ret)))))⟩
def f56r0 : ICode := .region [
 qO 2 (.box 9 (.tmp 0)),
 qO 3 (.box 4 (.tmp 1)),
 qO 4 (.move (qK 0)),
 qO 5 (.move (qK 0))] none
def f56r1 : ICode := .region [
 qO 9 (.mkFunc (.func 76) [] [(.tmp 2), (.tmp 3)]),
 qM 6 9] none
def f56r2 : ICode := .region [
 qM 10 6,
 qO 11 (.callv (.tmp 10) [(qK 0)]),
 qM 7 11] none
def f56r3 : ICode := .region [
 qM 13 7,
 qO 14 (.bin .lss (.tmp 13) (qK 0)),
 qM 12 14] none
def f56r4 : ICode := .region [
 qO 4 (.move (.const (.int .i64 (.negSucc 0)))),
 qO 5 (.move (qK 1))] none
def f56r5 : ICode := .region [
 qM 16 7,
 qO 17 (.bin .lss (.tmp 16) (qK 55296)),
 qM 18 17,
  ⟨(some 19), .move (.tmp 7), (some ((some 18), false))⟩,
  ⟨(some 20), .bin .gtr (.tmp 19) (qK 57343), (some ((some 18), false))⟩,
 qO 21 (.pick (.tmp 18) (.const (.bool true)) (.tmp 20)),
 qM 15 21] none
def f56r6 : ICode := .region [
 qM 22 7,
 qM 4 22,
 qO 5 (.move (qK 2))] none
def f56r7 : ICode := .region [
 qM 24 7,
 qO 25 (.bin .geq (.tmp 24) (qK 56320)),
 qM 23 25] none
def f56r8 : ICode := .region [
 qO 4 (.move (.const (.int .i64 (.negSucc 0)))),
 qO 5 (.move (qK 2))] none
def f56r9 : ICode := .region [
 qM 26 6,
 qO 27 (.callv (.tmp 26) [(qK 2)]),
 qM 8 27] none
def f56r10 : ICode := .region [
 qM 28 8,
 qO 29 (.bin .lss (.tmp 28) (qK 56320)),
 qM 30 29,
  ⟨(some 31), .move (.tmp 8), (some ((some 30), false))⟩,
  ⟨(some 32), .bin .gtr (.tmp 31) (qK 57343), (some ((some 30), false))⟩,
 qO 33 (.pick (.tmp 30) (.const (.bool true)) (.tmp 32))] none
def f56r11 : ICode := .region [
 qO 4 (.move (.const (.int .i64 (.negSucc 0)))),
 qO 5 (.move (qK 2))] none
def f56r12 : ICode := .region [
 qM 34 7,
 qO 35 (.bin .sub (.tmp 34) (qK 55296)),
 qO 36 (.bin .shl (.tmp 35) (.const (.int .u64 (.ofNat 10)))),
 qO 37 (.bin .add (qK 65536) (.tmp 36)),
 qM 38 8,
 qO 39 (.bin .add (.tmp 37) (.tmp 38)),
 qO 40 (.bin .sub (.tmp 39) (qK 56320)),
 qM 4 40,
 qO 5 (.move (qK 4))] none
/- ferret/coding.wide -/
def f56 : IFn := ⟨41, [.inl 4, .inl 5], (.seq f56r0 (.seq f56r1 (.seq f56r2 (.seq (.block 0 (.seq f56r3 (.cond (.tmp 12) (.seq f56r4 .ret) (.seq f56r5 (.cond (.tmp 15) (.seq f56r6 .ret) (.seq f56r7 (.cond (.tmp 23) (.seq f56r8 .ret) .skip))))))) (.seq f56r9 (.seq (.seq f56r10 (.cond (.tmp 33) (.seq f56r11 .ret) .skip)) (.seq f56r12 .ret)))))))⟩
def f77r0 : ICode := .region [
 qO 2 (.move (qK 0)),
 qO 3 (.move (.const (.bool false)))] none
def f77r1 : ICode := .region [
 qO 4 (.move (qK 0)),
 qO 5 (.move (qK 0))] none
def f77r2 : ICode := .region [
 qM 6 5,
 qO 7 (.bin .lss (.tmp 6) (qK 4)),
 qM 8 7,
  ⟨(some 9), .move (.tmp 0), (some ((some 8), true))⟩,
  ⟨(some 10), .call 59 [(.tmp 9), (qK 0)], (some ((some 8), true))⟩,
  ⟨(some 11), .bin .geq (.tmp 10) (qK 48), (some ((some 8), true))⟩,
 qO 12 (.pick (.tmp 8) (.tmp 11) (.const (.bool false))),
 qM 13 12,
  ⟨(some 14), .move (.tmp 0), (some ((some 13), true))⟩,
  ⟨(some 15), .call 59 [(.tmp 14), (qK 0)], (some ((some 13), true))⟩,
  ⟨(some 16), .bin .leq (.tmp 15) (qK 57), (some ((some 13), true))⟩,
 qO 17 (.pick (.tmp 13) (.tmp 16) (.const (.bool false)))] none
def f77r3 : ICode := .region [
 qM 18 4,
 qO 19 (.bin .mul (qK 10) (.tmp 18)),
 qM 20 0,
 qO 21 (.call 59 [(.tmp 20), (qK 0)]),
 qO 22 (.bin .add (.tmp 19) (.tmp 21)),
 qO 23 (.bin .sub (.tmp 22) (qK 48)),
 qM 4 23] none
def f77r4 : ICode := .region [
 qM 24 0,
 qO 25 (.nilCheck (.tmp 24)),
 qO 26 (.fieldAddr 4 (.tmp 25)),
 qO 27 (.load1 (.tmp 26)),
 qO 28 (.bin .add (.tmp 27) (qK 1)),
 qO 29 (.nilCheck (.tmp 24)),
 qO 30 (.fieldAddr 4 (.tmp 29)),
  ⟨none, .store 1 (.tmp 30) (.tmp 28), none⟩] none
def f77r5 : ICode := .region [
 qM 31 5,
 qO 32 (.bin .add (.tmp 31) (qK 1)),
 qM 5 32] none
def f77r6 : ICode := .region [
 qM 33 4,
 qM 34 5,
 qO 35 (.bin .gtr (.tmp 34) (qK 0)),
 qM 2 33,
 qM 3 35] none
/- (*ferret/syn.parser).digits -/
def f77 : IFn := ⟨36, [.inl 2, .inl 3], (.seq f77r0 (.seq f77r1 (.seq (.block 0 (.loop (.seq (.seq f77r2 (.cond (.tmp 17) .skip (.exit 0))) (.block 1 (.seq f77r3 (.seq f77r4 f77r5)))))) (.seq f77r6 .ret))))⟩
def f78r0 : ICode := .region [
 qO 4 (.new [qZ, (.slice none 0 0), (.bool false), qZ, qZ, (.bool false), qZ, (.string ⟨⟨[]⟩⟩), (.slice none 0 0)] 28),
 qO 5 (.move (.const (.bool false)))] none
def f78r1 : ICode := .region [
 qM 9 0,
 qO 10 (.nilCheck (.tmp 9)),
 qO 11 (.fieldAddr 5 (.tmp 10)),
 qO 12 (.load1 (.tmp 11)),
 qO 13 (.len 1 (.tmp 12)),
 qO 14 (.bin .geq (.tmp 13) (qK 32))] none
def f78r2 : ICode := .region [
 qM 15 0,
 qM 16 1,
 qO 17 (.call 60 [(.tmp 15), (qK 21), (.tmp 16)])] none
def f78r3 : ICode := .region [
 qM 18 0,
 qO 19 (.nilCheck (.tmp 18)),
 qO 20 (.fieldAddr 7 (.tmp 19)),
 qO 21 (.loadN 4 (.tmp 20)),
 qO 6 (.new [(.bool false), (.bool false), (.bool false), (.bool false)] 38),
  ⟨none, .store 4 (.tmp 6) (.tmp 21), none⟩] none
def f78r4 : ICode := .region [
 qO 22 (.build [qZ, (.slice none 0 0), (.bool false), qZ, qZ, (.bool false), qZ, (.string ⟨⟨[]⟩⟩), (.slice none 0 0)] [(0, 1, (qK 11))]),
 qO 7 (.new [qZ, (.slice none 0 0), (.bool false), qZ, qZ, (.bool false), qZ, (.string ⟨⟨[]⟩⟩), (.slice none 0 0)] 28),
  ⟨none, .store 9 (.tmp 7) (.tmp 22), none⟩] none
def f78r5 : ICode := .region [
 qM 27 0,
 qO 28 (.call 39 [(.tmp 27), (.const (.string ⟨⟨[63, 80]⟩⟩))]),
 qM 26 28] none
def f78r6 : ICode := .region [
 qM 29 0,
 qM 30 1,
 qO 31 (.call 94 [(.tmp 29), (.tmp 30)]),
 qO 32 (.fieldAddr 7 (.tmp 7)),
  ⟨none, .store 1 (.tmp 32) (.tmp 31), none⟩] none
def f78r7 : ICode := .region [
 qM 33 0,
 qO 34 (.fieldAddr 7 (.tmp 7)),
 qO 35 (.load1 (.tmp 34)),
 qO 36 (.call 95 [(.tmp 33), (.tmp 35)]),
 qO 37 (.fieldAddr 6 (.tmp 7)),
  ⟨none, .store 1 (.tmp 37) (.tmp 36), none⟩] none
def f78r8 : ICode := .region [
 qM 39 0,
 qO 40 (.call 39 [(.tmp 39), (.const (.string ⟨⟨[63]⟩⟩))]),
 qM 38 40] none
def f78r9 : ICode := .region [
 qO 41 (.build [qZ, (.slice none 0 0), (.bool false), qZ, qZ, (.bool false), qZ, (.string ⟨⟨[]⟩⟩), (.slice none 0 0)] []),
  ⟨none, .store 9 (.tmp 7) (.tmp 41), none⟩] none
def f78r10 : ICode := .region [
 qM 42 0,
 qM 43 1,
 qO 44 (.call 96 [(.tmp 42), (.tmp 43)]),
 qO 45 (.un .not (.tmp 44))] none
def f78r11 : ICode := .region [
 qO 46 (.build [qZ, (.slice none 0 0), (.bool false), qZ, qZ, (.bool false), qZ, (.string ⟨⟨[]⟩⟩), (.slice none 0 0)] []),
  ⟨none, .store 9 (.tmp 4) (.tmp 46), none⟩,
 qO 5 (.move (.const (.bool false)))] none
def f78r12 : ICode := .region [
 qM 23 0,
 qO 24 (.call 95 [(.tmp 23), (.const (.string ⟨⟨[]⟩⟩))]),
 qO 25 (.fieldAddr 6 (.tmp 7)),
  ⟨none, .store 1 (.tmp 25) (.tmp 24), none⟩] none
def f78r13 : ICode := .region [
 qM 47 0,
 qM 48 0,
 qO 49 (.nilCheck (.tmp 48)),
 qO 50 (.fieldAddr 5 (.tmp 49)),
 qO 51 (.load1 (.tmp 50)),
 qM 52 1,
 qO 53 (.buildSlice 3 1 [qZ] [(0, 1, (.tmp 52))]),
 qO 54 (.append 3 1 8 (.tmp 51) (.tmp 53)),
 qO 55 (.nilCheck (.tmp 47)),
 qO 56 (.fieldAddr 5 (.tmp 55)),
  ⟨none, .store 1 (.tmp 56) (.tmp 54), none⟩] none
def f78r14 : ICode := .region [
 qM 57 0,
 qO 58 (.call 21 [(.tmp 57)]),
 qO 8 (.new [qZ, (.slice none 0 0), (.bool false), qZ, qZ, (.bool false), qZ, (.string ⟨⟨[]⟩⟩), (.slice none 0 0)] 28),
  ⟨none, .store 9 (.tmp 8) (.tmp 58), none⟩] none
def f78r15 : ICode := .region [
 qM 59 0,
 qO 60 (.call 39 [(.tmp 59), (.const (.string ⟨⟨[41]⟩⟩))]),
 qO 61 (.un .not (.tmp 60))] none
def f78r16 : ICode := .region [
 qM 62 0,
 qM 63 0,
 qO 64 (.nilCheck (.tmp 63)),
 qO 65 (.fieldAddr 5 (.tmp 64)),
 qO 66 (.load1 (.tmp 65)),
 qM 67 0,
 qO 68 (.nilCheck (.tmp 67)),
 qO 69 (.fieldAddr 5 (.tmp 68)),
 qO 70 (.load1 (.tmp 69)),
 qO 71 (.len 1 (.tmp 70)),
 qO 72 (.bin .sub (.tmp 71) (qK 1)),
 qO 73 (.indexSl 1 (.tmp 66) (.tmp 72)),
 qO 74 (.load1 (.tmp 73)),
 qO 75 (.call 60 [(.tmp 62), (qK 25), (.tmp 74)])] (some ⟨[], []⟩)
def f78r17 : ICode := .region [
 qM 76 0,
 qM 77 0,
 qO 78 (.nilCheck (.tmp 77)),
 qO 79 (.fieldAddr 5 (.tmp 78)),
 qO 80 (.load1 (.tmp 79)),
 qM 81 0,
 qO 82 (.nilCheck (.tmp 81)),
 qO 83 (.fieldAddr 5 (.tmp 82)),
 qO 84 (.load1 (.tmp 83)),
 qO 85 (.len 1 (.tmp 84)),
 qO 86 (.bin .sub (.tmp 85) (qK 1)),
 qO 87 (.sliceSl 1 (.tmp 80) none (some (.tmp 86))),
 qO 88 (.nilCheck (.tmp 76)),
 qO 89 (.fieldAddr 5 (.tmp 88)),
  ⟨none, .store 1 (.tmp 89) (.tmp 87), none⟩] (some ⟨[], []⟩)
def f78r18 : ICode := .region [
 qM 90 0,
 qO 91 (.loadN 4 (.tmp 6)),
 qO 92 (.nilCheck (.tmp 90)),
 qO 93 (.fieldAddr 7 (.tmp 92)),
  ⟨none, .store 4 (.tmp 93) (.tmp 91), none⟩] none
def f78r19 : ICode := .region [
 qO 94 (.fieldAddr 0 (.tmp 7)),
 qO 95 (.load1 (.tmp 94)),
 qO 96 (.bin .neq (.tmp 95) (qK 11))] none
def f78r20 : ICode := .region [
 qO 97 (.loadN 9 (.tmp 8)),
  ⟨none, .store 9 (.tmp 4) (.tmp 97), none⟩,
 qO 5 (.move (.const (.bool true)))] none
def f78r21 : ICode := .region [
 qO 98 (.loadN 9 (.tmp 8)),
 qO 99 (.buildSlice 28 1 [qZ, (.slice none 0 0), (.bool false), qZ, qZ, (.bool false), qZ, (.string ⟨⟨[]⟩⟩), (.slice none 0 0)] [(0, 9, (.tmp 98))]),
 qO 100 (.fieldAddr 8 (.tmp 7)),
  ⟨none, .store 1 (.tmp 100) (.tmp 99), none⟩] none
def f78r22 : ICode := .region [
 qO 101 (.loadN 9 (.tmp 7)),
  ⟨none, .store 9 (.tmp 4) (.tmp 101), none⟩,
 qO 5 (.move (.const (.bool true)))] none
/- (*ferret/syn.parser).brackets -/
def f78 : IFn := ⟨102, [.inr (4, (some 9)), .inl 5], (.seq f78r0 (.seq (.seq f78r1 (.cond (.tmp 14) f78r2 .skip)) (.seq f78r3 (.seq f78r4 (.seq (.block 0 (.seq f78r5 (.cond (.tmp 26) (.seq f78r6 f78r7) (.seq f78r8 (.cond (.tmp 38) (.seq f78r9 (.seq f78r10 (.cond (.tmp 45) (.seq f78r11 .ret) .skip))) f78r12))))) (.seq f78r13 (.seq f78r14 (.seq (.seq f78r15 (.cond (.tmp 61) f78r16 .skip)) (.seq f78r17 (.seq f78r18 (.seq (.seq f78r19 (.cond (.tmp 96) (.seq f78r20 .ret) .skip)) (.seq f78r21 (.seq f78r22 .ret)))))))))))))⟩
def f79r0 : ICode := .region [
 qO 2 (.move (.const (.slice none 0 0)))] none
def f79r1 : ICode := .region [
 qM 3 0,
 qM 4 0,
 qO 5 (.build [qZ, qZ] [(0, 1, (.tmp 3)), (1, 1, (.tmp 4))]),
 qO 6 (.buildSlice 53 1 [qZ, qZ] [(0, 2, (.tmp 5))]),
 qO 7 (.call 67 [(.tmp 6)]),
 qM 2 7] none
/- ferret/syn.one -/
def f79 : IFn := ⟨8, [.inl 2], (.seq f79r0 (.seq f79r1 .ret))⟩
def f80r0 : ICode := .region [
 qO 4 (.new [qZ, (.slice none 0 0), (.bool false), qZ, qZ, (.bool false), qZ, (.string ⟨⟨[]⟩⟩), (.slice none 0 0)] 28)] none
def f80r1 : ICode := .region [
 qM 5 1,
 qM 6 0,
 qO 7 (.nilCheck (.tmp 6)),
 qO 8 (.fieldAddr 7 (.tmp 7)),
 qO 9 (.fieldAddr 0 (.tmp 8)),
 qO 10 (.load1 (.tmp 9)),
 qO 11 (.build [qZ, (.slice none 0 0), (.bool false), qZ, qZ, (.bool false), qZ, (.string ⟨⟨[]⟩⟩), (.slice none 0 0)] [(0, 1, (qK 1)), (1, 1, (.tmp 5)), (2, 1, (.tmp 10))]),
  ⟨none, .store 9 (.tmp 4) (.tmp 11), none⟩] none
/- (*ferret/syn.parser).class -/
def f80 : IFn := ⟨12, [.inr (4, (some 9))], (.seq f80r0 (.seq f80r1 .ret))⟩
def f81r0 : ICode := .region [
 qO 6 (.move (qK 0))] none
def f81r1 : ICode := .region [
 qM 7 0] none
def f81r2 : ICode := .region [
 qM 8 1,
 qM 6 8] none
def f81r3 : ICode := .region [
 qM 9 2,
 qM 6 9] none
/- ferret/syn.pick[int] -/
def f81 : IFn := ⟨10, [.inl 6], (.seq f81r0 (.seq (.seq f81r1 (.cond (.tmp 7) (.seq f81r2 .ret) .skip)) (.seq f81r3 .ret)))⟩
def f82r0 : ICode := .region [
 qO 4 (.move (.const (.slice none 0 0)))] none
def f82r1 : ICode := .region [
 qM 13 0,
 qO 14 (.call 39 [(.tmp 13), (.const (.string ⟨⟨[94]⟩⟩))]),
 qM 5 14] none
def f82r2 : ICode := .region [
 qO 6 (.move (.const (.slice none 0 0)))] none
def f82r3 : ICode := .region [
 qO 7 (.move (.const (.bool true)))] none
def f82r4 : ICode := .region [
 qM 15 7,
 qM 16 15,
  ⟨(some 17), .move (.tmp 0), (some ((some 16), false))⟩,
  ⟨(some 18), .call 59 [(.tmp 17), (qK 0)], (some ((some 16), false))⟩,
  ⟨(some 19), .bin .neq (.tmp 18) (qK 93), (some ((some 16), false))⟩,
 qO 20 (.pick (.tmp 16) (.const (.bool true)) (.tmp 19))] none
def f82r5 : ICode := .region [
 qM 21 0,
 qO 22 (.call 59 [(.tmp 21), (qK 0)]),
 qO 23 (.bin .eql (.tmp 22) (.const (.int .i64 (.negSucc 0))))] none
def f82r6 : ICode := .region [
 qM 24 0,
 qM 25 1,
 qO 26 (.call 60 [(.tmp 24), (qK 24), (.tmp 25)])] none
def f82r7 : ICode := .region [
 qM 27 0,
 qO 28 (.nilCheck (.tmp 27)),
 qO 29 (.fieldAddr 4 (.tmp 28)),
 qO 30 (.load1 (.tmp 29)),
 qM 8 30] none
def f82r8 : ICode := .region [
 qM 32 0,
 qO 33 (.call 97 [(.tmp 32)]),
 qM 31 33,
 qO 34 (.extract (.tmp 31) 0),
 qO 35 (.extract (.tmp 31) 1),
 qM 9 34,
 qM 10 35] none
def f82r9 : ICode := .region [
 qM 36 10,
 qO 37 (.bin .geq (.tmp 36) (qK 0)),
 qM 38 37,
  ⟨(some 39), .move (.tmp 0), (some ((some 38), true))⟩,
  ⟨(some 40), .call 59 [(.tmp 39), (qK 0)], (some ((some 38), true))⟩,
  ⟨(some 41), .bin .eql (.tmp 40) (qK 45), (some ((some 38), true))⟩,
 qO 42 (.pick (.tmp 38) (.tmp 41) (.const (.bool false))),
 qM 43 42,
  ⟨(some 44), .move (.tmp 0), (some ((some 43), true))⟩,
  ⟨(some 45), .call 59 [(.tmp 44), (qK 1)], (some ((some 43), true))⟩,
  ⟨(some 46), .bin .neq (.tmp 45) (qK 93), (some ((some 43), true))⟩,
 qO 47 (.pick (.tmp 43) (.tmp 46) (.const (.bool false))),
 qM 48 47,
  ⟨(some 49), .move (.tmp 0), (some ((some 48), true))⟩,
  ⟨(some 50), .call 59 [(.tmp 49), (qK 1)], (some ((some 48), true))⟩,
  ⟨(some 51), .bin .neq (.tmp 50) (.const (.int .i64 (.negSucc 0))), (some ((some 48), true))⟩,
 qO 52 (.pick (.tmp 48) (.tmp 51) (.const (.bool false)))] none
def f82r10 : ICode := .region [
 qM 53 0,
 qO 54 (.nilCheck (.tmp 53)),
 qO 55 (.fieldAddr 4 (.tmp 54)),
 qO 56 (.load1 (.tmp 55)),
 qO 57 (.bin .add (.tmp 56) (qK 1)),
 qO 58 (.nilCheck (.tmp 53)),
 qO 59 (.fieldAddr 4 (.tmp 58)),
  ⟨none, .store 1 (.tmp 59) (.tmp 57), none⟩] none
def f82r11 : ICode := .region [
 qM 61 0,
 qO 62 (.call 97 [(.tmp 61)]),
 qM 60 62,
 qO 63 (.extract (.tmp 60) 0),
 qO 64 (.extract (.tmp 60) 1),
 qM 11 63,
 qM 12 64] none
def f82r12 : ICode := .region [
 qM 65 12,
 qM 66 10,
 qO 67 (.bin .lss (.tmp 65) (.tmp 66))] none
def f82r13 : ICode := .region [
 qM 68 0,
 qM 69 8,
 qO 70 (.call 60 [(.tmp 68), (qK 22), (.tmp 69)])] none
def f82r14 : ICode := .region [
 qM 71 10,
 qM 72 12,
 qO 73 (.build [qZ, qZ] [(0, 1, (.tmp 71)), (1, 1, (.tmp 72))]),
 qO 74 (.buildSlice 53 1 [qZ, qZ] [(0, 2, (.tmp 73))]),
 qO 75 (.call 67 [(.tmp 74)]),
 qM 9 75] none
def f82r15 : ICode := .region [
 qM 76 6,
 qM 77 9,
 qO 78 (.call 98 [(.tmp 76), (.tmp 77)]),
 qM 6 78] none
def f82r16 : ICode := .region [
 qO 7 (.move (.const (.bool false)))] none
def f82r17 : ICode := .region [
 qM 79 0,
 qO 80 (.nilCheck (.tmp 79)),
 qO 81 (.fieldAddr 4 (.tmp 80)),
 qO 82 (.load1 (.tmp 81)),
 qO 83 (.bin .add (.tmp 82) (qK 1)),
 qO 84 (.nilCheck (.tmp 79)),
 qO 85 (.fieldAddr 4 (.tmp 84)),
  ⟨none, .store 1 (.tmp 85) (.tmp 83), none⟩] none
def f82r18 : ICode := .region [
 qM 86 5] none
def f82r19 : ICode := .region [
 qM 87 6,
 qO 88 (.call 88 [(.tmp 87)]),
 qM 6 88] none
def f82r20 : ICode := .region [
 qM 89 6,
 qM 4 89] none
/- (*ferret/syn.parser).list -/
def f82 : IFn := ⟨90, [.inl 4], (.seq f82r0 (.seq f82r1 (.seq f82r2 (.seq (.seq f82r3 (.block 0 (.loop (.seq (.seq f82r4 (.cond (.tmp 20) .skip (.exit 0))) (.seq (.block 1 (.seq (.seq f82r5 (.cond (.tmp 23) f82r6 .skip)) (.seq f82r7 (.seq f82r8 (.seq (.seq f82r9 (.cond (.tmp 52) (.seq f82r10 (.seq f82r11 (.seq (.seq f82r12 (.cond (.tmp 67) f82r13 .skip)) f82r14))) .skip)) f82r15))))) f82r16))))) (.seq f82r17 (.seq (.seq f82r18 (.cond (.tmp 86) f82r19 .skip)) (.seq f82r20 .ret)))))))⟩
def f83r0 : ICode := .region [
 qO 4 (.move (.const (.slice none 0 0))),
 qO 5 (.move (qK 0))] none
def f83r1 : ICode := .region [
 qM 12 0,
 qO 13 (.call 59 [(.tmp 12), (qK 0)]),
 qM 6 13] none
def f83r2 : ICode := .region [
 qM 14 0,
 qO 15 (.nilCheck (.tmp 14)),
 qO 16 (.fieldAddr 4 (.tmp 15)),
 qO 17 (.load1 (.tmp 16)),
 qO 18 (.bin .add (.tmp 17) (qK 1)),
 qO 19 (.nilCheck (.tmp 14)),
 qO 20 (.fieldAddr 4 (.tmp 19)),
  ⟨none, .store 1 (.tmp 20) (.tmp 18), none⟩] none
def f83r3 : ICode := .region [
 qM 22 6,
 qO 23 (.bin .lss (.tmp 22) (qK 33)),
 qM 24 23,
  ⟨(some 25), .move (.tmp 6), (some ((some 24), false))⟩,
  ⟨(some 26), .bin .gtr (.tmp 25) (qK 126), (some ((some 24), false))⟩,
 qO 27 (.pick (.tmp 24) (.const (.bool true)) (.tmp 26)),
 qM 21 27] none
def f83r4 : ICode := .region [
 qM 28 0,
 qM 29 1,
 qO 30 (.call 60 [(.tmp 28), (qK 20), (.tmp 29)])] none
def f83r5 : ICode := .region [
 qM 32 6,
 qO 33 (.bin .eql (.tmp 32) (qK 112)),
 qM 34 33,
  ⟨(some 35), .move (.tmp 6), (some ((some 34), false))⟩,
  ⟨(some 36), .bin .eql (.tmp 35) (qK 80), (some ((some 34), false))⟩,
 qO 37 (.pick (.tmp 34) (.const (.bool true)) (.tmp 36)),
 qM 31 37] none
def f83r6 : ICode := .region [
 qM 38 0,
 qM 39 1,
 qO 40 (.call 99 [(.tmp 38), (.tmp 39)]),
 qM 7 40] none
def f83r7 : ICode := .region [
 qM 41 6,
 qO 42 (.bin .eql (.tmp 41) (qK 80))] none
def f83r8 : ICode := .region [
 qM 43 7,
 qO 44 (.call 88 [(.tmp 43)]),
 qM 7 44] none
def f83r9 : ICode := .region [
 qM 45 7,
 qM 4 45,
 qO 5 (.move (.const (.int .i64 (.negSucc 0))))] none
def f83r10 : ICode := .region [
 qM 47 6,
 qO 48 (.bin .eql (.tmp 47) (qK 120)),
 qM 46 48] none
def f83r11 : ICode := .region [
 qM 49 0,
 qM 50 1,
 qO 51 (.call 100 [(.tmp 49), (.tmp 50)]),
 qM 8 51] none
def f83r12 : ICode := .region [
 qM 52 8,
 qO 53 (.call 79 [(.tmp 52)]),
 qM 54 8,
 qM 4 53,
 qM 5 54] none
def f83r13 : ICode := .region [
 qM 56 6,
 qO 57 (.conv .u8 (.tmp 56)),
 qO 58 (.call 101 [(.tmp 57)]),
 qM 55 58,
 qO 59 (.extract (.tmp 55) 0),
 qO 60 (.extract (.tmp 55) 1),
 qM 9 59,
 qM 10 60] none
def f83r14 : ICode := .region [
 qM 61 10] none
def f83r15 : ICode := .region [
 qM 62 9,
 qM 4 62,
 qO 5 (.move (.const (.int .i64 (.negSucc 0))))] none
def f83r16 : ICode := .region [
 qM 63 6,
 qO 64 (.conv .u8 (.tmp 63)),
 qO 65 (.call 102 [(.const (.string ⟨⟨[110, 116, 114, 102, 118]⟩⟩)), (.tmp 64)]),
 qM 11 65] none
def f83r17 : ICode := .region [
 qM 66 11,
 qO 67 (.bin .geq (.tmp 66) (qK 0))] none
def f83r18 : ICode := .region [
 qM 68 11,
 qO 69 (.indexStr (.const (.string ⟨⟨[10, 9, 13, 12, 11]⟩⟩)) (.tmp 68)),
 qO 70 (.conv .i64 (.tmp 69)),
 qM 6 70] none
def f83r19 : ICode := .region [
 qM 71 6,
 qO 72 (.call 79 [(.tmp 71)]),
 qM 73 6,
 qM 4 72,
 qM 5 73] none
def f83r20 : ICode := .region [
 qM 74 6,
 qO 75 (.bin .geq (.tmp 74) (qK 48)),
 qM 76 75,
  ⟨(some 77), .move (.tmp 6), (some ((some 76), true))⟩,
  ⟨(some 78), .bin .leq (.tmp 77) (qK 57), (some ((some 76), true))⟩,
 qO 79 (.pick (.tmp 76) (.tmp 78) (.const (.bool false))),
 qM 80 79,
  ⟨(some 81), .move (.tmp 6), (some ((some 80), false))⟩,
  ⟨(some 82), .bin .or (.tmp 81) (qK 32), (some ((some 80), false))⟩,
  ⟨(some 83), .bin .geq (.tmp 82) (qK 97), (some ((some 80), false))⟩,
  ⟨(some 84), .move (.tmp 83), (some ((some 80), false))⟩,
  ⟨(some 85), .move (.tmp 6), (some ((some 84), true))⟩,
  ⟨(some 86), .bin .or (.tmp 85) (qK 32), (some ((some 84), true))⟩,
  ⟨(some 87), .bin .leq (.tmp 86) (qK 122), (some ((some 84), true))⟩,
  ⟨(some 88), .pick (.tmp 84) (.tmp 87) (.const (.bool false)), (some ((some 80), false))⟩,
 qO 89 (.pick (.tmp 80) (.const (.bool true)) (.tmp 88))] none
def f83r21 : ICode := .region [
 qM 90 0,
 qM 91 1,
 qO 92 (.call 60 [(.tmp 90), (qK 20), (.tmp 91)])] none
def f83r22 : ICode := .region [
 qM 93 6,
 qO 94 (.call 79 [(.tmp 93)]),
 qM 95 6,
 qM 4 94,
 qM 5 95] none
/- (*ferret/syn.parser).escape -/
def f83 : IFn := ⟨96, [.inl 4, .inl 5], (.seq f83r0 (.seq f83r1 (.seq f83r2 (.seq (.block 0 (.seq f83r3 (.cond (.tmp 21) f83r4 (.seq f83r5 (.cond (.tmp 31) (.seq f83r6 (.seq (.seq f83r7 (.cond (.tmp 42) f83r8 .skip)) (.seq f83r9 .ret))) (.seq f83r10 (.cond (.tmp 46) (.seq f83r11 (.seq f83r12 .ret)) .skip))))))) (.seq (.seq f83r13 (.seq f83r14 (.cond (.tmp 61) (.seq f83r15 .ret) .skip))) (.seq (.seq f83r16 (.seq f83r17 (.cond (.tmp 67) (.seq f83r18 (.seq f83r19 .ret)) .skip))) (.seq (.seq f83r20 (.cond (.tmp 89) f83r21 .skip)) (.seq f83r22 .ret))))))))⟩
def f84r0 : ICode := .region [
 qO 2 (.move (.const (.slice none 0 0)))] none
def f84r1 : ICode := .region [
 qM 3 0,
 qO 4 (.nilEq false 1 (.tmp 3) (.const (.slice none 0 0)))] none
def f84r2 : ICode := .region [
 qO 2 (.move (.const (.slice none 0 0)))] none
def f84r3 : ICode := .region [
 qO 5 (.bad),
 qM 6 0,
 qO 7 (.append 53 2 16 (.tmp 5) (.tmp 6)),
 qM 2 7] none
/- slices.Clone[ferret/sets.Set,ferret/api.Range] -/
def f84 : IFn := ⟨8, [.inl 2], (.seq f84r0 (.seq (.seq f84r1 (.cond (.tmp 4) (.seq f84r2 .ret) .skip)) (.seq f84r3 .ret)))⟩
def f27r0 : ICode := .region [
 qO 0 (.move (.const (.slice none 0 0)))] none
def f27r1 : ICode := .region [
 qO 1 (.build [qZ, qZ, qZ] [(0, 1, (qK 65)), (1, 1, (qK 90)), (2, 1, (qK 32))]),
 qO 2 (.build [qZ, qZ, qZ] [(0, 1, (qK 192)), (1, 1, (qK 214)), (2, 1, (qK 32))]),
 qO 3 (.build [qZ, qZ, qZ] [(0, 1, (qK 216)), (1, 1, (qK 222)), (2, 1, (qK 32))]),
 qO 4 (.build [qZ, qZ, qZ] [(0, 1, (qK 913)), (1, 1, (qK 929)), (2, 1, (qK 32))]),
 qO 5 (.build [qZ, qZ, qZ] [(0, 1, (qK 931)), (1, 1, (qK 937)), (2, 1, (qK 32))]),
 qO 6 (.build [qZ, qZ, qZ] [(0, 1, (qK 1040)), (1, 1, (qK 1071)), (2, 1, (qK 32))]),
 qO 7 (.build [qZ, qZ, qZ] [(0, 1, (qK 66560)), (1, 1, (qK 66599)), (2, 1, (qK 40))]),
 qO 8 (.buildSlice 84 7 [qZ, qZ, qZ, qZ, qZ, qZ, qZ, qZ, qZ, qZ, qZ, qZ, qZ, qZ, qZ, qZ, qZ, qZ, qZ, qZ, qZ] [(0, 3, (.tmp 1)), (3, 3, (.tmp 2)), (6, 3, (.tmp 3)), (9, 3, (.tmp 4)), (12, 3, (.tmp 5)), (15, 3, (.tmp 6)), (18, 3, (.tmp 7))]),
 qM 0 8] none
/- ferret/ucd.shifts -/
def f27 : IFn := ⟨9, [.inl 0], (.seq f27r0 (.seq f27r1 .ret))⟩
def f85r0 : ICode := .region [
 qO 4 (.move (.const (.slice none 0 0)))] none
def f85r1 : ICode := .region [
 qO 5 (.move (.const (.slice none 0 0)))] none
def f85r2 : ICode := .region [
 qO 6 (.move (qK 0)),
 qO 7 (.move (qK 0))] none
def f85r3 : ICode := .region [
 qM 9 6,
 qM 10 0,
 qO 11 (.len 1 (.tmp 10)),
 qO 12 (.bin .lss (.tmp 9) (.tmp 11)),
 qM 13 12,
  ⟨(some 14), .move (.tmp 7), (some ((some 13), true))⟩,
  ⟨(some 15), .move (.tmp 1), (some ((some 13), true))⟩,
  ⟨(some 16), .len 1 (.tmp 15), (some ((some 13), true))⟩,
  ⟨(some 17), .bin .lss (.tmp 14) (.tmp 16), (some ((some 13), true))⟩,
 qO 18 (.pick (.tmp 13) (.tmp 17) (.const (.bool false)))] none
def f85r4 : ICode := .region [
 qM 19 0,
 qM 20 6,
 qO 21 (.indexSl 2 (.tmp 19) (.tmp 20)),
 qO 22 (.fieldAddr 0 (.tmp 21)),
 qO 23 (.load1 (.tmp 22)),
 qM 24 1,
 qM 25 7,
 qO 26 (.indexSl 2 (.tmp 24) (.tmp 25)),
 qO 27 (.fieldAddr 0 (.tmp 26)),
 qO 28 (.load1 (.tmp 27)),
 qO 29 (.minmax true (.tmp 23) (.tmp 28)),
 qM 30 0,
 qM 31 6,
 qO 32 (.indexSl 2 (.tmp 30) (.tmp 31)),
 qO 33 (.fieldAddr 1 (.tmp 32)),
 qO 34 (.load1 (.tmp 33)),
 qM 35 1,
 qM 36 7,
 qO 37 (.indexSl 2 (.tmp 35) (.tmp 36)),
 qO 38 (.fieldAddr 1 (.tmp 37)),
 qO 39 (.load1 (.tmp 38)),
 qO 40 (.minmax false (.tmp 34) (.tmp 39)),
 qO 41 (.build [qZ, qZ] [(0, 1, (.tmp 29)), (1, 1, (.tmp 40))]),
 qO 8 (.new [qZ, qZ] 53),
  ⟨none, .store 2 (.tmp 8) (.tmp 41), none⟩] (some ⟨[], []⟩)
def f85r5 : ICode := .region [
 qO 42 (.fieldAddr 0 (.tmp 8)),
 qO 43 (.load1 (.tmp 42)),
 qO 44 (.fieldAddr 1 (.tmp 8)),
 qO 45 (.load1 (.tmp 44)),
 qO 46 (.bin .leq (.tmp 43) (.tmp 45))] none
def f85r6 : ICode := .region [
 qM 47 5,
 qO 48 (.loadN 2 (.tmp 8)),
 qO 49 (.buildSlice 53 1 [qZ, qZ] [(0, 2, (.tmp 48))]),
 qO 50 (.append 53 2 16 (.tmp 47) (.tmp 49)),
 qM 5 50] none
def f85r7 : ICode := .region [
 qM 51 0,
 qM 52 6,
 qO 53 (.indexSl 2 (.tmp 51) (.tmp 52)),
 qO 54 (.fieldAddr 1 (.tmp 53)),
 qO 55 (.load1 (.tmp 54)),
 qM 56 1,
 qM 57 7,
 qO 58 (.indexSl 2 (.tmp 56) (.tmp 57)),
 qO 59 (.fieldAddr 1 (.tmp 58)),
 qO 60 (.load1 (.tmp 59)),
 qO 61 (.bin .lss (.tmp 55) (.tmp 60))] (some ⟨[], []⟩)
def f85r8 : ICode := .region [
 qM 62 6,
 qO 63 (.bin .add (.tmp 62) (qK 1)),
 qM 6 63] none
def f85r9 : ICode := .region [
 qM 64 7,
 qO 65 (.bin .add (.tmp 64) (qK 1)),
 qM 7 65] none
def f85r10 : ICode := .region [
 qM 66 5,
 qM 4 66] none
/- (ferret/sets.Set).And -/
def f85 : IFn := ⟨67, [.inl 4], (.seq f85r0 (.seq f85r1 (.seq (.seq f85r2 (.block 0 (.loop (.seq (.seq f85r3 (.cond (.tmp 18) .skip (.exit 0))) (.block 1 (.seq f85r4 (.seq (.seq f85r5 (.cond (.tmp 46) f85r6 .skip)) (.seq f85r7 (.cond (.tmp 61) f85r8 f85r9))))))))) (.seq f85r10 .ret))))⟩
def f25r0 : ICode := .region [
 qO 0 (.move (.const (.slice none 0 0)))] none
def f25r1 : ICode := .region [
 qO 1 (.buildSlice 3 3 [qZ, qZ, qZ] [(0, 1, (qK 75)), (1, 1, (qK 107)), (2, 1, (qK 8490))]),
 qO 2 (.buildSlice 3 3 [qZ, qZ, qZ] [(0, 1, (qK 83)), (1, 1, (qK 115)), (2, 1, (qK 383))]),
 qO 3 (.buildSlice 3 3 [qZ, qZ, qZ] [(0, 1, (qK 197)), (1, 1, (qK 229)), (2, 1, (qK 8491))]),
 qO 4 (.buildSlice 3 3 [qZ, qZ, qZ] [(0, 1, (qK 181)), (1, 1, (qK 924)), (2, 1, (qK 956))]),
 qO 5 (.buildSlice 3 3 [qZ, qZ, qZ] [(0, 1, (qK 931)), (1, 1, (qK 962)), (2, 1, (qK 963))]),
 qO 6 (.buildSlice 44 5 [(.slice none 0 0), (.slice none 0 0), (.slice none 0 0), (.slice none 0 0), (.slice none 0 0)] [(0, 1, (.tmp 1)), (1, 1, (.tmp 2)), (2, 1, (.tmp 3)), (3, 1, (.tmp 4)), (4, 1, (.tmp 5))]),
 qM 0 6] none
/- ferret/ucd.rings -/
def f25 : IFn := ⟨7, [.inl 0], (.seq f25r0 (.seq f25r1 .ret))⟩
def f87r0 : ICode := .region [
 qO 2 (.box 25 (.tmp 0)),
 qO 3 (.box 3 (.tmp 1)),
 qO 4 (.move (.const (.bool false)))] none
def f87r1 : ICode := .region [
 qO 6 (.load1 (.tmp 2)),
 qO 7 (.len 1 (.tmp 6)),
 qO 8 (.mkFunc (.func 105) [] [(.tmp 2), (.tmp 3)]),
 qO 9 (.call 104 [(.tmp 7), (.tmp 8)]),
 qM 5 9] none
def f87r2 : ICode := .region [
 qM 10 5,
 qO 11 (.load1 (.tmp 2)),
 qO 12 (.len 1 (.tmp 11)),
 qO 13 (.bin .lss (.tmp 10) (.tmp 12)),
 qM 14 13,
  ⟨(some 15), .load1 (.tmp 2), (some ((some 14), true))⟩,
  ⟨(some 16), .move (.tmp 5), (some ((some 14), true))⟩,
  ⟨(some 17), .indexSl 2 (.tmp 15) (.tmp 16), (some ((some 14), true))⟩,
  ⟨(some 18), .fieldAddr 0 (.tmp 17), (some ((some 14), true))⟩,
  ⟨(some 19), .load1 (.tmp 18), (some ((some 14), true))⟩,
  ⟨(some 20), .load1 (.tmp 3), (some ((some 14), true))⟩,
  ⟨(some 21), .bin .leq (.tmp 19) (.tmp 20), (some ((some 14), true))⟩,
 qO 22 (.pick (.tmp 14) (.tmp 21) (.const (.bool false))),
 qM 4 22] (some ⟨[], []⟩)
/- (ferret/sets.Set).Has -/
def f87 : IFn := ⟨23, [.inl 4], (.seq f87r0 (.seq f87r1 (.seq f87r2 .ret)))⟩
def f86r0 : ICode := .region [
 qO 4 (.move (.const (.bool false)))] none
def f86r1 : ICode := .region [
 qM 5 0,
 qM 6 1,
 qO 7 (.call 103 [(.tmp 5), (.tmp 6)]),
 qO 8 (.bin .geq (.tmp 7) (qK 0)),
 qM 4 8] none
/- slices.ContainsFunc[[]int,int] -/
def f86 : IFn := ⟨9, [.inl 4], (.seq f86r0 (.seq f86r1 .ret))⟩
def f90r0 : ICode := .region [
 qO 5 (.move (.const (.bool false)))] none
def f90r1 : ICode := .region [
 qO 6 (.load1 (.tmp 2)),
 qM 7 0,
 qO 8 (.indexSl 2 (.tmp 6) (.tmp 7)),
 qO 9 (.fieldAddr 0 (.tmp 8)),
 qO 10 (.load1 (.tmp 9)),
 qO 11 (.load1 (.tmp 2)),
 qM 12 1,
 qO 13 (.indexSl 2 (.tmp 11) (.tmp 12)),
 qO 14 (.fieldAddr 0 (.tmp 13)),
 qO 15 (.load1 (.tmp 14)),
 qO 16 (.bin .lss (.tmp 10) (.tmp 15)),
 qM 5 16] (some ⟨[], []⟩)
/- ferret/sets.Of$1 -/
def f90 : IFn := ⟨17, [.inl 5], (.seq f90r0 (.seq f90r1 .ret))⟩
def f89r0 : ICode := .region [
 qM 8 0,
 qO 9 (.call 106 [(.tmp 8)]),
 qO 4 (.new [(.pointer none), (.pointer none), (.int .u64 (.ofNat 0))] 152),
  ⟨none, .store 3 (.tmp 4) (.tmp 9), none⟩] none
def f89r1 : ICode := .region [
 qM 10 0,
 qO 11 (.call 107 [(.tmp 10)]),
 qM 5 11] none
def f89r2 : ICode := .region [
 qO 12 (.loadN 3 (.tmp 4)),
 qO 13 (.call 108 [(.tmp 12)]),
 qM 6 13] none
def f89r3 : ICode := .region [
 qM 14 6,
 qO 15 (.conv .u64 (.tmp 14)),
 qO 16 (.call 109 [(.tmp 15)]),
 qM 7 16] none
def f89r4 : ICode := .region [
 qM 17 1,
 qM 18 5,
 qO 19 (.build [.nilFunc, .nilFunc] [(0, 1, (.tmp 17)), (1, 1, (.tmp 18))]),
 qM 20 6,
 qM 21 7,
 qO 22 (.call 110 [(.tmp 19), (qK 0), (.tmp 20), (.tmp 21)])] none
/- sort.Slice -/
def f89 : IFn := ⟨23, [], (.seq f89r0 (.seq f89r1 (.seq f89r2 (.seq f89r3 f89r4))))⟩
def f88r0 : ICode := .region [
 qO 2 (.move (.const (.slice none 0 0)))] none
def f88r1 : ICode := .region [
 qO 3 (.move (.const (.slice none 0 0)))] none
def f88r2 : ICode := .region [
 qO 4 (.move (qK 0))] none
def f88r3 : ICode := .region [
 qM 7 0,
 qO 8 (.len 1 (.tmp 7)),
 qO 9 (.move (qK 0))] none
def f88r4 : ICode := .region [
 qO 10 (.bin .lss (.tmp 9) (.tmp 8))] none
def f88r5 : ICode := .region [
 qO 11 (.indexSl 2 (.tmp 7) (.tmp 9)),
 qO 12 (.loadN 2 (.tmp 11)),
 qO 6 (.new [qZ, qZ] 53),
  ⟨none, .store 2 (.tmp 6) (.tmp 12), none⟩] none
def f88r6 : ICode := .region [
 qM 13 4,
 qO 14 (.fieldAddr 0 (.tmp 6)),
 qO 15 (.load1 (.tmp 14)),
 qO 16 (.bin .lss (.tmp 13) (.tmp 15))] none
def f88r7 : ICode := .region [
 qM 17 3,
 qM 18 4,
 qO 19 (.fieldAddr 0 (.tmp 6)),
 qO 20 (.load1 (.tmp 19)),
 qO 21 (.bin .sub (.tmp 20) (qK 1)),
 qO 22 (.build [qZ, qZ] [(0, 1, (.tmp 18)), (1, 1, (.tmp 21))]),
 qO 23 (.buildSlice 53 1 [qZ, qZ] [(0, 2, (.tmp 22))]),
 qO 24 (.append 53 2 16 (.tmp 17) (.tmp 23)),
 qM 3 24] none
def f88r8 : ICode := .region [
 qO 25 (.fieldAddr 1 (.tmp 6)),
 qO 26 (.load1 (.tmp 25)),
 qO 27 (.bin .add (.tmp 26) (qK 1)),
 qM 4 27] none
def f88r9 : ICode := .region [
 qO 28 (.bin .add (.tmp 9) (qK 1)),
 qM 9 28] none
def f88r10 : ICode := .region [
 qM 29 4,
 qO 30 (.bin .leq (.tmp 29) (qK 1114111))] none
def f88r11 : ICode := .region [
 qM 31 3,
 qM 32 4,
 qO 33 (.build [qZ, qZ] [(0, 1, (.tmp 32)), (1, 1, (qK 1114111))]),
 qO 34 (.buildSlice 53 1 [qZ, qZ] [(0, 2, (.tmp 33))]),
 qO 35 (.append 53 2 16 (.tmp 31) (.tmp 34)),
 qM 3 35] none
def f88r12 : ICode := .region [
 qM 36 3,
 qM 2 36] none
/- (ferret/sets.Set).Not -/
def f88 : IFn := ⟨37, [.inl 2], (.seq f88r0 (.seq f88r1 (.seq f88r2 (.seq (.seq f88r3 (.block 0 (.loop (.seq f88r4 (.seq (.cond (.tmp 10) .skip (.exit 0)) (.seq (.block 1 (.seq f88r5 (.seq (.seq f88r6 (.cond (.tmp 16) f88r7 .skip)) f88r8))) f88r9)))))) (.seq (.seq f88r10 (.cond (.tmp 30) f88r11 .skip)) (.seq f88r12 .ret))))))⟩
def f91r0 : ICode := .region [
 qO 3 (.box 28 (.tmp 0)),
 qO 5 (.new [qZ, (.slice none 0 0), (.bool false), qZ, qZ, (.bool false), qZ, (.string ⟨⟨[]⟩⟩), (.slice none 0 0)] 28)] none
def f91r1 : ICode := .region [
 qM 6 1,
 qO 7 (.fieldAddr 5 (.tmp 2)),
 qO 8 (.load1 (.tmp 7)),
 qO 9 (.loadN 9 (.tmp 3)),
 qO 10 (.buildSlice 28 1 [qZ, (.slice none 0 0), (.bool false), qZ, qZ, (.bool false), qZ, (.string ⟨⟨[]⟩⟩), (.slice none 0 0)] [(0, 9, (.tmp 9))]),
 qO 11 (.build [qZ, (.slice none 0 0), (.bool false), qZ, qZ, (.bool false), qZ, (.string ⟨⟨[]⟩⟩), (.slice none 0 0)] [(0, 1, (qK 10)), (4, 1, (.tmp 6)), (5, 1, (.tmp 8)), (8, 1, (.tmp 10))]),
  ⟨none, .store 9 (.tmp 5) (.tmp 11), none⟩] none
/- ferret/simple.repeat$1 -/
def f91 : IFn := ⟨12, [.inr (5, (some 9))], (.seq f91r0 (.seq f91r1 .ret))⟩
def f17r0 : ICode := .region [
 qO 0 (.new [qZ, qZ, qZ, qZ, qZ, qZ] 58)] none
def f17r1 : ICode := .region [
 qO 1 (.build [qZ, qZ, qZ, qZ, qZ, qZ] [(0, 1, (qK 128)), (1, 1, (qK 2048)), (2, 1, (qK 55296)), (3, 1, (qK 57344)), (4, 1, (qK 65536)), (5, 1, (qK 1114112))]),
  ⟨none, .store 6 (.tmp 0) (.tmp 1), none⟩] none
/- ferret/utfsplit.borders -/
def f17 : IFn := ⟨2, [.inr (0, (some 6))], (.seq f17r0 (.seq f17r1 .ret))⟩
def f18r0 : ICode := .region [
 qO 3 (.box 53 (.tmp 1)),
 qO 4 (.move (.const (.slice none 0 0)))] none
def f18r1 : ICode := .region [
 qO 5 (.fieldAddr 1 (.tmp 3)),
 qO 6 (.load1 (.tmp 5)),
 qO 7 (.bin .lss (.tmp 6) (qK 128))] none
def f18r2 : ICode := .region [
 qM 8 0,
 qO 9 (.loadN 2 (.tmp 3)),
 qO 10 (.buildSlice 53 1 [qZ, qZ] [(0, 2, (.tmp 9))]),
 qO 11 (.buildSlice 88 1 [(.slice none 0 0)] [(0, 1, (.tmp 10))]),
 qO 12 (.append 88 1 24 (.tmp 8) (.tmp 11)),
 qM 4 12] none
def f18r3 : ICode := .region [
 qM 13 0,
 qO 14 (.loadN 2 (.tmp 3)),
 qO 15 (.call 34 [(.tmp 13), (.tmp 14)]),
 qM 4 15] none
/- ferret/utfsplit.cut -/
def f18 : IFn := ⟨16, [.inl 4], (.seq f18r0 (.seq (.seq f18r1 (.cond (.tmp 7) (.seq f18r2 .ret) .skip)) (.seq f18r3 .ret)))⟩
def f111r0 : ICode := .region [
 qO 2 (.move (.const (.string ⟨⟨[]⟩⟩)))] none
def f111r1 : ICode := .region [
 qM 3 0,
 qO 4 (.bin .lss (.tmp 3) (qK 10))] none
def f111r2 : ICode := .region [
 qM 5 0,
 qM 6 0,
 qO 7 (.bin .add (.tmp 6) (qK 1)),
 qO 8 (.sliceStr (.const (.string ⟨⟨[48, 49, 50, 51, 52, 53, 54, 55, 56, 57, 97, 98, 99, 100, 101, 102, 103, 104, 105, 106, 107, 108, 109, 110, 111, 112, 113, 114, 115, 116, 117, 118, 119, 120, 121, 122]⟩⟩)) (some (.tmp 5)) (some (.tmp 7))),
 qM 2 8] none
def f111r3 : ICode := .region [
 qM 9 0,
 qO 10 (.bin .mul (.tmp 9) (qK 2)),
 qM 11 0,
 qO 12 (.bin .mul (.tmp 11) (qK 2)),
 qO 13 (.bin .add (.tmp 12) (qK 2)),
 qO 14 (.sliceStr (.const (.string ⟨⟨[48, 48, 48, 49, 48, 50, 48, 51, 48, 52, 48, 53, 48, 54, 48, 55, 48, 56, 48, 57, 49, 48, 49, 49, 49, 50, 49, 51, 49, 52, 49, 53, 49, 54, 49, 55, 49, 56, 49, 57, 50, 48, 50, 49, 50, 50, 50, 51, 50, 52, 50, 53, 50, 54, 50, 55, 50, 56, 50, 57, 51, 48, 51, 49, 51, 50, 51, 51, 51, 52, 51, 53, 51, 54, 51, 55, 51, 56, 51, 57, 52, 48, 52, 49, 52, 50, 52, 51, 52, 52, 52, 53, 52, 54, 52, 55, 52, 56, 52, 57, 53, 48, 53, 49, 53, 50, 53, 51, 53, 52, 53, 53, 53, 54, 53, 55, 53, 56, 53, 57, 54, 48, 54, 49, 54, 50, 54, 51, 54, 52, 54, 53, 54, 54, 54, 55, 54, 56, 54, 57, 55, 48, 55, 49, 55, 50, 55, 51, 55, 52, 55, 53, 55, 54, 55, 55, 55, 56, 55, 57, 56, 48, 56, 49, 56, 50, 56, 51, 56, 52, 56, 53, 56, 54, 56, 55, 56, 56, 56, 57, 57, 48, 57, 49, 57, 50, 57, 51, 57, 52, 57, 53, 57, 54, 57, 55, 57, 56, 57, 57]⟩⟩)) (some (.tmp 10)) (some (.tmp 13))),
 qM 2 14] none
/- internal/strconv.small -/
def f111 : IFn := ⟨15, [.inl 2], (.seq f111r0 (.seq (.seq f111r1 (.cond (.tmp 4) (.seq f111r2 .ret) .skip)) (.seq f111r3 .ret)))⟩
def f112r0 : ICode := .region [
 qO 2 (.move (qK 0))] none
def f112r1 : ICode := .region [
 qM 4 0,
 qO 5 (.call 131 [(.tmp 4)]),
 qO 6 (.call 140 [(.tmp 5)]),
 qM 3 6] none
def f112r2 : ICode := .region [
 qM 7 3,
 qM 8 0,
 qM 9 3,
 qO 10 (.bad),
 qO 11 (.load1 (.tmp 10)),
 qO 12 (.bin .geq (.tmp 8) (.tmp 11)),
 qO 13 (.call 141 [(.tmp 12)]),
 qO 14 (.bin .add (.tmp 7) (.tmp 13)),
 qM 2 14] none
/- internal/strconv.numDigits -/
def f112 : IFn := ⟨15, [.inl 2], (.seq f112r0 (.seq f112r1 (.seq f112r2 .ret)))⟩
end Go.Am.Zd
