import Derived.Test.YtikphefllmemjaaGreatDoorAm22
/-
The table of the program for the engine: printed by a program of mine.
-/
namespace Go.Am.Zd
open Go Go.Am
set_option maxRecDepth 100000
def f3r0 : ICode := .region [
  ⟨(some 4), .move (.const (.bool false)), none⟩] none
def f3r1 : ICode := .region [
  ⟨(some 17), .call 7 [(.const (.slice none 0 0))], none⟩,
  ⟨(some 5), .move (.tmp 17), none⟩] none
def f3r2 : ICode := .region [
  ⟨(some 18), .move (.tmp 5), none⟩,
  ⟨(some 19), .len 1 (.tmp 18), none⟩,
  ⟨(some 20), .bin .neq (.tmp 19) (.const (.int .i64 (.ofNat 0))), none⟩] none
def f3r3 : ICode := .region [
  ⟨(some 4), .move (.const (.bool false)), none⟩] none
def f3r4 : ICode := .region [
  ⟨(some 22), .build [(.bool false), (.bool false), (.bool false), (.bool false)] [], none⟩,
  ⟨(some 23), .call 8 [(.const (.string ⟨⟨[40, 63, 105, 41, 107]⟩⟩)), (.tmp 22)], none⟩,
  ⟨(some 21), .move (.tmp 23), none⟩,
  ⟨(some 24), .extract (.tmp 21) 0, none⟩,
  ⟨(some 25), .extract (.tmp 21) 1, none⟩,
  ⟨(some 6), .new [(.int .i64 (.ofNat 0)), (.slice none 0 0), (.bool false), (.int .i64 (.ofNat 0)), (.int .i64 (.ofNat 0)), (.bool false), (.int .i64 (.ofNat 0)), (.string ⟨⟨[]⟩⟩), (.slice none 0 0), (.slice none 0 0)] 31, none⟩,
  ⟨(some 7), .new [(.int .i64 (.ofNat 0)), (.int .i64 (.ofNat 0))] 34, none⟩,
  ⟨none, .store 10 (.tmp 6) (.tmp 24), none⟩,
  ⟨none, .store 2 (.tmp 7) (.tmp 25), none⟩] none
def f3r5 : ICode := .region [
  ⟨(some 27), .loadN 10 (.tmp 6), none⟩,
  ⟨(some 28), .call 9 [(.tmp 27)], none⟩,
  ⟨(some 26), .move (.tmp 28), none⟩,
  ⟨(some 29), .extract (.tmp 26) 0, none⟩,
  ⟨(some 30), .extract (.tmp 26) 1, none⟩,
  ⟨(some 8), .new [(.slice none 0 0), (.int .i64 (.ofNat 0))] 41, none⟩,
  ⟨none, .store 2 (.tmp 8) (.tmp 29), none⟩,
  ⟨(some 9), .move (.tmp 30), none⟩] none
def f3r6 : ICode := .region [
  ⟨(some 31), .loadN 2 (.tmp 7), none⟩,
  ⟨(some 32), .build [(.int .i64 (.ofNat 0)), (.int .i64 (.ofNat 0))] [], none⟩,
  ⟨(some 33), .eqC true 34 (.tmp 31) (.tmp 32), none⟩,
  ⟨(some 34), .move (.tmp 33), none⟩,
  ⟨(some 35), .move (.tmp 9), (some ((some 34), false))⟩,
  ⟨(some 36), .bin .neq (.tmp 35) (.const (.int .i64 (.ofNat 0))), (some ((some 34), false))⟩,
  ⟨(some 37), .pick (.tmp 34) (.const (.bool true)) (.tmp 36), none⟩,
  ⟨(some 38), .move (.tmp 37), none⟩,
  ⟨(some 39), .fieldAddr 0 (.tmp 8), (some ((some 38), false))⟩,
  ⟨(some 40), .load1 (.tmp 39), (some ((some 38), false))⟩,
  ⟨(some 41), .len 1 (.tmp 40), (some ((some 38), false))⟩,
  ⟨(some 42), .bin .lss (.tmp 41) (.const (.int .i64 (.ofNat 4))), (some ((some 38), false))⟩,
  ⟨(some 43), .pick (.tmp 38) (.const (.bool true)) (.tmp 42), none⟩] none
def f3r7 : ICode := .region [
  ⟨(some 4), .move (.const (.bool false)), none⟩] none
def f3r8 : ICode := .region [
  ⟨(some 44), .move (.tmp 0), none⟩,
  ⟨(some 45), .bin .lss (.tmp 44) (.const (.int .i64 (.ofNat 0))), none⟩,
  ⟨(some 46), .move (.tmp 45), none⟩,
  ⟨(some 47), .move (.tmp 0), (some ((some 46), false))⟩,
  ⟨(some 48), .bin .gtr (.tmp 47) (.const (.int .i64 (.ofNat 1114111))), (some ((some 46), false))⟩,
  ⟨(some 49), .pick (.tmp 46) (.const (.bool true)) (.tmp 48), none⟩] none
def f3r9 : ICode := .region [
  ⟨(some 50), .move (.tmp 0), none⟩,
  ⟨(some 51), .call 10 [(.tmp 50)], none⟩,
  ⟨(some 52), .len 1 (.tmp 51), none⟩,
  ⟨(some 53), .bin .eql (.tmp 52) (.const (.int .i64 (.ofNat 0))), none⟩,
  ⟨(some 4), .move (.tmp 53), none⟩] none
def f3r10 : ICode := .region [
  ⟨(some 54), .move (.tmp 0), none⟩,
  ⟨(some 55), .call 11 [(.tmp 54)], none⟩,
  ⟨(some 10), .move (.tmp 55), none⟩] none
def f3r11 : ICode := .region [
  ⟨(some 56), .move (.tmp 0), none⟩,
  ⟨(some 57), .call 10 [(.tmp 56)], none⟩,
  ⟨(some 11), .move (.tmp 57), none⟩] none
def f3r12 : ICode := .region [
  ⟨(some 12), .move (.const (.int .i64 (.ofNat 0))), none⟩] none
def f3r13 : ICode := .region [
  ⟨(some 58), .move (.tmp 12), none⟩,
  ⟨(some 59), .move (.tmp 11), none⟩,
  ⟨(some 60), .len 1 (.tmp 59), none⟩,
  ⟨(some 61), .bin .lss (.tmp 58) (.tmp 60), none⟩] none
def f3r14 : ICode := .region [
  ⟨(some 64), .move (.tmp 11), none⟩,
  ⟨(some 65), .move (.tmp 12), none⟩,
  ⟨(some 66), .indexSl 1 (.tmp 64) (.tmp 65), none⟩,
  ⟨(some 67), .load1 (.tmp 66), none⟩,
  ⟨(some 68), .call 11 [(.tmp 67)], none⟩,
  ⟨(some 69), .move (.tmp 10), none⟩,
  ⟨(some 70), .bin .neq (.tmp 68) (.tmp 69), none⟩] none
def f3r15 : ICode := .region [
  ⟨(some 4), .move (.const (.bool false)), none⟩] none
def f3r16 : ICode := .region [
  ⟨(some 62), .move (.tmp 12), none⟩,
  ⟨(some 63), .bin .add (.tmp 62) (.const (.int .i64 (.ofNat 1))), none⟩,
  ⟨(some 12), .move (.tmp 63), none⟩] none
def f3r17 : ICode := .region [
  ⟨(some 72), .move (.tmp 0), none⟩,
  ⟨(some 73), .move (.tmp 1), none⟩,
  ⟨(some 74), .buildSlice 3 2 [(.int .i64 (.ofNat 0)), (.int .i64 (.ofNat 0))] [(0, 1, (.tmp 72)), (1, 1, (.tmp 73))], none⟩,
  ⟨(some 75), .call 12 [(.tmp 74), (.const (.int .i64 (.ofNat 1))), (.const (.bool false))], none⟩,
  ⟨(some 71), .move (.tmp 75), none⟩,
  ⟨(some 76), .extract (.tmp 71) 0, none⟩,
  ⟨(some 77), .extract (.tmp 71) 1, none⟩,
  ⟨(some 13), .move (.tmp 76), none⟩,
  ⟨(some 14), .move (.tmp 77), none⟩] none
def f3r18 : ICode := .region [
  ⟨(some 78), .move (.tmp 14), none⟩,
  ⟨(some 79), .bin .neq (.tmp 78) (.const (.int .i64 (.ofNat 0))), none⟩] none
def f3r19 : ICode := .region [
  ⟨(some 4), .move (.const (.bool true)), none⟩] none
def f3r20 : ICode := .region [
  ⟨(some 15), .move (.const (.bool false)), none⟩] none
def f3r21 : ICode := .region [
  ⟨(some 16), .move (.const (.int .i64 (.ofNat 0))), none⟩] none
def f3r22 : ICode := .region [
  ⟨(some 80), .move (.tmp 16), none⟩,
  ⟨(some 81), .move (.tmp 11), none⟩,
  ⟨(some 82), .len 1 (.tmp 81), none⟩,
  ⟨(some 83), .bin .lss (.tmp 80) (.tmp 82), none⟩] none
def f3r23 : ICode := .region [
  ⟨(some 86), .move (.tmp 15), none⟩,
  ⟨(some 87), .move (.tmp 86), none⟩,
  ⟨(some 88), .move (.tmp 11), (some ((some 87), false))⟩,
  ⟨(some 89), .move (.tmp 16), (some ((some 87), false))⟩,
  ⟨(some 90), .indexSl 1 (.tmp 88) (.tmp 89), (some ((some 87), false))⟩,
  ⟨(some 91), .load1 (.tmp 90), (some ((some 87), false))⟩,
  ⟨(some 92), .move (.tmp 1), (some ((some 87), false))⟩,
  ⟨(some 93), .bin .eql (.tmp 91) (.tmp 92), (some ((some 87), false))⟩,
  ⟨(some 94), .pick (.tmp 87) (.const (.bool true)) (.tmp 93), none⟩,
  ⟨(some 15), .move (.tmp 94), none⟩] none
def f3r24 : ICode := .region [
  ⟨(some 84), .move (.tmp 16), none⟩,
  ⟨(some 85), .bin .add (.tmp 84) (.const (.int .i64 (.ofNat 1))), none⟩,
  ⟨(some 16), .move (.tmp 85), none⟩] none
def f3r25 : ICode := .region [
  ⟨(some 95), .move (.tmp 1), none⟩,
  ⟨(some 96), .call 11 [(.tmp 95)], none⟩,
  ⟨(some 97), .move (.tmp 10), none⟩,
  ⟨(some 98), .bin .eql (.tmp 96) (.tmp 97), none⟩,
  ⟨(some 99), .move (.tmp 15), none⟩,
  ⟨(some 100), .eqB false (.tmp 98) (.tmp 99), none⟩,
  ⟨(some 4), .move (.tmp 100), none⟩] none
/- ferret/ferrettop.TopFolds -/
def f3 : IFn := ⟨101, [.inl 4], (.seq f3r0 (.seq (.seq f3r1 (.seq f3r2 (.cond (.tmp 20) (.seq f3r3 .ret) .skip))) (.seq f3r4 (.seq f3r5 (.seq (.seq f3r6 (.cond (.tmp 43) (.seq f3r7 .ret) .skip)) (.seq (.seq f3r8 (.cond (.tmp 49) (.seq f3r9 .ret) .skip)) (.seq f3r10 (.seq f3r11 (.seq (.seq f3r12 (.block 0 (.loop (.seq (.seq f3r13 (.cond (.tmp 61) .skip (.exit 0))) (.seq (.block 1 (.seq f3r14 (.cond (.tmp 70) (.seq f3r15 .ret) .skip))) f3r16))))) (.seq (.seq f3r17 (.seq f3r18 (.cond (.tmp 79) (.seq f3r19 .ret) .skip))) (.seq f3r20 (.seq (.seq f3r21 (.block 2 (.loop (.seq (.seq f3r22 (.cond (.tmp 83) .skip (.exit 2))) (.seq (.block 3 f3r23) f3r24))))) (.seq f3r25 .ret)))))))))))))⟩
def f4r0 : ICode := .region [
  ⟨(some 2), .move (.const (.bool false)), none⟩] none
def f4r1 : ICode := .region [
  ⟨(some 10), .call 13 [], none⟩,
  ⟨(some 11), .un .not (.tmp 10), none⟩] none
def f4r2 : ICode := .region [
  ⟨(some 2), .move (.const (.bool false)), none⟩] none
def f4r3 : ICode := .region [
  ⟨(some 3), .move (.const (.slice none 0 0)), none⟩] none
def f4r4 : ICode := .region [
  ⟨(some 4), .move (.const (.int .i64 (.ofNat 0))), none⟩] none
def f4r5 : ICode := .region [
  ⟨(some 12), .move (.tmp 4), none⟩,
  ⟨(some 13), .move (.tmp 0), none⟩,
  ⟨(some 14), .len 0 (.tmp 13), none⟩,
  ⟨(some 15), .bin .lss (.tmp 12) (.tmp 14), none⟩,
  ⟨(some 16), .move (.tmp 15), none⟩,
  ⟨(some 17), .move (.tmp 3), (some ((some 16), true))⟩,
  ⟨(some 18), .len 1 (.tmp 17), (some ((some 16), true))⟩,
  ⟨(some 19), .bin .lss (.tmp 18) (.const (.int .i64 (.ofNat 500))), (some ((some 16), true))⟩,
  ⟨(some 20), .pick (.tmp 16) (.tmp 19) (.const (.bool false)), none⟩] none
def f4r6 : ICode := .region [
  ⟨(some 23), .move (.tmp 0), none⟩,
  ⟨(some 24), .move (.tmp 4), none⟩,
  ⟨(some 25), .indexStr (.tmp 23) (.tmp 24), none⟩,
  ⟨(some 26), .bin .geq (.tmp 25) (.const (.int .u8 (.ofNat 97))), none⟩,
  ⟨(some 27), .move (.tmp 26), none⟩,
  ⟨(some 28), .move (.tmp 0), (some ((some 27), true))⟩,
  ⟨(some 29), .move (.tmp 4), (some ((some 27), true))⟩,
  ⟨(some 30), .indexStr (.tmp 28) (.tmp 29), (some ((some 27), true))⟩,
  ⟨(some 31), .bin .leq (.tmp 30) (.const (.int .u8 (.ofNat 122))), (some ((some 27), true))⟩,
  ⟨(some 32), .pick (.tmp 27) (.tmp 31) (.const (.bool false)), none⟩] none
def f4r7 : ICode := .region [
  ⟨(some 33), .move (.tmp 3), none⟩,
  ⟨(some 34), .move (.tmp 0), none⟩,
  ⟨(some 35), .move (.tmp 4), none⟩,
  ⟨(some 36), .indexStr (.tmp 34) (.tmp 35), none⟩,
  ⟨(some 37), .buildSlice 5 1 [(.int .u8 (.ofNat 0))] [(0, 1, (.tmp 36))], none⟩,
  ⟨(some 38), .append 5 1 1 (.tmp 33) (.tmp 37), none⟩,
  ⟨(some 3), .move (.tmp 38), none⟩] none
def f4r8 : ICode := .region [
  ⟨(some 21), .move (.tmp 4), none⟩,
  ⟨(some 22), .bin .add (.tmp 21) (.const (.int .i64 (.ofNat 1))), none⟩,
  ⟨(some 4), .move (.tmp 22), none⟩] none
def f4r9 : ICode := .region [
  ⟨(some 40), .move (.tmp 3), none⟩,
  ⟨(some 41), .bytesToStr (.tmp 40), none⟩,
  ⟨(some 42), .build [(.bool false), (.bool false), (.bool false), (.bool false)] [], none⟩,
  ⟨(some 43), .call 8 [(.tmp 41), (.tmp 42)], none⟩,
  ⟨(some 39), .move (.tmp 43), none⟩,
  ⟨(some 44), .extract (.tmp 39) 0, none⟩,
  ⟨(some 45), .extract (.tmp 39) 1, none⟩,
  ⟨(some 5), .new [(.int .i64 (.ofNat 0)), (.slice none 0 0), (.bool false), (.int .i64 (.ofNat 0)), (.int .i64 (.ofNat 0)), (.bool false), (.int .i64 (.ofNat 0)), (.string ⟨⟨[]⟩⟩), (.slice none 0 0), (.slice none 0 0)] 31, none⟩,
  ⟨(some 6), .new [(.int .i64 (.ofNat 0)), (.int .i64 (.ofNat 0))] 34, none⟩,
  ⟨none, .store 10 (.tmp 5) (.tmp 44), none⟩,
  ⟨none, .store 2 (.tmp 6) (.tmp 45), none⟩] none
def f4r10 : ICode := .region [
  ⟨(some 47), .loadN 10 (.tmp 5), none⟩,
  ⟨(some 48), .call 9 [(.tmp 47)], none⟩,
  ⟨(some 46), .move (.tmp 48), none⟩,
  ⟨(some 49), .extract (.tmp 46) 0, none⟩,
  ⟨(some 50), .extract (.tmp 46) 1, none⟩,
  ⟨(some 7), .new [(.slice none 0 0), (.int .i64 (.ofNat 0))] 41, none⟩,
  ⟨none, .store 2 (.tmp 7) (.tmp 49), none⟩,
  ⟨(some 8), .move (.tmp 50), none⟩] none
def f4r11 : ICode := .region [
  ⟨(some 51), .loadN 2 (.tmp 6), none⟩,
  ⟨(some 52), .build [(.int .i64 (.ofNat 0)), (.int .i64 (.ofNat 0))] [], none⟩,
  ⟨(some 53), .eqC true 34 (.tmp 51) (.tmp 52), none⟩,
  ⟨(some 54), .move (.tmp 53), none⟩,
  ⟨(some 55), .move (.tmp 8), (some ((some 54), false))⟩,
  ⟨(some 56), .bin .neq (.tmp 55) (.const (.int .i64 (.ofNat 0))), (some ((some 54), false))⟩,
  ⟨(some 57), .pick (.tmp 54) (.const (.bool true)) (.tmp 56), none⟩,
  ⟨(some 58), .move (.tmp 57), none⟩,
  ⟨(some 59), .fieldAddr 0 (.tmp 7), (some ((some 58), false))⟩,
  ⟨(some 60), .load1 (.tmp 59), (some ((some 58), false))⟩,
  ⟨(some 61), .len 1 (.tmp 60), (some ((some 58), false))⟩,
  ⟨(some 62), .move (.tmp 3), (some ((some 58), false))⟩,
  ⟨(some 63), .len 1 (.tmp 62), (some ((some 58), false))⟩,
  ⟨(some 64), .bin .add (.tmp 63) (.const (.int .i64 (.ofNat 3))), (some ((some 58), false))⟩,
  ⟨(some 65), .bin .neq (.tmp 61) (.tmp 64), (some ((some 58), false))⟩,
  ⟨(some 66), .pick (.tmp 58) (.const (.bool true)) (.tmp 65), none⟩,
  ⟨(some 67), .move (.tmp 66), none⟩,
  ⟨(some 68), .fieldAddr 1 (.tmp 7), (some ((some 67), false))⟩,
  ⟨(some 69), .load1 (.tmp 68), (some ((some 67), false))⟩,
  ⟨(some 70), .bin .neq (.tmp 69) (.const (.int .i64 (.ofNat 1))), (some ((some 67), false))⟩,
  ⟨(some 71), .pick (.tmp 67) (.const (.bool true)) (.tmp 70), none⟩] none
def f4r12 : ICode := .region [
  ⟨(some 2), .move (.const (.bool false)), none⟩] none
def f4r13 : ICode := .region [
  ⟨(some 9), .move (.const (.int .i64 (.ofNat 0))), none⟩] none
def f4r14 : ICode := .region [
  ⟨(some 72), .move (.tmp 9), none⟩,
  ⟨(some 73), .move (.tmp 3), none⟩,
  ⟨(some 74), .len 1 (.tmp 73), none⟩,
  ⟨(some 75), .bin .lss (.tmp 72) (.tmp 74), none⟩] none
def f4r15 : ICode := .region [
  ⟨(some 78), .fieldAddr 0 (.tmp 7), none⟩,
  ⟨(some 79), .load1 (.tmp 78), none⟩,
  ⟨(some 80), .move (.tmp 9), none⟩,
  ⟨(some 81), .bin .add (.const (.int .i64 (.ofNat 1))) (.tmp 80), none⟩,
  ⟨(some 82), .indexSl 5 (.tmp 79) (.tmp 81), none⟩,
  ⟨(some 83), .loadN 5 (.tmp 82), none⟩,
  ⟨(some 84), .move (.tmp 9), none⟩,
  ⟨(some 85), .bin .add (.const (.int .i64 (.ofNat 2))) (.tmp 84), none⟩,
  ⟨(some 86), .move (.tmp 3), none⟩,
  ⟨(some 87), .move (.tmp 9), none⟩,
  ⟨(some 88), .indexSl 1 (.tmp 86) (.tmp 87), none⟩,
  ⟨(some 89), .load1 (.tmp 88), none⟩,
  ⟨(some 90), .conv .i64 (.tmp 89), none⟩,
  ⟨(some 91), .move (.tmp 3), none⟩,
  ⟨(some 92), .move (.tmp 9), none⟩,
  ⟨(some 93), .indexSl 1 (.tmp 91) (.tmp 92), none⟩,
  ⟨(some 94), .load1 (.tmp 93), none⟩,
  ⟨(some 95), .conv .i64 (.tmp 94), none⟩,
  ⟨(some 96), .build [(.int .i64 (.ofNat 0)), (.int .i64 (.ofNat 0))] [(0, 1, (.tmp 90)), (1, 1, (.tmp 95))], none⟩,
  ⟨(some 97), .build [(.int .i64 (.ofNat 0)), (.int .i64 (.ofNat 0)), (.int .i64 (.ofNat 0)), (.int .i64 (.ofNat 0)), (.int .i64 (.ofNat 0))] [(0, 1, (.const (.int .i64 (.ofNat 0)))), (1, 1, (.tmp 85)), (3, 2, (.tmp 96))], none⟩,
  ⟨(some 98), .eqC true 55 (.tmp 83) (.tmp 97), none⟩] (some ⟨[], []⟩)
def f4r16 : ICode := .region [
  ⟨(some 2), .move (.const (.bool false)), none⟩] none
def f4r17 : ICode := .region [
  ⟨(some 76), .move (.tmp 9), none⟩,
  ⟨(some 77), .bin .add (.tmp 76) (.const (.int .i64 (.ofNat 1))), none⟩,
  ⟨(some 9), .move (.tmp 77), none⟩] none
def f4r18 : ICode := .region [
  ⟨(some 2), .move (.const (.bool true)), none⟩] none
/- ferret/ferretlaw14.ProgWords -/
def f4 : IFn := ⟨99, [.inl 2], (.seq f4r0 (.seq (.seq f4r1 (.cond (.tmp 11) (.seq f4r2 .ret) .skip)) (.seq f4r3 (.seq (.seq f4r4 (.block 0 (.loop (.seq (.seq f4r5 (.cond (.tmp 20) .skip (.exit 0))) (.seq (.block 1 (.seq f4r6 (.cond (.tmp 32) f4r7 .skip))) f4r8))))) (.seq f4r9 (.seq f4r10 (.seq (.seq f4r11 (.cond (.tmp 71) (.seq f4r12 .ret) .skip)) (.seq (.seq f4r13 (.block 2 (.loop (.seq (.seq f4r14 (.cond (.tmp 75) .skip (.exit 2))) (.seq (.block 3 (.seq f4r15 (.cond (.tmp 98) (.seq f4r16 .ret) .skip))) f4r17))))) (.seq f4r18 .ret)))))))))⟩
def f5r0 : ICode := .region [
  ⟨(some 4), .move (.const (.bool false)), none⟩] none
def f5r1 : ICode := .region [
  ⟨(some 10), .call 13 [], none⟩,
  ⟨(some 11), .un .not (.tmp 10), none⟩] none
def f5r2 : ICode := .region [
  ⟨(some 4), .move (.const (.bool false)), none⟩] none
def f5r3 : ICode := .region [
  ⟨(some 12), .move (.tmp 0), none⟩,
  ⟨(some 13), .bin .and (.tmp 12) (.const (.int .i64 (.ofNat 63))), none⟩,
  ⟨(some 14), .bin .add (.const (.int .i64 (.ofNat 1))) (.tmp 13), none⟩,
  ⟨(some 15), .move (.tmp 1), none⟩,
  ⟨(some 16), .bin .and (.tmp 15) (.const (.int .i64 (.ofNat 63))), none⟩,
  ⟨(some 17), .bin .add (.const (.int .i64 (.ofNat 1))) (.tmp 16), none⟩,
  ⟨(some 0), .move (.tmp 14), none⟩,
  ⟨(some 1), .move (.tmp 17), none⟩] none
def f5r4 : ICode := .region [
  ⟨(some 19), .move (.tmp 0), none⟩,
  ⟨(some 20), .call 14 [(.tmp 19)], none⟩,
  ⟨(some 21), .bin .add (.const (.string ⟨⟨[40, 63, 58, 40, 63, 58, 97, 98, 41, 123]⟩⟩)) (.tmp 20), none⟩,
  ⟨(some 22), .bin .add (.tmp 21) (.const (.string ⟨⟨[125, 41, 123]⟩⟩)), none⟩,
  ⟨(some 23), .move (.tmp 1), none⟩,
  ⟨(some 24), .call 14 [(.tmp 23)], none⟩,
  ⟨(some 25), .bin .add (.tmp 22) (.tmp 24), none⟩,
  ⟨(some 26), .bin .add (.tmp 25) (.const (.string ⟨⟨[125]⟩⟩)), none⟩,
  ⟨(some 27), .build [(.bool false), (.bool false), (.bool false), (.bool false)] [], none⟩,
  ⟨(some 28), .call 8 [(.tmp 26), (.tmp 27)], none⟩,
  ⟨(some 18), .move (.tmp 28), none⟩,
  ⟨(some 29), .extract (.tmp 18) 0, none⟩,
  ⟨(some 30), .extract (.tmp 18) 1, none⟩,
  ⟨(some 5), .new [(.int .i64 (.ofNat 0)), (.slice none 0 0), (.bool false), (.int .i64 (.ofNat 0)), (.int .i64 (.ofNat 0)), (.bool false), (.int .i64 (.ofNat 0)), (.string ⟨⟨[]⟩⟩), (.slice none 0 0), (.slice none 0 0)] 31, none⟩,
  ⟨(some 6), .new [(.int .i64 (.ofNat 0)), (.int .i64 (.ofNat 0))] 34, none⟩,
  ⟨none, .store 10 (.tmp 5) (.tmp 29), none⟩,
  ⟨none, .store 2 (.tmp 6) (.tmp 30), none⟩] none
def f5r5 : ICode := .region [
  ⟨(some 32), .loadN 10 (.tmp 5), none⟩,
  ⟨(some 33), .call 9 [(.tmp 32)], none⟩,
  ⟨(some 31), .move (.tmp 33), none⟩,
  ⟨(some 34), .extract (.tmp 31) 0, none⟩,
  ⟨(some 35), .extract (.tmp 31) 1, none⟩,
  ⟨(some 7), .new [(.slice none 0 0), (.int .i64 (.ofNat 0))] 41, none⟩,
  ⟨none, .store 2 (.tmp 7) (.tmp 34), none⟩,
  ⟨(some 8), .move (.tmp 35), none⟩] none
def f5r6 : ICode := .region [
  ⟨(some 36), .loadN 2 (.tmp 6), none⟩,
  ⟨(some 37), .build [(.int .i64 (.ofNat 0)), (.int .i64 (.ofNat 0))] [], none⟩,
  ⟨(some 38), .eqC true 34 (.tmp 36) (.tmp 37), none⟩] none
def f5r7 : ICode := .region [
  ⟨(some 4), .move (.const (.bool false)), none⟩] none
def f5r8 : ICode := .region [
  ⟨(some 39), .move (.tmp 0), none⟩,
  ⟨(some 40), .bin .mul (.const (.int .i64 (.ofNat 3))) (.tmp 39), none⟩,
  ⟨(some 41), .bin .add (.tmp 40) (.const (.int .i64 (.ofNat 1))), none⟩,
  ⟨(some 9), .move (.tmp 41), none⟩] none
def f5r9 : ICode := .region [
  ⟨(some 42), .move (.tmp 9), none⟩,
  ⟨(some 43), .move (.tmp 1), none⟩,
  ⟨(some 44), .bin .mul (.tmp 42) (.tmp 43), none⟩,
  ⟨(some 45), .bin .add (.tmp 44) (.const (.int .i64 (.ofNat 1))), none⟩,
  ⟨(some 46), .bin .gtr (.tmp 45) (.const (.int .i64 (.ofNat 8192))), none⟩,
  ⟨(some 47), .move (.tmp 46), none⟩,
  ⟨(some 48), .move (.tmp 0), (some ((some 47), false))⟩,
  ⟨(some 49), .bin .mul (.const (.int .i64 (.ofNat 2))) (.tmp 48), (some ((some 47), false))⟩,
  ⟨(some 50), .move (.tmp 1), (some ((some 47), false))⟩,
  ⟨(some 51), .bin .mul (.tmp 49) (.tmp 50), (some ((some 47), false))⟩,
  ⟨(some 52), .bin .add (.tmp 51) (.const (.int .i64 (.ofNat 3))), (some ((some 47), false))⟩,
  ⟨(some 53), .bin .gtr (.tmp 52) (.const (.int .i64 (.ofNat 8192))), (some ((some 47), false))⟩,
  ⟨(some 54), .pick (.tmp 47) (.const (.bool true)) (.tmp 53), none⟩] none
def f5r10 : ICode := .region [
  ⟨(some 55), .move (.tmp 8), none⟩,
  ⟨(some 56), .bin .eql (.tmp 55) (.const (.int .i64 (.ofNat 26))), none⟩,
  ⟨(some 57), .move (.tmp 56), none⟩,
  ⟨(some 58), .fieldAddr 0 (.tmp 7), (some ((some 57), true))⟩,
  ⟨(some 59), .load1 (.tmp 58), (some ((some 57), true))⟩,
  ⟨(some 60), .len 1 (.tmp 59), (some ((some 57), true))⟩,
  ⟨(some 61), .bin .eql (.tmp 60) (.const (.int .i64 (.ofNat 0))), (some ((some 57), true))⟩,
  ⟨(some 62), .pick (.tmp 57) (.tmp 61) (.const (.bool false)), none⟩,
  ⟨(some 4), .move (.tmp 62), none⟩] none
def f5r11 : ICode := .region [
  ⟨(some 63), .move (.tmp 8), none⟩,
  ⟨(some 64), .bin .eql (.tmp 63) (.const (.int .i64 (.ofNat 0))), none⟩,
  ⟨(some 65), .move (.tmp 64), none⟩,
  ⟨(some 66), .fieldAddr 0 (.tmp 7), (some ((some 65), true))⟩,
  ⟨(some 67), .load1 (.tmp 66), (some ((some 65), true))⟩,
  ⟨(some 68), .len 1 (.tmp 67), (some ((some 65), true))⟩,
  ⟨(some 69), .move (.tmp 0), (some ((some 65), true))⟩,
  ⟨(some 70), .bin .mul (.const (.int .i64 (.ofNat 2))) (.tmp 69), (some ((some 65), true))⟩,
  ⟨(some 71), .move (.tmp 1), (some ((some 65), true))⟩,
  ⟨(some 72), .bin .mul (.tmp 70) (.tmp 71), (some ((some 65), true))⟩,
  ⟨(some 73), .bin .add (.tmp 72) (.const (.int .i64 (.ofNat 3))), (some ((some 65), true))⟩,
  ⟨(some 74), .bin .eql (.tmp 68) (.tmp 73), (some ((some 65), true))⟩,
  ⟨(some 75), .pick (.tmp 65) (.tmp 74) (.const (.bool false)), none⟩,
  ⟨(some 4), .move (.tmp 75), none⟩] none
/- ferret/ferretlaw14.ProgBig -/
def f5 : IFn := ⟨76, [.inl 4], (.seq f5r0 (.seq (.seq f5r1 (.cond (.tmp 11) (.seq f5r2 .ret) .skip)) (.seq f5r3 (.seq f5r4 (.seq f5r5 (.seq (.seq f5r6 (.cond (.tmp 38) (.seq f5r7 .ret) .skip)) (.seq f5r8 (.seq (.seq f5r9 (.cond (.tmp 54) (.seq f5r10 .ret) .skip)) (.seq f5r11 .ret)))))))))⟩
def f6r0 : ICode := .region [
  ⟨(some 6), .move (.const (.bool false)), none⟩] none
def f6r1 : ICode := .region [
  ⟨(some 7), .call 13 [], none⟩,
  ⟨(some 8), .un .not (.tmp 7), none⟩] none
def f6r2 : ICode := .region [
  ⟨(some 6), .move (.const (.bool false)), none⟩] none
def f6r3 : ICode := .region [
  ⟨(some 9), .move (.tmp 0), none⟩,
  ⟨(some 10), .move (.tmp 1), none⟩,
  ⟨(some 11), .move (.tmp 2), none⟩,
  ⟨(some 12), .call 15 [(.tmp 9), (.tmp 10), (.tmp 11)], none⟩,
  ⟨(some 13), .move (.tmp 0), none⟩,
  ⟨(some 14), .move (.tmp 1), none⟩,
  ⟨(some 15), .move (.tmp 2), none⟩,
  ⟨(some 16), .call 16 [(.tmp 13), (.tmp 14), (.tmp 15)], none⟩,
  ⟨(some 17), .eqB false (.tmp 12) (.tmp 16), none⟩,
  ⟨(some 6), .move (.tmp 17), none⟩] none
/- ferret/ferretlaw14.ProgHolds -/
def f6 : IFn := ⟨18, [.inl 6], (.seq f6r0 (.seq (.seq f6r1 (.cond (.tmp 8) (.seq f6r2 .ret) .skip)) (.seq f6r3 .ret)))⟩
def f7r0 : ICode := .region [
  ⟨(some 2), .move (.const (.slice none 0 0)), none⟩] none
def f7r1 : ICode := .region [
  ⟨(some 3), .move (.const (.slice none 0 0)), none⟩] none
def f7r2 : ICode := .region [
  ⟨(some 10), .move (.tmp 0), none⟩,
  ⟨(some 11), .len 1 (.tmp 10), none⟩,
  ⟨(some 12), .move (.const (.int .i64 (.ofNat 0))), none⟩] none
def f7r3 : ICode := .region [
  ⟨(some 13), .bin .lss (.tmp 12) (.tmp 11), none⟩] none
def f7r4 : ICode := .region [
  ⟨(some 14), .indexSl 2 (.tmp 10) (.tmp 12), none⟩,
  ⟨(some 15), .loadN 2 (.tmp 14), none⟩,
  ⟨(some 5), .new [(.int .i64 (.ofNat 0)), (.int .i64 (.ofNat 0))] 53, none⟩,
  ⟨none, .store 2 (.tmp 5) (.tmp 15), none⟩] none
def f7r5 : ICode := .region [
  ⟨(some 6), .move (.const (.int .i64 (.ofNat 0))), none⟩] none
def f7r6 : ICode := .region [
  ⟨(some 16), .call 17 [], none⟩,
  ⟨(some 17), .move (.const (.int .i64 (.ofNat 0))), none⟩] none
def f7r7 : ICode := .region [
  ⟨(some 18), .bin .lss (.tmp 17) (.const (.int .i64 (.ofNat 6))), none⟩] none
def f7r8 : ICode := .region [
  ⟨(some 19), .indexArr 6 1 none (.tmp 16) (.tmp 17), none⟩,
  ⟨(some 8), .move (.tmp 19), none⟩] none
def f7r9 : ICode := .region [
  ⟨(some 20), .fieldAddr 0 (.tmp 5), none⟩,
  ⟨(some 21), .load1 (.tmp 20), none⟩,
  ⟨(some 22), .move (.tmp 6), none⟩,
  ⟨(some 23), .minmax true (.tmp 21) (.tmp 22), none⟩,
  ⟨(some 24), .fieldAddr 1 (.tmp 5), none⟩,
  ⟨(some 25), .load1 (.tmp 24), none⟩,
  ⟨(some 26), .move (.tmp 8), none⟩,
  ⟨(some 27), .bin .sub (.tmp 26) (.const (.int .i64 (.ofNat 1))), none⟩,
  ⟨(some 28), .minmax false (.tmp 25) (.tmp 27), none⟩,
  ⟨(some 29), .build [(.int .i64 (.ofNat 0)), (.int .i64 (.ofNat 0))] [(0, 1, (.tmp 23)), (1, 1, (.tmp 28))], none⟩,
  ⟨(some 9), .new [(.int .i64 (.ofNat 0)), (.int .i64 (.ofNat 0))] 53, none⟩,
  ⟨none, .store 2 (.tmp 9) (.tmp 29), none⟩] none
def f7r10 : ICode := .region [
  ⟨(some 30), .fieldAddr 0 (.tmp 9), none⟩,
  ⟨(some 31), .load1 (.tmp 30), none⟩,
  ⟨(some 32), .fieldAddr 1 (.tmp 9), none⟩,
  ⟨(some 33), .load1 (.tmp 32), none⟩,
  ⟨(some 34), .bin .leq (.tmp 31) (.tmp 33), none⟩,
  ⟨(some 35), .move (.tmp 34), none⟩,
  ⟨(some 36), .move (.tmp 8), (some ((some 35), true))⟩,
  ⟨(some 37), .bin .neq (.tmp 36) (.const (.int .i64 (.ofNat 57344))), (some ((some 35), true))⟩,
  ⟨(some 38), .pick (.tmp 35) (.tmp 37) (.const (.bool false)), none⟩] none
def f7r11 : ICode := .region [
  ⟨(some 39), .move (.tmp 3), none⟩,
  ⟨(some 40), .loadN 2 (.tmp 9), none⟩,
  ⟨(some 41), .call 18 [(.tmp 39), (.tmp 40)], none⟩,
  ⟨(some 3), .move (.tmp 41), none⟩] none
def f7r12 : ICode := .region [
  ⟨(some 42), .move (.tmp 8), none⟩,
  ⟨(some 6), .move (.tmp 42), none⟩] none
def f7r13 : ICode := .region [
  ⟨(some 43), .bin .add (.tmp 17) (.const (.int .i64 (.ofNat 1))), none⟩,
  ⟨(some 17), .move (.tmp 43), none⟩] none
def f7r14 : ICode := .region [
  ⟨(some 44), .bin .add (.tmp 12) (.const (.int .i64 (.ofNat 1))), none⟩,
  ⟨(some 12), .move (.tmp 44), none⟩] none
def f7r15 : ICode := .region [
  ⟨(some 45), .move (.tmp 3), none⟩,
  ⟨(some 2), .move (.tmp 45), none⟩] none
/- ferret/utfsplit.Split -/
def f7 : IFn := ⟨46, [.inl 2], (.seq f7r0 (.seq f7r1 (.seq (.seq f7r2 (.block 0 (.loop (.seq f7r3 (.seq (.cond (.tmp 13) .skip (.exit 0)) (.seq (.block 1 (.seq f7r4 (.seq f7r5 (.seq f7r6 (.block 2 (.loop (.seq f7r7 (.seq (.cond (.tmp 18) .skip (.exit 2)) (.seq (.block 3 (.seq f7r8 (.seq f7r9 (.seq (.seq f7r10 (.cond (.tmp 38) f7r11 .skip)) f7r12)))) f7r13))))))))) f7r14)))))) (.seq f7r15 .ret))))⟩
def f8r0 : ICode := .region [
  ⟨(some 3), .box 38 (.tmp 1), none⟩,
  ⟨(some 4), .new [(.int .i64 (.ofNat 0)), (.slice none 0 0), (.bool false), (.int .i64 (.ofNat 0)), (.int .i64 (.ofNat 0)), (.bool false), (.int .i64 (.ofNat 0)), (.string ⟨⟨[]⟩⟩), (.slice none 0 0), (.slice none 0 0)] 31, none⟩,
  ⟨(some 5), .new [(.int .i64 (.ofNat 0)), (.int .i64 (.ofNat 0))] 34, none⟩] none
def f8r1 : ICode := .region [
  ⟨(some 9), .move (.tmp 0), none⟩,
  ⟨(some 10), .len 0 (.tmp 9), none⟩,
  ⟨(some 11), .bin .gtr (.tmp 10) (.const (.int .i64 (.ofNat 1024))), none⟩] none
def f8r2 : ICode := .region [
  ⟨(some 12), .build [(.int .i64 (.ofNat 0)), (.slice none 0 0), (.bool false), (.int .i64 (.ofNat 0)), (.int .i64 (.ofNat 0)), (.bool false), (.int .i64 (.ofNat 0)), (.string ⟨⟨[]⟩⟩), (.slice none 0 0), (.slice none 0 0)] [], none⟩,
  ⟨(some 13), .build [(.int .i64 (.ofNat 0)), (.int .i64 (.ofNat 0))] [(0, 1, (.const (.int .i64 (.ofNat 2))))], none⟩,
  ⟨none, .store 10 (.tmp 4) (.tmp 12), none⟩,
  ⟨none, .store 2 (.tmp 5) (.tmp 13), none⟩] none
def f8r3 : ICode := .region [
  ⟨(some 15), .move (.tmp 0), none⟩,
  ⟨(some 16), .call 19 [(.tmp 15), (.const (.int .i64 (.ofNat 1))), (.const (.bool true))], none⟩,
  ⟨(some 14), .move (.tmp 16), none⟩,
  ⟨(some 17), .extract (.tmp 14) 0, none⟩,
  ⟨(some 18), .extract (.tmp 14) 1, none⟩,
  ⟨(some 6), .new [(.int .i64 (.ofNat 0)), (.slice none 0 0), (.slice none 0 0), (.int .i64 (.ofNat 0))] 62, none⟩,
  ⟨none, .store 4 (.tmp 6) (.tmp 17), none⟩,
  ⟨none, .store 2 (.tmp 5) (.tmp 18), none⟩] none
def f8r4 : ICode := .region [
  ⟨(some 19), .fieldAddr 0 (.tmp 5), none⟩,
  ⟨(some 20), .load1 (.tmp 19), none⟩,
  ⟨(some 21), .bin .neq (.tmp 20) (.const (.int .i64 (.ofNat 0))), none⟩] none
def f8r5 : ICode := .region [
  ⟨(some 22), .build [(.int .i64 (.ofNat 0)), (.slice none 0 0), (.bool false), (.int .i64 (.ofNat 0)), (.int .i64 (.ofNat 0)), (.bool false), (.int .i64 (.ofNat 0)), (.string ⟨⟨[]⟩⟩), (.slice none 0 0), (.slice none 0 0)] [], none⟩,
  ⟨(some 23), .loadN 2 (.tmp 5), none⟩,
  ⟨none, .store 10 (.tmp 4) (.tmp 22), none⟩,
  ⟨none, .store 2 (.tmp 5) (.tmp 23), none⟩] (some ⟨[], [(1, 2)]⟩)
def f8r6 : ICode := .region [
  ⟨(some 24), .mkFunc (.func 20) [] [(.tmp 4), (.tmp 5)], none⟩,
  ⟨none, .defer (.tmp 24) [], none⟩] none
def f8r7 : ICode := .region [
  ⟨(some 25), .loadN 4 (.tmp 6), none⟩,
  ⟨(some 26), .buildSlice 9 1 [(.string ⟨⟨[]⟩⟩)] [(0, 1, (.const (.string ⟨⟨[]⟩⟩)))], none⟩,
  ⟨(some 27), .loadN 4 (.tmp 3), none⟩,
  ⟨(some 28), .build [(.int .i64 (.ofNat 0)), (.slice none 0 0), (.slice none 0 0), (.int .i64 (.ofNat 0)), (.int .i64 (.ofNat 0)), (.slice none 0 0), (.slice none 0 0), (.bool false), (.bool false), (.bool false), (.bool false)] [(0, 4, (.tmp 25)), (6, 1, (.tmp 26)), (7, 4, (.tmp 27))], none⟩,
  ⟨(some 29), .box 69 (.tmp 28), none⟩,
  ⟨(some 7), .move (.tmp 29), none⟩] none
def f8r8 : ICode := .region [
  ⟨(some 30), .move (.tmp 7), none⟩,
  ⟨(some 31), .call 21 [(.tmp 30)], none⟩,
  ⟨(some 8), .new [(.int .i64 (.ofNat 0)), (.slice none 0 0), (.bool false), (.int .i64 (.ofNat 0)), (.int .i64 (.ofNat 0)), (.bool false), (.int .i64 (.ofNat 0)), (.string ⟨⟨[]⟩⟩), (.slice none 0 0)] 28, none⟩,
  ⟨none, .store 9 (.tmp 8) (.tmp 31), none⟩] none
def f8r9 : ICode := .region [
  ⟨(some 32), .loadN 9 (.tmp 8), none⟩,
  ⟨(some 33), .move (.tmp 7), none⟩,
  ⟨(some 34), .nilCheck (.tmp 33), none⟩,
  ⟨(some 35), .fieldAddr 6 (.tmp 34), none⟩,
  ⟨(some 36), .load1 (.tmp 35), none⟩,
  ⟨(some 37), .build [(.int .i64 (.ofNat 0)), (.slice none 0 0), (.bool false), (.int .i64 (.ofNat 0)), (.int .i64 (.ofNat 0)), (.bool false), (.int .i64 (.ofNat 0)), (.string ⟨⟨[]⟩⟩), (.slice none 0 0), (.slice none 0 0)] [(0, 9, (.tmp 32)), (9, 1, (.tmp 36))], none⟩,
  ⟨(some 38), .build [(.int .i64 (.ofNat 0)), (.int .i64 (.ofNat 0))] [], none⟩,
  ⟨none, .store 10 (.tmp 4) (.tmp 37), none⟩,
  ⟨none, .store 2 (.tmp 5) (.tmp 38), none⟩] (some ⟨[], []⟩)
/- ferret/syn.Parse -/
def f8 : IFn := ⟨39, [.inr (4, (some 10)), .inr (5, (some 2))], (.seq f8r0 (.seq (.seq f8r1 (.cond (.tmp 11) (.seq f8r2 .ret) .skip)) (.seq f8r3 (.seq (.seq f8r4 (.cond (.tmp 21) (.seq f8r5 .ret) .skip)) (.seq f8r6 (.seq f8r7 (.seq f8r8 (.seq f8r9 .ret))))))))⟩
def f9r0 : ICode := .region [
  ⟨(some 1), .box 31 (.tmp 0), none⟩,
  ⟨(some 2), .new [(.slice none 0 0), (.int .i64 (.ofNat 0))] 41, none⟩,
  ⟨(some 3), .move (.const (.int .i64 (.ofNat 0))), none⟩] none
def f9r1 : ICode := .region [
  ⟨(some 9), .fieldAddr 0 (.tmp 1), none⟩,
  ⟨(some 10), .loadN 9 (.tmp 9), none⟩,
  ⟨(some 11), .call 22 [(.tmp 10)], none⟩,
  ⟨(some 8), .move (.tmp 11), none⟩,
  ⟨(some 12), .extract (.tmp 8) 0, none⟩,
  ⟨(some 13), .extract (.tmp 8) 1, none⟩,
  ⟨(some 4), .new [(.int .i64 (.ofNat 0)), (.slice none 0 0), (.bool false), (.int .i64 (.ofNat 0)), (.int .i64 (.ofNat 0)), (.bool false), (.int .i64 (.ofNat 0)), (.string ⟨⟨[]⟩⟩), (.slice none 0 0)] 28, none⟩,
  ⟨none, .store 9 (.tmp 4) (.tmp 12), none⟩,
  ⟨(some 5), .move (.tmp 13), none⟩] none
def f9r2 : ICode := .region [
  ⟨(some 14), .move (.tmp 5), none⟩,
  ⟨(some 15), .bin .neq (.tmp 14) (.const (.int .i64 (.ofNat 0))), none⟩] none
def f9r3 : ICode := .region [
  ⟨(some 16), .build [(.slice none 0 0), (.int .i64 (.ofNat 0))] [], none⟩,
  ⟨(some 17), .move (.tmp 5), none⟩,
  ⟨none, .store 2 (.tmp 2) (.tmp 16), none⟩,
  ⟨(some 3), .move (.tmp 17), none⟩] none
def f9r4 : ICode := .region [
  ⟨(some 18), .build [(.slice none 0 0), (.bool false)] [], none⟩,
  ⟨(some 19), .box 75 (.tmp 18), none⟩,
  ⟨(some 6), .move (.tmp 19), none⟩] none
def f9r5 : ICode := .region [
  ⟨(some 20), .move (.tmp 6), none⟩,
  ⟨(some 21), .build [(.int .i64 (.ofNat 0)), (.int .i64 (.ofNat 0)), (.int .i64 (.ofNat 0)), (.int .i64 (.ofNat 0)), (.int .i64 (.ofNat 0))] [(0, 1, (.const (.int .i64 (.ofNat 3))))], none⟩,
  ⟨(some 22), .call 23 [(.tmp 20), (.tmp 21)], none⟩] none
def f9r6 : ICode := .region [
  ⟨(some 23), .move (.tmp 6), none⟩,
  ⟨(some 24), .loadN 9 (.tmp 4), none⟩,
  ⟨(some 25), .call 24 [(.tmp 23), (.tmp 24)], none⟩] none
def f9r7 : ICode := .region [
  ⟨(some 26), .move (.tmp 6), none⟩,
  ⟨(some 27), .build [(.int .i64 (.ofNat 0)), (.int .i64 (.ofNat 0)), (.int .i64 (.ofNat 0)), (.int .i64 (.ofNat 0)), (.int .i64 (.ofNat 0))] [(0, 1, (.const (.int .i64 (.ofNat 3)))), (2, 1, (.const (.int .i64 (.ofNat 1))))], none⟩,
  ⟨(some 28), .call 23 [(.tmp 26), (.tmp 27)], none⟩] none
def f9r8 : ICode := .region [
  ⟨(some 29), .move (.tmp 6), none⟩,
  ⟨(some 30), .build [(.int .i64 (.ofNat 0)), (.int .i64 (.ofNat 0)), (.int .i64 (.ofNat 0)), (.int .i64 (.ofNat 0)), (.int .i64 (.ofNat 0))] [(0, 1, (.const (.int .i64 (.ofNat 5))))], none⟩,
  ⟨(some 31), .call 23 [(.tmp 29), (.tmp 30)], none⟩,
  ⟨(some 7), .move (.tmp 31), none⟩] none
def f9r9 : ICode := .region [
  ⟨(some 32), .move (.tmp 6), none⟩,
  ⟨(some 33), .nilCheck (.tmp 32), none⟩,
  ⟨(some 34), .fieldAddr 0 (.tmp 33), none⟩,
  ⟨(some 35), .load1 (.tmp 34), none⟩,
  ⟨(some 36), .move (.tmp 7), none⟩,
  ⟨(some 37), .indexSl 5 (.tmp 35) (.tmp 36), none⟩,
  ⟨(some 38), .fieldAddr 1 (.tmp 37), none⟩,
  ⟨none, .store 1 (.tmp 38) (.const (.int .i64 (.ofNat 0))), none⟩] none
def f9r10 : ICode := .region [
  ⟨(some 39), .move (.tmp 6), none⟩,
  ⟨(some 40), .nilCheck (.tmp 39), none⟩,
  ⟨(some 41), .fieldAddr 1 (.tmp 40), none⟩,
  ⟨(some 42), .load1 (.tmp 41), none⟩] none
def f9r11 : ICode := .region [
  ⟨(some 43), .build [(.slice none 0 0), (.int .i64 (.ofNat 0))] [], none⟩,
  ⟨none, .store 2 (.tmp 2) (.tmp 43), none⟩,
  ⟨(some 3), .move (.const (.int .i64 (.ofNat 26))), none⟩] none
def f9r12 : ICode := .region [
  ⟨(some 44), .move (.tmp 6), none⟩,
  ⟨(some 45), .nilCheck (.tmp 44), none⟩,
  ⟨(some 46), .fieldAddr 0 (.tmp 45), none⟩,
  ⟨(some 47), .load1 (.tmp 46), none⟩,
  ⟨(some 48), .fieldAddr 9 (.tmp 1), none⟩,
  ⟨(some 49), .load1 (.tmp 48), none⟩,
  ⟨(some 50), .len 1 (.tmp 49), none⟩,
  ⟨(some 51), .build [(.slice none 0 0), (.int .i64 (.ofNat 0))] [(0, 1, (.tmp 47)), (1, 1, (.tmp 50))], none⟩,
  ⟨none, .store 2 (.tmp 2) (.tmp 51), none⟩,
  ⟨(some 3), .move (.const (.int .i64 (.ofNat 0))), none⟩] (some ⟨[], []⟩)
/- ferret/prog.Compile -/
def f9 : IFn := ⟨52, [.inr (2, (some 2)), .inl 3], (.seq f9r0 (.seq f9r1 (.seq (.seq f9r2 (.cond (.tmp 15) (.seq f9r3 .ret) .skip)) (.seq f9r4 (.seq f9r5 (.seq f9r6 (.seq f9r7 (.seq f9r8 (.seq f9r9 (.seq (.seq f9r10 (.cond (.tmp 42) (.seq f9r11 .ret) .skip)) (.seq f9r12 .ret)))))))))))⟩
def f10r0 : ICode := .region [
  ⟨(some 2), .move (.const (.slice none 0 0)), none⟩] none
def f10r1 : ICode := .region [
  ⟨(some 7), .move (.tmp 0), none⟩,
  ⟨(some 8), .bin .lss (.tmp 7) (.const (.int .i64 (.ofNat 0))), none⟩,
  ⟨(some 9), .move (.tmp 8), none⟩,
  ⟨(some 10), .move (.tmp 0), (some ((some 9), false))⟩,
  ⟨(some 11), .bin .gtr (.tmp 10) (.const (.int .i64 (.ofNat 1114111))), (some ((some 9), false))⟩,
  ⟨(some 12), .pick (.tmp 9) (.const (.bool true)) (.tmp 11), none⟩] none
def f10r2 : ICode := .region [
  ⟨(some 2), .move (.const (.slice none 0 0)), none⟩] none
def f10r3 : ICode := .region [
  ⟨(some 13), .call 25 [], none⟩,
  ⟨(some 14), .len 1 (.tmp 13), none⟩,
  ⟨(some 15), .move (.const (.int .i64 (.ofNat 0))), none⟩] none
def f10r4 : ICode := .region [
  ⟨(some 16), .bin .lss (.tmp 15) (.tmp 14), none⟩] none
def f10r5 : ICode := .region [
  ⟨(some 17), .indexSl 1 (.tmp 13) (.tmp 15), none⟩,
  ⟨(some 18), .load1 (.tmp 17), none⟩,
  ⟨(some 4), .move (.tmp 18), none⟩] none
def f10r6 : ICode := .region [
  ⟨(some 19), .move (.tmp 4), none⟩,
  ⟨(some 20), .move (.tmp 0), none⟩,
  ⟨(some 21), .call 26 [(.tmp 19), (.tmp 20)], none⟩] none
def f10r7 : ICode := .region [
  ⟨(some 22), .move (.tmp 4), none⟩,
  ⟨(some 2), .move (.tmp 22), none⟩] none
def f10r8 : ICode := .region [
  ⟨(some 23), .bin .add (.tmp 15) (.const (.int .i64 (.ofNat 1))), none⟩,
  ⟨(some 15), .move (.tmp 23), none⟩] none
def f10r9 : ICode := .region [
  ⟨(some 24), .call 27 [], none⟩,
  ⟨(some 25), .len 1 (.tmp 24), none⟩,
  ⟨(some 26), .move (.const (.int .i64 (.ofNat 0))), none⟩] none
def f10r10 : ICode := .region [
  ⟨(some 27), .bin .lss (.tmp 26) (.tmp 25), none⟩] none
def f10r11 : ICode := .region [
  ⟨(some 28), .indexSl 3 (.tmp 24) (.tmp 26), none⟩,
  ⟨(some 29), .loadN 3 (.tmp 28), none⟩,
  ⟨(some 6), .new [(.int .i64 (.ofNat 0)), (.int .i64 (.ofNat 0)), (.int .i64 (.ofNat 0))] 84, none⟩,
  ⟨none, .store 3 (.tmp 6) (.tmp 29), none⟩] none
def f10r12 : ICode := .region [
  ⟨(some 31), .move (.tmp 0), none⟩,
  ⟨(some 32), .fieldAddr 0 (.tmp 6), none⟩,
  ⟨(some 33), .load1 (.tmp 32), none⟩,
  ⟨(some 34), .bin .geq (.tmp 31) (.tmp 33), none⟩,
  ⟨(some 35), .move (.tmp 34), none⟩,
  ⟨(some 36), .move (.tmp 0), (some ((some 35), true))⟩,
  ⟨(some 37), .fieldAddr 1 (.tmp 6), (some ((some 35), true))⟩,
  ⟨(some 38), .load1 (.tmp 37), (some ((some 35), true))⟩,
  ⟨(some 39), .bin .leq (.tmp 36) (.tmp 38), (some ((some 35), true))⟩,
  ⟨(some 40), .pick (.tmp 35) (.tmp 39) (.const (.bool false)), none⟩,
  ⟨(some 30), .move (.tmp 40), none⟩] none
def f10r13 : ICode := .region [
  ⟨(some 41), .move (.tmp 0), none⟩,
  ⟨(some 42), .move (.tmp 0), none⟩,
  ⟨(some 43), .fieldAddr 2 (.tmp 6), none⟩,
  ⟨(some 44), .load1 (.tmp 43), none⟩,
  ⟨(some 45), .bin .add (.tmp 42) (.tmp 44), none⟩,
  ⟨(some 46), .buildSlice 3 2 [(.int .i64 (.ofNat 0)), (.int .i64 (.ofNat 0))] [(0, 1, (.tmp 41)), (1, 1, (.tmp 45))], none⟩,
  ⟨(some 2), .move (.tmp 46), none⟩] none
def f10r14 : ICode := .region [
  ⟨(some 48), .move (.tmp 0), none⟩,
  ⟨(some 49), .fieldAddr 2 (.tmp 6), none⟩,
  ⟨(some 50), .load1 (.tmp 49), none⟩,
  ⟨(some 51), .bin .sub (.tmp 48) (.tmp 50), none⟩,
  ⟨(some 52), .fieldAddr 0 (.tmp 6), none⟩,
  ⟨(some 53), .load1 (.tmp 52), none⟩,
  ⟨(some 54), .bin .geq (.tmp 51) (.tmp 53), none⟩,
  ⟨(some 55), .move (.tmp 54), none⟩,
  ⟨(some 56), .move (.tmp 0), (some ((some 55), true))⟩,
  ⟨(some 57), .fieldAddr 2 (.tmp 6), (some ((some 55), true))⟩,
  ⟨(some 58), .load1 (.tmp 57), (some ((some 55), true))⟩,
  ⟨(some 59), .bin .sub (.tmp 56) (.tmp 58), (some ((some 55), true))⟩,
  ⟨(some 60), .fieldAddr 1 (.tmp 6), (some ((some 55), true))⟩,
  ⟨(some 61), .load1 (.tmp 60), (some ((some 55), true))⟩,
  ⟨(some 62), .bin .leq (.tmp 59) (.tmp 61), (some ((some 55), true))⟩,
  ⟨(some 63), .pick (.tmp 55) (.tmp 62) (.const (.bool false)), none⟩,
  ⟨(some 47), .move (.tmp 63), none⟩] none
def f10r15 : ICode := .region [
  ⟨(some 64), .move (.tmp 0), none⟩,
  ⟨(some 65), .fieldAddr 2 (.tmp 6), none⟩,
  ⟨(some 66), .load1 (.tmp 65), none⟩,
  ⟨(some 67), .bin .sub (.tmp 64) (.tmp 66), none⟩,
  ⟨(some 68), .move (.tmp 0), none⟩,
  ⟨(some 69), .buildSlice 3 2 [(.int .i64 (.ofNat 0)), (.int .i64 (.ofNat 0))] [(0, 1, (.tmp 67)), (1, 1, (.tmp 68))], none⟩,
  ⟨(some 2), .move (.tmp 69), none⟩] none
def f10r16 : ICode := .region [
  ⟨(some 70), .bin .add (.tmp 26) (.const (.int .i64 (.ofNat 1))), none⟩,
  ⟨(some 26), .move (.tmp 70), none⟩] none
def f10r17 : ICode := .region [
  ⟨(some 71), .move (.tmp 0), none⟩,
  ⟨(some 72), .buildSlice 3 1 [(.int .i64 (.ofNat 0))] [(0, 1, (.tmp 71))], none⟩,
  ⟨(some 2), .move (.tmp 72), none⟩] none
/- ferret/ucd.Orbit -/
def f10 : IFn := ⟨73, [.inl 2], (.seq f10r0 (.seq (.seq f10r1 (.cond (.tmp 12) (.seq f10r2 .ret) .skip)) (.seq (.seq f10r3 (.block 0 (.loop (.seq f10r4 (.seq (.cond (.tmp 16) .skip (.exit 0)) (.seq (.block 1 (.seq f10r5 (.seq f10r6 (.cond (.tmp 21) (.seq f10r7 .ret) .skip)))) f10r8)))))) (.seq (.seq f10r9 (.block 2 (.loop (.seq f10r10 (.seq (.cond (.tmp 27) .skip (.exit 2)) (.seq (.block 3 (.seq f10r11 (.block 4 (.seq f10r12 (.cond (.tmp 30) (.seq f10r13 .ret) (.seq f10r14 (.cond (.tmp 47) (.seq f10r15 .ret) .skip))))))) f10r16)))))) (.seq f10r17 .ret)))))⟩
def f11r0 : ICode := .region [
  ⟨(some 2), .move (.const (.string ⟨⟨[]⟩⟩)), none⟩] none
def f11r1 : ICode := .region [
  ⟨(some 8), .move (.tmp 0), none⟩,
  ⟨(some 9), .call 28 [(.tmp 8)], none⟩,
  ⟨(some 10), .bin .add (.const (.string ⟨⟨[92, 120, 123]⟩⟩)) (.tmp 9), none⟩,
  ⟨(some 11), .bin .add (.tmp 10) (.const (.string ⟨⟨[125]⟩⟩)), none⟩,
  ⟨(some 12), .build [(.bool false), (.bool false), (.bool false), (.bool false)] [(0, 1, (.const (.bool true)))], none⟩,
  ⟨(some 13), .call 8 [(.tmp 11), (.tmp 12)], none⟩,
  ⟨(some 7), .move (.tmp 13), none⟩,
  ⟨(some 14), .extract (.tmp 7) 0, none⟩,
  ⟨(some 15), .extract (.tmp 7) 1, none⟩,
  ⟨(some 3), .new [(.int .i64 (.ofNat 0)), (.slice none 0 0), (.bool false), (.int .i64 (.ofNat 0)), (.int .i64 (.ofNat 0)), (.bool false), (.int .i64 (.ofNat 0)), (.string ⟨⟨[]⟩⟩), (.slice none 0 0), (.slice none 0 0)] 31, none⟩,
  ⟨(some 4), .new [(.int .i64 (.ofNat 0)), (.int .i64 (.ofNat 0))] 34, none⟩,
  ⟨none, .store 10 (.tmp 3) (.tmp 14), none⟩,
  ⟨none, .store 2 (.tmp 4) (.tmp 15), none⟩] none
def f11r2 : ICode := .region [
  ⟨(some 17), .loadN 10 (.tmp 3), none⟩,
  ⟨(some 18), .call 9 [(.tmp 17)], none⟩,
  ⟨(some 16), .move (.tmp 18), none⟩,
  ⟨(some 19), .extract (.tmp 16) 0, none⟩,
  ⟨(some 20), .extract (.tmp 16) 1, none⟩,
  ⟨(some 5), .new [(.slice none 0 0), (.int .i64 (.ofNat 0))] 41, none⟩,
  ⟨none, .store 2 (.tmp 5) (.tmp 19), none⟩,
  ⟨(some 6), .move (.tmp 20), none⟩] none
def f11r3 : ICode := .region [
  ⟨(some 21), .loadN 2 (.tmp 4), none⟩,
  ⟨(some 22), .build [(.int .i64 (.ofNat 0)), (.int .i64 (.ofNat 0))] [], none⟩,
  ⟨(some 23), .eqC true 34 (.tmp 21) (.tmp 22), none⟩,
  ⟨(some 24), .move (.tmp 23), none⟩,
  ⟨(some 25), .move (.tmp 6), (some ((some 24), false))⟩,
  ⟨(some 26), .bin .neq (.tmp 25) (.const (.int .i64 (.ofNat 0))), (some ((some 24), false))⟩,
  ⟨(some 27), .pick (.tmp 24) (.const (.bool true)) (.tmp 26), none⟩] none
def f11r4 : ICode := .region [
  ⟨(some 2), .move (.const (.string ⟨⟨[110, 111, 110, 101]⟩⟩)), none⟩] none
def f11r5 : ICode := .region [
  ⟨(some 28), .loadN 2 (.tmp 5), none⟩,
  ⟨(some 29), .call 29 [(.tmp 28)], none⟩,
  ⟨(some 2), .move (.tmp 29), none⟩] none
/- ferret/ferrettop.program -/
def f11 : IFn := ⟨30, [.inl 2], (.seq f11r0 (.seq f11r1 (.seq f11r2 (.seq (.seq f11r3 (.cond (.tmp 27) (.seq f11r4 .ret) .skip)) (.seq f11r5 .ret)))))⟩
def f12r0 : ICode := .region [
  ⟨(some 6), .move (.const (.string ⟨⟨[]⟩⟩)), none⟩,
  ⟨(some 7), .move (.const (.int .i64 (.ofNat 0))), none⟩] none
def f12r1 : ICode := .region [
  ⟨(some 11), .move (.tmp 1), none⟩,
  ⟨(some 12), .bin .lss (.tmp 11) (.const (.int .i64 (.ofNat 1))), none⟩,
  ⟨(some 13), .move (.tmp 12), none⟩,
  ⟨(some 14), .move (.tmp 1), (some ((some 13), false))⟩,
  ⟨(some 15), .bin .gtr (.tmp 14) (.const (.int .i64 (.ofNat 4))), (some ((some 13), false))⟩,
  ⟨(some 16), .pick (.tmp 13) (.const (.bool true)) (.tmp 15), none⟩] none
def f12r2 : ICode := .region [
  ⟨(some 6), .move (.const (.string ⟨⟨[]⟩⟩)), none⟩,
  ⟨(some 7), .move (.const (.int .i64 (.ofNat 1))), none⟩] none
def f12r3 : ICode := .region [
  ⟨(some 8), .move (.const (.slice none 0 0)), none⟩] none
def f12r4 : ICode := .region [
  ⟨(some 17), .move (.tmp 2), none⟩] none
def f12r5 : ICode := .region [
  ⟨(some 18), .move (.tmp 8), none⟩,
  ⟨(some 19), .move (.tmp 1), none⟩,
  ⟨(some 20), .call 30 [(.tmp 19)], none⟩,
  ⟨(some 21), .append 5 1 1 (.tmp 18) (.tmp 20), none⟩,
  ⟨(some 8), .move (.tmp 21), none⟩] none
def f12r6 : ICode := .region [
  ⟨(some 22), .move (.tmp 0), none⟩,
  ⟨(some 23), .len 1 (.tmp 22), none⟩,
  ⟨(some 24), .move (.const (.int .i64 (.ofNat 0))), none⟩] none
def f12r7 : ICode := .region [
  ⟨(some 25), .bin .lss (.tmp 24) (.tmp 23), none⟩] none
def f12r8 : ICode := .region [
  ⟨(some 26), .indexSl 1 (.tmp 22) (.tmp 24), none⟩,
  ⟨(some 27), .load1 (.tmp 26), none⟩,
  ⟨(some 10), .move (.tmp 27), none⟩] none
def f12r9 : ICode := .region [
  ⟨(some 28), .move (.tmp 10), none⟩,
  ⟨(some 29), .bin .lss (.tmp 28) (.const (.int .i64 (.ofNat 0))), none⟩,
  ⟨(some 30), .move (.tmp 29), none⟩,
  ⟨(some 31), .move (.tmp 10), (some ((some 30), false))⟩,
  ⟨(some 32), .bin .gtr (.tmp 31) (.const (.int .i64 (.ofNat 1114111))), (some ((some 30), false))⟩,
  ⟨(some 33), .pick (.tmp 30) (.const (.bool true)) (.tmp 32), none⟩,
  ⟨(some 34), .move (.tmp 33), none⟩,
  ⟨(some 35), .move (.tmp 10), (some ((some 34), false))⟩,
  ⟨(some 36), .bin .geq (.tmp 35) (.const (.int .i64 (.ofNat 55296))), (some ((some 34), false))⟩,
  ⟨(some 37), .move (.tmp 36), (some ((some 34), false))⟩,
  ⟨(some 38), .move (.tmp 10), (some ((some 37), true))⟩,
  ⟨(some 39), .bin .leq (.tmp 38) (.const (.int .i64 (.ofNat 57343))), (some ((some 37), true))⟩,
  ⟨(some 40), .pick (.tmp 37) (.tmp 39) (.const (.bool false)), (some ((some 34), false))⟩,
  ⟨(some 41), .pick (.tmp 34) (.const (.bool true)) (.tmp 40), none⟩,
  ⟨(some 42), .move (.tmp 41), none⟩,
  ⟨(some 43), .move (.tmp 1), (some ((some 42), false))⟩,
  ⟨(some 44), .bin .eql (.tmp 43) (.const (.int .i64 (.ofNat 4))), (some ((some 42), false))⟩,
  ⟨(some 45), .move (.tmp 44), (some ((some 42), false))⟩,
  ⟨(some 46), .move (.tmp 10), (some ((some 45), true))⟩,
  ⟨(some 47), .bin .gtr (.tmp 46) (.const (.int .i64 (.ofNat 255))), (some ((some 45), true))⟩,
  ⟨(some 48), .pick (.tmp 45) (.tmp 47) (.const (.bool false)), (some ((some 42), false))⟩,
  ⟨(some 49), .pick (.tmp 42) (.const (.bool true)) (.tmp 48), none⟩] none
def f12r10 : ICode := .region [
  ⟨(some 6), .move (.const (.string ⟨⟨[]⟩⟩)), none⟩,
  ⟨(some 7), .move (.const (.int .i64 (.ofNat 17))), none⟩] none
def f12r11 : ICode := .region [
  ⟨(some 50), .move (.tmp 8), none⟩,
  ⟨(some 51), .move (.tmp 10), none⟩,
  ⟨(some 52), .move (.tmp 1), none⟩,
  ⟨(some 53), .call 31 [(.tmp 50), (.tmp 51), (.tmp 52)], none⟩,
  ⟨(some 8), .move (.tmp 53), none⟩] none
def f12r12 : ICode := .region [
  ⟨(some 54), .bin .add (.tmp 24) (.const (.int .i64 (.ofNat 1))), none⟩,
  ⟨(some 24), .move (.tmp 54), none⟩] none
def f12r13 : ICode := .region [
  ⟨(some 55), .move (.tmp 8), none⟩,
  ⟨(some 56), .bytesToStr (.tmp 55), none⟩,
  ⟨(some 6), .move (.tmp 56), none⟩,
  ⟨(some 7), .move (.const (.int .i64 (.ofNat 0))), none⟩] none
/- ferret/coding.Encode -/
def f12 : IFn := ⟨57, [.inl 6, .inl 7], (.seq f12r0 (.seq (.seq f12r1 (.cond (.tmp 16) (.seq f12r2 .ret) .skip)) (.seq f12r3 (.seq (.seq f12r4 (.cond (.tmp 17) f12r5 .skip)) (.seq (.seq f12r6 (.block 0 (.loop (.seq f12r7 (.seq (.cond (.tmp 25) .skip (.exit 0)) (.seq (.block 1 (.seq f12r8 (.seq (.seq f12r9 (.cond (.tmp 49) (.seq f12r10 .ret) .skip)) f12r11))) f12r12)))))) (.seq f12r13 .ret))))))⟩
def f13r0 : ICode := .region [
  ⟨(some 0), .move (.const (.bool false)), none⟩] none
def f13r1 : ICode := .region [
  ⟨(some 6), .build [(.bool false), (.bool false), (.bool false), (.bool false)] [], none⟩,
  ⟨(some 7), .call 8 [(.const (.string ⟨⟨[97, 42]⟩⟩)), (.tmp 6)], none⟩,
  ⟨(some 5), .move (.tmp 7), none⟩,
  ⟨(some 8), .extract (.tmp 5) 0, none⟩,
  ⟨(some 9), .extract (.tmp 5) 1, none⟩,
  ⟨(some 1), .new [(.int .i64 (.ofNat 0)), (.slice none 0 0), (.bool false), (.int .i64 (.ofNat 0)), (.int .i64 (.ofNat 0)), (.bool false), (.int .i64 (.ofNat 0)), (.string ⟨⟨[]⟩⟩), (.slice none 0 0), (.slice none 0 0)] 31, none⟩,
  ⟨(some 2), .new [(.int .i64 (.ofNat 0)), (.int .i64 (.ofNat 0))] 34, none⟩,
  ⟨none, .store 10 (.tmp 1) (.tmp 8), none⟩,
  ⟨none, .store 2 (.tmp 2) (.tmp 9), none⟩] none
def f13r2 : ICode := .region [
  ⟨(some 11), .loadN 10 (.tmp 1), none⟩,
  ⟨(some 12), .call 9 [(.tmp 11)], none⟩,
  ⟨(some 10), .move (.tmp 12), none⟩,
  ⟨(some 13), .extract (.tmp 10) 0, none⟩,
  ⟨(some 14), .extract (.tmp 10) 1, none⟩,
  ⟨(some 3), .new [(.slice none 0 0), (.int .i64 (.ofNat 0))] 41, none⟩,
  ⟨none, .store 2 (.tmp 3) (.tmp 13), none⟩,
  ⟨(some 4), .move (.tmp 14), none⟩] none
def f13r3 : ICode := .region [
  ⟨(some 15), .move (.tmp 4), none⟩,
  ⟨(some 16), .bin .eql (.tmp 15) (.const (.int .i64 (.ofNat 0))), none⟩,
  ⟨(some 17), .move (.tmp 16), none⟩,
  ⟨(some 18), .loadN 2 (.tmp 3), (some ((some 17), true))⟩,
  ⟨(some 19), .call 29 [(.tmp 18)], (some ((some 17), true))⟩,
  ⟨(some 20), .bin .eql (.tmp 19) (.const (.string ⟨⟨[48, 32, 115, 97, 118, 101, 32, 48, 32, 49, 10, 49, 32, 115, 112, 108, 105, 116, 32, 50, 32, 52, 10, 50, 32, 98, 121, 116, 101, 32, 57, 55, 32, 57, 55, 32, 51, 10, 51, 32, 106, 117, 109, 112, 32, 49, 10, 52, 32, 115, 97, 118, 101, 32, 49, 32, 53, 10, 53, 32, 109, 97, 116, 99, 104, 10]⟩⟩)), (some ((some 17), true))⟩,
  ⟨(some 21), .pick (.tmp 17) (.tmp 20) (.const (.bool false)), none⟩,
  ⟨(some 0), .move (.tmp 21), none⟩] none
/- ferret/ferretlaw14.speaks -/
def f13 : IFn := ⟨22, [.inl 0], (.seq f13r0 (.seq f13r1 (.seq f13r2 (.seq f13r3 .ret))))⟩
def f14r0 : ICode := .region [
  ⟨(some 2), .move (.const (.string ⟨⟨[]⟩⟩)), none⟩] none
def f14r1 : ICode := .region [
  ⟨(some 3), .move (.tmp 0), none⟩,
  ⟨(some 4), .bin .lss (.tmp 3) (.const (.int .i64 (.ofNat 10))), none⟩] none
def f14r2 : ICode := .region [
  ⟨(some 5), .move (.tmp 0), none⟩,
  ⟨(some 6), .bin .add (.const (.int .i64 (.ofNat 48))) (.tmp 5), none⟩,
  ⟨(some 7), .conv .u8 (.tmp 6), none⟩,
  ⟨(some 8), .buildSlice 5 1 [(.int .u8 (.ofNat 0))] [(0, 1, (.tmp 7))], none⟩,
  ⟨(some 9), .bytesToStr (.tmp 8), none⟩,
  ⟨(some 2), .move (.tmp 9), none⟩] none
def f14r3 : ICode := .region [
  ⟨(some 10), .move (.tmp 0), none⟩,
  ⟨(some 11), .bin .quo (.tmp 10) (.const (.int .i64 (.ofNat 10))), none⟩,
  ⟨(some 12), .call 14 [(.tmp 11)], none⟩,
  ⟨(some 13), .move (.tmp 0), none⟩,
  ⟨(some 14), .bin .rem (.tmp 13) (.const (.int .i64 (.ofNat 10))), none⟩,
  ⟨(some 15), .bin .add (.const (.int .i64 (.ofNat 48))) (.tmp 14), none⟩,
  ⟨(some 16), .conv .u8 (.tmp 15), none⟩,
  ⟨(some 17), .buildSlice 5 1 [(.int .u8 (.ofNat 0))] [(0, 1, (.tmp 16))], none⟩,
  ⟨(some 18), .bytesToStr (.tmp 17), none⟩,
  ⟨(some 19), .bin .add (.tmp 12) (.tmp 18), none⟩,
  ⟨(some 2), .move (.tmp 19), none⟩] (some ⟨[], [(8, 2)]⟩)
/- ferret/ferretlaw14.number -/
def f14 : IFn := ⟨20, [.inl 2], (.seq f14r0 (.seq (.seq f14r1 (.cond (.tmp 4) (.seq f14r2 .ret) .skip)) (.seq f14r3 .ret)))⟩
def f15r0 : ICode := .region [
  ⟨(some 6), .move (.const (.bool false)), none⟩] none
def f15r1 : ICode := .region [
  ⟨(some 7), .move (.tmp 2), none⟩,
  ⟨(some 8), .bin .lss (.tmp 7) (.const (.int .i64 (.ofNat 0))), none⟩,
  ⟨(some 9), .move (.tmp 8), none⟩,
  ⟨(some 10), .move (.tmp 2), (some ((some 9), false))⟩,
  ⟨(some 11), .move (.tmp 1), (some ((some 9), false))⟩,
  ⟨(some 12), .len 0 (.tmp 11), (some ((some 9), false))⟩,
  ⟨(some 13), .bin .gtr (.tmp 10) (.tmp 12), (some ((some 9), false))⟩,
  ⟨(some 14), .pick (.tmp 9) (.const (.bool true)) (.tmp 13), none⟩] none
def f15r2 : ICode := .region [
  ⟨(some 6), .move (.const (.bool false)), none⟩] none
def f15r3 : ICode := .region [
  ⟨(some 15), .move (.tmp 0), none⟩] none
def f15r4 : ICode := .region [
  ⟨(some 17), .bin .eql (.tmp 15) (.const (.int .i64 (.ofNat 2))), none⟩,
  ⟨(some 16), .move (.tmp 17), none⟩] none
def f15r5 : ICode := .region [
  ⟨(some 18), .move (.tmp 2), none⟩,
  ⟨(some 19), .bin .eql (.tmp 18) (.const (.int .i64 (.ofNat 0))), none⟩,
  ⟨(some 6), .move (.tmp 19), none⟩] none
def f15r6 : ICode := .region [
  ⟨(some 21), .bin .eql (.tmp 15) (.const (.int .i64 (.ofNat 3))), none⟩,
  ⟨(some 20), .move (.tmp 21), none⟩] none
def f15r7 : ICode := .region [
  ⟨(some 22), .move (.tmp 2), none⟩,
  ⟨(some 23), .move (.tmp 1), none⟩,
  ⟨(some 24), .len 0 (.tmp 23), none⟩,
  ⟨(some 25), .bin .eql (.tmp 22) (.tmp 24), none⟩,
  ⟨(some 6), .move (.tmp 25), none⟩] none
def f15r8 : ICode := .region [
  ⟨(some 27), .bin .eql (.tmp 15) (.const (.int .i64 (.ofNat 4))), none⟩,
  ⟨(some 26), .move (.tmp 27), none⟩] none
def f15r9 : ICode := .region [
  ⟨(some 28), .move (.tmp 2), none⟩,
  ⟨(some 29), .bin .eql (.tmp 28) (.const (.int .i64 (.ofNat 0))), none⟩,
  ⟨(some 30), .move (.tmp 29), none⟩,
  ⟨(some 31), .move (.tmp 1), (some ((some 30), false))⟩,
  ⟨(some 32), .move (.tmp 2), (some ((some 30), false))⟩,
  ⟨(some 33), .bin .sub (.tmp 32) (.const (.int .i64 (.ofNat 1))), (some ((some 30), false))⟩,
  ⟨(some 34), .indexStr (.tmp 31) (.tmp 33), (some ((some 30), false))⟩,
  ⟨(some 35), .bin .eql (.tmp 34) (.const (.int .u8 (.ofNat 10))), (some ((some 30), false))⟩,
  ⟨(some 36), .pick (.tmp 30) (.const (.bool true)) (.tmp 35), none⟩,
  ⟨(some 6), .move (.tmp 36), none⟩] none
def f15r10 : ICode := .region [
  ⟨(some 38), .bin .eql (.tmp 15) (.const (.int .i64 (.ofNat 5))), none⟩,
  ⟨(some 37), .move (.tmp 38), none⟩] none
def f15r11 : ICode := .region [
  ⟨(some 39), .move (.tmp 2), none⟩,
  ⟨(some 40), .move (.tmp 1), none⟩,
  ⟨(some 41), .len 0 (.tmp 40), none⟩,
  ⟨(some 42), .bin .eql (.tmp 39) (.tmp 41), none⟩,
  ⟨(some 43), .move (.tmp 42), none⟩,
  ⟨(some 44), .move (.tmp 1), (some ((some 43), false))⟩,
  ⟨(some 45), .move (.tmp 2), (some ((some 43), false))⟩,
  ⟨(some 46), .indexStr (.tmp 44) (.tmp 45), (some ((some 43), false))⟩,
  ⟨(some 47), .bin .eql (.tmp 46) (.const (.int .u8 (.ofNat 10))), (some ((some 43), false))⟩,
  ⟨(some 48), .pick (.tmp 43) (.const (.bool true)) (.tmp 47), none⟩,
  ⟨(some 6), .move (.tmp 48), none⟩] none
def f15r12 : ICode := .region [
  ⟨(some 50), .bin .eql (.tmp 15) (.const (.int .i64 (.ofNat 6))), none⟩,
  ⟨(some 49), .move (.tmp 50), none⟩] none
def f15r13 : ICode := .region [
  ⟨(some 51), .move (.tmp 1), none⟩,
  ⟨(some 52), .move (.tmp 2), none⟩,
  ⟨(some 53), .bin .sub (.tmp 52) (.const (.int .i64 (.ofNat 1))), none⟩,
  ⟨(some 54), .call 32 [(.tmp 51), (.tmp 53)], none⟩,
  ⟨(some 55), .move (.tmp 1), none⟩,
  ⟨(some 56), .move (.tmp 2), none⟩,
  ⟨(some 57), .call 32 [(.tmp 55), (.tmp 56)], none⟩,
  ⟨(some 58), .eqB true (.tmp 54) (.tmp 57), none⟩,
  ⟨(some 6), .move (.tmp 58), none⟩] none
def f15r14 : ICode := .region [
  ⟨(some 60), .bin .eql (.tmp 15) (.const (.int .i64 (.ofNat 7))), none⟩,
  ⟨(some 59), .move (.tmp 60), none⟩] none
def f15r15 : ICode := .region [
  ⟨(some 61), .move (.tmp 1), none⟩,
  ⟨(some 62), .move (.tmp 2), none⟩,
  ⟨(some 63), .bin .sub (.tmp 62) (.const (.int .i64 (.ofNat 1))), none⟩,
  ⟨(some 64), .call 32 [(.tmp 61), (.tmp 63)], none⟩,
  ⟨(some 65), .move (.tmp 1), none⟩,
  ⟨(some 66), .move (.tmp 2), none⟩,
  ⟨(some 67), .call 32 [(.tmp 65), (.tmp 66)], none⟩,
  ⟨(some 68), .eqB false (.tmp 64) (.tmp 67), none⟩,
  ⟨(some 6), .move (.tmp 68), none⟩] none
def f15r16 : ICode := .region [
  ⟨(some 6), .move (.const (.bool false)), none⟩] none
/- ferret/prog.Holds -/
def f15 : IFn := ⟨69, [.inl 6], (.seq f15r0 (.seq (.seq f15r1 (.cond (.tmp 14) (.seq f15r2 .ret) .skip)) (.seq (.seq f15r3 (.block 0 (.seq f15r4 (.cond (.tmp 16) (.seq f15r5 .ret) (.seq f15r6 (.cond (.tmp 20) (.seq f15r7 .ret) (.seq f15r8 (.cond (.tmp 26) (.seq f15r9 .ret) (.seq f15r10 (.cond (.tmp 37) (.seq f15r11 .ret) (.seq f15r12 (.cond (.tmp 49) (.seq f15r13 .ret) (.seq f15r14 (.cond (.tmp 59) (.seq f15r15 .ret) .skip)))))))))))))) (.seq f15r16 .ret))))⟩
def f16r0 : ICode := .region [
  ⟨(some 6), .move (.const (.bool false)), none⟩] none
def f16r1 : ICode := .region [
  ⟨(some 8), .move (.tmp 2), none⟩,
  ⟨(some 9), .bin .lss (.tmp 8) (.const (.int .i64 (.ofNat 0))), none⟩,
  ⟨(some 10), .move (.tmp 9), none⟩,
  ⟨(some 11), .move (.tmp 2), (some ((some 10), false))⟩,
  ⟨(some 12), .move (.tmp 1), (some ((some 10), false))⟩,
  ⟨(some 13), .len 0 (.tmp 12), (some ((some 10), false))⟩,
  ⟨(some 14), .bin .gtr (.tmp 11) (.tmp 13), (some ((some 10), false))⟩,
  ⟨(some 15), .pick (.tmp 10) (.const (.bool true)) (.tmp 14), none⟩] none
def f16r2 : ICode := .region [
  ⟨(some 6), .move (.const (.bool false)), none⟩] none
def f16r3 : ICode := .region [
  ⟨(some 16), .move (.tmp 1), none⟩,
  ⟨(some 17), .move (.tmp 2), none⟩,
  ⟨(some 18), .bin .sub (.tmp 17) (.const (.int .i64 (.ofNat 1))), none⟩,
  ⟨(some 19), .call 33 [(.tmp 16), (.tmp 18)], none⟩,
  ⟨(some 20), .move (.tmp 1), none⟩,
  ⟨(some 21), .move (.tmp 2), none⟩,
  ⟨(some 22), .call 33 [(.tmp 20), (.tmp 21)], none⟩,
  ⟨(some 23), .eqB true (.tmp 19) (.tmp 22), none⟩,
  ⟨(some 7), .move (.tmp 23), none⟩] none
def f16r4 : ICode := .region [
  ⟨(some 24), .move (.tmp 0), none⟩] none
def f16r5 : ICode := .region [
  ⟨(some 26), .bin .eql (.tmp 24) (.const (.int .i64 (.ofNat 2))), none⟩,
  ⟨(some 25), .move (.tmp 26), none⟩] none
def f16r6 : ICode := .region [
  ⟨(some 27), .move (.tmp 2), none⟩,
  ⟨(some 28), .bin .eql (.tmp 27) (.const (.int .i64 (.ofNat 0))), none⟩,
  ⟨(some 6), .move (.tmp 28), none⟩] none
def f16r7 : ICode := .region [
  ⟨(some 30), .bin .eql (.tmp 24) (.const (.int .i64 (.ofNat 3))), none⟩,
  ⟨(some 29), .move (.tmp 30), none⟩] none
def f16r8 : ICode := .region [
  ⟨(some 31), .move (.tmp 2), none⟩,
  ⟨(some 32), .move (.tmp 1), none⟩,
  ⟨(some 33), .len 0 (.tmp 32), none⟩,
  ⟨(some 34), .bin .eql (.tmp 31) (.tmp 33), none⟩,
  ⟨(some 6), .move (.tmp 34), none⟩] none
def f16r9 : ICode := .region [
  ⟨(some 36), .bin .eql (.tmp 24) (.const (.int .i64 (.ofNat 4))), none⟩,
  ⟨(some 35), .move (.tmp 36), none⟩] none
def f16r10 : ICode := .region [
  ⟨(some 37), .move (.tmp 2), none⟩,
  ⟨(some 38), .bin .eql (.tmp 37) (.const (.int .i64 (.ofNat 0))), none⟩,
  ⟨(some 39), .move (.tmp 38), none⟩,
  ⟨(some 40), .move (.tmp 1), (some ((some 39), false))⟩,
  ⟨(some 41), .move (.tmp 2), (some ((some 39), false))⟩,
  ⟨(some 42), .bin .sub (.tmp 41) (.const (.int .i64 (.ofNat 1))), (some ((some 39), false))⟩,
  ⟨(some 43), .indexStr (.tmp 40) (.tmp 42), (some ((some 39), false))⟩,
  ⟨(some 44), .bin .eql (.tmp 43) (.const (.int .u8 (.ofNat 10))), (some ((some 39), false))⟩,
  ⟨(some 45), .pick (.tmp 39) (.const (.bool true)) (.tmp 44), none⟩,
  ⟨(some 6), .move (.tmp 45), none⟩] none
def f16r11 : ICode := .region [
  ⟨(some 47), .bin .eql (.tmp 24) (.const (.int .i64 (.ofNat 5))), none⟩,
  ⟨(some 46), .move (.tmp 47), none⟩] none
def f16r12 : ICode := .region [
  ⟨(some 48), .move (.tmp 2), none⟩,
  ⟨(some 49), .move (.tmp 1), none⟩,
  ⟨(some 50), .len 0 (.tmp 49), none⟩,
  ⟨(some 51), .bin .eql (.tmp 48) (.tmp 50), none⟩,
  ⟨(some 52), .move (.tmp 51), none⟩,
  ⟨(some 53), .move (.tmp 1), (some ((some 52), false))⟩,
  ⟨(some 54), .move (.tmp 2), (some ((some 52), false))⟩,
  ⟨(some 55), .indexStr (.tmp 53) (.tmp 54), (some ((some 52), false))⟩,
  ⟨(some 56), .bin .eql (.tmp 55) (.const (.int .u8 (.ofNat 10))), (some ((some 52), false))⟩,
  ⟨(some 57), .pick (.tmp 52) (.const (.bool true)) (.tmp 56), none⟩,
  ⟨(some 6), .move (.tmp 57), none⟩] none
def f16r13 : ICode := .region [
  ⟨(some 59), .bin .eql (.tmp 24) (.const (.int .i64 (.ofNat 6))), none⟩,
  ⟨(some 58), .move (.tmp 59), none⟩] none
def f16r14 : ICode := .region [
  ⟨(some 60), .move (.tmp 7), none⟩,
  ⟨(some 6), .move (.tmp 60), none⟩] none
def f16r15 : ICode := .region [
  ⟨(some 62), .bin .eql (.tmp 24) (.const (.int .i64 (.ofNat 7))), none⟩,
  ⟨(some 61), .move (.tmp 62), none⟩] none
def f16r16 : ICode := .region [
  ⟨(some 63), .move (.tmp 7), none⟩,
  ⟨(some 64), .un .not (.tmp 63), none⟩,
  ⟨(some 6), .move (.tmp 64), none⟩] none
def f16r17 : ICode := .region [
  ⟨(some 6), .move (.const (.bool false)), none⟩] none
/- ferret/ferretref14.Holds -/
def f16 : IFn := ⟨65, [.inl 6], (.seq f16r0 (.seq (.seq f16r1 (.cond (.tmp 15) (.seq f16r2 .ret) .skip)) (.seq f16r3 (.seq (.seq f16r4 (.block 0 (.seq f16r5 (.cond (.tmp 25) (.seq f16r6 .ret) (.seq f16r7 (.cond (.tmp 29) (.seq f16r8 .ret) (.seq f16r9 (.cond (.tmp 35) (.seq f16r10 .ret) (.seq f16r11 (.cond (.tmp 46) (.seq f16r12 .ret) (.seq f16r13 (.cond (.tmp 58) (.seq f16r14 .ret) (.seq f16r15 (.cond (.tmp 61) (.seq f16r16 .ret) .skip)))))))))))))) (.seq f16r17 .ret)))))⟩
def f17r0 : ICode := .region [
  ⟨(some 0), .new [(.int .i64 (.ofNat 0)), (.int .i64 (.ofNat 0)), (.int .i64 (.ofNat 0)), (.int .i64 (.ofNat 0)), (.int .i64 (.ofNat 0)), (.int .i64 (.ofNat 0))] 58, none⟩] none
def f17r1 : ICode := .region [
  ⟨(some 1), .build [(.int .i64 (.ofNat 0)), (.int .i64 (.ofNat 0)), (.int .i64 (.ofNat 0)), (.int .i64 (.ofNat 0)), (.int .i64 (.ofNat 0)), (.int .i64 (.ofNat 0))] [(0, 1, (.const (.int .i64 (.ofNat 128)))), (1, 1, (.const (.int .i64 (.ofNat 2048)))), (2, 1, (.const (.int .i64 (.ofNat 55296)))), (3, 1, (.const (.int .i64 (.ofNat 57344)))), (4, 1, (.const (.int .i64 (.ofNat 65536)))), (5, 1, (.const (.int .i64 (.ofNat 1114112))))], none⟩,
  ⟨none, .store 6 (.tmp 0) (.tmp 1), none⟩] none
/- ferret/utfsplit.borders -/
def f17 : IFn := ⟨2, [.inr (0, (some 6))], (.seq f17r0 (.seq f17r1 .ret))⟩
def f18r0 : ICode := .region [
  ⟨(some 3), .box 53 (.tmp 1), none⟩,
  ⟨(some 4), .move (.const (.slice none 0 0)), none⟩] none
def f18r1 : ICode := .region [
  ⟨(some 5), .fieldAddr 1 (.tmp 3), none⟩,
  ⟨(some 6), .load1 (.tmp 5), none⟩,
  ⟨(some 7), .bin .lss (.tmp 6) (.const (.int .i64 (.ofNat 128))), none⟩] none
def f18r2 : ICode := .region [
  ⟨(some 8), .move (.tmp 0), none⟩,
  ⟨(some 9), .loadN 2 (.tmp 3), none⟩,
  ⟨(some 10), .buildSlice 53 1 [(.int .i64 (.ofNat 0)), (.int .i64 (.ofNat 0))] [(0, 2, (.tmp 9))], none⟩,
  ⟨(some 11), .buildSlice 88 1 [(.slice none 0 0)] [(0, 1, (.tmp 10))], none⟩,
  ⟨(some 12), .append 88 1 24 (.tmp 8) (.tmp 11), none⟩,
  ⟨(some 4), .move (.tmp 12), none⟩] none
def f18r3 : ICode := .region [
  ⟨(some 13), .move (.tmp 0), none⟩,
  ⟨(some 14), .loadN 2 (.tmp 3), none⟩,
  ⟨(some 15), .call 34 [(.tmp 13), (.tmp 14)], none⟩,
  ⟨(some 4), .move (.tmp 15), none⟩] none
/- ferret/utfsplit.cut -/
def f18 : IFn := ⟨16, [.inl 4], (.seq f18r0 (.seq (.seq f18r1 (.cond (.tmp 7) (.seq f18r2 .ret) .skip)) (.seq f18r3 .ret)))⟩
def f19r0 : ICode := .region [
  ⟨(some 6), .new [(.int .i64 (.ofNat 0)), (.slice none 0 0), (.slice none 0 0), (.int .i64 (.ofNat 0))] 62, none⟩,
  ⟨(some 7), .new [(.int .i64 (.ofNat 0)), (.int .i64 (.ofNat 0))] 34, none⟩] none
def f19r1 : ICode := .region [
  ⟨(some 14), .move (.tmp 1), none⟩,
  ⟨(some 15), .bin .lss (.tmp 14) (.const (.int .i64 (.ofNat 0))), none⟩,
  ⟨(some 16), .move (.tmp 15), none⟩,
  ⟨(some 17), .move (.tmp 1), (some ((some 16), false))⟩,
  ⟨(some 18), .bin .gtr (.tmp 17) (.const (.int .i64 (.ofNat 4))), (some ((some 16), false))⟩,
  ⟨(some 19), .pick (.tmp 16) (.const (.bool true)) (.tmp 18), none⟩] none
def f19r2 : ICode := .region [
  ⟨(some 20), .build [(.int .i64 (.ofNat 0)), (.slice none 0 0), (.slice none 0 0), (.int .i64 (.ofNat 0))] [], none⟩,
  ⟨(some 21), .build [(.int .i64 (.ofNat 0)), (.int .i64 (.ofNat 0))] [(0, 1, (.const (.int .i64 (.ofNat 1))))], none⟩,
  ⟨none, .store 4 (.tmp 6) (.tmp 20), none⟩,
  ⟨none, .store 2 (.tmp 7) (.tmp 21), none⟩] none
def f19r3 : ICode := .region [
  ⟨(some 22), .move (.tmp 1), none⟩,
  ⟨(some 23), .build [(.int .i64 (.ofNat 0)), (.slice none 0 0), (.slice none 0 0), (.int .i64 (.ofNat 0))] [(0, 1, (.tmp 22))], none⟩,
  ⟨(some 8), .new [(.int .i64 (.ofNat 0)), (.slice none 0 0), (.slice none 0 0), (.int .i64 (.ofNat 0))] 62, none⟩,
  ⟨none, .store 4 (.tmp 8) (.tmp 23), none⟩] none
def f19r4 : ICode := .region [
  ⟨(some 24), .move (.tmp 1), none⟩,
  ⟨(some 25), .bin .eql (.tmp 24) (.const (.int .i64 (.ofNat 0))), none⟩] none
def f19r5 : ICode := .region [
  ⟨(some 27), .move (.tmp 0), none⟩,
  ⟨(some 28), .call 35 [(.tmp 27)], none⟩,
  ⟨(some 26), .move (.tmp 28), none⟩,
  ⟨(some 29), .extract (.tmp 26) 0, none⟩,
  ⟨(some 30), .extract (.tmp 26) 1, none⟩,
  ⟨(some 31), .fieldAddr 0 (.tmp 8), none⟩,
  ⟨none, .store 1 (.tmp 31) (.tmp 29), none⟩] none
def f19r6 : ICode := .region [
  ⟨(some 9), .move (.const (.int .i64 (.ofNat 0))), none⟩] none
def f19r7 : ICode := .region [
  ⟨(some 32), .fieldAddr 0 (.tmp 8), none⟩,
  ⟨(some 33), .load1 (.tmp 32), none⟩,
  ⟨(some 34), .call 30 [(.tmp 33)], none⟩,
  ⟨(some 10), .move (.tmp 34), none⟩] none
def f19r8 : ICode := .region [
  ⟨(some 35), .move (.tmp 0), none⟩,
  ⟨(some 36), .move (.tmp 10), none⟩,
  ⟨(some 37), .call 36 [(.tmp 35), (.tmp 36)], none⟩] none
def f19r9 : ICode := .region [
  ⟨(some 38), .move (.tmp 10), none⟩,
  ⟨(some 39), .len 0 (.tmp 38), none⟩,
  ⟨(some 9), .move (.tmp 39), none⟩] none
def f19r10 : ICode := .region [
  ⟨(some 40), .fieldAddr 0 (.tmp 8), none⟩,
  ⟨(some 41), .load1 (.tmp 40), none⟩,
  ⟨(some 42), .call 37 [(.tmp 41)], none⟩,
  ⟨(some 11), .move (.tmp 42), none⟩] none
def f19r11 : ICode := .region [
  ⟨(some 43), .move (.tmp 9), none⟩,
  ⟨(some 44), .move (.tmp 0), none⟩,
  ⟨(some 45), .len 0 (.tmp 44), none⟩,
  ⟨(some 46), .bin .lss (.tmp 43) (.tmp 45), none⟩] none
def f19r12 : ICode := .region [
  ⟨(some 48), .move (.tmp 11), none⟩,
  ⟨(some 49), .move (.tmp 0), none⟩,
  ⟨(some 50), .move (.tmp 9), none⟩,
  ⟨(some 51), .sliceStr (.tmp 49) (some (.tmp 50)) none, none⟩,
  ⟨(some 52), .callv (.tmp 48) [(.tmp 51)], none⟩,
  ⟨(some 47), .move (.tmp 52), none⟩,
  ⟨(some 53), .extract (.tmp 47) 0, none⟩,
  ⟨(some 54), .extract (.tmp 47) 1, none⟩,
  ⟨(some 12), .move (.tmp 53), none⟩,
  ⟨(some 13), .move (.tmp 54), none⟩] none
def f19r13 : ICode := .region [
  ⟨(some 55), .move (.tmp 12), none⟩,
  ⟨(some 56), .bin .lss (.tmp 55) (.const (.int .i64 (.ofNat 0))), none⟩] none
def f19r14 : ICode := .region [
  ⟨(some 57), .move (.tmp 2), none⟩] none
def f19r15 : ICode := .region [
  ⟨(some 58), .build [(.int .i64 (.ofNat 0)), (.slice none 0 0), (.slice none 0 0), (.int .i64 (.ofNat 0))] [], none⟩,
  ⟨(some 59), .move (.tmp 9), none⟩,
  ⟨(some 60), .build [(.int .i64 (.ofNat 0)), (.int .i64 (.ofNat 0))] [(0, 1, (.const (.int .i64 (.ofNat 17)))), (1, 1, (.tmp 59))], none⟩,
  ⟨none, .store 4 (.tmp 6) (.tmp 58), none⟩,
  ⟨none, .store 2 (.tmp 7) (.tmp 60), none⟩] none
def f19r16 : ICode := .region [
  ⟨(some 12), .move (.const (.int .i64 (.ofNat 65533))), none⟩] none
def f19r17 : ICode := .region [
  ⟨(some 61), .fieldAddr 3 (.tmp 8), none⟩,
  ⟨(some 62), .load1 (.tmp 61), none⟩,
  ⟨(some 63), .bin .add (.tmp 62) (.const (.int .i64 (.ofNat 1))), none⟩,
  ⟨(some 64), .fieldAddr 3 (.tmp 8), none⟩,
  ⟨none, .store 1 (.tmp 64) (.tmp 63), none⟩] none
def f19r18 : ICode := .region [
  ⟨(some 65), .fieldAddr 1 (.tmp 8), none⟩,
  ⟨(some 66), .load1 (.tmp 65), none⟩,
  ⟨(some 67), .move (.tmp 12), none⟩,
  ⟨(some 68), .buildSlice 3 1 [(.int .i64 (.ofNat 0))] [(0, 1, (.tmp 67))], none⟩,
  ⟨(some 69), .append 3 1 8 (.tmp 66) (.tmp 68), none⟩,
  ⟨(some 70), .fieldAddr 2 (.tmp 8), none⟩,
  ⟨(some 71), .load1 (.tmp 70), none⟩,
  ⟨(some 72), .move (.tmp 9), none⟩,
  ⟨(some 73), .buildSlice 3 1 [(.int .i64 (.ofNat 0))] [(0, 1, (.tmp 72))], none⟩,
  ⟨(some 74), .append 3 1 8 (.tmp 71) (.tmp 73), none⟩,
  ⟨(some 75), .fieldAddr 1 (.tmp 8), none⟩,
  ⟨none, .store 1 (.tmp 75) (.tmp 69), none⟩,
  ⟨(some 76), .fieldAddr 2 (.tmp 8), none⟩,
  ⟨none, .store 1 (.tmp 76) (.tmp 74), none⟩] (some ⟨[(6, [3])], [(6, 4)]⟩)
def f19r19 : ICode := .region [
  ⟨(some 77), .move (.tmp 9), none⟩,
  ⟨(some 78), .move (.tmp 13), none⟩,
  ⟨(some 79), .bin .add (.tmp 77) (.tmp 78), none⟩,
  ⟨(some 9), .move (.tmp 79), none⟩] none
def f19r20 : ICode := .region [
  ⟨(some 80), .fieldAddr 2 (.tmp 8), none⟩,
  ⟨(some 81), .load1 (.tmp 80), none⟩,
  ⟨(some 82), .move (.tmp 0), none⟩,
  ⟨(some 83), .len 0 (.tmp 82), none⟩,
  ⟨(some 84), .buildSlice 3 1 [(.int .i64 (.ofNat 0))] [(0, 1, (.tmp 83))], none⟩,
  ⟨(some 85), .append 3 1 8 (.tmp 81) (.tmp 84), none⟩,
  ⟨(some 86), .fieldAddr 2 (.tmp 8), none⟩,
  ⟨none, .store 1 (.tmp 86) (.tmp 85), none⟩] none
def f19r21 : ICode := .region [
  ⟨(some 87), .loadN 4 (.tmp 8), none⟩,
  ⟨(some 88), .build [(.int .i64 (.ofNat 0)), (.int .i64 (.ofNat 0))] [], none⟩,
  ⟨none, .store 4 (.tmp 6) (.tmp 87), none⟩,
  ⟨none, .store 2 (.tmp 7) (.tmp 88), none⟩] none
/- ferret/coding.Decode -/
def f19 : IFn := ⟨89, [.inr (6, (some 4)), .inr (7, (some 2))], (.seq f19r0 (.seq (.seq f19r1 (.cond (.tmp 19) (.seq f19r2 .ret) .skip)) (.seq f19r3 (.seq (.seq f19r4 (.cond (.tmp 25) f19r5 .skip)) (.seq f19r6 (.seq (.seq f19r7 (.seq f19r8 (.cond (.tmp 37) f19r9 .skip))) (.seq f19r10 (.seq (.block 0 (.loop (.seq (.seq f19r11 (.cond (.tmp 46) .skip (.exit 0))) (.block 1 (.seq f19r12 (.seq (.seq f19r13 (.cond (.tmp 56) (.seq (.seq f19r14 (.cond (.tmp 57) (.seq f19r15 .ret) .skip)) (.seq f19r16 f19r17)) .skip)) (.seq f19r18 f19r19))))))) (.seq f19r20 (.seq f19r21 .ret))))))))))⟩
def f21r0 : ICode := .region [
  ⟨(some 2), .new [(.int .i64 (.ofNat 0)), (.slice none 0 0), (.bool false), (.int .i64 (.ofNat 0)), (.int .i64 (.ofNat 0)), (.bool false), (.int .i64 (.ofNat 0)), (.string ⟨⟨[]⟩⟩), (.slice none 0 0)] 28, none⟩] none
def f21r1 : ICode := .region [
  ⟨(some 3), .move (.const (.slice none 0 0)), none⟩] none
def f21r2 : ICode := .region [
  ⟨(some 4), .move (.tmp 3), none⟩,
  ⟨(some 5), .move (.tmp 0), none⟩,
  ⟨(some 6), .call 38 [(.tmp 5)], none⟩,
  ⟨(some 7), .buildSlice 28 1 [(.int .i64 (.ofNat 0)), (.slice none 0 0), (.bool false), (.int .i64 (.ofNat 0)), (.int .i64 (.ofNat 0)), (.bool false), (.int .i64 (.ofNat 0)), (.string ⟨⟨[]⟩⟩), (.slice none 0 0)] [(0, 9, (.tmp 6))], none⟩,
  ⟨(some 8), .append 28 9 112 (.tmp 4) (.tmp 7), none⟩,
  ⟨(some 3), .move (.tmp 8), none⟩] none
def f21r3 : ICode := .region [
  ⟨(some 9), .move (.tmp 0), none⟩,
  ⟨(some 10), .call 39 [(.tmp 9), (.const (.string ⟨⟨[124]⟩⟩))], none⟩,
  ⟨(some 11), .un .not (.tmp 10), none⟩] none
def f21r4 : ICode := .region [
  ⟨(some 12), .move (.tmp 3), none⟩,
  ⟨(some 13), .call 40 [(.const (.int .i64 (.ofNat 9))), (.tmp 12)], none⟩,
  ⟨none, .store 9 (.tmp 2) (.tmp 13), none⟩] none
/- (*ferret/syn.parser).alternatives -/
def f21 : IFn := ⟨14, [.inr (2, (some 9))], (.seq f21r0 (.seq f21r1 (.seq (.block 0 (.loop (.block 1 (.seq f21r2 (.seq f21r3 (.cond (.tmp 11) (.exit 0) .skip)))))) (.seq f21r4 .ret))))⟩
def f22r0 : ICode := .region [
  ⟨(some 1), .box 28 (.tmp 0), none⟩,
  ⟨(some 2), .new [(.int .i64 (.ofNat 0)), (.slice none 0 0), (.bool false), (.int .i64 (.ofNat 0)), (.int .i64 (.ofNat 0)), (.bool false), (.int .i64 (.ofNat 0)), (.string ⟨⟨[]⟩⟩), (.slice none 0 0)] 28, none⟩,
  ⟨(some 3), .move (.const (.int .i64 (.ofNat 0))), none⟩] none
def f22r1 : ICode := .region [
  ⟨(some 4), .loadN 9 (.tmp 1), none⟩,
  ⟨(some 5), .call 41 [(.tmp 4)], none⟩,
  ⟨(some 6), .bin .gtr (.tmp 5) (.const (.int .i64 (.ofNat 8192))), none⟩] none
def f22r2 : ICode := .region [
  ⟨(some 7), .build [(.int .i64 (.ofNat 0)), (.slice none 0 0), (.bool false), (.int .i64 (.ofNat 0)), (.int .i64 (.ofNat 0)), (.bool false), (.int .i64 (.ofNat 0)), (.string ⟨⟨[]⟩⟩), (.slice none 0 0)] [], none⟩,
  ⟨none, .store 9 (.tmp 2) (.tmp 7), none⟩,
  ⟨(some 3), .move (.const (.int .i64 (.ofNat 26))), none⟩] none
def f22r3 : ICode := .region [
  ⟨(some 8), .loadN 9 (.tmp 1), none⟩,
  ⟨(some 9), .call 42 [(.tmp 8)], none⟩,
  ⟨none, .store 9 (.tmp 2) (.tmp 9), none⟩,
  ⟨(some 3), .move (.const (.int .i64 (.ofNat 0))), none⟩] none
/- ferret/simple.Simplify -/
def f22 : IFn := ⟨10, [.inr (2, (some 9)), .inl 3], (.seq f22r0 (.seq (.seq f22r1 (.cond (.tmp 6) (.seq f22r2 .ret) .skip)) (.seq f22r3 .ret)))⟩
def f23r0 : ICode := .region [
  ⟨(some 3), .box 55 (.tmp 1), none⟩,
  ⟨(some 4), .move (.const (.int .i64 (.ofNat 0))), none⟩] none
def f23r1 : ICode := .region [
  ⟨(some 5), .move (.tmp 0), none⟩,
  ⟨(some 6), .move (.tmp 0), none⟩,
  ⟨(some 7), .nilCheck (.tmp 6), none⟩,
  ⟨(some 8), .fieldAddr 1 (.tmp 7), none⟩,
  ⟨(some 9), .load1 (.tmp 8), none⟩,
  ⟨(some 10), .move (.tmp 9), none⟩,
  ⟨(some 11), .move (.tmp 0), (some ((some 10), false))⟩,
  ⟨(some 12), .nilCheck (.tmp 11), (some ((some 10), false))⟩,
  ⟨(some 13), .fieldAddr 0 (.tmp 12), (some ((some 10), false))⟩,
  ⟨(some 14), .load1 (.tmp 13), (some ((some 10), false))⟩,
  ⟨(some 15), .len 1 (.tmp 14), (some ((some 10), false))⟩,
  ⟨(some 16), .bin .geq (.tmp 15) (.const (.int .i64 (.ofNat 8192))), (some ((some 10), false))⟩,
  ⟨(some 17), .pick (.tmp 10) (.const (.bool true)) (.tmp 16), none⟩,
  ⟨(some 18), .nilCheck (.tmp 5), none⟩,
  ⟨(some 19), .fieldAddr 1 (.tmp 18), none⟩,
  ⟨none, .store 1 (.tmp 19) (.tmp 17), none⟩] none
def f23r2 : ICode := .region [
  ⟨(some 20), .move (.tmp 0), none⟩,
  ⟨(some 21), .nilCheck (.tmp 20), none⟩,
  ⟨(some 22), .fieldAddr 1 (.tmp 21), none⟩,
  ⟨(some 23), .load1 (.tmp 22), none⟩] none
def f23r3 : ICode := .region [
  ⟨(some 24), .move (.tmp 0), none⟩,
  ⟨(some 25), .move (.tmp 0), none⟩,
  ⟨(some 26), .nilCheck (.tmp 25), none⟩,
  ⟨(some 27), .fieldAddr 0 (.tmp 26), none⟩,
  ⟨(some 28), .load1 (.tmp 27), none⟩,
  ⟨(some 29), .sliceSl 5 (.tmp 28) none (some (.const (.int .i64 (.ofNat 0)))), none⟩,
  ⟨(some 30), .nilCheck (.tmp 24), none⟩,
  ⟨(some 31), .fieldAddr 0 (.tmp 30), none⟩,
  ⟨none, .store 1 (.tmp 31) (.tmp 29), none⟩] none
def f23r4 : ICode := .region [
  ⟨(some 32), .move (.tmp 0), none⟩,
  ⟨(some 33), .nilCheck (.tmp 32), none⟩,
  ⟨(some 34), .fieldAddr 0 (.tmp 33), none⟩,
  ⟨(some 35), .load1 (.tmp 34), none⟩,
  ⟨(some 36), .len 1 (.tmp 35), none⟩,
  ⟨(some 37), .bin .add (.tmp 36) (.const (.int .i64 (.ofNat 1))), none⟩,
  ⟨(some 38), .fieldAddr 1 (.tmp 3), none⟩,
  ⟨none, .store 1 (.tmp 38) (.tmp 37), none⟩] none
def f23r5 : ICode := .region [
  ⟨(some 39), .move (.tmp 0), none⟩,
  ⟨(some 40), .move (.tmp 0), none⟩,
  ⟨(some 41), .nilCheck (.tmp 40), none⟩,
  ⟨(some 42), .fieldAddr 0 (.tmp 41), none⟩,
  ⟨(some 43), .load1 (.tmp 42), none⟩,
  ⟨(some 44), .loadN 5 (.tmp 3), none⟩,
  ⟨(some 45), .buildSlice 55 1 [(.int .i64 (.ofNat 0)), (.int .i64 (.ofNat 0)), (.int .i64 (.ofNat 0)), (.int .i64 (.ofNat 0)), (.int .i64 (.ofNat 0))] [(0, 5, (.tmp 44))], none⟩,
  ⟨(some 46), .append 55 5 40 (.tmp 43) (.tmp 45), none⟩,
  ⟨(some 47), .nilCheck (.tmp 39), none⟩,
  ⟨(some 48), .fieldAddr 0 (.tmp 47), none⟩,
  ⟨none, .store 1 (.tmp 48) (.tmp 46), none⟩] (some ⟨[], []⟩)
def f23r6 : ICode := .region [
  ⟨(some 49), .move (.tmp 0), none⟩,
  ⟨(some 50), .nilCheck (.tmp 49), none⟩,
  ⟨(some 51), .fieldAddr 0 (.tmp 50), none⟩,
  ⟨(some 52), .load1 (.tmp 51), none⟩,
  ⟨(some 53), .len 1 (.tmp 52), none⟩,
  ⟨(some 54), .bin .sub (.tmp 53) (.const (.int .i64 (.ofNat 1))), none⟩,
  ⟨(some 4), .move (.tmp 54), none⟩] none
/- (*ferret/prog.compiler).put -/
def f23 : IFn := ⟨55, [.inl 4], (.seq f23r0 (.seq (.seq f23r1 (.seq f23r2 (.cond (.tmp 23) f23r3 .skip))) (.seq f23r4 (.seq f23r5 (.seq f23r6 .ret)))))⟩
def f24r0 : ICode := .region [
  ⟨(some 2), .box 73 (.tmp 0), none⟩,
  ⟨(some 3), .box 28 (.tmp 1), none⟩] none
def f24r1 : ICode := .region [
  ⟨(some 6), .load1 (.tmp 2), none⟩,
  ⟨(some 7), .nilCheck (.tmp 6), none⟩,
  ⟨(some 8), .fieldAddr 1 (.tmp 7), none⟩,
  ⟨(some 9), .load1 (.tmp 8), none⟩] none
def f24r2 : ICode := .region [
  ⟨(some 10), .fieldAddr 0 (.tmp 3), none⟩,
  ⟨(some 11), .load1 (.tmp 10), none⟩] none
def f24r3 : ICode := .region [
  ⟨(some 18), .bin .eql (.tmp 11) (.const (.int .i64 (.ofNat 0))), none⟩,
  ⟨(some 17), .move (.tmp 18), none⟩] none
def f24r4 : ICode := .region [
  ⟨(some 20), .bin .eql (.tmp 11) (.const (.int .i64 (.ofNat 1))), none⟩,
  ⟨(some 19), .move (.tmp 20), none⟩] none
def f24r5 : ICode := .region [
  ⟨(some 21), .load1 (.tmp 2), none⟩,
  ⟨(some 22), .loadN 9 (.tmp 3), none⟩,
  ⟨(some 23), .call 43 [(.tmp 21), (.tmp 22)], none⟩] none
def f24r6 : ICode := .region [
  ⟨(some 25), .bin .eql (.tmp 11) (.const (.int .i64 (.ofNat 8))), none⟩,
  ⟨(some 24), .move (.tmp 25), none⟩] none
def f24r7 : ICode := .region [
  ⟨(some 26), .fieldAddr 8 (.tmp 3), none⟩,
  ⟨(some 27), .load1 (.tmp 26), none⟩,
  ⟨(some 28), .len 1 (.tmp 27), none⟩,
  ⟨(some 29), .move (.const (.int .i64 (.ofNat 0))), none⟩] none
def f24r8 : ICode := .region [
  ⟨(some 30), .bin .lss (.tmp 29) (.tmp 28), none⟩] none
def f24r9 : ICode := .region [
  ⟨(some 31), .indexSl 9 (.tmp 27) (.tmp 29), none⟩,
  ⟨(some 32), .loadN 9 (.tmp 31), none⟩,
  ⟨(some 5), .new [(.int .i64 (.ofNat 0)), (.slice none 0 0), (.bool false), (.int .i64 (.ofNat 0)), (.int .i64 (.ofNat 0)), (.bool false), (.int .i64 (.ofNat 0)), (.string ⟨⟨[]⟩⟩), (.slice none 0 0)] 28, none⟩,
  ⟨none, .store 9 (.tmp 5) (.tmp 32), none⟩] none
def f24r10 : ICode := .region [
  ⟨(some 33), .load1 (.tmp 2), none⟩,
  ⟨(some 34), .loadN 9 (.tmp 5), none⟩,
  ⟨(some 35), .call 24 [(.tmp 33), (.tmp 34)], none⟩] none
def f24r11 : ICode := .region [
  ⟨(some 36), .bin .add (.tmp 29) (.const (.int .i64 (.ofNat 1))), none⟩,
  ⟨(some 29), .move (.tmp 36), none⟩] none
def f24r12 : ICode := .region [
  ⟨(some 38), .bin .eql (.tmp 11) (.const (.int .i64 (.ofNat 9))), none⟩,
  ⟨(some 37), .move (.tmp 38), none⟩] none
def f24r13 : ICode := .region [
  ⟨(some 39), .load1 (.tmp 2), none⟩,
  ⟨(some 40), .fieldAddr 8 (.tmp 3), none⟩,
  ⟨(some 41), .load1 (.tmp 40), none⟩,
  ⟨(some 42), .len 1 (.tmp 41), none⟩,
  ⟨(some 43), .mkFunc (.func 45) [] [(.tmp 2), (.tmp 3)], none⟩,
  ⟨(some 44), .call 44 [(.tmp 39), (.tmp 42), (.tmp 43)], none⟩] none
def f24r14 : ICode := .region [
  ⟨(some 46), .bin .eql (.tmp 11) (.const (.int .i64 (.ofNat 10))), none⟩,
  ⟨(some 45), .move (.tmp 46), none⟩] none
def f24r15 : ICode := .region [
  ⟨(some 47), .load1 (.tmp 2), none⟩,
  ⟨(some 48), .loadN 9 (.tmp 3), none⟩,
  ⟨(some 49), .call 46 [(.tmp 47), (.tmp 48)], none⟩] none
def f24r16 : ICode := .region [
  ⟨(some 51), .bin .eql (.tmp 11) (.const (.int .i64 (.ofNat 11))), none⟩,
  ⟨(some 50), .move (.tmp 51), none⟩] none
def f24r17 : ICode := .region [
  ⟨(some 52), .load1 (.tmp 2), none⟩,
  ⟨(some 53), .fieldAddr 6 (.tmp 3), none⟩,
  ⟨(some 54), .load1 (.tmp 53), none⟩,
  ⟨(some 55), .bin .mul (.const (.int .i64 (.ofNat 2))) (.tmp 54), none⟩,
  ⟨(some 56), .build [(.int .i64 (.ofNat 0)), (.int .i64 (.ofNat 0)), (.int .i64 (.ofNat 0)), (.int .i64 (.ofNat 0)), (.int .i64 (.ofNat 0))] [(0, 1, (.const (.int .i64 (.ofNat 3)))), (2, 1, (.tmp 55))], none⟩,
  ⟨(some 57), .call 23 [(.tmp 52), (.tmp 56)], none⟩] none
def f24r18 : ICode := .region [
  ⟨(some 58), .load1 (.tmp 2), none⟩,
  ⟨(some 59), .fieldAddr 8 (.tmp 3), none⟩,
  ⟨(some 60), .load1 (.tmp 59), none⟩,
  ⟨(some 61), .indexSl 9 (.tmp 60) (.const (.int .i64 (.ofNat 0))), none⟩,
  ⟨(some 62), .loadN 9 (.tmp 61), none⟩,
  ⟨(some 63), .call 24 [(.tmp 58), (.tmp 62)], none⟩] (some ⟨[], []⟩)
def f24r19 : ICode := .region [
  ⟨(some 64), .load1 (.tmp 2), none⟩,
  ⟨(some 65), .fieldAddr 6 (.tmp 3), none⟩,
  ⟨(some 66), .load1 (.tmp 65), none⟩,
  ⟨(some 67), .bin .mul (.const (.int .i64 (.ofNat 2))) (.tmp 66), none⟩,
  ⟨(some 68), .bin .add (.tmp 67) (.const (.int .i64 (.ofNat 1))), none⟩,
  ⟨(some 69), .build [(.int .i64 (.ofNat 0)), (.int .i64 (.ofNat 0)), (.int .i64 (.ofNat 0)), (.int .i64 (.ofNat 0)), (.int .i64 (.ofNat 0))] [(0, 1, (.const (.int .i64 (.ofNat 3)))), (2, 1, (.tmp 68))], none⟩,
  ⟨(some 70), .call 23 [(.tmp 64), (.tmp 69)], none⟩] none
def f24r20 : ICode := .region [
  ⟨(some 12), .load1 (.tmp 2), none⟩,
  ⟨(some 13), .fieldAddr 0 (.tmp 3), none⟩,
  ⟨(some 14), .load1 (.tmp 13), none⟩,
  ⟨(some 15), .build [(.int .i64 (.ofNat 0)), (.int .i64 (.ofNat 0)), (.int .i64 (.ofNat 0)), (.int .i64 (.ofNat 0)), (.int .i64 (.ofNat 0))] [(0, 1, (.const (.int .i64 (.ofNat 4)))), (2, 1, (.tmp 14))], none⟩,
  ⟨(some 16), .call 23 [(.tmp 12), (.tmp 15)], none⟩] none
/- (*ferret/prog.compiler).node -/
def f24 : IFn := ⟨71, [], (.seq f24r0 (.seq (.seq f24r1 (.cond (.tmp 9) .ret .skip)) (.seq f24r2 (.block 0 (.seq f24r3 (.cond (.tmp 17) .skip (.seq f24r4 (.cond (.tmp 19) f24r5 (.seq f24r6 (.cond (.tmp 24) (.seq f24r7 (.block 1 (.loop (.seq f24r8 (.seq (.cond (.tmp 30) .skip (.exit 1)) (.seq (.block 2 (.seq f24r9 f24r10)) f24r11)))))) (.seq f24r12 (.cond (.tmp 37) f24r13 (.seq f24r14 (.cond (.tmp 45) f24r15 (.seq f24r16 (.cond (.tmp 50) (.seq f24r17 (.seq f24r18 f24r19)) f24r20))))))))))))))))⟩
def f25r0 : ICode := .region [
  ⟨(some 0), .move (.const (.slice none 0 0)), none⟩] none
def f25r1 : ICode := .region [
  ⟨(some 1), .buildSlice 3 3 [(.int .i64 (.ofNat 0)), (.int .i64 (.ofNat 0)), (.int .i64 (.ofNat 0))] [(0, 1, (.const (.int .i64 (.ofNat 75)))), (1, 1, (.const (.int .i64 (.ofNat 107)))), (2, 1, (.const (.int .i64 (.ofNat 8490))))], none⟩,
  ⟨(some 2), .buildSlice 3 3 [(.int .i64 (.ofNat 0)), (.int .i64 (.ofNat 0)), (.int .i64 (.ofNat 0))] [(0, 1, (.const (.int .i64 (.ofNat 83)))), (1, 1, (.const (.int .i64 (.ofNat 115)))), (2, 1, (.const (.int .i64 (.ofNat 383))))], none⟩,
  ⟨(some 3), .buildSlice 3 3 [(.int .i64 (.ofNat 0)), (.int .i64 (.ofNat 0)), (.int .i64 (.ofNat 0))] [(0, 1, (.const (.int .i64 (.ofNat 197)))), (1, 1, (.const (.int .i64 (.ofNat 229)))), (2, 1, (.const (.int .i64 (.ofNat 8491))))], none⟩,
  ⟨(some 4), .buildSlice 3 3 [(.int .i64 (.ofNat 0)), (.int .i64 (.ofNat 0)), (.int .i64 (.ofNat 0))] [(0, 1, (.const (.int .i64 (.ofNat 181)))), (1, 1, (.const (.int .i64 (.ofNat 924)))), (2, 1, (.const (.int .i64 (.ofNat 956))))], none⟩,
  ⟨(some 5), .buildSlice 3 3 [(.int .i64 (.ofNat 0)), (.int .i64 (.ofNat 0)), (.int .i64 (.ofNat 0))] [(0, 1, (.const (.int .i64 (.ofNat 931)))), (1, 1, (.const (.int .i64 (.ofNat 962)))), (2, 1, (.const (.int .i64 (.ofNat 963))))], none⟩,
  ⟨(some 6), .buildSlice 44 5 [(.slice none 0 0), (.slice none 0 0), (.slice none 0 0), (.slice none 0 0), (.slice none 0 0)] [(0, 1, (.tmp 1)), (1, 1, (.tmp 2)), (2, 1, (.tmp 3)), (3, 1, (.tmp 4)), (4, 1, (.tmp 5))], none⟩,
  ⟨(some 0), .move (.tmp 6), none⟩] none
/- ferret/ucd.rings -/
def f25 : IFn := ⟨7, [.inl 0], (.seq f25r0 (.seq f25r1 .ret))⟩
def f26r0 : ICode := .region [
  ⟨(some 4), .move (.const (.bool false)), none⟩] none
def f26r1 : ICode := .region [
  ⟨(some 5), .move (.tmp 0), none⟩,
  ⟨(some 6), .move (.tmp 1), none⟩,
  ⟨(some 7), .call 47 [(.tmp 5), (.tmp 6)], none⟩,
  ⟨(some 8), .bin .geq (.tmp 7) (.const (.int .i64 (.ofNat 0))), none⟩,
  ⟨(some 4), .move (.tmp 8), none⟩] none
/- slices.Contains[[]int,int] -/
def f26 : IFn := ⟨9, [.inl 4], (.seq f26r0 (.seq f26r1 .ret))⟩
def f27r0 : ICode := .region [
  ⟨(some 0), .move (.const (.slice none 0 0)), none⟩] none
def f27r1 : ICode := .region [
  ⟨(some 1), .build [(.int .i64 (.ofNat 0)), (.int .i64 (.ofNat 0)), (.int .i64 (.ofNat 0))] [(0, 1, (.const (.int .i64 (.ofNat 65)))), (1, 1, (.const (.int .i64 (.ofNat 90)))), (2, 1, (.const (.int .i64 (.ofNat 32))))], none⟩,
  ⟨(some 2), .build [(.int .i64 (.ofNat 0)), (.int .i64 (.ofNat 0)), (.int .i64 (.ofNat 0))] [(0, 1, (.const (.int .i64 (.ofNat 192)))), (1, 1, (.const (.int .i64 (.ofNat 214)))), (2, 1, (.const (.int .i64 (.ofNat 32))))], none⟩,
  ⟨(some 3), .build [(.int .i64 (.ofNat 0)), (.int .i64 (.ofNat 0)), (.int .i64 (.ofNat 0))] [(0, 1, (.const (.int .i64 (.ofNat 216)))), (1, 1, (.const (.int .i64 (.ofNat 222)))), (2, 1, (.const (.int .i64 (.ofNat 32))))], none⟩,
  ⟨(some 4), .build [(.int .i64 (.ofNat 0)), (.int .i64 (.ofNat 0)), (.int .i64 (.ofNat 0))] [(0, 1, (.const (.int .i64 (.ofNat 913)))), (1, 1, (.const (.int .i64 (.ofNat 929)))), (2, 1, (.const (.int .i64 (.ofNat 32))))], none⟩,
  ⟨(some 5), .build [(.int .i64 (.ofNat 0)), (.int .i64 (.ofNat 0)), (.int .i64 (.ofNat 0))] [(0, 1, (.const (.int .i64 (.ofNat 931)))), (1, 1, (.const (.int .i64 (.ofNat 937)))), (2, 1, (.const (.int .i64 (.ofNat 32))))], none⟩,
  ⟨(some 6), .build [(.int .i64 (.ofNat 0)), (.int .i64 (.ofNat 0)), (.int .i64 (.ofNat 0))] [(0, 1, (.const (.int .i64 (.ofNat 1040)))), (1, 1, (.const (.int .i64 (.ofNat 1071)))), (2, 1, (.const (.int .i64 (.ofNat 32))))], none⟩,
  ⟨(some 7), .build [(.int .i64 (.ofNat 0)), (.int .i64 (.ofNat 0)), (.int .i64 (.ofNat 0))] [(0, 1, (.const (.int .i64 (.ofNat 66560)))), (1, 1, (.const (.int .i64 (.ofNat 66599)))), (2, 1, (.const (.int .i64 (.ofNat 40))))], none⟩,
  ⟨(some 8), .buildSlice 84 7 [(.int .i64 (.ofNat 0)), (.int .i64 (.ofNat 0)), (.int .i64 (.ofNat 0)), (.int .i64 (.ofNat 0)), (.int .i64 (.ofNat 0)), (.int .i64 (.ofNat 0)), (.int .i64 (.ofNat 0)), (.int .i64 (.ofNat 0)), (.int .i64 (.ofNat 0)), (.int .i64 (.ofNat 0)), (.int .i64 (.ofNat 0)), (.int .i64 (.ofNat 0)), (.int .i64 (.ofNat 0)), (.int .i64 (.ofNat 0)), (.int .i64 (.ofNat 0)), (.int .i64 (.ofNat 0)), (.int .i64 (.ofNat 0)), (.int .i64 (.ofNat 0)), (.int .i64 (.ofNat 0)), (.int .i64 (.ofNat 0)), (.int .i64 (.ofNat 0))] [(0, 3, (.tmp 1)), (3, 3, (.tmp 2)), (6, 3, (.tmp 3)), (9, 3, (.tmp 4)), (12, 3, (.tmp 5)), (15, 3, (.tmp 6)), (18, 3, (.tmp 7))], none⟩,
  ⟨(some 0), .move (.tmp 8), none⟩] none
/- ferret/ucd.shifts -/
def f27 : IFn := ⟨9, [.inl 0], (.seq f27r0 (.seq f27r1 .ret))⟩
def f28r0 : ICode := .region [
  ⟨(some 2), .move (.const (.string ⟨⟨[]⟩⟩)), none⟩] none
def f28r1 : ICode := .region [
  ⟨(some 3), .move (.const (.string ⟨⟨[48, 49, 50, 51, 52, 53, 54, 55, 56, 57, 97, 98, 99, 100, 101, 102]⟩⟩)), none⟩] none
def f28r2 : ICode := .region [
  ⟨(some 4), .move (.tmp 0), none⟩,
  ⟨(some 5), .bin .lss (.tmp 4) (.const (.int .i64 (.ofNat 16))), none⟩] none
def f28r3 : ICode := .region [
  ⟨(some 6), .move (.tmp 3), none⟩,
  ⟨(some 7), .move (.tmp 0), none⟩,
  ⟨(some 8), .move (.tmp 0), none⟩,
  ⟨(some 9), .bin .add (.tmp 8) (.const (.int .i64 (.ofNat 1))), none⟩,
  ⟨(some 10), .sliceStr (.tmp 6) (some (.tmp 7)) (some (.tmp 9)), none⟩,
  ⟨(some 2), .move (.tmp 10), none⟩] none
def f28r4 : ICode := .region [
  ⟨(some 11), .move (.tmp 0), none⟩,
  ⟨(some 12), .bin .quo (.tmp 11) (.const (.int .i64 (.ofNat 16))), none⟩,
  ⟨(some 13), .call 28 [(.tmp 12)], none⟩,
  ⟨(some 14), .move (.tmp 3), none⟩,
  ⟨(some 15), .move (.tmp 0), none⟩,
  ⟨(some 16), .bin .rem (.tmp 15) (.const (.int .i64 (.ofNat 16))), none⟩,
  ⟨(some 17), .move (.tmp 0), none⟩,
  ⟨(some 18), .bin .rem (.tmp 17) (.const (.int .i64 (.ofNat 16))), none⟩,
  ⟨(some 19), .bin .add (.tmp 18) (.const (.int .i64 (.ofNat 1))), none⟩,
  ⟨(some 20), .sliceStr (.tmp 14) (some (.tmp 16)) (some (.tmp 19)), none⟩,
  ⟨(some 21), .bin .add (.tmp 13) (.tmp 20), none⟩,
  ⟨(some 2), .move (.tmp 21), none⟩] (some ⟨[], []⟩)
/- ferret/ferrettop.hex -/
def f28 : IFn := ⟨22, [.inl 2], (.seq f28r0 (.seq f28r1 (.seq (.seq f28r2 (.cond (.tmp 5) (.seq f28r3 .ret) .skip)) (.seq f28r4 .ret))))⟩
def f29r0 : ICode := .region [
  ⟨(some 1), .box 41 (.tmp 0), none⟩,
  ⟨(some 2), .move (.const (.string ⟨⟨[]⟩⟩)), none⟩] none
def f29r1 : ICode := .region [
  ⟨(some 3), .new [(.pointer none), (.slice none 0 0)] 102, none⟩] none
def f29r2 : ICode := .region [
  ⟨(some 10), .fieldAddr 0 (.tmp 1), none⟩,
  ⟨(some 11), .load1 (.tmp 10), none⟩,
  ⟨(some 12), .len 1 (.tmp 11), none⟩,
  ⟨(some 13), .move (.const (.int .i64 (.ofNat 0))), none⟩] none
def f29r3 : ICode := .region [
  ⟨(some 14), .bin .lss (.tmp 13) (.tmp 12), none⟩] none
def f29r4 : ICode := .region [
  ⟨(some 15), .move (.tmp 13), none⟩,
  ⟨(some 16), .indexSl 5 (.tmp 11) (.tmp 13), none⟩,
  ⟨(some 17), .loadN 5 (.tmp 16), none⟩,
  ⟨(some 5), .new [(.int .i64 (.ofNat 0)), (.int .i64 (.ofNat 0)), (.int .i64 (.ofNat 0)), (.int .i64 (.ofNat 0)), (.int .i64 (.ofNat 0))] 55, none⟩,
  ⟨(some 4), .move (.tmp 15), none⟩,
  ⟨none, .store 5 (.tmp 5) (.tmp 17), none⟩] none
def f29r5 : ICode := .region [
  ⟨(some 18), .move (.tmp 4), none⟩,
  ⟨(some 19), .call 49 [(.tmp 18)], none⟩,
  ⟨(some 20), .call 48 [(.tmp 3), (.tmp 19)], none⟩] none
def f29r6 : ICode := .region [
  ⟨(some 21), .buildSlice 9 7 [(.string ⟨⟨[]⟩⟩), (.string ⟨⟨[]⟩⟩), (.string ⟨⟨[]⟩⟩), (.string ⟨⟨[]⟩⟩), (.string ⟨⟨[]⟩⟩), (.string ⟨⟨[]⟩⟩), (.string ⟨⟨[]⟩⟩)] [(0, 1, (.const (.string ⟨⟨[98, 121, 116, 101]⟩⟩))), (1, 1, (.const (.string ⟨⟨[115, 112, 108, 105, 116]⟩⟩))), (2, 1, (.const (.string ⟨⟨[106, 117, 109, 112]⟩⟩))), (3, 1, (.const (.string ⟨⟨[115, 97, 118, 101]⟩⟩))), (4, 1, (.const (.string ⟨⟨[97, 115, 115, 101, 114, 116]⟩⟩))), (5, 1, (.const (.string ⟨⟨[109, 97, 116, 99, 104]⟩⟩))), (6, 1, (.const (.string ⟨⟨[102, 97, 105, 108]⟩⟩)))], none⟩,
  ⟨(some 6), .move (.tmp 21), none⟩] none
def f29r7 : ICode := .region [
  ⟨(some 7), .move (.const (.slice none 0 0)), none⟩] none
def f29r8 : ICode := .region [
  ⟨(some 22), .fieldAddr 0 (.tmp 5), none⟩,
  ⟨(some 23), .load1 (.tmp 22), none⟩] none
def f29r9 : ICode := .region [
  ⟨(some 25), .bin .eql (.tmp 23) (.const (.int .i64 (.ofNat 0))), none⟩,
  ⟨(some 24), .move (.tmp 25), none⟩] none
def f29r10 : ICode := .region [
  ⟨(some 26), .fieldAddr 3 (.tmp 5), none⟩,
  ⟨(some 27), .fieldAddr 0 (.tmp 26), none⟩,
  ⟨(some 28), .load1 (.tmp 27), none⟩,
  ⟨(some 29), .fieldAddr 3 (.tmp 5), none⟩,
  ⟨(some 30), .fieldAddr 1 (.tmp 29), none⟩,
  ⟨(some 31), .load1 (.tmp 30), none⟩,
  ⟨(some 32), .fieldAddr 1 (.tmp 5), none⟩,
  ⟨(some 33), .load1 (.tmp 32), none⟩,
  ⟨(some 34), .buildSlice 3 3 [(.int .i64 (.ofNat 0)), (.int .i64 (.ofNat 0)), (.int .i64 (.ofNat 0))] [(0, 1, (.tmp 28)), (1, 1, (.tmp 31)), (2, 1, (.tmp 33))], none⟩,
  ⟨(some 7), .move (.tmp 34), none⟩] none
def f29r11 : ICode := .region [
  ⟨(some 36), .bin .eql (.tmp 23) (.const (.int .i64 (.ofNat 1))), none⟩,
  ⟨(some 35), .move (.tmp 36), none⟩] none
def f29r12 : ICode := .region [
  ⟨(some 37), .fieldAddr 1 (.tmp 5), none⟩,
  ⟨(some 38), .load1 (.tmp 37), none⟩,
  ⟨(some 39), .fieldAddr 2 (.tmp 5), none⟩,
  ⟨(some 40), .load1 (.tmp 39), none⟩,
  ⟨(some 41), .buildSlice 3 2 [(.int .i64 (.ofNat 0)), (.int .i64 (.ofNat 0))] [(0, 1, (.tmp 38)), (1, 1, (.tmp 40))], none⟩,
  ⟨(some 7), .move (.tmp 41), none⟩] none
def f29r13 : ICode := .region [
  ⟨(some 43), .bin .eql (.tmp 23) (.const (.int .i64 (.ofNat 2))), none⟩,
  ⟨(some 42), .move (.tmp 43), none⟩] none
def f29r14 : ICode := .region [
  ⟨(some 44), .fieldAddr 1 (.tmp 5), none⟩,
  ⟨(some 45), .load1 (.tmp 44), none⟩,
  ⟨(some 46), .buildSlice 3 1 [(.int .i64 (.ofNat 0))] [(0, 1, (.tmp 45))], none⟩,
  ⟨(some 7), .move (.tmp 46), none⟩] none
def f29r15 : ICode := .region [
  ⟨(some 48), .bin .eql (.tmp 23) (.const (.int .i64 (.ofNat 3))), none⟩,
  ⟨(some 47), .move (.tmp 48), none⟩] none
def f29r16 : ICode := .region [
  ⟨(some 49), .bin .eql (.tmp 23) (.const (.int .i64 (.ofNat 4))), none⟩,
  ⟨(some 47), .move (.tmp 49), none⟩] none
def f29r17 : ICode := .region [
  ⟨(some 50), .fieldAddr 2 (.tmp 5), none⟩,
  ⟨(some 51), .load1 (.tmp 50), none⟩,
  ⟨(some 52), .fieldAddr 1 (.tmp 5), none⟩,
  ⟨(some 53), .load1 (.tmp 52), none⟩,
  ⟨(some 54), .buildSlice 3 2 [(.int .i64 (.ofNat 0)), (.int .i64 (.ofNat 0))] [(0, 1, (.tmp 51)), (1, 1, (.tmp 53))], none⟩,
  ⟨(some 7), .move (.tmp 54), none⟩] none
def f29r18 : ICode := .region [
  ⟨(some 55), .fieldAddr 0 (.tmp 5), none⟩,
  ⟨(some 56), .load1 (.tmp 55), none⟩,
  ⟨(some 57), .bin .geq (.tmp 56) (.const (.int .i64 (.ofNat 0))), none⟩,
  ⟨(some 58), .move (.tmp 57), none⟩,
  ⟨(some 59), .fieldAddr 0 (.tmp 5), (some ((some 58), true))⟩,
  ⟨(some 60), .load1 (.tmp 59), (some ((some 58), true))⟩,
  ⟨(some 61), .move (.tmp 6), (some ((some 58), true))⟩,
  ⟨(some 62), .len 1 (.tmp 61), (some ((some 58), true))⟩,
  ⟨(some 63), .bin .lss (.tmp 60) (.tmp 62), (some ((some 58), true))⟩,
  ⟨(some 64), .pick (.tmp 58) (.tmp 63) (.const (.bool false)), none⟩] none
def f29r19 : ICode := .region [
  ⟨(some 65), .move (.tmp 6), none⟩,
  ⟨(some 66), .fieldAddr 0 (.tmp 5), none⟩,
  ⟨(some 67), .load1 (.tmp 66), none⟩,
  ⟨(some 68), .indexSl 1 (.tmp 65) (.tmp 67), none⟩,
  ⟨(some 69), .load1 (.tmp 68), none⟩,
  ⟨(some 70), .bin .add (.const (.string ⟨⟨[32]⟩⟩)) (.tmp 69), none⟩,
  ⟨(some 71), .call 48 [(.tmp 3), (.tmp 70)], none⟩] none
def f29r20 : ICode := .region [
  ⟨(some 72), .move (.tmp 7), none⟩,
  ⟨(some 73), .len 1 (.tmp 72), none⟩,
  ⟨(some 74), .move (.const (.int .i64 (.ofNat 0))), none⟩] none
def f29r21 : ICode := .region [
  ⟨(some 75), .bin .lss (.tmp 74) (.tmp 73), none⟩] none
def f29r22 : ICode := .region [
  ⟨(some 76), .indexSl 1 (.tmp 72) (.tmp 74), none⟩,
  ⟨(some 77), .load1 (.tmp 76), none⟩,
  ⟨(some 9), .move (.tmp 77), none⟩] none
def f29r23 : ICode := .region [
  ⟨(some 78), .move (.tmp 9), none⟩,
  ⟨(some 79), .call 49 [(.tmp 78)], none⟩,
  ⟨(some 80), .bin .add (.const (.string ⟨⟨[32]⟩⟩)) (.tmp 79), none⟩,
  ⟨(some 81), .call 48 [(.tmp 3), (.tmp 80)], none⟩] none
def f29r24 : ICode := .region [
  ⟨(some 82), .bin .add (.tmp 74) (.const (.int .i64 (.ofNat 1))), none⟩,
  ⟨(some 74), .move (.tmp 82), none⟩] none
def f29r25 : ICode := .region [
  ⟨(some 83), .call 50 [(.tmp 3), (.const (.int .u8 (.ofNat 10)))], none⟩] none
def f29r26 : ICode := .region [
  ⟨(some 84), .bin .add (.tmp 13) (.const (.int .i64 (.ofNat 1))), none⟩,
  ⟨(some 13), .move (.tmp 84), none⟩] none
def f29r27 : ICode := .region [
  ⟨(some 85), .call 51 [(.tmp 3)], none⟩,
  ⟨(some 2), .move (.tmp 85), none⟩] none
/- (ferret/prog.Program).Text -/
def f29 : IFn := ⟨86, [.inl 2], (.seq f29r0 (.seq f29r1 (.seq (.seq f29r2 (.block 0 (.loop (.seq f29r3 (.seq (.cond (.tmp 14) .skip (.exit 0)) (.seq (.block 1 (.seq f29r4 (.seq f29r5 (.seq f29r6 (.seq f29r7 (.seq (.seq f29r8 (.block 2 (.seq f29r9 (.cond (.tmp 24) f29r10 (.seq f29r11 (.cond (.tmp 35) f29r12 (.seq f29r13 (.cond (.tmp 42) f29r14 (.seq (.seq f29r15 (.cond (.tmp 47) .skip f29r16)) (.cond (.tmp 47) f29r17 .skip)))))))))) (.seq (.seq f29r18 (.cond (.tmp 64) f29r19 .skip)) (.seq (.seq f29r20 (.block 3 (.loop (.seq f29r21 (.seq (.cond (.tmp 75) .skip (.exit 3)) (.seq (.block 4 (.seq f29r22 f29r23)) f29r24)))))) f29r25)))))))) f29r26)))))) (.seq f29r27 .ret))))⟩
def f30r0 : ICode := .region [
  ⟨(some 2), .move (.const (.string ⟨⟨[]⟩⟩)), none⟩] none
def f30r1 : ICode := .region [
  ⟨(some 3), .move (.tmp 0), none⟩] none
def f30r2 : ICode := .region [
  ⟨(some 5), .bin .eql (.tmp 3) (.const (.int .i64 (.ofNat 1))), none⟩,
  ⟨(some 4), .move (.tmp 5), none⟩] none
def f30r3 : ICode := .region [
  ⟨(some 2), .move (.const (.string ⟨⟨[239, 187, 191]⟩⟩)), none⟩] none
def f30r4 : ICode := .region [
  ⟨(some 7), .bin .eql (.tmp 3) (.const (.int .i64 (.ofNat 2))), none⟩,
  ⟨(some 6), .move (.tmp 7), none⟩] none
def f30r5 : ICode := .region [
  ⟨(some 2), .move (.const (.string ⟨⟨[255, 254]⟩⟩)), none⟩] none
def f30r6 : ICode := .region [
  ⟨(some 9), .bin .eql (.tmp 3) (.const (.int .i64 (.ofNat 3))), none⟩,
  ⟨(some 8), .move (.tmp 9), none⟩] none
def f30r7 : ICode := .region [
  ⟨(some 2), .move (.const (.string ⟨⟨[254, 255]⟩⟩)), none⟩] none
def f30r8 : ICode := .region [
  ⟨(some 2), .move (.const (.string ⟨⟨[]⟩⟩)), none⟩] none
/- ferret/coding.mark -/
def f30 : IFn := ⟨10, [.inl 2], (.seq f30r0 (.seq (.seq f30r1 (.block 0 (.seq f30r2 (.cond (.tmp 4) (.seq f30r3 .ret) (.seq f30r4 (.cond (.tmp 6) (.seq f30r5 .ret) (.seq f30r6 (.cond (.tmp 8) (.seq f30r7 .ret) .skip)))))))) (.seq f30r8 .ret)))⟩
def f31r0 : ICode := .region [
  ⟨(some 3), .box 51 (.tmp 0), none⟩,
  ⟨(some 5), .box 3 (.tmp 2), none⟩,
  ⟨(some 6), .move (.const (.slice none 0 0)), none⟩] none
def f31r1 : ICode := .region [
  ⟨(some 8), .mkFunc (.func 52) [] [(.tmp 5), (.tmp 3)], none⟩,
  ⟨(some 7), .move (.tmp 8), none⟩] none
def f31r2 : ICode := .region [
  ⟨(some 31), .load1 (.tmp 5), none⟩,
  ⟨(some 32), .bin .eql (.tmp 31) (.const (.int .i64 (.ofNat 4))), none⟩,
  ⟨(some 30), .move (.tmp 32), none⟩] none
def f31r3 : ICode := .region [
  ⟨(some 33), .load1 (.tmp 3), none⟩,
  ⟨(some 34), .move (.tmp 1), none⟩,
  ⟨(some 35), .conv .u8 (.tmp 34), none⟩,
  ⟨(some 36), .buildSlice 5 1 [(.int .u8 (.ofNat 0))] [(0, 1, (.tmp 35))], none⟩,
  ⟨(some 37), .append 5 1 1 (.tmp 33) (.tmp 36), none⟩,
  ⟨(some 6), .move (.tmp 37), none⟩] none
def f31r4 : ICode := .region [
  ⟨(some 39), .load1 (.tmp 5), none⟩,
  ⟨(some 40), .bin .neq (.tmp 39) (.const (.int .i64 (.ofNat 1))), none⟩,
  ⟨(some 41), .move (.tmp 40), none⟩,
  ⟨(some 42), .move (.tmp 1), (some ((some 41), true))⟩,
  ⟨(some 43), .bin .geq (.tmp 42) (.const (.int .i64 (.ofNat 65536))), (some ((some 41), true))⟩,
  ⟨(some 44), .pick (.tmp 41) (.tmp 43) (.const (.bool false)), none⟩,
  ⟨(some 38), .move (.tmp 44), none⟩] none
def f31r5 : ICode := .region [
  ⟨(some 45), .move (.tmp 1), none⟩,
  ⟨(some 46), .bin .sub (.tmp 45) (.const (.int .i64 (.ofNat 65536))), none⟩,
  ⟨(some 1), .move (.tmp 46), none⟩] none
def f31r6 : ICode := .region [
  ⟨(some 47), .move (.tmp 7), none⟩,
  ⟨(some 48), .move (.tmp 1), none⟩,
  ⟨(some 49), .bin .shr (.tmp 48) (.const (.int .u64 (.ofNat 10))), none⟩,
  ⟨(some 50), .bin .add (.const (.int .i64 (.ofNat 55296))) (.tmp 49), none⟩,
  ⟨(some 51), .callv (.tmp 47) [(.tmp 50)], none⟩] none
def f31r7 : ICode := .region [
  ⟨(some 52), .move (.tmp 7), none⟩,
  ⟨(some 53), .move (.tmp 1), none⟩,
  ⟨(some 54), .bin .and (.tmp 53) (.const (.int .i64 (.ofNat 1023))), none⟩,
  ⟨(some 55), .bin .add (.const (.int .i64 (.ofNat 56320))) (.tmp 54), none⟩,
  ⟨(some 56), .callv (.tmp 52) [(.tmp 55)], none⟩] none
def f31r8 : ICode := .region [
  ⟨(some 58), .load1 (.tmp 5), none⟩,
  ⟨(some 59), .bin .neq (.tmp 58) (.const (.int .i64 (.ofNat 1))), none⟩,
  ⟨(some 57), .move (.tmp 59), none⟩] none
def f31r9 : ICode := .region [
  ⟨(some 60), .move (.tmp 7), none⟩,
  ⟨(some 61), .move (.tmp 1), none⟩,
  ⟨(some 62), .callv (.tmp 60) [(.tmp 61)], none⟩] none
def f31r10 : ICode := .region [
  ⟨(some 64), .move (.tmp 1), none⟩,
  ⟨(some 65), .bin .lss (.tmp 64) (.const (.int .i64 (.ofNat 128))), none⟩,
  ⟨(some 63), .move (.tmp 65), none⟩] none
def f31r11 : ICode := .region [
  ⟨(some 66), .load1 (.tmp 3), none⟩,
  ⟨(some 67), .move (.tmp 1), none⟩,
  ⟨(some 68), .conv .u8 (.tmp 67), none⟩,
  ⟨(some 69), .buildSlice 5 1 [(.int .u8 (.ofNat 0))] [(0, 1, (.tmp 68))], none⟩,
  ⟨(some 70), .append 5 1 1 (.tmp 66) (.tmp 69), none⟩,
  ⟨(some 6), .move (.tmp 70), none⟩] none
def f31r12 : ICode := .region [
  ⟨(some 72), .move (.tmp 1), none⟩,
  ⟨(some 73), .bin .lss (.tmp 72) (.const (.int .i64 (.ofNat 2048))), none⟩,
  ⟨(some 71), .move (.tmp 73), none⟩] none
def f31r13 : ICode := .region [
  ⟨(some 74), .load1 (.tmp 3), none⟩,
  ⟨(some 75), .move (.tmp 1), none⟩,
  ⟨(some 76), .bin .shr (.tmp 75) (.const (.int .u64 (.ofNat 6))), none⟩,
  ⟨(some 77), .bin .or (.const (.int .i64 (.ofNat 192))) (.tmp 76), none⟩,
  ⟨(some 78), .conv .u8 (.tmp 77), none⟩,
  ⟨(some 79), .move (.tmp 1), none⟩,
  ⟨(some 80), .bin .and (.tmp 79) (.const (.int .i64 (.ofNat 63))), none⟩,
  ⟨(some 81), .bin .or (.const (.int .i64 (.ofNat 128))) (.tmp 80), none⟩,
  ⟨(some 82), .conv .u8 (.tmp 81), none⟩,
  ⟨(some 83), .buildSlice 5 2 [(.int .u8 (.ofNat 0)), (.int .u8 (.ofNat 0))] [(0, 1, (.tmp 78)), (1, 1, (.tmp 82))], none⟩,
  ⟨(some 84), .append 5 1 1 (.tmp 74) (.tmp 83), none⟩,
  ⟨(some 6), .move (.tmp 84), none⟩] none
def f31r14 : ICode := .region [
  ⟨(some 86), .move (.tmp 1), none⟩,
  ⟨(some 87), .bin .lss (.tmp 86) (.const (.int .i64 (.ofNat 65536))), none⟩,
  ⟨(some 85), .move (.tmp 87), none⟩] none
def f31r15 : ICode := .region [
  ⟨(some 88), .load1 (.tmp 3), none⟩,
  ⟨(some 89), .move (.tmp 1), none⟩,
  ⟨(some 90), .bin .shr (.tmp 89) (.const (.int .u64 (.ofNat 12))), none⟩,
  ⟨(some 91), .bin .or (.const (.int .i64 (.ofNat 224))) (.tmp 90), none⟩,
  ⟨(some 92), .conv .u8 (.tmp 91), none⟩,
  ⟨(some 93), .move (.tmp 1), none⟩,
  ⟨(some 94), .bin .shr (.tmp 93) (.const (.int .u64 (.ofNat 6))), none⟩,
  ⟨(some 95), .bin .and (.tmp 94) (.const (.int .i64 (.ofNat 63))), none⟩,
  ⟨(some 96), .bin .or (.const (.int .i64 (.ofNat 128))) (.tmp 95), none⟩,
  ⟨(some 97), .conv .u8 (.tmp 96), none⟩,
  ⟨(some 98), .move (.tmp 1), none⟩,
  ⟨(some 99), .bin .and (.tmp 98) (.const (.int .i64 (.ofNat 63))), none⟩,
  ⟨(some 100), .bin .or (.const (.int .i64 (.ofNat 128))) (.tmp 99), none⟩,
  ⟨(some 101), .conv .u8 (.tmp 100), none⟩,
  ⟨(some 102), .buildSlice 5 3 [(.int .u8 (.ofNat 0)), (.int .u8 (.ofNat 0)), (.int .u8 (.ofNat 0))] [(0, 1, (.tmp 92)), (1, 1, (.tmp 97)), (2, 1, (.tmp 101))], none⟩,
  ⟨(some 103), .append 5 1 1 (.tmp 88) (.tmp 102), none⟩,
  ⟨(some 6), .move (.tmp 103), none⟩] none
def f31r16 : ICode := .region [
  ⟨(some 9), .load1 (.tmp 3), none⟩,
  ⟨(some 10), .move (.tmp 1), none⟩,
  ⟨(some 11), .bin .shr (.tmp 10) (.const (.int .u64 (.ofNat 18))), none⟩,
  ⟨(some 12), .bin .or (.const (.int .i64 (.ofNat 240))) (.tmp 11), none⟩,
  ⟨(some 13), .conv .u8 (.tmp 12), none⟩,
  ⟨(some 14), .move (.tmp 1), none⟩,
  ⟨(some 15), .bin .shr (.tmp 14) (.const (.int .u64 (.ofNat 12))), none⟩,
  ⟨(some 16), .bin .and (.tmp 15) (.const (.int .i64 (.ofNat 63))), none⟩,
  ⟨(some 17), .bin .or (.const (.int .i64 (.ofNat 128))) (.tmp 16), none⟩,
  ⟨(some 18), .conv .u8 (.tmp 17), none⟩,
  ⟨(some 19), .move (.tmp 1), none⟩,
  ⟨(some 20), .bin .shr (.tmp 19) (.const (.int .u64 (.ofNat 6))), none⟩,
  ⟨(some 21), .bin .and (.tmp 20) (.const (.int .i64 (.ofNat 63))), none⟩,
  ⟨(some 22), .bin .or (.const (.int .i64 (.ofNat 128))) (.tmp 21), none⟩,
  ⟨(some 23), .conv .u8 (.tmp 22), none⟩,
  ⟨(some 24), .move (.tmp 1), none⟩,
  ⟨(some 25), .bin .and (.tmp 24) (.const (.int .i64 (.ofNat 63))), none⟩,
  ⟨(some 26), .bin .or (.const (.int .i64 (.ofNat 128))) (.tmp 25), none⟩,
  ⟨(some 27), .conv .u8 (.tmp 26), none⟩,
  ⟨(some 28), .buildSlice 5 4 [(.int .u8 (.ofNat 0)), (.int .u8 (.ofNat 0)), (.int .u8 (.ofNat 0)), (.int .u8 (.ofNat 0))] [(0, 1, (.tmp 13)), (1, 1, (.tmp 18)), (2, 1, (.tmp 23)), (3, 1, (.tmp 27))], none⟩,
  ⟨(some 29), .append 5 1 1 (.tmp 9) (.tmp 28), none⟩,
  ⟨(some 6), .move (.tmp 29), none⟩] none
def f31r17 : ICode := .region [
  ⟨(some 104), .load1 (.tmp 3), none⟩,
  ⟨(some 6), .move (.tmp 104), none⟩] none
/- ferret/coding.put -/
def f31 : IFn := ⟨105, [.inl 6], (.seq f31r0 (.seq f31r1 (.seq (.block 0 (.seq f31r2 (.cond (.tmp 30) (.seq f31r3 .ret) (.seq f31r4 (.cond (.tmp 38) (.seq f31r5 (.seq f31r6 f31r7)) (.seq f31r8 (.cond (.tmp 57) f31r9 (.seq f31r10 (.cond (.tmp 63) (.seq f31r11 .ret) (.seq f31r12 (.cond (.tmp 71) (.seq f31r13 .ret) (.seq f31r14 (.cond (.tmp 85) (.seq f31r15 .ret) (.seq f31r16 .ret)))))))))))))) (.seq f31r17 .ret))))⟩
def f32r0 : ICode := .region [
  ⟨(some 4), .move (.const (.bool false)), none⟩] none
def f32r1 : ICode := .region [
  ⟨(some 6), .move (.tmp 1), none⟩,
  ⟨(some 7), .bin .lss (.tmp 6) (.const (.int .i64 (.ofNat 0))), none⟩,
  ⟨(some 8), .move (.tmp 7), none⟩,
  ⟨(some 9), .move (.tmp 1), (some ((some 8), false))⟩,
  ⟨(some 10), .move (.tmp 0), (some ((some 8), false))⟩,
  ⟨(some 11), .len 0 (.tmp 10), (some ((some 8), false))⟩,
  ⟨(some 12), .bin .geq (.tmp 9) (.tmp 11), (some ((some 8), false))⟩,
  ⟨(some 13), .pick (.tmp 8) (.const (.bool true)) (.tmp 12), none⟩] none
def f32r2 : ICode := .region [
  ⟨(some 4), .move (.const (.bool false)), none⟩] none
def f32r3 : ICode := .region [
  ⟨(some 14), .move (.tmp 0), none⟩,
  ⟨(some 15), .move (.tmp 1), none⟩,
  ⟨(some 16), .indexStr (.tmp 14) (.tmp 15), none⟩,
  ⟨(some 5), .move (.tmp 16), none⟩] none
def f32r4 : ICode := .region [
  ⟨(some 17), .move (.tmp 5), none⟩,
  ⟨(some 18), .bin .geq (.tmp 17) (.const (.int .u8 (.ofNat 48))), none⟩,
  ⟨(some 19), .move (.tmp 18), none⟩,
  ⟨(some 20), .move (.tmp 5), (some ((some 19), true))⟩,
  ⟨(some 21), .bin .leq (.tmp 20) (.const (.int .u8 (.ofNat 57))), (some ((some 19), true))⟩,
  ⟨(some 22), .pick (.tmp 19) (.tmp 21) (.const (.bool false)), none⟩,
  ⟨(some 23), .move (.tmp 22), none⟩,
  ⟨(some 24), .move (.tmp 5), (some ((some 23), false))⟩,
  ⟨(some 25), .bin .geq (.tmp 24) (.const (.int .u8 (.ofNat 65))), (some ((some 23), false))⟩,
  ⟨(some 26), .move (.tmp 25), (some ((some 23), false))⟩,
  ⟨(some 27), .move (.tmp 5), (some ((some 26), true))⟩,
  ⟨(some 28), .bin .leq (.tmp 27) (.const (.int .u8 (.ofNat 90))), (some ((some 26), true))⟩,
  ⟨(some 29), .pick (.tmp 26) (.tmp 28) (.const (.bool false)), (some ((some 23), false))⟩,
  ⟨(some 30), .pick (.tmp 23) (.const (.bool true)) (.tmp 29), none⟩,
  ⟨(some 31), .move (.tmp 30), none⟩,
  ⟨(some 32), .move (.tmp 5), (some ((some 31), false))⟩,
  ⟨(some 33), .bin .geq (.tmp 32) (.const (.int .u8 (.ofNat 97))), (some ((some 31), false))⟩,
  ⟨(some 34), .move (.tmp 33), (some ((some 31), false))⟩,
  ⟨(some 35), .move (.tmp 5), (some ((some 34), true))⟩,
  ⟨(some 36), .bin .leq (.tmp 35) (.const (.int .u8 (.ofNat 122))), (some ((some 34), true))⟩,
  ⟨(some 37), .pick (.tmp 34) (.tmp 36) (.const (.bool false)), (some ((some 31), false))⟩,
  ⟨(some 38), .pick (.tmp 31) (.const (.bool true)) (.tmp 37), none⟩,
  ⟨(some 39), .move (.tmp 38), none⟩,
  ⟨(some 40), .move (.tmp 5), (some ((some 39), false))⟩,
  ⟨(some 41), .bin .eql (.tmp 40) (.const (.int .u8 (.ofNat 95))), (some ((some 39), false))⟩,
  ⟨(some 42), .pick (.tmp 39) (.const (.bool true)) (.tmp 41), none⟩,
  ⟨(some 4), .move (.tmp 42), none⟩] none
/- ferret/prog.wordly -/
def f32 : IFn := ⟨43, [.inl 4], (.seq f32r0 (.seq (.seq f32r1 (.cond (.tmp 13) (.seq f32r2 .ret) .skip)) (.seq f32r3 (.seq f32r4 .ret))))⟩
def f33r0 : ICode := .region [
  ⟨(some 4), .move (.const (.bool false)), none⟩] none
def f33r1 : ICode := .region [
  ⟨(some 6), .move (.tmp 1), none⟩,
  ⟨(some 7), .bin .lss (.tmp 6) (.const (.int .i64 (.ofNat 0))), none⟩,
  ⟨(some 8), .move (.tmp 7), none⟩,
  ⟨(some 9), .move (.tmp 1), (some ((some 8), false))⟩,
  ⟨(some 10), .move (.tmp 0), (some ((some 8), false))⟩,
  ⟨(some 11), .len 0 (.tmp 10), (some ((some 8), false))⟩,
  ⟨(some 12), .bin .geq (.tmp 9) (.tmp 11), (some ((some 8), false))⟩,
  ⟨(some 13), .pick (.tmp 8) (.const (.bool true)) (.tmp 12), none⟩] none
def f33r2 : ICode := .region [
  ⟨(some 4), .move (.const (.bool false)), none⟩] none
def f33r3 : ICode := .region [
  ⟨(some 14), .move (.tmp 0), none⟩,
  ⟨(some 15), .move (.tmp 1), none⟩,
  ⟨(some 16), .indexStr (.tmp 14) (.tmp 15), none⟩,
  ⟨(some 5), .move (.tmp 16), none⟩] none
def f33r4 : ICode := .region [
  ⟨(some 17), .move (.tmp 5), none⟩,
  ⟨(some 18), .bin .eql (.tmp 17) (.const (.int .u8 (.ofNat 95))), none⟩,
  ⟨(some 19), .move (.tmp 18), none⟩,
  ⟨(some 20), .move (.tmp 5), (some ((some 19), false))⟩,
  ⟨(some 21), .bin .gtr (.tmp 20) (.const (.int .u8 (.ofNat 47))), (some ((some 19), false))⟩,
  ⟨(some 22), .move (.tmp 21), (some ((some 19), false))⟩,
  ⟨(some 23), .move (.tmp 5), (some ((some 22), true))⟩,
  ⟨(some 24), .bin .lss (.tmp 23) (.const (.int .u8 (.ofNat 58))), (some ((some 22), true))⟩,
  ⟨(some 25), .pick (.tmp 22) (.tmp 24) (.const (.bool false)), (some ((some 19), false))⟩,
  ⟨(some 26), .pick (.tmp 19) (.const (.bool true)) (.tmp 25), none⟩,
  ⟨(some 27), .move (.tmp 26), none⟩,
  ⟨(some 28), .move (.tmp 5), (some ((some 27), false))⟩,
  ⟨(some 29), .bin .gtr (.tmp 28) (.const (.int .u8 (.ofNat 64))), (some ((some 27), false))⟩,
  ⟨(some 30), .move (.tmp 29), (some ((some 27), false))⟩,
  ⟨(some 31), .move (.tmp 5), (some ((some 30), true))⟩,
  ⟨(some 32), .bin .lss (.tmp 31) (.const (.int .u8 (.ofNat 91))), (some ((some 30), true))⟩,
  ⟨(some 33), .pick (.tmp 30) (.tmp 32) (.const (.bool false)), (some ((some 27), false))⟩,
  ⟨(some 34), .pick (.tmp 27) (.const (.bool true)) (.tmp 33), none⟩,
  ⟨(some 35), .move (.tmp 34), none⟩,
  ⟨(some 36), .move (.tmp 5), (some ((some 35), false))⟩,
  ⟨(some 37), .bin .gtr (.tmp 36) (.const (.int .u8 (.ofNat 96))), (some ((some 35), false))⟩,
  ⟨(some 38), .move (.tmp 37), (some ((some 35), false))⟩,
  ⟨(some 39), .move (.tmp 5), (some ((some 38), true))⟩,
  ⟨(some 40), .bin .lss (.tmp 39) (.const (.int .u8 (.ofNat 123))), (some ((some 38), true))⟩,
  ⟨(some 41), .pick (.tmp 38) (.tmp 40) (.const (.bool false)), (some ((some 35), false))⟩,
  ⟨(some 42), .pick (.tmp 35) (.const (.bool true)) (.tmp 41), none⟩,
  ⟨(some 4), .move (.tmp 42), none⟩] none
/- ferret/ferretref14.wordly -/
def f33 : IFn := ⟨43, [.inl 4], (.seq f33r0 (.seq (.seq f33r1 (.cond (.tmp 13) (.seq f33r2 .ret) .skip)) (.seq f33r3 (.seq f33r4 .ret))))⟩
def f34r0 : ICode := .region [
  ⟨(some 3), .box 53 (.tmp 1), none⟩,
  ⟨(some 4), .move (.const (.slice none 0 0)), none⟩] none
def f34r1 : ICode := .region [
  ⟨(some 5), .move (.const (.int .i64 (.ofNat 6))), none⟩] none
def f34r2 : ICode := .region [
  ⟨(some 13), .move (.tmp 5), none⟩,
  ⟨(some 14), .bin .leq (.tmp 13) (.const (.int .i64 (.ofNat 18))), none⟩] none
def f34r3 : ICode := .region [
  ⟨(some 17), .move (.tmp 5), none⟩,
  ⟨(some 18), .bin .shl (.const (.int .i64 (.ofNat 1))) (.tmp 17), none⟩,
  ⟨(some 19), .bin .sub (.tmp 18) (.const (.int .i64 (.ofNat 1))), none⟩,
  ⟨(some 6), .move (.tmp 19), none⟩] none
def f34r4 : ICode := .region [
  ⟨(some 20), .fieldAddr 0 (.tmp 3), none⟩,
  ⟨(some 21), .load1 (.tmp 20), none⟩,
  ⟨(some 22), .move (.tmp 5), none⟩,
  ⟨(some 23), .bin .shr (.tmp 21) (.tmp 22), none⟩,
  ⟨(some 24), .fieldAddr 1 (.tmp 3), none⟩,
  ⟨(some 25), .load1 (.tmp 24), none⟩,
  ⟨(some 26), .move (.tmp 5), none⟩,
  ⟨(some 27), .bin .shr (.tmp 25) (.tmp 26), none⟩,
  ⟨(some 28), .bin .eql (.tmp 23) (.tmp 27), none⟩] (some ⟨[], []⟩)
def f34r5 : ICode := .region [
  ⟨(some 29), .fieldAddr 0 (.tmp 3), none⟩,
  ⟨(some 30), .load1 (.tmp 29), none⟩,
  ⟨(some 31), .move (.tmp 6), none⟩,
  ⟨(some 32), .bin .and (.tmp 30) (.tmp 31), none⟩,
  ⟨(some 33), .bin .neq (.tmp 32) (.const (.int .i64 (.ofNat 0))), none⟩] none
def f34r6 : ICode := .region [
  ⟨(some 34), .move (.tmp 0), none⟩,
  ⟨(some 35), .fieldAddr 0 (.tmp 3), none⟩,
  ⟨(some 36), .load1 (.tmp 35), none⟩,
  ⟨(some 37), .fieldAddr 0 (.tmp 3), none⟩,
  ⟨(some 38), .load1 (.tmp 37), none⟩,
  ⟨(some 39), .move (.tmp 6), none⟩,
  ⟨(some 40), .bin .or (.tmp 38) (.tmp 39), none⟩,
  ⟨(some 41), .build [(.int .i64 (.ofNat 0)), (.int .i64 (.ofNat 0))] [(0, 1, (.tmp 36)), (1, 1, (.tmp 40))], none⟩,
  ⟨(some 42), .call 34 [(.tmp 34), (.tmp 41)], none⟩,
  ⟨(some 0), .move (.tmp 42), none⟩] none
def f34r7 : ICode := .region [
  ⟨(some 43), .move (.tmp 0), none⟩,
  ⟨(some 44), .fieldAddr 0 (.tmp 3), none⟩,
  ⟨(some 45), .load1 (.tmp 44), none⟩,
  ⟨(some 46), .move (.tmp 6), none⟩,
  ⟨(some 47), .bin .or (.tmp 45) (.tmp 46), none⟩,
  ⟨(some 48), .bin .add (.tmp 47) (.const (.int .i64 (.ofNat 1))), none⟩,
  ⟨(some 49), .fieldAddr 1 (.tmp 3), none⟩,
  ⟨(some 50), .load1 (.tmp 49), none⟩,
  ⟨(some 51), .build [(.int .i64 (.ofNat 0)), (.int .i64 (.ofNat 0))] [(0, 1, (.tmp 48)), (1, 1, (.tmp 50))], none⟩,
  ⟨(some 52), .call 34 [(.tmp 43), (.tmp 51)], none⟩,
  ⟨(some 4), .move (.tmp 52), none⟩] none
def f34r8 : ICode := .region [
  ⟨(some 53), .fieldAddr 1 (.tmp 3), none⟩,
  ⟨(some 54), .load1 (.tmp 53), none⟩,
  ⟨(some 55), .move (.tmp 6), none⟩,
  ⟨(some 56), .bin .and (.tmp 54) (.tmp 55), none⟩,
  ⟨(some 57), .move (.tmp 6), none⟩,
  ⟨(some 58), .bin .neq (.tmp 56) (.tmp 57), none⟩] none
def f34r9 : ICode := .region [
  ⟨(some 59), .move (.tmp 0), none⟩,
  ⟨(some 60), .fieldAddr 0 (.tmp 3), none⟩,
  ⟨(some 61), .load1 (.tmp 60), none⟩,
  ⟨(some 62), .fieldAddr 1 (.tmp 3), none⟩,
  ⟨(some 63), .load1 (.tmp 62), none⟩,
  ⟨(some 64), .move (.tmp 6), none⟩,
  ⟨(some 65), .bin .andNot (.tmp 63) (.tmp 64), none⟩,
  ⟨(some 66), .bin .sub (.tmp 65) (.const (.int .i64 (.ofNat 1))), none⟩,
  ⟨(some 67), .build [(.int .i64 (.ofNat 0)), (.int .i64 (.ofNat 0))] [(0, 1, (.tmp 61)), (1, 1, (.tmp 66))], none⟩,
  ⟨(some 68), .call 34 [(.tmp 59), (.tmp 67)], none⟩,
  ⟨(some 0), .move (.tmp 68), none⟩] none
def f34r10 : ICode := .region [
  ⟨(some 69), .move (.tmp 0), none⟩,
  ⟨(some 70), .fieldAddr 1 (.tmp 3), none⟩,
  ⟨(some 71), .load1 (.tmp 70), none⟩,
  ⟨(some 72), .move (.tmp 6), none⟩,
  ⟨(some 73), .bin .andNot (.tmp 71) (.tmp 72), none⟩,
  ⟨(some 74), .fieldAddr 1 (.tmp 3), none⟩,
  ⟨(some 75), .load1 (.tmp 74), none⟩,
  ⟨(some 76), .build [(.int .i64 (.ofNat 0)), (.int .i64 (.ofNat 0))] [(0, 1, (.tmp 73)), (1, 1, (.tmp 75))], none⟩,
  ⟨(some 77), .call 34 [(.tmp 69), (.tmp 76)], none⟩,
  ⟨(some 4), .move (.tmp 77), none⟩] none
def f34r11 : ICode := .region [
  ⟨(some 15), .move (.tmp 5), none⟩,
  ⟨(some 16), .bin .add (.tmp 15) (.const (.int .i64 (.ofNat 6))), none⟩,
  ⟨(some 5), .move (.tmp 16), none⟩] none
def f34r12 : ICode := .region [
  ⟨(some 79), .fieldAddr 0 (.tmp 3), none⟩,
  ⟨(some 80), .load1 (.tmp 79), none⟩,
  ⟨(some 81), .buildSlice 3 1 [(.int .i64 (.ofNat 0))] [(0, 1, (.tmp 80))], none⟩,
  ⟨(some 82), .call 12 [(.tmp 81), (.const (.int .i64 (.ofNat 1))), (.const (.bool false))], none⟩,
  ⟨(some 78), .move (.tmp 82), none⟩,
  ⟨(some 83), .extract (.tmp 78) 0, none⟩,
  ⟨(some 84), .extract (.tmp 78) 1, none⟩,
  ⟨(some 7), .move (.tmp 83), none⟩,
  ⟨(some 8), .move (.tmp 84), none⟩] none
def f34r13 : ICode := .region [
  ⟨(some 86), .fieldAddr 1 (.tmp 3), none⟩,
  ⟨(some 87), .load1 (.tmp 86), none⟩,
  ⟨(some 88), .buildSlice 3 1 [(.int .i64 (.ofNat 0))] [(0, 1, (.tmp 87))], none⟩,
  ⟨(some 89), .call 12 [(.tmp 88), (.const (.int .i64 (.ofNat 1))), (.const (.bool false))], none⟩,
  ⟨(some 85), .move (.tmp 89), none⟩,
  ⟨(some 90), .extract (.tmp 85) 0, none⟩,
  ⟨(some 91), .extract (.tmp 85) 1, none⟩,
  ⟨(some 9), .move (.tmp 90), none⟩,
  ⟨(some 10), .move (.tmp 91), none⟩] none
def f34r14 : ICode := .region [
  ⟨(some 11), .move (.const (.slice none 0 0)), none⟩] none
def f34r15 : ICode := .region [
  ⟨(some 92), .move (.tmp 7), none⟩,
  ⟨(some 93), .len 0 (.tmp 92), none⟩,
  ⟨(some 94), .move (.const (.int .i64 (.ofNat 0))), none⟩] none
def f34r16 : ICode := .region [
  ⟨(some 95), .bin .lss (.tmp 94) (.tmp 93), none⟩] none
def f34r17 : ICode := .region [
  ⟨(some 96), .move (.tmp 94), none⟩,
  ⟨(some 12), .move (.tmp 96), none⟩] none
def f34r18 : ICode := .region [
  ⟨(some 97), .move (.tmp 11), none⟩,
  ⟨(some 98), .move (.tmp 7), none⟩,
  ⟨(some 99), .move (.tmp 12), none⟩,
  ⟨(some 100), .indexStr (.tmp 98) (.tmp 99), none⟩,
  ⟨(some 101), .conv .i64 (.tmp 100), none⟩,
  ⟨(some 102), .move (.tmp 9), none⟩,
  ⟨(some 103), .move (.tmp 12), none⟩,
  ⟨(some 104), .indexStr (.tmp 102) (.tmp 103), none⟩,
  ⟨(some 105), .conv .i64 (.tmp 104), none⟩,
  ⟨(some 106), .build [(.int .i64 (.ofNat 0)), (.int .i64 (.ofNat 0))] [(0, 1, (.tmp 101)), (1, 1, (.tmp 105))], none⟩,
  ⟨(some 107), .buildSlice 53 1 [(.int .i64 (.ofNat 0)), (.int .i64 (.ofNat 0))] [(0, 2, (.tmp 106))], none⟩,
  ⟨(some 108), .append 53 2 16 (.tmp 97) (.tmp 107), none⟩,
  ⟨(some 11), .move (.tmp 108), none⟩] (some ⟨[], []⟩)
def f34r19 : ICode := .region [
  ⟨(some 109), .bin .add (.tmp 94) (.const (.int .i64 (.ofNat 1))), none⟩,
  ⟨(some 94), .move (.tmp 109), none⟩] none
def f34r20 : ICode := .region [
  ⟨(some 110), .move (.tmp 0), none⟩,
  ⟨(some 111), .move (.tmp 11), none⟩,
  ⟨(some 112), .buildSlice 88 1 [(.slice none 0 0)] [(0, 1, (.tmp 111))], none⟩,
  ⟨(some 113), .append 88 1 24 (.tmp 110) (.tmp 112), none⟩,
  ⟨(some 4), .move (.tmp 113), none⟩] none
/- ferret/utfsplit.rows -/
def f34 : IFn := ⟨114, [.inl 4], (.seq f34r0 (.seq (.seq f34r1 (.block 0 (.loop (.seq (.seq f34r2 (.cond (.tmp 14) .skip (.exit 0))) (.seq (.block 1 (.seq f34r3 (.seq (.seq f34r4 (.cond (.tmp 28) (.exit 0) .skip)) (.seq (.seq f34r5 (.cond (.tmp 33) (.seq f34r6 (.seq f34r7 .ret)) .skip)) (.seq f34r8 (.cond (.tmp 58) (.seq f34r9 (.seq f34r10 .ret)) .skip)))))) f34r11))))) (.seq f34r12 (.seq f34r13 (.seq f34r14 (.seq (.seq f34r15 (.block 2 (.loop (.seq f34r16 (.seq (.cond (.tmp 95) .skip (.exit 2)) (.seq (.block 3 (.seq f34r17 f34r18)) f34r19)))))) (.seq f34r20 .ret)))))))⟩
def f35r0 : ICode := .region [
  ⟨(some 2), .move (.const (.int .i64 (.ofNat 0))), none⟩,
  ⟨(some 3), .move (.const (.int .i64 (.ofNat 0))), none⟩] none
def f35r1 : ICode := .region [
  ⟨(some 4), .move (.const (.int .i64 (.ofNat 1))), none⟩] none
def f35r2 : ICode := .region [
  ⟨(some 6), .move (.tmp 4), none⟩,
  ⟨(some 7), .bin .leq (.tmp 6) (.const (.int .i64 (.ofNat 3))), none⟩] none
def f35r3 : ICode := .region [
  ⟨(some 10), .move (.tmp 4), none⟩,
  ⟨(some 11), .call 30 [(.tmp 10)], none⟩,
  ⟨(some 5), .move (.tmp 11), none⟩] none
def f35r4 : ICode := .region [
  ⟨(some 12), .move (.tmp 0), none⟩,
  ⟨(some 13), .move (.tmp 5), none⟩,
  ⟨(some 14), .call 36 [(.tmp 12), (.tmp 13)], none⟩] none
def f35r5 : ICode := .region [
  ⟨(some 15), .move (.tmp 4), none⟩,
  ⟨(some 16), .move (.tmp 5), none⟩,
  ⟨(some 17), .len 0 (.tmp 16), none⟩,
  ⟨(some 2), .move (.tmp 15), none⟩,
  ⟨(some 3), .move (.tmp 17), none⟩] none
def f35r6 : ICode := .region [
  ⟨(some 8), .move (.tmp 4), none⟩,
  ⟨(some 9), .bin .add (.tmp 8) (.const (.int .i64 (.ofNat 1))), none⟩,
  ⟨(some 4), .move (.tmp 9), none⟩] none
def f35r7 : ICode := .region [
  ⟨(some 2), .move (.const (.int .i64 (.ofNat 1))), none⟩,
  ⟨(some 3), .move (.const (.int .i64 (.ofNat 0))), none⟩] none
/- ferret/coding.Sniff -/
def f35 : IFn := ⟨18, [.inl 2, .inl 3], (.seq f35r0 (.seq (.seq f35r1 (.block 0 (.loop (.seq (.seq f35r2 (.cond (.tmp 7) .skip (.exit 0))) (.seq (.block 1 (.seq f35r3 (.seq f35r4 (.cond (.tmp 14) (.seq f35r5 .ret) .skip)))) f35r6))))) (.seq f35r7 .ret)))⟩
def f36r0 : ICode := .region [
  ⟨(some 4), .move (.const (.bool false)), none⟩] none
def f36r1 : ICode := .region [
  ⟨(some 5), .move (.tmp 0), none⟩,
  ⟨(some 6), .move (.tmp 1), none⟩,
  ⟨(some 7), .call 53 [(.tmp 5), (.tmp 6)], none⟩,
  ⟨(some 4), .move (.tmp 7), none⟩] none
/- strings.HasPrefix -/
def f36 : IFn := ⟨8, [.inl 4], (.seq f36r0 (.seq f36r1 .ret))⟩
def f37r0 : ICode := .region [
  ⟨(some 2), .move (.const .nilFunc), none⟩] none
def f37r1 : ICode := .region [
  ⟨(some 3), .move (.tmp 0), none⟩] none
def f37r2 : ICode := .region [
  ⟨(some 5), .bin .eql (.tmp 3) (.const (.int .i64 (.ofNat 1))), none⟩,
  ⟨(some 4), .move (.tmp 5), none⟩] none
def f37r3 : ICode := .region [
  ⟨(some 2), .move (.func 54), none⟩] none
def f37r4 : ICode := .region [
  ⟨(some 7), .bin .eql (.tmp 3) (.const (.int .i64 (.ofNat 2))), none⟩,
  ⟨(some 6), .move (.tmp 7), none⟩] none
def f37r5 : ICode := .region [
  ⟨(some 2), .move (.func 55), none⟩] none
def f37r6 : ICode := .region [
  ⟨(some 9), .bin .eql (.tmp 3) (.const (.int .i64 (.ofNat 3))), none⟩,
  ⟨(some 8), .move (.tmp 9), none⟩] none
def f37r7 : ICode := .region [
  ⟨(some 2), .move (.func 57), none⟩] none
def f37r8 : ICode := .region [
  ⟨(some 2), .move (.func 58), none⟩] none
/- ferret/coding.scalarOf -/
def f37 : IFn := ⟨10, [.inl 2], (.seq f37r0 (.seq (.seq f37r1 (.block 0 (.seq f37r2 (.cond (.tmp 4) (.seq f37r3 .ret) (.seq f37r4 (.cond (.tmp 6) (.seq f37r5 .ret) (.seq f37r6 (.cond (.tmp 8) (.seq f37r7 .ret) .skip)))))))) (.seq f37r8 .ret)))⟩
def f38r0 : ICode := .region [
  ⟨(some 2), .new [(.int .i64 (.ofNat 0)), (.slice none 0 0), (.bool false), (.int .i64 (.ofNat 0)), (.int .i64 (.ofNat 0)), (.bool false), (.int .i64 (.ofNat 0)), (.string ⟨⟨[]⟩⟩), (.slice none 0 0)] 28, none⟩] none
def f38r1 : ICode := .region [
  ⟨(some 3), .move (.const (.slice none 0 0)), none⟩] none
def f38r2 : ICode := .region [
  ⟨(some 4), .move (.const (.bool false)), none⟩] none
def f38r3 : ICode := .region [
  ⟨(some 13), .move (.tmp 0), none⟩,
  ⟨(some 14), .nilCheck (.tmp 13), none⟩,
  ⟨(some 15), .fieldAddr 4 (.tmp 14), none⟩,
  ⟨(some 16), .load1 (.tmp 15), none⟩,
  ⟨(some 5), .move (.tmp 16), none⟩] none
def f38r4 : ICode := .region [
  ⟨(some 17), .move (.tmp 0), none⟩,
  ⟨(some 18), .call 59 [(.tmp 17), (.const (.int .i64 (.ofNat 0)))], none⟩,
  ⟨(some 6), .move (.tmp 18), none⟩] none
def f38r5 : ICode := .region [
  ⟨(some 19), .move (.tmp 6), none⟩] none
def f38r6 : ICode := .region [
  ⟨(some 21), .bin .eql (.tmp 19) (.const (.int .i64 (.negSucc 0))), none⟩,
  ⟨(some 20), .move (.tmp 21), none⟩] none
def f38r7 : ICode := .region [
  ⟨(some 22), .bin .eql (.tmp 19) (.const (.int .i64 (.ofNat 124))), none⟩,
  ⟨(some 20), .move (.tmp 22), none⟩] none
def f38r8 : ICode := .region [
  ⟨(some 23), .move (.tmp 3), none⟩,
  ⟨(some 24), .call 40 [(.const (.int .i64 (.ofNat 8))), (.tmp 23)], none⟩,
  ⟨none, .store 9 (.tmp 2) (.tmp 24), none⟩] none
def f38r9 : ICode := .region [
  ⟨(some 26), .bin .eql (.tmp 19) (.const (.int .i64 (.ofNat 41))), none⟩,
  ⟨(some 25), .move (.tmp 26), none⟩] none
def f38r10 : ICode := .region [
  ⟨(some 27), .move (.tmp 0), none⟩,
  ⟨(some 28), .nilCheck (.tmp 27), none⟩,
  ⟨(some 29), .fieldAddr 5 (.tmp 28), none⟩,
  ⟨(some 30), .load1 (.tmp 29), none⟩,
  ⟨(some 31), .len 1 (.tmp 30), none⟩,
  ⟨(some 32), .bin .eql (.tmp 31) (.const (.int .i64 (.ofNat 0))), none⟩] none
def f38r11 : ICode := .region [
  ⟨(some 33), .move (.tmp 0), none⟩,
  ⟨(some 34), .move (.tmp 0), none⟩,
  ⟨(some 35), .nilCheck (.tmp 34), none⟩,
  ⟨(some 36), .fieldAddr 4 (.tmp 35), none⟩,
  ⟨(some 37), .load1 (.tmp 36), none⟩,
  ⟨(some 38), .call 60 [(.tmp 33), (.const (.int .i64 (.ofNat 25))), (.tmp 37)], none⟩] none
def f38r12 : ICode := .region [
  ⟨(some 39), .move (.tmp 3), none⟩,
  ⟨(some 40), .call 40 [(.const (.int .i64 (.ofNat 8))), (.tmp 39)], none⟩,
  ⟨none, .store 9 (.tmp 2) (.tmp 40), none⟩] none
def f38r13 : ICode := .region [
  ⟨(some 42), .move (.tmp 0), none⟩,
  ⟨(some 43), .call 61 [(.tmp 42)], none⟩,
  ⟨(some 41), .move (.tmp 43), none⟩,
  ⟨(some 44), .extract (.tmp 41) 0, none⟩,
  ⟨(some 45), .extract (.tmp 41) 1, none⟩,
  ⟨(some 46), .extract (.tmp 41) 2, none⟩,
  ⟨(some 7), .move (.tmp 44), none⟩,
  ⟨(some 8), .move (.tmp 45), none⟩,
  ⟨(some 9), .move (.tmp 46), none⟩] none
def f38r14 : ICode := .region [
  ⟨(some 47), .move (.tmp 9), none⟩] none
def f38r15 : ICode := .region [
  ⟨(some 48), .move (.tmp 4), none⟩,
  ⟨(some 49), .un .not (.tmp 48), none⟩] none
def f38r16 : ICode := .region [
  ⟨(some 50), .move (.tmp 0), none⟩,
  ⟨(some 51), .move (.tmp 5), none⟩,
  ⟨(some 52), .call 60 [(.tmp 50), (.const (.int .i64 (.ofNat 23))), (.tmp 51)], none⟩] none
def f38r17 : ICode := .region [
  ⟨(some 53), .move (.tmp 7), none⟩,
  ⟨(some 54), .bin .gtr (.tmp 53) (.const (.int .i64 (.ofNat 64))), none⟩,
  ⟨(some 55), .move (.tmp 54), none⟩,
  ⟨(some 56), .move (.tmp 8), (some ((some 55), false))⟩,
  ⟨(some 57), .bin .gtr (.tmp 56) (.const (.int .i64 (.ofNat 64))), (some ((some 55), false))⟩,
  ⟨(some 58), .pick (.tmp 55) (.const (.bool true)) (.tmp 57), none⟩,
  ⟨(some 59), .move (.tmp 58), none⟩,
  ⟨(some 60), .move (.tmp 8), (some ((some 59), false))⟩,
  ⟨(some 61), .bin .geq (.tmp 60) (.const (.int .i64 (.ofNat 0))), (some ((some 59), false))⟩,
  ⟨(some 62), .move (.tmp 61), (some ((some 59), false))⟩,
  ⟨(some 63), .move (.tmp 7), (some ((some 62), true))⟩,
  ⟨(some 64), .move (.tmp 8), (some ((some 62), true))⟩,
  ⟨(some 65), .bin .gtr (.tmp 63) (.tmp 64), (some ((some 62), true))⟩,
  ⟨(some 66), .pick (.tmp 62) (.tmp 65) (.const (.bool false)), (some ((some 59), false))⟩,
  ⟨(some 67), .pick (.tmp 59) (.const (.bool true)) (.tmp 66), none⟩] none
def f38r18 : ICode := .region [
  ⟨(some 68), .move (.tmp 0), none⟩,
  ⟨(some 69), .move (.tmp 5), none⟩,
  ⟨(some 70), .call 60 [(.tmp 68), (.const (.int .i64 (.ofNat 23))), (.tmp 69)], none⟩] none
def f38r19 : ICode := .region [
  ⟨(some 71), .move (.tmp 3), none⟩,
  ⟨(some 72), .move (.tmp 3), none⟩,
  ⟨(some 73), .len 1 (.tmp 72), none⟩,
  ⟨(some 74), .bin .sub (.tmp 73) (.const (.int .i64 (.ofNat 1))), none⟩,
  ⟨(some 75), .indexSl 9 (.tmp 71) (.tmp 74), none⟩,
  ⟨(some 10), .move (.tmp 75), none⟩] none
def f38r20 : ICode := .region [
  ⟨(some 76), .move (.tmp 10), none⟩,
  ⟨(some 77), .move (.tmp 7), none⟩,
  ⟨(some 78), .move (.tmp 8), none⟩,
  ⟨(some 79), .move (.tmp 0), none⟩,
  ⟨(some 80), .call 39 [(.tmp 79), (.const (.string ⟨⟨[63]⟩⟩))], none⟩,
  ⟨(some 81), .move (.tmp 0), none⟩,
  ⟨(some 82), .nilCheck (.tmp 81), none⟩,
  ⟨(some 83), .fieldAddr 7 (.tmp 82), none⟩,
  ⟨(some 84), .fieldAddr 3 (.tmp 83), none⟩,
  ⟨(some 85), .load1 (.tmp 84), none⟩,
  ⟨(some 86), .eqB true (.tmp 80) (.tmp 85), none⟩,
  ⟨(some 87), .move (.tmp 10), none⟩,
  ⟨(some 88), .nilCheck (.tmp 87), none⟩,
  ⟨(some 89), .loadN 9 (.tmp 88), none⟩,
  ⟨(some 90), .buildSlice 28 1 [(.int .i64 (.ofNat 0)), (.slice none 0 0), (.bool false), (.int .i64 (.ofNat 0)), (.int .i64 (.ofNat 0)), (.bool false), (.int .i64 (.ofNat 0)), (.string ⟨⟨[]⟩⟩), (.slice none 0 0)] [(0, 9, (.tmp 89))], none⟩,
  ⟨(some 91), .build [(.int .i64 (.ofNat 0)), (.slice none 0 0), (.bool false), (.int .i64 (.ofNat 0)), (.int .i64 (.ofNat 0)), (.bool false), (.int .i64 (.ofNat 0)), (.string ⟨⟨[]⟩⟩), (.slice none 0 0)] [(0, 1, (.const (.int .i64 (.ofNat 10)))), (3, 1, (.tmp 77)), (4, 1, (.tmp 78)), (5, 1, (.tmp 86)), (8, 1, (.tmp 90))], none⟩,
  ⟨(some 92), .nilCheck (.tmp 76), none⟩,
  ⟨none, .store 9 (.tmp 92) (.tmp 91), none⟩] (some ⟨[], [(9, 4), (13, 4)]⟩)
def f38r21 : ICode := .region [
  ⟨(some 4), .move (.const (.bool false)), none⟩] none
def f38r22 : ICode := .region [
  ⟨(some 94), .move (.tmp 0), none⟩,
  ⟨(some 95), .call 62 [(.tmp 94)], none⟩,
  ⟨(some 93), .move (.tmp 95), none⟩,
  ⟨(some 96), .extract (.tmp 93) 0, none⟩,
  ⟨(some 97), .extract (.tmp 93) 1, none⟩,
  ⟨(some 11), .new [(.int .i64 (.ofNat 0)), (.slice none 0 0), (.bool false), (.int .i64 (.ofNat 0)), (.int .i64 (.ofNat 0)), (.bool false), (.int .i64 (.ofNat 0)), (.string ⟨⟨[]⟩⟩), (.slice none 0 0)] 28, none⟩,
  ⟨none, .store 9 (.tmp 11) (.tmp 96), none⟩,
  ⟨(some 12), .move (.tmp 97), none⟩] none
def f38r23 : ICode := .region [
  ⟨(some 98), .move (.tmp 12), none⟩] none
def f38r24 : ICode := .region [
  ⟨(some 99), .move (.tmp 3), none⟩,
  ⟨(some 100), .loadN 9 (.tmp 11), none⟩,
  ⟨(some 101), .buildSlice 28 1 [(.int .i64 (.ofNat 0)), (.slice none 0 0), (.bool false), (.int .i64 (.ofNat 0)), (.int .i64 (.ofNat 0)), (.bool false), (.int .i64 (.ofNat 0)), (.string ⟨⟨[]⟩⟩), (.slice none 0 0)] [(0, 9, (.tmp 100))], none⟩,
  ⟨(some 102), .append 28 9 112 (.tmp 99) (.tmp 101), none⟩,
  ⟨(some 3), .move (.tmp 102), none⟩] none
def f38r25 : ICode := .region [
  ⟨(some 103), .move (.tmp 12), none⟩,
  ⟨(some 4), .move (.tmp 103), none⟩] none
/- (*ferret/syn.parser).row -/
def f38 : IFn := ⟨104, [.inr (2, (some 9))], (.seq f38r0 (.seq f38r1 (.seq f38r2 (.block 0 (.loop (.block 1 (.seq f38r3 (.seq (.seq f38r4 (.seq f38r5 (.block 2 (.seq (.seq f38r6 (.cond (.tmp 20) .skip f38r7)) (.cond (.tmp 20) (.seq f38r8 .ret) (.seq f38r9 (.cond (.tmp 25) (.seq (.seq f38r10 (.cond (.tmp 32) f38r11 .skip)) (.seq f38r12 .ret)) .skip))))))) (.seq (.seq f38r13 (.seq f38r14 (.cond (.tmp 47) (.seq (.seq f38r15 (.cond (.tmp 49) f38r16 .skip)) (.seq (.seq f38r17 (.cond (.tmp 67) f38r18 .skip)) (.seq f38r19 (.seq f38r20 (.seq f38r21 (.exit 1)))))) .skip))) (.seq f38r22 (.seq (.seq f38r23 (.cond (.tmp 98) f38r24 .skip)) f38r25)))))))))))⟩
def f39r0 : ICode := .region [
  ⟨(some 4), .move (.const (.bool false)), none⟩] none
def f39r1 : ICode := .region [
  ⟨(some 7), .move (.tmp 1), none⟩,
  ⟨(some 8), .strToBytes 5 (.tmp 7), none⟩,
  ⟨(some 9), .len 1 (.tmp 8), none⟩,
  ⟨(some 10), .move (.const (.int .i64 (.ofNat 0))), none⟩] none
def f39r2 : ICode := .region [
  ⟨(some 11), .bin .lss (.tmp 10) (.tmp 9), none⟩] none
def f39r3 : ICode := .region [
  ⟨(some 12), .move (.tmp 10), none⟩,
  ⟨(some 13), .indexSl 1 (.tmp 8) (.tmp 10), none⟩,
  ⟨(some 14), .load1 (.tmp 13), none⟩,
  ⟨(some 5), .move (.tmp 12), none⟩,
  ⟨(some 6), .move (.tmp 14), none⟩] none
def f39r4 : ICode := .region [
  ⟨(some 15), .move (.tmp 0), none⟩,
  ⟨(some 16), .move (.tmp 5), none⟩,
  ⟨(some 17), .call 59 [(.tmp 15), (.tmp 16)], none⟩,
  ⟨(some 18), .move (.tmp 6), none⟩,
  ⟨(some 19), .conv .i64 (.tmp 18), none⟩,
  ⟨(some 20), .bin .neq (.tmp 17) (.tmp 19), none⟩] none
def f39r5 : ICode := .region [
  ⟨(some 4), .move (.const (.bool false)), none⟩] none
def f39r6 : ICode := .region [
  ⟨(some 21), .bin .add (.tmp 10) (.const (.int .i64 (.ofNat 1))), none⟩,
  ⟨(some 10), .move (.tmp 21), none⟩] none
def f39r7 : ICode := .region [
  ⟨(some 22), .move (.tmp 0), none⟩,
  ⟨(some 23), .nilCheck (.tmp 22), none⟩,
  ⟨(some 24), .fieldAddr 4 (.tmp 23), none⟩,
  ⟨(some 25), .load1 (.tmp 24), none⟩,
  ⟨(some 26), .move (.tmp 1), none⟩,
  ⟨(some 27), .len 0 (.tmp 26), none⟩,
  ⟨(some 28), .bin .add (.tmp 25) (.tmp 27), none⟩,
  ⟨(some 29), .nilCheck (.tmp 22), none⟩,
  ⟨(some 30), .fieldAddr 4 (.tmp 29), none⟩,
  ⟨none, .store 1 (.tmp 30) (.tmp 28), none⟩] none
def f39r8 : ICode := .region [
  ⟨(some 4), .move (.const (.bool true)), none⟩] none
/- (*ferret/syn.parser).has -/
def f39 : IFn := ⟨31, [.inl 4], (.seq f39r0 (.seq (.seq f39r1 (.block 0 (.loop (.seq f39r2 (.seq (.cond (.tmp 11) .skip (.exit 0)) (.seq (.block 1 (.seq f39r3 (.seq f39r4 (.cond (.tmp 20) (.seq f39r5 .ret) .skip)))) f39r6)))))) (.seq f39r7 (.seq f39r8 .ret))))⟩
def f40r0 : ICode := .region [
  ⟨(some 4), .new [(.int .i64 (.ofNat 0)), (.slice none 0 0), (.bool false), (.int .i64 (.ofNat 0)), (.int .i64 (.ofNat 0)), (.bool false), (.int .i64 (.ofNat 0)), (.string ⟨⟨[]⟩⟩), (.slice none 0 0)] 28, none⟩] none
def f40r1 : ICode := .region [
  ⟨(some 6), .move (.tmp 1), none⟩,
  ⟨(some 7), .len 1 (.tmp 6), none⟩,
  ⟨(some 8), .bin .eql (.tmp 7) (.const (.int .i64 (.ofNat 1))), none⟩,
  ⟨(some 5), .move (.tmp 8), none⟩] none
def f40r2 : ICode := .region [
  ⟨(some 9), .move (.tmp 1), none⟩,
  ⟨(some 10), .indexSl 9 (.tmp 9) (.const (.int .i64 (.ofNat 0))), none⟩,
  ⟨(some 11), .loadN 9 (.tmp 10), none⟩,
  ⟨none, .store 9 (.tmp 4) (.tmp 11), none⟩] none
def f40r3 : ICode := .region [
  ⟨(some 13), .move (.tmp 1), none⟩,
  ⟨(some 14), .len 1 (.tmp 13), none⟩,
  ⟨(some 15), .bin .eql (.tmp 14) (.const (.int .i64 (.ofNat 0))), none⟩,
  ⟨(some 12), .move (.tmp 15), none⟩] none
def f40r4 : ICode := .region [
  ⟨(some 16), .build [(.int .i64 (.ofNat 0)), (.slice none 0 0), (.bool false), (.int .i64 (.ofNat 0)), (.int .i64 (.ofNat 0)), (.bool false), (.int .i64 (.ofNat 0)), (.string ⟨⟨[]⟩⟩), (.slice none 0 0)] [], none⟩,
  ⟨none, .store 9 (.tmp 4) (.tmp 16), none⟩] none
def f40r5 : ICode := .region [
  ⟨(some 17), .move (.tmp 0), none⟩,
  ⟨(some 18), .move (.tmp 1), none⟩,
  ⟨(some 19), .build [(.int .i64 (.ofNat 0)), (.slice none 0 0), (.bool false), (.int .i64 (.ofNat 0)), (.int .i64 (.ofNat 0)), (.bool false), (.int .i64 (.ofNat 0)), (.string ⟨⟨[]⟩⟩), (.slice none 0 0)] [(0, 1, (.tmp 17)), (8, 1, (.tmp 18))], none⟩,
  ⟨none, .store 9 (.tmp 4) (.tmp 19), none⟩] none
/- ferret/syn.whole -/
def f40 : IFn := ⟨20, [.inr (4, (some 9))], (.seq f40r0 (.seq (.block 0 (.seq f40r1 (.cond (.tmp 5) (.seq f40r2 .ret) (.seq f40r3 (.cond (.tmp 12) (.seq f40r4 .ret) .skip))))) (.seq f40r5 .ret)))⟩
def f41r0 : ICode := .region [
  ⟨(some 1), .box 28 (.tmp 0), none⟩,
  ⟨(some 2), .move (.const (.int .i64 (.ofNat 0))), none⟩] none
def f41r1 : ICode := .region [
  ⟨(some 8), .fieldAddr 0 (.tmp 1), none⟩,
  ⟨(some 9), .load1 (.tmp 8), none⟩] none
def f41r2 : ICode := .region [
  ⟨(some 11), .bin .eql (.tmp 9) (.const (.int .i64 (.ofNat 8))), none⟩,
  ⟨(some 10), .move (.tmp 11), none⟩] none
def f41r3 : ICode := .region [
  ⟨(some 12), .bin .eql (.tmp 9) (.const (.int .i64 (.ofNat 9))), none⟩,
  ⟨(some 10), .move (.tmp 12), none⟩] none
def f41r4 : ICode := .region [
  ⟨(some 3), .move (.const (.int .i64 (.ofNat 1))), none⟩] none
def f41r5 : ICode := .region [
  ⟨(some 13), .fieldAddr 8 (.tmp 1), none⟩,
  ⟨(some 14), .load1 (.tmp 13), none⟩,
  ⟨(some 15), .len 1 (.tmp 14), none⟩,
  ⟨(some 16), .move (.const (.int .i64 (.ofNat 0))), none⟩] none
def f41r6 : ICode := .region [
  ⟨(some 17), .bin .lss (.tmp 16) (.tmp 15), none⟩] none
def f41r7 : ICode := .region [
  ⟨(some 18), .indexSl 9 (.tmp 14) (.tmp 16), none⟩,
  ⟨(some 19), .loadN 9 (.tmp 18), none⟩,
  ⟨(some 5), .new [(.int .i64 (.ofNat 0)), (.slice none 0 0), (.bool false), (.int .i64 (.ofNat 0)), (.int .i64 (.ofNat 0)), (.bool false), (.int .i64 (.ofNat 0)), (.string ⟨⟨[]⟩⟩), (.slice none 0 0)] 28, none⟩,
  ⟨none, .store 9 (.tmp 5) (.tmp 19), none⟩] none
def f41r8 : ICode := .region [
  ⟨(some 20), .move (.tmp 3), none⟩,
  ⟨(some 21), .loadN 9 (.tmp 5), none⟩,
  ⟨(some 22), .call 41 [(.tmp 21)], none⟩,
  ⟨(some 23), .bin .add (.tmp 20) (.tmp 22), none⟩,
  ⟨(some 24), .call 63 [(.tmp 23)], none⟩,
  ⟨(some 3), .move (.tmp 24), none⟩] none
def f41r9 : ICode := .region [
  ⟨(some 25), .bin .add (.tmp 16) (.const (.int .i64 (.ofNat 1))), none⟩,
  ⟨(some 16), .move (.tmp 25), none⟩] none
def f41r10 : ICode := .region [
  ⟨(some 26), .move (.tmp 3), none⟩,
  ⟨(some 2), .move (.tmp 26), none⟩] none
def f41r11 : ICode := .region [
  ⟨(some 28), .bin .eql (.tmp 9) (.const (.int .i64 (.ofNat 11))), none⟩,
  ⟨(some 27), .move (.tmp 28), none⟩] none
def f41r12 : ICode := .region [
  ⟨(some 29), .loadN 9 (.tmp 1), none⟩,
  ⟨(some 30), .call 64 [(.tmp 29)], none⟩,
  ⟨(some 31), .call 41 [(.tmp 30)], none⟩,
  ⟨(some 32), .bin .add (.const (.int .i64 (.ofNat 1))) (.tmp 31), none⟩,
  ⟨(some 33), .call 63 [(.tmp 32)], none⟩,
  ⟨(some 2), .move (.tmp 33), none⟩] none
def f41r13 : ICode := .region [
  ⟨(some 35), .bin .eql (.tmp 9) (.const (.int .i64 (.ofNat 10))), none⟩,
  ⟨(some 34), .move (.tmp 35), none⟩] none
def f41r14 : ICode := .region [
  ⟨(some 36), .loadN 9 (.tmp 1), none⟩,
  ⟨(some 37), .call 64 [(.tmp 36)], none⟩,
  ⟨(some 38), .call 41 [(.tmp 37)], none⟩,
  ⟨(some 6), .move (.tmp 38), none⟩] none
def f41r15 : ICode := .region [
  ⟨(some 39), .fieldAddr 3 (.tmp 1), none⟩,
  ⟨(some 40), .load1 (.tmp 39), none⟩,
  ⟨(some 41), .move (.tmp 6), none⟩,
  ⟨(some 42), .bin .mul (.tmp 40) (.tmp 41), none⟩,
  ⟨(some 7), .move (.tmp 42), none⟩] none
def f41r16 : ICode := .region [
  ⟨(some 43), .fieldAddr 4 (.tmp 1), none⟩,
  ⟨(some 44), .load1 (.tmp 43), none⟩,
  ⟨(some 45), .bin .eql (.tmp 44) (.const (.int .i64 (.negSucc 0))), none⟩] none
def f41r17 : ICode := .region [
  ⟨(some 46), .move (.tmp 7), none⟩,
  ⟨(some 47), .move (.tmp 6), none⟩,
  ⟨(some 48), .bin .add (.const (.int .i64 (.ofNat 1))) (.tmp 47), none⟩,
  ⟨(some 49), .bin .add (.tmp 46) (.tmp 48), none⟩,
  ⟨(some 7), .move (.tmp 49), none⟩] none
def f41r18 : ICode := .region [
  ⟨(some 50), .move (.tmp 7), none⟩,
  ⟨(some 51), .fieldAddr 4 (.tmp 1), none⟩,
  ⟨(some 52), .load1 (.tmp 51), none⟩,
  ⟨(some 53), .fieldAddr 3 (.tmp 1), none⟩,
  ⟨(some 54), .load1 (.tmp 53), none⟩,
  ⟨(some 55), .bin .sub (.tmp 52) (.tmp 54), none⟩,
  ⟨(some 56), .move (.tmp 6), none⟩,
  ⟨(some 57), .bin .add (.tmp 56) (.const (.int .i64 (.ofNat 2))), none⟩,
  ⟨(some 58), .bin .mul (.tmp 55) (.tmp 57), none⟩,
  ⟨(some 59), .bin .add (.tmp 50) (.tmp 58), none⟩,
  ⟨(some 7), .move (.tmp 59), none⟩] none
def f41r19 : ICode := .region [
  ⟨(some 60), .move (.tmp 7), none⟩,
  ⟨(some 61), .bin .add (.tmp 60) (.const (.int .i64 (.ofNat 1))), none⟩,
  ⟨(some 62), .call 63 [(.tmp 61)], none⟩,
  ⟨(some 2), .move (.tmp 62), none⟩] none
def f41r20 : ICode := .region [
  ⟨(some 2), .move (.const (.int .i64 (.ofNat 1))), none⟩] none
/- ferret/simple.Count -/
def f41 : IFn := ⟨63, [.inl 2], (.seq f41r0 (.seq (.seq f41r1 (.block 0 (.seq (.seq f41r2 (.cond (.tmp 10) .skip f41r3)) (.cond (.tmp 10) (.seq f41r4 (.seq (.seq f41r5 (.block 1 (.loop (.seq f41r6 (.seq (.cond (.tmp 17) .skip (.exit 1)) (.seq (.block 2 (.seq f41r7 f41r8)) f41r9)))))) (.seq f41r10 .ret))) (.seq f41r11 (.cond (.tmp 27) (.seq f41r12 .ret) (.seq f41r13 (.cond (.tmp 34) (.seq f41r14 (.seq f41r15 (.seq (.seq f41r16 (.cond (.tmp 45) f41r17 f41r18)) (.seq f41r19 .ret)))) .skip)))))))) (.seq f41r20 .ret)))⟩
def f42r0 : ICode := .region [
  ⟨(some 1), .box 28 (.tmp 0), none⟩,
  ⟨(some 2), .new [(.int .i64 (.ofNat 0)), (.slice none 0 0), (.bool false), (.int .i64 (.ofNat 0)), (.int .i64 (.ofNat 0)), (.bool false), (.int .i64 (.ofNat 0)), (.string ⟨⟨[]⟩⟩), (.slice none 0 0)] 28, none⟩] none
def f42r1 : ICode := .region [
  ⟨(some 6), .fieldAddr 0 (.tmp 1), none⟩,
  ⟨(some 7), .load1 (.tmp 6), none⟩,
  ⟨(some 8), .bin .eql (.tmp 7) (.const (.int .i64 (.ofNat 10))), none⟩,
  ⟨(some 9), .move (.tmp 8), none⟩,
  ⟨(some 10), .fieldAddr 3 (.tmp 1), (some ((some 9), true))⟩,
  ⟨(some 11), .load1 (.tmp 10), (some ((some 9), true))⟩,
  ⟨(some 12), .bin .eql (.tmp 11) (.const (.int .i64 (.ofNat 0))), (some ((some 9), true))⟩,
  ⟨(some 13), .pick (.tmp 9) (.tmp 12) (.const (.bool false)), none⟩,
  ⟨(some 14), .move (.tmp 13), none⟩,
  ⟨(some 15), .fieldAddr 4 (.tmp 1), (some ((some 14), true))⟩,
  ⟨(some 16), .load1 (.tmp 15), (some ((some 14), true))⟩,
  ⟨(some 17), .bin .eql (.tmp 16) (.const (.int .i64 (.ofNat 0))), (some ((some 14), true))⟩,
  ⟨(some 18), .pick (.tmp 14) (.tmp 17) (.const (.bool false)), none⟩] none
def f42r2 : ICode := .region [
  ⟨(some 19), .build [(.int .i64 (.ofNat 0)), (.slice none 0 0), (.bool false), (.int .i64 (.ofNat 0)), (.int .i64 (.ofNat 0)), (.bool false), (.int .i64 (.ofNat 0)), (.string ⟨⟨[]⟩⟩), (.slice none 0 0)] [], none⟩,
  ⟨none, .store 9 (.tmp 2) (.tmp 19), none⟩] none
def f42r3 : ICode := .region [
  ⟨(some 3), .move (.const (.slice none 0 0)), none⟩] none
def f42r4 : ICode := .region [
  ⟨(some 20), .fieldAddr 8 (.tmp 1), none⟩,
  ⟨(some 21), .load1 (.tmp 20), none⟩,
  ⟨(some 22), .len 1 (.tmp 21), none⟩,
  ⟨(some 23), .move (.const (.int .i64 (.ofNat 0))), none⟩] none
def f42r5 : ICode := .region [
  ⟨(some 24), .bin .lss (.tmp 23) (.tmp 22), none⟩] none
def f42r6 : ICode := .region [
  ⟨(some 25), .indexSl 9 (.tmp 21) (.tmp 23), none⟩,
  ⟨(some 26), .loadN 9 (.tmp 25), none⟩,
  ⟨(some 5), .new [(.int .i64 (.ofNat 0)), (.slice none 0 0), (.bool false), (.int .i64 (.ofNat 0)), (.int .i64 (.ofNat 0)), (.bool false), (.int .i64 (.ofNat 0)), (.string ⟨⟨[]⟩⟩), (.slice none 0 0)] 28, none⟩,
  ⟨none, .store 9 (.tmp 5) (.tmp 26), none⟩] none
def f42r7 : ICode := .region [
  ⟨(some 27), .move (.tmp 3), none⟩,
  ⟨(some 28), .loadN 9 (.tmp 5), none⟩,
  ⟨(some 29), .call 42 [(.tmp 28)], none⟩,
  ⟨(some 30), .buildSlice 28 1 [(.int .i64 (.ofNat 0)), (.slice none 0 0), (.bool false), (.int .i64 (.ofNat 0)), (.int .i64 (.ofNat 0)), (.bool false), (.int .i64 (.ofNat 0)), (.string ⟨⟨[]⟩⟩), (.slice none 0 0)] [(0, 9, (.tmp 29))], none⟩,
  ⟨(some 31), .append 28 9 112 (.tmp 27) (.tmp 30), none⟩,
  ⟨(some 3), .move (.tmp 31), none⟩] none
def f42r8 : ICode := .region [
  ⟨(some 32), .bin .add (.tmp 23) (.const (.int .i64 (.ofNat 1))), none⟩,
  ⟨(some 23), .move (.tmp 32), none⟩] none
def f42r9 : ICode := .region [
  ⟨(some 33), .fieldAddr 0 (.tmp 1), none⟩,
  ⟨(some 34), .load1 (.tmp 33), none⟩] none
def f42r10 : ICode := .region [
  ⟨(some 36), .bin .eql (.tmp 34) (.const (.int .i64 (.ofNat 1))), none⟩,
  ⟨(some 35), .move (.tmp 36), none⟩] none
def f42r11 : ICode := .region [
  ⟨(some 37), .fieldAddr 2 (.tmp 1), none⟩,
  ⟨(some 38), .load1 (.tmp 37), none⟩] none
def f42r12 : ICode := .region [
  ⟨(some 39), .fieldAddr 1 (.tmp 1), none⟩,
  ⟨(some 40), .load1 (.tmp 39), none⟩,
  ⟨(some 41), .call 65 [(.tmp 40)], none⟩,
  ⟨(some 42), .fieldAddr 1 (.tmp 1), none⟩,
  ⟨none, .store 1 (.tmp 42) (.tmp 41), none⟩] none
def f42r13 : ICode := .region [
  ⟨(some 43), .fieldAddr 2 (.tmp 1), none⟩,
  ⟨none, .store 1 (.tmp 43) (.const (.bool false)), none⟩] none
def f42r14 : ICode := .region [
  ⟨(some 44), .fieldAddr 1 (.tmp 1), none⟩,
  ⟨(some 45), .load1 (.tmp 44), none⟩,
  ⟨(some 46), .build [(.int .i64 (.ofNat 0)), (.int .i64 (.ofNat 0))] [(0, 1, (.const (.int .i64 (.ofNat 55296)))), (1, 1, (.const (.int .i64 (.ofNat 57343))))], none⟩,
  ⟨(some 47), .buildSlice 53 1 [(.int .i64 (.ofNat 0)), (.int .i64 (.ofNat 0))] [(0, 2, (.tmp 46))], none⟩,
  ⟨(some 48), .call 67 [(.tmp 47)], none⟩,
  ⟨(some 49), .call 66 [(.tmp 45), (.tmp 48)], none⟩,
  ⟨(some 50), .fieldAddr 1 (.tmp 1), none⟩,
  ⟨none, .store 1 (.tmp 50) (.tmp 49), none⟩] (some ⟨[], [(1, 4)]⟩)
def f42r15 : ICode := .region [
  ⟨(some 51), .loadN 9 (.tmp 1), none⟩,
  ⟨none, .store 9 (.tmp 2) (.tmp 51), none⟩] none
def f42r16 : ICode := .region [
  ⟨(some 53), .bin .eql (.tmp 34) (.const (.int .i64 (.ofNat 8))), none⟩,
  ⟨(some 52), .move (.tmp 53), none⟩] none
def f42r17 : ICode := .region [
  ⟨(some 54), .move (.tmp 3), none⟩,
  ⟨(some 55), .call 68 [(.tmp 54)], none⟩,
  ⟨none, .store 9 (.tmp 2) (.tmp 55), none⟩] none
def f42r18 : ICode := .region [
  ⟨(some 57), .bin .eql (.tmp 34) (.const (.int .i64 (.ofNat 9))), none⟩,
  ⟨(some 56), .move (.tmp 57), none⟩] none
def f42r19 : ICode := .region [
  ⟨(some 58), .move (.tmp 3), none⟩,
  ⟨(some 59), .call 70 [(.tmp 58), (.const (.int .i64 (.ofNat 9)))], none⟩,
  ⟨(some 60), .call 69 [(.const (.int .i64 (.ofNat 9))), (.tmp 59)], none⟩,
  ⟨none, .store 9 (.tmp 2) (.tmp 60), none⟩] none
def f42r20 : ICode := .region [
  ⟨(some 62), .bin .eql (.tmp 34) (.const (.int .i64 (.ofNat 10))), none⟩,
  ⟨(some 61), .move (.tmp 62), none⟩] none
def f42r21 : ICode := .region [
  ⟨(some 63), .loadN 9 (.tmp 1), none⟩,
  ⟨(some 64), .move (.tmp 3), none⟩,
  ⟨(some 65), .build [(.int .i64 (.ofNat 0)), (.slice none 0 0), (.bool false), (.int .i64 (.ofNat 0)), (.int .i64 (.ofNat 0)), (.bool false), (.int .i64 (.ofNat 0)), (.string ⟨⟨[]⟩⟩), (.slice none 0 0)] [(8, 1, (.tmp 64))], none⟩,
  ⟨(some 66), .call 64 [(.tmp 65)], none⟩,
  ⟨(some 67), .call 71 [(.tmp 63), (.tmp 66)], none⟩,
  ⟨none, .store 9 (.tmp 2) (.tmp 67), none⟩] (some ⟨[], [(0, 3)]⟩)
def f42r22 : ICode := .region [
  ⟨(some 68), .move (.tmp 3), none⟩,
  ⟨(some 69), .fieldAddr 8 (.tmp 1), none⟩,
  ⟨none, .store 1 (.tmp 69) (.tmp 68), none⟩] none
def f42r23 : ICode := .region [
  ⟨(some 70), .loadN 9 (.tmp 1), none⟩,
  ⟨none, .store 9 (.tmp 2) (.tmp 70), none⟩] none
/- ferret/simple.made -/
def f42 : IFn := ⟨71, [.inr (2, (some 9))], (.seq f42r0 (.seq (.seq f42r1 (.cond (.tmp 18) (.seq f42r2 .ret) .skip)) (.seq f42r3 (.seq (.seq f42r4 (.block 0 (.loop (.seq f42r5 (.seq (.cond (.tmp 24) .skip (.exit 0)) (.seq (.block 1 (.seq f42r6 f42r7)) f42r8)))))) (.seq (.seq f42r9 (.block 2 (.seq f42r10 (.cond (.tmp 35) (.seq (.seq f42r11 (.cond (.tmp 38) f42r12 .skip)) (.seq f42r13 (.seq f42r14 (.seq f42r15 .ret)))) (.seq f42r16 (.cond (.tmp 52) (.seq f42r17 .ret) (.seq f42r18 (.cond (.tmp 56) (.seq f42r19 .ret) (.seq f42r20 (.cond (.tmp 61) (.seq f42r21 .ret) .skip)))))))))) (.seq f42r22 (.seq f42r23 .ret)))))))⟩
def f43r0 : ICode := .region [
  ⟨(some 2), .box 73 (.tmp 0), none⟩,
  ⟨(some 3), .box 28 (.tmp 1), none⟩] none
def f43r1 : ICode := .region [
  ⟨(some 6), .fieldAddr 1 (.tmp 3), none⟩,
  ⟨(some 7), .load1 (.tmp 6), none⟩,
  ⟨(some 8), .call 7 [(.tmp 7)], none⟩,
  ⟨(some 4), .new [(.slice none 0 0)] 22, none⟩,
  ⟨none, .store 1 (.tmp 4) (.tmp 8), none⟩] none
def f43r2 : ICode := .region [
  ⟨(some 9), .load1 (.tmp 4), none⟩,
  ⟨(some 10), .len 1 (.tmp 9), none⟩,
  ⟨(some 11), .bin .eql (.tmp 10) (.const (.int .i64 (.ofNat 0))), none⟩] none
def f43r3 : ICode := .region [
  ⟨(some 12), .load1 (.tmp 2), none⟩,
  ⟨(some 13), .build [(.int .i64 (.ofNat 0)), (.int .i64 (.ofNat 0)), (.int .i64 (.ofNat 0)), (.int .i64 (.ofNat 0)), (.int .i64 (.ofNat 0))] [(0, 1, (.const (.int .i64 (.ofNat 6))))], none⟩,
  ⟨(some 14), .call 23 [(.tmp 12), (.tmp 13)], none⟩,
  ⟨(some 5), .move (.tmp 14), none⟩] none
def f43r4 : ICode := .region [
  ⟨(some 15), .load1 (.tmp 2), none⟩,
  ⟨(some 16), .nilCheck (.tmp 15), none⟩,
  ⟨(some 17), .fieldAddr 0 (.tmp 16), none⟩,
  ⟨(some 18), .load1 (.tmp 17), none⟩,
  ⟨(some 19), .move (.tmp 5), none⟩,
  ⟨(some 20), .indexSl 5 (.tmp 18) (.tmp 19), none⟩,
  ⟨(some 21), .fieldAddr 1 (.tmp 20), none⟩,
  ⟨none, .store 1 (.tmp 21) (.const (.int .i64 (.ofNat 0))), none⟩] none
def f43r5 : ICode := .region [
  ⟨(some 22), .load1 (.tmp 2), none⟩,
  ⟨(some 23), .load1 (.tmp 4), none⟩,
  ⟨(some 24), .len 1 (.tmp 23), none⟩,
  ⟨(some 25), .mkFunc (.func 72) [] [(.tmp 4), (.tmp 2)], none⟩,
  ⟨(some 26), .call 44 [(.tmp 22), (.tmp 24), (.tmp 25)], none⟩] none
/- (*ferret/prog.compiler).class -/
def f43 : IFn := ⟨27, [], (.seq f43r0 (.seq f43r1 (.seq (.seq f43r2 (.cond (.tmp 11) (.seq f43r3 f43r4) .skip)) f43r5)))⟩
def f45r0 : ICode := .region [
  ⟨(some 4), .load1 (.tmp 1), none⟩,
  ⟨(some 5), .fieldAddr 8 (.tmp 2), none⟩,
  ⟨(some 6), .load1 (.tmp 5), none⟩,
  ⟨(some 7), .move (.tmp 0), none⟩,
  ⟨(some 8), .indexSl 9 (.tmp 6) (.tmp 7), none⟩,
  ⟨(some 9), .loadN 9 (.tmp 8), none⟩,
  ⟨(some 10), .call 24 [(.tmp 4), (.tmp 9)], none⟩] (some ⟨[], []⟩)
/- (*ferret/prog.compiler).node$1 -/
def f45 : IFn := ⟨11, [], f45r0⟩
def f44r0 : ICode := .region [
  ⟨(some 6), .move (.const (.slice none 0 0)), none⟩] none
def f44r1 : ICode := .region [
  ⟨(some 11), .move (.tmp 1), none⟩,
  ⟨(some 12), .move (.const (.int .i64 (.ofNat 0))), none⟩] none
def f44r2 : ICode := .region [
  ⟨(some 13), .bin .lss (.tmp 12) (.tmp 11), none⟩] none
def f44r3 : ICode := .region [
  ⟨(some 14), .move (.tmp 12), none⟩,
  ⟨(some 7), .move (.tmp 14), none⟩] none
def f44r4 : ICode := .region [
  ⟨(some 15), .move (.tmp 7), none⟩,
  ⟨(some 16), .move (.tmp 1), none⟩,
  ⟨(some 17), .bin .sub (.tmp 16) (.const (.int .i64 (.ofNat 1))), none⟩,
  ⟨(some 18), .bin .eql (.tmp 15) (.tmp 17), none⟩] none
def f44r5 : ICode := .region [
  ⟨(some 19), .move (.tmp 2), none⟩,
  ⟨(some 20), .move (.tmp 7), none⟩,
  ⟨(some 21), .callv (.tmp 19) [(.tmp 20)], none⟩] none
def f44r6 : ICode := .region [
  ⟨(some 22), .move (.tmp 0), none⟩,
  ⟨(some 23), .build [(.int .i64 (.ofNat 0)), (.int .i64 (.ofNat 0)), (.int .i64 (.ofNat 0)), (.int .i64 (.ofNat 0)), (.int .i64 (.ofNat 0))] [(0, 1, (.const (.int .i64 (.ofNat 1))))], none⟩,
  ⟨(some 24), .call 23 [(.tmp 22), (.tmp 23)], none⟩,
  ⟨(some 8), .move (.tmp 24), none⟩] none
def f44r7 : ICode := .region [
  ⟨(some 25), .move (.tmp 2), none⟩,
  ⟨(some 26), .move (.tmp 7), none⟩,
  ⟨(some 27), .callv (.tmp 25) [(.tmp 26)], none⟩] none
def f44r8 : ICode := .region [
  ⟨(some 28), .move (.tmp 6), none⟩,
  ⟨(some 29), .move (.tmp 0), none⟩,
  ⟨(some 30), .build [(.int .i64 (.ofNat 0)), (.int .i64 (.ofNat 0)), (.int .i64 (.ofNat 0)), (.int .i64 (.ofNat 0)), (.int .i64 (.ofNat 0))] [(0, 1, (.const (.int .i64 (.ofNat 2))))], none⟩,
  ⟨(some 31), .call 23 [(.tmp 29), (.tmp 30)], none⟩,
  ⟨(some 32), .buildSlice 3 1 [(.int .i64 (.ofNat 0))] [(0, 1, (.tmp 31))], none⟩,
  ⟨(some 33), .append 3 1 8 (.tmp 28) (.tmp 32), none⟩,
  ⟨(some 6), .move (.tmp 33), none⟩] none
def f44r9 : ICode := .region [
  ⟨(some 34), .move (.tmp 0), none⟩,
  ⟨(some 35), .nilCheck (.tmp 34), none⟩,
  ⟨(some 36), .fieldAddr 1 (.tmp 35), none⟩,
  ⟨(some 37), .load1 (.tmp 36), none⟩,
  ⟨(some 38), .un .not (.tmp 37), none⟩] none
def f44r10 : ICode := .region [
  ⟨(some 39), .move (.tmp 0), none⟩,
  ⟨(some 40), .nilCheck (.tmp 39), none⟩,
  ⟨(some 41), .fieldAddr 0 (.tmp 40), none⟩,
  ⟨(some 42), .load1 (.tmp 41), none⟩,
  ⟨(some 43), .move (.tmp 8), none⟩,
  ⟨(some 44), .move (.tmp 0), none⟩,
  ⟨(some 45), .nilCheck (.tmp 44), none⟩,
  ⟨(some 46), .fieldAddr 0 (.tmp 45), none⟩,
  ⟨(some 47), .load1 (.tmp 46), none⟩,
  ⟨(some 48), .len 1 (.tmp 47), none⟩,
  ⟨(some 49), .indexSl 5 (.tmp 42) (.tmp 43), none⟩,
  ⟨(some 50), .fieldAddr 2 (.tmp 49), none⟩,
  ⟨none, .store 1 (.tmp 50) (.tmp 48), none⟩] (some ⟨[], []⟩)
def f44r11 : ICode := .region [
  ⟨(some 51), .bin .add (.tmp 12) (.const (.int .i64 (.ofNat 1))), none⟩,
  ⟨(some 12), .move (.tmp 51), none⟩] none
def f44r12 : ICode := .region [
  ⟨(some 52), .move (.tmp 6), none⟩,
  ⟨(some 53), .len 1 (.tmp 52), none⟩,
  ⟨(some 54), .move (.const (.int .i64 (.ofNat 0))), none⟩] none
def f44r13 : ICode := .region [
  ⟨(some 55), .bin .lss (.tmp 54) (.tmp 53), none⟩] none
def f44r14 : ICode := .region [
  ⟨(some 56), .indexSl 1 (.tmp 52) (.tmp 54), none⟩,
  ⟨(some 57), .load1 (.tmp 56), none⟩,
  ⟨(some 10), .move (.tmp 57), none⟩] none
def f44r15 : ICode := .region [
  ⟨(some 58), .move (.tmp 0), none⟩,
  ⟨(some 59), .nilCheck (.tmp 58), none⟩,
  ⟨(some 60), .fieldAddr 1 (.tmp 59), none⟩,
  ⟨(some 61), .load1 (.tmp 60), none⟩,
  ⟨(some 62), .un .not (.tmp 61), none⟩] none
def f44r16 : ICode := .region [
  ⟨(some 63), .move (.tmp 0), none⟩,
  ⟨(some 64), .nilCheck (.tmp 63), none⟩,
  ⟨(some 65), .fieldAddr 0 (.tmp 64), none⟩,
  ⟨(some 66), .load1 (.tmp 65), none⟩,
  ⟨(some 67), .move (.tmp 10), none⟩,
  ⟨(some 68), .move (.tmp 0), none⟩,
  ⟨(some 69), .nilCheck (.tmp 68), none⟩,
  ⟨(some 70), .fieldAddr 0 (.tmp 69), none⟩,
  ⟨(some 71), .load1 (.tmp 70), none⟩,
  ⟨(some 72), .len 1 (.tmp 71), none⟩,
  ⟨(some 73), .indexSl 5 (.tmp 66) (.tmp 67), none⟩,
  ⟨(some 74), .fieldAddr 1 (.tmp 73), none⟩,
  ⟨none, .store 1 (.tmp 74) (.tmp 72), none⟩] (some ⟨[], []⟩)
def f44r17 : ICode := .region [
  ⟨(some 75), .bin .add (.tmp 54) (.const (.int .i64 (.ofNat 1))), none⟩,
  ⟨(some 54), .move (.tmp 75), none⟩] none
/- (*ferret/prog.compiler).alternatives -/
def f44 : IFn := ⟨76, [], (.seq f44r0 (.seq (.seq f44r1 (.block 0 (.loop (.seq f44r2 (.seq (.cond (.tmp 13) .skip (.exit 0)) (.seq (.block 1 (.seq f44r3 (.seq (.seq f44r4 (.cond (.tmp 18) (.seq f44r5 (.exit 0)) .skip)) (.seq f44r6 (.seq f44r7 (.seq f44r8 (.seq f44r9 (.cond (.tmp 38) f44r10 .skip)))))))) f44r11)))))) (.seq f44r12 (.block 2 (.loop (.seq f44r13 (.seq (.cond (.tmp 55) .skip (.exit 2)) (.seq (.block 3 (.seq f44r14 (.seq f44r15 (.cond (.tmp 62) f44r16 .skip)))) f44r17))))))))⟩
def f46r0 : ICode := .region [
  ⟨(some 3), .box 28 (.tmp 1), none⟩] none
def f46r1 : ICode := .region [
  ⟨(some 6), .move (.tmp 0), none⟩,
  ⟨(some 7), .build [(.int .i64 (.ofNat 0)), (.int .i64 (.ofNat 0)), (.int .i64 (.ofNat 0)), (.int .i64 (.ofNat 0)), (.int .i64 (.ofNat 0))] [(0, 1, (.const (.int .i64 (.ofNat 1))))], none⟩,
  ⟨(some 8), .call 23 [(.tmp 6), (.tmp 7)], none⟩,
  ⟨(some 4), .move (.tmp 8), none⟩] none
def f46r2 : ICode := .region [
  ⟨(some 9), .move (.tmp 0), none⟩,
  ⟨(some 10), .fieldAddr 8 (.tmp 3), none⟩,
  ⟨(some 11), .load1 (.tmp 10), none⟩,
  ⟨(some 12), .indexSl 9 (.tmp 11) (.const (.int .i64 (.ofNat 0))), none⟩,
  ⟨(some 13), .loadN 9 (.tmp 12), none⟩,
  ⟨(some 14), .call 24 [(.tmp 9), (.tmp 13)], none⟩] none
def f46r3 : ICode := .region [
  ⟨(some 15), .fieldAddr 4 (.tmp 3), none⟩,
  ⟨(some 16), .load1 (.tmp 15), none⟩,
  ⟨(some 17), .bin .eql (.tmp 16) (.const (.int .i64 (.negSucc 0))), none⟩] none
def f46r4 : ICode := .region [
  ⟨(some 18), .move (.tmp 0), none⟩,
  ⟨(some 19), .build [(.int .i64 (.ofNat 0)), (.int .i64 (.ofNat 0)), (.int .i64 (.ofNat 0)), (.int .i64 (.ofNat 0)), (.int .i64 (.ofNat 0))] [(0, 1, (.const (.int .i64 (.ofNat 2))))], none⟩,
  ⟨(some 20), .call 23 [(.tmp 18), (.tmp 19)], none⟩,
  ⟨(some 5), .move (.tmp 20), none⟩] none
def f46r5 : ICode := .region [
  ⟨(some 21), .move (.tmp 0), none⟩,
  ⟨(some 22), .nilCheck (.tmp 21), none⟩,
  ⟨(some 23), .fieldAddr 0 (.tmp 22), none⟩,
  ⟨(some 24), .load1 (.tmp 23), none⟩,
  ⟨(some 25), .move (.tmp 5), none⟩,
  ⟨(some 26), .move (.tmp 4), none⟩,
  ⟨(some 27), .indexSl 5 (.tmp 24) (.tmp 25), none⟩,
  ⟨(some 28), .fieldAddr 1 (.tmp 27), none⟩,
  ⟨none, .store 1 (.tmp 28) (.tmp 26), none⟩] none
def f46r6 : ICode := .region [
  ⟨(some 29), .move (.tmp 0), none⟩,
  ⟨(some 30), .nilCheck (.tmp 29), none⟩,
  ⟨(some 31), .fieldAddr 1 (.tmp 30), none⟩,
  ⟨(some 32), .load1 (.tmp 31), none⟩] none
def f46r7 : ICode := .region [
  ⟨(some 33), .move (.tmp 0), none⟩,
  ⟨(some 34), .nilCheck (.tmp 33), none⟩,
  ⟨(some 35), .fieldAddr 0 (.tmp 34), none⟩,
  ⟨(some 36), .load1 (.tmp 35), none⟩,
  ⟨(some 37), .move (.tmp 4), none⟩,
  ⟨(some 38), .move (.tmp 0), none⟩,
  ⟨(some 39), .nilCheck (.tmp 38), none⟩,
  ⟨(some 40), .fieldAddr 0 (.tmp 39), none⟩,
  ⟨(some 41), .load1 (.tmp 40), none⟩,
  ⟨(some 42), .len 1 (.tmp 41), none⟩,
  ⟨(some 43), .indexSl 5 (.tmp 36) (.tmp 37), none⟩,
  ⟨(some 44), .fieldAddr 2 (.tmp 43), none⟩,
  ⟨none, .store 1 (.tmp 44) (.tmp 42), none⟩] (some ⟨[], []⟩)
def f46r8 : ICode := .region [
  ⟨(some 45), .fieldAddr 5 (.tmp 3), none⟩,
  ⟨(some 46), .load1 (.tmp 45), none⟩] none
def f46r9 : ICode := .region [
  ⟨(some 47), .move (.tmp 0), none⟩,
  ⟨(some 48), .nilCheck (.tmp 47), none⟩,
  ⟨(some 49), .fieldAddr 0 (.tmp 48), none⟩,
  ⟨(some 50), .load1 (.tmp 49), none⟩,
  ⟨(some 51), .move (.tmp 4), none⟩,
  ⟨(some 52), .move (.tmp 0), none⟩,
  ⟨(some 53), .nilCheck (.tmp 52), none⟩,
  ⟨(some 54), .fieldAddr 0 (.tmp 53), none⟩,
  ⟨(some 55), .load1 (.tmp 54), none⟩,
  ⟨(some 56), .move (.tmp 4), none⟩,
  ⟨(some 57), .move (.tmp 0), none⟩,
  ⟨(some 58), .nilCheck (.tmp 57), none⟩,
  ⟨(some 59), .fieldAddr 0 (.tmp 58), none⟩,
  ⟨(some 60), .load1 (.tmp 59), none⟩,
  ⟨(some 61), .move (.tmp 4), none⟩,
  ⟨(some 62), .indexSl 5 (.tmp 60) (.tmp 61), none⟩,
  ⟨(some 63), .fieldAddr 2 (.tmp 62), none⟩,
  ⟨(some 64), .load1 (.tmp 63), none⟩,
  ⟨(some 65), .move (.tmp 0), none⟩,
  ⟨(some 66), .nilCheck (.tmp 65), none⟩,
  ⟨(some 67), .fieldAddr 0 (.tmp 66), none⟩,
  ⟨(some 68), .load1 (.tmp 67), none⟩,
  ⟨(some 69), .move (.tmp 4), none⟩,
  ⟨(some 70), .indexSl 5 (.tmp 68) (.tmp 69), none⟩,
  ⟨(some 71), .fieldAddr 1 (.tmp 70), none⟩,
  ⟨(some 72), .load1 (.tmp 71), none⟩,
  ⟨(some 73), .indexSl 5 (.tmp 50) (.tmp 51), none⟩,
  ⟨(some 74), .fieldAddr 1 (.tmp 73), none⟩,
  ⟨none, .store 1 (.tmp 74) (.tmp 64), none⟩,
  ⟨(some 75), .indexSl 5 (.tmp 55) (.tmp 56), none⟩,
  ⟨(some 76), .fieldAddr 2 (.tmp 75), none⟩,
  ⟨none, .store 1 (.tmp 76) (.tmp 72), none⟩] (some ⟨[], []⟩)
/- (*ferret/prog.compiler).repeat -/
def f46 : IFn := ⟨77, [], (.seq f46r0 (.seq f46r1 (.seq f46r2 (.seq (.seq f46r3 (.cond (.tmp 17) (.seq f46r4 f46r5) .skip)) (.seq (.seq f46r6 (.cond (.tmp 32) .ret .skip)) (.seq f46r7 (.seq f46r8 (.cond (.tmp 46) f46r9 .skip))))))))⟩
def f47r0 : ICode := .region [
  ⟨(some 4), .move (.const (.int .i64 (.ofNat 0))), none⟩] none
def f47r1 : ICode := .region [
  ⟨(some 6), .move (.tmp 0), none⟩,
  ⟨(some 7), .len 1 (.tmp 6), none⟩,
  ⟨(some 8), .move (.const (.int .i64 (.ofNat 0))), none⟩] none
def f47r2 : ICode := .region [
  ⟨(some 9), .bin .lss (.tmp 8) (.tmp 7), none⟩] none
def f47r3 : ICode := .region [
  ⟨(some 10), .move (.tmp 8), none⟩,
  ⟨(some 5), .move (.tmp 10), none⟩] none
def f47r4 : ICode := .region [
  ⟨(some 11), .move (.tmp 1), none⟩,
  ⟨(some 12), .move (.tmp 0), none⟩,
  ⟨(some 13), .move (.tmp 5), none⟩,
  ⟨(some 14), .indexSl 1 (.tmp 12) (.tmp 13), none⟩,
  ⟨(some 15), .load1 (.tmp 14), none⟩,
  ⟨(some 16), .bin .eql (.tmp 11) (.tmp 15), none⟩] none
def f47r5 : ICode := .region [
  ⟨(some 17), .move (.tmp 5), none⟩,
  ⟨(some 4), .move (.tmp 17), none⟩] none
def f47r6 : ICode := .region [
  ⟨(some 18), .bin .add (.tmp 8) (.const (.int .i64 (.ofNat 1))), none⟩,
  ⟨(some 8), .move (.tmp 18), none⟩] none
def f47r7 : ICode := .region [
  ⟨(some 4), .move (.const (.int .i64 (.negSucc 0))), none⟩] none
/- slices.Index[[]int,int] -/
def f47 : IFn := ⟨19, [.inl 4], (.seq f47r0 (.seq (.seq f47r1 (.block 0 (.loop (.seq f47r2 (.seq (.cond (.tmp 9) .skip (.exit 0)) (.seq (.block 1 (.seq f47r3 (.seq f47r4 (.cond (.tmp 16) (.seq f47r5 .ret) .skip)))) f47r6)))))) (.seq f47r7 .ret)))⟩
def f49r0 : ICode := .region [
  ⟨(some 2), .move (.const (.string ⟨⟨[]⟩⟩)), none⟩] none
def f49r1 : ICode := .region [
  ⟨(some 3), .move (.tmp 0), none⟩,
  ⟨(some 4), .call 74 [(.tmp 3)], none⟩,
  ⟨(some 2), .move (.tmp 4), none⟩] none
/- strconv.Itoa -/
def f49 : IFn := ⟨5, [.inl 2], (.seq f49r0 (.seq f49r1 .ret))⟩
def f48r0 : ICode := .region [
  ⟨(some 4), .move (.const (.int .i64 (.ofNat 0))), none⟩,
  ⟨(some 5), .move (.const .nilIface), none⟩] none
def f48r1 : ICode := .region [
  ⟨(some 6), .move (.tmp 0), none⟩,
  ⟨(some 7), .call 73 [(.tmp 6)], none⟩] none
def f48r2 : ICode := .region [
  ⟨(some 8), .move (.tmp 0), none⟩,
  ⟨(some 9), .move (.tmp 0), none⟩,
  ⟨(some 10), .nilCheck (.tmp 9), none⟩,
  ⟨(some 11), .fieldAddr 1 (.tmp 10), none⟩,
  ⟨(some 12), .load1 (.tmp 11), none⟩,
  ⟨(some 13), .move (.tmp 1), none⟩,
  ⟨(some 14), .append 5 1 1 (.tmp 12) (.tmp 13), none⟩,
  ⟨(some 15), .nilCheck (.tmp 8), none⟩,
  ⟨(some 16), .fieldAddr 1 (.tmp 15), none⟩,
  ⟨none, .store 1 (.tmp 16) (.tmp 14), none⟩] none
def f48r3 : ICode := .region [
  ⟨(some 17), .move (.tmp 1), none⟩,
  ⟨(some 18), .len 0 (.tmp 17), none⟩,
  ⟨(some 4), .move (.tmp 18), none⟩,
  ⟨(some 5), .move (.const .nilIface), none⟩] none
/- (*strings.Builder).WriteString -/
def f48 : IFn := ⟨19, [.inl 4, .inl 5], (.seq f48r0 (.seq f48r1 (.seq f48r2 (.seq f48r3 .ret))))⟩
def f50r0 : ICode := .region [
  ⟨(some 4), .move (.const .nilIface), none⟩] none
def f50r1 : ICode := .region [
  ⟨(some 5), .move (.tmp 0), none⟩,
  ⟨(some 6), .call 73 [(.tmp 5)], none⟩] none
def f50r2 : ICode := .region [
  ⟨(some 7), .move (.tmp 0), none⟩,
  ⟨(some 8), .move (.tmp 0), none⟩,
  ⟨(some 9), .nilCheck (.tmp 8), none⟩,
  ⟨(some 10), .fieldAddr 1 (.tmp 9), none⟩,
  ⟨(some 11), .load1 (.tmp 10), none⟩,
  ⟨(some 12), .move (.tmp 1), none⟩,
  ⟨(some 13), .buildSlice 5 1 [(.int .u8 (.ofNat 0))] [(0, 1, (.tmp 12))], none⟩,
  ⟨(some 14), .append 5 1 1 (.tmp 11) (.tmp 13), none⟩,
  ⟨(some 15), .nilCheck (.tmp 7), none⟩,
  ⟨(some 16), .fieldAddr 1 (.tmp 15), none⟩,
  ⟨none, .store 1 (.tmp 16) (.tmp 14), none⟩] none
def f50r3 : ICode := .region [
  ⟨(some 4), .move (.const .nilIface), none⟩] none
/- (*strings.Builder).WriteByte -/
def f50 : IFn := ⟨17, [.inl 4], (.seq f50r0 (.seq f50r1 (.seq f50r2 (.seq f50r3 .ret))))⟩
def f51r0 : ICode := .region [
  ⟨(some 2), .move (.const (.string ⟨⟨[]⟩⟩)), none⟩] none
def f51r1 : ICode := .region [
  ⟨(some 3), .move (.tmp 0), none⟩,
  ⟨(some 4), .nilCheck (.tmp 3), none⟩,
  ⟨(some 5), .fieldAddr 1 (.tmp 4), none⟩,
  ⟨(some 6), .load1 (.tmp 5), none⟩,
  ⟨(some 7), .unsafeData (.tmp 6), none⟩,
  ⟨(some 8), .move (.tmp 0), none⟩,
  ⟨(some 9), .nilCheck (.tmp 8), none⟩,
  ⟨(some 10), .fieldAddr 1 (.tmp 9), none⟩,
  ⟨(some 11), .load1 (.tmp 10), none⟩,
  ⟨(some 12), .len 1 (.tmp 11), none⟩,
  ⟨(some 13), .unsafeStr 5 (.tmp 7) (.tmp 12), none⟩,
  ⟨(some 2), .move (.tmp 13), none⟩] (some ⟨[], []⟩)
/- (*strings.Builder).String -/
def f51 : IFn := ⟨14, [.inl 2], (.seq f51r0 (.seq f51r1 .ret))⟩
def f52r0 : ICode := .region [
  ⟨(some 4), .load1 (.tmp 1), none⟩,
  ⟨(some 5), .bin .eql (.tmp 4) (.const (.int .i64 (.ofNat 3))), none⟩] none
def f52r1 : ICode := .region [
  ⟨(some 6), .load1 (.tmp 2), none⟩,
  ⟨(some 7), .move (.tmp 0), none⟩,
  ⟨(some 8), .bin .shr (.tmp 7) (.const (.int .u64 (.ofNat 8))), none⟩,
  ⟨(some 9), .conv .u8 (.tmp 8), none⟩,
  ⟨(some 10), .move (.tmp 0), none⟩,
  ⟨(some 11), .conv .u8 (.tmp 10), none⟩,
  ⟨(some 12), .buildSlice 5 2 [(.int .u8 (.ofNat 0)), (.int .u8 (.ofNat 0))] [(0, 1, (.tmp 9)), (1, 1, (.tmp 11))], none⟩,
  ⟨(some 13), .append 5 1 1 (.tmp 6) (.tmp 12), none⟩,
  ⟨none, .store 1 (.tmp 2) (.tmp 13), none⟩] none
def f52r2 : ICode := .region [
  ⟨(some 14), .load1 (.tmp 2), none⟩,
  ⟨(some 15), .move (.tmp 0), none⟩,
  ⟨(some 16), .conv .u8 (.tmp 15), none⟩,
  ⟨(some 17), .move (.tmp 0), none⟩,
  ⟨(some 18), .bin .shr (.tmp 17) (.const (.int .u64 (.ofNat 8))), none⟩,
  ⟨(some 19), .conv .u8 (.tmp 18), none⟩,
  ⟨(some 20), .buildSlice 5 2 [(.int .u8 (.ofNat 0)), (.int .u8 (.ofNat 0))] [(0, 1, (.tmp 16)), (1, 1, (.tmp 19))], none⟩,
  ⟨(some 21), .append 5 1 1 (.tmp 14) (.tmp 20), none⟩,
  ⟨none, .store 1 (.tmp 2) (.tmp 21), none⟩] none
/- ferret/coding.put$1 -/
def f52 : IFn := ⟨22, [], (.seq f52r0 (.cond (.tmp 5) f52r1 f52r2))⟩
def f53r0 : ICode := .region [
  ⟨(some 4), .move (.const (.bool false)), none⟩] none
def f53r1 : ICode := .region [
  ⟨(some 5), .move (.tmp 0), none⟩,
  ⟨(some 6), .len 0 (.tmp 5), none⟩,
  ⟨(some 7), .move (.tmp 1), none⟩,
  ⟨(some 8), .len 0 (.tmp 7), none⟩,
  ⟨(some 9), .bin .geq (.tmp 6) (.tmp 8), none⟩,
  ⟨(some 10), .move (.tmp 9), none⟩,
  ⟨(some 11), .move (.tmp 0), (some ((some 10), true))⟩,
  ⟨(some 12), .move (.tmp 1), (some ((some 10), true))⟩,
  ⟨(some 13), .len 0 (.tmp 12), (some ((some 10), true))⟩,
  ⟨(some 14), .sliceStr (.tmp 11) none (some (.tmp 13)), (some ((some 10), true))⟩,
  ⟨(some 15), .move (.tmp 1), (some ((some 10), true))⟩,
  ⟨(some 16), .bin .eql (.tmp 14) (.tmp 15), (some ((some 10), true))⟩,
  ⟨(some 17), .pick (.tmp 10) (.tmp 16) (.const (.bool false)), none⟩,
  ⟨(some 4), .move (.tmp 17), none⟩] none
/- internal/stringslite.HasPrefix -/
def f53 : IFn := ⟨18, [.inl 4], (.seq f53r0 (.seq f53r1 .ret))⟩
def f54r0 : ICode := .region [
  ⟨(some 2), .move (.const (.int .i64 (.ofNat 0))), none⟩,
  ⟨(some 3), .move (.const (.int .i64 (.ofNat 0))), none⟩] none
def f54r1 : ICode := .region [
  ⟨(some 10), .move (.tmp 0), none⟩,
  ⟨(some 11), .indexStr (.tmp 10) (.const (.int .i64 (.ofNat 0))), none⟩,
  ⟨(some 12), .call 75 [(.tmp 11)], none⟩,
  ⟨(some 9), .move (.tmp 12), none⟩,
  ⟨(some 13), .extract (.tmp 9) 0, none⟩,
  ⟨(some 14), .extract (.tmp 9) 1, none⟩,
  ⟨(some 15), .extract (.tmp 9) 2, none⟩,
  ⟨(some 16), .extract (.tmp 9) 3, none⟩,
  ⟨(some 4), .move (.tmp 13), none⟩,
  ⟨(some 5), .move (.tmp 14), none⟩,
  ⟨(some 6), .move (.tmp 15), none⟩,
  ⟨(some 7), .move (.tmp 16), none⟩] none
def f54r2 : ICode := .region [
  ⟨(some 17), .move (.tmp 4), none⟩,
  ⟨(some 18), .bin .lss (.tmp 17) (.const (.int .i64 (.ofNat 0))), none⟩] none
def f54r3 : ICode := .region [
  ⟨(some 2), .move (.const (.int .i64 (.negSucc 0))), none⟩,
  ⟨(some 3), .move (.const (.int .i64 (.ofNat 1))), none⟩] none
def f54r4 : ICode := .region [
  ⟨(some 8), .move (.const (.int .i64 (.ofNat 1))), none⟩] none
def f54r5 : ICode := .region [
  ⟨(some 19), .move (.tmp 8), none⟩,
  ⟨(some 20), .move (.tmp 4), none⟩,
  ⟨(some 21), .bin .leq (.tmp 19) (.tmp 20), none⟩] none
def f54r6 : ICode := .region [
  ⟨(some 24), .move (.tmp 8), none⟩,
  ⟨(some 25), .move (.tmp 0), none⟩,
  ⟨(some 26), .len 0 (.tmp 25), none⟩,
  ⟨(some 27), .bin .geq (.tmp 24) (.tmp 26), none⟩,
  ⟨(some 28), .move (.tmp 27), none⟩,
  ⟨(some 29), .move (.tmp 0), (some ((some 28), false))⟩,
  ⟨(some 30), .move (.tmp 8), (some ((some 28), false))⟩,
  ⟨(some 31), .indexStr (.tmp 29) (.tmp 30), (some ((some 28), false))⟩,
  ⟨(some 32), .move (.tmp 5), (some ((some 28), false))⟩,
  ⟨(some 33), .bin .lss (.tmp 31) (.tmp 32), (some ((some 28), false))⟩,
  ⟨(some 34), .pick (.tmp 28) (.const (.bool true)) (.tmp 33), none⟩,
  ⟨(some 35), .move (.tmp 34), none⟩,
  ⟨(some 36), .move (.tmp 0), (some ((some 35), false))⟩,
  ⟨(some 37), .move (.tmp 8), (some ((some 35), false))⟩,
  ⟨(some 38), .indexStr (.tmp 36) (.tmp 37), (some ((some 35), false))⟩,
  ⟨(some 39), .move (.tmp 6), (some ((some 35), false))⟩,
  ⟨(some 40), .bin .gtr (.tmp 38) (.tmp 39), (some ((some 35), false))⟩,
  ⟨(some 41), .pick (.tmp 35) (.const (.bool true)) (.tmp 40), none⟩] none
def f54r7 : ICode := .region [
  ⟨(some 42), .move (.tmp 8), none⟩,
  ⟨(some 2), .move (.const (.int .i64 (.negSucc 0))), none⟩,
  ⟨(some 3), .move (.tmp 42), none⟩] none
def f54r8 : ICode := .region [
  ⟨(some 43), .move (.tmp 7), none⟩,
  ⟨(some 44), .bin .shl (.tmp 43) (.const (.int .u64 (.ofNat 6))), none⟩,
  ⟨(some 45), .move (.tmp 0), none⟩,
  ⟨(some 46), .move (.tmp 8), none⟩,
  ⟨(some 47), .indexStr (.tmp 45) (.tmp 46), none⟩,
  ⟨(some 48), .bin .and (.tmp 47) (.const (.int .u8 (.ofNat 63))), none⟩,
  ⟨(some 49), .conv .i64 (.tmp 48), none⟩,
  ⟨(some 50), .bin .or (.tmp 44) (.tmp 49), none⟩,
  ⟨(some 7), .move (.tmp 50), none⟩] none
def f54r9 : ICode := .region [
  ⟨(some 5), .move (.const (.int .u8 (.ofNat 128))), none⟩,
  ⟨(some 6), .move (.const (.int .u8 (.ofNat 191))), none⟩] none
def f54r10 : ICode := .region [
  ⟨(some 22), .move (.tmp 8), none⟩,
  ⟨(some 23), .bin .add (.tmp 22) (.const (.int .i64 (.ofNat 1))), none⟩,
  ⟨(some 8), .move (.tmp 23), none⟩] none
def f54r11 : ICode := .region [
  ⟨(some 51), .move (.tmp 7), none⟩,
  ⟨(some 52), .move (.tmp 4), none⟩,
  ⟨(some 53), .bin .add (.tmp 52) (.const (.int .i64 (.ofNat 1))), none⟩,
  ⟨(some 2), .move (.tmp 51), none⟩,
  ⟨(some 3), .move (.tmp 53), none⟩] none
/- ferret/coding.utf8 -/
def f54 : IFn := ⟨54, [.inl 2, .inl 3], (.seq f54r0 (.seq f54r1 (.seq (.seq f54r2 (.cond (.tmp 18) (.seq f54r3 .ret) .skip)) (.seq (.seq f54r4 (.block 0 (.loop (.seq (.seq f54r5 (.cond (.tmp 21) .skip (.exit 0))) (.seq (.block 1 (.seq (.seq f54r6 (.cond (.tmp 41) (.seq f54r7 .ret) .skip)) (.seq f54r8 f54r9))) f54r10))))) (.seq f54r11 .ret)))))⟩
def f55r0 : ICode := .region [
  ⟨(some 2), .move (.const (.int .i64 (.ofNat 0))), none⟩,
  ⟨(some 3), .move (.const (.int .i64 (.ofNat 0))), none⟩] none
def f55r1 : ICode := .region [
  ⟨(some 4), .move (.tmp 0), none⟩,
  ⟨(some 5), .call 56 [(.tmp 4), (.const (.bool false))], none⟩,
  ⟨(some 6), .extract (.tmp 5) 0, none⟩,
  ⟨(some 7), .extract (.tmp 5) 1, none⟩,
  ⟨(some 2), .move (.tmp 6), none⟩,
  ⟨(some 3), .move (.tmp 7), none⟩] none
/- ferret/coding.scalarOf$1 -/
def f55 : IFn := ⟨8, [.inl 2, .inl 3], (.seq f55r0 (.seq f55r1 .ret))⟩
def f57r0 : ICode := .region [
  ⟨(some 2), .move (.const (.int .i64 (.ofNat 0))), none⟩,
  ⟨(some 3), .move (.const (.int .i64 (.ofNat 0))), none⟩] none
def f57r1 : ICode := .region [
  ⟨(some 4), .move (.tmp 0), none⟩,
  ⟨(some 5), .call 56 [(.tmp 4), (.const (.bool true))], none⟩,
  ⟨(some 6), .extract (.tmp 5) 0, none⟩,
  ⟨(some 7), .extract (.tmp 5) 1, none⟩,
  ⟨(some 2), .move (.tmp 6), none⟩,
  ⟨(some 3), .move (.tmp 7), none⟩] none
/- ferret/coding.scalarOf$2 -/
def f57 : IFn := ⟨8, [.inl 2, .inl 3], (.seq f57r0 (.seq f57r1 .ret))⟩
def f58r0 : ICode := .region [
  ⟨(some 2), .move (.const (.int .i64 (.ofNat 0))), none⟩,
  ⟨(some 3), .move (.const (.int .i64 (.ofNat 0))), none⟩] none
def f58r1 : ICode := .region [
  ⟨(some 4), .move (.tmp 0), none⟩,
  ⟨(some 5), .indexStr (.tmp 4) (.const (.int .i64 (.ofNat 0))), none⟩,
  ⟨(some 6), .conv .i64 (.tmp 5), none⟩,
  ⟨(some 2), .move (.tmp 6), none⟩,
  ⟨(some 3), .move (.const (.int .i64 (.ofNat 1))), none⟩] none
/- ferret/coding.latin -/
def f58 : IFn := ⟨7, [.inl 2, .inl 3], (.seq f58r0 (.seq f58r1 .ret))⟩
def f59r0 : ICode := .region [
  ⟨(some 4), .move (.const (.int .i64 (.ofNat 0))), none⟩] none
def f59r1 : ICode := .region [
  ⟨(some 5), .move (.tmp 0), none⟩,
  ⟨(some 6), .nilCheck (.tmp 5), none⟩,
  ⟨(some 7), .fieldAddr 4 (.tmp 6), none⟩,
  ⟨(some 8), .load1 (.tmp 7), none⟩,
  ⟨(some 9), .move (.tmp 1), none⟩,
  ⟨(some 10), .bin .add (.tmp 8) (.tmp 9), none⟩,
  ⟨(some 11), .move (.tmp 0), none⟩,
  ⟨(some 12), .nilCheck (.tmp 11), none⟩,
  ⟨(some 13), .fieldAddr 0 (.tmp 12), none⟩,
  ⟨(some 14), .fieldAddr 1 (.tmp 13), none⟩,
  ⟨(some 15), .load1 (.tmp 14), none⟩,
  ⟨(some 16), .len 1 (.tmp 15), none⟩,
  ⟨(some 17), .bin .geq (.tmp 10) (.tmp 16), none⟩] (some ⟨[], []⟩)
def f59r2 : ICode := .region [
  ⟨(some 4), .move (.const (.int .i64 (.negSucc 0))), none⟩] none
def f59r3 : ICode := .region [
  ⟨(some 18), .move (.tmp 0), none⟩,
  ⟨(some 19), .nilCheck (.tmp 18), none⟩,
  ⟨(some 20), .fieldAddr 0 (.tmp 19), none⟩,
  ⟨(some 21), .fieldAddr 1 (.tmp 20), none⟩,
  ⟨(some 22), .load1 (.tmp 21), none⟩,
  ⟨(some 23), .move (.tmp 0), none⟩,
  ⟨(some 24), .nilCheck (.tmp 23), none⟩,
  ⟨(some 25), .fieldAddr 4 (.tmp 24), none⟩,
  ⟨(some 26), .load1 (.tmp 25), none⟩,
  ⟨(some 27), .move (.tmp 1), none⟩,
  ⟨(some 28), .bin .add (.tmp 26) (.tmp 27), none⟩,
  ⟨(some 29), .indexSl 1 (.tmp 22) (.tmp 28), none⟩,
  ⟨(some 30), .load1 (.tmp 29), none⟩,
  ⟨(some 4), .move (.tmp 30), none⟩] (some ⟨[], []⟩)
/- (*ferret/syn.parser).peek -/
def f59 : IFn := ⟨31, [.inl 4], (.seq f59r0 (.seq (.seq f59r1 (.cond (.tmp 17) (.seq f59r2 .ret) .skip)) (.seq f59r3 .ret)))⟩
def f60r0 : ICode := .region [
  ⟨(some 6), .move (.tmp 1), none⟩,
  ⟨(some 7), .move (.tmp 0), none⟩,
  ⟨(some 8), .nilCheck (.tmp 7), none⟩,
  ⟨(some 9), .fieldAddr 0 (.tmp 8), none⟩,
  ⟨(some 10), .fieldAddr 2 (.tmp 9), none⟩,
  ⟨(some 11), .load1 (.tmp 10), none⟩,
  ⟨(some 12), .move (.tmp 2), none⟩,
  ⟨(some 13), .indexSl 1 (.tmp 11) (.tmp 12), none⟩,
  ⟨(some 14), .load1 (.tmp 13), none⟩,
  ⟨(some 15), .build [(.int .i64 (.ofNat 0)), (.int .i64 (.ofNat 0))] [(0, 1, (.tmp 6)), (1, 1, (.tmp 14))], none⟩,
  ⟨(some 16), .mkIface 65 (.tmp 15), none⟩,
  ⟨none, .bad, none⟩] none
/- (*ferret/syn.parser).fail -/
def f60 : IFn := ⟨17, [], f60r0⟩
def f61r0 : ICode := .region [
  ⟨(some 2), .move (.const (.int .i64 (.ofNat 0))), none⟩,
  ⟨(some 3), .move (.const (.int .i64 (.ofNat 0))), none⟩,
  ⟨(some 4), .move (.const (.bool false)), none⟩] none
def f61r1 : ICode := .region [
  ⟨(some 9), .move (.tmp 0), none⟩,
  ⟨(some 10), .call 39 [(.tmp 9), (.const (.string ⟨⟨[42]⟩⟩))], none⟩,
  ⟨(some 8), .move (.tmp 10), none⟩] none
def f61r2 : ICode := .region [
  ⟨(some 2), .move (.const (.int .i64 (.ofNat 0))), none⟩,
  ⟨(some 3), .move (.const (.int .i64 (.negSucc 0))), none⟩,
  ⟨(some 4), .move (.const (.bool true)), none⟩] none
def f61r3 : ICode := .region [
  ⟨(some 12), .move (.tmp 0), none⟩,
  ⟨(some 13), .call 39 [(.tmp 12), (.const (.string ⟨⟨[43]⟩⟩))], none⟩,
  ⟨(some 11), .move (.tmp 13), none⟩] none
def f61r4 : ICode := .region [
  ⟨(some 2), .move (.const (.int .i64 (.ofNat 1))), none⟩,
  ⟨(some 3), .move (.const (.int .i64 (.negSucc 0))), none⟩,
  ⟨(some 4), .move (.const (.bool true)), none⟩] none
def f61r5 : ICode := .region [
  ⟨(some 15), .move (.tmp 0), none⟩,
  ⟨(some 16), .call 39 [(.tmp 15), (.const (.string ⟨⟨[63]⟩⟩))], none⟩,
  ⟨(some 14), .move (.tmp 16), none⟩] none
def f61r6 : ICode := .region [
  ⟨(some 2), .move (.const (.int .i64 (.ofNat 0))), none⟩,
  ⟨(some 3), .move (.const (.int .i64 (.ofNat 1))), none⟩,
  ⟨(some 4), .move (.const (.bool true)), none⟩] none
def f61r7 : ICode := .region [
  ⟨(some 17), .move (.tmp 0), none⟩,
  ⟨(some 18), .nilCheck (.tmp 17), none⟩,
  ⟨(some 19), .fieldAddr 4 (.tmp 18), none⟩,
  ⟨(some 20), .load1 (.tmp 19), none⟩,
  ⟨(some 5), .move (.tmp 20), none⟩] none
def f61r8 : ICode := .region [
  ⟨(some 21), .move (.tmp 0), none⟩,
  ⟨(some 22), .call 39 [(.tmp 21), (.const (.string ⟨⟨[123]⟩⟩))], none⟩,
  ⟨(some 23), .un .not (.tmp 22), none⟩] none
def f61r9 : ICode := .region [
  ⟨(some 2), .move (.const (.int .i64 (.ofNat 0))), none⟩,
  ⟨(some 3), .move (.const (.int .i64 (.ofNat 0))), none⟩,
  ⟨(some 4), .move (.const (.bool false)), none⟩] none
def f61r10 : ICode := .region [
  ⟨(some 25), .move (.tmp 0), none⟩,
  ⟨(some 26), .call 77 [(.tmp 25)], none⟩,
  ⟨(some 24), .move (.tmp 26), none⟩,
  ⟨(some 27), .extract (.tmp 24) 0, none⟩,
  ⟨(some 28), .extract (.tmp 24) 1, none⟩,
  ⟨(some 2), .move (.tmp 27), none⟩,
  ⟨(some 4), .move (.tmp 28), none⟩] none
def f61r11 : ICode := .region [
  ⟨(some 29), .move (.tmp 2), none⟩,
  ⟨(some 3), .move (.tmp 29), none⟩] none
def f61r12 : ICode := .region [
  ⟨(some 30), .move (.tmp 4), none⟩,
  ⟨(some 31), .move (.tmp 30), none⟩,
  ⟨(some 32), .move (.tmp 0), (some ((some 31), true))⟩,
  ⟨(some 33), .call 39 [(.tmp 32), (.const (.string ⟨⟨[44]⟩⟩))], (some ((some 31), true))⟩,
  ⟨(some 34), .pick (.tmp 31) (.tmp 33) (.const (.bool false)), none⟩] none
def f61r13 : ICode := .region [
  ⟨(some 3), .move (.const (.int .i64 (.negSucc 0))), none⟩] none
def f61r14 : ICode := .region [
  ⟨(some 36), .move (.tmp 0), none⟩,
  ⟨(some 37), .call 77 [(.tmp 36)], none⟩,
  ⟨(some 35), .move (.tmp 37), none⟩,
  ⟨(some 38), .extract (.tmp 35) 0, none⟩,
  ⟨(some 39), .extract (.tmp 35) 1, none⟩,
  ⟨(some 6), .move (.tmp 38), none⟩,
  ⟨(some 7), .move (.tmp 39), none⟩] none
def f61r15 : ICode := .region [
  ⟨(some 40), .move (.tmp 7), none⟩] none
def f61r16 : ICode := .region [
  ⟨(some 41), .move (.tmp 6), none⟩,
  ⟨(some 3), .move (.tmp 41), none⟩] none
def f61r17 : ICode := .region [
  ⟨(some 42), .move (.tmp 4), none⟩,
  ⟨(some 43), .move (.tmp 42), none⟩,
  ⟨(some 44), .move (.tmp 0), (some ((some 43), true))⟩,
  ⟨(some 45), .call 39 [(.tmp 44), (.const (.string ⟨⟨[125]⟩⟩))], (some ((some 43), true))⟩,
  ⟨(some 46), .pick (.tmp 43) (.tmp 45) (.const (.bool false)), none⟩] none
def f61r18 : ICode := .region [
  ⟨(some 47), .move (.tmp 2), none⟩,
  ⟨(some 48), .move (.tmp 3), none⟩,
  ⟨(some 2), .move (.tmp 47), none⟩,
  ⟨(some 3), .move (.tmp 48), none⟩,
  ⟨(some 4), .move (.const (.bool true)), none⟩] none
def f61r19 : ICode := .region [
  ⟨(some 49), .move (.tmp 0), none⟩,
  ⟨(some 50), .move (.tmp 5), none⟩,
  ⟨(some 51), .nilCheck (.tmp 49), none⟩,
  ⟨(some 52), .fieldAddr 4 (.tmp 51), none⟩,
  ⟨none, .store 1 (.tmp 52) (.tmp 50), none⟩] none
def f61r20 : ICode := .region [
  ⟨(some 2), .move (.const (.int .i64 (.ofNat 0))), none⟩,
  ⟨(some 3), .move (.const (.int .i64 (.ofNat 0))), none⟩,
  ⟨(some 4), .move (.const (.bool false)), none⟩] none
/- (*ferret/syn.parser).times -/
def f61 : IFn := ⟨53, [.inl 2, .inl 3, .inl 4], (.seq f61r0 (.seq (.block 0 (.seq f61r1 (.cond (.tmp 8) (.seq f61r2 .ret) (.seq f61r3 (.cond (.tmp 11) (.seq f61r4 .ret) (.seq f61r5 (.cond (.tmp 14) (.seq f61r6 .ret) .skip))))))) (.seq f61r7 (.seq (.seq f61r8 (.cond (.tmp 23) (.seq f61r9 .ret) .skip)) (.seq f61r10 (.seq f61r11 (.seq (.seq f61r12 (.cond (.tmp 34) (.seq f61r13 (.seq f61r14 (.seq f61r15 (.cond (.tmp 40) f61r16 .skip)))) .skip)) (.seq (.seq f61r17 (.cond (.tmp 46) (.seq f61r18 .ret) .skip)) (.seq f61r19 (.seq f61r20 .ret))))))))))⟩
def f62r0 : ICode := .region [
  ⟨(some 2), .new [(.int .i64 (.ofNat 0)), (.slice none 0 0), (.bool false), (.int .i64 (.ofNat 0)), (.int .i64 (.ofNat 0)), (.bool false), (.int .i64 (.ofNat 0)), (.string ⟨⟨[]⟩⟩), (.slice none 0 0)] 28, none⟩,
  ⟨(some 3), .move (.const (.bool false)), none⟩] none
def f62r1 : ICode := .region [
  ⟨(some 10), .move (.tmp 0), none⟩,
  ⟨(some 11), .nilCheck (.tmp 10), none⟩,
  ⟨(some 12), .fieldAddr 4 (.tmp 11), none⟩,
  ⟨(some 13), .load1 (.tmp 12), none⟩,
  ⟨(some 4), .move (.tmp 13), none⟩] none
def f62r2 : ICode := .region [
  ⟨(some 15), .move (.tmp 0), none⟩,
  ⟨(some 16), .call 39 [(.tmp 15), (.const (.string ⟨⟨[40]⟩⟩))], none⟩,
  ⟨(some 14), .move (.tmp 16), none⟩] none
def f62r3 : ICode := .region [
  ⟨(some 17), .move (.tmp 0), none⟩,
  ⟨(some 18), .move (.tmp 4), none⟩,
  ⟨(some 19), .call 78 [(.tmp 17), (.tmp 18)], none⟩,
  ⟨(some 20), .extract (.tmp 19) 0, none⟩,
  ⟨(some 21), .extract (.tmp 19) 1, none⟩,
  ⟨none, .store 9 (.tmp 2) (.tmp 20), none⟩,
  ⟨(some 3), .move (.tmp 21), none⟩] none
def f62r4 : ICode := .region [
  ⟨(some 23), .move (.tmp 0), none⟩,
  ⟨(some 24), .call 39 [(.tmp 23), (.const (.string ⟨⟨[46]⟩⟩))], none⟩,
  ⟨(some 22), .move (.tmp 24), none⟩] none
def f62r5 : ICode := .region [
  ⟨(some 25), .build [(.int .i64 (.ofNat 0)), (.int .i64 (.ofNat 0))] [(1, 1, (.const (.int .i64 (.ofNat 1114111))))], none⟩,
  ⟨(some 26), .buildSlice 53 1 [(.int .i64 (.ofNat 0)), (.int .i64 (.ofNat 0))] [(0, 2, (.tmp 25))], none⟩,
  ⟨(some 27), .call 67 [(.tmp 26)], none⟩,
  ⟨(some 5), .move (.tmp 27), none⟩] none
def f62r6 : ICode := .region [
  ⟨(some 28), .move (.tmp 0), none⟩,
  ⟨(some 29), .nilCheck (.tmp 28), none⟩,
  ⟨(some 30), .fieldAddr 7 (.tmp 29), none⟩,
  ⟨(some 31), .fieldAddr 2 (.tmp 30), none⟩,
  ⟨(some 32), .load1 (.tmp 31), none⟩,
  ⟨(some 33), .un .not (.tmp 32), none⟩] none
def f62r7 : ICode := .region [
  ⟨(some 34), .move (.tmp 5), none⟩,
  ⟨(some 35), .call 79 [(.const (.int .i64 (.ofNat 10)))], none⟩,
  ⟨(some 36), .call 66 [(.tmp 34), (.tmp 35)], none⟩,
  ⟨(some 5), .move (.tmp 36), none⟩] none
def f62r8 : ICode := .region [
  ⟨(some 37), .move (.tmp 0), none⟩,
  ⟨(some 38), .move (.tmp 5), none⟩,
  ⟨(some 39), .call 80 [(.tmp 37), (.tmp 38)], none⟩,
  ⟨none, .store 9 (.tmp 2) (.tmp 39), none⟩,
  ⟨(some 3), .move (.const (.bool true)), none⟩] none
def f62r9 : ICode := .region [
  ⟨(some 41), .move (.tmp 0), none⟩,
  ⟨(some 42), .call 39 [(.tmp 41), (.const (.string ⟨⟨[94]⟩⟩))], none⟩,
  ⟨(some 40), .move (.tmp 42), none⟩] none
def f62r10 : ICode := .region [
  ⟨(some 43), .move (.tmp 0), none⟩,
  ⟨(some 44), .nilCheck (.tmp 43), none⟩,
  ⟨(some 45), .fieldAddr 7 (.tmp 44), none⟩,
  ⟨(some 46), .fieldAddr 1 (.tmp 45), none⟩,
  ⟨(some 47), .load1 (.tmp 46), none⟩,
  ⟨(some 48), .call 81 [(.tmp 47), (.const (.int .i64 (.ofNat 4))), (.const (.int .i64 (.ofNat 2)))], none⟩,
  ⟨(some 49), .build [(.int .i64 (.ofNat 0)), (.slice none 0 0), (.bool false), (.int .i64 (.ofNat 0)), (.int .i64 (.ofNat 0)), (.bool false), (.int .i64 (.ofNat 0)), (.string ⟨⟨[]⟩⟩), (.slice none 0 0)] [(0, 1, (.tmp 48))], none⟩,
  ⟨none, .store 9 (.tmp 2) (.tmp 49), none⟩,
  ⟨(some 3), .move (.const (.bool true)), none⟩] none
def f62r11 : ICode := .region [
  ⟨(some 51), .move (.tmp 0), none⟩,
  ⟨(some 52), .call 39 [(.tmp 51), (.const (.string ⟨⟨[36]⟩⟩))], none⟩,
  ⟨(some 50), .move (.tmp 52), none⟩] none
def f62r12 : ICode := .region [
  ⟨(some 53), .move (.tmp 0), none⟩,
  ⟨(some 54), .nilCheck (.tmp 53), none⟩,
  ⟨(some 55), .fieldAddr 7 (.tmp 54), none⟩,
  ⟨(some 56), .fieldAddr 1 (.tmp 55), none⟩,
  ⟨(some 57), .load1 (.tmp 56), none⟩,
  ⟨(some 58), .call 81 [(.tmp 57), (.const (.int .i64 (.ofNat 5))), (.const (.int .i64 (.ofNat 3)))], none⟩,
  ⟨(some 59), .build [(.int .i64 (.ofNat 0)), (.slice none 0 0), (.bool false), (.int .i64 (.ofNat 0)), (.int .i64 (.ofNat 0)), (.bool false), (.int .i64 (.ofNat 0)), (.string ⟨⟨[]⟩⟩), (.slice none 0 0)] [(0, 1, (.tmp 58))], none⟩,
  ⟨none, .store 9 (.tmp 2) (.tmp 59), none⟩,
  ⟨(some 3), .move (.const (.bool true)), none⟩] none
def f62r13 : ICode := .region [
  ⟨(some 61), .move (.tmp 0), none⟩,
  ⟨(some 62), .call 39 [(.tmp 61), (.const (.string ⟨⟨[91]⟩⟩))], none⟩,
  ⟨(some 60), .move (.tmp 62), none⟩] none
def f62r14 : ICode := .region [
  ⟨(some 63), .move (.tmp 0), none⟩,
  ⟨(some 64), .move (.tmp 0), none⟩,
  ⟨(some 65), .move (.tmp 4), none⟩,
  ⟨(some 66), .call 82 [(.tmp 64), (.tmp 65)], none⟩,
  ⟨(some 67), .call 80 [(.tmp 63), (.tmp 66)], none⟩,
  ⟨none, .store 9 (.tmp 2) (.tmp 67), none⟩,
  ⟨(some 3), .move (.const (.bool true)), none⟩] none
def f62r15 : ICode := .region [
  ⟨(some 69), .move (.tmp 0), none⟩,
  ⟨(some 70), .call 39 [(.tmp 69), (.const (.string ⟨⟨[92]⟩⟩))], none⟩,
  ⟨(some 68), .move (.tmp 70), none⟩] none
def f62r16 : ICode := .region [
  ⟨(some 71), .build [(.string ⟨⟨[]⟩⟩), (.int .i64 (.ofNat 0))] [(0, 1, (.const (.string ⟨⟨[65]⟩⟩))), (1, 1, (.const (.int .i64 (.ofNat 2))))], none⟩,
  ⟨(some 72), .build [(.string ⟨⟨[]⟩⟩), (.int .i64 (.ofNat 0))] [(0, 1, (.const (.string ⟨⟨[122]⟩⟩))), (1, 1, (.const (.int .i64 (.ofNat 3))))], none⟩,
  ⟨(some 73), .build [(.string ⟨⟨[]⟩⟩), (.int .i64 (.ofNat 0))] [(0, 1, (.const (.string ⟨⟨[98]⟩⟩))), (1, 1, (.const (.int .i64 (.ofNat 6))))], none⟩,
  ⟨(some 74), .build [(.string ⟨⟨[]⟩⟩), (.int .i64 (.ofNat 0))] [(0, 1, (.const (.string ⟨⟨[66]⟩⟩))), (1, 1, (.const (.int .i64 (.ofNat 7))))], none⟩,
  ⟨(some 75), .buildSlice 131 4 [(.string ⟨⟨[]⟩⟩), (.int .i64 (.ofNat 0)), (.string ⟨⟨[]⟩⟩), (.int .i64 (.ofNat 0)), (.string ⟨⟨[]⟩⟩), (.int .i64 (.ofNat 0)), (.string ⟨⟨[]⟩⟩), (.int .i64 (.ofNat 0))] [(0, 2, (.tmp 71)), (2, 2, (.tmp 72)), (4, 2, (.tmp 73)), (6, 2, (.tmp 74))], none⟩,
  ⟨(some 76), .len 1 (.tmp 75), none⟩,
  ⟨(some 77), .move (.const (.int .i64 (.ofNat 0))), none⟩] none
def f62r17 : ICode := .region [
  ⟨(some 78), .bin .lss (.tmp 77) (.tmp 76), none⟩] none
def f62r18 : ICode := .region [
  ⟨(some 79), .indexSl 2 (.tmp 75) (.tmp 77), none⟩,
  ⟨(some 80), .loadN 2 (.tmp 79), none⟩,
  ⟨(some 7), .new [(.string ⟨⟨[]⟩⟩), (.int .i64 (.ofNat 0))] 131, none⟩,
  ⟨none, .store 2 (.tmp 7) (.tmp 80), none⟩] none
def f62r19 : ICode := .region [
  ⟨(some 81), .move (.tmp 0), none⟩,
  ⟨(some 82), .fieldAddr 0 (.tmp 7), none⟩,
  ⟨(some 83), .load1 (.tmp 82), none⟩,
  ⟨(some 84), .call 39 [(.tmp 81), (.tmp 83)], none⟩] none
def f62r20 : ICode := .region [
  ⟨(some 85), .fieldAddr 1 (.tmp 7), none⟩,
  ⟨(some 86), .load1 (.tmp 85), none⟩,
  ⟨(some 87), .build [(.int .i64 (.ofNat 0)), (.slice none 0 0), (.bool false), (.int .i64 (.ofNat 0)), (.int .i64 (.ofNat 0)), (.bool false), (.int .i64 (.ofNat 0)), (.string ⟨⟨[]⟩⟩), (.slice none 0 0)] [(0, 1, (.tmp 86))], none⟩,
  ⟨none, .store 9 (.tmp 2) (.tmp 87), none⟩,
  ⟨(some 3), .move (.const (.bool true)), none⟩] none
def f62r21 : ICode := .region [
  ⟨(some 88), .bin .add (.tmp 77) (.const (.int .i64 (.ofNat 1))), none⟩,
  ⟨(some 77), .move (.tmp 88), none⟩] none
def f62r22 : ICode := .region [
  ⟨(some 90), .move (.tmp 0), none⟩,
  ⟨(some 91), .move (.tmp 4), none⟩,
  ⟨(some 92), .call 83 [(.tmp 90), (.tmp 91)], none⟩,
  ⟨(some 89), .move (.tmp 92), none⟩,
  ⟨(some 93), .extract (.tmp 89) 0, none⟩,
  ⟨(some 94), .extract (.tmp 89) 1, none⟩,
  ⟨(some 8), .move (.tmp 93), none⟩,
  ⟨(some 9), .move (.tmp 94), none⟩] none
def f62r23 : ICode := .region [
  ⟨(some 95), .move (.tmp 0), none⟩,
  ⟨(some 96), .move (.tmp 8), none⟩,
  ⟨(some 97), .call 80 [(.tmp 95), (.tmp 96)], none⟩,
  ⟨none, .store 9 (.tmp 2) (.tmp 97), none⟩,
  ⟨(some 3), .move (.const (.bool true)), none⟩] none
def f62r24 : ICode := .region [
  ⟨(some 98), .move (.tmp 0), none⟩,
  ⟨(some 99), .nilCheck (.tmp 98), none⟩,
  ⟨(some 100), .fieldAddr 4 (.tmp 99), none⟩,
  ⟨(some 101), .load1 (.tmp 100), none⟩,
  ⟨(some 102), .bin .add (.tmp 101) (.const (.int .i64 (.ofNat 1))), none⟩,
  ⟨(some 103), .nilCheck (.tmp 98), none⟩,
  ⟨(some 104), .fieldAddr 4 (.tmp 103), none⟩,
  ⟨none, .store 1 (.tmp 104) (.tmp 102), none⟩] none
def f62r25 : ICode := .region [
  ⟨(some 105), .move (.tmp 0), none⟩,
  ⟨(some 106), .move (.tmp 0), none⟩,
  ⟨(some 107), .nilCheck (.tmp 106), none⟩,
  ⟨(some 108), .fieldAddr 0 (.tmp 107), none⟩,
  ⟨(some 109), .fieldAddr 1 (.tmp 108), none⟩,
  ⟨(some 110), .load1 (.tmp 109), none⟩,
  ⟨(some 111), .move (.tmp 4), none⟩,
  ⟨(some 112), .indexSl 1 (.tmp 110) (.tmp 111), none⟩,
  ⟨(some 113), .load1 (.tmp 112), none⟩,
  ⟨(some 114), .call 79 [(.tmp 113)], none⟩,
  ⟨(some 115), .call 80 [(.tmp 105), (.tmp 114)], none⟩,
  ⟨none, .store 9 (.tmp 2) (.tmp 115), none⟩,
  ⟨(some 3), .move (.const (.bool true)), none⟩] none
/- (*ferret/syn.parser).atom -/
def f62 : IFn := ⟨116, [.inr (2, (some 9)), .inl 3], (.seq f62r0 (.seq f62r1 (.seq (.block 0 (.seq f62r2 (.cond (.tmp 14) (.seq f62r3 .ret) (.seq f62r4 (.cond (.tmp 22) (.seq f62r5 (.seq (.seq f62r6 (.cond (.tmp 33) f62r7 .skip)) (.seq f62r8 .ret))) (.seq f62r9 (.cond (.tmp 40) (.seq f62r10 .ret) (.seq f62r11 (.cond (.tmp 50) (.seq f62r12 .ret) (.seq f62r13 (.cond (.tmp 60) (.seq f62r14 .ret) (.seq f62r15 (.cond (.tmp 68) (.seq (.seq f62r16 (.block 1 (.loop (.seq f62r17 (.seq (.cond (.tmp 78) .skip (.exit 1)) (.seq (.block 2 (.seq f62r18 (.seq f62r19 (.cond (.tmp 84) (.seq f62r20 .ret) .skip)))) f62r21)))))) (.seq f62r22 (.seq f62r23 .ret))) .skip))))))))))))) (.seq f62r24 (.seq f62r25 .ret)))))⟩
def f63r0 : ICode := .region [
  ⟨(some 2), .move (.const (.int .i64 (.ofNat 0))), none⟩] none
def f63r1 : ICode := .region [
  ⟨(some 3), .move (.tmp 0), none⟩,
  ⟨(some 4), .minmax false (.tmp 3) (.const (.int .i64 (.ofNat 1048577))), none⟩,
  ⟨(some 2), .move (.tmp 4), none⟩] none
/- ferret/simple.capped -/
def f63 : IFn := ⟨5, [.inl 2], (.seq f63r0 (.seq f63r1 .ret))⟩
def f64r0 : ICode := .region [
  ⟨(some 1), .box 28 (.tmp 0), none⟩,
  ⟨(some 2), .new [(.int .i64 (.ofNat 0)), (.slice none 0 0), (.bool false), (.int .i64 (.ofNat 0)), (.int .i64 (.ofNat 0)), (.bool false), (.int .i64 (.ofNat 0)), (.string ⟨⟨[]⟩⟩), (.slice none 0 0)] 28, none⟩] none
def f64r1 : ICode := .region [
  ⟨(some 3), .fieldAddr 8 (.tmp 1), none⟩,
  ⟨(some 4), .load1 (.tmp 3), none⟩,
  ⟨(some 5), .len 1 (.tmp 4), none⟩,
  ⟨(some 6), .bin .eql (.tmp 5) (.const (.int .i64 (.ofNat 0))), none⟩] none
def f64r2 : ICode := .region [
  ⟨(some 7), .build [(.int .i64 (.ofNat 0)), (.slice none 0 0), (.bool false), (.int .i64 (.ofNat 0)), (.int .i64 (.ofNat 0)), (.bool false), (.int .i64 (.ofNat 0)), (.string ⟨⟨[]⟩⟩), (.slice none 0 0)] [], none⟩,
  ⟨none, .store 9 (.tmp 2) (.tmp 7), none⟩] none
def f64r3 : ICode := .region [
  ⟨(some 8), .fieldAddr 8 (.tmp 1), none⟩,
  ⟨(some 9), .load1 (.tmp 8), none⟩,
  ⟨(some 10), .indexSl 9 (.tmp 9) (.const (.int .i64 (.ofNat 0))), none⟩,
  ⟨(some 11), .loadN 9 (.tmp 10), none⟩,
  ⟨none, .store 9 (.tmp 2) (.tmp 11), none⟩] none
/- ferret/simple.first -/
def f64 : IFn := ⟨12, [.inr (2, (some 9))], (.seq f64r0 (.seq (.seq f64r1 (.cond (.tmp 6) (.seq f64r2 .ret) .skip)) (.seq f64r3 .ret)))⟩
def f65r0 : ICode := .region [
  ⟨(some 2), .move (.const (.slice none 0 0)), none⟩] none
def f65r1 : ICode := .region [
  ⟨(some 14), .move (.tmp 0), none⟩,
  ⟨(some 15), .call 84 [(.tmp 14)], none⟩,
  ⟨(some 3), .move (.tmp 15), none⟩] none
def f65r2 : ICode := .region [
  ⟨(some 16), .call 27 [], none⟩,
  ⟨(some 17), .len 1 (.tmp 16), none⟩,
  ⟨(some 18), .move (.const (.int .i64 (.ofNat 0))), none⟩] none
def f65r3 : ICode := .region [
  ⟨(some 19), .bin .lss (.tmp 18) (.tmp 17), none⟩] none
def f65r4 : ICode := .region [
  ⟨(some 20), .indexSl 3 (.tmp 16) (.tmp 18), none⟩,
  ⟨(some 21), .loadN 3 (.tmp 20), none⟩,
  ⟨(some 5), .new [(.int .i64 (.ofNat 0)), (.int .i64 (.ofNat 0)), (.int .i64 (.ofNat 0))] 84, none⟩,
  ⟨none, .store 3 (.tmp 5) (.tmp 21), none⟩] none
def f65r5 : ICode := .region [
  ⟨(some 22), .move (.tmp 0), none⟩,
  ⟨(some 23), .fieldAddr 0 (.tmp 5), none⟩,
  ⟨(some 24), .load1 (.tmp 23), none⟩,
  ⟨(some 25), .fieldAddr 1 (.tmp 5), none⟩,
  ⟨(some 26), .load1 (.tmp 25), none⟩,
  ⟨(some 27), .build [(.int .i64 (.ofNat 0)), (.int .i64 (.ofNat 0))] [(0, 1, (.tmp 24)), (1, 1, (.tmp 26))], none⟩,
  ⟨(some 28), .buildSlice 53 1 [(.int .i64 (.ofNat 0)), (.int .i64 (.ofNat 0))] [(0, 2, (.tmp 27))], none⟩,
  ⟨(some 29), .call 67 [(.tmp 28)], none⟩,
  ⟨(some 30), .call 85 [(.tmp 22), (.tmp 29)], none⟩,
  ⟨(some 31), .len 1 (.tmp 30), none⟩,
  ⟨(some 32), .move (.const (.int .i64 (.ofNat 0))), none⟩] none
def f65r6 : ICode := .region [
  ⟨(some 33), .bin .lss (.tmp 32) (.tmp 31), none⟩] none
def f65r7 : ICode := .region [
  ⟨(some 34), .indexSl 2 (.tmp 30) (.tmp 32), none⟩,
  ⟨(some 35), .loadN 2 (.tmp 34), none⟩,
  ⟨(some 7), .new [(.int .i64 (.ofNat 0)), (.int .i64 (.ofNat 0))] 53, none⟩,
  ⟨none, .store 2 (.tmp 7) (.tmp 35), none⟩] none
def f65r8 : ICode := .region [
  ⟨(some 36), .move (.tmp 3), none⟩,
  ⟨(some 37), .fieldAddr 0 (.tmp 7), none⟩,
  ⟨(some 38), .load1 (.tmp 37), none⟩,
  ⟨(some 39), .fieldAddr 2 (.tmp 5), none⟩,
  ⟨(some 40), .load1 (.tmp 39), none⟩,
  ⟨(some 41), .bin .add (.tmp 38) (.tmp 40), none⟩,
  ⟨(some 42), .fieldAddr 1 (.tmp 7), none⟩,
  ⟨(some 43), .load1 (.tmp 42), none⟩,
  ⟨(some 44), .fieldAddr 2 (.tmp 5), none⟩,
  ⟨(some 45), .load1 (.tmp 44), none⟩,
  ⟨(some 46), .bin .add (.tmp 43) (.tmp 45), none⟩,
  ⟨(some 47), .build [(.int .i64 (.ofNat 0)), (.int .i64 (.ofNat 0))] [(0, 1, (.tmp 41)), (1, 1, (.tmp 46))], none⟩,
  ⟨(some 48), .buildSlice 53 1 [(.int .i64 (.ofNat 0)), (.int .i64 (.ofNat 0))] [(0, 2, (.tmp 47))], none⟩,
  ⟨(some 49), .append 53 2 16 (.tmp 36) (.tmp 48), none⟩,
  ⟨(some 3), .move (.tmp 49), none⟩] none
def f65r9 : ICode := .region [
  ⟨(some 50), .bin .add (.tmp 32) (.const (.int .i64 (.ofNat 1))), none⟩,
  ⟨(some 32), .move (.tmp 50), none⟩] none
def f65r10 : ICode := .region [
  ⟨(some 51), .move (.tmp 0), none⟩,
  ⟨(some 52), .fieldAddr 0 (.tmp 5), none⟩,
  ⟨(some 53), .load1 (.tmp 52), none⟩,
  ⟨(some 54), .fieldAddr 2 (.tmp 5), none⟩,
  ⟨(some 55), .load1 (.tmp 54), none⟩,
  ⟨(some 56), .bin .add (.tmp 53) (.tmp 55), none⟩,
  ⟨(some 57), .fieldAddr 1 (.tmp 5), none⟩,
  ⟨(some 58), .load1 (.tmp 57), none⟩,
  ⟨(some 59), .fieldAddr 2 (.tmp 5), none⟩,
  ⟨(some 60), .load1 (.tmp 59), none⟩,
  ⟨(some 61), .bin .add (.tmp 58) (.tmp 60), none⟩,
  ⟨(some 62), .build [(.int .i64 (.ofNat 0)), (.int .i64 (.ofNat 0))] [(0, 1, (.tmp 56)), (1, 1, (.tmp 61))], none⟩,
  ⟨(some 63), .buildSlice 53 1 [(.int .i64 (.ofNat 0)), (.int .i64 (.ofNat 0))] [(0, 2, (.tmp 62))], none⟩,
  ⟨(some 64), .call 67 [(.tmp 63)], none⟩,
  ⟨(some 65), .call 85 [(.tmp 51), (.tmp 64)], none⟩,
  ⟨(some 66), .len 1 (.tmp 65), none⟩,
  ⟨(some 67), .move (.const (.int .i64 (.ofNat 0))), none⟩] none
def f65r11 : ICode := .region [
  ⟨(some 68), .bin .lss (.tmp 67) (.tmp 66), none⟩] none
def f65r12 : ICode := .region [
  ⟨(some 69), .indexSl 2 (.tmp 65) (.tmp 67), none⟩,
  ⟨(some 70), .loadN 2 (.tmp 69), none⟩,
  ⟨(some 9), .new [(.int .i64 (.ofNat 0)), (.int .i64 (.ofNat 0))] 53, none⟩,
  ⟨none, .store 2 (.tmp 9) (.tmp 70), none⟩] none
def f65r13 : ICode := .region [
  ⟨(some 71), .move (.tmp 3), none⟩,
  ⟨(some 72), .fieldAddr 0 (.tmp 9), none⟩,
  ⟨(some 73), .load1 (.tmp 72), none⟩,
  ⟨(some 74), .fieldAddr 2 (.tmp 5), none⟩,
  ⟨(some 75), .load1 (.tmp 74), none⟩,
  ⟨(some 76), .bin .sub (.tmp 73) (.tmp 75), none⟩,
  ⟨(some 77), .fieldAddr 1 (.tmp 9), none⟩,
  ⟨(some 78), .load1 (.tmp 77), none⟩,
  ⟨(some 79), .fieldAddr 2 (.tmp 5), none⟩,
  ⟨(some 80), .load1 (.tmp 79), none⟩,
  ⟨(some 81), .bin .sub (.tmp 78) (.tmp 80), none⟩,
  ⟨(some 82), .build [(.int .i64 (.ofNat 0)), (.int .i64 (.ofNat 0))] [(0, 1, (.tmp 76)), (1, 1, (.tmp 81))], none⟩,
  ⟨(some 83), .buildSlice 53 1 [(.int .i64 (.ofNat 0)), (.int .i64 (.ofNat 0))] [(0, 2, (.tmp 82))], none⟩,
  ⟨(some 84), .append 53 2 16 (.tmp 71) (.tmp 83), none⟩,
  ⟨(some 3), .move (.tmp 84), none⟩] none
def f65r14 : ICode := .region [
  ⟨(some 85), .bin .add (.tmp 67) (.const (.int .i64 (.ofNat 1))), none⟩,
  ⟨(some 67), .move (.tmp 85), none⟩] none
def f65r15 : ICode := .region [
  ⟨(some 86), .bin .add (.tmp 18) (.const (.int .i64 (.ofNat 1))), none⟩,
  ⟨(some 18), .move (.tmp 86), none⟩] none
def f65r16 : ICode := .region [
  ⟨(some 87), .call 25 [], none⟩,
  ⟨(some 88), .len 1 (.tmp 87), none⟩,
  ⟨(some 89), .move (.const (.int .i64 (.ofNat 0))), none⟩] none
def f65r17 : ICode := .region [
  ⟨(some 90), .bin .lss (.tmp 89) (.tmp 88), none⟩] none
def f65r18 : ICode := .region [
  ⟨(some 91), .indexSl 1 (.tmp 87) (.tmp 89), none⟩,
  ⟨(some 92), .load1 (.tmp 91), none⟩,
  ⟨(some 11), .move (.tmp 92), none⟩] none
def f65r19 : ICode := .region [
  ⟨(some 93), .move (.tmp 11), none⟩,
  ⟨(some 94), .move (.tmp 0), none⟩,
  ⟨(some 95), .mkFunc (.func 87) [(.tmp 94)] [], none⟩,
  ⟨(some 96), .call 86 [(.tmp 93), (.tmp 95)], none⟩] none
def f65r20 : ICode := .region [
  ⟨(some 97), .move (.tmp 11), none⟩,
  ⟨(some 98), .len 1 (.tmp 97), none⟩,
  ⟨(some 99), .move (.const (.int .i64 (.ofNat 0))), none⟩] none
def f65r21 : ICode := .region [
  ⟨(some 100), .bin .lss (.tmp 99) (.tmp 98), none⟩] none
def f65r22 : ICode := .region [
  ⟨(some 101), .indexSl 1 (.tmp 97) (.tmp 99), none⟩,
  ⟨(some 102), .load1 (.tmp 101), none⟩,
  ⟨(some 13), .move (.tmp 102), none⟩] none
def f65r23 : ICode := .region [
  ⟨(some 103), .move (.tmp 3), none⟩,
  ⟨(some 104), .move (.tmp 13), none⟩,
  ⟨(some 105), .move (.tmp 13), none⟩,
  ⟨(some 106), .build [(.int .i64 (.ofNat 0)), (.int .i64 (.ofNat 0))] [(0, 1, (.tmp 104)), (1, 1, (.tmp 105))], none⟩,
  ⟨(some 107), .buildSlice 53 1 [(.int .i64 (.ofNat 0)), (.int .i64 (.ofNat 0))] [(0, 2, (.tmp 106))], none⟩,
  ⟨(some 108), .append 53 2 16 (.tmp 103) (.tmp 107), none⟩,
  ⟨(some 3), .move (.tmp 108), none⟩] none
def f65r24 : ICode := .region [
  ⟨(some 109), .bin .add (.tmp 99) (.const (.int .i64 (.ofNat 1))), none⟩,
  ⟨(some 99), .move (.tmp 109), none⟩] none
def f65r25 : ICode := .region [
  ⟨(some 110), .bin .add (.tmp 89) (.const (.int .i64 (.ofNat 1))), none⟩,
  ⟨(some 89), .move (.tmp 110), none⟩] none
def f65r26 : ICode := .region [
  ⟨(some 111), .move (.tmp 3), none⟩,
  ⟨(some 112), .call 67 [(.tmp 111)], none⟩,
  ⟨(some 2), .move (.tmp 112), none⟩] none
/- ferret/ucd.Close -/
def f65 : IFn := ⟨113, [.inl 2], (.seq f65r0 (.seq f65r1 (.seq (.seq f65r2 (.block 0 (.loop (.seq f65r3 (.seq (.cond (.tmp 19) .skip (.exit 0)) (.seq (.block 1 (.seq f65r4 (.seq (.seq f65r5 (.block 2 (.loop (.seq f65r6 (.seq (.cond (.tmp 33) .skip (.exit 2)) (.seq (.block 3 (.seq f65r7 f65r8)) f65r9)))))) (.seq f65r10 (.block 4 (.loop (.seq f65r11 (.seq (.cond (.tmp 68) .skip (.exit 4)) (.seq (.block 5 (.seq f65r12 f65r13)) f65r14))))))))) f65r15)))))) (.seq (.seq f65r16 (.block 6 (.loop (.seq f65r17 (.seq (.cond (.tmp 90) .skip (.exit 6)) (.seq (.block 7 (.seq f65r18 (.seq f65r19 (.cond (.tmp 96) (.seq f65r20 (.block 8 (.loop (.seq f65r21 (.seq (.cond (.tmp 100) .skip (.exit 8)) (.seq (.block 9 (.seq f65r22 f65r23)) f65r24)))))) .skip)))) f65r25)))))) (.seq f65r26 .ret)))))⟩
def f67r0 : ICode := .region [
  ⟨(some 2), .move (.const (.slice none 0 0)), none⟩] none
def f67r1 : ICode := .region [
  ⟨(some 3), .new [(.slice none 0 0)] 24, none⟩] none
def f67r2 : ICode := .region [
  ⟨(some 10), .move (.tmp 0), none⟩,
  ⟨(some 11), .len 1 (.tmp 10), none⟩,
  ⟨(some 12), .move (.const (.int .i64 (.ofNat 0))), none⟩] none
def f67r3 : ICode := .region [
  ⟨(some 13), .bin .lss (.tmp 12) (.tmp 11), none⟩] none
def f67r4 : ICode := .region [
  ⟨(some 14), .indexSl 2 (.tmp 10) (.tmp 12), none⟩,
  ⟨(some 15), .loadN 2 (.tmp 14), none⟩,
  ⟨(some 5), .new [(.int .i64 (.ofNat 0)), (.int .i64 (.ofNat 0))] 53, none⟩,
  ⟨none, .store 2 (.tmp 5) (.tmp 15), none⟩] none
def f67r5 : ICode := .region [
  ⟨(some 16), .fieldAddr 0 (.tmp 5), none⟩,
  ⟨(some 17), .load1 (.tmp 16), none⟩,
  ⟨(some 18), .minmax true (.tmp 17) (.const (.int .i64 (.ofNat 0))), none⟩,
  ⟨(some 19), .fieldAddr 1 (.tmp 5), none⟩,
  ⟨(some 20), .load1 (.tmp 19), none⟩,
  ⟨(some 21), .minmax false (.tmp 20) (.const (.int .i64 (.ofNat 1114111))), none⟩,
  ⟨(some 22), .build [(.int .i64 (.ofNat 0)), (.int .i64 (.ofNat 0))] [(0, 1, (.tmp 18)), (1, 1, (.tmp 21))], none⟩,
  ⟨none, .store 2 (.tmp 5) (.tmp 22), none⟩] none
def f67r6 : ICode := .region [
  ⟨(some 23), .fieldAddr 0 (.tmp 5), none⟩,
  ⟨(some 24), .load1 (.tmp 23), none⟩,
  ⟨(some 25), .fieldAddr 1 (.tmp 5), none⟩,
  ⟨(some 26), .load1 (.tmp 25), none⟩,
  ⟨(some 27), .bin .leq (.tmp 24) (.tmp 26), none⟩] none
def f67r7 : ICode := .region [
  ⟨(some 28), .load1 (.tmp 3), none⟩,
  ⟨(some 29), .loadN 2 (.tmp 5), none⟩,
  ⟨(some 30), .buildSlice 53 1 [(.int .i64 (.ofNat 0)), (.int .i64 (.ofNat 0))] [(0, 2, (.tmp 29))], none⟩,
  ⟨(some 31), .append 53 2 16 (.tmp 28) (.tmp 30), none⟩,
  ⟨none, .store 1 (.tmp 3) (.tmp 31), none⟩] none
def f67r8 : ICode := .region [
  ⟨(some 32), .bin .add (.tmp 12) (.const (.int .i64 (.ofNat 1))), none⟩,
  ⟨(some 12), .move (.tmp 32), none⟩] none
def f67r9 : ICode := .region [
  ⟨(some 33), .load1 (.tmp 3), none⟩,
  ⟨(some 34), .mkIface 24 (.tmp 33), none⟩,
  ⟨(some 35), .mkFunc (.func 90) [] [(.tmp 3)], none⟩,
  ⟨(some 36), .call 89 [(.tmp 34), (.tmp 35)], none⟩] none
def f67r10 : ICode := .region [
  ⟨(some 6), .move (.const (.slice none 0 0)), none⟩] none
def f67r11 : ICode := .region [
  ⟨(some 37), .load1 (.tmp 3), none⟩,
  ⟨(some 38), .len 1 (.tmp 37), none⟩,
  ⟨(some 39), .move (.const (.int .i64 (.ofNat 0))), none⟩] none
def f67r12 : ICode := .region [
  ⟨(some 40), .bin .lss (.tmp 39) (.tmp 38), none⟩] none
def f67r13 : ICode := .region [
  ⟨(some 41), .indexSl 2 (.tmp 37) (.tmp 39), none⟩,
  ⟨(some 42), .loadN 2 (.tmp 41), none⟩,
  ⟨(some 8), .new [(.int .i64 (.ofNat 0)), (.int .i64 (.ofNat 0))] 53, none⟩,
  ⟨none, .store 2 (.tmp 8) (.tmp 42), none⟩] none
def f67r14 : ICode := .region [
  ⟨(some 43), .move (.tmp 6), none⟩,
  ⟨(some 44), .len 1 (.tmp 43), none⟩,
  ⟨(some 9), .move (.tmp 44), none⟩] none
def f67r15 : ICode := .region [
  ⟨(some 45), .move (.tmp 9), none⟩,
  ⟨(some 46), .bin .gtr (.tmp 45) (.const (.int .i64 (.ofNat 0))), none⟩,
  ⟨(some 47), .move (.tmp 46), none⟩,
  ⟨(some 48), .fieldAddr 0 (.tmp 8), (some ((some 47), true))⟩,
  ⟨(some 49), .load1 (.tmp 48), (some ((some 47), true))⟩,
  ⟨(some 50), .move (.tmp 6), (some ((some 47), true))⟩,
  ⟨(some 51), .move (.tmp 9), (some ((some 47), true))⟩,
  ⟨(some 52), .bin .sub (.tmp 51) (.const (.int .i64 (.ofNat 1))), (some ((some 47), true))⟩,
  ⟨(some 53), .indexSl 2 (.tmp 50) (.tmp 52), (some ((some 47), true))⟩,
  ⟨(some 54), .fieldAddr 1 (.tmp 53), (some ((some 47), true))⟩,
  ⟨(some 55), .load1 (.tmp 54), (some ((some 47), true))⟩,
  ⟨(some 56), .bin .add (.tmp 55) (.const (.int .i64 (.ofNat 1))), (some ((some 47), true))⟩,
  ⟨(some 57), .bin .leq (.tmp 49) (.tmp 56), (some ((some 47), true))⟩,
  ⟨(some 58), .pick (.tmp 47) (.tmp 57) (.const (.bool false)), none⟩] (some ⟨[], []⟩)
def f67r16 : ICode := .region [
  ⟨(some 59), .move (.tmp 6), none⟩,
  ⟨(some 60), .move (.tmp 9), none⟩,
  ⟨(some 61), .bin .sub (.tmp 60) (.const (.int .i64 (.ofNat 1))), none⟩,
  ⟨(some 62), .move (.tmp 6), none⟩,
  ⟨(some 63), .move (.tmp 9), none⟩,
  ⟨(some 64), .bin .sub (.tmp 63) (.const (.int .i64 (.ofNat 1))), none⟩,
  ⟨(some 65), .indexSl 2 (.tmp 62) (.tmp 64), none⟩,
  ⟨(some 66), .fieldAddr 1 (.tmp 65), none⟩,
  ⟨(some 67), .load1 (.tmp 66), none⟩,
  ⟨(some 68), .fieldAddr 1 (.tmp 8), none⟩,
  ⟨(some 69), .load1 (.tmp 68), none⟩,
  ⟨(some 70), .minmax true (.tmp 67) (.tmp 69), none⟩,
  ⟨(some 71), .indexSl 2 (.tmp 59) (.tmp 61), none⟩,
  ⟨(some 72), .fieldAddr 1 (.tmp 71), none⟩,
  ⟨none, .store 1 (.tmp 72) (.tmp 70), none⟩] (some ⟨[], []⟩)
def f67r17 : ICode := .region [
  ⟨(some 73), .move (.tmp 6), none⟩,
  ⟨(some 74), .loadN 2 (.tmp 8), none⟩,
  ⟨(some 75), .buildSlice 53 1 [(.int .i64 (.ofNat 0)), (.int .i64 (.ofNat 0))] [(0, 2, (.tmp 74))], none⟩,
  ⟨(some 76), .append 53 2 16 (.tmp 73) (.tmp 75), none⟩,
  ⟨(some 6), .move (.tmp 76), none⟩] none
def f67r18 : ICode := .region [
  ⟨(some 77), .bin .add (.tmp 39) (.const (.int .i64 (.ofNat 1))), none⟩,
  ⟨(some 39), .move (.tmp 77), none⟩] none
def f67r19 : ICode := .region [
  ⟨(some 78), .move (.tmp 6), none⟩,
  ⟨(some 2), .move (.tmp 78), none⟩] none
/- ferret/sets.Of -/
def f67 : IFn := ⟨79, [.inl 2], (.seq f67r0 (.seq f67r1 (.seq (.seq f67r2 (.block 0 (.loop (.seq f67r3 (.seq (.cond (.tmp 13) .skip (.exit 0)) (.seq (.block 1 (.seq f67r4 (.seq f67r5 (.seq f67r6 (.cond (.tmp 27) f67r7 .skip))))) f67r8)))))) (.seq f67r9 (.seq f67r10 (.seq (.seq f67r11 (.block 2 (.loop (.seq f67r12 (.seq (.cond (.tmp 40) .skip (.exit 2)) (.seq (.block 3 (.seq f67r13 (.seq f67r14 (.seq f67r15 (.cond (.tmp 58) f67r16 f67r17))))) f67r18)))))) (.seq f67r19 .ret)))))))⟩
def f66r0 : ICode := .region [
  ⟨(some 4), .move (.const (.slice none 0 0)), none⟩] none
def f66r1 : ICode := .region [
  ⟨(some 5), .move (.tmp 0), none⟩,
  ⟨(some 6), .move (.tmp 1), none⟩,
  ⟨(some 7), .call 88 [(.tmp 6)], none⟩,
  ⟨(some 8), .call 85 [(.tmp 5), (.tmp 7)], none⟩,
  ⟨(some 4), .move (.tmp 8), none⟩] none
/- (ferret/sets.Set).Less -/
def f66 : IFn := ⟨9, [.inl 4], (.seq f66r0 (.seq f66r1 .ret))⟩
def f68r0 : ICode := .region [
  ⟨(some 2), .new [(.int .i64 (.ofNat 0)), (.slice none 0 0), (.bool false), (.int .i64 (.ofNat 0)), (.int .i64 (.ofNat 0)), (.bool false), (.int .i64 (.ofNat 0)), (.string ⟨⟨[]⟩⟩), (.slice none 0 0)] 28, none⟩] none
def f68r1 : ICode := .region [
  ⟨(some 3), .move (.const (.slice none 0 0)), none⟩] none
def f68r2 : ICode := .region [
  ⟨(some 6), .move (.tmp 0), none⟩,
  ⟨(some 7), .call 70 [(.tmp 6), (.const (.int .i64 (.ofNat 8)))], none⟩,
  ⟨(some 8), .len 1 (.tmp 7), none⟩,
  ⟨(some 9), .move (.const (.int .i64 (.ofNat 0))), none⟩] none
def f68r3 : ICode := .region [
  ⟨(some 10), .bin .lss (.tmp 9) (.tmp 8), none⟩] none
def f68r4 : ICode := .region [
  ⟨(some 11), .indexSl 9 (.tmp 7) (.tmp 9), none⟩,
  ⟨(some 12), .loadN 9 (.tmp 11), none⟩,
  ⟨(some 5), .new [(.int .i64 (.ofNat 0)), (.slice none 0 0), (.bool false), (.int .i64 (.ofNat 0)), (.int .i64 (.ofNat 0)), (.bool false), (.int .i64 (.ofNat 0)), (.string ⟨⟨[]⟩⟩), (.slice none 0 0)] 28, none⟩,
  ⟨none, .store 9 (.tmp 5) (.tmp 12), none⟩] none
def f68r5 : ICode := .region [
  ⟨(some 13), .fieldAddr 0 (.tmp 5), none⟩,
  ⟨(some 14), .load1 (.tmp 13), none⟩,
  ⟨(some 15), .bin .neq (.tmp 14) (.const (.int .i64 (.ofNat 0))), none⟩] none
def f68r6 : ICode := .region [
  ⟨(some 16), .move (.tmp 3), none⟩,
  ⟨(some 17), .loadN 9 (.tmp 5), none⟩,
  ⟨(some 18), .buildSlice 28 1 [(.int .i64 (.ofNat 0)), (.slice none 0 0), (.bool false), (.int .i64 (.ofNat 0)), (.int .i64 (.ofNat 0)), (.bool false), (.int .i64 (.ofNat 0)), (.string ⟨⟨[]⟩⟩), (.slice none 0 0)] [(0, 9, (.tmp 17))], none⟩,
  ⟨(some 19), .append 28 9 112 (.tmp 16) (.tmp 18), none⟩,
  ⟨(some 3), .move (.tmp 19), none⟩] none
def f68r7 : ICode := .region [
  ⟨(some 20), .bin .add (.tmp 9) (.const (.int .i64 (.ofNat 1))), none⟩,
  ⟨(some 9), .move (.tmp 20), none⟩] none
def f68r8 : ICode := .region [
  ⟨(some 21), .move (.tmp 3), none⟩,
  ⟨(some 22), .call 69 [(.const (.int .i64 (.ofNat 8))), (.tmp 21)], none⟩,
  ⟨none, .store 9 (.tmp 2) (.tmp 22), none⟩] none
/- ferret/simple.row -/
def f68 : IFn := ⟨23, [.inr (2, (some 9))], (.seq f68r0 (.seq f68r1 (.seq (.seq f68r2 (.block 0 (.loop (.seq f68r3 (.seq (.cond (.tmp 10) .skip (.exit 0)) (.seq (.block 1 (.seq f68r4 (.seq f68r5 (.cond (.tmp 15) f68r6 .skip)))) f68r7)))))) (.seq f68r8 .ret))))⟩
def f70r0 : ICode := .region [
  ⟨(some 4), .move (.const (.slice none 0 0)), none⟩] none
def f70r1 : ICode := .region [
  ⟨(some 5), .move (.const (.slice none 0 0)), none⟩] none
def f70r2 : ICode := .region [
  ⟨(some 8), .move (.tmp 0), none⟩,
  ⟨(some 9), .len 1 (.tmp 8), none⟩,
  ⟨(some 10), .move (.const (.int .i64 (.ofNat 0))), none⟩] none
def f70r3 : ICode := .region [
  ⟨(some 11), .bin .lss (.tmp 10) (.tmp 9), none⟩] none
def f70r4 : ICode := .region [
  ⟨(some 12), .indexSl 9 (.tmp 8) (.tmp 10), none⟩,
  ⟨(some 13), .loadN 9 (.tmp 12), none⟩,
  ⟨(some 7), .new [(.int .i64 (.ofNat 0)), (.slice none 0 0), (.bool false), (.int .i64 (.ofNat 0)), (.int .i64 (.ofNat 0)), (.bool false), (.int .i64 (.ofNat 0)), (.string ⟨⟨[]⟩⟩), (.slice none 0 0)] 28, none⟩,
  ⟨none, .store 9 (.tmp 7) (.tmp 13), none⟩] none
def f70r5 : ICode := .region [
  ⟨(some 14), .fieldAddr 0 (.tmp 7), none⟩,
  ⟨(some 15), .load1 (.tmp 14), none⟩,
  ⟨(some 16), .move (.tmp 1), none⟩,
  ⟨(some 17), .bin .eql (.tmp 15) (.tmp 16), none⟩] none
def f70r6 : ICode := .region [
  ⟨(some 18), .move (.tmp 5), none⟩,
  ⟨(some 19), .fieldAddr 8 (.tmp 7), none⟩,
  ⟨(some 20), .load1 (.tmp 19), none⟩,
  ⟨(some 21), .append 28 9 112 (.tmp 18) (.tmp 20), none⟩,
  ⟨(some 5), .move (.tmp 21), none⟩] none
def f70r7 : ICode := .region [
  ⟨(some 22), .move (.tmp 5), none⟩,
  ⟨(some 23), .loadN 9 (.tmp 7), none⟩,
  ⟨(some 24), .buildSlice 28 1 [(.int .i64 (.ofNat 0)), (.slice none 0 0), (.bool false), (.int .i64 (.ofNat 0)), (.int .i64 (.ofNat 0)), (.bool false), (.int .i64 (.ofNat 0)), (.string ⟨⟨[]⟩⟩), (.slice none 0 0)] [(0, 9, (.tmp 23))], none⟩,
  ⟨(some 25), .append 28 9 112 (.tmp 22) (.tmp 24), none⟩,
  ⟨(some 5), .move (.tmp 25), none⟩] none
def f70r8 : ICode := .region [
  ⟨(some 26), .bin .add (.tmp 10) (.const (.int .i64 (.ofNat 1))), none⟩,
  ⟨(some 10), .move (.tmp 26), none⟩] none
def f70r9 : ICode := .region [
  ⟨(some 27), .move (.tmp 5), none⟩,
  ⟨(some 4), .move (.tmp 27), none⟩] none
/- ferret/simple.flat -/
def f70 : IFn := ⟨28, [.inl 4], (.seq f70r0 (.seq f70r1 (.seq (.seq f70r2 (.block 0 (.loop (.seq f70r3 (.seq (.cond (.tmp 11) .skip (.exit 0)) (.seq (.block 1 (.seq f70r4 (.seq f70r5 (.cond (.tmp 17) f70r6 f70r7)))) f70r8)))))) (.seq f70r9 .ret))))⟩
def f69r0 : ICode := .region [
  ⟨(some 4), .new [(.int .i64 (.ofNat 0)), (.slice none 0 0), (.bool false), (.int .i64 (.ofNat 0)), (.int .i64 (.ofNat 0)), (.bool false), (.int .i64 (.ofNat 0)), (.string ⟨⟨[]⟩⟩), (.slice none 0 0)] 28, none⟩] none
def f69r1 : ICode := .region [
  ⟨(some 5), .move (.tmp 1), none⟩,
  ⟨(some 6), .len 1 (.tmp 5), none⟩] none
def f69r2 : ICode := .region [
  ⟨(some 8), .bin .eql (.tmp 6) (.const (.int .i64 (.ofNat 0))), none⟩,
  ⟨(some 7), .move (.tmp 8), none⟩] none
def f69r3 : ICode := .region [
  ⟨(some 9), .build [(.int .i64 (.ofNat 0)), (.slice none 0 0), (.bool false), (.int .i64 (.ofNat 0)), (.int .i64 (.ofNat 0)), (.bool false), (.int .i64 (.ofNat 0)), (.string ⟨⟨[]⟩⟩), (.slice none 0 0)] [], none⟩,
  ⟨none, .store 9 (.tmp 4) (.tmp 9), none⟩] none
def f69r4 : ICode := .region [
  ⟨(some 11), .bin .eql (.tmp 6) (.const (.int .i64 (.ofNat 1))), none⟩,
  ⟨(some 10), .move (.tmp 11), none⟩] none
def f69r5 : ICode := .region [
  ⟨(some 12), .move (.tmp 1), none⟩,
  ⟨(some 13), .indexSl 9 (.tmp 12) (.const (.int .i64 (.ofNat 0))), none⟩,
  ⟨(some 14), .loadN 9 (.tmp 13), none⟩,
  ⟨none, .store 9 (.tmp 4) (.tmp 14), none⟩] none
def f69r6 : ICode := .region [
  ⟨(some 15), .move (.tmp 0), none⟩,
  ⟨(some 16), .move (.tmp 1), none⟩,
  ⟨(some 17), .build [(.int .i64 (.ofNat 0)), (.slice none 0 0), (.bool false), (.int .i64 (.ofNat 0)), (.int .i64 (.ofNat 0)), (.bool false), (.int .i64 (.ofNat 0)), (.string ⟨⟨[]⟩⟩), (.slice none 0 0)] [(0, 1, (.tmp 15)), (8, 1, (.tmp 16))], none⟩,
  ⟨none, .store 9 (.tmp 4) (.tmp 17), none⟩] none
/- ferret/simple.whole -/
def f69 : IFn := ⟨18, [.inr (4, (some 9))], (.seq f69r0 (.seq (.seq f69r1 (.block 0 (.seq f69r2 (.cond (.tmp 7) (.seq f69r3 .ret) (.seq f69r4 (.cond (.tmp 10) (.seq f69r5 .ret) .skip)))))) (.seq f69r6 .ret)))⟩
def f71r0 : ICode := .region [
  ⟨(some 2), .box 28 (.tmp 0), none⟩,
  ⟨(some 3), .box 28 (.tmp 1), none⟩,
  ⟨(some 4), .new [(.int .i64 (.ofNat 0)), (.slice none 0 0), (.bool false), (.int .i64 (.ofNat 0)), (.int .i64 (.ofNat 0)), (.bool false), (.int .i64 (.ofNat 0)), (.string ⟨⟨[]⟩⟩), (.slice none 0 0)] 28, none⟩] none
def f71r1 : ICode := .region [
  ⟨(some 8), .mkFunc (.func 91) [] [(.tmp 2)], none⟩,
  ⟨(some 5), .move (.tmp 8), none⟩] none
def f71r2 : ICode := .region [
  ⟨(some 6), .move (.const (.slice none 0 0)), none⟩] none
def f71r3 : ICode := .region [
  ⟨(some 9), .fieldAddr 3 (.tmp 2), none⟩,
  ⟨(some 10), .load1 (.tmp 9), none⟩,
  ⟨(some 11), .move (.const (.int .i64 (.ofNat 0))), none⟩] none
def f71r4 : ICode := .region [
  ⟨(some 12), .bin .lss (.tmp 11) (.tmp 10), none⟩] none
def f71r5 : ICode := .region [
  ⟨(some 13), .move (.tmp 6), none⟩,
  ⟨(some 14), .loadN 9 (.tmp 3), none⟩,
  ⟨(some 15), .buildSlice 28 1 [(.int .i64 (.ofNat 0)), (.slice none 0 0), (.bool false), (.int .i64 (.ofNat 0)), (.int .i64 (.ofNat 0)), (.bool false), (.int .i64 (.ofNat 0)), (.string ⟨⟨[]⟩⟩), (.slice none 0 0)] [(0, 9, (.tmp 14))], none⟩,
  ⟨(some 16), .append 28 9 112 (.tmp 13) (.tmp 15), none⟩,
  ⟨(some 6), .move (.tmp 16), none⟩] none
def f71r6 : ICode := .region [
  ⟨(some 17), .bin .add (.tmp 11) (.const (.int .i64 (.ofNat 1))), none⟩,
  ⟨(some 11), .move (.tmp 17), none⟩] none
def f71r7 : ICode := .region [
  ⟨(some 18), .fieldAddr 4 (.tmp 2), none⟩,
  ⟨(some 19), .load1 (.tmp 18), none⟩,
  ⟨(some 20), .bin .eql (.tmp 19) (.const (.int .i64 (.negSucc 0))), none⟩] none
def f71r8 : ICode := .region [
  ⟨(some 21), .move (.tmp 6), none⟩,
  ⟨(some 22), .move (.tmp 5), none⟩,
  ⟨(some 23), .loadN 9 (.tmp 3), none⟩,
  ⟨(some 24), .callv (.tmp 22) [(.tmp 23), (.const (.int .i64 (.negSucc 0)))], none⟩,
  ⟨(some 25), .buildSlice 28 1 [(.int .i64 (.ofNat 0)), (.slice none 0 0), (.bool false), (.int .i64 (.ofNat 0)), (.int .i64 (.ofNat 0)), (.bool false), (.int .i64 (.ofNat 0)), (.string ⟨⟨[]⟩⟩), (.slice none 0 0)] [(0, 9, (.tmp 24))], none⟩,
  ⟨(some 26), .append 28 9 112 (.tmp 21) (.tmp 25), none⟩,
  ⟨(some 27), .call 68 [(.tmp 26)], none⟩,
  ⟨none, .store 9 (.tmp 4) (.tmp 27), none⟩] none
def f71r9 : ICode := .region [
  ⟨(some 7), .new [(.int .i64 (.ofNat 0)), (.slice none 0 0), (.bool false), (.int .i64 (.ofNat 0)), (.int .i64 (.ofNat 0)), (.bool false), (.int .i64 (.ofNat 0)), (.string ⟨⟨[]⟩⟩), (.slice none 0 0)] 28, none⟩] none
def f71r10 : ICode := .region [
  ⟨(some 28), .fieldAddr 4 (.tmp 2), none⟩,
  ⟨(some 29), .load1 (.tmp 28), none⟩,
  ⟨(some 30), .fieldAddr 3 (.tmp 2), none⟩,
  ⟨(some 31), .load1 (.tmp 30), none⟩,
  ⟨(some 32), .bin .sub (.tmp 29) (.tmp 31), none⟩,
  ⟨(some 33), .move (.const (.int .i64 (.ofNat 0))), none⟩] none
def f71r11 : ICode := .region [
  ⟨(some 34), .bin .lss (.tmp 33) (.tmp 32), none⟩] none
def f71r12 : ICode := .region [
  ⟨(some 35), .move (.tmp 5), none⟩,
  ⟨(some 36), .loadN 9 (.tmp 3), none⟩,
  ⟨(some 37), .loadN 9 (.tmp 7), none⟩,
  ⟨(some 38), .buildSlice 28 2 [(.int .i64 (.ofNat 0)), (.slice none 0 0), (.bool false), (.int .i64 (.ofNat 0)), (.int .i64 (.ofNat 0)), (.bool false), (.int .i64 (.ofNat 0)), (.string ⟨⟨[]⟩⟩), (.slice none 0 0), (.int .i64 (.ofNat 0)), (.slice none 0 0), (.bool false), (.int .i64 (.ofNat 0)), (.int .i64 (.ofNat 0)), (.bool false), (.int .i64 (.ofNat 0)), (.string ⟨⟨[]⟩⟩), (.slice none 0 0)] [(0, 9, (.tmp 36)), (9, 9, (.tmp 37))], none⟩,
  ⟨(some 39), .call 68 [(.tmp 38)], none⟩,
  ⟨(some 40), .callv (.tmp 35) [(.tmp 39), (.const (.int .i64 (.ofNat 1)))], none⟩,
  ⟨none, .store 9 (.tmp 7) (.tmp 40), none⟩] none
def f71r13 : ICode := .region [
  ⟨(some 41), .bin .add (.tmp 33) (.const (.int .i64 (.ofNat 1))), none⟩,
  ⟨(some 33), .move (.tmp 41), none⟩] none
def f71r14 : ICode := .region [
  ⟨(some 42), .move (.tmp 6), none⟩,
  ⟨(some 43), .loadN 9 (.tmp 7), none⟩,
  ⟨(some 44), .buildSlice 28 1 [(.int .i64 (.ofNat 0)), (.slice none 0 0), (.bool false), (.int .i64 (.ofNat 0)), (.int .i64 (.ofNat 0)), (.bool false), (.int .i64 (.ofNat 0)), (.string ⟨⟨[]⟩⟩), (.slice none 0 0)] [(0, 9, (.tmp 43))], none⟩,
  ⟨(some 45), .append 28 9 112 (.tmp 42) (.tmp 44), none⟩,
  ⟨(some 46), .call 68 [(.tmp 45)], none⟩,
  ⟨none, .store 9 (.tmp 4) (.tmp 46), none⟩] none
/- ferret/simple.repeat -/
def f71 : IFn := ⟨47, [.inr (4, (some 9))], (.seq f71r0 (.seq f71r1 (.seq f71r2 (.seq (.seq f71r3 (.block 0 (.loop (.seq f71r4 (.seq (.cond (.tmp 12) .skip (.exit 0)) (.seq (.block 1 f71r5) f71r6)))))) (.seq (.seq f71r7 (.cond (.tmp 20) (.seq f71r8 .ret) .skip)) (.seq f71r9 (.seq (.seq f71r10 (.block 2 (.loop (.seq f71r11 (.seq (.cond (.tmp 34) .skip (.exit 2)) (.seq (.block 3 f71r12) f71r13)))))) (.seq f71r14 .ret))))))))⟩
def f72r0 : ICode := .region [
  ⟨(some 6), .load1 (.tmp 1), none⟩,
  ⟨(some 7), .move (.tmp 0), none⟩,
  ⟨(some 8), .indexSl 1 (.tmp 6) (.tmp 7), none⟩,
  ⟨(some 9), .load1 (.tmp 8), none⟩,
  ⟨(some 10), .len 1 (.tmp 9), none⟩,
  ⟨(some 11), .move (.const (.int .i64 (.ofNat 0))), none⟩] none
def f72r1 : ICode := .region [
  ⟨(some 12), .bin .lss (.tmp 11) (.tmp 10), none⟩] none
def f72r2 : ICode := .region [
  ⟨(some 13), .indexSl 2 (.tmp 9) (.tmp 11), none⟩,
  ⟨(some 14), .loadN 2 (.tmp 13), none⟩,
  ⟨(some 5), .new [(.int .i64 (.ofNat 0)), (.int .i64 (.ofNat 0))] 53, none⟩,
  ⟨none, .store 2 (.tmp 5) (.tmp 14), none⟩] none
def f72r3 : ICode := .region [
  ⟨(some 15), .load1 (.tmp 2), none⟩,
  ⟨(some 16), .loadN 2 (.tmp 5), none⟩,
  ⟨(some 17), .build [(.int .i64 (.ofNat 0)), (.int .i64 (.ofNat 0)), (.int .i64 (.ofNat 0)), (.int .i64 (.ofNat 0)), (.int .i64 (.ofNat 0))] [(0, 1, (.const (.int .i64 (.ofNat 0)))), (3, 2, (.tmp 16))], none⟩,
  ⟨(some 18), .call 23 [(.tmp 15), (.tmp 17)], none⟩] none
def f72r4 : ICode := .region [
  ⟨(some 19), .bin .add (.tmp 11) (.const (.int .i64 (.ofNat 1))), none⟩,
  ⟨(some 11), .move (.tmp 19), none⟩] none
/- (*ferret/prog.compiler).class$1 -/
def f72 : IFn := ⟨20, [], (.seq f72r0 (.block 0 (.loop (.seq f72r1 (.seq (.cond (.tmp 12) .skip (.exit 0)) (.seq (.block 1 (.seq f72r2 f72r3)) f72r4))))))⟩
def f74r0 : ICode := .region [
  ⟨(some 2), .move (.const (.string ⟨⟨[]⟩⟩)), none⟩] none
def f74r1 : ICode := .region [
  ⟨(some 3), .move (.tmp 0), none⟩,
  ⟨(some 4), .call 93 [(.tmp 3), (.const (.int .i64 (.ofNat 10)))], none⟩,
  ⟨(some 2), .move (.tmp 4), none⟩] none
/- internal/strconv.Itoa -/
def f74 : IFn := ⟨5, [.inl 2], (.seq f74r0 (.seq f74r1 .ret))⟩
def f73r0 : ICode := .region [
  ⟨(some 2), .move (.tmp 0), none⟩,
  ⟨(some 3), .nilCheck (.tmp 2), none⟩,
  ⟨(some 4), .fieldAddr 0 (.tmp 3), none⟩,
  ⟨(some 5), .load1 (.tmp 4), none⟩,
  ⟨(some 6), .nilEq false 0 (.tmp 5) (.const (.pointer none)), none⟩] none
def f73r1 : ICode := .region [
  ⟨(some 7), .move (.tmp 0), none⟩,
  ⟨(some 8), .move (.tmp 0), none⟩,
  ⟨(some 9), .ptrTo (.tmp 8), none⟩,
  ⟨(some 10), .call 92 [(.tmp 9)], none⟩,
  ⟨(some 11), .ptrFrom 102 2 (.tmp 10), none⟩,
  ⟨(some 12), .nilCheck (.tmp 7), none⟩,
  ⟨(some 13), .fieldAddr 0 (.tmp 12), none⟩,
  ⟨none, .store 1 (.tmp 13) (.tmp 11), none⟩] none
def f73r2 : ICode := .region [
  ⟨(some 14), .move (.tmp 0), none⟩,
  ⟨(some 15), .nilCheck (.tmp 14), none⟩,
  ⟨(some 16), .fieldAddr 0 (.tmp 15), none⟩,
  ⟨(some 17), .load1 (.tmp 16), none⟩,
  ⟨(some 18), .move (.tmp 0), none⟩,
  ⟨(some 19), .nilEq true 0 (.tmp 17) (.tmp 18), none⟩] none
/- (*strings.Builder).copyCheck -/
def f73 : IFn := ⟨20, [], (.seq f73r0 (.cond (.tmp 6) f73r1 (.seq f73r2 (.cond (.tmp 19) .bad .skip))))⟩
def f75r0 : ICode := .region [
  ⟨(some 2), .move (.const (.int .i64 (.ofNat 0))), none⟩,
  ⟨(some 3), .move (.const (.int .u8 (.ofNat 0))), none⟩,
  ⟨(some 4), .move (.const (.int .u8 (.ofNat 0))), none⟩,
  ⟨(some 5), .move (.const (.int .i64 (.ofNat 0))), none⟩] none
def f75r1 : ICode := .region [
  ⟨(some 10), .move (.tmp 0), none⟩,
  ⟨(some 11), .bin .lss (.tmp 10) (.const (.int .u8 (.ofNat 128))), none⟩,
  ⟨(some 9), .move (.tmp 11), none⟩] none
def f75r2 : ICode := .region [
  ⟨(some 12), .move (.tmp 0), none⟩,
  ⟨(some 13), .conv .i64 (.tmp 12), none⟩,
  ⟨(some 2), .move (.const (.int .i64 (.ofNat 0))), none⟩,
  ⟨(some 3), .move (.const (.int .u8 (.ofNat 0))), none⟩,
  ⟨(some 4), .move (.const (.int .u8 (.ofNat 0))), none⟩,
  ⟨(some 5), .move (.tmp 13), none⟩] none
def f75r3 : ICode := .region [
  ⟨(some 15), .move (.tmp 0), none⟩,
  ⟨(some 16), .bin .lss (.tmp 15) (.const (.int .u8 (.ofNat 194))), none⟩,
  ⟨(some 17), .move (.tmp 16), none⟩,
  ⟨(some 18), .move (.tmp 0), (some ((some 17), false))⟩,
  ⟨(some 19), .bin .gtr (.tmp 18) (.const (.int .u8 (.ofNat 244))), (some ((some 17), false))⟩,
  ⟨(some 20), .pick (.tmp 17) (.const (.bool true)) (.tmp 19), none⟩,
  ⟨(some 14), .move (.tmp 20), none⟩] none
def f75r4 : ICode := .region [
  ⟨(some 2), .move (.const (.int .i64 (.negSucc 0))), none⟩,
  ⟨(some 3), .move (.const (.int .u8 (.ofNat 0))), none⟩,
  ⟨(some 4), .move (.const (.int .u8 (.ofNat 0))), none⟩,
  ⟨(some 5), .move (.const (.int .i64 (.ofNat 0))), none⟩] none
def f75r5 : ICode := .region [
  ⟨(some 22), .move (.tmp 0), none⟩,
  ⟨(some 23), .bin .lss (.tmp 22) (.const (.int .u8 (.ofNat 224))), none⟩,
  ⟨(some 21), .move (.tmp 23), none⟩] none
def f75r6 : ICode := .region [
  ⟨(some 24), .move (.tmp 0), none⟩,
  ⟨(some 25), .bin .and (.tmp 24) (.const (.int .u8 (.ofNat 31))), none⟩,
  ⟨(some 26), .conv .i64 (.tmp 25), none⟩,
  ⟨(some 2), .move (.const (.int .i64 (.ofNat 1))), none⟩,
  ⟨(some 5), .move (.tmp 26), none⟩] none
def f75r7 : ICode := .region [
  ⟨(some 28), .move (.tmp 0), none⟩,
  ⟨(some 29), .bin .lss (.tmp 28) (.const (.int .u8 (.ofNat 240))), none⟩,
  ⟨(some 27), .move (.tmp 29), none⟩] none
def f75r8 : ICode := .region [
  ⟨(some 30), .move (.tmp 0), none⟩,
  ⟨(some 31), .bin .and (.tmp 30) (.const (.int .u8 (.ofNat 15))), none⟩,
  ⟨(some 32), .conv .i64 (.tmp 31), none⟩,
  ⟨(some 2), .move (.const (.int .i64 (.ofNat 2))), none⟩,
  ⟨(some 5), .move (.tmp 32), none⟩] none
def f75r9 : ICode := .region [
  ⟨(some 6), .move (.tmp 0), none⟩,
  ⟨(some 7), .bin .and (.tmp 6) (.const (.int .u8 (.ofNat 7))), none⟩,
  ⟨(some 8), .conv .i64 (.tmp 7), none⟩,
  ⟨(some 2), .move (.const (.int .i64 (.ofNat 3))), none⟩,
  ⟨(some 5), .move (.tmp 8), none⟩] none
def f75r10 : ICode := .region [
  ⟨(some 3), .move (.const (.int .u8 (.ofNat 128))), none⟩,
  ⟨(some 4), .move (.const (.int .u8 (.ofNat 191))), none⟩] none
def f75r11 : ICode := .region [
  ⟨(some 33), .move (.tmp 0), none⟩] none
def f75r12 : ICode := .region [
  ⟨(some 35), .bin .eql (.tmp 33) (.const (.int .u8 (.ofNat 224))), none⟩,
  ⟨(some 34), .move (.tmp 35), none⟩] none
def f75r13 : ICode := .region [
  ⟨(some 3), .move (.const (.int .u8 (.ofNat 160))), none⟩] none
def f75r14 : ICode := .region [
  ⟨(some 37), .bin .eql (.tmp 33) (.const (.int .u8 (.ofNat 237))), none⟩,
  ⟨(some 36), .move (.tmp 37), none⟩] none
def f75r15 : ICode := .region [
  ⟨(some 4), .move (.const (.int .u8 (.ofNat 159))), none⟩] none
def f75r16 : ICode := .region [
  ⟨(some 39), .bin .eql (.tmp 33) (.const (.int .u8 (.ofNat 240))), none⟩,
  ⟨(some 38), .move (.tmp 39), none⟩] none
def f75r17 : ICode := .region [
  ⟨(some 3), .move (.const (.int .u8 (.ofNat 144))), none⟩] none
def f75r18 : ICode := .region [
  ⟨(some 41), .bin .eql (.tmp 33) (.const (.int .u8 (.ofNat 244))), none⟩,
  ⟨(some 40), .move (.tmp 41), none⟩] none
def f75r19 : ICode := .region [
  ⟨(some 4), .move (.const (.int .u8 (.ofNat 143))), none⟩] none
def f75r20 : ICode := .region [
  ⟨(some 42), .move (.tmp 2), none⟩,
  ⟨(some 43), .move (.tmp 3), none⟩,
  ⟨(some 44), .move (.tmp 4), none⟩,
  ⟨(some 45), .move (.tmp 5), none⟩,
  ⟨(some 2), .move (.tmp 42), none⟩,
  ⟨(some 3), .move (.tmp 43), none⟩,
  ⟨(some 4), .move (.tmp 44), none⟩,
  ⟨(some 5), .move (.tmp 45), none⟩] none
/- ferret/coding.shape -/
def f75 : IFn := ⟨46, [.inl 2, .inl 3, .inl 4, .inl 5], (.seq f75r0 (.seq (.block 0 (.seq f75r1 (.cond (.tmp 9) (.seq f75r2 .ret) (.seq f75r3 (.cond (.tmp 14) (.seq f75r4 .ret) (.seq f75r5 (.cond (.tmp 21) f75r6 (.seq f75r7 (.cond (.tmp 27) f75r8 f75r9))))))))) (.seq f75r10 (.seq (.seq f75r11 (.block 1 (.seq f75r12 (.cond (.tmp 34) f75r13 (.seq f75r14 (.cond (.tmp 36) f75r15 (.seq f75r16 (.cond (.tmp 38) f75r17 (.seq f75r18 (.cond (.tmp 40) f75r19 .skip)))))))))) (.seq f75r20 .ret)))))⟩
def f56r0 : ICode := .region [
  ⟨(some 2), .box 9 (.tmp 0), none⟩,
  ⟨(some 3), .box 4 (.tmp 1), none⟩,
  ⟨(some 4), .move (.const (.int .i64 (.ofNat 0))), none⟩,
  ⟨(some 5), .move (.const (.int .i64 (.ofNat 0))), none⟩] none
def f56r1 : ICode := .region [
  ⟨(some 9), .mkFunc (.func 76) [] [(.tmp 2), (.tmp 3)], none⟩,
  ⟨(some 6), .move (.tmp 9), none⟩] none
def f56r2 : ICode := .region [
  ⟨(some 10), .move (.tmp 6), none⟩,
  ⟨(some 11), .callv (.tmp 10) [(.const (.int .i64 (.ofNat 0)))], none⟩,
  ⟨(some 7), .move (.tmp 11), none⟩] none
def f56r3 : ICode := .region [
  ⟨(some 13), .move (.tmp 7), none⟩,
  ⟨(some 14), .bin .lss (.tmp 13) (.const (.int .i64 (.ofNat 0))), none⟩,
  ⟨(some 12), .move (.tmp 14), none⟩] none
def f56r4 : ICode := .region [
  ⟨(some 4), .move (.const (.int .i64 (.negSucc 0))), none⟩,
  ⟨(some 5), .move (.const (.int .i64 (.ofNat 1))), none⟩] none
def f56r5 : ICode := .region [
  ⟨(some 16), .move (.tmp 7), none⟩,
  ⟨(some 17), .bin .lss (.tmp 16) (.const (.int .i64 (.ofNat 55296))), none⟩,
  ⟨(some 18), .move (.tmp 17), none⟩,
  ⟨(some 19), .move (.tmp 7), (some ((some 18), false))⟩,
  ⟨(some 20), .bin .gtr (.tmp 19) (.const (.int .i64 (.ofNat 57343))), (some ((some 18), false))⟩,
  ⟨(some 21), .pick (.tmp 18) (.const (.bool true)) (.tmp 20), none⟩,
  ⟨(some 15), .move (.tmp 21), none⟩] none
def f56r6 : ICode := .region [
  ⟨(some 22), .move (.tmp 7), none⟩,
  ⟨(some 4), .move (.tmp 22), none⟩,
  ⟨(some 5), .move (.const (.int .i64 (.ofNat 2))), none⟩] none
def f56r7 : ICode := .region [
  ⟨(some 24), .move (.tmp 7), none⟩,
  ⟨(some 25), .bin .geq (.tmp 24) (.const (.int .i64 (.ofNat 56320))), none⟩,
  ⟨(some 23), .move (.tmp 25), none⟩] none
def f56r8 : ICode := .region [
  ⟨(some 4), .move (.const (.int .i64 (.negSucc 0))), none⟩,
  ⟨(some 5), .move (.const (.int .i64 (.ofNat 2))), none⟩] none
def f56r9 : ICode := .region [
  ⟨(some 26), .move (.tmp 6), none⟩,
  ⟨(some 27), .callv (.tmp 26) [(.const (.int .i64 (.ofNat 2)))], none⟩,
  ⟨(some 8), .move (.tmp 27), none⟩] none
def f56r10 : ICode := .region [
  ⟨(some 28), .move (.tmp 8), none⟩,
  ⟨(some 29), .bin .lss (.tmp 28) (.const (.int .i64 (.ofNat 56320))), none⟩,
  ⟨(some 30), .move (.tmp 29), none⟩,
  ⟨(some 31), .move (.tmp 8), (some ((some 30), false))⟩,
  ⟨(some 32), .bin .gtr (.tmp 31) (.const (.int .i64 (.ofNat 57343))), (some ((some 30), false))⟩,
  ⟨(some 33), .pick (.tmp 30) (.const (.bool true)) (.tmp 32), none⟩] none
def f56r11 : ICode := .region [
  ⟨(some 4), .move (.const (.int .i64 (.negSucc 0))), none⟩,
  ⟨(some 5), .move (.const (.int .i64 (.ofNat 2))), none⟩] none
def f56r12 : ICode := .region [
  ⟨(some 34), .move (.tmp 7), none⟩,
  ⟨(some 35), .bin .sub (.tmp 34) (.const (.int .i64 (.ofNat 55296))), none⟩,
  ⟨(some 36), .bin .shl (.tmp 35) (.const (.int .u64 (.ofNat 10))), none⟩,
  ⟨(some 37), .bin .add (.const (.int .i64 (.ofNat 65536))) (.tmp 36), none⟩,
  ⟨(some 38), .move (.tmp 8), none⟩,
  ⟨(some 39), .bin .add (.tmp 37) (.tmp 38), none⟩,
  ⟨(some 40), .bin .sub (.tmp 39) (.const (.int .i64 (.ofNat 56320))), none⟩,
  ⟨(some 4), .move (.tmp 40), none⟩,
  ⟨(some 5), .move (.const (.int .i64 (.ofNat 4))), none⟩] none
/- ferret/coding.wide -/
def f56 : IFn := ⟨41, [.inl 4, .inl 5], (.seq f56r0 (.seq f56r1 (.seq f56r2 (.seq (.block 0 (.seq f56r3 (.cond (.tmp 12) (.seq f56r4 .ret) (.seq f56r5 (.cond (.tmp 15) (.seq f56r6 .ret) (.seq f56r7 (.cond (.tmp 23) (.seq f56r8 .ret) .skip))))))) (.seq f56r9 (.seq (.seq f56r10 (.cond (.tmp 33) (.seq f56r11 .ret) .skip)) (.seq f56r12 .ret)))))))⟩
def f77r0 : ICode := .region [
  ⟨(some 2), .move (.const (.int .i64 (.ofNat 0))), none⟩,
  ⟨(some 3), .move (.const (.bool false)), none⟩] none
def f77r1 : ICode := .region [
  ⟨(some 4), .move (.const (.int .i64 (.ofNat 0))), none⟩,
  ⟨(some 5), .move (.const (.int .i64 (.ofNat 0))), none⟩] none
def f77r2 : ICode := .region [
  ⟨(some 6), .move (.tmp 5), none⟩,
  ⟨(some 7), .bin .lss (.tmp 6) (.const (.int .i64 (.ofNat 4))), none⟩,
  ⟨(some 8), .move (.tmp 7), none⟩,
  ⟨(some 9), .move (.tmp 0), (some ((some 8), true))⟩,
  ⟨(some 10), .call 59 [(.tmp 9), (.const (.int .i64 (.ofNat 0)))], (some ((some 8), true))⟩,
  ⟨(some 11), .bin .geq (.tmp 10) (.const (.int .i64 (.ofNat 48))), (some ((some 8), true))⟩,
  ⟨(some 12), .pick (.tmp 8) (.tmp 11) (.const (.bool false)), none⟩,
  ⟨(some 13), .move (.tmp 12), none⟩,
  ⟨(some 14), .move (.tmp 0), (some ((some 13), true))⟩,
  ⟨(some 15), .call 59 [(.tmp 14), (.const (.int .i64 (.ofNat 0)))], (some ((some 13), true))⟩,
  ⟨(some 16), .bin .leq (.tmp 15) (.const (.int .i64 (.ofNat 57))), (some ((some 13), true))⟩,
  ⟨(some 17), .pick (.tmp 13) (.tmp 16) (.const (.bool false)), none⟩] none
def f77r3 : ICode := .region [
  ⟨(some 18), .move (.tmp 4), none⟩,
  ⟨(some 19), .bin .mul (.const (.int .i64 (.ofNat 10))) (.tmp 18), none⟩,
  ⟨(some 20), .move (.tmp 0), none⟩,
  ⟨(some 21), .call 59 [(.tmp 20), (.const (.int .i64 (.ofNat 0)))], none⟩,
  ⟨(some 22), .bin .add (.tmp 19) (.tmp 21), none⟩,
  ⟨(some 23), .bin .sub (.tmp 22) (.const (.int .i64 (.ofNat 48))), none⟩,
  ⟨(some 4), .move (.tmp 23), none⟩] none
def f77r4 : ICode := .region [
  ⟨(some 24), .move (.tmp 0), none⟩,
  ⟨(some 25), .nilCheck (.tmp 24), none⟩,
  ⟨(some 26), .fieldAddr 4 (.tmp 25), none⟩,
  ⟨(some 27), .load1 (.tmp 26), none⟩,
  ⟨(some 28), .bin .add (.tmp 27) (.const (.int .i64 (.ofNat 1))), none⟩,
  ⟨(some 29), .nilCheck (.tmp 24), none⟩,
  ⟨(some 30), .fieldAddr 4 (.tmp 29), none⟩,
  ⟨none, .store 1 (.tmp 30) (.tmp 28), none⟩] none
def f77r5 : ICode := .region [
  ⟨(some 31), .move (.tmp 5), none⟩,
  ⟨(some 32), .bin .add (.tmp 31) (.const (.int .i64 (.ofNat 1))), none⟩,
  ⟨(some 5), .move (.tmp 32), none⟩] none
def f77r6 : ICode := .region [
  ⟨(some 33), .move (.tmp 4), none⟩,
  ⟨(some 34), .move (.tmp 5), none⟩,
  ⟨(some 35), .bin .gtr (.tmp 34) (.const (.int .i64 (.ofNat 0))), none⟩,
  ⟨(some 2), .move (.tmp 33), none⟩,
  ⟨(some 3), .move (.tmp 35), none⟩] none
/- (*ferret/syn.parser).digits -/
def f77 : IFn := ⟨36, [.inl 2, .inl 3], (.seq f77r0 (.seq f77r1 (.seq (.block 0 (.loop (.seq (.seq f77r2 (.cond (.tmp 17) .skip (.exit 0))) (.block 1 (.seq f77r3 (.seq f77r4 f77r5)))))) (.seq f77r6 .ret))))⟩
end Go.Am.Zd
