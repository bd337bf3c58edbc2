import Derived.Test.YtikphefllmemjaaGreatAm22
/-
The table of the program for the engine: printed by a program of mine.
-/
namespace Go.Am.Zt
open Go Go.Am
set_option maxRecDepth 100000
def f3r0 : ICode := .region [
  ⟨(some 6), .move (.const (.bool false)), none⟩] none
def f3r1 : ICode := .region [
  ⟨(some 11), .call 8 [], none⟩,
  ⟨(some 12), .un .not (.tmp 11), none⟩] none
def f3r2 : ICode := .region [
  ⟨(some 6), .move (.const (.bool false)), none⟩] none
def f3r3 : ICode := .region [
  ⟨(some 13), .move (.tmp 0), none⟩,
  ⟨(some 14), .len 0 (.tmp 13), none⟩,
  ⟨(some 15), .bin .gtr (.tmp 14) (.const (.int .i64 (.ofNat 100))), none⟩,
  ⟨(some 16), .move (.tmp 15), none⟩,
  ⟨(some 17), .move (.tmp 1), (some ((some 16), false))⟩,
  ⟨(some 18), .len 0 (.tmp 17), (some ((some 16), false))⟩,
  ⟨(some 19), .bin .gtr (.tmp 18) (.const (.int .i64 (.ofNat 3000))), (some ((some 16), false))⟩,
  ⟨(some 20), .pick (.tmp 16) (.const (.bool true)) (.tmp 19), none⟩] none
def f3r4 : ICode := .region [
  ⟨(some 6), .move (.const (.bool true)), none⟩] none
def f3r5 : ICode := .region [
  ⟨(some 7), .move (.const (.int .i64 (.ofNat 0))), none⟩] none
def f3r6 : ICode := .region [
  ⟨(some 21), .move (.tmp 7), none⟩,
  ⟨(some 22), .move (.tmp 0), none⟩,
  ⟨(some 23), .len 0 (.tmp 22), none⟩,
  ⟨(some 24), .bin .lss (.tmp 21) (.tmp 23), none⟩] none
def f3r7 : ICode := .region [
  ⟨(some 27), .move (.tmp 0), none⟩,
  ⟨(some 28), .move (.tmp 7), none⟩,
  ⟨(some 29), .indexStr (.tmp 27) (.tmp 28), none⟩,
  ⟨(some 30), .bin .lss (.tmp 29) (.const (.int .u8 (.ofNat 97))), none⟩,
  ⟨(some 31), .move (.tmp 30), none⟩,
  ⟨(some 32), .move (.tmp 0), (some ((some 31), false))⟩,
  ⟨(some 33), .move (.tmp 7), (some ((some 31), false))⟩,
  ⟨(some 34), .indexStr (.tmp 32) (.tmp 33), (some ((some 31), false))⟩,
  ⟨(some 35), .bin .gtr (.tmp 34) (.const (.int .u8 (.ofNat 122))), (some ((some 31), false))⟩,
  ⟨(some 36), .pick (.tmp 31) (.const (.bool true)) (.tmp 35), none⟩] none
def f3r8 : ICode := .region [
  ⟨(some 6), .move (.const (.bool true)), none⟩] none
def f3r9 : ICode := .region [
  ⟨(some 25), .move (.tmp 7), none⟩,
  ⟨(some 26), .bin .add (.tmp 25) (.const (.int .i64 (.ofNat 1))), none⟩,
  ⟨(some 7), .move (.tmp 26), none⟩] none
def f3r10 : ICode := .region [
  ⟨(some 37), .move (.tmp 0), none⟩,
  ⟨(some 38), .build [(.bool false), (.bool false), (.bool false), (.bool false)] [], none⟩,
  ⟨(some 39), .move (.tmp 1), none⟩,
  ⟨(some 40), .len 0 (.tmp 39), none⟩,
  ⟨(some 41), .call 9 [(.tmp 37), (.tmp 38), (.tmp 40)], none⟩,
  ⟨(some 8), .move (.tmp 41), none⟩] none
def f3r11 : ICode := .region [
  ⟨(some 42), .move (.tmp 8), none⟩,
  ⟨(some 43), .nilEq false 0 (.tmp 42) (.const (.pointer none)), none⟩] none
def f3r12 : ICode := .region [
  ⟨(some 6), .move (.const (.bool true)), none⟩] none
def f3r13 : ICode := .region [
  ⟨(some 44), .move (.tmp 8), none⟩,
  ⟨(some 45), .nilCheck (.tmp 44), none⟩,
  ⟨(some 46), .loadN 2 (.tmp 45), none⟩,
  ⟨(some 47), .move (.tmp 1), none⟩,
  ⟨(some 48), .move (.tmp 2), none⟩,
  ⟨(some 49), .call 10 [(.tmp 46), (.tmp 47), (.tmp 48), (.const (.bool false))], none⟩,
  ⟨(some 9), .move (.tmp 49), none⟩] none
def f3r14 : ICode := .region [
  ⟨(some 50), .move (.tmp 2), none⟩,
  ⟨(some 51), .bin .lss (.tmp 50) (.const (.int .i64 (.ofNat 0))), none⟩,
  ⟨(some 52), .move (.tmp 51), none⟩,
  ⟨(some 53), .move (.tmp 2), (some ((some 52), false))⟩,
  ⟨(some 54), .move (.tmp 1), (some ((some 52), false))⟩,
  ⟨(some 55), .len 0 (.tmp 54), (some ((some 52), false))⟩,
  ⟨(some 56), .bin .gtr (.tmp 53) (.tmp 55), (some ((some 52), false))⟩,
  ⟨(some 57), .pick (.tmp 52) (.const (.bool true)) (.tmp 56), none⟩] none
def f3r15 : ICode := .region [
  ⟨(some 58), .move (.tmp 9), none⟩,
  ⟨(some 59), .len 1 (.tmp 58), none⟩,
  ⟨(some 60), .bin .eql (.tmp 59) (.const (.int .i64 (.ofNat 0))), none⟩,
  ⟨(some 6), .move (.tmp 60), none⟩] none
def f3r16 : ICode := .region [
  ⟨(some 61), .move (.tmp 2), none⟩,
  ⟨(some 10), .move (.tmp 61), none⟩] none
def f3r17 : ICode := .region [
  ⟨(some 62), .move (.tmp 10), none⟩,
  ⟨(some 63), .move (.tmp 0), none⟩,
  ⟨(some 64), .len 0 (.tmp 63), none⟩,
  ⟨(some 65), .bin .add (.tmp 62) (.tmp 64), none⟩,
  ⟨(some 66), .move (.tmp 1), none⟩,
  ⟨(some 67), .len 0 (.tmp 66), none⟩,
  ⟨(some 68), .bin .leq (.tmp 65) (.tmp 67), none⟩] none
def f3r18 : ICode := .region [
  ⟨(some 71), .move (.tmp 1), none⟩,
  ⟨(some 72), .move (.tmp 10), none⟩,
  ⟨(some 73), .move (.tmp 10), none⟩,
  ⟨(some 74), .move (.tmp 0), none⟩,
  ⟨(some 75), .len 0 (.tmp 74), none⟩,
  ⟨(some 76), .bin .add (.tmp 73) (.tmp 75), none⟩,
  ⟨(some 77), .sliceStr (.tmp 71) (some (.tmp 72)) (some (.tmp 76)), none⟩,
  ⟨(some 78), .move (.tmp 0), none⟩,
  ⟨(some 79), .bin .eql (.tmp 77) (.tmp 78), none⟩] none
def f3r19 : ICode := .region [
  ⟨(some 80), .move (.tmp 9), none⟩,
  ⟨(some 81), .len 1 (.tmp 80), none⟩,
  ⟨(some 82), .bin .eql (.tmp 81) (.const (.int .i64 (.ofNat 2))), none⟩,
  ⟨(some 83), .move (.tmp 82), none⟩,
  ⟨(some 84), .move (.tmp 9), (some ((some 83), true))⟩,
  ⟨(some 85), .indexSl 1 (.tmp 84) (.const (.int .i64 (.ofNat 0))), (some ((some 83), true))⟩,
  ⟨(some 86), .load1 (.tmp 85), (some ((some 83), true))⟩,
  ⟨(some 87), .move (.tmp 10), (some ((some 83), true))⟩,
  ⟨(some 88), .bin .eql (.tmp 86) (.tmp 87), (some ((some 83), true))⟩,
  ⟨(some 89), .pick (.tmp 83) (.tmp 88) (.const (.bool false)), none⟩,
  ⟨(some 90), .move (.tmp 89), none⟩,
  ⟨(some 91), .move (.tmp 9), (some ((some 90), true))⟩,
  ⟨(some 92), .indexSl 1 (.tmp 91) (.const (.int .i64 (.ofNat 1))), (some ((some 90), true))⟩,
  ⟨(some 93), .load1 (.tmp 92), (some ((some 90), true))⟩,
  ⟨(some 94), .move (.tmp 10), (some ((some 90), true))⟩,
  ⟨(some 95), .move (.tmp 0), (some ((some 90), true))⟩,
  ⟨(some 96), .len 0 (.tmp 95), (some ((some 90), true))⟩,
  ⟨(some 97), .bin .add (.tmp 94) (.tmp 96), (some ((some 90), true))⟩,
  ⟨(some 98), .bin .eql (.tmp 93) (.tmp 97), (some ((some 90), true))⟩,
  ⟨(some 99), .pick (.tmp 90) (.tmp 98) (.const (.bool false)), none⟩,
  ⟨(some 6), .move (.tmp 99), none⟩] none
def f3r20 : ICode := .region [
  ⟨(some 69), .move (.tmp 10), none⟩,
  ⟨(some 70), .bin .add (.tmp 69) (.const (.int .i64 (.ofNat 1))), none⟩,
  ⟨(some 10), .move (.tmp 70), none⟩] none
def f3r21 : ICode := .region [
  ⟨(some 100), .move (.tmp 9), none⟩,
  ⟨(some 101), .len 1 (.tmp 100), none⟩,
  ⟨(some 102), .bin .eql (.tmp 101) (.const (.int .i64 (.ofNat 0))), none⟩,
  ⟨(some 6), .move (.tmp 102), none⟩] none
/- ferret/ferretlaw15.PikeWords -/
def f3 : IFn := ⟨103, [.inl 6], (.seq f3r0 (.seq (.seq f3r1 (.cond (.tmp 12) (.seq f3r2 .ret) .skip)) (.seq (.seq f3r3 (.cond (.tmp 20) (.seq f3r4 .ret) .skip)) (.seq (.seq f3r5 (.block 0 (.loop (.seq (.seq f3r6 (.cond (.tmp 24) .skip (.exit 0))) (.seq (.block 1 (.seq f3r7 (.cond (.tmp 36) (.seq f3r8 .ret) .skip))) f3r9))))) (.seq f3r10 (.seq (.seq f3r11 (.cond (.tmp 43) (.seq f3r12 .ret) .skip)) (.seq f3r13 (.seq (.seq f3r14 (.cond (.tmp 57) (.seq f3r15 .ret) .skip)) (.seq (.seq f3r16 (.block 2 (.loop (.seq (.seq f3r17 (.cond (.tmp 68) .skip (.exit 2))) (.seq (.block 3 (.seq f3r18 (.cond (.tmp 79) (.seq f3r19 .ret) .skip))) f3r20))))) (.seq f3r21 .ret))))))))))⟩
def f4r0 : ICode := .region [
  ⟨(some 6), .move (.const (.bool false)), none⟩] none
def f4r1 : ICode := .region [
  ⟨(some 16), .call 8 [], none⟩,
  ⟨(some 17), .un .not (.tmp 16), none⟩] none
def f4r2 : ICode := .region [
  ⟨(some 6), .move (.const (.bool false)), none⟩] none
def f4r3 : ICode := .region [
  ⟨(some 18), .move (.tmp 0), none⟩,
  ⟨(some 19), .bin .and (.tmp 18) (.const (.int .i64 (.ofNat 255))), none⟩,
  ⟨(some 20), .move (.tmp 1), none⟩,
  ⟨(some 21), .bin .and (.tmp 20) (.const (.int .i64 (.ofNat 255))), none⟩,
  ⟨(some 0), .move (.tmp 19), none⟩,
  ⟨(some 1), .move (.tmp 21), none⟩] none
def f4r4 : ICode := .region [
  ⟨(some 7), .move (.const (.string ⟨⟨[]⟩⟩)), none⟩] none
def f4r5 : ICode := .region [
  ⟨(some 8), .move (.const (.int .i64 (.ofNat 0))), none⟩] none
def f4r6 : ICode := .region [
  ⟨(some 22), .move (.tmp 8), none⟩,
  ⟨(some 23), .move (.tmp 0), none⟩,
  ⟨(some 24), .bin .lss (.tmp 22) (.tmp 23), none⟩] none
def f4r7 : ICode := .region [
  ⟨(some 27), .move (.tmp 7), none⟩,
  ⟨(some 28), .bin .add (.tmp 27) (.const (.string ⟨⟨[97]⟩⟩)), none⟩,
  ⟨(some 7), .move (.tmp 28), none⟩] none
def f4r8 : ICode := .region [
  ⟨(some 25), .move (.tmp 8), none⟩,
  ⟨(some 26), .bin .add (.tmp 25) (.const (.int .i64 (.ofNat 1))), none⟩,
  ⟨(some 8), .move (.tmp 26), none⟩] none
def f4r9 : ICode := .region [
  ⟨(some 9), .move (.const (.int .i64 (.ofNat 0))), none⟩] none
def f4r10 : ICode := .region [
  ⟨(some 29), .move (.tmp 9), none⟩,
  ⟨(some 30), .move (.tmp 1), none⟩,
  ⟨(some 31), .bin .lss (.tmp 29) (.tmp 30), none⟩] none
def f4r11 : ICode := .region [
  ⟨(some 34), .move (.tmp 7), none⟩,
  ⟨(some 35), .bin .add (.tmp 34) (.const (.string ⟨⟨[98]⟩⟩)), none⟩,
  ⟨(some 7), .move (.tmp 35), none⟩] none
def f4r12 : ICode := .region [
  ⟨(some 32), .move (.tmp 9), none⟩,
  ⟨(some 33), .bin .add (.tmp 32) (.const (.int .i64 (.ofNat 1))), none⟩,
  ⟨(some 9), .move (.tmp 33), none⟩] none
def f4r13 : ICode := .region [
  ⟨(some 10), .move (.const (.string ⟨⟨[97, 42]⟩⟩)), none⟩] none
def f4r14 : ICode := .region [
  ⟨(some 36), .move (.tmp 2), none⟩] none
def f4r15 : ICode := .region [
  ⟨(some 10), .move (.const (.string ⟨⟨[97, 42, 63]⟩⟩)), none⟩] none
def f4r16 : ICode := .region [
  ⟨(some 37), .move (.tmp 10), none⟩,
  ⟨(some 38), .build [(.bool false), (.bool false), (.bool false), (.bool false)] [], none⟩,
  ⟨(some 39), .move (.tmp 7), none⟩,
  ⟨(some 40), .len 0 (.tmp 39), none⟩,
  ⟨(some 41), .call 9 [(.tmp 37), (.tmp 38), (.tmp 40)], none⟩,
  ⟨(some 42), .move (.tmp 10), none⟩,
  ⟨(some 43), .bin .add (.tmp 42) (.const (.string ⟨⟨[98, 43]⟩⟩)), none⟩,
  ⟨(some 44), .build [(.bool false), (.bool false), (.bool false), (.bool false)] [], none⟩,
  ⟨(some 45), .move (.tmp 7), none⟩,
  ⟨(some 46), .len 0 (.tmp 45), none⟩,
  ⟨(some 47), .call 9 [(.tmp 43), (.tmp 44), (.tmp 46)], none⟩,
  ⟨(some 11), .move (.tmp 41), none⟩,
  ⟨(some 12), .move (.tmp 47), none⟩] none
def f4r17 : ICode := .region [
  ⟨(some 48), .move (.tmp 11), none⟩,
  ⟨(some 49), .nilEq false 0 (.tmp 48) (.const (.pointer none)), none⟩,
  ⟨(some 50), .move (.tmp 49), none⟩,
  ⟨(some 51), .move (.tmp 12), (some ((some 50), false))⟩,
  ⟨(some 52), .nilEq false 0 (.tmp 51) (.const (.pointer none)), (some ((some 50), false))⟩,
  ⟨(some 53), .pick (.tmp 50) (.const (.bool true)) (.tmp 52), none⟩] none
def f4r18 : ICode := .region [
  ⟨(some 6), .move (.const (.bool true)), none⟩] none
def f4r19 : ICode := .region [
  ⟨(some 54), .move (.tmp 11), none⟩,
  ⟨(some 55), .nilCheck (.tmp 54), none⟩,
  ⟨(some 56), .loadN 2 (.tmp 55), none⟩,
  ⟨(some 57), .move (.tmp 7), none⟩,
  ⟨(some 58), .call 10 [(.tmp 56), (.tmp 57), (.const (.int .i64 (.ofNat 0))), (.const (.bool true))], none⟩,
  ⟨(some 59), .move (.tmp 12), none⟩,
  ⟨(some 60), .nilCheck (.tmp 59), none⟩,
  ⟨(some 61), .loadN 2 (.tmp 60), none⟩,
  ⟨(some 62), .move (.tmp 7), none⟩,
  ⟨(some 63), .call 10 [(.tmp 61), (.tmp 62), (.const (.int .i64 (.ofNat 0))), (.const (.bool true))], none⟩,
  ⟨(some 13), .move (.tmp 58), none⟩,
  ⟨(some 14), .move (.tmp 63), none⟩] (some ⟨[], [(7, 4)]⟩)
def f4r20 : ICode := .region [
  ⟨(some 64), .move (.tmp 0), none⟩,
  ⟨(some 15), .move (.tmp 64), none⟩] none
def f4r21 : ICode := .region [
  ⟨(some 65), .move (.tmp 2), none⟩] none
def f4r22 : ICode := .region [
  ⟨(some 15), .move (.const (.int .i64 (.ofNat 0))), none⟩] none
def f4r23 : ICode := .region [
  ⟨(some 66), .move (.tmp 13), none⟩,
  ⟨(some 67), .len 1 (.tmp 66), none⟩,
  ⟨(some 68), .bin .eql (.tmp 67) (.const (.int .i64 (.ofNat 2))), none⟩,
  ⟨(some 69), .move (.tmp 68), none⟩,
  ⟨(some 70), .move (.tmp 13), (some ((some 69), true))⟩,
  ⟨(some 71), .indexSl 1 (.tmp 70) (.const (.int .i64 (.ofNat 1))), (some ((some 69), true))⟩,
  ⟨(some 72), .load1 (.tmp 71), (some ((some 69), true))⟩,
  ⟨(some 73), .move (.tmp 15), (some ((some 69), true))⟩,
  ⟨(some 74), .bin .eql (.tmp 72) (.tmp 73), (some ((some 69), true))⟩,
  ⟨(some 75), .pick (.tmp 69) (.tmp 74) (.const (.bool false)), none⟩,
  ⟨(some 76), .move (.tmp 75), none⟩,
  ⟨(some 77), .move (.tmp 14), (some ((some 76), true))⟩,
  ⟨(some 78), .len 1 (.tmp 77), (some ((some 76), true))⟩,
  ⟨(some 79), .bin .gtr (.tmp 78) (.const (.int .i64 (.ofNat 0))), (some ((some 76), true))⟩,
  ⟨(some 80), .move (.tmp 1), (some ((some 76), true))⟩,
  ⟨(some 81), .bin .gtr (.tmp 80) (.const (.int .i64 (.ofNat 0))), (some ((some 76), true))⟩,
  ⟨(some 82), .eqB false (.tmp 79) (.tmp 81), (some ((some 76), true))⟩,
  ⟨(some 83), .pick (.tmp 76) (.tmp 82) (.const (.bool false)), none⟩,
  ⟨(some 84), .move (.tmp 83), none⟩,
  ⟨(some 85), .move (.tmp 1), (some ((some 84), true))⟩,
  ⟨(some 86), .bin .eql (.tmp 85) (.const (.int .i64 (.ofNat 0))), (some ((some 84), true))⟩,
  ⟨(some 87), .move (.tmp 86), (some ((some 84), true))⟩,
  ⟨(some 88), .move (.tmp 14), (some ((some 87), false))⟩,
  ⟨(some 89), .indexSl 1 (.tmp 88) (.const (.int .i64 (.ofNat 1))), (some ((some 87), false))⟩,
  ⟨(some 90), .load1 (.tmp 89), (some ((some 87), false))⟩,
  ⟨(some 91), .move (.tmp 0), (some ((some 87), false))⟩,
  ⟨(some 92), .move (.tmp 1), (some ((some 87), false))⟩,
  ⟨(some 93), .bin .add (.tmp 91) (.tmp 92), (some ((some 87), false))⟩,
  ⟨(some 94), .bin .eql (.tmp 90) (.tmp 93), (some ((some 87), false))⟩,
  ⟨(some 95), .pick (.tmp 87) (.const (.bool true)) (.tmp 94), (some ((some 84), true))⟩,
  ⟨(some 96), .pick (.tmp 84) (.tmp 95) (.const (.bool false)), none⟩,
  ⟨(some 6), .move (.tmp 96), none⟩] none
/- ferret/ferretlaw15.PikeStars -/
def f4 : IFn := ⟨97, [.inl 6], (.seq f4r0 (.seq (.seq f4r1 (.cond (.tmp 17) (.seq f4r2 .ret) .skip)) (.seq f4r3 (.seq f4r4 (.seq (.seq f4r5 (.block 0 (.loop (.seq (.seq f4r6 (.cond (.tmp 24) .skip (.exit 0))) (.seq (.block 1 f4r7) f4r8))))) (.seq (.seq f4r9 (.block 2 (.loop (.seq (.seq f4r10 (.cond (.tmp 31) .skip (.exit 2))) (.seq (.block 3 f4r11) f4r12))))) (.seq f4r13 (.seq (.seq f4r14 (.cond (.tmp 36) f4r15 .skip)) (.seq f4r16 (.seq (.seq f4r17 (.cond (.tmp 53) (.seq f4r18 .ret) .skip)) (.seq f4r19 (.seq f4r20 (.seq (.seq f4r21 (.cond (.tmp 65) f4r22 .skip)) (.seq f4r23 .ret))))))))))))))⟩
def f5r0 : ICode := .region [
  ⟨(some 4), .move (.const (.bool false)), none⟩] none
def f5r1 : ICode := .region [
  ⟨(some 13), .call 8 [], none⟩,
  ⟨(some 14), .un .not (.tmp 13), none⟩] none
def f5r2 : ICode := .region [
  ⟨(some 4), .move (.const (.bool false)), none⟩] none
def f5r3 : ICode := .region [
  ⟨(some 15), .move (.tmp 0), none⟩,
  ⟨(some 16), .len 0 (.tmp 15), none⟩,
  ⟨(some 17), .bin .gtr (.tmp 16) (.const (.int .i64 (.ofNat 2000))), none⟩] none
def f5r4 : ICode := .region [
  ⟨(some 4), .move (.const (.bool true)), none⟩] none
def f5r5 : ICode := .region [
  ⟨(some 18), .build [(.bool false), (.bool false), (.bool false), (.bool false)] [], none⟩,
  ⟨(some 19), .move (.tmp 0), none⟩,
  ⟨(some 20), .len 0 (.tmp 19), none⟩,
  ⟨(some 21), .call 9 [(.const (.string ⟨⟨[40, 63, 115, 41, 46]⟩⟩)), (.tmp 18), (.tmp 20)], none⟩,
  ⟨(some 5), .move (.tmp 21), none⟩] none
def f5r6 : ICode := .region [
  ⟨(some 22), .move (.tmp 5), none⟩,
  ⟨(some 23), .nilEq false 0 (.tmp 22) (.const (.pointer none)), none⟩,
  ⟨(some 24), .move (.tmp 23), none⟩,
  ⟨(some 25), .move (.tmp 1), (some ((some 24), false))⟩,
  ⟨(some 26), .bin .lss (.tmp 25) (.const (.int .i64 (.ofNat 0))), (some ((some 24), false))⟩,
  ⟨(some 27), .pick (.tmp 24) (.const (.bool true)) (.tmp 26), none⟩,
  ⟨(some 28), .move (.tmp 27), none⟩,
  ⟨(some 29), .move (.tmp 1), (some ((some 28), false))⟩,
  ⟨(some 30), .move (.tmp 0), (some ((some 28), false))⟩,
  ⟨(some 31), .len 0 (.tmp 30), (some ((some 28), false))⟩,
  ⟨(some 32), .bin .geq (.tmp 29) (.tmp 31), (some ((some 28), false))⟩,
  ⟨(some 33), .pick (.tmp 28) (.const (.bool true)) (.tmp 32), none⟩] none
def f5r7 : ICode := .region [
  ⟨(some 34), .move (.tmp 5), none⟩,
  ⟨(some 35), .nilEq false 0 (.tmp 34) (.const (.pointer none)), none⟩,
  ⟨(some 36), .move (.tmp 35), none⟩,
  ⟨(some 37), .move (.tmp 5), (some ((some 36), false))⟩,
  ⟨(some 38), .nilCheck (.tmp 37), (some ((some 36), false))⟩,
  ⟨(some 39), .loadN 2 (.tmp 38), (some ((some 36), false))⟩,
  ⟨(some 40), .move (.tmp 0), (some ((some 36), false))⟩,
  ⟨(some 41), .move (.tmp 1), (some ((some 36), false))⟩,
  ⟨(some 42), .call 10 [(.tmp 39), (.tmp 40), (.tmp 41), (.const (.bool true))], (some ((some 36), false))⟩,
  ⟨(some 43), .len 1 (.tmp 42), (some ((some 36), false))⟩,
  ⟨(some 44), .bin .eql (.tmp 43) (.const (.int .i64 (.ofNat 0))), (some ((some 36), false))⟩,
  ⟨(some 45), .pick (.tmp 36) (.const (.bool true)) (.tmp 44), none⟩,
  ⟨(some 4), .move (.tmp 45), none⟩] none
def f5r8 : ICode := .region [
  ⟨(some 46), .move (.tmp 5), none⟩,
  ⟨(some 47), .nilCheck (.tmp 46), none⟩,
  ⟨(some 48), .loadN 2 (.tmp 47), none⟩,
  ⟨(some 49), .move (.tmp 0), none⟩,
  ⟨(some 50), .move (.tmp 1), none⟩,
  ⟨(some 51), .call 10 [(.tmp 48), (.tmp 49), (.tmp 50), (.const (.bool true))], none⟩,
  ⟨(some 6), .move (.tmp 51), none⟩] none
def f5r9 : ICode := .region [
  ⟨(some 53), .move (.tmp 0), none⟩,
  ⟨(some 54), .move (.tmp 1), none⟩,
  ⟨(some 55), .sliceStr (.tmp 53) (some (.tmp 54)) none, none⟩,
  ⟨(some 56), .bin .add (.const (.string ⟨⟨[120]⟩⟩)) (.tmp 55), none⟩,
  ⟨(some 57), .call 11 [(.tmp 56), (.const (.int .i64 (.ofNat 1))), (.const (.bool false))], none⟩,
  ⟨(some 52), .move (.tmp 57), none⟩,
  ⟨(some 58), .extract (.tmp 52) 0, none⟩,
  ⟨(some 59), .extract (.tmp 52) 1, none⟩,
  ⟨(some 7), .new [(.int .i64 (.ofNat 0)), (.slice none 0 0), (.slice none 0 0), (.int .i64 (.ofNat 0))] 34, none⟩,
  ⟨(some 8), .new [(.int .i64 (.ofNat 0)), (.int .i64 (.ofNat 0))] 37, none⟩,
  ⟨none, .store 4 (.tmp 7) (.tmp 58), none⟩,
  ⟨none, .store 2 (.tmp 8) (.tmp 59), none⟩] none
def f5r10 : ICode := .region [
  ⟨(some 60), .loadN 2 (.tmp 8), none⟩,
  ⟨(some 61), .build [(.int .i64 (.ofNat 0)), (.int .i64 (.ofNat 0))] [], none⟩,
  ⟨(some 62), .eqC true 37 (.tmp 60) (.tmp 61), none⟩,
  ⟨(some 63), .move (.tmp 62), none⟩,
  ⟨(some 64), .fieldAddr 1 (.tmp 7), (some ((some 63), false))⟩,
  ⟨(some 65), .load1 (.tmp 64), (some ((some 63), false))⟩,
  ⟨(some 66), .len 1 (.tmp 65), (some ((some 63), false))⟩,
  ⟨(some 67), .bin .lss (.tmp 66) (.const (.int .i64 (.ofNat 2))), (some ((some 63), false))⟩,
  ⟨(some 68), .pick (.tmp 63) (.const (.bool true)) (.tmp 67), none⟩] none
def f5r11 : ICode := .region [
  ⟨(some 4), .move (.const (.bool false)), none⟩] none
def f5r12 : ICode := .region [
  ⟨(some 69), .fieldAddr 2 (.tmp 7), none⟩,
  ⟨(some 70), .load1 (.tmp 69), none⟩,
  ⟨(some 71), .indexSl 1 (.tmp 70) (.const (.int .i64 (.ofNat 2))), none⟩,
  ⟨(some 72), .load1 (.tmp 71), none⟩,
  ⟨(some 73), .fieldAddr 2 (.tmp 7), none⟩,
  ⟨(some 74), .load1 (.tmp 73), none⟩,
  ⟨(some 75), .indexSl 1 (.tmp 74) (.const (.int .i64 (.ofNat 1))), none⟩,
  ⟨(some 76), .load1 (.tmp 75), none⟩,
  ⟨(some 77), .bin .sub (.tmp 72) (.tmp 76), none⟩,
  ⟨(some 9), .move (.tmp 77), none⟩] (some ⟨[], []⟩)
def f5r13 : ICode := .region [
  ⟨(some 79), .fieldAddr 1 (.tmp 7), none⟩,
  ⟨(some 80), .load1 (.tmp 79), none⟩,
  ⟨(some 81), .sliceSl 1 (.tmp 80) (some (.const (.int .i64 (.ofNat 1)))) (some (.const (.int .i64 (.ofNat 2)))), none⟩,
  ⟨(some 82), .call 12 [(.tmp 81), (.const (.int .i64 (.ofNat 1))), (.const (.bool false))], none⟩,
  ⟨(some 78), .move (.tmp 82), none⟩,
  ⟨(some 83), .extract (.tmp 78) 0, none⟩,
  ⟨(some 84), .extract (.tmp 78) 1, none⟩,
  ⟨(some 10), .move (.tmp 83), none⟩,
  ⟨(some 11), .move (.tmp 84), none⟩] none
def f5r14 : ICode := .region [
  ⟨(some 85), .move (.tmp 10), none⟩,
  ⟨(some 86), .move (.tmp 0), none⟩,
  ⟨(some 87), .move (.tmp 1), none⟩,
  ⟨(some 88), .move (.tmp 1), none⟩,
  ⟨(some 89), .move (.tmp 9), none⟩,
  ⟨(some 90), .bin .add (.tmp 88) (.tmp 89), none⟩,
  ⟨(some 91), .sliceStr (.tmp 86) (some (.tmp 87)) (some (.tmp 90)), none⟩,
  ⟨(some 92), .bin .eql (.tmp 85) (.tmp 91), none⟩,
  ⟨(some 12), .move (.tmp 92), none⟩] none
def f5r15 : ICode := .region [
  ⟨(some 93), .move (.tmp 6), none⟩,
  ⟨(some 94), .len 1 (.tmp 93), none⟩,
  ⟨(some 95), .bin .eql (.tmp 94) (.const (.int .i64 (.ofNat 2))), none⟩,
  ⟨(some 96), .move (.tmp 12), none⟩,
  ⟨(some 97), .eqB false (.tmp 95) (.tmp 96), none⟩,
  ⟨(some 98), .move (.tmp 97), none⟩,
  ⟨(some 99), .move (.tmp 12), (some ((some 98), true))⟩,
  ⟨(some 100), .un .not (.tmp 99), (some ((some 98), true))⟩,
  ⟨(some 101), .move (.tmp 100), (some ((some 98), true))⟩,
  ⟨(some 102), .move (.tmp 6), (some ((some 101), false))⟩,
  ⟨(some 103), .indexSl 1 (.tmp 102) (.const (.int .i64 (.ofNat 0))), (some ((some 101), false))⟩,
  ⟨(some 104), .load1 (.tmp 103), (some ((some 101), false))⟩,
  ⟨(some 105), .move (.tmp 1), (some ((some 101), false))⟩,
  ⟨(some 106), .bin .eql (.tmp 104) (.tmp 105), (some ((some 101), false))⟩,
  ⟨(some 107), .move (.tmp 106), (some ((some 101), false))⟩,
  ⟨(some 108), .move (.tmp 6), (some ((some 107), true))⟩,
  ⟨(some 109), .indexSl 1 (.tmp 108) (.const (.int .i64 (.ofNat 1))), (some ((some 107), true))⟩,
  ⟨(some 110), .load1 (.tmp 109), (some ((some 107), true))⟩,
  ⟨(some 111), .move (.tmp 1), (some ((some 107), true))⟩,
  ⟨(some 112), .move (.tmp 9), (some ((some 107), true))⟩,
  ⟨(some 113), .bin .add (.tmp 111) (.tmp 112), (some ((some 107), true))⟩,
  ⟨(some 114), .bin .eql (.tmp 110) (.tmp 113), (some ((some 107), true))⟩,
  ⟨(some 115), .pick (.tmp 107) (.tmp 114) (.const (.bool false)), (some ((some 101), false))⟩,
  ⟨(some 116), .pick (.tmp 101) (.const (.bool true)) (.tmp 115), (some ((some 98), true))⟩,
  ⟨(some 117), .pick (.tmp 98) (.tmp 116) (.const (.bool false)), none⟩,
  ⟨(some 4), .move (.tmp 117), none⟩] none
/- ferret/ferretlaw15.PikeAny -/
def f5 : IFn := ⟨118, [.inl 4], (.seq f5r0 (.seq (.seq f5r1 (.cond (.tmp 14) (.seq f5r2 .ret) .skip)) (.seq (.seq f5r3 (.cond (.tmp 17) (.seq f5r4 .ret) .skip)) (.seq f5r5 (.seq (.seq f5r6 (.cond (.tmp 33) (.seq f5r7 .ret) .skip)) (.seq f5r8 (.seq f5r9 (.seq (.seq f5r10 (.cond (.tmp 68) (.seq f5r11 .ret) .skip)) (.seq f5r12 (.seq f5r13 (.seq f5r14 (.seq f5r15 .ret))))))))))))⟩
def f6r0 : ICode := .region [
  ⟨(some 6), .move (.const (.bool false)), none⟩] none
def f6r1 : ICode := .region [
  ⟨(some 14), .call 13 [], none⟩,
  ⟨(some 15), .un .not (.tmp 14), none⟩] none
def f6r2 : ICode := .region [
  ⟨(some 6), .move (.const (.bool false)), none⟩] none
def f6r3 : ICode := .region [
  ⟨(some 16), .move (.tmp 1), none⟩,
  ⟨(some 17), .len 0 (.tmp 16), none⟩,
  ⟨(some 18), .bin .gtr (.tmp 17) (.const (.int .i64 (.ofNat 60))), none⟩,
  ⟨(some 19), .move (.tmp 18), none⟩,
  ⟨(some 20), .move (.tmp 1), (some ((some 19), false))⟩,
  ⟨(some 21), .len 0 (.tmp 20), (some ((some 19), false))⟩,
  ⟨(some 22), .bin .eql (.tmp 21) (.const (.int .i64 (.ofNat 0))), (some ((some 19), false))⟩,
  ⟨(some 23), .pick (.tmp 19) (.const (.bool true)) (.tmp 22), none⟩,
  ⟨(some 24), .move (.tmp 23), none⟩,
  ⟨(some 25), .move (.tmp 0), (some ((some 24), false))⟩,
  ⟨(some 26), .len 0 (.tmp 25), (some ((some 24), false))⟩,
  ⟨(some 27), .move (.tmp 2), (some ((some 24), false))⟩,
  ⟨(some 28), .len 0 (.tmp 27), (some ((some 24), false))⟩,
  ⟨(some 29), .bin .add (.tmp 26) (.tmp 28), (some ((some 24), false))⟩,
  ⟨(some 30), .bin .gtr (.tmp 29) (.const (.int .i64 (.ofNat 2000))), (some ((some 24), false))⟩,
  ⟨(some 31), .pick (.tmp 24) (.const (.bool true)) (.tmp 30), none⟩] none
def f6r4 : ICode := .region [
  ⟨(some 6), .move (.const (.bool true)), none⟩] none
def f6r5 : ICode := .region [
  ⟨(some 7), .move (.const (.int .i64 (.ofNat 0))), none⟩] none
def f6r6 : ICode := .region [
  ⟨(some 32), .move (.tmp 7), none⟩,
  ⟨(some 33), .move (.tmp 1), none⟩,
  ⟨(some 34), .len 0 (.tmp 33), none⟩,
  ⟨(some 35), .bin .lss (.tmp 32) (.tmp 34), none⟩] none
def f6r7 : ICode := .region [
  ⟨(some 38), .move (.tmp 1), none⟩,
  ⟨(some 39), .move (.tmp 7), none⟩,
  ⟨(some 40), .indexStr (.tmp 38) (.tmp 39), none⟩,
  ⟨(some 41), .bin .lss (.tmp 40) (.const (.int .u8 (.ofNat 97))), none⟩,
  ⟨(some 42), .move (.tmp 41), none⟩,
  ⟨(some 43), .move (.tmp 1), (some ((some 42), false))⟩,
  ⟨(some 44), .move (.tmp 7), (some ((some 42), false))⟩,
  ⟨(some 45), .indexStr (.tmp 43) (.tmp 44), (some ((some 42), false))⟩,
  ⟨(some 46), .bin .gtr (.tmp 45) (.const (.int .u8 (.ofNat 122))), (some ((some 42), false))⟩,
  ⟨(some 47), .pick (.tmp 42) (.const (.bool true)) (.tmp 46), none⟩] none
def f6r8 : ICode := .region [
  ⟨(some 6), .move (.const (.bool true)), none⟩] none
def f6r9 : ICode := .region [
  ⟨(some 36), .move (.tmp 7), none⟩,
  ⟨(some 37), .bin .add (.tmp 36) (.const (.int .i64 (.ofNat 1))), none⟩,
  ⟨(some 7), .move (.tmp 37), none⟩] none
def f6r10 : ICode := .region [
  ⟨(some 48), .move (.tmp 0), none⟩,
  ⟨(some 49), .move (.tmp 1), none⟩,
  ⟨(some 50), .bin .add (.tmp 48) (.tmp 49), none⟩,
  ⟨(some 51), .move (.tmp 2), none⟩,
  ⟨(some 52), .bin .add (.tmp 50) (.tmp 51), none⟩,
  ⟨(some 8), .move (.tmp 52), none⟩] none
def f6r11 : ICode := .region [
  ⟨(some 53), .move (.tmp 1), none⟩,
  ⟨(some 54), .build [(.bool false), (.bool false), (.bool false), (.bool false)] [], none⟩,
  ⟨(some 55), .move (.tmp 8), none⟩,
  ⟨(some 56), .len 0 (.tmp 55), none⟩,
  ⟨(some 57), .call 14 [(.tmp 53), (.tmp 54), (.tmp 56)], none⟩,
  ⟨(some 9), .move (.tmp 57), none⟩] none
def f6r12 : ICode := .region [
  ⟨(some 58), .move (.tmp 9), none⟩,
  ⟨(some 59), .nilEq false 0 (.tmp 58) (.const (.pointer none)), none⟩] none
def f6r13 : ICode := .region [
  ⟨(some 6), .move (.const (.bool true)), none⟩] none
def f6r14 : ICode := .region [
  ⟨(some 61), .move (.tmp 9), none⟩,
  ⟨(some 62), .nilCheck (.tmp 61), none⟩,
  ⟨(some 63), .loadN 2 (.tmp 62), none⟩,
  ⟨(some 64), .call 15 [(.tmp 63), (.const (.int .i64 (.ofNat 4)))], none⟩,
  ⟨(some 65), .move (.tmp 8), none⟩,
  ⟨(some 66), .call 16 [(.tmp 64), (.tmp 65), (.const (.int .i64 (.ofNat 0))), (.const (.bool false))], none⟩,
  ⟨(some 60), .move (.tmp 66), none⟩,
  ⟨(some 67), .extract (.tmp 60) 0, none⟩,
  ⟨(some 68), .extract (.tmp 60) 1, none⟩,
  ⟨(some 10), .move (.tmp 67), none⟩,
  ⟨(some 11), .move (.tmp 68), none⟩] none
def f6r15 : ICode := .region [
  ⟨(some 70), .move (.tmp 9), none⟩,
  ⟨(some 71), .nilCheck (.tmp 70), none⟩,
  ⟨(some 72), .loadN 2 (.tmp 71), none⟩,
  ⟨(some 73), .call 15 [(.tmp 72), (.const (.int .i64 (.ofNat 4)))], none⟩,
  ⟨(some 74), .move (.tmp 8), none⟩,
  ⟨(some 75), .move (.tmp 0), none⟩,
  ⟨(some 76), .len 0 (.tmp 75), none⟩,
  ⟨(some 77), .call 16 [(.tmp 73), (.tmp 74), (.tmp 76), (.const (.bool true))], none⟩,
  ⟨(some 69), .move (.tmp 77), none⟩,
  ⟨(some 78), .extract (.tmp 69) 0, none⟩,
  ⟨(some 79), .extract (.tmp 69) 1, none⟩,
  ⟨(some 12), .move (.tmp 78), none⟩,
  ⟨(some 13), .move (.tmp 79), none⟩] none
def f6r16 : ICode := .region [
  ⟨(some 80), .move (.tmp 11), none⟩,
  ⟨(some 81), .move (.tmp 80), none⟩,
  ⟨(some 82), .move (.tmp 10), (some ((some 81), true))⟩,
  ⟨(some 83), .move (.tmp 1), (some ((some 81), true))⟩,
  ⟨(some 84), .len 0 (.tmp 83), (some ((some 81), true))⟩,
  ⟨(some 85), .bin .geq (.tmp 82) (.tmp 84), (some ((some 81), true))⟩,
  ⟨(some 86), .pick (.tmp 81) (.tmp 85) (.const (.bool false)), none⟩,
  ⟨(some 87), .move (.tmp 86), none⟩,
  ⟨(some 88), .move (.tmp 10), (some ((some 87), true))⟩,
  ⟨(some 89), .move (.tmp 0), (some ((some 87), true))⟩,
  ⟨(some 90), .len 0 (.tmp 89), (some ((some 87), true))⟩,
  ⟨(some 91), .move (.tmp 1), (some ((some 87), true))⟩,
  ⟨(some 92), .len 0 (.tmp 91), (some ((some 87), true))⟩,
  ⟨(some 93), .bin .add (.tmp 90) (.tmp 92), (some ((some 87), true))⟩,
  ⟨(some 94), .bin .leq (.tmp 88) (.tmp 93), (some ((some 87), true))⟩,
  ⟨(some 95), .pick (.tmp 87) (.tmp 94) (.const (.bool false)), none⟩,
  ⟨(some 96), .move (.tmp 95), none⟩,
  ⟨(some 97), .move (.tmp 8), (some ((some 96), true))⟩,
  ⟨(some 98), .move (.tmp 10), (some ((some 96), true))⟩,
  ⟨(some 99), .move (.tmp 1), (some ((some 96), true))⟩,
  ⟨(some 100), .len 0 (.tmp 99), (some ((some 96), true))⟩,
  ⟨(some 101), .bin .sub (.tmp 98) (.tmp 100), (some ((some 96), true))⟩,
  ⟨(some 102), .move (.tmp 10), (some ((some 96), true))⟩,
  ⟨(some 103), .sliceStr (.tmp 97) (some (.tmp 101)) (some (.tmp 102)), (some ((some 96), true))⟩,
  ⟨(some 104), .move (.tmp 1), (some ((some 96), true))⟩,
  ⟨(some 105), .bin .eql (.tmp 103) (.tmp 104), (some ((some 96), true))⟩,
  ⟨(some 106), .pick (.tmp 96) (.tmp 105) (.const (.bool false)), none⟩,
  ⟨(some 107), .move (.tmp 106), none⟩,
  ⟨(some 108), .move (.tmp 13), (some ((some 107), true))⟩,
  ⟨(some 109), .pick (.tmp 107) (.tmp 108) (.const (.bool false)), none⟩,
  ⟨(some 110), .move (.tmp 109), none⟩,
  ⟨(some 111), .move (.tmp 12), (some ((some 110), true))⟩,
  ⟨(some 112), .move (.tmp 0), (some ((some 110), true))⟩,
  ⟨(some 113), .len 0 (.tmp 112), (some ((some 110), true))⟩,
  ⟨(some 114), .move (.tmp 1), (some ((some 110), true))⟩,
  ⟨(some 115), .len 0 (.tmp 114), (some ((some 110), true))⟩,
  ⟨(some 116), .bin .add (.tmp 113) (.tmp 115), (some ((some 110), true))⟩,
  ⟨(some 117), .bin .eql (.tmp 111) (.tmp 116), (some ((some 110), true))⟩,
  ⟨(some 118), .pick (.tmp 110) (.tmp 117) (.const (.bool false)), none⟩,
  ⟨(some 6), .move (.tmp 118), none⟩] none
/- ferret/ferretlaw16.DfaWords -/
def f6 : IFn := ⟨119, [.inl 6], (.seq f6r0 (.seq (.seq f6r1 (.cond (.tmp 15) (.seq f6r2 .ret) .skip)) (.seq (.seq f6r3 (.cond (.tmp 31) (.seq f6r4 .ret) .skip)) (.seq (.seq f6r5 (.block 0 (.loop (.seq (.seq f6r6 (.cond (.tmp 35) .skip (.exit 0))) (.seq (.block 1 (.seq f6r7 (.cond (.tmp 47) (.seq f6r8 .ret) .skip))) f6r9))))) (.seq f6r10 (.seq f6r11 (.seq (.seq f6r12 (.cond (.tmp 59) (.seq f6r13 .ret) .skip)) (.seq f6r14 (.seq f6r15 (.seq f6r16 .ret))))))))))⟩
def f7r0 : ICode := .region [
  ⟨(some 4), .move (.const (.bool false)), none⟩] none
def f7r1 : ICode := .region [
  ⟨(some 10), .call 13 [], none⟩,
  ⟨(some 11), .un .not (.tmp 10), none⟩] none
def f7r2 : ICode := .region [
  ⟨(some 4), .move (.const (.bool false)), none⟩] none
def f7r3 : ICode := .region [
  ⟨(some 5), .move (.const (.pointer none)), none⟩] none
def f7r4 : ICode := .region [
  ⟨(some 13), .move (.tmp 5), none⟩,
  ⟨(some 14), .move (.tmp 0), none⟩,
  ⟨(some 15), .move (.tmp 1), none⟩,
  ⟨(some 16), .call 16 [(.tmp 13), (.tmp 14), (.tmp 15), (.const (.bool true))], none⟩,
  ⟨(some 12), .move (.tmp 16), none⟩,
  ⟨(some 17), .extract (.tmp 12) 0, none⟩,
  ⟨(some 18), .extract (.tmp 12) 1, none⟩,
  ⟨(some 6), .move (.tmp 17), none⟩,
  ⟨(some 7), .move (.tmp 18), none⟩] none
def f7r5 : ICode := .region [
  ⟨(some 20), .move (.tmp 5), none⟩,
  ⟨(some 21), .call 17 [(.tmp 20)], none⟩,
  ⟨(some 19), .move (.tmp 21), none⟩,
  ⟨(some 22), .extract (.tmp 19) 0, none⟩,
  ⟨(some 23), .extract (.tmp 19) 1, none⟩,
  ⟨(some 8), .move (.tmp 22), none⟩,
  ⟨(some 9), .move (.tmp 23), none⟩] none
def f7r6 : ICode := .region [
  ⟨(some 24), .move (.tmp 6), none⟩,
  ⟨(some 25), .bin .eql (.tmp 24) (.const (.int .i64 (.ofNat 0))), none⟩,
  ⟨(some 26), .move (.tmp 25), none⟩,
  ⟨(some 27), .move (.tmp 7), (some ((some 26), true))⟩,
  ⟨(some 28), .un .not (.tmp 27), (some ((some 26), true))⟩,
  ⟨(some 29), .pick (.tmp 26) (.tmp 28) (.const (.bool false)), none⟩,
  ⟨(some 30), .move (.tmp 29), none⟩,
  ⟨(some 31), .move (.tmp 8), (some ((some 30), true))⟩,
  ⟨(some 32), .bin .eql (.tmp 31) (.const (.int .i64 (.ofNat 0))), (some ((some 30), true))⟩,
  ⟨(some 33), .pick (.tmp 30) (.tmp 32) (.const (.bool false)), none⟩,
  ⟨(some 34), .move (.tmp 33), none⟩,
  ⟨(some 35), .move (.tmp 9), (some ((some 34), true))⟩,
  ⟨(some 36), .bin .eql (.tmp 35) (.const (.int .i64 (.ofNat 0))), (some ((some 34), true))⟩,
  ⟨(some 37), .pick (.tmp 34) (.tmp 36) (.const (.bool false)), none⟩,
  ⟨(some 4), .move (.tmp 37), none⟩] none
/- ferret/ferretlaw16.DfaNil -/
def f7 : IFn := ⟨38, [.inl 4], (.seq f7r0 (.seq (.seq f7r1 (.cond (.tmp 11) (.seq f7r2 .ret) .skip)) (.seq f7r3 (.seq f7r4 (.seq f7r5 (.seq f7r6 .ret))))))⟩
def f8r0 : ICode := .region [
  ⟨(some 0), .move (.const (.bool false)), none⟩] none
def f8r1 : ICode := .region [
  ⟨(some 7), .build [(.bool false), (.bool false), (.bool false), (.bool false)] [], none⟩,
  ⟨(some 8), .call 18 [(.const (.string ⟨⟨[40, 97, 124, 97, 98, 41, 40, 99, 124, 98, 99, 100, 41, 63]⟩⟩)), (.tmp 7)], none⟩,
  ⟨(some 6), .move (.tmp 8), none⟩,
  ⟨(some 9), .extract (.tmp 6) 0, none⟩,
  ⟨(some 10), .extract (.tmp 6) 1, none⟩,
  ⟨(some 1), .new [(.int .i64 (.ofNat 0)), (.slice none 0 0), (.bool false), (.int .i64 (.ofNat 0)), (.int .i64 (.ofNat 0)), (.bool false), (.int .i64 (.ofNat 0)), (.string ⟨⟨[]⟩⟩), (.slice none 0 0), (.slice none 0 0)] 57, none⟩,
  ⟨(some 2), .new [(.int .i64 (.ofNat 0)), (.int .i64 (.ofNat 0))] 37, none⟩,
  ⟨none, .store 10 (.tmp 1) (.tmp 9), none⟩,
  ⟨none, .store 2 (.tmp 2) (.tmp 10), none⟩] none
def f8r2 : ICode := .region [
  ⟨(some 12), .loadN 10 (.tmp 1), none⟩,
  ⟨(some 13), .call 19 [(.tmp 12)], none⟩,
  ⟨(some 11), .move (.tmp 13), none⟩,
  ⟨(some 14), .extract (.tmp 11) 0, none⟩,
  ⟨(some 15), .extract (.tmp 11) 1, none⟩,
  ⟨(some 3), .new [(.slice none 0 0), (.int .i64 (.ofNat 0))] 30, none⟩,
  ⟨none, .store 2 (.tmp 3) (.tmp 14), none⟩,
  ⟨(some 4), .move (.tmp 15), none⟩] none
def f8r3 : ICode := .region [
  ⟨(some 16), .loadN 2 (.tmp 3), none⟩,
  ⟨(some 17), .call 10 [(.tmp 16), (.const (.string ⟨⟨[97, 98, 99, 100]⟩⟩)), (.const (.int .i64 (.ofNat 0))), (.const (.bool false))], none⟩,
  ⟨(some 5), .move (.tmp 17), none⟩] none
def f8r4 : ICode := .region [
  ⟨(some 18), .move (.tmp 4), none⟩,
  ⟨(some 19), .bin .eql (.tmp 18) (.const (.int .i64 (.ofNat 0))), none⟩,
  ⟨(some 20), .move (.tmp 19), none⟩,
  ⟨(some 21), .move (.tmp 5), (some ((some 20), true))⟩,
  ⟨(some 22), .len 1 (.tmp 21), (some ((some 20), true))⟩,
  ⟨(some 23), .bin .eql (.tmp 22) (.const (.int .i64 (.ofNat 6))), (some ((some 20), true))⟩,
  ⟨(some 24), .pick (.tmp 20) (.tmp 23) (.const (.bool false)), none⟩,
  ⟨(some 25), .move (.tmp 24), none⟩,
  ⟨(some 26), .move (.tmp 5), (some ((some 25), true))⟩,
  ⟨(some 27), .indexSl 1 (.tmp 26) (.const (.int .i64 (.ofNat 1))), (some ((some 25), true))⟩,
  ⟨(some 28), .load1 (.tmp 27), (some ((some 25), true))⟩,
  ⟨(some 29), .bin .eql (.tmp 28) (.const (.int .i64 (.ofNat 4))), (some ((some 25), true))⟩,
  ⟨(some 30), .pick (.tmp 25) (.tmp 29) (.const (.bool false)), none⟩,
  ⟨(some 31), .move (.tmp 30), none⟩,
  ⟨(some 32), .move (.tmp 5), (some ((some 31), true))⟩,
  ⟨(some 33), .indexSl 1 (.tmp 32) (.const (.int .i64 (.ofNat 3))), (some ((some 31), true))⟩,
  ⟨(some 34), .load1 (.tmp 33), (some ((some 31), true))⟩,
  ⟨(some 35), .bin .eql (.tmp 34) (.const (.int .i64 (.ofNat 1))), (some ((some 31), true))⟩,
  ⟨(some 36), .pick (.tmp 31) (.tmp 35) (.const (.bool false)), none⟩,
  ⟨(some 0), .move (.tmp 36), none⟩] none
/- ferret/ferretlaw15.speaks -/
def f8 : IFn := ⟨37, [.inl 0], (.seq f8r0 (.seq f8r1 (.seq f8r2 (.seq f8r3 (.seq f8r4 .ret)))))⟩
def f9r0 : ICode := .region [
  ⟨(some 4), .box 25 (.tmp 1), none⟩,
  ⟨(some 6), .move (.const (.pointer none)), none⟩] none
def f9r1 : ICode := .region [
  ⟨(some 12), .move (.tmp 0), none⟩,
  ⟨(some 13), .indexArrA 4 1 (.tmp 4) (.const (.int .i64 (.ofNat 0))), none⟩,
  ⟨(some 14), .load1 (.tmp 13), none⟩,
  ⟨(some 15), .indexArrA 4 1 (.tmp 4) (.const (.int .i64 (.ofNat 1))), none⟩,
  ⟨(some 16), .load1 (.tmp 15), none⟩,
  ⟨(some 17), .indexArrA 4 1 (.tmp 4) (.const (.int .i64 (.ofNat 2))), none⟩,
  ⟨(some 18), .load1 (.tmp 17), none⟩,
  ⟨(some 19), .indexArrA 4 1 (.tmp 4) (.const (.int .i64 (.ofNat 3))), none⟩,
  ⟨(some 20), .load1 (.tmp 19), none⟩,
  ⟨(some 21), .build [(.bool false), (.bool false), (.bool false), (.bool false)] [(0, 1, (.tmp 14)), (1, 1, (.tmp 16)), (2, 1, (.tmp 18)), (3, 1, (.tmp 20))], none⟩,
  ⟨(some 22), .call 18 [(.tmp 12), (.tmp 21)], none⟩,
  ⟨(some 11), .move (.tmp 22), none⟩,
  ⟨(some 23), .extract (.tmp 11) 0, none⟩,
  ⟨(some 24), .extract (.tmp 11) 1, none⟩,
  ⟨(some 7), .new [(.int .i64 (.ofNat 0)), (.slice none 0 0), (.bool false), (.int .i64 (.ofNat 0)), (.int .i64 (.ofNat 0)), (.bool false), (.int .i64 (.ofNat 0)), (.string ⟨⟨[]⟩⟩), (.slice none 0 0), (.slice none 0 0)] 57, none⟩,
  ⟨(some 8), .new [(.int .i64 (.ofNat 0)), (.int .i64 (.ofNat 0))] 37, none⟩,
  ⟨none, .store 10 (.tmp 7) (.tmp 23), none⟩,
  ⟨none, .store 2 (.tmp 8) (.tmp 24), none⟩] none
def f9r2 : ICode := .region [
  ⟨(some 25), .loadN 2 (.tmp 8), none⟩,
  ⟨(some 26), .build [(.int .i64 (.ofNat 0)), (.int .i64 (.ofNat 0))] [], none⟩,
  ⟨(some 27), .eqC true 37 (.tmp 25) (.tmp 26), none⟩] none
def f9r3 : ICode := .region [
  ⟨(some 6), .move (.const (.pointer none)), none⟩] none
def f9r4 : ICode := .region [
  ⟨(some 29), .loadN 10 (.tmp 7), none⟩,
  ⟨(some 30), .call 19 [(.tmp 29)], none⟩,
  ⟨(some 28), .move (.tmp 30), none⟩,
  ⟨(some 31), .extract (.tmp 28) 0, none⟩,
  ⟨(some 32), .extract (.tmp 28) 1, none⟩,
  ⟨(some 9), .new [(.slice none 0 0), (.int .i64 (.ofNat 0))] 30, none⟩,
  ⟨none, .store 2 (.tmp 9) (.tmp 31), none⟩,
  ⟨(some 10), .move (.tmp 32), none⟩] none
def f9r5 : ICode := .region [
  ⟨(some 33), .move (.tmp 10), none⟩,
  ⟨(some 34), .bin .neq (.tmp 33) (.const (.int .i64 (.ofNat 0))), none⟩,
  ⟨(some 35), .move (.tmp 34), none⟩,
  ⟨(some 36), .move (.tmp 2), (some ((some 35), false))⟩,
  ⟨(some 37), .bin .gtr (.tmp 36) (.const (.int .i64 (.ofNat 1048576))), (some ((some 35), false))⟩,
  ⟨(some 38), .pick (.tmp 35) (.const (.bool true)) (.tmp 37), none⟩,
  ⟨(some 39), .move (.tmp 38), none⟩,
  ⟨(some 40), .fieldAddr 0 (.tmp 9), (some ((some 39), false))⟩,
  ⟨(some 41), .load1 (.tmp 40), (some ((some 39), false))⟩,
  ⟨(some 42), .len 1 (.tmp 41), (some ((some 39), false))⟩,
  ⟨(some 43), .move (.tmp 2), (some ((some 39), false))⟩,
  ⟨(some 44), .bin .add (.tmp 43) (.const (.int .i64 (.ofNat 1))), (some ((some 39), false))⟩,
  ⟨(some 45), .bin .mul (.tmp 42) (.tmp 44), (some ((some 39), false))⟩,
  ⟨(some 46), .bin .gtr (.tmp 45) (.const (.int .i64 (.ofNat 2097152))), (some ((some 39), false))⟩,
  ⟨(some 47), .pick (.tmp 39) (.const (.bool true)) (.tmp 46), none⟩] none
def f9r6 : ICode := .region [
  ⟨(some 6), .move (.const (.pointer none)), none⟩] none
def f9r7 : ICode := .region [
  ⟨(some 6), .move (.tmp 9), none⟩] none
/- ferret/ferretlaw15.made -/
def f9 : IFn := ⟨48, [.inl 6], (.seq f9r0 (.seq f9r1 (.seq (.seq f9r2 (.cond (.tmp 27) (.seq f9r3 .ret) .skip)) (.seq f9r4 (.seq (.seq f9r5 (.cond (.tmp 47) (.seq f9r6 .ret) .skip)) (.seq f9r7 .ret))))))⟩
def f10r0 : ICode := .region [
  ⟨(some 4), .box 30 (.tmp 0), none⟩,
  ⟨(some 8), .move (.const (.slice none 0 0)), none⟩] none
def f10r1 : ICode := .region [
  ⟨(some 19), .move (.tmp 2), none⟩,
  ⟨(some 20), .bin .lss (.tmp 19) (.const (.int .i64 (.ofNat 0))), none⟩,
  ⟨(some 21), .move (.tmp 20), none⟩,
  ⟨(some 22), .move (.tmp 2), (some ((some 21), false))⟩,
  ⟨(some 23), .move (.tmp 1), (some ((some 21), false))⟩,
  ⟨(some 24), .len 0 (.tmp 23), (some ((some 21), false))⟩,
  ⟨(some 25), .bin .gtr (.tmp 22) (.tmp 24), (some ((some 21), false))⟩,
  ⟨(some 26), .pick (.tmp 21) (.const (.bool true)) (.tmp 25), none⟩,
  ⟨(some 27), .move (.tmp 26), none⟩,
  ⟨(some 28), .fieldAddr 0 (.tmp 4), (some ((some 27), false))⟩,
  ⟨(some 29), .load1 (.tmp 28), (some ((some 27), false))⟩,
  ⟨(some 30), .len 1 (.tmp 29), (some ((some 27), false))⟩,
  ⟨(some 31), .bin .eql (.tmp 30) (.const (.int .i64 (.ofNat 0))), (some ((some 27), false))⟩,
  ⟨(some 32), .pick (.tmp 27) (.const (.bool true)) (.tmp 31), none⟩] none
def f10r2 : ICode := .region [
  ⟨(some 8), .move (.const (.slice none 0 0)), none⟩] none
def f10r3 : ICode := .region [
  ⟨(some 33), .loadN 2 (.tmp 4), none⟩,
  ⟨(some 34), .move (.tmp 1), none⟩,
  ⟨(some 35), .build [(.slice none 0 0), (.int .i64 (.ofNat 0)), (.string ⟨⟨[]⟩⟩), (.slice none 0 0)] [(0, 2, (.tmp 33)), (2, 1, (.tmp 34))], none⟩,
  ⟨(some 36), .box 67 (.tmp 35), none⟩,
  ⟨(some 9), .move (.tmp 36), none⟩] none
def f10r4 : ICode := .region [
  ⟨(some 37), .fieldAddr 0 (.tmp 4), none⟩,
  ⟨(some 38), .load1 (.tmp 37), none⟩,
  ⟨(some 39), .len 1 (.tmp 38), none⟩,
  ⟨(some 40), .makeSlice 3 8 (.int .i64 (.ofNat 0)) (.tmp 39) (.tmp 39), none⟩,
  ⟨(some 41), .build [(.slice none 0 0), (.slice none 0 0)] [(1, 1, (.tmp 40))], none⟩,
  ⟨(some 42), .box 70 (.tmp 41), none⟩,
  ⟨(some 43), .fieldAddr 0 (.tmp 4), none⟩,
  ⟨(some 44), .load1 (.tmp 43), none⟩,
  ⟨(some 45), .len 1 (.tmp 44), none⟩,
  ⟨(some 46), .makeSlice 3 8 (.int .i64 (.ofNat 0)) (.tmp 45) (.tmp 45), none⟩,
  ⟨(some 47), .build [(.slice none 0 0), (.slice none 0 0)] [(1, 1, (.tmp 46))], none⟩,
  ⟨(some 48), .box 70 (.tmp 47), none⟩,
  ⟨(some 10), .move (.tmp 42), none⟩,
  ⟨(some 11), .move (.tmp 48), none⟩] (some ⟨[(7, [3, 5])], []⟩)
def f10r5 : ICode := .region [
  ⟨(some 12), .move (.const (.slice none 0 0)), none⟩] none
def f10r6 : ICode := .region [
  ⟨(some 49), .move (.tmp 2), none⟩,
  ⟨(some 13), .move (.tmp 49), none⟩] none
def f10r7 : ICode := .region [
  ⟨(some 50), .move (.tmp 13), none⟩,
  ⟨(some 51), .move (.tmp 1), none⟩,
  ⟨(some 52), .len 0 (.tmp 51), none⟩,
  ⟨(some 53), .bin .leq (.tmp 50) (.tmp 52), none⟩] none
def f10r8 : ICode := .region [
  ⟨(some 56), .move (.tmp 12), none⟩,
  ⟨(some 57), .nilEq false 1 (.tmp 56) (.const (.slice none 0 0)), none⟩,
  ⟨(some 58), .move (.tmp 57), none⟩,
  ⟨(some 59), .move (.tmp 13), (some ((some 58), true))⟩,
  ⟨(some 60), .move (.tmp 2), (some ((some 58), true))⟩,
  ⟨(some 61), .bin .eql (.tmp 59) (.tmp 60), (some ((some 58), true))⟩,
  ⟨(some 62), .move (.tmp 61), (some ((some 58), true))⟩,
  ⟨(some 63), .move (.tmp 3), (some ((some 62), false))⟩,
  ⟨(some 64), .un .not (.tmp 63), (some ((some 62), false))⟩,
  ⟨(some 65), .pick (.tmp 62) (.const (.bool true)) (.tmp 64), (some ((some 58), true))⟩,
  ⟨(some 66), .pick (.tmp 58) (.tmp 65) (.const (.bool false)), none⟩] none
def f10r9 : ICode := .region [
  ⟨(some 67), .fieldAddr 1 (.tmp 4), none⟩,
  ⟨(some 68), .load1 (.tmp 67), none⟩,
  ⟨(some 69), .bin .mul (.const (.int .i64 (.ofNat 2))) (.tmp 68), none⟩,
  ⟨(some 70), .makeSlice 3 8 (.int .i64 (.ofNat 0)) (.tmp 69) (.tmp 69), none⟩,
  ⟨(some 14), .move (.tmp 70), none⟩] none
def f10r10 : ICode := .region [
  ⟨(some 71), .move (.tmp 14), none⟩,
  ⟨(some 72), .len 1 (.tmp 71), none⟩,
  ⟨(some 73), .move (.const (.int .i64 (.ofNat 0))), none⟩] none
def f10r11 : ICode := .region [
  ⟨(some 74), .bin .lss (.tmp 73) (.tmp 72), none⟩] none
def f10r12 : ICode := .region [
  ⟨(some 75), .move (.tmp 73), none⟩,
  ⟨(some 15), .move (.tmp 75), none⟩] none
def f10r13 : ICode := .region [
  ⟨(some 76), .move (.tmp 14), none⟩,
  ⟨(some 77), .move (.tmp 15), none⟩,
  ⟨(some 78), .indexSl 1 (.tmp 76) (.tmp 77), none⟩,
  ⟨none, .store 1 (.tmp 78) (.const (.int .i64 (.negSucc 0))), none⟩] none
def f10r14 : ICode := .region [
  ⟨(some 79), .bin .add (.tmp 73) (.const (.int .i64 (.ofNat 1))), none⟩,
  ⟨(some 73), .move (.tmp 79), none⟩] none
def f10r15 : ICode := .region [
  ⟨(some 80), .move (.tmp 9), none⟩,
  ⟨(some 81), .move (.tmp 10), none⟩,
  ⟨(some 82), .move (.tmp 14), none⟩,
  ⟨(some 83), .build [(.int .i64 (.ofNat 0)), (.slice none 0 0)] [(0, 1, (.const (.int .i64 (.ofNat 0)))), (1, 1, (.tmp 82))], none⟩,
  ⟨(some 84), .move (.tmp 13), none⟩,
  ⟨(some 85), .call 20 [(.tmp 80), (.tmp 81), (.tmp 83), (.tmp 84)], none⟩] none
def f10r16 : ICode := .region [
  ⟨(some 86), .move (.tmp 10), none⟩,
  ⟨(some 87), .nilCheck (.tmp 86), none⟩,
  ⟨(some 88), .fieldAddr 0 (.tmp 87), none⟩,
  ⟨(some 89), .load1 (.tmp 88), none⟩,
  ⟨(some 90), .len 1 (.tmp 89), none⟩,
  ⟨(some 91), .bin .eql (.tmp 90) (.const (.int .i64 (.ofNat 0))), none⟩,
  ⟨(some 92), .move (.tmp 91), none⟩,
  ⟨(some 93), .move (.tmp 12), (some ((some 92), true))⟩,
  ⟨(some 94), .nilEq true 1 (.tmp 93) (.const (.slice none 0 0)), (some ((some 92), true))⟩,
  ⟨(some 95), .move (.tmp 94), (some ((some 92), true))⟩,
  ⟨(some 96), .move (.tmp 3), (some ((some 95), false))⟩,
  ⟨(some 97), .pick (.tmp 95) (.const (.bool true)) (.tmp 96), (some ((some 92), true))⟩,
  ⟨(some 98), .pick (.tmp 92) (.tmp 97) (.const (.bool false)), none⟩] none
def f10r17 : ICode := .region [
  ⟨(some 99), .move (.tmp 11), none⟩,
  ⟨(some 100), .move (.tmp 11), none⟩,
  ⟨(some 101), .nilCheck (.tmp 100), none⟩,
  ⟨(some 102), .fieldAddr 0 (.tmp 101), none⟩,
  ⟨(some 103), .load1 (.tmp 102), none⟩,
  ⟨(some 104), .sliceSl 2 (.tmp 103) none (some (.const (.int .i64 (.ofNat 0)))), none⟩,
  ⟨(some 105), .nilCheck (.tmp 99), none⟩,
  ⟨(some 106), .fieldAddr 0 (.tmp 105), none⟩,
  ⟨none, .store 1 (.tmp 106) (.tmp 104), none⟩] none
def f10r18 : ICode := .region [
  ⟨(some 107), .move (.tmp 10), none⟩,
  ⟨(some 108), .nilCheck (.tmp 107), none⟩,
  ⟨(some 109), .fieldAddr 0 (.tmp 108), none⟩,
  ⟨(some 110), .load1 (.tmp 109), none⟩,
  ⟨(some 111), .len 1 (.tmp 110), none⟩,
  ⟨(some 112), .move (.const (.int .i64 (.ofNat 0))), none⟩] none
def f10r19 : ICode := .region [
  ⟨(some 113), .bin .lss (.tmp 112) (.tmp 111), none⟩] none
def f10r20 : ICode := .region [
  ⟨(some 114), .indexSl 2 (.tmp 110) (.tmp 112), none⟩,
  ⟨(some 115), .loadN 2 (.tmp 114), none⟩,
  ⟨(some 17), .new [(.int .i64 (.ofNat 0)), (.slice none 0 0)] 73, none⟩,
  ⟨none, .store 2 (.tmp 17) (.tmp 115), none⟩] none
def f10r21 : ICode := .region [
  ⟨(some 116), .fieldAddr 0 (.tmp 4), none⟩,
  ⟨(some 117), .load1 (.tmp 116), none⟩,
  ⟨(some 118), .fieldAddr 0 (.tmp 17), none⟩,
  ⟨(some 119), .load1 (.tmp 118), none⟩,
  ⟨(some 120), .indexSl 5 (.tmp 117) (.tmp 119), none⟩,
  ⟨(some 121), .loadN 5 (.tmp 120), none⟩,
  ⟨(some 18), .new [(.int .i64 (.ofNat 0)), (.int .i64 (.ofNat 0)), (.int .i64 (.ofNat 0)), (.int .i64 (.ofNat 0)), (.int .i64 (.ofNat 0))] 77, none⟩,
  ⟨none, .store 5 (.tmp 18) (.tmp 121), none⟩] none
def f10r22 : ICode := .region [
  ⟨(some 122), .fieldAddr 0 (.tmp 18), none⟩,
  ⟨(some 123), .load1 (.tmp 122), none⟩,
  ⟨(some 124), .bin .eql (.tmp 123) (.const (.int .i64 (.ofNat 5))), none⟩] none
def f10r23 : ICode := .region [
  ⟨(some 125), .fieldAddr 1 (.tmp 17), none⟩,
  ⟨(some 126), .load1 (.tmp 125), none⟩,
  ⟨(some 12), .move (.tmp 126), none⟩] none
def f10r24 : ICode := .region [
  ⟨(some 127), .move (.tmp 13), none⟩,
  ⟨(some 128), .move (.tmp 1), none⟩,
  ⟨(some 129), .len 0 (.tmp 128), none⟩,
  ⟨(some 130), .bin .lss (.tmp 127) (.tmp 129), none⟩,
  ⟨(some 131), .move (.tmp 130), none⟩,
  ⟨(some 132), .move (.tmp 1), (some ((some 131), true))⟩,
  ⟨(some 133), .move (.tmp 13), (some ((some 131), true))⟩,
  ⟨(some 134), .indexStr (.tmp 132) (.tmp 133), (some ((some 131), true))⟩,
  ⟨(some 135), .conv .i64 (.tmp 134), (some ((some 131), true))⟩,
  ⟨(some 136), .fieldAddr 3 (.tmp 18), (some ((some 131), true))⟩,
  ⟨(some 137), .fieldAddr 0 (.tmp 136), (some ((some 131), true))⟩,
  ⟨(some 138), .load1 (.tmp 137), (some ((some 131), true))⟩,
  ⟨(some 139), .bin .geq (.tmp 135) (.tmp 138), (some ((some 131), true))⟩,
  ⟨(some 140), .pick (.tmp 131) (.tmp 139) (.const (.bool false)), none⟩,
  ⟨(some 141), .move (.tmp 140), none⟩,
  ⟨(some 142), .move (.tmp 1), (some ((some 141), true))⟩,
  ⟨(some 143), .move (.tmp 13), (some ((some 141), true))⟩,
  ⟨(some 144), .indexStr (.tmp 142) (.tmp 143), (some ((some 141), true))⟩,
  ⟨(some 145), .conv .i64 (.tmp 144), (some ((some 141), true))⟩,
  ⟨(some 146), .fieldAddr 3 (.tmp 18), (some ((some 141), true))⟩,
  ⟨(some 147), .fieldAddr 1 (.tmp 146), (some ((some 141), true))⟩,
  ⟨(some 148), .load1 (.tmp 147), (some ((some 141), true))⟩,
  ⟨(some 149), .bin .leq (.tmp 145) (.tmp 148), (some ((some 141), true))⟩,
  ⟨(some 150), .pick (.tmp 141) (.tmp 149) (.const (.bool false)), none⟩] (some ⟨[], []⟩)
def f10r25 : ICode := .region [
  ⟨(some 151), .move (.tmp 9), none⟩,
  ⟨(some 152), .move (.tmp 11), none⟩,
  ⟨(some 153), .fieldAddr 1 (.tmp 18), none⟩,
  ⟨(some 154), .load1 (.tmp 153), none⟩,
  ⟨(some 155), .fieldAddr 1 (.tmp 17), none⟩,
  ⟨(some 156), .load1 (.tmp 155), none⟩,
  ⟨(some 157), .build [(.int .i64 (.ofNat 0)), (.slice none 0 0)] [(0, 1, (.tmp 154)), (1, 1, (.tmp 156))], none⟩,
  ⟨(some 158), .move (.tmp 13), none⟩,
  ⟨(some 159), .bin .add (.tmp 158) (.const (.int .i64 (.ofNat 1))), none⟩,
  ⟨(some 160), .call 20 [(.tmp 151), (.tmp 152), (.tmp 157), (.tmp 159)], none⟩] none
def f10r26 : ICode := .region [
  ⟨(some 161), .bin .add (.tmp 112) (.const (.int .i64 (.ofNat 1))), none⟩,
  ⟨(some 112), .move (.tmp 161), none⟩] none
def f10r27 : ICode := .region [
  ⟨(some 162), .move (.tmp 11), none⟩,
  ⟨(some 163), .move (.tmp 10), none⟩,
  ⟨(some 10), .move (.tmp 162), none⟩,
  ⟨(some 11), .move (.tmp 163), none⟩] none
def f10r28 : ICode := .region [
  ⟨(some 54), .move (.tmp 13), none⟩,
  ⟨(some 55), .bin .add (.tmp 54) (.const (.int .i64 (.ofNat 1))), none⟩,
  ⟨(some 13), .move (.tmp 55), none⟩] none
def f10r29 : ICode := .region [
  ⟨(some 164), .move (.tmp 12), none⟩,
  ⟨(some 8), .move (.tmp 164), none⟩] none
/- ferret/pike.Run -/
def f10 : IFn := ⟨165, [.inl 8], (.seq f10r0 (.seq (.seq f10r1 (.cond (.tmp 32) (.seq f10r2 .ret) .skip)) (.seq f10r3 (.seq f10r4 (.seq f10r5 (.seq (.seq f10r6 (.block 0 (.loop (.seq (.seq f10r7 (.cond (.tmp 53) .skip (.exit 0))) (.seq (.block 1 (.seq (.seq f10r8 (.cond (.tmp 66) (.seq f10r9 (.seq (.seq f10r10 (.block 2 (.loop (.seq f10r11 (.seq (.cond (.tmp 74) .skip (.exit 2)) (.seq (.block 3 (.seq f10r12 f10r13)) f10r14)))))) f10r15)) .skip)) (.seq (.seq f10r16 (.cond (.tmp 98) (.exit 0) .skip)) (.seq f10r17 (.seq (.seq f10r18 (.block 4 (.loop (.seq f10r19 (.seq (.cond (.tmp 113) .skip (.exit 4)) (.seq (.block 5 (.seq f10r20 (.seq f10r21 (.seq (.seq f10r22 (.cond (.tmp 124) (.seq f10r23 (.exit 4)) .skip)) (.seq f10r24 (.cond (.tmp 150) f10r25 .skip)))))) f10r26)))))) f10r27))))) f10r28))))) (.seq f10r29 .ret)))))))⟩
def f11r0 : ICode := .region [
  ⟨(some 6), .new [(.int .i64 (.ofNat 0)), (.slice none 0 0), (.slice none 0 0), (.int .i64 (.ofNat 0))] 34, none⟩,
  ⟨(some 7), .new [(.int .i64 (.ofNat 0)), (.int .i64 (.ofNat 0))] 37, none⟩] none
def f11r1 : ICode := .region [
  ⟨(some 14), .move (.tmp 1), none⟩,
  ⟨(some 15), .bin .lss (.tmp 14) (.const (.int .i64 (.ofNat 0))), none⟩,
  ⟨(some 16), .move (.tmp 15), none⟩,
  ⟨(some 17), .move (.tmp 1), (some ((some 16), false))⟩,
  ⟨(some 18), .bin .gtr (.tmp 17) (.const (.int .i64 (.ofNat 4))), (some ((some 16), false))⟩,
  ⟨(some 19), .pick (.tmp 16) (.const (.bool true)) (.tmp 18), none⟩] none
def f11r2 : ICode := .region [
  ⟨(some 20), .build [(.int .i64 (.ofNat 0)), (.slice none 0 0), (.slice none 0 0), (.int .i64 (.ofNat 0))] [], none⟩,
  ⟨(some 21), .build [(.int .i64 (.ofNat 0)), (.int .i64 (.ofNat 0))] [(0, 1, (.const (.int .i64 (.ofNat 1))))], none⟩,
  ⟨none, .store 4 (.tmp 6) (.tmp 20), none⟩,
  ⟨none, .store 2 (.tmp 7) (.tmp 21), none⟩] none
def f11r3 : ICode := .region [
  ⟨(some 22), .move (.tmp 1), none⟩,
  ⟨(some 23), .build [(.int .i64 (.ofNat 0)), (.slice none 0 0), (.slice none 0 0), (.int .i64 (.ofNat 0))] [(0, 1, (.tmp 22))], none⟩,
  ⟨(some 8), .new [(.int .i64 (.ofNat 0)), (.slice none 0 0), (.slice none 0 0), (.int .i64 (.ofNat 0))] 34, none⟩,
  ⟨none, .store 4 (.tmp 8) (.tmp 23), none⟩] none
def f11r4 : ICode := .region [
  ⟨(some 24), .move (.tmp 1), none⟩,
  ⟨(some 25), .bin .eql (.tmp 24) (.const (.int .i64 (.ofNat 0))), none⟩] none
def f11r5 : ICode := .region [
  ⟨(some 27), .move (.tmp 0), none⟩,
  ⟨(some 28), .call 21 [(.tmp 27)], none⟩,
  ⟨(some 26), .move (.tmp 28), none⟩,
  ⟨(some 29), .extract (.tmp 26) 0, none⟩,
  ⟨(some 30), .extract (.tmp 26) 1, none⟩,
  ⟨(some 31), .fieldAddr 0 (.tmp 8), none⟩,
  ⟨none, .store 1 (.tmp 31) (.tmp 29), none⟩] none
def f11r6 : ICode := .region [
  ⟨(some 9), .move (.const (.int .i64 (.ofNat 0))), none⟩] none
def f11r7 : ICode := .region [
  ⟨(some 32), .fieldAddr 0 (.tmp 8), none⟩,
  ⟨(some 33), .load1 (.tmp 32), none⟩,
  ⟨(some 34), .call 22 [(.tmp 33)], none⟩,
  ⟨(some 10), .move (.tmp 34), none⟩] none
def f11r8 : ICode := .region [
  ⟨(some 35), .move (.tmp 0), none⟩,
  ⟨(some 36), .move (.tmp 10), none⟩,
  ⟨(some 37), .call 23 [(.tmp 35), (.tmp 36)], none⟩] none
def f11r9 : ICode := .region [
  ⟨(some 38), .move (.tmp 10), none⟩,
  ⟨(some 39), .len 0 (.tmp 38), none⟩,
  ⟨(some 9), .move (.tmp 39), none⟩] none
def f11r10 : ICode := .region [
  ⟨(some 40), .fieldAddr 0 (.tmp 8), none⟩,
  ⟨(some 41), .load1 (.tmp 40), none⟩,
  ⟨(some 42), .call 24 [(.tmp 41)], none⟩,
  ⟨(some 11), .move (.tmp 42), none⟩] none
def f11r11 : ICode := .region [
  ⟨(some 43), .move (.tmp 9), none⟩,
  ⟨(some 44), .move (.tmp 0), none⟩,
  ⟨(some 45), .len 0 (.tmp 44), none⟩,
  ⟨(some 46), .bin .lss (.tmp 43) (.tmp 45), none⟩] none
def f11r12 : ICode := .region [
  ⟨(some 48), .move (.tmp 11), none⟩,
  ⟨(some 49), .move (.tmp 0), none⟩,
  ⟨(some 50), .move (.tmp 9), none⟩,
  ⟨(some 51), .sliceStr (.tmp 49) (some (.tmp 50)) none, none⟩,
  ⟨(some 52), .callv (.tmp 48) [(.tmp 51)], none⟩,
  ⟨(some 47), .move (.tmp 52), none⟩,
  ⟨(some 53), .extract (.tmp 47) 0, none⟩,
  ⟨(some 54), .extract (.tmp 47) 1, none⟩,
  ⟨(some 12), .move (.tmp 53), none⟩,
  ⟨(some 13), .move (.tmp 54), none⟩] none
def f11r13 : ICode := .region [
  ⟨(some 55), .move (.tmp 12), none⟩,
  ⟨(some 56), .bin .lss (.tmp 55) (.const (.int .i64 (.ofNat 0))), none⟩] none
def f11r14 : ICode := .region [
  ⟨(some 57), .move (.tmp 2), none⟩] none
def f11r15 : ICode := .region [
  ⟨(some 58), .build [(.int .i64 (.ofNat 0)), (.slice none 0 0), (.slice none 0 0), (.int .i64 (.ofNat 0))] [], none⟩,
  ⟨(some 59), .move (.tmp 9), none⟩,
  ⟨(some 60), .build [(.int .i64 (.ofNat 0)), (.int .i64 (.ofNat 0))] [(0, 1, (.const (.int .i64 (.ofNat 17)))), (1, 1, (.tmp 59))], none⟩,
  ⟨none, .store 4 (.tmp 6) (.tmp 58), none⟩,
  ⟨none, .store 2 (.tmp 7) (.tmp 60), none⟩] none
def f11r16 : ICode := .region [
  ⟨(some 12), .move (.const (.int .i64 (.ofNat 65533))), none⟩] none
def f11r17 : ICode := .region [
  ⟨(some 61), .fieldAddr 3 (.tmp 8), none⟩,
  ⟨(some 62), .load1 (.tmp 61), none⟩,
  ⟨(some 63), .bin .add (.tmp 62) (.const (.int .i64 (.ofNat 1))), none⟩,
  ⟨(some 64), .fieldAddr 3 (.tmp 8), none⟩,
  ⟨none, .store 1 (.tmp 64) (.tmp 63), none⟩] none
def f11r18 : ICode := .region [
  ⟨(some 65), .fieldAddr 1 (.tmp 8), none⟩,
  ⟨(some 66), .load1 (.tmp 65), none⟩,
  ⟨(some 67), .move (.tmp 12), none⟩,
  ⟨(some 68), .buildSlice 3 1 [(.int .i64 (.ofNat 0))] [(0, 1, (.tmp 67))], none⟩,
  ⟨(some 69), .append 3 1 8 (.tmp 66) (.tmp 68), none⟩,
  ⟨(some 70), .fieldAddr 2 (.tmp 8), none⟩,
  ⟨(some 71), .load1 (.tmp 70), none⟩,
  ⟨(some 72), .move (.tmp 9), none⟩,
  ⟨(some 73), .buildSlice 3 1 [(.int .i64 (.ofNat 0))] [(0, 1, (.tmp 72))], none⟩,
  ⟨(some 74), .append 3 1 8 (.tmp 71) (.tmp 73), none⟩,
  ⟨(some 75), .fieldAddr 1 (.tmp 8), none⟩,
  ⟨none, .store 1 (.tmp 75) (.tmp 69), none⟩,
  ⟨(some 76), .fieldAddr 2 (.tmp 8), none⟩,
  ⟨none, .store 1 (.tmp 76) (.tmp 74), none⟩] (some ⟨[(6, [3])], [(6, 4)]⟩)
def f11r19 : ICode := .region [
  ⟨(some 77), .move (.tmp 9), none⟩,
  ⟨(some 78), .move (.tmp 13), none⟩,
  ⟨(some 79), .bin .add (.tmp 77) (.tmp 78), none⟩,
  ⟨(some 9), .move (.tmp 79), none⟩] none
def f11r20 : ICode := .region [
  ⟨(some 80), .fieldAddr 2 (.tmp 8), none⟩,
  ⟨(some 81), .load1 (.tmp 80), none⟩,
  ⟨(some 82), .move (.tmp 0), none⟩,
  ⟨(some 83), .len 0 (.tmp 82), none⟩,
  ⟨(some 84), .buildSlice 3 1 [(.int .i64 (.ofNat 0))] [(0, 1, (.tmp 83))], none⟩,
  ⟨(some 85), .append 3 1 8 (.tmp 81) (.tmp 84), none⟩,
  ⟨(some 86), .fieldAddr 2 (.tmp 8), none⟩,
  ⟨none, .store 1 (.tmp 86) (.tmp 85), none⟩] none
def f11r21 : ICode := .region [
  ⟨(some 87), .loadN 4 (.tmp 8), none⟩,
  ⟨(some 88), .build [(.int .i64 (.ofNat 0)), (.int .i64 (.ofNat 0))] [], none⟩,
  ⟨none, .store 4 (.tmp 6) (.tmp 87), none⟩,
  ⟨none, .store 2 (.tmp 7) (.tmp 88), none⟩] none
/- ferret/coding.Decode -/
def f11 : IFn := ⟨89, [.inr (6, (some 4)), .inr (7, (some 2))], (.seq f11r0 (.seq (.seq f11r1 (.cond (.tmp 19) (.seq f11r2 .ret) .skip)) (.seq f11r3 (.seq (.seq f11r4 (.cond (.tmp 25) f11r5 .skip)) (.seq f11r6 (.seq (.seq f11r7 (.seq f11r8 (.cond (.tmp 37) f11r9 .skip))) (.seq f11r10 (.seq (.block 0 (.loop (.seq (.seq f11r11 (.cond (.tmp 46) .skip (.exit 0))) (.block 1 (.seq f11r12 (.seq (.seq f11r13 (.cond (.tmp 56) (.seq (.seq f11r14 (.cond (.tmp 57) (.seq f11r15 .ret) .skip)) (.seq f11r16 f11r17)) .skip)) (.seq f11r18 f11r19))))))) (.seq f11r20 (.seq f11r21 .ret))))))))))⟩
def f12r0 : ICode := .region [
  ⟨(some 6), .move (.const (.string ⟨⟨[]⟩⟩)), none⟩,
  ⟨(some 7), .move (.const (.int .i64 (.ofNat 0))), none⟩] none
def f12r1 : ICode := .region [
  ⟨(some 11), .move (.tmp 1), none⟩,
  ⟨(some 12), .bin .lss (.tmp 11) (.const (.int .i64 (.ofNat 1))), none⟩,
  ⟨(some 13), .move (.tmp 12), none⟩,
  ⟨(some 14), .move (.tmp 1), (some ((some 13), false))⟩,
  ⟨(some 15), .bin .gtr (.tmp 14) (.const (.int .i64 (.ofNat 4))), (some ((some 13), false))⟩,
  ⟨(some 16), .pick (.tmp 13) (.const (.bool true)) (.tmp 15), none⟩] none
def f12r2 : ICode := .region [
  ⟨(some 6), .move (.const (.string ⟨⟨[]⟩⟩)), none⟩,
  ⟨(some 7), .move (.const (.int .i64 (.ofNat 1))), none⟩] none
def f12r3 : ICode := .region [
  ⟨(some 8), .move (.const (.slice none 0 0)), none⟩] none
def f12r4 : ICode := .region [
  ⟨(some 17), .move (.tmp 2), none⟩] none
def f12r5 : ICode := .region [
  ⟨(some 18), .move (.tmp 8), none⟩,
  ⟨(some 19), .move (.tmp 1), none⟩,
  ⟨(some 20), .call 22 [(.tmp 19)], none⟩,
  ⟨(some 21), .append 5 1 1 (.tmp 18) (.tmp 20), none⟩,
  ⟨(some 8), .move (.tmp 21), none⟩] none
def f12r6 : ICode := .region [
  ⟨(some 22), .move (.tmp 0), none⟩,
  ⟨(some 23), .len 1 (.tmp 22), none⟩,
  ⟨(some 24), .move (.const (.int .i64 (.ofNat 0))), none⟩] none
def f12r7 : ICode := .region [
  ⟨(some 25), .bin .lss (.tmp 24) (.tmp 23), none⟩] none
def f12r8 : ICode := .region [
  ⟨(some 26), .indexSl 1 (.tmp 22) (.tmp 24), none⟩,
  ⟨(some 27), .load1 (.tmp 26), none⟩,
  ⟨(some 10), .move (.tmp 27), none⟩] none
def f12r9 : ICode := .region [
  ⟨(some 28), .move (.tmp 10), none⟩,
  ⟨(some 29), .bin .lss (.tmp 28) (.const (.int .i64 (.ofNat 0))), none⟩,
  ⟨(some 30), .move (.tmp 29), none⟩,
  ⟨(some 31), .move (.tmp 10), (some ((some 30), false))⟩,
  ⟨(some 32), .bin .gtr (.tmp 31) (.const (.int .i64 (.ofNat 1114111))), (some ((some 30), false))⟩,
  ⟨(some 33), .pick (.tmp 30) (.const (.bool true)) (.tmp 32), none⟩,
  ⟨(some 34), .move (.tmp 33), none⟩,
  ⟨(some 35), .move (.tmp 10), (some ((some 34), false))⟩,
  ⟨(some 36), .bin .geq (.tmp 35) (.const (.int .i64 (.ofNat 55296))), (some ((some 34), false))⟩,
  ⟨(some 37), .move (.tmp 36), (some ((some 34), false))⟩,
  ⟨(some 38), .move (.tmp 10), (some ((some 37), true))⟩,
  ⟨(some 39), .bin .leq (.tmp 38) (.const (.int .i64 (.ofNat 57343))), (some ((some 37), true))⟩,
  ⟨(some 40), .pick (.tmp 37) (.tmp 39) (.const (.bool false)), (some ((some 34), false))⟩,
  ⟨(some 41), .pick (.tmp 34) (.const (.bool true)) (.tmp 40), none⟩,
  ⟨(some 42), .move (.tmp 41), none⟩,
  ⟨(some 43), .move (.tmp 1), (some ((some 42), false))⟩,
  ⟨(some 44), .bin .eql (.tmp 43) (.const (.int .i64 (.ofNat 4))), (some ((some 42), false))⟩,
  ⟨(some 45), .move (.tmp 44), (some ((some 42), false))⟩,
  ⟨(some 46), .move (.tmp 10), (some ((some 45), true))⟩,
  ⟨(some 47), .bin .gtr (.tmp 46) (.const (.int .i64 (.ofNat 255))), (some ((some 45), true))⟩,
  ⟨(some 48), .pick (.tmp 45) (.tmp 47) (.const (.bool false)), (some ((some 42), false))⟩,
  ⟨(some 49), .pick (.tmp 42) (.const (.bool true)) (.tmp 48), none⟩] none
def f12r10 : ICode := .region [
  ⟨(some 6), .move (.const (.string ⟨⟨[]⟩⟩)), none⟩,
  ⟨(some 7), .move (.const (.int .i64 (.ofNat 17))), none⟩] none
def f12r11 : ICode := .region [
  ⟨(some 50), .move (.tmp 8), none⟩,
  ⟨(some 51), .move (.tmp 10), none⟩,
  ⟨(some 52), .move (.tmp 1), none⟩,
  ⟨(some 53), .call 25 [(.tmp 50), (.tmp 51), (.tmp 52)], none⟩,
  ⟨(some 8), .move (.tmp 53), none⟩] none
def f12r12 : ICode := .region [
  ⟨(some 54), .bin .add (.tmp 24) (.const (.int .i64 (.ofNat 1))), none⟩,
  ⟨(some 24), .move (.tmp 54), none⟩] none
def f12r13 : ICode := .region [
  ⟨(some 55), .move (.tmp 8), none⟩,
  ⟨(some 56), .bytesToStr (.tmp 55), none⟩,
  ⟨(some 6), .move (.tmp 56), none⟩,
  ⟨(some 7), .move (.const (.int .i64 (.ofNat 0))), none⟩] none
/- ferret/coding.Encode -/
def f12 : IFn := ⟨57, [.inl 6, .inl 7], (.seq f12r0 (.seq (.seq f12r1 (.cond (.tmp 16) (.seq f12r2 .ret) .skip)) (.seq f12r3 (.seq (.seq f12r4 (.cond (.tmp 17) f12r5 .skip)) (.seq (.seq f12r6 (.block 0 (.loop (.seq f12r7 (.seq (.cond (.tmp 25) .skip (.exit 0)) (.seq (.block 1 (.seq f12r8 (.seq (.seq f12r9 (.cond (.tmp 49) (.seq f12r10 .ret) .skip)) f12r11))) f12r12)))))) (.seq f12r13 .ret))))))⟩
def f13r0 : ICode := .region [
  ⟨(some 0), .move (.const (.bool false)), none⟩] none
def f13r1 : ICode := .region [
  ⟨(some 8), .build [(.bool false), (.bool false), (.bool false), (.bool false)] [], none⟩,
  ⟨(some 9), .call 18 [(.const (.string ⟨⟨[97, 43, 98, 63]⟩⟩)), (.tmp 8)], none⟩,
  ⟨(some 7), .move (.tmp 9), none⟩,
  ⟨(some 10), .extract (.tmp 7) 0, none⟩,
  ⟨(some 11), .extract (.tmp 7) 1, none⟩,
  ⟨(some 1), .new [(.int .i64 (.ofNat 0)), (.slice none 0 0), (.bool false), (.int .i64 (.ofNat 0)), (.int .i64 (.ofNat 0)), (.bool false), (.int .i64 (.ofNat 0)), (.string ⟨⟨[]⟩⟩), (.slice none 0 0), (.slice none 0 0)] 57, none⟩,
  ⟨(some 2), .new [(.int .i64 (.ofNat 0)), (.int .i64 (.ofNat 0))] 37, none⟩,
  ⟨none, .store 10 (.tmp 1) (.tmp 10), none⟩,
  ⟨none, .store 2 (.tmp 2) (.tmp 11), none⟩] none
def f13r2 : ICode := .region [
  ⟨(some 13), .loadN 10 (.tmp 1), none⟩,
  ⟨(some 14), .call 19 [(.tmp 13)], none⟩,
  ⟨(some 12), .move (.tmp 14), none⟩,
  ⟨(some 15), .extract (.tmp 12) 0, none⟩,
  ⟨(some 16), .extract (.tmp 12) 1, none⟩,
  ⟨(some 3), .new [(.slice none 0 0), (.int .i64 (.ofNat 0))] 30, none⟩,
  ⟨none, .store 2 (.tmp 3) (.tmp 15), none⟩,
  ⟨(some 4), .move (.tmp 16), none⟩] none
def f13r3 : ICode := .region [
  ⟨(some 18), .loadN 2 (.tmp 3), none⟩,
  ⟨(some 19), .call 15 [(.tmp 18), (.const (.int .i64 (.ofNat 9)))], none⟩,
  ⟨(some 20), .call 16 [(.tmp 19), (.const (.string ⟨⟨[120, 97, 97, 98]⟩⟩)), (.const (.int .i64 (.ofNat 0))), (.const (.bool false))], none⟩,
  ⟨(some 17), .move (.tmp 20), none⟩,
  ⟨(some 21), .extract (.tmp 17) 0, none⟩,
  ⟨(some 22), .extract (.tmp 17) 1, none⟩,
  ⟨(some 5), .move (.tmp 21), none⟩,
  ⟨(some 6), .move (.tmp 22), none⟩] none
def f13r4 : ICode := .region [
  ⟨(some 23), .move (.tmp 4), none⟩,
  ⟨(some 24), .bin .eql (.tmp 23) (.const (.int .i64 (.ofNat 0))), none⟩,
  ⟨(some 25), .move (.tmp 24), none⟩,
  ⟨(some 26), .move (.tmp 6), (some ((some 25), true))⟩,
  ⟨(some 27), .pick (.tmp 25) (.tmp 26) (.const (.bool false)), none⟩,
  ⟨(some 28), .move (.tmp 27), none⟩,
  ⟨(some 29), .move (.tmp 5), (some ((some 28), true))⟩,
  ⟨(some 30), .bin .eql (.tmp 29) (.const (.int .i64 (.ofNat 4))), (some ((some 28), true))⟩,
  ⟨(some 31), .pick (.tmp 28) (.tmp 30) (.const (.bool false)), none⟩,
  ⟨(some 0), .move (.tmp 31), none⟩] none
/- ferret/ferretlaw16.speaks -/
def f13 : IFn := ⟨32, [.inl 0], (.seq f13r0 (.seq f13r1 (.seq f13r2 (.seq f13r3 (.seq f13r4 .ret)))))⟩
def f14r0 : ICode := .region [
  ⟨(some 4), .box 25 (.tmp 1), none⟩,
  ⟨(some 6), .move (.const (.pointer none)), none⟩] none
def f14r1 : ICode := .region [
  ⟨(some 12), .move (.tmp 0), none⟩,
  ⟨(some 13), .indexArrA 4 1 (.tmp 4) (.const (.int .i64 (.ofNat 0))), none⟩,
  ⟨(some 14), .load1 (.tmp 13), none⟩,
  ⟨(some 15), .indexArrA 4 1 (.tmp 4) (.const (.int .i64 (.ofNat 1))), none⟩,
  ⟨(some 16), .load1 (.tmp 15), none⟩,
  ⟨(some 17), .indexArrA 4 1 (.tmp 4) (.const (.int .i64 (.ofNat 2))), none⟩,
  ⟨(some 18), .load1 (.tmp 17), none⟩,
  ⟨(some 19), .indexArrA 4 1 (.tmp 4) (.const (.int .i64 (.ofNat 3))), none⟩,
  ⟨(some 20), .load1 (.tmp 19), none⟩,
  ⟨(some 21), .build [(.bool false), (.bool false), (.bool false), (.bool false)] [(0, 1, (.tmp 14)), (1, 1, (.tmp 16)), (2, 1, (.tmp 18)), (3, 1, (.tmp 20))], none⟩,
  ⟨(some 22), .call 18 [(.tmp 12), (.tmp 21)], none⟩,
  ⟨(some 11), .move (.tmp 22), none⟩,
  ⟨(some 23), .extract (.tmp 11) 0, none⟩,
  ⟨(some 24), .extract (.tmp 11) 1, none⟩,
  ⟨(some 7), .new [(.int .i64 (.ofNat 0)), (.slice none 0 0), (.bool false), (.int .i64 (.ofNat 0)), (.int .i64 (.ofNat 0)), (.bool false), (.int .i64 (.ofNat 0)), (.string ⟨⟨[]⟩⟩), (.slice none 0 0), (.slice none 0 0)] 57, none⟩,
  ⟨(some 8), .new [(.int .i64 (.ofNat 0)), (.int .i64 (.ofNat 0))] 37, none⟩,
  ⟨none, .store 10 (.tmp 7) (.tmp 23), none⟩,
  ⟨none, .store 2 (.tmp 8) (.tmp 24), none⟩] none
def f14r2 : ICode := .region [
  ⟨(some 25), .loadN 2 (.tmp 8), none⟩,
  ⟨(some 26), .build [(.int .i64 (.ofNat 0)), (.int .i64 (.ofNat 0))] [], none⟩,
  ⟨(some 27), .eqC true 37 (.tmp 25) (.tmp 26), none⟩] none
def f14r3 : ICode := .region [
  ⟨(some 6), .move (.const (.pointer none)), none⟩] none
def f14r4 : ICode := .region [
  ⟨(some 29), .loadN 10 (.tmp 7), none⟩,
  ⟨(some 30), .call 19 [(.tmp 29)], none⟩,
  ⟨(some 28), .move (.tmp 30), none⟩,
  ⟨(some 31), .extract (.tmp 28) 0, none⟩,
  ⟨(some 32), .extract (.tmp 28) 1, none⟩,
  ⟨(some 9), .new [(.slice none 0 0), (.int .i64 (.ofNat 0))] 30, none⟩,
  ⟨none, .store 2 (.tmp 9) (.tmp 31), none⟩,
  ⟨(some 10), .move (.tmp 32), none⟩] none
def f14r5 : ICode := .region [
  ⟨(some 33), .move (.tmp 10), none⟩,
  ⟨(some 34), .bin .neq (.tmp 33) (.const (.int .i64 (.ofNat 0))), none⟩,
  ⟨(some 35), .move (.tmp 34), none⟩,
  ⟨(some 36), .move (.tmp 2), (some ((some 35), false))⟩,
  ⟨(some 37), .bin .gtr (.tmp 36) (.const (.int .i64 (.ofNat 1048576))), (some ((some 35), false))⟩,
  ⟨(some 38), .pick (.tmp 35) (.const (.bool true)) (.tmp 37), none⟩,
  ⟨(some 39), .move (.tmp 38), none⟩,
  ⟨(some 40), .fieldAddr 0 (.tmp 9), (some ((some 39), false))⟩,
  ⟨(some 41), .load1 (.tmp 40), (some ((some 39), false))⟩,
  ⟨(some 42), .len 1 (.tmp 41), (some ((some 39), false))⟩,
  ⟨(some 43), .move (.tmp 2), (some ((some 39), false))⟩,
  ⟨(some 44), .bin .add (.tmp 43) (.const (.int .i64 (.ofNat 1))), (some ((some 39), false))⟩,
  ⟨(some 45), .bin .mul (.tmp 42) (.tmp 44), (some ((some 39), false))⟩,
  ⟨(some 46), .bin .gtr (.tmp 45) (.const (.int .i64 (.ofNat 1048576))), (some ((some 39), false))⟩,
  ⟨(some 47), .pick (.tmp 39) (.const (.bool true)) (.tmp 46), none⟩] none
def f14r6 : ICode := .region [
  ⟨(some 6), .move (.const (.pointer none)), none⟩] none
def f14r7 : ICode := .region [
  ⟨(some 6), .move (.tmp 9), none⟩] none
/- ferret/ferretlaw16.made -/
def f14 : IFn := ⟨48, [.inl 6], (.seq f14r0 (.seq f14r1 (.seq (.seq f14r2 (.cond (.tmp 27) (.seq f14r3 .ret) .skip)) (.seq f14r4 (.seq (.seq f14r5 (.cond (.tmp 47) (.seq f14r6 .ret) .skip)) (.seq f14r7 .ret))))))⟩
def f15r0 : ICode := .region [
  ⟨(some 2), .box 30 (.tmp 0), none⟩,
  ⟨(some 4), .move (.const (.pointer none)), none⟩] none
def f15r1 : ICode := .region [
  ⟨(some 5), .loadN 2 (.tmp 2), none⟩,
  ⟨(some 6), .move (.tmp 1), none⟩,
  ⟨(some 7), .minmax true (.tmp 6) (.const (.int .i64 (.ofNat 4))), none⟩,
  ⟨(some 8), .minmax false (.tmp 7) (.const (.int .i64 (.ofNat 1024))), none⟩,
  ⟨(some 9), .makeMap, none⟩,
  ⟨(some 10), .build [(.slice none 0 0), (.int .i64 (.ofNat 0)), (.int .i64 (.ofNat 0)), (.map none)] [(0, 2, (.tmp 5)), (2, 1, (.tmp 8)), (3, 1, (.tmp 9))], none⟩,
  ⟨(some 11), .box 87 (.tmp 10), none⟩,
  ⟨(some 4), .move (.tmp 11), none⟩] none
/- ferret/dfa.New -/
def f15 : IFn := ⟨12, [.inl 4], (.seq f15r0 (.seq f15r1 .ret))⟩
def f16r0 : ICode := .region [
  ⟨(some 8), .move (.const (.int .i64 (.ofNat 0))), none⟩,
  ⟨(some 9), .move (.const (.bool false)), none⟩] none
def f16r1 : ICode := .region [
  ⟨(some 18), .move (.tmp 0), none⟩,
  ⟨(some 19), .nilEq false 0 (.tmp 18) (.const (.pointer none)), none⟩,
  ⟨(some 20), .move (.tmp 19), none⟩,
  ⟨(some 21), .move (.tmp 2), (some ((some 20), false))⟩,
  ⟨(some 22), .bin .lss (.tmp 21) (.const (.int .i64 (.ofNat 0))), (some ((some 20), false))⟩,
  ⟨(some 23), .pick (.tmp 20) (.const (.bool true)) (.tmp 22), none⟩,
  ⟨(some 24), .move (.tmp 23), none⟩,
  ⟨(some 25), .move (.tmp 2), (some ((some 24), false))⟩,
  ⟨(some 26), .move (.tmp 1), (some ((some 24), false))⟩,
  ⟨(some 27), .len 0 (.tmp 26), (some ((some 24), false))⟩,
  ⟨(some 28), .bin .gtr (.tmp 25) (.tmp 27), (some ((some 24), false))⟩,
  ⟨(some 29), .pick (.tmp 24) (.const (.bool true)) (.tmp 28), none⟩,
  ⟨(some 30), .move (.tmp 29), none⟩,
  ⟨(some 31), .move (.tmp 0), (some ((some 30), false))⟩,
  ⟨(some 32), .nilCheck (.tmp 31), (some ((some 30), false))⟩,
  ⟨(some 33), .fieldAddr 0 (.tmp 32), (some ((some 30), false))⟩,
  ⟨(some 34), .fieldAddr 0 (.tmp 33), (some ((some 30), false))⟩,
  ⟨(some 35), .load1 (.tmp 34), (some ((some 30), false))⟩,
  ⟨(some 36), .len 1 (.tmp 35), (some ((some 30), false))⟩,
  ⟨(some 37), .bin .eql (.tmp 36) (.const (.int .i64 (.ofNat 0))), (some ((some 30), false))⟩,
  ⟨(some 38), .pick (.tmp 30) (.const (.bool true)) (.tmp 37), none⟩] none
def f16r2 : ICode := .region [
  ⟨(some 8), .move (.const (.int .i64 (.ofNat 0))), none⟩,
  ⟨(some 9), .move (.const (.bool false)), none⟩] none
def f16r3 : ICode := .region [
  ⟨(some 10), .move (.const (.int .i64 (.ofNat 0))), none⟩] none
def f16r4 : ICode := .region [
  ⟨(some 39), .move (.tmp 2), none⟩,
  ⟨(some 40), .bin .gtr (.tmp 39) (.const (.int .i64 (.ofNat 0))), none⟩] none
def f16r5 : ICode := .region [
  ⟨(some 41), .move (.tmp 1), none⟩,
  ⟨(some 42), .move (.tmp 2), none⟩,
  ⟨(some 43), .bin .sub (.tmp 42) (.const (.int .i64 (.ofNat 1))), none⟩,
  ⟨(some 44), .indexStr (.tmp 41) (.tmp 43), none⟩,
  ⟨(some 45), .conv .i64 (.tmp 44), none⟩,
  ⟨(some 46), .call 26 [(.tmp 45)], none⟩,
  ⟨(some 10), .move (.tmp 46), none⟩] none
def f16r6 : ICode := .region [
  ⟨(some 11), .move (.const (.slice none 0 0)), none⟩] none
def f16r7 : ICode := .region [
  ⟨(some 47), .move (.tmp 3), none⟩] none
def f16r8 : ICode := .region [
  ⟨(some 48), .buildSlice 3 1 [(.int .i64 (.ofNat 0))] [(0, 1, (.const (.int .i64 (.ofNat 0))))], none⟩,
  ⟨(some 11), .move (.tmp 48), none⟩] none
def f16r9 : ICode := .region [
  ⟨(some 49), .move (.tmp 0), none⟩,
  ⟨(some 50), .move (.tmp 11), none⟩,
  ⟨(some 51), .move (.tmp 10), none⟩,
  ⟨(some 52), .move (.tmp 3), none⟩,
  ⟨(some 53), .un .not (.tmp 52), none⟩,
  ⟨(some 54), .call 27 [(.tmp 49), (.tmp 50), (.tmp 51), (.tmp 53)], none⟩,
  ⟨(some 12), .move (.tmp 54), none⟩] none
def f16r10 : ICode := .region [
  ⟨(some 13), .move (.const (.int .i64 (.ofNat 0))), none⟩,
  ⟨(some 14), .move (.const (.bool false)), none⟩] none
def f16r11 : ICode := .region [
  ⟨(some 55), .move (.tmp 2), none⟩,
  ⟨(some 15), .move (.tmp 55), none⟩] none
def f16r12 : ICode := .region [
  ⟨(some 16), .move (.const (.int .i64 (.ofNat 256))), none⟩] none
def f16r13 : ICode := .region [
  ⟨(some 58), .move (.tmp 15), none⟩,
  ⟨(some 59), .move (.tmp 1), none⟩,
  ⟨(some 60), .len 0 (.tmp 59), none⟩,
  ⟨(some 61), .bin .lss (.tmp 58) (.tmp 60), none⟩] none
def f16r14 : ICode := .region [
  ⟨(some 62), .move (.tmp 1), none⟩,
  ⟨(some 63), .move (.tmp 15), none⟩,
  ⟨(some 64), .indexStr (.tmp 62) (.tmp 63), none⟩,
  ⟨(some 65), .conv .i64 (.tmp 64), none⟩,
  ⟨(some 16), .move (.tmp 65), none⟩] none
def f16r15 : ICode := .region [
  ⟨(some 66), .move (.tmp 0), none⟩,
  ⟨(some 67), .move (.tmp 12), none⟩,
  ⟨(some 68), .move (.tmp 16), none⟩,
  ⟨(some 69), .call 28 [(.tmp 66), (.tmp 67), (.tmp 68)], none⟩,
  ⟨(some 17), .move (.tmp 69), none⟩] none
def f16r16 : ICode := .region [
  ⟨(some 70), .move (.tmp 17), none⟩,
  ⟨(some 71), .nilCheck (.tmp 70), none⟩,
  ⟨(some 72), .fieldAddr 0 (.tmp 71), none⟩,
  ⟨(some 73), .load1 (.tmp 72), none⟩] none
def f16r17 : ICode := .region [
  ⟨(some 74), .move (.tmp 15), none⟩,
  ⟨(some 13), .move (.tmp 74), none⟩,
  ⟨(some 14), .move (.const (.bool true)), none⟩] none
def f16r18 : ICode := .region [
  ⟨(some 75), .move (.tmp 16), none⟩,
  ⟨(some 76), .bin .eql (.tmp 75) (.const (.int .i64 (.ofNat 256))), none⟩,
  ⟨(some 77), .move (.tmp 76), none⟩,
  ⟨(some 78), .move (.tmp 17), (some ((some 77), false))⟩,
  ⟨(some 79), .nilCheck (.tmp 78), (some ((some 77), false))⟩,
  ⟨(some 80), .fieldAddr 1 (.tmp 79), (some ((some 77), false))⟩,
  ⟨(some 81), .load1 (.tmp 80), (some ((some 77), false))⟩,
  ⟨(some 82), .nilCheck (.tmp 81), (some ((some 77), false))⟩,
  ⟨(some 83), .fieldAddr 0 (.tmp 82), (some ((some 77), false))⟩,
  ⟨(some 84), .load1 (.tmp 83), (some ((some 77), false))⟩,
  ⟨(some 85), .len 1 (.tmp 84), (some ((some 77), false))⟩,
  ⟨(some 86), .bin .eql (.tmp 85) (.const (.int .i64 (.ofNat 0))), (some ((some 77), false))⟩,
  ⟨(some 87), .move (.tmp 86), (some ((some 77), false))⟩,
  ⟨(some 88), .move (.tmp 17), (some ((some 87), true))⟩,
  ⟨(some 89), .nilCheck (.tmp 88), (some ((some 87), true))⟩,
  ⟨(some 90), .fieldAddr 1 (.tmp 89), (some ((some 87), true))⟩,
  ⟨(some 91), .load1 (.tmp 90), (some ((some 87), true))⟩,
  ⟨(some 92), .nilCheck (.tmp 91), (some ((some 87), true))⟩,
  ⟨(some 93), .fieldAddr 2 (.tmp 92), (some ((some 87), true))⟩,
  ⟨(some 94), .load1 (.tmp 93), (some ((some 87), true))⟩,
  ⟨(some 95), .un .not (.tmp 94), (some ((some 87), true))⟩,
  ⟨(some 96), .pick (.tmp 87) (.tmp 95) (.const (.bool false)), (some ((some 77), false))⟩,
  ⟨(some 97), .pick (.tmp 77) (.const (.bool true)) (.tmp 96), none⟩] none
def f16r19 : ICode := .region [
  ⟨(some 98), .move (.tmp 13), none⟩,
  ⟨(some 99), .move (.tmp 14), none⟩,
  ⟨(some 8), .move (.tmp 98), none⟩,
  ⟨(some 9), .move (.tmp 99), none⟩] none
def f16r20 : ICode := .region [
  ⟨(some 100), .move (.tmp 17), none⟩,
  ⟨(some 101), .nilCheck (.tmp 100), none⟩,
  ⟨(some 102), .fieldAddr 1 (.tmp 101), none⟩,
  ⟨(some 103), .load1 (.tmp 102), none⟩,
  ⟨(some 12), .move (.tmp 103), none⟩] none
def f16r21 : ICode := .region [
  ⟨(some 56), .move (.tmp 15), none⟩,
  ⟨(some 57), .bin .add (.tmp 56) (.const (.int .i64 (.ofNat 1))), none⟩,
  ⟨(some 15), .move (.tmp 57), none⟩] none
/- (*ferret/dfa.DFA).End -/
def f16 : IFn := ⟨104, [.inl 8, .inl 9], (.seq f16r0 (.seq (.seq f16r1 (.cond (.tmp 38) (.seq f16r2 .ret) .skip)) (.seq f16r3 (.seq (.seq f16r4 (.cond (.tmp 40) f16r5 .skip)) (.seq f16r6 (.seq (.seq f16r7 (.cond (.tmp 47) f16r8 .skip)) (.seq f16r9 (.seq f16r10 (.seq f16r11 (.block 0 (.loop (.seq (.block 1 (.seq f16r12 (.seq (.seq f16r13 (.cond (.tmp 61) f16r14 .skip)) (.seq f16r15 (.seq (.seq f16r16 (.cond (.tmp 73) f16r17 .skip)) (.seq (.seq f16r18 (.cond (.tmp 97) (.seq f16r19 .ret) .skip)) f16r20)))))) f16r21))))))))))))⟩
def f17r0 : ICode := .region [
  ⟨(some 2), .move (.const (.int .i64 (.ofNat 0))), none⟩,
  ⟨(some 3), .move (.const (.int .i64 (.ofNat 0))), none⟩] none
def f17r1 : ICode := .region [
  ⟨(some 4), .move (.tmp 0), none⟩,
  ⟨(some 5), .nilEq false 0 (.tmp 4) (.const (.pointer none)), none⟩] none
def f17r2 : ICode := .region [
  ⟨(some 2), .move (.const (.int .i64 (.ofNat 0))), none⟩,
  ⟨(some 3), .move (.const (.int .i64 (.ofNat 0))), none⟩] none
def f17r3 : ICode := .region [
  ⟨(some 6), .move (.tmp 0), none⟩,
  ⟨(some 7), .nilCheck (.tmp 6), none⟩,
  ⟨(some 8), .fieldAddr 3 (.tmp 7), none⟩,
  ⟨(some 9), .load1 (.tmp 8), none⟩,
  ⟨(some 10), .len 2 (.tmp 9), none⟩,
  ⟨(some 11), .move (.tmp 0), none⟩,
  ⟨(some 12), .nilCheck (.tmp 11), none⟩,
  ⟨(some 13), .fieldAddr 2 (.tmp 12), none⟩,
  ⟨(some 14), .load1 (.tmp 13), none⟩,
  ⟨(some 2), .move (.tmp 10), none⟩,
  ⟨(some 3), .move (.tmp 14), none⟩] (some ⟨[], []⟩)
/- (*ferret/dfa.DFA).States -/
def f17 : IFn := ⟨15, [.inl 2, .inl 3], (.seq f17r0 (.seq (.seq f17r1 (.cond (.tmp 5) (.seq f17r2 .ret) .skip)) (.seq f17r3 .ret)))⟩
def f18r0 : ICode := .region [
  ⟨(some 3), .box 61 (.tmp 1), none⟩,
  ⟨(some 4), .new [(.int .i64 (.ofNat 0)), (.slice none 0 0), (.bool false), (.int .i64 (.ofNat 0)), (.int .i64 (.ofNat 0)), (.bool false), (.int .i64 (.ofNat 0)), (.string ⟨⟨[]⟩⟩), (.slice none 0 0), (.slice none 0 0)] 57, none⟩,
  ⟨(some 5), .new [(.int .i64 (.ofNat 0)), (.int .i64 (.ofNat 0))] 37, none⟩] none
def f18r1 : ICode := .region [
  ⟨(some 9), .move (.tmp 0), none⟩,
  ⟨(some 10), .len 0 (.tmp 9), none⟩,
  ⟨(some 11), .bin .gtr (.tmp 10) (.const (.int .i64 (.ofNat 1024))), none⟩] none
def f18r2 : ICode := .region [
  ⟨(some 12), .build [(.int .i64 (.ofNat 0)), (.slice none 0 0), (.bool false), (.int .i64 (.ofNat 0)), (.int .i64 (.ofNat 0)), (.bool false), (.int .i64 (.ofNat 0)), (.string ⟨⟨[]⟩⟩), (.slice none 0 0), (.slice none 0 0)] [], none⟩,
  ⟨(some 13), .build [(.int .i64 (.ofNat 0)), (.int .i64 (.ofNat 0))] [(0, 1, (.const (.int .i64 (.ofNat 2))))], none⟩,
  ⟨none, .store 10 (.tmp 4) (.tmp 12), none⟩,
  ⟨none, .store 2 (.tmp 5) (.tmp 13), none⟩] none
def f18r3 : ICode := .region [
  ⟨(some 15), .move (.tmp 0), none⟩,
  ⟨(some 16), .call 11 [(.tmp 15), (.const (.int .i64 (.ofNat 1))), (.const (.bool true))], none⟩,
  ⟨(some 14), .move (.tmp 16), none⟩,
  ⟨(some 17), .extract (.tmp 14) 0, none⟩,
  ⟨(some 18), .extract (.tmp 14) 1, none⟩,
  ⟨(some 6), .new [(.int .i64 (.ofNat 0)), (.slice none 0 0), (.slice none 0 0), (.int .i64 (.ofNat 0))] 34, none⟩,
  ⟨none, .store 4 (.tmp 6) (.tmp 17), none⟩,
  ⟨none, .store 2 (.tmp 5) (.tmp 18), none⟩] none
def f18r4 : ICode := .region [
  ⟨(some 19), .fieldAddr 0 (.tmp 5), none⟩,
  ⟨(some 20), .load1 (.tmp 19), none⟩,
  ⟨(some 21), .bin .neq (.tmp 20) (.const (.int .i64 (.ofNat 0))), none⟩] none
def f18r5 : ICode := .region [
  ⟨(some 22), .build [(.int .i64 (.ofNat 0)), (.slice none 0 0), (.bool false), (.int .i64 (.ofNat 0)), (.int .i64 (.ofNat 0)), (.bool false), (.int .i64 (.ofNat 0)), (.string ⟨⟨[]⟩⟩), (.slice none 0 0), (.slice none 0 0)] [], none⟩,
  ⟨(some 23), .loadN 2 (.tmp 5), none⟩,
  ⟨none, .store 10 (.tmp 4) (.tmp 22), none⟩,
  ⟨none, .store 2 (.tmp 5) (.tmp 23), none⟩] (some ⟨[], [(1, 2)]⟩)
def f18r6 : ICode := .region [
  ⟨(some 24), .mkFunc (.func 29) [] [(.tmp 4), (.tmp 5)], none⟩,
  ⟨none, .defer (.tmp 24) [], none⟩] none
def f18r7 : ICode := .region [
  ⟨(some 25), .loadN 4 (.tmp 6), none⟩,
  ⟨(some 26), .buildSlice 9 1 [(.string ⟨⟨[]⟩⟩)] [(0, 1, (.const (.string ⟨⟨[]⟩⟩)))], none⟩,
  ⟨(some 27), .loadN 4 (.tmp 3), none⟩,
  ⟨(some 28), .build [(.int .i64 (.ofNat 0)), (.slice none 0 0), (.slice none 0 0), (.int .i64 (.ofNat 0)), (.int .i64 (.ofNat 0)), (.slice none 0 0), (.slice none 0 0), (.bool false), (.bool false), (.bool false), (.bool false)] [(0, 4, (.tmp 25)), (6, 1, (.tmp 26)), (7, 4, (.tmp 27))], none⟩,
  ⟨(some 29), .box 102 (.tmp 28), none⟩,
  ⟨(some 7), .move (.tmp 29), none⟩] none
def f18r8 : ICode := .region [
  ⟨(some 30), .move (.tmp 7), none⟩,
  ⟨(some 31), .call 30 [(.tmp 30)], none⟩,
  ⟨(some 8), .new [(.int .i64 (.ofNat 0)), (.slice none 0 0), (.bool false), (.int .i64 (.ofNat 0)), (.int .i64 (.ofNat 0)), (.bool false), (.int .i64 (.ofNat 0)), (.string ⟨⟨[]⟩⟩), (.slice none 0 0)] 54, none⟩,
  ⟨none, .store 9 (.tmp 8) (.tmp 31), none⟩] none
def f18r9 : ICode := .region [
  ⟨(some 32), .loadN 9 (.tmp 8), none⟩,
  ⟨(some 33), .move (.tmp 7), none⟩,
  ⟨(some 34), .nilCheck (.tmp 33), none⟩,
  ⟨(some 35), .fieldAddr 6 (.tmp 34), none⟩,
  ⟨(some 36), .load1 (.tmp 35), none⟩,
  ⟨(some 37), .build [(.int .i64 (.ofNat 0)), (.slice none 0 0), (.bool false), (.int .i64 (.ofNat 0)), (.int .i64 (.ofNat 0)), (.bool false), (.int .i64 (.ofNat 0)), (.string ⟨⟨[]⟩⟩), (.slice none 0 0), (.slice none 0 0)] [(0, 9, (.tmp 32)), (9, 1, (.tmp 36))], none⟩,
  ⟨(some 38), .build [(.int .i64 (.ofNat 0)), (.int .i64 (.ofNat 0))] [], none⟩,
  ⟨none, .store 10 (.tmp 4) (.tmp 37), none⟩,
  ⟨none, .store 2 (.tmp 5) (.tmp 38), none⟩] (some ⟨[], []⟩)
/- ferret/syn.Parse -/
def f18 : IFn := ⟨39, [.inr (4, (some 10)), .inr (5, (some 2))], (.seq f18r0 (.seq (.seq f18r1 (.cond (.tmp 11) (.seq f18r2 .ret) .skip)) (.seq f18r3 (.seq (.seq f18r4 (.cond (.tmp 21) (.seq f18r5 .ret) .skip)) (.seq f18r6 (.seq f18r7 (.seq f18r8 (.seq f18r9 .ret))))))))⟩
def f19r0 : ICode := .region [
  ⟨(some 1), .box 57 (.tmp 0), none⟩,
  ⟨(some 2), .new [(.slice none 0 0), (.int .i64 (.ofNat 0))] 30, none⟩,
  ⟨(some 3), .move (.const (.int .i64 (.ofNat 0))), none⟩] none
def f19r1 : ICode := .region [
  ⟨(some 9), .fieldAddr 0 (.tmp 1), none⟩,
  ⟨(some 10), .loadN 9 (.tmp 9), none⟩,
  ⟨(some 11), .call 31 [(.tmp 10)], none⟩,
  ⟨(some 8), .move (.tmp 11), none⟩,
  ⟨(some 12), .extract (.tmp 8) 0, none⟩,
  ⟨(some 13), .extract (.tmp 8) 1, none⟩,
  ⟨(some 4), .new [(.int .i64 (.ofNat 0)), (.slice none 0 0), (.bool false), (.int .i64 (.ofNat 0)), (.int .i64 (.ofNat 0)), (.bool false), (.int .i64 (.ofNat 0)), (.string ⟨⟨[]⟩⟩), (.slice none 0 0)] 54, none⟩,
  ⟨none, .store 9 (.tmp 4) (.tmp 12), none⟩,
  ⟨(some 5), .move (.tmp 13), none⟩] none
def f19r2 : ICode := .region [
  ⟨(some 14), .move (.tmp 5), none⟩,
  ⟨(some 15), .bin .neq (.tmp 14) (.const (.int .i64 (.ofNat 0))), none⟩] none
def f19r3 : ICode := .region [
  ⟨(some 16), .build [(.slice none 0 0), (.int .i64 (.ofNat 0))] [], none⟩,
  ⟨(some 17), .move (.tmp 5), none⟩,
  ⟨none, .store 2 (.tmp 2) (.tmp 16), none⟩,
  ⟨(some 3), .move (.tmp 17), none⟩] none
def f19r4 : ICode := .region [
  ⟨(some 18), .build [(.slice none 0 0), (.bool false)] [], none⟩,
  ⟨(some 19), .box 108 (.tmp 18), none⟩,
  ⟨(some 6), .move (.tmp 19), none⟩] none
def f19r5 : ICode := .region [
  ⟨(some 20), .move (.tmp 6), none⟩,
  ⟨(some 21), .build [(.int .i64 (.ofNat 0)), (.int .i64 (.ofNat 0)), (.int .i64 (.ofNat 0)), (.int .i64 (.ofNat 0)), (.int .i64 (.ofNat 0))] [(0, 1, (.const (.int .i64 (.ofNat 3))))], none⟩,
  ⟨(some 22), .call 32 [(.tmp 20), (.tmp 21)], none⟩] none
def f19r6 : ICode := .region [
  ⟨(some 23), .move (.tmp 6), none⟩,
  ⟨(some 24), .loadN 9 (.tmp 4), none⟩,
  ⟨(some 25), .call 33 [(.tmp 23), (.tmp 24)], none⟩] none
def f19r7 : ICode := .region [
  ⟨(some 26), .move (.tmp 6), none⟩,
  ⟨(some 27), .build [(.int .i64 (.ofNat 0)), (.int .i64 (.ofNat 0)), (.int .i64 (.ofNat 0)), (.int .i64 (.ofNat 0)), (.int .i64 (.ofNat 0))] [(0, 1, (.const (.int .i64 (.ofNat 3)))), (2, 1, (.const (.int .i64 (.ofNat 1))))], none⟩,
  ⟨(some 28), .call 32 [(.tmp 26), (.tmp 27)], none⟩] none
def f19r8 : ICode := .region [
  ⟨(some 29), .move (.tmp 6), none⟩,
  ⟨(some 30), .build [(.int .i64 (.ofNat 0)), (.int .i64 (.ofNat 0)), (.int .i64 (.ofNat 0)), (.int .i64 (.ofNat 0)), (.int .i64 (.ofNat 0))] [(0, 1, (.const (.int .i64 (.ofNat 5))))], none⟩,
  ⟨(some 31), .call 32 [(.tmp 29), (.tmp 30)], none⟩,
  ⟨(some 7), .move (.tmp 31), none⟩] none
def f19r9 : ICode := .region [
  ⟨(some 32), .move (.tmp 6), none⟩,
  ⟨(some 33), .nilCheck (.tmp 32), none⟩,
  ⟨(some 34), .fieldAddr 0 (.tmp 33), none⟩,
  ⟨(some 35), .load1 (.tmp 34), none⟩,
  ⟨(some 36), .move (.tmp 7), none⟩,
  ⟨(some 37), .indexSl 5 (.tmp 35) (.tmp 36), none⟩,
  ⟨(some 38), .fieldAddr 1 (.tmp 37), none⟩,
  ⟨none, .store 1 (.tmp 38) (.const (.int .i64 (.ofNat 0))), none⟩] none
def f19r10 : ICode := .region [
  ⟨(some 39), .move (.tmp 6), none⟩,
  ⟨(some 40), .nilCheck (.tmp 39), none⟩,
  ⟨(some 41), .fieldAddr 1 (.tmp 40), none⟩,
  ⟨(some 42), .load1 (.tmp 41), none⟩] none
def f19r11 : ICode := .region [
  ⟨(some 43), .build [(.slice none 0 0), (.int .i64 (.ofNat 0))] [], none⟩,
  ⟨none, .store 2 (.tmp 2) (.tmp 43), none⟩,
  ⟨(some 3), .move (.const (.int .i64 (.ofNat 26))), none⟩] none
def f19r12 : ICode := .region [
  ⟨(some 44), .move (.tmp 6), none⟩,
  ⟨(some 45), .nilCheck (.tmp 44), none⟩,
  ⟨(some 46), .fieldAddr 0 (.tmp 45), none⟩,
  ⟨(some 47), .load1 (.tmp 46), none⟩,
  ⟨(some 48), .fieldAddr 9 (.tmp 1), none⟩,
  ⟨(some 49), .load1 (.tmp 48), none⟩,
  ⟨(some 50), .len 1 (.tmp 49), none⟩,
  ⟨(some 51), .build [(.slice none 0 0), (.int .i64 (.ofNat 0))] [(0, 1, (.tmp 47)), (1, 1, (.tmp 50))], none⟩,
  ⟨none, .store 2 (.tmp 2) (.tmp 51), none⟩,
  ⟨(some 3), .move (.const (.int .i64 (.ofNat 0))), none⟩] (some ⟨[], []⟩)
/- ferret/prog.Compile -/
def f19 : IFn := ⟨52, [.inr (2, (some 2)), .inl 3], (.seq f19r0 (.seq f19r1 (.seq (.seq f19r2 (.cond (.tmp 15) (.seq f19r3 .ret) .skip)) (.seq f19r4 (.seq f19r5 (.seq f19r6 (.seq f19r7 (.seq f19r8 (.seq f19r9 (.seq (.seq f19r10 (.cond (.tmp 42) (.seq f19r11 .ret) .skip)) (.seq f19r12 .ret)))))))))))⟩
def f20r0 : ICode := .region [
  ⟨(some 6), .box 73 (.tmp 2), none⟩] none
def f20r1 : ICode := .region [
  ⟨(some 11), .move (.tmp 0), none⟩,
  ⟨(some 12), .move (.tmp 0), none⟩,
  ⟨(some 13), .nilCheck (.tmp 12), none⟩,
  ⟨(some 14), .fieldAddr 3 (.tmp 13), none⟩,
  ⟨(some 15), .load1 (.tmp 14), none⟩,
  ⟨(some 16), .sliceSl 2 (.tmp 15) none (some (.const (.int .i64 (.ofNat 0)))), none⟩,
  ⟨(some 17), .loadN 2 (.tmp 6), none⟩,
  ⟨(some 18), .buildSlice 73 1 [(.int .i64 (.ofNat 0)), (.slice none 0 0)] [(0, 2, (.tmp 17))], none⟩,
  ⟨(some 19), .append 73 2 32 (.tmp 16) (.tmp 18), none⟩,
  ⟨(some 20), .nilCheck (.tmp 11), none⟩,
  ⟨(some 21), .fieldAddr 3 (.tmp 20), none⟩,
  ⟨none, .store 1 (.tmp 21) (.tmp 19), none⟩] (some ⟨[], []⟩)
def f20r2 : ICode := .region [
  ⟨(some 22), .move (.tmp 0), none⟩,
  ⟨(some 23), .nilCheck (.tmp 22), none⟩,
  ⟨(some 24), .fieldAddr 3 (.tmp 23), none⟩,
  ⟨(some 25), .load1 (.tmp 24), none⟩,
  ⟨(some 26), .len 1 (.tmp 25), none⟩,
  ⟨(some 27), .bin .eql (.tmp 26) (.const (.int .i64 (.ofNat 0))), none⟩] none
def f20r3 : ICode := .region [
  ⟨(some 28), .move (.tmp 0), none⟩,
  ⟨(some 29), .nilCheck (.tmp 28), none⟩,
  ⟨(some 30), .fieldAddr 3 (.tmp 29), none⟩,
  ⟨(some 31), .load1 (.tmp 30), none⟩,
  ⟨(some 32), .move (.tmp 0), none⟩,
  ⟨(some 33), .nilCheck (.tmp 32), none⟩,
  ⟨(some 34), .fieldAddr 3 (.tmp 33), none⟩,
  ⟨(some 35), .load1 (.tmp 34), none⟩,
  ⟨(some 36), .len 1 (.tmp 35), none⟩,
  ⟨(some 37), .bin .sub (.tmp 36) (.const (.int .i64 (.ofNat 1))), none⟩,
  ⟨(some 38), .indexSl 2 (.tmp 31) (.tmp 37), none⟩,
  ⟨(some 39), .loadN 2 (.tmp 38), none⟩,
  ⟨(some 8), .new [(.int .i64 (.ofNat 0)), (.slice none 0 0)] 73, none⟩,
  ⟨none, .store 2 (.tmp 8) (.tmp 39), none⟩] (some ⟨[], []⟩)
def f20r4 : ICode := .region [
  ⟨(some 40), .move (.tmp 0), none⟩,
  ⟨(some 41), .move (.tmp 0), none⟩,
  ⟨(some 42), .nilCheck (.tmp 41), none⟩,
  ⟨(some 43), .fieldAddr 3 (.tmp 42), none⟩,
  ⟨(some 44), .load1 (.tmp 43), none⟩,
  ⟨(some 45), .move (.tmp 0), none⟩,
  ⟨(some 46), .nilCheck (.tmp 45), none⟩,
  ⟨(some 47), .fieldAddr 3 (.tmp 46), none⟩,
  ⟨(some 48), .load1 (.tmp 47), none⟩,
  ⟨(some 49), .len 1 (.tmp 48), none⟩,
  ⟨(some 50), .bin .sub (.tmp 49) (.const (.int .i64 (.ofNat 1))), none⟩,
  ⟨(some 51), .sliceSl 2 (.tmp 44) none (some (.tmp 50)), none⟩,
  ⟨(some 52), .nilCheck (.tmp 40), none⟩,
  ⟨(some 53), .fieldAddr 3 (.tmp 52), none⟩,
  ⟨none, .store 1 (.tmp 53) (.tmp 51), none⟩] (some ⟨[], []⟩)
def f20r5 : ICode := .region [
  ⟨(some 54), .move (.tmp 1), none⟩,
  ⟨(some 55), .nilCheck (.tmp 54), none⟩,
  ⟨(some 56), .fieldAddr 1 (.tmp 55), none⟩,
  ⟨(some 57), .load1 (.tmp 56), none⟩,
  ⟨(some 58), .fieldAddr 0 (.tmp 8), none⟩,
  ⟨(some 59), .load1 (.tmp 58), none⟩,
  ⟨(some 60), .indexSl 1 (.tmp 57) (.tmp 59), none⟩,
  ⟨(some 61), .load1 (.tmp 60), none⟩,
  ⟨(some 62), .move (.tmp 3), none⟩,
  ⟨(some 63), .bin .add (.tmp 62) (.const (.int .i64 (.ofNat 1))), none⟩,
  ⟨(some 64), .bin .eql (.tmp 61) (.tmp 63), none⟩] (some ⟨[], []⟩)
def f20r6 : ICode := .region [
  ⟨(some 65), .move (.tmp 1), none⟩,
  ⟨(some 66), .nilCheck (.tmp 65), none⟩,
  ⟨(some 67), .fieldAddr 1 (.tmp 66), none⟩,
  ⟨(some 68), .load1 (.tmp 67), none⟩,
  ⟨(some 69), .fieldAddr 0 (.tmp 8), none⟩,
  ⟨(some 70), .load1 (.tmp 69), none⟩,
  ⟨(some 71), .move (.tmp 3), none⟩,
  ⟨(some 72), .bin .add (.tmp 71) (.const (.int .i64 (.ofNat 1))), none⟩,
  ⟨(some 73), .indexSl 1 (.tmp 68) (.tmp 70), none⟩,
  ⟨none, .store 1 (.tmp 73) (.tmp 72), none⟩] (some ⟨[], []⟩)
def f20r7 : ICode := .region [
  ⟨(some 74), .move (.tmp 0), none⟩,
  ⟨(some 75), .nilCheck (.tmp 74), none⟩,
  ⟨(some 76), .fieldAddr 0 (.tmp 75), none⟩,
  ⟨(some 77), .fieldAddr 0 (.tmp 76), none⟩,
  ⟨(some 78), .load1 (.tmp 77), none⟩,
  ⟨(some 79), .fieldAddr 0 (.tmp 8), none⟩,
  ⟨(some 80), .load1 (.tmp 79), none⟩,
  ⟨(some 81), .indexSl 5 (.tmp 78) (.tmp 80), none⟩,
  ⟨(some 82), .loadN 5 (.tmp 81), none⟩,
  ⟨(some 9), .new [(.int .i64 (.ofNat 0)), (.int .i64 (.ofNat 0)), (.int .i64 (.ofNat 0)), (.int .i64 (.ofNat 0)), (.int .i64 (.ofNat 0))] 77, none⟩,
  ⟨none, .store 5 (.tmp 9) (.tmp 82), none⟩] (some ⟨[], []⟩)
def f20r8 : ICode := .region [
  ⟨(some 83), .fieldAddr 0 (.tmp 9), none⟩,
  ⟨(some 84), .load1 (.tmp 83), none⟩] none
def f20r9 : ICode := .region [
  ⟨(some 86), .bin .eql (.tmp 84) (.const (.int .i64 (.ofNat 0))), none⟩,
  ⟨(some 85), .move (.tmp 86), none⟩] none
def f20r10 : ICode := .region [
  ⟨(some 87), .bin .eql (.tmp 84) (.const (.int .i64 (.ofNat 5))), none⟩,
  ⟨(some 85), .move (.tmp 87), none⟩] none
def f20r11 : ICode := .region [
  ⟨(some 88), .move (.tmp 1), none⟩,
  ⟨(some 89), .move (.tmp 1), none⟩,
  ⟨(some 90), .nilCheck (.tmp 89), none⟩,
  ⟨(some 91), .fieldAddr 0 (.tmp 90), none⟩,
  ⟨(some 92), .load1 (.tmp 91), none⟩,
  ⟨(some 93), .loadN 2 (.tmp 8), none⟩,
  ⟨(some 94), .buildSlice 73 1 [(.int .i64 (.ofNat 0)), (.slice none 0 0)] [(0, 2, (.tmp 93))], none⟩,
  ⟨(some 95), .append 73 2 32 (.tmp 92) (.tmp 94), none⟩,
  ⟨(some 96), .nilCheck (.tmp 88), none⟩,
  ⟨(some 97), .fieldAddr 0 (.tmp 96), none⟩,
  ⟨none, .store 1 (.tmp 97) (.tmp 95), none⟩] (some ⟨[], []⟩)
def f20r12 : ICode := .region [
  ⟨(some 99), .bin .eql (.tmp 84) (.const (.int .i64 (.ofNat 1))), none⟩,
  ⟨(some 98), .move (.tmp 99), none⟩] none
def f20r13 : ICode := .region [
  ⟨(some 100), .move (.tmp 0), none⟩,
  ⟨(some 101), .move (.tmp 0), none⟩,
  ⟨(some 102), .nilCheck (.tmp 101), none⟩,
  ⟨(some 103), .fieldAddr 3 (.tmp 102), none⟩,
  ⟨(some 104), .load1 (.tmp 103), none⟩,
  ⟨(some 105), .fieldAddr 2 (.tmp 9), none⟩,
  ⟨(some 106), .load1 (.tmp 105), none⟩,
  ⟨(some 107), .fieldAddr 1 (.tmp 8), none⟩,
  ⟨(some 108), .load1 (.tmp 107), none⟩,
  ⟨(some 109), .build [(.int .i64 (.ofNat 0)), (.slice none 0 0)] [(0, 1, (.tmp 106)), (1, 1, (.tmp 108))], none⟩,
  ⟨(some 110), .buildSlice 73 1 [(.int .i64 (.ofNat 0)), (.slice none 0 0)] [(0, 2, (.tmp 109))], none⟩,
  ⟨(some 111), .append 73 2 32 (.tmp 104) (.tmp 110), none⟩,
  ⟨(some 112), .nilCheck (.tmp 100), none⟩,
  ⟨(some 113), .fieldAddr 3 (.tmp 112), none⟩,
  ⟨none, .store 1 (.tmp 113) (.tmp 111), none⟩] (some ⟨[], []⟩)
def f20r14 : ICode := .region [
  ⟨(some 115), .bin .eql (.tmp 84) (.const (.int .i64 (.ofNat 3))), none⟩,
  ⟨(some 114), .move (.tmp 115), none⟩] none
def f20r15 : ICode := .region [
  ⟨(some 116), .fieldAddr 1 (.tmp 8), none⟩,
  ⟨(some 117), .load1 (.tmp 116), none⟩,
  ⟨(some 118), .append 3 1 8 (.const (.slice none 0 0)) (.tmp 117), none⟩,
  ⟨(some 10), .move (.tmp 118), none⟩] none
def f20r16 : ICode := .region [
  ⟨(some 119), .move (.tmp 10), none⟩,
  ⟨(some 120), .fieldAddr 2 (.tmp 9), none⟩,
  ⟨(some 121), .load1 (.tmp 120), none⟩,
  ⟨(some 122), .move (.tmp 3), none⟩,
  ⟨(some 123), .indexSl 1 (.tmp 119) (.tmp 121), none⟩,
  ⟨none, .store 1 (.tmp 123) (.tmp 122), none⟩] none
def f20r17 : ICode := .region [
  ⟨(some 124), .move (.tmp 10), none⟩,
  ⟨(some 125), .fieldAddr 1 (.tmp 8), none⟩,
  ⟨none, .store 1 (.tmp 125) (.tmp 124), none⟩] none
def f20r18 : ICode := .region [
  ⟨(some 127), .bin .eql (.tmp 84) (.const (.int .i64 (.ofNat 4))), none⟩,
  ⟨(some 126), .move (.tmp 127), none⟩] none
def f20r19 : ICode := .region [
  ⟨(some 128), .fieldAddr 2 (.tmp 9), none⟩,
  ⟨(some 129), .load1 (.tmp 128), none⟩,
  ⟨(some 130), .move (.tmp 0), none⟩,
  ⟨(some 131), .nilCheck (.tmp 130), none⟩,
  ⟨(some 132), .fieldAddr 2 (.tmp 131), none⟩,
  ⟨(some 133), .load1 (.tmp 132), none⟩,
  ⟨(some 134), .move (.tmp 3), none⟩,
  ⟨(some 135), .call 34 [(.tmp 129), (.tmp 133), (.tmp 134)], none⟩,
  ⟨(some 136), .un .not (.tmp 135), none⟩] (some ⟨[], []⟩)
def f20r20 : ICode := .region [
  ⟨(some 138), .bin .eql (.tmp 84) (.const (.int .i64 (.ofNat 6))), none⟩,
  ⟨(some 137), .move (.tmp 138), none⟩] none
def f20r21 : ICode := .region [
  ⟨(some 139), .fieldAddr 1 (.tmp 9), none⟩,
  ⟨(some 140), .load1 (.tmp 139), none⟩,
  ⟨(some 141), .fieldAddr 0 (.tmp 8), none⟩,
  ⟨none, .store 1 (.tmp 141) (.tmp 140), none⟩] none
def f20r22 : ICode := .region [
  ⟨(some 11), .move (.tmp 0), none⟩,
  ⟨(some 12), .move (.tmp 0), none⟩,
  ⟨(some 13), .nilCheck (.tmp 12), none⟩,
  ⟨(some 14), .fieldAddr 3 (.tmp 13), none⟩,
  ⟨(some 15), .load1 (.tmp 14), none⟩,
  ⟨(some 16), .sliceSl 2 (.tmp 15) none (some (.const (.int .i64 (.ofNat 0)))), none⟩,
  ⟨(some 17), .loadN 2 (.tmp 6), none⟩,
  ⟨(some 18), .buildSlice 73 1 [(.int .i64 (.ofNat 0)), (.slice none 0 0)] [(0, 2, (.tmp 17))], none⟩,
  ⟨(some 19), .append 73 2 32 (.tmp 16) (.tmp 18), none⟩,
  ⟨(some 20), .nilCheck (.tmp 11), none⟩,
  ⟨(some 21), .fieldAddr 3 (.tmp 20), none⟩,
  ⟨none, .store 1 (.tmp 21) (.tmp 19), none⟩] (some ⟨[], []⟩)
def f20r23 : ICode := .region [
  ⟨(some 22), .move (.tmp 0), none⟩,
  ⟨(some 23), .nilCheck (.tmp 22), none⟩,
  ⟨(some 24), .fieldAddr 3 (.tmp 23), none⟩,
  ⟨(some 25), .load1 (.tmp 24), none⟩,
  ⟨(some 26), .len 1 (.tmp 25), none⟩,
  ⟨(some 27), .bin .eql (.tmp 26) (.const (.int .i64 (.ofNat 0))), none⟩] none
def f20r24 : ICode := .region [
  ⟨(some 28), .move (.tmp 0), none⟩,
  ⟨(some 29), .nilCheck (.tmp 28), none⟩,
  ⟨(some 30), .fieldAddr 3 (.tmp 29), none⟩,
  ⟨(some 31), .load1 (.tmp 30), none⟩,
  ⟨(some 32), .move (.tmp 0), none⟩,
  ⟨(some 33), .nilCheck (.tmp 32), none⟩,
  ⟨(some 34), .fieldAddr 3 (.tmp 33), none⟩,
  ⟨(some 35), .load1 (.tmp 34), none⟩,
  ⟨(some 36), .len 1 (.tmp 35), none⟩,
  ⟨(some 37), .bin .sub (.tmp 36) (.const (.int .i64 (.ofNat 1))), none⟩,
  ⟨(some 38), .indexSl 2 (.tmp 31) (.tmp 37), none⟩,
  ⟨(some 39), .loadN 2 (.tmp 38), none⟩,
  ⟨(some 8), .new [(.int .i64 (.ofNat 0)), (.slice none 0 0)] 73, none⟩,
  ⟨none, .store 2 (.tmp 8) (.tmp 39), none⟩] (some ⟨[], []⟩)
def f20r25 : ICode := .region [
  ⟨(some 40), .move (.tmp 0), none⟩,
  ⟨(some 41), .move (.tmp 0), none⟩,
  ⟨(some 42), .nilCheck (.tmp 41), none⟩,
  ⟨(some 43), .fieldAddr 3 (.tmp 42), none⟩,
  ⟨(some 44), .load1 (.tmp 43), none⟩,
  ⟨(some 45), .move (.tmp 0), none⟩,
  ⟨(some 46), .nilCheck (.tmp 45), none⟩,
  ⟨(some 47), .fieldAddr 3 (.tmp 46), none⟩,
  ⟨(some 48), .load1 (.tmp 47), none⟩,
  ⟨(some 49), .len 1 (.tmp 48), none⟩,
  ⟨(some 50), .bin .sub (.tmp 49) (.const (.int .i64 (.ofNat 1))), none⟩,
  ⟨(some 51), .sliceSl 2 (.tmp 44) none (some (.tmp 50)), none⟩,
  ⟨(some 52), .nilCheck (.tmp 40), none⟩,
  ⟨(some 53), .fieldAddr 3 (.tmp 52), none⟩,
  ⟨none, .store 1 (.tmp 53) (.tmp 51), none⟩] (some ⟨[], []⟩)
def f20r26 : ICode := .region [
  ⟨(some 54), .move (.tmp 1), none⟩,
  ⟨(some 55), .nilCheck (.tmp 54), none⟩,
  ⟨(some 56), .fieldAddr 1 (.tmp 55), none⟩,
  ⟨(some 57), .load1 (.tmp 56), none⟩,
  ⟨(some 58), .fieldAddr 0 (.tmp 8), none⟩,
  ⟨(some 59), .load1 (.tmp 58), none⟩,
  ⟨(some 60), .indexSl 1 (.tmp 57) (.tmp 59), none⟩,
  ⟨(some 61), .load1 (.tmp 60), none⟩,
  ⟨(some 62), .move (.tmp 3), none⟩,
  ⟨(some 63), .bin .add (.tmp 62) (.const (.int .i64 (.ofNat 1))), none⟩,
  ⟨(some 64), .bin .eql (.tmp 61) (.tmp 63), none⟩] (some ⟨[], []⟩)
def f20r27 : ICode := .region [
  ⟨(some 65), .move (.tmp 1), none⟩,
  ⟨(some 66), .nilCheck (.tmp 65), none⟩,
  ⟨(some 67), .fieldAddr 1 (.tmp 66), none⟩,
  ⟨(some 68), .load1 (.tmp 67), none⟩,
  ⟨(some 69), .fieldAddr 0 (.tmp 8), none⟩,
  ⟨(some 70), .load1 (.tmp 69), none⟩,
  ⟨(some 71), .move (.tmp 3), none⟩,
  ⟨(some 72), .bin .add (.tmp 71) (.const (.int .i64 (.ofNat 1))), none⟩,
  ⟨(some 73), .indexSl 1 (.tmp 68) (.tmp 70), none⟩,
  ⟨none, .store 1 (.tmp 73) (.tmp 72), none⟩] (some ⟨[], []⟩)
def f20r28 : ICode := .region [
  ⟨(some 74), .move (.tmp 0), none⟩,
  ⟨(some 75), .nilCheck (.tmp 74), none⟩,
  ⟨(some 76), .fieldAddr 0 (.tmp 75), none⟩,
  ⟨(some 77), .fieldAddr 0 (.tmp 76), none⟩,
  ⟨(some 78), .load1 (.tmp 77), none⟩,
  ⟨(some 79), .fieldAddr 0 (.tmp 8), none⟩,
  ⟨(some 80), .load1 (.tmp 79), none⟩,
  ⟨(some 81), .indexSl 5 (.tmp 78) (.tmp 80), none⟩,
  ⟨(some 82), .loadN 5 (.tmp 81), none⟩,
  ⟨(some 9), .new [(.int .i64 (.ofNat 0)), (.int .i64 (.ofNat 0)), (.int .i64 (.ofNat 0)), (.int .i64 (.ofNat 0)), (.int .i64 (.ofNat 0))] 77, none⟩,
  ⟨none, .store 5 (.tmp 9) (.tmp 82), none⟩] (some ⟨[], []⟩)
def f20r29 : ICode := .region [
  ⟨(some 83), .fieldAddr 0 (.tmp 9), none⟩,
  ⟨(some 84), .load1 (.tmp 83), none⟩] none
def f20r30 : ICode := .region [
  ⟨(some 86), .bin .eql (.tmp 84) (.const (.int .i64 (.ofNat 0))), none⟩,
  ⟨(some 85), .move (.tmp 86), none⟩] none
def f20r31 : ICode := .region [
  ⟨(some 87), .bin .eql (.tmp 84) (.const (.int .i64 (.ofNat 5))), none⟩,
  ⟨(some 85), .move (.tmp 87), none⟩] none
def f20r32 : ICode := .region [
  ⟨(some 88), .move (.tmp 1), none⟩,
  ⟨(some 89), .move (.tmp 1), none⟩,
  ⟨(some 90), .nilCheck (.tmp 89), none⟩,
  ⟨(some 91), .fieldAddr 0 (.tmp 90), none⟩,
  ⟨(some 92), .load1 (.tmp 91), none⟩,
  ⟨(some 93), .loadN 2 (.tmp 8), none⟩,
  ⟨(some 94), .buildSlice 73 1 [(.int .i64 (.ofNat 0)), (.slice none 0 0)] [(0, 2, (.tmp 93))], none⟩,
  ⟨(some 95), .append 73 2 32 (.tmp 92) (.tmp 94), none⟩,
  ⟨(some 96), .nilCheck (.tmp 88), none⟩,
  ⟨(some 97), .fieldAddr 0 (.tmp 96), none⟩,
  ⟨none, .store 1 (.tmp 97) (.tmp 95), none⟩] (some ⟨[], []⟩)
def f20r33 : ICode := .region [
  ⟨(some 99), .bin .eql (.tmp 84) (.const (.int .i64 (.ofNat 1))), none⟩,
  ⟨(some 98), .move (.tmp 99), none⟩] none
def f20r34 : ICode := .region [
  ⟨(some 100), .move (.tmp 0), none⟩,
  ⟨(some 101), .move (.tmp 0), none⟩,
  ⟨(some 102), .nilCheck (.tmp 101), none⟩,
  ⟨(some 103), .fieldAddr 3 (.tmp 102), none⟩,
  ⟨(some 104), .load1 (.tmp 103), none⟩,
  ⟨(some 105), .fieldAddr 2 (.tmp 9), none⟩,
  ⟨(some 106), .load1 (.tmp 105), none⟩,
  ⟨(some 107), .fieldAddr 1 (.tmp 8), none⟩,
  ⟨(some 108), .load1 (.tmp 107), none⟩,
  ⟨(some 109), .build [(.int .i64 (.ofNat 0)), (.slice none 0 0)] [(0, 1, (.tmp 106)), (1, 1, (.tmp 108))], none⟩,
  ⟨(some 110), .buildSlice 73 1 [(.int .i64 (.ofNat 0)), (.slice none 0 0)] [(0, 2, (.tmp 109))], none⟩,
  ⟨(some 111), .append 73 2 32 (.tmp 104) (.tmp 110), none⟩,
  ⟨(some 112), .nilCheck (.tmp 100), none⟩,
  ⟨(some 113), .fieldAddr 3 (.tmp 112), none⟩,
  ⟨none, .store 1 (.tmp 113) (.tmp 111), none⟩] (some ⟨[], []⟩)
def f20r35 : ICode := .region [
  ⟨(some 115), .bin .eql (.tmp 84) (.const (.int .i64 (.ofNat 3))), none⟩,
  ⟨(some 114), .move (.tmp 115), none⟩] none
def f20r36 : ICode := .region [
  ⟨(some 116), .fieldAddr 1 (.tmp 8), none⟩,
  ⟨(some 117), .load1 (.tmp 116), none⟩,
  ⟨(some 118), .append 3 1 8 (.const (.slice none 0 0)) (.tmp 117), none⟩,
  ⟨(some 10), .move (.tmp 118), none⟩] none
def f20r37 : ICode := .region [
  ⟨(some 119), .move (.tmp 10), none⟩,
  ⟨(some 120), .fieldAddr 2 (.tmp 9), none⟩,
  ⟨(some 121), .load1 (.tmp 120), none⟩,
  ⟨(some 122), .move (.tmp 3), none⟩,
  ⟨(some 123), .indexSl 1 (.tmp 119) (.tmp 121), none⟩,
  ⟨none, .store 1 (.tmp 123) (.tmp 122), none⟩] none
def f20r38 : ICode := .region [
  ⟨(some 124), .move (.tmp 10), none⟩,
  ⟨(some 125), .fieldAddr 1 (.tmp 8), none⟩,
  ⟨none, .store 1 (.tmp 125) (.tmp 124), none⟩] none
def f20r39 : ICode := .region [
  ⟨(some 127), .bin .eql (.tmp 84) (.const (.int .i64 (.ofNat 4))), none⟩,
  ⟨(some 126), .move (.tmp 127), none⟩] none
def f20r40 : ICode := .region [
  ⟨(some 128), .fieldAddr 2 (.tmp 9), none⟩,
  ⟨(some 129), .load1 (.tmp 128), none⟩,
  ⟨(some 130), .move (.tmp 0), none⟩,
  ⟨(some 131), .nilCheck (.tmp 130), none⟩,
  ⟨(some 132), .fieldAddr 2 (.tmp 131), none⟩,
  ⟨(some 133), .load1 (.tmp 132), none⟩,
  ⟨(some 134), .move (.tmp 3), none⟩,
  ⟨(some 135), .call 34 [(.tmp 129), (.tmp 133), (.tmp 134)], none⟩,
  ⟨(some 136), .un .not (.tmp 135), none⟩] (some ⟨[], []⟩)
def f20r41 : ICode := .region [
  ⟨(some 138), .bin .eql (.tmp 84) (.const (.int .i64 (.ofNat 6))), none⟩,
  ⟨(some 137), .move (.tmp 138), none⟩] none
def f20r42 : ICode := .region [
  ⟨(some 139), .fieldAddr 1 (.tmp 9), none⟩,
  ⟨(some 140), .load1 (.tmp 139), none⟩,
  ⟨(some 141), .fieldAddr 0 (.tmp 8), none⟩,
  ⟨none, .store 1 (.tmp 141) (.tmp 140), none⟩] none
/- (*ferret/pike.machine).spread -/
def f20 : IFn := ⟨142, [], (.seq f20r0 (.within (.seq f20r1 (.seq (.label 0) (.seq (.seq f20r2 (.cond (.tmp 27) .ret .skip)) (.seq f20r3 (.seq f20r4 (.seq (.label 1) (.seq (.seq f20r5 (.cond (.tmp 64) (.goto 0) .skip)) (.seq f20r6 (.seq f20r7 (.seq (.seq f20r8 (.block 0 (.seq (.seq f20r9 (.cond (.tmp 85) .skip f20r10)) (.cond (.tmp 85) (.seq f20r11 (.goto 0)) (.seq f20r12 (.cond (.tmp 98) f20r13 (.seq f20r14 (.cond (.tmp 114) (.seq f20r15 (.seq f20r16 f20r17)) (.seq f20r18 (.cond (.tmp 126) (.seq f20r19 (.cond (.tmp 136) (.goto 0) .skip)) (.seq f20r20 (.cond (.tmp 137) (.goto 0) .skip)))))))))))) (.seq f20r21 (.goto 1)))))))))))) (.seq f20r22 (.seq (.label 0) (.seq (.seq f20r23 (.cond (.tmp 27) .ret .skip)) (.seq f20r24 (.seq f20r25 (.seq (.label 1) (.seq (.seq f20r26 (.cond (.tmp 64) (.goto 0) .skip)) (.seq f20r27 (.seq f20r28 (.seq (.seq f20r29 (.block 0 (.seq (.seq f20r30 (.cond (.tmp 85) .skip f20r31)) (.cond (.tmp 85) (.seq f20r32 (.goto 0)) (.seq f20r33 (.cond (.tmp 98) f20r34 (.seq f20r35 (.cond (.tmp 114) (.seq f20r36 (.seq f20r37 f20r38)) (.seq f20r39 (.cond (.tmp 126) (.seq f20r40 (.cond (.tmp 136) (.goto 0) .skip)) (.seq f20r41 (.cond (.tmp 137) (.goto 0) .skip)))))))))))) (.seq f20r42 (.goto 1))))))))))))))⟩
def f21r0 : ICode := .region [
  ⟨(some 2), .move (.const (.int .i64 (.ofNat 0))), none⟩,
  ⟨(some 3), .move (.const (.int .i64 (.ofNat 0))), none⟩] none
def f21r1 : ICode := .region [
  ⟨(some 4), .move (.const (.int .i64 (.ofNat 1))), none⟩] none
def f21r2 : ICode := .region [
  ⟨(some 6), .move (.tmp 4), none⟩,
  ⟨(some 7), .bin .leq (.tmp 6) (.const (.int .i64 (.ofNat 3))), none⟩] none
def f21r3 : ICode := .region [
  ⟨(some 10), .move (.tmp 4), none⟩,
  ⟨(some 11), .call 22 [(.tmp 10)], none⟩,
  ⟨(some 5), .move (.tmp 11), none⟩] none
def f21r4 : ICode := .region [
  ⟨(some 12), .move (.tmp 0), none⟩,
  ⟨(some 13), .move (.tmp 5), none⟩,
  ⟨(some 14), .call 23 [(.tmp 12), (.tmp 13)], none⟩] none
def f21r5 : ICode := .region [
  ⟨(some 15), .move (.tmp 4), none⟩,
  ⟨(some 16), .move (.tmp 5), none⟩,
  ⟨(some 17), .len 0 (.tmp 16), none⟩,
  ⟨(some 2), .move (.tmp 15), none⟩,
  ⟨(some 3), .move (.tmp 17), none⟩] none
def f21r6 : ICode := .region [
  ⟨(some 8), .move (.tmp 4), none⟩,
  ⟨(some 9), .bin .add (.tmp 8) (.const (.int .i64 (.ofNat 1))), none⟩,
  ⟨(some 4), .move (.tmp 9), none⟩] none
def f21r7 : ICode := .region [
  ⟨(some 2), .move (.const (.int .i64 (.ofNat 1))), none⟩,
  ⟨(some 3), .move (.const (.int .i64 (.ofNat 0))), none⟩] none
/- ferret/coding.Sniff -/
def f21 : IFn := ⟨18, [.inl 2, .inl 3], (.seq f21r0 (.seq (.seq f21r1 (.block 0 (.loop (.seq (.seq f21r2 (.cond (.tmp 7) .skip (.exit 0))) (.seq (.block 1 (.seq f21r3 (.seq f21r4 (.cond (.tmp 14) (.seq f21r5 .ret) .skip)))) f21r6))))) (.seq f21r7 .ret)))⟩
def f22r0 : ICode := .region [
  ⟨(some 2), .move (.const (.string ⟨⟨[]⟩⟩)), none⟩] none
def f22r1 : ICode := .region [
  ⟨(some 3), .move (.tmp 0), none⟩] none
def f22r2 : ICode := .region [
  ⟨(some 5), .bin .eql (.tmp 3) (.const (.int .i64 (.ofNat 1))), none⟩,
  ⟨(some 4), .move (.tmp 5), none⟩] none
def f22r3 : ICode := .region [
  ⟨(some 2), .move (.const (.string ⟨⟨[239, 187, 191]⟩⟩)), none⟩] none
def f22r4 : ICode := .region [
  ⟨(some 7), .bin .eql (.tmp 3) (.const (.int .i64 (.ofNat 2))), none⟩,
  ⟨(some 6), .move (.tmp 7), none⟩] none
def f22r5 : ICode := .region [
  ⟨(some 2), .move (.const (.string ⟨⟨[255, 254]⟩⟩)), none⟩] none
def f22r6 : ICode := .region [
  ⟨(some 9), .bin .eql (.tmp 3) (.const (.int .i64 (.ofNat 3))), none⟩,
  ⟨(some 8), .move (.tmp 9), none⟩] none
def f22r7 : ICode := .region [
  ⟨(some 2), .move (.const (.string ⟨⟨[254, 255]⟩⟩)), none⟩] none
def f22r8 : ICode := .region [
  ⟨(some 2), .move (.const (.string ⟨⟨[]⟩⟩)), none⟩] none
/- ferret/coding.mark -/
def f22 : IFn := ⟨10, [.inl 2], (.seq f22r0 (.seq (.seq f22r1 (.block 0 (.seq f22r2 (.cond (.tmp 4) (.seq f22r3 .ret) (.seq f22r4 (.cond (.tmp 6) (.seq f22r5 .ret) (.seq f22r6 (.cond (.tmp 8) (.seq f22r7 .ret) .skip)))))))) (.seq f22r8 .ret)))⟩
def f23r0 : ICode := .region [
  ⟨(some 4), .move (.const (.bool false)), none⟩] none
def f23r1 : ICode := .region [
  ⟨(some 5), .move (.tmp 0), none⟩,
  ⟨(some 6), .move (.tmp 1), none⟩,
  ⟨(some 7), .call 35 [(.tmp 5), (.tmp 6)], none⟩,
  ⟨(some 4), .move (.tmp 7), none⟩] none
/- strings.HasPrefix -/
def f23 : IFn := ⟨8, [.inl 4], (.seq f23r0 (.seq f23r1 .ret))⟩
def f24r0 : ICode := .region [
  ⟨(some 2), .move (.const .nilFunc), none⟩] none
def f24r1 : ICode := .region [
  ⟨(some 3), .move (.tmp 0), none⟩] none
def f24r2 : ICode := .region [
  ⟨(some 5), .bin .eql (.tmp 3) (.const (.int .i64 (.ofNat 1))), none⟩,
  ⟨(some 4), .move (.tmp 5), none⟩] none
def f24r3 : ICode := .region [
  ⟨(some 2), .move (.func 36), none⟩] none
def f24r4 : ICode := .region [
  ⟨(some 7), .bin .eql (.tmp 3) (.const (.int .i64 (.ofNat 2))), none⟩,
  ⟨(some 6), .move (.tmp 7), none⟩] none
def f24r5 : ICode := .region [
  ⟨(some 2), .move (.func 37), none⟩] none
def f24r6 : ICode := .region [
  ⟨(some 9), .bin .eql (.tmp 3) (.const (.int .i64 (.ofNat 3))), none⟩,
  ⟨(some 8), .move (.tmp 9), none⟩] none
def f24r7 : ICode := .region [
  ⟨(some 2), .move (.func 39), none⟩] none
def f24r8 : ICode := .region [
  ⟨(some 2), .move (.func 40), none⟩] none
/- ferret/coding.scalarOf -/
def f24 : IFn := ⟨10, [.inl 2], (.seq f24r0 (.seq (.seq f24r1 (.block 0 (.seq f24r2 (.cond (.tmp 4) (.seq f24r3 .ret) (.seq f24r4 (.cond (.tmp 6) (.seq f24r5 .ret) (.seq f24r6 (.cond (.tmp 8) (.seq f24r7 .ret) .skip)))))))) (.seq f24r8 .ret)))⟩
def f25r0 : ICode := .region [
  ⟨(some 3), .box 83 (.tmp 0), none⟩,
  ⟨(some 5), .box 3 (.tmp 2), none⟩,
  ⟨(some 6), .move (.const (.slice none 0 0)), none⟩] none
def f25r1 : ICode := .region [
  ⟨(some 8), .mkFunc (.func 41) [] [(.tmp 5), (.tmp 3)], none⟩,
  ⟨(some 7), .move (.tmp 8), none⟩] none
def f25r2 : ICode := .region [
  ⟨(some 31), .load1 (.tmp 5), none⟩,
  ⟨(some 32), .bin .eql (.tmp 31) (.const (.int .i64 (.ofNat 4))), none⟩,
  ⟨(some 30), .move (.tmp 32), none⟩] none
def f25r3 : ICode := .region [
  ⟨(some 33), .load1 (.tmp 3), none⟩,
  ⟨(some 34), .move (.tmp 1), none⟩,
  ⟨(some 35), .conv .u8 (.tmp 34), none⟩,
  ⟨(some 36), .buildSlice 5 1 [(.int .u8 (.ofNat 0))] [(0, 1, (.tmp 35))], none⟩,
  ⟨(some 37), .append 5 1 1 (.tmp 33) (.tmp 36), none⟩,
  ⟨(some 6), .move (.tmp 37), none⟩] none
def f25r4 : ICode := .region [
  ⟨(some 39), .load1 (.tmp 5), none⟩,
  ⟨(some 40), .bin .neq (.tmp 39) (.const (.int .i64 (.ofNat 1))), none⟩,
  ⟨(some 41), .move (.tmp 40), none⟩,
  ⟨(some 42), .move (.tmp 1), (some ((some 41), true))⟩,
  ⟨(some 43), .bin .geq (.tmp 42) (.const (.int .i64 (.ofNat 65536))), (some ((some 41), true))⟩,
  ⟨(some 44), .pick (.tmp 41) (.tmp 43) (.const (.bool false)), none⟩,
  ⟨(some 38), .move (.tmp 44), none⟩] none
def f25r5 : ICode := .region [
  ⟨(some 45), .move (.tmp 1), none⟩,
  ⟨(some 46), .bin .sub (.tmp 45) (.const (.int .i64 (.ofNat 65536))), none⟩,
  ⟨(some 1), .move (.tmp 46), none⟩] none
def f25r6 : ICode := .region [
  ⟨(some 47), .move (.tmp 7), none⟩,
  ⟨(some 48), .move (.tmp 1), none⟩,
  ⟨(some 49), .bin .shr (.tmp 48) (.const (.int .u64 (.ofNat 10))), none⟩,
  ⟨(some 50), .bin .add (.const (.int .i64 (.ofNat 55296))) (.tmp 49), none⟩,
  ⟨(some 51), .callv (.tmp 47) [(.tmp 50)], none⟩] none
def f25r7 : ICode := .region [
  ⟨(some 52), .move (.tmp 7), none⟩,
  ⟨(some 53), .move (.tmp 1), none⟩,
  ⟨(some 54), .bin .and (.tmp 53) (.const (.int .i64 (.ofNat 1023))), none⟩,
  ⟨(some 55), .bin .add (.const (.int .i64 (.ofNat 56320))) (.tmp 54), none⟩,
  ⟨(some 56), .callv (.tmp 52) [(.tmp 55)], none⟩] none
def f25r8 : ICode := .region [
  ⟨(some 58), .load1 (.tmp 5), none⟩,
  ⟨(some 59), .bin .neq (.tmp 58) (.const (.int .i64 (.ofNat 1))), none⟩,
  ⟨(some 57), .move (.tmp 59), none⟩] none
def f25r9 : ICode := .region [
  ⟨(some 60), .move (.tmp 7), none⟩,
  ⟨(some 61), .move (.tmp 1), none⟩,
  ⟨(some 62), .callv (.tmp 60) [(.tmp 61)], none⟩] none
def f25r10 : ICode := .region [
  ⟨(some 64), .move (.tmp 1), none⟩,
  ⟨(some 65), .bin .lss (.tmp 64) (.const (.int .i64 (.ofNat 128))), none⟩,
  ⟨(some 63), .move (.tmp 65), none⟩] none
def f25r11 : ICode := .region [
  ⟨(some 66), .load1 (.tmp 3), none⟩,
  ⟨(some 67), .move (.tmp 1), none⟩,
  ⟨(some 68), .conv .u8 (.tmp 67), none⟩,
  ⟨(some 69), .buildSlice 5 1 [(.int .u8 (.ofNat 0))] [(0, 1, (.tmp 68))], none⟩,
  ⟨(some 70), .append 5 1 1 (.tmp 66) (.tmp 69), none⟩,
  ⟨(some 6), .move (.tmp 70), none⟩] none
def f25r12 : ICode := .region [
  ⟨(some 72), .move (.tmp 1), none⟩,
  ⟨(some 73), .bin .lss (.tmp 72) (.const (.int .i64 (.ofNat 2048))), none⟩,
  ⟨(some 71), .move (.tmp 73), none⟩] none
def f25r13 : ICode := .region [
  ⟨(some 74), .load1 (.tmp 3), none⟩,
  ⟨(some 75), .move (.tmp 1), none⟩,
  ⟨(some 76), .bin .shr (.tmp 75) (.const (.int .u64 (.ofNat 6))), none⟩,
  ⟨(some 77), .bin .or (.const (.int .i64 (.ofNat 192))) (.tmp 76), none⟩,
  ⟨(some 78), .conv .u8 (.tmp 77), none⟩,
  ⟨(some 79), .move (.tmp 1), none⟩,
  ⟨(some 80), .bin .and (.tmp 79) (.const (.int .i64 (.ofNat 63))), none⟩,
  ⟨(some 81), .bin .or (.const (.int .i64 (.ofNat 128))) (.tmp 80), none⟩,
  ⟨(some 82), .conv .u8 (.tmp 81), none⟩,
  ⟨(some 83), .buildSlice 5 2 [(.int .u8 (.ofNat 0)), (.int .u8 (.ofNat 0))] [(0, 1, (.tmp 78)), (1, 1, (.tmp 82))], none⟩,
  ⟨(some 84), .append 5 1 1 (.tmp 74) (.tmp 83), none⟩,
  ⟨(some 6), .move (.tmp 84), none⟩] none
def f25r14 : ICode := .region [
  ⟨(some 86), .move (.tmp 1), none⟩,
  ⟨(some 87), .bin .lss (.tmp 86) (.const (.int .i64 (.ofNat 65536))), none⟩,
  ⟨(some 85), .move (.tmp 87), none⟩] none
def f25r15 : ICode := .region [
  ⟨(some 88), .load1 (.tmp 3), none⟩,
  ⟨(some 89), .move (.tmp 1), none⟩,
  ⟨(some 90), .bin .shr (.tmp 89) (.const (.int .u64 (.ofNat 12))), none⟩,
  ⟨(some 91), .bin .or (.const (.int .i64 (.ofNat 224))) (.tmp 90), none⟩,
  ⟨(some 92), .conv .u8 (.tmp 91), none⟩,
  ⟨(some 93), .move (.tmp 1), none⟩,
  ⟨(some 94), .bin .shr (.tmp 93) (.const (.int .u64 (.ofNat 6))), none⟩,
  ⟨(some 95), .bin .and (.tmp 94) (.const (.int .i64 (.ofNat 63))), none⟩,
  ⟨(some 96), .bin .or (.const (.int .i64 (.ofNat 128))) (.tmp 95), none⟩,
  ⟨(some 97), .conv .u8 (.tmp 96), none⟩,
  ⟨(some 98), .move (.tmp 1), none⟩,
  ⟨(some 99), .bin .and (.tmp 98) (.const (.int .i64 (.ofNat 63))), none⟩,
  ⟨(some 100), .bin .or (.const (.int .i64 (.ofNat 128))) (.tmp 99), none⟩,
  ⟨(some 101), .conv .u8 (.tmp 100), none⟩,
  ⟨(some 102), .buildSlice 5 3 [(.int .u8 (.ofNat 0)), (.int .u8 (.ofNat 0)), (.int .u8 (.ofNat 0))] [(0, 1, (.tmp 92)), (1, 1, (.tmp 97)), (2, 1, (.tmp 101))], none⟩,
  ⟨(some 103), .append 5 1 1 (.tmp 88) (.tmp 102), none⟩,
  ⟨(some 6), .move (.tmp 103), none⟩] none
def f25r16 : ICode := .region [
  ⟨(some 9), .load1 (.tmp 3), none⟩,
  ⟨(some 10), .move (.tmp 1), none⟩,
  ⟨(some 11), .bin .shr (.tmp 10) (.const (.int .u64 (.ofNat 18))), none⟩,
  ⟨(some 12), .bin .or (.const (.int .i64 (.ofNat 240))) (.tmp 11), none⟩,
  ⟨(some 13), .conv .u8 (.tmp 12), none⟩,
  ⟨(some 14), .move (.tmp 1), none⟩,
  ⟨(some 15), .bin .shr (.tmp 14) (.const (.int .u64 (.ofNat 12))), none⟩,
  ⟨(some 16), .bin .and (.tmp 15) (.const (.int .i64 (.ofNat 63))), none⟩,
  ⟨(some 17), .bin .or (.const (.int .i64 (.ofNat 128))) (.tmp 16), none⟩,
  ⟨(some 18), .conv .u8 (.tmp 17), none⟩,
  ⟨(some 19), .move (.tmp 1), none⟩,
  ⟨(some 20), .bin .shr (.tmp 19) (.const (.int .u64 (.ofNat 6))), none⟩,
  ⟨(some 21), .bin .and (.tmp 20) (.const (.int .i64 (.ofNat 63))), none⟩,
  ⟨(some 22), .bin .or (.const (.int .i64 (.ofNat 128))) (.tmp 21), none⟩,
  ⟨(some 23), .conv .u8 (.tmp 22), none⟩,
  ⟨(some 24), .move (.tmp 1), none⟩,
  ⟨(some 25), .bin .and (.tmp 24) (.const (.int .i64 (.ofNat 63))), none⟩,
  ⟨(some 26), .bin .or (.const (.int .i64 (.ofNat 128))) (.tmp 25), none⟩,
  ⟨(some 27), .conv .u8 (.tmp 26), none⟩,
  ⟨(some 28), .buildSlice 5 4 [(.int .u8 (.ofNat 0)), (.int .u8 (.ofNat 0)), (.int .u8 (.ofNat 0)), (.int .u8 (.ofNat 0))] [(0, 1, (.tmp 13)), (1, 1, (.tmp 18)), (2, 1, (.tmp 23)), (3, 1, (.tmp 27))], none⟩,
  ⟨(some 29), .append 5 1 1 (.tmp 9) (.tmp 28), none⟩,
  ⟨(some 6), .move (.tmp 29), none⟩] none
def f25r17 : ICode := .region [
  ⟨(some 104), .load1 (.tmp 3), none⟩,
  ⟨(some 6), .move (.tmp 104), none⟩] none
/- ferret/coding.put -/
def f25 : IFn := ⟨105, [.inl 6], (.seq f25r0 (.seq f25r1 (.seq (.block 0 (.seq f25r2 (.cond (.tmp 30) (.seq f25r3 .ret) (.seq f25r4 (.cond (.tmp 38) (.seq f25r5 (.seq f25r6 f25r7)) (.seq f25r8 (.cond (.tmp 57) f25r9 (.seq f25r10 (.cond (.tmp 63) (.seq f25r11 .ret) (.seq f25r12 (.cond (.tmp 71) (.seq f25r13 .ret) (.seq f25r14 (.cond (.tmp 85) (.seq f25r15 .ret) (.seq f25r16 .ret)))))))))))))) (.seq f25r17 .ret))))⟩
def f26r0 : ICode := .region [
  ⟨(some 2), .move (.const (.int .i64 (.ofNat 0))), none⟩] none
def f26r1 : ICode := .region [
  ⟨(some 4), .move (.tmp 0), none⟩,
  ⟨(some 5), .bin .eql (.tmp 4) (.const (.int .i64 (.ofNat 10))), none⟩,
  ⟨(some 3), .move (.tmp 5), none⟩] none
def f26r2 : ICode := .region [
  ⟨(some 2), .move (.const (.int .i64 (.ofNat 1))), none⟩] none
def f26r3 : ICode := .region [
  ⟨(some 7), .move (.tmp 0), none⟩,
  ⟨(some 8), .bin .lss (.tmp 7) (.const (.int .i64 (.ofNat 128))), none⟩,
  ⟨(some 9), .move (.tmp 8), none⟩,
  ⟨(some 10), .move (.tmp 0), (some ((some 9), true))⟩,
  ⟨(some 11), .bin .or (.tmp 10) (.const (.int .i64 (.ofNat 32))), (some ((some 9), true))⟩,
  ⟨(some 12), .bin .geq (.tmp 11) (.const (.int .i64 (.ofNat 97))), (some ((some 9), true))⟩,
  ⟨(some 13), .move (.tmp 12), (some ((some 9), true))⟩,
  ⟨(some 14), .move (.tmp 0), (some ((some 13), true))⟩,
  ⟨(some 15), .bin .or (.tmp 14) (.const (.int .i64 (.ofNat 32))), (some ((some 13), true))⟩,
  ⟨(some 16), .bin .leq (.tmp 15) (.const (.int .i64 (.ofNat 122))), (some ((some 13), true))⟩,
  ⟨(some 17), .pick (.tmp 13) (.tmp 16) (.const (.bool false)), (some ((some 9), true))⟩,
  ⟨(some 18), .move (.tmp 17), (some ((some 9), true))⟩,
  ⟨(some 19), .move (.tmp 0), (some ((some 18), false))⟩,
  ⟨(some 20), .bin .geq (.tmp 19) (.const (.int .i64 (.ofNat 48))), (some ((some 18), false))⟩,
  ⟨(some 21), .move (.tmp 20), (some ((some 18), false))⟩,
  ⟨(some 22), .move (.tmp 0), (some ((some 21), true))⟩,
  ⟨(some 23), .bin .leq (.tmp 22) (.const (.int .i64 (.ofNat 57))), (some ((some 21), true))⟩,
  ⟨(some 24), .pick (.tmp 21) (.tmp 23) (.const (.bool false)), (some ((some 18), false))⟩,
  ⟨(some 25), .pick (.tmp 18) (.const (.bool true)) (.tmp 24), (some ((some 9), true))⟩,
  ⟨(some 26), .move (.tmp 25), (some ((some 9), true))⟩,
  ⟨(some 27), .move (.tmp 0), (some ((some 26), false))⟩,
  ⟨(some 28), .bin .eql (.tmp 27) (.const (.int .i64 (.ofNat 95))), (some ((some 26), false))⟩,
  ⟨(some 29), .pick (.tmp 26) (.const (.bool true)) (.tmp 28), (some ((some 9), true))⟩,
  ⟨(some 30), .pick (.tmp 9) (.tmp 29) (.const (.bool false)), none⟩,
  ⟨(some 6), .move (.tmp 30), none⟩] none
def f26r4 : ICode := .region [
  ⟨(some 2), .move (.const (.int .i64 (.ofNat 2))), none⟩] none
def f26r5 : ICode := .region [
  ⟨(some 2), .move (.const (.int .i64 (.ofNat 3))), none⟩] none
/- ferret/dfa.class -/
def f26 : IFn := ⟨31, [.inl 2], (.seq f26r0 (.seq (.block 0 (.seq f26r1 (.cond (.tmp 3) (.seq f26r2 .ret) (.seq f26r3 (.cond (.tmp 6) (.seq f26r4 .ret) .skip))))) (.seq f26r5 .ret)))⟩
def f27r0 : ICode := .region [
  ⟨(some 8), .move (.const (.pointer none)), none⟩] none
def f27r1 : ICode := .region [
  ⟨(some 11), .move (.tmp 1), none⟩,
  ⟨(some 12), .move (.tmp 2), none⟩,
  ⟨(some 13), .move (.tmp 3), none⟩,
  ⟨(some 14), .call 42 [(.tmp 11), (.tmp 12), (.tmp 13)], none⟩,
  ⟨(some 9), .move (.tmp 14), none⟩] none
def f27r2 : ICode := .region [
  ⟨(some 15), .move (.tmp 0), none⟩,
  ⟨(some 16), .nilCheck (.tmp 15), none⟩,
  ⟨(some 17), .fieldAddr 3 (.tmp 16), none⟩,
  ⟨(some 18), .load1 (.tmp 17), none⟩,
  ⟨(some 19), .move (.tmp 9), none⟩,
  ⟨(some 20), .lookup (.pointer none) false (.tmp 18) (.tmp 19), none⟩,
  ⟨(some 10), .move (.tmp 20), none⟩] none
def f27r3 : ICode := .region [
  ⟨(some 21), .move (.tmp 10), none⟩,
  ⟨(some 22), .nilEq false 0 (.tmp 21) (.const (.pointer none)), none⟩] none
def f27r4 : ICode := .region [
  ⟨(some 23), .move (.tmp 0), none⟩,
  ⟨(some 24), .nilCheck (.tmp 23), none⟩,
  ⟨(some 25), .fieldAddr 3 (.tmp 24), none⟩,
  ⟨(some 26), .load1 (.tmp 25), none⟩,
  ⟨(some 27), .len 2 (.tmp 26), none⟩,
  ⟨(some 28), .move (.tmp 0), none⟩,
  ⟨(some 29), .nilCheck (.tmp 28), none⟩,
  ⟨(some 30), .fieldAddr 2 (.tmp 29), none⟩,
  ⟨(some 31), .load1 (.tmp 30), none⟩,
  ⟨(some 32), .bin .geq (.tmp 27) (.tmp 31), none⟩] (some ⟨[], []⟩)
def f27r5 : ICode := .region [
  ⟨(some 33), .move (.tmp 0), none⟩,
  ⟨(some 34), .makeMap, none⟩,
  ⟨(some 35), .nilCheck (.tmp 33), none⟩,
  ⟨(some 36), .fieldAddr 3 (.tmp 35), none⟩,
  ⟨none, .store 1 (.tmp 36) (.tmp 34), none⟩] none
def f27r6 : ICode := .region [
  ⟨(some 37), .move (.tmp 1), none⟩,
  ⟨(some 38), .move (.tmp 2), none⟩,
  ⟨(some 39), .move (.tmp 3), none⟩,
  ⟨(some 40), .build [(.slice none 0 0), (.int .i64 (.ofNat 0)), (.bool false), (.pointer none), (.pointer none), (.pointer none), (.pointer none), (.pointer none), (.pointer none), (.pointer none), (.pointer none), (.pointer none), (.pointer none), (.pointer none), (.pointer none), (.pointer none), (.pointer none), (.pointer none), (.pointer none), (.pointer none), (.pointer none), (.pointer none), (.pointer none), (.pointer none), (.pointer none), (.pointer none), (.pointer none), (.pointer none), (.pointer none), (.pointer none), (.pointer none), (.pointer none), (.pointer none), (.pointer none), (.pointer none), (.pointer none), (.pointer none), (.pointer none), (.pointer none), (.pointer none), (.pointer none), (.pointer none), (.pointer none), (.pointer none), (.pointer none), (.pointer none), (.pointer none), (.pointer none), (.pointer none), (.pointer none), (.pointer none), (.pointer none), (.pointer none), (.pointer none), (.pointer none), (.pointer none), (.pointer none), (.pointer none), (.pointer none), (.pointer none), (.pointer none), (.pointer none), (.pointer none), (.pointer none), (.pointer none), (.pointer none), (.pointer none), (.pointer none), (.pointer none), (.pointer none), (.pointer none), (.pointer none), (.pointer none), (.pointer none), (.pointer none), (.pointer none), (.pointer none), (.pointer none), (.pointer none), (.pointer none), (.pointer none), (.pointer none), (.pointer none), (.pointer none), (.pointer none), (.pointer none), (.pointer none), (.pointer none), (.pointer none), (.pointer none), (.pointer none), (.pointer none), (.pointer none), (.pointer none), (.pointer none), (.pointer none), (.pointer none), (.pointer none), (.pointer none), (.pointer none), (.pointer none), (.pointer none), (.pointer none), (.pointer none), (.pointer none), (.pointer none), (.pointer none), (.pointer none), (.pointer none), (.pointer none), (.pointer none), (.pointer none), (.pointer none), (.pointer none), (.pointer none), (.pointer none), (.pointer none), (.pointer none), (.pointer none), (.pointer none), (.pointer none), (.pointer none), (.pointer none), (.pointer none), (.pointer none), (.pointer none), (.pointer none), (.pointer none), (.pointer none), (.pointer none), (.pointer none), (.pointer none), (.pointer none), (.pointer none), (.pointer none), (.pointer none), (.pointer none), (.pointer none), (.pointer none), (.pointer none), (.pointer none), (.pointer none), (.pointer none), (.pointer none), (.pointer none), (.pointer none), (.pointer none), (.pointer none), (.pointer none), (.pointer none), (.pointer none), (.pointer none), (.pointer none), (.pointer none), (.pointer none), (.pointer none), (.pointer none), (.pointer none), (.pointer none), (.pointer none), (.pointer none), (.pointer none), (.pointer none), (.pointer none), (.pointer none), (.pointer none), (.pointer none), (.pointer none), (.pointer none), (.pointer none), (.pointer none), (.pointer none), (.pointer none), (.pointer none), (.pointer none), (.pointer none), (.pointer none), (.pointer none), (.pointer none), (.pointer none), (.pointer none), (.pointer none), (.pointer none), (.pointer none), (.pointer none), (.pointer none), (.pointer none), (.pointer none), (.pointer none), (.pointer none), (.pointer none), (.pointer none), (.pointer none), (.pointer none), (.pointer none), (.pointer none), (.pointer none), (.pointer none), (.pointer none), (.pointer none), (.pointer none), (.pointer none), (.pointer none), (.pointer none), (.pointer none), (.pointer none), (.pointer none), (.pointer none), (.pointer none), (.pointer none), (.pointer none), (.pointer none), (.pointer none), (.pointer none), (.pointer none), (.pointer none), (.pointer none), (.pointer none), (.pointer none), (.pointer none), (.pointer none), (.pointer none), (.pointer none), (.pointer none), (.pointer none), (.pointer none), (.pointer none), (.pointer none), (.pointer none), (.pointer none), (.pointer none), (.pointer none), (.pointer none), (.pointer none), (.pointer none), (.pointer none), (.pointer none), (.pointer none), (.pointer none), (.pointer none), (.pointer none), (.pointer none), (.pointer none), (.pointer none), (.pointer none), (.pointer none), (.pointer none), (.pointer none), (.pointer none), (.pointer none), (.pointer none), (.pointer none), (.pointer none), (.pointer none), (.pointer none), (.pointer none), (.pointer none), (.pointer none), (.pointer none), (.pointer none)] [(0, 1, (.tmp 37)), (1, 1, (.tmp 38)), (2, 1, (.tmp 39))], none⟩,
  ⟨(some 41), .box 97 (.tmp 40), none⟩,
  ⟨(some 10), .move (.tmp 41), none⟩] none
def f27r7 : ICode := .region [
  ⟨(some 42), .move (.tmp 0), none⟩,
  ⟨(some 43), .nilCheck (.tmp 42), none⟩,
  ⟨(some 44), .fieldAddr 3 (.tmp 43), none⟩,
  ⟨(some 45), .load1 (.tmp 44), none⟩,
  ⟨(some 46), .move (.tmp 9), none⟩,
  ⟨(some 47), .move (.tmp 10), none⟩,
  ⟨none, .mapUpdate (.tmp 45) (.tmp 46) (.tmp 47), none⟩] none
def f27r8 : ICode := .region [
  ⟨(some 48), .move (.tmp 10), none⟩,
  ⟨(some 8), .move (.tmp 48), none⟩] none
/- (*ferret/dfa.DFA).state -/
def f27 : IFn := ⟨49, [.inl 8], (.seq f27r0 (.seq f27r1 (.seq f27r2 (.seq (.seq f27r3 (.cond (.tmp 22) (.seq (.seq f27r4 (.cond (.tmp 32) f27r5 .skip)) (.seq f27r6 f27r7)) .skip)) (.seq f27r8 .ret)))))⟩
def f28r0 : ICode := .region [
  ⟨(some 6), .move (.const (.pointer none)), none⟩] none
def f28r1 : ICode := .region [
  ⟨(some 17), .move (.tmp 1), none⟩,
  ⟨(some 18), .move (.tmp 2), none⟩,
  ⟨(some 19), .nilCheck (.tmp 17), none⟩,
  ⟨(some 20), .fieldAddr 3 (.tmp 19), none⟩,
  ⟨(some 21), .indexArrA 257 1 (.tmp 20) (.tmp 18), none⟩,
  ⟨(some 22), .load1 (.tmp 21), none⟩,
  ⟨(some 7), .move (.tmp 22), none⟩] none
def f28r2 : ICode := .region [
  ⟨(some 23), .move (.tmp 7), none⟩,
  ⟨(some 24), .nilEq true 0 (.tmp 23) (.const (.pointer none)), none⟩] none
def f28r3 : ICode := .region [
  ⟨(some 25), .move (.tmp 7), none⟩,
  ⟨(some 6), .move (.tmp 25), none⟩] none
def f28r4 : ICode := .region [
  ⟨(some 26), .move (.tmp 0), none⟩,
  ⟨(some 27), .move (.tmp 1), none⟩,
  ⟨(some 28), .nilCheck (.tmp 27), none⟩,
  ⟨(some 29), .fieldAddr 1 (.tmp 28), none⟩,
  ⟨(some 30), .load1 (.tmp 29), none⟩,
  ⟨(some 31), .move (.tmp 2), none⟩,
  ⟨(some 32), .move (.tmp 0), none⟩,
  ⟨(some 33), .nilCheck (.tmp 32), none⟩,
  ⟨(some 34), .fieldAddr 0 (.tmp 33), none⟩,
  ⟨(some 35), .fieldAddr 0 (.tmp 34), none⟩,
  ⟨(some 36), .load1 (.tmp 35), none⟩,
  ⟨(some 37), .len 1 (.tmp 36), none⟩,
  ⟨(some 38), .makeSlice 4 1 (.bool false) (.tmp 37) (.tmp 37), none⟩,
  ⟨(some 39), .build [(.pointer none), (.int .i64 (.ofNat 0)), (.int .i64 (.ofNat 0)), (.slice none 0 0), (.slice none 0 0), (.bool false)] [(0, 1, (.tmp 26)), (1, 1, (.tmp 30)), (2, 1, (.tmp 31)), (3, 1, (.tmp 38))], none⟩,
  ⟨(some 40), .box 119 (.tmp 39), none⟩,
  ⟨(some 8), .move (.tmp 40), none⟩] (some ⟨[], []⟩)
def f28r5 : ICode := .region [
  ⟨(some 41), .move (.tmp 1), none⟩,
  ⟨(some 42), .nilCheck (.tmp 41), none⟩,
  ⟨(some 43), .fieldAddr 0 (.tmp 42), none⟩,
  ⟨(some 44), .load1 (.tmp 43), none⟩,
  ⟨(some 45), .len 1 (.tmp 44), none⟩,
  ⟨(some 46), .move (.const (.int .i64 (.ofNat 0))), none⟩] none
def f28r6 : ICode := .region [
  ⟨(some 47), .bin .lss (.tmp 46) (.tmp 45), none⟩] none
def f28r7 : ICode := .region [
  ⟨(some 48), .indexSl 1 (.tmp 44) (.tmp 46), none⟩,
  ⟨(some 49), .load1 (.tmp 48), none⟩,
  ⟨(some 10), .move (.tmp 49), none⟩] none
def f28r8 : ICode := .region [
  ⟨(some 50), .move (.tmp 8), none⟩,
  ⟨(some 51), .move (.tmp 10), none⟩,
  ⟨(some 52), .call 43 [(.tmp 50), (.tmp 51)], none⟩,
  ⟨(some 53), .un .not (.tmp 52), none⟩] none
def f28r9 : ICode := .region [
  ⟨(some 54), .bin .add (.tmp 46) (.const (.int .i64 (.ofNat 1))), none⟩,
  ⟨(some 46), .move (.tmp 54), none⟩] none
def f28r10 : ICode := .region [
  ⟨(some 55), .move (.tmp 1), none⟩,
  ⟨(some 56), .nilCheck (.tmp 55), none⟩,
  ⟨(some 57), .fieldAddr 2 (.tmp 56), none⟩,
  ⟨(some 58), .load1 (.tmp 57), none⟩,
  ⟨(some 59), .move (.tmp 58), none⟩,
  ⟨(some 60), .move (.tmp 8), (some ((some 59), true))⟩,
  ⟨(some 61), .nilCheck (.tmp 60), (some ((some 59), true))⟩,
  ⟨(some 62), .fieldAddr 5 (.tmp 61), (some ((some 59), true))⟩,
  ⟨(some 63), .load1 (.tmp 62), (some ((some 59), true))⟩,
  ⟨(some 64), .un .not (.tmp 63), (some ((some 59), true))⟩,
  ⟨(some 65), .pick (.tmp 59) (.tmp 64) (.const (.bool false)), none⟩] none
def f28r11 : ICode := .region [
  ⟨(some 66), .move (.tmp 8), none⟩,
  ⟨(some 67), .call 43 [(.tmp 66), (.const (.int .i64 (.ofNat 0)))], none⟩] none
def f28r12 : ICode := .region [
  ⟨(some 68), .move (.tmp 8), none⟩,
  ⟨(some 69), .nilCheck (.tmp 68), none⟩,
  ⟨(some 70), .fieldAddr 5 (.tmp 69), none⟩,
  ⟨(some 71), .load1 (.tmp 70), none⟩,
  ⟨(some 72), .build [(.bool false), (.pointer none)] [(0, 1, (.tmp 71))], none⟩,
  ⟨(some 73), .box 94 (.tmp 72), none⟩,
  ⟨(some 11), .move (.tmp 73), none⟩] none
def f28r13 : ICode := .region [
  ⟨(some 74), .move (.tmp 2), none⟩,
  ⟨(some 75), .bin .neq (.tmp 74) (.const (.int .i64 (.ofNat 256))), none⟩] none
def f28r14 : ICode := .region [
  ⟨(some 12), .move (.const (.slice none 0 0)), none⟩] none
def f28r15 : ICode := .region [
  ⟨(some 76), .move (.tmp 0), none⟩,
  ⟨(some 77), .nilCheck (.tmp 76), none⟩,
  ⟨(some 78), .fieldAddr 0 (.tmp 77), none⟩,
  ⟨(some 79), .fieldAddr 0 (.tmp 78), none⟩,
  ⟨(some 80), .load1 (.tmp 79), none⟩,
  ⟨(some 81), .len 1 (.tmp 80), none⟩,
  ⟨(some 82), .makeSlice 4 1 (.bool false) (.tmp 81) (.tmp 81), none⟩,
  ⟨(some 13), .move (.tmp 82), none⟩] none
def f28r16 : ICode := .region [
  ⟨(some 83), .move (.tmp 8), none⟩,
  ⟨(some 84), .nilCheck (.tmp 83), none⟩,
  ⟨(some 85), .fieldAddr 4 (.tmp 84), none⟩,
  ⟨(some 86), .load1 (.tmp 85), none⟩,
  ⟨(some 87), .len 1 (.tmp 86), none⟩,
  ⟨(some 88), .move (.const (.int .i64 (.ofNat 0))), none⟩] none
def f28r17 : ICode := .region [
  ⟨(some 89), .bin .lss (.tmp 88) (.tmp 87), none⟩] none
def f28r18 : ICode := .region [
  ⟨(some 90), .indexSl 1 (.tmp 86) (.tmp 88), none⟩,
  ⟨(some 91), .load1 (.tmp 90), none⟩,
  ⟨(some 15), .move (.tmp 91), none⟩] none
def f28r19 : ICode := .region [
  ⟨(some 92), .move (.tmp 0), none⟩,
  ⟨(some 93), .nilCheck (.tmp 92), none⟩,
  ⟨(some 94), .fieldAddr 0 (.tmp 93), none⟩,
  ⟨(some 95), .fieldAddr 0 (.tmp 94), none⟩,
  ⟨(some 96), .load1 (.tmp 95), none⟩,
  ⟨(some 97), .move (.tmp 15), none⟩,
  ⟨(some 98), .indexSl 5 (.tmp 96) (.tmp 97), none⟩,
  ⟨(some 99), .loadN 5 (.tmp 98), none⟩,
  ⟨(some 16), .new [(.int .i64 (.ofNat 0)), (.int .i64 (.ofNat 0)), (.int .i64 (.ofNat 0)), (.int .i64 (.ofNat 0)), (.int .i64 (.ofNat 0))] 77, none⟩,
  ⟨none, .store 5 (.tmp 16) (.tmp 99), none⟩] none
def f28r20 : ICode := .region [
  ⟨(some 100), .move (.tmp 2), none⟩,
  ⟨(some 101), .fieldAddr 3 (.tmp 16), none⟩,
  ⟨(some 102), .fieldAddr 0 (.tmp 101), none⟩,
  ⟨(some 103), .load1 (.tmp 102), none⟩,
  ⟨(some 104), .bin .geq (.tmp 100) (.tmp 103), none⟩,
  ⟨(some 105), .move (.tmp 104), none⟩,
  ⟨(some 106), .move (.tmp 2), (some ((some 105), true))⟩,
  ⟨(some 107), .fieldAddr 3 (.tmp 16), (some ((some 105), true))⟩,
  ⟨(some 108), .fieldAddr 1 (.tmp 107), (some ((some 105), true))⟩,
  ⟨(some 109), .load1 (.tmp 108), (some ((some 105), true))⟩,
  ⟨(some 110), .bin .leq (.tmp 106) (.tmp 109), (some ((some 105), true))⟩,
  ⟨(some 111), .pick (.tmp 105) (.tmp 110) (.const (.bool false)), none⟩,
  ⟨(some 112), .move (.tmp 111), none⟩,
  ⟨(some 113), .move (.tmp 13), (some ((some 112), true))⟩,
  ⟨(some 114), .fieldAddr 1 (.tmp 16), (some ((some 112), true))⟩,
  ⟨(some 115), .load1 (.tmp 114), (some ((some 112), true))⟩,
  ⟨(some 116), .indexSl 1 (.tmp 113) (.tmp 115), (some ((some 112), true))⟩,
  ⟨(some 117), .load1 (.tmp 116), (some ((some 112), true))⟩,
  ⟨(some 118), .un .not (.tmp 117), (some ((some 112), true))⟩,
  ⟨(some 119), .pick (.tmp 112) (.tmp 118) (.const (.bool false)), none⟩] none
def f28r21 : ICode := .region [
  ⟨(some 120), .move (.tmp 13), none⟩,
  ⟨(some 121), .fieldAddr 1 (.tmp 16), none⟩,
  ⟨(some 122), .load1 (.tmp 121), none⟩,
  ⟨(some 123), .indexSl 1 (.tmp 120) (.tmp 122), none⟩,
  ⟨none, .store 1 (.tmp 123) (.const (.bool true)), none⟩] none
def f28r22 : ICode := .region [
  ⟨(some 124), .move (.tmp 12), none⟩,
  ⟨(some 125), .fieldAddr 1 (.tmp 16), none⟩,
  ⟨(some 126), .load1 (.tmp 125), none⟩,
  ⟨(some 127), .buildSlice 3 1 [(.int .i64 (.ofNat 0))] [(0, 1, (.tmp 126))], none⟩,
  ⟨(some 128), .append 3 1 8 (.tmp 124) (.tmp 127), none⟩,
  ⟨(some 12), .move (.tmp 128), none⟩] none
def f28r23 : ICode := .region [
  ⟨(some 129), .bin .add (.tmp 88) (.const (.int .i64 (.ofNat 1))), none⟩,
  ⟨(some 88), .move (.tmp 129), none⟩] none
def f28r24 : ICode := .region [
  ⟨(some 130), .move (.tmp 11), none⟩,
  ⟨(some 131), .move (.tmp 0), none⟩,
  ⟨(some 132), .move (.tmp 12), none⟩,
  ⟨(some 133), .move (.tmp 2), none⟩,
  ⟨(some 134), .call 26 [(.tmp 133)], none⟩,
  ⟨(some 135), .move (.tmp 1), none⟩,
  ⟨(some 136), .nilCheck (.tmp 135), none⟩,
  ⟨(some 137), .fieldAddr 2 (.tmp 136), none⟩,
  ⟨(some 138), .load1 (.tmp 137), none⟩,
  ⟨(some 139), .move (.tmp 138), none⟩,
  ⟨(some 140), .move (.tmp 8), (some ((some 139), true))⟩,
  ⟨(some 141), .nilCheck (.tmp 140), (some ((some 139), true))⟩,
  ⟨(some 142), .fieldAddr 5 (.tmp 141), (some ((some 139), true))⟩,
  ⟨(some 143), .load1 (.tmp 142), (some ((some 139), true))⟩,
  ⟨(some 144), .un .not (.tmp 143), (some ((some 139), true))⟩,
  ⟨(some 145), .pick (.tmp 139) (.tmp 144) (.const (.bool false)), none⟩,
  ⟨(some 146), .call 27 [(.tmp 131), (.tmp 132), (.tmp 134), (.tmp 145)], none⟩,
  ⟨(some 147), .nilCheck (.tmp 130), none⟩,
  ⟨(some 148), .fieldAddr 1 (.tmp 147), none⟩,
  ⟨none, .store 1 (.tmp 148) (.tmp 146), none⟩] (some ⟨[], [(8, 4)]⟩)
def f28r25 : ICode := .region [
  ⟨(some 149), .move (.tmp 1), none⟩,
  ⟨(some 150), .move (.tmp 2), none⟩,
  ⟨(some 151), .move (.tmp 11), none⟩,
  ⟨(some 152), .nilCheck (.tmp 149), none⟩,
  ⟨(some 153), .fieldAddr 3 (.tmp 152), none⟩,
  ⟨(some 154), .indexArrA 257 1 (.tmp 153) (.tmp 150), none⟩,
  ⟨none, .store 1 (.tmp 154) (.tmp 151), none⟩] none
def f28r26 : ICode := .region [
  ⟨(some 155), .move (.tmp 11), none⟩,
  ⟨(some 6), .move (.tmp 155), none⟩] none
/- (*ferret/dfa.DFA).step -/
def f28 : IFn := ⟨156, [.inl 6], (.seq f28r0 (.seq (.seq f28r1 (.seq f28r2 (.cond (.tmp 24) (.seq f28r3 .ret) .skip))) (.seq f28r4 (.seq (.seq f28r5 (.block 0 (.loop (.seq f28r6 (.seq (.cond (.tmp 47) .skip (.exit 0)) (.seq (.block 1 (.seq f28r7 (.seq f28r8 (.cond (.tmp 53) (.exit 0) .skip)))) f28r9)))))) (.seq (.seq f28r10 (.cond (.tmp 65) f28r11 .skip)) (.seq f28r12 (.seq (.seq f28r13 (.cond (.tmp 75) (.seq f28r14 (.seq f28r15 (.seq (.seq f28r16 (.block 2 (.loop (.seq f28r17 (.seq (.cond (.tmp 89) .skip (.exit 2)) (.seq (.block 3 (.seq f28r18 (.seq f28r19 (.seq f28r20 (.cond (.tmp 119) (.seq f28r21 f28r22) .skip))))) f28r23)))))) f28r24))) .skip)) (.seq f28r25 (.seq f28r26 .ret)))))))))⟩
def f30r0 : ICode := .region [
  ⟨(some 2), .new [(.int .i64 (.ofNat 0)), (.slice none 0 0), (.bool false), (.int .i64 (.ofNat 0)), (.int .i64 (.ofNat 0)), (.bool false), (.int .i64 (.ofNat 0)), (.string ⟨⟨[]⟩⟩), (.slice none 0 0)] 54, none⟩] none
def f30r1 : ICode := .region [
  ⟨(some 3), .move (.const (.slice none 0 0)), none⟩] none
def f30r2 : ICode := .region [
  ⟨(some 4), .move (.tmp 3), none⟩,
  ⟨(some 5), .move (.tmp 0), none⟩,
  ⟨(some 6), .call 44 [(.tmp 5)], none⟩,
  ⟨(some 7), .buildSlice 54 1 [(.int .i64 (.ofNat 0)), (.slice none 0 0), (.bool false), (.int .i64 (.ofNat 0)), (.int .i64 (.ofNat 0)), (.bool false), (.int .i64 (.ofNat 0)), (.string ⟨⟨[]⟩⟩), (.slice none 0 0)] [(0, 9, (.tmp 6))], none⟩,
  ⟨(some 8), .append 54 9 112 (.tmp 4) (.tmp 7), none⟩,
  ⟨(some 3), .move (.tmp 8), none⟩] none
def f30r3 : ICode := .region [
  ⟨(some 9), .move (.tmp 0), none⟩,
  ⟨(some 10), .call 45 [(.tmp 9), (.const (.string ⟨⟨[124]⟩⟩))], none⟩,
  ⟨(some 11), .un .not (.tmp 10), none⟩] none
def f30r4 : ICode := .region [
  ⟨(some 12), .move (.tmp 3), none⟩,
  ⟨(some 13), .call 46 [(.const (.int .i64 (.ofNat 9))), (.tmp 12)], none⟩,
  ⟨none, .store 9 (.tmp 2) (.tmp 13), none⟩] none
/- (*ferret/syn.parser).alternatives -/
def f30 : IFn := ⟨14, [.inr (2, (some 9))], (.seq f30r0 (.seq f30r1 (.seq (.block 0 (.loop (.block 1 (.seq f30r2 (.seq f30r3 (.cond (.tmp 11) (.exit 0) .skip)))))) (.seq f30r4 .ret))))⟩
def f31r0 : ICode := .region [
  ⟨(some 1), .box 54 (.tmp 0), none⟩,
  ⟨(some 2), .new [(.int .i64 (.ofNat 0)), (.slice none 0 0), (.bool false), (.int .i64 (.ofNat 0)), (.int .i64 (.ofNat 0)), (.bool false), (.int .i64 (.ofNat 0)), (.string ⟨⟨[]⟩⟩), (.slice none 0 0)] 54, none⟩,
  ⟨(some 3), .move (.const (.int .i64 (.ofNat 0))), none⟩] none
def f31r1 : ICode := .region [
  ⟨(some 4), .loadN 9 (.tmp 1), none⟩,
  ⟨(some 5), .call 47 [(.tmp 4)], none⟩,
  ⟨(some 6), .bin .gtr (.tmp 5) (.const (.int .i64 (.ofNat 8192))), none⟩] none
def f31r2 : ICode := .region [
  ⟨(some 7), .build [(.int .i64 (.ofNat 0)), (.slice none 0 0), (.bool false), (.int .i64 (.ofNat 0)), (.int .i64 (.ofNat 0)), (.bool false), (.int .i64 (.ofNat 0)), (.string ⟨⟨[]⟩⟩), (.slice none 0 0)] [], none⟩,
  ⟨none, .store 9 (.tmp 2) (.tmp 7), none⟩,
  ⟨(some 3), .move (.const (.int .i64 (.ofNat 26))), none⟩] none
def f31r3 : ICode := .region [
  ⟨(some 8), .loadN 9 (.tmp 1), none⟩,
  ⟨(some 9), .call 48 [(.tmp 8)], none⟩,
  ⟨none, .store 9 (.tmp 2) (.tmp 9), none⟩,
  ⟨(some 3), .move (.const (.int .i64 (.ofNat 0))), none⟩] none
/- ferret/simple.Simplify -/
def f31 : IFn := ⟨10, [.inr (2, (some 9)), .inl 3], (.seq f31r0 (.seq (.seq f31r1 (.cond (.tmp 6) (.seq f31r2 .ret) .skip)) (.seq f31r3 .ret)))⟩
def f32r0 : ICode := .region [
  ⟨(some 3), .box 77 (.tmp 1), none⟩,
  ⟨(some 4), .move (.const (.int .i64 (.ofNat 0))), none⟩] none
def f32r1 : ICode := .region [
  ⟨(some 5), .move (.tmp 0), none⟩,
  ⟨(some 6), .move (.tmp 0), none⟩,
  ⟨(some 7), .nilCheck (.tmp 6), none⟩,
  ⟨(some 8), .fieldAddr 1 (.tmp 7), none⟩,
  ⟨(some 9), .load1 (.tmp 8), none⟩,
  ⟨(some 10), .move (.tmp 9), none⟩,
  ⟨(some 11), .move (.tmp 0), (some ((some 10), false))⟩,
  ⟨(some 12), .nilCheck (.tmp 11), (some ((some 10), false))⟩,
  ⟨(some 13), .fieldAddr 0 (.tmp 12), (some ((some 10), false))⟩,
  ⟨(some 14), .load1 (.tmp 13), (some ((some 10), false))⟩,
  ⟨(some 15), .len 1 (.tmp 14), (some ((some 10), false))⟩,
  ⟨(some 16), .bin .geq (.tmp 15) (.const (.int .i64 (.ofNat 8192))), (some ((some 10), false))⟩,
  ⟨(some 17), .pick (.tmp 10) (.const (.bool true)) (.tmp 16), none⟩,
  ⟨(some 18), .nilCheck (.tmp 5), none⟩,
  ⟨(some 19), .fieldAddr 1 (.tmp 18), none⟩,
  ⟨none, .store 1 (.tmp 19) (.tmp 17), none⟩] none
def f32r2 : ICode := .region [
  ⟨(some 20), .move (.tmp 0), none⟩,
  ⟨(some 21), .nilCheck (.tmp 20), none⟩,
  ⟨(some 22), .fieldAddr 1 (.tmp 21), none⟩,
  ⟨(some 23), .load1 (.tmp 22), none⟩] none
def f32r3 : ICode := .region [
  ⟨(some 24), .move (.tmp 0), none⟩,
  ⟨(some 25), .move (.tmp 0), none⟩,
  ⟨(some 26), .nilCheck (.tmp 25), none⟩,
  ⟨(some 27), .fieldAddr 0 (.tmp 26), none⟩,
  ⟨(some 28), .load1 (.tmp 27), none⟩,
  ⟨(some 29), .sliceSl 5 (.tmp 28) none (some (.const (.int .i64 (.ofNat 0)))), none⟩,
  ⟨(some 30), .nilCheck (.tmp 24), none⟩,
  ⟨(some 31), .fieldAddr 0 (.tmp 30), none⟩,
  ⟨none, .store 1 (.tmp 31) (.tmp 29), none⟩] none
def f32r4 : ICode := .region [
  ⟨(some 32), .move (.tmp 0), none⟩,
  ⟨(some 33), .nilCheck (.tmp 32), none⟩,
  ⟨(some 34), .fieldAddr 0 (.tmp 33), none⟩,
  ⟨(some 35), .load1 (.tmp 34), none⟩,
  ⟨(some 36), .len 1 (.tmp 35), none⟩,
  ⟨(some 37), .bin .add (.tmp 36) (.const (.int .i64 (.ofNat 1))), none⟩,
  ⟨(some 38), .fieldAddr 1 (.tmp 3), none⟩,
  ⟨none, .store 1 (.tmp 38) (.tmp 37), none⟩] none
def f32r5 : ICode := .region [
  ⟨(some 39), .move (.tmp 0), none⟩,
  ⟨(some 40), .move (.tmp 0), none⟩,
  ⟨(some 41), .nilCheck (.tmp 40), none⟩,
  ⟨(some 42), .fieldAddr 0 (.tmp 41), none⟩,
  ⟨(some 43), .load1 (.tmp 42), none⟩,
  ⟨(some 44), .loadN 5 (.tmp 3), none⟩,
  ⟨(some 45), .buildSlice 77 1 [(.int .i64 (.ofNat 0)), (.int .i64 (.ofNat 0)), (.int .i64 (.ofNat 0)), (.int .i64 (.ofNat 0)), (.int .i64 (.ofNat 0))] [(0, 5, (.tmp 44))], none⟩,
  ⟨(some 46), .append 77 5 40 (.tmp 43) (.tmp 45), none⟩,
  ⟨(some 47), .nilCheck (.tmp 39), none⟩,
  ⟨(some 48), .fieldAddr 0 (.tmp 47), none⟩,
  ⟨none, .store 1 (.tmp 48) (.tmp 46), none⟩] (some ⟨[], []⟩)
def f32r6 : ICode := .region [
  ⟨(some 49), .move (.tmp 0), none⟩,
  ⟨(some 50), .nilCheck (.tmp 49), none⟩,
  ⟨(some 51), .fieldAddr 0 (.tmp 50), none⟩,
  ⟨(some 52), .load1 (.tmp 51), none⟩,
  ⟨(some 53), .len 1 (.tmp 52), none⟩,
  ⟨(some 54), .bin .sub (.tmp 53) (.const (.int .i64 (.ofNat 1))), none⟩,
  ⟨(some 4), .move (.tmp 54), none⟩] none
/- (*ferret/prog.compiler).put -/
def f32 : IFn := ⟨55, [.inl 4], (.seq f32r0 (.seq (.seq f32r1 (.seq f32r2 (.cond (.tmp 23) f32r3 .skip))) (.seq f32r4 (.seq f32r5 (.seq f32r6 .ret)))))⟩
def f33r0 : ICode := .region [
  ⟨(some 2), .box 106 (.tmp 0), none⟩,
  ⟨(some 3), .box 54 (.tmp 1), none⟩] none
def f33r1 : ICode := .region [
  ⟨(some 6), .load1 (.tmp 2), none⟩,
  ⟨(some 7), .nilCheck (.tmp 6), none⟩,
  ⟨(some 8), .fieldAddr 1 (.tmp 7), none⟩,
  ⟨(some 9), .load1 (.tmp 8), none⟩] none
def f33r2 : ICode := .region [
  ⟨(some 10), .fieldAddr 0 (.tmp 3), none⟩,
  ⟨(some 11), .load1 (.tmp 10), none⟩] none
def f33r3 : ICode := .region [
  ⟨(some 18), .bin .eql (.tmp 11) (.const (.int .i64 (.ofNat 0))), none⟩,
  ⟨(some 17), .move (.tmp 18), none⟩] none
def f33r4 : ICode := .region [
  ⟨(some 20), .bin .eql (.tmp 11) (.const (.int .i64 (.ofNat 1))), none⟩,
  ⟨(some 19), .move (.tmp 20), none⟩] none
def f33r5 : ICode := .region [
  ⟨(some 21), .load1 (.tmp 2), none⟩,
  ⟨(some 22), .loadN 9 (.tmp 3), none⟩,
  ⟨(some 23), .call 49 [(.tmp 21), (.tmp 22)], none⟩] none
def f33r6 : ICode := .region [
  ⟨(some 25), .bin .eql (.tmp 11) (.const (.int .i64 (.ofNat 8))), none⟩,
  ⟨(some 24), .move (.tmp 25), none⟩] none
def f33r7 : ICode := .region [
  ⟨(some 26), .fieldAddr 8 (.tmp 3), none⟩,
  ⟨(some 27), .load1 (.tmp 26), none⟩,
  ⟨(some 28), .len 1 (.tmp 27), none⟩,
  ⟨(some 29), .move (.const (.int .i64 (.ofNat 0))), none⟩] none
def f33r8 : ICode := .region [
  ⟨(some 30), .bin .lss (.tmp 29) (.tmp 28), none⟩] none
def f33r9 : ICode := .region [
  ⟨(some 31), .indexSl 9 (.tmp 27) (.tmp 29), none⟩,
  ⟨(some 32), .loadN 9 (.tmp 31), none⟩,
  ⟨(some 5), .new [(.int .i64 (.ofNat 0)), (.slice none 0 0), (.bool false), (.int .i64 (.ofNat 0)), (.int .i64 (.ofNat 0)), (.bool false), (.int .i64 (.ofNat 0)), (.string ⟨⟨[]⟩⟩), (.slice none 0 0)] 54, none⟩,
  ⟨none, .store 9 (.tmp 5) (.tmp 32), none⟩] none
def f33r10 : ICode := .region [
  ⟨(some 33), .load1 (.tmp 2), none⟩,
  ⟨(some 34), .loadN 9 (.tmp 5), none⟩,
  ⟨(some 35), .call 33 [(.tmp 33), (.tmp 34)], none⟩] none
def f33r11 : ICode := .region [
  ⟨(some 36), .bin .add (.tmp 29) (.const (.int .i64 (.ofNat 1))), none⟩,
  ⟨(some 29), .move (.tmp 36), none⟩] none
def f33r12 : ICode := .region [
  ⟨(some 38), .bin .eql (.tmp 11) (.const (.int .i64 (.ofNat 9))), none⟩,
  ⟨(some 37), .move (.tmp 38), none⟩] none
def f33r13 : ICode := .region [
  ⟨(some 39), .load1 (.tmp 2), none⟩,
  ⟨(some 40), .fieldAddr 8 (.tmp 3), none⟩,
  ⟨(some 41), .load1 (.tmp 40), none⟩,
  ⟨(some 42), .len 1 (.tmp 41), none⟩,
  ⟨(some 43), .mkFunc (.func 51) [] [(.tmp 2), (.tmp 3)], none⟩,
  ⟨(some 44), .call 50 [(.tmp 39), (.tmp 42), (.tmp 43)], none⟩] none
def f33r14 : ICode := .region [
  ⟨(some 46), .bin .eql (.tmp 11) (.const (.int .i64 (.ofNat 10))), none⟩,
  ⟨(some 45), .move (.tmp 46), none⟩] none
def f33r15 : ICode := .region [
  ⟨(some 47), .load1 (.tmp 2), none⟩,
  ⟨(some 48), .loadN 9 (.tmp 3), none⟩,
  ⟨(some 49), .call 52 [(.tmp 47), (.tmp 48)], none⟩] none
def f33r16 : ICode := .region [
  ⟨(some 51), .bin .eql (.tmp 11) (.const (.int .i64 (.ofNat 11))), none⟩,
  ⟨(some 50), .move (.tmp 51), none⟩] none
def f33r17 : ICode := .region [
  ⟨(some 52), .load1 (.tmp 2), none⟩,
  ⟨(some 53), .fieldAddr 6 (.tmp 3), none⟩,
  ⟨(some 54), .load1 (.tmp 53), none⟩,
  ⟨(some 55), .bin .mul (.const (.int .i64 (.ofNat 2))) (.tmp 54), none⟩,
  ⟨(some 56), .build [(.int .i64 (.ofNat 0)), (.int .i64 (.ofNat 0)), (.int .i64 (.ofNat 0)), (.int .i64 (.ofNat 0)), (.int .i64 (.ofNat 0))] [(0, 1, (.const (.int .i64 (.ofNat 3)))), (2, 1, (.tmp 55))], none⟩,
  ⟨(some 57), .call 32 [(.tmp 52), (.tmp 56)], none⟩] none
def f33r18 : ICode := .region [
  ⟨(some 58), .load1 (.tmp 2), none⟩,
  ⟨(some 59), .fieldAddr 8 (.tmp 3), none⟩,
  ⟨(some 60), .load1 (.tmp 59), none⟩,
  ⟨(some 61), .indexSl 9 (.tmp 60) (.const (.int .i64 (.ofNat 0))), none⟩,
  ⟨(some 62), .loadN 9 (.tmp 61), none⟩,
  ⟨(some 63), .call 33 [(.tmp 58), (.tmp 62)], none⟩] (some ⟨[], []⟩)
def f33r19 : ICode := .region [
  ⟨(some 64), .load1 (.tmp 2), none⟩,
  ⟨(some 65), .fieldAddr 6 (.tmp 3), none⟩,
  ⟨(some 66), .load1 (.tmp 65), none⟩,
  ⟨(some 67), .bin .mul (.const (.int .i64 (.ofNat 2))) (.tmp 66), none⟩,
  ⟨(some 68), .bin .add (.tmp 67) (.const (.int .i64 (.ofNat 1))), none⟩,
  ⟨(some 69), .build [(.int .i64 (.ofNat 0)), (.int .i64 (.ofNat 0)), (.int .i64 (.ofNat 0)), (.int .i64 (.ofNat 0)), (.int .i64 (.ofNat 0))] [(0, 1, (.const (.int .i64 (.ofNat 3)))), (2, 1, (.tmp 68))], none⟩,
  ⟨(some 70), .call 32 [(.tmp 64), (.tmp 69)], none⟩] none
def f33r20 : ICode := .region [
  ⟨(some 12), .load1 (.tmp 2), none⟩,
  ⟨(some 13), .fieldAddr 0 (.tmp 3), none⟩,
  ⟨(some 14), .load1 (.tmp 13), none⟩,
  ⟨(some 15), .build [(.int .i64 (.ofNat 0)), (.int .i64 (.ofNat 0)), (.int .i64 (.ofNat 0)), (.int .i64 (.ofNat 0)), (.int .i64 (.ofNat 0))] [(0, 1, (.const (.int .i64 (.ofNat 4)))), (2, 1, (.tmp 14))], none⟩,
  ⟨(some 16), .call 32 [(.tmp 12), (.tmp 15)], none⟩] none
/- (*ferret/prog.compiler).node -/
def f33 : IFn := ⟨71, [], (.seq f33r0 (.seq (.seq f33r1 (.cond (.tmp 9) .ret .skip)) (.seq f33r2 (.block 0 (.seq f33r3 (.cond (.tmp 17) .skip (.seq f33r4 (.cond (.tmp 19) f33r5 (.seq f33r6 (.cond (.tmp 24) (.seq f33r7 (.block 1 (.loop (.seq f33r8 (.seq (.cond (.tmp 30) .skip (.exit 1)) (.seq (.block 2 (.seq f33r9 f33r10)) f33r11)))))) (.seq f33r12 (.cond (.tmp 37) f33r13 (.seq f33r14 (.cond (.tmp 45) f33r15 (.seq f33r16 (.cond (.tmp 50) (.seq f33r17 (.seq f33r18 f33r19)) f33r20))))))))))))))))⟩
def f34r0 : ICode := .region [
  ⟨(some 6), .move (.const (.bool false)), none⟩] none
def f34r1 : ICode := .region [
  ⟨(some 7), .move (.tmp 2), none⟩,
  ⟨(some 8), .bin .lss (.tmp 7) (.const (.int .i64 (.ofNat 0))), none⟩,
  ⟨(some 9), .move (.tmp 8), none⟩,
  ⟨(some 10), .move (.tmp 2), (some ((some 9), false))⟩,
  ⟨(some 11), .move (.tmp 1), (some ((some 9), false))⟩,
  ⟨(some 12), .len 0 (.tmp 11), (some ((some 9), false))⟩,
  ⟨(some 13), .bin .gtr (.tmp 10) (.tmp 12), (some ((some 9), false))⟩,
  ⟨(some 14), .pick (.tmp 9) (.const (.bool true)) (.tmp 13), none⟩] none
def f34r2 : ICode := .region [
  ⟨(some 6), .move (.const (.bool false)), none⟩] none
def f34r3 : ICode := .region [
  ⟨(some 15), .move (.tmp 0), none⟩] none
def f34r4 : ICode := .region [
  ⟨(some 17), .bin .eql (.tmp 15) (.const (.int .i64 (.ofNat 2))), none⟩,
  ⟨(some 16), .move (.tmp 17), none⟩] none
def f34r5 : ICode := .region [
  ⟨(some 18), .move (.tmp 2), none⟩,
  ⟨(some 19), .bin .eql (.tmp 18) (.const (.int .i64 (.ofNat 0))), none⟩,
  ⟨(some 6), .move (.tmp 19), none⟩] none
def f34r6 : ICode := .region [
  ⟨(some 21), .bin .eql (.tmp 15) (.const (.int .i64 (.ofNat 3))), none⟩,
  ⟨(some 20), .move (.tmp 21), none⟩] none
def f34r7 : ICode := .region [
  ⟨(some 22), .move (.tmp 2), none⟩,
  ⟨(some 23), .move (.tmp 1), none⟩,
  ⟨(some 24), .len 0 (.tmp 23), none⟩,
  ⟨(some 25), .bin .eql (.tmp 22) (.tmp 24), none⟩,
  ⟨(some 6), .move (.tmp 25), none⟩] none
def f34r8 : ICode := .region [
  ⟨(some 27), .bin .eql (.tmp 15) (.const (.int .i64 (.ofNat 4))), none⟩,
  ⟨(some 26), .move (.tmp 27), none⟩] none
def f34r9 : ICode := .region [
  ⟨(some 28), .move (.tmp 2), none⟩,
  ⟨(some 29), .bin .eql (.tmp 28) (.const (.int .i64 (.ofNat 0))), none⟩,
  ⟨(some 30), .move (.tmp 29), none⟩,
  ⟨(some 31), .move (.tmp 1), (some ((some 30), false))⟩,
  ⟨(some 32), .move (.tmp 2), (some ((some 30), false))⟩,
  ⟨(some 33), .bin .sub (.tmp 32) (.const (.int .i64 (.ofNat 1))), (some ((some 30), false))⟩,
  ⟨(some 34), .indexStr (.tmp 31) (.tmp 33), (some ((some 30), false))⟩,
  ⟨(some 35), .bin .eql (.tmp 34) (.const (.int .u8 (.ofNat 10))), (some ((some 30), false))⟩,
  ⟨(some 36), .pick (.tmp 30) (.const (.bool true)) (.tmp 35), none⟩,
  ⟨(some 6), .move (.tmp 36), none⟩] none
def f34r10 : ICode := .region [
  ⟨(some 38), .bin .eql (.tmp 15) (.const (.int .i64 (.ofNat 5))), none⟩,
  ⟨(some 37), .move (.tmp 38), none⟩] none
def f34r11 : ICode := .region [
  ⟨(some 39), .move (.tmp 2), none⟩,
  ⟨(some 40), .move (.tmp 1), none⟩,
  ⟨(some 41), .len 0 (.tmp 40), none⟩,
  ⟨(some 42), .bin .eql (.tmp 39) (.tmp 41), none⟩,
  ⟨(some 43), .move (.tmp 42), none⟩,
  ⟨(some 44), .move (.tmp 1), (some ((some 43), false))⟩,
  ⟨(some 45), .move (.tmp 2), (some ((some 43), false))⟩,
  ⟨(some 46), .indexStr (.tmp 44) (.tmp 45), (some ((some 43), false))⟩,
  ⟨(some 47), .bin .eql (.tmp 46) (.const (.int .u8 (.ofNat 10))), (some ((some 43), false))⟩,
  ⟨(some 48), .pick (.tmp 43) (.const (.bool true)) (.tmp 47), none⟩,
  ⟨(some 6), .move (.tmp 48), none⟩] none
def f34r12 : ICode := .region [
  ⟨(some 50), .bin .eql (.tmp 15) (.const (.int .i64 (.ofNat 6))), none⟩,
  ⟨(some 49), .move (.tmp 50), none⟩] none
def f34r13 : ICode := .region [
  ⟨(some 51), .move (.tmp 1), none⟩,
  ⟨(some 52), .move (.tmp 2), none⟩,
  ⟨(some 53), .bin .sub (.tmp 52) (.const (.int .i64 (.ofNat 1))), none⟩,
  ⟨(some 54), .call 53 [(.tmp 51), (.tmp 53)], none⟩,
  ⟨(some 55), .move (.tmp 1), none⟩,
  ⟨(some 56), .move (.tmp 2), none⟩,
  ⟨(some 57), .call 53 [(.tmp 55), (.tmp 56)], none⟩,
  ⟨(some 58), .eqB true (.tmp 54) (.tmp 57), none⟩,
  ⟨(some 6), .move (.tmp 58), none⟩] none
def f34r14 : ICode := .region [
  ⟨(some 60), .bin .eql (.tmp 15) (.const (.int .i64 (.ofNat 7))), none⟩,
  ⟨(some 59), .move (.tmp 60), none⟩] none
def f34r15 : ICode := .region [
  ⟨(some 61), .move (.tmp 1), none⟩,
  ⟨(some 62), .move (.tmp 2), none⟩,
  ⟨(some 63), .bin .sub (.tmp 62) (.const (.int .i64 (.ofNat 1))), none⟩,
  ⟨(some 64), .call 53 [(.tmp 61), (.tmp 63)], none⟩,
  ⟨(some 65), .move (.tmp 1), none⟩,
  ⟨(some 66), .move (.tmp 2), none⟩,
  ⟨(some 67), .call 53 [(.tmp 65), (.tmp 66)], none⟩,
  ⟨(some 68), .eqB false (.tmp 64) (.tmp 67), none⟩,
  ⟨(some 6), .move (.tmp 68), none⟩] none
def f34r16 : ICode := .region [
  ⟨(some 6), .move (.const (.bool false)), none⟩] none
/- ferret/prog.Holds -/
def f34 : IFn := ⟨69, [.inl 6], (.seq f34r0 (.seq (.seq f34r1 (.cond (.tmp 14) (.seq f34r2 .ret) .skip)) (.seq (.seq f34r3 (.block 0 (.seq f34r4 (.cond (.tmp 16) (.seq f34r5 .ret) (.seq f34r6 (.cond (.tmp 20) (.seq f34r7 .ret) (.seq f34r8 (.cond (.tmp 26) (.seq f34r9 .ret) (.seq f34r10 (.cond (.tmp 37) (.seq f34r11 .ret) (.seq f34r12 (.cond (.tmp 49) (.seq f34r13 .ret) (.seq f34r14 (.cond (.tmp 59) (.seq f34r15 .ret) .skip)))))))))))))) (.seq f34r16 .ret))))⟩
def f35r0 : ICode := .region [
  ⟨(some 4), .move (.const (.bool false)), none⟩] none
def f35r1 : ICode := .region [
  ⟨(some 5), .move (.tmp 0), none⟩,
  ⟨(some 6), .len 0 (.tmp 5), none⟩,
  ⟨(some 7), .move (.tmp 1), none⟩,
  ⟨(some 8), .len 0 (.tmp 7), none⟩,
  ⟨(some 9), .bin .geq (.tmp 6) (.tmp 8), none⟩,
  ⟨(some 10), .move (.tmp 9), none⟩,
  ⟨(some 11), .move (.tmp 0), (some ((some 10), true))⟩,
  ⟨(some 12), .move (.tmp 1), (some ((some 10), true))⟩,
  ⟨(some 13), .len 0 (.tmp 12), (some ((some 10), true))⟩,
  ⟨(some 14), .sliceStr (.tmp 11) none (some (.tmp 13)), (some ((some 10), true))⟩,
  ⟨(some 15), .move (.tmp 1), (some ((some 10), true))⟩,
  ⟨(some 16), .bin .eql (.tmp 14) (.tmp 15), (some ((some 10), true))⟩,
  ⟨(some 17), .pick (.tmp 10) (.tmp 16) (.const (.bool false)), none⟩,
  ⟨(some 4), .move (.tmp 17), none⟩] none
/- internal/stringslite.HasPrefix -/
def f35 : IFn := ⟨18, [.inl 4], (.seq f35r0 (.seq f35r1 .ret))⟩
def f36r0 : ICode := .region [
  ⟨(some 2), .move (.const (.int .i64 (.ofNat 0))), none⟩,
  ⟨(some 3), .move (.const (.int .i64 (.ofNat 0))), none⟩] none
def f36r1 : ICode := .region [
  ⟨(some 10), .move (.tmp 0), none⟩,
  ⟨(some 11), .indexStr (.tmp 10) (.const (.int .i64 (.ofNat 0))), none⟩,
  ⟨(some 12), .call 54 [(.tmp 11)], none⟩,
  ⟨(some 9), .move (.tmp 12), none⟩,
  ⟨(some 13), .extract (.tmp 9) 0, none⟩,
  ⟨(some 14), .extract (.tmp 9) 1, none⟩,
  ⟨(some 15), .extract (.tmp 9) 2, none⟩,
  ⟨(some 16), .extract (.tmp 9) 3, none⟩,
  ⟨(some 4), .move (.tmp 13), none⟩,
  ⟨(some 5), .move (.tmp 14), none⟩,
  ⟨(some 6), .move (.tmp 15), none⟩,
  ⟨(some 7), .move (.tmp 16), none⟩] none
def f36r2 : ICode := .region [
  ⟨(some 17), .move (.tmp 4), none⟩,
  ⟨(some 18), .bin .lss (.tmp 17) (.const (.int .i64 (.ofNat 0))), none⟩] none
def f36r3 : ICode := .region [
  ⟨(some 2), .move (.const (.int .i64 (.negSucc 0))), none⟩,
  ⟨(some 3), .move (.const (.int .i64 (.ofNat 1))), none⟩] none
def f36r4 : ICode := .region [
  ⟨(some 8), .move (.const (.int .i64 (.ofNat 1))), none⟩] none
def f36r5 : ICode := .region [
  ⟨(some 19), .move (.tmp 8), none⟩,
  ⟨(some 20), .move (.tmp 4), none⟩,
  ⟨(some 21), .bin .leq (.tmp 19) (.tmp 20), none⟩] none
def f36r6 : ICode := .region [
  ⟨(some 24), .move (.tmp 8), none⟩,
  ⟨(some 25), .move (.tmp 0), none⟩,
  ⟨(some 26), .len 0 (.tmp 25), none⟩,
  ⟨(some 27), .bin .geq (.tmp 24) (.tmp 26), none⟩,
  ⟨(some 28), .move (.tmp 27), none⟩,
  ⟨(some 29), .move (.tmp 0), (some ((some 28), false))⟩,
  ⟨(some 30), .move (.tmp 8), (some ((some 28), false))⟩,
  ⟨(some 31), .indexStr (.tmp 29) (.tmp 30), (some ((some 28), false))⟩,
  ⟨(some 32), .move (.tmp 5), (some ((some 28), false))⟩,
  ⟨(some 33), .bin .lss (.tmp 31) (.tmp 32), (some ((some 28), false))⟩,
  ⟨(some 34), .pick (.tmp 28) (.const (.bool true)) (.tmp 33), none⟩,
  ⟨(some 35), .move (.tmp 34), none⟩,
  ⟨(some 36), .move (.tmp 0), (some ((some 35), false))⟩,
  ⟨(some 37), .move (.tmp 8), (some ((some 35), false))⟩,
  ⟨(some 38), .indexStr (.tmp 36) (.tmp 37), (some ((some 35), false))⟩,
  ⟨(some 39), .move (.tmp 6), (some ((some 35), false))⟩,
  ⟨(some 40), .bin .gtr (.tmp 38) (.tmp 39), (some ((some 35), false))⟩,
  ⟨(some 41), .pick (.tmp 35) (.const (.bool true)) (.tmp 40), none⟩] none
def f36r7 : ICode := .region [
  ⟨(some 42), .move (.tmp 8), none⟩,
  ⟨(some 2), .move (.const (.int .i64 (.negSucc 0))), none⟩,
  ⟨(some 3), .move (.tmp 42), none⟩] none
def f36r8 : ICode := .region [
  ⟨(some 43), .move (.tmp 7), none⟩,
  ⟨(some 44), .bin .shl (.tmp 43) (.const (.int .u64 (.ofNat 6))), none⟩,
  ⟨(some 45), .move (.tmp 0), none⟩,
  ⟨(some 46), .move (.tmp 8), none⟩,
  ⟨(some 47), .indexStr (.tmp 45) (.tmp 46), none⟩,
  ⟨(some 48), .bin .and (.tmp 47) (.const (.int .u8 (.ofNat 63))), none⟩,
  ⟨(some 49), .conv .i64 (.tmp 48), none⟩,
  ⟨(some 50), .bin .or (.tmp 44) (.tmp 49), none⟩,
  ⟨(some 7), .move (.tmp 50), none⟩] none
def f36r9 : ICode := .region [
  ⟨(some 5), .move (.const (.int .u8 (.ofNat 128))), none⟩,
  ⟨(some 6), .move (.const (.int .u8 (.ofNat 191))), none⟩] none
def f36r10 : ICode := .region [
  ⟨(some 22), .move (.tmp 8), none⟩,
  ⟨(some 23), .bin .add (.tmp 22) (.const (.int .i64 (.ofNat 1))), none⟩,
  ⟨(some 8), .move (.tmp 23), none⟩] none
def f36r11 : ICode := .region [
  ⟨(some 51), .move (.tmp 7), none⟩,
  ⟨(some 52), .move (.tmp 4), none⟩,
  ⟨(some 53), .bin .add (.tmp 52) (.const (.int .i64 (.ofNat 1))), none⟩,
  ⟨(some 2), .move (.tmp 51), none⟩,
  ⟨(some 3), .move (.tmp 53), none⟩] none
/- ferret/coding.utf8 -/
def f36 : IFn := ⟨54, [.inl 2, .inl 3], (.seq f36r0 (.seq f36r1 (.seq (.seq f36r2 (.cond (.tmp 18) (.seq f36r3 .ret) .skip)) (.seq (.seq f36r4 (.block 0 (.loop (.seq (.seq f36r5 (.cond (.tmp 21) .skip (.exit 0))) (.seq (.block 1 (.seq (.seq f36r6 (.cond (.tmp 41) (.seq f36r7 .ret) .skip)) (.seq f36r8 f36r9))) f36r10))))) (.seq f36r11 .ret)))))⟩
def f37r0 : ICode := .region [
  ⟨(some 2), .move (.const (.int .i64 (.ofNat 0))), none⟩,
  ⟨(some 3), .move (.const (.int .i64 (.ofNat 0))), none⟩] none
def f37r1 : ICode := .region [
  ⟨(some 4), .move (.tmp 0), none⟩,
  ⟨(some 5), .call 38 [(.tmp 4), (.const (.bool false))], none⟩,
  ⟨(some 6), .extract (.tmp 5) 0, none⟩,
  ⟨(some 7), .extract (.tmp 5) 1, none⟩,
  ⟨(some 2), .move (.tmp 6), none⟩,
  ⟨(some 3), .move (.tmp 7), none⟩] none
/- ferret/coding.scalarOf$1 -/
def f37 : IFn := ⟨8, [.inl 2, .inl 3], (.seq f37r0 (.seq f37r1 .ret))⟩
def f39r0 : ICode := .region [
  ⟨(some 2), .move (.const (.int .i64 (.ofNat 0))), none⟩,
  ⟨(some 3), .move (.const (.int .i64 (.ofNat 0))), none⟩] none
def f39r1 : ICode := .region [
  ⟨(some 4), .move (.tmp 0), none⟩,
  ⟨(some 5), .call 38 [(.tmp 4), (.const (.bool true))], none⟩,
  ⟨(some 6), .extract (.tmp 5) 0, none⟩,
  ⟨(some 7), .extract (.tmp 5) 1, none⟩,
  ⟨(some 2), .move (.tmp 6), none⟩,
  ⟨(some 3), .move (.tmp 7), none⟩] none
/- ferret/coding.scalarOf$2 -/
def f39 : IFn := ⟨8, [.inl 2, .inl 3], (.seq f39r0 (.seq f39r1 .ret))⟩
def f40r0 : ICode := .region [
  ⟨(some 2), .move (.const (.int .i64 (.ofNat 0))), none⟩,
  ⟨(some 3), .move (.const (.int .i64 (.ofNat 0))), none⟩] none
def f40r1 : ICode := .region [
  ⟨(some 4), .move (.tmp 0), none⟩,
  ⟨(some 5), .indexStr (.tmp 4) (.const (.int .i64 (.ofNat 0))), none⟩,
  ⟨(some 6), .conv .i64 (.tmp 5), none⟩,
  ⟨(some 2), .move (.tmp 6), none⟩,
  ⟨(some 3), .move (.const (.int .i64 (.ofNat 1))), none⟩] none
/- ferret/coding.latin -/
def f40 : IFn := ⟨7, [.inl 2, .inl 3], (.seq f40r0 (.seq f40r1 .ret))⟩
def f41r0 : ICode := .region [
  ⟨(some 4), .load1 (.tmp 1), none⟩,
  ⟨(some 5), .bin .eql (.tmp 4) (.const (.int .i64 (.ofNat 3))), none⟩] none
def f41r1 : ICode := .region [
  ⟨(some 6), .load1 (.tmp 2), none⟩,
  ⟨(some 7), .move (.tmp 0), none⟩,
  ⟨(some 8), .bin .shr (.tmp 7) (.const (.int .u64 (.ofNat 8))), none⟩,
  ⟨(some 9), .conv .u8 (.tmp 8), none⟩,
  ⟨(some 10), .move (.tmp 0), none⟩,
  ⟨(some 11), .conv .u8 (.tmp 10), none⟩,
  ⟨(some 12), .buildSlice 5 2 [(.int .u8 (.ofNat 0)), (.int .u8 (.ofNat 0))] [(0, 1, (.tmp 9)), (1, 1, (.tmp 11))], none⟩,
  ⟨(some 13), .append 5 1 1 (.tmp 6) (.tmp 12), none⟩,
  ⟨none, .store 1 (.tmp 2) (.tmp 13), none⟩] none
def f41r2 : ICode := .region [
  ⟨(some 14), .load1 (.tmp 2), none⟩,
  ⟨(some 15), .move (.tmp 0), none⟩,
  ⟨(some 16), .conv .u8 (.tmp 15), none⟩,
  ⟨(some 17), .move (.tmp 0), none⟩,
  ⟨(some 18), .bin .shr (.tmp 17) (.const (.int .u64 (.ofNat 8))), none⟩,
  ⟨(some 19), .conv .u8 (.tmp 18), none⟩,
  ⟨(some 20), .buildSlice 5 2 [(.int .u8 (.ofNat 0)), (.int .u8 (.ofNat 0))] [(0, 1, (.tmp 16)), (1, 1, (.tmp 19))], none⟩,
  ⟨(some 21), .append 5 1 1 (.tmp 14) (.tmp 20), none⟩,
  ⟨none, .store 1 (.tmp 2) (.tmp 21), none⟩] none
/- ferret/coding.put$1 -/
def f41 : IFn := ⟨22, [], (.seq f41r0 (.cond (.tmp 5) f41r1 f41r2))⟩
def f42r0 : ICode := .region [
  ⟨(some 6), .move (.const (.string ⟨⟨[]⟩⟩)), none⟩] none
def f42r1 : ICode := .region [
  ⟨(some 10), .move (.tmp 1), none⟩,
  ⟨(some 11), .conv .u8 (.tmp 10), none⟩,
  ⟨(some 12), .buildSlice 5 2 [(.int .u8 (.ofNat 0)), (.int .u8 (.ofNat 0))] [(0, 1, (.tmp 11)), (1, 1, (.const (.int .u8 (.ofNat 0))))], none⟩,
  ⟨(some 7), .move (.tmp 12), none⟩] none
def f42r2 : ICode := .region [
  ⟨(some 13), .move (.tmp 2), none⟩] none
def f42r3 : ICode := .region [
  ⟨(some 14), .move (.tmp 7), none⟩,
  ⟨(some 15), .indexSl 1 (.tmp 14) (.const (.int .i64 (.ofNat 1))), none⟩,
  ⟨none, .store 1 (.tmp 15) (.const (.int .u8 (.ofNat 1))), none⟩] none
def f42r4 : ICode := .region [
  ⟨(some 16), .move (.tmp 0), none⟩,
  ⟨(some 17), .len 1 (.tmp 16), none⟩,
  ⟨(some 18), .move (.const (.int .i64 (.ofNat 0))), none⟩] none
def f42r5 : ICode := .region [
  ⟨(some 19), .bin .lss (.tmp 18) (.tmp 17), none⟩] none
def f42r6 : ICode := .region [
  ⟨(some 20), .indexSl 1 (.tmp 16) (.tmp 18), none⟩,
  ⟨(some 21), .load1 (.tmp 20), none⟩,
  ⟨(some 9), .move (.tmp 21), none⟩] none
def f42r7 : ICode := .region [
  ⟨(some 22), .move (.tmp 7), none⟩,
  ⟨(some 23), .move (.tmp 9), none⟩,
  ⟨(some 24), .conv .u8 (.tmp 23), none⟩,
  ⟨(some 25), .move (.tmp 9), none⟩,
  ⟨(some 26), .bin .shr (.tmp 25) (.const (.int .u64 (.ofNat 8))), none⟩,
  ⟨(some 27), .conv .u8 (.tmp 26), none⟩,
  ⟨(some 28), .buildSlice 5 2 [(.int .u8 (.ofNat 0)), (.int .u8 (.ofNat 0))] [(0, 1, (.tmp 24)), (1, 1, (.tmp 27))], none⟩,
  ⟨(some 29), .append 5 1 1 (.tmp 22) (.tmp 28), none⟩,
  ⟨(some 7), .move (.tmp 29), none⟩] none
def f42r8 : ICode := .region [
  ⟨(some 30), .bin .add (.tmp 18) (.const (.int .i64 (.ofNat 1))), none⟩,
  ⟨(some 18), .move (.tmp 30), none⟩] none
def f42r9 : ICode := .region [
  ⟨(some 31), .move (.tmp 7), none⟩,
  ⟨(some 32), .bytesToStr (.tmp 31), none⟩,
  ⟨(some 6), .move (.tmp 32), none⟩] none
/- ferret/dfa.key -/
def f42 : IFn := ⟨33, [.inl 6], (.seq f42r0 (.seq f42r1 (.seq (.seq f42r2 (.cond (.tmp 13) f42r3 .skip)) (.seq (.seq f42r4 (.block 0 (.loop (.seq f42r5 (.seq (.cond (.tmp 19) .skip (.exit 0)) (.seq (.block 1 (.seq f42r6 f42r7)) f42r8)))))) (.seq f42r9 .ret)))))⟩
def f43r0 : ICode := .region [
  ⟨(some 4), .move (.const (.bool false)), none⟩] none
def f43r1 : ICode := .region [
  ⟨(some 7), .move (.tmp 1), none⟩,
  ⟨(some 8), .buildSlice 3 1 [(.int .i64 (.ofNat 0))] [(0, 1, (.tmp 7))], none⟩,
  ⟨(some 5), .move (.tmp 8), none⟩] none
def f43r2 : ICode := .region [
  ⟨(some 9), .move (.tmp 5), none⟩,
  ⟨(some 10), .len 1 (.tmp 9), none⟩,
  ⟨(some 11), .bin .eql (.tmp 10) (.const (.int .i64 (.ofNat 0))), none⟩] none
def f43r3 : ICode := .region [
  ⟨(some 4), .move (.const (.bool true)), none⟩] none
def f43r4 : ICode := .region [
  ⟨(some 12), .move (.tmp 5), none⟩,
  ⟨(some 13), .move (.tmp 5), none⟩,
  ⟨(some 14), .len 1 (.tmp 13), none⟩,
  ⟨(some 15), .bin .sub (.tmp 14) (.const (.int .i64 (.ofNat 1))), none⟩,
  ⟨(some 16), .indexSl 1 (.tmp 12) (.tmp 15), none⟩,
  ⟨(some 17), .load1 (.tmp 16), none⟩,
  ⟨(some 1), .move (.tmp 17), none⟩] none
def f43r5 : ICode := .region [
  ⟨(some 18), .move (.tmp 5), none⟩,
  ⟨(some 19), .move (.tmp 5), none⟩,
  ⟨(some 20), .len 1 (.tmp 19), none⟩,
  ⟨(some 21), .bin .sub (.tmp 20) (.const (.int .i64 (.ofNat 1))), none⟩,
  ⟨(some 22), .sliceSl 1 (.tmp 18) none (some (.tmp 21)), none⟩,
  ⟨(some 5), .move (.tmp 22), none⟩] none
def f43r6 : ICode := .region [
  ⟨(some 23), .move (.tmp 0), none⟩,
  ⟨(some 24), .nilCheck (.tmp 23), none⟩,
  ⟨(some 25), .fieldAddr 3 (.tmp 24), none⟩,
  ⟨(some 26), .load1 (.tmp 25), none⟩,
  ⟨(some 27), .move (.tmp 1), none⟩,
  ⟨(some 28), .indexSl 1 (.tmp 26) (.tmp 27), none⟩,
  ⟨(some 29), .load1 (.tmp 28), none⟩,
  ⟨(some 30), .un .not (.tmp 29), none⟩] none
def f43r7 : ICode := .region [
  ⟨(some 31), .move (.tmp 0), none⟩,
  ⟨(some 32), .nilCheck (.tmp 31), none⟩,
  ⟨(some 33), .fieldAddr 3 (.tmp 32), none⟩,
  ⟨(some 34), .load1 (.tmp 33), none⟩,
  ⟨(some 35), .move (.tmp 1), none⟩,
  ⟨(some 36), .indexSl 1 (.tmp 34) (.tmp 35), none⟩,
  ⟨none, .store 1 (.tmp 36) (.const (.bool true)), none⟩] none
def f43r8 : ICode := .region [
  ⟨(some 37), .move (.tmp 0), none⟩,
  ⟨(some 38), .nilCheck (.tmp 37), none⟩,
  ⟨(some 39), .fieldAddr 0 (.tmp 38), none⟩,
  ⟨(some 40), .load1 (.tmp 39), none⟩,
  ⟨(some 41), .nilCheck (.tmp 40), none⟩,
  ⟨(some 42), .fieldAddr 0 (.tmp 41), none⟩,
  ⟨(some 43), .fieldAddr 0 (.tmp 42), none⟩,
  ⟨(some 44), .load1 (.tmp 43), none⟩,
  ⟨(some 45), .move (.tmp 1), none⟩,
  ⟨(some 46), .indexSl 5 (.tmp 44) (.tmp 45), none⟩,
  ⟨(some 47), .loadN 5 (.tmp 46), none⟩,
  ⟨(some 6), .new [(.int .i64 (.ofNat 0)), (.int .i64 (.ofNat 0)), (.int .i64 (.ofNat 0)), (.int .i64 (.ofNat 0)), (.int .i64 (.ofNat 0))] 77, none⟩,
  ⟨none, .store 5 (.tmp 6) (.tmp 47), none⟩] none
def f43r9 : ICode := .region [
  ⟨(some 48), .fieldAddr 0 (.tmp 6), none⟩,
  ⟨(some 49), .load1 (.tmp 48), none⟩] none
def f43r10 : ICode := .region [
  ⟨(some 51), .bin .eql (.tmp 49) (.const (.int .i64 (.ofNat 0))), none⟩,
  ⟨(some 50), .move (.tmp 51), none⟩] none
def f43r11 : ICode := .region [
  ⟨(some 52), .move (.tmp 0), none⟩,
  ⟨(some 53), .move (.tmp 0), none⟩,
  ⟨(some 54), .nilCheck (.tmp 53), none⟩,
  ⟨(some 55), .fieldAddr 4 (.tmp 54), none⟩,
  ⟨(some 56), .load1 (.tmp 55), none⟩,
  ⟨(some 57), .move (.tmp 1), none⟩,
  ⟨(some 58), .buildSlice 3 1 [(.int .i64 (.ofNat 0))] [(0, 1, (.tmp 57))], none⟩,
  ⟨(some 59), .append 3 1 8 (.tmp 56) (.tmp 58), none⟩,
  ⟨(some 60), .nilCheck (.tmp 52), none⟩,
  ⟨(some 61), .fieldAddr 4 (.tmp 60), none⟩,
  ⟨none, .store 1 (.tmp 61) (.tmp 59), none⟩] none
def f43r12 : ICode := .region [
  ⟨(some 63), .bin .eql (.tmp 49) (.const (.int .i64 (.ofNat 5))), none⟩,
  ⟨(some 62), .move (.tmp 63), none⟩] none
def f43r13 : ICode := .region [
  ⟨(some 64), .move (.tmp 0), none⟩,
  ⟨(some 65), .nilCheck (.tmp 64), none⟩,
  ⟨(some 66), .fieldAddr 5 (.tmp 65), none⟩,
  ⟨none, .store 1 (.tmp 66) (.const (.bool true)), none⟩] none
def f43r14 : ICode := .region [
  ⟨(some 4), .move (.const (.bool false)), none⟩] none
def f43r15 : ICode := .region [
  ⟨(some 68), .bin .eql (.tmp 49) (.const (.int .i64 (.ofNat 6))), none⟩,
  ⟨(some 67), .move (.tmp 68), none⟩] none
def f43r16 : ICode := .region [
  ⟨(some 70), .bin .eql (.tmp 49) (.const (.int .i64 (.ofNat 1))), none⟩,
  ⟨(some 69), .move (.tmp 70), none⟩] none
def f43r17 : ICode := .region [
  ⟨(some 71), .move (.tmp 5), none⟩,
  ⟨(some 72), .fieldAddr 2 (.tmp 6), none⟩,
  ⟨(some 73), .load1 (.tmp 72), none⟩,
  ⟨(some 74), .buildSlice 3 1 [(.int .i64 (.ofNat 0))] [(0, 1, (.tmp 73))], none⟩,
  ⟨(some 75), .append 3 1 8 (.tmp 71) (.tmp 74), none⟩,
  ⟨(some 5), .move (.tmp 75), none⟩] none
def f43r18 : ICode := .region [
  ⟨(some 77), .bin .eql (.tmp 49) (.const (.int .i64 (.ofNat 4))), none⟩,
  ⟨(some 76), .move (.tmp 77), none⟩] none
def f43r19 : ICode := .region [
  ⟨(some 78), .fieldAddr 2 (.tmp 6), none⟩,
  ⟨(some 79), .load1 (.tmp 78), none⟩,
  ⟨(some 80), .move (.tmp 0), none⟩,
  ⟨(some 81), .nilCheck (.tmp 80), none⟩,
  ⟨(some 82), .fieldAddr 1 (.tmp 81), none⟩,
  ⟨(some 83), .load1 (.tmp 82), none⟩,
  ⟨(some 84), .move (.tmp 0), none⟩,
  ⟨(some 85), .nilCheck (.tmp 84), none⟩,
  ⟨(some 86), .fieldAddr 2 (.tmp 85), none⟩,
  ⟨(some 87), .load1 (.tmp 86), none⟩,
  ⟨(some 88), .call 56 [(.tmp 79), (.tmp 83), (.tmp 87)], none⟩,
  ⟨(some 89), .un .not (.tmp 88), none⟩] (some ⟨[], []⟩)
def f43r20 : ICode := .region [
  ⟨(some 90), .fieldAddr 1 (.tmp 6), none⟩,
  ⟨(some 91), .load1 (.tmp 90), none⟩,
  ⟨(some 1), .move (.tmp 91), none⟩] none
def f43r21 : ICode := .region [
  ⟨(some 7), .move (.tmp 1), none⟩,
  ⟨(some 8), .buildSlice 3 1 [(.int .i64 (.ofNat 0))] [(0, 1, (.tmp 7))], none⟩,
  ⟨(some 5), .move (.tmp 8), none⟩] none
def f43r22 : ICode := .region [
  ⟨(some 9), .move (.tmp 5), none⟩,
  ⟨(some 10), .len 1 (.tmp 9), none⟩,
  ⟨(some 11), .bin .eql (.tmp 10) (.const (.int .i64 (.ofNat 0))), none⟩] none
def f43r23 : ICode := .region [
  ⟨(some 4), .move (.const (.bool true)), none⟩] none
def f43r24 : ICode := .region [
  ⟨(some 12), .move (.tmp 5), none⟩,
  ⟨(some 13), .move (.tmp 5), none⟩,
  ⟨(some 14), .len 1 (.tmp 13), none⟩,
  ⟨(some 15), .bin .sub (.tmp 14) (.const (.int .i64 (.ofNat 1))), none⟩,
  ⟨(some 16), .indexSl 1 (.tmp 12) (.tmp 15), none⟩,
  ⟨(some 17), .load1 (.tmp 16), none⟩,
  ⟨(some 1), .move (.tmp 17), none⟩] none
def f43r25 : ICode := .region [
  ⟨(some 18), .move (.tmp 5), none⟩,
  ⟨(some 19), .move (.tmp 5), none⟩,
  ⟨(some 20), .len 1 (.tmp 19), none⟩,
  ⟨(some 21), .bin .sub (.tmp 20) (.const (.int .i64 (.ofNat 1))), none⟩,
  ⟨(some 22), .sliceSl 1 (.tmp 18) none (some (.tmp 21)), none⟩,
  ⟨(some 5), .move (.tmp 22), none⟩] none
def f43r26 : ICode := .region [
  ⟨(some 23), .move (.tmp 0), none⟩,
  ⟨(some 24), .nilCheck (.tmp 23), none⟩,
  ⟨(some 25), .fieldAddr 3 (.tmp 24), none⟩,
  ⟨(some 26), .load1 (.tmp 25), none⟩,
  ⟨(some 27), .move (.tmp 1), none⟩,
  ⟨(some 28), .indexSl 1 (.tmp 26) (.tmp 27), none⟩,
  ⟨(some 29), .load1 (.tmp 28), none⟩,
  ⟨(some 30), .un .not (.tmp 29), none⟩] none
def f43r27 : ICode := .region [
  ⟨(some 31), .move (.tmp 0), none⟩,
  ⟨(some 32), .nilCheck (.tmp 31), none⟩,
  ⟨(some 33), .fieldAddr 3 (.tmp 32), none⟩,
  ⟨(some 34), .load1 (.tmp 33), none⟩,
  ⟨(some 35), .move (.tmp 1), none⟩,
  ⟨(some 36), .indexSl 1 (.tmp 34) (.tmp 35), none⟩,
  ⟨none, .store 1 (.tmp 36) (.const (.bool true)), none⟩] none
def f43r28 : ICode := .region [
  ⟨(some 37), .move (.tmp 0), none⟩,
  ⟨(some 38), .nilCheck (.tmp 37), none⟩,
  ⟨(some 39), .fieldAddr 0 (.tmp 38), none⟩,
  ⟨(some 40), .load1 (.tmp 39), none⟩,
  ⟨(some 41), .nilCheck (.tmp 40), none⟩,
  ⟨(some 42), .fieldAddr 0 (.tmp 41), none⟩,
  ⟨(some 43), .fieldAddr 0 (.tmp 42), none⟩,
  ⟨(some 44), .load1 (.tmp 43), none⟩,
  ⟨(some 45), .move (.tmp 1), none⟩,
  ⟨(some 46), .indexSl 5 (.tmp 44) (.tmp 45), none⟩,
  ⟨(some 47), .loadN 5 (.tmp 46), none⟩,
  ⟨(some 6), .new [(.int .i64 (.ofNat 0)), (.int .i64 (.ofNat 0)), (.int .i64 (.ofNat 0)), (.int .i64 (.ofNat 0)), (.int .i64 (.ofNat 0))] 77, none⟩,
  ⟨none, .store 5 (.tmp 6) (.tmp 47), none⟩] none
def f43r29 : ICode := .region [
  ⟨(some 48), .fieldAddr 0 (.tmp 6), none⟩,
  ⟨(some 49), .load1 (.tmp 48), none⟩] none
def f43r30 : ICode := .region [
  ⟨(some 51), .bin .eql (.tmp 49) (.const (.int .i64 (.ofNat 0))), none⟩,
  ⟨(some 50), .move (.tmp 51), none⟩] none
def f43r31 : ICode := .region [
  ⟨(some 52), .move (.tmp 0), none⟩,
  ⟨(some 53), .move (.tmp 0), none⟩,
  ⟨(some 54), .nilCheck (.tmp 53), none⟩,
  ⟨(some 55), .fieldAddr 4 (.tmp 54), none⟩,
  ⟨(some 56), .load1 (.tmp 55), none⟩,
  ⟨(some 57), .move (.tmp 1), none⟩,
  ⟨(some 58), .buildSlice 3 1 [(.int .i64 (.ofNat 0))] [(0, 1, (.tmp 57))], none⟩,
  ⟨(some 59), .append 3 1 8 (.tmp 56) (.tmp 58), none⟩,
  ⟨(some 60), .nilCheck (.tmp 52), none⟩,
  ⟨(some 61), .fieldAddr 4 (.tmp 60), none⟩,
  ⟨none, .store 1 (.tmp 61) (.tmp 59), none⟩] none
def f43r32 : ICode := .region [
  ⟨(some 63), .bin .eql (.tmp 49) (.const (.int .i64 (.ofNat 5))), none⟩,
  ⟨(some 62), .move (.tmp 63), none⟩] none
def f43r33 : ICode := .region [
  ⟨(some 64), .move (.tmp 0), none⟩,
  ⟨(some 65), .nilCheck (.tmp 64), none⟩,
  ⟨(some 66), .fieldAddr 5 (.tmp 65), none⟩,
  ⟨none, .store 1 (.tmp 66) (.const (.bool true)), none⟩] none
def f43r34 : ICode := .region [
  ⟨(some 4), .move (.const (.bool false)), none⟩] none
def f43r35 : ICode := .region [
  ⟨(some 68), .bin .eql (.tmp 49) (.const (.int .i64 (.ofNat 6))), none⟩,
  ⟨(some 67), .move (.tmp 68), none⟩] none
def f43r36 : ICode := .region [
  ⟨(some 70), .bin .eql (.tmp 49) (.const (.int .i64 (.ofNat 1))), none⟩,
  ⟨(some 69), .move (.tmp 70), none⟩] none
def f43r37 : ICode := .region [
  ⟨(some 71), .move (.tmp 5), none⟩,
  ⟨(some 72), .fieldAddr 2 (.tmp 6), none⟩,
  ⟨(some 73), .load1 (.tmp 72), none⟩,
  ⟨(some 74), .buildSlice 3 1 [(.int .i64 (.ofNat 0))] [(0, 1, (.tmp 73))], none⟩,
  ⟨(some 75), .append 3 1 8 (.tmp 71) (.tmp 74), none⟩,
  ⟨(some 5), .move (.tmp 75), none⟩] none
def f43r38 : ICode := .region [
  ⟨(some 77), .bin .eql (.tmp 49) (.const (.int .i64 (.ofNat 4))), none⟩,
  ⟨(some 76), .move (.tmp 77), none⟩] none
def f43r39 : ICode := .region [
  ⟨(some 78), .fieldAddr 2 (.tmp 6), none⟩,
  ⟨(some 79), .load1 (.tmp 78), none⟩,
  ⟨(some 80), .move (.tmp 0), none⟩,
  ⟨(some 81), .nilCheck (.tmp 80), none⟩,
  ⟨(some 82), .fieldAddr 1 (.tmp 81), none⟩,
  ⟨(some 83), .load1 (.tmp 82), none⟩,
  ⟨(some 84), .move (.tmp 0), none⟩,
  ⟨(some 85), .nilCheck (.tmp 84), none⟩,
  ⟨(some 86), .fieldAddr 2 (.tmp 85), none⟩,
  ⟨(some 87), .load1 (.tmp 86), none⟩,
  ⟨(some 88), .call 56 [(.tmp 79), (.tmp 83), (.tmp 87)], none⟩,
  ⟨(some 89), .un .not (.tmp 88), none⟩] (some ⟨[], []⟩)
def f43r40 : ICode := .region [
  ⟨(some 90), .fieldAddr 1 (.tmp 6), none⟩,
  ⟨(some 91), .load1 (.tmp 90), none⟩,
  ⟨(some 1), .move (.tmp 91), none⟩] none
/- (*ferret/dfa.walk).spread -/
def f43 : IFn := ⟨92, [.inl 4], (.seq f43r0 (.within (.seq f43r1 (.seq (.label 0) (.seq (.seq f43r2 (.cond (.tmp 11) (.seq f43r3 .ret) .skip)) (.seq f43r4 (.seq f43r5 (.seq (.block 0 (.loop (.seq (.seq f43r6 (.cond (.tmp 30) .skip (.exit 0))) (.block 1 (.seq f43r7 (.seq f43r8 (.seq (.seq f43r9 (.block 2 (.seq f43r10 (.cond (.tmp 50) (.seq f43r11 (.goto 0)) (.seq f43r12 (.cond (.tmp 62) (.seq f43r13 (.seq f43r14 .ret)) (.seq f43r15 (.cond (.tmp 67) (.goto 0) (.seq f43r16 (.cond (.tmp 69) f43r17 (.seq f43r18 (.cond (.tmp 76) (.seq f43r19 (.cond (.tmp 89) (.goto 0) .skip)) .skip)))))))))))) f43r20))))))) (.goto 0))))))) (.seq f43r21 (.seq (.label 0) (.seq (.seq f43r22 (.cond (.tmp 11) (.seq f43r23 .ret) .skip)) (.seq f43r24 (.seq f43r25 (.seq (.block 0 (.loop (.seq (.seq f43r26 (.cond (.tmp 30) .skip (.exit 0))) (.block 1 (.seq f43r27 (.seq f43r28 (.seq (.seq f43r29 (.block 2 (.seq f43r30 (.cond (.tmp 50) (.seq f43r31 (.goto 0)) (.seq f43r32 (.cond (.tmp 62) (.seq f43r33 (.seq f43r34 .ret)) (.seq f43r35 (.cond (.tmp 67) (.goto 0) (.seq f43r36 (.cond (.tmp 69) f43r37 (.seq f43r38 (.cond (.tmp 76) (.seq f43r39 (.cond (.tmp 89) (.goto 0) .skip)) .skip)))))))))))) f43r40))))))) (.goto 0)))))))))⟩
def f44r0 : ICode := .region [
  ⟨(some 2), .new [(.int .i64 (.ofNat 0)), (.slice none 0 0), (.bool false), (.int .i64 (.ofNat 0)), (.int .i64 (.ofNat 0)), (.bool false), (.int .i64 (.ofNat 0)), (.string ⟨⟨[]⟩⟩), (.slice none 0 0)] 54, none⟩] none
def f44r1 : ICode := .region [
  ⟨(some 3), .move (.const (.slice none 0 0)), none⟩] none
def f44r2 : ICode := .region [
  ⟨(some 4), .move (.const (.bool false)), none⟩] none
def f44r3 : ICode := .region [
  ⟨(some 13), .move (.tmp 0), none⟩,
  ⟨(some 14), .nilCheck (.tmp 13), none⟩,
  ⟨(some 15), .fieldAddr 4 (.tmp 14), none⟩,
  ⟨(some 16), .load1 (.tmp 15), none⟩,
  ⟨(some 5), .move (.tmp 16), none⟩] none
def f44r4 : ICode := .region [
  ⟨(some 17), .move (.tmp 0), none⟩,
  ⟨(some 18), .call 57 [(.tmp 17), (.const (.int .i64 (.ofNat 0)))], none⟩,
  ⟨(some 6), .move (.tmp 18), none⟩] none
def f44r5 : ICode := .region [
  ⟨(some 19), .move (.tmp 6), none⟩] none
def f44r6 : ICode := .region [
  ⟨(some 21), .bin .eql (.tmp 19) (.const (.int .i64 (.negSucc 0))), none⟩,
  ⟨(some 20), .move (.tmp 21), none⟩] none
def f44r7 : ICode := .region [
  ⟨(some 22), .bin .eql (.tmp 19) (.const (.int .i64 (.ofNat 124))), none⟩,
  ⟨(some 20), .move (.tmp 22), none⟩] none
def f44r8 : ICode := .region [
  ⟨(some 23), .move (.tmp 3), none⟩,
  ⟨(some 24), .call 46 [(.const (.int .i64 (.ofNat 8))), (.tmp 23)], none⟩,
  ⟨none, .store 9 (.tmp 2) (.tmp 24), none⟩] none
def f44r9 : ICode := .region [
  ⟨(some 26), .bin .eql (.tmp 19) (.const (.int .i64 (.ofNat 41))), none⟩,
  ⟨(some 25), .move (.tmp 26), none⟩] none
def f44r10 : ICode := .region [
  ⟨(some 27), .move (.tmp 0), none⟩,
  ⟨(some 28), .nilCheck (.tmp 27), none⟩,
  ⟨(some 29), .fieldAddr 5 (.tmp 28), none⟩,
  ⟨(some 30), .load1 (.tmp 29), none⟩,
  ⟨(some 31), .len 1 (.tmp 30), none⟩,
  ⟨(some 32), .bin .eql (.tmp 31) (.const (.int .i64 (.ofNat 0))), none⟩] none
def f44r11 : ICode := .region [
  ⟨(some 33), .move (.tmp 0), none⟩,
  ⟨(some 34), .move (.tmp 0), none⟩,
  ⟨(some 35), .nilCheck (.tmp 34), none⟩,
  ⟨(some 36), .fieldAddr 4 (.tmp 35), none⟩,
  ⟨(some 37), .load1 (.tmp 36), none⟩,
  ⟨(some 38), .call 58 [(.tmp 33), (.const (.int .i64 (.ofNat 25))), (.tmp 37)], none⟩] none
def f44r12 : ICode := .region [
  ⟨(some 39), .move (.tmp 3), none⟩,
  ⟨(some 40), .call 46 [(.const (.int .i64 (.ofNat 8))), (.tmp 39)], none⟩,
  ⟨none, .store 9 (.tmp 2) (.tmp 40), none⟩] none
def f44r13 : ICode := .region [
  ⟨(some 42), .move (.tmp 0), none⟩,
  ⟨(some 43), .call 59 [(.tmp 42)], none⟩,
  ⟨(some 41), .move (.tmp 43), none⟩,
  ⟨(some 44), .extract (.tmp 41) 0, none⟩,
  ⟨(some 45), .extract (.tmp 41) 1, none⟩,
  ⟨(some 46), .extract (.tmp 41) 2, none⟩,
  ⟨(some 7), .move (.tmp 44), none⟩,
  ⟨(some 8), .move (.tmp 45), none⟩,
  ⟨(some 9), .move (.tmp 46), none⟩] none
def f44r14 : ICode := .region [
  ⟨(some 47), .move (.tmp 9), none⟩] none
def f44r15 : ICode := .region [
  ⟨(some 48), .move (.tmp 4), none⟩,
  ⟨(some 49), .un .not (.tmp 48), none⟩] none
def f44r16 : ICode := .region [
  ⟨(some 50), .move (.tmp 0), none⟩,
  ⟨(some 51), .move (.tmp 5), none⟩,
  ⟨(some 52), .call 58 [(.tmp 50), (.const (.int .i64 (.ofNat 23))), (.tmp 51)], none⟩] none
def f44r17 : ICode := .region [
  ⟨(some 53), .move (.tmp 7), none⟩,
  ⟨(some 54), .bin .gtr (.tmp 53) (.const (.int .i64 (.ofNat 64))), none⟩,
  ⟨(some 55), .move (.tmp 54), none⟩,
  ⟨(some 56), .move (.tmp 8), (some ((some 55), false))⟩,
  ⟨(some 57), .bin .gtr (.tmp 56) (.const (.int .i64 (.ofNat 64))), (some ((some 55), false))⟩,
  ⟨(some 58), .pick (.tmp 55) (.const (.bool true)) (.tmp 57), none⟩,
  ⟨(some 59), .move (.tmp 58), none⟩,
  ⟨(some 60), .move (.tmp 8), (some ((some 59), false))⟩,
  ⟨(some 61), .bin .geq (.tmp 60) (.const (.int .i64 (.ofNat 0))), (some ((some 59), false))⟩,
  ⟨(some 62), .move (.tmp 61), (some ((some 59), false))⟩,
  ⟨(some 63), .move (.tmp 7), (some ((some 62), true))⟩,
  ⟨(some 64), .move (.tmp 8), (some ((some 62), true))⟩,
  ⟨(some 65), .bin .gtr (.tmp 63) (.tmp 64), (some ((some 62), true))⟩,
  ⟨(some 66), .pick (.tmp 62) (.tmp 65) (.const (.bool false)), (some ((some 59), false))⟩,
  ⟨(some 67), .pick (.tmp 59) (.const (.bool true)) (.tmp 66), none⟩] none
def f44r18 : ICode := .region [
  ⟨(some 68), .move (.tmp 0), none⟩,
  ⟨(some 69), .move (.tmp 5), none⟩,
  ⟨(some 70), .call 58 [(.tmp 68), (.const (.int .i64 (.ofNat 23))), (.tmp 69)], none⟩] none
def f44r19 : ICode := .region [
  ⟨(some 71), .move (.tmp 3), none⟩,
  ⟨(some 72), .move (.tmp 3), none⟩,
  ⟨(some 73), .len 1 (.tmp 72), none⟩,
  ⟨(some 74), .bin .sub (.tmp 73) (.const (.int .i64 (.ofNat 1))), none⟩,
  ⟨(some 75), .indexSl 9 (.tmp 71) (.tmp 74), none⟩,
  ⟨(some 10), .move (.tmp 75), none⟩] none
def f44r20 : ICode := .region [
  ⟨(some 76), .move (.tmp 10), none⟩,
  ⟨(some 77), .move (.tmp 7), none⟩,
  ⟨(some 78), .move (.tmp 8), none⟩,
  ⟨(some 79), .move (.tmp 0), none⟩,
  ⟨(some 80), .call 45 [(.tmp 79), (.const (.string ⟨⟨[63]⟩⟩))], none⟩,
  ⟨(some 81), .move (.tmp 0), none⟩,
  ⟨(some 82), .nilCheck (.tmp 81), none⟩,
  ⟨(some 83), .fieldAddr 7 (.tmp 82), none⟩,
  ⟨(some 84), .fieldAddr 3 (.tmp 83), none⟩,
  ⟨(some 85), .load1 (.tmp 84), none⟩,
  ⟨(some 86), .eqB true (.tmp 80) (.tmp 85), none⟩,
  ⟨(some 87), .move (.tmp 10), none⟩,
  ⟨(some 88), .nilCheck (.tmp 87), none⟩,
  ⟨(some 89), .loadN 9 (.tmp 88), none⟩,
  ⟨(some 90), .buildSlice 54 1 [(.int .i64 (.ofNat 0)), (.slice none 0 0), (.bool false), (.int .i64 (.ofNat 0)), (.int .i64 (.ofNat 0)), (.bool false), (.int .i64 (.ofNat 0)), (.string ⟨⟨[]⟩⟩), (.slice none 0 0)] [(0, 9, (.tmp 89))], none⟩,
  ⟨(some 91), .build [(.int .i64 (.ofNat 0)), (.slice none 0 0), (.bool false), (.int .i64 (.ofNat 0)), (.int .i64 (.ofNat 0)), (.bool false), (.int .i64 (.ofNat 0)), (.string ⟨⟨[]⟩⟩), (.slice none 0 0)] [(0, 1, (.const (.int .i64 (.ofNat 10)))), (3, 1, (.tmp 77)), (4, 1, (.tmp 78)), (5, 1, (.tmp 86)), (8, 1, (.tmp 90))], none⟩,
  ⟨(some 92), .nilCheck (.tmp 76), none⟩,
  ⟨none, .store 9 (.tmp 92) (.tmp 91), none⟩] (some ⟨[], [(9, 4), (13, 4)]⟩)
def f44r21 : ICode := .region [
  ⟨(some 4), .move (.const (.bool false)), none⟩] none
def f44r22 : ICode := .region [
  ⟨(some 94), .move (.tmp 0), none⟩,
  ⟨(some 95), .call 60 [(.tmp 94)], none⟩,
  ⟨(some 93), .move (.tmp 95), none⟩,
  ⟨(some 96), .extract (.tmp 93) 0, none⟩,
  ⟨(some 97), .extract (.tmp 93) 1, none⟩,
  ⟨(some 11), .new [(.int .i64 (.ofNat 0)), (.slice none 0 0), (.bool false), (.int .i64 (.ofNat 0)), (.int .i64 (.ofNat 0)), (.bool false), (.int .i64 (.ofNat 0)), (.string ⟨⟨[]⟩⟩), (.slice none 0 0)] 54, none⟩,
  ⟨none, .store 9 (.tmp 11) (.tmp 96), none⟩,
  ⟨(some 12), .move (.tmp 97), none⟩] none
def f44r23 : ICode := .region [
  ⟨(some 98), .move (.tmp 12), none⟩] none
def f44r24 : ICode := .region [
  ⟨(some 99), .move (.tmp 3), none⟩,
  ⟨(some 100), .loadN 9 (.tmp 11), none⟩,
  ⟨(some 101), .buildSlice 54 1 [(.int .i64 (.ofNat 0)), (.slice none 0 0), (.bool false), (.int .i64 (.ofNat 0)), (.int .i64 (.ofNat 0)), (.bool false), (.int .i64 (.ofNat 0)), (.string ⟨⟨[]⟩⟩), (.slice none 0 0)] [(0, 9, (.tmp 100))], none⟩,
  ⟨(some 102), .append 54 9 112 (.tmp 99) (.tmp 101), none⟩,
  ⟨(some 3), .move (.tmp 102), none⟩] none
def f44r25 : ICode := .region [
  ⟨(some 103), .move (.tmp 12), none⟩,
  ⟨(some 4), .move (.tmp 103), none⟩] none
/- (*ferret/syn.parser).row -/
def f44 : IFn := ⟨104, [.inr (2, (some 9))], (.seq f44r0 (.seq f44r1 (.seq f44r2 (.block 0 (.loop (.block 1 (.seq f44r3 (.seq (.seq f44r4 (.seq f44r5 (.block 2 (.seq (.seq f44r6 (.cond (.tmp 20) .skip f44r7)) (.cond (.tmp 20) (.seq f44r8 .ret) (.seq f44r9 (.cond (.tmp 25) (.seq (.seq f44r10 (.cond (.tmp 32) f44r11 .skip)) (.seq f44r12 .ret)) .skip))))))) (.seq (.seq f44r13 (.seq f44r14 (.cond (.tmp 47) (.seq (.seq f44r15 (.cond (.tmp 49) f44r16 .skip)) (.seq (.seq f44r17 (.cond (.tmp 67) f44r18 .skip)) (.seq f44r19 (.seq f44r20 (.seq f44r21 (.exit 1)))))) .skip))) (.seq f44r22 (.seq (.seq f44r23 (.cond (.tmp 98) f44r24 .skip)) f44r25)))))))))))⟩
def f45r0 : ICode := .region [
  ⟨(some 4), .move (.const (.bool false)), none⟩] none
def f45r1 : ICode := .region [
  ⟨(some 7), .move (.tmp 1), none⟩,
  ⟨(some 8), .strToBytes 5 (.tmp 7), none⟩,
  ⟨(some 9), .len 1 (.tmp 8), none⟩,
  ⟨(some 10), .move (.const (.int .i64 (.ofNat 0))), none⟩] none
def f45r2 : ICode := .region [
  ⟨(some 11), .bin .lss (.tmp 10) (.tmp 9), none⟩] none
def f45r3 : ICode := .region [
  ⟨(some 12), .move (.tmp 10), none⟩,
  ⟨(some 13), .indexSl 1 (.tmp 8) (.tmp 10), none⟩,
  ⟨(some 14), .load1 (.tmp 13), none⟩,
  ⟨(some 5), .move (.tmp 12), none⟩,
  ⟨(some 6), .move (.tmp 14), none⟩] none
def f45r4 : ICode := .region [
  ⟨(some 15), .move (.tmp 0), none⟩,
  ⟨(some 16), .move (.tmp 5), none⟩,
  ⟨(some 17), .call 57 [(.tmp 15), (.tmp 16)], none⟩,
  ⟨(some 18), .move (.tmp 6), none⟩,
  ⟨(some 19), .conv .i64 (.tmp 18), none⟩,
  ⟨(some 20), .bin .neq (.tmp 17) (.tmp 19), none⟩] none
def f45r5 : ICode := .region [
  ⟨(some 4), .move (.const (.bool false)), none⟩] none
def f45r6 : ICode := .region [
  ⟨(some 21), .bin .add (.tmp 10) (.const (.int .i64 (.ofNat 1))), none⟩,
  ⟨(some 10), .move (.tmp 21), none⟩] none
def f45r7 : ICode := .region [
  ⟨(some 22), .move (.tmp 0), none⟩,
  ⟨(some 23), .nilCheck (.tmp 22), none⟩,
  ⟨(some 24), .fieldAddr 4 (.tmp 23), none⟩,
  ⟨(some 25), .load1 (.tmp 24), none⟩,
  ⟨(some 26), .move (.tmp 1), none⟩,
  ⟨(some 27), .len 0 (.tmp 26), none⟩,
  ⟨(some 28), .bin .add (.tmp 25) (.tmp 27), none⟩,
  ⟨(some 29), .nilCheck (.tmp 22), none⟩,
  ⟨(some 30), .fieldAddr 4 (.tmp 29), none⟩,
  ⟨none, .store 1 (.tmp 30) (.tmp 28), none⟩] none
def f45r8 : ICode := .region [
  ⟨(some 4), .move (.const (.bool true)), none⟩] none
/- (*ferret/syn.parser).has -/
def f45 : IFn := ⟨31, [.inl 4], (.seq f45r0 (.seq (.seq f45r1 (.block 0 (.loop (.seq f45r2 (.seq (.cond (.tmp 11) .skip (.exit 0)) (.seq (.block 1 (.seq f45r3 (.seq f45r4 (.cond (.tmp 20) (.seq f45r5 .ret) .skip)))) f45r6)))))) (.seq f45r7 (.seq f45r8 .ret))))⟩
def f46r0 : ICode := .region [
  ⟨(some 4), .new [(.int .i64 (.ofNat 0)), (.slice none 0 0), (.bool false), (.int .i64 (.ofNat 0)), (.int .i64 (.ofNat 0)), (.bool false), (.int .i64 (.ofNat 0)), (.string ⟨⟨[]⟩⟩), (.slice none 0 0)] 54, none⟩] none
def f46r1 : ICode := .region [
  ⟨(some 6), .move (.tmp 1), none⟩,
  ⟨(some 7), .len 1 (.tmp 6), none⟩,
  ⟨(some 8), .bin .eql (.tmp 7) (.const (.int .i64 (.ofNat 1))), none⟩,
  ⟨(some 5), .move (.tmp 8), none⟩] none
def f46r2 : ICode := .region [
  ⟨(some 9), .move (.tmp 1), none⟩,
  ⟨(some 10), .indexSl 9 (.tmp 9) (.const (.int .i64 (.ofNat 0))), none⟩,
  ⟨(some 11), .loadN 9 (.tmp 10), none⟩,
  ⟨none, .store 9 (.tmp 4) (.tmp 11), none⟩] none
def f46r3 : ICode := .region [
  ⟨(some 13), .move (.tmp 1), none⟩,
  ⟨(some 14), .len 1 (.tmp 13), none⟩,
  ⟨(some 15), .bin .eql (.tmp 14) (.const (.int .i64 (.ofNat 0))), none⟩,
  ⟨(some 12), .move (.tmp 15), none⟩] none
def f46r4 : ICode := .region [
  ⟨(some 16), .build [(.int .i64 (.ofNat 0)), (.slice none 0 0), (.bool false), (.int .i64 (.ofNat 0)), (.int .i64 (.ofNat 0)), (.bool false), (.int .i64 (.ofNat 0)), (.string ⟨⟨[]⟩⟩), (.slice none 0 0)] [], none⟩,
  ⟨none, .store 9 (.tmp 4) (.tmp 16), none⟩] none
def f46r5 : ICode := .region [
  ⟨(some 17), .move (.tmp 0), none⟩,
  ⟨(some 18), .move (.tmp 1), none⟩,
  ⟨(some 19), .build [(.int .i64 (.ofNat 0)), (.slice none 0 0), (.bool false), (.int .i64 (.ofNat 0)), (.int .i64 (.ofNat 0)), (.bool false), (.int .i64 (.ofNat 0)), (.string ⟨⟨[]⟩⟩), (.slice none 0 0)] [(0, 1, (.tmp 17)), (8, 1, (.tmp 18))], none⟩,
  ⟨none, .store 9 (.tmp 4) (.tmp 19), none⟩] none
/- ferret/syn.whole -/
def f46 : IFn := ⟨20, [.inr (4, (some 9))], (.seq f46r0 (.seq (.block 0 (.seq f46r1 (.cond (.tmp 5) (.seq f46r2 .ret) (.seq f46r3 (.cond (.tmp 12) (.seq f46r4 .ret) .skip))))) (.seq f46r5 .ret)))⟩
def f47r0 : ICode := .region [
  ⟨(some 1), .box 54 (.tmp 0), none⟩,
  ⟨(some 2), .move (.const (.int .i64 (.ofNat 0))), none⟩] none
def f47r1 : ICode := .region [
  ⟨(some 8), .fieldAddr 0 (.tmp 1), none⟩,
  ⟨(some 9), .load1 (.tmp 8), none⟩] none
def f47r2 : ICode := .region [
  ⟨(some 11), .bin .eql (.tmp 9) (.const (.int .i64 (.ofNat 8))), none⟩,
  ⟨(some 10), .move (.tmp 11), none⟩] none
def f47r3 : ICode := .region [
  ⟨(some 12), .bin .eql (.tmp 9) (.const (.int .i64 (.ofNat 9))), none⟩,
  ⟨(some 10), .move (.tmp 12), none⟩] none
def f47r4 : ICode := .region [
  ⟨(some 3), .move (.const (.int .i64 (.ofNat 1))), none⟩] none
def f47r5 : ICode := .region [
  ⟨(some 13), .fieldAddr 8 (.tmp 1), none⟩,
  ⟨(some 14), .load1 (.tmp 13), none⟩,
  ⟨(some 15), .len 1 (.tmp 14), none⟩,
  ⟨(some 16), .move (.const (.int .i64 (.ofNat 0))), none⟩] none
def f47r6 : ICode := .region [
  ⟨(some 17), .bin .lss (.tmp 16) (.tmp 15), none⟩] none
def f47r7 : ICode := .region [
  ⟨(some 18), .indexSl 9 (.tmp 14) (.tmp 16), none⟩,
  ⟨(some 19), .loadN 9 (.tmp 18), none⟩,
  ⟨(some 5), .new [(.int .i64 (.ofNat 0)), (.slice none 0 0), (.bool false), (.int .i64 (.ofNat 0)), (.int .i64 (.ofNat 0)), (.bool false), (.int .i64 (.ofNat 0)), (.string ⟨⟨[]⟩⟩), (.slice none 0 0)] 54, none⟩,
  ⟨none, .store 9 (.tmp 5) (.tmp 19), none⟩] none
def f47r8 : ICode := .region [
  ⟨(some 20), .move (.tmp 3), none⟩,
  ⟨(some 21), .loadN 9 (.tmp 5), none⟩,
  ⟨(some 22), .call 47 [(.tmp 21)], none⟩,
  ⟨(some 23), .bin .add (.tmp 20) (.tmp 22), none⟩,
  ⟨(some 24), .call 61 [(.tmp 23)], none⟩,
  ⟨(some 3), .move (.tmp 24), none⟩] none
def f47r9 : ICode := .region [
  ⟨(some 25), .bin .add (.tmp 16) (.const (.int .i64 (.ofNat 1))), none⟩,
  ⟨(some 16), .move (.tmp 25), none⟩] none
def f47r10 : ICode := .region [
  ⟨(some 26), .move (.tmp 3), none⟩,
  ⟨(some 2), .move (.tmp 26), none⟩] none
def f47r11 : ICode := .region [
  ⟨(some 28), .bin .eql (.tmp 9) (.const (.int .i64 (.ofNat 11))), none⟩,
  ⟨(some 27), .move (.tmp 28), none⟩] none
def f47r12 : ICode := .region [
  ⟨(some 29), .loadN 9 (.tmp 1), none⟩,
  ⟨(some 30), .call 62 [(.tmp 29)], none⟩,
  ⟨(some 31), .call 47 [(.tmp 30)], none⟩,
  ⟨(some 32), .bin .add (.const (.int .i64 (.ofNat 1))) (.tmp 31), none⟩,
  ⟨(some 33), .call 61 [(.tmp 32)], none⟩,
  ⟨(some 2), .move (.tmp 33), none⟩] none
def f47r13 : ICode := .region [
  ⟨(some 35), .bin .eql (.tmp 9) (.const (.int .i64 (.ofNat 10))), none⟩,
  ⟨(some 34), .move (.tmp 35), none⟩] none
def f47r14 : ICode := .region [
  ⟨(some 36), .loadN 9 (.tmp 1), none⟩,
  ⟨(some 37), .call 62 [(.tmp 36)], none⟩,
  ⟨(some 38), .call 47 [(.tmp 37)], none⟩,
  ⟨(some 6), .move (.tmp 38), none⟩] none
def f47r15 : ICode := .region [
  ⟨(some 39), .fieldAddr 3 (.tmp 1), none⟩,
  ⟨(some 40), .load1 (.tmp 39), none⟩,
  ⟨(some 41), .move (.tmp 6), none⟩,
  ⟨(some 42), .bin .mul (.tmp 40) (.tmp 41), none⟩,
  ⟨(some 7), .move (.tmp 42), none⟩] none
def f47r16 : ICode := .region [
  ⟨(some 43), .fieldAddr 4 (.tmp 1), none⟩,
  ⟨(some 44), .load1 (.tmp 43), none⟩,
  ⟨(some 45), .bin .eql (.tmp 44) (.const (.int .i64 (.negSucc 0))), none⟩] none
def f47r17 : ICode := .region [
  ⟨(some 46), .move (.tmp 7), none⟩,
  ⟨(some 47), .move (.tmp 6), none⟩,
  ⟨(some 48), .bin .add (.const (.int .i64 (.ofNat 1))) (.tmp 47), none⟩,
  ⟨(some 49), .bin .add (.tmp 46) (.tmp 48), none⟩,
  ⟨(some 7), .move (.tmp 49), none⟩] none
def f47r18 : ICode := .region [
  ⟨(some 50), .move (.tmp 7), none⟩,
  ⟨(some 51), .fieldAddr 4 (.tmp 1), none⟩,
  ⟨(some 52), .load1 (.tmp 51), none⟩,
  ⟨(some 53), .fieldAddr 3 (.tmp 1), none⟩,
  ⟨(some 54), .load1 (.tmp 53), none⟩,
  ⟨(some 55), .bin .sub (.tmp 52) (.tmp 54), none⟩,
  ⟨(some 56), .move (.tmp 6), none⟩,
  ⟨(some 57), .bin .add (.tmp 56) (.const (.int .i64 (.ofNat 2))), none⟩,
  ⟨(some 58), .bin .mul (.tmp 55) (.tmp 57), none⟩,
  ⟨(some 59), .bin .add (.tmp 50) (.tmp 58), none⟩,
  ⟨(some 7), .move (.tmp 59), none⟩] none
def f47r19 : ICode := .region [
  ⟨(some 60), .move (.tmp 7), none⟩,
  ⟨(some 61), .bin .add (.tmp 60) (.const (.int .i64 (.ofNat 1))), none⟩,
  ⟨(some 62), .call 61 [(.tmp 61)], none⟩,
  ⟨(some 2), .move (.tmp 62), none⟩] none
def f47r20 : ICode := .region [
  ⟨(some 2), .move (.const (.int .i64 (.ofNat 1))), none⟩] none
/- ferret/simple.Count -/
def f47 : IFn := ⟨63, [.inl 2], (.seq f47r0 (.seq (.seq f47r1 (.block 0 (.seq (.seq f47r2 (.cond (.tmp 10) .skip f47r3)) (.cond (.tmp 10) (.seq f47r4 (.seq (.seq f47r5 (.block 1 (.loop (.seq f47r6 (.seq (.cond (.tmp 17) .skip (.exit 1)) (.seq (.block 2 (.seq f47r7 f47r8)) f47r9)))))) (.seq f47r10 .ret))) (.seq f47r11 (.cond (.tmp 27) (.seq f47r12 .ret) (.seq f47r13 (.cond (.tmp 34) (.seq f47r14 (.seq f47r15 (.seq (.seq f47r16 (.cond (.tmp 45) f47r17 f47r18)) (.seq f47r19 .ret)))) .skip)))))))) (.seq f47r20 .ret)))⟩
def f48r0 : ICode := .region [
  ⟨(some 1), .box 54 (.tmp 0), none⟩,
  ⟨(some 2), .new [(.int .i64 (.ofNat 0)), (.slice none 0 0), (.bool false), (.int .i64 (.ofNat 0)), (.int .i64 (.ofNat 0)), (.bool false), (.int .i64 (.ofNat 0)), (.string ⟨⟨[]⟩⟩), (.slice none 0 0)] 54, none⟩] none
def f48r1 : ICode := .region [
  ⟨(some 6), .fieldAddr 0 (.tmp 1), none⟩,
  ⟨(some 7), .load1 (.tmp 6), none⟩,
  ⟨(some 8), .bin .eql (.tmp 7) (.const (.int .i64 (.ofNat 10))), none⟩,
  ⟨(some 9), .move (.tmp 8), none⟩,
  ⟨(some 10), .fieldAddr 3 (.tmp 1), (some ((some 9), true))⟩,
  ⟨(some 11), .load1 (.tmp 10), (some ((some 9), true))⟩,
  ⟨(some 12), .bin .eql (.tmp 11) (.const (.int .i64 (.ofNat 0))), (some ((some 9), true))⟩,
  ⟨(some 13), .pick (.tmp 9) (.tmp 12) (.const (.bool false)), none⟩,
  ⟨(some 14), .move (.tmp 13), none⟩,
  ⟨(some 15), .fieldAddr 4 (.tmp 1), (some ((some 14), true))⟩,
  ⟨(some 16), .load1 (.tmp 15), (some ((some 14), true))⟩,
  ⟨(some 17), .bin .eql (.tmp 16) (.const (.int .i64 (.ofNat 0))), (some ((some 14), true))⟩,
  ⟨(some 18), .pick (.tmp 14) (.tmp 17) (.const (.bool false)), none⟩] none
def f48r2 : ICode := .region [
  ⟨(some 19), .build [(.int .i64 (.ofNat 0)), (.slice none 0 0), (.bool false), (.int .i64 (.ofNat 0)), (.int .i64 (.ofNat 0)), (.bool false), (.int .i64 (.ofNat 0)), (.string ⟨⟨[]⟩⟩), (.slice none 0 0)] [], none⟩,
  ⟨none, .store 9 (.tmp 2) (.tmp 19), none⟩] none
def f48r3 : ICode := .region [
  ⟨(some 3), .move (.const (.slice none 0 0)), none⟩] none
def f48r4 : ICode := .region [
  ⟨(some 20), .fieldAddr 8 (.tmp 1), none⟩,
  ⟨(some 21), .load1 (.tmp 20), none⟩,
  ⟨(some 22), .len 1 (.tmp 21), none⟩,
  ⟨(some 23), .move (.const (.int .i64 (.ofNat 0))), none⟩] none
def f48r5 : ICode := .region [
  ⟨(some 24), .bin .lss (.tmp 23) (.tmp 22), none⟩] none
def f48r6 : ICode := .region [
  ⟨(some 25), .indexSl 9 (.tmp 21) (.tmp 23), none⟩,
  ⟨(some 26), .loadN 9 (.tmp 25), none⟩,
  ⟨(some 5), .new [(.int .i64 (.ofNat 0)), (.slice none 0 0), (.bool false), (.int .i64 (.ofNat 0)), (.int .i64 (.ofNat 0)), (.bool false), (.int .i64 (.ofNat 0)), (.string ⟨⟨[]⟩⟩), (.slice none 0 0)] 54, none⟩,
  ⟨none, .store 9 (.tmp 5) (.tmp 26), none⟩] none
def f48r7 : ICode := .region [
  ⟨(some 27), .move (.tmp 3), none⟩,
  ⟨(some 28), .loadN 9 (.tmp 5), none⟩,
  ⟨(some 29), .call 48 [(.tmp 28)], none⟩,
  ⟨(some 30), .buildSlice 54 1 [(.int .i64 (.ofNat 0)), (.slice none 0 0), (.bool false), (.int .i64 (.ofNat 0)), (.int .i64 (.ofNat 0)), (.bool false), (.int .i64 (.ofNat 0)), (.string ⟨⟨[]⟩⟩), (.slice none 0 0)] [(0, 9, (.tmp 29))], none⟩,
  ⟨(some 31), .append 54 9 112 (.tmp 27) (.tmp 30), none⟩,
  ⟨(some 3), .move (.tmp 31), none⟩] none
def f48r8 : ICode := .region [
  ⟨(some 32), .bin .add (.tmp 23) (.const (.int .i64 (.ofNat 1))), none⟩,
  ⟨(some 23), .move (.tmp 32), none⟩] none
def f48r9 : ICode := .region [
  ⟨(some 33), .fieldAddr 0 (.tmp 1), none⟩,
  ⟨(some 34), .load1 (.tmp 33), none⟩] none
def f48r10 : ICode := .region [
  ⟨(some 36), .bin .eql (.tmp 34) (.const (.int .i64 (.ofNat 1))), none⟩,
  ⟨(some 35), .move (.tmp 36), none⟩] none
def f48r11 : ICode := .region [
  ⟨(some 37), .fieldAddr 2 (.tmp 1), none⟩,
  ⟨(some 38), .load1 (.tmp 37), none⟩] none
def f48r12 : ICode := .region [
  ⟨(some 39), .fieldAddr 1 (.tmp 1), none⟩,
  ⟨(some 40), .load1 (.tmp 39), none⟩,
  ⟨(some 41), .call 63 [(.tmp 40)], none⟩,
  ⟨(some 42), .fieldAddr 1 (.tmp 1), none⟩,
  ⟨none, .store 1 (.tmp 42) (.tmp 41), none⟩] none
def f48r13 : ICode := .region [
  ⟨(some 43), .fieldAddr 2 (.tmp 1), none⟩,
  ⟨none, .store 1 (.tmp 43) (.const (.bool false)), none⟩] none
def f48r14 : ICode := .region [
  ⟨(some 44), .fieldAddr 1 (.tmp 1), none⟩,
  ⟨(some 45), .load1 (.tmp 44), none⟩,
  ⟨(some 46), .build [(.int .i64 (.ofNat 0)), (.int .i64 (.ofNat 0))] [(0, 1, (.const (.int .i64 (.ofNat 55296)))), (1, 1, (.const (.int .i64 (.ofNat 57343))))], none⟩,
  ⟨(some 47), .buildSlice 75 1 [(.int .i64 (.ofNat 0)), (.int .i64 (.ofNat 0))] [(0, 2, (.tmp 46))], none⟩,
  ⟨(some 48), .call 65 [(.tmp 47)], none⟩,
  ⟨(some 49), .call 64 [(.tmp 45), (.tmp 48)], none⟩,
  ⟨(some 50), .fieldAddr 1 (.tmp 1), none⟩,
  ⟨none, .store 1 (.tmp 50) (.tmp 49), none⟩] (some ⟨[], [(1, 4)]⟩)
def f48r15 : ICode := .region [
  ⟨(some 51), .loadN 9 (.tmp 1), none⟩,
  ⟨none, .store 9 (.tmp 2) (.tmp 51), none⟩] none
def f48r16 : ICode := .region [
  ⟨(some 53), .bin .eql (.tmp 34) (.const (.int .i64 (.ofNat 8))), none⟩,
  ⟨(some 52), .move (.tmp 53), none⟩] none
def f48r17 : ICode := .region [
  ⟨(some 54), .move (.tmp 3), none⟩,
  ⟨(some 55), .call 66 [(.tmp 54)], none⟩,
  ⟨none, .store 9 (.tmp 2) (.tmp 55), none⟩] none
def f48r18 : ICode := .region [
  ⟨(some 57), .bin .eql (.tmp 34) (.const (.int .i64 (.ofNat 9))), none⟩,
  ⟨(some 56), .move (.tmp 57), none⟩] none
def f48r19 : ICode := .region [
  ⟨(some 58), .move (.tmp 3), none⟩,
  ⟨(some 59), .call 68 [(.tmp 58), (.const (.int .i64 (.ofNat 9)))], none⟩,
  ⟨(some 60), .call 67 [(.const (.int .i64 (.ofNat 9))), (.tmp 59)], none⟩,
  ⟨none, .store 9 (.tmp 2) (.tmp 60), none⟩] none
def f48r20 : ICode := .region [
  ⟨(some 62), .bin .eql (.tmp 34) (.const (.int .i64 (.ofNat 10))), none⟩,
  ⟨(some 61), .move (.tmp 62), none⟩] none
def f48r21 : ICode := .region [
  ⟨(some 63), .loadN 9 (.tmp 1), none⟩,
  ⟨(some 64), .move (.tmp 3), none⟩,
  ⟨(some 65), .build [(.int .i64 (.ofNat 0)), (.slice none 0 0), (.bool false), (.int .i64 (.ofNat 0)), (.int .i64 (.ofNat 0)), (.bool false), (.int .i64 (.ofNat 0)), (.string ⟨⟨[]⟩⟩), (.slice none 0 0)] [(8, 1, (.tmp 64))], none⟩,
  ⟨(some 66), .call 62 [(.tmp 65)], none⟩,
  ⟨(some 67), .call 69 [(.tmp 63), (.tmp 66)], none⟩,
  ⟨none, .store 9 (.tmp 2) (.tmp 67), none⟩] (some ⟨[], [(0, 3)]⟩)
def f48r22 : ICode := .region [
  ⟨(some 68), .move (.tmp 3), none⟩,
  ⟨(some 69), .fieldAddr 8 (.tmp 1), none⟩,
  ⟨none, .store 1 (.tmp 69) (.tmp 68), none⟩] none
def f48r23 : ICode := .region [
  ⟨(some 70), .loadN 9 (.tmp 1), none⟩,
  ⟨none, .store 9 (.tmp 2) (.tmp 70), none⟩] none
/- ferret/simple.made -/
def f48 : IFn := ⟨71, [.inr (2, (some 9))], (.seq f48r0 (.seq (.seq f48r1 (.cond (.tmp 18) (.seq f48r2 .ret) .skip)) (.seq f48r3 (.seq (.seq f48r4 (.block 0 (.loop (.seq f48r5 (.seq (.cond (.tmp 24) .skip (.exit 0)) (.seq (.block 1 (.seq f48r6 f48r7)) f48r8)))))) (.seq (.seq f48r9 (.block 2 (.seq f48r10 (.cond (.tmp 35) (.seq (.seq f48r11 (.cond (.tmp 38) f48r12 .skip)) (.seq f48r13 (.seq f48r14 (.seq f48r15 .ret)))) (.seq f48r16 (.cond (.tmp 52) (.seq f48r17 .ret) (.seq f48r18 (.cond (.tmp 56) (.seq f48r19 .ret) (.seq f48r20 (.cond (.tmp 61) (.seq f48r21 .ret) .skip)))))))))) (.seq f48r22 (.seq f48r23 .ret)))))))⟩
def f49r0 : ICode := .region [
  ⟨(some 2), .box 106 (.tmp 0), none⟩,
  ⟨(some 3), .box 54 (.tmp 1), none⟩] none
def f49r1 : ICode := .region [
  ⟨(some 6), .fieldAddr 1 (.tmp 3), none⟩,
  ⟨(some 7), .load1 (.tmp 6), none⟩,
  ⟨(some 8), .call 70 [(.tmp 7)], none⟩,
  ⟨(some 4), .new [(.slice none 0 0)] 140, none⟩,
  ⟨none, .store 1 (.tmp 4) (.tmp 8), none⟩] none
def f49r2 : ICode := .region [
  ⟨(some 9), .load1 (.tmp 4), none⟩,
  ⟨(some 10), .len 1 (.tmp 9), none⟩,
  ⟨(some 11), .bin .eql (.tmp 10) (.const (.int .i64 (.ofNat 0))), none⟩] none
def f49r3 : ICode := .region [
  ⟨(some 12), .load1 (.tmp 2), none⟩,
  ⟨(some 13), .build [(.int .i64 (.ofNat 0)), (.int .i64 (.ofNat 0)), (.int .i64 (.ofNat 0)), (.int .i64 (.ofNat 0)), (.int .i64 (.ofNat 0))] [(0, 1, (.const (.int .i64 (.ofNat 6))))], none⟩,
  ⟨(some 14), .call 32 [(.tmp 12), (.tmp 13)], none⟩,
  ⟨(some 5), .move (.tmp 14), none⟩] none
def f49r4 : ICode := .region [
  ⟨(some 15), .load1 (.tmp 2), none⟩,
  ⟨(some 16), .nilCheck (.tmp 15), none⟩,
  ⟨(some 17), .fieldAddr 0 (.tmp 16), none⟩,
  ⟨(some 18), .load1 (.tmp 17), none⟩,
  ⟨(some 19), .move (.tmp 5), none⟩,
  ⟨(some 20), .indexSl 5 (.tmp 18) (.tmp 19), none⟩,
  ⟨(some 21), .fieldAddr 1 (.tmp 20), none⟩,
  ⟨none, .store 1 (.tmp 21) (.const (.int .i64 (.ofNat 0))), none⟩] none
def f49r5 : ICode := .region [
  ⟨(some 22), .load1 (.tmp 2), none⟩,
  ⟨(some 23), .load1 (.tmp 4), none⟩,
  ⟨(some 24), .len 1 (.tmp 23), none⟩,
  ⟨(some 25), .mkFunc (.func 71) [] [(.tmp 4), (.tmp 2)], none⟩,
  ⟨(some 26), .call 50 [(.tmp 22), (.tmp 24), (.tmp 25)], none⟩] none
/- (*ferret/prog.compiler).class -/
def f49 : IFn := ⟨27, [], (.seq f49r0 (.seq f49r1 (.seq (.seq f49r2 (.cond (.tmp 11) (.seq f49r3 f49r4) .skip)) f49r5)))⟩
def f51r0 : ICode := .region [
  ⟨(some 4), .load1 (.tmp 1), none⟩,
  ⟨(some 5), .fieldAddr 8 (.tmp 2), none⟩,
  ⟨(some 6), .load1 (.tmp 5), none⟩,
  ⟨(some 7), .move (.tmp 0), none⟩,
  ⟨(some 8), .indexSl 9 (.tmp 6) (.tmp 7), none⟩,
  ⟨(some 9), .loadN 9 (.tmp 8), none⟩,
  ⟨(some 10), .call 33 [(.tmp 4), (.tmp 9)], none⟩] (some ⟨[], []⟩)
/- (*ferret/prog.compiler).node$1 -/
def f51 : IFn := ⟨11, [], f51r0⟩
def f50r0 : ICode := .region [
  ⟨(some 6), .move (.const (.slice none 0 0)), none⟩] none
def f50r1 : ICode := .region [
  ⟨(some 11), .move (.tmp 1), none⟩,
  ⟨(some 12), .move (.const (.int .i64 (.ofNat 0))), none⟩] none
def f50r2 : ICode := .region [
  ⟨(some 13), .bin .lss (.tmp 12) (.tmp 11), none⟩] none
def f50r3 : ICode := .region [
  ⟨(some 14), .move (.tmp 12), none⟩,
  ⟨(some 7), .move (.tmp 14), none⟩] none
def f50r4 : ICode := .region [
  ⟨(some 15), .move (.tmp 7), none⟩,
  ⟨(some 16), .move (.tmp 1), none⟩,
  ⟨(some 17), .bin .sub (.tmp 16) (.const (.int .i64 (.ofNat 1))), none⟩,
  ⟨(some 18), .bin .eql (.tmp 15) (.tmp 17), none⟩] none
def f50r5 : ICode := .region [
  ⟨(some 19), .move (.tmp 2), none⟩,
  ⟨(some 20), .move (.tmp 7), none⟩,
  ⟨(some 21), .callv (.tmp 19) [(.tmp 20)], none⟩] none
def f50r6 : ICode := .region [
  ⟨(some 22), .move (.tmp 0), none⟩,
  ⟨(some 23), .build [(.int .i64 (.ofNat 0)), (.int .i64 (.ofNat 0)), (.int .i64 (.ofNat 0)), (.int .i64 (.ofNat 0)), (.int .i64 (.ofNat 0))] [(0, 1, (.const (.int .i64 (.ofNat 1))))], none⟩,
  ⟨(some 24), .call 32 [(.tmp 22), (.tmp 23)], none⟩,
  ⟨(some 8), .move (.tmp 24), none⟩] none
def f50r7 : ICode := .region [
  ⟨(some 25), .move (.tmp 2), none⟩,
  ⟨(some 26), .move (.tmp 7), none⟩,
  ⟨(some 27), .callv (.tmp 25) [(.tmp 26)], none⟩] none
def f50r8 : ICode := .region [
  ⟨(some 28), .move (.tmp 6), none⟩,
  ⟨(some 29), .move (.tmp 0), none⟩,
  ⟨(some 30), .build [(.int .i64 (.ofNat 0)), (.int .i64 (.ofNat 0)), (.int .i64 (.ofNat 0)), (.int .i64 (.ofNat 0)), (.int .i64 (.ofNat 0))] [(0, 1, (.const (.int .i64 (.ofNat 2))))], none⟩,
  ⟨(some 31), .call 32 [(.tmp 29), (.tmp 30)], none⟩,
  ⟨(some 32), .buildSlice 3 1 [(.int .i64 (.ofNat 0))] [(0, 1, (.tmp 31))], none⟩,
  ⟨(some 33), .append 3 1 8 (.tmp 28) (.tmp 32), none⟩,
  ⟨(some 6), .move (.tmp 33), none⟩] none
def f50r9 : ICode := .region [
  ⟨(some 34), .move (.tmp 0), none⟩,
  ⟨(some 35), .nilCheck (.tmp 34), none⟩,
  ⟨(some 36), .fieldAddr 1 (.tmp 35), none⟩,
  ⟨(some 37), .load1 (.tmp 36), none⟩,
  ⟨(some 38), .un .not (.tmp 37), none⟩] none
def f50r10 : ICode := .region [
  ⟨(some 39), .move (.tmp 0), none⟩,
  ⟨(some 40), .nilCheck (.tmp 39), none⟩,
  ⟨(some 41), .fieldAddr 0 (.tmp 40), none⟩,
  ⟨(some 42), .load1 (.tmp 41), none⟩,
  ⟨(some 43), .move (.tmp 8), none⟩,
  ⟨(some 44), .move (.tmp 0), none⟩,
  ⟨(some 45), .nilCheck (.tmp 44), none⟩,
  ⟨(some 46), .fieldAddr 0 (.tmp 45), none⟩,
  ⟨(some 47), .load1 (.tmp 46), none⟩,
  ⟨(some 48), .len 1 (.tmp 47), none⟩,
  ⟨(some 49), .indexSl 5 (.tmp 42) (.tmp 43), none⟩,
  ⟨(some 50), .fieldAddr 2 (.tmp 49), none⟩,
  ⟨none, .store 1 (.tmp 50) (.tmp 48), none⟩] (some ⟨[], []⟩)
def f50r11 : ICode := .region [
  ⟨(some 51), .bin .add (.tmp 12) (.const (.int .i64 (.ofNat 1))), none⟩,
  ⟨(some 12), .move (.tmp 51), none⟩] none
def f50r12 : ICode := .region [
  ⟨(some 52), .move (.tmp 6), none⟩,
  ⟨(some 53), .len 1 (.tmp 52), none⟩,
  ⟨(some 54), .move (.const (.int .i64 (.ofNat 0))), none⟩] none
def f50r13 : ICode := .region [
  ⟨(some 55), .bin .lss (.tmp 54) (.tmp 53), none⟩] none
def f50r14 : ICode := .region [
  ⟨(some 56), .indexSl 1 (.tmp 52) (.tmp 54), none⟩,
  ⟨(some 57), .load1 (.tmp 56), none⟩,
  ⟨(some 10), .move (.tmp 57), none⟩] none
def f50r15 : ICode := .region [
  ⟨(some 58), .move (.tmp 0), none⟩,
  ⟨(some 59), .nilCheck (.tmp 58), none⟩,
  ⟨(some 60), .fieldAddr 1 (.tmp 59), none⟩,
  ⟨(some 61), .load1 (.tmp 60), none⟩,
  ⟨(some 62), .un .not (.tmp 61), none⟩] none
def f50r16 : ICode := .region [
  ⟨(some 63), .move (.tmp 0), none⟩,
  ⟨(some 64), .nilCheck (.tmp 63), none⟩,
  ⟨(some 65), .fieldAddr 0 (.tmp 64), none⟩,
  ⟨(some 66), .load1 (.tmp 65), none⟩,
  ⟨(some 67), .move (.tmp 10), none⟩,
  ⟨(some 68), .move (.tmp 0), none⟩,
  ⟨(some 69), .nilCheck (.tmp 68), none⟩,
  ⟨(some 70), .fieldAddr 0 (.tmp 69), none⟩,
  ⟨(some 71), .load1 (.tmp 70), none⟩,
  ⟨(some 72), .len 1 (.tmp 71), none⟩,
  ⟨(some 73), .indexSl 5 (.tmp 66) (.tmp 67), none⟩,
  ⟨(some 74), .fieldAddr 1 (.tmp 73), none⟩,
  ⟨none, .store 1 (.tmp 74) (.tmp 72), none⟩] (some ⟨[], []⟩)
def f50r17 : ICode := .region [
  ⟨(some 75), .bin .add (.tmp 54) (.const (.int .i64 (.ofNat 1))), none⟩,
  ⟨(some 54), .move (.tmp 75), none⟩] none
/- (*ferret/prog.compiler).alternatives -/
def f50 : IFn := ⟨76, [], (.seq f50r0 (.seq (.seq f50r1 (.block 0 (.loop (.seq f50r2 (.seq (.cond (.tmp 13) .skip (.exit 0)) (.seq (.block 1 (.seq f50r3 (.seq (.seq f50r4 (.cond (.tmp 18) (.seq f50r5 (.exit 0)) .skip)) (.seq f50r6 (.seq f50r7 (.seq f50r8 (.seq f50r9 (.cond (.tmp 38) f50r10 .skip)))))))) f50r11)))))) (.seq f50r12 (.block 2 (.loop (.seq f50r13 (.seq (.cond (.tmp 55) .skip (.exit 2)) (.seq (.block 3 (.seq f50r14 (.seq f50r15 (.cond (.tmp 62) f50r16 .skip)))) f50r17))))))))⟩
def f52r0 : ICode := .region [
  ⟨(some 3), .box 54 (.tmp 1), none⟩] none
def f52r1 : ICode := .region [
  ⟨(some 6), .move (.tmp 0), none⟩,
  ⟨(some 7), .build [(.int .i64 (.ofNat 0)), (.int .i64 (.ofNat 0)), (.int .i64 (.ofNat 0)), (.int .i64 (.ofNat 0)), (.int .i64 (.ofNat 0))] [(0, 1, (.const (.int .i64 (.ofNat 1))))], none⟩,
  ⟨(some 8), .call 32 [(.tmp 6), (.tmp 7)], none⟩,
  ⟨(some 4), .move (.tmp 8), none⟩] none
def f52r2 : ICode := .region [
  ⟨(some 9), .move (.tmp 0), none⟩,
  ⟨(some 10), .fieldAddr 8 (.tmp 3), none⟩,
  ⟨(some 11), .load1 (.tmp 10), none⟩,
  ⟨(some 12), .indexSl 9 (.tmp 11) (.const (.int .i64 (.ofNat 0))), none⟩,
  ⟨(some 13), .loadN 9 (.tmp 12), none⟩,
  ⟨(some 14), .call 33 [(.tmp 9), (.tmp 13)], none⟩] none
def f52r3 : ICode := .region [
  ⟨(some 15), .fieldAddr 4 (.tmp 3), none⟩,
  ⟨(some 16), .load1 (.tmp 15), none⟩,
  ⟨(some 17), .bin .eql (.tmp 16) (.const (.int .i64 (.negSucc 0))), none⟩] none
def f52r4 : ICode := .region [
  ⟨(some 18), .move (.tmp 0), none⟩,
  ⟨(some 19), .build [(.int .i64 (.ofNat 0)), (.int .i64 (.ofNat 0)), (.int .i64 (.ofNat 0)), (.int .i64 (.ofNat 0)), (.int .i64 (.ofNat 0))] [(0, 1, (.const (.int .i64 (.ofNat 2))))], none⟩,
  ⟨(some 20), .call 32 [(.tmp 18), (.tmp 19)], none⟩,
  ⟨(some 5), .move (.tmp 20), none⟩] none
def f52r5 : ICode := .region [
  ⟨(some 21), .move (.tmp 0), none⟩,
  ⟨(some 22), .nilCheck (.tmp 21), none⟩,
  ⟨(some 23), .fieldAddr 0 (.tmp 22), none⟩,
  ⟨(some 24), .load1 (.tmp 23), none⟩,
  ⟨(some 25), .move (.tmp 5), none⟩,
  ⟨(some 26), .move (.tmp 4), none⟩,
  ⟨(some 27), .indexSl 5 (.tmp 24) (.tmp 25), none⟩,
  ⟨(some 28), .fieldAddr 1 (.tmp 27), none⟩,
  ⟨none, .store 1 (.tmp 28) (.tmp 26), none⟩] none
def f52r6 : ICode := .region [
  ⟨(some 29), .move (.tmp 0), none⟩,
  ⟨(some 30), .nilCheck (.tmp 29), none⟩,
  ⟨(some 31), .fieldAddr 1 (.tmp 30), none⟩,
  ⟨(some 32), .load1 (.tmp 31), none⟩] none
def f52r7 : ICode := .region [
  ⟨(some 33), .move (.tmp 0), none⟩,
  ⟨(some 34), .nilCheck (.tmp 33), none⟩,
  ⟨(some 35), .fieldAddr 0 (.tmp 34), none⟩,
  ⟨(some 36), .load1 (.tmp 35), none⟩,
  ⟨(some 37), .move (.tmp 4), none⟩,
  ⟨(some 38), .move (.tmp 0), none⟩,
  ⟨(some 39), .nilCheck (.tmp 38), none⟩,
  ⟨(some 40), .fieldAddr 0 (.tmp 39), none⟩,
  ⟨(some 41), .load1 (.tmp 40), none⟩,
  ⟨(some 42), .len 1 (.tmp 41), none⟩,
  ⟨(some 43), .indexSl 5 (.tmp 36) (.tmp 37), none⟩,
  ⟨(some 44), .fieldAddr 2 (.tmp 43), none⟩,
  ⟨none, .store 1 (.tmp 44) (.tmp 42), none⟩] (some ⟨[], []⟩)
def f52r8 : ICode := .region [
  ⟨(some 45), .fieldAddr 5 (.tmp 3), none⟩,
  ⟨(some 46), .load1 (.tmp 45), none⟩] none
def f52r9 : ICode := .region [
  ⟨(some 47), .move (.tmp 0), none⟩,
  ⟨(some 48), .nilCheck (.tmp 47), none⟩,
  ⟨(some 49), .fieldAddr 0 (.tmp 48), none⟩,
  ⟨(some 50), .load1 (.tmp 49), none⟩,
  ⟨(some 51), .move (.tmp 4), none⟩,
  ⟨(some 52), .move (.tmp 0), none⟩,
  ⟨(some 53), .nilCheck (.tmp 52), none⟩,
  ⟨(some 54), .fieldAddr 0 (.tmp 53), none⟩,
  ⟨(some 55), .load1 (.tmp 54), none⟩,
  ⟨(some 56), .move (.tmp 4), none⟩,
  ⟨(some 57), .move (.tmp 0), none⟩,
  ⟨(some 58), .nilCheck (.tmp 57), none⟩,
  ⟨(some 59), .fieldAddr 0 (.tmp 58), none⟩,
  ⟨(some 60), .load1 (.tmp 59), none⟩,
  ⟨(some 61), .move (.tmp 4), none⟩,
  ⟨(some 62), .indexSl 5 (.tmp 60) (.tmp 61), none⟩,
  ⟨(some 63), .fieldAddr 2 (.tmp 62), none⟩,
  ⟨(some 64), .load1 (.tmp 63), none⟩,
  ⟨(some 65), .move (.tmp 0), none⟩,
  ⟨(some 66), .nilCheck (.tmp 65), none⟩,
  ⟨(some 67), .fieldAddr 0 (.tmp 66), none⟩,
  ⟨(some 68), .load1 (.tmp 67), none⟩,
  ⟨(some 69), .move (.tmp 4), none⟩,
  ⟨(some 70), .indexSl 5 (.tmp 68) (.tmp 69), none⟩,
  ⟨(some 71), .fieldAddr 1 (.tmp 70), none⟩,
  ⟨(some 72), .load1 (.tmp 71), none⟩,
  ⟨(some 73), .indexSl 5 (.tmp 50) (.tmp 51), none⟩,
  ⟨(some 74), .fieldAddr 1 (.tmp 73), none⟩,
  ⟨none, .store 1 (.tmp 74) (.tmp 64), none⟩,
  ⟨(some 75), .indexSl 5 (.tmp 55) (.tmp 56), none⟩,
  ⟨(some 76), .fieldAddr 2 (.tmp 75), none⟩,
  ⟨none, .store 1 (.tmp 76) (.tmp 72), none⟩] (some ⟨[], []⟩)
/- (*ferret/prog.compiler).repeat -/
def f52 : IFn := ⟨77, [], (.seq f52r0 (.seq f52r1 (.seq f52r2 (.seq (.seq f52r3 (.cond (.tmp 17) (.seq f52r4 f52r5) .skip)) (.seq (.seq f52r6 (.cond (.tmp 32) .ret .skip)) (.seq f52r7 (.seq f52r8 (.cond (.tmp 46) f52r9 .skip))))))))⟩
def f53r0 : ICode := .region [
  ⟨(some 4), .move (.const (.bool false)), none⟩] none
def f53r1 : ICode := .region [
  ⟨(some 6), .move (.tmp 1), none⟩,
  ⟨(some 7), .bin .lss (.tmp 6) (.const (.int .i64 (.ofNat 0))), none⟩,
  ⟨(some 8), .move (.tmp 7), none⟩,
  ⟨(some 9), .move (.tmp 1), (some ((some 8), false))⟩,
  ⟨(some 10), .move (.tmp 0), (some ((some 8), false))⟩,
  ⟨(some 11), .len 0 (.tmp 10), (some ((some 8), false))⟩,
  ⟨(some 12), .bin .geq (.tmp 9) (.tmp 11), (some ((some 8), false))⟩,
  ⟨(some 13), .pick (.tmp 8) (.const (.bool true)) (.tmp 12), none⟩] none
def f53r2 : ICode := .region [
  ⟨(some 4), .move (.const (.bool false)), none⟩] none
def f53r3 : ICode := .region [
  ⟨(some 14), .move (.tmp 0), none⟩,
  ⟨(some 15), .move (.tmp 1), none⟩,
  ⟨(some 16), .indexStr (.tmp 14) (.tmp 15), none⟩,
  ⟨(some 5), .move (.tmp 16), none⟩] none
def f53r4 : ICode := .region [
  ⟨(some 17), .move (.tmp 5), none⟩,
  ⟨(some 18), .bin .geq (.tmp 17) (.const (.int .u8 (.ofNat 48))), none⟩,
  ⟨(some 19), .move (.tmp 18), none⟩,
  ⟨(some 20), .move (.tmp 5), (some ((some 19), true))⟩,
  ⟨(some 21), .bin .leq (.tmp 20) (.const (.int .u8 (.ofNat 57))), (some ((some 19), true))⟩,
  ⟨(some 22), .pick (.tmp 19) (.tmp 21) (.const (.bool false)), none⟩,
  ⟨(some 23), .move (.tmp 22), none⟩,
  ⟨(some 24), .move (.tmp 5), (some ((some 23), false))⟩,
  ⟨(some 25), .bin .geq (.tmp 24) (.const (.int .u8 (.ofNat 65))), (some ((some 23), false))⟩,
  ⟨(some 26), .move (.tmp 25), (some ((some 23), false))⟩,
  ⟨(some 27), .move (.tmp 5), (some ((some 26), true))⟩,
  ⟨(some 28), .bin .leq (.tmp 27) (.const (.int .u8 (.ofNat 90))), (some ((some 26), true))⟩,
  ⟨(some 29), .pick (.tmp 26) (.tmp 28) (.const (.bool false)), (some ((some 23), false))⟩,
  ⟨(some 30), .pick (.tmp 23) (.const (.bool true)) (.tmp 29), none⟩,
  ⟨(some 31), .move (.tmp 30), none⟩,
  ⟨(some 32), .move (.tmp 5), (some ((some 31), false))⟩,
  ⟨(some 33), .bin .geq (.tmp 32) (.const (.int .u8 (.ofNat 97))), (some ((some 31), false))⟩,
  ⟨(some 34), .move (.tmp 33), (some ((some 31), false))⟩,
  ⟨(some 35), .move (.tmp 5), (some ((some 34), true))⟩,
  ⟨(some 36), .bin .leq (.tmp 35) (.const (.int .u8 (.ofNat 122))), (some ((some 34), true))⟩,
  ⟨(some 37), .pick (.tmp 34) (.tmp 36) (.const (.bool false)), (some ((some 31), false))⟩,
  ⟨(some 38), .pick (.tmp 31) (.const (.bool true)) (.tmp 37), none⟩,
  ⟨(some 39), .move (.tmp 38), none⟩,
  ⟨(some 40), .move (.tmp 5), (some ((some 39), false))⟩,
  ⟨(some 41), .bin .eql (.tmp 40) (.const (.int .u8 (.ofNat 95))), (some ((some 39), false))⟩,
  ⟨(some 42), .pick (.tmp 39) (.const (.bool true)) (.tmp 41), none⟩,
  ⟨(some 4), .move (.tmp 42), none⟩] none
/- ferret/prog.wordly -/
def f53 : IFn := ⟨43, [.inl 4], (.seq f53r0 (.seq (.seq f53r1 (.cond (.tmp 13) (.seq f53r2 .ret) .skip)) (.seq f53r3 (.seq f53r4 .ret))))⟩
def f54r0 : ICode := .region [
  ⟨(some 2), .move (.const (.int .i64 (.ofNat 0))), none⟩,
  ⟨(some 3), .move (.const (.int .u8 (.ofNat 0))), none⟩,
  ⟨(some 4), .move (.const (.int .u8 (.ofNat 0))), none⟩,
  ⟨(some 5), .move (.const (.int .i64 (.ofNat 0))), none⟩] none
def f54r1 : ICode := .region [
  ⟨(some 10), .move (.tmp 0), none⟩,
  ⟨(some 11), .bin .lss (.tmp 10) (.const (.int .u8 (.ofNat 128))), none⟩,
  ⟨(some 9), .move (.tmp 11), none⟩] none
def f54r2 : ICode := .region [
  ⟨(some 12), .move (.tmp 0), none⟩,
  ⟨(some 13), .conv .i64 (.tmp 12), none⟩,
  ⟨(some 2), .move (.const (.int .i64 (.ofNat 0))), none⟩,
  ⟨(some 3), .move (.const (.int .u8 (.ofNat 0))), none⟩,
  ⟨(some 4), .move (.const (.int .u8 (.ofNat 0))), none⟩,
  ⟨(some 5), .move (.tmp 13), none⟩] none
def f54r3 : ICode := .region [
  ⟨(some 15), .move (.tmp 0), none⟩,
  ⟨(some 16), .bin .lss (.tmp 15) (.const (.int .u8 (.ofNat 194))), none⟩,
  ⟨(some 17), .move (.tmp 16), none⟩,
  ⟨(some 18), .move (.tmp 0), (some ((some 17), false))⟩,
  ⟨(some 19), .bin .gtr (.tmp 18) (.const (.int .u8 (.ofNat 244))), (some ((some 17), false))⟩,
  ⟨(some 20), .pick (.tmp 17) (.const (.bool true)) (.tmp 19), none⟩,
  ⟨(some 14), .move (.tmp 20), none⟩] none
def f54r4 : ICode := .region [
  ⟨(some 2), .move (.const (.int .i64 (.negSucc 0))), none⟩,
  ⟨(some 3), .move (.const (.int .u8 (.ofNat 0))), none⟩,
  ⟨(some 4), .move (.const (.int .u8 (.ofNat 0))), none⟩,
  ⟨(some 5), .move (.const (.int .i64 (.ofNat 0))), none⟩] none
def f54r5 : ICode := .region [
  ⟨(some 22), .move (.tmp 0), none⟩,
  ⟨(some 23), .bin .lss (.tmp 22) (.const (.int .u8 (.ofNat 224))), none⟩,
  ⟨(some 21), .move (.tmp 23), none⟩] none
def f54r6 : ICode := .region [
  ⟨(some 24), .move (.tmp 0), none⟩,
  ⟨(some 25), .bin .and (.tmp 24) (.const (.int .u8 (.ofNat 31))), none⟩,
  ⟨(some 26), .conv .i64 (.tmp 25), none⟩,
  ⟨(some 2), .move (.const (.int .i64 (.ofNat 1))), none⟩,
  ⟨(some 5), .move (.tmp 26), none⟩] none
def f54r7 : ICode := .region [
  ⟨(some 28), .move (.tmp 0), none⟩,
  ⟨(some 29), .bin .lss (.tmp 28) (.const (.int .u8 (.ofNat 240))), none⟩,
  ⟨(some 27), .move (.tmp 29), none⟩] none
def f54r8 : ICode := .region [
  ⟨(some 30), .move (.tmp 0), none⟩,
  ⟨(some 31), .bin .and (.tmp 30) (.const (.int .u8 (.ofNat 15))), none⟩,
  ⟨(some 32), .conv .i64 (.tmp 31), none⟩,
  ⟨(some 2), .move (.const (.int .i64 (.ofNat 2))), none⟩,
  ⟨(some 5), .move (.tmp 32), none⟩] none
def f54r9 : ICode := .region [
  ⟨(some 6), .move (.tmp 0), none⟩,
  ⟨(some 7), .bin .and (.tmp 6) (.const (.int .u8 (.ofNat 7))), none⟩,
  ⟨(some 8), .conv .i64 (.tmp 7), none⟩,
  ⟨(some 2), .move (.const (.int .i64 (.ofNat 3))), none⟩,
  ⟨(some 5), .move (.tmp 8), none⟩] none
def f54r10 : ICode := .region [
  ⟨(some 3), .move (.const (.int .u8 (.ofNat 128))), none⟩,
  ⟨(some 4), .move (.const (.int .u8 (.ofNat 191))), none⟩] none
def f54r11 : ICode := .region [
  ⟨(some 33), .move (.tmp 0), none⟩] none
def f54r12 : ICode := .region [
  ⟨(some 35), .bin .eql (.tmp 33) (.const (.int .u8 (.ofNat 224))), none⟩,
  ⟨(some 34), .move (.tmp 35), none⟩] none
def f54r13 : ICode := .region [
  ⟨(some 3), .move (.const (.int .u8 (.ofNat 160))), none⟩] none
def f54r14 : ICode := .region [
  ⟨(some 37), .bin .eql (.tmp 33) (.const (.int .u8 (.ofNat 237))), none⟩,
  ⟨(some 36), .move (.tmp 37), none⟩] none
def f54r15 : ICode := .region [
  ⟨(some 4), .move (.const (.int .u8 (.ofNat 159))), none⟩] none
def f54r16 : ICode := .region [
  ⟨(some 39), .bin .eql (.tmp 33) (.const (.int .u8 (.ofNat 240))), none⟩,
  ⟨(some 38), .move (.tmp 39), none⟩] none
def f54r17 : ICode := .region [
  ⟨(some 3), .move (.const (.int .u8 (.ofNat 144))), none⟩] none
def f54r18 : ICode := .region [
  ⟨(some 41), .bin .eql (.tmp 33) (.const (.int .u8 (.ofNat 244))), none⟩,
  ⟨(some 40), .move (.tmp 41), none⟩] none
def f54r19 : ICode := .region [
  ⟨(some 4), .move (.const (.int .u8 (.ofNat 143))), none⟩] none
def f54r20 : ICode := .region [
  ⟨(some 42), .move (.tmp 2), none⟩,
  ⟨(some 43), .move (.tmp 3), none⟩,
  ⟨(some 44), .move (.tmp 4), none⟩,
  ⟨(some 45), .move (.tmp 5), none⟩,
  ⟨(some 2), .move (.tmp 42), none⟩,
  ⟨(some 3), .move (.tmp 43), none⟩,
  ⟨(some 4), .move (.tmp 44), none⟩,
  ⟨(some 5), .move (.tmp 45), none⟩] none
/- ferret/coding.shape -/
def f54 : IFn := ⟨46, [.inl 2, .inl 3, .inl 4, .inl 5], (.seq f54r0 (.seq (.block 0 (.seq f54r1 (.cond (.tmp 9) (.seq f54r2 .ret) (.seq f54r3 (.cond (.tmp 14) (.seq f54r4 .ret) (.seq f54r5 (.cond (.tmp 21) f54r6 (.seq f54r7 (.cond (.tmp 27) f54r8 f54r9))))))))) (.seq f54r10 (.seq (.seq f54r11 (.block 1 (.seq f54r12 (.cond (.tmp 34) f54r13 (.seq f54r14 (.cond (.tmp 36) f54r15 (.seq f54r16 (.cond (.tmp 38) f54r17 (.seq f54r18 (.cond (.tmp 40) f54r19 .skip)))))))))) (.seq f54r20 .ret)))))⟩
def f38r0 : ICode := .region [
  ⟨(some 2), .box 9 (.tmp 0), none⟩,
  ⟨(some 3), .box 4 (.tmp 1), none⟩,
  ⟨(some 4), .move (.const (.int .i64 (.ofNat 0))), none⟩,
  ⟨(some 5), .move (.const (.int .i64 (.ofNat 0))), none⟩] none
def f38r1 : ICode := .region [
  ⟨(some 9), .mkFunc (.func 55) [] [(.tmp 2), (.tmp 3)], none⟩,
  ⟨(some 6), .move (.tmp 9), none⟩] none
def f38r2 : ICode := .region [
  ⟨(some 10), .move (.tmp 6), none⟩,
  ⟨(some 11), .callv (.tmp 10) [(.const (.int .i64 (.ofNat 0)))], none⟩,
  ⟨(some 7), .move (.tmp 11), none⟩] none
def f38r3 : ICode := .region [
  ⟨(some 13), .move (.tmp 7), none⟩,
  ⟨(some 14), .bin .lss (.tmp 13) (.const (.int .i64 (.ofNat 0))), none⟩,
  ⟨(some 12), .move (.tmp 14), none⟩] none
def f38r4 : ICode := .region [
  ⟨(some 4), .move (.const (.int .i64 (.negSucc 0))), none⟩,
  ⟨(some 5), .move (.const (.int .i64 (.ofNat 1))), none⟩] none
def f38r5 : ICode := .region [
  ⟨(some 16), .move (.tmp 7), none⟩,
  ⟨(some 17), .bin .lss (.tmp 16) (.const (.int .i64 (.ofNat 55296))), none⟩,
  ⟨(some 18), .move (.tmp 17), none⟩,
  ⟨(some 19), .move (.tmp 7), (some ((some 18), false))⟩,
  ⟨(some 20), .bin .gtr (.tmp 19) (.const (.int .i64 (.ofNat 57343))), (some ((some 18), false))⟩,
  ⟨(some 21), .pick (.tmp 18) (.const (.bool true)) (.tmp 20), none⟩,
  ⟨(some 15), .move (.tmp 21), none⟩] none
def f38r6 : ICode := .region [
  ⟨(some 22), .move (.tmp 7), none⟩,
  ⟨(some 4), .move (.tmp 22), none⟩,
  ⟨(some 5), .move (.const (.int .i64 (.ofNat 2))), none⟩] none
def f38r7 : ICode := .region [
  ⟨(some 24), .move (.tmp 7), none⟩,
  ⟨(some 25), .bin .geq (.tmp 24) (.const (.int .i64 (.ofNat 56320))), none⟩,
  ⟨(some 23), .move (.tmp 25), none⟩] none
def f38r8 : ICode := .region [
  ⟨(some 4), .move (.const (.int .i64 (.negSucc 0))), none⟩,
  ⟨(some 5), .move (.const (.int .i64 (.ofNat 2))), none⟩] none
def f38r9 : ICode := .region [
  ⟨(some 26), .move (.tmp 6), none⟩,
  ⟨(some 27), .callv (.tmp 26) [(.const (.int .i64 (.ofNat 2)))], none⟩,
  ⟨(some 8), .move (.tmp 27), none⟩] none
def f38r10 : ICode := .region [
  ⟨(some 28), .move (.tmp 8), none⟩,
  ⟨(some 29), .bin .lss (.tmp 28) (.const (.int .i64 (.ofNat 56320))), none⟩,
  ⟨(some 30), .move (.tmp 29), none⟩,
  ⟨(some 31), .move (.tmp 8), (some ((some 30), false))⟩,
  ⟨(some 32), .bin .gtr (.tmp 31) (.const (.int .i64 (.ofNat 57343))), (some ((some 30), false))⟩,
  ⟨(some 33), .pick (.tmp 30) (.const (.bool true)) (.tmp 32), none⟩] none
def f38r11 : ICode := .region [
  ⟨(some 4), .move (.const (.int .i64 (.negSucc 0))), none⟩,
  ⟨(some 5), .move (.const (.int .i64 (.ofNat 2))), none⟩] none
def f38r12 : ICode := .region [
  ⟨(some 34), .move (.tmp 7), none⟩,
  ⟨(some 35), .bin .sub (.tmp 34) (.const (.int .i64 (.ofNat 55296))), none⟩,
  ⟨(some 36), .bin .shl (.tmp 35) (.const (.int .u64 (.ofNat 10))), none⟩,
  ⟨(some 37), .bin .add (.const (.int .i64 (.ofNat 65536))) (.tmp 36), none⟩,
  ⟨(some 38), .move (.tmp 8), none⟩,
  ⟨(some 39), .bin .add (.tmp 37) (.tmp 38), none⟩,
  ⟨(some 40), .bin .sub (.tmp 39) (.const (.int .i64 (.ofNat 56320))), none⟩,
  ⟨(some 4), .move (.tmp 40), none⟩,
  ⟨(some 5), .move (.const (.int .i64 (.ofNat 4))), none⟩] none
/- ferret/coding.wide -/
def f38 : IFn := ⟨41, [.inl 4, .inl 5], (.seq f38r0 (.seq f38r1 (.seq f38r2 (.seq (.block 0 (.seq f38r3 (.cond (.tmp 12) (.seq f38r4 .ret) (.seq f38r5 (.cond (.tmp 15) (.seq f38r6 .ret) (.seq f38r7 (.cond (.tmp 23) (.seq f38r8 .ret) .skip))))))) (.seq f38r9 (.seq (.seq f38r10 (.cond (.tmp 33) (.seq f38r11 .ret) .skip)) (.seq f38r12 .ret)))))))⟩
def f56r0 : ICode := .region [
  ⟨(some 6), .move (.const (.bool false)), none⟩] none
def f56r1 : ICode := .region [
  ⟨(some 8), .move (.tmp 2), none⟩,
  ⟨(some 9), .bin .neq (.tmp 8) (.const (.int .i64 (.ofNat 256))), none⟩,
  ⟨(some 10), .move (.tmp 9), none⟩,
  ⟨(some 11), .move (.tmp 2), (some ((some 10), true))⟩,
  ⟨(some 12), .call 26 [(.tmp 11)], (some ((some 10), true))⟩,
  ⟨(some 13), .bin .eql (.tmp 12) (.const (.int .i64 (.ofNat 2))), (some ((some 10), true))⟩,
  ⟨(some 14), .pick (.tmp 10) (.tmp 13) (.const (.bool false)), none⟩,
  ⟨(some 7), .move (.tmp 14), none⟩] none
def f56r2 : ICode := .region [
  ⟨(some 15), .move (.tmp 0), none⟩] none
def f56r3 : ICode := .region [
  ⟨(some 17), .bin .eql (.tmp 15) (.const (.int .i64 (.ofNat 2))), none⟩,
  ⟨(some 16), .move (.tmp 17), none⟩] none
def f56r4 : ICode := .region [
  ⟨(some 18), .move (.tmp 1), none⟩,
  ⟨(some 19), .bin .eql (.tmp 18) (.const (.int .i64 (.ofNat 0))), none⟩,
  ⟨(some 6), .move (.tmp 19), none⟩] none
def f56r5 : ICode := .region [
  ⟨(some 21), .bin .eql (.tmp 15) (.const (.int .i64 (.ofNat 3))), none⟩,
  ⟨(some 20), .move (.tmp 21), none⟩] none
def f56r6 : ICode := .region [
  ⟨(some 22), .move (.tmp 2), none⟩,
  ⟨(some 23), .bin .eql (.tmp 22) (.const (.int .i64 (.ofNat 256))), none⟩,
  ⟨(some 6), .move (.tmp 23), none⟩] none
def f56r7 : ICode := .region [
  ⟨(some 25), .bin .eql (.tmp 15) (.const (.int .i64 (.ofNat 4))), none⟩,
  ⟨(some 24), .move (.tmp 25), none⟩] none
def f56r8 : ICode := .region [
  ⟨(some 26), .move (.tmp 1), none⟩,
  ⟨(some 27), .bin .eql (.tmp 26) (.const (.int .i64 (.ofNat 0))), none⟩,
  ⟨(some 28), .move (.tmp 27), none⟩,
  ⟨(some 29), .move (.tmp 1), (some ((some 28), false))⟩,
  ⟨(some 30), .bin .eql (.tmp 29) (.const (.int .i64 (.ofNat 1))), (some ((some 28), false))⟩,
  ⟨(some 31), .pick (.tmp 28) (.const (.bool true)) (.tmp 30), none⟩,
  ⟨(some 6), .move (.tmp 31), none⟩] none
def f56r9 : ICode := .region [
  ⟨(some 33), .bin .eql (.tmp 15) (.const (.int .i64 (.ofNat 5))), none⟩,
  ⟨(some 32), .move (.tmp 33), none⟩] none
def f56r10 : ICode := .region [
  ⟨(some 34), .move (.tmp 2), none⟩,
  ⟨(some 35), .bin .eql (.tmp 34) (.const (.int .i64 (.ofNat 256))), none⟩,
  ⟨(some 36), .move (.tmp 35), none⟩,
  ⟨(some 37), .move (.tmp 2), (some ((some 36), false))⟩,
  ⟨(some 38), .bin .eql (.tmp 37) (.const (.int .i64 (.ofNat 10))), (some ((some 36), false))⟩,
  ⟨(some 39), .pick (.tmp 36) (.const (.bool true)) (.tmp 38), none⟩,
  ⟨(some 6), .move (.tmp 39), none⟩] none
def f56r11 : ICode := .region [
  ⟨(some 41), .bin .eql (.tmp 15) (.const (.int .i64 (.ofNat 6))), none⟩,
  ⟨(some 40), .move (.tmp 41), none⟩] none
def f56r12 : ICode := .region [
  ⟨(some 42), .move (.tmp 1), none⟩,
  ⟨(some 43), .bin .eql (.tmp 42) (.const (.int .i64 (.ofNat 2))), none⟩,
  ⟨(some 44), .move (.tmp 7), none⟩,
  ⟨(some 45), .eqB true (.tmp 43) (.tmp 44), none⟩,
  ⟨(some 6), .move (.tmp 45), none⟩] none
def f56r13 : ICode := .region [
  ⟨(some 46), .move (.tmp 1), none⟩,
  ⟨(some 47), .bin .eql (.tmp 46) (.const (.int .i64 (.ofNat 2))), none⟩,
  ⟨(some 48), .move (.tmp 7), none⟩,
  ⟨(some 49), .eqB false (.tmp 47) (.tmp 48), none⟩,
  ⟨(some 6), .move (.tmp 49), none⟩] none
/- ferret/dfa.holds -/
def f56 : IFn := ⟨50, [.inl 6], (.seq f56r0 (.seq f56r1 (.seq (.seq f56r2 (.block 0 (.seq f56r3 (.cond (.tmp 16) (.seq f56r4 .ret) (.seq f56r5 (.cond (.tmp 20) (.seq f56r6 .ret) (.seq f56r7 (.cond (.tmp 24) (.seq f56r8 .ret) (.seq f56r9 (.cond (.tmp 32) (.seq f56r10 .ret) (.seq f56r11 (.cond (.tmp 40) (.seq f56r12 .ret) .skip)))))))))))) (.seq f56r13 .ret))))⟩
def f57r0 : ICode := .region [
  ⟨(some 4), .move (.const (.int .i64 (.ofNat 0))), none⟩] none
def f57r1 : ICode := .region [
  ⟨(some 5), .move (.tmp 0), none⟩,
  ⟨(some 6), .nilCheck (.tmp 5), none⟩,
  ⟨(some 7), .fieldAddr 4 (.tmp 6), none⟩,
  ⟨(some 8), .load1 (.tmp 7), none⟩,
  ⟨(some 9), .move (.tmp 1), none⟩,
  ⟨(some 10), .bin .add (.tmp 8) (.tmp 9), none⟩,
  ⟨(some 11), .move (.tmp 0), none⟩,
  ⟨(some 12), .nilCheck (.tmp 11), none⟩,
  ⟨(some 13), .fieldAddr 0 (.tmp 12), none⟩,
  ⟨(some 14), .fieldAddr 1 (.tmp 13), none⟩,
  ⟨(some 15), .load1 (.tmp 14), none⟩,
  ⟨(some 16), .len 1 (.tmp 15), none⟩,
  ⟨(some 17), .bin .geq (.tmp 10) (.tmp 16), none⟩] (some ⟨[], []⟩)
def f57r2 : ICode := .region [
  ⟨(some 4), .move (.const (.int .i64 (.negSucc 0))), none⟩] none
def f57r3 : ICode := .region [
  ⟨(some 18), .move (.tmp 0), none⟩,
  ⟨(some 19), .nilCheck (.tmp 18), none⟩,
  ⟨(some 20), .fieldAddr 0 (.tmp 19), none⟩,
  ⟨(some 21), .fieldAddr 1 (.tmp 20), none⟩,
  ⟨(some 22), .load1 (.tmp 21), none⟩,
  ⟨(some 23), .move (.tmp 0), none⟩,
  ⟨(some 24), .nilCheck (.tmp 23), none⟩,
  ⟨(some 25), .fieldAddr 4 (.tmp 24), none⟩,
  ⟨(some 26), .load1 (.tmp 25), none⟩,
  ⟨(some 27), .move (.tmp 1), none⟩,
  ⟨(some 28), .bin .add (.tmp 26) (.tmp 27), none⟩,
  ⟨(some 29), .indexSl 1 (.tmp 22) (.tmp 28), none⟩,
  ⟨(some 30), .load1 (.tmp 29), none⟩,
  ⟨(some 4), .move (.tmp 30), none⟩] (some ⟨[], []⟩)
/- (*ferret/syn.parser).peek -/
def f57 : IFn := ⟨31, [.inl 4], (.seq f57r0 (.seq (.seq f57r1 (.cond (.tmp 17) (.seq f57r2 .ret) .skip)) (.seq f57r3 .ret)))⟩
def f58r0 : ICode := .region [
  ⟨(some 6), .move (.tmp 1), none⟩,
  ⟨(some 7), .move (.tmp 0), none⟩,
  ⟨(some 8), .nilCheck (.tmp 7), none⟩,
  ⟨(some 9), .fieldAddr 0 (.tmp 8), none⟩,
  ⟨(some 10), .fieldAddr 2 (.tmp 9), none⟩,
  ⟨(some 11), .load1 (.tmp 10), none⟩,
  ⟨(some 12), .move (.tmp 2), none⟩,
  ⟨(some 13), .indexSl 1 (.tmp 11) (.tmp 12), none⟩,
  ⟨(some 14), .load1 (.tmp 13), none⟩,
  ⟨(some 15), .build [(.int .i64 (.ofNat 0)), (.int .i64 (.ofNat 0))] [(0, 1, (.tmp 6)), (1, 1, (.tmp 14))], none⟩,
  ⟨(some 16), .mkIface 98 (.tmp 15), none⟩,
  ⟨none, .bad, none⟩] none
/- (*ferret/syn.parser).fail -/
def f58 : IFn := ⟨17, [], f58r0⟩
end Go.Am.Zt
