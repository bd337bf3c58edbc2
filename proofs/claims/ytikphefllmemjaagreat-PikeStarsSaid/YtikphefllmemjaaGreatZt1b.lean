import Derived.Test.YtikphefllmemjaaGreatZt1a
/-
The table of the program for the engine: printed by a program of mine.
-/
namespace Go.Am.Zt
open Go Go.Am
set_option maxRecDepth 100000
def f59r0 : ICode := .region [
  ⟨(some 2), .move (.const (.int .i64 (.ofNat 0))), none⟩,
  ⟨(some 3), .move (.const (.int .i64 (.ofNat 0))), none⟩,
  ⟨(some 4), .move (.const (.bool false)), none⟩] none
def f59r1 : ICode := .region [
  ⟨(some 9), .move (.tmp 0), none⟩,
  ⟨(some 10), .call 45 [(.tmp 9), (.const (.string ⟨⟨[42]⟩⟩))], none⟩,
  ⟨(some 8), .move (.tmp 10), none⟩] none
def f59r2 : ICode := .region [
  ⟨(some 2), .move (.const (.int .i64 (.ofNat 0))), none⟩,
  ⟨(some 3), .move (.const (.int .i64 (.negSucc 0))), none⟩,
  ⟨(some 4), .move (.const (.bool true)), none⟩] none
def f59r3 : ICode := .region [
  ⟨(some 12), .move (.tmp 0), none⟩,
  ⟨(some 13), .call 45 [(.tmp 12), (.const (.string ⟨⟨[43]⟩⟩))], none⟩,
  ⟨(some 11), .move (.tmp 13), none⟩] none
def f59r4 : ICode := .region [
  ⟨(some 2), .move (.const (.int .i64 (.ofNat 1))), none⟩,
  ⟨(some 3), .move (.const (.int .i64 (.negSucc 0))), none⟩,
  ⟨(some 4), .move (.const (.bool true)), none⟩] none
def f59r5 : ICode := .region [
  ⟨(some 15), .move (.tmp 0), none⟩,
  ⟨(some 16), .call 45 [(.tmp 15), (.const (.string ⟨⟨[63]⟩⟩))], none⟩,
  ⟨(some 14), .move (.tmp 16), none⟩] none
def f59r6 : ICode := .region [
  ⟨(some 2), .move (.const (.int .i64 (.ofNat 0))), none⟩,
  ⟨(some 3), .move (.const (.int .i64 (.ofNat 1))), none⟩,
  ⟨(some 4), .move (.const (.bool true)), none⟩] none
def f59r7 : ICode := .region [
  ⟨(some 17), .move (.tmp 0), none⟩,
  ⟨(some 18), .nilCheck (.tmp 17), none⟩,
  ⟨(some 19), .fieldAddr 4 (.tmp 18), none⟩,
  ⟨(some 20), .load1 (.tmp 19), none⟩,
  ⟨(some 5), .move (.tmp 20), none⟩] none
def f59r8 : ICode := .region [
  ⟨(some 21), .move (.tmp 0), none⟩,
  ⟨(some 22), .call 45 [(.tmp 21), (.const (.string ⟨⟨[123]⟩⟩))], none⟩,
  ⟨(some 23), .un .not (.tmp 22), none⟩] none
def f59r9 : ICode := .region [
  ⟨(some 2), .move (.const (.int .i64 (.ofNat 0))), none⟩,
  ⟨(some 3), .move (.const (.int .i64 (.ofNat 0))), none⟩,
  ⟨(some 4), .move (.const (.bool false)), none⟩] none
def f59r10 : ICode := .region [
  ⟨(some 25), .move (.tmp 0), none⟩,
  ⟨(some 26), .call 72 [(.tmp 25)], none⟩,
  ⟨(some 24), .move (.tmp 26), none⟩,
  ⟨(some 27), .extract (.tmp 24) 0, none⟩,
  ⟨(some 28), .extract (.tmp 24) 1, none⟩,
  ⟨(some 2), .move (.tmp 27), none⟩,
  ⟨(some 4), .move (.tmp 28), none⟩] none
def f59r11 : ICode := .region [
  ⟨(some 29), .move (.tmp 2), none⟩,
  ⟨(some 3), .move (.tmp 29), none⟩] none
def f59r12 : ICode := .region [
  ⟨(some 30), .move (.tmp 4), none⟩,
  ⟨(some 31), .move (.tmp 30), none⟩,
  ⟨(some 32), .move (.tmp 0), (some ((some 31), true))⟩,
  ⟨(some 33), .call 45 [(.tmp 32), (.const (.string ⟨⟨[44]⟩⟩))], (some ((some 31), true))⟩,
  ⟨(some 34), .pick (.tmp 31) (.tmp 33) (.const (.bool false)), none⟩] none
def f59r13 : ICode := .region [
  ⟨(some 3), .move (.const (.int .i64 (.negSucc 0))), none⟩] none
def f59r14 : ICode := .region [
  ⟨(some 36), .move (.tmp 0), none⟩,
  ⟨(some 37), .call 72 [(.tmp 36)], none⟩,
  ⟨(some 35), .move (.tmp 37), none⟩,
  ⟨(some 38), .extract (.tmp 35) 0, none⟩,
  ⟨(some 39), .extract (.tmp 35) 1, none⟩,
  ⟨(some 6), .move (.tmp 38), none⟩,
  ⟨(some 7), .move (.tmp 39), none⟩] none
def f59r15 : ICode := .region [
  ⟨(some 40), .move (.tmp 7), none⟩] none
def f59r16 : ICode := .region [
  ⟨(some 41), .move (.tmp 6), none⟩,
  ⟨(some 3), .move (.tmp 41), none⟩] none
def f59r17 : ICode := .region [
  ⟨(some 42), .move (.tmp 4), none⟩,
  ⟨(some 43), .move (.tmp 42), none⟩,
  ⟨(some 44), .move (.tmp 0), (some ((some 43), true))⟩,
  ⟨(some 45), .call 45 [(.tmp 44), (.const (.string ⟨⟨[125]⟩⟩))], (some ((some 43), true))⟩,
  ⟨(some 46), .pick (.tmp 43) (.tmp 45) (.const (.bool false)), none⟩] none
def f59r18 : ICode := .region [
  ⟨(some 47), .move (.tmp 2), none⟩,
  ⟨(some 48), .move (.tmp 3), none⟩,
  ⟨(some 2), .move (.tmp 47), none⟩,
  ⟨(some 3), .move (.tmp 48), none⟩,
  ⟨(some 4), .move (.const (.bool true)), none⟩] none
def f59r19 : ICode := .region [
  ⟨(some 49), .move (.tmp 0), none⟩,
  ⟨(some 50), .move (.tmp 5), none⟩,
  ⟨(some 51), .nilCheck (.tmp 49), none⟩,
  ⟨(some 52), .fieldAddr 4 (.tmp 51), none⟩,
  ⟨none, .store 1 (.tmp 52) (.tmp 50), none⟩] none
def f59r20 : ICode := .region [
  ⟨(some 2), .move (.const (.int .i64 (.ofNat 0))), none⟩,
  ⟨(some 3), .move (.const (.int .i64 (.ofNat 0))), none⟩,
  ⟨(some 4), .move (.const (.bool false)), none⟩] none
/- (*ferret/syn.parser).times -/
def f59 : IFn := ⟨53, [.inl 2, .inl 3, .inl 4], (.seq f59r0 (.seq (.block 0 (.seq f59r1 (.cond (.tmp 8) (.seq f59r2 .ret) (.seq f59r3 (.cond (.tmp 11) (.seq f59r4 .ret) (.seq f59r5 (.cond (.tmp 14) (.seq f59r6 .ret) .skip))))))) (.seq f59r7 (.seq (.seq f59r8 (.cond (.tmp 23) (.seq f59r9 .ret) .skip)) (.seq f59r10 (.seq f59r11 (.seq (.seq f59r12 (.cond (.tmp 34) (.seq f59r13 (.seq f59r14 (.seq f59r15 (.cond (.tmp 40) f59r16 .skip)))) .skip)) (.seq (.seq f59r17 (.cond (.tmp 46) (.seq f59r18 .ret) .skip)) (.seq f59r19 (.seq f59r20 .ret))))))))))⟩
def f60r0 : ICode := .region [
  ⟨(some 2), .new [(.int .i64 (.ofNat 0)), (.slice none 0 0), (.bool false), (.int .i64 (.ofNat 0)), (.int .i64 (.ofNat 0)), (.bool false), (.int .i64 (.ofNat 0)), (.string ⟨⟨[]⟩⟩), (.slice none 0 0)] 54, none⟩,
  ⟨(some 3), .move (.const (.bool false)), none⟩] none
def f60r1 : ICode := .region [
  ⟨(some 10), .move (.tmp 0), none⟩,
  ⟨(some 11), .nilCheck (.tmp 10), none⟩,
  ⟨(some 12), .fieldAddr 4 (.tmp 11), none⟩,
  ⟨(some 13), .load1 (.tmp 12), none⟩,
  ⟨(some 4), .move (.tmp 13), none⟩] none
def f60r2 : ICode := .region [
  ⟨(some 15), .move (.tmp 0), none⟩,
  ⟨(some 16), .call 45 [(.tmp 15), (.const (.string ⟨⟨[40]⟩⟩))], none⟩,
  ⟨(some 14), .move (.tmp 16), none⟩] none
def f60r3 : ICode := .region [
  ⟨(some 17), .move (.tmp 0), none⟩,
  ⟨(some 18), .move (.tmp 4), none⟩,
  ⟨(some 19), .call 73 [(.tmp 17), (.tmp 18)], none⟩,
  ⟨(some 20), .extract (.tmp 19) 0, none⟩,
  ⟨(some 21), .extract (.tmp 19) 1, none⟩,
  ⟨none, .store 9 (.tmp 2) (.tmp 20), none⟩,
  ⟨(some 3), .move (.tmp 21), none⟩] none
def f60r4 : ICode := .region [
  ⟨(some 23), .move (.tmp 0), none⟩,
  ⟨(some 24), .call 45 [(.tmp 23), (.const (.string ⟨⟨[46]⟩⟩))], none⟩,
  ⟨(some 22), .move (.tmp 24), none⟩] none
def f60r5 : ICode := .region [
  ⟨(some 25), .build [(.int .i64 (.ofNat 0)), (.int .i64 (.ofNat 0))] [(1, 1, (.const (.int .i64 (.ofNat 1114111))))], none⟩,
  ⟨(some 26), .buildSlice 75 1 [(.int .i64 (.ofNat 0)), (.int .i64 (.ofNat 0))] [(0, 2, (.tmp 25))], none⟩,
  ⟨(some 27), .call 65 [(.tmp 26)], none⟩,
  ⟨(some 5), .move (.tmp 27), none⟩] none
def f60r6 : ICode := .region [
  ⟨(some 28), .move (.tmp 0), none⟩,
  ⟨(some 29), .nilCheck (.tmp 28), none⟩,
  ⟨(some 30), .fieldAddr 7 (.tmp 29), none⟩,
  ⟨(some 31), .fieldAddr 2 (.tmp 30), none⟩,
  ⟨(some 32), .load1 (.tmp 31), none⟩,
  ⟨(some 33), .un .not (.tmp 32), none⟩] none
def f60r7 : ICode := .region [
  ⟨(some 34), .move (.tmp 5), none⟩,
  ⟨(some 35), .call 74 [(.const (.int .i64 (.ofNat 10)))], none⟩,
  ⟨(some 36), .call 64 [(.tmp 34), (.tmp 35)], none⟩,
  ⟨(some 5), .move (.tmp 36), none⟩] none
def f60r8 : ICode := .region [
  ⟨(some 37), .move (.tmp 0), none⟩,
  ⟨(some 38), .move (.tmp 5), none⟩,
  ⟨(some 39), .call 75 [(.tmp 37), (.tmp 38)], none⟩,
  ⟨none, .store 9 (.tmp 2) (.tmp 39), none⟩,
  ⟨(some 3), .move (.const (.bool true)), none⟩] none
def f60r9 : ICode := .region [
  ⟨(some 41), .move (.tmp 0), none⟩,
  ⟨(some 42), .call 45 [(.tmp 41), (.const (.string ⟨⟨[94]⟩⟩))], none⟩,
  ⟨(some 40), .move (.tmp 42), none⟩] none
def f60r10 : ICode := .region [
  ⟨(some 43), .move (.tmp 0), none⟩,
  ⟨(some 44), .nilCheck (.tmp 43), none⟩,
  ⟨(some 45), .fieldAddr 7 (.tmp 44), none⟩,
  ⟨(some 46), .fieldAddr 1 (.tmp 45), none⟩,
  ⟨(some 47), .load1 (.tmp 46), none⟩,
  ⟨(some 48), .call 76 [(.tmp 47), (.const (.int .i64 (.ofNat 4))), (.const (.int .i64 (.ofNat 2)))], none⟩,
  ⟨(some 49), .build [(.int .i64 (.ofNat 0)), (.slice none 0 0), (.bool false), (.int .i64 (.ofNat 0)), (.int .i64 (.ofNat 0)), (.bool false), (.int .i64 (.ofNat 0)), (.string ⟨⟨[]⟩⟩), (.slice none 0 0)] [(0, 1, (.tmp 48))], none⟩,
  ⟨none, .store 9 (.tmp 2) (.tmp 49), none⟩,
  ⟨(some 3), .move (.const (.bool true)), none⟩] none
def f60r11 : ICode := .region [
  ⟨(some 51), .move (.tmp 0), none⟩,
  ⟨(some 52), .call 45 [(.tmp 51), (.const (.string ⟨⟨[36]⟩⟩))], none⟩,
  ⟨(some 50), .move (.tmp 52), none⟩] none
def f60r12 : ICode := .region [
  ⟨(some 53), .move (.tmp 0), none⟩,
  ⟨(some 54), .nilCheck (.tmp 53), none⟩,
  ⟨(some 55), .fieldAddr 7 (.tmp 54), none⟩,
  ⟨(some 56), .fieldAddr 1 (.tmp 55), none⟩,
  ⟨(some 57), .load1 (.tmp 56), none⟩,
  ⟨(some 58), .call 76 [(.tmp 57), (.const (.int .i64 (.ofNat 5))), (.const (.int .i64 (.ofNat 3)))], none⟩,
  ⟨(some 59), .build [(.int .i64 (.ofNat 0)), (.slice none 0 0), (.bool false), (.int .i64 (.ofNat 0)), (.int .i64 (.ofNat 0)), (.bool false), (.int .i64 (.ofNat 0)), (.string ⟨⟨[]⟩⟩), (.slice none 0 0)] [(0, 1, (.tmp 58))], none⟩,
  ⟨none, .store 9 (.tmp 2) (.tmp 59), none⟩,
  ⟨(some 3), .move (.const (.bool true)), none⟩] none
def f60r13 : ICode := .region [
  ⟨(some 61), .move (.tmp 0), none⟩,
  ⟨(some 62), .call 45 [(.tmp 61), (.const (.string ⟨⟨[91]⟩⟩))], none⟩,
  ⟨(some 60), .move (.tmp 62), none⟩] none
def f60r14 : ICode := .region [
  ⟨(some 63), .move (.tmp 0), none⟩,
  ⟨(some 64), .move (.tmp 0), none⟩,
  ⟨(some 65), .move (.tmp 4), none⟩,
  ⟨(some 66), .call 77 [(.tmp 64), (.tmp 65)], none⟩,
  ⟨(some 67), .call 75 [(.tmp 63), (.tmp 66)], none⟩,
  ⟨none, .store 9 (.tmp 2) (.tmp 67), none⟩,
  ⟨(some 3), .move (.const (.bool true)), none⟩] none
def f60r15 : ICode := .region [
  ⟨(some 69), .move (.tmp 0), none⟩,
  ⟨(some 70), .call 45 [(.tmp 69), (.const (.string ⟨⟨[92]⟩⟩))], none⟩,
  ⟨(some 68), .move (.tmp 70), none⟩] none
def f60r16 : ICode := .region [
  ⟨(some 71), .build [(.string ⟨⟨[]⟩⟩), (.int .i64 (.ofNat 0))] [(0, 1, (.const (.string ⟨⟨[65]⟩⟩))), (1, 1, (.const (.int .i64 (.ofNat 2))))], none⟩,
  ⟨(some 72), .build [(.string ⟨⟨[]⟩⟩), (.int .i64 (.ofNat 0))] [(0, 1, (.const (.string ⟨⟨[122]⟩⟩))), (1, 1, (.const (.int .i64 (.ofNat 3))))], none⟩,
  ⟨(some 73), .build [(.string ⟨⟨[]⟩⟩), (.int .i64 (.ofNat 0))] [(0, 1, (.const (.string ⟨⟨[98]⟩⟩))), (1, 1, (.const (.int .i64 (.ofNat 6))))], none⟩,
  ⟨(some 74), .build [(.string ⟨⟨[]⟩⟩), (.int .i64 (.ofNat 0))] [(0, 1, (.const (.string ⟨⟨[66]⟩⟩))), (1, 1, (.const (.int .i64 (.ofNat 7))))], none⟩,
  ⟨(some 75), .buildSlice 148 4 [(.string ⟨⟨[]⟩⟩), (.int .i64 (.ofNat 0)), (.string ⟨⟨[]⟩⟩), (.int .i64 (.ofNat 0)), (.string ⟨⟨[]⟩⟩), (.int .i64 (.ofNat 0)), (.string ⟨⟨[]⟩⟩), (.int .i64 (.ofNat 0))] [(0, 2, (.tmp 71)), (2, 2, (.tmp 72)), (4, 2, (.tmp 73)), (6, 2, (.tmp 74))], none⟩,
  ⟨(some 76), .len 1 (.tmp 75), none⟩,
  ⟨(some 77), .move (.const (.int .i64 (.ofNat 0))), none⟩] none
def f60r17 : ICode := .region [
  ⟨(some 78), .bin .lss (.tmp 77) (.tmp 76), none⟩] none
def f60r18 : ICode := .region [
  ⟨(some 79), .indexSl 2 (.tmp 75) (.tmp 77), none⟩,
  ⟨(some 80), .loadN 2 (.tmp 79), none⟩,
  ⟨(some 7), .new [(.string ⟨⟨[]⟩⟩), (.int .i64 (.ofNat 0))] 148, none⟩,
  ⟨none, .store 2 (.tmp 7) (.tmp 80), none⟩] none
def f60r19 : ICode := .region [
  ⟨(some 81), .move (.tmp 0), none⟩,
  ⟨(some 82), .fieldAddr 0 (.tmp 7), none⟩,
  ⟨(some 83), .load1 (.tmp 82), none⟩,
  ⟨(some 84), .call 45 [(.tmp 81), (.tmp 83)], none⟩] none
def f60r20 : ICode := .region [
  ⟨(some 85), .fieldAddr 1 (.tmp 7), none⟩,
  ⟨(some 86), .load1 (.tmp 85), none⟩,
  ⟨(some 87), .build [(.int .i64 (.ofNat 0)), (.slice none 0 0), (.bool false), (.int .i64 (.ofNat 0)), (.int .i64 (.ofNat 0)), (.bool false), (.int .i64 (.ofNat 0)), (.string ⟨⟨[]⟩⟩), (.slice none 0 0)] [(0, 1, (.tmp 86))], none⟩,
  ⟨none, .store 9 (.tmp 2) (.tmp 87), none⟩,
  ⟨(some 3), .move (.const (.bool true)), none⟩] none
def f60r21 : ICode := .region [
  ⟨(some 88), .bin .add (.tmp 77) (.const (.int .i64 (.ofNat 1))), none⟩,
  ⟨(some 77), .move (.tmp 88), none⟩] none
def f60r22 : ICode := .region [
  ⟨(some 90), .move (.tmp 0), none⟩,
  ⟨(some 91), .move (.tmp 4), none⟩,
  ⟨(some 92), .call 78 [(.tmp 90), (.tmp 91)], none⟩,
  ⟨(some 89), .move (.tmp 92), none⟩,
  ⟨(some 93), .extract (.tmp 89) 0, none⟩,
  ⟨(some 94), .extract (.tmp 89) 1, none⟩,
  ⟨(some 8), .move (.tmp 93), none⟩,
  ⟨(some 9), .move (.tmp 94), none⟩] none
def f60r23 : ICode := .region [
  ⟨(some 95), .move (.tmp 0), none⟩,
  ⟨(some 96), .move (.tmp 8), none⟩,
  ⟨(some 97), .call 75 [(.tmp 95), (.tmp 96)], none⟩,
  ⟨none, .store 9 (.tmp 2) (.tmp 97), none⟩,
  ⟨(some 3), .move (.const (.bool true)), none⟩] none
def f60r24 : ICode := .region [
  ⟨(some 98), .move (.tmp 0), none⟩,
  ⟨(some 99), .nilCheck (.tmp 98), none⟩,
  ⟨(some 100), .fieldAddr 4 (.tmp 99), none⟩,
  ⟨(some 101), .load1 (.tmp 100), none⟩,
  ⟨(some 102), .bin .add (.tmp 101) (.const (.int .i64 (.ofNat 1))), none⟩,
  ⟨(some 103), .nilCheck (.tmp 98), none⟩,
  ⟨(some 104), .fieldAddr 4 (.tmp 103), none⟩,
  ⟨none, .store 1 (.tmp 104) (.tmp 102), none⟩] none
def f60r25 : ICode := .region [
  ⟨(some 105), .move (.tmp 0), none⟩,
  ⟨(some 106), .move (.tmp 0), none⟩,
  ⟨(some 107), .nilCheck (.tmp 106), none⟩,
  ⟨(some 108), .fieldAddr 0 (.tmp 107), none⟩,
  ⟨(some 109), .fieldAddr 1 (.tmp 108), none⟩,
  ⟨(some 110), .load1 (.tmp 109), none⟩,
  ⟨(some 111), .move (.tmp 4), none⟩,
  ⟨(some 112), .indexSl 1 (.tmp 110) (.tmp 111), none⟩,
  ⟨(some 113), .load1 (.tmp 112), none⟩,
  ⟨(some 114), .call 74 [(.tmp 113)], none⟩,
  ⟨(some 115), .call 75 [(.tmp 105), (.tmp 114)], none⟩,
  ⟨none, .store 9 (.tmp 2) (.tmp 115), none⟩,
  ⟨(some 3), .move (.const (.bool true)), none⟩] none
/- (*ferret/syn.parser).atom -/
def f60 : IFn := ⟨116, [.inr (2, (some 9)), .inl 3], (.seq f60r0 (.seq f60r1 (.seq (.block 0 (.seq f60r2 (.cond (.tmp 14) (.seq f60r3 .ret) (.seq f60r4 (.cond (.tmp 22) (.seq f60r5 (.seq (.seq f60r6 (.cond (.tmp 33) f60r7 .skip)) (.seq f60r8 .ret))) (.seq f60r9 (.cond (.tmp 40) (.seq f60r10 .ret) (.seq f60r11 (.cond (.tmp 50) (.seq f60r12 .ret) (.seq f60r13 (.cond (.tmp 60) (.seq f60r14 .ret) (.seq f60r15 (.cond (.tmp 68) (.seq (.seq f60r16 (.block 1 (.loop (.seq f60r17 (.seq (.cond (.tmp 78) .skip (.exit 1)) (.seq (.block 2 (.seq f60r18 (.seq f60r19 (.cond (.tmp 84) (.seq f60r20 .ret) .skip)))) f60r21)))))) (.seq f60r22 (.seq f60r23 .ret))) .skip))))))))))))) (.seq f60r24 (.seq f60r25 .ret)))))⟩
def f61r0 : ICode := .region [
  ⟨(some 2), .move (.const (.int .i64 (.ofNat 0))), none⟩] none
def f61r1 : ICode := .region [
  ⟨(some 3), .move (.tmp 0), none⟩,
  ⟨(some 4), .minmax false (.tmp 3) (.const (.int .i64 (.ofNat 1048577))), none⟩,
  ⟨(some 2), .move (.tmp 4), none⟩] none
/- ferret/simple.capped -/
def f61 : IFn := ⟨5, [.inl 2], (.seq f61r0 (.seq f61r1 .ret))⟩
def f62r0 : ICode := .region [
  ⟨(some 1), .box 54 (.tmp 0), none⟩,
  ⟨(some 2), .new [(.int .i64 (.ofNat 0)), (.slice none 0 0), (.bool false), (.int .i64 (.ofNat 0)), (.int .i64 (.ofNat 0)), (.bool false), (.int .i64 (.ofNat 0)), (.string ⟨⟨[]⟩⟩), (.slice none 0 0)] 54, none⟩] none
def f62r1 : ICode := .region [
  ⟨(some 3), .fieldAddr 8 (.tmp 1), none⟩,
  ⟨(some 4), .load1 (.tmp 3), none⟩,
  ⟨(some 5), .len 1 (.tmp 4), none⟩,
  ⟨(some 6), .bin .eql (.tmp 5) (.const (.int .i64 (.ofNat 0))), none⟩] none
def f62r2 : ICode := .region [
  ⟨(some 7), .build [(.int .i64 (.ofNat 0)), (.slice none 0 0), (.bool false), (.int .i64 (.ofNat 0)), (.int .i64 (.ofNat 0)), (.bool false), (.int .i64 (.ofNat 0)), (.string ⟨⟨[]⟩⟩), (.slice none 0 0)] [], none⟩,
  ⟨none, .store 9 (.tmp 2) (.tmp 7), none⟩] none
def f62r3 : ICode := .region [
  ⟨(some 8), .fieldAddr 8 (.tmp 1), none⟩,
  ⟨(some 9), .load1 (.tmp 8), none⟩,
  ⟨(some 10), .indexSl 9 (.tmp 9) (.const (.int .i64 (.ofNat 0))), none⟩,
  ⟨(some 11), .loadN 9 (.tmp 10), none⟩,
  ⟨none, .store 9 (.tmp 2) (.tmp 11), none⟩] none
/- ferret/simple.first -/
def f62 : IFn := ⟨12, [.inr (2, (some 9))], (.seq f62r0 (.seq (.seq f62r1 (.cond (.tmp 6) (.seq f62r2 .ret) .skip)) (.seq f62r3 .ret)))⟩
def f63r0 : ICode := .region [
  ⟨(some 2), .move (.const (.slice none 0 0)), none⟩] none
def f63r1 : ICode := .region [
  ⟨(some 14), .move (.tmp 0), none⟩,
  ⟨(some 15), .call 79 [(.tmp 14)], none⟩,
  ⟨(some 3), .move (.tmp 15), none⟩] none
def f63r2 : ICode := .region [
  ⟨(some 16), .call 80 [], none⟩,
  ⟨(some 17), .len 1 (.tmp 16), none⟩,
  ⟨(some 18), .move (.const (.int .i64 (.ofNat 0))), none⟩] none
def f63r3 : ICode := .region [
  ⟨(some 19), .bin .lss (.tmp 18) (.tmp 17), none⟩] none
def f63r4 : ICode := .region [
  ⟨(some 20), .indexSl 3 (.tmp 16) (.tmp 18), none⟩,
  ⟨(some 21), .loadN 3 (.tmp 20), none⟩,
  ⟨(some 5), .new [(.int .i64 (.ofNat 0)), (.int .i64 (.ofNat 0)), (.int .i64 (.ofNat 0))] 155, none⟩,
  ⟨none, .store 3 (.tmp 5) (.tmp 21), none⟩] none
def f63r5 : ICode := .region [
  ⟨(some 22), .move (.tmp 0), none⟩,
  ⟨(some 23), .fieldAddr 0 (.tmp 5), none⟩,
  ⟨(some 24), .load1 (.tmp 23), none⟩,
  ⟨(some 25), .fieldAddr 1 (.tmp 5), none⟩,
  ⟨(some 26), .load1 (.tmp 25), none⟩,
  ⟨(some 27), .build [(.int .i64 (.ofNat 0)), (.int .i64 (.ofNat 0))] [(0, 1, (.tmp 24)), (1, 1, (.tmp 26))], none⟩,
  ⟨(some 28), .buildSlice 75 1 [(.int .i64 (.ofNat 0)), (.int .i64 (.ofNat 0))] [(0, 2, (.tmp 27))], none⟩,
  ⟨(some 29), .call 65 [(.tmp 28)], none⟩,
  ⟨(some 30), .call 81 [(.tmp 22), (.tmp 29)], none⟩,
  ⟨(some 31), .len 1 (.tmp 30), none⟩,
  ⟨(some 32), .move (.const (.int .i64 (.ofNat 0))), none⟩] none
def f63r6 : ICode := .region [
  ⟨(some 33), .bin .lss (.tmp 32) (.tmp 31), none⟩] none
def f63r7 : ICode := .region [
  ⟨(some 34), .indexSl 2 (.tmp 30) (.tmp 32), none⟩,
  ⟨(some 35), .loadN 2 (.tmp 34), none⟩,
  ⟨(some 7), .new [(.int .i64 (.ofNat 0)), (.int .i64 (.ofNat 0))] 75, none⟩,
  ⟨none, .store 2 (.tmp 7) (.tmp 35), none⟩] none
def f63r8 : ICode := .region [
  ⟨(some 36), .move (.tmp 3), none⟩,
  ⟨(some 37), .fieldAddr 0 (.tmp 7), none⟩,
  ⟨(some 38), .load1 (.tmp 37), none⟩,
  ⟨(some 39), .fieldAddr 2 (.tmp 5), none⟩,
  ⟨(some 40), .load1 (.tmp 39), none⟩,
  ⟨(some 41), .bin .add (.tmp 38) (.tmp 40), none⟩,
  ⟨(some 42), .fieldAddr 1 (.tmp 7), none⟩,
  ⟨(some 43), .load1 (.tmp 42), none⟩,
  ⟨(some 44), .fieldAddr 2 (.tmp 5), none⟩,
  ⟨(some 45), .load1 (.tmp 44), none⟩,
  ⟨(some 46), .bin .add (.tmp 43) (.tmp 45), none⟩,
  ⟨(some 47), .build [(.int .i64 (.ofNat 0)), (.int .i64 (.ofNat 0))] [(0, 1, (.tmp 41)), (1, 1, (.tmp 46))], none⟩,
  ⟨(some 48), .buildSlice 75 1 [(.int .i64 (.ofNat 0)), (.int .i64 (.ofNat 0))] [(0, 2, (.tmp 47))], none⟩,
  ⟨(some 49), .append 75 2 16 (.tmp 36) (.tmp 48), none⟩,
  ⟨(some 3), .move (.tmp 49), none⟩] none
def f63r9 : ICode := .region [
  ⟨(some 50), .bin .add (.tmp 32) (.const (.int .i64 (.ofNat 1))), none⟩,
  ⟨(some 32), .move (.tmp 50), none⟩] none
def f63r10 : ICode := .region [
  ⟨(some 51), .move (.tmp 0), none⟩,
  ⟨(some 52), .fieldAddr 0 (.tmp 5), none⟩,
  ⟨(some 53), .load1 (.tmp 52), none⟩,
  ⟨(some 54), .fieldAddr 2 (.tmp 5), none⟩,
  ⟨(some 55), .load1 (.tmp 54), none⟩,
  ⟨(some 56), .bin .add (.tmp 53) (.tmp 55), none⟩,
  ⟨(some 57), .fieldAddr 1 (.tmp 5), none⟩,
  ⟨(some 58), .load1 (.tmp 57), none⟩,
  ⟨(some 59), .fieldAddr 2 (.tmp 5), none⟩,
  ⟨(some 60), .load1 (.tmp 59), none⟩,
  ⟨(some 61), .bin .add (.tmp 58) (.tmp 60), none⟩,
  ⟨(some 62), .build [(.int .i64 (.ofNat 0)), (.int .i64 (.ofNat 0))] [(0, 1, (.tmp 56)), (1, 1, (.tmp 61))], none⟩,
  ⟨(some 63), .buildSlice 75 1 [(.int .i64 (.ofNat 0)), (.int .i64 (.ofNat 0))] [(0, 2, (.tmp 62))], none⟩,
  ⟨(some 64), .call 65 [(.tmp 63)], none⟩,
  ⟨(some 65), .call 81 [(.tmp 51), (.tmp 64)], none⟩,
  ⟨(some 66), .len 1 (.tmp 65), none⟩,
  ⟨(some 67), .move (.const (.int .i64 (.ofNat 0))), none⟩] none
def f63r11 : ICode := .region [
  ⟨(some 68), .bin .lss (.tmp 67) (.tmp 66), none⟩] none
def f63r12 : ICode := .region [
  ⟨(some 69), .indexSl 2 (.tmp 65) (.tmp 67), none⟩,
  ⟨(some 70), .loadN 2 (.tmp 69), none⟩,
  ⟨(some 9), .new [(.int .i64 (.ofNat 0)), (.int .i64 (.ofNat 0))] 75, none⟩,
  ⟨none, .store 2 (.tmp 9) (.tmp 70), none⟩] none
def f63r13 : ICode := .region [
  ⟨(some 71), .move (.tmp 3), none⟩,
  ⟨(some 72), .fieldAddr 0 (.tmp 9), none⟩,
  ⟨(some 73), .load1 (.tmp 72), none⟩,
  ⟨(some 74), .fieldAddr 2 (.tmp 5), none⟩,
  ⟨(some 75), .load1 (.tmp 74), none⟩,
  ⟨(some 76), .bin .sub (.tmp 73) (.tmp 75), none⟩,
  ⟨(some 77), .fieldAddr 1 (.tmp 9), none⟩,
  ⟨(some 78), .load1 (.tmp 77), none⟩,
  ⟨(some 79), .fieldAddr 2 (.tmp 5), none⟩,
  ⟨(some 80), .load1 (.tmp 79), none⟩,
  ⟨(some 81), .bin .sub (.tmp 78) (.tmp 80), none⟩,
  ⟨(some 82), .build [(.int .i64 (.ofNat 0)), (.int .i64 (.ofNat 0))] [(0, 1, (.tmp 76)), (1, 1, (.tmp 81))], none⟩,
  ⟨(some 83), .buildSlice 75 1 [(.int .i64 (.ofNat 0)), (.int .i64 (.ofNat 0))] [(0, 2, (.tmp 82))], none⟩,
  ⟨(some 84), .append 75 2 16 (.tmp 71) (.tmp 83), none⟩,
  ⟨(some 3), .move (.tmp 84), none⟩] none
def f63r14 : ICode := .region [
  ⟨(some 85), .bin .add (.tmp 67) (.const (.int .i64 (.ofNat 1))), none⟩,
  ⟨(some 67), .move (.tmp 85), none⟩] none
def f63r15 : ICode := .region [
  ⟨(some 86), .bin .add (.tmp 18) (.const (.int .i64 (.ofNat 1))), none⟩,
  ⟨(some 18), .move (.tmp 86), none⟩] none
def f63r16 : ICode := .region [
  ⟨(some 87), .call 82 [], none⟩,
  ⟨(some 88), .len 1 (.tmp 87), none⟩,
  ⟨(some 89), .move (.const (.int .i64 (.ofNat 0))), none⟩] none
def f63r17 : ICode := .region [
  ⟨(some 90), .bin .lss (.tmp 89) (.tmp 88), none⟩] none
def f63r18 : ICode := .region [
  ⟨(some 91), .indexSl 1 (.tmp 87) (.tmp 89), none⟩,
  ⟨(some 92), .load1 (.tmp 91), none⟩,
  ⟨(some 11), .move (.tmp 92), none⟩] none
def f63r19 : ICode := .region [
  ⟨(some 93), .move (.tmp 11), none⟩,
  ⟨(some 94), .move (.tmp 0), none⟩,
  ⟨(some 95), .mkFunc (.func 84) [(.tmp 94)] [], none⟩,
  ⟨(some 96), .call 83 [(.tmp 93), (.tmp 95)], none⟩] none
def f63r20 : ICode := .region [
  ⟨(some 97), .move (.tmp 11), none⟩,
  ⟨(some 98), .len 1 (.tmp 97), none⟩,
  ⟨(some 99), .move (.const (.int .i64 (.ofNat 0))), none⟩] none
def f63r21 : ICode := .region [
  ⟨(some 100), .bin .lss (.tmp 99) (.tmp 98), none⟩] none
def f63r22 : ICode := .region [
  ⟨(some 101), .indexSl 1 (.tmp 97) (.tmp 99), none⟩,
  ⟨(some 102), .load1 (.tmp 101), none⟩,
  ⟨(some 13), .move (.tmp 102), none⟩] none
def f63r23 : ICode := .region [
  ⟨(some 103), .move (.tmp 3), none⟩,
  ⟨(some 104), .move (.tmp 13), none⟩,
  ⟨(some 105), .move (.tmp 13), none⟩,
  ⟨(some 106), .build [(.int .i64 (.ofNat 0)), (.int .i64 (.ofNat 0))] [(0, 1, (.tmp 104)), (1, 1, (.tmp 105))], none⟩,
  ⟨(some 107), .buildSlice 75 1 [(.int .i64 (.ofNat 0)), (.int .i64 (.ofNat 0))] [(0, 2, (.tmp 106))], none⟩,
  ⟨(some 108), .append 75 2 16 (.tmp 103) (.tmp 107), none⟩,
  ⟨(some 3), .move (.tmp 108), none⟩] none
def f63r24 : ICode := .region [
  ⟨(some 109), .bin .add (.tmp 99) (.const (.int .i64 (.ofNat 1))), none⟩,
  ⟨(some 99), .move (.tmp 109), none⟩] none
def f63r25 : ICode := .region [
  ⟨(some 110), .bin .add (.tmp 89) (.const (.int .i64 (.ofNat 1))), none⟩,
  ⟨(some 89), .move (.tmp 110), none⟩] none
def f63r26 : ICode := .region [
  ⟨(some 111), .move (.tmp 3), none⟩,
  ⟨(some 112), .call 65 [(.tmp 111)], none⟩,
  ⟨(some 2), .move (.tmp 112), none⟩] none
/- ferret/ucd.Close -/
def f63 : IFn := ⟨113, [.inl 2], (.seq f63r0 (.seq f63r1 (.seq (.seq f63r2 (.block 0 (.loop (.seq f63r3 (.seq (.cond (.tmp 19) .skip (.exit 0)) (.seq (.block 1 (.seq f63r4 (.seq (.seq f63r5 (.block 2 (.loop (.seq f63r6 (.seq (.cond (.tmp 33) .skip (.exit 2)) (.seq (.block 3 (.seq f63r7 f63r8)) f63r9)))))) (.seq f63r10 (.block 4 (.loop (.seq f63r11 (.seq (.cond (.tmp 68) .skip (.exit 4)) (.seq (.block 5 (.seq f63r12 f63r13)) f63r14))))))))) f63r15)))))) (.seq (.seq f63r16 (.block 6 (.loop (.seq f63r17 (.seq (.cond (.tmp 90) .skip (.exit 6)) (.seq (.block 7 (.seq f63r18 (.seq f63r19 (.cond (.tmp 96) (.seq f63r20 (.block 8 (.loop (.seq f63r21 (.seq (.cond (.tmp 100) .skip (.exit 8)) (.seq (.block 9 (.seq f63r22 f63r23)) f63r24)))))) .skip)))) f63r25)))))) (.seq f63r26 .ret)))))⟩
def f65r0 : ICode := .region [
  ⟨(some 2), .move (.const (.slice none 0 0)), none⟩] none
def f65r1 : ICode := .region [
  ⟨(some 3), .new [(.slice none 0 0)] 50, none⟩] none
def f65r2 : ICode := .region [
  ⟨(some 10), .move (.tmp 0), none⟩,
  ⟨(some 11), .len 1 (.tmp 10), none⟩,
  ⟨(some 12), .move (.const (.int .i64 (.ofNat 0))), none⟩] none
def f65r3 : ICode := .region [
  ⟨(some 13), .bin .lss (.tmp 12) (.tmp 11), none⟩] none
def f65r4 : ICode := .region [
  ⟨(some 14), .indexSl 2 (.tmp 10) (.tmp 12), none⟩,
  ⟨(some 15), .loadN 2 (.tmp 14), none⟩,
  ⟨(some 5), .new [(.int .i64 (.ofNat 0)), (.int .i64 (.ofNat 0))] 75, none⟩,
  ⟨none, .store 2 (.tmp 5) (.tmp 15), none⟩] none
def f65r5 : ICode := .region [
  ⟨(some 16), .fieldAddr 0 (.tmp 5), none⟩,
  ⟨(some 17), .load1 (.tmp 16), none⟩,
  ⟨(some 18), .minmax true (.tmp 17) (.const (.int .i64 (.ofNat 0))), none⟩,
  ⟨(some 19), .fieldAddr 1 (.tmp 5), none⟩,
  ⟨(some 20), .load1 (.tmp 19), none⟩,
  ⟨(some 21), .minmax false (.tmp 20) (.const (.int .i64 (.ofNat 1114111))), none⟩,
  ⟨(some 22), .build [(.int .i64 (.ofNat 0)), (.int .i64 (.ofNat 0))] [(0, 1, (.tmp 18)), (1, 1, (.tmp 21))], none⟩,
  ⟨none, .store 2 (.tmp 5) (.tmp 22), none⟩] none
def f65r6 : ICode := .region [
  ⟨(some 23), .fieldAddr 0 (.tmp 5), none⟩,
  ⟨(some 24), .load1 (.tmp 23), none⟩,
  ⟨(some 25), .fieldAddr 1 (.tmp 5), none⟩,
  ⟨(some 26), .load1 (.tmp 25), none⟩,
  ⟨(some 27), .bin .leq (.tmp 24) (.tmp 26), none⟩] none
def f65r7 : ICode := .region [
  ⟨(some 28), .load1 (.tmp 3), none⟩,
  ⟨(some 29), .loadN 2 (.tmp 5), none⟩,
  ⟨(some 30), .buildSlice 75 1 [(.int .i64 (.ofNat 0)), (.int .i64 (.ofNat 0))] [(0, 2, (.tmp 29))], none⟩,
  ⟨(some 31), .append 75 2 16 (.tmp 28) (.tmp 30), none⟩,
  ⟨none, .store 1 (.tmp 3) (.tmp 31), none⟩] none
def f65r8 : ICode := .region [
  ⟨(some 32), .bin .add (.tmp 12) (.const (.int .i64 (.ofNat 1))), none⟩,
  ⟨(some 12), .move (.tmp 32), none⟩] none
def f65r9 : ICode := .region [
  ⟨(some 33), .load1 (.tmp 3), none⟩,
  ⟨(some 34), .mkIface 50 (.tmp 33), none⟩,
  ⟨(some 35), .mkFunc (.func 87) [] [(.tmp 3)], none⟩,
  ⟨(some 36), .call 86 [(.tmp 34), (.tmp 35)], none⟩] none
def f65r10 : ICode := .region [
  ⟨(some 6), .move (.const (.slice none 0 0)), none⟩] none
def f65r11 : ICode := .region [
  ⟨(some 37), .load1 (.tmp 3), none⟩,
  ⟨(some 38), .len 1 (.tmp 37), none⟩,
  ⟨(some 39), .move (.const (.int .i64 (.ofNat 0))), none⟩] none
def f65r12 : ICode := .region [
  ⟨(some 40), .bin .lss (.tmp 39) (.tmp 38), none⟩] none
def f65r13 : ICode := .region [
  ⟨(some 41), .indexSl 2 (.tmp 37) (.tmp 39), none⟩,
  ⟨(some 42), .loadN 2 (.tmp 41), none⟩,
  ⟨(some 8), .new [(.int .i64 (.ofNat 0)), (.int .i64 (.ofNat 0))] 75, none⟩,
  ⟨none, .store 2 (.tmp 8) (.tmp 42), none⟩] none
def f65r14 : ICode := .region [
  ⟨(some 43), .move (.tmp 6), none⟩,
  ⟨(some 44), .len 1 (.tmp 43), none⟩,
  ⟨(some 9), .move (.tmp 44), none⟩] none
def f65r15 : ICode := .region [
  ⟨(some 45), .move (.tmp 9), none⟩,
  ⟨(some 46), .bin .gtr (.tmp 45) (.const (.int .i64 (.ofNat 0))), none⟩,
  ⟨(some 47), .move (.tmp 46), none⟩,
  ⟨(some 48), .fieldAddr 0 (.tmp 8), (some ((some 47), true))⟩,
  ⟨(some 49), .load1 (.tmp 48), (some ((some 47), true))⟩,
  ⟨(some 50), .move (.tmp 6), (some ((some 47), true))⟩,
  ⟨(some 51), .move (.tmp 9), (some ((some 47), true))⟩,
  ⟨(some 52), .bin .sub (.tmp 51) (.const (.int .i64 (.ofNat 1))), (some ((some 47), true))⟩,
  ⟨(some 53), .indexSl 2 (.tmp 50) (.tmp 52), (some ((some 47), true))⟩,
  ⟨(some 54), .fieldAddr 1 (.tmp 53), (some ((some 47), true))⟩,
  ⟨(some 55), .load1 (.tmp 54), (some ((some 47), true))⟩,
  ⟨(some 56), .bin .add (.tmp 55) (.const (.int .i64 (.ofNat 1))), (some ((some 47), true))⟩,
  ⟨(some 57), .bin .leq (.tmp 49) (.tmp 56), (some ((some 47), true))⟩,
  ⟨(some 58), .pick (.tmp 47) (.tmp 57) (.const (.bool false)), none⟩] (some ⟨[], []⟩)
def f65r16 : ICode := .region [
  ⟨(some 59), .move (.tmp 6), none⟩,
  ⟨(some 60), .move (.tmp 9), none⟩,
  ⟨(some 61), .bin .sub (.tmp 60) (.const (.int .i64 (.ofNat 1))), none⟩,
  ⟨(some 62), .move (.tmp 6), none⟩,
  ⟨(some 63), .move (.tmp 9), none⟩,
  ⟨(some 64), .bin .sub (.tmp 63) (.const (.int .i64 (.ofNat 1))), none⟩,
  ⟨(some 65), .indexSl 2 (.tmp 62) (.tmp 64), none⟩,
  ⟨(some 66), .fieldAddr 1 (.tmp 65), none⟩,
  ⟨(some 67), .load1 (.tmp 66), none⟩,
  ⟨(some 68), .fieldAddr 1 (.tmp 8), none⟩,
  ⟨(some 69), .load1 (.tmp 68), none⟩,
  ⟨(some 70), .minmax true (.tmp 67) (.tmp 69), none⟩,
  ⟨(some 71), .indexSl 2 (.tmp 59) (.tmp 61), none⟩,
  ⟨(some 72), .fieldAddr 1 (.tmp 71), none⟩,
  ⟨none, .store 1 (.tmp 72) (.tmp 70), none⟩] (some ⟨[], []⟩)
def f65r17 : ICode := .region [
  ⟨(some 73), .move (.tmp 6), none⟩,
  ⟨(some 74), .loadN 2 (.tmp 8), none⟩,
  ⟨(some 75), .buildSlice 75 1 [(.int .i64 (.ofNat 0)), (.int .i64 (.ofNat 0))] [(0, 2, (.tmp 74))], none⟩,
  ⟨(some 76), .append 75 2 16 (.tmp 73) (.tmp 75), none⟩,
  ⟨(some 6), .move (.tmp 76), none⟩] none
def f65r18 : ICode := .region [
  ⟨(some 77), .bin .add (.tmp 39) (.const (.int .i64 (.ofNat 1))), none⟩,
  ⟨(some 39), .move (.tmp 77), none⟩] none
def f65r19 : ICode := .region [
  ⟨(some 78), .move (.tmp 6), none⟩,
  ⟨(some 2), .move (.tmp 78), none⟩] none
/- ferret/sets.Of -/
def f65 : IFn := ⟨79, [.inl 2], (.seq f65r0 (.seq f65r1 (.seq (.seq f65r2 (.block 0 (.loop (.seq f65r3 (.seq (.cond (.tmp 13) .skip (.exit 0)) (.seq (.block 1 (.seq f65r4 (.seq f65r5 (.seq f65r6 (.cond (.tmp 27) f65r7 .skip))))) f65r8)))))) (.seq f65r9 (.seq f65r10 (.seq (.seq f65r11 (.block 2 (.loop (.seq f65r12 (.seq (.cond (.tmp 40) .skip (.exit 2)) (.seq (.block 3 (.seq f65r13 (.seq f65r14 (.seq f65r15 (.cond (.tmp 58) f65r16 f65r17))))) f65r18)))))) (.seq f65r19 .ret)))))))⟩
def f64r0 : ICode := .region [
  ⟨(some 4), .move (.const (.slice none 0 0)), none⟩] none
def f64r1 : ICode := .region [
  ⟨(some 5), .move (.tmp 0), none⟩,
  ⟨(some 6), .move (.tmp 1), none⟩,
  ⟨(some 7), .call 85 [(.tmp 6)], none⟩,
  ⟨(some 8), .call 81 [(.tmp 5), (.tmp 7)], none⟩,
  ⟨(some 4), .move (.tmp 8), none⟩] none
/- (ferret/sets.Set).Less -/
def f64 : IFn := ⟨9, [.inl 4], (.seq f64r0 (.seq f64r1 .ret))⟩
def f66r0 : ICode := .region [
  ⟨(some 2), .new [(.int .i64 (.ofNat 0)), (.slice none 0 0), (.bool false), (.int .i64 (.ofNat 0)), (.int .i64 (.ofNat 0)), (.bool false), (.int .i64 (.ofNat 0)), (.string ⟨⟨[]⟩⟩), (.slice none 0 0)] 54, none⟩] none
def f66r1 : ICode := .region [
  ⟨(some 3), .move (.const (.slice none 0 0)), none⟩] none
def f66r2 : ICode := .region [
  ⟨(some 6), .move (.tmp 0), none⟩,
  ⟨(some 7), .call 68 [(.tmp 6), (.const (.int .i64 (.ofNat 8)))], none⟩,
  ⟨(some 8), .len 1 (.tmp 7), none⟩,
  ⟨(some 9), .move (.const (.int .i64 (.ofNat 0))), none⟩] none
def f66r3 : ICode := .region [
  ⟨(some 10), .bin .lss (.tmp 9) (.tmp 8), none⟩] none
def f66r4 : ICode := .region [
  ⟨(some 11), .indexSl 9 (.tmp 7) (.tmp 9), none⟩,
  ⟨(some 12), .loadN 9 (.tmp 11), none⟩,
  ⟨(some 5), .new [(.int .i64 (.ofNat 0)), (.slice none 0 0), (.bool false), (.int .i64 (.ofNat 0)), (.int .i64 (.ofNat 0)), (.bool false), (.int .i64 (.ofNat 0)), (.string ⟨⟨[]⟩⟩), (.slice none 0 0)] 54, none⟩,
  ⟨none, .store 9 (.tmp 5) (.tmp 12), none⟩] none
def f66r5 : ICode := .region [
  ⟨(some 13), .fieldAddr 0 (.tmp 5), none⟩,
  ⟨(some 14), .load1 (.tmp 13), none⟩,
  ⟨(some 15), .bin .neq (.tmp 14) (.const (.int .i64 (.ofNat 0))), none⟩] none
def f66r6 : ICode := .region [
  ⟨(some 16), .move (.tmp 3), none⟩,
  ⟨(some 17), .loadN 9 (.tmp 5), none⟩,
  ⟨(some 18), .buildSlice 54 1 [(.int .i64 (.ofNat 0)), (.slice none 0 0), (.bool false), (.int .i64 (.ofNat 0)), (.int .i64 (.ofNat 0)), (.bool false), (.int .i64 (.ofNat 0)), (.string ⟨⟨[]⟩⟩), (.slice none 0 0)] [(0, 9, (.tmp 17))], none⟩,
  ⟨(some 19), .append 54 9 112 (.tmp 16) (.tmp 18), none⟩,
  ⟨(some 3), .move (.tmp 19), none⟩] none
def f66r7 : ICode := .region [
  ⟨(some 20), .bin .add (.tmp 9) (.const (.int .i64 (.ofNat 1))), none⟩,
  ⟨(some 9), .move (.tmp 20), none⟩] none
def f66r8 : ICode := .region [
  ⟨(some 21), .move (.tmp 3), none⟩,
  ⟨(some 22), .call 67 [(.const (.int .i64 (.ofNat 8))), (.tmp 21)], none⟩,
  ⟨none, .store 9 (.tmp 2) (.tmp 22), none⟩] none
/- ferret/simple.row -/
def f66 : IFn := ⟨23, [.inr (2, (some 9))], (.seq f66r0 (.seq f66r1 (.seq (.seq f66r2 (.block 0 (.loop (.seq f66r3 (.seq (.cond (.tmp 10) .skip (.exit 0)) (.seq (.block 1 (.seq f66r4 (.seq f66r5 (.cond (.tmp 15) f66r6 .skip)))) f66r7)))))) (.seq f66r8 .ret))))⟩
def f68r0 : ICode := .region [
  ⟨(some 4), .move (.const (.slice none 0 0)), none⟩] none
def f68r1 : ICode := .region [
  ⟨(some 5), .move (.const (.slice none 0 0)), none⟩] none
def f68r2 : ICode := .region [
  ⟨(some 8), .move (.tmp 0), none⟩,
  ⟨(some 9), .len 1 (.tmp 8), none⟩,
  ⟨(some 10), .move (.const (.int .i64 (.ofNat 0))), none⟩] none
def f68r3 : ICode := .region [
  ⟨(some 11), .bin .lss (.tmp 10) (.tmp 9), none⟩] none
def f68r4 : ICode := .region [
  ⟨(some 12), .indexSl 9 (.tmp 8) (.tmp 10), none⟩,
  ⟨(some 13), .loadN 9 (.tmp 12), none⟩,
  ⟨(some 7), .new [(.int .i64 (.ofNat 0)), (.slice none 0 0), (.bool false), (.int .i64 (.ofNat 0)), (.int .i64 (.ofNat 0)), (.bool false), (.int .i64 (.ofNat 0)), (.string ⟨⟨[]⟩⟩), (.slice none 0 0)] 54, none⟩,
  ⟨none, .store 9 (.tmp 7) (.tmp 13), none⟩] none
def f68r5 : ICode := .region [
  ⟨(some 14), .fieldAddr 0 (.tmp 7), none⟩,
  ⟨(some 15), .load1 (.tmp 14), none⟩,
  ⟨(some 16), .move (.tmp 1), none⟩,
  ⟨(some 17), .bin .eql (.tmp 15) (.tmp 16), none⟩] none
def f68r6 : ICode := .region [
  ⟨(some 18), .move (.tmp 5), none⟩,
  ⟨(some 19), .fieldAddr 8 (.tmp 7), none⟩,
  ⟨(some 20), .load1 (.tmp 19), none⟩,
  ⟨(some 21), .append 54 9 112 (.tmp 18) (.tmp 20), none⟩,
  ⟨(some 5), .move (.tmp 21), none⟩] none
def f68r7 : ICode := .region [
  ⟨(some 22), .move (.tmp 5), none⟩,
  ⟨(some 23), .loadN 9 (.tmp 7), none⟩,
  ⟨(some 24), .buildSlice 54 1 [(.int .i64 (.ofNat 0)), (.slice none 0 0), (.bool false), (.int .i64 (.ofNat 0)), (.int .i64 (.ofNat 0)), (.bool false), (.int .i64 (.ofNat 0)), (.string ⟨⟨[]⟩⟩), (.slice none 0 0)] [(0, 9, (.tmp 23))], none⟩,
  ⟨(some 25), .append 54 9 112 (.tmp 22) (.tmp 24), none⟩,
  ⟨(some 5), .move (.tmp 25), none⟩] none
def f68r8 : ICode := .region [
  ⟨(some 26), .bin .add (.tmp 10) (.const (.int .i64 (.ofNat 1))), none⟩,
  ⟨(some 10), .move (.tmp 26), none⟩] none
def f68r9 : ICode := .region [
  ⟨(some 27), .move (.tmp 5), none⟩,
  ⟨(some 4), .move (.tmp 27), none⟩] none
/- ferret/simple.flat -/
def f68 : IFn := ⟨28, [.inl 4], (.seq f68r0 (.seq f68r1 (.seq (.seq f68r2 (.block 0 (.loop (.seq f68r3 (.seq (.cond (.tmp 11) .skip (.exit 0)) (.seq (.block 1 (.seq f68r4 (.seq f68r5 (.cond (.tmp 17) f68r6 f68r7)))) f68r8)))))) (.seq f68r9 .ret))))⟩
def f67r0 : ICode := .region [
  ⟨(some 4), .new [(.int .i64 (.ofNat 0)), (.slice none 0 0), (.bool false), (.int .i64 (.ofNat 0)), (.int .i64 (.ofNat 0)), (.bool false), (.int .i64 (.ofNat 0)), (.string ⟨⟨[]⟩⟩), (.slice none 0 0)] 54, none⟩] none
def f67r1 : ICode := .region [
  ⟨(some 5), .move (.tmp 1), none⟩,
  ⟨(some 6), .len 1 (.tmp 5), none⟩] none
def f67r2 : ICode := .region [
  ⟨(some 8), .bin .eql (.tmp 6) (.const (.int .i64 (.ofNat 0))), none⟩,
  ⟨(some 7), .move (.tmp 8), none⟩] none
def f67r3 : ICode := .region [
  ⟨(some 9), .build [(.int .i64 (.ofNat 0)), (.slice none 0 0), (.bool false), (.int .i64 (.ofNat 0)), (.int .i64 (.ofNat 0)), (.bool false), (.int .i64 (.ofNat 0)), (.string ⟨⟨[]⟩⟩), (.slice none 0 0)] [], none⟩,
  ⟨none, .store 9 (.tmp 4) (.tmp 9), none⟩] none
def f67r4 : ICode := .region [
  ⟨(some 11), .bin .eql (.tmp 6) (.const (.int .i64 (.ofNat 1))), none⟩,
  ⟨(some 10), .move (.tmp 11), none⟩] none
def f67r5 : ICode := .region [
  ⟨(some 12), .move (.tmp 1), none⟩,
  ⟨(some 13), .indexSl 9 (.tmp 12) (.const (.int .i64 (.ofNat 0))), none⟩,
  ⟨(some 14), .loadN 9 (.tmp 13), none⟩,
  ⟨none, .store 9 (.tmp 4) (.tmp 14), none⟩] none
def f67r6 : ICode := .region [
  ⟨(some 15), .move (.tmp 0), none⟩,
  ⟨(some 16), .move (.tmp 1), none⟩,
  ⟨(some 17), .build [(.int .i64 (.ofNat 0)), (.slice none 0 0), (.bool false), (.int .i64 (.ofNat 0)), (.int .i64 (.ofNat 0)), (.bool false), (.int .i64 (.ofNat 0)), (.string ⟨⟨[]⟩⟩), (.slice none 0 0)] [(0, 1, (.tmp 15)), (8, 1, (.tmp 16))], none⟩,
  ⟨none, .store 9 (.tmp 4) (.tmp 17), none⟩] none
/- ferret/simple.whole -/
def f67 : IFn := ⟨18, [.inr (4, (some 9))], (.seq f67r0 (.seq (.seq f67r1 (.block 0 (.seq f67r2 (.cond (.tmp 7) (.seq f67r3 .ret) (.seq f67r4 (.cond (.tmp 10) (.seq f67r5 .ret) .skip)))))) (.seq f67r6 .ret)))⟩
def f69r0 : ICode := .region [
  ⟨(some 2), .box 54 (.tmp 0), none⟩,
  ⟨(some 3), .box 54 (.tmp 1), none⟩,
  ⟨(some 4), .new [(.int .i64 (.ofNat 0)), (.slice none 0 0), (.bool false), (.int .i64 (.ofNat 0)), (.int .i64 (.ofNat 0)), (.bool false), (.int .i64 (.ofNat 0)), (.string ⟨⟨[]⟩⟩), (.slice none 0 0)] 54, none⟩] none
def f69r1 : ICode := .region [
  ⟨(some 8), .mkFunc (.func 88) [] [(.tmp 2)], none⟩,
  ⟨(some 5), .move (.tmp 8), none⟩] none
def f69r2 : ICode := .region [
  ⟨(some 6), .move (.const (.slice none 0 0)), none⟩] none
def f69r3 : ICode := .region [
  ⟨(some 9), .fieldAddr 3 (.tmp 2), none⟩,
  ⟨(some 10), .load1 (.tmp 9), none⟩,
  ⟨(some 11), .move (.const (.int .i64 (.ofNat 0))), none⟩] none
def f69r4 : ICode := .region [
  ⟨(some 12), .bin .lss (.tmp 11) (.tmp 10), none⟩] none
def f69r5 : ICode := .region [
  ⟨(some 13), .move (.tmp 6), none⟩,
  ⟨(some 14), .loadN 9 (.tmp 3), none⟩,
  ⟨(some 15), .buildSlice 54 1 [(.int .i64 (.ofNat 0)), (.slice none 0 0), (.bool false), (.int .i64 (.ofNat 0)), (.int .i64 (.ofNat 0)), (.bool false), (.int .i64 (.ofNat 0)), (.string ⟨⟨[]⟩⟩), (.slice none 0 0)] [(0, 9, (.tmp 14))], none⟩,
  ⟨(some 16), .append 54 9 112 (.tmp 13) (.tmp 15), none⟩,
  ⟨(some 6), .move (.tmp 16), none⟩] none
def f69r6 : ICode := .region [
  ⟨(some 17), .bin .add (.tmp 11) (.const (.int .i64 (.ofNat 1))), none⟩,
  ⟨(some 11), .move (.tmp 17), none⟩] none
def f69r7 : ICode := .region [
  ⟨(some 18), .fieldAddr 4 (.tmp 2), none⟩,
  ⟨(some 19), .load1 (.tmp 18), none⟩,
  ⟨(some 20), .bin .eql (.tmp 19) (.const (.int .i64 (.negSucc 0))), none⟩] none
def f69r8 : ICode := .region [
  ⟨(some 21), .move (.tmp 6), none⟩,
  ⟨(some 22), .move (.tmp 5), none⟩,
  ⟨(some 23), .loadN 9 (.tmp 3), none⟩,
  ⟨(some 24), .callv (.tmp 22) [(.tmp 23), (.const (.int .i64 (.negSucc 0)))], none⟩,
  ⟨(some 25), .buildSlice 54 1 [(.int .i64 (.ofNat 0)), (.slice none 0 0), (.bool false), (.int .i64 (.ofNat 0)), (.int .i64 (.ofNat 0)), (.bool false), (.int .i64 (.ofNat 0)), (.string ⟨⟨[]⟩⟩), (.slice none 0 0)] [(0, 9, (.tmp 24))], none⟩,
  ⟨(some 26), .append 54 9 112 (.tmp 21) (.tmp 25), none⟩,
  ⟨(some 27), .call 66 [(.tmp 26)], none⟩,
  ⟨none, .store 9 (.tmp 4) (.tmp 27), none⟩] none
def f69r9 : ICode := .region [
  ⟨(some 7), .new [(.int .i64 (.ofNat 0)), (.slice none 0 0), (.bool false), (.int .i64 (.ofNat 0)), (.int .i64 (.ofNat 0)), (.bool false), (.int .i64 (.ofNat 0)), (.string ⟨⟨[]⟩⟩), (.slice none 0 0)] 54, none⟩] none
def f69r10 : ICode := .region [
  ⟨(some 28), .fieldAddr 4 (.tmp 2), none⟩,
  ⟨(some 29), .load1 (.tmp 28), none⟩,
  ⟨(some 30), .fieldAddr 3 (.tmp 2), none⟩,
  ⟨(some 31), .load1 (.tmp 30), none⟩,
  ⟨(some 32), .bin .sub (.tmp 29) (.tmp 31), none⟩,
  ⟨(some 33), .move (.const (.int .i64 (.ofNat 0))), none⟩] none
def f69r11 : ICode := .region [
  ⟨(some 34), .bin .lss (.tmp 33) (.tmp 32), none⟩] none
def f69r12 : ICode := .region [
  ⟨(some 35), .move (.tmp 5), none⟩,
  ⟨(some 36), .loadN 9 (.tmp 3), none⟩,
  ⟨(some 37), .loadN 9 (.tmp 7), none⟩,
  ⟨(some 38), .buildSlice 54 2 [(.int .i64 (.ofNat 0)), (.slice none 0 0), (.bool false), (.int .i64 (.ofNat 0)), (.int .i64 (.ofNat 0)), (.bool false), (.int .i64 (.ofNat 0)), (.string ⟨⟨[]⟩⟩), (.slice none 0 0), (.int .i64 (.ofNat 0)), (.slice none 0 0), (.bool false), (.int .i64 (.ofNat 0)), (.int .i64 (.ofNat 0)), (.bool false), (.int .i64 (.ofNat 0)), (.string ⟨⟨[]⟩⟩), (.slice none 0 0)] [(0, 9, (.tmp 36)), (9, 9, (.tmp 37))], none⟩,
  ⟨(some 39), .call 66 [(.tmp 38)], none⟩,
  ⟨(some 40), .callv (.tmp 35) [(.tmp 39), (.const (.int .i64 (.ofNat 1)))], none⟩,
  ⟨none, .store 9 (.tmp 7) (.tmp 40), none⟩] none
def f69r13 : ICode := .region [
  ⟨(some 41), .bin .add (.tmp 33) (.const (.int .i64 (.ofNat 1))), none⟩,
  ⟨(some 33), .move (.tmp 41), none⟩] none
def f69r14 : ICode := .region [
  ⟨(some 42), .move (.tmp 6), none⟩,
  ⟨(some 43), .loadN 9 (.tmp 7), none⟩,
  ⟨(some 44), .buildSlice 54 1 [(.int .i64 (.ofNat 0)), (.slice none 0 0), (.bool false), (.int .i64 (.ofNat 0)), (.int .i64 (.ofNat 0)), (.bool false), (.int .i64 (.ofNat 0)), (.string ⟨⟨[]⟩⟩), (.slice none 0 0)] [(0, 9, (.tmp 43))], none⟩,
  ⟨(some 45), .append 54 9 112 (.tmp 42) (.tmp 44), none⟩,
  ⟨(some 46), .call 66 [(.tmp 45)], none⟩,
  ⟨none, .store 9 (.tmp 4) (.tmp 46), none⟩] none
/- ferret/simple.repeat -/
def f69 : IFn := ⟨47, [.inr (4, (some 9))], (.seq f69r0 (.seq f69r1 (.seq f69r2 (.seq (.seq f69r3 (.block 0 (.loop (.seq f69r4 (.seq (.cond (.tmp 12) .skip (.exit 0)) (.seq (.block 1 f69r5) f69r6)))))) (.seq (.seq f69r7 (.cond (.tmp 20) (.seq f69r8 .ret) .skip)) (.seq f69r9 (.seq (.seq f69r10 (.block 2 (.loop (.seq f69r11 (.seq (.cond (.tmp 34) .skip (.exit 2)) (.seq (.block 3 f69r12) f69r13)))))) (.seq f69r14 .ret))))))))⟩
def f70r0 : ICode := .region [
  ⟨(some 2), .move (.const (.slice none 0 0)), none⟩] none
def f70r1 : ICode := .region [
  ⟨(some 3), .move (.const (.slice none 0 0)), none⟩] none
def f70r2 : ICode := .region [
  ⟨(some 10), .move (.tmp 0), none⟩,
  ⟨(some 11), .len 1 (.tmp 10), none⟩,
  ⟨(some 12), .move (.const (.int .i64 (.ofNat 0))), none⟩] none
def f70r3 : ICode := .region [
  ⟨(some 13), .bin .lss (.tmp 12) (.tmp 11), none⟩] none
def f70r4 : ICode := .region [
  ⟨(some 14), .indexSl 2 (.tmp 10) (.tmp 12), none⟩,
  ⟨(some 15), .loadN 2 (.tmp 14), none⟩,
  ⟨(some 5), .new [(.int .i64 (.ofNat 0)), (.int .i64 (.ofNat 0))] 75, none⟩,
  ⟨none, .store 2 (.tmp 5) (.tmp 15), none⟩] none
def f70r5 : ICode := .region [
  ⟨(some 6), .move (.const (.int .i64 (.ofNat 0))), none⟩] none
def f70r6 : ICode := .region [
  ⟨(some 16), .call 89 [], none⟩,
  ⟨(some 17), .move (.const (.int .i64 (.ofNat 0))), none⟩] none
def f70r7 : ICode := .region [
  ⟨(some 18), .bin .lss (.tmp 17) (.const (.int .i64 (.ofNat 6))), none⟩] none
def f70r8 : ICode := .region [
  ⟨(some 19), .indexArr 6 1 none (.tmp 16) (.tmp 17), none⟩,
  ⟨(some 8), .move (.tmp 19), none⟩] none
def f70r9 : ICode := .region [
  ⟨(some 20), .fieldAddr 0 (.tmp 5), none⟩,
  ⟨(some 21), .load1 (.tmp 20), none⟩,
  ⟨(some 22), .move (.tmp 6), none⟩,
  ⟨(some 23), .minmax true (.tmp 21) (.tmp 22), none⟩,
  ⟨(some 24), .fieldAddr 1 (.tmp 5), none⟩,
  ⟨(some 25), .load1 (.tmp 24), none⟩,
  ⟨(some 26), .move (.tmp 8), none⟩,
  ⟨(some 27), .bin .sub (.tmp 26) (.const (.int .i64 (.ofNat 1))), none⟩,
  ⟨(some 28), .minmax false (.tmp 25) (.tmp 27), none⟩,
  ⟨(some 29), .build [(.int .i64 (.ofNat 0)), (.int .i64 (.ofNat 0))] [(0, 1, (.tmp 23)), (1, 1, (.tmp 28))], none⟩,
  ⟨(some 9), .new [(.int .i64 (.ofNat 0)), (.int .i64 (.ofNat 0))] 75, none⟩,
  ⟨none, .store 2 (.tmp 9) (.tmp 29), none⟩] none
def f70r10 : ICode := .region [
  ⟨(some 30), .fieldAddr 0 (.tmp 9), none⟩,
  ⟨(some 31), .load1 (.tmp 30), none⟩,
  ⟨(some 32), .fieldAddr 1 (.tmp 9), none⟩,
  ⟨(some 33), .load1 (.tmp 32), none⟩,
  ⟨(some 34), .bin .leq (.tmp 31) (.tmp 33), none⟩,
  ⟨(some 35), .move (.tmp 34), none⟩,
  ⟨(some 36), .move (.tmp 8), (some ((some 35), true))⟩,
  ⟨(some 37), .bin .neq (.tmp 36) (.const (.int .i64 (.ofNat 57344))), (some ((some 35), true))⟩,
  ⟨(some 38), .pick (.tmp 35) (.tmp 37) (.const (.bool false)), none⟩] none
def f70r11 : ICode := .region [
  ⟨(some 39), .move (.tmp 3), none⟩,
  ⟨(some 40), .loadN 2 (.tmp 9), none⟩,
  ⟨(some 41), .call 90 [(.tmp 39), (.tmp 40)], none⟩,
  ⟨(some 3), .move (.tmp 41), none⟩] none
def f70r12 : ICode := .region [
  ⟨(some 42), .move (.tmp 8), none⟩,
  ⟨(some 6), .move (.tmp 42), none⟩] none
def f70r13 : ICode := .region [
  ⟨(some 43), .bin .add (.tmp 17) (.const (.int .i64 (.ofNat 1))), none⟩,
  ⟨(some 17), .move (.tmp 43), none⟩] none
def f70r14 : ICode := .region [
  ⟨(some 44), .bin .add (.tmp 12) (.const (.int .i64 (.ofNat 1))), none⟩,
  ⟨(some 12), .move (.tmp 44), none⟩] none
def f70r15 : ICode := .region [
  ⟨(some 45), .move (.tmp 3), none⟩,
  ⟨(some 2), .move (.tmp 45), none⟩] none
/- ferret/utfsplit.Split -/
def f70 : IFn := ⟨46, [.inl 2], (.seq f70r0 (.seq f70r1 (.seq (.seq f70r2 (.block 0 (.loop (.seq f70r3 (.seq (.cond (.tmp 13) .skip (.exit 0)) (.seq (.block 1 (.seq f70r4 (.seq f70r5 (.seq f70r6 (.block 2 (.loop (.seq f70r7 (.seq (.cond (.tmp 18) .skip (.exit 2)) (.seq (.block 3 (.seq f70r8 (.seq f70r9 (.seq (.seq f70r10 (.cond (.tmp 38) f70r11 .skip)) f70r12)))) f70r13))))))))) f70r14)))))) (.seq f70r15 .ret))))⟩
def f71r0 : ICode := .region [
  ⟨(some 6), .load1 (.tmp 1), none⟩,
  ⟨(some 7), .move (.tmp 0), none⟩,
  ⟨(some 8), .indexSl 1 (.tmp 6) (.tmp 7), none⟩,
  ⟨(some 9), .load1 (.tmp 8), none⟩,
  ⟨(some 10), .len 1 (.tmp 9), none⟩,
  ⟨(some 11), .move (.const (.int .i64 (.ofNat 0))), none⟩] none
def f71r1 : ICode := .region [
  ⟨(some 12), .bin .lss (.tmp 11) (.tmp 10), none⟩] none
def f71r2 : ICode := .region [
  ⟨(some 13), .indexSl 2 (.tmp 9) (.tmp 11), none⟩,
  ⟨(some 14), .loadN 2 (.tmp 13), none⟩,
  ⟨(some 5), .new [(.int .i64 (.ofNat 0)), (.int .i64 (.ofNat 0))] 75, none⟩,
  ⟨none, .store 2 (.tmp 5) (.tmp 14), none⟩] none
def f71r3 : ICode := .region [
  ⟨(some 15), .load1 (.tmp 2), none⟩,
  ⟨(some 16), .loadN 2 (.tmp 5), none⟩,
  ⟨(some 17), .build [(.int .i64 (.ofNat 0)), (.int .i64 (.ofNat 0)), (.int .i64 (.ofNat 0)), (.int .i64 (.ofNat 0)), (.int .i64 (.ofNat 0))] [(0, 1, (.const (.int .i64 (.ofNat 0)))), (3, 2, (.tmp 16))], none⟩,
  ⟨(some 18), .call 32 [(.tmp 15), (.tmp 17)], none⟩] none
def f71r4 : ICode := .region [
  ⟨(some 19), .bin .add (.tmp 11) (.const (.int .i64 (.ofNat 1))), none⟩,
  ⟨(some 11), .move (.tmp 19), none⟩] none
/- (*ferret/prog.compiler).class$1 -/
def f71 : IFn := ⟨20, [], (.seq f71r0 (.block 0 (.loop (.seq f71r1 (.seq (.cond (.tmp 12) .skip (.exit 0)) (.seq (.block 1 (.seq f71r2 f71r3)) f71r4))))))⟩
def f55r0 : ICode := .region [
  ⟨(some 4), .move (.const (.int .i64 (.ofNat 0))), none⟩] none
def f55r1 : ICode := .region [
  ⟨(some 5), .move (.tmp 0), none⟩,
  ⟨(some 6), .bin .add (.tmp 5) (.const (.int .i64 (.ofNat 1))), none⟩,
  ⟨(some 7), .load1 (.tmp 1), none⟩,
  ⟨(some 8), .len 0 (.tmp 7), none⟩,
  ⟨(some 9), .bin .geq (.tmp 6) (.tmp 8), none⟩] none
def f55r2 : ICode := .region [
  ⟨(some 4), .move (.const (.int .i64 (.negSucc 0))), none⟩] none
def f55r3 : ICode := .region [
  ⟨(some 10), .load1 (.tmp 2), none⟩] none
def f55r4 : ICode := .region [
  ⟨(some 11), .load1 (.tmp 1), none⟩,
  ⟨(some 12), .move (.tmp 0), none⟩,
  ⟨(some 13), .indexStr (.tmp 11) (.tmp 12), none⟩,
  ⟨(some 14), .conv .i64 (.tmp 13), none⟩,
  ⟨(some 15), .bin .shl (.tmp 14) (.const (.int .u64 (.ofNat 8))), none⟩,
  ⟨(some 16), .load1 (.tmp 1), none⟩,
  ⟨(some 17), .move (.tmp 0), none⟩,
  ⟨(some 18), .bin .add (.tmp 17) (.const (.int .i64 (.ofNat 1))), none⟩,
  ⟨(some 19), .indexStr (.tmp 16) (.tmp 18), none⟩,
  ⟨(some 20), .conv .i64 (.tmp 19), none⟩,
  ⟨(some 21), .bin .or (.tmp 15) (.tmp 20), none⟩,
  ⟨(some 4), .move (.tmp 21), none⟩] (some ⟨[], []⟩)
def f55r5 : ICode := .region [
  ⟨(some 22), .load1 (.tmp 1), none⟩,
  ⟨(some 23), .move (.tmp 0), none⟩,
  ⟨(some 24), .bin .add (.tmp 23) (.const (.int .i64 (.ofNat 1))), none⟩,
  ⟨(some 25), .indexStr (.tmp 22) (.tmp 24), none⟩,
  ⟨(some 26), .conv .i64 (.tmp 25), none⟩,
  ⟨(some 27), .bin .shl (.tmp 26) (.const (.int .u64 (.ofNat 8))), none⟩,
  ⟨(some 28), .load1 (.tmp 1), none⟩,
  ⟨(some 29), .move (.tmp 0), none⟩,
  ⟨(some 30), .indexStr (.tmp 28) (.tmp 29), none⟩,
  ⟨(some 31), .conv .i64 (.tmp 30), none⟩,
  ⟨(some 32), .bin .or (.tmp 27) (.tmp 31), none⟩,
  ⟨(some 4), .move (.tmp 32), none⟩] (some ⟨[], []⟩)
/- ferret/coding.wide$1 -/
def f55 : IFn := ⟨33, [.inl 4], (.seq f55r0 (.seq (.seq f55r1 (.cond (.tmp 9) (.seq f55r2 .ret) .skip)) (.seq (.seq f55r3 (.cond (.tmp 10) (.seq f55r4 .ret) .skip)) (.seq f55r5 .ret))))⟩
def f72r0 : ICode := .region [
  ⟨(some 2), .move (.const (.int .i64 (.ofNat 0))), none⟩,
  ⟨(some 3), .move (.const (.bool false)), none⟩] none
def f72r1 : ICode := .region [
  ⟨(some 4), .move (.const (.int .i64 (.ofNat 0))), none⟩,
  ⟨(some 5), .move (.const (.int .i64 (.ofNat 0))), none⟩] none
def f72r2 : ICode := .region [
  ⟨(some 6), .move (.tmp 5), none⟩,
  ⟨(some 7), .bin .lss (.tmp 6) (.const (.int .i64 (.ofNat 4))), none⟩,
  ⟨(some 8), .move (.tmp 7), none⟩,
  ⟨(some 9), .move (.tmp 0), (some ((some 8), true))⟩,
  ⟨(some 10), .call 57 [(.tmp 9), (.const (.int .i64 (.ofNat 0)))], (some ((some 8), true))⟩,
  ⟨(some 11), .bin .geq (.tmp 10) (.const (.int .i64 (.ofNat 48))), (some ((some 8), true))⟩,
  ⟨(some 12), .pick (.tmp 8) (.tmp 11) (.const (.bool false)), none⟩,
  ⟨(some 13), .move (.tmp 12), none⟩,
  ⟨(some 14), .move (.tmp 0), (some ((some 13), true))⟩,
  ⟨(some 15), .call 57 [(.tmp 14), (.const (.int .i64 (.ofNat 0)))], (some ((some 13), true))⟩,
  ⟨(some 16), .bin .leq (.tmp 15) (.const (.int .i64 (.ofNat 57))), (some ((some 13), true))⟩,
  ⟨(some 17), .pick (.tmp 13) (.tmp 16) (.const (.bool false)), none⟩] none
def f72r3 : ICode := .region [
  ⟨(some 18), .move (.tmp 4), none⟩,
  ⟨(some 19), .bin .mul (.const (.int .i64 (.ofNat 10))) (.tmp 18), none⟩,
  ⟨(some 20), .move (.tmp 0), none⟩,
  ⟨(some 21), .call 57 [(.tmp 20), (.const (.int .i64 (.ofNat 0)))], none⟩,
  ⟨(some 22), .bin .add (.tmp 19) (.tmp 21), none⟩,
  ⟨(some 23), .bin .sub (.tmp 22) (.const (.int .i64 (.ofNat 48))), none⟩,
  ⟨(some 4), .move (.tmp 23), none⟩] none
def f72r4 : ICode := .region [
  ⟨(some 24), .move (.tmp 0), none⟩,
  ⟨(some 25), .nilCheck (.tmp 24), none⟩,
  ⟨(some 26), .fieldAddr 4 (.tmp 25), none⟩,
  ⟨(some 27), .load1 (.tmp 26), none⟩,
  ⟨(some 28), .bin .add (.tmp 27) (.const (.int .i64 (.ofNat 1))), none⟩,
  ⟨(some 29), .nilCheck (.tmp 24), none⟩,
  ⟨(some 30), .fieldAddr 4 (.tmp 29), none⟩,
  ⟨none, .store 1 (.tmp 30) (.tmp 28), none⟩] none
def f72r5 : ICode := .region [
  ⟨(some 31), .move (.tmp 5), none⟩,
  ⟨(some 32), .bin .add (.tmp 31) (.const (.int .i64 (.ofNat 1))), none⟩,
  ⟨(some 5), .move (.tmp 32), none⟩] none
def f72r6 : ICode := .region [
  ⟨(some 33), .move (.tmp 4), none⟩,
  ⟨(some 34), .move (.tmp 5), none⟩,
  ⟨(some 35), .bin .gtr (.tmp 34) (.const (.int .i64 (.ofNat 0))), none⟩,
  ⟨(some 2), .move (.tmp 33), none⟩,
  ⟨(some 3), .move (.tmp 35), none⟩] none
/- (*ferret/syn.parser).digits -/
def f72 : IFn := ⟨36, [.inl 2, .inl 3], (.seq f72r0 (.seq f72r1 (.seq (.block 0 (.loop (.seq (.seq f72r2 (.cond (.tmp 17) .skip (.exit 0))) (.block 1 (.seq f72r3 (.seq f72r4 f72r5)))))) (.seq f72r6 .ret))))⟩
def f73r0 : ICode := .region [
  ⟨(some 4), .new [(.int .i64 (.ofNat 0)), (.slice none 0 0), (.bool false), (.int .i64 (.ofNat 0)), (.int .i64 (.ofNat 0)), (.bool false), (.int .i64 (.ofNat 0)), (.string ⟨⟨[]⟩⟩), (.slice none 0 0)] 54, none⟩,
  ⟨(some 5), .move (.const (.bool false)), none⟩] none
def f73r1 : ICode := .region [
  ⟨(some 9), .move (.tmp 0), none⟩,
  ⟨(some 10), .nilCheck (.tmp 9), none⟩,
  ⟨(some 11), .fieldAddr 5 (.tmp 10), none⟩,
  ⟨(some 12), .load1 (.tmp 11), none⟩,
  ⟨(some 13), .len 1 (.tmp 12), none⟩,
  ⟨(some 14), .bin .geq (.tmp 13) (.const (.int .i64 (.ofNat 32))), none⟩] none
def f73r2 : ICode := .region [
  ⟨(some 15), .move (.tmp 0), none⟩,
  ⟨(some 16), .move (.tmp 1), none⟩,
  ⟨(some 17), .call 58 [(.tmp 15), (.const (.int .i64 (.ofNat 21))), (.tmp 16)], none⟩] none
def f73r3 : ICode := .region [
  ⟨(some 18), .move (.tmp 0), none⟩,
  ⟨(some 19), .nilCheck (.tmp 18), none⟩,
  ⟨(some 20), .fieldAddr 7 (.tmp 19), none⟩,
  ⟨(some 21), .loadN 4 (.tmp 20), none⟩,
  ⟨(some 6), .new [(.bool false), (.bool false), (.bool false), (.bool false)] 61, none⟩,
  ⟨none, .store 4 (.tmp 6) (.tmp 21), none⟩] none
def f73r4 : ICode := .region [
  ⟨(some 22), .build [(.int .i64 (.ofNat 0)), (.slice none 0 0), (.bool false), (.int .i64 (.ofNat 0)), (.int .i64 (.ofNat 0)), (.bool false), (.int .i64 (.ofNat 0)), (.string ⟨⟨[]⟩⟩), (.slice none 0 0)] [(0, 1, (.const (.int .i64 (.ofNat 11))))], none⟩,
  ⟨(some 7), .new [(.int .i64 (.ofNat 0)), (.slice none 0 0), (.bool false), (.int .i64 (.ofNat 0)), (.int .i64 (.ofNat 0)), (.bool false), (.int .i64 (.ofNat 0)), (.string ⟨⟨[]⟩⟩), (.slice none 0 0)] 54, none⟩,
  ⟨none, .store 9 (.tmp 7) (.tmp 22), none⟩] none
def f73r5 : ICode := .region [
  ⟨(some 27), .move (.tmp 0), none⟩,
  ⟨(some 28), .call 45 [(.tmp 27), (.const (.string ⟨⟨[63, 80]⟩⟩))], none⟩,
  ⟨(some 26), .move (.tmp 28), none⟩] none
def f73r6 : ICode := .region [
  ⟨(some 29), .move (.tmp 0), none⟩,
  ⟨(some 30), .move (.tmp 1), none⟩,
  ⟨(some 31), .call 91 [(.tmp 29), (.tmp 30)], none⟩,
  ⟨(some 32), .fieldAddr 7 (.tmp 7), none⟩,
  ⟨none, .store 1 (.tmp 32) (.tmp 31), none⟩] none
def f73r7 : ICode := .region [
  ⟨(some 33), .move (.tmp 0), none⟩,
  ⟨(some 34), .fieldAddr 7 (.tmp 7), none⟩,
  ⟨(some 35), .load1 (.tmp 34), none⟩,
  ⟨(some 36), .call 92 [(.tmp 33), (.tmp 35)], none⟩,
  ⟨(some 37), .fieldAddr 6 (.tmp 7), none⟩,
  ⟨none, .store 1 (.tmp 37) (.tmp 36), none⟩] none
def f73r8 : ICode := .region [
  ⟨(some 39), .move (.tmp 0), none⟩,
  ⟨(some 40), .call 45 [(.tmp 39), (.const (.string ⟨⟨[63]⟩⟩))], none⟩,
  ⟨(some 38), .move (.tmp 40), none⟩] none
def f73r9 : ICode := .region [
  ⟨(some 41), .build [(.int .i64 (.ofNat 0)), (.slice none 0 0), (.bool false), (.int .i64 (.ofNat 0)), (.int .i64 (.ofNat 0)), (.bool false), (.int .i64 (.ofNat 0)), (.string ⟨⟨[]⟩⟩), (.slice none 0 0)] [], none⟩,
  ⟨none, .store 9 (.tmp 7) (.tmp 41), none⟩] none
def f73r10 : ICode := .region [
  ⟨(some 42), .move (.tmp 0), none⟩,
  ⟨(some 43), .move (.tmp 1), none⟩,
  ⟨(some 44), .call 93 [(.tmp 42), (.tmp 43)], none⟩,
  ⟨(some 45), .un .not (.tmp 44), none⟩] none
def f73r11 : ICode := .region [
  ⟨(some 46), .build [(.int .i64 (.ofNat 0)), (.slice none 0 0), (.bool false), (.int .i64 (.ofNat 0)), (.int .i64 (.ofNat 0)), (.bool false), (.int .i64 (.ofNat 0)), (.string ⟨⟨[]⟩⟩), (.slice none 0 0)] [], none⟩,
  ⟨none, .store 9 (.tmp 4) (.tmp 46), none⟩,
  ⟨(some 5), .move (.const (.bool false)), none⟩] none
def f73r12 : ICode := .region [
  ⟨(some 23), .move (.tmp 0), none⟩,
  ⟨(some 24), .call 92 [(.tmp 23), (.const (.string ⟨⟨[]⟩⟩))], none⟩,
  ⟨(some 25), .fieldAddr 6 (.tmp 7), none⟩,
  ⟨none, .store 1 (.tmp 25) (.tmp 24), none⟩] none
def f73r13 : ICode := .region [
  ⟨(some 47), .move (.tmp 0), none⟩,
  ⟨(some 48), .move (.tmp 0), none⟩,
  ⟨(some 49), .nilCheck (.tmp 48), none⟩,
  ⟨(some 50), .fieldAddr 5 (.tmp 49), none⟩,
  ⟨(some 51), .load1 (.tmp 50), none⟩,
  ⟨(some 52), .move (.tmp 1), none⟩,
  ⟨(some 53), .buildSlice 3 1 [(.int .i64 (.ofNat 0))] [(0, 1, (.tmp 52))], none⟩,
  ⟨(some 54), .append 3 1 8 (.tmp 51) (.tmp 53), none⟩,
  ⟨(some 55), .nilCheck (.tmp 47), none⟩,
  ⟨(some 56), .fieldAddr 5 (.tmp 55), none⟩,
  ⟨none, .store 1 (.tmp 56) (.tmp 54), none⟩] none
def f73r14 : ICode := .region [
  ⟨(some 57), .move (.tmp 0), none⟩,
  ⟨(some 58), .call 30 [(.tmp 57)], none⟩,
  ⟨(some 8), .new [(.int .i64 (.ofNat 0)), (.slice none 0 0), (.bool false), (.int .i64 (.ofNat 0)), (.int .i64 (.ofNat 0)), (.bool false), (.int .i64 (.ofNat 0)), (.string ⟨⟨[]⟩⟩), (.slice none 0 0)] 54, none⟩,
  ⟨none, .store 9 (.tmp 8) (.tmp 58), none⟩] none
def f73r15 : ICode := .region [
  ⟨(some 59), .move (.tmp 0), none⟩,
  ⟨(some 60), .call 45 [(.tmp 59), (.const (.string ⟨⟨[41]⟩⟩))], none⟩,
  ⟨(some 61), .un .not (.tmp 60), none⟩] none
def f73r16 : ICode := .region [
  ⟨(some 62), .move (.tmp 0), none⟩,
  ⟨(some 63), .move (.tmp 0), none⟩,
  ⟨(some 64), .nilCheck (.tmp 63), none⟩,
  ⟨(some 65), .fieldAddr 5 (.tmp 64), none⟩,
  ⟨(some 66), .load1 (.tmp 65), none⟩,
  ⟨(some 67), .move (.tmp 0), none⟩,
  ⟨(some 68), .nilCheck (.tmp 67), none⟩,
  ⟨(some 69), .fieldAddr 5 (.tmp 68), none⟩,
  ⟨(some 70), .load1 (.tmp 69), none⟩,
  ⟨(some 71), .len 1 (.tmp 70), none⟩,
  ⟨(some 72), .bin .sub (.tmp 71) (.const (.int .i64 (.ofNat 1))), none⟩,
  ⟨(some 73), .indexSl 1 (.tmp 66) (.tmp 72), none⟩,
  ⟨(some 74), .load1 (.tmp 73), none⟩,
  ⟨(some 75), .call 58 [(.tmp 62), (.const (.int .i64 (.ofNat 25))), (.tmp 74)], none⟩] (some ⟨[], []⟩)
def f73r17 : ICode := .region [
  ⟨(some 76), .move (.tmp 0), none⟩,
  ⟨(some 77), .move (.tmp 0), none⟩,
  ⟨(some 78), .nilCheck (.tmp 77), none⟩,
  ⟨(some 79), .fieldAddr 5 (.tmp 78), none⟩,
  ⟨(some 80), .load1 (.tmp 79), none⟩,
  ⟨(some 81), .move (.tmp 0), none⟩,
  ⟨(some 82), .nilCheck (.tmp 81), none⟩,
  ⟨(some 83), .fieldAddr 5 (.tmp 82), none⟩,
  ⟨(some 84), .load1 (.tmp 83), none⟩,
  ⟨(some 85), .len 1 (.tmp 84), none⟩,
  ⟨(some 86), .bin .sub (.tmp 85) (.const (.int .i64 (.ofNat 1))), none⟩,
  ⟨(some 87), .sliceSl 1 (.tmp 80) none (some (.tmp 86)), none⟩,
  ⟨(some 88), .nilCheck (.tmp 76), none⟩,
  ⟨(some 89), .fieldAddr 5 (.tmp 88), none⟩,
  ⟨none, .store 1 (.tmp 89) (.tmp 87), none⟩] (some ⟨[], []⟩)
def f73r18 : ICode := .region [
  ⟨(some 90), .move (.tmp 0), none⟩,
  ⟨(some 91), .loadN 4 (.tmp 6), none⟩,
  ⟨(some 92), .nilCheck (.tmp 90), none⟩,
  ⟨(some 93), .fieldAddr 7 (.tmp 92), none⟩,
  ⟨none, .store 4 (.tmp 93) (.tmp 91), none⟩] none
def f73r19 : ICode := .region [
  ⟨(some 94), .fieldAddr 0 (.tmp 7), none⟩,
  ⟨(some 95), .load1 (.tmp 94), none⟩,
  ⟨(some 96), .bin .neq (.tmp 95) (.const (.int .i64 (.ofNat 11))), none⟩] none
def f73r20 : ICode := .region [
  ⟨(some 97), .loadN 9 (.tmp 8), none⟩,
  ⟨none, .store 9 (.tmp 4) (.tmp 97), none⟩,
  ⟨(some 5), .move (.const (.bool true)), none⟩] none
def f73r21 : ICode := .region [
  ⟨(some 98), .loadN 9 (.tmp 8), none⟩,
  ⟨(some 99), .buildSlice 54 1 [(.int .i64 (.ofNat 0)), (.slice none 0 0), (.bool false), (.int .i64 (.ofNat 0)), (.int .i64 (.ofNat 0)), (.bool false), (.int .i64 (.ofNat 0)), (.string ⟨⟨[]⟩⟩), (.slice none 0 0)] [(0, 9, (.tmp 98))], none⟩,
  ⟨(some 100), .fieldAddr 8 (.tmp 7), none⟩,
  ⟨none, .store 1 (.tmp 100) (.tmp 99), none⟩] none
def f73r22 : ICode := .region [
  ⟨(some 101), .loadN 9 (.tmp 7), none⟩,
  ⟨none, .store 9 (.tmp 4) (.tmp 101), none⟩,
  ⟨(some 5), .move (.const (.bool true)), none⟩] none
/- (*ferret/syn.parser).brackets -/
def f73 : IFn := ⟨102, [.inr (4, (some 9)), .inl 5], (.seq f73r0 (.seq (.seq f73r1 (.cond (.tmp 14) f73r2 .skip)) (.seq f73r3 (.seq f73r4 (.seq (.block 0 (.seq f73r5 (.cond (.tmp 26) (.seq f73r6 f73r7) (.seq f73r8 (.cond (.tmp 38) (.seq f73r9 (.seq f73r10 (.cond (.tmp 45) (.seq f73r11 .ret) .skip))) f73r12))))) (.seq f73r13 (.seq f73r14 (.seq (.seq f73r15 (.cond (.tmp 61) f73r16 .skip)) (.seq f73r17 (.seq f73r18 (.seq (.seq f73r19 (.cond (.tmp 96) (.seq f73r20 .ret) .skip)) (.seq f73r21 (.seq f73r22 .ret)))))))))))))⟩
def f74r0 : ICode := .region [
  ⟨(some 2), .move (.const (.slice none 0 0)), none⟩] none
def f74r1 : ICode := .region [
  ⟨(some 3), .move (.tmp 0), none⟩,
  ⟨(some 4), .move (.tmp 0), none⟩,
  ⟨(some 5), .build [(.int .i64 (.ofNat 0)), (.int .i64 (.ofNat 0))] [(0, 1, (.tmp 3)), (1, 1, (.tmp 4))], none⟩,
  ⟨(some 6), .buildSlice 75 1 [(.int .i64 (.ofNat 0)), (.int .i64 (.ofNat 0))] [(0, 2, (.tmp 5))], none⟩,
  ⟨(some 7), .call 65 [(.tmp 6)], none⟩,
  ⟨(some 2), .move (.tmp 7), none⟩] none
/- ferret/syn.one -/
def f74 : IFn := ⟨8, [.inl 2], (.seq f74r0 (.seq f74r1 .ret))⟩
def f75r0 : ICode := .region [
  ⟨(some 4), .new [(.int .i64 (.ofNat 0)), (.slice none 0 0), (.bool false), (.int .i64 (.ofNat 0)), (.int .i64 (.ofNat 0)), (.bool false), (.int .i64 (.ofNat 0)), (.string ⟨⟨[]⟩⟩), (.slice none 0 0)] 54, none⟩] none
def f75r1 : ICode := .region [
  ⟨(some 5), .move (.tmp 1), none⟩,
  ⟨(some 6), .move (.tmp 0), none⟩,
  ⟨(some 7), .nilCheck (.tmp 6), none⟩,
  ⟨(some 8), .fieldAddr 7 (.tmp 7), none⟩,
  ⟨(some 9), .fieldAddr 0 (.tmp 8), none⟩,
  ⟨(some 10), .load1 (.tmp 9), none⟩,
  ⟨(some 11), .build [(.int .i64 (.ofNat 0)), (.slice none 0 0), (.bool false), (.int .i64 (.ofNat 0)), (.int .i64 (.ofNat 0)), (.bool false), (.int .i64 (.ofNat 0)), (.string ⟨⟨[]⟩⟩), (.slice none 0 0)] [(0, 1, (.const (.int .i64 (.ofNat 1)))), (1, 1, (.tmp 5)), (2, 1, (.tmp 10))], none⟩,
  ⟨none, .store 9 (.tmp 4) (.tmp 11), none⟩] none
/- (*ferret/syn.parser).class -/
def f75 : IFn := ⟨12, [.inr (4, (some 9))], (.seq f75r0 (.seq f75r1 .ret))⟩
def f76r0 : ICode := .region [
  ⟨(some 6), .move (.const (.int .i64 (.ofNat 0))), none⟩] none
def f76r1 : ICode := .region [
  ⟨(some 7), .move (.tmp 0), none⟩] none
def f76r2 : ICode := .region [
  ⟨(some 8), .move (.tmp 1), none⟩,
  ⟨(some 6), .move (.tmp 8), none⟩] none
def f76r3 : ICode := .region [
  ⟨(some 9), .move (.tmp 2), none⟩,
  ⟨(some 6), .move (.tmp 9), none⟩] none
/- ferret/syn.pick[int] -/
def f76 : IFn := ⟨10, [.inl 6], (.seq f76r0 (.seq (.seq f76r1 (.cond (.tmp 7) (.seq f76r2 .ret) .skip)) (.seq f76r3 .ret)))⟩
def f77r0 : ICode := .region [
  ⟨(some 4), .move (.const (.slice none 0 0)), none⟩] none
def f77r1 : ICode := .region [
  ⟨(some 13), .move (.tmp 0), none⟩,
  ⟨(some 14), .call 45 [(.tmp 13), (.const (.string ⟨⟨[94]⟩⟩))], none⟩,
  ⟨(some 5), .move (.tmp 14), none⟩] none
def f77r2 : ICode := .region [
  ⟨(some 6), .move (.const (.slice none 0 0)), none⟩] none
def f77r3 : ICode := .region [
  ⟨(some 7), .move (.const (.bool true)), none⟩] none
def f77r4 : ICode := .region [
  ⟨(some 15), .move (.tmp 7), none⟩,
  ⟨(some 16), .move (.tmp 15), none⟩,
  ⟨(some 17), .move (.tmp 0), (some ((some 16), false))⟩,
  ⟨(some 18), .call 57 [(.tmp 17), (.const (.int .i64 (.ofNat 0)))], (some ((some 16), false))⟩,
  ⟨(some 19), .bin .neq (.tmp 18) (.const (.int .i64 (.ofNat 93))), (some ((some 16), false))⟩,
  ⟨(some 20), .pick (.tmp 16) (.const (.bool true)) (.tmp 19), none⟩] none
def f77r5 : ICode := .region [
  ⟨(some 21), .move (.tmp 0), none⟩,
  ⟨(some 22), .call 57 [(.tmp 21), (.const (.int .i64 (.ofNat 0)))], none⟩,
  ⟨(some 23), .bin .eql (.tmp 22) (.const (.int .i64 (.negSucc 0))), none⟩] none
def f77r6 : ICode := .region [
  ⟨(some 24), .move (.tmp 0), none⟩,
  ⟨(some 25), .move (.tmp 1), none⟩,
  ⟨(some 26), .call 58 [(.tmp 24), (.const (.int .i64 (.ofNat 24))), (.tmp 25)], none⟩] none
def f77r7 : ICode := .region [
  ⟨(some 27), .move (.tmp 0), none⟩,
  ⟨(some 28), .nilCheck (.tmp 27), none⟩,
  ⟨(some 29), .fieldAddr 4 (.tmp 28), none⟩,
  ⟨(some 30), .load1 (.tmp 29), none⟩,
  ⟨(some 8), .move (.tmp 30), none⟩] none
def f77r8 : ICode := .region [
  ⟨(some 32), .move (.tmp 0), none⟩,
  ⟨(some 33), .call 94 [(.tmp 32)], none⟩,
  ⟨(some 31), .move (.tmp 33), none⟩,
  ⟨(some 34), .extract (.tmp 31) 0, none⟩,
  ⟨(some 35), .extract (.tmp 31) 1, none⟩,
  ⟨(some 9), .move (.tmp 34), none⟩,
  ⟨(some 10), .move (.tmp 35), none⟩] none
def f77r9 : ICode := .region [
  ⟨(some 36), .move (.tmp 10), none⟩,
  ⟨(some 37), .bin .geq (.tmp 36) (.const (.int .i64 (.ofNat 0))), none⟩,
  ⟨(some 38), .move (.tmp 37), none⟩,
  ⟨(some 39), .move (.tmp 0), (some ((some 38), true))⟩,
  ⟨(some 40), .call 57 [(.tmp 39), (.const (.int .i64 (.ofNat 0)))], (some ((some 38), true))⟩,
  ⟨(some 41), .bin .eql (.tmp 40) (.const (.int .i64 (.ofNat 45))), (some ((some 38), true))⟩,
  ⟨(some 42), .pick (.tmp 38) (.tmp 41) (.const (.bool false)), none⟩,
  ⟨(some 43), .move (.tmp 42), none⟩,
  ⟨(some 44), .move (.tmp 0), (some ((some 43), true))⟩,
  ⟨(some 45), .call 57 [(.tmp 44), (.const (.int .i64 (.ofNat 1)))], (some ((some 43), true))⟩,
  ⟨(some 46), .bin .neq (.tmp 45) (.const (.int .i64 (.ofNat 93))), (some ((some 43), true))⟩,
  ⟨(some 47), .pick (.tmp 43) (.tmp 46) (.const (.bool false)), none⟩,
  ⟨(some 48), .move (.tmp 47), none⟩,
  ⟨(some 49), .move (.tmp 0), (some ((some 48), true))⟩,
  ⟨(some 50), .call 57 [(.tmp 49), (.const (.int .i64 (.ofNat 1)))], (some ((some 48), true))⟩,
  ⟨(some 51), .bin .neq (.tmp 50) (.const (.int .i64 (.negSucc 0))), (some ((some 48), true))⟩,
  ⟨(some 52), .pick (.tmp 48) (.tmp 51) (.const (.bool false)), none⟩] none
def f77r10 : ICode := .region [
  ⟨(some 53), .move (.tmp 0), none⟩,
  ⟨(some 54), .nilCheck (.tmp 53), none⟩,
  ⟨(some 55), .fieldAddr 4 (.tmp 54), none⟩,
  ⟨(some 56), .load1 (.tmp 55), none⟩,
  ⟨(some 57), .bin .add (.tmp 56) (.const (.int .i64 (.ofNat 1))), none⟩,
  ⟨(some 58), .nilCheck (.tmp 53), none⟩,
  ⟨(some 59), .fieldAddr 4 (.tmp 58), none⟩,
  ⟨none, .store 1 (.tmp 59) (.tmp 57), none⟩] none
def f77r11 : ICode := .region [
  ⟨(some 61), .move (.tmp 0), none⟩,
  ⟨(some 62), .call 94 [(.tmp 61)], none⟩,
  ⟨(some 60), .move (.tmp 62), none⟩,
  ⟨(some 63), .extract (.tmp 60) 0, none⟩,
  ⟨(some 64), .extract (.tmp 60) 1, none⟩,
  ⟨(some 11), .move (.tmp 63), none⟩,
  ⟨(some 12), .move (.tmp 64), none⟩] none
def f77r12 : ICode := .region [
  ⟨(some 65), .move (.tmp 12), none⟩,
  ⟨(some 66), .move (.tmp 10), none⟩,
  ⟨(some 67), .bin .lss (.tmp 65) (.tmp 66), none⟩] none
def f77r13 : ICode := .region [
  ⟨(some 68), .move (.tmp 0), none⟩,
  ⟨(some 69), .move (.tmp 8), none⟩,
  ⟨(some 70), .call 58 [(.tmp 68), (.const (.int .i64 (.ofNat 22))), (.tmp 69)], none⟩] none
def f77r14 : ICode := .region [
  ⟨(some 71), .move (.tmp 10), none⟩,
  ⟨(some 72), .move (.tmp 12), none⟩,
  ⟨(some 73), .build [(.int .i64 (.ofNat 0)), (.int .i64 (.ofNat 0))] [(0, 1, (.tmp 71)), (1, 1, (.tmp 72))], none⟩,
  ⟨(some 74), .buildSlice 75 1 [(.int .i64 (.ofNat 0)), (.int .i64 (.ofNat 0))] [(0, 2, (.tmp 73))], none⟩,
  ⟨(some 75), .call 65 [(.tmp 74)], none⟩,
  ⟨(some 9), .move (.tmp 75), none⟩] none
def f77r15 : ICode := .region [
  ⟨(some 76), .move (.tmp 6), none⟩,
  ⟨(some 77), .move (.tmp 9), none⟩,
  ⟨(some 78), .call 95 [(.tmp 76), (.tmp 77)], none⟩,
  ⟨(some 6), .move (.tmp 78), none⟩] none
def f77r16 : ICode := .region [
  ⟨(some 7), .move (.const (.bool false)), none⟩] none
def f77r17 : ICode := .region [
  ⟨(some 79), .move (.tmp 0), none⟩,
  ⟨(some 80), .nilCheck (.tmp 79), none⟩,
  ⟨(some 81), .fieldAddr 4 (.tmp 80), none⟩,
  ⟨(some 82), .load1 (.tmp 81), none⟩,
  ⟨(some 83), .bin .add (.tmp 82) (.const (.int .i64 (.ofNat 1))), none⟩,
  ⟨(some 84), .nilCheck (.tmp 79), none⟩,
  ⟨(some 85), .fieldAddr 4 (.tmp 84), none⟩,
  ⟨none, .store 1 (.tmp 85) (.tmp 83), none⟩] none
def f77r18 : ICode := .region [
  ⟨(some 86), .move (.tmp 5), none⟩] none
def f77r19 : ICode := .region [
  ⟨(some 87), .move (.tmp 6), none⟩,
  ⟨(some 88), .call 85 [(.tmp 87)], none⟩,
  ⟨(some 6), .move (.tmp 88), none⟩] none
def f77r20 : ICode := .region [
  ⟨(some 89), .move (.tmp 6), none⟩,
  ⟨(some 4), .move (.tmp 89), none⟩] none
/- (*ferret/syn.parser).list -/
def f77 : IFn := ⟨90, [.inl 4], (.seq f77r0 (.seq f77r1 (.seq f77r2 (.seq (.seq f77r3 (.block 0 (.loop (.seq (.seq f77r4 (.cond (.tmp 20) .skip (.exit 0))) (.seq (.block 1 (.seq (.seq f77r5 (.cond (.tmp 23) f77r6 .skip)) (.seq f77r7 (.seq f77r8 (.seq (.seq f77r9 (.cond (.tmp 52) (.seq f77r10 (.seq f77r11 (.seq (.seq f77r12 (.cond (.tmp 67) f77r13 .skip)) f77r14))) .skip)) f77r15))))) f77r16))))) (.seq f77r17 (.seq (.seq f77r18 (.cond (.tmp 86) f77r19 .skip)) (.seq f77r20 .ret)))))))⟩
def f78r0 : ICode := .region [
  ⟨(some 4), .move (.const (.slice none 0 0)), none⟩,
  ⟨(some 5), .move (.const (.int .i64 (.ofNat 0))), none⟩] none
def f78r1 : ICode := .region [
  ⟨(some 12), .move (.tmp 0), none⟩,
  ⟨(some 13), .call 57 [(.tmp 12), (.const (.int .i64 (.ofNat 0)))], none⟩,
  ⟨(some 6), .move (.tmp 13), none⟩] none
def f78r2 : ICode := .region [
  ⟨(some 14), .move (.tmp 0), none⟩,
  ⟨(some 15), .nilCheck (.tmp 14), none⟩,
  ⟨(some 16), .fieldAddr 4 (.tmp 15), none⟩,
  ⟨(some 17), .load1 (.tmp 16), none⟩,
  ⟨(some 18), .bin .add (.tmp 17) (.const (.int .i64 (.ofNat 1))), none⟩,
  ⟨(some 19), .nilCheck (.tmp 14), none⟩,
  ⟨(some 20), .fieldAddr 4 (.tmp 19), none⟩,
  ⟨none, .store 1 (.tmp 20) (.tmp 18), none⟩] none
def f78r3 : ICode := .region [
  ⟨(some 22), .move (.tmp 6), none⟩,
  ⟨(some 23), .bin .lss (.tmp 22) (.const (.int .i64 (.ofNat 33))), none⟩,
  ⟨(some 24), .move (.tmp 23), none⟩,
  ⟨(some 25), .move (.tmp 6), (some ((some 24), false))⟩,
  ⟨(some 26), .bin .gtr (.tmp 25) (.const (.int .i64 (.ofNat 126))), (some ((some 24), false))⟩,
  ⟨(some 27), .pick (.tmp 24) (.const (.bool true)) (.tmp 26), none⟩,
  ⟨(some 21), .move (.tmp 27), none⟩] none
def f78r4 : ICode := .region [
  ⟨(some 28), .move (.tmp 0), none⟩,
  ⟨(some 29), .move (.tmp 1), none⟩,
  ⟨(some 30), .call 58 [(.tmp 28), (.const (.int .i64 (.ofNat 20))), (.tmp 29)], none⟩] none
def f78r5 : ICode := .region [
  ⟨(some 32), .move (.tmp 6), none⟩,
  ⟨(some 33), .bin .eql (.tmp 32) (.const (.int .i64 (.ofNat 112))), none⟩,
  ⟨(some 34), .move (.tmp 33), none⟩,
  ⟨(some 35), .move (.tmp 6), (some ((some 34), false))⟩,
  ⟨(some 36), .bin .eql (.tmp 35) (.const (.int .i64 (.ofNat 80))), (some ((some 34), false))⟩,
  ⟨(some 37), .pick (.tmp 34) (.const (.bool true)) (.tmp 36), none⟩,
  ⟨(some 31), .move (.tmp 37), none⟩] none
def f78r6 : ICode := .region [
  ⟨(some 38), .move (.tmp 0), none⟩,
  ⟨(some 39), .move (.tmp 1), none⟩,
  ⟨(some 40), .call 96 [(.tmp 38), (.tmp 39)], none⟩,
  ⟨(some 7), .move (.tmp 40), none⟩] none
def f78r7 : ICode := .region [
  ⟨(some 41), .move (.tmp 6), none⟩,
  ⟨(some 42), .bin .eql (.tmp 41) (.const (.int .i64 (.ofNat 80))), none⟩] none
def f78r8 : ICode := .region [
  ⟨(some 43), .move (.tmp 7), none⟩,
  ⟨(some 44), .call 85 [(.tmp 43)], none⟩,
  ⟨(some 7), .move (.tmp 44), none⟩] none
def f78r9 : ICode := .region [
  ⟨(some 45), .move (.tmp 7), none⟩,
  ⟨(some 4), .move (.tmp 45), none⟩,
  ⟨(some 5), .move (.const (.int .i64 (.negSucc 0))), none⟩] none
def f78r10 : ICode := .region [
  ⟨(some 47), .move (.tmp 6), none⟩,
  ⟨(some 48), .bin .eql (.tmp 47) (.const (.int .i64 (.ofNat 120))), none⟩,
  ⟨(some 46), .move (.tmp 48), none⟩] none
def f78r11 : ICode := .region [
  ⟨(some 49), .move (.tmp 0), none⟩,
  ⟨(some 50), .move (.tmp 1), none⟩,
  ⟨(some 51), .call 97 [(.tmp 49), (.tmp 50)], none⟩,
  ⟨(some 8), .move (.tmp 51), none⟩] none
def f78r12 : ICode := .region [
  ⟨(some 52), .move (.tmp 8), none⟩,
  ⟨(some 53), .call 74 [(.tmp 52)], none⟩,
  ⟨(some 54), .move (.tmp 8), none⟩,
  ⟨(some 4), .move (.tmp 53), none⟩,
  ⟨(some 5), .move (.tmp 54), none⟩] none
def f78r13 : ICode := .region [
  ⟨(some 56), .move (.tmp 6), none⟩,
  ⟨(some 57), .conv .u8 (.tmp 56), none⟩,
  ⟨(some 58), .call 98 [(.tmp 57)], none⟩,
  ⟨(some 55), .move (.tmp 58), none⟩,
  ⟨(some 59), .extract (.tmp 55) 0, none⟩,
  ⟨(some 60), .extract (.tmp 55) 1, none⟩,
  ⟨(some 9), .move (.tmp 59), none⟩,
  ⟨(some 10), .move (.tmp 60), none⟩] none
def f78r14 : ICode := .region [
  ⟨(some 61), .move (.tmp 10), none⟩] none
def f78r15 : ICode := .region [
  ⟨(some 62), .move (.tmp 9), none⟩,
  ⟨(some 4), .move (.tmp 62), none⟩,
  ⟨(some 5), .move (.const (.int .i64 (.negSucc 0))), none⟩] none
def f78r16 : ICode := .region [
  ⟨(some 63), .move (.tmp 6), none⟩,
  ⟨(some 64), .conv .u8 (.tmp 63), none⟩,
  ⟨(some 65), .call 99 [(.const (.string ⟨⟨[110, 116, 114, 102, 118]⟩⟩)), (.tmp 64)], none⟩,
  ⟨(some 11), .move (.tmp 65), none⟩] none
def f78r17 : ICode := .region [
  ⟨(some 66), .move (.tmp 11), none⟩,
  ⟨(some 67), .bin .geq (.tmp 66) (.const (.int .i64 (.ofNat 0))), none⟩] none
def f78r18 : ICode := .region [
  ⟨(some 68), .move (.tmp 11), none⟩,
  ⟨(some 69), .indexStr (.const (.string ⟨⟨[10, 9, 13, 12, 11]⟩⟩)) (.tmp 68), none⟩,
  ⟨(some 70), .conv .i64 (.tmp 69), none⟩,
  ⟨(some 6), .move (.tmp 70), none⟩] none
def f78r19 : ICode := .region [
  ⟨(some 71), .move (.tmp 6), none⟩,
  ⟨(some 72), .call 74 [(.tmp 71)], none⟩,
  ⟨(some 73), .move (.tmp 6), none⟩,
  ⟨(some 4), .move (.tmp 72), none⟩,
  ⟨(some 5), .move (.tmp 73), none⟩] none
def f78r20 : ICode := .region [
  ⟨(some 74), .move (.tmp 6), none⟩,
  ⟨(some 75), .bin .geq (.tmp 74) (.const (.int .i64 (.ofNat 48))), none⟩,
  ⟨(some 76), .move (.tmp 75), none⟩,
  ⟨(some 77), .move (.tmp 6), (some ((some 76), true))⟩,
  ⟨(some 78), .bin .leq (.tmp 77) (.const (.int .i64 (.ofNat 57))), (some ((some 76), true))⟩,
  ⟨(some 79), .pick (.tmp 76) (.tmp 78) (.const (.bool false)), none⟩,
  ⟨(some 80), .move (.tmp 79), none⟩,
  ⟨(some 81), .move (.tmp 6), (some ((some 80), false))⟩,
  ⟨(some 82), .bin .or (.tmp 81) (.const (.int .i64 (.ofNat 32))), (some ((some 80), false))⟩,
  ⟨(some 83), .bin .geq (.tmp 82) (.const (.int .i64 (.ofNat 97))), (some ((some 80), false))⟩,
  ⟨(some 84), .move (.tmp 83), (some ((some 80), false))⟩,
  ⟨(some 85), .move (.tmp 6), (some ((some 84), true))⟩,
  ⟨(some 86), .bin .or (.tmp 85) (.const (.int .i64 (.ofNat 32))), (some ((some 84), true))⟩,
  ⟨(some 87), .bin .leq (.tmp 86) (.const (.int .i64 (.ofNat 122))), (some ((some 84), true))⟩,
  ⟨(some 88), .pick (.tmp 84) (.tmp 87) (.const (.bool false)), (some ((some 80), false))⟩,
  ⟨(some 89), .pick (.tmp 80) (.const (.bool true)) (.tmp 88), none⟩] none
def f78r21 : ICode := .region [
  ⟨(some 90), .move (.tmp 0), none⟩,
  ⟨(some 91), .move (.tmp 1), none⟩,
  ⟨(some 92), .call 58 [(.tmp 90), (.const (.int .i64 (.ofNat 20))), (.tmp 91)], none⟩] none
def f78r22 : ICode := .region [
  ⟨(some 93), .move (.tmp 6), none⟩,
  ⟨(some 94), .call 74 [(.tmp 93)], none⟩,
  ⟨(some 95), .move (.tmp 6), none⟩,
  ⟨(some 4), .move (.tmp 94), none⟩,
  ⟨(some 5), .move (.tmp 95), none⟩] none
/- (*ferret/syn.parser).escape -/
def f78 : IFn := ⟨96, [.inl 4, .inl 5], (.seq f78r0 (.seq f78r1 (.seq f78r2 (.seq (.block 0 (.seq f78r3 (.cond (.tmp 21) f78r4 (.seq f78r5 (.cond (.tmp 31) (.seq f78r6 (.seq (.seq f78r7 (.cond (.tmp 42) f78r8 .skip)) (.seq f78r9 .ret))) (.seq f78r10 (.cond (.tmp 46) (.seq f78r11 (.seq f78r12 .ret)) .skip))))))) (.seq (.seq f78r13 (.seq f78r14 (.cond (.tmp 61) (.seq f78r15 .ret) .skip))) (.seq (.seq f78r16 (.seq f78r17 (.cond (.tmp 67) (.seq f78r18 (.seq f78r19 .ret)) .skip))) (.seq (.seq f78r20 (.cond (.tmp 89) f78r21 .skip)) (.seq f78r22 .ret))))))))⟩
def f79r0 : ICode := .region [
  ⟨(some 2), .move (.const (.slice none 0 0)), none⟩] none
def f79r1 : ICode := .region [
  ⟨(some 3), .move (.tmp 0), none⟩,
  ⟨(some 4), .nilEq false 1 (.tmp 3) (.const (.slice none 0 0)), none⟩] none
def f79r2 : ICode := .region [
  ⟨(some 2), .move (.const (.slice none 0 0)), none⟩] none
def f79r3 : ICode := .region [
  ⟨(some 5), .bad, none⟩,
  ⟨(some 6), .move (.tmp 0), none⟩,
  ⟨(some 7), .append 75 2 16 (.tmp 5) (.tmp 6), none⟩,
  ⟨(some 2), .move (.tmp 7), none⟩] none
/- slices.Clone[ferret/sets.Set,ferret/api.Range] -/
def f79 : IFn := ⟨8, [.inl 2], (.seq f79r0 (.seq (.seq f79r1 (.cond (.tmp 4) (.seq f79r2 .ret) .skip)) (.seq f79r3 .ret)))⟩
def f80r0 : ICode := .region [
  ⟨(some 0), .move (.const (.slice none 0 0)), none⟩] none
def f80r1 : ICode := .region [
  ⟨(some 1), .build [(.int .i64 (.ofNat 0)), (.int .i64 (.ofNat 0)), (.int .i64 (.ofNat 0))] [(0, 1, (.const (.int .i64 (.ofNat 65)))), (1, 1, (.const (.int .i64 (.ofNat 90)))), (2, 1, (.const (.int .i64 (.ofNat 32))))], none⟩,
  ⟨(some 2), .build [(.int .i64 (.ofNat 0)), (.int .i64 (.ofNat 0)), (.int .i64 (.ofNat 0))] [(0, 1, (.const (.int .i64 (.ofNat 192)))), (1, 1, (.const (.int .i64 (.ofNat 214)))), (2, 1, (.const (.int .i64 (.ofNat 32))))], none⟩,
  ⟨(some 3), .build [(.int .i64 (.ofNat 0)), (.int .i64 (.ofNat 0)), (.int .i64 (.ofNat 0))] [(0, 1, (.const (.int .i64 (.ofNat 216)))), (1, 1, (.const (.int .i64 (.ofNat 222)))), (2, 1, (.const (.int .i64 (.ofNat 32))))], none⟩,
  ⟨(some 4), .build [(.int .i64 (.ofNat 0)), (.int .i64 (.ofNat 0)), (.int .i64 (.ofNat 0))] [(0, 1, (.const (.int .i64 (.ofNat 913)))), (1, 1, (.const (.int .i64 (.ofNat 929)))), (2, 1, (.const (.int .i64 (.ofNat 32))))], none⟩,
  ⟨(some 5), .build [(.int .i64 (.ofNat 0)), (.int .i64 (.ofNat 0)), (.int .i64 (.ofNat 0))] [(0, 1, (.const (.int .i64 (.ofNat 931)))), (1, 1, (.const (.int .i64 (.ofNat 937)))), (2, 1, (.const (.int .i64 (.ofNat 32))))], none⟩,
  ⟨(some 6), .build [(.int .i64 (.ofNat 0)), (.int .i64 (.ofNat 0)), (.int .i64 (.ofNat 0))] [(0, 1, (.const (.int .i64 (.ofNat 1040)))), (1, 1, (.const (.int .i64 (.ofNat 1071)))), (2, 1, (.const (.int .i64 (.ofNat 32))))], none⟩,
  ⟨(some 7), .build [(.int .i64 (.ofNat 0)), (.int .i64 (.ofNat 0)), (.int .i64 (.ofNat 0))] [(0, 1, (.const (.int .i64 (.ofNat 66560)))), (1, 1, (.const (.int .i64 (.ofNat 66599)))), (2, 1, (.const (.int .i64 (.ofNat 40))))], none⟩,
  ⟨(some 8), .buildSlice 155 7 [(.int .i64 (.ofNat 0)), (.int .i64 (.ofNat 0)), (.int .i64 (.ofNat 0)), (.int .i64 (.ofNat 0)), (.int .i64 (.ofNat 0)), (.int .i64 (.ofNat 0)), (.int .i64 (.ofNat 0)), (.int .i64 (.ofNat 0)), (.int .i64 (.ofNat 0)), (.int .i64 (.ofNat 0)), (.int .i64 (.ofNat 0)), (.int .i64 (.ofNat 0)), (.int .i64 (.ofNat 0)), (.int .i64 (.ofNat 0)), (.int .i64 (.ofNat 0)), (.int .i64 (.ofNat 0)), (.int .i64 (.ofNat 0)), (.int .i64 (.ofNat 0)), (.int .i64 (.ofNat 0)), (.int .i64 (.ofNat 0)), (.int .i64 (.ofNat 0))] [(0, 3, (.tmp 1)), (3, 3, (.tmp 2)), (6, 3, (.tmp 3)), (9, 3, (.tmp 4)), (12, 3, (.tmp 5)), (15, 3, (.tmp 6)), (18, 3, (.tmp 7))], none⟩,
  ⟨(some 0), .move (.tmp 8), none⟩] none
/- ferret/ucd.shifts -/
def f80 : IFn := ⟨9, [.inl 0], (.seq f80r0 (.seq f80r1 .ret))⟩
def f81r0 : ICode := .region [
  ⟨(some 4), .move (.const (.slice none 0 0)), none⟩] none
def f81r1 : ICode := .region [
  ⟨(some 5), .move (.const (.slice none 0 0)), none⟩] none
def f81r2 : ICode := .region [
  ⟨(some 6), .move (.const (.int .i64 (.ofNat 0))), none⟩,
  ⟨(some 7), .move (.const (.int .i64 (.ofNat 0))), none⟩] none
def f81r3 : ICode := .region [
  ⟨(some 9), .move (.tmp 6), none⟩,
  ⟨(some 10), .move (.tmp 0), none⟩,
  ⟨(some 11), .len 1 (.tmp 10), none⟩,
  ⟨(some 12), .bin .lss (.tmp 9) (.tmp 11), none⟩,
  ⟨(some 13), .move (.tmp 12), none⟩,
  ⟨(some 14), .move (.tmp 7), (some ((some 13), true))⟩,
  ⟨(some 15), .move (.tmp 1), (some ((some 13), true))⟩,
  ⟨(some 16), .len 1 (.tmp 15), (some ((some 13), true))⟩,
  ⟨(some 17), .bin .lss (.tmp 14) (.tmp 16), (some ((some 13), true))⟩,
  ⟨(some 18), .pick (.tmp 13) (.tmp 17) (.const (.bool false)), none⟩] none
def f81r4 : ICode := .region [
  ⟨(some 19), .move (.tmp 0), none⟩,
  ⟨(some 20), .move (.tmp 6), none⟩,
  ⟨(some 21), .indexSl 2 (.tmp 19) (.tmp 20), none⟩,
  ⟨(some 22), .fieldAddr 0 (.tmp 21), none⟩,
  ⟨(some 23), .load1 (.tmp 22), none⟩,
  ⟨(some 24), .move (.tmp 1), none⟩,
  ⟨(some 25), .move (.tmp 7), none⟩,
  ⟨(some 26), .indexSl 2 (.tmp 24) (.tmp 25), none⟩,
  ⟨(some 27), .fieldAddr 0 (.tmp 26), none⟩,
  ⟨(some 28), .load1 (.tmp 27), none⟩,
  ⟨(some 29), .minmax true (.tmp 23) (.tmp 28), none⟩,
  ⟨(some 30), .move (.tmp 0), none⟩,
  ⟨(some 31), .move (.tmp 6), none⟩,
  ⟨(some 32), .indexSl 2 (.tmp 30) (.tmp 31), none⟩,
  ⟨(some 33), .fieldAddr 1 (.tmp 32), none⟩,
  ⟨(some 34), .load1 (.tmp 33), none⟩,
  ⟨(some 35), .move (.tmp 1), none⟩,
  ⟨(some 36), .move (.tmp 7), none⟩,
  ⟨(some 37), .indexSl 2 (.tmp 35) (.tmp 36), none⟩,
  ⟨(some 38), .fieldAddr 1 (.tmp 37), none⟩,
  ⟨(some 39), .load1 (.tmp 38), none⟩,
  ⟨(some 40), .minmax false (.tmp 34) (.tmp 39), none⟩,
  ⟨(some 41), .build [(.int .i64 (.ofNat 0)), (.int .i64 (.ofNat 0))] [(0, 1, (.tmp 29)), (1, 1, (.tmp 40))], none⟩,
  ⟨(some 8), .new [(.int .i64 (.ofNat 0)), (.int .i64 (.ofNat 0))] 75, none⟩,
  ⟨none, .store 2 (.tmp 8) (.tmp 41), none⟩] (some ⟨[], []⟩)
def f81r5 : ICode := .region [
  ⟨(some 42), .fieldAddr 0 (.tmp 8), none⟩,
  ⟨(some 43), .load1 (.tmp 42), none⟩,
  ⟨(some 44), .fieldAddr 1 (.tmp 8), none⟩,
  ⟨(some 45), .load1 (.tmp 44), none⟩,
  ⟨(some 46), .bin .leq (.tmp 43) (.tmp 45), none⟩] none
def f81r6 : ICode := .region [
  ⟨(some 47), .move (.tmp 5), none⟩,
  ⟨(some 48), .loadN 2 (.tmp 8), none⟩,
  ⟨(some 49), .buildSlice 75 1 [(.int .i64 (.ofNat 0)), (.int .i64 (.ofNat 0))] [(0, 2, (.tmp 48))], none⟩,
  ⟨(some 50), .append 75 2 16 (.tmp 47) (.tmp 49), none⟩,
  ⟨(some 5), .move (.tmp 50), none⟩] none
def f81r7 : ICode := .region [
  ⟨(some 51), .move (.tmp 0), none⟩,
  ⟨(some 52), .move (.tmp 6), none⟩,
  ⟨(some 53), .indexSl 2 (.tmp 51) (.tmp 52), none⟩,
  ⟨(some 54), .fieldAddr 1 (.tmp 53), none⟩,
  ⟨(some 55), .load1 (.tmp 54), none⟩,
  ⟨(some 56), .move (.tmp 1), none⟩,
  ⟨(some 57), .move (.tmp 7), none⟩,
  ⟨(some 58), .indexSl 2 (.tmp 56) (.tmp 57), none⟩,
  ⟨(some 59), .fieldAddr 1 (.tmp 58), none⟩,
  ⟨(some 60), .load1 (.tmp 59), none⟩,
  ⟨(some 61), .bin .lss (.tmp 55) (.tmp 60), none⟩] (some ⟨[], []⟩)
def f81r8 : ICode := .region [
  ⟨(some 62), .move (.tmp 6), none⟩,
  ⟨(some 63), .bin .add (.tmp 62) (.const (.int .i64 (.ofNat 1))), none⟩,
  ⟨(some 6), .move (.tmp 63), none⟩] none
def f81r9 : ICode := .region [
  ⟨(some 64), .move (.tmp 7), none⟩,
  ⟨(some 65), .bin .add (.tmp 64) (.const (.int .i64 (.ofNat 1))), none⟩,
  ⟨(some 7), .move (.tmp 65), none⟩] none
def f81r10 : ICode := .region [
  ⟨(some 66), .move (.tmp 5), none⟩,
  ⟨(some 4), .move (.tmp 66), none⟩] none
/- (ferret/sets.Set).And -/
def f81 : IFn := ⟨67, [.inl 4], (.seq f81r0 (.seq f81r1 (.seq (.seq f81r2 (.block 0 (.loop (.seq (.seq f81r3 (.cond (.tmp 18) .skip (.exit 0))) (.block 1 (.seq f81r4 (.seq (.seq f81r5 (.cond (.tmp 46) f81r6 .skip)) (.seq f81r7 (.cond (.tmp 61) f81r8 f81r9))))))))) (.seq f81r10 .ret))))⟩
def f82r0 : ICode := .region [
  ⟨(some 0), .move (.const (.slice none 0 0)), none⟩] none
def f82r1 : ICode := .region [
  ⟨(some 1), .buildSlice 3 3 [(.int .i64 (.ofNat 0)), (.int .i64 (.ofNat 0)), (.int .i64 (.ofNat 0))] [(0, 1, (.const (.int .i64 (.ofNat 75)))), (1, 1, (.const (.int .i64 (.ofNat 107)))), (2, 1, (.const (.int .i64 (.ofNat 8490))))], none⟩,
  ⟨(some 2), .buildSlice 3 3 [(.int .i64 (.ofNat 0)), (.int .i64 (.ofNat 0)), (.int .i64 (.ofNat 0))] [(0, 1, (.const (.int .i64 (.ofNat 83)))), (1, 1, (.const (.int .i64 (.ofNat 115)))), (2, 1, (.const (.int .i64 (.ofNat 383))))], none⟩,
  ⟨(some 3), .buildSlice 3 3 [(.int .i64 (.ofNat 0)), (.int .i64 (.ofNat 0)), (.int .i64 (.ofNat 0))] [(0, 1, (.const (.int .i64 (.ofNat 197)))), (1, 1, (.const (.int .i64 (.ofNat 229)))), (2, 1, (.const (.int .i64 (.ofNat 8491))))], none⟩,
  ⟨(some 4), .buildSlice 3 3 [(.int .i64 (.ofNat 0)), (.int .i64 (.ofNat 0)), (.int .i64 (.ofNat 0))] [(0, 1, (.const (.int .i64 (.ofNat 181)))), (1, 1, (.const (.int .i64 (.ofNat 924)))), (2, 1, (.const (.int .i64 (.ofNat 956))))], none⟩,
  ⟨(some 5), .buildSlice 3 3 [(.int .i64 (.ofNat 0)), (.int .i64 (.ofNat 0)), (.int .i64 (.ofNat 0))] [(0, 1, (.const (.int .i64 (.ofNat 931)))), (1, 1, (.const (.int .i64 (.ofNat 962)))), (2, 1, (.const (.int .i64 (.ofNat 963))))], none⟩,
  ⟨(some 6), .buildSlice 26 5 [(.slice none 0 0), (.slice none 0 0), (.slice none 0 0), (.slice none 0 0), (.slice none 0 0)] [(0, 1, (.tmp 1)), (1, 1, (.tmp 2)), (2, 1, (.tmp 3)), (3, 1, (.tmp 4)), (4, 1, (.tmp 5))], none⟩,
  ⟨(some 0), .move (.tmp 6), none⟩] none
/- ferret/ucd.rings -/
def f82 : IFn := ⟨7, [.inl 0], (.seq f82r0 (.seq f82r1 .ret))⟩
def f84r0 : ICode := .region [
  ⟨(some 2), .box 51 (.tmp 0), none⟩,
  ⟨(some 3), .box 3 (.tmp 1), none⟩,
  ⟨(some 4), .move (.const (.bool false)), none⟩] none
def f84r1 : ICode := .region [
  ⟨(some 6), .load1 (.tmp 2), none⟩,
  ⟨(some 7), .len 1 (.tmp 6), none⟩,
  ⟨(some 8), .mkFunc (.func 102) [] [(.tmp 2), (.tmp 3)], none⟩,
  ⟨(some 9), .call 101 [(.tmp 7), (.tmp 8)], none⟩,
  ⟨(some 5), .move (.tmp 9), none⟩] none
def f84r2 : ICode := .region [
  ⟨(some 10), .move (.tmp 5), none⟩,
  ⟨(some 11), .load1 (.tmp 2), none⟩,
  ⟨(some 12), .len 1 (.tmp 11), none⟩,
  ⟨(some 13), .bin .lss (.tmp 10) (.tmp 12), none⟩,
  ⟨(some 14), .move (.tmp 13), none⟩,
  ⟨(some 15), .load1 (.tmp 2), (some ((some 14), true))⟩,
  ⟨(some 16), .move (.tmp 5), (some ((some 14), true))⟩,
  ⟨(some 17), .indexSl 2 (.tmp 15) (.tmp 16), (some ((some 14), true))⟩,
  ⟨(some 18), .fieldAddr 0 (.tmp 17), (some ((some 14), true))⟩,
  ⟨(some 19), .load1 (.tmp 18), (some ((some 14), true))⟩,
  ⟨(some 20), .load1 (.tmp 3), (some ((some 14), true))⟩,
  ⟨(some 21), .bin .leq (.tmp 19) (.tmp 20), (some ((some 14), true))⟩,
  ⟨(some 22), .pick (.tmp 14) (.tmp 21) (.const (.bool false)), none⟩,
  ⟨(some 4), .move (.tmp 22), none⟩] (some ⟨[], []⟩)
/- (ferret/sets.Set).Has -/
def f84 : IFn := ⟨23, [.inl 4], (.seq f84r0 (.seq f84r1 (.seq f84r2 .ret)))⟩
def f83r0 : ICode := .region [
  ⟨(some 4), .move (.const (.bool false)), none⟩] none
def f83r1 : ICode := .region [
  ⟨(some 5), .move (.tmp 0), none⟩,
  ⟨(some 6), .move (.tmp 1), none⟩,
  ⟨(some 7), .call 100 [(.tmp 5), (.tmp 6)], none⟩,
  ⟨(some 8), .bin .geq (.tmp 7) (.const (.int .i64 (.ofNat 0))), none⟩,
  ⟨(some 4), .move (.tmp 8), none⟩] none
/- slices.ContainsFunc[[]int,int] -/
def f83 : IFn := ⟨9, [.inl 4], (.seq f83r0 (.seq f83r1 .ret))⟩
def f87r0 : ICode := .region [
  ⟨(some 5), .move (.const (.bool false)), none⟩] none
def f87r1 : ICode := .region [
  ⟨(some 6), .load1 (.tmp 2), none⟩,
  ⟨(some 7), .move (.tmp 0), none⟩,
  ⟨(some 8), .indexSl 2 (.tmp 6) (.tmp 7), none⟩,
  ⟨(some 9), .fieldAddr 0 (.tmp 8), none⟩,
  ⟨(some 10), .load1 (.tmp 9), none⟩,
  ⟨(some 11), .load1 (.tmp 2), none⟩,
  ⟨(some 12), .move (.tmp 1), none⟩,
  ⟨(some 13), .indexSl 2 (.tmp 11) (.tmp 12), none⟩,
  ⟨(some 14), .fieldAddr 0 (.tmp 13), none⟩,
  ⟨(some 15), .load1 (.tmp 14), none⟩,
  ⟨(some 16), .bin .lss (.tmp 10) (.tmp 15), none⟩,
  ⟨(some 5), .move (.tmp 16), none⟩] (some ⟨[], []⟩)
/- ferret/sets.Of$1 -/
def f87 : IFn := ⟨17, [.inl 5], (.seq f87r0 (.seq f87r1 .ret))⟩
def f86r0 : ICode := .region [
  ⟨(some 8), .move (.tmp 0), none⟩,
  ⟨(some 9), .call 103 [(.tmp 8)], none⟩,
  ⟨(some 4), .new [(.pointer none), (.pointer none), (.int .u64 (.ofNat 0))] 176, none⟩,
  ⟨none, .store 3 (.tmp 4) (.tmp 9), none⟩] none
def f86r1 : ICode := .region [
  ⟨(some 10), .move (.tmp 0), none⟩,
  ⟨(some 11), .call 104 [(.tmp 10)], none⟩,
  ⟨(some 5), .move (.tmp 11), none⟩] none
def f86r2 : ICode := .region [
  ⟨(some 12), .loadN 3 (.tmp 4), none⟩,
  ⟨(some 13), .call 105 [(.tmp 12)], none⟩,
  ⟨(some 6), .move (.tmp 13), none⟩] none
def f86r3 : ICode := .region [
  ⟨(some 14), .move (.tmp 6), none⟩,
  ⟨(some 15), .conv .u64 (.tmp 14), none⟩,
  ⟨(some 16), .call 106 [(.tmp 15)], none⟩,
  ⟨(some 7), .move (.tmp 16), none⟩] none
def f86r4 : ICode := .region [
  ⟨(some 17), .move (.tmp 1), none⟩,
  ⟨(some 18), .move (.tmp 5), none⟩,
  ⟨(some 19), .build [.nilFunc, .nilFunc] [(0, 1, (.tmp 17)), (1, 1, (.tmp 18))], none⟩,
  ⟨(some 20), .move (.tmp 6), none⟩,
  ⟨(some 21), .move (.tmp 7), none⟩,
  ⟨(some 22), .call 107 [(.tmp 19), (.const (.int .i64 (.ofNat 0))), (.tmp 20), (.tmp 21)], none⟩] none
/- sort.Slice -/
def f86 : IFn := ⟨23, [], (.seq f86r0 (.seq f86r1 (.seq f86r2 (.seq f86r3 f86r4))))⟩
def f85r0 : ICode := .region [
  ⟨(some 2), .move (.const (.slice none 0 0)), none⟩] none
def f85r1 : ICode := .region [
  ⟨(some 3), .move (.const (.slice none 0 0)), none⟩] none
def f85r2 : ICode := .region [
  ⟨(some 4), .move (.const (.int .i64 (.ofNat 0))), none⟩] none
def f85r3 : ICode := .region [
  ⟨(some 7), .move (.tmp 0), none⟩,
  ⟨(some 8), .len 1 (.tmp 7), none⟩,
  ⟨(some 9), .move (.const (.int .i64 (.ofNat 0))), none⟩] none
def f85r4 : ICode := .region [
  ⟨(some 10), .bin .lss (.tmp 9) (.tmp 8), none⟩] none
def f85r5 : ICode := .region [
  ⟨(some 11), .indexSl 2 (.tmp 7) (.tmp 9), none⟩,
  ⟨(some 12), .loadN 2 (.tmp 11), none⟩,
  ⟨(some 6), .new [(.int .i64 (.ofNat 0)), (.int .i64 (.ofNat 0))] 75, none⟩,
  ⟨none, .store 2 (.tmp 6) (.tmp 12), none⟩] none
def f85r6 : ICode := .region [
  ⟨(some 13), .move (.tmp 4), none⟩,
  ⟨(some 14), .fieldAddr 0 (.tmp 6), none⟩,
  ⟨(some 15), .load1 (.tmp 14), none⟩,
  ⟨(some 16), .bin .lss (.tmp 13) (.tmp 15), none⟩] none
def f85r7 : ICode := .region [
  ⟨(some 17), .move (.tmp 3), none⟩,
  ⟨(some 18), .move (.tmp 4), none⟩,
  ⟨(some 19), .fieldAddr 0 (.tmp 6), none⟩,
  ⟨(some 20), .load1 (.tmp 19), none⟩,
  ⟨(some 21), .bin .sub (.tmp 20) (.const (.int .i64 (.ofNat 1))), none⟩,
  ⟨(some 22), .build [(.int .i64 (.ofNat 0)), (.int .i64 (.ofNat 0))] [(0, 1, (.tmp 18)), (1, 1, (.tmp 21))], none⟩,
  ⟨(some 23), .buildSlice 75 1 [(.int .i64 (.ofNat 0)), (.int .i64 (.ofNat 0))] [(0, 2, (.tmp 22))], none⟩,
  ⟨(some 24), .append 75 2 16 (.tmp 17) (.tmp 23), none⟩,
  ⟨(some 3), .move (.tmp 24), none⟩] none
def f85r8 : ICode := .region [
  ⟨(some 25), .fieldAddr 1 (.tmp 6), none⟩,
  ⟨(some 26), .load1 (.tmp 25), none⟩,
  ⟨(some 27), .bin .add (.tmp 26) (.const (.int .i64 (.ofNat 1))), none⟩,
  ⟨(some 4), .move (.tmp 27), none⟩] none
def f85r9 : ICode := .region [
  ⟨(some 28), .bin .add (.tmp 9) (.const (.int .i64 (.ofNat 1))), none⟩,
  ⟨(some 9), .move (.tmp 28), none⟩] none
def f85r10 : ICode := .region [
  ⟨(some 29), .move (.tmp 4), none⟩,
  ⟨(some 30), .bin .leq (.tmp 29) (.const (.int .i64 (.ofNat 1114111))), none⟩] none
def f85r11 : ICode := .region [
  ⟨(some 31), .move (.tmp 3), none⟩,
  ⟨(some 32), .move (.tmp 4), none⟩,
  ⟨(some 33), .build [(.int .i64 (.ofNat 0)), (.int .i64 (.ofNat 0))] [(0, 1, (.tmp 32)), (1, 1, (.const (.int .i64 (.ofNat 1114111))))], none⟩,
  ⟨(some 34), .buildSlice 75 1 [(.int .i64 (.ofNat 0)), (.int .i64 (.ofNat 0))] [(0, 2, (.tmp 33))], none⟩,
  ⟨(some 35), .append 75 2 16 (.tmp 31) (.tmp 34), none⟩,
  ⟨(some 3), .move (.tmp 35), none⟩] none
def f85r12 : ICode := .region [
  ⟨(some 36), .move (.tmp 3), none⟩,
  ⟨(some 2), .move (.tmp 36), none⟩] none
/- (ferret/sets.Set).Not -/
def f85 : IFn := ⟨37, [.inl 2], (.seq f85r0 (.seq f85r1 (.seq f85r2 (.seq (.seq f85r3 (.block 0 (.loop (.seq f85r4 (.seq (.cond (.tmp 10) .skip (.exit 0)) (.seq (.block 1 (.seq f85r5 (.seq (.seq f85r6 (.cond (.tmp 16) f85r7 .skip)) f85r8))) f85r9)))))) (.seq (.seq f85r10 (.cond (.tmp 30) f85r11 .skip)) (.seq f85r12 .ret))))))⟩
def f88r0 : ICode := .region [
  ⟨(some 3), .box 54 (.tmp 0), none⟩,
  ⟨(some 5), .new [(.int .i64 (.ofNat 0)), (.slice none 0 0), (.bool false), (.int .i64 (.ofNat 0)), (.int .i64 (.ofNat 0)), (.bool false), (.int .i64 (.ofNat 0)), (.string ⟨⟨[]⟩⟩), (.slice none 0 0)] 54, none⟩] none
def f88r1 : ICode := .region [
  ⟨(some 6), .move (.tmp 1), none⟩,
  ⟨(some 7), .fieldAddr 5 (.tmp 2), none⟩,
  ⟨(some 8), .load1 (.tmp 7), none⟩,
  ⟨(some 9), .loadN 9 (.tmp 3), none⟩,
  ⟨(some 10), .buildSlice 54 1 [(.int .i64 (.ofNat 0)), (.slice none 0 0), (.bool false), (.int .i64 (.ofNat 0)), (.int .i64 (.ofNat 0)), (.bool false), (.int .i64 (.ofNat 0)), (.string ⟨⟨[]⟩⟩), (.slice none 0 0)] [(0, 9, (.tmp 9))], none⟩,
  ⟨(some 11), .build [(.int .i64 (.ofNat 0)), (.slice none 0 0), (.bool false), (.int .i64 (.ofNat 0)), (.int .i64 (.ofNat 0)), (.bool false), (.int .i64 (.ofNat 0)), (.string ⟨⟨[]⟩⟩), (.slice none 0 0)] [(0, 1, (.const (.int .i64 (.ofNat 10)))), (4, 1, (.tmp 6)), (5, 1, (.tmp 8)), (8, 1, (.tmp 10))], none⟩,
  ⟨none, .store 9 (.tmp 5) (.tmp 11), none⟩] none
/- ferret/simple.repeat$1 -/
def f88 : IFn := ⟨12, [.inr (5, (some 9))], (.seq f88r0 (.seq f88r1 .ret))⟩
def f89r0 : ICode := .region [
  ⟨(some 0), .new [(.int .i64 (.ofNat 0)), (.int .i64 (.ofNat 0)), (.int .i64 (.ofNat 0)), (.int .i64 (.ofNat 0)), (.int .i64 (.ofNat 0)), (.int .i64 (.ofNat 0))] 163, none⟩] none
def f89r1 : ICode := .region [
  ⟨(some 1), .build [(.int .i64 (.ofNat 0)), (.int .i64 (.ofNat 0)), (.int .i64 (.ofNat 0)), (.int .i64 (.ofNat 0)), (.int .i64 (.ofNat 0)), (.int .i64 (.ofNat 0))] [(0, 1, (.const (.int .i64 (.ofNat 128)))), (1, 1, (.const (.int .i64 (.ofNat 2048)))), (2, 1, (.const (.int .i64 (.ofNat 55296)))), (3, 1, (.const (.int .i64 (.ofNat 57344)))), (4, 1, (.const (.int .i64 (.ofNat 65536)))), (5, 1, (.const (.int .i64 (.ofNat 1114112))))], none⟩,
  ⟨none, .store 6 (.tmp 0) (.tmp 1), none⟩] none
/- ferret/utfsplit.borders -/
def f89 : IFn := ⟨2, [.inr (0, (some 6))], (.seq f89r0 (.seq f89r1 .ret))⟩
def f90r0 : ICode := .region [
  ⟨(some 3), .box 75 (.tmp 1), none⟩,
  ⟨(some 4), .move (.const (.slice none 0 0)), none⟩] none
def f90r1 : ICode := .region [
  ⟨(some 5), .fieldAddr 1 (.tmp 3), none⟩,
  ⟨(some 6), .load1 (.tmp 5), none⟩,
  ⟨(some 7), .bin .lss (.tmp 6) (.const (.int .i64 (.ofNat 128))), none⟩] none
def f90r2 : ICode := .region [
  ⟨(some 8), .move (.tmp 0), none⟩,
  ⟨(some 9), .loadN 2 (.tmp 3), none⟩,
  ⟨(some 10), .buildSlice 75 1 [(.int .i64 (.ofNat 0)), (.int .i64 (.ofNat 0))] [(0, 2, (.tmp 9))], none⟩,
  ⟨(some 11), .buildSlice 142 1 [(.slice none 0 0)] [(0, 1, (.tmp 10))], none⟩,
  ⟨(some 12), .append 142 1 24 (.tmp 8) (.tmp 11), none⟩,
  ⟨(some 4), .move (.tmp 12), none⟩] none
def f90r3 : ICode := .region [
  ⟨(some 13), .move (.tmp 0), none⟩,
  ⟨(some 14), .loadN 2 (.tmp 3), none⟩,
  ⟨(some 15), .call 108 [(.tmp 13), (.tmp 14)], none⟩,
  ⟨(some 4), .move (.tmp 15), none⟩] none
/- ferret/utfsplit.cut -/
def f90 : IFn := ⟨16, [.inl 4], (.seq f90r0 (.seq (.seq f90r1 (.cond (.tmp 7) (.seq f90r2 .ret) .skip)) (.seq f90r3 .ret)))⟩
def f91r0 : ICode := .region [
  ⟨(some 4), .move (.const (.string ⟨⟨[]⟩⟩)), none⟩] none
def f91r1 : ICode := .region [
  ⟨(some 7), .move (.tmp 0), none⟩,
  ⟨(some 8), .call 45 [(.tmp 7), (.const (.string ⟨⟨[60]⟩⟩))], none⟩,
  ⟨(some 9), .un .not (.tmp 8), none⟩] none
def f91r2 : ICode := .region [
  ⟨(some 10), .move (.tmp 0), none⟩,
  ⟨(some 11), .move (.tmp 1), none⟩,
  ⟨(some 12), .call 58 [(.tmp 10), (.const (.int .i64 (.ofNat 25))), (.tmp 11)], none⟩] none
def f91r3 : ICode := .region [
  ⟨(some 5), .move (.const (.slice none 0 0)), none⟩] none
def f91r4 : ICode := .region [
  ⟨(some 13), .move (.tmp 0), none⟩,
  ⟨(some 14), .call 57 [(.tmp 13), (.const (.int .i64 (.ofNat 0)))], none⟩,
  ⟨(some 6), .move (.tmp 14), none⟩] none
def f91r5 : ICode := .region [
  ⟨(some 15), .move (.tmp 6), none⟩,
  ⟨(some 16), .bin .geq (.tmp 15) (.const (.int .i64 (.ofNat 48))), none⟩,
  ⟨(some 17), .move (.tmp 16), none⟩,
  ⟨(some 18), .move (.tmp 6), (some ((some 17), true))⟩,
  ⟨(some 19), .bin .leq (.tmp 18) (.const (.int .i64 (.ofNat 57))), (some ((some 17), true))⟩,
  ⟨(some 20), .pick (.tmp 17) (.tmp 19) (.const (.bool false)), none⟩,
  ⟨(some 21), .move (.tmp 20), none⟩,
  ⟨(some 22), .move (.tmp 6), (some ((some 21), false))⟩,
  ⟨(some 23), .bin .geq (.tmp 22) (.const (.int .i64 (.ofNat 65))), (some ((some 21), false))⟩,
  ⟨(some 24), .move (.tmp 23), (some ((some 21), false))⟩,
  ⟨(some 25), .move (.tmp 6), (some ((some 24), true))⟩,
  ⟨(some 26), .bin .leq (.tmp 25) (.const (.int .i64 (.ofNat 90))), (some ((some 24), true))⟩,
  ⟨(some 27), .pick (.tmp 24) (.tmp 26) (.const (.bool false)), (some ((some 21), false))⟩,
  ⟨(some 28), .pick (.tmp 21) (.const (.bool true)) (.tmp 27), none⟩,
  ⟨(some 29), .move (.tmp 28), none⟩,
  ⟨(some 30), .move (.tmp 6), (some ((some 29), false))⟩,
  ⟨(some 31), .bin .geq (.tmp 30) (.const (.int .i64 (.ofNat 97))), (some ((some 29), false))⟩,
  ⟨(some 32), .move (.tmp 31), (some ((some 29), false))⟩,
  ⟨(some 33), .move (.tmp 6), (some ((some 32), true))⟩,
  ⟨(some 34), .bin .leq (.tmp 33) (.const (.int .i64 (.ofNat 122))), (some ((some 32), true))⟩,
  ⟨(some 35), .pick (.tmp 32) (.tmp 34) (.const (.bool false)), (some ((some 29), false))⟩,
  ⟨(some 36), .pick (.tmp 29) (.const (.bool true)) (.tmp 35), none⟩,
  ⟨(some 37), .move (.tmp 36), none⟩,
  ⟨(some 38), .move (.tmp 6), (some ((some 37), false))⟩,
  ⟨(some 39), .bin .eql (.tmp 38) (.const (.int .i64 (.ofNat 95))), (some ((some 37), false))⟩,
  ⟨(some 40), .pick (.tmp 37) (.const (.bool true)) (.tmp 39), none⟩] none
def f91r6 : ICode := .region [
  ⟨(some 43), .move (.tmp 5), none⟩,
  ⟨(some 44), .move (.tmp 6), none⟩,
  ⟨(some 45), .conv .u8 (.tmp 44), none⟩,
  ⟨(some 46), .buildSlice 5 1 [(.int .u8 (.ofNat 0))] [(0, 1, (.tmp 45))], none⟩,
  ⟨(some 47), .append 5 1 1 (.tmp 43) (.tmp 46), none⟩,
  ⟨(some 5), .move (.tmp 47), none⟩] none
def f91r7 : ICode := .region [
  ⟨(some 48), .move (.tmp 0), none⟩,
  ⟨(some 49), .nilCheck (.tmp 48), none⟩,
  ⟨(some 50), .fieldAddr 4 (.tmp 49), none⟩,
  ⟨(some 51), .load1 (.tmp 50), none⟩,
  ⟨(some 52), .bin .add (.tmp 51) (.const (.int .i64 (.ofNat 1))), none⟩,
  ⟨(some 53), .nilCheck (.tmp 48), none⟩,
  ⟨(some 54), .fieldAddr 4 (.tmp 53), none⟩,
  ⟨none, .store 1 (.tmp 54) (.tmp 52), none⟩] none
def f91r8 : ICode := .region [
  ⟨(some 41), .move (.tmp 0), none⟩,
  ⟨(some 42), .call 57 [(.tmp 41), (.const (.int .i64 (.ofNat 0)))], none⟩,
  ⟨(some 6), .move (.tmp 42), none⟩] none
def f91r9 : ICode := .region [
  ⟨(some 55), .move (.tmp 0), none⟩,
  ⟨(some 56), .call 45 [(.tmp 55), (.const (.string ⟨⟨[62]⟩⟩))], none⟩,
  ⟨(some 57), .un .not (.tmp 56), none⟩,
  ⟨(some 58), .move (.tmp 57), none⟩,
  ⟨(some 59), .move (.tmp 5), (some ((some 58), false))⟩,
  ⟨(some 60), .len 1 (.tmp 59), (some ((some 58), false))⟩,
  ⟨(some 61), .bin .eql (.tmp 60) (.const (.int .i64 (.ofNat 0))), (some ((some 58), false))⟩,
  ⟨(some 62), .pick (.tmp 58) (.const (.bool true)) (.tmp 61), none⟩,
  ⟨(some 63), .move (.tmp 62), none⟩,
  ⟨(some 64), .move (.tmp 5), (some ((some 63), false))⟩,
  ⟨(some 65), .len 1 (.tmp 64), (some ((some 63), false))⟩,
  ⟨(some 66), .bin .gtr (.tmp 65) (.const (.int .i64 (.ofNat 32))), (some ((some 63), false))⟩,
  ⟨(some 67), .pick (.tmp 63) (.const (.bool true)) (.tmp 66), none⟩,
  ⟨(some 68), .move (.tmp 67), none⟩,
  ⟨(some 69), .move (.tmp 0), (some ((some 68), false))⟩,
  ⟨(some 70), .nilCheck (.tmp 69), (some ((some 68), false))⟩,
  ⟨(some 71), .fieldAddr 6 (.tmp 70), (some ((some 68), false))⟩,
  ⟨(some 72), .load1 (.tmp 71), (some ((some 68), false))⟩,
  ⟨(some 73), .move (.tmp 5), (some ((some 68), false))⟩,
  ⟨(some 74), .bytesToStr (.tmp 73), (some ((some 68), false))⟩,
  ⟨(some 75), .call 109 [(.tmp 72), (.tmp 74)], (some ((some 68), false))⟩,
  ⟨(some 76), .pick (.tmp 68) (.const (.bool true)) (.tmp 75), none⟩] (some ⟨[], []⟩)
def f91r10 : ICode := .region [
  ⟨(some 77), .move (.tmp 0), none⟩,
  ⟨(some 78), .move (.tmp 1), none⟩,
  ⟨(some 79), .call 58 [(.tmp 77), (.const (.int .i64 (.ofNat 25))), (.tmp 78)], none⟩] none
def f91r11 : ICode := .region [
  ⟨(some 80), .move (.tmp 5), none⟩,
  ⟨(some 81), .bytesToStr (.tmp 80), none⟩,
  ⟨(some 4), .move (.tmp 81), none⟩] none
/- (*ferret/syn.parser).name -/
def f91 : IFn := ⟨82, [.inl 4], (.seq f91r0 (.seq (.seq f91r1 (.cond (.tmp 9) f91r2 .skip)) (.seq f91r3 (.seq (.seq f91r4 (.block 0 (.loop (.seq (.seq f91r5 (.cond (.tmp 40) .skip (.exit 0))) (.seq (.block 1 (.seq f91r6 f91r7)) f91r8))))) (.seq (.seq f91r9 (.cond (.tmp 76) f91r10 .skip)) (.seq f91r11 .ret))))))⟩
def f92r0 : ICode := .region [
  ⟨(some 4), .move (.const (.int .i64 (.ofNat 0))), none⟩] none
def f92r1 : ICode := .region [
  ⟨(some 5), .move (.tmp 0), none⟩,
  ⟨(some 6), .move (.tmp 0), none⟩,
  ⟨(some 7), .nilCheck (.tmp 6), none⟩,
  ⟨(some 8), .fieldAddr 6 (.tmp 7), none⟩,
  ⟨(some 9), .load1 (.tmp 8), none⟩,
  ⟨(some 10), .move (.tmp 1), none⟩,
  ⟨(some 11), .buildSlice 9 1 [(.string ⟨⟨[]⟩⟩)] [(0, 1, (.tmp 10))], none⟩,
  ⟨(some 12), .append 9 1 16 (.tmp 9) (.tmp 11), none⟩,
  ⟨(some 13), .nilCheck (.tmp 5), none⟩,
  ⟨(some 14), .fieldAddr 6 (.tmp 13), none⟩,
  ⟨none, .store 1 (.tmp 14) (.tmp 12), none⟩] none
def f92r2 : ICode := .region [
  ⟨(some 15), .move (.tmp 0), none⟩,
  ⟨(some 16), .nilCheck (.tmp 15), none⟩,
  ⟨(some 17), .fieldAddr 6 (.tmp 16), none⟩,
  ⟨(some 18), .load1 (.tmp 17), none⟩,
  ⟨(some 19), .len 1 (.tmp 18), none⟩,
  ⟨(some 20), .bin .sub (.tmp 19) (.const (.int .i64 (.ofNat 1))), none⟩,
  ⟨(some 4), .move (.tmp 20), none⟩] none
/- (*ferret/syn.parser).group -/
def f92 : IFn := ⟨21, [.inl 4], (.seq f92r0 (.seq f92r1 (.seq f92r2 .ret)))⟩
def f93r0 : ICode := .region [
  ⟨(some 4), .move (.const (.bool false)), none⟩] none
def f93r1 : ICode := .region [
  ⟨(some 5), .move (.const (.bool true)), none⟩,
  ⟨(some 6), .move (.const (.bool false)), none⟩] none
def f93r2 : ICode := .region [
  ⟨(some 10), .move (.tmp 0), none⟩,
  ⟨(some 11), .nilCheck (.tmp 10), none⟩,
  ⟨(some 12), .fieldAddr 7 (.tmp 11), none⟩,
  ⟨(some 13), .loadN 4 (.tmp 12), none⟩,
  ⟨(some 7), .new [(.bool false), (.bool false), (.bool false), (.bool false)] 61, none⟩,
  ⟨none, .store 4 (.tmp 7) (.tmp 13), none⟩] none
def f93r3 : ICode := .region [
  ⟨(some 8), .new [(.slice none 0 0), (.slice none 0 0)] 186, none⟩] none
def f93r4 : ICode := .region [
  ⟨(some 14), .move (.tmp 0), none⟩,
  ⟨(some 15), .call 57 [(.tmp 14), (.const (.int .i64 (.ofNat 0)))], none⟩,
  ⟨(some 9), .move (.tmp 15), none⟩] none
def f93r5 : ICode := .region [
  ⟨(some 16), .move (.tmp 0), none⟩,
  ⟨(some 17), .nilCheck (.tmp 16), none⟩,
  ⟨(some 18), .fieldAddr 4 (.tmp 17), none⟩,
  ⟨(some 19), .load1 (.tmp 18), none⟩,
  ⟨(some 20), .bin .add (.tmp 19) (.const (.int .i64 (.ofNat 1))), none⟩,
  ⟨(some 21), .nilCheck (.tmp 16), none⟩,
  ⟨(some 22), .fieldAddr 4 (.tmp 21), none⟩,
  ⟨none, .store 1 (.tmp 22) (.tmp 20), none⟩] none
def f93r6 : ICode := .region [
  ⟨(some 27), .move (.tmp 9), none⟩,
  ⟨(some 28), .bin .eql (.tmp 27) (.const (.int .i64 (.ofNat 45))), none⟩,
  ⟨(some 29), .move (.tmp 28), none⟩,
  ⟨(some 30), .move (.tmp 5), (some ((some 29), true))⟩,
  ⟨(some 31), .pick (.tmp 29) (.tmp 30) (.const (.bool false)), none⟩,
  ⟨(some 26), .move (.tmp 31), none⟩] none
def f93r7 : ICode := .region [
  ⟨(some 5), .move (.const (.bool false)), none⟩] none
def f93r8 : ICode := .region [
  ⟨(some 33), .move (.tmp 9), none⟩,
  ⟨(some 34), .bin .geq (.tmp 33) (.const (.int .i64 (.ofNat 0))), none⟩,
  ⟨(some 35), .move (.tmp 34), none⟩,
  ⟨(some 36), .move (.tmp 9), (some ((some 35), true))⟩,
  ⟨(some 37), .bin .lss (.tmp 36) (.const (.int .i64 (.ofNat 128))), (some ((some 35), true))⟩,
  ⟨(some 38), .pick (.tmp 35) (.tmp 37) (.const (.bool false)), none⟩,
  ⟨(some 39), .move (.tmp 38), none⟩,
  ⟨(some 40), .move (.tmp 9), (some ((some 39), true))⟩,
  ⟨(some 41), .conv .u8 (.tmp 40), (some ((some 39), true))⟩,
  ⟨(some 42), .call 99 [(.const (.string ⟨⟨[105, 109, 115, 85]⟩⟩)), (.tmp 41)], (some ((some 39), true))⟩,
  ⟨(some 43), .bin .geq (.tmp 42) (.const (.int .i64 (.ofNat 0))), (some ((some 39), true))⟩,
  ⟨(some 44), .pick (.tmp 39) (.tmp 43) (.const (.bool false)), none⟩,
  ⟨(some 45), .move (.tmp 44), none⟩,
  ⟨(some 46), .move (.tmp 5), (some ((some 45), true))⟩,
  ⟨(some 47), .call 76 [(.tmp 46), (.const (.int .i64 (.ofNat 0))), (.const (.int .i64 (.ofNat 1)))], (some ((some 45), true))⟩,
  ⟨(some 48), .indexArrA 2 1 (.tmp 8) (.tmp 47), (some ((some 45), true))⟩,
  ⟨(some 49), .load1 (.tmp 48), (some ((some 45), true))⟩,
  ⟨(some 50), .move (.tmp 9), (some ((some 45), true))⟩,
  ⟨(some 51), .call 110 [(.tmp 49), (.tmp 50)], (some ((some 45), true))⟩,
  ⟨(some 52), .un .not (.tmp 51), (some ((some 45), true))⟩,
  ⟨(some 53), .pick (.tmp 45) (.tmp 52) (.const (.bool false)), none⟩,
  ⟨(some 32), .move (.tmp 53), none⟩] none
def f93r9 : ICode := .region [
  ⟨(some 54), .move (.tmp 5), none⟩,
  ⟨(some 55), .call 76 [(.tmp 54), (.const (.int .i64 (.ofNat 0))), (.const (.int .i64 (.ofNat 1)))], none⟩,
  ⟨(some 56), .move (.tmp 5), none⟩,
  ⟨(some 57), .call 76 [(.tmp 56), (.const (.int .i64 (.ofNat 0))), (.const (.int .i64 (.ofNat 1)))], none⟩,
  ⟨(some 58), .indexArrA 2 1 (.tmp 8) (.tmp 57), none⟩,
  ⟨(some 59), .load1 (.tmp 58), none⟩,
  ⟨(some 60), .move (.tmp 9), none⟩,
  ⟨(some 61), .buildSlice 3 1 [(.int .i64 (.ofNat 0))] [(0, 1, (.tmp 60))], none⟩,
  ⟨(some 62), .append 3 1 8 (.tmp 59) (.tmp 61), none⟩,
  ⟨(some 63), .indexArrA 2 1 (.tmp 8) (.tmp 55), none⟩,
  ⟨none, .store 1 (.tmp 63) (.tmp 62), none⟩] none
def f93r10 : ICode := .region [
  ⟨(some 6), .move (.const (.bool true)), none⟩] none
def f93r11 : ICode := .region [
  ⟨(some 64), .move (.tmp 9), none⟩,
  ⟨(some 65), .call 111 [(.tmp 7), (.tmp 64)], none⟩,
  ⟨(some 66), .move (.tmp 5), none⟩,
  ⟨(some 67), .nilCheck (.tmp 65), none⟩,
  ⟨none, .store 1 (.tmp 67) (.tmp 66), none⟩] none
def f93r12 : ICode := .region [
  ⟨(some 69), .move (.tmp 9), none⟩,
  ⟨(some 70), .bin .eql (.tmp 69) (.const (.int .i64 (.ofNat 58))), none⟩,
  ⟨(some 71), .move (.tmp 70), none⟩,
  ⟨(some 72), .move (.tmp 9), (some ((some 71), false))⟩,
  ⟨(some 73), .bin .eql (.tmp 72) (.const (.int .i64 (.ofNat 41))), (some ((some 71), false))⟩,
  ⟨(some 74), .pick (.tmp 71) (.const (.bool true)) (.tmp 73), none⟩,
  ⟨(some 75), .move (.tmp 74), none⟩,
  ⟨(some 76), .move (.tmp 6), (some ((some 75), true))⟩,
  ⟨(some 77), .move (.tmp 76), (some ((some 75), true))⟩,
  ⟨(some 78), .move (.tmp 9), (some ((some 77), false))⟩,
  ⟨(some 79), .bin .eql (.tmp 78) (.const (.int .i64 (.ofNat 58))), (some ((some 77), false))⟩,
  ⟨(some 80), .move (.tmp 79), (some ((some 77), false))⟩,
  ⟨(some 81), .move (.tmp 5), (some ((some 80), true))⟩,
  ⟨(some 82), .pick (.tmp 80) (.tmp 81) (.const (.bool false)), (some ((some 77), false))⟩,
  ⟨(some 83), .pick (.tmp 77) (.const (.bool true)) (.tmp 82), (some ((some 75), true))⟩,
  ⟨(some 84), .pick (.tmp 75) (.tmp 83) (.const (.bool false)), none⟩,
  ⟨(some 68), .move (.tmp 84), none⟩] none
def f93r13 : ICode := .region [
  ⟨(some 85), .move (.tmp 0), none⟩,
  ⟨(some 86), .loadN 4 (.tmp 7), none⟩,
  ⟨(some 87), .nilCheck (.tmp 85), none⟩,
  ⟨(some 88), .fieldAddr 7 (.tmp 87), none⟩,
  ⟨none, .store 4 (.tmp 88) (.tmp 86), none⟩] none
def f93r14 : ICode := .region [
  ⟨(some 89), .move (.tmp 9), none⟩,
  ⟨(some 90), .bin .eql (.tmp 89) (.const (.int .i64 (.ofNat 58))), none⟩,
  ⟨(some 4), .move (.tmp 90), none⟩] none
def f93r15 : ICode := .region [
  ⟨(some 23), .move (.tmp 0), none⟩,
  ⟨(some 24), .move (.tmp 1), none⟩,
  ⟨(some 25), .call 58 [(.tmp 23), (.const (.int .i64 (.ofNat 20))), (.tmp 24)], none⟩] none
/- (*ferret/syn.parser).flags -/
def f93 : IFn := ⟨91, [.inl 4], (.seq f93r0 (.seq f93r1 (.seq f93r2 (.seq f93r3 (.block 0 (.loop (.block 1 (.seq f93r4 (.seq f93r5 (.block 2 (.seq f93r6 (.cond (.tmp 26) f93r7 (.seq f93r8 (.cond (.tmp 32) (.seq f93r9 (.seq f93r10 f93r11)) (.seq f93r12 (.cond (.tmp 68) (.seq f93r13 (.seq f93r14 .ret)) f93r15))))))))))))))))⟩
def f94r0 : ICode := .region [
  ⟨(some 2), .move (.const (.slice none 0 0)), none⟩,
  ⟨(some 3), .move (.const (.int .i64 (.ofNat 0))), none⟩] none
def f94r1 : ICode := .region [
  ⟨(some 5), .move (.tmp 0), none⟩,
  ⟨(some 6), .nilCheck (.tmp 5), none⟩,
  ⟨(some 7), .fieldAddr 4 (.tmp 6), none⟩,
  ⟨(some 8), .load1 (.tmp 7), none⟩,
  ⟨(some 4), .move (.tmp 8), none⟩] none
def f94r2 : ICode := .region [
  ⟨(some 9), .move (.tmp 0), none⟩,
  ⟨(some 10), .call 45 [(.tmp 9), (.const (.string ⟨⟨[92]⟩⟩))], none⟩] none
def f94r3 : ICode := .region [
  ⟨(some 11), .move (.tmp 0), none⟩,
  ⟨(some 12), .move (.tmp 4), none⟩,
  ⟨(some 13), .call 78 [(.tmp 11), (.tmp 12)], none⟩,
  ⟨(some 14), .extract (.tmp 13) 0, none⟩,
  ⟨(some 15), .extract (.tmp 13) 1, none⟩,
  ⟨(some 2), .move (.tmp 14), none⟩,
  ⟨(some 3), .move (.tmp 15), none⟩] none
def f94r4 : ICode := .region [
  ⟨(some 16), .move (.tmp 0), none⟩,
  ⟨(some 17), .nilCheck (.tmp 16), none⟩,
  ⟨(some 18), .fieldAddr 4 (.tmp 17), none⟩,
  ⟨(some 19), .load1 (.tmp 18), none⟩,
  ⟨(some 20), .bin .add (.tmp 19) (.const (.int .i64 (.ofNat 1))), none⟩,
  ⟨(some 21), .nilCheck (.tmp 16), none⟩,
  ⟨(some 22), .fieldAddr 4 (.tmp 21), none⟩,
  ⟨none, .store 1 (.tmp 22) (.tmp 20), none⟩] none
def f94r5 : ICode := .region [
  ⟨(some 23), .move (.tmp 0), none⟩,
  ⟨(some 24), .nilCheck (.tmp 23), none⟩,
  ⟨(some 25), .fieldAddr 0 (.tmp 24), none⟩,
  ⟨(some 26), .fieldAddr 1 (.tmp 25), none⟩,
  ⟨(some 27), .load1 (.tmp 26), none⟩,
  ⟨(some 28), .move (.tmp 4), none⟩,
  ⟨(some 29), .indexSl 1 (.tmp 27) (.tmp 28), none⟩,
  ⟨(some 30), .load1 (.tmp 29), none⟩,
  ⟨(some 31), .call 74 [(.tmp 30)], none⟩,
  ⟨(some 32), .move (.tmp 0), none⟩,
  ⟨(some 33), .nilCheck (.tmp 32), none⟩,
  ⟨(some 34), .fieldAddr 0 (.tmp 33), none⟩,
  ⟨(some 35), .fieldAddr 1 (.tmp 34), none⟩,
  ⟨(some 36), .load1 (.tmp 35), none⟩,
  ⟨(some 37), .move (.tmp 4), none⟩,
  ⟨(some 38), .indexSl 1 (.tmp 36) (.tmp 37), none⟩,
  ⟨(some 39), .load1 (.tmp 38), none⟩,
  ⟨(some 2), .move (.tmp 31), none⟩,
  ⟨(some 3), .move (.tmp 39), none⟩] (some ⟨[], [(13, 8), (16, 8)]⟩)
/- (*ferret/syn.parser).item -/
def f94 : IFn := ⟨40, [.inl 2, .inl 3], (.seq f94r0 (.seq f94r1 (.seq (.seq f94r2 (.cond (.tmp 10) (.seq f94r3 .ret) .skip)) (.seq f94r4 (.seq f94r5 .ret)))))⟩
def f95r0 : ICode := .region [
  ⟨(some 4), .move (.const (.slice none 0 0)), none⟩] none
def f95r1 : ICode := .region [
  ⟨(some 5), .move (.tmp 0), none⟩,
  ⟨(some 6), .call 79 [(.tmp 5)], none⟩,
  ⟨(some 7), .move (.tmp 1), none⟩,
  ⟨(some 8), .append 75 2 16 (.tmp 6) (.tmp 7), none⟩,
  ⟨(some 9), .call 65 [(.tmp 8)], none⟩,
  ⟨(some 4), .move (.tmp 9), none⟩] none
/- (ferret/sets.Set).Or -/
def f95 : IFn := ⟨10, [.inl 4], (.seq f95r0 (.seq f95r1 .ret))⟩
def f96r0 : ICode := .region [
  ⟨(some 4), .move (.const (.slice none 0 0)), none⟩] none
def f96r1 : ICode := .region [
  ⟨(some 8), .move (.tmp 0), none⟩,
  ⟨(some 9), .call 45 [(.tmp 8), (.const (.string ⟨⟨[123]⟩⟩))], none⟩,
  ⟨(some 10), .un .not (.tmp 9), none⟩] none
def f96r2 : ICode := .region [
  ⟨(some 11), .move (.tmp 0), none⟩,
  ⟨(some 12), .move (.tmp 1), none⟩,
  ⟨(some 13), .call 58 [(.tmp 11), (.const (.int .i64 (.ofNat 24))), (.tmp 12)], none⟩] none
def f96r3 : ICode := .region [
  ⟨(some 5), .move (.const (.slice none 0 0)), none⟩] none
def f96r4 : ICode := .region [
  ⟨(some 14), .move (.tmp 0), none⟩,
  ⟨(some 15), .call 57 [(.tmp 14), (.const (.int .i64 (.ofNat 0)))], none⟩,
  ⟨(some 16), .bin .neq (.tmp 15) (.const (.int .i64 (.ofNat 125))), none⟩,
  ⟨(some 17), .move (.tmp 16), none⟩,
  ⟨(some 18), .move (.tmp 0), (some ((some 17), true))⟩,
  ⟨(some 19), .call 57 [(.tmp 18), (.const (.int .i64 (.ofNat 0)))], (some ((some 17), true))⟩,
  ⟨(some 20), .bin .gtr (.tmp 19) (.const (.int .i64 (.ofNat 32))), (some ((some 17), true))⟩,
  ⟨(some 21), .pick (.tmp 17) (.tmp 20) (.const (.bool false)), none⟩,
  ⟨(some 22), .move (.tmp 21), none⟩,
  ⟨(some 23), .move (.tmp 0), (some ((some 22), true))⟩,
  ⟨(some 24), .call 57 [(.tmp 23), (.const (.int .i64 (.ofNat 0)))], (some ((some 22), true))⟩,
  ⟨(some 25), .bin .lss (.tmp 24) (.const (.int .i64 (.ofNat 127))), (some ((some 22), true))⟩,
  ⟨(some 26), .pick (.tmp 22) (.tmp 25) (.const (.bool false)), none⟩] none
def f96r5 : ICode := .region [
  ⟨(some 27), .move (.tmp 5), none⟩,
  ⟨(some 28), .move (.tmp 0), none⟩,
  ⟨(some 29), .call 57 [(.tmp 28), (.const (.int .i64 (.ofNat 0)))], none⟩,
  ⟨(some 30), .conv .u8 (.tmp 29), none⟩,
  ⟨(some 31), .buildSlice 5 1 [(.int .u8 (.ofNat 0))] [(0, 1, (.tmp 30))], none⟩,
  ⟨(some 32), .append 5 1 1 (.tmp 27) (.tmp 31), none⟩,
  ⟨(some 5), .move (.tmp 32), none⟩] none
def f96r6 : ICode := .region [
  ⟨(some 33), .move (.tmp 0), none⟩,
  ⟨(some 34), .nilCheck (.tmp 33), none⟩,
  ⟨(some 35), .fieldAddr 4 (.tmp 34), none⟩,
  ⟨(some 36), .load1 (.tmp 35), none⟩,
  ⟨(some 37), .bin .add (.tmp 36) (.const (.int .i64 (.ofNat 1))), none⟩,
  ⟨(some 38), .nilCheck (.tmp 33), none⟩,
  ⟨(some 39), .fieldAddr 4 (.tmp 38), none⟩,
  ⟨none, .store 1 (.tmp 39) (.tmp 37), none⟩] none
def f96r7 : ICode := .region [
  ⟨(some 41), .move (.tmp 5), none⟩,
  ⟨(some 42), .bytesToStr (.tmp 41), none⟩,
  ⟨(some 43), .call 112 [(.tmp 42)], none⟩,
  ⟨(some 40), .move (.tmp 43), none⟩,
  ⟨(some 44), .extract (.tmp 40) 0, none⟩,
  ⟨(some 45), .extract (.tmp 40) 1, none⟩,
  ⟨(some 6), .move (.tmp 44), none⟩,
  ⟨(some 7), .move (.tmp 45), none⟩] none
def f96r8 : ICode := .region [
  ⟨(some 46), .move (.tmp 0), none⟩,
  ⟨(some 47), .call 45 [(.tmp 46), (.const (.string ⟨⟨[125]⟩⟩))], none⟩,
  ⟨(some 48), .un .not (.tmp 47), none⟩,
  ⟨(some 49), .move (.tmp 48), none⟩,
  ⟨(some 50), .move (.tmp 7), (some ((some 49), false))⟩,
  ⟨(some 51), .un .not (.tmp 50), (some ((some 49), false))⟩,
  ⟨(some 52), .pick (.tmp 49) (.const (.bool true)) (.tmp 51), none⟩] none
def f96r9 : ICode := .region [
  ⟨(some 53), .move (.tmp 0), none⟩,
  ⟨(some 54), .move (.tmp 1), none⟩,
  ⟨(some 55), .call 58 [(.tmp 53), (.const (.int .i64 (.ofNat 24))), (.tmp 54)], none⟩] none
def f96r10 : ICode := .region [
  ⟨(some 56), .move (.tmp 6), none⟩,
  ⟨(some 4), .move (.tmp 56), none⟩] none
/- (*ferret/syn.parser).named -/
def f96 : IFn := ⟨57, [.inl 4], (.seq f96r0 (.seq (.seq f96r1 (.cond (.tmp 10) f96r2 .skip)) (.seq f96r3 (.seq (.block 0 (.loop (.seq (.seq f96r4 (.cond (.tmp 26) .skip (.exit 0))) (.block 1 (.seq f96r5 f96r6))))) (.seq f96r7 (.seq (.seq f96r8 (.cond (.tmp 52) f96r9 .skip)) (.seq f96r10 .ret)))))))⟩
def f97r0 : ICode := .region [
  ⟨(some 4), .move (.const (.int .i64 (.ofNat 0))), none⟩] none
def f97r1 : ICode := .region [
  ⟨(some 5), .move (.const (.int .i64 (.ofNat 0))), none⟩,
  ⟨(some 6), .move (.const (.int .i64 (.ofNat 0))), none⟩] none
def f97r2 : ICode := .region [
  ⟨(some 8), .move (.tmp 0), none⟩,
  ⟨(some 9), .call 45 [(.tmp 8), (.const (.string ⟨⟨[123]⟩⟩))], none⟩,
  ⟨(some 7), .move (.tmp 9), none⟩] none
def f97r3 : ICode := .region [
  ⟨(some 10), .move (.tmp 6), none⟩,
  ⟨(some 11), .bin .lss (.tmp 10) (.const (.int .i64 (.ofNat 6))), none⟩,
  ⟨(some 12), .move (.tmp 11), none⟩,
  ⟨(some 13), .move (.tmp 7), (some ((some 12), true))⟩,
  ⟨(some 14), .move (.tmp 13), (some ((some 12), true))⟩,
  ⟨(some 15), .move (.tmp 6), (some ((some 14), false))⟩,
  ⟨(some 16), .bin .lss (.tmp 15) (.const (.int .i64 (.ofNat 2))), (some ((some 14), false))⟩,
  ⟨(some 17), .pick (.tmp 14) (.const (.bool true)) (.tmp 16), (some ((some 12), true))⟩,
  ⟨(some 18), .pick (.tmp 12) (.tmp 17) (.const (.bool false)), none⟩,
  ⟨(some 19), .move (.tmp 18), none⟩,
  ⟨(some 20), .move (.tmp 0), (some ((some 19), true))⟩,
  ⟨(some 21), .call 57 [(.tmp 20), (.const (.int .i64 (.ofNat 0)))], (some ((some 19), true))⟩,
  ⟨(some 22), .call 113 [(.tmp 21)], (some ((some 19), true))⟩,
  ⟨(some 23), .bin .geq (.tmp 22) (.const (.int .i64 (.ofNat 0))), (some ((some 19), true))⟩,
  ⟨(some 24), .pick (.tmp 19) (.tmp 23) (.const (.bool false)), none⟩] none
def f97r4 : ICode := .region [
  ⟨(some 25), .move (.tmp 5), none⟩,
  ⟨(some 26), .bin .shl (.tmp 25) (.const (.int .u64 (.ofNat 4))), none⟩,
  ⟨(some 27), .move (.tmp 0), none⟩,
  ⟨(some 28), .call 57 [(.tmp 27), (.const (.int .i64 (.ofNat 0)))], none⟩,
  ⟨(some 29), .call 113 [(.tmp 28)], none⟩,
  ⟨(some 30), .bin .or (.tmp 26) (.tmp 29), none⟩,
  ⟨(some 5), .move (.tmp 30), none⟩] none
def f97r5 : ICode := .region [
  ⟨(some 31), .move (.tmp 0), none⟩,
  ⟨(some 32), .nilCheck (.tmp 31), none⟩,
  ⟨(some 33), .fieldAddr 4 (.tmp 32), none⟩,
  ⟨(some 34), .load1 (.tmp 33), none⟩,
  ⟨(some 35), .bin .add (.tmp 34) (.const (.int .i64 (.ofNat 1))), none⟩,
  ⟨(some 36), .nilCheck (.tmp 31), none⟩,
  ⟨(some 37), .fieldAddr 4 (.tmp 36), none⟩,
  ⟨none, .store 1 (.tmp 37) (.tmp 35), none⟩] none
def f97r6 : ICode := .region [
  ⟨(some 38), .move (.tmp 6), none⟩,
  ⟨(some 39), .bin .add (.tmp 38) (.const (.int .i64 (.ofNat 1))), none⟩,
  ⟨(some 6), .move (.tmp 39), none⟩] none
def f97r7 : ICode := .region [
  ⟨(some 40), .move (.tmp 5), none⟩,
  ⟨(some 41), .bin .gtr (.tmp 40) (.const (.int .i64 (.ofNat 1114111))), none⟩,
  ⟨(some 42), .move (.tmp 41), none⟩,
  ⟨(some 43), .move (.tmp 7), (some ((some 42), false))⟩,
  ⟨(some 44), .move (.tmp 43), (some ((some 42), false))⟩,
  ⟨(some 45), .move (.tmp 6), (some ((some 44), true))⟩,
  ⟨(some 46), .bin .eql (.tmp 45) (.const (.int .i64 (.ofNat 0))), (some ((some 44), true))⟩,
  ⟨(some 47), .move (.tmp 46), (some ((some 44), true))⟩,
  ⟨(some 48), .move (.tmp 0), (some ((some 47), false))⟩,
  ⟨(some 49), .call 45 [(.tmp 48), (.const (.string ⟨⟨[125]⟩⟩))], (some ((some 47), false))⟩,
  ⟨(some 50), .un .not (.tmp 49), (some ((some 47), false))⟩,
  ⟨(some 51), .pick (.tmp 47) (.const (.bool true)) (.tmp 50), (some ((some 44), true))⟩,
  ⟨(some 52), .pick (.tmp 44) (.tmp 51) (.const (.bool false)), (some ((some 42), false))⟩,
  ⟨(some 53), .pick (.tmp 42) (.const (.bool true)) (.tmp 52), none⟩,
  ⟨(some 54), .move (.tmp 53), none⟩,
  ⟨(some 55), .move (.tmp 7), (some ((some 54), false))⟩,
  ⟨(some 56), .un .not (.tmp 55), (some ((some 54), false))⟩,
  ⟨(some 57), .move (.tmp 56), (some ((some 54), false))⟩,
  ⟨(some 58), .move (.tmp 6), (some ((some 57), true))⟩,
  ⟨(some 59), .bin .neq (.tmp 58) (.const (.int .i64 (.ofNat 2))), (some ((some 57), true))⟩,
  ⟨(some 60), .pick (.tmp 57) (.tmp 59) (.const (.bool false)), (some ((some 54), false))⟩,
  ⟨(some 61), .pick (.tmp 54) (.const (.bool true)) (.tmp 60), none⟩] none
def f97r8 : ICode := .region [
  ⟨(some 62), .move (.tmp 0), none⟩,
  ⟨(some 63), .move (.tmp 1), none⟩,
  ⟨(some 64), .call 58 [(.tmp 62), (.const (.int .i64 (.ofNat 20))), (.tmp 63)], none⟩] none
def f97r9 : ICode := .region [
  ⟨(some 65), .move (.tmp 5), none⟩,
  ⟨(some 4), .move (.tmp 65), none⟩] none
/- (*ferret/syn.parser).number -/
def f97 : IFn := ⟨66, [.inl 4], (.seq f97r0 (.seq f97r1 (.seq f97r2 (.seq (.block 0 (.loop (.seq (.seq f97r3 (.cond (.tmp 24) .skip (.exit 0))) (.block 1 (.seq f97r4 (.seq f97r5 f97r6)))))) (.seq (.seq f97r7 (.cond (.tmp 61) f97r8 .skip)) (.seq f97r9 .ret))))))⟩
def f98r0 : ICode := .region [
  ⟨(some 2), .move (.const (.slice none 0 0)), none⟩,
  ⟨(some 3), .move (.const (.bool false)), none⟩] none
def f98r1 : ICode := .region [
  ⟨(some 4), .move (.const (.slice none 0 0)), none⟩] none
def f98r2 : ICode := .region [
  ⟨(some 9), .move (.tmp 0), none⟩,
  ⟨(some 10), .bin .or (.tmp 9) (.const (.int .u8 (.ofNat 32))), none⟩] none
def f98r3 : ICode := .region [
  ⟨(some 12), .bin .eql (.tmp 10) (.const (.int .u8 (.ofNat 100))), none⟩,
  ⟨(some 11), .move (.tmp 12), none⟩] none
def f98r4 : ICode := .region [
  ⟨(some 14), .call 112 [(.const (.string ⟨⟨[78, 100]⟩⟩))], none⟩,
  ⟨(some 13), .move (.tmp 14), none⟩,
  ⟨(some 15), .extract (.tmp 13) 0, none⟩,
  ⟨(some 16), .extract (.tmp 13) 1, none⟩,
  ⟨(some 4), .move (.tmp 15), none⟩] none
def f98r5 : ICode := .region [
  ⟨(some 18), .bin .eql (.tmp 10) (.const (.int .u8 (.ofNat 115))), none⟩,
  ⟨(some 17), .move (.tmp 18), none⟩] none
def f98r6 : ICode := .region [
  ⟨(some 19), .call 114 [], none⟩,
  ⟨(some 4), .move (.tmp 19), none⟩] none
def f98r7 : ICode := .region [
  ⟨(some 21), .bin .eql (.tmp 10) (.const (.int .u8 (.ofNat 119))), none⟩,
  ⟨(some 20), .move (.tmp 21), none⟩] none
def f98r8 : ICode := .region [
  ⟨(some 22), .buildSlice 9 3 [(.string ⟨⟨[]⟩⟩), (.string ⟨⟨[]⟩⟩), (.string ⟨⟨[]⟩⟩)] [(0, 1, (.const (.string ⟨⟨[76]⟩⟩))), (1, 1, (.const (.string ⟨⟨[78, 100]⟩⟩))), (2, 1, (.const (.string ⟨⟨[80, 99]⟩⟩)))], none⟩,
  ⟨(some 23), .len 1 (.tmp 22), none⟩,
  ⟨(some 24), .move (.const (.int .i64 (.ofNat 0))), none⟩] none
def f98r9 : ICode := .region [
  ⟨(some 25), .bin .lss (.tmp 24) (.tmp 23), none⟩] none
def f98r10 : ICode := .region [
  ⟨(some 26), .indexSl 1 (.tmp 22) (.tmp 24), none⟩,
  ⟨(some 27), .load1 (.tmp 26), none⟩,
  ⟨(some 6), .move (.tmp 27), none⟩] none
def f98r11 : ICode := .region [
  ⟨(some 29), .move (.tmp 6), none⟩,
  ⟨(some 30), .call 112 [(.tmp 29)], none⟩,
  ⟨(some 28), .move (.tmp 30), none⟩,
  ⟨(some 31), .extract (.tmp 28) 0, none⟩,
  ⟨(some 32), .extract (.tmp 28) 1, none⟩,
  ⟨(some 7), .move (.tmp 31), none⟩,
  ⟨(some 8), .move (.tmp 32), none⟩] none
def f98r12 : ICode := .region [
  ⟨(some 33), .move (.tmp 4), none⟩,
  ⟨(some 34), .move (.tmp 7), none⟩,
  ⟨(some 35), .call 95 [(.tmp 33), (.tmp 34)], none⟩,
  ⟨(some 4), .move (.tmp 35), none⟩] none
def f98r13 : ICode := .region [
  ⟨(some 36), .bin .add (.tmp 24) (.const (.int .i64 (.ofNat 1))), none⟩,
  ⟨(some 24), .move (.tmp 36), none⟩] none
def f98r14 : ICode := .region [
  ⟨(some 2), .move (.const (.slice none 0 0)), none⟩,
  ⟨(some 3), .move (.const (.bool false)), none⟩] none
def f98r15 : ICode := .region [
  ⟨(some 37), .move (.tmp 0), none⟩,
  ⟨(some 38), .bin .and (.tmp 37) (.const (.int .u8 (.ofNat 32))), none⟩,
  ⟨(some 39), .bin .eql (.tmp 38) (.const (.int .u8 (.ofNat 0))), none⟩] none
def f98r16 : ICode := .region [
  ⟨(some 40), .move (.tmp 4), none⟩,
  ⟨(some 41), .call 85 [(.tmp 40)], none⟩,
  ⟨(some 4), .move (.tmp 41), none⟩] none
def f98r17 : ICode := .region [
  ⟨(some 42), .move (.tmp 4), none⟩,
  ⟨(some 2), .move (.tmp 42), none⟩,
  ⟨(some 3), .move (.const (.bool true)), none⟩] none
/- ferret/ucd.Perl -/
def f98 : IFn := ⟨43, [.inl 2, .inl 3], (.seq f98r0 (.seq f98r1 (.seq (.seq f98r2 (.block 0 (.seq f98r3 (.cond (.tmp 11) f98r4 (.seq f98r5 (.cond (.tmp 17) f98r6 (.seq f98r7 (.cond (.tmp 20) (.seq f98r8 (.block 1 (.loop (.seq f98r9 (.seq (.cond (.tmp 25) .skip (.exit 1)) (.seq (.block 2 (.seq f98r10 (.seq f98r11 f98r12))) f98r13)))))) (.seq f98r14 .ret))))))))) (.seq (.seq f98r15 (.cond (.tmp 39) f98r16 .skip)) (.seq f98r17 .ret)))))⟩
def f99r0 : ICode := .region [
  ⟨(some 4), .move (.const (.int .i64 (.ofNat 0))), none⟩] none
def f99r1 : ICode := .region [
  ⟨(some 5), .move (.tmp 0), none⟩,
  ⟨(some 6), .move (.tmp 1), none⟩,
  ⟨(some 7), .call 115 [(.tmp 5), (.tmp 6)], none⟩,
  ⟨(some 4), .move (.tmp 7), none⟩] none
/- strings.IndexByte -/
def f99 : IFn := ⟨8, [.inl 4], (.seq f99r0 (.seq f99r1 .ret))⟩
def f102r0 : ICode := .region [
  ⟨(some 4), .move (.const (.bool false)), none⟩] none
def f102r1 : ICode := .region [
  ⟨(some 5), .load1 (.tmp 1), none⟩,
  ⟨(some 6), .move (.tmp 0), none⟩,
  ⟨(some 7), .indexSl 2 (.tmp 5) (.tmp 6), none⟩,
  ⟨(some 8), .fieldAddr 1 (.tmp 7), none⟩,
  ⟨(some 9), .load1 (.tmp 8), none⟩,
  ⟨(some 10), .load1 (.tmp 2), none⟩,
  ⟨(some 11), .bin .geq (.tmp 9) (.tmp 10), none⟩,
  ⟨(some 4), .move (.tmp 11), none⟩] (some ⟨[], []⟩)
/- (ferret/sets.Set).Has$1 -/
def f102 : IFn := ⟨12, [.inl 4], (.seq f102r0 (.seq f102r1 .ret))⟩
def f101r0 : ICode := .region [
  ⟨(some 4), .move (.const (.int .i64 (.ofNat 0))), none⟩] none
def f101r1 : ICode := .region [
  ⟨(some 8), .move (.tmp 0), none⟩,
  ⟨(some 5), .move (.const (.int .i64 (.ofNat 0))), none⟩,
  ⟨(some 6), .move (.tmp 8), none⟩] none
def f101r2 : ICode := .region [
  ⟨(some 9), .move (.tmp 5), none⟩,
  ⟨(some 10), .move (.tmp 6), none⟩,
  ⟨(some 11), .bin .lss (.tmp 9) (.tmp 10), none⟩] none
def f101r3 : ICode := .region [
  ⟨(some 12), .move (.tmp 5), none⟩,
  ⟨(some 13), .move (.tmp 6), none⟩,
  ⟨(some 14), .bin .add (.tmp 12) (.tmp 13), none⟩,
  ⟨(some 15), .conv .u64 (.tmp 14), none⟩,
  ⟨(some 16), .bin .shr (.tmp 15) (.const (.int .u64 (.ofNat 1))), none⟩,
  ⟨(some 17), .conv .i64 (.tmp 16), none⟩,
  ⟨(some 7), .move (.tmp 17), none⟩] none
def f101r4 : ICode := .region [
  ⟨(some 18), .move (.tmp 1), none⟩,
  ⟨(some 19), .move (.tmp 7), none⟩,
  ⟨(some 20), .callv (.tmp 18) [(.tmp 19)], none⟩,
  ⟨(some 21), .un .not (.tmp 20), none⟩] none
def f101r5 : ICode := .region [
  ⟨(some 22), .move (.tmp 7), none⟩,
  ⟨(some 23), .bin .add (.tmp 22) (.const (.int .i64 (.ofNat 1))), none⟩,
  ⟨(some 5), .move (.tmp 23), none⟩] none
def f101r6 : ICode := .region [
  ⟨(some 24), .move (.tmp 7), none⟩,
  ⟨(some 6), .move (.tmp 24), none⟩] none
def f101r7 : ICode := .region [
  ⟨(some 25), .move (.tmp 5), none⟩,
  ⟨(some 4), .move (.tmp 25), none⟩] none
/- sort.Search -/
def f101 : IFn := ⟨26, [.inl 4], (.seq f101r0 (.seq f101r1 (.seq (.block 0 (.loop (.seq (.seq f101r2 (.cond (.tmp 11) .skip (.exit 0))) (.block 1 (.seq f101r3 (.seq f101r4 (.cond (.tmp 21) f101r5 f101r6))))))) (.seq f101r7 .ret))))⟩
def f100r0 : ICode := .region [
  ⟨(some 4), .move (.const (.int .i64 (.ofNat 0))), none⟩] none
def f100r1 : ICode := .region [
  ⟨(some 6), .move (.tmp 0), none⟩,
  ⟨(some 7), .len 1 (.tmp 6), none⟩,
  ⟨(some 8), .move (.const (.int .i64 (.ofNat 0))), none⟩] none
def f100r2 : ICode := .region [
  ⟨(some 9), .bin .lss (.tmp 8) (.tmp 7), none⟩] none
def f100r3 : ICode := .region [
  ⟨(some 10), .move (.tmp 8), none⟩,
  ⟨(some 5), .move (.tmp 10), none⟩] none
def f100r4 : ICode := .region [
  ⟨(some 11), .move (.tmp 1), none⟩,
  ⟨(some 12), .move (.tmp 0), none⟩,
  ⟨(some 13), .move (.tmp 5), none⟩,
  ⟨(some 14), .indexSl 1 (.tmp 12) (.tmp 13), none⟩,
  ⟨(some 15), .load1 (.tmp 14), none⟩,
  ⟨(some 16), .callv (.tmp 11) [(.tmp 15)], none⟩] none
def f100r5 : ICode := .region [
  ⟨(some 17), .move (.tmp 5), none⟩,
  ⟨(some 4), .move (.tmp 17), none⟩] none
def f100r6 : ICode := .region [
  ⟨(some 18), .bin .add (.tmp 8) (.const (.int .i64 (.ofNat 1))), none⟩,
  ⟨(some 8), .move (.tmp 18), none⟩] none
def f100r7 : ICode := .region [
  ⟨(some 4), .move (.const (.int .i64 (.negSucc 0))), none⟩] none
/- slices.IndexFunc[[]int,int] -/
def f100 : IFn := ⟨19, [.inl 4], (.seq f100r0 (.seq (.seq f100r1 (.block 0 (.loop (.seq f100r2 (.seq (.cond (.tmp 9) .skip (.exit 0)) (.seq (.block 1 (.seq f100r3 (.seq f100r4 (.cond (.tmp 16) (.seq f100r5 .ret) .skip)))) f100r6)))))) (.seq f100r7 .ret)))⟩
def f106r0 : ICode := .region [
  ⟨(some 2), .move (.const (.int .i64 (.ofNat 0))), none⟩] none
def f106r1 : ICode := .region [
  ⟨(some 3), .move (.tmp 0), none⟩,
  ⟨(some 4), .conv .u32 (.tmp 3), none⟩,
  ⟨(some 5), .call 125 [(.tmp 4)], none⟩,
  ⟨(some 2), .move (.tmp 5), none⟩] none
def f106r2 : ICode := .region [
  ⟨(some 6), .move (.tmp 0), none⟩,
  ⟨(some 7), .call 126 [(.tmp 6)], none⟩,
  ⟨(some 2), .move (.tmp 7), none⟩] none
/- math/bits.Len -/
def f106 : IFn := ⟨8, [.inl 2], (.seq f106r0 (.seq (.cond (.const (.bool false)) (.seq f106r1 .ret) .skip) (.seq f106r2 .ret)))⟩
def f107r0 : ICode := .region [
  ⟨(some 4), .box 184 (.tmp 0), none⟩] none
def f107r1 : ICode := .region [
  ⟨(some 8), .move (.const (.bool true)), none⟩] none
def f107r2 : ICode := .region [
  ⟨(some 9), .move (.const (.bool true)), none⟩] none
def f107r3 : ICode := .region [
  ⟨(some 19), .move (.tmp 2), none⟩,
  ⟨(some 20), .move (.tmp 1), none⟩,
  ⟨(some 21), .bin .sub (.tmp 19) (.tmp 20), none⟩,
  ⟨(some 10), .move (.tmp 21), none⟩] none
def f107r4 : ICode := .region [
  ⟨(some 22), .move (.tmp 10), none⟩,
  ⟨(some 23), .bin .leq (.tmp 22) (.const (.int .i64 (.ofNat 12))), none⟩] none
def f107r5 : ICode := .region [
  ⟨(some 24), .loadN 2 (.tmp 4), none⟩,
  ⟨(some 25), .move (.tmp 1), none⟩,
  ⟨(some 26), .move (.tmp 2), none⟩,
  ⟨(some 27), .call 127 [(.tmp 24), (.tmp 25), (.tmp 26)], none⟩] none
def f107r6 : ICode := .region [
  ⟨(some 28), .move (.tmp 3), none⟩,
  ⟨(some 29), .bin .eql (.tmp 28) (.const (.int .i64 (.ofNat 0))), none⟩] none
def f107r7 : ICode := .region [
  ⟨(some 30), .loadN 2 (.tmp 4), none⟩,
  ⟨(some 31), .move (.tmp 1), none⟩,
  ⟨(some 32), .move (.tmp 2), none⟩,
  ⟨(some 33), .call 128 [(.tmp 30), (.tmp 31), (.tmp 32)], none⟩] none
def f107r8 : ICode := .region [
  ⟨(some 34), .move (.tmp 8), none⟩,
  ⟨(some 35), .un .not (.tmp 34), none⟩] none
def f107r9 : ICode := .region [
  ⟨(some 36), .loadN 2 (.tmp 4), none⟩,
  ⟨(some 37), .move (.tmp 1), none⟩,
  ⟨(some 38), .move (.tmp 2), none⟩,
  ⟨(some 39), .call 129 [(.tmp 36), (.tmp 37), (.tmp 38)], none⟩] none
def f107r10 : ICode := .region [
  ⟨(some 40), .move (.tmp 3), none⟩,
  ⟨(some 41), .bin .sub (.tmp 40) (.const (.int .i64 (.ofNat 1))), none⟩,
  ⟨(some 3), .move (.tmp 41), none⟩] none
def f107r11 : ICode := .region [
  ⟨(some 43), .loadN 2 (.tmp 4), none⟩,
  ⟨(some 44), .move (.tmp 1), none⟩,
  ⟨(some 45), .move (.tmp 2), none⟩,
  ⟨(some 46), .call 130 [(.tmp 43), (.tmp 44), (.tmp 45)], none⟩,
  ⟨(some 42), .move (.tmp 46), none⟩,
  ⟨(some 47), .extract (.tmp 42) 0, none⟩,
  ⟨(some 48), .extract (.tmp 42) 1, none⟩,
  ⟨(some 11), .move (.tmp 47), none⟩,
  ⟨(some 12), .move (.tmp 48), none⟩] none
def f107r12 : ICode := .region [
  ⟨(some 49), .move (.tmp 12), none⟩,
  ⟨(some 50), .bin .eql (.tmp 49) (.const (.int .i64 (.ofNat 2))), none⟩] none
def f107r13 : ICode := .region [
  ⟨(some 51), .loadN 2 (.tmp 4), none⟩,
  ⟨(some 52), .move (.tmp 1), none⟩,
  ⟨(some 53), .move (.tmp 2), none⟩,
  ⟨(some 54), .call 131 [(.tmp 51), (.tmp 52), (.tmp 53)], none⟩] none
def f107r14 : ICode := .region [
  ⟨(some 55), .move (.tmp 2), none⟩,
  ⟨(some 56), .bin .sub (.tmp 55) (.const (.int .i64 (.ofNat 1))), none⟩,
  ⟨(some 57), .move (.tmp 11), none⟩,
  ⟨(some 58), .move (.tmp 1), none⟩,
  ⟨(some 59), .bin .sub (.tmp 57) (.tmp 58), none⟩,
  ⟨(some 60), .bin .sub (.tmp 56) (.tmp 59), none⟩,
  ⟨(some 11), .move (.tmp 60), none⟩] none
def f107r15 : ICode := .region [
  ⟨(some 12), .move (.const (.int .i64 (.ofNat 1))), none⟩] none
def f107r16 : ICode := .region [
  ⟨(some 61), .move (.tmp 8), none⟩,
  ⟨(some 62), .move (.tmp 61), none⟩,
  ⟨(some 63), .move (.tmp 9), (some ((some 62), true))⟩,
  ⟨(some 64), .pick (.tmp 62) (.tmp 63) (.const (.bool false)), none⟩,
  ⟨(some 65), .move (.tmp 64), none⟩,
  ⟨(some 66), .move (.tmp 12), (some ((some 65), true))⟩,
  ⟨(some 67), .bin .eql (.tmp 66) (.const (.int .i64 (.ofNat 1))), (some ((some 65), true))⟩,
  ⟨(some 68), .pick (.tmp 65) (.tmp 67) (.const (.bool false)), none⟩] none
def f107r17 : ICode := .region [
  ⟨(some 69), .loadN 2 (.tmp 4), none⟩,
  ⟨(some 70), .move (.tmp 1), none⟩,
  ⟨(some 71), .move (.tmp 2), none⟩,
  ⟨(some 72), .call 132 [(.tmp 69), (.tmp 70), (.tmp 71)], none⟩] none
def f107r18 : ICode := .region [
  ⟨(some 73), .move (.tmp 1), none⟩,
  ⟨(some 74), .bin .gtr (.tmp 73) (.const (.int .i64 (.ofNat 0))), none⟩,
  ⟨(some 75), .move (.tmp 74), none⟩,
  ⟨(some 76), .fieldAddr 0 (.tmp 4), (some ((some 75), true))⟩,
  ⟨(some 77), .load1 (.tmp 76), (some ((some 75), true))⟩,
  ⟨(some 78), .move (.tmp 1), (some ((some 75), true))⟩,
  ⟨(some 79), .bin .sub (.tmp 78) (.const (.int .i64 (.ofNat 1))), (some ((some 75), true))⟩,
  ⟨(some 80), .move (.tmp 11), (some ((some 75), true))⟩,
  ⟨(some 81), .callv (.tmp 77) [(.tmp 79), (.tmp 80)], (some ((some 75), true))⟩,
  ⟨(some 82), .un .not (.tmp 81), (some ((some 75), true))⟩,
  ⟨(some 83), .pick (.tmp 75) (.tmp 82) (.const (.bool false)), none⟩] none
def f107r19 : ICode := .region [
  ⟨(some 84), .loadN 2 (.tmp 4), none⟩,
  ⟨(some 85), .move (.tmp 1), none⟩,
  ⟨(some 86), .move (.tmp 2), none⟩,
  ⟨(some 87), .move (.tmp 11), none⟩,
  ⟨(some 88), .call 133 [(.tmp 84), (.tmp 85), (.tmp 86), (.tmp 87)], none⟩,
  ⟨(some 13), .move (.tmp 88), none⟩] none
def f107r20 : ICode := .region [
  ⟨(some 89), .move (.tmp 13), none⟩,
  ⟨(some 1), .move (.tmp 89), none⟩] none
def f107r21 : ICode := .region [
  ⟨(some 91), .loadN 2 (.tmp 4), none⟩,
  ⟨(some 92), .move (.tmp 1), none⟩,
  ⟨(some 93), .move (.tmp 2), none⟩,
  ⟨(some 94), .move (.tmp 11), none⟩,
  ⟨(some 95), .call 134 [(.tmp 91), (.tmp 92), (.tmp 93), (.tmp 94)], none⟩,
  ⟨(some 90), .move (.tmp 95), none⟩,
  ⟨(some 96), .extract (.tmp 90) 0, none⟩,
  ⟨(some 97), .extract (.tmp 90) 1, none⟩,
  ⟨(some 14), .move (.tmp 96), none⟩,
  ⟨(some 15), .move (.tmp 97), none⟩] none
def f107r22 : ICode := .region [
  ⟨(some 98), .move (.tmp 15), none⟩,
  ⟨(some 9), .move (.tmp 98), none⟩] none
def f107r23 : ICode := .region [
  ⟨(some 99), .move (.tmp 14), none⟩,
  ⟨(some 100), .move (.tmp 1), none⟩,
  ⟨(some 101), .bin .sub (.tmp 99) (.tmp 100), none⟩,
  ⟨(some 102), .move (.tmp 2), none⟩,
  ⟨(some 103), .move (.tmp 14), none⟩,
  ⟨(some 104), .bin .sub (.tmp 102) (.tmp 103), none⟩,
  ⟨(some 16), .move (.tmp 101), none⟩,
  ⟨(some 17), .move (.tmp 104), none⟩] none
def f107r24 : ICode := .region [
  ⟨(some 105), .move (.tmp 10), none⟩,
  ⟨(some 106), .bin .quo (.tmp 105) (.const (.int .i64 (.ofNat 8))), none⟩,
  ⟨(some 18), .move (.tmp 106), none⟩] none
def f107r25 : ICode := .region [
  ⟨(some 107), .move (.tmp 16), none⟩,
  ⟨(some 108), .move (.tmp 17), none⟩,
  ⟨(some 109), .bin .lss (.tmp 107) (.tmp 108), none⟩] none
def f107r26 : ICode := .region [
  ⟨(some 110), .move (.tmp 16), none⟩,
  ⟨(some 111), .move (.tmp 18), none⟩,
  ⟨(some 112), .bin .geq (.tmp 110) (.tmp 111), none⟩,
  ⟨(some 8), .move (.tmp 112), none⟩] none
def f107r27 : ICode := .region [
  ⟨(some 113), .loadN 2 (.tmp 4), none⟩,
  ⟨(some 114), .move (.tmp 1), none⟩,
  ⟨(some 115), .move (.tmp 14), none⟩,
  ⟨(some 116), .move (.tmp 3), none⟩,
  ⟨(some 117), .call 107 [(.tmp 113), (.tmp 114), (.tmp 115), (.tmp 116)], none⟩] none
def f107r28 : ICode := .region [
  ⟨(some 118), .move (.tmp 14), none⟩,
  ⟨(some 119), .bin .add (.tmp 118) (.const (.int .i64 (.ofNat 1))), none⟩,
  ⟨(some 1), .move (.tmp 119), none⟩] none
def f107r29 : ICode := .region [
  ⟨(some 120), .move (.tmp 17), none⟩,
  ⟨(some 121), .move (.tmp 18), none⟩,
  ⟨(some 122), .bin .geq (.tmp 120) (.tmp 121), none⟩,
  ⟨(some 8), .move (.tmp 122), none⟩] none
def f107r30 : ICode := .region [
  ⟨(some 123), .loadN 2 (.tmp 4), none⟩,
  ⟨(some 124), .move (.tmp 14), none⟩,
  ⟨(some 125), .bin .add (.tmp 124) (.const (.int .i64 (.ofNat 1))), none⟩,
  ⟨(some 126), .move (.tmp 2), none⟩,
  ⟨(some 127), .move (.tmp 3), none⟩,
  ⟨(some 128), .call 107 [(.tmp 123), (.tmp 125), (.tmp 126), (.tmp 127)], none⟩] none
def f107r31 : ICode := .region [
  ⟨(some 129), .move (.tmp 14), none⟩,
  ⟨(some 2), .move (.tmp 129), none⟩] none
/- sort.pdqsort_func -/
def f107 : IFn := ⟨130, [], (.seq f107r0 (.seq f107r1 (.seq f107r2 (.block 0 (.loop (.block 1 (.seq f107r3 (.seq (.seq f107r4 (.cond (.tmp 23) (.seq f107r5 .ret) .skip)) (.seq (.seq f107r6 (.cond (.tmp 29) (.seq f107r7 .ret) .skip)) (.seq (.seq f107r8 (.cond (.tmp 35) (.seq f107r9 f107r10) .skip)) (.seq f107r11 (.seq (.seq f107r12 (.cond (.tmp 50) (.seq f107r13 (.seq f107r14 f107r15)) .skip)) (.seq (.seq f107r16 (.cond (.tmp 68) (.seq f107r17 (.cond (.tmp 72) .ret .skip)) .skip)) (.seq (.seq f107r18 (.cond (.tmp 83) (.seq f107r19 (.seq f107r20 (.exit 1))) .skip)) (.seq f107r21 (.seq f107r22 (.seq f107r23 (.seq f107r24 (.seq f107r25 (.cond (.tmp 109) (.seq f107r26 (.seq f107r27 f107r28)) (.seq f107r29 (.seq f107r30 f107r31))))))))))))))))))))))⟩
def f108r0 : ICode := .region [
  ⟨(some 3), .box 75 (.tmp 1), none⟩,
  ⟨(some 4), .move (.const (.slice none 0 0)), none⟩] none
def f108r1 : ICode := .region [
  ⟨(some 5), .move (.const (.int .i64 (.ofNat 6))), none⟩] none
def f108r2 : ICode := .region [
  ⟨(some 13), .move (.tmp 5), none⟩,
  ⟨(some 14), .bin .leq (.tmp 13) (.const (.int .i64 (.ofNat 18))), none⟩] none
def f108r3 : ICode := .region [
  ⟨(some 17), .move (.tmp 5), none⟩,
  ⟨(some 18), .bin .shl (.const (.int .i64 (.ofNat 1))) (.tmp 17), none⟩,
  ⟨(some 19), .bin .sub (.tmp 18) (.const (.int .i64 (.ofNat 1))), none⟩,
  ⟨(some 6), .move (.tmp 19), none⟩] none
def f108r4 : ICode := .region [
  ⟨(some 20), .fieldAddr 0 (.tmp 3), none⟩,
  ⟨(some 21), .load1 (.tmp 20), none⟩,
  ⟨(some 22), .move (.tmp 5), none⟩,
  ⟨(some 23), .bin .shr (.tmp 21) (.tmp 22), none⟩,
  ⟨(some 24), .fieldAddr 1 (.tmp 3), none⟩,
  ⟨(some 25), .load1 (.tmp 24), none⟩,
  ⟨(some 26), .move (.tmp 5), none⟩,
  ⟨(some 27), .bin .shr (.tmp 25) (.tmp 26), none⟩,
  ⟨(some 28), .bin .eql (.tmp 23) (.tmp 27), none⟩] (some ⟨[], []⟩)
def f108r5 : ICode := .region [
  ⟨(some 29), .fieldAddr 0 (.tmp 3), none⟩,
  ⟨(some 30), .load1 (.tmp 29), none⟩,
  ⟨(some 31), .move (.tmp 6), none⟩,
  ⟨(some 32), .bin .and (.tmp 30) (.tmp 31), none⟩,
  ⟨(some 33), .bin .neq (.tmp 32) (.const (.int .i64 (.ofNat 0))), none⟩] none
def f108r6 : ICode := .region [
  ⟨(some 34), .move (.tmp 0), none⟩,
  ⟨(some 35), .fieldAddr 0 (.tmp 3), none⟩,
  ⟨(some 36), .load1 (.tmp 35), none⟩,
  ⟨(some 37), .fieldAddr 0 (.tmp 3), none⟩,
  ⟨(some 38), .load1 (.tmp 37), none⟩,
  ⟨(some 39), .move (.tmp 6), none⟩,
  ⟨(some 40), .bin .or (.tmp 38) (.tmp 39), none⟩,
  ⟨(some 41), .build [(.int .i64 (.ofNat 0)), (.int .i64 (.ofNat 0))] [(0, 1, (.tmp 36)), (1, 1, (.tmp 40))], none⟩,
  ⟨(some 42), .call 108 [(.tmp 34), (.tmp 41)], none⟩,
  ⟨(some 0), .move (.tmp 42), none⟩] none
def f108r7 : ICode := .region [
  ⟨(some 43), .move (.tmp 0), none⟩,
  ⟨(some 44), .fieldAddr 0 (.tmp 3), none⟩,
  ⟨(some 45), .load1 (.tmp 44), none⟩,
  ⟨(some 46), .move (.tmp 6), none⟩,
  ⟨(some 47), .bin .or (.tmp 45) (.tmp 46), none⟩,
  ⟨(some 48), .bin .add (.tmp 47) (.const (.int .i64 (.ofNat 1))), none⟩,
  ⟨(some 49), .fieldAddr 1 (.tmp 3), none⟩,
  ⟨(some 50), .load1 (.tmp 49), none⟩,
  ⟨(some 51), .build [(.int .i64 (.ofNat 0)), (.int .i64 (.ofNat 0))] [(0, 1, (.tmp 48)), (1, 1, (.tmp 50))], none⟩,
  ⟨(some 52), .call 108 [(.tmp 43), (.tmp 51)], none⟩,
  ⟨(some 4), .move (.tmp 52), none⟩] none
def f108r8 : ICode := .region [
  ⟨(some 53), .fieldAddr 1 (.tmp 3), none⟩,
  ⟨(some 54), .load1 (.tmp 53), none⟩,
  ⟨(some 55), .move (.tmp 6), none⟩,
  ⟨(some 56), .bin .and (.tmp 54) (.tmp 55), none⟩,
  ⟨(some 57), .move (.tmp 6), none⟩,
  ⟨(some 58), .bin .neq (.tmp 56) (.tmp 57), none⟩] none
def f108r9 : ICode := .region [
  ⟨(some 59), .move (.tmp 0), none⟩,
  ⟨(some 60), .fieldAddr 0 (.tmp 3), none⟩,
  ⟨(some 61), .load1 (.tmp 60), none⟩,
  ⟨(some 62), .fieldAddr 1 (.tmp 3), none⟩,
  ⟨(some 63), .load1 (.tmp 62), none⟩,
  ⟨(some 64), .move (.tmp 6), none⟩,
  ⟨(some 65), .bin .andNot (.tmp 63) (.tmp 64), none⟩,
  ⟨(some 66), .bin .sub (.tmp 65) (.const (.int .i64 (.ofNat 1))), none⟩,
  ⟨(some 67), .build [(.int .i64 (.ofNat 0)), (.int .i64 (.ofNat 0))] [(0, 1, (.tmp 61)), (1, 1, (.tmp 66))], none⟩,
  ⟨(some 68), .call 108 [(.tmp 59), (.tmp 67)], none⟩,
  ⟨(some 0), .move (.tmp 68), none⟩] none
def f108r10 : ICode := .region [
  ⟨(some 69), .move (.tmp 0), none⟩,
  ⟨(some 70), .fieldAddr 1 (.tmp 3), none⟩,
  ⟨(some 71), .load1 (.tmp 70), none⟩,
  ⟨(some 72), .move (.tmp 6), none⟩,
  ⟨(some 73), .bin .andNot (.tmp 71) (.tmp 72), none⟩,
  ⟨(some 74), .fieldAddr 1 (.tmp 3), none⟩,
  ⟨(some 75), .load1 (.tmp 74), none⟩,
  ⟨(some 76), .build [(.int .i64 (.ofNat 0)), (.int .i64 (.ofNat 0))] [(0, 1, (.tmp 73)), (1, 1, (.tmp 75))], none⟩,
  ⟨(some 77), .call 108 [(.tmp 69), (.tmp 76)], none⟩,
  ⟨(some 4), .move (.tmp 77), none⟩] none
def f108r11 : ICode := .region [
  ⟨(some 15), .move (.tmp 5), none⟩,
  ⟨(some 16), .bin .add (.tmp 15) (.const (.int .i64 (.ofNat 6))), none⟩,
  ⟨(some 5), .move (.tmp 16), none⟩] none
def f108r12 : ICode := .region [
  ⟨(some 79), .fieldAddr 0 (.tmp 3), none⟩,
  ⟨(some 80), .load1 (.tmp 79), none⟩,
  ⟨(some 81), .buildSlice 3 1 [(.int .i64 (.ofNat 0))] [(0, 1, (.tmp 80))], none⟩,
  ⟨(some 82), .call 12 [(.tmp 81), (.const (.int .i64 (.ofNat 1))), (.const (.bool false))], none⟩,
  ⟨(some 78), .move (.tmp 82), none⟩,
  ⟨(some 83), .extract (.tmp 78) 0, none⟩,
  ⟨(some 84), .extract (.tmp 78) 1, none⟩,
  ⟨(some 7), .move (.tmp 83), none⟩,
  ⟨(some 8), .move (.tmp 84), none⟩] none
def f108r13 : ICode := .region [
  ⟨(some 86), .fieldAddr 1 (.tmp 3), none⟩,
  ⟨(some 87), .load1 (.tmp 86), none⟩,
  ⟨(some 88), .buildSlice 3 1 [(.int .i64 (.ofNat 0))] [(0, 1, (.tmp 87))], none⟩,
  ⟨(some 89), .call 12 [(.tmp 88), (.const (.int .i64 (.ofNat 1))), (.const (.bool false))], none⟩,
  ⟨(some 85), .move (.tmp 89), none⟩,
  ⟨(some 90), .extract (.tmp 85) 0, none⟩,
  ⟨(some 91), .extract (.tmp 85) 1, none⟩,
  ⟨(some 9), .move (.tmp 90), none⟩,
  ⟨(some 10), .move (.tmp 91), none⟩] none
def f108r14 : ICode := .region [
  ⟨(some 11), .move (.const (.slice none 0 0)), none⟩] none
def f108r15 : ICode := .region [
  ⟨(some 92), .move (.tmp 7), none⟩,
  ⟨(some 93), .len 0 (.tmp 92), none⟩,
  ⟨(some 94), .move (.const (.int .i64 (.ofNat 0))), none⟩] none
def f108r16 : ICode := .region [
  ⟨(some 95), .bin .lss (.tmp 94) (.tmp 93), none⟩] none
def f108r17 : ICode := .region [
  ⟨(some 96), .move (.tmp 94), none⟩,
  ⟨(some 12), .move (.tmp 96), none⟩] none
def f108r18 : ICode := .region [
  ⟨(some 97), .move (.tmp 11), none⟩,
  ⟨(some 98), .move (.tmp 7), none⟩,
  ⟨(some 99), .move (.tmp 12), none⟩,
  ⟨(some 100), .indexStr (.tmp 98) (.tmp 99), none⟩,
  ⟨(some 101), .conv .i64 (.tmp 100), none⟩,
  ⟨(some 102), .move (.tmp 9), none⟩,
  ⟨(some 103), .move (.tmp 12), none⟩,
  ⟨(some 104), .indexStr (.tmp 102) (.tmp 103), none⟩,
  ⟨(some 105), .conv .i64 (.tmp 104), none⟩,
  ⟨(some 106), .build [(.int .i64 (.ofNat 0)), (.int .i64 (.ofNat 0))] [(0, 1, (.tmp 101)), (1, 1, (.tmp 105))], none⟩,
  ⟨(some 107), .buildSlice 75 1 [(.int .i64 (.ofNat 0)), (.int .i64 (.ofNat 0))] [(0, 2, (.tmp 106))], none⟩,
  ⟨(some 108), .append 75 2 16 (.tmp 97) (.tmp 107), none⟩,
  ⟨(some 11), .move (.tmp 108), none⟩] (some ⟨[], []⟩)
def f108r19 : ICode := .region [
  ⟨(some 109), .bin .add (.tmp 94) (.const (.int .i64 (.ofNat 1))), none⟩,
  ⟨(some 94), .move (.tmp 109), none⟩] none
def f108r20 : ICode := .region [
  ⟨(some 110), .move (.tmp 0), none⟩,
  ⟨(some 111), .move (.tmp 11), none⟩,
  ⟨(some 112), .buildSlice 142 1 [(.slice none 0 0)] [(0, 1, (.tmp 111))], none⟩,
  ⟨(some 113), .append 142 1 24 (.tmp 110) (.tmp 112), none⟩,
  ⟨(some 4), .move (.tmp 113), none⟩] none
/- ferret/utfsplit.rows -/
def f108 : IFn := ⟨114, [.inl 4], (.seq f108r0 (.seq (.seq f108r1 (.block 0 (.loop (.seq (.seq f108r2 (.cond (.tmp 14) .skip (.exit 0))) (.seq (.block 1 (.seq f108r3 (.seq (.seq f108r4 (.cond (.tmp 28) (.exit 0) .skip)) (.seq (.seq f108r5 (.cond (.tmp 33) (.seq f108r6 (.seq f108r7 .ret)) .skip)) (.seq f108r8 (.cond (.tmp 58) (.seq f108r9 (.seq f108r10 .ret)) .skip)))))) f108r11))))) (.seq f108r12 (.seq f108r13 (.seq f108r14 (.seq (.seq f108r15 (.block 2 (.loop (.seq f108r16 (.seq (.cond (.tmp 95) .skip (.exit 2)) (.seq (.block 3 (.seq f108r17 f108r18)) f108r19)))))) (.seq f108r20 .ret)))))))⟩
def f109r0 : ICode := .region [
  ⟨(some 4), .move (.const (.bool false)), none⟩] none
def f109r1 : ICode := .region [
  ⟨(some 5), .move (.tmp 0), none⟩,
  ⟨(some 6), .move (.tmp 1), none⟩,
  ⟨(some 7), .call 135 [(.tmp 5), (.tmp 6)], none⟩,
  ⟨(some 8), .bin .geq (.tmp 7) (.const (.int .i64 (.ofNat 0))), none⟩,
  ⟨(some 4), .move (.tmp 8), none⟩] none
/- slices.Contains[[]string,string] -/
def f109 : IFn := ⟨9, [.inl 4], (.seq f109r0 (.seq f109r1 .ret))⟩
def f110r0 : ICode := .region [
  ⟨(some 4), .move (.const (.bool false)), none⟩] none
def f110r1 : ICode := .region [
  ⟨(some 5), .move (.tmp 0), none⟩,
  ⟨(some 6), .move (.tmp 1), none⟩,
  ⟨(some 7), .call 136 [(.tmp 5), (.tmp 6)], none⟩,
  ⟨(some 8), .bin .geq (.tmp 7) (.const (.int .i64 (.ofNat 0))), none⟩,
  ⟨(some 4), .move (.tmp 8), none⟩] none
/- slices.Contains[[]int,int] -/
def f110 : IFn := ⟨9, [.inl 4], (.seq f110r0 (.seq f110r1 .ret))⟩
def f111r0 : ICode := .region [
  ⟨(some 4), .move (.const (.pointer none)), none⟩] none
def f111r1 : ICode := .region [
  ⟨(some 5), .move (.tmp 1), none⟩] none
def f111r2 : ICode := .region [
  ⟨(some 7), .bin .eql (.tmp 5) (.const (.int .i64 (.ofNat 105))), none⟩,
  ⟨(some 6), .move (.tmp 7), none⟩] none
def f111r3 : ICode := .region [
  ⟨(some 8), .move (.tmp 0), none⟩,
  ⟨(some 9), .nilCheck (.tmp 8), none⟩,
  ⟨(some 10), .fieldAddr 0 (.tmp 9), none⟩,
  ⟨(some 4), .move (.tmp 10), none⟩] none
def f111r4 : ICode := .region [
  ⟨(some 12), .bin .eql (.tmp 5) (.const (.int .i64 (.ofNat 109))), none⟩,
  ⟨(some 11), .move (.tmp 12), none⟩] none
def f111r5 : ICode := .region [
  ⟨(some 13), .move (.tmp 0), none⟩,
  ⟨(some 14), .nilCheck (.tmp 13), none⟩,
  ⟨(some 15), .fieldAddr 1 (.tmp 14), none⟩,
  ⟨(some 4), .move (.tmp 15), none⟩] none
def f111r6 : ICode := .region [
  ⟨(some 17), .bin .eql (.tmp 5) (.const (.int .i64 (.ofNat 115))), none⟩,
  ⟨(some 16), .move (.tmp 17), none⟩] none
def f111r7 : ICode := .region [
  ⟨(some 18), .move (.tmp 0), none⟩,
  ⟨(some 19), .nilCheck (.tmp 18), none⟩,
  ⟨(some 20), .fieldAddr 2 (.tmp 19), none⟩,
  ⟨(some 4), .move (.tmp 20), none⟩] none
def f111r8 : ICode := .region [
  ⟨(some 21), .move (.tmp 0), none⟩,
  ⟨(some 22), .nilCheck (.tmp 21), none⟩,
  ⟨(some 23), .fieldAddr 3 (.tmp 22), none⟩,
  ⟨(some 4), .move (.tmp 23), none⟩] none
/- (*ferret/syn.Flags).of -/
def f111 : IFn := ⟨24, [.inl 4], (.seq f111r0 (.seq (.seq f111r1 (.block 0 (.seq f111r2 (.cond (.tmp 6) (.seq f111r3 .ret) (.seq f111r4 (.cond (.tmp 11) (.seq f111r5 .ret) (.seq f111r6 (.cond (.tmp 16) (.seq f111r7 .ret) .skip)))))))) (.seq f111r8 .ret)))⟩
def f112r0 : ICode := .region [
  ⟨(some 2), .move (.const (.slice none 0 0)), none⟩,
  ⟨(some 3), .move (.const (.bool false)), none⟩] none
def f112r1 : ICode := .region [
  ⟨(some 13), .move (.tmp 0), none⟩,
  ⟨(some 14), .bin .eql (.tmp 13) (.const (.string ⟨⟨[65, 110, 121]⟩⟩)), none⟩] none
def f112r2 : ICode := .region [
  ⟨(some 15), .build [(.int .i64 (.ofNat 0)), (.int .i64 (.ofNat 0))] [(1, 1, (.const (.int .i64 (.ofNat 1114111))))], none⟩,
  ⟨(some 16), .buildSlice 75 1 [(.int .i64 (.ofNat 0)), (.int .i64 (.ofNat 0))] [(0, 2, (.tmp 15))], none⟩,
  ⟨(some 17), .call 65 [(.tmp 16)], none⟩,
  ⟨(some 2), .move (.tmp 17), none⟩,
  ⟨(some 3), .move (.const (.bool true)), none⟩] none
def f112r3 : ICode := .region [
  ⟨(some 18), .call 137 [], none⟩,
  ⟨(some 19), .len 1 (.tmp 18), none⟩,
  ⟨(some 20), .move (.const (.int .i64 (.ofNat 0))), none⟩] none
def f112r4 : ICode := .region [
  ⟨(some 21), .bin .lss (.tmp 20) (.tmp 19), none⟩] none
def f112r5 : ICode := .region [
  ⟨(some 22), .indexSl 2 (.tmp 18) (.tmp 20), none⟩,
  ⟨(some 23), .loadN 2 (.tmp 22), none⟩,
  ⟨(some 5), .new [(.string ⟨⟨[]⟩⟩), (.slice none 0 0)] 212, none⟩,
  ⟨none, .store 2 (.tmp 5) (.tmp 23), none⟩] none
def f112r6 : ICode := .region [
  ⟨(some 24), .fieldAddr 0 (.tmp 5), none⟩,
  ⟨(some 25), .load1 (.tmp 24), none⟩,
  ⟨(some 26), .move (.tmp 0), none⟩,
  ⟨(some 27), .bin .eql (.tmp 25) (.tmp 26), none⟩] none
def f112r7 : ICode := .region [
  ⟨(some 28), .fieldAddr 1 (.tmp 5), none⟩,
  ⟨(some 29), .load1 (.tmp 28), none⟩,
  ⟨(some 30), .call 138 [(.tmp 29)], none⟩,
  ⟨(some 2), .move (.tmp 30), none⟩,
  ⟨(some 3), .move (.const (.bool true)), none⟩] none
def f112r8 : ICode := .region [
  ⟨(some 31), .bin .add (.tmp 20) (.const (.int .i64 (.ofNat 1))), none⟩,
  ⟨(some 20), .move (.tmp 31), none⟩] none
def f112r9 : ICode := .region [
  ⟨(some 32), .call 139 [], none⟩,
  ⟨(some 33), .len 1 (.tmp 32), none⟩,
  ⟨(some 34), .move (.const (.int .i64 (.ofNat 0))), none⟩] none
def f112r10 : ICode := .region [
  ⟨(some 35), .bin .lss (.tmp 34) (.tmp 33), none⟩] none
def f112r11 : ICode := .region [
  ⟨(some 36), .indexSl 2 (.tmp 32) (.tmp 34), none⟩,
  ⟨(some 37), .loadN 2 (.tmp 36), none⟩,
  ⟨(some 7), .new [(.string ⟨⟨[]⟩⟩), (.slice none 0 0)] 216, none⟩,
  ⟨none, .store 2 (.tmp 7) (.tmp 37), none⟩] none
def f112r12 : ICode := .region [
  ⟨(some 38), .fieldAddr 0 (.tmp 7), none⟩,
  ⟨(some 39), .load1 (.tmp 38), none⟩,
  ⟨(some 40), .move (.tmp 0), none⟩,
  ⟨(some 41), .bin .neq (.tmp 39) (.tmp 40), none⟩] none
def f112r13 : ICode := .region [
  ⟨(some 8), .move (.const (.slice none 0 0)), none⟩] none
def f112r14 : ICode := .region [
  ⟨(some 42), .fieldAddr 1 (.tmp 7), none⟩,
  ⟨(some 43), .load1 (.tmp 42), none⟩,
  ⟨(some 44), .len 1 (.tmp 43), none⟩,
  ⟨(some 45), .move (.const (.int .i64 (.ofNat 0))), none⟩] none
def f112r15 : ICode := .region [
  ⟨(some 46), .bin .lss (.tmp 45) (.tmp 44), none⟩] none
def f112r16 : ICode := .region [
  ⟨(some 47), .indexSl 1 (.tmp 43) (.tmp 45), none⟩,
  ⟨(some 48), .load1 (.tmp 47), none⟩,
  ⟨(some 10), .move (.tmp 48), none⟩] none
def f112r17 : ICode := .region [
  ⟨(some 50), .move (.tmp 10), none⟩,
  ⟨(some 51), .call 112 [(.tmp 50)], none⟩,
  ⟨(some 49), .move (.tmp 51), none⟩,
  ⟨(some 52), .extract (.tmp 49) 0, none⟩,
  ⟨(some 53), .extract (.tmp 49) 1, none⟩,
  ⟨(some 11), .move (.tmp 52), none⟩,
  ⟨(some 12), .move (.tmp 53), none⟩] none
def f112r18 : ICode := .region [
  ⟨(some 54), .move (.tmp 8), none⟩,
  ⟨(some 55), .move (.tmp 11), none⟩,
  ⟨(some 56), .call 95 [(.tmp 54), (.tmp 55)], none⟩,
  ⟨(some 8), .move (.tmp 56), none⟩] none
def f112r19 : ICode := .region [
  ⟨(some 57), .bin .add (.tmp 45) (.const (.int .i64 (.ofNat 1))), none⟩,
  ⟨(some 45), .move (.tmp 57), none⟩] none
def f112r20 : ICode := .region [
  ⟨(some 58), .move (.tmp 8), none⟩,
  ⟨(some 2), .move (.tmp 58), none⟩,
  ⟨(some 3), .move (.const (.bool true)), none⟩] none
def f112r21 : ICode := .region [
  ⟨(some 59), .bin .add (.tmp 34) (.const (.int .i64 (.ofNat 1))), none⟩,
  ⟨(some 34), .move (.tmp 59), none⟩] none
def f112r22 : ICode := .region [
  ⟨(some 2), .move (.const (.slice none 0 0)), none⟩,
  ⟨(some 3), .move (.const (.bool false)), none⟩] none
/- ferret/ucd.Class -/
def f112 : IFn := ⟨60, [.inl 2, .inl 3], (.seq f112r0 (.seq (.seq f112r1 (.cond (.tmp 14) (.seq f112r2 .ret) .skip)) (.seq (.seq f112r3 (.block 0 (.loop (.seq f112r4 (.seq (.cond (.tmp 21) .skip (.exit 0)) (.seq (.block 1 (.seq f112r5 (.seq f112r6 (.cond (.tmp 27) (.seq f112r7 .ret) .skip)))) f112r8)))))) (.seq (.seq f112r9 (.block 2 (.loop (.seq f112r10 (.seq (.cond (.tmp 35) .skip (.exit 2)) (.seq (.block 3 (.seq f112r11 (.seq (.seq f112r12 (.cond (.tmp 41) (.exit 3) .skip)) (.seq f112r13 (.seq (.seq f112r14 (.block 4 (.loop (.seq f112r15 (.seq (.cond (.tmp 46) .skip (.exit 4)) (.seq (.block 5 (.seq f112r16 (.seq f112r17 f112r18))) f112r19)))))) (.seq f112r20 .ret)))))) f112r21)))))) (.seq f112r22 .ret)))))⟩
def f113r0 : ICode := .region [
  ⟨(some 2), .move (.const (.int .i64 (.ofNat 0))), none⟩] none
def f113r1 : ICode := .region [
  ⟨(some 4), .move (.tmp 0), none⟩,
  ⟨(some 5), .bin .geq (.tmp 4) (.const (.int .i64 (.ofNat 48))), none⟩,
  ⟨(some 6), .move (.tmp 5), none⟩,
  ⟨(some 7), .move (.tmp 0), (some ((some 6), true))⟩,
  ⟨(some 8), .bin .leq (.tmp 7) (.const (.int .i64 (.ofNat 57))), (some ((some 6), true))⟩,
  ⟨(some 9), .pick (.tmp 6) (.tmp 8) (.const (.bool false)), none⟩,
  ⟨(some 3), .move (.tmp 9), none⟩] none
def f113r2 : ICode := .region [
  ⟨(some 10), .move (.tmp 0), none⟩,
  ⟨(some 11), .bin .sub (.tmp 10) (.const (.int .i64 (.ofNat 48))), none⟩,
  ⟨(some 2), .move (.tmp 11), none⟩] none
def f113r3 : ICode := .region [
  ⟨(some 13), .move (.tmp 0), none⟩,
  ⟨(some 14), .bin .geq (.tmp 13) (.const (.int .i64 (.ofNat 65))), none⟩,
  ⟨(some 15), .move (.tmp 14), none⟩,
  ⟨(some 16), .move (.tmp 0), (some ((some 15), true))⟩,
  ⟨(some 17), .bin .leq (.tmp 16) (.const (.int .i64 (.ofNat 70))), (some ((some 15), true))⟩,
  ⟨(some 18), .pick (.tmp 15) (.tmp 17) (.const (.bool false)), none⟩,
  ⟨(some 12), .move (.tmp 18), none⟩] none
def f113r4 : ICode := .region [
  ⟨(some 19), .move (.tmp 0), none⟩,
  ⟨(some 20), .bin .sub (.tmp 19) (.const (.int .i64 (.ofNat 65))), none⟩,
  ⟨(some 21), .bin .add (.tmp 20) (.const (.int .i64 (.ofNat 10))), none⟩,
  ⟨(some 2), .move (.tmp 21), none⟩] none
def f113r5 : ICode := .region [
  ⟨(some 23), .move (.tmp 0), none⟩,
  ⟨(some 24), .bin .geq (.tmp 23) (.const (.int .i64 (.ofNat 97))), none⟩,
  ⟨(some 25), .move (.tmp 24), none⟩,
  ⟨(some 26), .move (.tmp 0), (some ((some 25), true))⟩,
  ⟨(some 27), .bin .leq (.tmp 26) (.const (.int .i64 (.ofNat 102))), (some ((some 25), true))⟩,
  ⟨(some 28), .pick (.tmp 25) (.tmp 27) (.const (.bool false)), none⟩,
  ⟨(some 22), .move (.tmp 28), none⟩] none
def f113r6 : ICode := .region [
  ⟨(some 29), .move (.tmp 0), none⟩,
  ⟨(some 30), .bin .sub (.tmp 29) (.const (.int .i64 (.ofNat 97))), none⟩,
  ⟨(some 31), .bin .add (.tmp 30) (.const (.int .i64 (.ofNat 10))), none⟩,
  ⟨(some 2), .move (.tmp 31), none⟩] none
def f113r7 : ICode := .region [
  ⟨(some 2), .move (.const (.int .i64 (.negSucc 0))), none⟩] none
/- ferret/syn.hex -/
def f113 : IFn := ⟨32, [.inl 2], (.seq f113r0 (.seq (.block 0 (.seq f113r1 (.cond (.tmp 3) (.seq f113r2 .ret) (.seq f113r3 (.cond (.tmp 12) (.seq f113r4 .ret) (.seq f113r5 (.cond (.tmp 22) (.seq f113r6 .ret) .skip))))))) (.seq f113r7 .ret)))⟩
def f114r0 : ICode := .region [
  ⟨(some 0), .move (.const (.slice none 0 0)), none⟩] none
def f114r1 : ICode := .region [
  ⟨(some 1), .build [(.int .i64 (.ofNat 0)), (.int .i64 (.ofNat 0))] [(0, 1, (.const (.int .i64 (.ofNat 9)))), (1, 1, (.const (.int .i64 (.ofNat 13))))], none⟩,
  ⟨(some 2), .build [(.int .i64 (.ofNat 0)), (.int .i64 (.ofNat 0))] [(0, 1, (.const (.int .i64 (.ofNat 32)))), (1, 1, (.const (.int .i64 (.ofNat 32))))], none⟩,
  ⟨(some 3), .build [(.int .i64 (.ofNat 0)), (.int .i64 (.ofNat 0))] [(0, 1, (.const (.int .i64 (.ofNat 133)))), (1, 1, (.const (.int .i64 (.ofNat 133))))], none⟩,
  ⟨(some 4), .build [(.int .i64 (.ofNat 0)), (.int .i64 (.ofNat 0))] [(0, 1, (.const (.int .i64 (.ofNat 160)))), (1, 1, (.const (.int .i64 (.ofNat 160))))], none⟩,
  ⟨(some 5), .build [(.int .i64 (.ofNat 0)), (.int .i64 (.ofNat 0))] [(0, 1, (.const (.int .i64 (.ofNat 8192)))), (1, 1, (.const (.int .i64 (.ofNat 8202))))], none⟩,
  ⟨(some 6), .build [(.int .i64 (.ofNat 0)), (.int .i64 (.ofNat 0))] [(0, 1, (.const (.int .i64 (.ofNat 8232)))), (1, 1, (.const (.int .i64 (.ofNat 8233))))], none⟩,
  ⟨(some 7), .build [(.int .i64 (.ofNat 0)), (.int .i64 (.ofNat 0))] [(0, 1, (.const (.int .i64 (.ofNat 12288)))), (1, 1, (.const (.int .i64 (.ofNat 12288))))], none⟩,
  ⟨(some 8), .buildSlice 217 7 [(.int .i64 (.ofNat 0)), (.int .i64 (.ofNat 0)), (.int .i64 (.ofNat 0)), (.int .i64 (.ofNat 0)), (.int .i64 (.ofNat 0)), (.int .i64 (.ofNat 0)), (.int .i64 (.ofNat 0)), (.int .i64 (.ofNat 0)), (.int .i64 (.ofNat 0)), (.int .i64 (.ofNat 0)), (.int .i64 (.ofNat 0)), (.int .i64 (.ofNat 0)), (.int .i64 (.ofNat 0)), (.int .i64 (.ofNat 0))] [(0, 2, (.tmp 1)), (2, 2, (.tmp 2)), (4, 2, (.tmp 3)), (6, 2, (.tmp 4)), (8, 2, (.tmp 5)), (10, 2, (.tmp 6)), (12, 2, (.tmp 7))], none⟩,
  ⟨(some 9), .call 138 [(.tmp 8)], none⟩,
  ⟨(some 0), .move (.tmp 9), none⟩] none
/- ferret/ucd.blanks -/
def f114 : IFn := ⟨10, [.inl 0], (.seq f114r0 (.seq f114r1 .ret))⟩
def f115r0 : ICode := .region [
  ⟨(some 4), .move (.const (.int .i64 (.ofNat 0))), none⟩] none
def f115r1 : ICode := .region [
  ⟨(some 5), .move (.tmp 0), none⟩,
  ⟨(some 6), .move (.tmp 1), none⟩,
  ⟨(some 7), .call 140 [(.tmp 5), (.tmp 6)], none⟩,
  ⟨(some 4), .move (.tmp 7), none⟩] none
/- internal/stringslite.IndexByte -/
def f115 : IFn := ⟨8, [.inl 4], (.seq f115r0 (.seq f115r1 .ret))⟩
def f125r0 : ICode := .region [
  ⟨(some 2), .move (.const (.int .i64 (.ofNat 0))), none⟩] none
def f125r1 : ICode := .region [
  ⟨(some 3), .move (.tmp 0), none⟩,
  ⟨(some 4), .bin .geq (.tmp 3) (.const (.int .u32 (.ofNat 65536))), none⟩] none
def f125r2 : ICode := .region [
  ⟨(some 5), .move (.tmp 0), none⟩,
  ⟨(some 6), .bin .shr (.tmp 5) (.const (.int .u64 (.ofNat 16))), none⟩,
  ⟨(some 0), .move (.tmp 6), none⟩] none
def f125r3 : ICode := .region [
  ⟨(some 2), .move (.const (.int .i64 (.ofNat 16))), none⟩] none
def f125r4 : ICode := .region [
  ⟨(some 7), .move (.tmp 0), none⟩,
  ⟨(some 8), .bin .geq (.tmp 7) (.const (.int .u32 (.ofNat 256))), none⟩] none
def f125r5 : ICode := .region [
  ⟨(some 9), .move (.tmp 0), none⟩,
  ⟨(some 10), .bin .shr (.tmp 9) (.const (.int .u64 (.ofNat 8))), none⟩,
  ⟨(some 0), .move (.tmp 10), none⟩] none
def f125r6 : ICode := .region [
  ⟨(some 11), .move (.tmp 2), none⟩,
  ⟨(some 12), .bin .add (.tmp 11) (.const (.int .i64 (.ofNat 8))), none⟩,
  ⟨(some 2), .move (.tmp 12), none⟩] none
def f125r7 : ICode := .region [
  ⟨(some 13), .move (.tmp 2), none⟩,
  ⟨(some 14), .move (.tmp 0), none⟩,
  ⟨(some 15), .conv .u8 (.tmp 14), none⟩,
  ⟨(some 16), .indexStr (.const (.string ⟨⟨[0, 1, 2, 2, 3, 3, 3, 3, 4, 4, 4, 4, 4, 4, 4, 4, 5, 5, 5, 5, 5, 5, 5, 5, 5, 5, 5, 5, 5, 5, 5, 5, 6, 6, 6, 6, 6, 6, 6, 6, 6, 6, 6, 6, 6, 6, 6, 6, 6, 6, 6, 6, 6, 6, 6, 6, 6, 6, 6, 6, 6, 6, 6, 6, 7, 7, 7, 7, 7, 7, 7, 7, 7, 7, 7, 7, 7, 7, 7, 7, 7, 7, 7, 7, 7, 7, 7, 7, 7, 7, 7, 7, 7, 7, 7, 7, 7, 7, 7, 7, 7, 7, 7, 7, 7, 7, 7, 7, 7, 7, 7, 7, 7, 7, 7, 7, 7, 7, 7, 7, 7, 7, 7, 7, 7, 7, 7, 7, 8, 8, 8, 8, 8, 8, 8, 8, 8, 8, 8, 8, 8, 8, 8, 8, 8, 8, 8, 8, 8, 8, 8, 8, 8, 8, 8, 8, 8, 8, 8, 8, 8, 8, 8, 8, 8, 8, 8, 8, 8, 8, 8, 8, 8, 8, 8, 8, 8, 8, 8, 8, 8, 8, 8, 8, 8, 8, 8, 8, 8, 8, 8, 8, 8, 8, 8, 8, 8, 8, 8, 8, 8, 8, 8, 8, 8, 8, 8, 8, 8, 8, 8, 8, 8, 8, 8, 8, 8, 8, 8, 8, 8, 8, 8, 8, 8, 8, 8, 8, 8, 8, 8, 8, 8, 8, 8, 8, 8, 8, 8, 8, 8, 8, 8, 8, 8, 8, 8, 8, 8, 8, 8, 8, 8, 8, 8, 8]⟩⟩)) (.tmp 15), none⟩,
  ⟨(some 17), .conv .i64 (.tmp 16), none⟩,
  ⟨(some 18), .bin .add (.tmp 13) (.tmp 17), none⟩,
  ⟨(some 2), .move (.tmp 18), none⟩] none
/- math/bits.Len32 -/
def f125 : IFn := ⟨19, [.inl 2], (.seq f125r0 (.seq (.seq f125r1 (.cond (.tmp 4) (.seq f125r2 f125r3) .skip)) (.seq (.seq f125r4 (.cond (.tmp 8) (.seq f125r5 f125r6) .skip)) (.seq f125r7 .ret))))⟩
def f126r0 : ICode := .region [
  ⟨(some 2), .move (.const (.int .i64 (.ofNat 0))), none⟩] none
def f126r1 : ICode := .region [
  ⟨(some 3), .move (.tmp 0), none⟩,
  ⟨(some 4), .bin .geq (.tmp 3) (.const (.int .u64 (.ofNat 4294967296))), none⟩] none
def f126r2 : ICode := .region [
  ⟨(some 5), .move (.tmp 0), none⟩,
  ⟨(some 6), .bin .shr (.tmp 5) (.const (.int .u64 (.ofNat 32))), none⟩,
  ⟨(some 0), .move (.tmp 6), none⟩] none
def f126r3 : ICode := .region [
  ⟨(some 2), .move (.const (.int .i64 (.ofNat 32))), none⟩] none
def f126r4 : ICode := .region [
  ⟨(some 7), .move (.tmp 0), none⟩,
  ⟨(some 8), .bin .geq (.tmp 7) (.const (.int .u64 (.ofNat 65536))), none⟩] none
def f126r5 : ICode := .region [
  ⟨(some 9), .move (.tmp 0), none⟩,
  ⟨(some 10), .bin .shr (.tmp 9) (.const (.int .u64 (.ofNat 16))), none⟩,
  ⟨(some 0), .move (.tmp 10), none⟩] none
def f126r6 : ICode := .region [
  ⟨(some 11), .move (.tmp 2), none⟩,
  ⟨(some 12), .bin .add (.tmp 11) (.const (.int .i64 (.ofNat 16))), none⟩,
  ⟨(some 2), .move (.tmp 12), none⟩] none
def f126r7 : ICode := .region [
  ⟨(some 13), .move (.tmp 0), none⟩,
  ⟨(some 14), .bin .geq (.tmp 13) (.const (.int .u64 (.ofNat 256))), none⟩] none
def f126r8 : ICode := .region [
  ⟨(some 15), .move (.tmp 0), none⟩,
  ⟨(some 16), .bin .shr (.tmp 15) (.const (.int .u64 (.ofNat 8))), none⟩,
  ⟨(some 0), .move (.tmp 16), none⟩] none
def f126r9 : ICode := .region [
  ⟨(some 17), .move (.tmp 2), none⟩,
  ⟨(some 18), .bin .add (.tmp 17) (.const (.int .i64 (.ofNat 8))), none⟩,
  ⟨(some 2), .move (.tmp 18), none⟩] none
def f126r10 : ICode := .region [
  ⟨(some 19), .move (.tmp 2), none⟩,
  ⟨(some 20), .move (.tmp 0), none⟩,
  ⟨(some 21), .conv .u8 (.tmp 20), none⟩,
  ⟨(some 22), .indexStr (.const (.string ⟨⟨[0, 1, 2, 2, 3, 3, 3, 3, 4, 4, 4, 4, 4, 4, 4, 4, 5, 5, 5, 5, 5, 5, 5, 5, 5, 5, 5, 5, 5, 5, 5, 5, 6, 6, 6, 6, 6, 6, 6, 6, 6, 6, 6, 6, 6, 6, 6, 6, 6, 6, 6, 6, 6, 6, 6, 6, 6, 6, 6, 6, 6, 6, 6, 6, 7, 7, 7, 7, 7, 7, 7, 7, 7, 7, 7, 7, 7, 7, 7, 7, 7, 7, 7, 7, 7, 7, 7, 7, 7, 7, 7, 7, 7, 7, 7, 7, 7, 7, 7, 7, 7, 7, 7, 7, 7, 7, 7, 7, 7, 7, 7, 7, 7, 7, 7, 7, 7, 7, 7, 7, 7, 7, 7, 7, 7, 7, 7, 7, 8, 8, 8, 8, 8, 8, 8, 8, 8, 8, 8, 8, 8, 8, 8, 8, 8, 8, 8, 8, 8, 8, 8, 8, 8, 8, 8, 8, 8, 8, 8, 8, 8, 8, 8, 8, 8, 8, 8, 8, 8, 8, 8, 8, 8, 8, 8, 8, 8, 8, 8, 8, 8, 8, 8, 8, 8, 8, 8, 8, 8, 8, 8, 8, 8, 8, 8, 8, 8, 8, 8, 8, 8, 8, 8, 8, 8, 8, 8, 8, 8, 8, 8, 8, 8, 8, 8, 8, 8, 8, 8, 8, 8, 8, 8, 8, 8, 8, 8, 8, 8, 8, 8, 8, 8, 8, 8, 8, 8, 8, 8, 8, 8, 8, 8, 8, 8, 8, 8, 8, 8, 8, 8, 8, 8, 8, 8, 8]⟩⟩)) (.tmp 21), none⟩,
  ⟨(some 23), .conv .i64 (.tmp 22), none⟩,
  ⟨(some 24), .bin .add (.tmp 19) (.tmp 23), none⟩,
  ⟨(some 2), .move (.tmp 24), none⟩] none
/- math/bits.Len64 -/
def f126 : IFn := ⟨25, [.inl 2], (.seq f126r0 (.seq (.seq f126r1 (.cond (.tmp 4) (.seq f126r2 f126r3) .skip)) (.seq (.seq f126r4 (.cond (.tmp 8) (.seq f126r5 f126r6) .skip)) (.seq (.seq f126r7 (.cond (.tmp 14) (.seq f126r8 f126r9) .skip)) (.seq f126r10 .ret)))))⟩
def f127r0 : ICode := .region [
  ⟨(some 3), .box 184 (.tmp 0), none⟩] none
def f127r1 : ICode := .region [
  ⟨(some 8), .move (.tmp 1), none⟩,
  ⟨(some 9), .bin .add (.tmp 8) (.const (.int .i64 (.ofNat 1))), none⟩,
  ⟨(some 6), .move (.tmp 9), none⟩] none
def f127r2 : ICode := .region [
  ⟨(some 10), .move (.tmp 6), none⟩,
  ⟨(some 11), .move (.tmp 2), none⟩,
  ⟨(some 12), .bin .lss (.tmp 10) (.tmp 11), none⟩] none
def f127r3 : ICode := .region [
  ⟨(some 15), .move (.tmp 6), none⟩,
  ⟨(some 7), .move (.tmp 15), none⟩] none
def f127r4 : ICode := .region [
  ⟨(some 16), .move (.tmp 7), none⟩,
  ⟨(some 17), .move (.tmp 1), none⟩,
  ⟨(some 18), .bin .gtr (.tmp 16) (.tmp 17), none⟩,
  ⟨(some 19), .move (.tmp 18), none⟩,
  ⟨(some 20), .fieldAddr 0 (.tmp 3), (some ((some 19), true))⟩,
  ⟨(some 21), .load1 (.tmp 20), (some ((some 19), true))⟩,
  ⟨(some 22), .move (.tmp 7), (some ((some 19), true))⟩,
  ⟨(some 23), .move (.tmp 7), (some ((some 19), true))⟩,
  ⟨(some 24), .bin .sub (.tmp 23) (.const (.int .i64 (.ofNat 1))), (some ((some 19), true))⟩,
  ⟨(some 25), .callv (.tmp 21) [(.tmp 22), (.tmp 24)], (some ((some 19), true))⟩,
  ⟨(some 26), .pick (.tmp 19) (.tmp 25) (.const (.bool false)), none⟩] none
def f127r5 : ICode := .region [
  ⟨(some 29), .fieldAddr 1 (.tmp 3), none⟩,
  ⟨(some 30), .load1 (.tmp 29), none⟩,
  ⟨(some 31), .move (.tmp 7), none⟩,
  ⟨(some 32), .move (.tmp 7), none⟩,
  ⟨(some 33), .bin .sub (.tmp 32) (.const (.int .i64 (.ofNat 1))), none⟩,
  ⟨(some 34), .callv (.tmp 30) [(.tmp 31), (.tmp 33)], none⟩] none
def f127r6 : ICode := .region [
  ⟨(some 27), .move (.tmp 7), none⟩,
  ⟨(some 28), .bin .sub (.tmp 27) (.const (.int .i64 (.ofNat 1))), none⟩,
  ⟨(some 7), .move (.tmp 28), none⟩] none
def f127r7 : ICode := .region [
  ⟨(some 13), .move (.tmp 6), none⟩,
  ⟨(some 14), .bin .add (.tmp 13) (.const (.int .i64 (.ofNat 1))), none⟩,
  ⟨(some 6), .move (.tmp 14), none⟩] none
/- sort.insertionSort_func -/
def f127 : IFn := ⟨35, [], (.seq f127r0 (.seq f127r1 (.block 0 (.loop (.seq (.seq f127r2 (.cond (.tmp 12) .skip (.exit 0))) (.seq (.block 1 (.seq f127r3 (.block 2 (.loop (.seq (.seq f127r4 (.cond (.tmp 26) .skip (.exit 2))) (.seq (.block 3 f127r5) f127r6)))))) f127r7))))))⟩
def f128r0 : ICode := .region [
  ⟨(some 3), .box 184 (.tmp 0), none⟩] none
def f128r1 : ICode := .region [
  ⟨(some 11), .move (.tmp 1), none⟩,
  ⟨(some 6), .move (.tmp 11), none⟩] none
def f128r2 : ICode := .region [
  ⟨(some 7), .move (.const (.int .i64 (.ofNat 0))), none⟩] none
def f128r3 : ICode := .region [
  ⟨(some 12), .move (.tmp 2), none⟩,
  ⟨(some 13), .move (.tmp 1), none⟩,
  ⟨(some 14), .bin .sub (.tmp 12) (.tmp 13), none⟩,
  ⟨(some 8), .move (.tmp 14), none⟩] none
def f128r4 : ICode := .region [
  ⟨(some 15), .move (.tmp 8), none⟩,
  ⟨(some 16), .bin .sub (.tmp 15) (.const (.int .i64 (.ofNat 1))), none⟩,
  ⟨(some 17), .bin .quo (.tmp 16) (.const (.int .i64 (.ofNat 2))), none⟩,
  ⟨(some 9), .move (.tmp 17), none⟩] none
def f128r5 : ICode := .region [
  ⟨(some 18), .move (.tmp 9), none⟩,
  ⟨(some 19), .bin .geq (.tmp 18) (.const (.int .i64 (.ofNat 0))), none⟩] none
def f128r6 : ICode := .region [
  ⟨(some 22), .loadN 2 (.tmp 3), none⟩,
  ⟨(some 23), .move (.tmp 9), none⟩,
  ⟨(some 24), .move (.tmp 8), none⟩,
  ⟨(some 25), .move (.tmp 6), none⟩,
  ⟨(some 26), .call 141 [(.tmp 22), (.tmp 23), (.tmp 24), (.tmp 25)], none⟩] none
def f128r7 : ICode := .region [
  ⟨(some 20), .move (.tmp 9), none⟩,
  ⟨(some 21), .bin .sub (.tmp 20) (.const (.int .i64 (.ofNat 1))), none⟩,
  ⟨(some 9), .move (.tmp 21), none⟩] none
def f128r8 : ICode := .region [
  ⟨(some 27), .move (.tmp 8), none⟩,
  ⟨(some 28), .bin .sub (.tmp 27) (.const (.int .i64 (.ofNat 1))), none⟩,
  ⟨(some 10), .move (.tmp 28), none⟩] none
def f128r9 : ICode := .region [
  ⟨(some 29), .move (.tmp 10), none⟩,
  ⟨(some 30), .bin .geq (.tmp 29) (.const (.int .i64 (.ofNat 0))), none⟩] none
def f128r10 : ICode := .region [
  ⟨(some 33), .fieldAddr 1 (.tmp 3), none⟩,
  ⟨(some 34), .load1 (.tmp 33), none⟩,
  ⟨(some 35), .move (.tmp 6), none⟩,
  ⟨(some 36), .move (.tmp 6), none⟩,
  ⟨(some 37), .move (.tmp 10), none⟩,
  ⟨(some 38), .bin .add (.tmp 36) (.tmp 37), none⟩,
  ⟨(some 39), .callv (.tmp 34) [(.tmp 35), (.tmp 38)], none⟩] none
def f128r11 : ICode := .region [
  ⟨(some 40), .loadN 2 (.tmp 3), none⟩,
  ⟨(some 41), .move (.tmp 7), none⟩,
  ⟨(some 42), .move (.tmp 10), none⟩,
  ⟨(some 43), .move (.tmp 6), none⟩,
  ⟨(some 44), .call 141 [(.tmp 40), (.tmp 41), (.tmp 42), (.tmp 43)], none⟩] none
def f128r12 : ICode := .region [
  ⟨(some 31), .move (.tmp 10), none⟩,
  ⟨(some 32), .bin .sub (.tmp 31) (.const (.int .i64 (.ofNat 1))), none⟩,
  ⟨(some 10), .move (.tmp 32), none⟩] none
/- sort.heapSort_func -/
def f128 : IFn := ⟨45, [], (.seq f128r0 (.seq f128r1 (.seq f128r2 (.seq f128r3 (.seq (.seq f128r4 (.block 0 (.loop (.seq (.seq f128r5 (.cond (.tmp 19) .skip (.exit 0))) (.seq (.block 1 f128r6) f128r7))))) (.seq f128r8 (.block 2 (.loop (.seq (.seq f128r9 (.cond (.tmp 30) .skip (.exit 2))) (.seq (.block 3 (.seq f128r10 f128r11)) f128r12))))))))))⟩
def f129r0 : ICode := .region [
  ⟨(some 3), .box 184 (.tmp 0), none⟩] none
def f129r1 : ICode := .region [
  ⟨(some 11), .move (.tmp 2), none⟩,
  ⟨(some 12), .move (.tmp 1), none⟩,
  ⟨(some 13), .bin .sub (.tmp 11) (.tmp 12), none⟩,
  ⟨(some 6), .move (.tmp 13), none⟩] none
def f129r2 : ICode := .region [
  ⟨(some 14), .move (.tmp 6), none⟩,
  ⟨(some 15), .bin .geq (.tmp 14) (.const (.int .i64 (.ofNat 8))), none⟩] none
def f129r3 : ICode := .region [
  ⟨(some 16), .move (.tmp 6), none⟩,
  ⟨(some 17), .conv .u64 (.tmp 16), none⟩,
  ⟨(some 7), .new [(.int .u64 (.ofNat 0))] 218, none⟩,
  ⟨none, .store 1 (.tmp 7) (.tmp 17), none⟩] none
def f129r4 : ICode := .region [
  ⟨(some 18), .move (.tmp 6), none⟩,
  ⟨(some 19), .call 142 [(.tmp 18)], none⟩,
  ⟨(some 8), .move (.tmp 19), none⟩] none
def f129r5 : ICode := .region [
  ⟨(some 20), .move (.tmp 1), none⟩,
  ⟨(some 21), .move (.tmp 6), none⟩,
  ⟨(some 22), .bin .quo (.tmp 21) (.const (.int .i64 (.ofNat 4))), none⟩,
  ⟨(some 23), .bin .mul (.tmp 22) (.const (.int .i64 (.ofNat 2))), none⟩,
  ⟨(some 24), .bin .add (.tmp 20) (.tmp 23), none⟩,
  ⟨(some 25), .bin .sub (.tmp 24) (.const (.int .i64 (.ofNat 1))), none⟩,
  ⟨(some 9), .move (.tmp 25), none⟩] none
def f129r6 : ICode := .region [
  ⟨(some 26), .move (.tmp 9), none⟩,
  ⟨(some 27), .move (.tmp 1), none⟩,
  ⟨(some 28), .move (.tmp 6), none⟩,
  ⟨(some 29), .bin .quo (.tmp 28) (.const (.int .i64 (.ofNat 4))), none⟩,
  ⟨(some 30), .bin .mul (.tmp 29) (.const (.int .i64 (.ofNat 2))), none⟩,
  ⟨(some 31), .bin .add (.tmp 27) (.tmp 30), none⟩,
  ⟨(some 32), .bin .add (.tmp 31) (.const (.int .i64 (.ofNat 1))), none⟩,
  ⟨(some 33), .bin .leq (.tmp 26) (.tmp 32), none⟩] none
def f129r7 : ICode := .region [
  ⟨(some 36), .call 143 [(.tmp 7)], none⟩,
  ⟨(some 37), .move (.tmp 8), none⟩,
  ⟨(some 38), .bin .sub (.tmp 37) (.const (.int .u64 (.ofNat 1))), none⟩,
  ⟨(some 39), .bin .and (.tmp 36) (.tmp 38), none⟩,
  ⟨(some 40), .conv .i64 (.tmp 39), none⟩,
  ⟨(some 10), .move (.tmp 40), none⟩] none
def f129r8 : ICode := .region [
  ⟨(some 41), .move (.tmp 10), none⟩,
  ⟨(some 42), .move (.tmp 6), none⟩,
  ⟨(some 43), .bin .geq (.tmp 41) (.tmp 42), none⟩] none
def f129r9 : ICode := .region [
  ⟨(some 44), .move (.tmp 10), none⟩,
  ⟨(some 45), .move (.tmp 6), none⟩,
  ⟨(some 46), .bin .sub (.tmp 44) (.tmp 45), none⟩,
  ⟨(some 10), .move (.tmp 46), none⟩] none
def f129r10 : ICode := .region [
  ⟨(some 47), .fieldAddr 1 (.tmp 3), none⟩,
  ⟨(some 48), .load1 (.tmp 47), none⟩,
  ⟨(some 49), .move (.tmp 9), none⟩,
  ⟨(some 50), .move (.tmp 1), none⟩,
  ⟨(some 51), .move (.tmp 10), none⟩,
  ⟨(some 52), .bin .add (.tmp 50) (.tmp 51), none⟩,
  ⟨(some 53), .callv (.tmp 48) [(.tmp 49), (.tmp 52)], none⟩] none
def f129r11 : ICode := .region [
  ⟨(some 34), .move (.tmp 9), none⟩,
  ⟨(some 35), .bin .add (.tmp 34) (.const (.int .i64 (.ofNat 1))), none⟩,
  ⟨(some 9), .move (.tmp 35), none⟩] none
/- sort.breakPatterns_func -/
def f129 : IFn := ⟨54, [], (.seq f129r0 (.seq f129r1 (.seq f129r2 (.cond (.tmp 15) (.seq f129r3 (.seq f129r4 (.seq f129r5 (.block 0 (.loop (.seq (.seq f129r6 (.cond (.tmp 33) .skip (.exit 0))) (.seq (.block 1 (.seq f129r7 (.seq (.seq f129r8 (.cond (.tmp 43) f129r9 .skip)) f129r10))) f129r11))))))) .skip))))⟩
def f130r0 : ICode := .region [
  ⟨(some 3), .box 184 (.tmp 0), none⟩,
  ⟨(some 6), .move (.const (.int .i64 (.ofNat 0))), none⟩,
  ⟨(some 7), .move (.const (.int .i64 (.ofNat 0))), none⟩] none
def f130r1 : ICode := .region [
  ⟨(some 13), .move (.tmp 2), none⟩,
  ⟨(some 14), .move (.tmp 1), none⟩,
  ⟨(some 15), .bin .sub (.tmp 13) (.tmp 14), none⟩,
  ⟨(some 8), .move (.tmp 15), none⟩] none
def f130r2 : ICode := .region [
  ⟨(some 9), .new [(.int .i64 (.ofNat 0))] 3, none⟩] none
def f130r3 : ICode := .region [
  ⟨(some 16), .move (.tmp 1), none⟩,
  ⟨(some 17), .move (.tmp 8), none⟩,
  ⟨(some 18), .bin .quo (.tmp 17) (.const (.int .i64 (.ofNat 4))), none⟩,
  ⟨(some 19), .bin .mul (.tmp 18) (.const (.int .i64 (.ofNat 1))), none⟩,
  ⟨(some 20), .bin .add (.tmp 16) (.tmp 19), none⟩,
  ⟨(some 10), .move (.tmp 20), none⟩] none
def f130r4 : ICode := .region [
  ⟨(some 21), .move (.tmp 1), none⟩,
  ⟨(some 22), .move (.tmp 8), none⟩,
  ⟨(some 23), .bin .quo (.tmp 22) (.const (.int .i64 (.ofNat 4))), none⟩,
  ⟨(some 24), .bin .mul (.tmp 23) (.const (.int .i64 (.ofNat 2))), none⟩,
  ⟨(some 25), .bin .add (.tmp 21) (.tmp 24), none⟩,
  ⟨(some 11), .move (.tmp 25), none⟩] none
def f130r5 : ICode := .region [
  ⟨(some 26), .move (.tmp 1), none⟩,
  ⟨(some 27), .move (.tmp 8), none⟩,
  ⟨(some 28), .bin .quo (.tmp 27) (.const (.int .i64 (.ofNat 4))), none⟩,
  ⟨(some 29), .bin .mul (.tmp 28) (.const (.int .i64 (.ofNat 3))), none⟩,
  ⟨(some 30), .bin .add (.tmp 26) (.tmp 29), none⟩,
  ⟨(some 12), .move (.tmp 30), none⟩] none
def f130r6 : ICode := .region [
  ⟨(some 31), .move (.tmp 8), none⟩,
  ⟨(some 32), .bin .geq (.tmp 31) (.const (.int .i64 (.ofNat 8))), none⟩] none
def f130r7 : ICode := .region [
  ⟨(some 33), .move (.tmp 8), none⟩,
  ⟨(some 34), .bin .geq (.tmp 33) (.const (.int .i64 (.ofNat 50))), none⟩] none
def f130r8 : ICode := .region [
  ⟨(some 35), .loadN 2 (.tmp 3), none⟩,
  ⟨(some 36), .move (.tmp 10), none⟩,
  ⟨(some 37), .call 144 [(.tmp 35), (.tmp 36), (.tmp 9)], none⟩,
  ⟨(some 10), .move (.tmp 37), none⟩] none
def f130r9 : ICode := .region [
  ⟨(some 38), .loadN 2 (.tmp 3), none⟩,
  ⟨(some 39), .move (.tmp 11), none⟩,
  ⟨(some 40), .call 144 [(.tmp 38), (.tmp 39), (.tmp 9)], none⟩,
  ⟨(some 11), .move (.tmp 40), none⟩] none
def f130r10 : ICode := .region [
  ⟨(some 41), .loadN 2 (.tmp 3), none⟩,
  ⟨(some 42), .move (.tmp 12), none⟩,
  ⟨(some 43), .call 144 [(.tmp 41), (.tmp 42), (.tmp 9)], none⟩,
  ⟨(some 12), .move (.tmp 43), none⟩] none
def f130r11 : ICode := .region [
  ⟨(some 44), .loadN 2 (.tmp 3), none⟩,
  ⟨(some 45), .move (.tmp 10), none⟩,
  ⟨(some 46), .move (.tmp 11), none⟩,
  ⟨(some 47), .move (.tmp 12), none⟩,
  ⟨(some 48), .call 145 [(.tmp 44), (.tmp 45), (.tmp 46), (.tmp 47), (.tmp 9)], none⟩,
  ⟨(some 11), .move (.tmp 48), none⟩] none
def f130r12 : ICode := .region [
  ⟨(some 49), .load1 (.tmp 9), none⟩] none
def f130r13 : ICode := .region [
  ⟨(some 52), .bin .eql (.tmp 49) (.const (.int .i64 (.ofNat 0))), none⟩,
  ⟨(some 51), .move (.tmp 52), none⟩] none
def f130r14 : ICode := .region [
  ⟨(some 53), .move (.tmp 11), none⟩,
  ⟨(some 6), .move (.tmp 53), none⟩,
  ⟨(some 7), .move (.const (.int .i64 (.ofNat 1))), none⟩] none
def f130r15 : ICode := .region [
  ⟨(some 55), .bin .eql (.tmp 49) (.const (.int .i64 (.ofNat 12))), none⟩,
  ⟨(some 54), .move (.tmp 55), none⟩] none
def f130r16 : ICode := .region [
  ⟨(some 56), .move (.tmp 11), none⟩,
  ⟨(some 6), .move (.tmp 56), none⟩,
  ⟨(some 7), .move (.const (.int .i64 (.ofNat 2))), none⟩] none
def f130r17 : ICode := .region [
  ⟨(some 50), .move (.tmp 11), none⟩,
  ⟨(some 6), .move (.tmp 50), none⟩,
  ⟨(some 7), .move (.const (.int .i64 (.ofNat 0))), none⟩] none
/- sort.choosePivot_func -/
def f130 : IFn := ⟨57, [.inl 6, .inl 7], (.seq f130r0 (.seq f130r1 (.seq f130r2 (.seq f130r3 (.seq f130r4 (.seq f130r5 (.seq (.seq f130r6 (.cond (.tmp 32) (.seq (.seq f130r7 (.cond (.tmp 34) (.seq f130r8 (.seq f130r9 f130r10)) .skip)) f130r11) .skip)) (.seq f130r12 (.block 0 (.seq f130r13 (.cond (.tmp 51) (.seq f130r14 .ret) (.seq f130r15 (.cond (.tmp 54) (.seq f130r16 .ret) (.seq f130r17 .ret))))))))))))))⟩
def f131r0 : ICode := .region [
  ⟨(some 3), .box 184 (.tmp 0), none⟩] none
def f131r1 : ICode := .region [
  ⟨(some 8), .move (.tmp 1), none⟩,
  ⟨(some 6), .move (.tmp 8), none⟩] none
def f131r2 : ICode := .region [
  ⟨(some 9), .move (.tmp 2), none⟩,
  ⟨(some 10), .bin .sub (.tmp 9) (.const (.int .i64 (.ofNat 1))), none⟩,
  ⟨(some 7), .move (.tmp 10), none⟩] none
def f131r3 : ICode := .region [
  ⟨(some 11), .move (.tmp 6), none⟩,
  ⟨(some 12), .move (.tmp 7), none⟩,
  ⟨(some 13), .bin .lss (.tmp 11) (.tmp 12), none⟩] none
def f131r4 : ICode := .region [
  ⟨(some 14), .fieldAddr 1 (.tmp 3), none⟩,
  ⟨(some 15), .load1 (.tmp 14), none⟩,
  ⟨(some 16), .move (.tmp 6), none⟩,
  ⟨(some 17), .move (.tmp 7), none⟩,
  ⟨(some 18), .callv (.tmp 15) [(.tmp 16), (.tmp 17)], none⟩] none
def f131r5 : ICode := .region [
  ⟨(some 19), .move (.tmp 6), none⟩,
  ⟨(some 20), .bin .add (.tmp 19) (.const (.int .i64 (.ofNat 1))), none⟩,
  ⟨(some 6), .move (.tmp 20), none⟩] none
def f131r6 : ICode := .region [
  ⟨(some 21), .move (.tmp 7), none⟩,
  ⟨(some 22), .bin .sub (.tmp 21) (.const (.int .i64 (.ofNat 1))), none⟩,
  ⟨(some 7), .move (.tmp 22), none⟩] none
/- sort.reverseRange_func -/
def f131 : IFn := ⟨23, [], (.seq f131r0 (.seq f131r1 (.seq f131r2 (.block 0 (.loop (.seq (.seq f131r3 (.cond (.tmp 13) .skip (.exit 0))) (.block 1 (.seq f131r4 (.seq f131r5 f131r6)))))))))⟩
def f132r0 : ICode := .region [
  ⟨(some 3), .box 184 (.tmp 0), none⟩,
  ⟨(some 6), .move (.const (.bool false)), none⟩] none
def f132r1 : ICode := .region [
  ⟨(some 11), .move (.tmp 1), none⟩,
  ⟨(some 12), .bin .add (.tmp 11) (.const (.int .i64 (.ofNat 1))), none⟩,
  ⟨(some 7), .move (.tmp 12), none⟩] none
def f132r2 : ICode := .region [
  ⟨(some 8), .move (.const (.int .i64 (.ofNat 0))), none⟩] none
def f132r3 : ICode := .region [
  ⟨(some 13), .move (.tmp 8), none⟩,
  ⟨(some 14), .bin .lss (.tmp 13) (.const (.int .i64 (.ofNat 5))), none⟩] none
def f132r4 : ICode := .region [
  ⟨(some 17), .move (.tmp 7), none⟩,
  ⟨(some 18), .move (.tmp 2), none⟩,
  ⟨(some 19), .bin .lss (.tmp 17) (.tmp 18), none⟩,
  ⟨(some 20), .move (.tmp 19), none⟩,
  ⟨(some 21), .fieldAddr 0 (.tmp 3), (some ((some 20), true))⟩,
  ⟨(some 22), .load1 (.tmp 21), (some ((some 20), true))⟩,
  ⟨(some 23), .move (.tmp 7), (some ((some 20), true))⟩,
  ⟨(some 24), .move (.tmp 7), (some ((some 20), true))⟩,
  ⟨(some 25), .bin .sub (.tmp 24) (.const (.int .i64 (.ofNat 1))), (some ((some 20), true))⟩,
  ⟨(some 26), .callv (.tmp 22) [(.tmp 23), (.tmp 25)], (some ((some 20), true))⟩,
  ⟨(some 27), .un .not (.tmp 26), (some ((some 20), true))⟩,
  ⟨(some 28), .pick (.tmp 20) (.tmp 27) (.const (.bool false)), none⟩] none
def f132r5 : ICode := .region [
  ⟨(some 29), .move (.tmp 7), none⟩,
  ⟨(some 30), .bin .add (.tmp 29) (.const (.int .i64 (.ofNat 1))), none⟩,
  ⟨(some 7), .move (.tmp 30), none⟩] none
def f132r6 : ICode := .region [
  ⟨(some 31), .move (.tmp 7), none⟩,
  ⟨(some 32), .move (.tmp 2), none⟩,
  ⟨(some 33), .bin .eql (.tmp 31) (.tmp 32), none⟩] none
def f132r7 : ICode := .region [
  ⟨(some 6), .move (.const (.bool true)), none⟩] none
def f132r8 : ICode := .region [
  ⟨(some 34), .move (.tmp 2), none⟩,
  ⟨(some 35), .move (.tmp 1), none⟩,
  ⟨(some 36), .bin .sub (.tmp 34) (.tmp 35), none⟩,
  ⟨(some 37), .bin .lss (.tmp 36) (.const (.int .i64 (.ofNat 50))), none⟩] none
def f132r9 : ICode := .region [
  ⟨(some 6), .move (.const (.bool false)), none⟩] none
def f132r10 : ICode := .region [
  ⟨(some 38), .fieldAddr 1 (.tmp 3), none⟩,
  ⟨(some 39), .load1 (.tmp 38), none⟩,
  ⟨(some 40), .move (.tmp 7), none⟩,
  ⟨(some 41), .move (.tmp 7), none⟩,
  ⟨(some 42), .bin .sub (.tmp 41) (.const (.int .i64 (.ofNat 1))), none⟩,
  ⟨(some 43), .callv (.tmp 39) [(.tmp 40), (.tmp 42)], none⟩] none
def f132r11 : ICode := .region [
  ⟨(some 44), .move (.tmp 7), none⟩,
  ⟨(some 45), .move (.tmp 1), none⟩,
  ⟨(some 46), .bin .sub (.tmp 44) (.tmp 45), none⟩,
  ⟨(some 47), .bin .geq (.tmp 46) (.const (.int .i64 (.ofNat 2))), none⟩] none
def f132r12 : ICode := .region [
  ⟨(some 48), .move (.tmp 7), none⟩,
  ⟨(some 49), .bin .sub (.tmp 48) (.const (.int .i64 (.ofNat 1))), none⟩,
  ⟨(some 9), .move (.tmp 49), none⟩] none
def f132r13 : ICode := .region [
  ⟨(some 50), .move (.tmp 9), none⟩,
  ⟨(some 51), .bin .geq (.tmp 50) (.const (.int .i64 (.ofNat 1))), none⟩] none
def f132r14 : ICode := .region [
  ⟨(some 54), .fieldAddr 0 (.tmp 3), none⟩,
  ⟨(some 55), .load1 (.tmp 54), none⟩,
  ⟨(some 56), .move (.tmp 9), none⟩,
  ⟨(some 57), .move (.tmp 9), none⟩,
  ⟨(some 58), .bin .sub (.tmp 57) (.const (.int .i64 (.ofNat 1))), none⟩,
  ⟨(some 59), .callv (.tmp 55) [(.tmp 56), (.tmp 58)], none⟩,
  ⟨(some 60), .un .not (.tmp 59), none⟩] none
def f132r15 : ICode := .region [
  ⟨(some 61), .fieldAddr 1 (.tmp 3), none⟩,
  ⟨(some 62), .load1 (.tmp 61), none⟩,
  ⟨(some 63), .move (.tmp 9), none⟩,
  ⟨(some 64), .move (.tmp 9), none⟩,
  ⟨(some 65), .bin .sub (.tmp 64) (.const (.int .i64 (.ofNat 1))), none⟩,
  ⟨(some 66), .callv (.tmp 62) [(.tmp 63), (.tmp 65)], none⟩] none
def f132r16 : ICode := .region [
  ⟨(some 52), .move (.tmp 9), none⟩,
  ⟨(some 53), .bin .sub (.tmp 52) (.const (.int .i64 (.ofNat 1))), none⟩,
  ⟨(some 9), .move (.tmp 53), none⟩] none
def f132r17 : ICode := .region [
  ⟨(some 67), .move (.tmp 2), none⟩,
  ⟨(some 68), .move (.tmp 7), none⟩,
  ⟨(some 69), .bin .sub (.tmp 67) (.tmp 68), none⟩,
  ⟨(some 70), .bin .geq (.tmp 69) (.const (.int .i64 (.ofNat 2))), none⟩] none
def f132r18 : ICode := .region [
  ⟨(some 71), .move (.tmp 7), none⟩,
  ⟨(some 72), .bin .add (.tmp 71) (.const (.int .i64 (.ofNat 1))), none⟩,
  ⟨(some 10), .move (.tmp 72), none⟩] none
def f132r19 : ICode := .region [
  ⟨(some 73), .move (.tmp 10), none⟩,
  ⟨(some 74), .move (.tmp 2), none⟩,
  ⟨(some 75), .bin .lss (.tmp 73) (.tmp 74), none⟩] none
def f132r20 : ICode := .region [
  ⟨(some 78), .fieldAddr 0 (.tmp 3), none⟩,
  ⟨(some 79), .load1 (.tmp 78), none⟩,
  ⟨(some 80), .move (.tmp 10), none⟩,
  ⟨(some 81), .move (.tmp 10), none⟩,
  ⟨(some 82), .bin .sub (.tmp 81) (.const (.int .i64 (.ofNat 1))), none⟩,
  ⟨(some 83), .callv (.tmp 79) [(.tmp 80), (.tmp 82)], none⟩,
  ⟨(some 84), .un .not (.tmp 83), none⟩] none
def f132r21 : ICode := .region [
  ⟨(some 85), .fieldAddr 1 (.tmp 3), none⟩,
  ⟨(some 86), .load1 (.tmp 85), none⟩,
  ⟨(some 87), .move (.tmp 10), none⟩,
  ⟨(some 88), .move (.tmp 10), none⟩,
  ⟨(some 89), .bin .sub (.tmp 88) (.const (.int .i64 (.ofNat 1))), none⟩,
  ⟨(some 90), .callv (.tmp 86) [(.tmp 87), (.tmp 89)], none⟩] none
def f132r22 : ICode := .region [
  ⟨(some 76), .move (.tmp 10), none⟩,
  ⟨(some 77), .bin .add (.tmp 76) (.const (.int .i64 (.ofNat 1))), none⟩,
  ⟨(some 10), .move (.tmp 77), none⟩] none
def f132r23 : ICode := .region [
  ⟨(some 15), .move (.tmp 8), none⟩,
  ⟨(some 16), .bin .add (.tmp 15) (.const (.int .i64 (.ofNat 1))), none⟩,
  ⟨(some 8), .move (.tmp 16), none⟩] none
def f132r24 : ICode := .region [
  ⟨(some 6), .move (.const (.bool false)), none⟩] none
/- sort.partialInsertionSort_func -/
def f132 : IFn := ⟨91, [.inl 6], (.seq f132r0 (.seq f132r1 (.seq (.seq f132r2 (.block 0 (.loop (.seq (.seq f132r3 (.cond (.tmp 14) .skip (.exit 0))) (.seq (.block 1 (.seq (.block 2 (.loop (.seq (.seq f132r4 (.cond (.tmp 28) .skip (.exit 2))) (.block 3 f132r5)))) (.seq (.seq f132r6 (.cond (.tmp 33) (.seq f132r7 .ret) .skip)) (.seq (.seq f132r8 (.cond (.tmp 37) (.seq f132r9 .ret) .skip)) (.seq f132r10 (.seq (.seq f132r11 (.cond (.tmp 47) (.seq f132r12 (.block 4 (.loop (.seq (.seq f132r13 (.cond (.tmp 51) .skip (.exit 4))) (.seq (.block 5 (.seq (.seq f132r14 (.cond (.tmp 60) (.exit 4) .skip)) f132r15)) f132r16))))) .skip)) (.seq f132r17 (.cond (.tmp 70) (.seq f132r18 (.block 6 (.loop (.seq (.seq f132r19 (.cond (.tmp 75) .skip (.exit 6))) (.seq (.block 7 (.seq (.seq f132r20 (.cond (.tmp 84) (.exit 6) .skip)) f132r21)) f132r22))))) .skip)))))))) f132r23))))) (.seq f132r24 .ret))))⟩
def f133r0 : ICode := .region [
  ⟨(some 4), .box 184 (.tmp 0), none⟩,
  ⟨(some 8), .move (.const (.int .i64 (.ofNat 0))), none⟩] none
def f133r1 : ICode := .region [
  ⟨(some 11), .fieldAddr 1 (.tmp 4), none⟩,
  ⟨(some 12), .load1 (.tmp 11), none⟩,
  ⟨(some 13), .move (.tmp 1), none⟩,
  ⟨(some 14), .move (.tmp 3), none⟩,
  ⟨(some 15), .callv (.tmp 12) [(.tmp 13), (.tmp 14)], none⟩] none
def f133r2 : ICode := .region [
  ⟨(some 16), .move (.tmp 1), none⟩,
  ⟨(some 17), .bin .add (.tmp 16) (.const (.int .i64 (.ofNat 1))), none⟩,
  ⟨(some 18), .move (.tmp 2), none⟩,
  ⟨(some 19), .bin .sub (.tmp 18) (.const (.int .i64 (.ofNat 1))), none⟩,
  ⟨(some 9), .move (.tmp 17), none⟩,
  ⟨(some 10), .move (.tmp 19), none⟩] none
def f133r3 : ICode := .region [
  ⟨(some 20), .move (.tmp 9), none⟩,
  ⟨(some 21), .move (.tmp 10), none⟩,
  ⟨(some 22), .bin .leq (.tmp 20) (.tmp 21), none⟩,
  ⟨(some 23), .move (.tmp 22), none⟩,
  ⟨(some 24), .fieldAddr 0 (.tmp 4), (some ((some 23), true))⟩,
  ⟨(some 25), .load1 (.tmp 24), (some ((some 23), true))⟩,
  ⟨(some 26), .move (.tmp 1), (some ((some 23), true))⟩,
  ⟨(some 27), .move (.tmp 9), (some ((some 23), true))⟩,
  ⟨(some 28), .callv (.tmp 25) [(.tmp 26), (.tmp 27)], (some ((some 23), true))⟩,
  ⟨(some 29), .un .not (.tmp 28), (some ((some 23), true))⟩,
  ⟨(some 30), .pick (.tmp 23) (.tmp 29) (.const (.bool false)), none⟩] none
def f133r4 : ICode := .region [
  ⟨(some 31), .move (.tmp 9), none⟩,
  ⟨(some 32), .bin .add (.tmp 31) (.const (.int .i64 (.ofNat 1))), none⟩,
  ⟨(some 9), .move (.tmp 32), none⟩] none
def f133r5 : ICode := .region [
  ⟨(some 33), .move (.tmp 9), none⟩,
  ⟨(some 34), .move (.tmp 10), none⟩,
  ⟨(some 35), .bin .leq (.tmp 33) (.tmp 34), none⟩,
  ⟨(some 36), .move (.tmp 35), none⟩,
  ⟨(some 37), .fieldAddr 0 (.tmp 4), (some ((some 36), true))⟩,
  ⟨(some 38), .load1 (.tmp 37), (some ((some 36), true))⟩,
  ⟨(some 39), .move (.tmp 1), (some ((some 36), true))⟩,
  ⟨(some 40), .move (.tmp 10), (some ((some 36), true))⟩,
  ⟨(some 41), .callv (.tmp 38) [(.tmp 39), (.tmp 40)], (some ((some 36), true))⟩,
  ⟨(some 42), .pick (.tmp 36) (.tmp 41) (.const (.bool false)), none⟩] none
def f133r6 : ICode := .region [
  ⟨(some 43), .move (.tmp 10), none⟩,
  ⟨(some 44), .bin .sub (.tmp 43) (.const (.int .i64 (.ofNat 1))), none⟩,
  ⟨(some 10), .move (.tmp 44), none⟩] none
def f133r7 : ICode := .region [
  ⟨(some 45), .move (.tmp 9), none⟩,
  ⟨(some 46), .move (.tmp 10), none⟩,
  ⟨(some 47), .bin .gtr (.tmp 45) (.tmp 46), none⟩] none
def f133r8 : ICode := .region [
  ⟨(some 48), .fieldAddr 1 (.tmp 4), none⟩,
  ⟨(some 49), .load1 (.tmp 48), none⟩,
  ⟨(some 50), .move (.tmp 9), none⟩,
  ⟨(some 51), .move (.tmp 10), none⟩,
  ⟨(some 52), .callv (.tmp 49) [(.tmp 50), (.tmp 51)], none⟩] none
def f133r9 : ICode := .region [
  ⟨(some 53), .move (.tmp 9), none⟩,
  ⟨(some 54), .bin .add (.tmp 53) (.const (.int .i64 (.ofNat 1))), none⟩,
  ⟨(some 9), .move (.tmp 54), none⟩] none
def f133r10 : ICode := .region [
  ⟨(some 55), .move (.tmp 10), none⟩,
  ⟨(some 56), .bin .sub (.tmp 55) (.const (.int .i64 (.ofNat 1))), none⟩,
  ⟨(some 10), .move (.tmp 56), none⟩] none
def f133r11 : ICode := .region [
  ⟨(some 57), .move (.tmp 9), none⟩,
  ⟨(some 8), .move (.tmp 57), none⟩] none
/- sort.partitionEqual_func -/
def f133 : IFn := ⟨58, [.inl 8], (.seq f133r0 (.seq f133r1 (.seq f133r2 (.seq (.block 0 (.loop (.block 1 (.seq (.block 2 (.loop (.seq (.seq f133r3 (.cond (.tmp 30) .skip (.exit 2))) (.block 3 f133r4)))) (.seq (.block 4 (.loop (.seq (.seq f133r5 (.cond (.tmp 42) .skip (.exit 4))) (.block 5 f133r6)))) (.seq (.seq f133r7 (.cond (.tmp 47) (.exit 0) .skip)) (.seq f133r8 (.seq f133r9 f133r10)))))))) (.seq f133r11 .ret)))))⟩
def f134r0 : ICode := .region [
  ⟨(some 4), .box 184 (.tmp 0), none⟩,
  ⟨(some 8), .move (.const (.int .i64 (.ofNat 0))), none⟩,
  ⟨(some 9), .move (.const (.bool false)), none⟩] none
def f134r1 : ICode := .region [
  ⟨(some 12), .fieldAddr 1 (.tmp 4), none⟩,
  ⟨(some 13), .load1 (.tmp 12), none⟩,
  ⟨(some 14), .move (.tmp 1), none⟩,
  ⟨(some 15), .move (.tmp 3), none⟩,
  ⟨(some 16), .callv (.tmp 13) [(.tmp 14), (.tmp 15)], none⟩] none
def f134r2 : ICode := .region [
  ⟨(some 17), .move (.tmp 1), none⟩,
  ⟨(some 18), .bin .add (.tmp 17) (.const (.int .i64 (.ofNat 1))), none⟩,
  ⟨(some 19), .move (.tmp 2), none⟩,
  ⟨(some 20), .bin .sub (.tmp 19) (.const (.int .i64 (.ofNat 1))), none⟩,
  ⟨(some 10), .move (.tmp 18), none⟩,
  ⟨(some 11), .move (.tmp 20), none⟩] none
def f134r3 : ICode := .region [
  ⟨(some 21), .move (.tmp 10), none⟩,
  ⟨(some 22), .move (.tmp 11), none⟩,
  ⟨(some 23), .bin .leq (.tmp 21) (.tmp 22), none⟩,
  ⟨(some 24), .move (.tmp 23), none⟩,
  ⟨(some 25), .fieldAddr 0 (.tmp 4), (some ((some 24), true))⟩,
  ⟨(some 26), .load1 (.tmp 25), (some ((some 24), true))⟩,
  ⟨(some 27), .move (.tmp 10), (some ((some 24), true))⟩,
  ⟨(some 28), .move (.tmp 1), (some ((some 24), true))⟩,
  ⟨(some 29), .callv (.tmp 26) [(.tmp 27), (.tmp 28)], (some ((some 24), true))⟩,
  ⟨(some 30), .pick (.tmp 24) (.tmp 29) (.const (.bool false)), none⟩] none
def f134r4 : ICode := .region [
  ⟨(some 31), .move (.tmp 10), none⟩,
  ⟨(some 32), .bin .add (.tmp 31) (.const (.int .i64 (.ofNat 1))), none⟩,
  ⟨(some 10), .move (.tmp 32), none⟩] none
def f134r5 : ICode := .region [
  ⟨(some 33), .move (.tmp 10), none⟩,
  ⟨(some 34), .move (.tmp 11), none⟩,
  ⟨(some 35), .bin .leq (.tmp 33) (.tmp 34), none⟩,
  ⟨(some 36), .move (.tmp 35), none⟩,
  ⟨(some 37), .fieldAddr 0 (.tmp 4), (some ((some 36), true))⟩,
  ⟨(some 38), .load1 (.tmp 37), (some ((some 36), true))⟩,
  ⟨(some 39), .move (.tmp 11), (some ((some 36), true))⟩,
  ⟨(some 40), .move (.tmp 1), (some ((some 36), true))⟩,
  ⟨(some 41), .callv (.tmp 38) [(.tmp 39), (.tmp 40)], (some ((some 36), true))⟩,
  ⟨(some 42), .un .not (.tmp 41), (some ((some 36), true))⟩,
  ⟨(some 43), .pick (.tmp 36) (.tmp 42) (.const (.bool false)), none⟩] none
def f134r6 : ICode := .region [
  ⟨(some 44), .move (.tmp 11), none⟩,
  ⟨(some 45), .bin .sub (.tmp 44) (.const (.int .i64 (.ofNat 1))), none⟩,
  ⟨(some 11), .move (.tmp 45), none⟩] none
def f134r7 : ICode := .region [
  ⟨(some 46), .move (.tmp 10), none⟩,
  ⟨(some 47), .move (.tmp 11), none⟩,
  ⟨(some 48), .bin .gtr (.tmp 46) (.tmp 47), none⟩] none
def f134r8 : ICode := .region [
  ⟨(some 49), .fieldAddr 1 (.tmp 4), none⟩,
  ⟨(some 50), .load1 (.tmp 49), none⟩,
  ⟨(some 51), .move (.tmp 11), none⟩,
  ⟨(some 52), .move (.tmp 1), none⟩,
  ⟨(some 53), .callv (.tmp 50) [(.tmp 51), (.tmp 52)], none⟩] none
def f134r9 : ICode := .region [
  ⟨(some 54), .move (.tmp 11), none⟩,
  ⟨(some 8), .move (.tmp 54), none⟩,
  ⟨(some 9), .move (.const (.bool true)), none⟩] none
def f134r10 : ICode := .region [
  ⟨(some 55), .fieldAddr 1 (.tmp 4), none⟩,
  ⟨(some 56), .load1 (.tmp 55), none⟩,
  ⟨(some 57), .move (.tmp 10), none⟩,
  ⟨(some 58), .move (.tmp 11), none⟩,
  ⟨(some 59), .callv (.tmp 56) [(.tmp 57), (.tmp 58)], none⟩] none
def f134r11 : ICode := .region [
  ⟨(some 60), .move (.tmp 10), none⟩,
  ⟨(some 61), .bin .add (.tmp 60) (.const (.int .i64 (.ofNat 1))), none⟩,
  ⟨(some 10), .move (.tmp 61), none⟩] none
def f134r12 : ICode := .region [
  ⟨(some 62), .move (.tmp 11), none⟩,
  ⟨(some 63), .bin .sub (.tmp 62) (.const (.int .i64 (.ofNat 1))), none⟩,
  ⟨(some 11), .move (.tmp 63), none⟩] none
def f134r13 : ICode := .region [
  ⟨(some 64), .move (.tmp 10), none⟩,
  ⟨(some 65), .move (.tmp 11), none⟩,
  ⟨(some 66), .bin .leq (.tmp 64) (.tmp 65), none⟩,
  ⟨(some 67), .move (.tmp 66), none⟩,
  ⟨(some 68), .fieldAddr 0 (.tmp 4), (some ((some 67), true))⟩,
  ⟨(some 69), .load1 (.tmp 68), (some ((some 67), true))⟩,
  ⟨(some 70), .move (.tmp 10), (some ((some 67), true))⟩,
  ⟨(some 71), .move (.tmp 1), (some ((some 67), true))⟩,
  ⟨(some 72), .callv (.tmp 69) [(.tmp 70), (.tmp 71)], (some ((some 67), true))⟩,
  ⟨(some 73), .pick (.tmp 67) (.tmp 72) (.const (.bool false)), none⟩] none
def f134r14 : ICode := .region [
  ⟨(some 74), .move (.tmp 10), none⟩,
  ⟨(some 75), .bin .add (.tmp 74) (.const (.int .i64 (.ofNat 1))), none⟩,
  ⟨(some 10), .move (.tmp 75), none⟩] none
def f134r15 : ICode := .region [
  ⟨(some 76), .move (.tmp 10), none⟩,
  ⟨(some 77), .move (.tmp 11), none⟩,
  ⟨(some 78), .bin .leq (.tmp 76) (.tmp 77), none⟩,
  ⟨(some 79), .move (.tmp 78), none⟩,
  ⟨(some 80), .fieldAddr 0 (.tmp 4), (some ((some 79), true))⟩,
  ⟨(some 81), .load1 (.tmp 80), (some ((some 79), true))⟩,
  ⟨(some 82), .move (.tmp 11), (some ((some 79), true))⟩,
  ⟨(some 83), .move (.tmp 1), (some ((some 79), true))⟩,
  ⟨(some 84), .callv (.tmp 81) [(.tmp 82), (.tmp 83)], (some ((some 79), true))⟩,
  ⟨(some 85), .un .not (.tmp 84), (some ((some 79), true))⟩,
  ⟨(some 86), .pick (.tmp 79) (.tmp 85) (.const (.bool false)), none⟩] none
def f134r16 : ICode := .region [
  ⟨(some 87), .move (.tmp 11), none⟩,
  ⟨(some 88), .bin .sub (.tmp 87) (.const (.int .i64 (.ofNat 1))), none⟩,
  ⟨(some 11), .move (.tmp 88), none⟩] none
def f134r17 : ICode := .region [
  ⟨(some 89), .move (.tmp 10), none⟩,
  ⟨(some 90), .move (.tmp 11), none⟩,
  ⟨(some 91), .bin .gtr (.tmp 89) (.tmp 90), none⟩] none
def f134r18 : ICode := .region [
  ⟨(some 92), .fieldAddr 1 (.tmp 4), none⟩,
  ⟨(some 93), .load1 (.tmp 92), none⟩,
  ⟨(some 94), .move (.tmp 10), none⟩,
  ⟨(some 95), .move (.tmp 11), none⟩,
  ⟨(some 96), .callv (.tmp 93) [(.tmp 94), (.tmp 95)], none⟩] none
def f134r19 : ICode := .region [
  ⟨(some 97), .move (.tmp 10), none⟩,
  ⟨(some 98), .bin .add (.tmp 97) (.const (.int .i64 (.ofNat 1))), none⟩,
  ⟨(some 10), .move (.tmp 98), none⟩] none
def f134r20 : ICode := .region [
  ⟨(some 99), .move (.tmp 11), none⟩,
  ⟨(some 100), .bin .sub (.tmp 99) (.const (.int .i64 (.ofNat 1))), none⟩,
  ⟨(some 11), .move (.tmp 100), none⟩] none
def f134r21 : ICode := .region [
  ⟨(some 101), .fieldAddr 1 (.tmp 4), none⟩,
  ⟨(some 102), .load1 (.tmp 101), none⟩,
  ⟨(some 103), .move (.tmp 11), none⟩,
  ⟨(some 104), .move (.tmp 1), none⟩,
  ⟨(some 105), .callv (.tmp 102) [(.tmp 103), (.tmp 104)], none⟩] none
def f134r22 : ICode := .region [
  ⟨(some 106), .move (.tmp 11), none⟩,
  ⟨(some 8), .move (.tmp 106), none⟩,
  ⟨(some 9), .move (.const (.bool false)), none⟩] none
/- sort.partition_func -/
def f134 : IFn := ⟨107, [.inl 8, .inl 9], (.seq f134r0 (.seq f134r1 (.seq f134r2 (.seq (.block 0 (.loop (.seq (.seq f134r3 (.cond (.tmp 30) .skip (.exit 0))) (.block 1 f134r4)))) (.seq (.block 2 (.loop (.seq (.seq f134r5 (.cond (.tmp 43) .skip (.exit 2))) (.block 3 f134r6)))) (.seq (.seq f134r7 (.cond (.tmp 48) (.seq f134r8 (.seq f134r9 .ret)) .skip)) (.seq f134r10 (.seq f134r11 (.seq f134r12 (.seq (.block 4 (.loop (.block 5 (.seq (.block 6 (.loop (.seq (.seq f134r13 (.cond (.tmp 73) .skip (.exit 6))) (.block 7 f134r14)))) (.seq (.block 8 (.loop (.seq (.seq f134r15 (.cond (.tmp 86) .skip (.exit 8))) (.block 9 f134r16)))) (.seq (.seq f134r17 (.cond (.tmp 91) (.exit 4) .skip)) (.seq f134r18 (.seq f134r19 f134r20)))))))) (.seq f134r21 (.seq f134r22 .ret))))))))))))⟩
def f135r0 : ICode := .region [
  ⟨(some 4), .move (.const (.int .i64 (.ofNat 0))), none⟩] none
def f135r1 : ICode := .region [
  ⟨(some 6), .move (.tmp 0), none⟩,
  ⟨(some 7), .len 1 (.tmp 6), none⟩,
  ⟨(some 8), .move (.const (.int .i64 (.ofNat 0))), none⟩] none
def f135r2 : ICode := .region [
  ⟨(some 9), .bin .lss (.tmp 8) (.tmp 7), none⟩] none
def f135r3 : ICode := .region [
  ⟨(some 10), .move (.tmp 8), none⟩,
  ⟨(some 5), .move (.tmp 10), none⟩] none
def f135r4 : ICode := .region [
  ⟨(some 11), .move (.tmp 1), none⟩,
  ⟨(some 12), .move (.tmp 0), none⟩,
  ⟨(some 13), .move (.tmp 5), none⟩,
  ⟨(some 14), .indexSl 1 (.tmp 12) (.tmp 13), none⟩,
  ⟨(some 15), .load1 (.tmp 14), none⟩,
  ⟨(some 16), .bin .eql (.tmp 11) (.tmp 15), none⟩] none
def f135r5 : ICode := .region [
  ⟨(some 17), .move (.tmp 5), none⟩,
  ⟨(some 4), .move (.tmp 17), none⟩] none
def f135r6 : ICode := .region [
  ⟨(some 18), .bin .add (.tmp 8) (.const (.int .i64 (.ofNat 1))), none⟩,
  ⟨(some 8), .move (.tmp 18), none⟩] none
def f135r7 : ICode := .region [
  ⟨(some 4), .move (.const (.int .i64 (.negSucc 0))), none⟩] none
/- slices.Index[[]string,string] -/
def f135 : IFn := ⟨19, [.inl 4], (.seq f135r0 (.seq (.seq f135r1 (.block 0 (.loop (.seq f135r2 (.seq (.cond (.tmp 9) .skip (.exit 0)) (.seq (.block 1 (.seq f135r3 (.seq f135r4 (.cond (.tmp 16) (.seq f135r5 .ret) .skip)))) f135r6)))))) (.seq f135r7 .ret)))⟩
def f136r0 : ICode := .region [
  ⟨(some 4), .move (.const (.int .i64 (.ofNat 0))), none⟩] none
def f136r1 : ICode := .region [
  ⟨(some 6), .move (.tmp 0), none⟩,
  ⟨(some 7), .len 1 (.tmp 6), none⟩,
  ⟨(some 8), .move (.const (.int .i64 (.ofNat 0))), none⟩] none
def f136r2 : ICode := .region [
  ⟨(some 9), .bin .lss (.tmp 8) (.tmp 7), none⟩] none
def f136r3 : ICode := .region [
  ⟨(some 10), .move (.tmp 8), none⟩,
  ⟨(some 5), .move (.tmp 10), none⟩] none
def f136r4 : ICode := .region [
  ⟨(some 11), .move (.tmp 1), none⟩,
  ⟨(some 12), .move (.tmp 0), none⟩,
  ⟨(some 13), .move (.tmp 5), none⟩,
  ⟨(some 14), .indexSl 1 (.tmp 12) (.tmp 13), none⟩,
  ⟨(some 15), .load1 (.tmp 14), none⟩,
  ⟨(some 16), .bin .eql (.tmp 11) (.tmp 15), none⟩] none
def f136r5 : ICode := .region [
  ⟨(some 17), .move (.tmp 5), none⟩,
  ⟨(some 4), .move (.tmp 17), none⟩] none
def f136r6 : ICode := .region [
  ⟨(some 18), .bin .add (.tmp 8) (.const (.int .i64 (.ofNat 1))), none⟩,
  ⟨(some 8), .move (.tmp 18), none⟩] none
def f136r7 : ICode := .region [
  ⟨(some 4), .move (.const (.int .i64 (.negSucc 0))), none⟩] none
/- slices.Index[[]int,int] -/
def f136 : IFn := ⟨19, [.inl 4], (.seq f136r0 (.seq (.seq f136r1 (.block 0 (.loop (.seq f136r2 (.seq (.cond (.tmp 9) .skip (.exit 0)) (.seq (.block 1 (.seq f136r3 (.seq f136r4 (.cond (.tmp 16) (.seq f136r5 .ret) .skip)))) f136r6)))))) (.seq f136r7 .ret)))⟩
def f137r0 : ICode := .region [
  ⟨(some 0), .move (.const (.slice none 0 0)), none⟩] none
def f137r1 : ICode := .region [
  ⟨(some 1), .build [(.int .i64 (.ofNat 0)), (.int .i64 (.ofNat 0))] [(0, 1, (.const (.int .i64 (.ofNat 65)))), (1, 1, (.const (.int .i64 (.ofNat 90))))], none⟩,
  ⟨(some 2), .build [(.int .i64 (.ofNat 0)), (.int .i64 (.ofNat 0))] [(0, 1, (.const (.int .i64 (.ofNat 192)))), (1, 1, (.const (.int .i64 (.ofNat 214))))], none⟩,
  ⟨(some 3), .build [(.int .i64 (.ofNat 0)), (.int .i64 (.ofNat 0))] [(0, 1, (.const (.int .i64 (.ofNat 216)))), (1, 1, (.const (.int .i64 (.ofNat 222))))], none⟩,
  ⟨(some 4), .build [(.int .i64 (.ofNat 0)), (.int .i64 (.ofNat 0))] [(0, 1, (.const (.int .i64 (.ofNat 913)))), (1, 1, (.const (.int .i64 (.ofNat 929))))], none⟩,
  ⟨(some 5), .build [(.int .i64 (.ofNat 0)), (.int .i64 (.ofNat 0))] [(0, 1, (.const (.int .i64 (.ofNat 931)))), (1, 1, (.const (.int .i64 (.ofNat 937))))], none⟩,
  ⟨(some 6), .build [(.int .i64 (.ofNat 0)), (.int .i64 (.ofNat 0))] [(0, 1, (.const (.int .i64 (.ofNat 1040)))), (1, 1, (.const (.int .i64 (.ofNat 1071))))], none⟩,
  ⟨(some 7), .build [(.int .i64 (.ofNat 0)), (.int .i64 (.ofNat 0))] [(0, 1, (.const (.int .i64 (.ofNat 66560)))), (1, 1, (.const (.int .i64 (.ofNat 66599))))], none⟩,
  ⟨(some 8), .buildSlice 217 7 [(.int .i64 (.ofNat 0)), (.int .i64 (.ofNat 0)), (.int .i64 (.ofNat 0)), (.int .i64 (.ofNat 0)), (.int .i64 (.ofNat 0)), (.int .i64 (.ofNat 0)), (.int .i64 (.ofNat 0)), (.int .i64 (.ofNat 0)), (.int .i64 (.ofNat 0)), (.int .i64 (.ofNat 0)), (.int .i64 (.ofNat 0)), (.int .i64 (.ofNat 0)), (.int .i64 (.ofNat 0)), (.int .i64 (.ofNat 0))] [(0, 2, (.tmp 1)), (2, 2, (.tmp 2)), (4, 2, (.tmp 3)), (6, 2, (.tmp 4)), (8, 2, (.tmp 5)), (10, 2, (.tmp 6)), (12, 2, (.tmp 7))], none⟩,
  ⟨(some 9), .build [(.string ⟨⟨[]⟩⟩), (.slice none 0 0)] [(0, 1, (.const (.string ⟨⟨[76, 117]⟩⟩))), (1, 1, (.tmp 8))], none⟩,
  ⟨(some 10), .build [(.int .i64 (.ofNat 0)), (.int .i64 (.ofNat 0))] [(0, 1, (.const (.int .i64 (.ofNat 97)))), (1, 1, (.const (.int .i64 (.ofNat 122))))], none⟩,
  ⟨(some 11), .build [(.int .i64 (.ofNat 0)), (.int .i64 (.ofNat 0))] [(0, 1, (.const (.int .i64 (.ofNat 181)))), (1, 1, (.const (.int .i64 (.ofNat 181))))], none⟩,
  ⟨(some 12), .build [(.int .i64 (.ofNat 0)), (.int .i64 (.ofNat 0))] [(0, 1, (.const (.int .i64 (.ofNat 223)))), (1, 1, (.const (.int .i64 (.ofNat 246))))], none⟩,
  ⟨(some 13), .build [(.int .i64 (.ofNat 0)), (.int .i64 (.ofNat 0))] [(0, 1, (.const (.int .i64 (.ofNat 248)))), (1, 1, (.const (.int .i64 (.ofNat 255))))], none⟩,
  ⟨(some 14), .build [(.int .i64 (.ofNat 0)), (.int .i64 (.ofNat 0))] [(0, 1, (.const (.int .i64 (.ofNat 383)))), (1, 1, (.const (.int .i64 (.ofNat 383))))], none⟩,
  ⟨(some 15), .build [(.int .i64 (.ofNat 0)), (.int .i64 (.ofNat 0))] [(0, 1, (.const (.int .i64 (.ofNat 945)))), (1, 1, (.const (.int .i64 (.ofNat 969))))], none⟩,
  ⟨(some 16), .build [(.int .i64 (.ofNat 0)), (.int .i64 (.ofNat 0))] [(0, 1, (.const (.int .i64 (.ofNat 1072)))), (1, 1, (.const (.int .i64 (.ofNat 1103))))], none⟩,
  ⟨(some 17), .build [(.int .i64 (.ofNat 0)), (.int .i64 (.ofNat 0))] [(0, 1, (.const (.int .i64 (.ofNat 66600)))), (1, 1, (.const (.int .i64 (.ofNat 66639))))], none⟩,
  ⟨(some 18), .buildSlice 217 8 [(.int .i64 (.ofNat 0)), (.int .i64 (.ofNat 0)), (.int .i64 (.ofNat 0)), (.int .i64 (.ofNat 0)), (.int .i64 (.ofNat 0)), (.int .i64 (.ofNat 0)), (.int .i64 (.ofNat 0)), (.int .i64 (.ofNat 0)), (.int .i64 (.ofNat 0)), (.int .i64 (.ofNat 0)), (.int .i64 (.ofNat 0)), (.int .i64 (.ofNat 0)), (.int .i64 (.ofNat 0)), (.int .i64 (.ofNat 0)), (.int .i64 (.ofNat 0)), (.int .i64 (.ofNat 0))] [(0, 2, (.tmp 10)), (2, 2, (.tmp 11)), (4, 2, (.tmp 12)), (6, 2, (.tmp 13)), (8, 2, (.tmp 14)), (10, 2, (.tmp 15)), (12, 2, (.tmp 16)), (14, 2, (.tmp 17))], none⟩,
  ⟨(some 19), .build [(.string ⟨⟨[]⟩⟩), (.slice none 0 0)] [(0, 1, (.const (.string ⟨⟨[76, 108]⟩⟩))), (1, 1, (.tmp 18))], none⟩,
  ⟨(some 20), .build [(.int .i64 (.ofNat 0)), (.int .i64 (.ofNat 0))] [(0, 1, (.const (.int .i64 (.ofNat 170)))), (1, 1, (.const (.int .i64 (.ofNat 170))))], none⟩,
  ⟨(some 21), .build [(.int .i64 (.ofNat 0)), (.int .i64 (.ofNat 0))] [(0, 1, (.const (.int .i64 (.ofNat 186)))), (1, 1, (.const (.int .i64 (.ofNat 186))))], none⟩,
  ⟨(some 22), .build [(.int .i64 (.ofNat 0)), (.int .i64 (.ofNat 0))] [(0, 1, (.const (.int .i64 (.ofNat 1488)))), (1, 1, (.const (.int .i64 (.ofNat 1514))))], none⟩,
  ⟨(some 23), .build [(.int .i64 (.ofNat 0)), (.int .i64 (.ofNat 0))] [(0, 1, (.const (.int .i64 (.ofNat 12353)))), (1, 1, (.const (.int .i64 (.ofNat 12438))))], none⟩,
  ⟨(some 24), .build [(.int .i64 (.ofNat 0)), (.int .i64 (.ofNat 0))] [(0, 1, (.const (.int .i64 (.ofNat 12449)))), (1, 1, (.const (.int .i64 (.ofNat 12538))))], none⟩,
  ⟨(some 25), .build [(.int .i64 (.ofNat 0)), (.int .i64 (.ofNat 0))] [(0, 1, (.const (.int .i64 (.ofNat 19968)))), (1, 1, (.const (.int .i64 (.ofNat 40959))))], none⟩,
  ⟨(some 26), .buildSlice 217 6 [(.int .i64 (.ofNat 0)), (.int .i64 (.ofNat 0)), (.int .i64 (.ofNat 0)), (.int .i64 (.ofNat 0)), (.int .i64 (.ofNat 0)), (.int .i64 (.ofNat 0)), (.int .i64 (.ofNat 0)), (.int .i64 (.ofNat 0)), (.int .i64 (.ofNat 0)), (.int .i64 (.ofNat 0)), (.int .i64 (.ofNat 0)), (.int .i64 (.ofNat 0))] [(0, 2, (.tmp 20)), (2, 2, (.tmp 21)), (4, 2, (.tmp 22)), (6, 2, (.tmp 23)), (8, 2, (.tmp 24)), (10, 2, (.tmp 25))], none⟩,
  ⟨(some 27), .build [(.string ⟨⟨[]⟩⟩), (.slice none 0 0)] [(0, 1, (.const (.string ⟨⟨[76, 111]⟩⟩))), (1, 1, (.tmp 26))], none⟩,
  ⟨(some 28), .build [(.int .i64 (.ofNat 0)), (.int .i64 (.ofNat 0))] [(0, 1, (.const (.int .i64 (.ofNat 48)))), (1, 1, (.const (.int .i64 (.ofNat 57))))], none⟩,
  ⟨(some 29), .build [(.int .i64 (.ofNat 0)), (.int .i64 (.ofNat 0))] [(0, 1, (.const (.int .i64 (.ofNat 1632)))), (1, 1, (.const (.int .i64 (.ofNat 1641))))], none⟩,
  ⟨(some 30), .build [(.int .i64 (.ofNat 0)), (.int .i64 (.ofNat 0))] [(0, 1, (.const (.int .i64 (.ofNat 2406)))), (1, 1, (.const (.int .i64 (.ofNat 2415))))], none⟩,
  ⟨(some 31), .build [(.int .i64 (.ofNat 0)), (.int .i64 (.ofNat 0))] [(0, 1, (.const (.int .i64 (.ofNat 65296)))), (1, 1, (.const (.int .i64 (.ofNat 65305))))], none⟩,
  ⟨(some 32), .buildSlice 217 4 [(.int .i64 (.ofNat 0)), (.int .i64 (.ofNat 0)), (.int .i64 (.ofNat 0)), (.int .i64 (.ofNat 0)), (.int .i64 (.ofNat 0)), (.int .i64 (.ofNat 0)), (.int .i64 (.ofNat 0)), (.int .i64 (.ofNat 0))] [(0, 2, (.tmp 28)), (2, 2, (.tmp 29)), (4, 2, (.tmp 30)), (6, 2, (.tmp 31))], none⟩,
  ⟨(some 33), .build [(.string ⟨⟨[]⟩⟩), (.slice none 0 0)] [(0, 1, (.const (.string ⟨⟨[78, 100]⟩⟩))), (1, 1, (.tmp 32))], none⟩,
  ⟨(some 34), .build [(.int .i64 (.ofNat 0)), (.int .i64 (.ofNat 0))] [(0, 1, (.const (.int .i64 (.ofNat 95)))), (1, 1, (.const (.int .i64 (.ofNat 95))))], none⟩,
  ⟨(some 35), .build [(.int .i64 (.ofNat 0)), (.int .i64 (.ofNat 0))] [(0, 1, (.const (.int .i64 (.ofNat 8255)))), (1, 1, (.const (.int .i64 (.ofNat 8256))))], none⟩,
  ⟨(some 36), .buildSlice 217 2 [(.int .i64 (.ofNat 0)), (.int .i64 (.ofNat 0)), (.int .i64 (.ofNat 0)), (.int .i64 (.ofNat 0))] [(0, 2, (.tmp 34)), (2, 2, (.tmp 35))], none⟩,
  ⟨(some 37), .build [(.string ⟨⟨[]⟩⟩), (.slice none 0 0)] [(0, 1, (.const (.string ⟨⟨[80, 99]⟩⟩))), (1, 1, (.tmp 36))], none⟩,
  ⟨(some 38), .build [(.int .i64 (.ofNat 0)), (.int .i64 (.ofNat 0))] [(0, 1, (.const (.int .i64 (.ofNat 32)))), (1, 1, (.const (.int .i64 (.ofNat 32))))], none⟩,
  ⟨(some 39), .build [(.int .i64 (.ofNat 0)), (.int .i64 (.ofNat 0))] [(0, 1, (.const (.int .i64 (.ofNat 160)))), (1, 1, (.const (.int .i64 (.ofNat 160))))], none⟩,
  ⟨(some 40), .build [(.int .i64 (.ofNat 0)), (.int .i64 (.ofNat 0))] [(0, 1, (.const (.int .i64 (.ofNat 8192)))), (1, 1, (.const (.int .i64 (.ofNat 8202))))], none⟩,
  ⟨(some 41), .build [(.int .i64 (.ofNat 0)), (.int .i64 (.ofNat 0))] [(0, 1, (.const (.int .i64 (.ofNat 12288)))), (1, 1, (.const (.int .i64 (.ofNat 12288))))], none⟩,
  ⟨(some 42), .buildSlice 217 4 [(.int .i64 (.ofNat 0)), (.int .i64 (.ofNat 0)), (.int .i64 (.ofNat 0)), (.int .i64 (.ofNat 0)), (.int .i64 (.ofNat 0)), (.int .i64 (.ofNat 0)), (.int .i64 (.ofNat 0)), (.int .i64 (.ofNat 0))] [(0, 2, (.tmp 38)), (2, 2, (.tmp 39)), (4, 2, (.tmp 40)), (6, 2, (.tmp 41))], none⟩,
  ⟨(some 43), .build [(.string ⟨⟨[]⟩⟩), (.slice none 0 0)] [(0, 1, (.const (.string ⟨⟨[90, 115]⟩⟩))), (1, 1, (.tmp 42))], none⟩,
  ⟨(some 44), .build [(.int .i64 (.ofNat 0)), (.int .i64 (.ofNat 0))] [(0, 1, (.const (.int .i64 (.ofNat 33)))), (1, 1, (.const (.int .i64 (.ofNat 35))))], none⟩,
  ⟨(some 45), .build [(.int .i64 (.ofNat 0)), (.int .i64 (.ofNat 0))] [(0, 1, (.const (.int .i64 (.ofNat 37)))), (1, 1, (.const (.int .i64 (.ofNat 42))))], none⟩,
  ⟨(some 46), .build [(.int .i64 (.ofNat 0)), (.int .i64 (.ofNat 0))] [(0, 1, (.const (.int .i64 (.ofNat 44)))), (1, 1, (.const (.int .i64 (.ofNat 47))))], none⟩,
  ⟨(some 47), .build [(.int .i64 (.ofNat 0)), (.int .i64 (.ofNat 0))] [(0, 1, (.const (.int .i64 (.ofNat 58)))), (1, 1, (.const (.int .i64 (.ofNat 59))))], none⟩,
  ⟨(some 48), .build [(.int .i64 (.ofNat 0)), (.int .i64 (.ofNat 0))] [(0, 1, (.const (.int .i64 (.ofNat 63)))), (1, 1, (.const (.int .i64 (.ofNat 64))))], none⟩,
  ⟨(some 49), .build [(.int .i64 (.ofNat 0)), (.int .i64 (.ofNat 0))] [(0, 1, (.const (.int .i64 (.ofNat 91)))), (1, 1, (.const (.int .i64 (.ofNat 93))))], none⟩,
  ⟨(some 50), .build [(.int .i64 (.ofNat 0)), (.int .i64 (.ofNat 0))] [(0, 1, (.const (.int .i64 (.ofNat 95)))), (1, 1, (.const (.int .i64 (.ofNat 95))))], none⟩,
  ⟨(some 51), .build [(.int .i64 (.ofNat 0)), (.int .i64 (.ofNat 0))] [(0, 1, (.const (.int .i64 (.ofNat 123)))), (1, 1, (.const (.int .i64 (.ofNat 123))))], none⟩,
  ⟨(some 52), .build [(.int .i64 (.ofNat 0)), (.int .i64 (.ofNat 0))] [(0, 1, (.const (.int .i64 (.ofNat 125)))), (1, 1, (.const (.int .i64 (.ofNat 125))))], none⟩,
  ⟨(some 53), .build [(.int .i64 (.ofNat 0)), (.int .i64 (.ofNat 0))] [(0, 1, (.const (.int .i64 (.ofNat 161)))), (1, 1, (.const (.int .i64 (.ofNat 161))))], none⟩,
  ⟨(some 54), .build [(.int .i64 (.ofNat 0)), (.int .i64 (.ofNat 0))] [(0, 1, (.const (.int .i64 (.ofNat 167)))), (1, 1, (.const (.int .i64 (.ofNat 167))))], none⟩,
  ⟨(some 55), .build [(.int .i64 (.ofNat 0)), (.int .i64 (.ofNat 0))] [(0, 1, (.const (.int .i64 (.ofNat 171)))), (1, 1, (.const (.int .i64 (.ofNat 171))))], none⟩,
  ⟨(some 56), .build [(.int .i64 (.ofNat 0)), (.int .i64 (.ofNat 0))] [(0, 1, (.const (.int .i64 (.ofNat 182)))), (1, 1, (.const (.int .i64 (.ofNat 183))))], none⟩,
  ⟨(some 57), .build [(.int .i64 (.ofNat 0)), (.int .i64 (.ofNat 0))] [(0, 1, (.const (.int .i64 (.ofNat 187)))), (1, 1, (.const (.int .i64 (.ofNat 187))))], none⟩,
  ⟨(some 58), .build [(.int .i64 (.ofNat 0)), (.int .i64 (.ofNat 0))] [(0, 1, (.const (.int .i64 (.ofNat 191)))), (1, 1, (.const (.int .i64 (.ofNat 191))))], none⟩,
  ⟨(some 59), .build [(.int .i64 (.ofNat 0)), (.int .i64 (.ofNat 0))] [(0, 1, (.const (.int .i64 (.ofNat 8208)))), (1, 1, (.const (.int .i64 (.ofNat 8231))))], none⟩,
  ⟨(some 60), .build [(.int .i64 (.ofNat 0)), (.int .i64 (.ofNat 0))] [(0, 1, (.const (.int .i64 (.ofNat 8255)))), (1, 1, (.const (.int .i64 (.ofNat 8256))))], none⟩,
  ⟨(some 61), .build [(.int .i64 (.ofNat 0)), (.int .i64 (.ofNat 0))] [(0, 1, (.const (.int .i64 (.ofNat 12289)))), (1, 1, (.const (.int .i64 (.ofNat 12291))))], none⟩,
  ⟨(some 62), .buildSlice 217 18 [(.int .i64 (.ofNat 0)), (.int .i64 (.ofNat 0)), (.int .i64 (.ofNat 0)), (.int .i64 (.ofNat 0)), (.int .i64 (.ofNat 0)), (.int .i64 (.ofNat 0)), (.int .i64 (.ofNat 0)), (.int .i64 (.ofNat 0)), (.int .i64 (.ofNat 0)), (.int .i64 (.ofNat 0)), (.int .i64 (.ofNat 0)), (.int .i64 (.ofNat 0)), (.int .i64 (.ofNat 0)), (.int .i64 (.ofNat 0)), (.int .i64 (.ofNat 0)), (.int .i64 (.ofNat 0)), (.int .i64 (.ofNat 0)), (.int .i64 (.ofNat 0)), (.int .i64 (.ofNat 0)), (.int .i64 (.ofNat 0)), (.int .i64 (.ofNat 0)), (.int .i64 (.ofNat 0)), (.int .i64 (.ofNat 0)), (.int .i64 (.ofNat 0)), (.int .i64 (.ofNat 0)), (.int .i64 (.ofNat 0)), (.int .i64 (.ofNat 0)), (.int .i64 (.ofNat 0)), (.int .i64 (.ofNat 0)), (.int .i64 (.ofNat 0)), (.int .i64 (.ofNat 0)), (.int .i64 (.ofNat 0)), (.int .i64 (.ofNat 0)), (.int .i64 (.ofNat 0)), (.int .i64 (.ofNat 0)), (.int .i64 (.ofNat 0))] [(0, 2, (.tmp 44)), (2, 2, (.tmp 45)), (4, 2, (.tmp 46)), (6, 2, (.tmp 47)), (8, 2, (.tmp 48)), (10, 2, (.tmp 49)), (12, 2, (.tmp 50)), (14, 2, (.tmp 51)), (16, 2, (.tmp 52)), (18, 2, (.tmp 53)), (20, 2, (.tmp 54)), (22, 2, (.tmp 55)), (24, 2, (.tmp 56)), (26, 2, (.tmp 57)), (28, 2, (.tmp 58)), (30, 2, (.tmp 59)), (32, 2, (.tmp 60)), (34, 2, (.tmp 61))], none⟩,
  ⟨(some 63), .build [(.string ⟨⟨[]⟩⟩), (.slice none 0 0)] [(0, 1, (.const (.string ⟨⟨[80]⟩⟩))), (1, 1, (.tmp 62))], none⟩,
  ⟨(some 64), .build [(.int .i64 (.ofNat 0)), (.int .i64 (.ofNat 0))] [(0, 1, (.const (.int .i64 (.ofNat 65)))), (1, 1, (.const (.int .i64 (.ofNat 90))))], none⟩,
  ⟨(some 65), .build [(.int .i64 (.ofNat 0)), (.int .i64 (.ofNat 0))] [(0, 1, (.const (.int .i64 (.ofNat 97)))), (1, 1, (.const (.int .i64 (.ofNat 122))))], none⟩,
  ⟨(some 66), .build [(.int .i64 (.ofNat 0)), (.int .i64 (.ofNat 0))] [(0, 1, (.const (.int .i64 (.ofNat 170)))), (1, 1, (.const (.int .i64 (.ofNat 170))))], none⟩,
  ⟨(some 67), .build [(.int .i64 (.ofNat 0)), (.int .i64 (.ofNat 0))] [(0, 1, (.const (.int .i64 (.ofNat 186)))), (1, 1, (.const (.int .i64 (.ofNat 186))))], none⟩,
  ⟨(some 68), .build [(.int .i64 (.ofNat 0)), (.int .i64 (.ofNat 0))] [(0, 1, (.const (.int .i64 (.ofNat 192)))), (1, 1, (.const (.int .i64 (.ofNat 214))))], none⟩,
  ⟨(some 69), .build [(.int .i64 (.ofNat 0)), (.int .i64 (.ofNat 0))] [(0, 1, (.const (.int .i64 (.ofNat 216)))), (1, 1, (.const (.int .i64 (.ofNat 246))))], none⟩,
  ⟨(some 70), .build [(.int .i64 (.ofNat 0)), (.int .i64 (.ofNat 0))] [(0, 1, (.const (.int .i64 (.ofNat 248)))), (1, 1, (.const (.int .i64 (.ofNat 591))))], none⟩,
  ⟨(some 71), .build [(.int .i64 (.ofNat 0)), (.int .i64 (.ofNat 0))] [(0, 1, (.const (.int .i64 (.ofNat 8490)))), (1, 1, (.const (.int .i64 (.ofNat 8491))))], none⟩,
  ⟨(some 72), .buildSlice 217 8 [(.int .i64 (.ofNat 0)), (.int .i64 (.ofNat 0)), (.int .i64 (.ofNat 0)), (.int .i64 (.ofNat 0)), (.int .i64 (.ofNat 0)), (.int .i64 (.ofNat 0)), (.int .i64 (.ofNat 0)), (.int .i64 (.ofNat 0)), (.int .i64 (.ofNat 0)), (.int .i64 (.ofNat 0)), (.int .i64 (.ofNat 0)), (.int .i64 (.ofNat 0)), (.int .i64 (.ofNat 0)), (.int .i64 (.ofNat 0)), (.int .i64 (.ofNat 0)), (.int .i64 (.ofNat 0))] [(0, 2, (.tmp 64)), (2, 2, (.tmp 65)), (4, 2, (.tmp 66)), (6, 2, (.tmp 67)), (8, 2, (.tmp 68)), (10, 2, (.tmp 69)), (12, 2, (.tmp 70)), (14, 2, (.tmp 71))], none⟩,
  ⟨(some 73), .build [(.string ⟨⟨[]⟩⟩), (.slice none 0 0)] [(0, 1, (.const (.string ⟨⟨[76, 97, 116, 105, 110]⟩⟩))), (1, 1, (.tmp 72))], none⟩,
  ⟨(some 74), .build [(.int .i64 (.ofNat 0)), (.int .i64 (.ofNat 0))] [(0, 1, (.const (.int .i64 (.ofNat 913)))), (1, 1, (.const (.int .i64 (.ofNat 929))))], none⟩,
  ⟨(some 75), .build [(.int .i64 (.ofNat 0)), (.int .i64 (.ofNat 0))] [(0, 1, (.const (.int .i64 (.ofNat 931)))), (1, 1, (.const (.int .i64 (.ofNat 993))))], none⟩,
  ⟨(some 76), .buildSlice 217 2 [(.int .i64 (.ofNat 0)), (.int .i64 (.ofNat 0)), (.int .i64 (.ofNat 0)), (.int .i64 (.ofNat 0))] [(0, 2, (.tmp 74)), (2, 2, (.tmp 75))], none⟩,
  ⟨(some 77), .build [(.string ⟨⟨[]⟩⟩), (.slice none 0 0)] [(0, 1, (.const (.string ⟨⟨[71, 114, 101, 101, 107]⟩⟩))), (1, 1, (.tmp 76))], none⟩,
  ⟨(some 78), .build [(.int .i64 (.ofNat 0)), (.int .i64 (.ofNat 0))] [(0, 1, (.const (.int .i64 (.ofNat 1024)))), (1, 1, (.const (.int .i64 (.ofNat 1156))))], none⟩,
  ⟨(some 79), .buildSlice 217 1 [(.int .i64 (.ofNat 0)), (.int .i64 (.ofNat 0))] [(0, 2, (.tmp 78))], none⟩,
  ⟨(some 80), .build [(.string ⟨⟨[]⟩⟩), (.slice none 0 0)] [(0, 1, (.const (.string ⟨⟨[67, 121, 114, 105, 108, 108, 105, 99]⟩⟩))), (1, 1, (.tmp 79))], none⟩,
  ⟨(some 81), .build [(.int .i64 (.ofNat 0)), (.int .i64 (.ofNat 0))] [(0, 1, (.const (.int .i64 (.ofNat 1488)))), (1, 1, (.const (.int .i64 (.ofNat 1514))))], none⟩,
  ⟨(some 82), .buildSlice 217 1 [(.int .i64 (.ofNat 0)), (.int .i64 (.ofNat 0))] [(0, 2, (.tmp 81))], none⟩,
  ⟨(some 83), .build [(.string ⟨⟨[]⟩⟩), (.slice none 0 0)] [(0, 1, (.const (.string ⟨⟨[72, 101, 98, 114, 101, 119]⟩⟩))), (1, 1, (.tmp 82))], none⟩,
  ⟨(some 84), .build [(.int .i64 (.ofNat 0)), (.int .i64 (.ofNat 0))] [(0, 1, (.const (.int .i64 (.ofNat 12353)))), (1, 1, (.const (.int .i64 (.ofNat 12438))))], none⟩,
  ⟨(some 85), .buildSlice 217 1 [(.int .i64 (.ofNat 0)), (.int .i64 (.ofNat 0))] [(0, 2, (.tmp 84))], none⟩,
  ⟨(some 86), .build [(.string ⟨⟨[]⟩⟩), (.slice none 0 0)] [(0, 1, (.const (.string ⟨⟨[72, 105, 114, 97, 103, 97, 110, 97]⟩⟩))), (1, 1, (.tmp 85))], none⟩,
  ⟨(some 87), .build [(.int .i64 (.ofNat 0)), (.int .i64 (.ofNat 0))] [(0, 1, (.const (.int .i64 (.ofNat 12449)))), (1, 1, (.const (.int .i64 (.ofNat 12538))))], none⟩,
  ⟨(some 88), .buildSlice 217 1 [(.int .i64 (.ofNat 0)), (.int .i64 (.ofNat 0))] [(0, 2, (.tmp 87))], none⟩,
  ⟨(some 89), .build [(.string ⟨⟨[]⟩⟩), (.slice none 0 0)] [(0, 1, (.const (.string ⟨⟨[75, 97, 116, 97, 107, 97, 110, 97]⟩⟩))), (1, 1, (.tmp 88))], none⟩,
  ⟨(some 90), .build [(.int .i64 (.ofNat 0)), (.int .i64 (.ofNat 0))] [(0, 1, (.const (.int .i64 (.ofNat 19968)))), (1, 1, (.const (.int .i64 (.ofNat 40959))))], none⟩,
  ⟨(some 91), .buildSlice 217 1 [(.int .i64 (.ofNat 0)), (.int .i64 (.ofNat 0))] [(0, 2, (.tmp 90))], none⟩,
  ⟨(some 92), .build [(.string ⟨⟨[]⟩⟩), (.slice none 0 0)] [(0, 1, (.const (.string ⟨⟨[72, 97, 110]⟩⟩))), (1, 1, (.tmp 91))], none⟩,
  ⟨(some 93), .build [(.int .i64 (.ofNat 0)), (.int .i64 (.ofNat 0))] [(0, 1, (.const (.int .i64 (.ofNat 66560)))), (1, 1, (.const (.int .i64 (.ofNat 66639))))], none⟩,
  ⟨(some 94), .buildSlice 217 1 [(.int .i64 (.ofNat 0)), (.int .i64 (.ofNat 0))] [(0, 2, (.tmp 93))], none⟩,
  ⟨(some 95), .build [(.string ⟨⟨[]⟩⟩), (.slice none 0 0)] [(0, 1, (.const (.string ⟨⟨[68, 101, 115, 101, 114, 101, 116]⟩⟩))), (1, 1, (.tmp 94))], none⟩,
  ⟨(some 96), .buildSlice 212 15 [(.string ⟨⟨[]⟩⟩), (.slice none 0 0), (.string ⟨⟨[]⟩⟩), (.slice none 0 0), (.string ⟨⟨[]⟩⟩), (.slice none 0 0), (.string ⟨⟨[]⟩⟩), (.slice none 0 0), (.string ⟨⟨[]⟩⟩), (.slice none 0 0), (.string ⟨⟨[]⟩⟩), (.slice none 0 0), (.string ⟨⟨[]⟩⟩), (.slice none 0 0), (.string ⟨⟨[]⟩⟩), (.slice none 0 0), (.string ⟨⟨[]⟩⟩), (.slice none 0 0), (.string ⟨⟨[]⟩⟩), (.slice none 0 0), (.string ⟨⟨[]⟩⟩), (.slice none 0 0), (.string ⟨⟨[]⟩⟩), (.slice none 0 0), (.string ⟨⟨[]⟩⟩), (.slice none 0 0), (.string ⟨⟨[]⟩⟩), (.slice none 0 0), (.string ⟨⟨[]⟩⟩), (.slice none 0 0)] [(0, 2, (.tmp 9)), (2, 2, (.tmp 19)), (4, 2, (.tmp 27)), (6, 2, (.tmp 33)), (8, 2, (.tmp 37)), (10, 2, (.tmp 43)), (12, 2, (.tmp 63)), (14, 2, (.tmp 73)), (16, 2, (.tmp 77)), (18, 2, (.tmp 80)), (20, 2, (.tmp 83)), (22, 2, (.tmp 86)), (24, 2, (.tmp 89)), (26, 2, (.tmp 92)), (28, 2, (.tmp 95))], none⟩,
  ⟨(some 0), .move (.tmp 96), none⟩] none
/- ferret/ucd.classes -/
def f137 : IFn := ⟨97, [.inl 0], (.seq f137r0 (.seq f137r1 .ret))⟩
def f138r0 : ICode := .region [
  ⟨(some 2), .move (.const (.slice none 0 0)), none⟩] none
def f138r1 : ICode := .region [
  ⟨(some 3), .move (.const (.slice none 0 0)), none⟩] none
def f138r2 : ICode := .region [
  ⟨(some 6), .move (.tmp 0), none⟩,
  ⟨(some 7), .len 1 (.tmp 6), none⟩,
  ⟨(some 8), .move (.const (.int .i64 (.ofNat 0))), none⟩] none
def f138r3 : ICode := .region [
  ⟨(some 9), .bin .lss (.tmp 8) (.tmp 7), none⟩] none
def f138r4 : ICode := .region [
  ⟨(some 10), .indexSl 2 (.tmp 6) (.tmp 8), none⟩,
  ⟨(some 11), .loadN 2 (.tmp 10), none⟩,
  ⟨(some 5), .new [(.int .i64 (.ofNat 0)), (.int .i64 (.ofNat 0))] 217, none⟩,
  ⟨none, .store 2 (.tmp 5) (.tmp 11), none⟩] none
def f138r5 : ICode := .region [
  ⟨(some 12), .move (.tmp 3), none⟩,
  ⟨(some 13), .indexArrA 2 1 (.tmp 5) (.const (.int .i64 (.ofNat 0))), none⟩,
  ⟨(some 14), .load1 (.tmp 13), none⟩,
  ⟨(some 15), .indexArrA 2 1 (.tmp 5) (.const (.int .i64 (.ofNat 1))), none⟩,
  ⟨(some 16), .load1 (.tmp 15), none⟩,
  ⟨(some 17), .build [(.int .i64 (.ofNat 0)), (.int .i64 (.ofNat 0))] [(0, 1, (.tmp 14)), (1, 1, (.tmp 16))], none⟩,
  ⟨(some 18), .buildSlice 75 1 [(.int .i64 (.ofNat 0)), (.int .i64 (.ofNat 0))] [(0, 2, (.tmp 17))], none⟩,
  ⟨(some 19), .append 75 2 16 (.tmp 12) (.tmp 18), none⟩,
  ⟨(some 3), .move (.tmp 19), none⟩] none
def f138r6 : ICode := .region [
  ⟨(some 20), .bin .add (.tmp 8) (.const (.int .i64 (.ofNat 1))), none⟩,
  ⟨(some 8), .move (.tmp 20), none⟩] none
def f138r7 : ICode := .region [
  ⟨(some 21), .move (.tmp 3), none⟩,
  ⟨(some 22), .call 65 [(.tmp 21)], none⟩,
  ⟨(some 2), .move (.tmp 22), none⟩] none
/- ferret/ucd.of -/
def f138 : IFn := ⟨23, [.inl 2], (.seq f138r0 (.seq f138r1 (.seq (.seq f138r2 (.block 0 (.loop (.seq f138r3 (.seq (.cond (.tmp 9) .skip (.exit 0)) (.seq (.block 1 (.seq f138r4 f138r5)) f138r6)))))) (.seq f138r7 .ret))))⟩
def f139r0 : ICode := .region [
  ⟨(some 0), .move (.const (.slice none 0 0)), none⟩] none
def f139r1 : ICode := .region [
  ⟨(some 1), .buildSlice 9 3 [(.string ⟨⟨[]⟩⟩), (.string ⟨⟨[]⟩⟩), (.string ⟨⟨[]⟩⟩)] [(0, 1, (.const (.string ⟨⟨[76, 117]⟩⟩))), (1, 1, (.const (.string ⟨⟨[76, 108]⟩⟩))), (2, 1, (.const (.string ⟨⟨[76, 111]⟩⟩)))], none⟩,
  ⟨(some 2), .build [(.string ⟨⟨[]⟩⟩), (.slice none 0 0)] [(0, 1, (.const (.string ⟨⟨[76]⟩⟩))), (1, 1, (.tmp 1))], none⟩,
  ⟨(some 3), .buildSlice 9 1 [(.string ⟨⟨[]⟩⟩)] [(0, 1, (.const (.string ⟨⟨[78, 100]⟩⟩)))], none⟩,
  ⟨(some 4), .build [(.string ⟨⟨[]⟩⟩), (.slice none 0 0)] [(0, 1, (.const (.string ⟨⟨[78]⟩⟩))), (1, 1, (.tmp 3))], none⟩,
  ⟨(some 5), .buildSlice 216 2 [(.string ⟨⟨[]⟩⟩), (.slice none 0 0), (.string ⟨⟨[]⟩⟩), (.slice none 0 0)] [(0, 2, (.tmp 2)), (2, 2, (.tmp 4))], none⟩,
  ⟨(some 0), .move (.tmp 5), none⟩] none
/- ferret/ucd.unions -/
def f139 : IFn := ⟨6, [.inl 0], (.seq f139r0 (.seq f139r1 .ret))⟩
def f141r0 : ICode := .region [
  ⟨(some 4), .box 184 (.tmp 0), none⟩] none
def f141r1 : ICode := .region [
  ⟨(some 10), .move (.tmp 1), none⟩,
  ⟨(some 8), .move (.tmp 10), none⟩] none
def f141r2 : ICode := .region [
  ⟨(some 11), .move (.tmp 8), none⟩,
  ⟨(some 12), .bin .mul (.const (.int .i64 (.ofNat 2))) (.tmp 11), none⟩,
  ⟨(some 13), .bin .add (.tmp 12) (.const (.int .i64 (.ofNat 1))), none⟩,
  ⟨(some 9), .move (.tmp 13), none⟩] none
def f141r3 : ICode := .region [
  ⟨(some 14), .move (.tmp 9), none⟩,
  ⟨(some 15), .move (.tmp 2), none⟩,
  ⟨(some 16), .bin .geq (.tmp 14) (.tmp 15), none⟩] none
def f141r4 : ICode := .region [
  ⟨(some 17), .move (.tmp 9), none⟩,
  ⟨(some 18), .bin .add (.tmp 17) (.const (.int .i64 (.ofNat 1))), none⟩,
  ⟨(some 19), .move (.tmp 2), none⟩,
  ⟨(some 20), .bin .lss (.tmp 18) (.tmp 19), none⟩,
  ⟨(some 21), .move (.tmp 20), none⟩,
  ⟨(some 22), .fieldAddr 0 (.tmp 4), (some ((some 21), true))⟩,
  ⟨(some 23), .load1 (.tmp 22), (some ((some 21), true))⟩,
  ⟨(some 24), .move (.tmp 3), (some ((some 21), true))⟩,
  ⟨(some 25), .move (.tmp 9), (some ((some 21), true))⟩,
  ⟨(some 26), .bin .add (.tmp 24) (.tmp 25), (some ((some 21), true))⟩,
  ⟨(some 27), .move (.tmp 3), (some ((some 21), true))⟩,
  ⟨(some 28), .move (.tmp 9), (some ((some 21), true))⟩,
  ⟨(some 29), .bin .add (.tmp 27) (.tmp 28), (some ((some 21), true))⟩,
  ⟨(some 30), .bin .add (.tmp 29) (.const (.int .i64 (.ofNat 1))), (some ((some 21), true))⟩,
  ⟨(some 31), .callv (.tmp 23) [(.tmp 26), (.tmp 30)], (some ((some 21), true))⟩,
  ⟨(some 32), .pick (.tmp 21) (.tmp 31) (.const (.bool false)), none⟩] none
def f141r5 : ICode := .region [
  ⟨(some 33), .move (.tmp 9), none⟩,
  ⟨(some 34), .bin .add (.tmp 33) (.const (.int .i64 (.ofNat 1))), none⟩,
  ⟨(some 9), .move (.tmp 34), none⟩] none
def f141r6 : ICode := .region [
  ⟨(some 35), .fieldAddr 0 (.tmp 4), none⟩,
  ⟨(some 36), .load1 (.tmp 35), none⟩,
  ⟨(some 37), .move (.tmp 3), none⟩,
  ⟨(some 38), .move (.tmp 8), none⟩,
  ⟨(some 39), .bin .add (.tmp 37) (.tmp 38), none⟩,
  ⟨(some 40), .move (.tmp 3), none⟩,
  ⟨(some 41), .move (.tmp 9), none⟩,
  ⟨(some 42), .bin .add (.tmp 40) (.tmp 41), none⟩,
  ⟨(some 43), .callv (.tmp 36) [(.tmp 39), (.tmp 42)], none⟩,
  ⟨(some 44), .un .not (.tmp 43), none⟩] none
def f141r7 : ICode := .region [
  ⟨(some 45), .fieldAddr 1 (.tmp 4), none⟩,
  ⟨(some 46), .load1 (.tmp 45), none⟩,
  ⟨(some 47), .move (.tmp 3), none⟩,
  ⟨(some 48), .move (.tmp 8), none⟩,
  ⟨(some 49), .bin .add (.tmp 47) (.tmp 48), none⟩,
  ⟨(some 50), .move (.tmp 3), none⟩,
  ⟨(some 51), .move (.tmp 9), none⟩,
  ⟨(some 52), .bin .add (.tmp 50) (.tmp 51), none⟩,
  ⟨(some 53), .callv (.tmp 46) [(.tmp 49), (.tmp 52)], none⟩] none
def f141r8 : ICode := .region [
  ⟨(some 54), .move (.tmp 9), none⟩,
  ⟨(some 8), .move (.tmp 54), none⟩] none
/- sort.siftDown_func -/
def f141 : IFn := ⟨55, [], (.seq f141r0 (.seq f141r1 (.block 0 (.loop (.block 1 (.seq f141r2 (.seq (.seq f141r3 (.cond (.tmp 16) (.exit 0) .skip)) (.seq (.seq f141r4 (.cond (.tmp 32) f141r5 .skip)) (.seq (.seq f141r6 (.cond (.tmp 44) .ret .skip)) (.seq f141r7 f141r8))))))))))⟩
def f142r0 : ICode := .region [
  ⟨(some 2), .move (.const (.int .u64 (.ofNat 0))), none⟩] none
def f142r1 : ICode := .region [
  ⟨(some 4), .move (.tmp 0), none⟩,
  ⟨(some 5), .conv .u64 (.tmp 4), none⟩,
  ⟨(some 6), .call 106 [(.tmp 5)], none⟩,
  ⟨(some 7), .conv .u64 (.tmp 6), none⟩,
  ⟨(some 3), .move (.tmp 7), none⟩] none
def f142r2 : ICode := .region [
  ⟨(some 8), .move (.tmp 3), none⟩,
  ⟨(some 9), .bin .shl (.const (.int .u64 (.ofNat 1))) (.tmp 8), none⟩,
  ⟨(some 2), .move (.tmp 9), none⟩] none
/- sort.nextPowerOfTwo -/
def f142 : IFn := ⟨10, [.inl 2], (.seq f142r0 (.seq f142r1 (.seq f142r2 .ret)))⟩
def f143r0 : ICode := .region [
  ⟨(some 2), .move (.const (.int .u64 (.ofNat 0))), none⟩] none
def f143r1 : ICode := .region [
  ⟨(some 3), .move (.tmp 0), none⟩,
  ⟨(some 4), .nilCheck (.tmp 3), none⟩,
  ⟨(some 5), .load1 (.tmp 4), none⟩,
  ⟨(some 6), .move (.tmp 0), none⟩,
  ⟨(some 7), .nilCheck (.tmp 6), none⟩,
  ⟨(some 8), .load1 (.tmp 7), none⟩,
  ⟨(some 9), .bin .shl (.tmp 8) (.const (.int .u64 (.ofNat 13))), none⟩,
  ⟨(some 10), .bin .xor (.tmp 5) (.tmp 9), none⟩,
  ⟨(some 11), .nilCheck (.tmp 3), none⟩,
  ⟨none, .store 1 (.tmp 11) (.tmp 10), none⟩] (some ⟨[], []⟩)
def f143r2 : ICode := .region [
  ⟨(some 12), .move (.tmp 0), none⟩,
  ⟨(some 13), .nilCheck (.tmp 12), none⟩,
  ⟨(some 14), .load1 (.tmp 13), none⟩,
  ⟨(some 15), .move (.tmp 0), none⟩,
  ⟨(some 16), .nilCheck (.tmp 15), none⟩,
  ⟨(some 17), .load1 (.tmp 16), none⟩,
  ⟨(some 18), .bin .shr (.tmp 17) (.const (.int .u64 (.ofNat 7))), none⟩,
  ⟨(some 19), .bin .xor (.tmp 14) (.tmp 18), none⟩,
  ⟨(some 20), .nilCheck (.tmp 12), none⟩,
  ⟨none, .store 1 (.tmp 20) (.tmp 19), none⟩] (some ⟨[], []⟩)
def f143r3 : ICode := .region [
  ⟨(some 21), .move (.tmp 0), none⟩,
  ⟨(some 22), .nilCheck (.tmp 21), none⟩,
  ⟨(some 23), .load1 (.tmp 22), none⟩,
  ⟨(some 24), .move (.tmp 0), none⟩,
  ⟨(some 25), .nilCheck (.tmp 24), none⟩,
  ⟨(some 26), .load1 (.tmp 25), none⟩,
  ⟨(some 27), .bin .shl (.tmp 26) (.const (.int .u64 (.ofNat 17))), none⟩,
  ⟨(some 28), .bin .xor (.tmp 23) (.tmp 27), none⟩,
  ⟨(some 29), .nilCheck (.tmp 21), none⟩,
  ⟨none, .store 1 (.tmp 29) (.tmp 28), none⟩] (some ⟨[], []⟩)
def f143r4 : ICode := .region [
  ⟨(some 30), .move (.tmp 0), none⟩,
  ⟨(some 31), .nilCheck (.tmp 30), none⟩,
  ⟨(some 32), .load1 (.tmp 31), none⟩,
  ⟨(some 2), .move (.tmp 32), none⟩] none
/- (*sort.xorshift).Next -/
def f143 : IFn := ⟨33, [.inl 2], (.seq f143r0 (.seq f143r1 (.seq f143r2 (.seq f143r3 (.seq f143r4 .ret)))))⟩
def f144r0 : ICode := .region [
  ⟨(some 3), .box 184 (.tmp 0), none⟩,
  ⟨(some 6), .move (.const (.int .i64 (.ofNat 0))), none⟩] none
def f144r1 : ICode := .region [
  ⟨(some 7), .loadN 2 (.tmp 3), none⟩,
  ⟨(some 8), .move (.tmp 1), none⟩,
  ⟨(some 9), .bin .sub (.tmp 8) (.const (.int .i64 (.ofNat 1))), none⟩,
  ⟨(some 10), .move (.tmp 1), none⟩,
  ⟨(some 11), .move (.tmp 1), none⟩,
  ⟨(some 12), .bin .add (.tmp 11) (.const (.int .i64 (.ofNat 1))), none⟩,
  ⟨(some 13), .move (.tmp 2), none⟩,
  ⟨(some 14), .call 145 [(.tmp 7), (.tmp 9), (.tmp 10), (.tmp 12), (.tmp 13)], none⟩,
  ⟨(some 6), .move (.tmp 14), none⟩] none
/- sort.medianAdjacent_func -/
def f144 : IFn := ⟨15, [.inl 6], (.seq f144r0 (.seq f144r1 .ret))⟩
def f145r0 : ICode := .region [
  ⟨(some 5), .box 184 (.tmp 0), none⟩,
  ⟨(some 10), .move (.const (.int .i64 (.ofNat 0))), none⟩] none
def f145r1 : ICode := .region [
  ⟨(some 12), .loadN 2 (.tmp 5), none⟩,
  ⟨(some 13), .move (.tmp 1), none⟩,
  ⟨(some 14), .move (.tmp 2), none⟩,
  ⟨(some 15), .move (.tmp 4), none⟩,
  ⟨(some 16), .call 146 [(.tmp 12), (.tmp 13), (.tmp 14), (.tmp 15)], none⟩,
  ⟨(some 11), .move (.tmp 16), none⟩,
  ⟨(some 17), .extract (.tmp 11) 0, none⟩,
  ⟨(some 18), .extract (.tmp 11) 1, none⟩,
  ⟨(some 1), .move (.tmp 17), none⟩,
  ⟨(some 2), .move (.tmp 18), none⟩] none
def f145r2 : ICode := .region [
  ⟨(some 20), .loadN 2 (.tmp 5), none⟩,
  ⟨(some 21), .move (.tmp 2), none⟩,
  ⟨(some 22), .move (.tmp 3), none⟩,
  ⟨(some 23), .move (.tmp 4), none⟩,
  ⟨(some 24), .call 146 [(.tmp 20), (.tmp 21), (.tmp 22), (.tmp 23)], none⟩,
  ⟨(some 19), .move (.tmp 24), none⟩,
  ⟨(some 25), .extract (.tmp 19) 0, none⟩,
  ⟨(some 26), .extract (.tmp 19) 1, none⟩,
  ⟨(some 2), .move (.tmp 25), none⟩,
  ⟨(some 3), .move (.tmp 26), none⟩] none
def f145r3 : ICode := .region [
  ⟨(some 28), .loadN 2 (.tmp 5), none⟩,
  ⟨(some 29), .move (.tmp 1), none⟩,
  ⟨(some 30), .move (.tmp 2), none⟩,
  ⟨(some 31), .move (.tmp 4), none⟩,
  ⟨(some 32), .call 146 [(.tmp 28), (.tmp 29), (.tmp 30), (.tmp 31)], none⟩,
  ⟨(some 27), .move (.tmp 32), none⟩,
  ⟨(some 33), .extract (.tmp 27) 0, none⟩,
  ⟨(some 34), .extract (.tmp 27) 1, none⟩,
  ⟨(some 1), .move (.tmp 33), none⟩,
  ⟨(some 2), .move (.tmp 34), none⟩] none
def f145r4 : ICode := .region [
  ⟨(some 35), .move (.tmp 2), none⟩,
  ⟨(some 10), .move (.tmp 35), none⟩] none
/- sort.median_func -/
def f145 : IFn := ⟨36, [.inl 10], (.seq f145r0 (.seq f145r1 (.seq f145r2 (.seq f145r3 (.seq f145r4 .ret)))))⟩
def f146r0 : ICode := .region [
  ⟨(some 4), .box 184 (.tmp 0), none⟩,
  ⟨(some 8), .move (.const (.int .i64 (.ofNat 0))), none⟩,
  ⟨(some 9), .move (.const (.int .i64 (.ofNat 0))), none⟩] none
def f146r1 : ICode := .region [
  ⟨(some 10), .fieldAddr 0 (.tmp 4), none⟩,
  ⟨(some 11), .load1 (.tmp 10), none⟩,
  ⟨(some 12), .move (.tmp 2), none⟩,
  ⟨(some 13), .move (.tmp 1), none⟩,
  ⟨(some 14), .callv (.tmp 11) [(.tmp 12), (.tmp 13)], none⟩] none
def f146r2 : ICode := .region [
  ⟨(some 15), .move (.tmp 3), none⟩,
  ⟨(some 16), .nilCheck (.tmp 15), none⟩,
  ⟨(some 17), .load1 (.tmp 16), none⟩,
  ⟨(some 18), .bin .add (.tmp 17) (.const (.int .i64 (.ofNat 1))), none⟩,
  ⟨(some 19), .nilCheck (.tmp 15), none⟩,
  ⟨none, .store 1 (.tmp 19) (.tmp 18), none⟩] none
def f146r3 : ICode := .region [
  ⟨(some 20), .move (.tmp 2), none⟩,
  ⟨(some 21), .move (.tmp 1), none⟩,
  ⟨(some 8), .move (.tmp 20), none⟩,
  ⟨(some 9), .move (.tmp 21), none⟩] none
def f146r4 : ICode := .region [
  ⟨(some 22), .move (.tmp 1), none⟩,
  ⟨(some 23), .move (.tmp 2), none⟩,
  ⟨(some 8), .move (.tmp 22), none⟩,
  ⟨(some 9), .move (.tmp 23), none⟩] none
/- sort.order2_func -/
def f146 : IFn := ⟨24, [.inl 8, .inl 9], (.seq f146r0 (.seq (.seq f146r1 (.cond (.tmp 14) (.seq f146r2 (.seq f146r3 .ret)) .skip)) (.seq f146r4 .ret)))⟩
def d29r0 : ICode := .region [
  ⟨(some 6), .move (.tmp 2), none⟩,
  ⟨(some 7), .nilEq true 4 (.tmp 6) (.const .nilIface), none⟩] none
def d29r1 : ICode := .region [
  ⟨(some 9), .move (.tmp 2), none⟩,
  ⟨(some 10), .bad, none⟩,
  ⟨(some 8), .move (.tmp 10), none⟩,
  ⟨(some 11), .extract (.tmp 8) 0, none⟩,
  ⟨(some 12), .extract (.tmp 8) 1, none⟩,
  ⟨(some 3), .new [(.int .i64 (.ofNat 0)), (.int .i64 (.ofNat 0))] 98, none⟩,
  ⟨none, .store 2 (.tmp 3) (.tmp 11), none⟩,
  ⟨(some 4), .move (.tmp 12), none⟩] none
def d29r2 : ICode := .region [
  ⟨(some 13), .move (.tmp 4), none⟩,
  ⟨(some 14), .un .not (.tmp 13), none⟩] none
def d29r3 : ICode := .region [
  ⟨(some 15), .move (.tmp 2), none⟩,
  ⟨none, .bad, none⟩] none
def d29r4 : ICode := .region [
  ⟨(some 16), .build [(.int .i64 (.ofNat 0)), (.slice none 0 0), (.bool false), (.int .i64 (.ofNat 0)), (.int .i64 (.ofNat 0)), (.bool false), (.int .i64 (.ofNat 0)), (.string ⟨⟨[]⟩⟩), (.slice none 0 0), (.slice none 0 0)] [], none⟩,
  ⟨(some 17), .loadN 2 (.tmp 3), none⟩,
  ⟨none, .store 10 (.tmp 0) (.tmp 16), none⟩,
  ⟨none, .store 2 (.tmp 1) (.tmp 17), none⟩] (some ⟨[], [(1, 2)]⟩)
/- ferret/syn.Parse$1 -/
def d29 : IDf := ⟨18, (some 5), [⟨(some 2), .move (.tmp 5), none⟩], (.seq d29r0 (.cond (.tmp 7) (.seq d29r1 (.seq (.seq d29r2 (.cond (.tmp 14) d29r3 .skip)) d29r4)) .skip))⟩
end Go.Am.Zt
