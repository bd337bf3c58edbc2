import Derived.Test.YtikphefllmemjaaGreatDoorZd1a
/-
The table of the program for the engine: printed by a program of mine.
-/
namespace Go.Am.Zd
open Go Go.Am
set_option maxRecDepth 100000
def f78r0 : ICode := .region [
  ⟨(some 4), .new [(.int .i64 (.ofNat 0)), (.slice none 0 0), (.bool false), (.int .i64 (.ofNat 0)), (.int .i64 (.ofNat 0)), (.bool false), (.int .i64 (.ofNat 0)), (.string ⟨⟨[]⟩⟩), (.slice none 0 0)] 28, none⟩,
  ⟨(some 5), .move (.const (.bool false)), none⟩] none
def f78r1 : ICode := .region [
  ⟨(some 9), .move (.tmp 0), none⟩,
  ⟨(some 10), .nilCheck (.tmp 9), none⟩,
  ⟨(some 11), .fieldAddr 5 (.tmp 10), none⟩,
  ⟨(some 12), .load1 (.tmp 11), none⟩,
  ⟨(some 13), .len 1 (.tmp 12), none⟩,
  ⟨(some 14), .bin .geq (.tmp 13) (.const (.int .i64 (.ofNat 32))), none⟩] none
def f78r2 : ICode := .region [
  ⟨(some 15), .move (.tmp 0), none⟩,
  ⟨(some 16), .move (.tmp 1), none⟩,
  ⟨(some 17), .call 60 [(.tmp 15), (.const (.int .i64 (.ofNat 21))), (.tmp 16)], none⟩] none
def f78r3 : ICode := .region [
  ⟨(some 18), .move (.tmp 0), none⟩,
  ⟨(some 19), .nilCheck (.tmp 18), none⟩,
  ⟨(some 20), .fieldAddr 7 (.tmp 19), none⟩,
  ⟨(some 21), .loadN 4 (.tmp 20), none⟩,
  ⟨(some 6), .new [(.bool false), (.bool false), (.bool false), (.bool false)] 38, none⟩,
  ⟨none, .store 4 (.tmp 6) (.tmp 21), none⟩] none
def f78r4 : ICode := .region [
  ⟨(some 22), .build [(.int .i64 (.ofNat 0)), (.slice none 0 0), (.bool false), (.int .i64 (.ofNat 0)), (.int .i64 (.ofNat 0)), (.bool false), (.int .i64 (.ofNat 0)), (.string ⟨⟨[]⟩⟩), (.slice none 0 0)] [(0, 1, (.const (.int .i64 (.ofNat 11))))], none⟩,
  ⟨(some 7), .new [(.int .i64 (.ofNat 0)), (.slice none 0 0), (.bool false), (.int .i64 (.ofNat 0)), (.int .i64 (.ofNat 0)), (.bool false), (.int .i64 (.ofNat 0)), (.string ⟨⟨[]⟩⟩), (.slice none 0 0)] 28, none⟩,
  ⟨none, .store 9 (.tmp 7) (.tmp 22), none⟩] none
def f78r5 : ICode := .region [
  ⟨(some 27), .move (.tmp 0), none⟩,
  ⟨(some 28), .call 39 [(.tmp 27), (.const (.string ⟨⟨[63, 80]⟩⟩))], none⟩,
  ⟨(some 26), .move (.tmp 28), none⟩] none
def f78r6 : ICode := .region [
  ⟨(some 29), .move (.tmp 0), none⟩,
  ⟨(some 30), .move (.tmp 1), none⟩,
  ⟨(some 31), .call 94 [(.tmp 29), (.tmp 30)], none⟩,
  ⟨(some 32), .fieldAddr 7 (.tmp 7), none⟩,
  ⟨none, .store 1 (.tmp 32) (.tmp 31), none⟩] none
def f78r7 : ICode := .region [
  ⟨(some 33), .move (.tmp 0), none⟩,
  ⟨(some 34), .fieldAddr 7 (.tmp 7), none⟩,
  ⟨(some 35), .load1 (.tmp 34), none⟩,
  ⟨(some 36), .call 95 [(.tmp 33), (.tmp 35)], none⟩,
  ⟨(some 37), .fieldAddr 6 (.tmp 7), none⟩,
  ⟨none, .store 1 (.tmp 37) (.tmp 36), none⟩] none
def f78r8 : ICode := .region [
  ⟨(some 39), .move (.tmp 0), none⟩,
  ⟨(some 40), .call 39 [(.tmp 39), (.const (.string ⟨⟨[63]⟩⟩))], none⟩,
  ⟨(some 38), .move (.tmp 40), none⟩] none
def f78r9 : ICode := .region [
  ⟨(some 41), .build [(.int .i64 (.ofNat 0)), (.slice none 0 0), (.bool false), (.int .i64 (.ofNat 0)), (.int .i64 (.ofNat 0)), (.bool false), (.int .i64 (.ofNat 0)), (.string ⟨⟨[]⟩⟩), (.slice none 0 0)] [], none⟩,
  ⟨none, .store 9 (.tmp 7) (.tmp 41), none⟩] none
def f78r10 : ICode := .region [
  ⟨(some 42), .move (.tmp 0), none⟩,
  ⟨(some 43), .move (.tmp 1), none⟩,
  ⟨(some 44), .call 96 [(.tmp 42), (.tmp 43)], none⟩,
  ⟨(some 45), .un .not (.tmp 44), none⟩] none
def f78r11 : ICode := .region [
  ⟨(some 46), .build [(.int .i64 (.ofNat 0)), (.slice none 0 0), (.bool false), (.int .i64 (.ofNat 0)), (.int .i64 (.ofNat 0)), (.bool false), (.int .i64 (.ofNat 0)), (.string ⟨⟨[]⟩⟩), (.slice none 0 0)] [], none⟩,
  ⟨none, .store 9 (.tmp 4) (.tmp 46), none⟩,
  ⟨(some 5), .move (.const (.bool false)), none⟩] none
def f78r12 : ICode := .region [
  ⟨(some 23), .move (.tmp 0), none⟩,
  ⟨(some 24), .call 95 [(.tmp 23), (.const (.string ⟨⟨[]⟩⟩))], none⟩,
  ⟨(some 25), .fieldAddr 6 (.tmp 7), none⟩,
  ⟨none, .store 1 (.tmp 25) (.tmp 24), none⟩] none
def f78r13 : ICode := .region [
  ⟨(some 47), .move (.tmp 0), none⟩,
  ⟨(some 48), .move (.tmp 0), none⟩,
  ⟨(some 49), .nilCheck (.tmp 48), none⟩,
  ⟨(some 50), .fieldAddr 5 (.tmp 49), none⟩,
  ⟨(some 51), .load1 (.tmp 50), none⟩,
  ⟨(some 52), .move (.tmp 1), none⟩,
  ⟨(some 53), .buildSlice 3 1 [(.int .i64 (.ofNat 0))] [(0, 1, (.tmp 52))], none⟩,
  ⟨(some 54), .append 3 1 8 (.tmp 51) (.tmp 53), none⟩,
  ⟨(some 55), .nilCheck (.tmp 47), none⟩,
  ⟨(some 56), .fieldAddr 5 (.tmp 55), none⟩,
  ⟨none, .store 1 (.tmp 56) (.tmp 54), none⟩] none
def f78r14 : ICode := .region [
  ⟨(some 57), .move (.tmp 0), none⟩,
  ⟨(some 58), .call 21 [(.tmp 57)], none⟩,
  ⟨(some 8), .new [(.int .i64 (.ofNat 0)), (.slice none 0 0), (.bool false), (.int .i64 (.ofNat 0)), (.int .i64 (.ofNat 0)), (.bool false), (.int .i64 (.ofNat 0)), (.string ⟨⟨[]⟩⟩), (.slice none 0 0)] 28, none⟩,
  ⟨none, .store 9 (.tmp 8) (.tmp 58), none⟩] none
def f78r15 : ICode := .region [
  ⟨(some 59), .move (.tmp 0), none⟩,
  ⟨(some 60), .call 39 [(.tmp 59), (.const (.string ⟨⟨[41]⟩⟩))], none⟩,
  ⟨(some 61), .un .not (.tmp 60), none⟩] none
def f78r16 : ICode := .region [
  ⟨(some 62), .move (.tmp 0), none⟩,
  ⟨(some 63), .move (.tmp 0), none⟩,
  ⟨(some 64), .nilCheck (.tmp 63), none⟩,
  ⟨(some 65), .fieldAddr 5 (.tmp 64), none⟩,
  ⟨(some 66), .load1 (.tmp 65), none⟩,
  ⟨(some 67), .move (.tmp 0), none⟩,
  ⟨(some 68), .nilCheck (.tmp 67), none⟩,
  ⟨(some 69), .fieldAddr 5 (.tmp 68), none⟩,
  ⟨(some 70), .load1 (.tmp 69), none⟩,
  ⟨(some 71), .len 1 (.tmp 70), none⟩,
  ⟨(some 72), .bin .sub (.tmp 71) (.const (.int .i64 (.ofNat 1))), none⟩,
  ⟨(some 73), .indexSl 1 (.tmp 66) (.tmp 72), none⟩,
  ⟨(some 74), .load1 (.tmp 73), none⟩,
  ⟨(some 75), .call 60 [(.tmp 62), (.const (.int .i64 (.ofNat 25))), (.tmp 74)], none⟩] (some ⟨[], []⟩)
def f78r17 : ICode := .region [
  ⟨(some 76), .move (.tmp 0), none⟩,
  ⟨(some 77), .move (.tmp 0), none⟩,
  ⟨(some 78), .nilCheck (.tmp 77), none⟩,
  ⟨(some 79), .fieldAddr 5 (.tmp 78), none⟩,
  ⟨(some 80), .load1 (.tmp 79), none⟩,
  ⟨(some 81), .move (.tmp 0), none⟩,
  ⟨(some 82), .nilCheck (.tmp 81), none⟩,
  ⟨(some 83), .fieldAddr 5 (.tmp 82), none⟩,
  ⟨(some 84), .load1 (.tmp 83), none⟩,
  ⟨(some 85), .len 1 (.tmp 84), none⟩,
  ⟨(some 86), .bin .sub (.tmp 85) (.const (.int .i64 (.ofNat 1))), none⟩,
  ⟨(some 87), .sliceSl 1 (.tmp 80) none (some (.tmp 86)), none⟩,
  ⟨(some 88), .nilCheck (.tmp 76), none⟩,
  ⟨(some 89), .fieldAddr 5 (.tmp 88), none⟩,
  ⟨none, .store 1 (.tmp 89) (.tmp 87), none⟩] (some ⟨[], []⟩)
def f78r18 : ICode := .region [
  ⟨(some 90), .move (.tmp 0), none⟩,
  ⟨(some 91), .loadN 4 (.tmp 6), none⟩,
  ⟨(some 92), .nilCheck (.tmp 90), none⟩,
  ⟨(some 93), .fieldAddr 7 (.tmp 92), none⟩,
  ⟨none, .store 4 (.tmp 93) (.tmp 91), none⟩] none
def f78r19 : ICode := .region [
  ⟨(some 94), .fieldAddr 0 (.tmp 7), none⟩,
  ⟨(some 95), .load1 (.tmp 94), none⟩,
  ⟨(some 96), .bin .neq (.tmp 95) (.const (.int .i64 (.ofNat 11))), none⟩] none
def f78r20 : ICode := .region [
  ⟨(some 97), .loadN 9 (.tmp 8), none⟩,
  ⟨none, .store 9 (.tmp 4) (.tmp 97), none⟩,
  ⟨(some 5), .move (.const (.bool true)), none⟩] none
def f78r21 : ICode := .region [
  ⟨(some 98), .loadN 9 (.tmp 8), none⟩,
  ⟨(some 99), .buildSlice 28 1 [(.int .i64 (.ofNat 0)), (.slice none 0 0), (.bool false), (.int .i64 (.ofNat 0)), (.int .i64 (.ofNat 0)), (.bool false), (.int .i64 (.ofNat 0)), (.string ⟨⟨[]⟩⟩), (.slice none 0 0)] [(0, 9, (.tmp 98))], none⟩,
  ⟨(some 100), .fieldAddr 8 (.tmp 7), none⟩,
  ⟨none, .store 1 (.tmp 100) (.tmp 99), none⟩] none
def f78r22 : ICode := .region [
  ⟨(some 101), .loadN 9 (.tmp 7), none⟩,
  ⟨none, .store 9 (.tmp 4) (.tmp 101), none⟩,
  ⟨(some 5), .move (.const (.bool true)), none⟩] none
/- (*ferret/syn.parser).brackets -/
def f78 : IFn := ⟨102, [.inr (4, (some 9)), .inl 5], (.seq f78r0 (.seq (.seq f78r1 (.cond (.tmp 14) f78r2 .skip)) (.seq f78r3 (.seq f78r4 (.seq (.block 0 (.seq f78r5 (.cond (.tmp 26) (.seq f78r6 f78r7) (.seq f78r8 (.cond (.tmp 38) (.seq f78r9 (.seq f78r10 (.cond (.tmp 45) (.seq f78r11 .ret) .skip))) f78r12))))) (.seq f78r13 (.seq f78r14 (.seq (.seq f78r15 (.cond (.tmp 61) f78r16 .skip)) (.seq f78r17 (.seq f78r18 (.seq (.seq f78r19 (.cond (.tmp 96) (.seq f78r20 .ret) .skip)) (.seq f78r21 (.seq f78r22 .ret)))))))))))))⟩
def f79r0 : ICode := .region [
  ⟨(some 2), .move (.const (.slice none 0 0)), none⟩] none
def f79r1 : ICode := .region [
  ⟨(some 3), .move (.tmp 0), none⟩,
  ⟨(some 4), .move (.tmp 0), none⟩,
  ⟨(some 5), .build [(.int .i64 (.ofNat 0)), (.int .i64 (.ofNat 0))] [(0, 1, (.tmp 3)), (1, 1, (.tmp 4))], none⟩,
  ⟨(some 6), .buildSlice 53 1 [(.int .i64 (.ofNat 0)), (.int .i64 (.ofNat 0))] [(0, 2, (.tmp 5))], none⟩,
  ⟨(some 7), .call 67 [(.tmp 6)], none⟩,
  ⟨(some 2), .move (.tmp 7), none⟩] none
/- ferret/syn.one -/
def f79 : IFn := ⟨8, [.inl 2], (.seq f79r0 (.seq f79r1 .ret))⟩
def f80r0 : ICode := .region [
  ⟨(some 4), .new [(.int .i64 (.ofNat 0)), (.slice none 0 0), (.bool false), (.int .i64 (.ofNat 0)), (.int .i64 (.ofNat 0)), (.bool false), (.int .i64 (.ofNat 0)), (.string ⟨⟨[]⟩⟩), (.slice none 0 0)] 28, none⟩] none
def f80r1 : ICode := .region [
  ⟨(some 5), .move (.tmp 1), none⟩,
  ⟨(some 6), .move (.tmp 0), none⟩,
  ⟨(some 7), .nilCheck (.tmp 6), none⟩,
  ⟨(some 8), .fieldAddr 7 (.tmp 7), none⟩,
  ⟨(some 9), .fieldAddr 0 (.tmp 8), none⟩,
  ⟨(some 10), .load1 (.tmp 9), none⟩,
  ⟨(some 11), .build [(.int .i64 (.ofNat 0)), (.slice none 0 0), (.bool false), (.int .i64 (.ofNat 0)), (.int .i64 (.ofNat 0)), (.bool false), (.int .i64 (.ofNat 0)), (.string ⟨⟨[]⟩⟩), (.slice none 0 0)] [(0, 1, (.const (.int .i64 (.ofNat 1)))), (1, 1, (.tmp 5)), (2, 1, (.tmp 10))], none⟩,
  ⟨none, .store 9 (.tmp 4) (.tmp 11), none⟩] none
/- (*ferret/syn.parser).class -/
def f80 : IFn := ⟨12, [.inr (4, (some 9))], (.seq f80r0 (.seq f80r1 .ret))⟩
def f81r0 : ICode := .region [
  ⟨(some 6), .move (.const (.int .i64 (.ofNat 0))), none⟩] none
def f81r1 : ICode := .region [
  ⟨(some 7), .move (.tmp 0), none⟩] none
def f81r2 : ICode := .region [
  ⟨(some 8), .move (.tmp 1), none⟩,
  ⟨(some 6), .move (.tmp 8), none⟩] none
def f81r3 : ICode := .region [
  ⟨(some 9), .move (.tmp 2), none⟩,
  ⟨(some 6), .move (.tmp 9), none⟩] none
/- ferret/syn.pick[int] -/
def f81 : IFn := ⟨10, [.inl 6], (.seq f81r0 (.seq (.seq f81r1 (.cond (.tmp 7) (.seq f81r2 .ret) .skip)) (.seq f81r3 .ret)))⟩
def f82r0 : ICode := .region [
  ⟨(some 4), .move (.const (.slice none 0 0)), none⟩] none
def f82r1 : ICode := .region [
  ⟨(some 13), .move (.tmp 0), none⟩,
  ⟨(some 14), .call 39 [(.tmp 13), (.const (.string ⟨⟨[94]⟩⟩))], none⟩,
  ⟨(some 5), .move (.tmp 14), none⟩] none
def f82r2 : ICode := .region [
  ⟨(some 6), .move (.const (.slice none 0 0)), none⟩] none
def f82r3 : ICode := .region [
  ⟨(some 7), .move (.const (.bool true)), none⟩] none
def f82r4 : ICode := .region [
  ⟨(some 15), .move (.tmp 7), none⟩,
  ⟨(some 16), .move (.tmp 15), none⟩,
  ⟨(some 17), .move (.tmp 0), (some ((some 16), false))⟩,
  ⟨(some 18), .call 59 [(.tmp 17), (.const (.int .i64 (.ofNat 0)))], (some ((some 16), false))⟩,
  ⟨(some 19), .bin .neq (.tmp 18) (.const (.int .i64 (.ofNat 93))), (some ((some 16), false))⟩,
  ⟨(some 20), .pick (.tmp 16) (.const (.bool true)) (.tmp 19), none⟩] none
def f82r5 : ICode := .region [
  ⟨(some 21), .move (.tmp 0), none⟩,
  ⟨(some 22), .call 59 [(.tmp 21), (.const (.int .i64 (.ofNat 0)))], none⟩,
  ⟨(some 23), .bin .eql (.tmp 22) (.const (.int .i64 (.negSucc 0))), none⟩] none
def f82r6 : ICode := .region [
  ⟨(some 24), .move (.tmp 0), none⟩,
  ⟨(some 25), .move (.tmp 1), none⟩,
  ⟨(some 26), .call 60 [(.tmp 24), (.const (.int .i64 (.ofNat 24))), (.tmp 25)], none⟩] none
def f82r7 : ICode := .region [
  ⟨(some 27), .move (.tmp 0), none⟩,
  ⟨(some 28), .nilCheck (.tmp 27), none⟩,
  ⟨(some 29), .fieldAddr 4 (.tmp 28), none⟩,
  ⟨(some 30), .load1 (.tmp 29), none⟩,
  ⟨(some 8), .move (.tmp 30), none⟩] none
def f82r8 : ICode := .region [
  ⟨(some 32), .move (.tmp 0), none⟩,
  ⟨(some 33), .call 97 [(.tmp 32)], none⟩,
  ⟨(some 31), .move (.tmp 33), none⟩,
  ⟨(some 34), .extract (.tmp 31) 0, none⟩,
  ⟨(some 35), .extract (.tmp 31) 1, none⟩,
  ⟨(some 9), .move (.tmp 34), none⟩,
  ⟨(some 10), .move (.tmp 35), none⟩] none
def f82r9 : ICode := .region [
  ⟨(some 36), .move (.tmp 10), none⟩,
  ⟨(some 37), .bin .geq (.tmp 36) (.const (.int .i64 (.ofNat 0))), none⟩,
  ⟨(some 38), .move (.tmp 37), none⟩,
  ⟨(some 39), .move (.tmp 0), (some ((some 38), true))⟩,
  ⟨(some 40), .call 59 [(.tmp 39), (.const (.int .i64 (.ofNat 0)))], (some ((some 38), true))⟩,
  ⟨(some 41), .bin .eql (.tmp 40) (.const (.int .i64 (.ofNat 45))), (some ((some 38), true))⟩,
  ⟨(some 42), .pick (.tmp 38) (.tmp 41) (.const (.bool false)), none⟩,
  ⟨(some 43), .move (.tmp 42), none⟩,
  ⟨(some 44), .move (.tmp 0), (some ((some 43), true))⟩,
  ⟨(some 45), .call 59 [(.tmp 44), (.const (.int .i64 (.ofNat 1)))], (some ((some 43), true))⟩,
  ⟨(some 46), .bin .neq (.tmp 45) (.const (.int .i64 (.ofNat 93))), (some ((some 43), true))⟩,
  ⟨(some 47), .pick (.tmp 43) (.tmp 46) (.const (.bool false)), none⟩,
  ⟨(some 48), .move (.tmp 47), none⟩,
  ⟨(some 49), .move (.tmp 0), (some ((some 48), true))⟩,
  ⟨(some 50), .call 59 [(.tmp 49), (.const (.int .i64 (.ofNat 1)))], (some ((some 48), true))⟩,
  ⟨(some 51), .bin .neq (.tmp 50) (.const (.int .i64 (.negSucc 0))), (some ((some 48), true))⟩,
  ⟨(some 52), .pick (.tmp 48) (.tmp 51) (.const (.bool false)), none⟩] none
def f82r10 : ICode := .region [
  ⟨(some 53), .move (.tmp 0), none⟩,
  ⟨(some 54), .nilCheck (.tmp 53), none⟩,
  ⟨(some 55), .fieldAddr 4 (.tmp 54), none⟩,
  ⟨(some 56), .load1 (.tmp 55), none⟩,
  ⟨(some 57), .bin .add (.tmp 56) (.const (.int .i64 (.ofNat 1))), none⟩,
  ⟨(some 58), .nilCheck (.tmp 53), none⟩,
  ⟨(some 59), .fieldAddr 4 (.tmp 58), none⟩,
  ⟨none, .store 1 (.tmp 59) (.tmp 57), none⟩] none
def f82r11 : ICode := .region [
  ⟨(some 61), .move (.tmp 0), none⟩,
  ⟨(some 62), .call 97 [(.tmp 61)], none⟩,
  ⟨(some 60), .move (.tmp 62), none⟩,
  ⟨(some 63), .extract (.tmp 60) 0, none⟩,
  ⟨(some 64), .extract (.tmp 60) 1, none⟩,
  ⟨(some 11), .move (.tmp 63), none⟩,
  ⟨(some 12), .move (.tmp 64), none⟩] none
def f82r12 : ICode := .region [
  ⟨(some 65), .move (.tmp 12), none⟩,
  ⟨(some 66), .move (.tmp 10), none⟩,
  ⟨(some 67), .bin .lss (.tmp 65) (.tmp 66), none⟩] none
def f82r13 : ICode := .region [
  ⟨(some 68), .move (.tmp 0), none⟩,
  ⟨(some 69), .move (.tmp 8), none⟩,
  ⟨(some 70), .call 60 [(.tmp 68), (.const (.int .i64 (.ofNat 22))), (.tmp 69)], none⟩] none
def f82r14 : ICode := .region [
  ⟨(some 71), .move (.tmp 10), none⟩,
  ⟨(some 72), .move (.tmp 12), none⟩,
  ⟨(some 73), .build [(.int .i64 (.ofNat 0)), (.int .i64 (.ofNat 0))] [(0, 1, (.tmp 71)), (1, 1, (.tmp 72))], none⟩,
  ⟨(some 74), .buildSlice 53 1 [(.int .i64 (.ofNat 0)), (.int .i64 (.ofNat 0))] [(0, 2, (.tmp 73))], none⟩,
  ⟨(some 75), .call 67 [(.tmp 74)], none⟩,
  ⟨(some 9), .move (.tmp 75), none⟩] none
def f82r15 : ICode := .region [
  ⟨(some 76), .move (.tmp 6), none⟩,
  ⟨(some 77), .move (.tmp 9), none⟩,
  ⟨(some 78), .call 98 [(.tmp 76), (.tmp 77)], none⟩,
  ⟨(some 6), .move (.tmp 78), none⟩] none
def f82r16 : ICode := .region [
  ⟨(some 7), .move (.const (.bool false)), none⟩] none
def f82r17 : ICode := .region [
  ⟨(some 79), .move (.tmp 0), none⟩,
  ⟨(some 80), .nilCheck (.tmp 79), none⟩,
  ⟨(some 81), .fieldAddr 4 (.tmp 80), none⟩,
  ⟨(some 82), .load1 (.tmp 81), none⟩,
  ⟨(some 83), .bin .add (.tmp 82) (.const (.int .i64 (.ofNat 1))), none⟩,
  ⟨(some 84), .nilCheck (.tmp 79), none⟩,
  ⟨(some 85), .fieldAddr 4 (.tmp 84), none⟩,
  ⟨none, .store 1 (.tmp 85) (.tmp 83), none⟩] none
def f82r18 : ICode := .region [
  ⟨(some 86), .move (.tmp 5), none⟩] none
def f82r19 : ICode := .region [
  ⟨(some 87), .move (.tmp 6), none⟩,
  ⟨(some 88), .call 88 [(.tmp 87)], none⟩,
  ⟨(some 6), .move (.tmp 88), none⟩] none
def f82r20 : ICode := .region [
  ⟨(some 89), .move (.tmp 6), none⟩,
  ⟨(some 4), .move (.tmp 89), none⟩] none
/- (*ferret/syn.parser).list -/
def f82 : IFn := ⟨90, [.inl 4], (.seq f82r0 (.seq f82r1 (.seq f82r2 (.seq (.seq f82r3 (.block 0 (.loop (.seq (.seq f82r4 (.cond (.tmp 20) .skip (.exit 0))) (.seq (.block 1 (.seq (.seq f82r5 (.cond (.tmp 23) f82r6 .skip)) (.seq f82r7 (.seq f82r8 (.seq (.seq f82r9 (.cond (.tmp 52) (.seq f82r10 (.seq f82r11 (.seq (.seq f82r12 (.cond (.tmp 67) f82r13 .skip)) f82r14))) .skip)) f82r15))))) f82r16))))) (.seq f82r17 (.seq (.seq f82r18 (.cond (.tmp 86) f82r19 .skip)) (.seq f82r20 .ret)))))))⟩
def f83r0 : ICode := .region [
  ⟨(some 4), .move (.const (.slice none 0 0)), none⟩,
  ⟨(some 5), .move (.const (.int .i64 (.ofNat 0))), none⟩] none
def f83r1 : ICode := .region [
  ⟨(some 12), .move (.tmp 0), none⟩,
  ⟨(some 13), .call 59 [(.tmp 12), (.const (.int .i64 (.ofNat 0)))], none⟩,
  ⟨(some 6), .move (.tmp 13), none⟩] none
def f83r2 : ICode := .region [
  ⟨(some 14), .move (.tmp 0), none⟩,
  ⟨(some 15), .nilCheck (.tmp 14), none⟩,
  ⟨(some 16), .fieldAddr 4 (.tmp 15), none⟩,
  ⟨(some 17), .load1 (.tmp 16), none⟩,
  ⟨(some 18), .bin .add (.tmp 17) (.const (.int .i64 (.ofNat 1))), none⟩,
  ⟨(some 19), .nilCheck (.tmp 14), none⟩,
  ⟨(some 20), .fieldAddr 4 (.tmp 19), none⟩,
  ⟨none, .store 1 (.tmp 20) (.tmp 18), none⟩] none
def f83r3 : ICode := .region [
  ⟨(some 22), .move (.tmp 6), none⟩,
  ⟨(some 23), .bin .lss (.tmp 22) (.const (.int .i64 (.ofNat 33))), none⟩,
  ⟨(some 24), .move (.tmp 23), none⟩,
  ⟨(some 25), .move (.tmp 6), (some ((some 24), false))⟩,
  ⟨(some 26), .bin .gtr (.tmp 25) (.const (.int .i64 (.ofNat 126))), (some ((some 24), false))⟩,
  ⟨(some 27), .pick (.tmp 24) (.const (.bool true)) (.tmp 26), none⟩,
  ⟨(some 21), .move (.tmp 27), none⟩] none
def f83r4 : ICode := .region [
  ⟨(some 28), .move (.tmp 0), none⟩,
  ⟨(some 29), .move (.tmp 1), none⟩,
  ⟨(some 30), .call 60 [(.tmp 28), (.const (.int .i64 (.ofNat 20))), (.tmp 29)], none⟩] none
def f83r5 : ICode := .region [
  ⟨(some 32), .move (.tmp 6), none⟩,
  ⟨(some 33), .bin .eql (.tmp 32) (.const (.int .i64 (.ofNat 112))), none⟩,
  ⟨(some 34), .move (.tmp 33), none⟩,
  ⟨(some 35), .move (.tmp 6), (some ((some 34), false))⟩,
  ⟨(some 36), .bin .eql (.tmp 35) (.const (.int .i64 (.ofNat 80))), (some ((some 34), false))⟩,
  ⟨(some 37), .pick (.tmp 34) (.const (.bool true)) (.tmp 36), none⟩,
  ⟨(some 31), .move (.tmp 37), none⟩] none
def f83r6 : ICode := .region [
  ⟨(some 38), .move (.tmp 0), none⟩,
  ⟨(some 39), .move (.tmp 1), none⟩,
  ⟨(some 40), .call 99 [(.tmp 38), (.tmp 39)], none⟩,
  ⟨(some 7), .move (.tmp 40), none⟩] none
def f83r7 : ICode := .region [
  ⟨(some 41), .move (.tmp 6), none⟩,
  ⟨(some 42), .bin .eql (.tmp 41) (.const (.int .i64 (.ofNat 80))), none⟩] none
def f83r8 : ICode := .region [
  ⟨(some 43), .move (.tmp 7), none⟩,
  ⟨(some 44), .call 88 [(.tmp 43)], none⟩,
  ⟨(some 7), .move (.tmp 44), none⟩] none
def f83r9 : ICode := .region [
  ⟨(some 45), .move (.tmp 7), none⟩,
  ⟨(some 4), .move (.tmp 45), none⟩,
  ⟨(some 5), .move (.const (.int .i64 (.negSucc 0))), none⟩] none
def f83r10 : ICode := .region [
  ⟨(some 47), .move (.tmp 6), none⟩,
  ⟨(some 48), .bin .eql (.tmp 47) (.const (.int .i64 (.ofNat 120))), none⟩,
  ⟨(some 46), .move (.tmp 48), none⟩] none
def f83r11 : ICode := .region [
  ⟨(some 49), .move (.tmp 0), none⟩,
  ⟨(some 50), .move (.tmp 1), none⟩,
  ⟨(some 51), .call 100 [(.tmp 49), (.tmp 50)], none⟩,
  ⟨(some 8), .move (.tmp 51), none⟩] none
def f83r12 : ICode := .region [
  ⟨(some 52), .move (.tmp 8), none⟩,
  ⟨(some 53), .call 79 [(.tmp 52)], none⟩,
  ⟨(some 54), .move (.tmp 8), none⟩,
  ⟨(some 4), .move (.tmp 53), none⟩,
  ⟨(some 5), .move (.tmp 54), none⟩] none
def f83r13 : ICode := .region [
  ⟨(some 56), .move (.tmp 6), none⟩,
  ⟨(some 57), .conv .u8 (.tmp 56), none⟩,
  ⟨(some 58), .call 101 [(.tmp 57)], none⟩,
  ⟨(some 55), .move (.tmp 58), none⟩,
  ⟨(some 59), .extract (.tmp 55) 0, none⟩,
  ⟨(some 60), .extract (.tmp 55) 1, none⟩,
  ⟨(some 9), .move (.tmp 59), none⟩,
  ⟨(some 10), .move (.tmp 60), none⟩] none
def f83r14 : ICode := .region [
  ⟨(some 61), .move (.tmp 10), none⟩] none
def f83r15 : ICode := .region [
  ⟨(some 62), .move (.tmp 9), none⟩,
  ⟨(some 4), .move (.tmp 62), none⟩,
  ⟨(some 5), .move (.const (.int .i64 (.negSucc 0))), none⟩] none
def f83r16 : ICode := .region [
  ⟨(some 63), .move (.tmp 6), none⟩,
  ⟨(some 64), .conv .u8 (.tmp 63), none⟩,
  ⟨(some 65), .call 102 [(.const (.string ⟨⟨[110, 116, 114, 102, 118]⟩⟩)), (.tmp 64)], none⟩,
  ⟨(some 11), .move (.tmp 65), none⟩] none
def f83r17 : ICode := .region [
  ⟨(some 66), .move (.tmp 11), none⟩,
  ⟨(some 67), .bin .geq (.tmp 66) (.const (.int .i64 (.ofNat 0))), none⟩] none
def f83r18 : ICode := .region [
  ⟨(some 68), .move (.tmp 11), none⟩,
  ⟨(some 69), .indexStr (.const (.string ⟨⟨[10, 9, 13, 12, 11]⟩⟩)) (.tmp 68), none⟩,
  ⟨(some 70), .conv .i64 (.tmp 69), none⟩,
  ⟨(some 6), .move (.tmp 70), none⟩] none
def f83r19 : ICode := .region [
  ⟨(some 71), .move (.tmp 6), none⟩,
  ⟨(some 72), .call 79 [(.tmp 71)], none⟩,
  ⟨(some 73), .move (.tmp 6), none⟩,
  ⟨(some 4), .move (.tmp 72), none⟩,
  ⟨(some 5), .move (.tmp 73), none⟩] none
def f83r20 : ICode := .region [
  ⟨(some 74), .move (.tmp 6), none⟩,
  ⟨(some 75), .bin .geq (.tmp 74) (.const (.int .i64 (.ofNat 48))), none⟩,
  ⟨(some 76), .move (.tmp 75), none⟩,
  ⟨(some 77), .move (.tmp 6), (some ((some 76), true))⟩,
  ⟨(some 78), .bin .leq (.tmp 77) (.const (.int .i64 (.ofNat 57))), (some ((some 76), true))⟩,
  ⟨(some 79), .pick (.tmp 76) (.tmp 78) (.const (.bool false)), none⟩,
  ⟨(some 80), .move (.tmp 79), none⟩,
  ⟨(some 81), .move (.tmp 6), (some ((some 80), false))⟩,
  ⟨(some 82), .bin .or (.tmp 81) (.const (.int .i64 (.ofNat 32))), (some ((some 80), false))⟩,
  ⟨(some 83), .bin .geq (.tmp 82) (.const (.int .i64 (.ofNat 97))), (some ((some 80), false))⟩,
  ⟨(some 84), .move (.tmp 83), (some ((some 80), false))⟩,
  ⟨(some 85), .move (.tmp 6), (some ((some 84), true))⟩,
  ⟨(some 86), .bin .or (.tmp 85) (.const (.int .i64 (.ofNat 32))), (some ((some 84), true))⟩,
  ⟨(some 87), .bin .leq (.tmp 86) (.const (.int .i64 (.ofNat 122))), (some ((some 84), true))⟩,
  ⟨(some 88), .pick (.tmp 84) (.tmp 87) (.const (.bool false)), (some ((some 80), false))⟩,
  ⟨(some 89), .pick (.tmp 80) (.const (.bool true)) (.tmp 88), none⟩] none
def f83r21 : ICode := .region [
  ⟨(some 90), .move (.tmp 0), none⟩,
  ⟨(some 91), .move (.tmp 1), none⟩,
  ⟨(some 92), .call 60 [(.tmp 90), (.const (.int .i64 (.ofNat 20))), (.tmp 91)], none⟩] none
def f83r22 : ICode := .region [
  ⟨(some 93), .move (.tmp 6), none⟩,
  ⟨(some 94), .call 79 [(.tmp 93)], none⟩,
  ⟨(some 95), .move (.tmp 6), none⟩,
  ⟨(some 4), .move (.tmp 94), none⟩,
  ⟨(some 5), .move (.tmp 95), none⟩] none
/- (*ferret/syn.parser).escape -/
def f83 : IFn := ⟨96, [.inl 4, .inl 5], (.seq f83r0 (.seq f83r1 (.seq f83r2 (.seq (.block 0 (.seq f83r3 (.cond (.tmp 21) f83r4 (.seq f83r5 (.cond (.tmp 31) (.seq f83r6 (.seq (.seq f83r7 (.cond (.tmp 42) f83r8 .skip)) (.seq f83r9 .ret))) (.seq f83r10 (.cond (.tmp 46) (.seq f83r11 (.seq f83r12 .ret)) .skip))))))) (.seq (.seq f83r13 (.seq f83r14 (.cond (.tmp 61) (.seq f83r15 .ret) .skip))) (.seq (.seq f83r16 (.seq f83r17 (.cond (.tmp 67) (.seq f83r18 (.seq f83r19 .ret)) .skip))) (.seq (.seq f83r20 (.cond (.tmp 89) f83r21 .skip)) (.seq f83r22 .ret))))))))⟩
def f84r0 : ICode := .region [
  ⟨(some 2), .move (.const (.slice none 0 0)), none⟩] none
def f84r1 : ICode := .region [
  ⟨(some 3), .move (.tmp 0), none⟩,
  ⟨(some 4), .nilEq false 1 (.tmp 3) (.const (.slice none 0 0)), none⟩] none
def f84r2 : ICode := .region [
  ⟨(some 2), .move (.const (.slice none 0 0)), none⟩] none
def f84r3 : ICode := .region [
  ⟨(some 5), .bad, none⟩,
  ⟨(some 6), .move (.tmp 0), none⟩,
  ⟨(some 7), .append 53 2 16 (.tmp 5) (.tmp 6), none⟩,
  ⟨(some 2), .move (.tmp 7), none⟩] none
/- slices.Clone[ferret/sets.Set,ferret/api.Range] -/
def f84 : IFn := ⟨8, [.inl 2], (.seq f84r0 (.seq (.seq f84r1 (.cond (.tmp 4) (.seq f84r2 .ret) .skip)) (.seq f84r3 .ret)))⟩
def f85r0 : ICode := .region [
  ⟨(some 4), .move (.const (.slice none 0 0)), none⟩] none
def f85r1 : ICode := .region [
  ⟨(some 5), .move (.const (.slice none 0 0)), none⟩] none
def f85r2 : ICode := .region [
  ⟨(some 6), .move (.const (.int .i64 (.ofNat 0))), none⟩,
  ⟨(some 7), .move (.const (.int .i64 (.ofNat 0))), none⟩] none
def f85r3 : ICode := .region [
  ⟨(some 9), .move (.tmp 6), none⟩,
  ⟨(some 10), .move (.tmp 0), none⟩,
  ⟨(some 11), .len 1 (.tmp 10), none⟩,
  ⟨(some 12), .bin .lss (.tmp 9) (.tmp 11), none⟩,
  ⟨(some 13), .move (.tmp 12), none⟩,
  ⟨(some 14), .move (.tmp 7), (some ((some 13), true))⟩,
  ⟨(some 15), .move (.tmp 1), (some ((some 13), true))⟩,
  ⟨(some 16), .len 1 (.tmp 15), (some ((some 13), true))⟩,
  ⟨(some 17), .bin .lss (.tmp 14) (.tmp 16), (some ((some 13), true))⟩,
  ⟨(some 18), .pick (.tmp 13) (.tmp 17) (.const (.bool false)), none⟩] none
def f85r4 : ICode := .region [
  ⟨(some 19), .move (.tmp 0), none⟩,
  ⟨(some 20), .move (.tmp 6), none⟩,
  ⟨(some 21), .indexSl 2 (.tmp 19) (.tmp 20), none⟩,
  ⟨(some 22), .fieldAddr 0 (.tmp 21), none⟩,
  ⟨(some 23), .load1 (.tmp 22), none⟩,
  ⟨(some 24), .move (.tmp 1), none⟩,
  ⟨(some 25), .move (.tmp 7), none⟩,
  ⟨(some 26), .indexSl 2 (.tmp 24) (.tmp 25), none⟩,
  ⟨(some 27), .fieldAddr 0 (.tmp 26), none⟩,
  ⟨(some 28), .load1 (.tmp 27), none⟩,
  ⟨(some 29), .minmax true (.tmp 23) (.tmp 28), none⟩,
  ⟨(some 30), .move (.tmp 0), none⟩,
  ⟨(some 31), .move (.tmp 6), none⟩,
  ⟨(some 32), .indexSl 2 (.tmp 30) (.tmp 31), none⟩,
  ⟨(some 33), .fieldAddr 1 (.tmp 32), none⟩,
  ⟨(some 34), .load1 (.tmp 33), none⟩,
  ⟨(some 35), .move (.tmp 1), none⟩,
  ⟨(some 36), .move (.tmp 7), none⟩,
  ⟨(some 37), .indexSl 2 (.tmp 35) (.tmp 36), none⟩,
  ⟨(some 38), .fieldAddr 1 (.tmp 37), none⟩,
  ⟨(some 39), .load1 (.tmp 38), none⟩,
  ⟨(some 40), .minmax false (.tmp 34) (.tmp 39), none⟩,
  ⟨(some 41), .build [(.int .i64 (.ofNat 0)), (.int .i64 (.ofNat 0))] [(0, 1, (.tmp 29)), (1, 1, (.tmp 40))], none⟩,
  ⟨(some 8), .new [(.int .i64 (.ofNat 0)), (.int .i64 (.ofNat 0))] 53, none⟩,
  ⟨none, .store 2 (.tmp 8) (.tmp 41), none⟩] (some ⟨[], []⟩)
def f85r5 : ICode := .region [
  ⟨(some 42), .fieldAddr 0 (.tmp 8), none⟩,
  ⟨(some 43), .load1 (.tmp 42), none⟩,
  ⟨(some 44), .fieldAddr 1 (.tmp 8), none⟩,
  ⟨(some 45), .load1 (.tmp 44), none⟩,
  ⟨(some 46), .bin .leq (.tmp 43) (.tmp 45), none⟩] none
def f85r6 : ICode := .region [
  ⟨(some 47), .move (.tmp 5), none⟩,
  ⟨(some 48), .loadN 2 (.tmp 8), none⟩,
  ⟨(some 49), .buildSlice 53 1 [(.int .i64 (.ofNat 0)), (.int .i64 (.ofNat 0))] [(0, 2, (.tmp 48))], none⟩,
  ⟨(some 50), .append 53 2 16 (.tmp 47) (.tmp 49), none⟩,
  ⟨(some 5), .move (.tmp 50), none⟩] none
def f85r7 : ICode := .region [
  ⟨(some 51), .move (.tmp 0), none⟩,
  ⟨(some 52), .move (.tmp 6), none⟩,
  ⟨(some 53), .indexSl 2 (.tmp 51) (.tmp 52), none⟩,
  ⟨(some 54), .fieldAddr 1 (.tmp 53), none⟩,
  ⟨(some 55), .load1 (.tmp 54), none⟩,
  ⟨(some 56), .move (.tmp 1), none⟩,
  ⟨(some 57), .move (.tmp 7), none⟩,
  ⟨(some 58), .indexSl 2 (.tmp 56) (.tmp 57), none⟩,
  ⟨(some 59), .fieldAddr 1 (.tmp 58), none⟩,
  ⟨(some 60), .load1 (.tmp 59), none⟩,
  ⟨(some 61), .bin .lss (.tmp 55) (.tmp 60), none⟩] (some ⟨[], []⟩)
def f85r8 : ICode := .region [
  ⟨(some 62), .move (.tmp 6), none⟩,
  ⟨(some 63), .bin .add (.tmp 62) (.const (.int .i64 (.ofNat 1))), none⟩,
  ⟨(some 6), .move (.tmp 63), none⟩] none
def f85r9 : ICode := .region [
  ⟨(some 64), .move (.tmp 7), none⟩,
  ⟨(some 65), .bin .add (.tmp 64) (.const (.int .i64 (.ofNat 1))), none⟩,
  ⟨(some 7), .move (.tmp 65), none⟩] none
def f85r10 : ICode := .region [
  ⟨(some 66), .move (.tmp 5), none⟩,
  ⟨(some 4), .move (.tmp 66), none⟩] none
/- (ferret/sets.Set).And -/
def f85 : IFn := ⟨67, [.inl 4], (.seq f85r0 (.seq f85r1 (.seq (.seq f85r2 (.block 0 (.loop (.seq (.seq f85r3 (.cond (.tmp 18) .skip (.exit 0))) (.block 1 (.seq f85r4 (.seq (.seq f85r5 (.cond (.tmp 46) f85r6 .skip)) (.seq f85r7 (.cond (.tmp 61) f85r8 f85r9))))))))) (.seq f85r10 .ret))))⟩
def f87r0 : ICode := .region [
  ⟨(some 2), .box 25 (.tmp 0), none⟩,
  ⟨(some 3), .box 3 (.tmp 1), none⟩,
  ⟨(some 4), .move (.const (.bool false)), none⟩] none
def f87r1 : ICode := .region [
  ⟨(some 6), .load1 (.tmp 2), none⟩,
  ⟨(some 7), .len 1 (.tmp 6), none⟩,
  ⟨(some 8), .mkFunc (.func 105) [] [(.tmp 2), (.tmp 3)], none⟩,
  ⟨(some 9), .call 104 [(.tmp 7), (.tmp 8)], none⟩,
  ⟨(some 5), .move (.tmp 9), none⟩] none
def f87r2 : ICode := .region [
  ⟨(some 10), .move (.tmp 5), none⟩,
  ⟨(some 11), .load1 (.tmp 2), none⟩,
  ⟨(some 12), .len 1 (.tmp 11), none⟩,
  ⟨(some 13), .bin .lss (.tmp 10) (.tmp 12), none⟩,
  ⟨(some 14), .move (.tmp 13), none⟩,
  ⟨(some 15), .load1 (.tmp 2), (some ((some 14), true))⟩,
  ⟨(some 16), .move (.tmp 5), (some ((some 14), true))⟩,
  ⟨(some 17), .indexSl 2 (.tmp 15) (.tmp 16), (some ((some 14), true))⟩,
  ⟨(some 18), .fieldAddr 0 (.tmp 17), (some ((some 14), true))⟩,
  ⟨(some 19), .load1 (.tmp 18), (some ((some 14), true))⟩,
  ⟨(some 20), .load1 (.tmp 3), (some ((some 14), true))⟩,
  ⟨(some 21), .bin .leq (.tmp 19) (.tmp 20), (some ((some 14), true))⟩,
  ⟨(some 22), .pick (.tmp 14) (.tmp 21) (.const (.bool false)), none⟩,
  ⟨(some 4), .move (.tmp 22), none⟩] (some ⟨[], []⟩)
/- (ferret/sets.Set).Has -/
def f87 : IFn := ⟨23, [.inl 4], (.seq f87r0 (.seq f87r1 (.seq f87r2 .ret)))⟩
def f86r0 : ICode := .region [
  ⟨(some 4), .move (.const (.bool false)), none⟩] none
def f86r1 : ICode := .region [
  ⟨(some 5), .move (.tmp 0), none⟩,
  ⟨(some 6), .move (.tmp 1), none⟩,
  ⟨(some 7), .call 103 [(.tmp 5), (.tmp 6)], none⟩,
  ⟨(some 8), .bin .geq (.tmp 7) (.const (.int .i64 (.ofNat 0))), none⟩,
  ⟨(some 4), .move (.tmp 8), none⟩] none
/- slices.ContainsFunc[[]int,int] -/
def f86 : IFn := ⟨9, [.inl 4], (.seq f86r0 (.seq f86r1 .ret))⟩
def f90r0 : ICode := .region [
  ⟨(some 5), .move (.const (.bool false)), none⟩] none
def f90r1 : ICode := .region [
  ⟨(some 6), .load1 (.tmp 2), none⟩,
  ⟨(some 7), .move (.tmp 0), none⟩,
  ⟨(some 8), .indexSl 2 (.tmp 6) (.tmp 7), none⟩,
  ⟨(some 9), .fieldAddr 0 (.tmp 8), none⟩,
  ⟨(some 10), .load1 (.tmp 9), none⟩,
  ⟨(some 11), .load1 (.tmp 2), none⟩,
  ⟨(some 12), .move (.tmp 1), none⟩,
  ⟨(some 13), .indexSl 2 (.tmp 11) (.tmp 12), none⟩,
  ⟨(some 14), .fieldAddr 0 (.tmp 13), none⟩,
  ⟨(some 15), .load1 (.tmp 14), none⟩,
  ⟨(some 16), .bin .lss (.tmp 10) (.tmp 15), none⟩,
  ⟨(some 5), .move (.tmp 16), none⟩] (some ⟨[], []⟩)
/- ferret/sets.Of$1 -/
def f90 : IFn := ⟨17, [.inl 5], (.seq f90r0 (.seq f90r1 .ret))⟩
def f89r0 : ICode := .region [
  ⟨(some 8), .move (.tmp 0), none⟩,
  ⟨(some 9), .call 106 [(.tmp 8)], none⟩,
  ⟨(some 4), .new [(.pointer none), (.pointer none), (.int .u64 (.ofNat 0))] 152, none⟩,
  ⟨none, .store 3 (.tmp 4) (.tmp 9), none⟩] none
def f89r1 : ICode := .region [
  ⟨(some 10), .move (.tmp 0), none⟩,
  ⟨(some 11), .call 107 [(.tmp 10)], none⟩,
  ⟨(some 5), .move (.tmp 11), none⟩] none
def f89r2 : ICode := .region [
  ⟨(some 12), .loadN 3 (.tmp 4), none⟩,
  ⟨(some 13), .call 108 [(.tmp 12)], none⟩,
  ⟨(some 6), .move (.tmp 13), none⟩] none
def f89r3 : ICode := .region [
  ⟨(some 14), .move (.tmp 6), none⟩,
  ⟨(some 15), .conv .u64 (.tmp 14), none⟩,
  ⟨(some 16), .call 109 [(.tmp 15)], none⟩,
  ⟨(some 7), .move (.tmp 16), none⟩] none
def f89r4 : ICode := .region [
  ⟨(some 17), .move (.tmp 1), none⟩,
  ⟨(some 18), .move (.tmp 5), none⟩,
  ⟨(some 19), .build [.nilFunc, .nilFunc] [(0, 1, (.tmp 17)), (1, 1, (.tmp 18))], none⟩,
  ⟨(some 20), .move (.tmp 6), none⟩,
  ⟨(some 21), .move (.tmp 7), none⟩,
  ⟨(some 22), .call 110 [(.tmp 19), (.const (.int .i64 (.ofNat 0))), (.tmp 20), (.tmp 21)], none⟩] none
/- sort.Slice -/
def f89 : IFn := ⟨23, [], (.seq f89r0 (.seq f89r1 (.seq f89r2 (.seq f89r3 f89r4))))⟩
def f88r0 : ICode := .region [
  ⟨(some 2), .move (.const (.slice none 0 0)), none⟩] none
def f88r1 : ICode := .region [
  ⟨(some 3), .move (.const (.slice none 0 0)), none⟩] none
def f88r2 : ICode := .region [
  ⟨(some 4), .move (.const (.int .i64 (.ofNat 0))), none⟩] none
def f88r3 : ICode := .region [
  ⟨(some 7), .move (.tmp 0), none⟩,
  ⟨(some 8), .len 1 (.tmp 7), none⟩,
  ⟨(some 9), .move (.const (.int .i64 (.ofNat 0))), none⟩] none
def f88r4 : ICode := .region [
  ⟨(some 10), .bin .lss (.tmp 9) (.tmp 8), none⟩] none
def f88r5 : ICode := .region [
  ⟨(some 11), .indexSl 2 (.tmp 7) (.tmp 9), none⟩,
  ⟨(some 12), .loadN 2 (.tmp 11), none⟩,
  ⟨(some 6), .new [(.int .i64 (.ofNat 0)), (.int .i64 (.ofNat 0))] 53, none⟩,
  ⟨none, .store 2 (.tmp 6) (.tmp 12), none⟩] none
def f88r6 : ICode := .region [
  ⟨(some 13), .move (.tmp 4), none⟩,
  ⟨(some 14), .fieldAddr 0 (.tmp 6), none⟩,
  ⟨(some 15), .load1 (.tmp 14), none⟩,
  ⟨(some 16), .bin .lss (.tmp 13) (.tmp 15), none⟩] none
def f88r7 : ICode := .region [
  ⟨(some 17), .move (.tmp 3), none⟩,
  ⟨(some 18), .move (.tmp 4), none⟩,
  ⟨(some 19), .fieldAddr 0 (.tmp 6), none⟩,
  ⟨(some 20), .load1 (.tmp 19), none⟩,
  ⟨(some 21), .bin .sub (.tmp 20) (.const (.int .i64 (.ofNat 1))), none⟩,
  ⟨(some 22), .build [(.int .i64 (.ofNat 0)), (.int .i64 (.ofNat 0))] [(0, 1, (.tmp 18)), (1, 1, (.tmp 21))], none⟩,
  ⟨(some 23), .buildSlice 53 1 [(.int .i64 (.ofNat 0)), (.int .i64 (.ofNat 0))] [(0, 2, (.tmp 22))], none⟩,
  ⟨(some 24), .append 53 2 16 (.tmp 17) (.tmp 23), none⟩,
  ⟨(some 3), .move (.tmp 24), none⟩] none
def f88r8 : ICode := .region [
  ⟨(some 25), .fieldAddr 1 (.tmp 6), none⟩,
  ⟨(some 26), .load1 (.tmp 25), none⟩,
  ⟨(some 27), .bin .add (.tmp 26) (.const (.int .i64 (.ofNat 1))), none⟩,
  ⟨(some 4), .move (.tmp 27), none⟩] none
def f88r9 : ICode := .region [
  ⟨(some 28), .bin .add (.tmp 9) (.const (.int .i64 (.ofNat 1))), none⟩,
  ⟨(some 9), .move (.tmp 28), none⟩] none
def f88r10 : ICode := .region [
  ⟨(some 29), .move (.tmp 4), none⟩,
  ⟨(some 30), .bin .leq (.tmp 29) (.const (.int .i64 (.ofNat 1114111))), none⟩] none
def f88r11 : ICode := .region [
  ⟨(some 31), .move (.tmp 3), none⟩,
  ⟨(some 32), .move (.tmp 4), none⟩,
  ⟨(some 33), .build [(.int .i64 (.ofNat 0)), (.int .i64 (.ofNat 0))] [(0, 1, (.tmp 32)), (1, 1, (.const (.int .i64 (.ofNat 1114111))))], none⟩,
  ⟨(some 34), .buildSlice 53 1 [(.int .i64 (.ofNat 0)), (.int .i64 (.ofNat 0))] [(0, 2, (.tmp 33))], none⟩,
  ⟨(some 35), .append 53 2 16 (.tmp 31) (.tmp 34), none⟩,
  ⟨(some 3), .move (.tmp 35), none⟩] none
def f88r12 : ICode := .region [
  ⟨(some 36), .move (.tmp 3), none⟩,
  ⟨(some 2), .move (.tmp 36), none⟩] none
/- (ferret/sets.Set).Not -/
def f88 : IFn := ⟨37, [.inl 2], (.seq f88r0 (.seq f88r1 (.seq f88r2 (.seq (.seq f88r3 (.block 0 (.loop (.seq f88r4 (.seq (.cond (.tmp 10) .skip (.exit 0)) (.seq (.block 1 (.seq f88r5 (.seq (.seq f88r6 (.cond (.tmp 16) f88r7 .skip)) f88r8))) f88r9)))))) (.seq (.seq f88r10 (.cond (.tmp 30) f88r11 .skip)) (.seq f88r12 .ret))))))⟩
def f91r0 : ICode := .region [
  ⟨(some 3), .box 28 (.tmp 0), none⟩,
  ⟨(some 5), .new [(.int .i64 (.ofNat 0)), (.slice none 0 0), (.bool false), (.int .i64 (.ofNat 0)), (.int .i64 (.ofNat 0)), (.bool false), (.int .i64 (.ofNat 0)), (.string ⟨⟨[]⟩⟩), (.slice none 0 0)] 28, none⟩] none
def f91r1 : ICode := .region [
  ⟨(some 6), .move (.tmp 1), none⟩,
  ⟨(some 7), .fieldAddr 5 (.tmp 2), none⟩,
  ⟨(some 8), .load1 (.tmp 7), none⟩,
  ⟨(some 9), .loadN 9 (.tmp 3), none⟩,
  ⟨(some 10), .buildSlice 28 1 [(.int .i64 (.ofNat 0)), (.slice none 0 0), (.bool false), (.int .i64 (.ofNat 0)), (.int .i64 (.ofNat 0)), (.bool false), (.int .i64 (.ofNat 0)), (.string ⟨⟨[]⟩⟩), (.slice none 0 0)] [(0, 9, (.tmp 9))], none⟩,
  ⟨(some 11), .build [(.int .i64 (.ofNat 0)), (.slice none 0 0), (.bool false), (.int .i64 (.ofNat 0)), (.int .i64 (.ofNat 0)), (.bool false), (.int .i64 (.ofNat 0)), (.string ⟨⟨[]⟩⟩), (.slice none 0 0)] [(0, 1, (.const (.int .i64 (.ofNat 10)))), (4, 1, (.tmp 6)), (5, 1, (.tmp 8)), (8, 1, (.tmp 10))], none⟩,
  ⟨none, .store 9 (.tmp 5) (.tmp 11), none⟩] none
/- ferret/simple.repeat$1 -/
def f91 : IFn := ⟨12, [.inr (5, (some 9))], (.seq f91r0 (.seq f91r1 .ret))⟩
def f93r0 : ICode := .region [
  ⟨(some 4), .move (.const (.string ⟨⟨[]⟩⟩)), none⟩] none
def f93r1 : ICode := .region [
  ⟨(some 10), .move (.tmp 1), none⟩,
  ⟨(some 11), .bin .eql (.tmp 10) (.const (.int .i64 (.ofNat 10))), none⟩] none
def f93r2 : ICode := .region [
  ⟨(some 12), .move (.tmp 0), none⟩,
  ⟨(some 13), .bin .leq (.const (.int .i64 (.ofNat 0))) (.tmp 12), none⟩,
  ⟨(some 14), .move (.tmp 13), none⟩,
  ⟨(some 15), .move (.tmp 0), (some ((some 14), true))⟩,
  ⟨(some 16), .bin .lss (.tmp 15) (.const (.int .i64 (.ofNat 100))), (some ((some 14), true))⟩,
  ⟨(some 17), .pick (.tmp 14) (.tmp 16) (.const (.bool false)), none⟩] none
def f93r3 : ICode := .region [
  ⟨(some 18), .move (.tmp 0), none⟩,
  ⟨(some 19), .call 111 [(.tmp 18)], none⟩,
  ⟨(some 4), .move (.tmp 19), none⟩] none
def f93r4 : ICode := .region [
  ⟨(some 5), .new [(.int .u8 (.ofNat 0)), (.int .u8 (.ofNat 0)), (.int .u8 (.ofNat 0)), (.int .u8 (.ofNat 0)), (.int .u8 (.ofNat 0)), (.int .u8 (.ofNat 0)), (.int .u8 (.ofNat 0)), (.int .u8 (.ofNat 0)), (.int .u8 (.ofNat 0)), (.int .u8 (.ofNat 0)), (.int .u8 (.ofNat 0)), (.int .u8 (.ofNat 0)), (.int .u8 (.ofNat 0)), (.int .u8 (.ofNat 0)), (.int .u8 (.ofNat 0)), (.int .u8 (.ofNat 0)), (.int .u8 (.ofNat 0)), (.int .u8 (.ofNat 0)), (.int .u8 (.ofNat 0)), (.int .u8 (.ofNat 0)), (.int .u8 (.ofNat 0)), (.int .u8 (.ofNat 0)), (.int .u8 (.ofNat 0)), (.int .u8 (.ofNat 0))] 161, none⟩] none
def f93r5 : ICode := .region [
  ⟨(some 20), .move (.tmp 0), none⟩,
  ⟨(some 21), .conv .u64 (.tmp 20), none⟩,
  ⟨(some 6), .move (.tmp 21), none⟩] none
def f93r6 : ICode := .region [
  ⟨(some 22), .move (.tmp 0), none⟩,
  ⟨(some 23), .bin .lss (.tmp 22) (.const (.int .i64 (.ofNat 0))), none⟩] none
def f93r7 : ICode := .region [
  ⟨(some 24), .move (.tmp 6), none⟩,
  ⟨(some 25), .un .neg (.tmp 24), none⟩,
  ⟨(some 6), .move (.tmp 25), none⟩] none
def f93r8 : ICode := .region [
  ⟨(some 26), .move (.tmp 6), none⟩,
  ⟨(some 27), .call 112 [(.tmp 26)], none⟩,
  ⟨(some 7), .move (.tmp 27), none⟩] none
def f93r9 : ICode := .region [
  ⟨(some 28), .move (.tmp 7), none⟩,
  ⟨(some 29), .bin .add (.const (.int .i64 (.ofNat 1))) (.tmp 28), none⟩,
  ⟨(some 30), .sliceArr 24 1 (.tmp 5) (some (.const (.int .i64 (.ofNat 1)))) (some (.tmp 29)), none⟩,
  ⟨(some 31), .move (.tmp 6), none⟩,
  ⟨(some 32), .call 113 [(.tmp 30), (.tmp 31)], none⟩] none
def f93r10 : ICode := .region [
  ⟨(some 33), .move (.tmp 0), none⟩,
  ⟨(some 34), .bin .lss (.tmp 33) (.const (.int .i64 (.ofNat 0))), none⟩] none
def f93r11 : ICode := .region [
  ⟨(some 35), .indexArrA 24 1 (.tmp 5) (.const (.int .i64 (.ofNat 0))), none⟩,
  ⟨none, .store 1 (.tmp 35) (.const (.int .u8 (.ofNat 45))), none⟩] none
def f93r12 : ICode := .region [
  ⟨(some 36), .move (.tmp 7), none⟩,
  ⟨(some 37), .bin .add (.const (.int .i64 (.ofNat 1))) (.tmp 36), none⟩,
  ⟨(some 38), .sliceArr 24 1 (.tmp 5) none (some (.tmp 37)), none⟩,
  ⟨(some 39), .bytesToStr (.tmp 38), none⟩,
  ⟨(some 4), .move (.tmp 39), none⟩] none
def f93r13 : ICode := .region [
  ⟨(some 40), .move (.tmp 7), none⟩,
  ⟨(some 41), .bin .add (.const (.int .i64 (.ofNat 1))) (.tmp 40), none⟩,
  ⟨(some 42), .sliceArr 24 1 (.tmp 5) (some (.const (.int .i64 (.ofNat 1)))) (some (.tmp 41)), none⟩,
  ⟨(some 43), .bytesToStr (.tmp 42), none⟩,
  ⟨(some 4), .move (.tmp 43), none⟩] none
def f93r14 : ICode := .region [
  ⟨(some 45), .move (.tmp 0), none⟩,
  ⟨(some 46), .conv .u64 (.tmp 45), none⟩,
  ⟨(some 47), .move (.tmp 1), none⟩,
  ⟨(some 48), .move (.tmp 0), none⟩,
  ⟨(some 49), .bin .lss (.tmp 48) (.const (.int .i64 (.ofNat 0))), none⟩,
  ⟨(some 50), .call 114 [(.const (.slice none 0 0)), (.tmp 46), (.tmp 47), (.tmp 49), (.const (.bool false))], none⟩,
  ⟨(some 44), .move (.tmp 50), none⟩,
  ⟨(some 51), .extract (.tmp 44) 0, none⟩,
  ⟨(some 52), .extract (.tmp 44) 1, none⟩,
  ⟨(some 8), .move (.tmp 51), none⟩,
  ⟨(some 9), .move (.tmp 52), none⟩] none
def f93r15 : ICode := .region [
  ⟨(some 53), .move (.tmp 9), none⟩,
  ⟨(some 4), .move (.tmp 53), none⟩] none
/- internal/strconv.FormatInt -/
def f93 : IFn := ⟨54, [.inl 4], (.seq f93r0 (.seq (.seq f93r1 (.cond (.tmp 11) (.seq (.seq f93r2 (.cond (.tmp 17) (.seq f93r3 .ret) .skip)) (.seq f93r4 (.seq f93r5 (.seq (.seq f93r6 (.cond (.tmp 23) f93r7 .skip)) (.seq f93r8 (.seq f93r9 (.seq (.seq f93r10 (.cond (.tmp 34) (.seq f93r11 (.seq f93r12 .ret)) .skip)) (.seq f93r13 .ret)))))))) .skip)) (.seq f93r14 (.seq f93r15 .ret))))⟩
def f76r0 : ICode := .region [
  ⟨(some 4), .move (.const (.int .i64 (.ofNat 0))), none⟩] none
def f76r1 : ICode := .region [
  ⟨(some 5), .move (.tmp 0), none⟩,
  ⟨(some 6), .bin .add (.tmp 5) (.const (.int .i64 (.ofNat 1))), none⟩,
  ⟨(some 7), .load1 (.tmp 1), none⟩,
  ⟨(some 8), .len 0 (.tmp 7), none⟩,
  ⟨(some 9), .bin .geq (.tmp 6) (.tmp 8), none⟩] none
def f76r2 : ICode := .region [
  ⟨(some 4), .move (.const (.int .i64 (.negSucc 0))), none⟩] none
def f76r3 : ICode := .region [
  ⟨(some 10), .load1 (.tmp 2), none⟩] none
def f76r4 : ICode := .region [
  ⟨(some 11), .load1 (.tmp 1), none⟩,
  ⟨(some 12), .move (.tmp 0), none⟩,
  ⟨(some 13), .indexStr (.tmp 11) (.tmp 12), none⟩,
  ⟨(some 14), .conv .i64 (.tmp 13), none⟩,
  ⟨(some 15), .bin .shl (.tmp 14) (.const (.int .u64 (.ofNat 8))), none⟩,
  ⟨(some 16), .load1 (.tmp 1), none⟩,
  ⟨(some 17), .move (.tmp 0), none⟩,
  ⟨(some 18), .bin .add (.tmp 17) (.const (.int .i64 (.ofNat 1))), none⟩,
  ⟨(some 19), .indexStr (.tmp 16) (.tmp 18), none⟩,
  ⟨(some 20), .conv .i64 (.tmp 19), none⟩,
  ⟨(some 21), .bin .or (.tmp 15) (.tmp 20), none⟩,
  ⟨(some 4), .move (.tmp 21), none⟩] (some ⟨[], []⟩)
def f76r5 : ICode := .region [
  ⟨(some 22), .load1 (.tmp 1), none⟩,
  ⟨(some 23), .move (.tmp 0), none⟩,
  ⟨(some 24), .bin .add (.tmp 23) (.const (.int .i64 (.ofNat 1))), none⟩,
  ⟨(some 25), .indexStr (.tmp 22) (.tmp 24), none⟩,
  ⟨(some 26), .conv .i64 (.tmp 25), none⟩,
  ⟨(some 27), .bin .shl (.tmp 26) (.const (.int .u64 (.ofNat 8))), none⟩,
  ⟨(some 28), .load1 (.tmp 1), none⟩,
  ⟨(some 29), .move (.tmp 0), none⟩,
  ⟨(some 30), .indexStr (.tmp 28) (.tmp 29), none⟩,
  ⟨(some 31), .conv .i64 (.tmp 30), none⟩,
  ⟨(some 32), .bin .or (.tmp 27) (.tmp 31), none⟩,
  ⟨(some 4), .move (.tmp 32), none⟩] (some ⟨[], []⟩)
/- ferret/coding.wide$1 -/
def f76 : IFn := ⟨33, [.inl 4], (.seq f76r0 (.seq (.seq f76r1 (.cond (.tmp 9) (.seq f76r2 .ret) .skip)) (.seq (.seq f76r3 (.cond (.tmp 10) (.seq f76r4 .ret) .skip)) (.seq f76r5 .ret))))⟩
def f94r0 : ICode := .region [
  ⟨(some 4), .move (.const (.string ⟨⟨[]⟩⟩)), none⟩] none
def f94r1 : ICode := .region [
  ⟨(some 7), .move (.tmp 0), none⟩,
  ⟨(some 8), .call 39 [(.tmp 7), (.const (.string ⟨⟨[60]⟩⟩))], none⟩,
  ⟨(some 9), .un .not (.tmp 8), none⟩] none
def f94r2 : ICode := .region [
  ⟨(some 10), .move (.tmp 0), none⟩,
  ⟨(some 11), .move (.tmp 1), none⟩,
  ⟨(some 12), .call 60 [(.tmp 10), (.const (.int .i64 (.ofNat 25))), (.tmp 11)], none⟩] none
def f94r3 : ICode := .region [
  ⟨(some 5), .move (.const (.slice none 0 0)), none⟩] none
def f94r4 : ICode := .region [
  ⟨(some 13), .move (.tmp 0), none⟩,
  ⟨(some 14), .call 59 [(.tmp 13), (.const (.int .i64 (.ofNat 0)))], none⟩,
  ⟨(some 6), .move (.tmp 14), none⟩] none
def f94r5 : ICode := .region [
  ⟨(some 15), .move (.tmp 6), none⟩,
  ⟨(some 16), .bin .geq (.tmp 15) (.const (.int .i64 (.ofNat 48))), none⟩,
  ⟨(some 17), .move (.tmp 16), none⟩,
  ⟨(some 18), .move (.tmp 6), (some ((some 17), true))⟩,
  ⟨(some 19), .bin .leq (.tmp 18) (.const (.int .i64 (.ofNat 57))), (some ((some 17), true))⟩,
  ⟨(some 20), .pick (.tmp 17) (.tmp 19) (.const (.bool false)), none⟩,
  ⟨(some 21), .move (.tmp 20), none⟩,
  ⟨(some 22), .move (.tmp 6), (some ((some 21), false))⟩,
  ⟨(some 23), .bin .geq (.tmp 22) (.const (.int .i64 (.ofNat 65))), (some ((some 21), false))⟩,
  ⟨(some 24), .move (.tmp 23), (some ((some 21), false))⟩,
  ⟨(some 25), .move (.tmp 6), (some ((some 24), true))⟩,
  ⟨(some 26), .bin .leq (.tmp 25) (.const (.int .i64 (.ofNat 90))), (some ((some 24), true))⟩,
  ⟨(some 27), .pick (.tmp 24) (.tmp 26) (.const (.bool false)), (some ((some 21), false))⟩,
  ⟨(some 28), .pick (.tmp 21) (.const (.bool true)) (.tmp 27), none⟩,
  ⟨(some 29), .move (.tmp 28), none⟩,
  ⟨(some 30), .move (.tmp 6), (some ((some 29), false))⟩,
  ⟨(some 31), .bin .geq (.tmp 30) (.const (.int .i64 (.ofNat 97))), (some ((some 29), false))⟩,
  ⟨(some 32), .move (.tmp 31), (some ((some 29), false))⟩,
  ⟨(some 33), .move (.tmp 6), (some ((some 32), true))⟩,
  ⟨(some 34), .bin .leq (.tmp 33) (.const (.int .i64 (.ofNat 122))), (some ((some 32), true))⟩,
  ⟨(some 35), .pick (.tmp 32) (.tmp 34) (.const (.bool false)), (some ((some 29), false))⟩,
  ⟨(some 36), .pick (.tmp 29) (.const (.bool true)) (.tmp 35), none⟩,
  ⟨(some 37), .move (.tmp 36), none⟩,
  ⟨(some 38), .move (.tmp 6), (some ((some 37), false))⟩,
  ⟨(some 39), .bin .eql (.tmp 38) (.const (.int .i64 (.ofNat 95))), (some ((some 37), false))⟩,
  ⟨(some 40), .pick (.tmp 37) (.const (.bool true)) (.tmp 39), none⟩] none
def f94r6 : ICode := .region [
  ⟨(some 43), .move (.tmp 5), none⟩,
  ⟨(some 44), .move (.tmp 6), none⟩,
  ⟨(some 45), .conv .u8 (.tmp 44), none⟩,
  ⟨(some 46), .buildSlice 5 1 [(.int .u8 (.ofNat 0))] [(0, 1, (.tmp 45))], none⟩,
  ⟨(some 47), .append 5 1 1 (.tmp 43) (.tmp 46), none⟩,
  ⟨(some 5), .move (.tmp 47), none⟩] none
def f94r7 : ICode := .region [
  ⟨(some 48), .move (.tmp 0), none⟩,
  ⟨(some 49), .nilCheck (.tmp 48), none⟩,
  ⟨(some 50), .fieldAddr 4 (.tmp 49), none⟩,
  ⟨(some 51), .load1 (.tmp 50), none⟩,
  ⟨(some 52), .bin .add (.tmp 51) (.const (.int .i64 (.ofNat 1))), none⟩,
  ⟨(some 53), .nilCheck (.tmp 48), none⟩,
  ⟨(some 54), .fieldAddr 4 (.tmp 53), none⟩,
  ⟨none, .store 1 (.tmp 54) (.tmp 52), none⟩] none
def f94r8 : ICode := .region [
  ⟨(some 41), .move (.tmp 0), none⟩,
  ⟨(some 42), .call 59 [(.tmp 41), (.const (.int .i64 (.ofNat 0)))], none⟩,
  ⟨(some 6), .move (.tmp 42), none⟩] none
def f94r9 : ICode := .region [
  ⟨(some 55), .move (.tmp 0), none⟩,
  ⟨(some 56), .call 39 [(.tmp 55), (.const (.string ⟨⟨[62]⟩⟩))], none⟩,
  ⟨(some 57), .un .not (.tmp 56), none⟩,
  ⟨(some 58), .move (.tmp 57), none⟩,
  ⟨(some 59), .move (.tmp 5), (some ((some 58), false))⟩,
  ⟨(some 60), .len 1 (.tmp 59), (some ((some 58), false))⟩,
  ⟨(some 61), .bin .eql (.tmp 60) (.const (.int .i64 (.ofNat 0))), (some ((some 58), false))⟩,
  ⟨(some 62), .pick (.tmp 58) (.const (.bool true)) (.tmp 61), none⟩,
  ⟨(some 63), .move (.tmp 62), none⟩,
  ⟨(some 64), .move (.tmp 5), (some ((some 63), false))⟩,
  ⟨(some 65), .len 1 (.tmp 64), (some ((some 63), false))⟩,
  ⟨(some 66), .bin .gtr (.tmp 65) (.const (.int .i64 (.ofNat 32))), (some ((some 63), false))⟩,
  ⟨(some 67), .pick (.tmp 63) (.const (.bool true)) (.tmp 66), none⟩,
  ⟨(some 68), .move (.tmp 67), none⟩,
  ⟨(some 69), .move (.tmp 0), (some ((some 68), false))⟩,
  ⟨(some 70), .nilCheck (.tmp 69), (some ((some 68), false))⟩,
  ⟨(some 71), .fieldAddr 6 (.tmp 70), (some ((some 68), false))⟩,
  ⟨(some 72), .load1 (.tmp 71), (some ((some 68), false))⟩,
  ⟨(some 73), .move (.tmp 5), (some ((some 68), false))⟩,
  ⟨(some 74), .bytesToStr (.tmp 73), (some ((some 68), false))⟩,
  ⟨(some 75), .call 115 [(.tmp 72), (.tmp 74)], (some ((some 68), false))⟩,
  ⟨(some 76), .pick (.tmp 68) (.const (.bool true)) (.tmp 75), none⟩] (some ⟨[], []⟩)
def f94r10 : ICode := .region [
  ⟨(some 77), .move (.tmp 0), none⟩,
  ⟨(some 78), .move (.tmp 1), none⟩,
  ⟨(some 79), .call 60 [(.tmp 77), (.const (.int .i64 (.ofNat 25))), (.tmp 78)], none⟩] none
def f94r11 : ICode := .region [
  ⟨(some 80), .move (.tmp 5), none⟩,
  ⟨(some 81), .bytesToStr (.tmp 80), none⟩,
  ⟨(some 4), .move (.tmp 81), none⟩] none
/- (*ferret/syn.parser).name -/
def f94 : IFn := ⟨82, [.inl 4], (.seq f94r0 (.seq (.seq f94r1 (.cond (.tmp 9) f94r2 .skip)) (.seq f94r3 (.seq (.seq f94r4 (.block 0 (.loop (.seq (.seq f94r5 (.cond (.tmp 40) .skip (.exit 0))) (.seq (.block 1 (.seq f94r6 f94r7)) f94r8))))) (.seq (.seq f94r9 (.cond (.tmp 76) f94r10 .skip)) (.seq f94r11 .ret))))))⟩
def f95r0 : ICode := .region [
  ⟨(some 4), .move (.const (.int .i64 (.ofNat 0))), none⟩] none
def f95r1 : ICode := .region [
  ⟨(some 5), .move (.tmp 0), none⟩,
  ⟨(some 6), .move (.tmp 0), none⟩,
  ⟨(some 7), .nilCheck (.tmp 6), none⟩,
  ⟨(some 8), .fieldAddr 6 (.tmp 7), none⟩,
  ⟨(some 9), .load1 (.tmp 8), none⟩,
  ⟨(some 10), .move (.tmp 1), none⟩,
  ⟨(some 11), .buildSlice 9 1 [(.string ⟨⟨[]⟩⟩)] [(0, 1, (.tmp 10))], none⟩,
  ⟨(some 12), .append 9 1 16 (.tmp 9) (.tmp 11), none⟩,
  ⟨(some 13), .nilCheck (.tmp 5), none⟩,
  ⟨(some 14), .fieldAddr 6 (.tmp 13), none⟩,
  ⟨none, .store 1 (.tmp 14) (.tmp 12), none⟩] none
def f95r2 : ICode := .region [
  ⟨(some 15), .move (.tmp 0), none⟩,
  ⟨(some 16), .nilCheck (.tmp 15), none⟩,
  ⟨(some 17), .fieldAddr 6 (.tmp 16), none⟩,
  ⟨(some 18), .load1 (.tmp 17), none⟩,
  ⟨(some 19), .len 1 (.tmp 18), none⟩,
  ⟨(some 20), .bin .sub (.tmp 19) (.const (.int .i64 (.ofNat 1))), none⟩,
  ⟨(some 4), .move (.tmp 20), none⟩] none
/- (*ferret/syn.parser).group -/
def f95 : IFn := ⟨21, [.inl 4], (.seq f95r0 (.seq f95r1 (.seq f95r2 .ret)))⟩
def f96r0 : ICode := .region [
  ⟨(some 4), .move (.const (.bool false)), none⟩] none
def f96r1 : ICode := .region [
  ⟨(some 5), .move (.const (.bool true)), none⟩,
  ⟨(some 6), .move (.const (.bool false)), none⟩] none
def f96r2 : ICode := .region [
  ⟨(some 10), .move (.tmp 0), none⟩,
  ⟨(some 11), .nilCheck (.tmp 10), none⟩,
  ⟨(some 12), .fieldAddr 7 (.tmp 11), none⟩,
  ⟨(some 13), .loadN 4 (.tmp 12), none⟩,
  ⟨(some 7), .new [(.bool false), (.bool false), (.bool false), (.bool false)] 38, none⟩,
  ⟨none, .store 4 (.tmp 7) (.tmp 13), none⟩] none
def f96r3 : ICode := .region [
  ⟨(some 8), .new [(.slice none 0 0), (.slice none 0 0)] 168, none⟩] none
def f96r4 : ICode := .region [
  ⟨(some 14), .move (.tmp 0), none⟩,
  ⟨(some 15), .call 59 [(.tmp 14), (.const (.int .i64 (.ofNat 0)))], none⟩,
  ⟨(some 9), .move (.tmp 15), none⟩] none
def f96r5 : ICode := .region [
  ⟨(some 16), .move (.tmp 0), none⟩,
  ⟨(some 17), .nilCheck (.tmp 16), none⟩,
  ⟨(some 18), .fieldAddr 4 (.tmp 17), none⟩,
  ⟨(some 19), .load1 (.tmp 18), none⟩,
  ⟨(some 20), .bin .add (.tmp 19) (.const (.int .i64 (.ofNat 1))), none⟩,
  ⟨(some 21), .nilCheck (.tmp 16), none⟩,
  ⟨(some 22), .fieldAddr 4 (.tmp 21), none⟩,
  ⟨none, .store 1 (.tmp 22) (.tmp 20), none⟩] none
def f96r6 : ICode := .region [
  ⟨(some 27), .move (.tmp 9), none⟩,
  ⟨(some 28), .bin .eql (.tmp 27) (.const (.int .i64 (.ofNat 45))), none⟩,
  ⟨(some 29), .move (.tmp 28), none⟩,
  ⟨(some 30), .move (.tmp 5), (some ((some 29), true))⟩,
  ⟨(some 31), .pick (.tmp 29) (.tmp 30) (.const (.bool false)), none⟩,
  ⟨(some 26), .move (.tmp 31), none⟩] none
def f96r7 : ICode := .region [
  ⟨(some 5), .move (.const (.bool false)), none⟩] none
def f96r8 : ICode := .region [
  ⟨(some 33), .move (.tmp 9), none⟩,
  ⟨(some 34), .bin .geq (.tmp 33) (.const (.int .i64 (.ofNat 0))), none⟩,
  ⟨(some 35), .move (.tmp 34), none⟩,
  ⟨(some 36), .move (.tmp 9), (some ((some 35), true))⟩,
  ⟨(some 37), .bin .lss (.tmp 36) (.const (.int .i64 (.ofNat 128))), (some ((some 35), true))⟩,
  ⟨(some 38), .pick (.tmp 35) (.tmp 37) (.const (.bool false)), none⟩,
  ⟨(some 39), .move (.tmp 38), none⟩,
  ⟨(some 40), .move (.tmp 9), (some ((some 39), true))⟩,
  ⟨(some 41), .conv .u8 (.tmp 40), (some ((some 39), true))⟩,
  ⟨(some 42), .call 102 [(.const (.string ⟨⟨[105, 109, 115, 85]⟩⟩)), (.tmp 41)], (some ((some 39), true))⟩,
  ⟨(some 43), .bin .geq (.tmp 42) (.const (.int .i64 (.ofNat 0))), (some ((some 39), true))⟩,
  ⟨(some 44), .pick (.tmp 39) (.tmp 43) (.const (.bool false)), none⟩,
  ⟨(some 45), .move (.tmp 44), none⟩,
  ⟨(some 46), .move (.tmp 5), (some ((some 45), true))⟩,
  ⟨(some 47), .call 81 [(.tmp 46), (.const (.int .i64 (.ofNat 0))), (.const (.int .i64 (.ofNat 1)))], (some ((some 45), true))⟩,
  ⟨(some 48), .indexArrA 2 1 (.tmp 8) (.tmp 47), (some ((some 45), true))⟩,
  ⟨(some 49), .load1 (.tmp 48), (some ((some 45), true))⟩,
  ⟨(some 50), .move (.tmp 9), (some ((some 45), true))⟩,
  ⟨(some 51), .call 26 [(.tmp 49), (.tmp 50)], (some ((some 45), true))⟩,
  ⟨(some 52), .un .not (.tmp 51), (some ((some 45), true))⟩,
  ⟨(some 53), .pick (.tmp 45) (.tmp 52) (.const (.bool false)), none⟩,
  ⟨(some 32), .move (.tmp 53), none⟩] none
def f96r9 : ICode := .region [
  ⟨(some 54), .move (.tmp 5), none⟩,
  ⟨(some 55), .call 81 [(.tmp 54), (.const (.int .i64 (.ofNat 0))), (.const (.int .i64 (.ofNat 1)))], none⟩,
  ⟨(some 56), .move (.tmp 5), none⟩,
  ⟨(some 57), .call 81 [(.tmp 56), (.const (.int .i64 (.ofNat 0))), (.const (.int .i64 (.ofNat 1)))], none⟩,
  ⟨(some 58), .indexArrA 2 1 (.tmp 8) (.tmp 57), none⟩,
  ⟨(some 59), .load1 (.tmp 58), none⟩,
  ⟨(some 60), .move (.tmp 9), none⟩,
  ⟨(some 61), .buildSlice 3 1 [(.int .i64 (.ofNat 0))] [(0, 1, (.tmp 60))], none⟩,
  ⟨(some 62), .append 3 1 8 (.tmp 59) (.tmp 61), none⟩,
  ⟨(some 63), .indexArrA 2 1 (.tmp 8) (.tmp 55), none⟩,
  ⟨none, .store 1 (.tmp 63) (.tmp 62), none⟩] none
def f96r10 : ICode := .region [
  ⟨(some 6), .move (.const (.bool true)), none⟩] none
def f96r11 : ICode := .region [
  ⟨(some 64), .move (.tmp 9), none⟩,
  ⟨(some 65), .call 116 [(.tmp 7), (.tmp 64)], none⟩,
  ⟨(some 66), .move (.tmp 5), none⟩,
  ⟨(some 67), .nilCheck (.tmp 65), none⟩,
  ⟨none, .store 1 (.tmp 67) (.tmp 66), none⟩] none
def f96r12 : ICode := .region [
  ⟨(some 69), .move (.tmp 9), none⟩,
  ⟨(some 70), .bin .eql (.tmp 69) (.const (.int .i64 (.ofNat 58))), none⟩,
  ⟨(some 71), .move (.tmp 70), none⟩,
  ⟨(some 72), .move (.tmp 9), (some ((some 71), false))⟩,
  ⟨(some 73), .bin .eql (.tmp 72) (.const (.int .i64 (.ofNat 41))), (some ((some 71), false))⟩,
  ⟨(some 74), .pick (.tmp 71) (.const (.bool true)) (.tmp 73), none⟩,
  ⟨(some 75), .move (.tmp 74), none⟩,
  ⟨(some 76), .move (.tmp 6), (some ((some 75), true))⟩,
  ⟨(some 77), .move (.tmp 76), (some ((some 75), true))⟩,
  ⟨(some 78), .move (.tmp 9), (some ((some 77), false))⟩,
  ⟨(some 79), .bin .eql (.tmp 78) (.const (.int .i64 (.ofNat 58))), (some ((some 77), false))⟩,
  ⟨(some 80), .move (.tmp 79), (some ((some 77), false))⟩,
  ⟨(some 81), .move (.tmp 5), (some ((some 80), true))⟩,
  ⟨(some 82), .pick (.tmp 80) (.tmp 81) (.const (.bool false)), (some ((some 77), false))⟩,
  ⟨(some 83), .pick (.tmp 77) (.const (.bool true)) (.tmp 82), (some ((some 75), true))⟩,
  ⟨(some 84), .pick (.tmp 75) (.tmp 83) (.const (.bool false)), none⟩,
  ⟨(some 68), .move (.tmp 84), none⟩] none
def f96r13 : ICode := .region [
  ⟨(some 85), .move (.tmp 0), none⟩,
  ⟨(some 86), .loadN 4 (.tmp 7), none⟩,
  ⟨(some 87), .nilCheck (.tmp 85), none⟩,
  ⟨(some 88), .fieldAddr 7 (.tmp 87), none⟩,
  ⟨none, .store 4 (.tmp 88) (.tmp 86), none⟩] none
def f96r14 : ICode := .region [
  ⟨(some 89), .move (.tmp 9), none⟩,
  ⟨(some 90), .bin .eql (.tmp 89) (.const (.int .i64 (.ofNat 58))), none⟩,
  ⟨(some 4), .move (.tmp 90), none⟩] none
def f96r15 : ICode := .region [
  ⟨(some 23), .move (.tmp 0), none⟩,
  ⟨(some 24), .move (.tmp 1), none⟩,
  ⟨(some 25), .call 60 [(.tmp 23), (.const (.int .i64 (.ofNat 20))), (.tmp 24)], none⟩] none
/- (*ferret/syn.parser).flags -/
def f96 : IFn := ⟨91, [.inl 4], (.seq f96r0 (.seq f96r1 (.seq f96r2 (.seq f96r3 (.block 0 (.loop (.block 1 (.seq f96r4 (.seq f96r5 (.block 2 (.seq f96r6 (.cond (.tmp 26) f96r7 (.seq f96r8 (.cond (.tmp 32) (.seq f96r9 (.seq f96r10 f96r11)) (.seq f96r12 (.cond (.tmp 68) (.seq f96r13 (.seq f96r14 .ret)) f96r15))))))))))))))))⟩
def f97r0 : ICode := .region [
  ⟨(some 2), .move (.const (.slice none 0 0)), none⟩,
  ⟨(some 3), .move (.const (.int .i64 (.ofNat 0))), none⟩] none
def f97r1 : ICode := .region [
  ⟨(some 5), .move (.tmp 0), none⟩,
  ⟨(some 6), .nilCheck (.tmp 5), none⟩,
  ⟨(some 7), .fieldAddr 4 (.tmp 6), none⟩,
  ⟨(some 8), .load1 (.tmp 7), none⟩,
  ⟨(some 4), .move (.tmp 8), none⟩] none
def f97r2 : ICode := .region [
  ⟨(some 9), .move (.tmp 0), none⟩,
  ⟨(some 10), .call 39 [(.tmp 9), (.const (.string ⟨⟨[92]⟩⟩))], none⟩] none
def f97r3 : ICode := .region [
  ⟨(some 11), .move (.tmp 0), none⟩,
  ⟨(some 12), .move (.tmp 4), none⟩,
  ⟨(some 13), .call 83 [(.tmp 11), (.tmp 12)], none⟩,
  ⟨(some 14), .extract (.tmp 13) 0, none⟩,
  ⟨(some 15), .extract (.tmp 13) 1, none⟩,
  ⟨(some 2), .move (.tmp 14), none⟩,
  ⟨(some 3), .move (.tmp 15), none⟩] none
def f97r4 : ICode := .region [
  ⟨(some 16), .move (.tmp 0), none⟩,
  ⟨(some 17), .nilCheck (.tmp 16), none⟩,
  ⟨(some 18), .fieldAddr 4 (.tmp 17), none⟩,
  ⟨(some 19), .load1 (.tmp 18), none⟩,
  ⟨(some 20), .bin .add (.tmp 19) (.const (.int .i64 (.ofNat 1))), none⟩,
  ⟨(some 21), .nilCheck (.tmp 16), none⟩,
  ⟨(some 22), .fieldAddr 4 (.tmp 21), none⟩,
  ⟨none, .store 1 (.tmp 22) (.tmp 20), none⟩] none
def f97r5 : ICode := .region [
  ⟨(some 23), .move (.tmp 0), none⟩,
  ⟨(some 24), .nilCheck (.tmp 23), none⟩,
  ⟨(some 25), .fieldAddr 0 (.tmp 24), none⟩,
  ⟨(some 26), .fieldAddr 1 (.tmp 25), none⟩,
  ⟨(some 27), .load1 (.tmp 26), none⟩,
  ⟨(some 28), .move (.tmp 4), none⟩,
  ⟨(some 29), .indexSl 1 (.tmp 27) (.tmp 28), none⟩,
  ⟨(some 30), .load1 (.tmp 29), none⟩,
  ⟨(some 31), .call 79 [(.tmp 30)], none⟩,
  ⟨(some 32), .move (.tmp 0), none⟩,
  ⟨(some 33), .nilCheck (.tmp 32), none⟩,
  ⟨(some 34), .fieldAddr 0 (.tmp 33), none⟩,
  ⟨(some 35), .fieldAddr 1 (.tmp 34), none⟩,
  ⟨(some 36), .load1 (.tmp 35), none⟩,
  ⟨(some 37), .move (.tmp 4), none⟩,
  ⟨(some 38), .indexSl 1 (.tmp 36) (.tmp 37), none⟩,
  ⟨(some 39), .load1 (.tmp 38), none⟩,
  ⟨(some 2), .move (.tmp 31), none⟩,
  ⟨(some 3), .move (.tmp 39), none⟩] (some ⟨[], [(13, 8), (16, 8)]⟩)
/- (*ferret/syn.parser).item -/
def f97 : IFn := ⟨40, [.inl 2, .inl 3], (.seq f97r0 (.seq f97r1 (.seq (.seq f97r2 (.cond (.tmp 10) (.seq f97r3 .ret) .skip)) (.seq f97r4 (.seq f97r5 .ret)))))⟩
def f98r0 : ICode := .region [
  ⟨(some 4), .move (.const (.slice none 0 0)), none⟩] none
def f98r1 : ICode := .region [
  ⟨(some 5), .move (.tmp 0), none⟩,
  ⟨(some 6), .call 84 [(.tmp 5)], none⟩,
  ⟨(some 7), .move (.tmp 1), none⟩,
  ⟨(some 8), .append 53 2 16 (.tmp 6) (.tmp 7), none⟩,
  ⟨(some 9), .call 67 [(.tmp 8)], none⟩,
  ⟨(some 4), .move (.tmp 9), none⟩] none
/- (ferret/sets.Set).Or -/
def f98 : IFn := ⟨10, [.inl 4], (.seq f98r0 (.seq f98r1 .ret))⟩
def f99r0 : ICode := .region [
  ⟨(some 4), .move (.const (.slice none 0 0)), none⟩] none
def f99r1 : ICode := .region [
  ⟨(some 8), .move (.tmp 0), none⟩,
  ⟨(some 9), .call 39 [(.tmp 8), (.const (.string ⟨⟨[123]⟩⟩))], none⟩,
  ⟨(some 10), .un .not (.tmp 9), none⟩] none
def f99r2 : ICode := .region [
  ⟨(some 11), .move (.tmp 0), none⟩,
  ⟨(some 12), .move (.tmp 1), none⟩,
  ⟨(some 13), .call 60 [(.tmp 11), (.const (.int .i64 (.ofNat 24))), (.tmp 12)], none⟩] none
def f99r3 : ICode := .region [
  ⟨(some 5), .move (.const (.slice none 0 0)), none⟩] none
def f99r4 : ICode := .region [
  ⟨(some 14), .move (.tmp 0), none⟩,
  ⟨(some 15), .call 59 [(.tmp 14), (.const (.int .i64 (.ofNat 0)))], none⟩,
  ⟨(some 16), .bin .neq (.tmp 15) (.const (.int .i64 (.ofNat 125))), none⟩,
  ⟨(some 17), .move (.tmp 16), none⟩,
  ⟨(some 18), .move (.tmp 0), (some ((some 17), true))⟩,
  ⟨(some 19), .call 59 [(.tmp 18), (.const (.int .i64 (.ofNat 0)))], (some ((some 17), true))⟩,
  ⟨(some 20), .bin .gtr (.tmp 19) (.const (.int .i64 (.ofNat 32))), (some ((some 17), true))⟩,
  ⟨(some 21), .pick (.tmp 17) (.tmp 20) (.const (.bool false)), none⟩,
  ⟨(some 22), .move (.tmp 21), none⟩,
  ⟨(some 23), .move (.tmp 0), (some ((some 22), true))⟩,
  ⟨(some 24), .call 59 [(.tmp 23), (.const (.int .i64 (.ofNat 0)))], (some ((some 22), true))⟩,
  ⟨(some 25), .bin .lss (.tmp 24) (.const (.int .i64 (.ofNat 127))), (some ((some 22), true))⟩,
  ⟨(some 26), .pick (.tmp 22) (.tmp 25) (.const (.bool false)), none⟩] none
def f99r5 : ICode := .region [
  ⟨(some 27), .move (.tmp 5), none⟩,
  ⟨(some 28), .move (.tmp 0), none⟩,
  ⟨(some 29), .call 59 [(.tmp 28), (.const (.int .i64 (.ofNat 0)))], none⟩,
  ⟨(some 30), .conv .u8 (.tmp 29), none⟩,
  ⟨(some 31), .buildSlice 5 1 [(.int .u8 (.ofNat 0))] [(0, 1, (.tmp 30))], none⟩,
  ⟨(some 32), .append 5 1 1 (.tmp 27) (.tmp 31), none⟩,
  ⟨(some 5), .move (.tmp 32), none⟩] none
def f99r6 : ICode := .region [
  ⟨(some 33), .move (.tmp 0), none⟩,
  ⟨(some 34), .nilCheck (.tmp 33), none⟩,
  ⟨(some 35), .fieldAddr 4 (.tmp 34), none⟩,
  ⟨(some 36), .load1 (.tmp 35), none⟩,
  ⟨(some 37), .bin .add (.tmp 36) (.const (.int .i64 (.ofNat 1))), none⟩,
  ⟨(some 38), .nilCheck (.tmp 33), none⟩,
  ⟨(some 39), .fieldAddr 4 (.tmp 38), none⟩,
  ⟨none, .store 1 (.tmp 39) (.tmp 37), none⟩] none
def f99r7 : ICode := .region [
  ⟨(some 41), .move (.tmp 5), none⟩,
  ⟨(some 42), .bytesToStr (.tmp 41), none⟩,
  ⟨(some 43), .call 117 [(.tmp 42)], none⟩,
  ⟨(some 40), .move (.tmp 43), none⟩,
  ⟨(some 44), .extract (.tmp 40) 0, none⟩,
  ⟨(some 45), .extract (.tmp 40) 1, none⟩,
  ⟨(some 6), .move (.tmp 44), none⟩,
  ⟨(some 7), .move (.tmp 45), none⟩] none
def f99r8 : ICode := .region [
  ⟨(some 46), .move (.tmp 0), none⟩,
  ⟨(some 47), .call 39 [(.tmp 46), (.const (.string ⟨⟨[125]⟩⟩))], none⟩,
  ⟨(some 48), .un .not (.tmp 47), none⟩,
  ⟨(some 49), .move (.tmp 48), none⟩,
  ⟨(some 50), .move (.tmp 7), (some ((some 49), false))⟩,
  ⟨(some 51), .un .not (.tmp 50), (some ((some 49), false))⟩,
  ⟨(some 52), .pick (.tmp 49) (.const (.bool true)) (.tmp 51), none⟩] none
def f99r9 : ICode := .region [
  ⟨(some 53), .move (.tmp 0), none⟩,
  ⟨(some 54), .move (.tmp 1), none⟩,
  ⟨(some 55), .call 60 [(.tmp 53), (.const (.int .i64 (.ofNat 24))), (.tmp 54)], none⟩] none
def f99r10 : ICode := .region [
  ⟨(some 56), .move (.tmp 6), none⟩,
  ⟨(some 4), .move (.tmp 56), none⟩] none
/- (*ferret/syn.parser).named -/
def f99 : IFn := ⟨57, [.inl 4], (.seq f99r0 (.seq (.seq f99r1 (.cond (.tmp 10) f99r2 .skip)) (.seq f99r3 (.seq (.block 0 (.loop (.seq (.seq f99r4 (.cond (.tmp 26) .skip (.exit 0))) (.block 1 (.seq f99r5 f99r6))))) (.seq f99r7 (.seq (.seq f99r8 (.cond (.tmp 52) f99r9 .skip)) (.seq f99r10 .ret)))))))⟩
def f100r0 : ICode := .region [
  ⟨(some 4), .move (.const (.int .i64 (.ofNat 0))), none⟩] none
def f100r1 : ICode := .region [
  ⟨(some 5), .move (.const (.int .i64 (.ofNat 0))), none⟩,
  ⟨(some 6), .move (.const (.int .i64 (.ofNat 0))), none⟩] none
def f100r2 : ICode := .region [
  ⟨(some 8), .move (.tmp 0), none⟩,
  ⟨(some 9), .call 39 [(.tmp 8), (.const (.string ⟨⟨[123]⟩⟩))], none⟩,
  ⟨(some 7), .move (.tmp 9), none⟩] none
def f100r3 : ICode := .region [
  ⟨(some 10), .move (.tmp 6), none⟩,
  ⟨(some 11), .bin .lss (.tmp 10) (.const (.int .i64 (.ofNat 6))), none⟩,
  ⟨(some 12), .move (.tmp 11), none⟩,
  ⟨(some 13), .move (.tmp 7), (some ((some 12), true))⟩,
  ⟨(some 14), .move (.tmp 13), (some ((some 12), true))⟩,
  ⟨(some 15), .move (.tmp 6), (some ((some 14), false))⟩,
  ⟨(some 16), .bin .lss (.tmp 15) (.const (.int .i64 (.ofNat 2))), (some ((some 14), false))⟩,
  ⟨(some 17), .pick (.tmp 14) (.const (.bool true)) (.tmp 16), (some ((some 12), true))⟩,
  ⟨(some 18), .pick (.tmp 12) (.tmp 17) (.const (.bool false)), none⟩,
  ⟨(some 19), .move (.tmp 18), none⟩,
  ⟨(some 20), .move (.tmp 0), (some ((some 19), true))⟩,
  ⟨(some 21), .call 59 [(.tmp 20), (.const (.int .i64 (.ofNat 0)))], (some ((some 19), true))⟩,
  ⟨(some 22), .call 118 [(.tmp 21)], (some ((some 19), true))⟩,
  ⟨(some 23), .bin .geq (.tmp 22) (.const (.int .i64 (.ofNat 0))), (some ((some 19), true))⟩,
  ⟨(some 24), .pick (.tmp 19) (.tmp 23) (.const (.bool false)), none⟩] none
def f100r4 : ICode := .region [
  ⟨(some 25), .move (.tmp 5), none⟩,
  ⟨(some 26), .bin .shl (.tmp 25) (.const (.int .u64 (.ofNat 4))), none⟩,
  ⟨(some 27), .move (.tmp 0), none⟩,
  ⟨(some 28), .call 59 [(.tmp 27), (.const (.int .i64 (.ofNat 0)))], none⟩,
  ⟨(some 29), .call 118 [(.tmp 28)], none⟩,
  ⟨(some 30), .bin .or (.tmp 26) (.tmp 29), none⟩,
  ⟨(some 5), .move (.tmp 30), none⟩] none
def f100r5 : ICode := .region [
  ⟨(some 31), .move (.tmp 0), none⟩,
  ⟨(some 32), .nilCheck (.tmp 31), none⟩,
  ⟨(some 33), .fieldAddr 4 (.tmp 32), none⟩,
  ⟨(some 34), .load1 (.tmp 33), none⟩,
  ⟨(some 35), .bin .add (.tmp 34) (.const (.int .i64 (.ofNat 1))), none⟩,
  ⟨(some 36), .nilCheck (.tmp 31), none⟩,
  ⟨(some 37), .fieldAddr 4 (.tmp 36), none⟩,
  ⟨none, .store 1 (.tmp 37) (.tmp 35), none⟩] none
def f100r6 : ICode := .region [
  ⟨(some 38), .move (.tmp 6), none⟩,
  ⟨(some 39), .bin .add (.tmp 38) (.const (.int .i64 (.ofNat 1))), none⟩,
  ⟨(some 6), .move (.tmp 39), none⟩] none
def f100r7 : ICode := .region [
  ⟨(some 40), .move (.tmp 5), none⟩,
  ⟨(some 41), .bin .gtr (.tmp 40) (.const (.int .i64 (.ofNat 1114111))), none⟩,
  ⟨(some 42), .move (.tmp 41), none⟩,
  ⟨(some 43), .move (.tmp 7), (some ((some 42), false))⟩,
  ⟨(some 44), .move (.tmp 43), (some ((some 42), false))⟩,
  ⟨(some 45), .move (.tmp 6), (some ((some 44), true))⟩,
  ⟨(some 46), .bin .eql (.tmp 45) (.const (.int .i64 (.ofNat 0))), (some ((some 44), true))⟩,
  ⟨(some 47), .move (.tmp 46), (some ((some 44), true))⟩,
  ⟨(some 48), .move (.tmp 0), (some ((some 47), false))⟩,
  ⟨(some 49), .call 39 [(.tmp 48), (.const (.string ⟨⟨[125]⟩⟩))], (some ((some 47), false))⟩,
  ⟨(some 50), .un .not (.tmp 49), (some ((some 47), false))⟩,
  ⟨(some 51), .pick (.tmp 47) (.const (.bool true)) (.tmp 50), (some ((some 44), true))⟩,
  ⟨(some 52), .pick (.tmp 44) (.tmp 51) (.const (.bool false)), (some ((some 42), false))⟩,
  ⟨(some 53), .pick (.tmp 42) (.const (.bool true)) (.tmp 52), none⟩,
  ⟨(some 54), .move (.tmp 53), none⟩,
  ⟨(some 55), .move (.tmp 7), (some ((some 54), false))⟩,
  ⟨(some 56), .un .not (.tmp 55), (some ((some 54), false))⟩,
  ⟨(some 57), .move (.tmp 56), (some ((some 54), false))⟩,
  ⟨(some 58), .move (.tmp 6), (some ((some 57), true))⟩,
  ⟨(some 59), .bin .neq (.tmp 58) (.const (.int .i64 (.ofNat 2))), (some ((some 57), true))⟩,
  ⟨(some 60), .pick (.tmp 57) (.tmp 59) (.const (.bool false)), (some ((some 54), false))⟩,
  ⟨(some 61), .pick (.tmp 54) (.const (.bool true)) (.tmp 60), none⟩] none
def f100r8 : ICode := .region [
  ⟨(some 62), .move (.tmp 0), none⟩,
  ⟨(some 63), .move (.tmp 1), none⟩,
  ⟨(some 64), .call 60 [(.tmp 62), (.const (.int .i64 (.ofNat 20))), (.tmp 63)], none⟩] none
def f100r9 : ICode := .region [
  ⟨(some 65), .move (.tmp 5), none⟩,
  ⟨(some 4), .move (.tmp 65), none⟩] none
/- (*ferret/syn.parser).number -/
def f100 : IFn := ⟨66, [.inl 4], (.seq f100r0 (.seq f100r1 (.seq f100r2 (.seq (.block 0 (.loop (.seq (.seq f100r3 (.cond (.tmp 24) .skip (.exit 0))) (.block 1 (.seq f100r4 (.seq f100r5 f100r6)))))) (.seq (.seq f100r7 (.cond (.tmp 61) f100r8 .skip)) (.seq f100r9 .ret))))))⟩
def f101r0 : ICode := .region [
  ⟨(some 2), .move (.const (.slice none 0 0)), none⟩,
  ⟨(some 3), .move (.const (.bool false)), none⟩] none
def f101r1 : ICode := .region [
  ⟨(some 4), .move (.const (.slice none 0 0)), none⟩] none
def f101r2 : ICode := .region [
  ⟨(some 9), .move (.tmp 0), none⟩,
  ⟨(some 10), .bin .or (.tmp 9) (.const (.int .u8 (.ofNat 32))), none⟩] none
def f101r3 : ICode := .region [
  ⟨(some 12), .bin .eql (.tmp 10) (.const (.int .u8 (.ofNat 100))), none⟩,
  ⟨(some 11), .move (.tmp 12), none⟩] none
def f101r4 : ICode := .region [
  ⟨(some 14), .call 117 [(.const (.string ⟨⟨[78, 100]⟩⟩))], none⟩,
  ⟨(some 13), .move (.tmp 14), none⟩,
  ⟨(some 15), .extract (.tmp 13) 0, none⟩,
  ⟨(some 16), .extract (.tmp 13) 1, none⟩,
  ⟨(some 4), .move (.tmp 15), none⟩] none
def f101r5 : ICode := .region [
  ⟨(some 18), .bin .eql (.tmp 10) (.const (.int .u8 (.ofNat 115))), none⟩,
  ⟨(some 17), .move (.tmp 18), none⟩] none
def f101r6 : ICode := .region [
  ⟨(some 19), .call 119 [], none⟩,
  ⟨(some 4), .move (.tmp 19), none⟩] none
def f101r7 : ICode := .region [
  ⟨(some 21), .bin .eql (.tmp 10) (.const (.int .u8 (.ofNat 119))), none⟩,
  ⟨(some 20), .move (.tmp 21), none⟩] none
def f101r8 : ICode := .region [
  ⟨(some 22), .buildSlice 9 3 [(.string ⟨⟨[]⟩⟩), (.string ⟨⟨[]⟩⟩), (.string ⟨⟨[]⟩⟩)] [(0, 1, (.const (.string ⟨⟨[76]⟩⟩))), (1, 1, (.const (.string ⟨⟨[78, 100]⟩⟩))), (2, 1, (.const (.string ⟨⟨[80, 99]⟩⟩)))], none⟩,
  ⟨(some 23), .len 1 (.tmp 22), none⟩,
  ⟨(some 24), .move (.const (.int .i64 (.ofNat 0))), none⟩] none
def f101r9 : ICode := .region [
  ⟨(some 25), .bin .lss (.tmp 24) (.tmp 23), none⟩] none
def f101r10 : ICode := .region [
  ⟨(some 26), .indexSl 1 (.tmp 22) (.tmp 24), none⟩,
  ⟨(some 27), .load1 (.tmp 26), none⟩,
  ⟨(some 6), .move (.tmp 27), none⟩] none
def f101r11 : ICode := .region [
  ⟨(some 29), .move (.tmp 6), none⟩,
  ⟨(some 30), .call 117 [(.tmp 29)], none⟩,
  ⟨(some 28), .move (.tmp 30), none⟩,
  ⟨(some 31), .extract (.tmp 28) 0, none⟩,
  ⟨(some 32), .extract (.tmp 28) 1, none⟩,
  ⟨(some 7), .move (.tmp 31), none⟩,
  ⟨(some 8), .move (.tmp 32), none⟩] none
def f101r12 : ICode := .region [
  ⟨(some 33), .move (.tmp 4), none⟩,
  ⟨(some 34), .move (.tmp 7), none⟩,
  ⟨(some 35), .call 98 [(.tmp 33), (.tmp 34)], none⟩,
  ⟨(some 4), .move (.tmp 35), none⟩] none
def f101r13 : ICode := .region [
  ⟨(some 36), .bin .add (.tmp 24) (.const (.int .i64 (.ofNat 1))), none⟩,
  ⟨(some 24), .move (.tmp 36), none⟩] none
def f101r14 : ICode := .region [
  ⟨(some 2), .move (.const (.slice none 0 0)), none⟩,
  ⟨(some 3), .move (.const (.bool false)), none⟩] none
def f101r15 : ICode := .region [
  ⟨(some 37), .move (.tmp 0), none⟩,
  ⟨(some 38), .bin .and (.tmp 37) (.const (.int .u8 (.ofNat 32))), none⟩,
  ⟨(some 39), .bin .eql (.tmp 38) (.const (.int .u8 (.ofNat 0))), none⟩] none
def f101r16 : ICode := .region [
  ⟨(some 40), .move (.tmp 4), none⟩,
  ⟨(some 41), .call 88 [(.tmp 40)], none⟩,
  ⟨(some 4), .move (.tmp 41), none⟩] none
def f101r17 : ICode := .region [
  ⟨(some 42), .move (.tmp 4), none⟩,
  ⟨(some 2), .move (.tmp 42), none⟩,
  ⟨(some 3), .move (.const (.bool true)), none⟩] none
/- ferret/ucd.Perl -/
def f101 : IFn := ⟨43, [.inl 2, .inl 3], (.seq f101r0 (.seq f101r1 (.seq (.seq f101r2 (.block 0 (.seq f101r3 (.cond (.tmp 11) f101r4 (.seq f101r5 (.cond (.tmp 17) f101r6 (.seq f101r7 (.cond (.tmp 20) (.seq f101r8 (.block 1 (.loop (.seq f101r9 (.seq (.cond (.tmp 25) .skip (.exit 1)) (.seq (.block 2 (.seq f101r10 (.seq f101r11 f101r12))) f101r13)))))) (.seq f101r14 .ret))))))))) (.seq (.seq f101r15 (.cond (.tmp 39) f101r16 .skip)) (.seq f101r17 .ret)))))⟩
def f102r0 : ICode := .region [
  ⟨(some 4), .move (.const (.int .i64 (.ofNat 0))), none⟩] none
def f102r1 : ICode := .region [
  ⟨(some 5), .move (.tmp 0), none⟩,
  ⟨(some 6), .move (.tmp 1), none⟩,
  ⟨(some 7), .call 120 [(.tmp 5), (.tmp 6)], none⟩,
  ⟨(some 4), .move (.tmp 7), none⟩] none
/- strings.IndexByte -/
def f102 : IFn := ⟨8, [.inl 4], (.seq f102r0 (.seq f102r1 .ret))⟩
def f105r0 : ICode := .region [
  ⟨(some 4), .move (.const (.bool false)), none⟩] none
def f105r1 : ICode := .region [
  ⟨(some 5), .load1 (.tmp 1), none⟩,
  ⟨(some 6), .move (.tmp 0), none⟩,
  ⟨(some 7), .indexSl 2 (.tmp 5) (.tmp 6), none⟩,
  ⟨(some 8), .fieldAddr 1 (.tmp 7), none⟩,
  ⟨(some 9), .load1 (.tmp 8), none⟩,
  ⟨(some 10), .load1 (.tmp 2), none⟩,
  ⟨(some 11), .bin .geq (.tmp 9) (.tmp 10), none⟩,
  ⟨(some 4), .move (.tmp 11), none⟩] (some ⟨[], []⟩)
/- (ferret/sets.Set).Has$1 -/
def f105 : IFn := ⟨12, [.inl 4], (.seq f105r0 (.seq f105r1 .ret))⟩
def f104r0 : ICode := .region [
  ⟨(some 4), .move (.const (.int .i64 (.ofNat 0))), none⟩] none
def f104r1 : ICode := .region [
  ⟨(some 8), .move (.tmp 0), none⟩,
  ⟨(some 5), .move (.const (.int .i64 (.ofNat 0))), none⟩,
  ⟨(some 6), .move (.tmp 8), none⟩] none
def f104r2 : ICode := .region [
  ⟨(some 9), .move (.tmp 5), none⟩,
  ⟨(some 10), .move (.tmp 6), none⟩,
  ⟨(some 11), .bin .lss (.tmp 9) (.tmp 10), none⟩] none
def f104r3 : ICode := .region [
  ⟨(some 12), .move (.tmp 5), none⟩,
  ⟨(some 13), .move (.tmp 6), none⟩,
  ⟨(some 14), .bin .add (.tmp 12) (.tmp 13), none⟩,
  ⟨(some 15), .conv .u64 (.tmp 14), none⟩,
  ⟨(some 16), .bin .shr (.tmp 15) (.const (.int .u64 (.ofNat 1))), none⟩,
  ⟨(some 17), .conv .i64 (.tmp 16), none⟩,
  ⟨(some 7), .move (.tmp 17), none⟩] none
def f104r4 : ICode := .region [
  ⟨(some 18), .move (.tmp 1), none⟩,
  ⟨(some 19), .move (.tmp 7), none⟩,
  ⟨(some 20), .callv (.tmp 18) [(.tmp 19)], none⟩,
  ⟨(some 21), .un .not (.tmp 20), none⟩] none
def f104r5 : ICode := .region [
  ⟨(some 22), .move (.tmp 7), none⟩,
  ⟨(some 23), .bin .add (.tmp 22) (.const (.int .i64 (.ofNat 1))), none⟩,
  ⟨(some 5), .move (.tmp 23), none⟩] none
def f104r6 : ICode := .region [
  ⟨(some 24), .move (.tmp 7), none⟩,
  ⟨(some 6), .move (.tmp 24), none⟩] none
def f104r7 : ICode := .region [
  ⟨(some 25), .move (.tmp 5), none⟩,
  ⟨(some 4), .move (.tmp 25), none⟩] none
/- sort.Search -/
def f104 : IFn := ⟨26, [.inl 4], (.seq f104r0 (.seq f104r1 (.seq (.block 0 (.loop (.seq (.seq f104r2 (.cond (.tmp 11) .skip (.exit 0))) (.block 1 (.seq f104r3 (.seq f104r4 (.cond (.tmp 21) f104r5 f104r6))))))) (.seq f104r7 .ret))))⟩
def f103r0 : ICode := .region [
  ⟨(some 4), .move (.const (.int .i64 (.ofNat 0))), none⟩] none
def f103r1 : ICode := .region [
  ⟨(some 6), .move (.tmp 0), none⟩,
  ⟨(some 7), .len 1 (.tmp 6), none⟩,
  ⟨(some 8), .move (.const (.int .i64 (.ofNat 0))), none⟩] none
def f103r2 : ICode := .region [
  ⟨(some 9), .bin .lss (.tmp 8) (.tmp 7), none⟩] none
def f103r3 : ICode := .region [
  ⟨(some 10), .move (.tmp 8), none⟩,
  ⟨(some 5), .move (.tmp 10), none⟩] none
def f103r4 : ICode := .region [
  ⟨(some 11), .move (.tmp 1), none⟩,
  ⟨(some 12), .move (.tmp 0), none⟩,
  ⟨(some 13), .move (.tmp 5), none⟩,
  ⟨(some 14), .indexSl 1 (.tmp 12) (.tmp 13), none⟩,
  ⟨(some 15), .load1 (.tmp 14), none⟩,
  ⟨(some 16), .callv (.tmp 11) [(.tmp 15)], none⟩] none
def f103r5 : ICode := .region [
  ⟨(some 17), .move (.tmp 5), none⟩,
  ⟨(some 4), .move (.tmp 17), none⟩] none
def f103r6 : ICode := .region [
  ⟨(some 18), .bin .add (.tmp 8) (.const (.int .i64 (.ofNat 1))), none⟩,
  ⟨(some 8), .move (.tmp 18), none⟩] none
def f103r7 : ICode := .region [
  ⟨(some 4), .move (.const (.int .i64 (.negSucc 0))), none⟩] none
/- slices.IndexFunc[[]int,int] -/
def f103 : IFn := ⟨19, [.inl 4], (.seq f103r0 (.seq (.seq f103r1 (.block 0 (.loop (.seq f103r2 (.seq (.cond (.tmp 9) .skip (.exit 0)) (.seq (.block 1 (.seq f103r3 (.seq f103r4 (.cond (.tmp 16) (.seq f103r5 .ret) .skip)))) f103r6)))))) (.seq f103r7 .ret)))⟩
def f109r0 : ICode := .region [
  ⟨(some 2), .move (.const (.int .i64 (.ofNat 0))), none⟩] none
def f109r1 : ICode := .region [
  ⟨(some 3), .move (.tmp 0), none⟩,
  ⟨(some 4), .conv .u32 (.tmp 3), none⟩,
  ⟨(some 5), .call 130 [(.tmp 4)], none⟩,
  ⟨(some 2), .move (.tmp 5), none⟩] none
def f109r2 : ICode := .region [
  ⟨(some 6), .move (.tmp 0), none⟩,
  ⟨(some 7), .call 131 [(.tmp 6)], none⟩,
  ⟨(some 2), .move (.tmp 7), none⟩] none
/- math/bits.Len -/
def f109 : IFn := ⟨8, [.inl 2], (.seq f109r0 (.seq (.cond (.const (.bool false)) (.seq f109r1 .ret) .skip) (.seq f109r2 .ret)))⟩
def f110r0 : ICode := .region [
  ⟨(some 4), .box 160 (.tmp 0), none⟩] none
def f110r1 : ICode := .region [
  ⟨(some 8), .move (.const (.bool true)), none⟩] none
def f110r2 : ICode := .region [
  ⟨(some 9), .move (.const (.bool true)), none⟩] none
def f110r3 : ICode := .region [
  ⟨(some 19), .move (.tmp 2), none⟩,
  ⟨(some 20), .move (.tmp 1), none⟩,
  ⟨(some 21), .bin .sub (.tmp 19) (.tmp 20), none⟩,
  ⟨(some 10), .move (.tmp 21), none⟩] none
def f110r4 : ICode := .region [
  ⟨(some 22), .move (.tmp 10), none⟩,
  ⟨(some 23), .bin .leq (.tmp 22) (.const (.int .i64 (.ofNat 12))), none⟩] none
def f110r5 : ICode := .region [
  ⟨(some 24), .loadN 2 (.tmp 4), none⟩,
  ⟨(some 25), .move (.tmp 1), none⟩,
  ⟨(some 26), .move (.tmp 2), none⟩,
  ⟨(some 27), .call 132 [(.tmp 24), (.tmp 25), (.tmp 26)], none⟩] none
def f110r6 : ICode := .region [
  ⟨(some 28), .move (.tmp 3), none⟩,
  ⟨(some 29), .bin .eql (.tmp 28) (.const (.int .i64 (.ofNat 0))), none⟩] none
def f110r7 : ICode := .region [
  ⟨(some 30), .loadN 2 (.tmp 4), none⟩,
  ⟨(some 31), .move (.tmp 1), none⟩,
  ⟨(some 32), .move (.tmp 2), none⟩,
  ⟨(some 33), .call 133 [(.tmp 30), (.tmp 31), (.tmp 32)], none⟩] none
def f110r8 : ICode := .region [
  ⟨(some 34), .move (.tmp 8), none⟩,
  ⟨(some 35), .un .not (.tmp 34), none⟩] none
def f110r9 : ICode := .region [
  ⟨(some 36), .loadN 2 (.tmp 4), none⟩,
  ⟨(some 37), .move (.tmp 1), none⟩,
  ⟨(some 38), .move (.tmp 2), none⟩,
  ⟨(some 39), .call 134 [(.tmp 36), (.tmp 37), (.tmp 38)], none⟩] none
def f110r10 : ICode := .region [
  ⟨(some 40), .move (.tmp 3), none⟩,
  ⟨(some 41), .bin .sub (.tmp 40) (.const (.int .i64 (.ofNat 1))), none⟩,
  ⟨(some 3), .move (.tmp 41), none⟩] none
def f110r11 : ICode := .region [
  ⟨(some 43), .loadN 2 (.tmp 4), none⟩,
  ⟨(some 44), .move (.tmp 1), none⟩,
  ⟨(some 45), .move (.tmp 2), none⟩,
  ⟨(some 46), .call 135 [(.tmp 43), (.tmp 44), (.tmp 45)], none⟩,
  ⟨(some 42), .move (.tmp 46), none⟩,
  ⟨(some 47), .extract (.tmp 42) 0, none⟩,
  ⟨(some 48), .extract (.tmp 42) 1, none⟩,
  ⟨(some 11), .move (.tmp 47), none⟩,
  ⟨(some 12), .move (.tmp 48), none⟩] none
def f110r12 : ICode := .region [
  ⟨(some 49), .move (.tmp 12), none⟩,
  ⟨(some 50), .bin .eql (.tmp 49) (.const (.int .i64 (.ofNat 2))), none⟩] none
def f110r13 : ICode := .region [
  ⟨(some 51), .loadN 2 (.tmp 4), none⟩,
  ⟨(some 52), .move (.tmp 1), none⟩,
  ⟨(some 53), .move (.tmp 2), none⟩,
  ⟨(some 54), .call 136 [(.tmp 51), (.tmp 52), (.tmp 53)], none⟩] none
def f110r14 : ICode := .region [
  ⟨(some 55), .move (.tmp 2), none⟩,
  ⟨(some 56), .bin .sub (.tmp 55) (.const (.int .i64 (.ofNat 1))), none⟩,
  ⟨(some 57), .move (.tmp 11), none⟩,
  ⟨(some 58), .move (.tmp 1), none⟩,
  ⟨(some 59), .bin .sub (.tmp 57) (.tmp 58), none⟩,
  ⟨(some 60), .bin .sub (.tmp 56) (.tmp 59), none⟩,
  ⟨(some 11), .move (.tmp 60), none⟩] none
def f110r15 : ICode := .region [
  ⟨(some 12), .move (.const (.int .i64 (.ofNat 1))), none⟩] none
def f110r16 : ICode := .region [
  ⟨(some 61), .move (.tmp 8), none⟩,
  ⟨(some 62), .move (.tmp 61), none⟩,
  ⟨(some 63), .move (.tmp 9), (some ((some 62), true))⟩,
  ⟨(some 64), .pick (.tmp 62) (.tmp 63) (.const (.bool false)), none⟩,
  ⟨(some 65), .move (.tmp 64), none⟩,
  ⟨(some 66), .move (.tmp 12), (some ((some 65), true))⟩,
  ⟨(some 67), .bin .eql (.tmp 66) (.const (.int .i64 (.ofNat 1))), (some ((some 65), true))⟩,
  ⟨(some 68), .pick (.tmp 65) (.tmp 67) (.const (.bool false)), none⟩] none
def f110r17 : ICode := .region [
  ⟨(some 69), .loadN 2 (.tmp 4), none⟩,
  ⟨(some 70), .move (.tmp 1), none⟩,
  ⟨(some 71), .move (.tmp 2), none⟩,
  ⟨(some 72), .call 137 [(.tmp 69), (.tmp 70), (.tmp 71)], none⟩] none
def f110r18 : ICode := .region [
  ⟨(some 73), .move (.tmp 1), none⟩,
  ⟨(some 74), .bin .gtr (.tmp 73) (.const (.int .i64 (.ofNat 0))), none⟩,
  ⟨(some 75), .move (.tmp 74), none⟩,
  ⟨(some 76), .fieldAddr 0 (.tmp 4), (some ((some 75), true))⟩,
  ⟨(some 77), .load1 (.tmp 76), (some ((some 75), true))⟩,
  ⟨(some 78), .move (.tmp 1), (some ((some 75), true))⟩,
  ⟨(some 79), .bin .sub (.tmp 78) (.const (.int .i64 (.ofNat 1))), (some ((some 75), true))⟩,
  ⟨(some 80), .move (.tmp 11), (some ((some 75), true))⟩,
  ⟨(some 81), .callv (.tmp 77) [(.tmp 79), (.tmp 80)], (some ((some 75), true))⟩,
  ⟨(some 82), .un .not (.tmp 81), (some ((some 75), true))⟩,
  ⟨(some 83), .pick (.tmp 75) (.tmp 82) (.const (.bool false)), none⟩] none
def f110r19 : ICode := .region [
  ⟨(some 84), .loadN 2 (.tmp 4), none⟩,
  ⟨(some 85), .move (.tmp 1), none⟩,
  ⟨(some 86), .move (.tmp 2), none⟩,
  ⟨(some 87), .move (.tmp 11), none⟩,
  ⟨(some 88), .call 138 [(.tmp 84), (.tmp 85), (.tmp 86), (.tmp 87)], none⟩,
  ⟨(some 13), .move (.tmp 88), none⟩] none
def f110r20 : ICode := .region [
  ⟨(some 89), .move (.tmp 13), none⟩,
  ⟨(some 1), .move (.tmp 89), none⟩] none
def f110r21 : ICode := .region [
  ⟨(some 91), .loadN 2 (.tmp 4), none⟩,
  ⟨(some 92), .move (.tmp 1), none⟩,
  ⟨(some 93), .move (.tmp 2), none⟩,
  ⟨(some 94), .move (.tmp 11), none⟩,
  ⟨(some 95), .call 139 [(.tmp 91), (.tmp 92), (.tmp 93), (.tmp 94)], none⟩,
  ⟨(some 90), .move (.tmp 95), none⟩,
  ⟨(some 96), .extract (.tmp 90) 0, none⟩,
  ⟨(some 97), .extract (.tmp 90) 1, none⟩,
  ⟨(some 14), .move (.tmp 96), none⟩,
  ⟨(some 15), .move (.tmp 97), none⟩] none
def f110r22 : ICode := .region [
  ⟨(some 98), .move (.tmp 15), none⟩,
  ⟨(some 9), .move (.tmp 98), none⟩] none
def f110r23 : ICode := .region [
  ⟨(some 99), .move (.tmp 14), none⟩,
  ⟨(some 100), .move (.tmp 1), none⟩,
  ⟨(some 101), .bin .sub (.tmp 99) (.tmp 100), none⟩,
  ⟨(some 102), .move (.tmp 2), none⟩,
  ⟨(some 103), .move (.tmp 14), none⟩,
  ⟨(some 104), .bin .sub (.tmp 102) (.tmp 103), none⟩,
  ⟨(some 16), .move (.tmp 101), none⟩,
  ⟨(some 17), .move (.tmp 104), none⟩] none
def f110r24 : ICode := .region [
  ⟨(some 105), .move (.tmp 10), none⟩,
  ⟨(some 106), .bin .quo (.tmp 105) (.const (.int .i64 (.ofNat 8))), none⟩,
  ⟨(some 18), .move (.tmp 106), none⟩] none
def f110r25 : ICode := .region [
  ⟨(some 107), .move (.tmp 16), none⟩,
  ⟨(some 108), .move (.tmp 17), none⟩,
  ⟨(some 109), .bin .lss (.tmp 107) (.tmp 108), none⟩] none
def f110r26 : ICode := .region [
  ⟨(some 110), .move (.tmp 16), none⟩,
  ⟨(some 111), .move (.tmp 18), none⟩,
  ⟨(some 112), .bin .geq (.tmp 110) (.tmp 111), none⟩,
  ⟨(some 8), .move (.tmp 112), none⟩] none
def f110r27 : ICode := .region [
  ⟨(some 113), .loadN 2 (.tmp 4), none⟩,
  ⟨(some 114), .move (.tmp 1), none⟩,
  ⟨(some 115), .move (.tmp 14), none⟩,
  ⟨(some 116), .move (.tmp 3), none⟩,
  ⟨(some 117), .call 110 [(.tmp 113), (.tmp 114), (.tmp 115), (.tmp 116)], none⟩] none
def f110r28 : ICode := .region [
  ⟨(some 118), .move (.tmp 14), none⟩,
  ⟨(some 119), .bin .add (.tmp 118) (.const (.int .i64 (.ofNat 1))), none⟩,
  ⟨(some 1), .move (.tmp 119), none⟩] none
def f110r29 : ICode := .region [
  ⟨(some 120), .move (.tmp 17), none⟩,
  ⟨(some 121), .move (.tmp 18), none⟩,
  ⟨(some 122), .bin .geq (.tmp 120) (.tmp 121), none⟩,
  ⟨(some 8), .move (.tmp 122), none⟩] none
def f110r30 : ICode := .region [
  ⟨(some 123), .loadN 2 (.tmp 4), none⟩,
  ⟨(some 124), .move (.tmp 14), none⟩,
  ⟨(some 125), .bin .add (.tmp 124) (.const (.int .i64 (.ofNat 1))), none⟩,
  ⟨(some 126), .move (.tmp 2), none⟩,
  ⟨(some 127), .move (.tmp 3), none⟩,
  ⟨(some 128), .call 110 [(.tmp 123), (.tmp 125), (.tmp 126), (.tmp 127)], none⟩] none
def f110r31 : ICode := .region [
  ⟨(some 129), .move (.tmp 14), none⟩,
  ⟨(some 2), .move (.tmp 129), none⟩] none
/- sort.pdqsort_func -/
def f110 : IFn := ⟨130, [], (.seq f110r0 (.seq f110r1 (.seq f110r2 (.block 0 (.loop (.block 1 (.seq f110r3 (.seq (.seq f110r4 (.cond (.tmp 23) (.seq f110r5 .ret) .skip)) (.seq (.seq f110r6 (.cond (.tmp 29) (.seq f110r7 .ret) .skip)) (.seq (.seq f110r8 (.cond (.tmp 35) (.seq f110r9 f110r10) .skip)) (.seq f110r11 (.seq (.seq f110r12 (.cond (.tmp 50) (.seq f110r13 (.seq f110r14 f110r15)) .skip)) (.seq (.seq f110r16 (.cond (.tmp 68) (.seq f110r17 (.cond (.tmp 72) .ret .skip)) .skip)) (.seq (.seq f110r18 (.cond (.tmp 83) (.seq f110r19 (.seq f110r20 (.exit 1))) .skip)) (.seq f110r21 (.seq f110r22 (.seq f110r23 (.seq f110r24 (.seq f110r25 (.cond (.tmp 109) (.seq f110r26 (.seq f110r27 f110r28)) (.seq f110r29 (.seq f110r30 f110r31))))))))))))))))))))))⟩
def f111r0 : ICode := .region [
  ⟨(some 2), .move (.const (.string ⟨⟨[]⟩⟩)), none⟩] none
def f111r1 : ICode := .region [
  ⟨(some 3), .move (.tmp 0), none⟩,
  ⟨(some 4), .bin .lss (.tmp 3) (.const (.int .i64 (.ofNat 10))), none⟩] none
def f111r2 : ICode := .region [
  ⟨(some 5), .move (.tmp 0), none⟩,
  ⟨(some 6), .move (.tmp 0), none⟩,
  ⟨(some 7), .bin .add (.tmp 6) (.const (.int .i64 (.ofNat 1))), none⟩,
  ⟨(some 8), .sliceStr (.const (.string ⟨⟨[48, 49, 50, 51, 52, 53, 54, 55, 56, 57, 97, 98, 99, 100, 101, 102, 103, 104, 105, 106, 107, 108, 109, 110, 111, 112, 113, 114, 115, 116, 117, 118, 119, 120, 121, 122]⟩⟩)) (some (.tmp 5)) (some (.tmp 7)), none⟩,
  ⟨(some 2), .move (.tmp 8), none⟩] none
def f111r3 : ICode := .region [
  ⟨(some 9), .move (.tmp 0), none⟩,
  ⟨(some 10), .bin .mul (.tmp 9) (.const (.int .i64 (.ofNat 2))), none⟩,
  ⟨(some 11), .move (.tmp 0), none⟩,
  ⟨(some 12), .bin .mul (.tmp 11) (.const (.int .i64 (.ofNat 2))), none⟩,
  ⟨(some 13), .bin .add (.tmp 12) (.const (.int .i64 (.ofNat 2))), none⟩,
  ⟨(some 14), .sliceStr (.const (.string ⟨⟨[48, 48, 48, 49, 48, 50, 48, 51, 48, 52, 48, 53, 48, 54, 48, 55, 48, 56, 48, 57, 49, 48, 49, 49, 49, 50, 49, 51, 49, 52, 49, 53, 49, 54, 49, 55, 49, 56, 49, 57, 50, 48, 50, 49, 50, 50, 50, 51, 50, 52, 50, 53, 50, 54, 50, 55, 50, 56, 50, 57, 51, 48, 51, 49, 51, 50, 51, 51, 51, 52, 51, 53, 51, 54, 51, 55, 51, 56, 51, 57, 52, 48, 52, 49, 52, 50, 52, 51, 52, 52, 52, 53, 52, 54, 52, 55, 52, 56, 52, 57, 53, 48, 53, 49, 53, 50, 53, 51, 53, 52, 53, 53, 53, 54, 53, 55, 53, 56, 53, 57, 54, 48, 54, 49, 54, 50, 54, 51, 54, 52, 54, 53, 54, 54, 54, 55, 54, 56, 54, 57, 55, 48, 55, 49, 55, 50, 55, 51, 55, 52, 55, 53, 55, 54, 55, 55, 55, 56, 55, 57, 56, 48, 56, 49, 56, 50, 56, 51, 56, 52, 56, 53, 56, 54, 56, 55, 56, 56, 56, 57, 57, 48, 57, 49, 57, 50, 57, 51, 57, 52, 57, 53, 57, 54, 57, 55, 57, 56, 57, 57]⟩⟩)) (some (.tmp 10)) (some (.tmp 13)), none⟩,
  ⟨(some 2), .move (.tmp 14), none⟩] none
/- internal/strconv.small -/
def f111 : IFn := ⟨15, [.inl 2], (.seq f111r0 (.seq (.seq f111r1 (.cond (.tmp 4) (.seq f111r2 .ret) .skip)) (.seq f111r3 .ret)))⟩
def f112r0 : ICode := .region [
  ⟨(some 2), .move (.const (.int .i64 (.ofNat 0))), none⟩] none
def f112r1 : ICode := .region [
  ⟨(some 4), .move (.tmp 0), none⟩,
  ⟨(some 5), .call 131 [(.tmp 4)], none⟩,
  ⟨(some 6), .call 140 [(.tmp 5)], none⟩,
  ⟨(some 3), .move (.tmp 6), none⟩] none
def f112r2 : ICode := .region [
  ⟨(some 7), .move (.tmp 3), none⟩,
  ⟨(some 8), .move (.tmp 0), none⟩,
  ⟨(some 9), .move (.tmp 3), none⟩,
  ⟨(some 10), .bad, none⟩,
  ⟨(some 11), .load1 (.tmp 10), none⟩,
  ⟨(some 12), .bin .geq (.tmp 8) (.tmp 11), none⟩,
  ⟨(some 13), .call 141 [(.tmp 12)], none⟩,
  ⟨(some 14), .bin .add (.tmp 7) (.tmp 13), none⟩,
  ⟨(some 2), .move (.tmp 14), none⟩] none
/- internal/strconv.numDigits -/
def f112 : IFn := ⟨15, [.inl 2], (.seq f112r0 (.seq f112r1 (.seq f112r2 .ret)))⟩
def f113r0 : ICode := .region [
  ⟨(some 17), .move (.tmp 0), none⟩,
  ⟨(some 18), .len 1 (.tmp 17), none⟩,
  ⟨(some 4), .move (.tmp 18), none⟩] none
def f113r1 : ICode := .region [
  ⟨(some 19), .move (.tmp 4), none⟩,
  ⟨(some 20), .bin .geq (.tmp 19) (.const (.int .i64 (.ofNat 8))), none⟩] none
def f113r2 : ICode := .region [
  ⟨(some 21), .move (.tmp 1), none⟩,
  ⟨(some 22), .bin .rem (.tmp 21) (.const (.int .u64 (.ofNat 100000000))), none⟩,
  ⟨(some 23), .conv .u32 (.tmp 22), none⟩,
  ⟨(some 5), .move (.tmp 23), none⟩] none
def f113r3 : ICode := .region [
  ⟨(some 24), .move (.tmp 1), none⟩,
  ⟨(some 25), .bin .quo (.tmp 24) (.const (.int .u64 (.ofNat 100000000))), none⟩,
  ⟨(some 1), .move (.tmp 25), none⟩] none
def f113r4 : ICode := .region [
  ⟨(some 26), .move (.tmp 5), none⟩,
  ⟨(some 27), .bin .quo (.tmp 26) (.const (.int .u32 (.ofNat 10000))), none⟩,
  ⟨(some 28), .move (.tmp 5), none⟩,
  ⟨(some 29), .bin .rem (.tmp 28) (.const (.int .u32 (.ofNat 10000))), none⟩,
  ⟨(some 6), .move (.tmp 27), none⟩,
  ⟨(some 7), .move (.tmp 29), none⟩] none
def f113r5 : ICode := .region [
  ⟨(some 30), .move (.tmp 7), none⟩,
  ⟨(some 31), .bin .quo (.tmp 30) (.const (.int .u32 (.ofNat 100))), none⟩,
  ⟨(some 32), .bin .mul (.tmp 31) (.const (.int .u32 (.ofNat 2))), none⟩,
  ⟨(some 33), .move (.tmp 7), none⟩,
  ⟨(some 34), .bin .rem (.tmp 33) (.const (.int .u32 (.ofNat 100))), none⟩,
  ⟨(some 35), .bin .mul (.tmp 34) (.const (.int .u32 (.ofNat 2))), none⟩,
  ⟨(some 8), .move (.tmp 32), none⟩,
  ⟨(some 9), .move (.tmp 35), none⟩] none
def f113r6 : ICode := .region [
  ⟨(some 36), .move (.tmp 6), none⟩,
  ⟨(some 37), .bin .quo (.tmp 36) (.const (.int .u32 (.ofNat 100))), none⟩,
  ⟨(some 38), .bin .mul (.tmp 37) (.const (.int .u32 (.ofNat 2))), none⟩,
  ⟨(some 39), .move (.tmp 6), none⟩,
  ⟨(some 40), .bin .rem (.tmp 39) (.const (.int .u32 (.ofNat 100))), none⟩,
  ⟨(some 41), .bin .mul (.tmp 40) (.const (.int .u32 (.ofNat 2))), none⟩,
  ⟨(some 10), .move (.tmp 38), none⟩,
  ⟨(some 11), .move (.tmp 41), none⟩] none
def f113r7 : ICode := .region [
  ⟨(some 42), .move (.tmp 0), none⟩,
  ⟨(some 43), .move (.tmp 4), none⟩,
  ⟨(some 44), .bin .sub (.tmp 43) (.const (.int .i64 (.ofNat 1))), none⟩,
  ⟨(some 45), .move (.tmp 0), none⟩,
  ⟨(some 46), .move (.tmp 4), none⟩,
  ⟨(some 47), .bin .sub (.tmp 46) (.const (.int .i64 (.ofNat 2))), none⟩,
  ⟨(some 48), .move (.tmp 9), none⟩,
  ⟨(some 49), .bin .add (.tmp 48) (.const (.int .u32 (.ofNat 1))), none⟩,
  ⟨(some 50), .indexStr (.const (.string ⟨⟨[48, 48, 48, 49, 48, 50, 48, 51, 48, 52, 48, 53, 48, 54, 48, 55, 48, 56, 48, 57, 49, 48, 49, 49, 49, 50, 49, 51, 49, 52, 49, 53, 49, 54, 49, 55, 49, 56, 49, 57, 50, 48, 50, 49, 50, 50, 50, 51, 50, 52, 50, 53, 50, 54, 50, 55, 50, 56, 50, 57, 51, 48, 51, 49, 51, 50, 51, 51, 51, 52, 51, 53, 51, 54, 51, 55, 51, 56, 51, 57, 52, 48, 52, 49, 52, 50, 52, 51, 52, 52, 52, 53, 52, 54, 52, 55, 52, 56, 52, 57, 53, 48, 53, 49, 53, 50, 53, 51, 53, 52, 53, 53, 53, 54, 53, 55, 53, 56, 53, 57, 54, 48, 54, 49, 54, 50, 54, 51, 54, 52, 54, 53, 54, 54, 54, 55, 54, 56, 54, 57, 55, 48, 55, 49, 55, 50, 55, 51, 55, 52, 55, 53, 55, 54, 55, 55, 55, 56, 55, 57, 56, 48, 56, 49, 56, 50, 56, 51, 56, 52, 56, 53, 56, 54, 56, 55, 56, 56, 56, 57, 57, 48, 57, 49, 57, 50, 57, 51, 57, 52, 57, 53, 57, 54, 57, 55, 57, 56, 57, 57]⟩⟩)) (.tmp 49), none⟩,
  ⟨(some 51), .move (.tmp 9), none⟩,
  ⟨(some 52), .indexStr (.const (.string ⟨⟨[48, 48, 48, 49, 48, 50, 48, 51, 48, 52, 48, 53, 48, 54, 48, 55, 48, 56, 48, 57, 49, 48, 49, 49, 49, 50, 49, 51, 49, 52, 49, 53, 49, 54, 49, 55, 49, 56, 49, 57, 50, 48, 50, 49, 50, 50, 50, 51, 50, 52, 50, 53, 50, 54, 50, 55, 50, 56, 50, 57, 51, 48, 51, 49, 51, 50, 51, 51, 51, 52, 51, 53, 51, 54, 51, 55, 51, 56, 51, 57, 52, 48, 52, 49, 52, 50, 52, 51, 52, 52, 52, 53, 52, 54, 52, 55, 52, 56, 52, 57, 53, 48, 53, 49, 53, 50, 53, 51, 53, 52, 53, 53, 53, 54, 53, 55, 53, 56, 53, 57, 54, 48, 54, 49, 54, 50, 54, 51, 54, 52, 54, 53, 54, 54, 54, 55, 54, 56, 54, 57, 55, 48, 55, 49, 55, 50, 55, 51, 55, 52, 55, 53, 55, 54, 55, 55, 55, 56, 55, 57, 56, 48, 56, 49, 56, 50, 56, 51, 56, 52, 56, 53, 56, 54, 56, 55, 56, 56, 56, 57, 57, 48, 57, 49, 57, 50, 57, 51, 57, 52, 57, 53, 57, 54, 57, 55, 57, 56, 57, 57]⟩⟩)) (.tmp 51), none⟩,
  ⟨(some 53), .indexSl 1 (.tmp 42) (.tmp 44), none⟩,
  ⟨none, .store 1 (.tmp 53) (.tmp 50), none⟩,
  ⟨(some 54), .indexSl 1 (.tmp 45) (.tmp 47), none⟩,
  ⟨none, .store 1 (.tmp 54) (.tmp 52), none⟩] (some ⟨[], []⟩)
def f113r8 : ICode := .region [
  ⟨(some 55), .move (.tmp 0), none⟩,
  ⟨(some 56), .move (.tmp 4), none⟩,
  ⟨(some 57), .bin .sub (.tmp 56) (.const (.int .i64 (.ofNat 3))), none⟩,
  ⟨(some 58), .move (.tmp 0), none⟩,
  ⟨(some 59), .move (.tmp 4), none⟩,
  ⟨(some 60), .bin .sub (.tmp 59) (.const (.int .i64 (.ofNat 4))), none⟩,
  ⟨(some 61), .move (.tmp 8), none⟩,
  ⟨(some 62), .bin .add (.tmp 61) (.const (.int .u32 (.ofNat 1))), none⟩,
  ⟨(some 63), .indexStr (.const (.string ⟨⟨[48, 48, 48, 49, 48, 50, 48, 51, 48, 52, 48, 53, 48, 54, 48, 55, 48, 56, 48, 57, 49, 48, 49, 49, 49, 50, 49, 51, 49, 52, 49, 53, 49, 54, 49, 55, 49, 56, 49, 57, 50, 48, 50, 49, 50, 50, 50, 51, 50, 52, 50, 53, 50, 54, 50, 55, 50, 56, 50, 57, 51, 48, 51, 49, 51, 50, 51, 51, 51, 52, 51, 53, 51, 54, 51, 55, 51, 56, 51, 57, 52, 48, 52, 49, 52, 50, 52, 51, 52, 52, 52, 53, 52, 54, 52, 55, 52, 56, 52, 57, 53, 48, 53, 49, 53, 50, 53, 51, 53, 52, 53, 53, 53, 54, 53, 55, 53, 56, 53, 57, 54, 48, 54, 49, 54, 50, 54, 51, 54, 52, 54, 53, 54, 54, 54, 55, 54, 56, 54, 57, 55, 48, 55, 49, 55, 50, 55, 51, 55, 52, 55, 53, 55, 54, 55, 55, 55, 56, 55, 57, 56, 48, 56, 49, 56, 50, 56, 51, 56, 52, 56, 53, 56, 54, 56, 55, 56, 56, 56, 57, 57, 48, 57, 49, 57, 50, 57, 51, 57, 52, 57, 53, 57, 54, 57, 55, 57, 56, 57, 57]⟩⟩)) (.tmp 62), none⟩,
  ⟨(some 64), .move (.tmp 8), none⟩,
  ⟨(some 65), .indexStr (.const (.string ⟨⟨[48, 48, 48, 49, 48, 50, 48, 51, 48, 52, 48, 53, 48, 54, 48, 55, 48, 56, 48, 57, 49, 48, 49, 49, 49, 50, 49, 51, 49, 52, 49, 53, 49, 54, 49, 55, 49, 56, 49, 57, 50, 48, 50, 49, 50, 50, 50, 51, 50, 52, 50, 53, 50, 54, 50, 55, 50, 56, 50, 57, 51, 48, 51, 49, 51, 50, 51, 51, 51, 52, 51, 53, 51, 54, 51, 55, 51, 56, 51, 57, 52, 48, 52, 49, 52, 50, 52, 51, 52, 52, 52, 53, 52, 54, 52, 55, 52, 56, 52, 57, 53, 48, 53, 49, 53, 50, 53, 51, 53, 52, 53, 53, 53, 54, 53, 55, 53, 56, 53, 57, 54, 48, 54, 49, 54, 50, 54, 51, 54, 52, 54, 53, 54, 54, 54, 55, 54, 56, 54, 57, 55, 48, 55, 49, 55, 50, 55, 51, 55, 52, 55, 53, 55, 54, 55, 55, 55, 56, 55, 57, 56, 48, 56, 49, 56, 50, 56, 51, 56, 52, 56, 53, 56, 54, 56, 55, 56, 56, 56, 57, 57, 48, 57, 49, 57, 50, 57, 51, 57, 52, 57, 53, 57, 54, 57, 55, 57, 56, 57, 57]⟩⟩)) (.tmp 64), none⟩,
  ⟨(some 66), .indexSl 1 (.tmp 55) (.tmp 57), none⟩,
  ⟨none, .store 1 (.tmp 66) (.tmp 63), none⟩,
  ⟨(some 67), .indexSl 1 (.tmp 58) (.tmp 60), none⟩,
  ⟨none, .store 1 (.tmp 67) (.tmp 65), none⟩] (some ⟨[], []⟩)
def f113r9 : ICode := .region [
  ⟨(some 68), .move (.tmp 0), none⟩,
  ⟨(some 69), .move (.tmp 4), none⟩,
  ⟨(some 70), .bin .sub (.tmp 69) (.const (.int .i64 (.ofNat 5))), none⟩,
  ⟨(some 71), .move (.tmp 0), none⟩,
  ⟨(some 72), .move (.tmp 4), none⟩,
  ⟨(some 73), .bin .sub (.tmp 72) (.const (.int .i64 (.ofNat 6))), none⟩,
  ⟨(some 74), .move (.tmp 11), none⟩,
  ⟨(some 75), .bin .add (.tmp 74) (.const (.int .u32 (.ofNat 1))), none⟩,
  ⟨(some 76), .indexStr (.const (.string ⟨⟨[48, 48, 48, 49, 48, 50, 48, 51, 48, 52, 48, 53, 48, 54, 48, 55, 48, 56, 48, 57, 49, 48, 49, 49, 49, 50, 49, 51, 49, 52, 49, 53, 49, 54, 49, 55, 49, 56, 49, 57, 50, 48, 50, 49, 50, 50, 50, 51, 50, 52, 50, 53, 50, 54, 50, 55, 50, 56, 50, 57, 51, 48, 51, 49, 51, 50, 51, 51, 51, 52, 51, 53, 51, 54, 51, 55, 51, 56, 51, 57, 52, 48, 52, 49, 52, 50, 52, 51, 52, 52, 52, 53, 52, 54, 52, 55, 52, 56, 52, 57, 53, 48, 53, 49, 53, 50, 53, 51, 53, 52, 53, 53, 53, 54, 53, 55, 53, 56, 53, 57, 54, 48, 54, 49, 54, 50, 54, 51, 54, 52, 54, 53, 54, 54, 54, 55, 54, 56, 54, 57, 55, 48, 55, 49, 55, 50, 55, 51, 55, 52, 55, 53, 55, 54, 55, 55, 55, 56, 55, 57, 56, 48, 56, 49, 56, 50, 56, 51, 56, 52, 56, 53, 56, 54, 56, 55, 56, 56, 56, 57, 57, 48, 57, 49, 57, 50, 57, 51, 57, 52, 57, 53, 57, 54, 57, 55, 57, 56, 57, 57]⟩⟩)) (.tmp 75), none⟩,
  ⟨(some 77), .move (.tmp 11), none⟩,
  ⟨(some 78), .indexStr (.const (.string ⟨⟨[48, 48, 48, 49, 48, 50, 48, 51, 48, 52, 48, 53, 48, 54, 48, 55, 48, 56, 48, 57, 49, 48, 49, 49, 49, 50, 49, 51, 49, 52, 49, 53, 49, 54, 49, 55, 49, 56, 49, 57, 50, 48, 50, 49, 50, 50, 50, 51, 50, 52, 50, 53, 50, 54, 50, 55, 50, 56, 50, 57, 51, 48, 51, 49, 51, 50, 51, 51, 51, 52, 51, 53, 51, 54, 51, 55, 51, 56, 51, 57, 52, 48, 52, 49, 52, 50, 52, 51, 52, 52, 52, 53, 52, 54, 52, 55, 52, 56, 52, 57, 53, 48, 53, 49, 53, 50, 53, 51, 53, 52, 53, 53, 53, 54, 53, 55, 53, 56, 53, 57, 54, 48, 54, 49, 54, 50, 54, 51, 54, 52, 54, 53, 54, 54, 54, 55, 54, 56, 54, 57, 55, 48, 55, 49, 55, 50, 55, 51, 55, 52, 55, 53, 55, 54, 55, 55, 55, 56, 55, 57, 56, 48, 56, 49, 56, 50, 56, 51, 56, 52, 56, 53, 56, 54, 56, 55, 56, 56, 56, 57, 57, 48, 57, 49, 57, 50, 57, 51, 57, 52, 57, 53, 57, 54, 57, 55, 57, 56, 57, 57]⟩⟩)) (.tmp 77), none⟩,
  ⟨(some 79), .indexSl 1 (.tmp 68) (.tmp 70), none⟩,
  ⟨none, .store 1 (.tmp 79) (.tmp 76), none⟩,
  ⟨(some 80), .indexSl 1 (.tmp 71) (.tmp 73), none⟩,
  ⟨none, .store 1 (.tmp 80) (.tmp 78), none⟩] (some ⟨[], []⟩)
def f113r10 : ICode := .region [
  ⟨(some 81), .move (.tmp 0), none⟩,
  ⟨(some 82), .move (.tmp 4), none⟩,
  ⟨(some 83), .bin .sub (.tmp 82) (.const (.int .i64 (.ofNat 7))), none⟩,
  ⟨(some 84), .move (.tmp 0), none⟩,
  ⟨(some 85), .move (.tmp 4), none⟩,
  ⟨(some 86), .bin .sub (.tmp 85) (.const (.int .i64 (.ofNat 8))), none⟩,
  ⟨(some 87), .move (.tmp 10), none⟩,
  ⟨(some 88), .bin .add (.tmp 87) (.const (.int .u32 (.ofNat 1))), none⟩,
  ⟨(some 89), .indexStr (.const (.string ⟨⟨[48, 48, 48, 49, 48, 50, 48, 51, 48, 52, 48, 53, 48, 54, 48, 55, 48, 56, 48, 57, 49, 48, 49, 49, 49, 50, 49, 51, 49, 52, 49, 53, 49, 54, 49, 55, 49, 56, 49, 57, 50, 48, 50, 49, 50, 50, 50, 51, 50, 52, 50, 53, 50, 54, 50, 55, 50, 56, 50, 57, 51, 48, 51, 49, 51, 50, 51, 51, 51, 52, 51, 53, 51, 54, 51, 55, 51, 56, 51, 57, 52, 48, 52, 49, 52, 50, 52, 51, 52, 52, 52, 53, 52, 54, 52, 55, 52, 56, 52, 57, 53, 48, 53, 49, 53, 50, 53, 51, 53, 52, 53, 53, 53, 54, 53, 55, 53, 56, 53, 57, 54, 48, 54, 49, 54, 50, 54, 51, 54, 52, 54, 53, 54, 54, 54, 55, 54, 56, 54, 57, 55, 48, 55, 49, 55, 50, 55, 51, 55, 52, 55, 53, 55, 54, 55, 55, 55, 56, 55, 57, 56, 48, 56, 49, 56, 50, 56, 51, 56, 52, 56, 53, 56, 54, 56, 55, 56, 56, 56, 57, 57, 48, 57, 49, 57, 50, 57, 51, 57, 52, 57, 53, 57, 54, 57, 55, 57, 56, 57, 57]⟩⟩)) (.tmp 88), none⟩,
  ⟨(some 90), .move (.tmp 10), none⟩,
  ⟨(some 91), .indexStr (.const (.string ⟨⟨[48, 48, 48, 49, 48, 50, 48, 51, 48, 52, 48, 53, 48, 54, 48, 55, 48, 56, 48, 57, 49, 48, 49, 49, 49, 50, 49, 51, 49, 52, 49, 53, 49, 54, 49, 55, 49, 56, 49, 57, 50, 48, 50, 49, 50, 50, 50, 51, 50, 52, 50, 53, 50, 54, 50, 55, 50, 56, 50, 57, 51, 48, 51, 49, 51, 50, 51, 51, 51, 52, 51, 53, 51, 54, 51, 55, 51, 56, 51, 57, 52, 48, 52, 49, 52, 50, 52, 51, 52, 52, 52, 53, 52, 54, 52, 55, 52, 56, 52, 57, 53, 48, 53, 49, 53, 50, 53, 51, 53, 52, 53, 53, 53, 54, 53, 55, 53, 56, 53, 57, 54, 48, 54, 49, 54, 50, 54, 51, 54, 52, 54, 53, 54, 54, 54, 55, 54, 56, 54, 57, 55, 48, 55, 49, 55, 50, 55, 51, 55, 52, 55, 53, 55, 54, 55, 55, 55, 56, 55, 57, 56, 48, 56, 49, 56, 50, 56, 51, 56, 52, 56, 53, 56, 54, 56, 55, 56, 56, 56, 57, 57, 48, 57, 49, 57, 50, 57, 51, 57, 52, 57, 53, 57, 54, 57, 55, 57, 56, 57, 57]⟩⟩)) (.tmp 90), none⟩,
  ⟨(some 92), .indexSl 1 (.tmp 81) (.tmp 83), none⟩,
  ⟨none, .store 1 (.tmp 92) (.tmp 89), none⟩,
  ⟨(some 93), .indexSl 1 (.tmp 84) (.tmp 86), none⟩,
  ⟨none, .store 1 (.tmp 93) (.tmp 91), none⟩] (some ⟨[], []⟩)
def f113r11 : ICode := .region [
  ⟨(some 94), .move (.tmp 4), none⟩,
  ⟨(some 95), .bin .sub (.tmp 94) (.const (.int .i64 (.ofNat 8))), none⟩,
  ⟨(some 4), .move (.tmp 95), none⟩] none
def f113r12 : ICode := .region [
  ⟨(some 96), .move (.tmp 1), none⟩,
  ⟨(some 97), .conv .u32 (.tmp 96), none⟩,
  ⟨(some 12), .move (.tmp 97), none⟩] none
def f113r13 : ICode := .region [
  ⟨(some 98), .move (.tmp 4), none⟩,
  ⟨(some 99), .bin .geq (.tmp 98) (.const (.int .i64 (.ofNat 4))), none⟩] none
def f113r14 : ICode := .region [
  ⟨(some 100), .move (.tmp 12), none⟩,
  ⟨(some 101), .bin .rem (.tmp 100) (.const (.int .u32 (.ofNat 10000))), none⟩,
  ⟨(some 13), .move (.tmp 101), none⟩] none
def f113r15 : ICode := .region [
  ⟨(some 102), .move (.tmp 12), none⟩,
  ⟨(some 103), .bin .quo (.tmp 102) (.const (.int .u32 (.ofNat 10000))), none⟩,
  ⟨(some 12), .move (.tmp 103), none⟩] none
def f113r16 : ICode := .region [
  ⟨(some 104), .move (.tmp 13), none⟩,
  ⟨(some 105), .bin .quo (.tmp 104) (.const (.int .u32 (.ofNat 100))), none⟩,
  ⟨(some 106), .bin .mul (.tmp 105) (.const (.int .u32 (.ofNat 2))), none⟩,
  ⟨(some 107), .move (.tmp 13), none⟩,
  ⟨(some 108), .bin .rem (.tmp 107) (.const (.int .u32 (.ofNat 100))), none⟩,
  ⟨(some 109), .bin .mul (.tmp 108) (.const (.int .u32 (.ofNat 2))), none⟩,
  ⟨(some 14), .move (.tmp 106), none⟩,
  ⟨(some 15), .move (.tmp 109), none⟩] none
def f113r17 : ICode := .region [
  ⟨(some 110), .move (.tmp 0), none⟩,
  ⟨(some 111), .move (.tmp 4), none⟩,
  ⟨(some 112), .bin .sub (.tmp 111) (.const (.int .i64 (.ofNat 1))), none⟩,
  ⟨(some 113), .move (.tmp 0), none⟩,
  ⟨(some 114), .move (.tmp 4), none⟩,
  ⟨(some 115), .bin .sub (.tmp 114) (.const (.int .i64 (.ofNat 2))), none⟩,
  ⟨(some 116), .move (.tmp 15), none⟩,
  ⟨(some 117), .bin .add (.tmp 116) (.const (.int .u32 (.ofNat 1))), none⟩,
  ⟨(some 118), .indexStr (.const (.string ⟨⟨[48, 48, 48, 49, 48, 50, 48, 51, 48, 52, 48, 53, 48, 54, 48, 55, 48, 56, 48, 57, 49, 48, 49, 49, 49, 50, 49, 51, 49, 52, 49, 53, 49, 54, 49, 55, 49, 56, 49, 57, 50, 48, 50, 49, 50, 50, 50, 51, 50, 52, 50, 53, 50, 54, 50, 55, 50, 56, 50, 57, 51, 48, 51, 49, 51, 50, 51, 51, 51, 52, 51, 53, 51, 54, 51, 55, 51, 56, 51, 57, 52, 48, 52, 49, 52, 50, 52, 51, 52, 52, 52, 53, 52, 54, 52, 55, 52, 56, 52, 57, 53, 48, 53, 49, 53, 50, 53, 51, 53, 52, 53, 53, 53, 54, 53, 55, 53, 56, 53, 57, 54, 48, 54, 49, 54, 50, 54, 51, 54, 52, 54, 53, 54, 54, 54, 55, 54, 56, 54, 57, 55, 48, 55, 49, 55, 50, 55, 51, 55, 52, 55, 53, 55, 54, 55, 55, 55, 56, 55, 57, 56, 48, 56, 49, 56, 50, 56, 51, 56, 52, 56, 53, 56, 54, 56, 55, 56, 56, 56, 57, 57, 48, 57, 49, 57, 50, 57, 51, 57, 52, 57, 53, 57, 54, 57, 55, 57, 56, 57, 57]⟩⟩)) (.tmp 117), none⟩,
  ⟨(some 119), .move (.tmp 15), none⟩,
  ⟨(some 120), .indexStr (.const (.string ⟨⟨[48, 48, 48, 49, 48, 50, 48, 51, 48, 52, 48, 53, 48, 54, 48, 55, 48, 56, 48, 57, 49, 48, 49, 49, 49, 50, 49, 51, 49, 52, 49, 53, 49, 54, 49, 55, 49, 56, 49, 57, 50, 48, 50, 49, 50, 50, 50, 51, 50, 52, 50, 53, 50, 54, 50, 55, 50, 56, 50, 57, 51, 48, 51, 49, 51, 50, 51, 51, 51, 52, 51, 53, 51, 54, 51, 55, 51, 56, 51, 57, 52, 48, 52, 49, 52, 50, 52, 51, 52, 52, 52, 53, 52, 54, 52, 55, 52, 56, 52, 57, 53, 48, 53, 49, 53, 50, 53, 51, 53, 52, 53, 53, 53, 54, 53, 55, 53, 56, 53, 57, 54, 48, 54, 49, 54, 50, 54, 51, 54, 52, 54, 53, 54, 54, 54, 55, 54, 56, 54, 57, 55, 48, 55, 49, 55, 50, 55, 51, 55, 52, 55, 53, 55, 54, 55, 55, 55, 56, 55, 57, 56, 48, 56, 49, 56, 50, 56, 51, 56, 52, 56, 53, 56, 54, 56, 55, 56, 56, 56, 57, 57, 48, 57, 49, 57, 50, 57, 51, 57, 52, 57, 53, 57, 54, 57, 55, 57, 56, 57, 57]⟩⟩)) (.tmp 119), none⟩,
  ⟨(some 121), .indexSl 1 (.tmp 110) (.tmp 112), none⟩,
  ⟨none, .store 1 (.tmp 121) (.tmp 118), none⟩,
  ⟨(some 122), .indexSl 1 (.tmp 113) (.tmp 115), none⟩,
  ⟨none, .store 1 (.tmp 122) (.tmp 120), none⟩] (some ⟨[], []⟩)
def f113r18 : ICode := .region [
  ⟨(some 123), .move (.tmp 0), none⟩,
  ⟨(some 124), .move (.tmp 4), none⟩,
  ⟨(some 125), .bin .sub (.tmp 124) (.const (.int .i64 (.ofNat 3))), none⟩,
  ⟨(some 126), .move (.tmp 0), none⟩,
  ⟨(some 127), .move (.tmp 4), none⟩,
  ⟨(some 128), .bin .sub (.tmp 127) (.const (.int .i64 (.ofNat 4))), none⟩,
  ⟨(some 129), .move (.tmp 14), none⟩,
  ⟨(some 130), .bin .add (.tmp 129) (.const (.int .u32 (.ofNat 1))), none⟩,
  ⟨(some 131), .indexStr (.const (.string ⟨⟨[48, 48, 48, 49, 48, 50, 48, 51, 48, 52, 48, 53, 48, 54, 48, 55, 48, 56, 48, 57, 49, 48, 49, 49, 49, 50, 49, 51, 49, 52, 49, 53, 49, 54, 49, 55, 49, 56, 49, 57, 50, 48, 50, 49, 50, 50, 50, 51, 50, 52, 50, 53, 50, 54, 50, 55, 50, 56, 50, 57, 51, 48, 51, 49, 51, 50, 51, 51, 51, 52, 51, 53, 51, 54, 51, 55, 51, 56, 51, 57, 52, 48, 52, 49, 52, 50, 52, 51, 52, 52, 52, 53, 52, 54, 52, 55, 52, 56, 52, 57, 53, 48, 53, 49, 53, 50, 53, 51, 53, 52, 53, 53, 53, 54, 53, 55, 53, 56, 53, 57, 54, 48, 54, 49, 54, 50, 54, 51, 54, 52, 54, 53, 54, 54, 54, 55, 54, 56, 54, 57, 55, 48, 55, 49, 55, 50, 55, 51, 55, 52, 55, 53, 55, 54, 55, 55, 55, 56, 55, 57, 56, 48, 56, 49, 56, 50, 56, 51, 56, 52, 56, 53, 56, 54, 56, 55, 56, 56, 56, 57, 57, 48, 57, 49, 57, 50, 57, 51, 57, 52, 57, 53, 57, 54, 57, 55, 57, 56, 57, 57]⟩⟩)) (.tmp 130), none⟩,
  ⟨(some 132), .move (.tmp 14), none⟩,
  ⟨(some 133), .indexStr (.const (.string ⟨⟨[48, 48, 48, 49, 48, 50, 48, 51, 48, 52, 48, 53, 48, 54, 48, 55, 48, 56, 48, 57, 49, 48, 49, 49, 49, 50, 49, 51, 49, 52, 49, 53, 49, 54, 49, 55, 49, 56, 49, 57, 50, 48, 50, 49, 50, 50, 50, 51, 50, 52, 50, 53, 50, 54, 50, 55, 50, 56, 50, 57, 51, 48, 51, 49, 51, 50, 51, 51, 51, 52, 51, 53, 51, 54, 51, 55, 51, 56, 51, 57, 52, 48, 52, 49, 52, 50, 52, 51, 52, 52, 52, 53, 52, 54, 52, 55, 52, 56, 52, 57, 53, 48, 53, 49, 53, 50, 53, 51, 53, 52, 53, 53, 53, 54, 53, 55, 53, 56, 53, 57, 54, 48, 54, 49, 54, 50, 54, 51, 54, 52, 54, 53, 54, 54, 54, 55, 54, 56, 54, 57, 55, 48, 55, 49, 55, 50, 55, 51, 55, 52, 55, 53, 55, 54, 55, 55, 55, 56, 55, 57, 56, 48, 56, 49, 56, 50, 56, 51, 56, 52, 56, 53, 56, 54, 56, 55, 56, 56, 56, 57, 57, 48, 57, 49, 57, 50, 57, 51, 57, 52, 57, 53, 57, 54, 57, 55, 57, 56, 57, 57]⟩⟩)) (.tmp 132), none⟩,
  ⟨(some 134), .indexSl 1 (.tmp 123) (.tmp 125), none⟩,
  ⟨none, .store 1 (.tmp 134) (.tmp 131), none⟩,
  ⟨(some 135), .indexSl 1 (.tmp 126) (.tmp 128), none⟩,
  ⟨none, .store 1 (.tmp 135) (.tmp 133), none⟩] (some ⟨[], []⟩)
def f113r19 : ICode := .region [
  ⟨(some 136), .move (.tmp 4), none⟩,
  ⟨(some 137), .bin .sub (.tmp 136) (.const (.int .i64 (.ofNat 4))), none⟩,
  ⟨(some 4), .move (.tmp 137), none⟩] none
def f113r20 : ICode := .region [
  ⟨(some 138), .move (.tmp 4), none⟩,
  ⟨(some 139), .bin .geq (.tmp 138) (.const (.int .i64 (.ofNat 2))), none⟩] none
def f113r21 : ICode := .region [
  ⟨(some 140), .move (.tmp 12), none⟩,
  ⟨(some 141), .bin .rem (.tmp 140) (.const (.int .u32 (.ofNat 100))), none⟩,
  ⟨(some 142), .bin .mul (.tmp 141) (.const (.int .u32 (.ofNat 2))), none⟩,
  ⟨(some 16), .move (.tmp 142), none⟩] none
def f113r22 : ICode := .region [
  ⟨(some 143), .move (.tmp 12), none⟩,
  ⟨(some 144), .bin .quo (.tmp 143) (.const (.int .u32 (.ofNat 100))), none⟩,
  ⟨(some 12), .move (.tmp 144), none⟩] none
def f113r23 : ICode := .region [
  ⟨(some 145), .move (.tmp 0), none⟩,
  ⟨(some 146), .move (.tmp 4), none⟩,
  ⟨(some 147), .bin .sub (.tmp 146) (.const (.int .i64 (.ofNat 1))), none⟩,
  ⟨(some 148), .move (.tmp 0), none⟩,
  ⟨(some 149), .move (.tmp 4), none⟩,
  ⟨(some 150), .bin .sub (.tmp 149) (.const (.int .i64 (.ofNat 2))), none⟩,
  ⟨(some 151), .move (.tmp 16), none⟩,
  ⟨(some 152), .bin .add (.tmp 151) (.const (.int .u32 (.ofNat 1))), none⟩,
  ⟨(some 153), .indexStr (.const (.string ⟨⟨[48, 48, 48, 49, 48, 50, 48, 51, 48, 52, 48, 53, 48, 54, 48, 55, 48, 56, 48, 57, 49, 48, 49, 49, 49, 50, 49, 51, 49, 52, 49, 53, 49, 54, 49, 55, 49, 56, 49, 57, 50, 48, 50, 49, 50, 50, 50, 51, 50, 52, 50, 53, 50, 54, 50, 55, 50, 56, 50, 57, 51, 48, 51, 49, 51, 50, 51, 51, 51, 52, 51, 53, 51, 54, 51, 55, 51, 56, 51, 57, 52, 48, 52, 49, 52, 50, 52, 51, 52, 52, 52, 53, 52, 54, 52, 55, 52, 56, 52, 57, 53, 48, 53, 49, 53, 50, 53, 51, 53, 52, 53, 53, 53, 54, 53, 55, 53, 56, 53, 57, 54, 48, 54, 49, 54, 50, 54, 51, 54, 52, 54, 53, 54, 54, 54, 55, 54, 56, 54, 57, 55, 48, 55, 49, 55, 50, 55, 51, 55, 52, 55, 53, 55, 54, 55, 55, 55, 56, 55, 57, 56, 48, 56, 49, 56, 50, 56, 51, 56, 52, 56, 53, 56, 54, 56, 55, 56, 56, 56, 57, 57, 48, 57, 49, 57, 50, 57, 51, 57, 52, 57, 53, 57, 54, 57, 55, 57, 56, 57, 57]⟩⟩)) (.tmp 152), none⟩,
  ⟨(some 154), .move (.tmp 16), none⟩,
  ⟨(some 155), .indexStr (.const (.string ⟨⟨[48, 48, 48, 49, 48, 50, 48, 51, 48, 52, 48, 53, 48, 54, 48, 55, 48, 56, 48, 57, 49, 48, 49, 49, 49, 50, 49, 51, 49, 52, 49, 53, 49, 54, 49, 55, 49, 56, 49, 57, 50, 48, 50, 49, 50, 50, 50, 51, 50, 52, 50, 53, 50, 54, 50, 55, 50, 56, 50, 57, 51, 48, 51, 49, 51, 50, 51, 51, 51, 52, 51, 53, 51, 54, 51, 55, 51, 56, 51, 57, 52, 48, 52, 49, 52, 50, 52, 51, 52, 52, 52, 53, 52, 54, 52, 55, 52, 56, 52, 57, 53, 48, 53, 49, 53, 50, 53, 51, 53, 52, 53, 53, 53, 54, 53, 55, 53, 56, 53, 57, 54, 48, 54, 49, 54, 50, 54, 51, 54, 52, 54, 53, 54, 54, 54, 55, 54, 56, 54, 57, 55, 48, 55, 49, 55, 50, 55, 51, 55, 52, 55, 53, 55, 54, 55, 55, 55, 56, 55, 57, 56, 48, 56, 49, 56, 50, 56, 51, 56, 52, 56, 53, 56, 54, 56, 55, 56, 56, 56, 57, 57, 48, 57, 49, 57, 50, 57, 51, 57, 52, 57, 53, 57, 54, 57, 55, 57, 56, 57, 57]⟩⟩)) (.tmp 154), none⟩,
  ⟨(some 156), .indexSl 1 (.tmp 145) (.tmp 147), none⟩,
  ⟨none, .store 1 (.tmp 156) (.tmp 153), none⟩,
  ⟨(some 157), .indexSl 1 (.tmp 148) (.tmp 150), none⟩,
  ⟨none, .store 1 (.tmp 157) (.tmp 155), none⟩] (some ⟨[], []⟩)
def f113r24 : ICode := .region [
  ⟨(some 158), .move (.tmp 4), none⟩,
  ⟨(some 159), .bin .sub (.tmp 158) (.const (.int .i64 (.ofNat 2))), none⟩,
  ⟨(some 4), .move (.tmp 159), none⟩] none
def f113r25 : ICode := .region [
  ⟨(some 160), .move (.tmp 4), none⟩,
  ⟨(some 161), .bin .gtr (.tmp 160) (.const (.int .i64 (.ofNat 0))), none⟩] none
def f113r26 : ICode := .region [
  ⟨(some 162), .move (.tmp 0), none⟩,
  ⟨(some 163), .move (.tmp 12), none⟩,
  ⟨(some 164), .bin .add (.const (.int .u32 (.ofNat 48))) (.tmp 163), none⟩,
  ⟨(some 165), .conv .u8 (.tmp 164), none⟩,
  ⟨(some 166), .indexSl 1 (.tmp 162) (.const (.int .i64 (.ofNat 0))), none⟩,
  ⟨none, .store 1 (.tmp 166) (.tmp 165), none⟩] none
/- internal/strconv.formatBase10 -/
def f113 : IFn := ⟨167, [], (.seq f113r0 (.seq (.block 0 (.loop (.seq (.seq f113r1 (.cond (.tmp 20) .skip (.exit 0))) (.block 1 (.seq f113r2 (.seq f113r3 (.seq f113r4 (.seq f113r5 (.seq f113r6 (.seq f113r7 (.seq f113r8 (.seq f113r9 (.seq f113r10 f113r11))))))))))))) (.seq f113r12 (.seq (.seq f113r13 (.cond (.tmp 99) (.seq f113r14 (.seq f113r15 (.seq f113r16 (.seq f113r17 (.seq f113r18 f113r19))))) .skip)) (.seq (.seq f113r20 (.cond (.tmp 139) (.seq f113r21 (.seq f113r22 (.seq f113r23 f113r24))) .skip)) (.seq f113r25 (.cond (.tmp 161) f113r26 .skip)))))))⟩
def f114r0 : ICode := .region [
  ⟨(some 10), .move (.const (.slice none 0 0)), none⟩,
  ⟨(some 11), .move (.const (.string ⟨⟨[]⟩⟩)), none⟩] none
def f114r1 : ICode := .region [
  ⟨(some 19), .move (.tmp 2), none⟩,
  ⟨(some 20), .bin .lss (.tmp 19) (.const (.int .i64 (.ofNat 2))), none⟩,
  ⟨(some 21), .move (.tmp 20), none⟩,
  ⟨(some 22), .move (.tmp 2), (some ((some 21), false))⟩,
  ⟨(some 23), .bin .eql (.tmp 22) (.const (.int .i64 (.ofNat 10))), (some ((some 21), false))⟩,
  ⟨(some 24), .pick (.tmp 21) (.const (.bool true)) (.tmp 23), none⟩,
  ⟨(some 25), .move (.tmp 24), none⟩,
  ⟨(some 26), .move (.tmp 2), (some ((some 25), false))⟩,
  ⟨(some 27), .bin .gtr (.tmp 26) (.const (.int .i64 (.ofNat 36))), (some ((some 25), false))⟩,
  ⟨(some 28), .pick (.tmp 25) (.const (.bool true)) (.tmp 27), none⟩] none
def f114r2 : ICode := .region [
  ⟨(some 29), .mkIface 9 (.const (.string ⟨⟨[115, 116, 114, 99, 111, 110, 118, 58, 32, 105, 108, 108, 101, 103, 97, 108, 32, 65, 112, 112, 101, 110, 100, 73, 110, 116, 47, 70, 111, 114, 109, 97, 116, 73, 110, 116, 32, 98, 97, 115, 101]⟩⟩)), none⟩,
  ⟨none, .bad, none⟩] none
def f114r3 : ICode := .region [
  ⟨(some 12), .new [(.int .u8 (.ofNat 0)), (.int .u8 (.ofNat 0)), (.int .u8 (.ofNat 0)), (.int .u8 (.ofNat 0)), (.int .u8 (.ofNat 0)), (.int .u8 (.ofNat 0)), (.int .u8 (.ofNat 0)), (.int .u8 (.ofNat 0)), (.int .u8 (.ofNat 0)), (.int .u8 (.ofNat 0)), (.int .u8 (.ofNat 0)), (.int .u8 (.ofNat 0)), (.int .u8 (.ofNat 0)), (.int .u8 (.ofNat 0)), (.int .u8 (.ofNat 0)), (.int .u8 (.ofNat 0)), (.int .u8 (.ofNat 0)), (.int .u8 (.ofNat 0)), (.int .u8 (.ofNat 0)), (.int .u8 (.ofNat 0)), (.int .u8 (.ofNat 0)), (.int .u8 (.ofNat 0)), (.int .u8 (.ofNat 0)), (.int .u8 (.ofNat 0)), (.int .u8 (.ofNat 0)), (.int .u8 (.ofNat 0)), (.int .u8 (.ofNat 0)), (.int .u8 (.ofNat 0)), (.int .u8 (.ofNat 0)), (.int .u8 (.ofNat 0)), (.int .u8 (.ofNat 0)), (.int .u8 (.ofNat 0)), (.int .u8 (.ofNat 0)), (.int .u8 (.ofNat 0)), (.int .u8 (.ofNat 0)), (.int .u8 (.ofNat 0)), (.int .u8 (.ofNat 0)), (.int .u8 (.ofNat 0)), (.int .u8 (.ofNat 0)), (.int .u8 (.ofNat 0)), (.int .u8 (.ofNat 0)), (.int .u8 (.ofNat 0)), (.int .u8 (.ofNat 0)), (.int .u8 (.ofNat 0)), (.int .u8 (.ofNat 0)), (.int .u8 (.ofNat 0)), (.int .u8 (.ofNat 0)), (.int .u8 (.ofNat 0)), (.int .u8 (.ofNat 0)), (.int .u8 (.ofNat 0)), (.int .u8 (.ofNat 0)), (.int .u8 (.ofNat 0)), (.int .u8 (.ofNat 0)), (.int .u8 (.ofNat 0)), (.int .u8 (.ofNat 0)), (.int .u8 (.ofNat 0)), (.int .u8 (.ofNat 0)), (.int .u8 (.ofNat 0)), (.int .u8 (.ofNat 0)), (.int .u8 (.ofNat 0)), (.int .u8 (.ofNat 0)), (.int .u8 (.ofNat 0)), (.int .u8 (.ofNat 0)), (.int .u8 (.ofNat 0)), (.int .u8 (.ofNat 0))] 186, none⟩] none
def f114r4 : ICode := .region [
  ⟨(some 13), .move (.const (.int .i64 (.ofNat 65))), none⟩] none
def f114r5 : ICode := .region [
  ⟨(some 30), .move (.tmp 3), none⟩] none
def f114r6 : ICode := .region [
  ⟨(some 31), .move (.tmp 1), none⟩,
  ⟨(some 32), .un .neg (.tmp 31), none⟩,
  ⟨(some 1), .move (.tmp 32), none⟩] none
def f114r7 : ICode := .region [
  ⟨(some 33), .move (.tmp 2), none⟩,
  ⟨(some 34), .call 142 [(.tmp 33)], none⟩] none
def f114r8 : ICode := .region [
  ⟨(some 35), .move (.tmp 2), none⟩,
  ⟨(some 36), .conv .u64 (.tmp 35), none⟩,
  ⟨(some 37), .call 143 [(.tmp 36)], none⟩,
  ⟨(some 38), .conv .u64 (.tmp 37), none⟩,
  ⟨(some 14), .move (.tmp 38), none⟩] none
def f114r9 : ICode := .region [
  ⟨(some 39), .move (.tmp 2), none⟩,
  ⟨(some 40), .conv .u64 (.tmp 39), none⟩,
  ⟨(some 15), .move (.tmp 40), none⟩] none
def f114r10 : ICode := .region [
  ⟨(some 41), .move (.tmp 2), none⟩,
  ⟨(some 42), .conv .u64 (.tmp 41), none⟩,
  ⟨(some 43), .bin .sub (.tmp 42) (.const (.int .u64 (.ofNat 1))), none⟩,
  ⟨(some 16), .move (.tmp 43), none⟩] none
def f114r11 : ICode := .region [
  ⟨(some 44), .move (.tmp 1), none⟩,
  ⟨(some 45), .move (.tmp 15), none⟩,
  ⟨(some 46), .bin .geq (.tmp 44) (.tmp 45), none⟩] none
def f114r12 : ICode := .region [
  ⟨(some 47), .move (.tmp 13), none⟩,
  ⟨(some 48), .bin .sub (.tmp 47) (.const (.int .i64 (.ofNat 1))), none⟩,
  ⟨(some 13), .move (.tmp 48), none⟩] none
def f114r13 : ICode := .region [
  ⟨(some 49), .move (.tmp 13), none⟩,
  ⟨(some 50), .move (.tmp 1), none⟩,
  ⟨(some 51), .move (.tmp 16), none⟩,
  ⟨(some 52), .bin .and (.tmp 50) (.tmp 51), none⟩,
  ⟨(some 53), .indexStr (.const (.string ⟨⟨[48, 49, 50, 51, 52, 53, 54, 55, 56, 57, 97, 98, 99, 100, 101, 102, 103, 104, 105, 106, 107, 108, 109, 110, 111, 112, 113, 114, 115, 116, 117, 118, 119, 120, 121, 122]⟩⟩)) (.tmp 52), none⟩,
  ⟨(some 54), .indexArrA 65 1 (.tmp 12) (.tmp 49), none⟩,
  ⟨none, .store 1 (.tmp 54) (.tmp 53), none⟩] none
def f114r14 : ICode := .region [
  ⟨(some 55), .move (.tmp 1), none⟩,
  ⟨(some 56), .move (.tmp 14), none⟩,
  ⟨(some 57), .bin .shr (.tmp 55) (.tmp 56), none⟩,
  ⟨(some 1), .move (.tmp 57), none⟩] none
def f114r15 : ICode := .region [
  ⟨(some 58), .move (.tmp 13), none⟩,
  ⟨(some 59), .bin .sub (.tmp 58) (.const (.int .i64 (.ofNat 1))), none⟩,
  ⟨(some 13), .move (.tmp 59), none⟩] none
def f114r16 : ICode := .region [
  ⟨(some 60), .move (.tmp 13), none⟩,
  ⟨(some 61), .move (.tmp 1), none⟩,
  ⟨(some 62), .indexStr (.const (.string ⟨⟨[48, 49, 50, 51, 52, 53, 54, 55, 56, 57, 97, 98, 99, 100, 101, 102, 103, 104, 105, 106, 107, 108, 109, 110, 111, 112, 113, 114, 115, 116, 117, 118, 119, 120, 121, 122]⟩⟩)) (.tmp 61), none⟩,
  ⟨(some 63), .indexArrA 65 1 (.tmp 12) (.tmp 60), none⟩,
  ⟨none, .store 1 (.tmp 63) (.tmp 62), none⟩] none
def f114r17 : ICode := .region [
  ⟨(some 64), .move (.tmp 2), none⟩,
  ⟨(some 65), .conv .u64 (.tmp 64), none⟩,
  ⟨(some 17), .move (.tmp 65), none⟩] none
def f114r18 : ICode := .region [
  ⟨(some 66), .move (.tmp 1), none⟩,
  ⟨(some 67), .move (.tmp 17), none⟩,
  ⟨(some 68), .bin .geq (.tmp 66) (.tmp 67), none⟩] none
def f114r19 : ICode := .region [
  ⟨(some 69), .move (.tmp 13), none⟩,
  ⟨(some 70), .bin .sub (.tmp 69) (.const (.int .i64 (.ofNat 1))), none⟩,
  ⟨(some 13), .move (.tmp 70), none⟩] none
def f114r20 : ICode := .region [
  ⟨(some 71), .move (.tmp 1), none⟩,
  ⟨(some 72), .move (.tmp 17), none⟩,
  ⟨(some 73), .bin .quo (.tmp 71) (.tmp 72), none⟩,
  ⟨(some 18), .move (.tmp 73), none⟩] none
def f114r21 : ICode := .region [
  ⟨(some 74), .move (.tmp 13), none⟩,
  ⟨(some 75), .move (.tmp 1), none⟩,
  ⟨(some 76), .move (.tmp 18), none⟩,
  ⟨(some 77), .move (.tmp 17), none⟩,
  ⟨(some 78), .bin .mul (.tmp 76) (.tmp 77), none⟩,
  ⟨(some 79), .bin .sub (.tmp 75) (.tmp 78), none⟩,
  ⟨(some 80), .indexStr (.const (.string ⟨⟨[48, 49, 50, 51, 52, 53, 54, 55, 56, 57, 97, 98, 99, 100, 101, 102, 103, 104, 105, 106, 107, 108, 109, 110, 111, 112, 113, 114, 115, 116, 117, 118, 119, 120, 121, 122]⟩⟩)) (.tmp 79), none⟩,
  ⟨(some 81), .indexArrA 65 1 (.tmp 12) (.tmp 74), none⟩,
  ⟨none, .store 1 (.tmp 81) (.tmp 80), none⟩] none
def f114r22 : ICode := .region [
  ⟨(some 82), .move (.tmp 18), none⟩,
  ⟨(some 1), .move (.tmp 82), none⟩] none
def f114r23 : ICode := .region [
  ⟨(some 83), .move (.tmp 13), none⟩,
  ⟨(some 84), .bin .sub (.tmp 83) (.const (.int .i64 (.ofNat 1))), none⟩,
  ⟨(some 13), .move (.tmp 84), none⟩] none
def f114r24 : ICode := .region [
  ⟨(some 85), .move (.tmp 13), none⟩,
  ⟨(some 86), .move (.tmp 1), none⟩,
  ⟨(some 87), .indexStr (.const (.string ⟨⟨[48, 49, 50, 51, 52, 53, 54, 55, 56, 57, 97, 98, 99, 100, 101, 102, 103, 104, 105, 106, 107, 108, 109, 110, 111, 112, 113, 114, 115, 116, 117, 118, 119, 120, 121, 122]⟩⟩)) (.tmp 86), none⟩,
  ⟨(some 88), .indexArrA 65 1 (.tmp 12) (.tmp 85), none⟩,
  ⟨none, .store 1 (.tmp 88) (.tmp 87), none⟩] none
def f114r25 : ICode := .region [
  ⟨(some 89), .move (.tmp 3), none⟩] none
def f114r26 : ICode := .region [
  ⟨(some 90), .move (.tmp 13), none⟩,
  ⟨(some 91), .bin .sub (.tmp 90) (.const (.int .i64 (.ofNat 1))), none⟩,
  ⟨(some 13), .move (.tmp 91), none⟩] none
def f114r27 : ICode := .region [
  ⟨(some 92), .move (.tmp 13), none⟩,
  ⟨(some 93), .indexArrA 65 1 (.tmp 12) (.tmp 92), none⟩,
  ⟨none, .store 1 (.tmp 93) (.const (.int .u8 (.ofNat 45))), none⟩] none
def f114r28 : ICode := .region [
  ⟨(some 94), .move (.tmp 4), none⟩] none
def f114r29 : ICode := .region [
  ⟨(some 95), .move (.tmp 0), none⟩,
  ⟨(some 96), .move (.tmp 13), none⟩,
  ⟨(some 97), .sliceArr 65 1 (.tmp 12) (some (.tmp 96)) none, none⟩,
  ⟨(some 98), .append 5 1 1 (.tmp 95) (.tmp 97), none⟩,
  ⟨(some 10), .move (.tmp 98), none⟩] none
def f114r30 : ICode := .region [
  ⟨(some 99), .move (.tmp 13), none⟩,
  ⟨(some 100), .sliceArr 65 1 (.tmp 12) (some (.tmp 99)) none, none⟩,
  ⟨(some 101), .bytesToStr (.tmp 100), none⟩,
  ⟨(some 11), .move (.tmp 101), none⟩] none
/- internal/strconv.formatBits -/
def f114 : IFn := ⟨102, [.inl 10, .inl 11], (.seq f114r0 (.seq (.seq f114r1 (.cond (.tmp 28) f114r2 .skip)) (.seq f114r3 (.seq f114r4 (.seq (.seq f114r5 (.cond (.tmp 30) f114r6 .skip)) (.seq (.seq f114r7 (.cond (.tmp 34) (.seq f114r8 (.seq f114r9 (.seq f114r10 (.seq (.block 0 (.loop (.seq (.seq f114r11 (.cond (.tmp 46) .skip (.exit 0))) (.block 1 (.seq f114r12 (.seq f114r13 f114r14)))))) (.seq f114r15 f114r16))))) (.seq f114r17 (.seq (.block 2 (.loop (.seq (.seq f114r18 (.cond (.tmp 68) .skip (.exit 2))) (.block 3 (.seq f114r19 (.seq f114r20 (.seq f114r21 f114r22))))))) (.seq f114r23 f114r24))))) (.seq (.seq f114r25 (.cond (.tmp 89) (.seq f114r26 f114r27) .skip)) (.seq (.seq f114r28 (.cond (.tmp 94) (.seq f114r29 .ret) .skip)) (.seq f114r30 .ret)))))))))⟩
def f115r0 : ICode := .region [
  ⟨(some 4), .move (.const (.bool false)), none⟩] none
def f115r1 : ICode := .region [
  ⟨(some 5), .move (.tmp 0), none⟩,
  ⟨(some 6), .move (.tmp 1), none⟩,
  ⟨(some 7), .call 144 [(.tmp 5), (.tmp 6)], none⟩,
  ⟨(some 8), .bin .geq (.tmp 7) (.const (.int .i64 (.ofNat 0))), none⟩,
  ⟨(some 4), .move (.tmp 8), none⟩] none
/- slices.Contains[[]string,string] -/
def f115 : IFn := ⟨9, [.inl 4], (.seq f115r0 (.seq f115r1 .ret))⟩
def f116r0 : ICode := .region [
  ⟨(some 4), .move (.const (.pointer none)), none⟩] none
def f116r1 : ICode := .region [
  ⟨(some 5), .move (.tmp 1), none⟩] none
def f116r2 : ICode := .region [
  ⟨(some 7), .bin .eql (.tmp 5) (.const (.int .i64 (.ofNat 105))), none⟩,
  ⟨(some 6), .move (.tmp 7), none⟩] none
def f116r3 : ICode := .region [
  ⟨(some 8), .move (.tmp 0), none⟩,
  ⟨(some 9), .nilCheck (.tmp 8), none⟩,
  ⟨(some 10), .fieldAddr 0 (.tmp 9), none⟩,
  ⟨(some 4), .move (.tmp 10), none⟩] none
def f116r4 : ICode := .region [
  ⟨(some 12), .bin .eql (.tmp 5) (.const (.int .i64 (.ofNat 109))), none⟩,
  ⟨(some 11), .move (.tmp 12), none⟩] none
def f116r5 : ICode := .region [
  ⟨(some 13), .move (.tmp 0), none⟩,
  ⟨(some 14), .nilCheck (.tmp 13), none⟩,
  ⟨(some 15), .fieldAddr 1 (.tmp 14), none⟩,
  ⟨(some 4), .move (.tmp 15), none⟩] none
def f116r6 : ICode := .region [
  ⟨(some 17), .bin .eql (.tmp 5) (.const (.int .i64 (.ofNat 115))), none⟩,
  ⟨(some 16), .move (.tmp 17), none⟩] none
def f116r7 : ICode := .region [
  ⟨(some 18), .move (.tmp 0), none⟩,
  ⟨(some 19), .nilCheck (.tmp 18), none⟩,
  ⟨(some 20), .fieldAddr 2 (.tmp 19), none⟩,
  ⟨(some 4), .move (.tmp 20), none⟩] none
def f116r8 : ICode := .region [
  ⟨(some 21), .move (.tmp 0), none⟩,
  ⟨(some 22), .nilCheck (.tmp 21), none⟩,
  ⟨(some 23), .fieldAddr 3 (.tmp 22), none⟩,
  ⟨(some 4), .move (.tmp 23), none⟩] none
/- (*ferret/syn.Flags).of -/
def f116 : IFn := ⟨24, [.inl 4], (.seq f116r0 (.seq (.seq f116r1 (.block 0 (.seq f116r2 (.cond (.tmp 6) (.seq f116r3 .ret) (.seq f116r4 (.cond (.tmp 11) (.seq f116r5 .ret) (.seq f116r6 (.cond (.tmp 16) (.seq f116r7 .ret) .skip)))))))) (.seq f116r8 .ret)))⟩
def f117r0 : ICode := .region [
  ⟨(some 2), .move (.const (.slice none 0 0)), none⟩,
  ⟨(some 3), .move (.const (.bool false)), none⟩] none
def f117r1 : ICode := .region [
  ⟨(some 13), .move (.tmp 0), none⟩,
  ⟨(some 14), .bin .eql (.tmp 13) (.const (.string ⟨⟨[65, 110, 121]⟩⟩)), none⟩] none
def f117r2 : ICode := .region [
  ⟨(some 15), .build [(.int .i64 (.ofNat 0)), (.int .i64 (.ofNat 0))] [(1, 1, (.const (.int .i64 (.ofNat 1114111))))], none⟩,
  ⟨(some 16), .buildSlice 53 1 [(.int .i64 (.ofNat 0)), (.int .i64 (.ofNat 0))] [(0, 2, (.tmp 15))], none⟩,
  ⟨(some 17), .call 67 [(.tmp 16)], none⟩,
  ⟨(some 2), .move (.tmp 17), none⟩,
  ⟨(some 3), .move (.const (.bool true)), none⟩] none
def f117r3 : ICode := .region [
  ⟨(some 18), .call 145 [], none⟩,
  ⟨(some 19), .len 1 (.tmp 18), none⟩,
  ⟨(some 20), .move (.const (.int .i64 (.ofNat 0))), none⟩] none
def f117r4 : ICode := .region [
  ⟨(some 21), .bin .lss (.tmp 20) (.tmp 19), none⟩] none
def f117r5 : ICode := .region [
  ⟨(some 22), .indexSl 2 (.tmp 18) (.tmp 20), none⟩,
  ⟨(some 23), .loadN 2 (.tmp 22), none⟩,
  ⟨(some 5), .new [(.string ⟨⟨[]⟩⟩), (.slice none 0 0)] 193, none⟩,
  ⟨none, .store 2 (.tmp 5) (.tmp 23), none⟩] none
def f117r6 : ICode := .region [
  ⟨(some 24), .fieldAddr 0 (.tmp 5), none⟩,
  ⟨(some 25), .load1 (.tmp 24), none⟩,
  ⟨(some 26), .move (.tmp 0), none⟩,
  ⟨(some 27), .bin .eql (.tmp 25) (.tmp 26), none⟩] none
def f117r7 : ICode := .region [
  ⟨(some 28), .fieldAddr 1 (.tmp 5), none⟩,
  ⟨(some 29), .load1 (.tmp 28), none⟩,
  ⟨(some 30), .call 146 [(.tmp 29)], none⟩,
  ⟨(some 2), .move (.tmp 30), none⟩,
  ⟨(some 3), .move (.const (.bool true)), none⟩] none
def f117r8 : ICode := .region [
  ⟨(some 31), .bin .add (.tmp 20) (.const (.int .i64 (.ofNat 1))), none⟩,
  ⟨(some 20), .move (.tmp 31), none⟩] none
def f117r9 : ICode := .region [
  ⟨(some 32), .call 147 [], none⟩,
  ⟨(some 33), .len 1 (.tmp 32), none⟩,
  ⟨(some 34), .move (.const (.int .i64 (.ofNat 0))), none⟩] none
def f117r10 : ICode := .region [
  ⟨(some 35), .bin .lss (.tmp 34) (.tmp 33), none⟩] none
def f117r11 : ICode := .region [
  ⟨(some 36), .indexSl 2 (.tmp 32) (.tmp 34), none⟩,
  ⟨(some 37), .loadN 2 (.tmp 36), none⟩,
  ⟨(some 7), .new [(.string ⟨⟨[]⟩⟩), (.slice none 0 0)] 197, none⟩,
  ⟨none, .store 2 (.tmp 7) (.tmp 37), none⟩] none
def f117r12 : ICode := .region [
  ⟨(some 38), .fieldAddr 0 (.tmp 7), none⟩,
  ⟨(some 39), .load1 (.tmp 38), none⟩,
  ⟨(some 40), .move (.tmp 0), none⟩,
  ⟨(some 41), .bin .neq (.tmp 39) (.tmp 40), none⟩] none
def f117r13 : ICode := .region [
  ⟨(some 8), .move (.const (.slice none 0 0)), none⟩] none
def f117r14 : ICode := .region [
  ⟨(some 42), .fieldAddr 1 (.tmp 7), none⟩,
  ⟨(some 43), .load1 (.tmp 42), none⟩,
  ⟨(some 44), .len 1 (.tmp 43), none⟩,
  ⟨(some 45), .move (.const (.int .i64 (.ofNat 0))), none⟩] none
def f117r15 : ICode := .region [
  ⟨(some 46), .bin .lss (.tmp 45) (.tmp 44), none⟩] none
def f117r16 : ICode := .region [
  ⟨(some 47), .indexSl 1 (.tmp 43) (.tmp 45), none⟩,
  ⟨(some 48), .load1 (.tmp 47), none⟩,
  ⟨(some 10), .move (.tmp 48), none⟩] none
def f117r17 : ICode := .region [
  ⟨(some 50), .move (.tmp 10), none⟩,
  ⟨(some 51), .call 117 [(.tmp 50)], none⟩,
  ⟨(some 49), .move (.tmp 51), none⟩,
  ⟨(some 52), .extract (.tmp 49) 0, none⟩,
  ⟨(some 53), .extract (.tmp 49) 1, none⟩,
  ⟨(some 11), .move (.tmp 52), none⟩,
  ⟨(some 12), .move (.tmp 53), none⟩] none
def f117r18 : ICode := .region [
  ⟨(some 54), .move (.tmp 8), none⟩,
  ⟨(some 55), .move (.tmp 11), none⟩,
  ⟨(some 56), .call 98 [(.tmp 54), (.tmp 55)], none⟩,
  ⟨(some 8), .move (.tmp 56), none⟩] none
def f117r19 : ICode := .region [
  ⟨(some 57), .bin .add (.tmp 45) (.const (.int .i64 (.ofNat 1))), none⟩,
  ⟨(some 45), .move (.tmp 57), none⟩] none
def f117r20 : ICode := .region [
  ⟨(some 58), .move (.tmp 8), none⟩,
  ⟨(some 2), .move (.tmp 58), none⟩,
  ⟨(some 3), .move (.const (.bool true)), none⟩] none
def f117r21 : ICode := .region [
  ⟨(some 59), .bin .add (.tmp 34) (.const (.int .i64 (.ofNat 1))), none⟩,
  ⟨(some 34), .move (.tmp 59), none⟩] none
def f117r22 : ICode := .region [
  ⟨(some 2), .move (.const (.slice none 0 0)), none⟩,
  ⟨(some 3), .move (.const (.bool false)), none⟩] none
/- ferret/ucd.Class -/
def f117 : IFn := ⟨60, [.inl 2, .inl 3], (.seq f117r0 (.seq (.seq f117r1 (.cond (.tmp 14) (.seq f117r2 .ret) .skip)) (.seq (.seq f117r3 (.block 0 (.loop (.seq f117r4 (.seq (.cond (.tmp 21) .skip (.exit 0)) (.seq (.block 1 (.seq f117r5 (.seq f117r6 (.cond (.tmp 27) (.seq f117r7 .ret) .skip)))) f117r8)))))) (.seq (.seq f117r9 (.block 2 (.loop (.seq f117r10 (.seq (.cond (.tmp 35) .skip (.exit 2)) (.seq (.block 3 (.seq f117r11 (.seq (.seq f117r12 (.cond (.tmp 41) (.exit 3) .skip)) (.seq f117r13 (.seq (.seq f117r14 (.block 4 (.loop (.seq f117r15 (.seq (.cond (.tmp 46) .skip (.exit 4)) (.seq (.block 5 (.seq f117r16 (.seq f117r17 f117r18))) f117r19)))))) (.seq f117r20 .ret)))))) f117r21)))))) (.seq f117r22 .ret)))))⟩
def f118r0 : ICode := .region [
  ⟨(some 2), .move (.const (.int .i64 (.ofNat 0))), none⟩] none
def f118r1 : ICode := .region [
  ⟨(some 4), .move (.tmp 0), none⟩,
  ⟨(some 5), .bin .geq (.tmp 4) (.const (.int .i64 (.ofNat 48))), none⟩,
  ⟨(some 6), .move (.tmp 5), none⟩,
  ⟨(some 7), .move (.tmp 0), (some ((some 6), true))⟩,
  ⟨(some 8), .bin .leq (.tmp 7) (.const (.int .i64 (.ofNat 57))), (some ((some 6), true))⟩,
  ⟨(some 9), .pick (.tmp 6) (.tmp 8) (.const (.bool false)), none⟩,
  ⟨(some 3), .move (.tmp 9), none⟩] none
def f118r2 : ICode := .region [
  ⟨(some 10), .move (.tmp 0), none⟩,
  ⟨(some 11), .bin .sub (.tmp 10) (.const (.int .i64 (.ofNat 48))), none⟩,
  ⟨(some 2), .move (.tmp 11), none⟩] none
def f118r3 : ICode := .region [
  ⟨(some 13), .move (.tmp 0), none⟩,
  ⟨(some 14), .bin .geq (.tmp 13) (.const (.int .i64 (.ofNat 65))), none⟩,
  ⟨(some 15), .move (.tmp 14), none⟩,
  ⟨(some 16), .move (.tmp 0), (some ((some 15), true))⟩,
  ⟨(some 17), .bin .leq (.tmp 16) (.const (.int .i64 (.ofNat 70))), (some ((some 15), true))⟩,
  ⟨(some 18), .pick (.tmp 15) (.tmp 17) (.const (.bool false)), none⟩,
  ⟨(some 12), .move (.tmp 18), none⟩] none
def f118r4 : ICode := .region [
  ⟨(some 19), .move (.tmp 0), none⟩,
  ⟨(some 20), .bin .sub (.tmp 19) (.const (.int .i64 (.ofNat 65))), none⟩,
  ⟨(some 21), .bin .add (.tmp 20) (.const (.int .i64 (.ofNat 10))), none⟩,
  ⟨(some 2), .move (.tmp 21), none⟩] none
def f118r5 : ICode := .region [
  ⟨(some 23), .move (.tmp 0), none⟩,
  ⟨(some 24), .bin .geq (.tmp 23) (.const (.int .i64 (.ofNat 97))), none⟩,
  ⟨(some 25), .move (.tmp 24), none⟩,
  ⟨(some 26), .move (.tmp 0), (some ((some 25), true))⟩,
  ⟨(some 27), .bin .leq (.tmp 26) (.const (.int .i64 (.ofNat 102))), (some ((some 25), true))⟩,
  ⟨(some 28), .pick (.tmp 25) (.tmp 27) (.const (.bool false)), none⟩,
  ⟨(some 22), .move (.tmp 28), none⟩] none
def f118r6 : ICode := .region [
  ⟨(some 29), .move (.tmp 0), none⟩,
  ⟨(some 30), .bin .sub (.tmp 29) (.const (.int .i64 (.ofNat 97))), none⟩,
  ⟨(some 31), .bin .add (.tmp 30) (.const (.int .i64 (.ofNat 10))), none⟩,
  ⟨(some 2), .move (.tmp 31), none⟩] none
def f118r7 : ICode := .region [
  ⟨(some 2), .move (.const (.int .i64 (.negSucc 0))), none⟩] none
/- ferret/syn.hex -/
def f118 : IFn := ⟨32, [.inl 2], (.seq f118r0 (.seq (.block 0 (.seq f118r1 (.cond (.tmp 3) (.seq f118r2 .ret) (.seq f118r3 (.cond (.tmp 12) (.seq f118r4 .ret) (.seq f118r5 (.cond (.tmp 22) (.seq f118r6 .ret) .skip))))))) (.seq f118r7 .ret)))⟩
def f119r0 : ICode := .region [
  ⟨(some 0), .move (.const (.slice none 0 0)), none⟩] none
def f119r1 : ICode := .region [
  ⟨(some 1), .build [(.int .i64 (.ofNat 0)), (.int .i64 (.ofNat 0))] [(0, 1, (.const (.int .i64 (.ofNat 9)))), (1, 1, (.const (.int .i64 (.ofNat 13))))], none⟩,
  ⟨(some 2), .build [(.int .i64 (.ofNat 0)), (.int .i64 (.ofNat 0))] [(0, 1, (.const (.int .i64 (.ofNat 32)))), (1, 1, (.const (.int .i64 (.ofNat 32))))], none⟩,
  ⟨(some 3), .build [(.int .i64 (.ofNat 0)), (.int .i64 (.ofNat 0))] [(0, 1, (.const (.int .i64 (.ofNat 133)))), (1, 1, (.const (.int .i64 (.ofNat 133))))], none⟩,
  ⟨(some 4), .build [(.int .i64 (.ofNat 0)), (.int .i64 (.ofNat 0))] [(0, 1, (.const (.int .i64 (.ofNat 160)))), (1, 1, (.const (.int .i64 (.ofNat 160))))], none⟩,
  ⟨(some 5), .build [(.int .i64 (.ofNat 0)), (.int .i64 (.ofNat 0))] [(0, 1, (.const (.int .i64 (.ofNat 8192)))), (1, 1, (.const (.int .i64 (.ofNat 8202))))], none⟩,
  ⟨(some 6), .build [(.int .i64 (.ofNat 0)), (.int .i64 (.ofNat 0))] [(0, 1, (.const (.int .i64 (.ofNat 8232)))), (1, 1, (.const (.int .i64 (.ofNat 8233))))], none⟩,
  ⟨(some 7), .build [(.int .i64 (.ofNat 0)), (.int .i64 (.ofNat 0))] [(0, 1, (.const (.int .i64 (.ofNat 12288)))), (1, 1, (.const (.int .i64 (.ofNat 12288))))], none⟩,
  ⟨(some 8), .buildSlice 198 7 [(.int .i64 (.ofNat 0)), (.int .i64 (.ofNat 0)), (.int .i64 (.ofNat 0)), (.int .i64 (.ofNat 0)), (.int .i64 (.ofNat 0)), (.int .i64 (.ofNat 0)), (.int .i64 (.ofNat 0)), (.int .i64 (.ofNat 0)), (.int .i64 (.ofNat 0)), (.int .i64 (.ofNat 0)), (.int .i64 (.ofNat 0)), (.int .i64 (.ofNat 0)), (.int .i64 (.ofNat 0)), (.int .i64 (.ofNat 0))] [(0, 2, (.tmp 1)), (2, 2, (.tmp 2)), (4, 2, (.tmp 3)), (6, 2, (.tmp 4)), (8, 2, (.tmp 5)), (10, 2, (.tmp 6)), (12, 2, (.tmp 7))], none⟩,
  ⟨(some 9), .call 146 [(.tmp 8)], none⟩,
  ⟨(some 0), .move (.tmp 9), none⟩] none
/- ferret/ucd.blanks -/
def f119 : IFn := ⟨10, [.inl 0], (.seq f119r0 (.seq f119r1 .ret))⟩
def f120r0 : ICode := .region [
  ⟨(some 4), .move (.const (.int .i64 (.ofNat 0))), none⟩] none
def f120r1 : ICode := .region [
  ⟨(some 5), .move (.tmp 0), none⟩,
  ⟨(some 6), .move (.tmp 1), none⟩,
  ⟨(some 7), .call 148 [(.tmp 5), (.tmp 6)], none⟩,
  ⟨(some 4), .move (.tmp 7), none⟩] none
/- internal/stringslite.IndexByte -/
def f120 : IFn := ⟨8, [.inl 4], (.seq f120r0 (.seq f120r1 .ret))⟩
def f130r0 : ICode := .region [
  ⟨(some 2), .move (.const (.int .i64 (.ofNat 0))), none⟩] none
def f130r1 : ICode := .region [
  ⟨(some 3), .move (.tmp 0), none⟩,
  ⟨(some 4), .bin .geq (.tmp 3) (.const (.int .u32 (.ofNat 65536))), none⟩] none
def f130r2 : ICode := .region [
  ⟨(some 5), .move (.tmp 0), none⟩,
  ⟨(some 6), .bin .shr (.tmp 5) (.const (.int .u64 (.ofNat 16))), none⟩,
  ⟨(some 0), .move (.tmp 6), none⟩] none
def f130r3 : ICode := .region [
  ⟨(some 2), .move (.const (.int .i64 (.ofNat 16))), none⟩] none
def f130r4 : ICode := .region [
  ⟨(some 7), .move (.tmp 0), none⟩,
  ⟨(some 8), .bin .geq (.tmp 7) (.const (.int .u32 (.ofNat 256))), none⟩] none
def f130r5 : ICode := .region [
  ⟨(some 9), .move (.tmp 0), none⟩,
  ⟨(some 10), .bin .shr (.tmp 9) (.const (.int .u64 (.ofNat 8))), none⟩,
  ⟨(some 0), .move (.tmp 10), none⟩] none
def f130r6 : ICode := .region [
  ⟨(some 11), .move (.tmp 2), none⟩,
  ⟨(some 12), .bin .add (.tmp 11) (.const (.int .i64 (.ofNat 8))), none⟩,
  ⟨(some 2), .move (.tmp 12), none⟩] none
def f130r7 : ICode := .region [
  ⟨(some 13), .move (.tmp 2), none⟩,
  ⟨(some 14), .move (.tmp 0), none⟩,
  ⟨(some 15), .conv .u8 (.tmp 14), none⟩,
  ⟨(some 16), .indexStr (.const (.string ⟨⟨[0, 1, 2, 2, 3, 3, 3, 3, 4, 4, 4, 4, 4, 4, 4, 4, 5, 5, 5, 5, 5, 5, 5, 5, 5, 5, 5, 5, 5, 5, 5, 5, 6, 6, 6, 6, 6, 6, 6, 6, 6, 6, 6, 6, 6, 6, 6, 6, 6, 6, 6, 6, 6, 6, 6, 6, 6, 6, 6, 6, 6, 6, 6, 6, 7, 7, 7, 7, 7, 7, 7, 7, 7, 7, 7, 7, 7, 7, 7, 7, 7, 7, 7, 7, 7, 7, 7, 7, 7, 7, 7, 7, 7, 7, 7, 7, 7, 7, 7, 7, 7, 7, 7, 7, 7, 7, 7, 7, 7, 7, 7, 7, 7, 7, 7, 7, 7, 7, 7, 7, 7, 7, 7, 7, 7, 7, 7, 7, 8, 8, 8, 8, 8, 8, 8, 8, 8, 8, 8, 8, 8, 8, 8, 8, 8, 8, 8, 8, 8, 8, 8, 8, 8, 8, 8, 8, 8, 8, 8, 8, 8, 8, 8, 8, 8, 8, 8, 8, 8, 8, 8, 8, 8, 8, 8, 8, 8, 8, 8, 8, 8, 8, 8, 8, 8, 8, 8, 8, 8, 8, 8, 8, 8, 8, 8, 8, 8, 8, 8, 8, 8, 8, 8, 8, 8, 8, 8, 8, 8, 8, 8, 8, 8, 8, 8, 8, 8, 8, 8, 8, 8, 8, 8, 8, 8, 8, 8, 8, 8, 8, 8, 8, 8, 8, 8, 8, 8, 8, 8, 8, 8, 8, 8, 8, 8, 8, 8, 8, 8, 8, 8, 8, 8, 8, 8, 8]⟩⟩)) (.tmp 15), none⟩,
  ⟨(some 17), .conv .i64 (.tmp 16), none⟩,
  ⟨(some 18), .bin .add (.tmp 13) (.tmp 17), none⟩,
  ⟨(some 2), .move (.tmp 18), none⟩] none
/- math/bits.Len32 -/
def f130 : IFn := ⟨19, [.inl 2], (.seq f130r0 (.seq (.seq f130r1 (.cond (.tmp 4) (.seq f130r2 f130r3) .skip)) (.seq (.seq f130r4 (.cond (.tmp 8) (.seq f130r5 f130r6) .skip)) (.seq f130r7 .ret))))⟩
def f131r0 : ICode := .region [
  ⟨(some 2), .move (.const (.int .i64 (.ofNat 0))), none⟩] none
def f131r1 : ICode := .region [
  ⟨(some 3), .move (.tmp 0), none⟩,
  ⟨(some 4), .bin .geq (.tmp 3) (.const (.int .u64 (.ofNat 4294967296))), none⟩] none
def f131r2 : ICode := .region [
  ⟨(some 5), .move (.tmp 0), none⟩,
  ⟨(some 6), .bin .shr (.tmp 5) (.const (.int .u64 (.ofNat 32))), none⟩,
  ⟨(some 0), .move (.tmp 6), none⟩] none
def f131r3 : ICode := .region [
  ⟨(some 2), .move (.const (.int .i64 (.ofNat 32))), none⟩] none
def f131r4 : ICode := .region [
  ⟨(some 7), .move (.tmp 0), none⟩,
  ⟨(some 8), .bin .geq (.tmp 7) (.const (.int .u64 (.ofNat 65536))), none⟩] none
def f131r5 : ICode := .region [
  ⟨(some 9), .move (.tmp 0), none⟩,
  ⟨(some 10), .bin .shr (.tmp 9) (.const (.int .u64 (.ofNat 16))), none⟩,
  ⟨(some 0), .move (.tmp 10), none⟩] none
def f131r6 : ICode := .region [
  ⟨(some 11), .move (.tmp 2), none⟩,
  ⟨(some 12), .bin .add (.tmp 11) (.const (.int .i64 (.ofNat 16))), none⟩,
  ⟨(some 2), .move (.tmp 12), none⟩] none
def f131r7 : ICode := .region [
  ⟨(some 13), .move (.tmp 0), none⟩,
  ⟨(some 14), .bin .geq (.tmp 13) (.const (.int .u64 (.ofNat 256))), none⟩] none
def f131r8 : ICode := .region [
  ⟨(some 15), .move (.tmp 0), none⟩,
  ⟨(some 16), .bin .shr (.tmp 15) (.const (.int .u64 (.ofNat 8))), none⟩,
  ⟨(some 0), .move (.tmp 16), none⟩] none
def f131r9 : ICode := .region [
  ⟨(some 17), .move (.tmp 2), none⟩,
  ⟨(some 18), .bin .add (.tmp 17) (.const (.int .i64 (.ofNat 8))), none⟩,
  ⟨(some 2), .move (.tmp 18), none⟩] none
def f131r10 : ICode := .region [
  ⟨(some 19), .move (.tmp 2), none⟩,
  ⟨(some 20), .move (.tmp 0), none⟩,
  ⟨(some 21), .conv .u8 (.tmp 20), none⟩,
  ⟨(some 22), .indexStr (.const (.string ⟨⟨[0, 1, 2, 2, 3, 3, 3, 3, 4, 4, 4, 4, 4, 4, 4, 4, 5, 5, 5, 5, 5, 5, 5, 5, 5, 5, 5, 5, 5, 5, 5, 5, 6, 6, 6, 6, 6, 6, 6, 6, 6, 6, 6, 6, 6, 6, 6, 6, 6, 6, 6, 6, 6, 6, 6, 6, 6, 6, 6, 6, 6, 6, 6, 6, 7, 7, 7, 7, 7, 7, 7, 7, 7, 7, 7, 7, 7, 7, 7, 7, 7, 7, 7, 7, 7, 7, 7, 7, 7, 7, 7, 7, 7, 7, 7, 7, 7, 7, 7, 7, 7, 7, 7, 7, 7, 7, 7, 7, 7, 7, 7, 7, 7, 7, 7, 7, 7, 7, 7, 7, 7, 7, 7, 7, 7, 7, 7, 7, 8, 8, 8, 8, 8, 8, 8, 8, 8, 8, 8, 8, 8, 8, 8, 8, 8, 8, 8, 8, 8, 8, 8, 8, 8, 8, 8, 8, 8, 8, 8, 8, 8, 8, 8, 8, 8, 8, 8, 8, 8, 8, 8, 8, 8, 8, 8, 8, 8, 8, 8, 8, 8, 8, 8, 8, 8, 8, 8, 8, 8, 8, 8, 8, 8, 8, 8, 8, 8, 8, 8, 8, 8, 8, 8, 8, 8, 8, 8, 8, 8, 8, 8, 8, 8, 8, 8, 8, 8, 8, 8, 8, 8, 8, 8, 8, 8, 8, 8, 8, 8, 8, 8, 8, 8, 8, 8, 8, 8, 8, 8, 8, 8, 8, 8, 8, 8, 8, 8, 8, 8, 8, 8, 8, 8, 8, 8, 8]⟩⟩)) (.tmp 21), none⟩,
  ⟨(some 23), .conv .i64 (.tmp 22), none⟩,
  ⟨(some 24), .bin .add (.tmp 19) (.tmp 23), none⟩,
  ⟨(some 2), .move (.tmp 24), none⟩] none
/- math/bits.Len64 -/
def f131 : IFn := ⟨25, [.inl 2], (.seq f131r0 (.seq (.seq f131r1 (.cond (.tmp 4) (.seq f131r2 f131r3) .skip)) (.seq (.seq f131r4 (.cond (.tmp 8) (.seq f131r5 f131r6) .skip)) (.seq (.seq f131r7 (.cond (.tmp 14) (.seq f131r8 f131r9) .skip)) (.seq f131r10 .ret)))))⟩
def f132r0 : ICode := .region [
  ⟨(some 3), .box 160 (.tmp 0), none⟩] none
def f132r1 : ICode := .region [
  ⟨(some 8), .move (.tmp 1), none⟩,
  ⟨(some 9), .bin .add (.tmp 8) (.const (.int .i64 (.ofNat 1))), none⟩,
  ⟨(some 6), .move (.tmp 9), none⟩] none
def f132r2 : ICode := .region [
  ⟨(some 10), .move (.tmp 6), none⟩,
  ⟨(some 11), .move (.tmp 2), none⟩,
  ⟨(some 12), .bin .lss (.tmp 10) (.tmp 11), none⟩] none
def f132r3 : ICode := .region [
  ⟨(some 15), .move (.tmp 6), none⟩,
  ⟨(some 7), .move (.tmp 15), none⟩] none
def f132r4 : ICode := .region [
  ⟨(some 16), .move (.tmp 7), none⟩,
  ⟨(some 17), .move (.tmp 1), none⟩,
  ⟨(some 18), .bin .gtr (.tmp 16) (.tmp 17), none⟩,
  ⟨(some 19), .move (.tmp 18), none⟩,
  ⟨(some 20), .fieldAddr 0 (.tmp 3), (some ((some 19), true))⟩,
  ⟨(some 21), .load1 (.tmp 20), (some ((some 19), true))⟩,
  ⟨(some 22), .move (.tmp 7), (some ((some 19), true))⟩,
  ⟨(some 23), .move (.tmp 7), (some ((some 19), true))⟩,
  ⟨(some 24), .bin .sub (.tmp 23) (.const (.int .i64 (.ofNat 1))), (some ((some 19), true))⟩,
  ⟨(some 25), .callv (.tmp 21) [(.tmp 22), (.tmp 24)], (some ((some 19), true))⟩,
  ⟨(some 26), .pick (.tmp 19) (.tmp 25) (.const (.bool false)), none⟩] none
def f132r5 : ICode := .region [
  ⟨(some 29), .fieldAddr 1 (.tmp 3), none⟩,
  ⟨(some 30), .load1 (.tmp 29), none⟩,
  ⟨(some 31), .move (.tmp 7), none⟩,
  ⟨(some 32), .move (.tmp 7), none⟩,
  ⟨(some 33), .bin .sub (.tmp 32) (.const (.int .i64 (.ofNat 1))), none⟩,
  ⟨(some 34), .callv (.tmp 30) [(.tmp 31), (.tmp 33)], none⟩] none
def f132r6 : ICode := .region [
  ⟨(some 27), .move (.tmp 7), none⟩,
  ⟨(some 28), .bin .sub (.tmp 27) (.const (.int .i64 (.ofNat 1))), none⟩,
  ⟨(some 7), .move (.tmp 28), none⟩] none
def f132r7 : ICode := .region [
  ⟨(some 13), .move (.tmp 6), none⟩,
  ⟨(some 14), .bin .add (.tmp 13) (.const (.int .i64 (.ofNat 1))), none⟩,
  ⟨(some 6), .move (.tmp 14), none⟩] none
/- sort.insertionSort_func -/
def f132 : IFn := ⟨35, [], (.seq f132r0 (.seq f132r1 (.block 0 (.loop (.seq (.seq f132r2 (.cond (.tmp 12) .skip (.exit 0))) (.seq (.block 1 (.seq f132r3 (.block 2 (.loop (.seq (.seq f132r4 (.cond (.tmp 26) .skip (.exit 2))) (.seq (.block 3 f132r5) f132r6)))))) f132r7))))))⟩
def f133r0 : ICode := .region [
  ⟨(some 3), .box 160 (.tmp 0), none⟩] none
def f133r1 : ICode := .region [
  ⟨(some 11), .move (.tmp 1), none⟩,
  ⟨(some 6), .move (.tmp 11), none⟩] none
def f133r2 : ICode := .region [
  ⟨(some 7), .move (.const (.int .i64 (.ofNat 0))), none⟩] none
def f133r3 : ICode := .region [
  ⟨(some 12), .move (.tmp 2), none⟩,
  ⟨(some 13), .move (.tmp 1), none⟩,
  ⟨(some 14), .bin .sub (.tmp 12) (.tmp 13), none⟩,
  ⟨(some 8), .move (.tmp 14), none⟩] none
def f133r4 : ICode := .region [
  ⟨(some 15), .move (.tmp 8), none⟩,
  ⟨(some 16), .bin .sub (.tmp 15) (.const (.int .i64 (.ofNat 1))), none⟩,
  ⟨(some 17), .bin .quo (.tmp 16) (.const (.int .i64 (.ofNat 2))), none⟩,
  ⟨(some 9), .move (.tmp 17), none⟩] none
def f133r5 : ICode := .region [
  ⟨(some 18), .move (.tmp 9), none⟩,
  ⟨(some 19), .bin .geq (.tmp 18) (.const (.int .i64 (.ofNat 0))), none⟩] none
def f133r6 : ICode := .region [
  ⟨(some 22), .loadN 2 (.tmp 3), none⟩,
  ⟨(some 23), .move (.tmp 9), none⟩,
  ⟨(some 24), .move (.tmp 8), none⟩,
  ⟨(some 25), .move (.tmp 6), none⟩,
  ⟨(some 26), .call 149 [(.tmp 22), (.tmp 23), (.tmp 24), (.tmp 25)], none⟩] none
def f133r7 : ICode := .region [
  ⟨(some 20), .move (.tmp 9), none⟩,
  ⟨(some 21), .bin .sub (.tmp 20) (.const (.int .i64 (.ofNat 1))), none⟩,
  ⟨(some 9), .move (.tmp 21), none⟩] none
def f133r8 : ICode := .region [
  ⟨(some 27), .move (.tmp 8), none⟩,
  ⟨(some 28), .bin .sub (.tmp 27) (.const (.int .i64 (.ofNat 1))), none⟩,
  ⟨(some 10), .move (.tmp 28), none⟩] none
def f133r9 : ICode := .region [
  ⟨(some 29), .move (.tmp 10), none⟩,
  ⟨(some 30), .bin .geq (.tmp 29) (.const (.int .i64 (.ofNat 0))), none⟩] none
def f133r10 : ICode := .region [
  ⟨(some 33), .fieldAddr 1 (.tmp 3), none⟩,
  ⟨(some 34), .load1 (.tmp 33), none⟩,
  ⟨(some 35), .move (.tmp 6), none⟩,
  ⟨(some 36), .move (.tmp 6), none⟩,
  ⟨(some 37), .move (.tmp 10), none⟩,
  ⟨(some 38), .bin .add (.tmp 36) (.tmp 37), none⟩,
  ⟨(some 39), .callv (.tmp 34) [(.tmp 35), (.tmp 38)], none⟩] none
def f133r11 : ICode := .region [
  ⟨(some 40), .loadN 2 (.tmp 3), none⟩,
  ⟨(some 41), .move (.tmp 7), none⟩,
  ⟨(some 42), .move (.tmp 10), none⟩,
  ⟨(some 43), .move (.tmp 6), none⟩,
  ⟨(some 44), .call 149 [(.tmp 40), (.tmp 41), (.tmp 42), (.tmp 43)], none⟩] none
def f133r12 : ICode := .region [
  ⟨(some 31), .move (.tmp 10), none⟩,
  ⟨(some 32), .bin .sub (.tmp 31) (.const (.int .i64 (.ofNat 1))), none⟩,
  ⟨(some 10), .move (.tmp 32), none⟩] none
/- sort.heapSort_func -/
def f133 : IFn := ⟨45, [], (.seq f133r0 (.seq f133r1 (.seq f133r2 (.seq f133r3 (.seq (.seq f133r4 (.block 0 (.loop (.seq (.seq f133r5 (.cond (.tmp 19) .skip (.exit 0))) (.seq (.block 1 f133r6) f133r7))))) (.seq f133r8 (.block 2 (.loop (.seq (.seq f133r9 (.cond (.tmp 30) .skip (.exit 2))) (.seq (.block 3 (.seq f133r10 f133r11)) f133r12))))))))))⟩
def f134r0 : ICode := .region [
  ⟨(some 3), .box 160 (.tmp 0), none⟩] none
def f134r1 : ICode := .region [
  ⟨(some 11), .move (.tmp 2), none⟩,
  ⟨(some 12), .move (.tmp 1), none⟩,
  ⟨(some 13), .bin .sub (.tmp 11) (.tmp 12), none⟩,
  ⟨(some 6), .move (.tmp 13), none⟩] none
def f134r2 : ICode := .region [
  ⟨(some 14), .move (.tmp 6), none⟩,
  ⟨(some 15), .bin .geq (.tmp 14) (.const (.int .i64 (.ofNat 8))), none⟩] none
def f134r3 : ICode := .region [
  ⟨(some 16), .move (.tmp 6), none⟩,
  ⟨(some 17), .conv .u64 (.tmp 16), none⟩,
  ⟨(some 7), .new [(.int .u64 (.ofNat 0))] 199, none⟩,
  ⟨none, .store 1 (.tmp 7) (.tmp 17), none⟩] none
def f134r4 : ICode := .region [
  ⟨(some 18), .move (.tmp 6), none⟩,
  ⟨(some 19), .call 150 [(.tmp 18)], none⟩,
  ⟨(some 8), .move (.tmp 19), none⟩] none
def f134r5 : ICode := .region [
  ⟨(some 20), .move (.tmp 1), none⟩,
  ⟨(some 21), .move (.tmp 6), none⟩,
  ⟨(some 22), .bin .quo (.tmp 21) (.const (.int .i64 (.ofNat 4))), none⟩,
  ⟨(some 23), .bin .mul (.tmp 22) (.const (.int .i64 (.ofNat 2))), none⟩,
  ⟨(some 24), .bin .add (.tmp 20) (.tmp 23), none⟩,
  ⟨(some 25), .bin .sub (.tmp 24) (.const (.int .i64 (.ofNat 1))), none⟩,
  ⟨(some 9), .move (.tmp 25), none⟩] none
def f134r6 : ICode := .region [
  ⟨(some 26), .move (.tmp 9), none⟩,
  ⟨(some 27), .move (.tmp 1), none⟩,
  ⟨(some 28), .move (.tmp 6), none⟩,
  ⟨(some 29), .bin .quo (.tmp 28) (.const (.int .i64 (.ofNat 4))), none⟩,
  ⟨(some 30), .bin .mul (.tmp 29) (.const (.int .i64 (.ofNat 2))), none⟩,
  ⟨(some 31), .bin .add (.tmp 27) (.tmp 30), none⟩,
  ⟨(some 32), .bin .add (.tmp 31) (.const (.int .i64 (.ofNat 1))), none⟩,
  ⟨(some 33), .bin .leq (.tmp 26) (.tmp 32), none⟩] none
def f134r7 : ICode := .region [
  ⟨(some 36), .call 151 [(.tmp 7)], none⟩,
  ⟨(some 37), .move (.tmp 8), none⟩,
  ⟨(some 38), .bin .sub (.tmp 37) (.const (.int .u64 (.ofNat 1))), none⟩,
  ⟨(some 39), .bin .and (.tmp 36) (.tmp 38), none⟩,
  ⟨(some 40), .conv .i64 (.tmp 39), none⟩,
  ⟨(some 10), .move (.tmp 40), none⟩] none
def f134r8 : ICode := .region [
  ⟨(some 41), .move (.tmp 10), none⟩,
  ⟨(some 42), .move (.tmp 6), none⟩,
  ⟨(some 43), .bin .geq (.tmp 41) (.tmp 42), none⟩] none
def f134r9 : ICode := .region [
  ⟨(some 44), .move (.tmp 10), none⟩,
  ⟨(some 45), .move (.tmp 6), none⟩,
  ⟨(some 46), .bin .sub (.tmp 44) (.tmp 45), none⟩,
  ⟨(some 10), .move (.tmp 46), none⟩] none
def f134r10 : ICode := .region [
  ⟨(some 47), .fieldAddr 1 (.tmp 3), none⟩,
  ⟨(some 48), .load1 (.tmp 47), none⟩,
  ⟨(some 49), .move (.tmp 9), none⟩,
  ⟨(some 50), .move (.tmp 1), none⟩,
  ⟨(some 51), .move (.tmp 10), none⟩,
  ⟨(some 52), .bin .add (.tmp 50) (.tmp 51), none⟩,
  ⟨(some 53), .callv (.tmp 48) [(.tmp 49), (.tmp 52)], none⟩] none
def f134r11 : ICode := .region [
  ⟨(some 34), .move (.tmp 9), none⟩,
  ⟨(some 35), .bin .add (.tmp 34) (.const (.int .i64 (.ofNat 1))), none⟩,
  ⟨(some 9), .move (.tmp 35), none⟩] none
/- sort.breakPatterns_func -/
def f134 : IFn := ⟨54, [], (.seq f134r0 (.seq f134r1 (.seq f134r2 (.cond (.tmp 15) (.seq f134r3 (.seq f134r4 (.seq f134r5 (.block 0 (.loop (.seq (.seq f134r6 (.cond (.tmp 33) .skip (.exit 0))) (.seq (.block 1 (.seq f134r7 (.seq (.seq f134r8 (.cond (.tmp 43) f134r9 .skip)) f134r10))) f134r11))))))) .skip))))⟩
def f135r0 : ICode := .region [
  ⟨(some 3), .box 160 (.tmp 0), none⟩,
  ⟨(some 6), .move (.const (.int .i64 (.ofNat 0))), none⟩,
  ⟨(some 7), .move (.const (.int .i64 (.ofNat 0))), none⟩] none
def f135r1 : ICode := .region [
  ⟨(some 13), .move (.tmp 2), none⟩,
  ⟨(some 14), .move (.tmp 1), none⟩,
  ⟨(some 15), .bin .sub (.tmp 13) (.tmp 14), none⟩,
  ⟨(some 8), .move (.tmp 15), none⟩] none
def f135r2 : ICode := .region [
  ⟨(some 9), .new [(.int .i64 (.ofNat 0))] 3, none⟩] none
def f135r3 : ICode := .region [
  ⟨(some 16), .move (.tmp 1), none⟩,
  ⟨(some 17), .move (.tmp 8), none⟩,
  ⟨(some 18), .bin .quo (.tmp 17) (.const (.int .i64 (.ofNat 4))), none⟩,
  ⟨(some 19), .bin .mul (.tmp 18) (.const (.int .i64 (.ofNat 1))), none⟩,
  ⟨(some 20), .bin .add (.tmp 16) (.tmp 19), none⟩,
  ⟨(some 10), .move (.tmp 20), none⟩] none
def f135r4 : ICode := .region [
  ⟨(some 21), .move (.tmp 1), none⟩,
  ⟨(some 22), .move (.tmp 8), none⟩,
  ⟨(some 23), .bin .quo (.tmp 22) (.const (.int .i64 (.ofNat 4))), none⟩,
  ⟨(some 24), .bin .mul (.tmp 23) (.const (.int .i64 (.ofNat 2))), none⟩,
  ⟨(some 25), .bin .add (.tmp 21) (.tmp 24), none⟩,
  ⟨(some 11), .move (.tmp 25), none⟩] none
def f135r5 : ICode := .region [
  ⟨(some 26), .move (.tmp 1), none⟩,
  ⟨(some 27), .move (.tmp 8), none⟩,
  ⟨(some 28), .bin .quo (.tmp 27) (.const (.int .i64 (.ofNat 4))), none⟩,
  ⟨(some 29), .bin .mul (.tmp 28) (.const (.int .i64 (.ofNat 3))), none⟩,
  ⟨(some 30), .bin .add (.tmp 26) (.tmp 29), none⟩,
  ⟨(some 12), .move (.tmp 30), none⟩] none
def f135r6 : ICode := .region [
  ⟨(some 31), .move (.tmp 8), none⟩,
  ⟨(some 32), .bin .geq (.tmp 31) (.const (.int .i64 (.ofNat 8))), none⟩] none
def f135r7 : ICode := .region [
  ⟨(some 33), .move (.tmp 8), none⟩,
  ⟨(some 34), .bin .geq (.tmp 33) (.const (.int .i64 (.ofNat 50))), none⟩] none
def f135r8 : ICode := .region [
  ⟨(some 35), .loadN 2 (.tmp 3), none⟩,
  ⟨(some 36), .move (.tmp 10), none⟩,
  ⟨(some 37), .call 152 [(.tmp 35), (.tmp 36), (.tmp 9)], none⟩,
  ⟨(some 10), .move (.tmp 37), none⟩] none
def f135r9 : ICode := .region [
  ⟨(some 38), .loadN 2 (.tmp 3), none⟩,
  ⟨(some 39), .move (.tmp 11), none⟩,
  ⟨(some 40), .call 152 [(.tmp 38), (.tmp 39), (.tmp 9)], none⟩,
  ⟨(some 11), .move (.tmp 40), none⟩] none
def f135r10 : ICode := .region [
  ⟨(some 41), .loadN 2 (.tmp 3), none⟩,
  ⟨(some 42), .move (.tmp 12), none⟩,
  ⟨(some 43), .call 152 [(.tmp 41), (.tmp 42), (.tmp 9)], none⟩,
  ⟨(some 12), .move (.tmp 43), none⟩] none
def f135r11 : ICode := .region [
  ⟨(some 44), .loadN 2 (.tmp 3), none⟩,
  ⟨(some 45), .move (.tmp 10), none⟩,
  ⟨(some 46), .move (.tmp 11), none⟩,
  ⟨(some 47), .move (.tmp 12), none⟩,
  ⟨(some 48), .call 153 [(.tmp 44), (.tmp 45), (.tmp 46), (.tmp 47), (.tmp 9)], none⟩,
  ⟨(some 11), .move (.tmp 48), none⟩] none
def f135r12 : ICode := .region [
  ⟨(some 49), .load1 (.tmp 9), none⟩] none
def f135r13 : ICode := .region [
  ⟨(some 52), .bin .eql (.tmp 49) (.const (.int .i64 (.ofNat 0))), none⟩,
  ⟨(some 51), .move (.tmp 52), none⟩] none
def f135r14 : ICode := .region [
  ⟨(some 53), .move (.tmp 11), none⟩,
  ⟨(some 6), .move (.tmp 53), none⟩,
  ⟨(some 7), .move (.const (.int .i64 (.ofNat 1))), none⟩] none
def f135r15 : ICode := .region [
  ⟨(some 55), .bin .eql (.tmp 49) (.const (.int .i64 (.ofNat 12))), none⟩,
  ⟨(some 54), .move (.tmp 55), none⟩] none
def f135r16 : ICode := .region [
  ⟨(some 56), .move (.tmp 11), none⟩,
  ⟨(some 6), .move (.tmp 56), none⟩,
  ⟨(some 7), .move (.const (.int .i64 (.ofNat 2))), none⟩] none
def f135r17 : ICode := .region [
  ⟨(some 50), .move (.tmp 11), none⟩,
  ⟨(some 6), .move (.tmp 50), none⟩,
  ⟨(some 7), .move (.const (.int .i64 (.ofNat 0))), none⟩] none
/- sort.choosePivot_func -/
def f135 : IFn := ⟨57, [.inl 6, .inl 7], (.seq f135r0 (.seq f135r1 (.seq f135r2 (.seq f135r3 (.seq f135r4 (.seq f135r5 (.seq (.seq f135r6 (.cond (.tmp 32) (.seq (.seq f135r7 (.cond (.tmp 34) (.seq f135r8 (.seq f135r9 f135r10)) .skip)) f135r11) .skip)) (.seq f135r12 (.block 0 (.seq f135r13 (.cond (.tmp 51) (.seq f135r14 .ret) (.seq f135r15 (.cond (.tmp 54) (.seq f135r16 .ret) (.seq f135r17 .ret))))))))))))))⟩
def f136r0 : ICode := .region [
  ⟨(some 3), .box 160 (.tmp 0), none⟩] none
def f136r1 : ICode := .region [
  ⟨(some 8), .move (.tmp 1), none⟩,
  ⟨(some 6), .move (.tmp 8), none⟩] none
def f136r2 : ICode := .region [
  ⟨(some 9), .move (.tmp 2), none⟩,
  ⟨(some 10), .bin .sub (.tmp 9) (.const (.int .i64 (.ofNat 1))), none⟩,
  ⟨(some 7), .move (.tmp 10), none⟩] none
def f136r3 : ICode := .region [
  ⟨(some 11), .move (.tmp 6), none⟩,
  ⟨(some 12), .move (.tmp 7), none⟩,
  ⟨(some 13), .bin .lss (.tmp 11) (.tmp 12), none⟩] none
def f136r4 : ICode := .region [
  ⟨(some 14), .fieldAddr 1 (.tmp 3), none⟩,
  ⟨(some 15), .load1 (.tmp 14), none⟩,
  ⟨(some 16), .move (.tmp 6), none⟩,
  ⟨(some 17), .move (.tmp 7), none⟩,
  ⟨(some 18), .callv (.tmp 15) [(.tmp 16), (.tmp 17)], none⟩] none
def f136r5 : ICode := .region [
  ⟨(some 19), .move (.tmp 6), none⟩,
  ⟨(some 20), .bin .add (.tmp 19) (.const (.int .i64 (.ofNat 1))), none⟩,
  ⟨(some 6), .move (.tmp 20), none⟩] none
def f136r6 : ICode := .region [
  ⟨(some 21), .move (.tmp 7), none⟩,
  ⟨(some 22), .bin .sub (.tmp 21) (.const (.int .i64 (.ofNat 1))), none⟩,
  ⟨(some 7), .move (.tmp 22), none⟩] none
/- sort.reverseRange_func -/
def f136 : IFn := ⟨23, [], (.seq f136r0 (.seq f136r1 (.seq f136r2 (.block 0 (.loop (.seq (.seq f136r3 (.cond (.tmp 13) .skip (.exit 0))) (.block 1 (.seq f136r4 (.seq f136r5 f136r6)))))))))⟩
def f137r0 : ICode := .region [
  ⟨(some 3), .box 160 (.tmp 0), none⟩,
  ⟨(some 6), .move (.const (.bool false)), none⟩] none
def f137r1 : ICode := .region [
  ⟨(some 11), .move (.tmp 1), none⟩,
  ⟨(some 12), .bin .add (.tmp 11) (.const (.int .i64 (.ofNat 1))), none⟩,
  ⟨(some 7), .move (.tmp 12), none⟩] none
def f137r2 : ICode := .region [
  ⟨(some 8), .move (.const (.int .i64 (.ofNat 0))), none⟩] none
def f137r3 : ICode := .region [
  ⟨(some 13), .move (.tmp 8), none⟩,
  ⟨(some 14), .bin .lss (.tmp 13) (.const (.int .i64 (.ofNat 5))), none⟩] none
def f137r4 : ICode := .region [
  ⟨(some 17), .move (.tmp 7), none⟩,
  ⟨(some 18), .move (.tmp 2), none⟩,
  ⟨(some 19), .bin .lss (.tmp 17) (.tmp 18), none⟩,
  ⟨(some 20), .move (.tmp 19), none⟩,
  ⟨(some 21), .fieldAddr 0 (.tmp 3), (some ((some 20), true))⟩,
  ⟨(some 22), .load1 (.tmp 21), (some ((some 20), true))⟩,
  ⟨(some 23), .move (.tmp 7), (some ((some 20), true))⟩,
  ⟨(some 24), .move (.tmp 7), (some ((some 20), true))⟩,
  ⟨(some 25), .bin .sub (.tmp 24) (.const (.int .i64 (.ofNat 1))), (some ((some 20), true))⟩,
  ⟨(some 26), .callv (.tmp 22) [(.tmp 23), (.tmp 25)], (some ((some 20), true))⟩,
  ⟨(some 27), .un .not (.tmp 26), (some ((some 20), true))⟩,
  ⟨(some 28), .pick (.tmp 20) (.tmp 27) (.const (.bool false)), none⟩] none
def f137r5 : ICode := .region [
  ⟨(some 29), .move (.tmp 7), none⟩,
  ⟨(some 30), .bin .add (.tmp 29) (.const (.int .i64 (.ofNat 1))), none⟩,
  ⟨(some 7), .move (.tmp 30), none⟩] none
def f137r6 : ICode := .region [
  ⟨(some 31), .move (.tmp 7), none⟩,
  ⟨(some 32), .move (.tmp 2), none⟩,
  ⟨(some 33), .bin .eql (.tmp 31) (.tmp 32), none⟩] none
def f137r7 : ICode := .region [
  ⟨(some 6), .move (.const (.bool true)), none⟩] none
def f137r8 : ICode := .region [
  ⟨(some 34), .move (.tmp 2), none⟩,
  ⟨(some 35), .move (.tmp 1), none⟩,
  ⟨(some 36), .bin .sub (.tmp 34) (.tmp 35), none⟩,
  ⟨(some 37), .bin .lss (.tmp 36) (.const (.int .i64 (.ofNat 50))), none⟩] none
def f137r9 : ICode := .region [
  ⟨(some 6), .move (.const (.bool false)), none⟩] none
def f137r10 : ICode := .region [
  ⟨(some 38), .fieldAddr 1 (.tmp 3), none⟩,
  ⟨(some 39), .load1 (.tmp 38), none⟩,
  ⟨(some 40), .move (.tmp 7), none⟩,
  ⟨(some 41), .move (.tmp 7), none⟩,
  ⟨(some 42), .bin .sub (.tmp 41) (.const (.int .i64 (.ofNat 1))), none⟩,
  ⟨(some 43), .callv (.tmp 39) [(.tmp 40), (.tmp 42)], none⟩] none
def f137r11 : ICode := .region [
  ⟨(some 44), .move (.tmp 7), none⟩,
  ⟨(some 45), .move (.tmp 1), none⟩,
  ⟨(some 46), .bin .sub (.tmp 44) (.tmp 45), none⟩,
  ⟨(some 47), .bin .geq (.tmp 46) (.const (.int .i64 (.ofNat 2))), none⟩] none
def f137r12 : ICode := .region [
  ⟨(some 48), .move (.tmp 7), none⟩,
  ⟨(some 49), .bin .sub (.tmp 48) (.const (.int .i64 (.ofNat 1))), none⟩,
  ⟨(some 9), .move (.tmp 49), none⟩] none
def f137r13 : ICode := .region [
  ⟨(some 50), .move (.tmp 9), none⟩,
  ⟨(some 51), .bin .geq (.tmp 50) (.const (.int .i64 (.ofNat 1))), none⟩] none
def f137r14 : ICode := .region [
  ⟨(some 54), .fieldAddr 0 (.tmp 3), none⟩,
  ⟨(some 55), .load1 (.tmp 54), none⟩,
  ⟨(some 56), .move (.tmp 9), none⟩,
  ⟨(some 57), .move (.tmp 9), none⟩,
  ⟨(some 58), .bin .sub (.tmp 57) (.const (.int .i64 (.ofNat 1))), none⟩,
  ⟨(some 59), .callv (.tmp 55) [(.tmp 56), (.tmp 58)], none⟩,
  ⟨(some 60), .un .not (.tmp 59), none⟩] none
def f137r15 : ICode := .region [
  ⟨(some 61), .fieldAddr 1 (.tmp 3), none⟩,
  ⟨(some 62), .load1 (.tmp 61), none⟩,
  ⟨(some 63), .move (.tmp 9), none⟩,
  ⟨(some 64), .move (.tmp 9), none⟩,
  ⟨(some 65), .bin .sub (.tmp 64) (.const (.int .i64 (.ofNat 1))), none⟩,
  ⟨(some 66), .callv (.tmp 62) [(.tmp 63), (.tmp 65)], none⟩] none
def f137r16 : ICode := .region [
  ⟨(some 52), .move (.tmp 9), none⟩,
  ⟨(some 53), .bin .sub (.tmp 52) (.const (.int .i64 (.ofNat 1))), none⟩,
  ⟨(some 9), .move (.tmp 53), none⟩] none
def f137r17 : ICode := .region [
  ⟨(some 67), .move (.tmp 2), none⟩,
  ⟨(some 68), .move (.tmp 7), none⟩,
  ⟨(some 69), .bin .sub (.tmp 67) (.tmp 68), none⟩,
  ⟨(some 70), .bin .geq (.tmp 69) (.const (.int .i64 (.ofNat 2))), none⟩] none
def f137r18 : ICode := .region [
  ⟨(some 71), .move (.tmp 7), none⟩,
  ⟨(some 72), .bin .add (.tmp 71) (.const (.int .i64 (.ofNat 1))), none⟩,
  ⟨(some 10), .move (.tmp 72), none⟩] none
def f137r19 : ICode := .region [
  ⟨(some 73), .move (.tmp 10), none⟩,
  ⟨(some 74), .move (.tmp 2), none⟩,
  ⟨(some 75), .bin .lss (.tmp 73) (.tmp 74), none⟩] none
def f137r20 : ICode := .region [
  ⟨(some 78), .fieldAddr 0 (.tmp 3), none⟩,
  ⟨(some 79), .load1 (.tmp 78), none⟩,
  ⟨(some 80), .move (.tmp 10), none⟩,
  ⟨(some 81), .move (.tmp 10), none⟩,
  ⟨(some 82), .bin .sub (.tmp 81) (.const (.int .i64 (.ofNat 1))), none⟩,
  ⟨(some 83), .callv (.tmp 79) [(.tmp 80), (.tmp 82)], none⟩,
  ⟨(some 84), .un .not (.tmp 83), none⟩] none
def f137r21 : ICode := .region [
  ⟨(some 85), .fieldAddr 1 (.tmp 3), none⟩,
  ⟨(some 86), .load1 (.tmp 85), none⟩,
  ⟨(some 87), .move (.tmp 10), none⟩,
  ⟨(some 88), .move (.tmp 10), none⟩,
  ⟨(some 89), .bin .sub (.tmp 88) (.const (.int .i64 (.ofNat 1))), none⟩,
  ⟨(some 90), .callv (.tmp 86) [(.tmp 87), (.tmp 89)], none⟩] none
def f137r22 : ICode := .region [
  ⟨(some 76), .move (.tmp 10), none⟩,
  ⟨(some 77), .bin .add (.tmp 76) (.const (.int .i64 (.ofNat 1))), none⟩,
  ⟨(some 10), .move (.tmp 77), none⟩] none
def f137r23 : ICode := .region [
  ⟨(some 15), .move (.tmp 8), none⟩,
  ⟨(some 16), .bin .add (.tmp 15) (.const (.int .i64 (.ofNat 1))), none⟩,
  ⟨(some 8), .move (.tmp 16), none⟩] none
def f137r24 : ICode := .region [
  ⟨(some 6), .move (.const (.bool false)), none⟩] none
/- sort.partialInsertionSort_func -/
def f137 : IFn := ⟨91, [.inl 6], (.seq f137r0 (.seq f137r1 (.seq (.seq f137r2 (.block 0 (.loop (.seq (.seq f137r3 (.cond (.tmp 14) .skip (.exit 0))) (.seq (.block 1 (.seq (.block 2 (.loop (.seq (.seq f137r4 (.cond (.tmp 28) .skip (.exit 2))) (.block 3 f137r5)))) (.seq (.seq f137r6 (.cond (.tmp 33) (.seq f137r7 .ret) .skip)) (.seq (.seq f137r8 (.cond (.tmp 37) (.seq f137r9 .ret) .skip)) (.seq f137r10 (.seq (.seq f137r11 (.cond (.tmp 47) (.seq f137r12 (.block 4 (.loop (.seq (.seq f137r13 (.cond (.tmp 51) .skip (.exit 4))) (.seq (.block 5 (.seq (.seq f137r14 (.cond (.tmp 60) (.exit 4) .skip)) f137r15)) f137r16))))) .skip)) (.seq f137r17 (.cond (.tmp 70) (.seq f137r18 (.block 6 (.loop (.seq (.seq f137r19 (.cond (.tmp 75) .skip (.exit 6))) (.seq (.block 7 (.seq (.seq f137r20 (.cond (.tmp 84) (.exit 6) .skip)) f137r21)) f137r22))))) .skip)))))))) f137r23))))) (.seq f137r24 .ret))))⟩
def f138r0 : ICode := .region [
  ⟨(some 4), .box 160 (.tmp 0), none⟩,
  ⟨(some 8), .move (.const (.int .i64 (.ofNat 0))), none⟩] none
def f138r1 : ICode := .region [
  ⟨(some 11), .fieldAddr 1 (.tmp 4), none⟩,
  ⟨(some 12), .load1 (.tmp 11), none⟩,
  ⟨(some 13), .move (.tmp 1), none⟩,
  ⟨(some 14), .move (.tmp 3), none⟩,
  ⟨(some 15), .callv (.tmp 12) [(.tmp 13), (.tmp 14)], none⟩] none
def f138r2 : ICode := .region [
  ⟨(some 16), .move (.tmp 1), none⟩,
  ⟨(some 17), .bin .add (.tmp 16) (.const (.int .i64 (.ofNat 1))), none⟩,
  ⟨(some 18), .move (.tmp 2), none⟩,
  ⟨(some 19), .bin .sub (.tmp 18) (.const (.int .i64 (.ofNat 1))), none⟩,
  ⟨(some 9), .move (.tmp 17), none⟩,
  ⟨(some 10), .move (.tmp 19), none⟩] none
def f138r3 : ICode := .region [
  ⟨(some 20), .move (.tmp 9), none⟩,
  ⟨(some 21), .move (.tmp 10), none⟩,
  ⟨(some 22), .bin .leq (.tmp 20) (.tmp 21), none⟩,
  ⟨(some 23), .move (.tmp 22), none⟩,
  ⟨(some 24), .fieldAddr 0 (.tmp 4), (some ((some 23), true))⟩,
  ⟨(some 25), .load1 (.tmp 24), (some ((some 23), true))⟩,
  ⟨(some 26), .move (.tmp 1), (some ((some 23), true))⟩,
  ⟨(some 27), .move (.tmp 9), (some ((some 23), true))⟩,
  ⟨(some 28), .callv (.tmp 25) [(.tmp 26), (.tmp 27)], (some ((some 23), true))⟩,
  ⟨(some 29), .un .not (.tmp 28), (some ((some 23), true))⟩,
  ⟨(some 30), .pick (.tmp 23) (.tmp 29) (.const (.bool false)), none⟩] none
def f138r4 : ICode := .region [
  ⟨(some 31), .move (.tmp 9), none⟩,
  ⟨(some 32), .bin .add (.tmp 31) (.const (.int .i64 (.ofNat 1))), none⟩,
  ⟨(some 9), .move (.tmp 32), none⟩] none
def f138r5 : ICode := .region [
  ⟨(some 33), .move (.tmp 9), none⟩,
  ⟨(some 34), .move (.tmp 10), none⟩,
  ⟨(some 35), .bin .leq (.tmp 33) (.tmp 34), none⟩,
  ⟨(some 36), .move (.tmp 35), none⟩,
  ⟨(some 37), .fieldAddr 0 (.tmp 4), (some ((some 36), true))⟩,
  ⟨(some 38), .load1 (.tmp 37), (some ((some 36), true))⟩,
  ⟨(some 39), .move (.tmp 1), (some ((some 36), true))⟩,
  ⟨(some 40), .move (.tmp 10), (some ((some 36), true))⟩,
  ⟨(some 41), .callv (.tmp 38) [(.tmp 39), (.tmp 40)], (some ((some 36), true))⟩,
  ⟨(some 42), .pick (.tmp 36) (.tmp 41) (.const (.bool false)), none⟩] none
def f138r6 : ICode := .region [
  ⟨(some 43), .move (.tmp 10), none⟩,
  ⟨(some 44), .bin .sub (.tmp 43) (.const (.int .i64 (.ofNat 1))), none⟩,
  ⟨(some 10), .move (.tmp 44), none⟩] none
def f138r7 : ICode := .region [
  ⟨(some 45), .move (.tmp 9), none⟩,
  ⟨(some 46), .move (.tmp 10), none⟩,
  ⟨(some 47), .bin .gtr (.tmp 45) (.tmp 46), none⟩] none
def f138r8 : ICode := .region [
  ⟨(some 48), .fieldAddr 1 (.tmp 4), none⟩,
  ⟨(some 49), .load1 (.tmp 48), none⟩,
  ⟨(some 50), .move (.tmp 9), none⟩,
  ⟨(some 51), .move (.tmp 10), none⟩,
  ⟨(some 52), .callv (.tmp 49) [(.tmp 50), (.tmp 51)], none⟩] none
def f138r9 : ICode := .region [
  ⟨(some 53), .move (.tmp 9), none⟩,
  ⟨(some 54), .bin .add (.tmp 53) (.const (.int .i64 (.ofNat 1))), none⟩,
  ⟨(some 9), .move (.tmp 54), none⟩] none
def f138r10 : ICode := .region [
  ⟨(some 55), .move (.tmp 10), none⟩,
  ⟨(some 56), .bin .sub (.tmp 55) (.const (.int .i64 (.ofNat 1))), none⟩,
  ⟨(some 10), .move (.tmp 56), none⟩] none
def f138r11 : ICode := .region [
  ⟨(some 57), .move (.tmp 9), none⟩,
  ⟨(some 8), .move (.tmp 57), none⟩] none
/- sort.partitionEqual_func -/
def f138 : IFn := ⟨58, [.inl 8], (.seq f138r0 (.seq f138r1 (.seq f138r2 (.seq (.block 0 (.loop (.block 1 (.seq (.block 2 (.loop (.seq (.seq f138r3 (.cond (.tmp 30) .skip (.exit 2))) (.block 3 f138r4)))) (.seq (.block 4 (.loop (.seq (.seq f138r5 (.cond (.tmp 42) .skip (.exit 4))) (.block 5 f138r6)))) (.seq (.seq f138r7 (.cond (.tmp 47) (.exit 0) .skip)) (.seq f138r8 (.seq f138r9 f138r10)))))))) (.seq f138r11 .ret)))))⟩
def f139r0 : ICode := .region [
  ⟨(some 4), .box 160 (.tmp 0), none⟩,
  ⟨(some 8), .move (.const (.int .i64 (.ofNat 0))), none⟩,
  ⟨(some 9), .move (.const (.bool false)), none⟩] none
def f139r1 : ICode := .region [
  ⟨(some 12), .fieldAddr 1 (.tmp 4), none⟩,
  ⟨(some 13), .load1 (.tmp 12), none⟩,
  ⟨(some 14), .move (.tmp 1), none⟩,
  ⟨(some 15), .move (.tmp 3), none⟩,
  ⟨(some 16), .callv (.tmp 13) [(.tmp 14), (.tmp 15)], none⟩] none
def f139r2 : ICode := .region [
  ⟨(some 17), .move (.tmp 1), none⟩,
  ⟨(some 18), .bin .add (.tmp 17) (.const (.int .i64 (.ofNat 1))), none⟩,
  ⟨(some 19), .move (.tmp 2), none⟩,
  ⟨(some 20), .bin .sub (.tmp 19) (.const (.int .i64 (.ofNat 1))), none⟩,
  ⟨(some 10), .move (.tmp 18), none⟩,
  ⟨(some 11), .move (.tmp 20), none⟩] none
def f139r3 : ICode := .region [
  ⟨(some 21), .move (.tmp 10), none⟩,
  ⟨(some 22), .move (.tmp 11), none⟩,
  ⟨(some 23), .bin .leq (.tmp 21) (.tmp 22), none⟩,
  ⟨(some 24), .move (.tmp 23), none⟩,
  ⟨(some 25), .fieldAddr 0 (.tmp 4), (some ((some 24), true))⟩,
  ⟨(some 26), .load1 (.tmp 25), (some ((some 24), true))⟩,
  ⟨(some 27), .move (.tmp 10), (some ((some 24), true))⟩,
  ⟨(some 28), .move (.tmp 1), (some ((some 24), true))⟩,
  ⟨(some 29), .callv (.tmp 26) [(.tmp 27), (.tmp 28)], (some ((some 24), true))⟩,
  ⟨(some 30), .pick (.tmp 24) (.tmp 29) (.const (.bool false)), none⟩] none
def f139r4 : ICode := .region [
  ⟨(some 31), .move (.tmp 10), none⟩,
  ⟨(some 32), .bin .add (.tmp 31) (.const (.int .i64 (.ofNat 1))), none⟩,
  ⟨(some 10), .move (.tmp 32), none⟩] none
def f139r5 : ICode := .region [
  ⟨(some 33), .move (.tmp 10), none⟩,
  ⟨(some 34), .move (.tmp 11), none⟩,
  ⟨(some 35), .bin .leq (.tmp 33) (.tmp 34), none⟩,
  ⟨(some 36), .move (.tmp 35), none⟩,
  ⟨(some 37), .fieldAddr 0 (.tmp 4), (some ((some 36), true))⟩,
  ⟨(some 38), .load1 (.tmp 37), (some ((some 36), true))⟩,
  ⟨(some 39), .move (.tmp 11), (some ((some 36), true))⟩,
  ⟨(some 40), .move (.tmp 1), (some ((some 36), true))⟩,
  ⟨(some 41), .callv (.tmp 38) [(.tmp 39), (.tmp 40)], (some ((some 36), true))⟩,
  ⟨(some 42), .un .not (.tmp 41), (some ((some 36), true))⟩,
  ⟨(some 43), .pick (.tmp 36) (.tmp 42) (.const (.bool false)), none⟩] none
def f139r6 : ICode := .region [
  ⟨(some 44), .move (.tmp 11), none⟩,
  ⟨(some 45), .bin .sub (.tmp 44) (.const (.int .i64 (.ofNat 1))), none⟩,
  ⟨(some 11), .move (.tmp 45), none⟩] none
def f139r7 : ICode := .region [
  ⟨(some 46), .move (.tmp 10), none⟩,
  ⟨(some 47), .move (.tmp 11), none⟩,
  ⟨(some 48), .bin .gtr (.tmp 46) (.tmp 47), none⟩] none
def f139r8 : ICode := .region [
  ⟨(some 49), .fieldAddr 1 (.tmp 4), none⟩,
  ⟨(some 50), .load1 (.tmp 49), none⟩,
  ⟨(some 51), .move (.tmp 11), none⟩,
  ⟨(some 52), .move (.tmp 1), none⟩,
  ⟨(some 53), .callv (.tmp 50) [(.tmp 51), (.tmp 52)], none⟩] none
def f139r9 : ICode := .region [
  ⟨(some 54), .move (.tmp 11), none⟩,
  ⟨(some 8), .move (.tmp 54), none⟩,
  ⟨(some 9), .move (.const (.bool true)), none⟩] none
def f139r10 : ICode := .region [
  ⟨(some 55), .fieldAddr 1 (.tmp 4), none⟩,
  ⟨(some 56), .load1 (.tmp 55), none⟩,
  ⟨(some 57), .move (.tmp 10), none⟩,
  ⟨(some 58), .move (.tmp 11), none⟩,
  ⟨(some 59), .callv (.tmp 56) [(.tmp 57), (.tmp 58)], none⟩] none
def f139r11 : ICode := .region [
  ⟨(some 60), .move (.tmp 10), none⟩,
  ⟨(some 61), .bin .add (.tmp 60) (.const (.int .i64 (.ofNat 1))), none⟩,
  ⟨(some 10), .move (.tmp 61), none⟩] none
def f139r12 : ICode := .region [
  ⟨(some 62), .move (.tmp 11), none⟩,
  ⟨(some 63), .bin .sub (.tmp 62) (.const (.int .i64 (.ofNat 1))), none⟩,
  ⟨(some 11), .move (.tmp 63), none⟩] none
def f139r13 : ICode := .region [
  ⟨(some 64), .move (.tmp 10), none⟩,
  ⟨(some 65), .move (.tmp 11), none⟩,
  ⟨(some 66), .bin .leq (.tmp 64) (.tmp 65), none⟩,
  ⟨(some 67), .move (.tmp 66), none⟩,
  ⟨(some 68), .fieldAddr 0 (.tmp 4), (some ((some 67), true))⟩,
  ⟨(some 69), .load1 (.tmp 68), (some ((some 67), true))⟩,
  ⟨(some 70), .move (.tmp 10), (some ((some 67), true))⟩,
  ⟨(some 71), .move (.tmp 1), (some ((some 67), true))⟩,
  ⟨(some 72), .callv (.tmp 69) [(.tmp 70), (.tmp 71)], (some ((some 67), true))⟩,
  ⟨(some 73), .pick (.tmp 67) (.tmp 72) (.const (.bool false)), none⟩] none
def f139r14 : ICode := .region [
  ⟨(some 74), .move (.tmp 10), none⟩,
  ⟨(some 75), .bin .add (.tmp 74) (.const (.int .i64 (.ofNat 1))), none⟩,
  ⟨(some 10), .move (.tmp 75), none⟩] none
def f139r15 : ICode := .region [
  ⟨(some 76), .move (.tmp 10), none⟩,
  ⟨(some 77), .move (.tmp 11), none⟩,
  ⟨(some 78), .bin .leq (.tmp 76) (.tmp 77), none⟩,
  ⟨(some 79), .move (.tmp 78), none⟩,
  ⟨(some 80), .fieldAddr 0 (.tmp 4), (some ((some 79), true))⟩,
  ⟨(some 81), .load1 (.tmp 80), (some ((some 79), true))⟩,
  ⟨(some 82), .move (.tmp 11), (some ((some 79), true))⟩,
  ⟨(some 83), .move (.tmp 1), (some ((some 79), true))⟩,
  ⟨(some 84), .callv (.tmp 81) [(.tmp 82), (.tmp 83)], (some ((some 79), true))⟩,
  ⟨(some 85), .un .not (.tmp 84), (some ((some 79), true))⟩,
  ⟨(some 86), .pick (.tmp 79) (.tmp 85) (.const (.bool false)), none⟩] none
def f139r16 : ICode := .region [
  ⟨(some 87), .move (.tmp 11), none⟩,
  ⟨(some 88), .bin .sub (.tmp 87) (.const (.int .i64 (.ofNat 1))), none⟩,
  ⟨(some 11), .move (.tmp 88), none⟩] none
def f139r17 : ICode := .region [
  ⟨(some 89), .move (.tmp 10), none⟩,
  ⟨(some 90), .move (.tmp 11), none⟩,
  ⟨(some 91), .bin .gtr (.tmp 89) (.tmp 90), none⟩] none
def f139r18 : ICode := .region [
  ⟨(some 92), .fieldAddr 1 (.tmp 4), none⟩,
  ⟨(some 93), .load1 (.tmp 92), none⟩,
  ⟨(some 94), .move (.tmp 10), none⟩,
  ⟨(some 95), .move (.tmp 11), none⟩,
  ⟨(some 96), .callv (.tmp 93) [(.tmp 94), (.tmp 95)], none⟩] none
def f139r19 : ICode := .region [
  ⟨(some 97), .move (.tmp 10), none⟩,
  ⟨(some 98), .bin .add (.tmp 97) (.const (.int .i64 (.ofNat 1))), none⟩,
  ⟨(some 10), .move (.tmp 98), none⟩] none
def f139r20 : ICode := .region [
  ⟨(some 99), .move (.tmp 11), none⟩,
  ⟨(some 100), .bin .sub (.tmp 99) (.const (.int .i64 (.ofNat 1))), none⟩,
  ⟨(some 11), .move (.tmp 100), none⟩] none
def f139r21 : ICode := .region [
  ⟨(some 101), .fieldAddr 1 (.tmp 4), none⟩,
  ⟨(some 102), .load1 (.tmp 101), none⟩,
  ⟨(some 103), .move (.tmp 11), none⟩,
  ⟨(some 104), .move (.tmp 1), none⟩,
  ⟨(some 105), .callv (.tmp 102) [(.tmp 103), (.tmp 104)], none⟩] none
def f139r22 : ICode := .region [
  ⟨(some 106), .move (.tmp 11), none⟩,
  ⟨(some 8), .move (.tmp 106), none⟩,
  ⟨(some 9), .move (.const (.bool false)), none⟩] none
/- sort.partition_func -/
def f139 : IFn := ⟨107, [.inl 8, .inl 9], (.seq f139r0 (.seq f139r1 (.seq f139r2 (.seq (.block 0 (.loop (.seq (.seq f139r3 (.cond (.tmp 30) .skip (.exit 0))) (.block 1 f139r4)))) (.seq (.block 2 (.loop (.seq (.seq f139r5 (.cond (.tmp 43) .skip (.exit 2))) (.block 3 f139r6)))) (.seq (.seq f139r7 (.cond (.tmp 48) (.seq f139r8 (.seq f139r9 .ret)) .skip)) (.seq f139r10 (.seq f139r11 (.seq f139r12 (.seq (.block 4 (.loop (.block 5 (.seq (.block 6 (.loop (.seq (.seq f139r13 (.cond (.tmp 73) .skip (.exit 6))) (.block 7 f139r14)))) (.seq (.block 8 (.loop (.seq (.seq f139r15 (.cond (.tmp 86) .skip (.exit 8))) (.block 9 f139r16)))) (.seq (.seq f139r17 (.cond (.tmp 91) (.exit 4) .skip)) (.seq f139r18 (.seq f139r19 f139r20)))))))) (.seq f139r21 (.seq f139r22 .ret))))))))))))⟩
def f140r0 : ICode := .region [
  ⟨(some 2), .move (.const (.int .i64 (.ofNat 0))), none⟩] none
def f140r1 : ICode := .region [
  ⟨(some 3), .move (.tmp 0), none⟩,
  ⟨(some 4), .bin .mul (.tmp 3) (.const (.int .i64 (.ofNat 78913))), none⟩,
  ⟨(some 5), .bin .shr (.tmp 4) (.const (.int .u64 (.ofNat 18))), none⟩,
  ⟨(some 2), .move (.tmp 5), none⟩] none
/- internal/strconv.log10Pow2 -/
def f140 : IFn := ⟨6, [.inl 2], (.seq f140r0 (.seq f140r1 .ret))⟩
def f141r0 : ICode := .region [
  ⟨(some 2), .move (.const (.int .i64 (.ofNat 0))), none⟩] none
def f141r1 : ICode := .region [
  ⟨(some 3), .move (.tmp 0), none⟩] none
def f141r2 : ICode := .region [
  ⟨(some 2), .move (.const (.int .i64 (.ofNat 1))), none⟩] none
def f141r3 : ICode := .region [
  ⟨(some 2), .move (.const (.int .i64 (.ofNat 0))), none⟩] none
/- internal/strconv.bool2[int] -/
def f141 : IFn := ⟨4, [.inl 2], (.seq f141r0 (.seq (.seq f141r1 (.cond (.tmp 3) (.seq f141r2 .ret) .skip)) (.seq f141r3 .ret)))⟩
def f142r0 : ICode := .region [
  ⟨(some 2), .move (.const (.bool false)), none⟩] none
def f142r1 : ICode := .region [
  ⟨(some 3), .move (.tmp 0), none⟩,
  ⟨(some 4), .move (.tmp 0), none⟩,
  ⟨(some 5), .bin .sub (.tmp 4) (.const (.int .i64 (.ofNat 1))), none⟩,
  ⟨(some 6), .bin .and (.tmp 3) (.tmp 5), none⟩,
  ⟨(some 7), .bin .eql (.tmp 6) (.const (.int .i64 (.ofNat 0))), none⟩,
  ⟨(some 2), .move (.tmp 7), none⟩] none
/- internal/strconv.isPowerOfTwo -/
def f142 : IFn := ⟨8, [.inl 2], (.seq f142r0 (.seq f142r1 .ret))⟩
def f143r0 : ICode := .region [
  ⟨(some 2), .move (.const (.int .i64 (.ofNat 0))), none⟩] none
def f143r1 : ICode := .region [
  ⟨(some 3), .move (.tmp 0), none⟩,
  ⟨(some 4), .conv .u32 (.tmp 3), none⟩,
  ⟨(some 5), .call 154 [(.tmp 4)], none⟩,
  ⟨(some 2), .move (.tmp 5), none⟩] none
def f143r2 : ICode := .region [
  ⟨(some 6), .move (.tmp 0), none⟩,
  ⟨(some 7), .call 155 [(.tmp 6)], none⟩,
  ⟨(some 2), .move (.tmp 7), none⟩] none
/- math/bits.TrailingZeros -/
def f143 : IFn := ⟨8, [.inl 2], (.seq f143r0 (.seq (.cond (.const (.bool false)) (.seq f143r1 .ret) .skip) (.seq f143r2 .ret)))⟩
def f144r0 : ICode := .region [
  ⟨(some 4), .move (.const (.int .i64 (.ofNat 0))), none⟩] none
def f144r1 : ICode := .region [
  ⟨(some 6), .move (.tmp 0), none⟩,
  ⟨(some 7), .len 1 (.tmp 6), none⟩,
  ⟨(some 8), .move (.const (.int .i64 (.ofNat 0))), none⟩] none
def f144r2 : ICode := .region [
  ⟨(some 9), .bin .lss (.tmp 8) (.tmp 7), none⟩] none
def f144r3 : ICode := .region [
  ⟨(some 10), .move (.tmp 8), none⟩,
  ⟨(some 5), .move (.tmp 10), none⟩] none
def f144r4 : ICode := .region [
  ⟨(some 11), .move (.tmp 1), none⟩,
  ⟨(some 12), .move (.tmp 0), none⟩,
  ⟨(some 13), .move (.tmp 5), none⟩,
  ⟨(some 14), .indexSl 1 (.tmp 12) (.tmp 13), none⟩,
  ⟨(some 15), .load1 (.tmp 14), none⟩,
  ⟨(some 16), .bin .eql (.tmp 11) (.tmp 15), none⟩] none
def f144r5 : ICode := .region [
  ⟨(some 17), .move (.tmp 5), none⟩,
  ⟨(some 4), .move (.tmp 17), none⟩] none
def f144r6 : ICode := .region [
  ⟨(some 18), .bin .add (.tmp 8) (.const (.int .i64 (.ofNat 1))), none⟩,
  ⟨(some 8), .move (.tmp 18), none⟩] none
def f144r7 : ICode := .region [
  ⟨(some 4), .move (.const (.int .i64 (.negSucc 0))), none⟩] none
/- slices.Index[[]string,string] -/
def f144 : IFn := ⟨19, [.inl 4], (.seq f144r0 (.seq (.seq f144r1 (.block 0 (.loop (.seq f144r2 (.seq (.cond (.tmp 9) .skip (.exit 0)) (.seq (.block 1 (.seq f144r3 (.seq f144r4 (.cond (.tmp 16) (.seq f144r5 .ret) .skip)))) f144r6)))))) (.seq f144r7 .ret)))⟩
def f145r0 : ICode := .region [
  ⟨(some 0), .move (.const (.slice none 0 0)), none⟩] none
def f145r1 : ICode := .region [
  ⟨(some 1), .build [(.int .i64 (.ofNat 0)), (.int .i64 (.ofNat 0))] [(0, 1, (.const (.int .i64 (.ofNat 65)))), (1, 1, (.const (.int .i64 (.ofNat 90))))], none⟩,
  ⟨(some 2), .build [(.int .i64 (.ofNat 0)), (.int .i64 (.ofNat 0))] [(0, 1, (.const (.int .i64 (.ofNat 192)))), (1, 1, (.const (.int .i64 (.ofNat 214))))], none⟩,
  ⟨(some 3), .build [(.int .i64 (.ofNat 0)), (.int .i64 (.ofNat 0))] [(0, 1, (.const (.int .i64 (.ofNat 216)))), (1, 1, (.const (.int .i64 (.ofNat 222))))], none⟩,
  ⟨(some 4), .build [(.int .i64 (.ofNat 0)), (.int .i64 (.ofNat 0))] [(0, 1, (.const (.int .i64 (.ofNat 913)))), (1, 1, (.const (.int .i64 (.ofNat 929))))], none⟩,
  ⟨(some 5), .build [(.int .i64 (.ofNat 0)), (.int .i64 (.ofNat 0))] [(0, 1, (.const (.int .i64 (.ofNat 931)))), (1, 1, (.const (.int .i64 (.ofNat 937))))], none⟩,
  ⟨(some 6), .build [(.int .i64 (.ofNat 0)), (.int .i64 (.ofNat 0))] [(0, 1, (.const (.int .i64 (.ofNat 1040)))), (1, 1, (.const (.int .i64 (.ofNat 1071))))], none⟩,
  ⟨(some 7), .build [(.int .i64 (.ofNat 0)), (.int .i64 (.ofNat 0))] [(0, 1, (.const (.int .i64 (.ofNat 66560)))), (1, 1, (.const (.int .i64 (.ofNat 66599))))], none⟩,
  ⟨(some 8), .buildSlice 198 7 [(.int .i64 (.ofNat 0)), (.int .i64 (.ofNat 0)), (.int .i64 (.ofNat 0)), (.int .i64 (.ofNat 0)), (.int .i64 (.ofNat 0)), (.int .i64 (.ofNat 0)), (.int .i64 (.ofNat 0)), (.int .i64 (.ofNat 0)), (.int .i64 (.ofNat 0)), (.int .i64 (.ofNat 0)), (.int .i64 (.ofNat 0)), (.int .i64 (.ofNat 0)), (.int .i64 (.ofNat 0)), (.int .i64 (.ofNat 0))] [(0, 2, (.tmp 1)), (2, 2, (.tmp 2)), (4, 2, (.tmp 3)), (6, 2, (.tmp 4)), (8, 2, (.tmp 5)), (10, 2, (.tmp 6)), (12, 2, (.tmp 7))], none⟩,
  ⟨(some 9), .build [(.string ⟨⟨[]⟩⟩), (.slice none 0 0)] [(0, 1, (.const (.string ⟨⟨[76, 117]⟩⟩))), (1, 1, (.tmp 8))], none⟩,
  ⟨(some 10), .build [(.int .i64 (.ofNat 0)), (.int .i64 (.ofNat 0))] [(0, 1, (.const (.int .i64 (.ofNat 97)))), (1, 1, (.const (.int .i64 (.ofNat 122))))], none⟩,
  ⟨(some 11), .build [(.int .i64 (.ofNat 0)), (.int .i64 (.ofNat 0))] [(0, 1, (.const (.int .i64 (.ofNat 181)))), (1, 1, (.const (.int .i64 (.ofNat 181))))], none⟩,
  ⟨(some 12), .build [(.int .i64 (.ofNat 0)), (.int .i64 (.ofNat 0))] [(0, 1, (.const (.int .i64 (.ofNat 223)))), (1, 1, (.const (.int .i64 (.ofNat 246))))], none⟩,
  ⟨(some 13), .build [(.int .i64 (.ofNat 0)), (.int .i64 (.ofNat 0))] [(0, 1, (.const (.int .i64 (.ofNat 248)))), (1, 1, (.const (.int .i64 (.ofNat 255))))], none⟩,
  ⟨(some 14), .build [(.int .i64 (.ofNat 0)), (.int .i64 (.ofNat 0))] [(0, 1, (.const (.int .i64 (.ofNat 383)))), (1, 1, (.const (.int .i64 (.ofNat 383))))], none⟩,
  ⟨(some 15), .build [(.int .i64 (.ofNat 0)), (.int .i64 (.ofNat 0))] [(0, 1, (.const (.int .i64 (.ofNat 945)))), (1, 1, (.const (.int .i64 (.ofNat 969))))], none⟩,
  ⟨(some 16), .build [(.int .i64 (.ofNat 0)), (.int .i64 (.ofNat 0))] [(0, 1, (.const (.int .i64 (.ofNat 1072)))), (1, 1, (.const (.int .i64 (.ofNat 1103))))], none⟩,
  ⟨(some 17), .build [(.int .i64 (.ofNat 0)), (.int .i64 (.ofNat 0))] [(0, 1, (.const (.int .i64 (.ofNat 66600)))), (1, 1, (.const (.int .i64 (.ofNat 66639))))], none⟩,
  ⟨(some 18), .buildSlice 198 8 [(.int .i64 (.ofNat 0)), (.int .i64 (.ofNat 0)), (.int .i64 (.ofNat 0)), (.int .i64 (.ofNat 0)), (.int .i64 (.ofNat 0)), (.int .i64 (.ofNat 0)), (.int .i64 (.ofNat 0)), (.int .i64 (.ofNat 0)), (.int .i64 (.ofNat 0)), (.int .i64 (.ofNat 0)), (.int .i64 (.ofNat 0)), (.int .i64 (.ofNat 0)), (.int .i64 (.ofNat 0)), (.int .i64 (.ofNat 0)), (.int .i64 (.ofNat 0)), (.int .i64 (.ofNat 0))] [(0, 2, (.tmp 10)), (2, 2, (.tmp 11)), (4, 2, (.tmp 12)), (6, 2, (.tmp 13)), (8, 2, (.tmp 14)), (10, 2, (.tmp 15)), (12, 2, (.tmp 16)), (14, 2, (.tmp 17))], none⟩,
  ⟨(some 19), .build [(.string ⟨⟨[]⟩⟩), (.slice none 0 0)] [(0, 1, (.const (.string ⟨⟨[76, 108]⟩⟩))), (1, 1, (.tmp 18))], none⟩,
  ⟨(some 20), .build [(.int .i64 (.ofNat 0)), (.int .i64 (.ofNat 0))] [(0, 1, (.const (.int .i64 (.ofNat 170)))), (1, 1, (.const (.int .i64 (.ofNat 170))))], none⟩,
  ⟨(some 21), .build [(.int .i64 (.ofNat 0)), (.int .i64 (.ofNat 0))] [(0, 1, (.const (.int .i64 (.ofNat 186)))), (1, 1, (.const (.int .i64 (.ofNat 186))))], none⟩,
  ⟨(some 22), .build [(.int .i64 (.ofNat 0)), (.int .i64 (.ofNat 0))] [(0, 1, (.const (.int .i64 (.ofNat 1488)))), (1, 1, (.const (.int .i64 (.ofNat 1514))))], none⟩,
  ⟨(some 23), .build [(.int .i64 (.ofNat 0)), (.int .i64 (.ofNat 0))] [(0, 1, (.const (.int .i64 (.ofNat 12353)))), (1, 1, (.const (.int .i64 (.ofNat 12438))))], none⟩,
  ⟨(some 24), .build [(.int .i64 (.ofNat 0)), (.int .i64 (.ofNat 0))] [(0, 1, (.const (.int .i64 (.ofNat 12449)))), (1, 1, (.const (.int .i64 (.ofNat 12538))))], none⟩,
  ⟨(some 25), .build [(.int .i64 (.ofNat 0)), (.int .i64 (.ofNat 0))] [(0, 1, (.const (.int .i64 (.ofNat 19968)))), (1, 1, (.const (.int .i64 (.ofNat 40959))))], none⟩,
  ⟨(some 26), .buildSlice 198 6 [(.int .i64 (.ofNat 0)), (.int .i64 (.ofNat 0)), (.int .i64 (.ofNat 0)), (.int .i64 (.ofNat 0)), (.int .i64 (.ofNat 0)), (.int .i64 (.ofNat 0)), (.int .i64 (.ofNat 0)), (.int .i64 (.ofNat 0)), (.int .i64 (.ofNat 0)), (.int .i64 (.ofNat 0)), (.int .i64 (.ofNat 0)), (.int .i64 (.ofNat 0))] [(0, 2, (.tmp 20)), (2, 2, (.tmp 21)), (4, 2, (.tmp 22)), (6, 2, (.tmp 23)), (8, 2, (.tmp 24)), (10, 2, (.tmp 25))], none⟩,
  ⟨(some 27), .build [(.string ⟨⟨[]⟩⟩), (.slice none 0 0)] [(0, 1, (.const (.string ⟨⟨[76, 111]⟩⟩))), (1, 1, (.tmp 26))], none⟩,
  ⟨(some 28), .build [(.int .i64 (.ofNat 0)), (.int .i64 (.ofNat 0))] [(0, 1, (.const (.int .i64 (.ofNat 48)))), (1, 1, (.const (.int .i64 (.ofNat 57))))], none⟩,
  ⟨(some 29), .build [(.int .i64 (.ofNat 0)), (.int .i64 (.ofNat 0))] [(0, 1, (.const (.int .i64 (.ofNat 1632)))), (1, 1, (.const (.int .i64 (.ofNat 1641))))], none⟩,
  ⟨(some 30), .build [(.int .i64 (.ofNat 0)), (.int .i64 (.ofNat 0))] [(0, 1, (.const (.int .i64 (.ofNat 2406)))), (1, 1, (.const (.int .i64 (.ofNat 2415))))], none⟩,
  ⟨(some 31), .build [(.int .i64 (.ofNat 0)), (.int .i64 (.ofNat 0))] [(0, 1, (.const (.int .i64 (.ofNat 65296)))), (1, 1, (.const (.int .i64 (.ofNat 65305))))], none⟩,
  ⟨(some 32), .buildSlice 198 4 [(.int .i64 (.ofNat 0)), (.int .i64 (.ofNat 0)), (.int .i64 (.ofNat 0)), (.int .i64 (.ofNat 0)), (.int .i64 (.ofNat 0)), (.int .i64 (.ofNat 0)), (.int .i64 (.ofNat 0)), (.int .i64 (.ofNat 0))] [(0, 2, (.tmp 28)), (2, 2, (.tmp 29)), (4, 2, (.tmp 30)), (6, 2, (.tmp 31))], none⟩,
  ⟨(some 33), .build [(.string ⟨⟨[]⟩⟩), (.slice none 0 0)] [(0, 1, (.const (.string ⟨⟨[78, 100]⟩⟩))), (1, 1, (.tmp 32))], none⟩,
  ⟨(some 34), .build [(.int .i64 (.ofNat 0)), (.int .i64 (.ofNat 0))] [(0, 1, (.const (.int .i64 (.ofNat 95)))), (1, 1, (.const (.int .i64 (.ofNat 95))))], none⟩,
  ⟨(some 35), .build [(.int .i64 (.ofNat 0)), (.int .i64 (.ofNat 0))] [(0, 1, (.const (.int .i64 (.ofNat 8255)))), (1, 1, (.const (.int .i64 (.ofNat 8256))))], none⟩,
  ⟨(some 36), .buildSlice 198 2 [(.int .i64 (.ofNat 0)), (.int .i64 (.ofNat 0)), (.int .i64 (.ofNat 0)), (.int .i64 (.ofNat 0))] [(0, 2, (.tmp 34)), (2, 2, (.tmp 35))], none⟩,
  ⟨(some 37), .build [(.string ⟨⟨[]⟩⟩), (.slice none 0 0)] [(0, 1, (.const (.string ⟨⟨[80, 99]⟩⟩))), (1, 1, (.tmp 36))], none⟩,
  ⟨(some 38), .build [(.int .i64 (.ofNat 0)), (.int .i64 (.ofNat 0))] [(0, 1, (.const (.int .i64 (.ofNat 32)))), (1, 1, (.const (.int .i64 (.ofNat 32))))], none⟩,
  ⟨(some 39), .build [(.int .i64 (.ofNat 0)), (.int .i64 (.ofNat 0))] [(0, 1, (.const (.int .i64 (.ofNat 160)))), (1, 1, (.const (.int .i64 (.ofNat 160))))], none⟩,
  ⟨(some 40), .build [(.int .i64 (.ofNat 0)), (.int .i64 (.ofNat 0))] [(0, 1, (.const (.int .i64 (.ofNat 8192)))), (1, 1, (.const (.int .i64 (.ofNat 8202))))], none⟩,
  ⟨(some 41), .build [(.int .i64 (.ofNat 0)), (.int .i64 (.ofNat 0))] [(0, 1, (.const (.int .i64 (.ofNat 12288)))), (1, 1, (.const (.int .i64 (.ofNat 12288))))], none⟩,
  ⟨(some 42), .buildSlice 198 4 [(.int .i64 (.ofNat 0)), (.int .i64 (.ofNat 0)), (.int .i64 (.ofNat 0)), (.int .i64 (.ofNat 0)), (.int .i64 (.ofNat 0)), (.int .i64 (.ofNat 0)), (.int .i64 (.ofNat 0)), (.int .i64 (.ofNat 0))] [(0, 2, (.tmp 38)), (2, 2, (.tmp 39)), (4, 2, (.tmp 40)), (6, 2, (.tmp 41))], none⟩,
  ⟨(some 43), .build [(.string ⟨⟨[]⟩⟩), (.slice none 0 0)] [(0, 1, (.const (.string ⟨⟨[90, 115]⟩⟩))), (1, 1, (.tmp 42))], none⟩,
  ⟨(some 44), .build [(.int .i64 (.ofNat 0)), (.int .i64 (.ofNat 0))] [(0, 1, (.const (.int .i64 (.ofNat 33)))), (1, 1, (.const (.int .i64 (.ofNat 35))))], none⟩,
  ⟨(some 45), .build [(.int .i64 (.ofNat 0)), (.int .i64 (.ofNat 0))] [(0, 1, (.const (.int .i64 (.ofNat 37)))), (1, 1, (.const (.int .i64 (.ofNat 42))))], none⟩,
  ⟨(some 46), .build [(.int .i64 (.ofNat 0)), (.int .i64 (.ofNat 0))] [(0, 1, (.const (.int .i64 (.ofNat 44)))), (1, 1, (.const (.int .i64 (.ofNat 47))))], none⟩,
  ⟨(some 47), .build [(.int .i64 (.ofNat 0)), (.int .i64 (.ofNat 0))] [(0, 1, (.const (.int .i64 (.ofNat 58)))), (1, 1, (.const (.int .i64 (.ofNat 59))))], none⟩,
  ⟨(some 48), .build [(.int .i64 (.ofNat 0)), (.int .i64 (.ofNat 0))] [(0, 1, (.const (.int .i64 (.ofNat 63)))), (1, 1, (.const (.int .i64 (.ofNat 64))))], none⟩,
  ⟨(some 49), .build [(.int .i64 (.ofNat 0)), (.int .i64 (.ofNat 0))] [(0, 1, (.const (.int .i64 (.ofNat 91)))), (1, 1, (.const (.int .i64 (.ofNat 93))))], none⟩,
  ⟨(some 50), .build [(.int .i64 (.ofNat 0)), (.int .i64 (.ofNat 0))] [(0, 1, (.const (.int .i64 (.ofNat 95)))), (1, 1, (.const (.int .i64 (.ofNat 95))))], none⟩,
  ⟨(some 51), .build [(.int .i64 (.ofNat 0)), (.int .i64 (.ofNat 0))] [(0, 1, (.const (.int .i64 (.ofNat 123)))), (1, 1, (.const (.int .i64 (.ofNat 123))))], none⟩,
  ⟨(some 52), .build [(.int .i64 (.ofNat 0)), (.int .i64 (.ofNat 0))] [(0, 1, (.const (.int .i64 (.ofNat 125)))), (1, 1, (.const (.int .i64 (.ofNat 125))))], none⟩,
  ⟨(some 53), .build [(.int .i64 (.ofNat 0)), (.int .i64 (.ofNat 0))] [(0, 1, (.const (.int .i64 (.ofNat 161)))), (1, 1, (.const (.int .i64 (.ofNat 161))))], none⟩,
  ⟨(some 54), .build [(.int .i64 (.ofNat 0)), (.int .i64 (.ofNat 0))] [(0, 1, (.const (.int .i64 (.ofNat 167)))), (1, 1, (.const (.int .i64 (.ofNat 167))))], none⟩,
  ⟨(some 55), .build [(.int .i64 (.ofNat 0)), (.int .i64 (.ofNat 0))] [(0, 1, (.const (.int .i64 (.ofNat 171)))), (1, 1, (.const (.int .i64 (.ofNat 171))))], none⟩,
  ⟨(some 56), .build [(.int .i64 (.ofNat 0)), (.int .i64 (.ofNat 0))] [(0, 1, (.const (.int .i64 (.ofNat 182)))), (1, 1, (.const (.int .i64 (.ofNat 183))))], none⟩,
  ⟨(some 57), .build [(.int .i64 (.ofNat 0)), (.int .i64 (.ofNat 0))] [(0, 1, (.const (.int .i64 (.ofNat 187)))), (1, 1, (.const (.int .i64 (.ofNat 187))))], none⟩,
  ⟨(some 58), .build [(.int .i64 (.ofNat 0)), (.int .i64 (.ofNat 0))] [(0, 1, (.const (.int .i64 (.ofNat 191)))), (1, 1, (.const (.int .i64 (.ofNat 191))))], none⟩,
  ⟨(some 59), .build [(.int .i64 (.ofNat 0)), (.int .i64 (.ofNat 0))] [(0, 1, (.const (.int .i64 (.ofNat 8208)))), (1, 1, (.const (.int .i64 (.ofNat 8231))))], none⟩,
  ⟨(some 60), .build [(.int .i64 (.ofNat 0)), (.int .i64 (.ofNat 0))] [(0, 1, (.const (.int .i64 (.ofNat 8255)))), (1, 1, (.const (.int .i64 (.ofNat 8256))))], none⟩,
  ⟨(some 61), .build [(.int .i64 (.ofNat 0)), (.int .i64 (.ofNat 0))] [(0, 1, (.const (.int .i64 (.ofNat 12289)))), (1, 1, (.const (.int .i64 (.ofNat 12291))))], none⟩,
  ⟨(some 62), .buildSlice 198 18 [(.int .i64 (.ofNat 0)), (.int .i64 (.ofNat 0)), (.int .i64 (.ofNat 0)), (.int .i64 (.ofNat 0)), (.int .i64 (.ofNat 0)), (.int .i64 (.ofNat 0)), (.int .i64 (.ofNat 0)), (.int .i64 (.ofNat 0)), (.int .i64 (.ofNat 0)), (.int .i64 (.ofNat 0)), (.int .i64 (.ofNat 0)), (.int .i64 (.ofNat 0)), (.int .i64 (.ofNat 0)), (.int .i64 (.ofNat 0)), (.int .i64 (.ofNat 0)), (.int .i64 (.ofNat 0)), (.int .i64 (.ofNat 0)), (.int .i64 (.ofNat 0)), (.int .i64 (.ofNat 0)), (.int .i64 (.ofNat 0)), (.int .i64 (.ofNat 0)), (.int .i64 (.ofNat 0)), (.int .i64 (.ofNat 0)), (.int .i64 (.ofNat 0)), (.int .i64 (.ofNat 0)), (.int .i64 (.ofNat 0)), (.int .i64 (.ofNat 0)), (.int .i64 (.ofNat 0)), (.int .i64 (.ofNat 0)), (.int .i64 (.ofNat 0)), (.int .i64 (.ofNat 0)), (.int .i64 (.ofNat 0)), (.int .i64 (.ofNat 0)), (.int .i64 (.ofNat 0)), (.int .i64 (.ofNat 0)), (.int .i64 (.ofNat 0))] [(0, 2, (.tmp 44)), (2, 2, (.tmp 45)), (4, 2, (.tmp 46)), (6, 2, (.tmp 47)), (8, 2, (.tmp 48)), (10, 2, (.tmp 49)), (12, 2, (.tmp 50)), (14, 2, (.tmp 51)), (16, 2, (.tmp 52)), (18, 2, (.tmp 53)), (20, 2, (.tmp 54)), (22, 2, (.tmp 55)), (24, 2, (.tmp 56)), (26, 2, (.tmp 57)), (28, 2, (.tmp 58)), (30, 2, (.tmp 59)), (32, 2, (.tmp 60)), (34, 2, (.tmp 61))], none⟩,
  ⟨(some 63), .build [(.string ⟨⟨[]⟩⟩), (.slice none 0 0)] [(0, 1, (.const (.string ⟨⟨[80]⟩⟩))), (1, 1, (.tmp 62))], none⟩,
  ⟨(some 64), .build [(.int .i64 (.ofNat 0)), (.int .i64 (.ofNat 0))] [(0, 1, (.const (.int .i64 (.ofNat 65)))), (1, 1, (.const (.int .i64 (.ofNat 90))))], none⟩,
  ⟨(some 65), .build [(.int .i64 (.ofNat 0)), (.int .i64 (.ofNat 0))] [(0, 1, (.const (.int .i64 (.ofNat 97)))), (1, 1, (.const (.int .i64 (.ofNat 122))))], none⟩,
  ⟨(some 66), .build [(.int .i64 (.ofNat 0)), (.int .i64 (.ofNat 0))] [(0, 1, (.const (.int .i64 (.ofNat 170)))), (1, 1, (.const (.int .i64 (.ofNat 170))))], none⟩,
  ⟨(some 67), .build [(.int .i64 (.ofNat 0)), (.int .i64 (.ofNat 0))] [(0, 1, (.const (.int .i64 (.ofNat 186)))), (1, 1, (.const (.int .i64 (.ofNat 186))))], none⟩,
  ⟨(some 68), .build [(.int .i64 (.ofNat 0)), (.int .i64 (.ofNat 0))] [(0, 1, (.const (.int .i64 (.ofNat 192)))), (1, 1, (.const (.int .i64 (.ofNat 214))))], none⟩,
  ⟨(some 69), .build [(.int .i64 (.ofNat 0)), (.int .i64 (.ofNat 0))] [(0, 1, (.const (.int .i64 (.ofNat 216)))), (1, 1, (.const (.int .i64 (.ofNat 246))))], none⟩,
  ⟨(some 70), .build [(.int .i64 (.ofNat 0)), (.int .i64 (.ofNat 0))] [(0, 1, (.const (.int .i64 (.ofNat 248)))), (1, 1, (.const (.int .i64 (.ofNat 591))))], none⟩,
  ⟨(some 71), .build [(.int .i64 (.ofNat 0)), (.int .i64 (.ofNat 0))] [(0, 1, (.const (.int .i64 (.ofNat 8490)))), (1, 1, (.const (.int .i64 (.ofNat 8491))))], none⟩,
  ⟨(some 72), .buildSlice 198 8 [(.int .i64 (.ofNat 0)), (.int .i64 (.ofNat 0)), (.int .i64 (.ofNat 0)), (.int .i64 (.ofNat 0)), (.int .i64 (.ofNat 0)), (.int .i64 (.ofNat 0)), (.int .i64 (.ofNat 0)), (.int .i64 (.ofNat 0)), (.int .i64 (.ofNat 0)), (.int .i64 (.ofNat 0)), (.int .i64 (.ofNat 0)), (.int .i64 (.ofNat 0)), (.int .i64 (.ofNat 0)), (.int .i64 (.ofNat 0)), (.int .i64 (.ofNat 0)), (.int .i64 (.ofNat 0))] [(0, 2, (.tmp 64)), (2, 2, (.tmp 65)), (4, 2, (.tmp 66)), (6, 2, (.tmp 67)), (8, 2, (.tmp 68)), (10, 2, (.tmp 69)), (12, 2, (.tmp 70)), (14, 2, (.tmp 71))], none⟩,
  ⟨(some 73), .build [(.string ⟨⟨[]⟩⟩), (.slice none 0 0)] [(0, 1, (.const (.string ⟨⟨[76, 97, 116, 105, 110]⟩⟩))), (1, 1, (.tmp 72))], none⟩,
  ⟨(some 74), .build [(.int .i64 (.ofNat 0)), (.int .i64 (.ofNat 0))] [(0, 1, (.const (.int .i64 (.ofNat 913)))), (1, 1, (.const (.int .i64 (.ofNat 929))))], none⟩,
  ⟨(some 75), .build [(.int .i64 (.ofNat 0)), (.int .i64 (.ofNat 0))] [(0, 1, (.const (.int .i64 (.ofNat 931)))), (1, 1, (.const (.int .i64 (.ofNat 993))))], none⟩,
  ⟨(some 76), .buildSlice 198 2 [(.int .i64 (.ofNat 0)), (.int .i64 (.ofNat 0)), (.int .i64 (.ofNat 0)), (.int .i64 (.ofNat 0))] [(0, 2, (.tmp 74)), (2, 2, (.tmp 75))], none⟩,
  ⟨(some 77), .build [(.string ⟨⟨[]⟩⟩), (.slice none 0 0)] [(0, 1, (.const (.string ⟨⟨[71, 114, 101, 101, 107]⟩⟩))), (1, 1, (.tmp 76))], none⟩,
  ⟨(some 78), .build [(.int .i64 (.ofNat 0)), (.int .i64 (.ofNat 0))] [(0, 1, (.const (.int .i64 (.ofNat 1024)))), (1, 1, (.const (.int .i64 (.ofNat 1156))))], none⟩,
  ⟨(some 79), .buildSlice 198 1 [(.int .i64 (.ofNat 0)), (.int .i64 (.ofNat 0))] [(0, 2, (.tmp 78))], none⟩,
  ⟨(some 80), .build [(.string ⟨⟨[]⟩⟩), (.slice none 0 0)] [(0, 1, (.const (.string ⟨⟨[67, 121, 114, 105, 108, 108, 105, 99]⟩⟩))), (1, 1, (.tmp 79))], none⟩,
  ⟨(some 81), .build [(.int .i64 (.ofNat 0)), (.int .i64 (.ofNat 0))] [(0, 1, (.const (.int .i64 (.ofNat 1488)))), (1, 1, (.const (.int .i64 (.ofNat 1514))))], none⟩,
  ⟨(some 82), .buildSlice 198 1 [(.int .i64 (.ofNat 0)), (.int .i64 (.ofNat 0))] [(0, 2, (.tmp 81))], none⟩,
  ⟨(some 83), .build [(.string ⟨⟨[]⟩⟩), (.slice none 0 0)] [(0, 1, (.const (.string ⟨⟨[72, 101, 98, 114, 101, 119]⟩⟩))), (1, 1, (.tmp 82))], none⟩,
  ⟨(some 84), .build [(.int .i64 (.ofNat 0)), (.int .i64 (.ofNat 0))] [(0, 1, (.const (.int .i64 (.ofNat 12353)))), (1, 1, (.const (.int .i64 (.ofNat 12438))))], none⟩,
  ⟨(some 85), .buildSlice 198 1 [(.int .i64 (.ofNat 0)), (.int .i64 (.ofNat 0))] [(0, 2, (.tmp 84))], none⟩,
  ⟨(some 86), .build [(.string ⟨⟨[]⟩⟩), (.slice none 0 0)] [(0, 1, (.const (.string ⟨⟨[72, 105, 114, 97, 103, 97, 110, 97]⟩⟩))), (1, 1, (.tmp 85))], none⟩,
  ⟨(some 87), .build [(.int .i64 (.ofNat 0)), (.int .i64 (.ofNat 0))] [(0, 1, (.const (.int .i64 (.ofNat 12449)))), (1, 1, (.const (.int .i64 (.ofNat 12538))))], none⟩,
  ⟨(some 88), .buildSlice 198 1 [(.int .i64 (.ofNat 0)), (.int .i64 (.ofNat 0))] [(0, 2, (.tmp 87))], none⟩,
  ⟨(some 89), .build [(.string ⟨⟨[]⟩⟩), (.slice none 0 0)] [(0, 1, (.const (.string ⟨⟨[75, 97, 116, 97, 107, 97, 110, 97]⟩⟩))), (1, 1, (.tmp 88))], none⟩,
  ⟨(some 90), .build [(.int .i64 (.ofNat 0)), (.int .i64 (.ofNat 0))] [(0, 1, (.const (.int .i64 (.ofNat 19968)))), (1, 1, (.const (.int .i64 (.ofNat 40959))))], none⟩,
  ⟨(some 91), .buildSlice 198 1 [(.int .i64 (.ofNat 0)), (.int .i64 (.ofNat 0))] [(0, 2, (.tmp 90))], none⟩,
  ⟨(some 92), .build [(.string ⟨⟨[]⟩⟩), (.slice none 0 0)] [(0, 1, (.const (.string ⟨⟨[72, 97, 110]⟩⟩))), (1, 1, (.tmp 91))], none⟩,
  ⟨(some 93), .build [(.int .i64 (.ofNat 0)), (.int .i64 (.ofNat 0))] [(0, 1, (.const (.int .i64 (.ofNat 66560)))), (1, 1, (.const (.int .i64 (.ofNat 66639))))], none⟩,
  ⟨(some 94), .buildSlice 198 1 [(.int .i64 (.ofNat 0)), (.int .i64 (.ofNat 0))] [(0, 2, (.tmp 93))], none⟩,
  ⟨(some 95), .build [(.string ⟨⟨[]⟩⟩), (.slice none 0 0)] [(0, 1, (.const (.string ⟨⟨[68, 101, 115, 101, 114, 101, 116]⟩⟩))), (1, 1, (.tmp 94))], none⟩,
  ⟨(some 96), .buildSlice 193 15 [(.string ⟨⟨[]⟩⟩), (.slice none 0 0), (.string ⟨⟨[]⟩⟩), (.slice none 0 0), (.string ⟨⟨[]⟩⟩), (.slice none 0 0), (.string ⟨⟨[]⟩⟩), (.slice none 0 0), (.string ⟨⟨[]⟩⟩), (.slice none 0 0), (.string ⟨⟨[]⟩⟩), (.slice none 0 0), (.string ⟨⟨[]⟩⟩), (.slice none 0 0), (.string ⟨⟨[]⟩⟩), (.slice none 0 0), (.string ⟨⟨[]⟩⟩), (.slice none 0 0), (.string ⟨⟨[]⟩⟩), (.slice none 0 0), (.string ⟨⟨[]⟩⟩), (.slice none 0 0), (.string ⟨⟨[]⟩⟩), (.slice none 0 0), (.string ⟨⟨[]⟩⟩), (.slice none 0 0), (.string ⟨⟨[]⟩⟩), (.slice none 0 0), (.string ⟨⟨[]⟩⟩), (.slice none 0 0)] [(0, 2, (.tmp 9)), (2, 2, (.tmp 19)), (4, 2, (.tmp 27)), (6, 2, (.tmp 33)), (8, 2, (.tmp 37)), (10, 2, (.tmp 43)), (12, 2, (.tmp 63)), (14, 2, (.tmp 73)), (16, 2, (.tmp 77)), (18, 2, (.tmp 80)), (20, 2, (.tmp 83)), (22, 2, (.tmp 86)), (24, 2, (.tmp 89)), (26, 2, (.tmp 92)), (28, 2, (.tmp 95))], none⟩,
  ⟨(some 0), .move (.tmp 96), none⟩] none
/- ferret/ucd.classes -/
def f145 : IFn := ⟨97, [.inl 0], (.seq f145r0 (.seq f145r1 .ret))⟩
def f146r0 : ICode := .region [
  ⟨(some 2), .move (.const (.slice none 0 0)), none⟩] none
def f146r1 : ICode := .region [
  ⟨(some 3), .move (.const (.slice none 0 0)), none⟩] none
def f146r2 : ICode := .region [
  ⟨(some 6), .move (.tmp 0), none⟩,
  ⟨(some 7), .len 1 (.tmp 6), none⟩,
  ⟨(some 8), .move (.const (.int .i64 (.ofNat 0))), none⟩] none
def f146r3 : ICode := .region [
  ⟨(some 9), .bin .lss (.tmp 8) (.tmp 7), none⟩] none
def f146r4 : ICode := .region [
  ⟨(some 10), .indexSl 2 (.tmp 6) (.tmp 8), none⟩,
  ⟨(some 11), .loadN 2 (.tmp 10), none⟩,
  ⟨(some 5), .new [(.int .i64 (.ofNat 0)), (.int .i64 (.ofNat 0))] 198, none⟩,
  ⟨none, .store 2 (.tmp 5) (.tmp 11), none⟩] none
def f146r5 : ICode := .region [
  ⟨(some 12), .move (.tmp 3), none⟩,
  ⟨(some 13), .indexArrA 2 1 (.tmp 5) (.const (.int .i64 (.ofNat 0))), none⟩,
  ⟨(some 14), .load1 (.tmp 13), none⟩,
  ⟨(some 15), .indexArrA 2 1 (.tmp 5) (.const (.int .i64 (.ofNat 1))), none⟩,
  ⟨(some 16), .load1 (.tmp 15), none⟩,
  ⟨(some 17), .build [(.int .i64 (.ofNat 0)), (.int .i64 (.ofNat 0))] [(0, 1, (.tmp 14)), (1, 1, (.tmp 16))], none⟩,
  ⟨(some 18), .buildSlice 53 1 [(.int .i64 (.ofNat 0)), (.int .i64 (.ofNat 0))] [(0, 2, (.tmp 17))], none⟩,
  ⟨(some 19), .append 53 2 16 (.tmp 12) (.tmp 18), none⟩,
  ⟨(some 3), .move (.tmp 19), none⟩] none
def f146r6 : ICode := .region [
  ⟨(some 20), .bin .add (.tmp 8) (.const (.int .i64 (.ofNat 1))), none⟩,
  ⟨(some 8), .move (.tmp 20), none⟩] none
def f146r7 : ICode := .region [
  ⟨(some 21), .move (.tmp 3), none⟩,
  ⟨(some 22), .call 67 [(.tmp 21)], none⟩,
  ⟨(some 2), .move (.tmp 22), none⟩] none
/- ferret/ucd.of -/
def f146 : IFn := ⟨23, [.inl 2], (.seq f146r0 (.seq f146r1 (.seq (.seq f146r2 (.block 0 (.loop (.seq f146r3 (.seq (.cond (.tmp 9) .skip (.exit 0)) (.seq (.block 1 (.seq f146r4 f146r5)) f146r6)))))) (.seq f146r7 .ret))))⟩
def f147r0 : ICode := .region [
  ⟨(some 0), .move (.const (.slice none 0 0)), none⟩] none
def f147r1 : ICode := .region [
  ⟨(some 1), .buildSlice 9 3 [(.string ⟨⟨[]⟩⟩), (.string ⟨⟨[]⟩⟩), (.string ⟨⟨[]⟩⟩)] [(0, 1, (.const (.string ⟨⟨[76, 117]⟩⟩))), (1, 1, (.const (.string ⟨⟨[76, 108]⟩⟩))), (2, 1, (.const (.string ⟨⟨[76, 111]⟩⟩)))], none⟩,
  ⟨(some 2), .build [(.string ⟨⟨[]⟩⟩), (.slice none 0 0)] [(0, 1, (.const (.string ⟨⟨[76]⟩⟩))), (1, 1, (.tmp 1))], none⟩,
  ⟨(some 3), .buildSlice 9 1 [(.string ⟨⟨[]⟩⟩)] [(0, 1, (.const (.string ⟨⟨[78, 100]⟩⟩)))], none⟩,
  ⟨(some 4), .build [(.string ⟨⟨[]⟩⟩), (.slice none 0 0)] [(0, 1, (.const (.string ⟨⟨[78]⟩⟩))), (1, 1, (.tmp 3))], none⟩,
  ⟨(some 5), .buildSlice 197 2 [(.string ⟨⟨[]⟩⟩), (.slice none 0 0), (.string ⟨⟨[]⟩⟩), (.slice none 0 0)] [(0, 2, (.tmp 2)), (2, 2, (.tmp 4))], none⟩,
  ⟨(some 0), .move (.tmp 5), none⟩] none
/- ferret/ucd.unions -/
def f147 : IFn := ⟨6, [.inl 0], (.seq f147r0 (.seq f147r1 .ret))⟩
def f149r0 : ICode := .region [
  ⟨(some 4), .box 160 (.tmp 0), none⟩] none
def f149r1 : ICode := .region [
  ⟨(some 10), .move (.tmp 1), none⟩,
  ⟨(some 8), .move (.tmp 10), none⟩] none
def f149r2 : ICode := .region [
  ⟨(some 11), .move (.tmp 8), none⟩,
  ⟨(some 12), .bin .mul (.const (.int .i64 (.ofNat 2))) (.tmp 11), none⟩,
  ⟨(some 13), .bin .add (.tmp 12) (.const (.int .i64 (.ofNat 1))), none⟩,
  ⟨(some 9), .move (.tmp 13), none⟩] none
def f149r3 : ICode := .region [
  ⟨(some 14), .move (.tmp 9), none⟩,
  ⟨(some 15), .move (.tmp 2), none⟩,
  ⟨(some 16), .bin .geq (.tmp 14) (.tmp 15), none⟩] none
def f149r4 : ICode := .region [
  ⟨(some 17), .move (.tmp 9), none⟩,
  ⟨(some 18), .bin .add (.tmp 17) (.const (.int .i64 (.ofNat 1))), none⟩,
  ⟨(some 19), .move (.tmp 2), none⟩,
  ⟨(some 20), .bin .lss (.tmp 18) (.tmp 19), none⟩,
  ⟨(some 21), .move (.tmp 20), none⟩,
  ⟨(some 22), .fieldAddr 0 (.tmp 4), (some ((some 21), true))⟩,
  ⟨(some 23), .load1 (.tmp 22), (some ((some 21), true))⟩,
  ⟨(some 24), .move (.tmp 3), (some ((some 21), true))⟩,
  ⟨(some 25), .move (.tmp 9), (some ((some 21), true))⟩,
  ⟨(some 26), .bin .add (.tmp 24) (.tmp 25), (some ((some 21), true))⟩,
  ⟨(some 27), .move (.tmp 3), (some ((some 21), true))⟩,
  ⟨(some 28), .move (.tmp 9), (some ((some 21), true))⟩,
  ⟨(some 29), .bin .add (.tmp 27) (.tmp 28), (some ((some 21), true))⟩,
  ⟨(some 30), .bin .add (.tmp 29) (.const (.int .i64 (.ofNat 1))), (some ((some 21), true))⟩,
  ⟨(some 31), .callv (.tmp 23) [(.tmp 26), (.tmp 30)], (some ((some 21), true))⟩,
  ⟨(some 32), .pick (.tmp 21) (.tmp 31) (.const (.bool false)), none⟩] none
def f149r5 : ICode := .region [
  ⟨(some 33), .move (.tmp 9), none⟩,
  ⟨(some 34), .bin .add (.tmp 33) (.const (.int .i64 (.ofNat 1))), none⟩,
  ⟨(some 9), .move (.tmp 34), none⟩] none
def f149r6 : ICode := .region [
  ⟨(some 35), .fieldAddr 0 (.tmp 4), none⟩,
  ⟨(some 36), .load1 (.tmp 35), none⟩,
  ⟨(some 37), .move (.tmp 3), none⟩,
  ⟨(some 38), .move (.tmp 8), none⟩,
  ⟨(some 39), .bin .add (.tmp 37) (.tmp 38), none⟩,
  ⟨(some 40), .move (.tmp 3), none⟩,
  ⟨(some 41), .move (.tmp 9), none⟩,
  ⟨(some 42), .bin .add (.tmp 40) (.tmp 41), none⟩,
  ⟨(some 43), .callv (.tmp 36) [(.tmp 39), (.tmp 42)], none⟩,
  ⟨(some 44), .un .not (.tmp 43), none⟩] none
def f149r7 : ICode := .region [
  ⟨(some 45), .fieldAddr 1 (.tmp 4), none⟩,
  ⟨(some 46), .load1 (.tmp 45), none⟩,
  ⟨(some 47), .move (.tmp 3), none⟩,
  ⟨(some 48), .move (.tmp 8), none⟩,
  ⟨(some 49), .bin .add (.tmp 47) (.tmp 48), none⟩,
  ⟨(some 50), .move (.tmp 3), none⟩,
  ⟨(some 51), .move (.tmp 9), none⟩,
  ⟨(some 52), .bin .add (.tmp 50) (.tmp 51), none⟩,
  ⟨(some 53), .callv (.tmp 46) [(.tmp 49), (.tmp 52)], none⟩] none
def f149r8 : ICode := .region [
  ⟨(some 54), .move (.tmp 9), none⟩,
  ⟨(some 8), .move (.tmp 54), none⟩] none
/- sort.siftDown_func -/
def f149 : IFn := ⟨55, [], (.seq f149r0 (.seq f149r1 (.block 0 (.loop (.block 1 (.seq f149r2 (.seq (.seq f149r3 (.cond (.tmp 16) (.exit 0) .skip)) (.seq (.seq f149r4 (.cond (.tmp 32) f149r5 .skip)) (.seq (.seq f149r6 (.cond (.tmp 44) .ret .skip)) (.seq f149r7 f149r8))))))))))⟩
def f150r0 : ICode := .region [
  ⟨(some 2), .move (.const (.int .u64 (.ofNat 0))), none⟩] none
def f150r1 : ICode := .region [
  ⟨(some 4), .move (.tmp 0), none⟩,
  ⟨(some 5), .conv .u64 (.tmp 4), none⟩,
  ⟨(some 6), .call 109 [(.tmp 5)], none⟩,
  ⟨(some 7), .conv .u64 (.tmp 6), none⟩,
  ⟨(some 3), .move (.tmp 7), none⟩] none
def f150r2 : ICode := .region [
  ⟨(some 8), .move (.tmp 3), none⟩,
  ⟨(some 9), .bin .shl (.const (.int .u64 (.ofNat 1))) (.tmp 8), none⟩,
  ⟨(some 2), .move (.tmp 9), none⟩] none
/- sort.nextPowerOfTwo -/
def f150 : IFn := ⟨10, [.inl 2], (.seq f150r0 (.seq f150r1 (.seq f150r2 .ret)))⟩
def f151r0 : ICode := .region [
  ⟨(some 2), .move (.const (.int .u64 (.ofNat 0))), none⟩] none
def f151r1 : ICode := .region [
  ⟨(some 3), .move (.tmp 0), none⟩,
  ⟨(some 4), .nilCheck (.tmp 3), none⟩,
  ⟨(some 5), .load1 (.tmp 4), none⟩,
  ⟨(some 6), .move (.tmp 0), none⟩,
  ⟨(some 7), .nilCheck (.tmp 6), none⟩,
  ⟨(some 8), .load1 (.tmp 7), none⟩,
  ⟨(some 9), .bin .shl (.tmp 8) (.const (.int .u64 (.ofNat 13))), none⟩,
  ⟨(some 10), .bin .xor (.tmp 5) (.tmp 9), none⟩,
  ⟨(some 11), .nilCheck (.tmp 3), none⟩,
  ⟨none, .store 1 (.tmp 11) (.tmp 10), none⟩] (some ⟨[], []⟩)
def f151r2 : ICode := .region [
  ⟨(some 12), .move (.tmp 0), none⟩,
  ⟨(some 13), .nilCheck (.tmp 12), none⟩,
  ⟨(some 14), .load1 (.tmp 13), none⟩,
  ⟨(some 15), .move (.tmp 0), none⟩,
  ⟨(some 16), .nilCheck (.tmp 15), none⟩,
  ⟨(some 17), .load1 (.tmp 16), none⟩,
  ⟨(some 18), .bin .shr (.tmp 17) (.const (.int .u64 (.ofNat 7))), none⟩,
  ⟨(some 19), .bin .xor (.tmp 14) (.tmp 18), none⟩,
  ⟨(some 20), .nilCheck (.tmp 12), none⟩,
  ⟨none, .store 1 (.tmp 20) (.tmp 19), none⟩] (some ⟨[], []⟩)
def f151r3 : ICode := .region [
  ⟨(some 21), .move (.tmp 0), none⟩,
  ⟨(some 22), .nilCheck (.tmp 21), none⟩,
  ⟨(some 23), .load1 (.tmp 22), none⟩,
  ⟨(some 24), .move (.tmp 0), none⟩,
  ⟨(some 25), .nilCheck (.tmp 24), none⟩,
  ⟨(some 26), .load1 (.tmp 25), none⟩,
  ⟨(some 27), .bin .shl (.tmp 26) (.const (.int .u64 (.ofNat 17))), none⟩,
  ⟨(some 28), .bin .xor (.tmp 23) (.tmp 27), none⟩,
  ⟨(some 29), .nilCheck (.tmp 21), none⟩,
  ⟨none, .store 1 (.tmp 29) (.tmp 28), none⟩] (some ⟨[], []⟩)
def f151r4 : ICode := .region [
  ⟨(some 30), .move (.tmp 0), none⟩,
  ⟨(some 31), .nilCheck (.tmp 30), none⟩,
  ⟨(some 32), .load1 (.tmp 31), none⟩,
  ⟨(some 2), .move (.tmp 32), none⟩] none
/- (*sort.xorshift).Next -/
def f151 : IFn := ⟨33, [.inl 2], (.seq f151r0 (.seq f151r1 (.seq f151r2 (.seq f151r3 (.seq f151r4 .ret)))))⟩
def f152r0 : ICode := .region [
  ⟨(some 3), .box 160 (.tmp 0), none⟩,
  ⟨(some 6), .move (.const (.int .i64 (.ofNat 0))), none⟩] none
def f152r1 : ICode := .region [
  ⟨(some 7), .loadN 2 (.tmp 3), none⟩,
  ⟨(some 8), .move (.tmp 1), none⟩,
  ⟨(some 9), .bin .sub (.tmp 8) (.const (.int .i64 (.ofNat 1))), none⟩,
  ⟨(some 10), .move (.tmp 1), none⟩,
  ⟨(some 11), .move (.tmp 1), none⟩,
  ⟨(some 12), .bin .add (.tmp 11) (.const (.int .i64 (.ofNat 1))), none⟩,
  ⟨(some 13), .move (.tmp 2), none⟩,
  ⟨(some 14), .call 153 [(.tmp 7), (.tmp 9), (.tmp 10), (.tmp 12), (.tmp 13)], none⟩,
  ⟨(some 6), .move (.tmp 14), none⟩] none
/- sort.medianAdjacent_func -/
def f152 : IFn := ⟨15, [.inl 6], (.seq f152r0 (.seq f152r1 .ret))⟩
def f153r0 : ICode := .region [
  ⟨(some 5), .box 160 (.tmp 0), none⟩,
  ⟨(some 10), .move (.const (.int .i64 (.ofNat 0))), none⟩] none
def f153r1 : ICode := .region [
  ⟨(some 12), .loadN 2 (.tmp 5), none⟩,
  ⟨(some 13), .move (.tmp 1), none⟩,
  ⟨(some 14), .move (.tmp 2), none⟩,
  ⟨(some 15), .move (.tmp 4), none⟩,
  ⟨(some 16), .call 156 [(.tmp 12), (.tmp 13), (.tmp 14), (.tmp 15)], none⟩,
  ⟨(some 11), .move (.tmp 16), none⟩,
  ⟨(some 17), .extract (.tmp 11) 0, none⟩,
  ⟨(some 18), .extract (.tmp 11) 1, none⟩,
  ⟨(some 1), .move (.tmp 17), none⟩,
  ⟨(some 2), .move (.tmp 18), none⟩] none
def f153r2 : ICode := .region [
  ⟨(some 20), .loadN 2 (.tmp 5), none⟩,
  ⟨(some 21), .move (.tmp 2), none⟩,
  ⟨(some 22), .move (.tmp 3), none⟩,
  ⟨(some 23), .move (.tmp 4), none⟩,
  ⟨(some 24), .call 156 [(.tmp 20), (.tmp 21), (.tmp 22), (.tmp 23)], none⟩,
  ⟨(some 19), .move (.tmp 24), none⟩,
  ⟨(some 25), .extract (.tmp 19) 0, none⟩,
  ⟨(some 26), .extract (.tmp 19) 1, none⟩,
  ⟨(some 2), .move (.tmp 25), none⟩,
  ⟨(some 3), .move (.tmp 26), none⟩] none
def f153r3 : ICode := .region [
  ⟨(some 28), .loadN 2 (.tmp 5), none⟩,
  ⟨(some 29), .move (.tmp 1), none⟩,
  ⟨(some 30), .move (.tmp 2), none⟩,
  ⟨(some 31), .move (.tmp 4), none⟩,
  ⟨(some 32), .call 156 [(.tmp 28), (.tmp 29), (.tmp 30), (.tmp 31)], none⟩,
  ⟨(some 27), .move (.tmp 32), none⟩,
  ⟨(some 33), .extract (.tmp 27) 0, none⟩,
  ⟨(some 34), .extract (.tmp 27) 1, none⟩,
  ⟨(some 1), .move (.tmp 33), none⟩,
  ⟨(some 2), .move (.tmp 34), none⟩] none
def f153r4 : ICode := .region [
  ⟨(some 35), .move (.tmp 2), none⟩,
  ⟨(some 10), .move (.tmp 35), none⟩] none
/- sort.median_func -/
def f153 : IFn := ⟨36, [.inl 10], (.seq f153r0 (.seq f153r1 (.seq f153r2 (.seq f153r3 (.seq f153r4 .ret)))))⟩
def f154r0 : ICode := .region [
  ⟨(some 2), .move (.const (.int .i64 (.ofNat 0))), none⟩] none
def f154r1 : ICode := .region [
  ⟨(some 3), .move (.tmp 0), none⟩,
  ⟨(some 4), .bin .eql (.tmp 3) (.const (.int .u32 (.ofNat 0))), none⟩] none
def f154r2 : ICode := .region [
  ⟨(some 2), .move (.const (.int .i64 (.ofNat 32))), none⟩] none
def f154r3 : ICode := .region [
  ⟨(some 5), .move (.tmp 0), none⟩,
  ⟨(some 6), .move (.tmp 0), none⟩,
  ⟨(some 7), .un .neg (.tmp 6), none⟩,
  ⟨(some 8), .bin .and (.tmp 5) (.tmp 7), none⟩,
  ⟨(some 9), .bin .mul (.tmp 8) (.const (.int .u32 (.ofNat 125613361))), none⟩,
  ⟨(some 10), .bin .shr (.tmp 9) (.const (.int .u64 (.ofNat 27))), none⟩,
  ⟨(some 11), .bad, none⟩,
  ⟨(some 12), .load1 (.tmp 11), none⟩,
  ⟨(some 13), .conv .i64 (.tmp 12), none⟩,
  ⟨(some 2), .move (.tmp 13), none⟩] none
/- math/bits.TrailingZeros32 -/
def f154 : IFn := ⟨14, [.inl 2], (.seq f154r0 (.seq (.seq f154r1 (.cond (.tmp 4) (.seq f154r2 .ret) .skip)) (.seq f154r3 .ret)))⟩
def f155r0 : ICode := .region [
  ⟨(some 2), .move (.const (.int .i64 (.ofNat 0))), none⟩] none
def f155r1 : ICode := .region [
  ⟨(some 3), .move (.tmp 0), none⟩,
  ⟨(some 4), .bin .eql (.tmp 3) (.const (.int .u64 (.ofNat 0))), none⟩] none
def f155r2 : ICode := .region [
  ⟨(some 2), .move (.const (.int .i64 (.ofNat 64))), none⟩] none
def f155r3 : ICode := .region [
  ⟨(some 5), .move (.tmp 0), none⟩,
  ⟨(some 6), .move (.tmp 0), none⟩,
  ⟨(some 7), .un .neg (.tmp 6), none⟩,
  ⟨(some 8), .bin .and (.tmp 5) (.tmp 7), none⟩,
  ⟨(some 9), .bin .mul (.tmp 8) (.const (.int .u64 (.ofNat 285870213051353865))), none⟩,
  ⟨(some 10), .bin .shr (.tmp 9) (.const (.int .u64 (.ofNat 58))), none⟩,
  ⟨(some 11), .bad, none⟩,
  ⟨(some 12), .load1 (.tmp 11), none⟩,
  ⟨(some 13), .conv .i64 (.tmp 12), none⟩,
  ⟨(some 2), .move (.tmp 13), none⟩] none
/- math/bits.TrailingZeros64 -/
def f155 : IFn := ⟨14, [.inl 2], (.seq f155r0 (.seq (.seq f155r1 (.cond (.tmp 4) (.seq f155r2 .ret) .skip)) (.seq f155r3 .ret)))⟩
def f156r0 : ICode := .region [
  ⟨(some 4), .box 160 (.tmp 0), none⟩,
  ⟨(some 8), .move (.const (.int .i64 (.ofNat 0))), none⟩,
  ⟨(some 9), .move (.const (.int .i64 (.ofNat 0))), none⟩] none
def f156r1 : ICode := .region [
  ⟨(some 10), .fieldAddr 0 (.tmp 4), none⟩,
  ⟨(some 11), .load1 (.tmp 10), none⟩,
  ⟨(some 12), .move (.tmp 2), none⟩,
  ⟨(some 13), .move (.tmp 1), none⟩,
  ⟨(some 14), .callv (.tmp 11) [(.tmp 12), (.tmp 13)], none⟩] none
def f156r2 : ICode := .region [
  ⟨(some 15), .move (.tmp 3), none⟩,
  ⟨(some 16), .nilCheck (.tmp 15), none⟩,
  ⟨(some 17), .load1 (.tmp 16), none⟩,
  ⟨(some 18), .bin .add (.tmp 17) (.const (.int .i64 (.ofNat 1))), none⟩,
  ⟨(some 19), .nilCheck (.tmp 15), none⟩,
  ⟨none, .store 1 (.tmp 19) (.tmp 18), none⟩] none
def f156r3 : ICode := .region [
  ⟨(some 20), .move (.tmp 2), none⟩,
  ⟨(some 21), .move (.tmp 1), none⟩,
  ⟨(some 8), .move (.tmp 20), none⟩,
  ⟨(some 9), .move (.tmp 21), none⟩] none
def f156r4 : ICode := .region [
  ⟨(some 22), .move (.tmp 1), none⟩,
  ⟨(some 23), .move (.tmp 2), none⟩,
  ⟨(some 8), .move (.tmp 22), none⟩,
  ⟨(some 9), .move (.tmp 23), none⟩] none
/- sort.order2_func -/
def f156 : IFn := ⟨24, [.inl 8, .inl 9], (.seq f156r0 (.seq (.seq f156r1 (.cond (.tmp 14) (.seq f156r2 (.seq f156r3 .ret)) .skip)) (.seq f156r4 .ret)))⟩
def d20r0 : ICode := .region [
  ⟨(some 6), .move (.tmp 2), none⟩,
  ⟨(some 7), .nilEq true 4 (.tmp 6) (.const .nilIface), none⟩] none
def d20r1 : ICode := .region [
  ⟨(some 9), .move (.tmp 2), none⟩,
  ⟨(some 10), .bad, none⟩,
  ⟨(some 8), .move (.tmp 10), none⟩,
  ⟨(some 11), .extract (.tmp 8) 0, none⟩,
  ⟨(some 12), .extract (.tmp 8) 1, none⟩,
  ⟨(some 3), .new [(.int .i64 (.ofNat 0)), (.int .i64 (.ofNat 0))] 65, none⟩,
  ⟨none, .store 2 (.tmp 3) (.tmp 11), none⟩,
  ⟨(some 4), .move (.tmp 12), none⟩] none
def d20r2 : ICode := .region [
  ⟨(some 13), .move (.tmp 4), none⟩,
  ⟨(some 14), .un .not (.tmp 13), none⟩] none
def d20r3 : ICode := .region [
  ⟨(some 15), .move (.tmp 2), none⟩,
  ⟨none, .bad, none⟩] none
def d20r4 : ICode := .region [
  ⟨(some 16), .build [(.int .i64 (.ofNat 0)), (.slice none 0 0), (.bool false), (.int .i64 (.ofNat 0)), (.int .i64 (.ofNat 0)), (.bool false), (.int .i64 (.ofNat 0)), (.string ⟨⟨[]⟩⟩), (.slice none 0 0), (.slice none 0 0)] [], none⟩,
  ⟨(some 17), .loadN 2 (.tmp 3), none⟩,
  ⟨none, .store 10 (.tmp 0) (.tmp 16), none⟩,
  ⟨none, .store 2 (.tmp 1) (.tmp 17), none⟩] (some ⟨[], [(1, 2)]⟩)
/- ferret/syn.Parse$1 -/
def d20 : IDf := ⟨18, (some 5), [⟨(some 2), .move (.tmp 5), none⟩], (.seq d20r0 (.cond (.tmp 7) (.seq d20r1 (.seq (.seq d20r2 (.cond (.tmp 14) d20r3 .skip)) d20r4)) .skip))⟩
end Go.Am.Zd
