import Derived.Test.YtikphefllmemjaaGreatDoorZd1a
/-
The table of the program for the engine: printed by a program of mine.
-/
namespace Go.Am.Zd
open Go Go.Am
set_option maxRecDepth 100000
def f113r0 : ICode := .region [
 qM 17 0,
 qO 18 (.len 1 (.tmp 17)),
 qM 4 18] none
def f113r1 : ICode := .region [
 qM 19 4,
 qO 20 (.bin .geq (.tmp 19) (qK 8))] none
def f113r2 : ICode := .region [
 qM 21 1,
 qO 22 (.bin .rem (.tmp 21) (.const (.int .u64 (.ofNat 100000000)))),
 qO 23 (.conv .u32 (.tmp 22)),
 qM 5 23] none
def f113r3 : ICode := .region [
 qM 24 1,
 qO 25 (.bin .quo (.tmp 24) (.const (.int .u64 (.ofNat 100000000)))),
 qM 1 25] none
def f113r4 : ICode := .region [
 qM 26 5,
 qO 27 (.bin .quo (.tmp 26) (.const (.int .u32 (.ofNat 10000)))),
 qM 28 5,
 qO 29 (.bin .rem (.tmp 28) (.const (.int .u32 (.ofNat 10000)))),
 qM 6 27,
 qM 7 29] none
def f113r5 : ICode := .region [
 qM 30 7,
 qO 31 (.bin .quo (.tmp 30) (.const (.int .u32 (.ofNat 100)))),
 qO 32 (.bin .mul (.tmp 31) (.const (.int .u32 (.ofNat 2)))),
 qM 33 7,
 qO 34 (.bin .rem (.tmp 33) (.const (.int .u32 (.ofNat 100)))),
 qO 35 (.bin .mul (.tmp 34) (.const (.int .u32 (.ofNat 2)))),
 qM 8 32,
 qM 9 35] none
def f113r6 : ICode := .region [
 qM 36 6,
 qO 37 (.bin .quo (.tmp 36) (.const (.int .u32 (.ofNat 100)))),
 qO 38 (.bin .mul (.tmp 37) (.const (.int .u32 (.ofNat 2)))),
 qM 39 6,
 qO 40 (.bin .rem (.tmp 39) (.const (.int .u32 (.ofNat 100)))),
 qO 41 (.bin .mul (.tmp 40) (.const (.int .u32 (.ofNat 2)))),
 qM 10 38,
 qM 11 41] none
def f113r7 : ICode := .region [
 qM 42 0,
 qM 43 4,
 qO 44 (.bin .sub (.tmp 43) (qK 1)),
 qM 45 0,
 qM 46 4,
 qO 47 (.bin .sub (.tmp 46) (qK 2)),
 qM 48 9,
 qO 49 (.bin .add (.tmp 48) (.const (.int .u32 (.ofNat 1)))),
 qO 50 (.indexStr (.const (.string ⟨⟨[48, 48, 48, 49, 48, 50, 48, 51, 48, 52, 48, 53, 48, 54, 48, 55, 48, 56, 48, 57, 49, 48, 49, 49, 49, 50, 49, 51, 49, 52, 49, 53, 49, 54, 49, 55, 49, 56, 49, 57, 50, 48, 50, 49, 50, 50, 50, 51, 50, 52, 50, 53, 50, 54, 50, 55, 50, 56, 50, 57, 51, 48, 51, 49, 51, 50, 51, 51, 51, 52, 51, 53, 51, 54, 51, 55, 51, 56, 51, 57, 52, 48, 52, 49, 52, 50, 52, 51, 52, 52, 52, 53, 52, 54, 52, 55, 52, 56, 52, 57, 53, 48, 53, 49, 53, 50, 53, 51, 53, 52, 53, 53, 53, 54, 53, 55, 53, 56, 53, 57, 54, 48, 54, 49, 54, 50, 54, 51, 54, 52, 54, 53, 54, 54, 54, 55, 54, 56, 54, 57, 55, 48, 55, 49, 55, 50, 55, 51, 55, 52, 55, 53, 55, 54, 55, 55, 55, 56, 55, 57, 56, 48, 56, 49, 56, 50, 56, 51, 56, 52, 56, 53, 56, 54, 56, 55, 56, 56, 56, 57, 57, 48, 57, 49, 57, 50, 57, 51, 57, 52, 57, 53, 57, 54, 57, 55, 57, 56, 57, 57]⟩⟩)) (.tmp 49)),
 qM 51 9,
 qO 52 (.indexStr (.const (.string ⟨⟨[48, 48, 48, 49, 48, 50, 48, 51, 48, 52, 48, 53, 48, 54, 48, 55, 48, 56, 48, 57, 49, 48, 49, 49, 49, 50, 49, 51, 49, 52, 49, 53, 49, 54, 49, 55, 49, 56, 49, 57, 50, 48, 50, 49, 50, 50, 50, 51, 50, 52, 50, 53, 50, 54, 50, 55, 50, 56, 50, 57, 51, 48, 51, 49, 51, 50, 51, 51, 51, 52, 51, 53, 51, 54, 51, 55, 51, 56, 51, 57, 52, 48, 52, 49, 52, 50, 52, 51, 52, 52, 52, 53, 52, 54, 52, 55, 52, 56, 52, 57, 53, 48, 53, 49, 53, 50, 53, 51, 53, 52, 53, 53, 53, 54, 53, 55, 53, 56, 53, 57, 54, 48, 54, 49, 54, 50, 54, 51, 54, 52, 54, 53, 54, 54, 54, 55, 54, 56, 54, 57, 55, 48, 55, 49, 55, 50, 55, 51, 55, 52, 55, 53, 55, 54, 55, 55, 55, 56, 55, 57, 56, 48, 56, 49, 56, 50, 56, 51, 56, 52, 56, 53, 56, 54, 56, 55, 56, 56, 56, 57, 57, 48, 57, 49, 57, 50, 57, 51, 57, 52, 57, 53, 57, 54, 57, 55, 57, 56, 57, 57]⟩⟩)) (.tmp 51)),
 qO 53 (.indexSl 1 (.tmp 42) (.tmp 44)),
  ⟨none, .store 1 (.tmp 53) (.tmp 50), none⟩,
 qO 54 (.indexSl 1 (.tmp 45) (.tmp 47)),
  ⟨none, .store 1 (.tmp 54) (.tmp 52), none⟩] (some ⟨[], []⟩)
def f113r8 : ICode := .region [
 qM 55 0,
 qM 56 4,
 qO 57 (.bin .sub (.tmp 56) (qK 3)),
 qM 58 0,
 qM 59 4,
 qO 60 (.bin .sub (.tmp 59) (qK 4)),
 qM 61 8,
 qO 62 (.bin .add (.tmp 61) (.const (.int .u32 (.ofNat 1)))),
 qO 63 (.indexStr (.const (.string ⟨⟨[48, 48, 48, 49, 48, 50, 48, 51, 48, 52, 48, 53, 48, 54, 48, 55, 48, 56, 48, 57, 49, 48, 49, 49, 49, 50, 49, 51, 49, 52, 49, 53, 49, 54, 49, 55, 49, 56, 49, 57, 50, 48, 50, 49, 50, 50, 50, 51, 50, 52, 50, 53, 50, 54, 50, 55, 50, 56, 50, 57, 51, 48, 51, 49, 51, 50, 51, 51, 51, 52, 51, 53, 51, 54, 51, 55, 51, 56, 51, 57, 52, 48, 52, 49, 52, 50, 52, 51, 52, 52, 52, 53, 52, 54, 52, 55, 52, 56, 52, 57, 53, 48, 53, 49, 53, 50, 53, 51, 53, 52, 53, 53, 53, 54, 53, 55, 53, 56, 53, 57, 54, 48, 54, 49, 54, 50, 54, 51, 54, 52, 54, 53, 54, 54, 54, 55, 54, 56, 54, 57, 55, 48, 55, 49, 55, 50, 55, 51, 55, 52, 55, 53, 55, 54, 55, 55, 55, 56, 55, 57, 56, 48, 56, 49, 56, 50, 56, 51, 56, 52, 56, 53, 56, 54, 56, 55, 56, 56, 56, 57, 57, 48, 57, 49, 57, 50, 57, 51, 57, 52, 57, 53, 57, 54, 57, 55, 57, 56, 57, 57]⟩⟩)) (.tmp 62)),
 qM 64 8,
 qO 65 (.indexStr (.const (.string ⟨⟨[48, 48, 48, 49, 48, 50, 48, 51, 48, 52, 48, 53, 48, 54, 48, 55, 48, 56, 48, 57, 49, 48, 49, 49, 49, 50, 49, 51, 49, 52, 49, 53, 49, 54, 49, 55, 49, 56, 49, 57, 50, 48, 50, 49, 50, 50, 50, 51, 50, 52, 50, 53, 50, 54, 50, 55, 50, 56, 50, 57, 51, 48, 51, 49, 51, 50, 51, 51, 51, 52, 51, 53, 51, 54, 51, 55, 51, 56, 51, 57, 52, 48, 52, 49, 52, 50, 52, 51, 52, 52, 52, 53, 52, 54, 52, 55, 52, 56, 52, 57, 53, 48, 53, 49, 53, 50, 53, 51, 53, 52, 53, 53, 53, 54, 53, 55, 53, 56, 53, 57, 54, 48, 54, 49, 54, 50, 54, 51, 54, 52, 54, 53, 54, 54, 54, 55, 54, 56, 54, 57, 55, 48, 55, 49, 55, 50, 55, 51, 55, 52, 55, 53, 55, 54, 55, 55, 55, 56, 55, 57, 56, 48, 56, 49, 56, 50, 56, 51, 56, 52, 56, 53, 56, 54, 56, 55, 56, 56, 56, 57, 57, 48, 57, 49, 57, 50, 57, 51, 57, 52, 57, 53, 57, 54, 57, 55, 57, 56, 57, 57]⟩⟩)) (.tmp 64)),
 qO 66 (.indexSl 1 (.tmp 55) (.tmp 57)),
  ⟨none, .store 1 (.tmp 66) (.tmp 63), none⟩,
 qO 67 (.indexSl 1 (.tmp 58) (.tmp 60)),
  ⟨none, .store 1 (.tmp 67) (.tmp 65), none⟩] (some ⟨[], []⟩)
def f113r9 : ICode := .region [
 qM 68 0,
 qM 69 4,
 qO 70 (.bin .sub (.tmp 69) (qK 5)),
 qM 71 0,
 qM 72 4,
 qO 73 (.bin .sub (.tmp 72) (qK 6)),
 qM 74 11,
 qO 75 (.bin .add (.tmp 74) (.const (.int .u32 (.ofNat 1)))),
 qO 76 (.indexStr (.const (.string ⟨⟨[48, 48, 48, 49, 48, 50, 48, 51, 48, 52, 48, 53, 48, 54, 48, 55, 48, 56, 48, 57, 49, 48, 49, 49, 49, 50, 49, 51, 49, 52, 49, 53, 49, 54, 49, 55, 49, 56, 49, 57, 50, 48, 50, 49, 50, 50, 50, 51, 50, 52, 50, 53, 50, 54, 50, 55, 50, 56, 50, 57, 51, 48, 51, 49, 51, 50, 51, 51, 51, 52, 51, 53, 51, 54, 51, 55, 51, 56, 51, 57, 52, 48, 52, 49, 52, 50, 52, 51, 52, 52, 52, 53, 52, 54, 52, 55, 52, 56, 52, 57, 53, 48, 53, 49, 53, 50, 53, 51, 53, 52, 53, 53, 53, 54, 53, 55, 53, 56, 53, 57, 54, 48, 54, 49, 54, 50, 54, 51, 54, 52, 54, 53, 54, 54, 54, 55, 54, 56, 54, 57, 55, 48, 55, 49, 55, 50, 55, 51, 55, 52, 55, 53, 55, 54, 55, 55, 55, 56, 55, 57, 56, 48, 56, 49, 56, 50, 56, 51, 56, 52, 56, 53, 56, 54, 56, 55, 56, 56, 56, 57, 57, 48, 57, 49, 57, 50, 57, 51, 57, 52, 57, 53, 57, 54, 57, 55, 57, 56, 57, 57]⟩⟩)) (.tmp 75)),
 qM 77 11,
 qO 78 (.indexStr (.const (.string ⟨⟨[48, 48, 48, 49, 48, 50, 48, 51, 48, 52, 48, 53, 48, 54, 48, 55, 48, 56, 48, 57, 49, 48, 49, 49, 49, 50, 49, 51, 49, 52, 49, 53, 49, 54, 49, 55, 49, 56, 49, 57, 50, 48, 50, 49, 50, 50, 50, 51, 50, 52, 50, 53, 50, 54, 50, 55, 50, 56, 50, 57, 51, 48, 51, 49, 51, 50, 51, 51, 51, 52, 51, 53, 51, 54, 51, 55, 51, 56, 51, 57, 52, 48, 52, 49, 52, 50, 52, 51, 52, 52, 52, 53, 52, 54, 52, 55, 52, 56, 52, 57, 53, 48, 53, 49, 53, 50, 53, 51, 53, 52, 53, 53, 53, 54, 53, 55, 53, 56, 53, 57, 54, 48, 54, 49, 54, 50, 54, 51, 54, 52, 54, 53, 54, 54, 54, 55, 54, 56, 54, 57, 55, 48, 55, 49, 55, 50, 55, 51, 55, 52, 55, 53, 55, 54, 55, 55, 55, 56, 55, 57, 56, 48, 56, 49, 56, 50, 56, 51, 56, 52, 56, 53, 56, 54, 56, 55, 56, 56, 56, 57, 57, 48, 57, 49, 57, 50, 57, 51, 57, 52, 57, 53, 57, 54, 57, 55, 57, 56, 57, 57]⟩⟩)) (.tmp 77)),
 qO 79 (.indexSl 1 (.tmp 68) (.tmp 70)),
  ⟨none, .store 1 (.tmp 79) (.tmp 76), none⟩,
 qO 80 (.indexSl 1 (.tmp 71) (.tmp 73)),
  ⟨none, .store 1 (.tmp 80) (.tmp 78), none⟩] (some ⟨[], []⟩)
def f113r10 : ICode := .region [
 qM 81 0,
 qM 82 4,
 qO 83 (.bin .sub (.tmp 82) (qK 7)),
 qM 84 0,
 qM 85 4,
 qO 86 (.bin .sub (.tmp 85) (qK 8)),
 qM 87 10,
 qO 88 (.bin .add (.tmp 87) (.const (.int .u32 (.ofNat 1)))),
 qO 89 (.indexStr (.const (.string ⟨⟨[48, 48, 48, 49, 48, 50, 48, 51, 48, 52, 48, 53, 48, 54, 48, 55, 48, 56, 48, 57, 49, 48, 49, 49, 49, 50, 49, 51, 49, 52, 49, 53, 49, 54, 49, 55, 49, 56, 49, 57, 50, 48, 50, 49, 50, 50, 50, 51, 50, 52, 50, 53, 50, 54, 50, 55, 50, 56, 50, 57, 51, 48, 51, 49, 51, 50, 51, 51, 51, 52, 51, 53, 51, 54, 51, 55, 51, 56, 51, 57, 52, 48, 52, 49, 52, 50, 52, 51, 52, 52, 52, 53, 52, 54, 52, 55, 52, 56, 52, 57, 53, 48, 53, 49, 53, 50, 53, 51, 53, 52, 53, 53, 53, 54, 53, 55, 53, 56, 53, 57, 54, 48, 54, 49, 54, 50, 54, 51, 54, 52, 54, 53, 54, 54, 54, 55, 54, 56, 54, 57, 55, 48, 55, 49, 55, 50, 55, 51, 55, 52, 55, 53, 55, 54, 55, 55, 55, 56, 55, 57, 56, 48, 56, 49, 56, 50, 56, 51, 56, 52, 56, 53, 56, 54, 56, 55, 56, 56, 56, 57, 57, 48, 57, 49, 57, 50, 57, 51, 57, 52, 57, 53, 57, 54, 57, 55, 57, 56, 57, 57]⟩⟩)) (.tmp 88)),
 qM 90 10,
 qO 91 (.indexStr (.const (.string ⟨⟨[48, 48, 48, 49, 48, 50, 48, 51, 48, 52, 48, 53, 48, 54, 48, 55, 48, 56, 48, 57, 49, 48, 49, 49, 49, 50, 49, 51, 49, 52, 49, 53, 49, 54, 49, 55, 49, 56, 49, 57, 50, 48, 50, 49, 50, 50, 50, 51, 50, 52, 50, 53, 50, 54, 50, 55, 50, 56, 50, 57, 51, 48, 51, 49, 51, 50, 51, 51, 51, 52, 51, 53, 51, 54, 51, 55, 51, 56, 51, 57, 52, 48, 52, 49, 52, 50, 52, 51, 52, 52, 52, 53, 52, 54, 52, 55, 52, 56, 52, 57, 53, 48, 53, 49, 53, 50, 53, 51, 53, 52, 53, 53, 53, 54, 53, 55, 53, 56, 53, 57, 54, 48, 54, 49, 54, 50, 54, 51, 54, 52, 54, 53, 54, 54, 54, 55, 54, 56, 54, 57, 55, 48, 55, 49, 55, 50, 55, 51, 55, 52, 55, 53, 55, 54, 55, 55, 55, 56, 55, 57, 56, 48, 56, 49, 56, 50, 56, 51, 56, 52, 56, 53, 56, 54, 56, 55, 56, 56, 56, 57, 57, 48, 57, 49, 57, 50, 57, 51, 57, 52, 57, 53, 57, 54, 57, 55, 57, 56, 57, 57]⟩⟩)) (.tmp 90)),
 qO 92 (.indexSl 1 (.tmp 81) (.tmp 83)),
  ⟨none, .store 1 (.tmp 92) (.tmp 89), none⟩,
 qO 93 (.indexSl 1 (.tmp 84) (.tmp 86)),
  ⟨none, .store 1 (.tmp 93) (.tmp 91), none⟩] (some ⟨[], []⟩)
def f113r11 : ICode := .region [
 qM 94 4,
 qO 95 (.bin .sub (.tmp 94) (qK 8)),
 qM 4 95] none
def f113r12 : ICode := .region [
 qM 96 1,
 qO 97 (.conv .u32 (.tmp 96)),
 qM 12 97] none
def f113r13 : ICode := .region [
 qM 98 4,
 qO 99 (.bin .geq (.tmp 98) (qK 4))] none
def f113r14 : ICode := .region [
 qM 100 12,
 qO 101 (.bin .rem (.tmp 100) (.const (.int .u32 (.ofNat 10000)))),
 qM 13 101] none
def f113r15 : ICode := .region [
 qM 102 12,
 qO 103 (.bin .quo (.tmp 102) (.const (.int .u32 (.ofNat 10000)))),
 qM 12 103] none
def f113r16 : ICode := .region [
 qM 104 13,
 qO 105 (.bin .quo (.tmp 104) (.const (.int .u32 (.ofNat 100)))),
 qO 106 (.bin .mul (.tmp 105) (.const (.int .u32 (.ofNat 2)))),
 qM 107 13,
 qO 108 (.bin .rem (.tmp 107) (.const (.int .u32 (.ofNat 100)))),
 qO 109 (.bin .mul (.tmp 108) (.const (.int .u32 (.ofNat 2)))),
 qM 14 106,
 qM 15 109] none
def f113r17 : ICode := .region [
 qM 110 0,
 qM 111 4,
 qO 112 (.bin .sub (.tmp 111) (qK 1)),
 qM 113 0,
 qM 114 4,
 qO 115 (.bin .sub (.tmp 114) (qK 2)),
 qM 116 15,
 qO 117 (.bin .add (.tmp 116) (.const (.int .u32 (.ofNat 1)))),
 qO 118 (.indexStr (.const (.string ⟨⟨[48, 48, 48, 49, 48, 50, 48, 51, 48, 52, 48, 53, 48, 54, 48, 55, 48, 56, 48, 57, 49, 48, 49, 49, 49, 50, 49, 51, 49, 52, 49, 53, 49, 54, 49, 55, 49, 56, 49, 57, 50, 48, 50, 49, 50, 50, 50, 51, 50, 52, 50, 53, 50, 54, 50, 55, 50, 56, 50, 57, 51, 48, 51, 49, 51, 50, 51, 51, 51, 52, 51, 53, 51, 54, 51, 55, 51, 56, 51, 57, 52, 48, 52, 49, 52, 50, 52, 51, 52, 52, 52, 53, 52, 54, 52, 55, 52, 56, 52, 57, 53, 48, 53, 49, 53, 50, 53, 51, 53, 52, 53, 53, 53, 54, 53, 55, 53, 56, 53, 57, 54, 48, 54, 49, 54, 50, 54, 51, 54, 52, 54, 53, 54, 54, 54, 55, 54, 56, 54, 57, 55, 48, 55, 49, 55, 50, 55, 51, 55, 52, 55, 53, 55, 54, 55, 55, 55, 56, 55, 57, 56, 48, 56, 49, 56, 50, 56, 51, 56, 52, 56, 53, 56, 54, 56, 55, 56, 56, 56, 57, 57, 48, 57, 49, 57, 50, 57, 51, 57, 52, 57, 53, 57, 54, 57, 55, 57, 56, 57, 57]⟩⟩)) (.tmp 117)),
 qM 119 15,
 qO 120 (.indexStr (.const (.string ⟨⟨[48, 48, 48, 49, 48, 50, 48, 51, 48, 52, 48, 53, 48, 54, 48, 55, 48, 56, 48, 57, 49, 48, 49, 49, 49, 50, 49, 51, 49, 52, 49, 53, 49, 54, 49, 55, 49, 56, 49, 57, 50, 48, 50, 49, 50, 50, 50, 51, 50, 52, 50, 53, 50, 54, 50, 55, 50, 56, 50, 57, 51, 48, 51, 49, 51, 50, 51, 51, 51, 52, 51, 53, 51, 54, 51, 55, 51, 56, 51, 57, 52, 48, 52, 49, 52, 50, 52, 51, 52, 52, 52, 53, 52, 54, 52, 55, 52, 56, 52, 57, 53, 48, 53, 49, 53, 50, 53, 51, 53, 52, 53, 53, 53, 54, 53, 55, 53, 56, 53, 57, 54, 48, 54, 49, 54, 50, 54, 51, 54, 52, 54, 53, 54, 54, 54, 55, 54, 56, 54, 57, 55, 48, 55, 49, 55, 50, 55, 51, 55, 52, 55, 53, 55, 54, 55, 55, 55, 56, 55, 57, 56, 48, 56, 49, 56, 50, 56, 51, 56, 52, 56, 53, 56, 54, 56, 55, 56, 56, 56, 57, 57, 48, 57, 49, 57, 50, 57, 51, 57, 52, 57, 53, 57, 54, 57, 55, 57, 56, 57, 57]⟩⟩)) (.tmp 119)),
 qO 121 (.indexSl 1 (.tmp 110) (.tmp 112)),
  ⟨none, .store 1 (.tmp 121) (.tmp 118), none⟩,
 qO 122 (.indexSl 1 (.tmp 113) (.tmp 115)),
  ⟨none, .store 1 (.tmp 122) (.tmp 120), none⟩] (some ⟨[], []⟩)
def f113r18 : ICode := .region [
 qM 123 0,
 qM 124 4,
 qO 125 (.bin .sub (.tmp 124) (qK 3)),
 qM 126 0,
 qM 127 4,
 qO 128 (.bin .sub (.tmp 127) (qK 4)),
 qM 129 14,
 qO 130 (.bin .add (.tmp 129) (.const (.int .u32 (.ofNat 1)))),
 qO 131 (.indexStr (.const (.string ⟨⟨[48, 48, 48, 49, 48, 50, 48, 51, 48, 52, 48, 53, 48, 54, 48, 55, 48, 56, 48, 57, 49, 48, 49, 49, 49, 50, 49, 51, 49, 52, 49, 53, 49, 54, 49, 55, 49, 56, 49, 57, 50, 48, 50, 49, 50, 50, 50, 51, 50, 52, 50, 53, 50, 54, 50, 55, 50, 56, 50, 57, 51, 48, 51, 49, 51, 50, 51, 51, 51, 52, 51, 53, 51, 54, 51, 55, 51, 56, 51, 57, 52, 48, 52, 49, 52, 50, 52, 51, 52, 52, 52, 53, 52, 54, 52, 55, 52, 56, 52, 57, 53, 48, 53, 49, 53, 50, 53, 51, 53, 52, 53, 53, 53, 54, 53, 55, 53, 56, 53, 57, 54, 48, 54, 49, 54, 50, 54, 51, 54, 52, 54, 53, 54, 54, 54, 55, 54, 56, 54, 57, 55, 48, 55, 49, 55, 50, 55, 51, 55, 52, 55, 53, 55, 54, 55, 55, 55, 56, 55, 57, 56, 48, 56, 49, 56, 50, 56, 51, 56, 52, 56, 53, 56, 54, 56, 55, 56, 56, 56, 57, 57, 48, 57, 49, 57, 50, 57, 51, 57, 52, 57, 53, 57, 54, 57, 55, 57, 56, 57, 57]⟩⟩)) (.tmp 130)),
 qM 132 14,
 qO 133 (.indexStr (.const (.string ⟨⟨[48, 48, 48, 49, 48, 50, 48, 51, 48, 52, 48, 53, 48, 54, 48, 55, 48, 56, 48, 57, 49, 48, 49, 49, 49, 50, 49, 51, 49, 52, 49, 53, 49, 54, 49, 55, 49, 56, 49, 57, 50, 48, 50, 49, 50, 50, 50, 51, 50, 52, 50, 53, 50, 54, 50, 55, 50, 56, 50, 57, 51, 48, 51, 49, 51, 50, 51, 51, 51, 52, 51, 53, 51, 54, 51, 55, 51, 56, 51, 57, 52, 48, 52, 49, 52, 50, 52, 51, 52, 52, 52, 53, 52, 54, 52, 55, 52, 56, 52, 57, 53, 48, 53, 49, 53, 50, 53, 51, 53, 52, 53, 53, 53, 54, 53, 55, 53, 56, 53, 57, 54, 48, 54, 49, 54, 50, 54, 51, 54, 52, 54, 53, 54, 54, 54, 55, 54, 56, 54, 57, 55, 48, 55, 49, 55, 50, 55, 51, 55, 52, 55, 53, 55, 54, 55, 55, 55, 56, 55, 57, 56, 48, 56, 49, 56, 50, 56, 51, 56, 52, 56, 53, 56, 54, 56, 55, 56, 56, 56, 57, 57, 48, 57, 49, 57, 50, 57, 51, 57, 52, 57, 53, 57, 54, 57, 55, 57, 56, 57, 57]⟩⟩)) (.tmp 132)),
 qO 134 (.indexSl 1 (.tmp 123) (.tmp 125)),
  ⟨none, .store 1 (.tmp 134) (.tmp 131), none⟩,
 qO 135 (.indexSl 1 (.tmp 126) (.tmp 128)),
  ⟨none, .store 1 (.tmp 135) (.tmp 133), none⟩] (some ⟨[], []⟩)
def f113r19 : ICode := .region [
 qM 136 4,
 qO 137 (.bin .sub (.tmp 136) (qK 4)),
 qM 4 137] none
def f113r20 : ICode := .region [
 qM 138 4,
 qO 139 (.bin .geq (.tmp 138) (qK 2))] none
def f113r21 : ICode := .region [
 qM 140 12,
 qO 141 (.bin .rem (.tmp 140) (.const (.int .u32 (.ofNat 100)))),
 qO 142 (.bin .mul (.tmp 141) (.const (.int .u32 (.ofNat 2)))),
 qM 16 142] none
def f113r22 : ICode := .region [
 qM 143 12,
 qO 144 (.bin .quo (.tmp 143) (.const (.int .u32 (.ofNat 100)))),
 qM 12 144] none
def f113r23 : ICode := .region [
 qM 145 0,
 qM 146 4,
 qO 147 (.bin .sub (.tmp 146) (qK 1)),
 qM 148 0,
 qM 149 4,
 qO 150 (.bin .sub (.tmp 149) (qK 2)),
 qM 151 16,
 qO 152 (.bin .add (.tmp 151) (.const (.int .u32 (.ofNat 1)))),
 qO 153 (.indexStr (.const (.string ⟨⟨[48, 48, 48, 49, 48, 50, 48, 51, 48, 52, 48, 53, 48, 54, 48, 55, 48, 56, 48, 57, 49, 48, 49, 49, 49, 50, 49, 51, 49, 52, 49, 53, 49, 54, 49, 55, 49, 56, 49, 57, 50, 48, 50, 49, 50, 50, 50, 51, 50, 52, 50, 53, 50, 54, 50, 55, 50, 56, 50, 57, 51, 48, 51, 49, 51, 50, 51, 51, 51, 52, 51, 53, 51, 54, 51, 55, 51, 56, 51, 57, 52, 48, 52, 49, 52, 50, 52, 51, 52, 52, 52, 53, 52, 54, 52, 55, 52, 56, 52, 57, 53, 48, 53, 49, 53, 50, 53, 51, 53, 52, 53, 53, 53, 54, 53, 55, 53, 56, 53, 57, 54, 48, 54, 49, 54, 50, 54, 51, 54, 52, 54, 53, 54, 54, 54, 55, 54, 56, 54, 57, 55, 48, 55, 49, 55, 50, 55, 51, 55, 52, 55, 53, 55, 54, 55, 55, 55, 56, 55, 57, 56, 48, 56, 49, 56, 50, 56, 51, 56, 52, 56, 53, 56, 54, 56, 55, 56, 56, 56, 57, 57, 48, 57, 49, 57, 50, 57, 51, 57, 52, 57, 53, 57, 54, 57, 55, 57, 56, 57, 57]⟩⟩)) (.tmp 152)),
 qM 154 16,
 qO 155 (.indexStr (.const (.string ⟨⟨[48, 48, 48, 49, 48, 50, 48, 51, 48, 52, 48, 53, 48, 54, 48, 55, 48, 56, 48, 57, 49, 48, 49, 49, 49, 50, 49, 51, 49, 52, 49, 53, 49, 54, 49, 55, 49, 56, 49, 57, 50, 48, 50, 49, 50, 50, 50, 51, 50, 52, 50, 53, 50, 54, 50, 55, 50, 56, 50, 57, 51, 48, 51, 49, 51, 50, 51, 51, 51, 52, 51, 53, 51, 54, 51, 55, 51, 56, 51, 57, 52, 48, 52, 49, 52, 50, 52, 51, 52, 52, 52, 53, 52, 54, 52, 55, 52, 56, 52, 57, 53, 48, 53, 49, 53, 50, 53, 51, 53, 52, 53, 53, 53, 54, 53, 55, 53, 56, 53, 57, 54, 48, 54, 49, 54, 50, 54, 51, 54, 52, 54, 53, 54, 54, 54, 55, 54, 56, 54, 57, 55, 48, 55, 49, 55, 50, 55, 51, 55, 52, 55, 53, 55, 54, 55, 55, 55, 56, 55, 57, 56, 48, 56, 49, 56, 50, 56, 51, 56, 52, 56, 53, 56, 54, 56, 55, 56, 56, 56, 57, 57, 48, 57, 49, 57, 50, 57, 51, 57, 52, 57, 53, 57, 54, 57, 55, 57, 56, 57, 57]⟩⟩)) (.tmp 154)),
 qO 156 (.indexSl 1 (.tmp 145) (.tmp 147)),
  ⟨none, .store 1 (.tmp 156) (.tmp 153), none⟩,
 qO 157 (.indexSl 1 (.tmp 148) (.tmp 150)),
  ⟨none, .store 1 (.tmp 157) (.tmp 155), none⟩] (some ⟨[], []⟩)
def f113r24 : ICode := .region [
 qM 158 4,
 qO 159 (.bin .sub (.tmp 158) (qK 2)),
 qM 4 159] none
def f113r25 : ICode := .region [
 qM 160 4,
 qO 161 (.bin .gtr (.tmp 160) (qK 0))] none
def f113r26 : ICode := .region [
 qM 162 0,
 qM 163 12,
 qO 164 (.bin .add (.const (.int .u32 (.ofNat 48))) (.tmp 163)),
 qO 165 (.conv .u8 (.tmp 164)),
 qO 166 (.indexSl 1 (.tmp 162) (qK 0)),
  ⟨none, .store 1 (.tmp 166) (.tmp 165), none⟩] none
/- internal/strconv.formatBase10 -/
def f113 : IFn := ⟨167, [], (.seq f113r0 (.seq (.block 0 (.loop (.seq (.seq f113r1 (.cond (.tmp 20) .skip (.exit 0))) (.block 1 (.seq f113r2 (.seq f113r3 (.seq f113r4 (.seq f113r5 (.seq f113r6 (.seq f113r7 (.seq f113r8 (.seq f113r9 (.seq f113r10 f113r11))))))))))))) (.seq f113r12 (.seq (.seq f113r13 (.cond (.tmp 99) (.seq f113r14 (.seq f113r15 (.seq f113r16 (.seq f113r17 (.seq f113r18 f113r19))))) .skip)) (.seq (.seq f113r20 (.cond (.tmp 139) (.seq f113r21 (.seq f113r22 (.seq f113r23 f113r24))) .skip)) (.seq f113r25 (.cond (.tmp 161) f113r26 .skip)))))))⟩
def f114r0 : ICode := .region [
 qO 10 (.move (.const (.slice none 0 0))),
 qO 11 (.move (.const (.string ⟨⟨[]⟩⟩)))] none
def f114r1 : ICode := .region [
 qM 19 2,
 qO 20 (.bin .lss (.tmp 19) (qK 2)),
 qM 21 20,
  ⟨(some 22), .move (.tmp 2), (some ((some 21), false))⟩,
  ⟨(some 23), .bin .eql (.tmp 22) (qK 10), (some ((some 21), false))⟩,
 qO 24 (.pick (.tmp 21) (.const (.bool true)) (.tmp 23)),
 qM 25 24,
  ⟨(some 26), .move (.tmp 2), (some ((some 25), false))⟩,
  ⟨(some 27), .bin .gtr (.tmp 26) (qK 36), (some ((some 25), false))⟩,
 qO 28 (.pick (.tmp 25) (.const (.bool true)) (.tmp 27))] none
def f114r2 : ICode := .region [
 qO 29 (.mkIface 9 (.const (.string ⟨⟨[115, 116, 114, 99, 111, 110, 118, 58, 32, 105, 108, 108, 101, 103, 97, 108, 32, 65, 112, 112, 101, 110, 100, 73, 110, 116, 47, 70, 111, 114, 109, 97, 116, 73, 110, 116, 32, 98, 97, 115, 101]⟩⟩))),
  ⟨none, .bad, none⟩] none
def f114r3 : ICode := .region [
 qO 12 (.new [(.int .u8 (.ofNat 0)), (.int .u8 (.ofNat 0)), (.int .u8 (.ofNat 0)), (.int .u8 (.ofNat 0)), (.int .u8 (.ofNat 0)), (.int .u8 (.ofNat 0)), (.int .u8 (.ofNat 0)), (.int .u8 (.ofNat 0)), (.int .u8 (.ofNat 0)), (.int .u8 (.ofNat 0)), (.int .u8 (.ofNat 0)), (.int .u8 (.ofNat 0)), (.int .u8 (.ofNat 0)), (.int .u8 (.ofNat 0)), (.int .u8 (.ofNat 0)), (.int .u8 (.ofNat 0)), (.int .u8 (.ofNat 0)), (.int .u8 (.ofNat 0)), (.int .u8 (.ofNat 0)), (.int .u8 (.ofNat 0)), (.int .u8 (.ofNat 0)), (.int .u8 (.ofNat 0)), (.int .u8 (.ofNat 0)), (.int .u8 (.ofNat 0)), (.int .u8 (.ofNat 0)), (.int .u8 (.ofNat 0)), (.int .u8 (.ofNat 0)), (.int .u8 (.ofNat 0)), (.int .u8 (.ofNat 0)), (.int .u8 (.ofNat 0)), (.int .u8 (.ofNat 0)), (.int .u8 (.ofNat 0)), (.int .u8 (.ofNat 0)), (.int .u8 (.ofNat 0)), (.int .u8 (.ofNat 0)), (.int .u8 (.ofNat 0)), (.int .u8 (.ofNat 0)), (.int .u8 (.ofNat 0)), (.int .u8 (.ofNat 0)), (.int .u8 (.ofNat 0)), (.int .u8 (.ofNat 0)), (.int .u8 (.ofNat 0)), (.int .u8 (.ofNat 0)), (.int .u8 (.ofNat 0)), (.int .u8 (.ofNat 0)), (.int .u8 (.ofNat 0)), (.int .u8 (.ofNat 0)), (.int .u8 (.ofNat 0)), (.int .u8 (.ofNat 0)), (.int .u8 (.ofNat 0)), (.int .u8 (.ofNat 0)), (.int .u8 (.ofNat 0)), (.int .u8 (.ofNat 0)), (.int .u8 (.ofNat 0)), (.int .u8 (.ofNat 0)), (.int .u8 (.ofNat 0)), (.int .u8 (.ofNat 0)), (.int .u8 (.ofNat 0)), (.int .u8 (.ofNat 0)), (.int .u8 (.ofNat 0)), (.int .u8 (.ofNat 0)), (.int .u8 (.ofNat 0)), (.int .u8 (.ofNat 0)), (.int .u8 (.ofNat 0)), (.int .u8 (.ofNat 0))] 186)] none
def f114r4 : ICode := .region [
 qO 13 (.move (qK 65))] none
def f114r5 : ICode := .region [
 qM 30 3] none
def f114r6 : ICode := .region [
 qM 31 1,
 qO 32 (.un .neg (.tmp 31)),
 qM 1 32] none
def f114r7 : ICode := .region [
 qM 33 2,
 qO 34 (.call 142 [(.tmp 33)])] none
def f114r8 : ICode := .region [
 qM 35 2,
 qO 36 (.conv .u64 (.tmp 35)),
 qO 37 (.call 143 [(.tmp 36)]),
 qO 38 (.conv .u64 (.tmp 37)),
 qM 14 38] none
def f114r9 : ICode := .region [
 qM 39 2,
 qO 40 (.conv .u64 (.tmp 39)),
 qM 15 40] none
def f114r10 : ICode := .region [
 qM 41 2,
 qO 42 (.conv .u64 (.tmp 41)),
 qO 43 (.bin .sub (.tmp 42) (.const (.int .u64 (.ofNat 1)))),
 qM 16 43] none
def f114r11 : ICode := .region [
 qM 44 1,
 qM 45 15,
 qO 46 (.bin .geq (.tmp 44) (.tmp 45))] none
def f114r12 : ICode := .region [
 qM 47 13,
 qO 48 (.bin .sub (.tmp 47) (qK 1)),
 qM 13 48] none
def f114r13 : ICode := .region [
 qM 49 13,
 qM 50 1,
 qM 51 16,
 qO 52 (.bin .and (.tmp 50) (.tmp 51)),
 qO 53 (.indexStr (.const (.string ⟨⟨[48, 49, 50, 51, 52, 53, 54, 55, 56, 57, 97, 98, 99, 100, 101, 102, 103, 104, 105, 106, 107, 108, 109, 110, 111, 112, 113, 114, 115, 116, 117, 118, 119, 120, 121, 122]⟩⟩)) (.tmp 52)),
 qO 54 (.indexArrA 65 1 (.tmp 12) (.tmp 49)),
  ⟨none, .store 1 (.tmp 54) (.tmp 53), none⟩] none
def f114r14 : ICode := .region [
 qM 55 1,
 qM 56 14,
 qO 57 (.bin .shr (.tmp 55) (.tmp 56)),
 qM 1 57] none
def f114r15 : ICode := .region [
 qM 58 13,
 qO 59 (.bin .sub (.tmp 58) (qK 1)),
 qM 13 59] none
def f114r16 : ICode := .region [
 qM 60 13,
 qM 61 1,
 qO 62 (.indexStr (.const (.string ⟨⟨[48, 49, 50, 51, 52, 53, 54, 55, 56, 57, 97, 98, 99, 100, 101, 102, 103, 104, 105, 106, 107, 108, 109, 110, 111, 112, 113, 114, 115, 116, 117, 118, 119, 120, 121, 122]⟩⟩)) (.tmp 61)),
 qO 63 (.indexArrA 65 1 (.tmp 12) (.tmp 60)),
  ⟨none, .store 1 (.tmp 63) (.tmp 62), none⟩] none
def f114r17 : ICode := .region [
 qM 64 2,
 qO 65 (.conv .u64 (.tmp 64)),
 qM 17 65] none
def f114r18 : ICode := .region [
 qM 66 1,
 qM 67 17,
 qO 68 (.bin .geq (.tmp 66) (.tmp 67))] none
def f114r19 : ICode := .region [
 qM 69 13,
 qO 70 (.bin .sub (.tmp 69) (qK 1)),
 qM 13 70] none
def f114r20 : ICode := .region [
 qM 71 1,
 qM 72 17,
 qO 73 (.bin .quo (.tmp 71) (.tmp 72)),
 qM 18 73] none
def f114r21 : ICode := .region [
 qM 74 13,
 qM 75 1,
 qM 76 18,
 qM 77 17,
 qO 78 (.bin .mul (.tmp 76) (.tmp 77)),
 qO 79 (.bin .sub (.tmp 75) (.tmp 78)),
 qO 80 (.indexStr (.const (.string ⟨⟨[48, 49, 50, 51, 52, 53, 54, 55, 56, 57, 97, 98, 99, 100, 101, 102, 103, 104, 105, 106, 107, 108, 109, 110, 111, 112, 113, 114, 115, 116, 117, 118, 119, 120, 121, 122]⟩⟩)) (.tmp 79)),
 qO 81 (.indexArrA 65 1 (.tmp 12) (.tmp 74)),
  ⟨none, .store 1 (.tmp 81) (.tmp 80), none⟩] none
def f114r22 : ICode := .region [
 qM 82 18,
 qM 1 82] none
def f114r23 : ICode := .region [
 qM 83 13,
 qO 84 (.bin .sub (.tmp 83) (qK 1)),
 qM 13 84] none
def f114r24 : ICode := .region [
 qM 85 13,
 qM 86 1,
 qO 87 (.indexStr (.const (.string ⟨⟨[48, 49, 50, 51, 52, 53, 54, 55, 56, 57, 97, 98, 99, 100, 101, 102, 103, 104, 105, 106, 107, 108, 109, 110, 111, 112, 113, 114, 115, 116, 117, 118, 119, 120, 121, 122]⟩⟩)) (.tmp 86)),
 qO 88 (.indexArrA 65 1 (.tmp 12) (.tmp 85)),
  ⟨none, .store 1 (.tmp 88) (.tmp 87), none⟩] none
def f114r25 : ICode := .region [
 qM 89 3] none
def f114r26 : ICode := .region [
 qM 90 13,
 qO 91 (.bin .sub (.tmp 90) (qK 1)),
 qM 13 91] none
def f114r27 : ICode := .region [
 qM 92 13,
 qO 93 (.indexArrA 65 1 (.tmp 12) (.tmp 92)),
  ⟨none, .store 1 (.tmp 93) (.const (.int .u8 (.ofNat 45))), none⟩] none
def f114r28 : ICode := .region [
 qM 94 4] none
def f114r29 : ICode := .region [
 qM 95 0,
 qM 96 13,
 qO 97 (.sliceArr 65 1 (.tmp 12) (some (.tmp 96)) none),
 qO 98 (.append 5 1 1 (.tmp 95) (.tmp 97)),
 qM 10 98] none
def f114r30 : ICode := .region [
 qM 99 13,
 qO 100 (.sliceArr 65 1 (.tmp 12) (some (.tmp 99)) none),
 qO 101 (.bytesToStr (.tmp 100)),
 qM 11 101] none
/- internal/strconv.formatBits -/
def f114 : IFn := ⟨102, [.inl 10, .inl 11], (.seq f114r0 (.seq (.seq f114r1 (.cond (.tmp 28) f114r2 .skip)) (.seq f114r3 (.seq f114r4 (.seq (.seq f114r5 (.cond (.tmp 30) f114r6 .skip)) (.seq (.seq f114r7 (.cond (.tmp 34) (.seq f114r8 (.seq f114r9 (.seq f114r10 (.seq (.block 0 (.loop (.seq (.seq f114r11 (.cond (.tmp 46) .skip (.exit 0))) (.block 1 (.seq f114r12 (.seq f114r13 f114r14)))))) (.seq f114r15 f114r16))))) (.seq f114r17 (.seq (.block 2 (.loop (.seq (.seq f114r18 (.cond (.tmp 68) .skip (.exit 2))) (.block 3 (.seq f114r19 (.seq f114r20 (.seq f114r21 f114r22))))))) (.seq f114r23 f114r24))))) (.seq (.seq f114r25 (.cond (.tmp 89) (.seq f114r26 f114r27) .skip)) (.seq (.seq f114r28 (.cond (.tmp 94) (.seq f114r29 .ret) .skip)) (.seq f114r30 .ret)))))))))⟩
def f76r0 : ICode := .region [
 qO 4 (.move (qK 0))] none
def f76r1 : ICode := .region [
 qM 5 0,
 qO 6 (.bin .add (.tmp 5) (qK 1)),
 qO 7 (.load1 (.tmp 1)),
 qO 8 (.len 0 (.tmp 7)),
 qO 9 (.bin .geq (.tmp 6) (.tmp 8))] none
def f76r2 : ICode := .region [
 qO 4 (.move (.const (.int .i64 (.negSucc 0))))] none
def f76r3 : ICode := .region [
 qO 10 (.load1 (.tmp 2))] none
def f76r4 : ICode := .region [
 qO 11 (.load1 (.tmp 1)),
 qM 12 0,
 qO 13 (.indexStr (.tmp 11) (.tmp 12)),
 qO 14 (.conv .i64 (.tmp 13)),
 qO 15 (.bin .shl (.tmp 14) (.const (.int .u64 (.ofNat 8)))),
 qO 16 (.load1 (.tmp 1)),
 qM 17 0,
 qO 18 (.bin .add (.tmp 17) (qK 1)),
 qO 19 (.indexStr (.tmp 16) (.tmp 18)),
 qO 20 (.conv .i64 (.tmp 19)),
 qO 21 (.bin .or (.tmp 15) (.tmp 20)),
 qM 4 21] (some ⟨[], []⟩)
def f76r5 : ICode := .region [
 qO 22 (.load1 (.tmp 1)),
 qM 23 0,
 qO 24 (.bin .add (.tmp 23) (qK 1)),
 qO 25 (.indexStr (.tmp 22) (.tmp 24)),
 qO 26 (.conv .i64 (.tmp 25)),
 qO 27 (.bin .shl (.tmp 26) (.const (.int .u64 (.ofNat 8)))),
 qO 28 (.load1 (.tmp 1)),
 qM 29 0,
 qO 30 (.indexStr (.tmp 28) (.tmp 29)),
 qO 31 (.conv .i64 (.tmp 30)),
 qO 32 (.bin .or (.tmp 27) (.tmp 31)),
 qM 4 32] (some ⟨[], []⟩)
/- ferret/coding.wide$1 -/
def f76 : IFn := ⟨33, [.inl 4], (.seq f76r0 (.seq (.seq f76r1 (.cond (.tmp 9) (.seq f76r2 .ret) .skip)) (.seq (.seq f76r3 (.cond (.tmp 10) (.seq f76r4 .ret) .skip)) (.seq f76r5 .ret))))⟩
def f94r0 : ICode := .region [
 qO 4 (.move (.const (.string ⟨⟨[]⟩⟩)))] none
def f94r1 : ICode := .region [
 qM 7 0,
 qO 8 (.call 39 [(.tmp 7), (.const (.string ⟨⟨[60]⟩⟩))]),
 qO 9 (.un .not (.tmp 8))] none
def f94r2 : ICode := .region [
 qM 10 0,
 qM 11 1,
 qO 12 (.call 60 [(.tmp 10), (qK 25), (.tmp 11)])] none
def f94r3 : ICode := .region [
 qO 5 (.move (.const (.slice none 0 0)))] none
def f94r4 : ICode := .region [
 qM 13 0,
 qO 14 (.call 59 [(.tmp 13), (qK 0)]),
 qM 6 14] none
def f94r5 : ICode := .region [
 qM 15 6,
 qO 16 (.bin .geq (.tmp 15) (qK 48)),
 qM 17 16,
  ⟨(some 18), .move (.tmp 6), (some ((some 17), true))⟩,
  ⟨(some 19), .bin .leq (.tmp 18) (qK 57), (some ((some 17), true))⟩,
 qO 20 (.pick (.tmp 17) (.tmp 19) (.const (.bool false))),
 qM 21 20,
  ⟨(some 22), .move (.tmp 6), (some ((some 21), false))⟩,
  ⟨(some 23), .bin .geq (.tmp 22) (qK 65), (some ((some 21), false))⟩,
  ⟨(some 24), .move (.tmp 23), (some ((some 21), false))⟩,
  ⟨(some 25), .move (.tmp 6), (some ((some 24), true))⟩,
  ⟨(some 26), .bin .leq (.tmp 25) (qK 90), (some ((some 24), true))⟩,
  ⟨(some 27), .pick (.tmp 24) (.tmp 26) (.const (.bool false)), (some ((some 21), false))⟩,
 qO 28 (.pick (.tmp 21) (.const (.bool true)) (.tmp 27)),
 qM 29 28,
  ⟨(some 30), .move (.tmp 6), (some ((some 29), false))⟩,
  ⟨(some 31), .bin .geq (.tmp 30) (qK 97), (some ((some 29), false))⟩,
  ⟨(some 32), .move (.tmp 31), (some ((some 29), false))⟩,
  ⟨(some 33), .move (.tmp 6), (some ((some 32), true))⟩,
  ⟨(some 34), .bin .leq (.tmp 33) (qK 122), (some ((some 32), true))⟩,
  ⟨(some 35), .pick (.tmp 32) (.tmp 34) (.const (.bool false)), (some ((some 29), false))⟩,
 qO 36 (.pick (.tmp 29) (.const (.bool true)) (.tmp 35)),
 qM 37 36,
  ⟨(some 38), .move (.tmp 6), (some ((some 37), false))⟩,
  ⟨(some 39), .bin .eql (.tmp 38) (qK 95), (some ((some 37), false))⟩,
 qO 40 (.pick (.tmp 37) (.const (.bool true)) (.tmp 39))] none
def f94r6 : ICode := .region [
 qM 43 5,
 qM 44 6,
 qO 45 (.conv .u8 (.tmp 44)),
 qO 46 (.buildSlice 5 1 [(.int .u8 (.ofNat 0))] [(0, 1, (.tmp 45))]),
 qO 47 (.append 5 1 1 (.tmp 43) (.tmp 46)),
 qM 5 47] none
def f94r7 : ICode := .region [
 qM 48 0,
 qO 49 (.nilCheck (.tmp 48)),
 qO 50 (.fieldAddr 4 (.tmp 49)),
 qO 51 (.load1 (.tmp 50)),
 qO 52 (.bin .add (.tmp 51) (qK 1)),
 qO 53 (.nilCheck (.tmp 48)),
 qO 54 (.fieldAddr 4 (.tmp 53)),
  ⟨none, .store 1 (.tmp 54) (.tmp 52), none⟩] none
def f94r8 : ICode := .region [
 qM 41 0,
 qO 42 (.call 59 [(.tmp 41), (qK 0)]),
 qM 6 42] none
def f94r9 : ICode := .region [
 qM 55 0,
 qO 56 (.call 39 [(.tmp 55), (.const (.string ⟨⟨[62]⟩⟩))]),
 qO 57 (.un .not (.tmp 56)),
 qM 58 57,
  ⟨(some 59), .move (.tmp 5), (some ((some 58), false))⟩,
  ⟨(some 60), .len 1 (.tmp 59), (some ((some 58), false))⟩,
  ⟨(some 61), .bin .eql (.tmp 60) (qK 0), (some ((some 58), false))⟩,
 qO 62 (.pick (.tmp 58) (.const (.bool true)) (.tmp 61)),
 qM 63 62,
  ⟨(some 64), .move (.tmp 5), (some ((some 63), false))⟩,
  ⟨(some 65), .len 1 (.tmp 64), (some ((some 63), false))⟩,
  ⟨(some 66), .bin .gtr (.tmp 65) (qK 32), (some ((some 63), false))⟩,
 qO 67 (.pick (.tmp 63) (.const (.bool true)) (.tmp 66)),
 qM 68 67,
  ⟨(some 69), .move (.tmp 0), (some ((some 68), false))⟩,
  ⟨(some 70), .nilCheck (.tmp 69), (some ((some 68), false))⟩,
  ⟨(some 71), .fieldAddr 6 (.tmp 70), (some ((some 68), false))⟩,
  ⟨(some 72), .load1 (.tmp 71), (some ((some 68), false))⟩,
  ⟨(some 73), .move (.tmp 5), (some ((some 68), false))⟩,
  ⟨(some 74), .bytesToStr (.tmp 73), (some ((some 68), false))⟩,
  ⟨(some 75), .call 115 [(.tmp 72), (.tmp 74)], (some ((some 68), false))⟩,
 qO 76 (.pick (.tmp 68) (.const (.bool true)) (.tmp 75))] (some ⟨[], []⟩)
def f94r10 : ICode := .region [
 qM 77 0,
 qM 78 1,
 qO 79 (.call 60 [(.tmp 77), (qK 25), (.tmp 78)])] none
def f94r11 : ICode := .region [
 qM 80 5,
 qO 81 (.bytesToStr (.tmp 80)),
 qM 4 81] none
/- (*ferret/syn.parser).name -/
def f94 : IFn := ⟨82, [.inl 4], (.seq f94r0 (.seq (.seq f94r1 (.cond (.tmp 9) f94r2 .skip)) (.seq f94r3 (.seq (.seq f94r4 (.block 0 (.loop (.seq (.seq f94r5 (.cond (.tmp 40) .skip (.exit 0))) (.seq (.block 1 (.seq f94r6 f94r7)) f94r8))))) (.seq (.seq f94r9 (.cond (.tmp 76) f94r10 .skip)) (.seq f94r11 .ret))))))⟩
def f95r0 : ICode := .region [
 qO 4 (.move (qK 0))] none
def f95r1 : ICode := .region [
 qM 5 0,
 qM 6 0,
 qO 7 (.nilCheck (.tmp 6)),
 qO 8 (.fieldAddr 6 (.tmp 7)),
 qO 9 (.load1 (.tmp 8)),
 qM 10 1,
 qO 11 (.buildSlice 9 1 [(.string ⟨⟨[]⟩⟩)] [(0, 1, (.tmp 10))]),
 qO 12 (.append 9 1 16 (.tmp 9) (.tmp 11)),
 qO 13 (.nilCheck (.tmp 5)),
 qO 14 (.fieldAddr 6 (.tmp 13)),
  ⟨none, .store 1 (.tmp 14) (.tmp 12), none⟩] none
def f95r2 : ICode := .region [
 qM 15 0,
 qO 16 (.nilCheck (.tmp 15)),
 qO 17 (.fieldAddr 6 (.tmp 16)),
 qO 18 (.load1 (.tmp 17)),
 qO 19 (.len 1 (.tmp 18)),
 qO 20 (.bin .sub (.tmp 19) (qK 1)),
 qM 4 20] none
/- (*ferret/syn.parser).group -/
def f95 : IFn := ⟨21, [.inl 4], (.seq f95r0 (.seq f95r1 (.seq f95r2 .ret)))⟩
def f96r0 : ICode := .region [
 qO 4 (.move (.const (.bool false)))] none
def f96r1 : ICode := .region [
 qO 5 (.move (.const (.bool true))),
 qO 6 (.move (.const (.bool false)))] none
def f96r2 : ICode := .region [
 qM 10 0,
 qO 11 (.nilCheck (.tmp 10)),
 qO 12 (.fieldAddr 7 (.tmp 11)),
 qO 13 (.loadN 4 (.tmp 12)),
 qO 7 (.new [(.bool false), (.bool false), (.bool false), (.bool false)] 38),
  ⟨none, .store 4 (.tmp 7) (.tmp 13), none⟩] none
def f96r3 : ICode := .region [
 qO 8 (.new [(.slice none 0 0), (.slice none 0 0)] 168)] none
def f96r4 : ICode := .region [
 qM 14 0,
 qO 15 (.call 59 [(.tmp 14), (qK 0)]),
 qM 9 15] none
def f96r5 : ICode := .region [
 qM 16 0,
 qO 17 (.nilCheck (.tmp 16)),
 qO 18 (.fieldAddr 4 (.tmp 17)),
 qO 19 (.load1 (.tmp 18)),
 qO 20 (.bin .add (.tmp 19) (qK 1)),
 qO 21 (.nilCheck (.tmp 16)),
 qO 22 (.fieldAddr 4 (.tmp 21)),
  ⟨none, .store 1 (.tmp 22) (.tmp 20), none⟩] none
def f96r6 : ICode := .region [
 qM 27 9,
 qO 28 (.bin .eql (.tmp 27) (qK 45)),
 qM 29 28,
  ⟨(some 30), .move (.tmp 5), (some ((some 29), true))⟩,
 qO 31 (.pick (.tmp 29) (.tmp 30) (.const (.bool false))),
 qM 26 31] none
def f96r7 : ICode := .region [
 qO 5 (.move (.const (.bool false)))] none
def f96r8 : ICode := .region [
 qM 33 9,
 qO 34 (.bin .geq (.tmp 33) (qK 0)),
 qM 35 34,
  ⟨(some 36), .move (.tmp 9), (some ((some 35), true))⟩,
  ⟨(some 37), .bin .lss (.tmp 36) (qK 128), (some ((some 35), true))⟩,
 qO 38 (.pick (.tmp 35) (.tmp 37) (.const (.bool false))),
 qM 39 38,
  ⟨(some 40), .move (.tmp 9), (some ((some 39), true))⟩,
  ⟨(some 41), .conv .u8 (.tmp 40), (some ((some 39), true))⟩,
  ⟨(some 42), .call 102 [(.const (.string ⟨⟨[105, 109, 115, 85]⟩⟩)), (.tmp 41)], (some ((some 39), true))⟩,
  ⟨(some 43), .bin .geq (.tmp 42) (qK 0), (some ((some 39), true))⟩,
 qO 44 (.pick (.tmp 39) (.tmp 43) (.const (.bool false))),
 qM 45 44,
  ⟨(some 46), .move (.tmp 5), (some ((some 45), true))⟩,
  ⟨(some 47), .call 81 [(.tmp 46), (qK 0), (qK 1)], (some ((some 45), true))⟩,
  ⟨(some 48), .indexArrA 2 1 (.tmp 8) (.tmp 47), (some ((some 45), true))⟩,
  ⟨(some 49), .load1 (.tmp 48), (some ((some 45), true))⟩,
  ⟨(some 50), .move (.tmp 9), (some ((some 45), true))⟩,
  ⟨(some 51), .call 26 [(.tmp 49), (.tmp 50)], (some ((some 45), true))⟩,
  ⟨(some 52), .un .not (.tmp 51), (some ((some 45), true))⟩,
 qO 53 (.pick (.tmp 45) (.tmp 52) (.const (.bool false))),
 qM 32 53] none
def f96r9 : ICode := .region [
 qM 54 5,
 qO 55 (.call 81 [(.tmp 54), (qK 0), (qK 1)]),
 qM 56 5,
 qO 57 (.call 81 [(.tmp 56), (qK 0), (qK 1)]),
 qO 58 (.indexArrA 2 1 (.tmp 8) (.tmp 57)),
 qO 59 (.load1 (.tmp 58)),
 qM 60 9,
 qO 61 (.buildSlice 3 1 [qZ] [(0, 1, (.tmp 60))]),
 qO 62 (.append 3 1 8 (.tmp 59) (.tmp 61)),
 qO 63 (.indexArrA 2 1 (.tmp 8) (.tmp 55)),
  ⟨none, .store 1 (.tmp 63) (.tmp 62), none⟩] none
def f96r10 : ICode := .region [
 qO 6 (.move (.const (.bool true)))] none
def f96r11 : ICode := .region [
 qM 64 9,
 qO 65 (.call 116 [(.tmp 7), (.tmp 64)]),
 qM 66 5,
 qO 67 (.nilCheck (.tmp 65)),
  ⟨none, .store 1 (.tmp 67) (.tmp 66), none⟩] none
def f96r12 : ICode := .region [
 qM 69 9,
 qO 70 (.bin .eql (.tmp 69) (qK 58)),
 qM 71 70,
  ⟨(some 72), .move (.tmp 9), (some ((some 71), false))⟩,
  ⟨(some 73), .bin .eql (.tmp 72) (qK 41), (some ((some 71), false))⟩,
 qO 74 (.pick (.tmp 71) (.const (.bool true)) (.tmp 73)),
 qM 75 74,
  ⟨(some 76), .move (.tmp 6), (some ((some 75), true))⟩,
  ⟨(some 77), .move (.tmp 76), (some ((some 75), true))⟩,
  ⟨(some 78), .move (.tmp 9), (some ((some 77), false))⟩,
  ⟨(some 79), .bin .eql (.tmp 78) (qK 58), (some ((some 77), false))⟩,
  ⟨(some 80), .move (.tmp 79), (some ((some 77), false))⟩,
  ⟨(some 81), .move (.tmp 5), (some ((some 80), true))⟩,
  ⟨(some 82), .pick (.tmp 80) (.tmp 81) (.const (.bool false)), (some ((some 77), false))⟩,
  ⟨(some 83), .pick (.tmp 77) (.const (.bool true)) (.tmp 82), (some ((some 75), true))⟩,
 qO 84 (.pick (.tmp 75) (.tmp 83) (.const (.bool false))),
 qM 68 84] none
def f96r13 : ICode := .region [
 qM 85 0,
 qO 86 (.loadN 4 (.tmp 7)),
 qO 87 (.nilCheck (.tmp 85)),
 qO 88 (.fieldAddr 7 (.tmp 87)),
  ⟨none, .store 4 (.tmp 88) (.tmp 86), none⟩] none
def f96r14 : ICode := .region [
 qM 89 9,
 qO 90 (.bin .eql (.tmp 89) (qK 58)),
 qM 4 90] none
def f96r15 : ICode := .region [
 qM 23 0,
 qM 24 1,
 qO 25 (.call 60 [(.tmp 23), (qK 20), (.tmp 24)])] none
/- (*ferret/syn.parser).flags -/
def f96 : IFn := ⟨91, [.inl 4], (.seq f96r0 (.seq f96r1 (.seq f96r2 (.seq f96r3 (.block 0 (.loop (.block 1 (.seq f96r4 (.seq f96r5 (.block 2 (.seq f96r6 (.cond (.tmp 26) f96r7 (.seq f96r8 (.cond (.tmp 32) (.seq f96r9 (.seq f96r10 f96r11)) (.seq f96r12 (.cond (.tmp 68) (.seq f96r13 (.seq f96r14 .ret)) f96r15))))))))))))))))⟩
def f97r0 : ICode := .region [
 qO 2 (.move (.const (.slice none 0 0))),
 qO 3 (.move (qK 0))] none
def f97r1 : ICode := .region [
 qM 5 0,
 qO 6 (.nilCheck (.tmp 5)),
 qO 7 (.fieldAddr 4 (.tmp 6)),
 qO 8 (.load1 (.tmp 7)),
 qM 4 8] none
def f97r2 : ICode := .region [
 qM 9 0,
 qO 10 (.call 39 [(.tmp 9), (.const (.string ⟨⟨[92]⟩⟩))])] none
def f97r3 : ICode := .region [
 qM 11 0,
 qM 12 4,
 qO 13 (.call 83 [(.tmp 11), (.tmp 12)]),
 qO 14 (.extract (.tmp 13) 0),
 qO 15 (.extract (.tmp 13) 1),
 qM 2 14,
 qM 3 15] none
def f97r4 : ICode := .region [
 qM 16 0,
 qO 17 (.nilCheck (.tmp 16)),
 qO 18 (.fieldAddr 4 (.tmp 17)),
 qO 19 (.load1 (.tmp 18)),
 qO 20 (.bin .add (.tmp 19) (qK 1)),
 qO 21 (.nilCheck (.tmp 16)),
 qO 22 (.fieldAddr 4 (.tmp 21)),
  ⟨none, .store 1 (.tmp 22) (.tmp 20), none⟩] none
def f97r5 : ICode := .region [
 qM 23 0,
 qO 24 (.nilCheck (.tmp 23)),
 qO 25 (.fieldAddr 0 (.tmp 24)),
 qO 26 (.fieldAddr 1 (.tmp 25)),
 qO 27 (.load1 (.tmp 26)),
 qM 28 4,
 qO 29 (.indexSl 1 (.tmp 27) (.tmp 28)),
 qO 30 (.load1 (.tmp 29)),
 qO 31 (.call 79 [(.tmp 30)]),
 qM 32 0,
 qO 33 (.nilCheck (.tmp 32)),
 qO 34 (.fieldAddr 0 (.tmp 33)),
 qO 35 (.fieldAddr 1 (.tmp 34)),
 qO 36 (.load1 (.tmp 35)),
 qM 37 4,
 qO 38 (.indexSl 1 (.tmp 36) (.tmp 37)),
 qO 39 (.load1 (.tmp 38)),
 qM 2 31,
 qM 3 39] (some ⟨[], [(13, 8), (16, 8)]⟩)
/- (*ferret/syn.parser).item -/
def f97 : IFn := ⟨40, [.inl 2, .inl 3], (.seq f97r0 (.seq f97r1 (.seq (.seq f97r2 (.cond (.tmp 10) (.seq f97r3 .ret) .skip)) (.seq f97r4 (.seq f97r5 .ret)))))⟩
def f98r0 : ICode := .region [
 qO 4 (.move (.const (.slice none 0 0)))] none
def f98r1 : ICode := .region [
 qM 5 0,
 qO 6 (.call 84 [(.tmp 5)]),
 qM 7 1,
 qO 8 (.append 53 2 16 (.tmp 6) (.tmp 7)),
 qO 9 (.call 67 [(.tmp 8)]),
 qM 4 9] none
/- (ferret/sets.Set).Or -/
def f98 : IFn := ⟨10, [.inl 4], (.seq f98r0 (.seq f98r1 .ret))⟩
def f99r0 : ICode := .region [
 qO 4 (.move (.const (.slice none 0 0)))] none
def f99r1 : ICode := .region [
 qM 8 0,
 qO 9 (.call 39 [(.tmp 8), (.const (.string ⟨⟨[123]⟩⟩))]),
 qO 10 (.un .not (.tmp 9))] none
def f99r2 : ICode := .region [
 qM 11 0,
 qM 12 1,
 qO 13 (.call 60 [(.tmp 11), (qK 24), (.tmp 12)])] none
def f99r3 : ICode := .region [
 qO 5 (.move (.const (.slice none 0 0)))] none
def f99r4 : ICode := .region [
 qM 14 0,
 qO 15 (.call 59 [(.tmp 14), (qK 0)]),
 qO 16 (.bin .neq (.tmp 15) (qK 125)),
 qM 17 16,
  ⟨(some 18), .move (.tmp 0), (some ((some 17), true))⟩,
  ⟨(some 19), .call 59 [(.tmp 18), (qK 0)], (some ((some 17), true))⟩,
  ⟨(some 20), .bin .gtr (.tmp 19) (qK 32), (some ((some 17), true))⟩,
 qO 21 (.pick (.tmp 17) (.tmp 20) (.const (.bool false))),
 qM 22 21,
  ⟨(some 23), .move (.tmp 0), (some ((some 22), true))⟩,
  ⟨(some 24), .call 59 [(.tmp 23), (qK 0)], (some ((some 22), true))⟩,
  ⟨(some 25), .bin .lss (.tmp 24) (qK 127), (some ((some 22), true))⟩,
 qO 26 (.pick (.tmp 22) (.tmp 25) (.const (.bool false)))] none
def f99r5 : ICode := .region [
 qM 27 5,
 qM 28 0,
 qO 29 (.call 59 [(.tmp 28), (qK 0)]),
 qO 30 (.conv .u8 (.tmp 29)),
 qO 31 (.buildSlice 5 1 [(.int .u8 (.ofNat 0))] [(0, 1, (.tmp 30))]),
 qO 32 (.append 5 1 1 (.tmp 27) (.tmp 31)),
 qM 5 32] none
def f99r6 : ICode := .region [
 qM 33 0,
 qO 34 (.nilCheck (.tmp 33)),
 qO 35 (.fieldAddr 4 (.tmp 34)),
 qO 36 (.load1 (.tmp 35)),
 qO 37 (.bin .add (.tmp 36) (qK 1)),
 qO 38 (.nilCheck (.tmp 33)),
 qO 39 (.fieldAddr 4 (.tmp 38)),
  ⟨none, .store 1 (.tmp 39) (.tmp 37), none⟩] none
def f99r7 : ICode := .region [
 qM 41 5,
 qO 42 (.bytesToStr (.tmp 41)),
 qO 43 (.call 117 [(.tmp 42)]),
 qM 40 43,
 qO 44 (.extract (.tmp 40) 0),
 qO 45 (.extract (.tmp 40) 1),
 qM 6 44,
 qM 7 45] none
def f99r8 : ICode := .region [
 qM 46 0,
 qO 47 (.call 39 [(.tmp 46), (.const (.string ⟨⟨[125]⟩⟩))]),
 qO 48 (.un .not (.tmp 47)),
 qM 49 48,
  ⟨(some 50), .move (.tmp 7), (some ((some 49), false))⟩,
  ⟨(some 51), .un .not (.tmp 50), (some ((some 49), false))⟩,
 qO 52 (.pick (.tmp 49) (.const (.bool true)) (.tmp 51))] none
def f99r9 : ICode := .region [
 qM 53 0,
 qM 54 1,
 qO 55 (.call 60 [(.tmp 53), (qK 24), (.tmp 54)])] none
def f99r10 : ICode := .region [
 qM 56 6,
 qM 4 56] none
/- (*ferret/syn.parser).named -/
def f99 : IFn := ⟨57, [.inl 4], (.seq f99r0 (.seq (.seq f99r1 (.cond (.tmp 10) f99r2 .skip)) (.seq f99r3 (.seq (.block 0 (.loop (.seq (.seq f99r4 (.cond (.tmp 26) .skip (.exit 0))) (.block 1 (.seq f99r5 f99r6))))) (.seq f99r7 (.seq (.seq f99r8 (.cond (.tmp 52) f99r9 .skip)) (.seq f99r10 .ret)))))))⟩
def f100r0 : ICode := .region [
 qO 4 (.move (qK 0))] none
def f100r1 : ICode := .region [
 qO 5 (.move (qK 0)),
 qO 6 (.move (qK 0))] none
def f100r2 : ICode := .region [
 qM 8 0,
 qO 9 (.call 39 [(.tmp 8), (.const (.string ⟨⟨[123]⟩⟩))]),
 qM 7 9] none
def f100r3 : ICode := .region [
 qM 10 6,
 qO 11 (.bin .lss (.tmp 10) (qK 6)),
 qM 12 11,
  ⟨(some 13), .move (.tmp 7), (some ((some 12), true))⟩,
  ⟨(some 14), .move (.tmp 13), (some ((some 12), true))⟩,
  ⟨(some 15), .move (.tmp 6), (some ((some 14), false))⟩,
  ⟨(some 16), .bin .lss (.tmp 15) (qK 2), (some ((some 14), false))⟩,
  ⟨(some 17), .pick (.tmp 14) (.const (.bool true)) (.tmp 16), (some ((some 12), true))⟩,
 qO 18 (.pick (.tmp 12) (.tmp 17) (.const (.bool false))),
 qM 19 18,
  ⟨(some 20), .move (.tmp 0), (some ((some 19), true))⟩,
  ⟨(some 21), .call 59 [(.tmp 20), (qK 0)], (some ((some 19), true))⟩,
  ⟨(some 22), .call 118 [(.tmp 21)], (some ((some 19), true))⟩,
  ⟨(some 23), .bin .geq (.tmp 22) (qK 0), (some ((some 19), true))⟩,
 qO 24 (.pick (.tmp 19) (.tmp 23) (.const (.bool false)))] none
def f100r4 : ICode := .region [
 qM 25 5,
 qO 26 (.bin .shl (.tmp 25) (.const (.int .u64 (.ofNat 4)))),
 qM 27 0,
 qO 28 (.call 59 [(.tmp 27), (qK 0)]),
 qO 29 (.call 118 [(.tmp 28)]),
 qO 30 (.bin .or (.tmp 26) (.tmp 29)),
 qM 5 30] none
def f100r5 : ICode := .region [
 qM 31 0,
 qO 32 (.nilCheck (.tmp 31)),
 qO 33 (.fieldAddr 4 (.tmp 32)),
 qO 34 (.load1 (.tmp 33)),
 qO 35 (.bin .add (.tmp 34) (qK 1)),
 qO 36 (.nilCheck (.tmp 31)),
 qO 37 (.fieldAddr 4 (.tmp 36)),
  ⟨none, .store 1 (.tmp 37) (.tmp 35), none⟩] none
def f100r6 : ICode := .region [
 qM 38 6,
 qO 39 (.bin .add (.tmp 38) (qK 1)),
 qM 6 39] none
def f100r7 : ICode := .region [
 qM 40 5,
 qO 41 (.bin .gtr (.tmp 40) (qK 1114111)),
 qM 42 41,
  ⟨(some 43), .move (.tmp 7), (some ((some 42), false))⟩,
  ⟨(some 44), .move (.tmp 43), (some ((some 42), false))⟩,
  ⟨(some 45), .move (.tmp 6), (some ((some 44), true))⟩,
  ⟨(some 46), .bin .eql (.tmp 45) (qK 0), (some ((some 44), true))⟩,
  ⟨(some 47), .move (.tmp 46), (some ((some 44), true))⟩,
  ⟨(some 48), .move (.tmp 0), (some ((some 47), false))⟩,
  ⟨(some 49), .call 39 [(.tmp 48), (.const (.string ⟨⟨[125]⟩⟩))], (some ((some 47), false))⟩,
  ⟨(some 50), .un .not (.tmp 49), (some ((some 47), false))⟩,
  ⟨(some 51), .pick (.tmp 47) (.const (.bool true)) (.tmp 50), (some ((some 44), true))⟩,
  ⟨(some 52), .pick (.tmp 44) (.tmp 51) (.const (.bool false)), (some ((some 42), false))⟩,
 qO 53 (.pick (.tmp 42) (.const (.bool true)) (.tmp 52)),
 qM 54 53,
  ⟨(some 55), .move (.tmp 7), (some ((some 54), false))⟩,
  ⟨(some 56), .un .not (.tmp 55), (some ((some 54), false))⟩,
  ⟨(some 57), .move (.tmp 56), (some ((some 54), false))⟩,
  ⟨(some 58), .move (.tmp 6), (some ((some 57), true))⟩,
  ⟨(some 59), .bin .neq (.tmp 58) (qK 2), (some ((some 57), true))⟩,
  ⟨(some 60), .pick (.tmp 57) (.tmp 59) (.const (.bool false)), (some ((some 54), false))⟩,
 qO 61 (.pick (.tmp 54) (.const (.bool true)) (.tmp 60))] none
def f100r8 : ICode := .region [
 qM 62 0,
 qM 63 1,
 qO 64 (.call 60 [(.tmp 62), (qK 20), (.tmp 63)])] none
def f100r9 : ICode := .region [
 qM 65 5,
 qM 4 65] none
/- (*ferret/syn.parser).number -/
def f100 : IFn := ⟨66, [.inl 4], (.seq f100r0 (.seq f100r1 (.seq f100r2 (.seq (.block 0 (.loop (.seq (.seq f100r3 (.cond (.tmp 24) .skip (.exit 0))) (.block 1 (.seq f100r4 (.seq f100r5 f100r6)))))) (.seq (.seq f100r7 (.cond (.tmp 61) f100r8 .skip)) (.seq f100r9 .ret))))))⟩
def f101r0 : ICode := .region [
 qO 2 (.move (.const (.slice none 0 0))),
 qO 3 (.move (.const (.bool false)))] none
def f101r1 : ICode := .region [
 qO 4 (.move (.const (.slice none 0 0)))] none
def f101r2 : ICode := .region [
 qM 9 0,
 qO 10 (.bin .or (.tmp 9) (.const (.int .u8 (.ofNat 32))))] none
def f101r3 : ICode := .region [
 qO 12 (.bin .eql (.tmp 10) (.const (.int .u8 (.ofNat 100)))),
 qM 11 12] none
def f101r4 : ICode := .region [
 qO 14 (.call 117 [(.const (.string ⟨⟨[78, 100]⟩⟩))]),
 qM 13 14,
 qO 15 (.extract (.tmp 13) 0),
 qO 16 (.extract (.tmp 13) 1),
 qM 4 15] none
def f101r5 : ICode := .region [
 qO 18 (.bin .eql (.tmp 10) (.const (.int .u8 (.ofNat 115)))),
 qM 17 18] none
def f101r6 : ICode := .region [
 qO 19 (.call 119 []),
 qM 4 19] none
def f101r7 : ICode := .region [
 qO 21 (.bin .eql (.tmp 10) (.const (.int .u8 (.ofNat 119)))),
 qM 20 21] none
def f101r8 : ICode := .region [
 qO 22 (.buildSlice 9 3 [(.string ⟨⟨[]⟩⟩), (.string ⟨⟨[]⟩⟩), (.string ⟨⟨[]⟩⟩)] [(0, 1, (.const (.string ⟨⟨[76]⟩⟩))), (1, 1, (.const (.string ⟨⟨[78, 100]⟩⟩))), (2, 1, (.const (.string ⟨⟨[80, 99]⟩⟩)))]),
 qO 23 (.len 1 (.tmp 22)),
 qO 24 (.move (qK 0))] none
def f101r9 : ICode := .region [
 qO 25 (.bin .lss (.tmp 24) (.tmp 23))] none
def f101r10 : ICode := .region [
 qO 26 (.indexSl 1 (.tmp 22) (.tmp 24)),
 qO 27 (.load1 (.tmp 26)),
 qM 6 27] none
def f101r11 : ICode := .region [
 qM 29 6,
 qO 30 (.call 117 [(.tmp 29)]),
 qM 28 30,
 qO 31 (.extract (.tmp 28) 0),
 qO 32 (.extract (.tmp 28) 1),
 qM 7 31,
 qM 8 32] none
def f101r12 : ICode := .region [
 qM 33 4,
 qM 34 7,
 qO 35 (.call 98 [(.tmp 33), (.tmp 34)]),
 qM 4 35] none
def f101r13 : ICode := .region [
 qO 36 (.bin .add (.tmp 24) (qK 1)),
 qM 24 36] none
def f101r14 : ICode := .region [
 qO 2 (.move (.const (.slice none 0 0))),
 qO 3 (.move (.const (.bool false)))] none
def f101r15 : ICode := .region [
 qM 37 0,
 qO 38 (.bin .and (.tmp 37) (.const (.int .u8 (.ofNat 32)))),
 qO 39 (.bin .eql (.tmp 38) (.const (.int .u8 (.ofNat 0))))] none
def f101r16 : ICode := .region [
 qM 40 4,
 qO 41 (.call 88 [(.tmp 40)]),
 qM 4 41] none
def f101r17 : ICode := .region [
 qM 42 4,
 qM 2 42,
 qO 3 (.move (.const (.bool true)))] none
/- ferret/ucd.Perl -/
def f101 : IFn := ⟨43, [.inl 2, .inl 3], (.seq f101r0 (.seq f101r1 (.seq (.seq f101r2 (.block 0 (.seq f101r3 (.cond (.tmp 11) f101r4 (.seq f101r5 (.cond (.tmp 17) f101r6 (.seq f101r7 (.cond (.tmp 20) (.seq f101r8 (.block 1 (.loop (.seq f101r9 (.seq (.cond (.tmp 25) .skip (.exit 1)) (.seq (.block 2 (.seq f101r10 (.seq f101r11 f101r12))) f101r13)))))) (.seq f101r14 .ret))))))))) (.seq (.seq f101r15 (.cond (.tmp 39) f101r16 .skip)) (.seq f101r17 .ret)))))⟩
def f102r0 : ICode := .region [
 qO 4 (.move (qK 0))] none
def f102r1 : ICode := .region [
 qM 5 0,
 qM 6 1,
 qO 7 (.call 120 [(.tmp 5), (.tmp 6)]),
 qM 4 7] none
/- strings.IndexByte -/
def f102 : IFn := ⟨8, [.inl 4], (.seq f102r0 (.seq f102r1 .ret))⟩
def f105r0 : ICode := .region [
 qO 4 (.move (.const (.bool false)))] none
def f105r1 : ICode := .region [
 qO 5 (.load1 (.tmp 1)),
 qM 6 0,
 qO 7 (.indexSl 2 (.tmp 5) (.tmp 6)),
 qO 8 (.fieldAddr 1 (.tmp 7)),
 qO 9 (.load1 (.tmp 8)),
 qO 10 (.load1 (.tmp 2)),
 qO 11 (.bin .geq (.tmp 9) (.tmp 10)),
 qM 4 11] (some ⟨[], []⟩)
/- (ferret/sets.Set).Has$1 -/
def f105 : IFn := ⟨12, [.inl 4], (.seq f105r0 (.seq f105r1 .ret))⟩
def f104r0 : ICode := .region [
 qO 4 (.move (qK 0))] none
def f104r1 : ICode := .region [
 qM 8 0,
 qO 5 (.move (qK 0)),
 qM 6 8] none
def f104r2 : ICode := .region [
 qM 9 5,
 qM 10 6,
 qO 11 (.bin .lss (.tmp 9) (.tmp 10))] none
def f104r3 : ICode := .region [
 qM 12 5,
 qM 13 6,
 qO 14 (.bin .add (.tmp 12) (.tmp 13)),
 qO 15 (.conv .u64 (.tmp 14)),
 qO 16 (.bin .shr (.tmp 15) (.const (.int .u64 (.ofNat 1)))),
 qO 17 (.conv .i64 (.tmp 16)),
 qM 7 17] none
def f104r4 : ICode := .region [
 qM 18 1,
 qM 19 7,
 qO 20 (.callv (.tmp 18) [(.tmp 19)]),
 qO 21 (.un .not (.tmp 20))] none
def f104r5 : ICode := .region [
 qM 22 7,
 qO 23 (.bin .add (.tmp 22) (qK 1)),
 qM 5 23] none
def f104r6 : ICode := .region [
 qM 24 7,
 qM 6 24] none
def f104r7 : ICode := .region [
 qM 25 5,
 qM 4 25] none
/- sort.Search -/
def f104 : IFn := ⟨26, [.inl 4], (.seq f104r0 (.seq f104r1 (.seq (.block 0 (.loop (.seq (.seq f104r2 (.cond (.tmp 11) .skip (.exit 0))) (.block 1 (.seq f104r3 (.seq f104r4 (.cond (.tmp 21) f104r5 f104r6))))))) (.seq f104r7 .ret))))⟩
def f103r0 : ICode := .region [
 qO 4 (.move (qK 0))] none
def f103r1 : ICode := .region [
 qM 6 0,
 qO 7 (.len 1 (.tmp 6)),
 qO 8 (.move (qK 0))] none
def f103r2 : ICode := .region [
 qO 9 (.bin .lss (.tmp 8) (.tmp 7))] none
def f103r3 : ICode := .region [
 qM 10 8,
 qM 5 10] none
def f103r4 : ICode := .region [
 qM 11 1,
 qM 12 0,
 qM 13 5,
 qO 14 (.indexSl 1 (.tmp 12) (.tmp 13)),
 qO 15 (.load1 (.tmp 14)),
 qO 16 (.callv (.tmp 11) [(.tmp 15)])] none
def f103r5 : ICode := .region [
 qM 17 5,
 qM 4 17] none
def f103r6 : ICode := .region [
 qO 18 (.bin .add (.tmp 8) (qK 1)),
 qM 8 18] none
def f103r7 : ICode := .region [
 qO 4 (.move (.const (.int .i64 (.negSucc 0))))] none
/- slices.IndexFunc[[]int,int] -/
def f103 : IFn := ⟨19, [.inl 4], (.seq f103r0 (.seq (.seq f103r1 (.block 0 (.loop (.seq f103r2 (.seq (.cond (.tmp 9) .skip (.exit 0)) (.seq (.block 1 (.seq f103r3 (.seq f103r4 (.cond (.tmp 16) (.seq f103r5 .ret) .skip)))) f103r6)))))) (.seq f103r7 .ret)))⟩
def f109r0 : ICode := .region [
 qO 2 (.move (qK 0))] none
def f109r1 : ICode := .region [
 qM 3 0,
 qO 4 (.conv .u32 (.tmp 3)),
 qO 5 (.call 130 [(.tmp 4)]),
 qM 2 5] none
def f109r2 : ICode := .region [
 qM 6 0,
 qO 7 (.call 131 [(.tmp 6)]),
 qM 2 7] none
/- math/bits.Len -/
def f109 : IFn := ⟨8, [.inl 2], (.seq f109r0 (.seq (.cond (.const (.bool false)) (.seq f109r1 .ret) .skip) (.seq f109r2 .ret)))⟩
def f110r0 : ICode := .region [
 qO 4 (.box 160 (.tmp 0))] none
def f110r1 : ICode := .region [
 qO 8 (.move (.const (.bool true)))] none
def f110r2 : ICode := .region [
 qO 9 (.move (.const (.bool true)))] none
def f110r3 : ICode := .region [
 qM 19 2,
 qM 20 1,
 qO 21 (.bin .sub (.tmp 19) (.tmp 20)),
 qM 10 21] none
def f110r4 : ICode := .region [
 qM 22 10,
 qO 23 (.bin .leq (.tmp 22) (qK 12))] none
def f110r5 : ICode := .region [
 qO 24 (.loadN 2 (.tmp 4)),
 qM 25 1,
 qM 26 2,
 qO 27 (.call 132 [(.tmp 24), (.tmp 25), (.tmp 26)])] none
def f110r6 : ICode := .region [
 qM 28 3,
 qO 29 (.bin .eql (.tmp 28) (qK 0))] none
def f110r7 : ICode := .region [
 qO 30 (.loadN 2 (.tmp 4)),
 qM 31 1,
 qM 32 2,
 qO 33 (.call 133 [(.tmp 30), (.tmp 31), (.tmp 32)])] none
def f110r8 : ICode := .region [
 qM 34 8,
 qO 35 (.un .not (.tmp 34))] none
def f110r9 : ICode := .region [
 qO 36 (.loadN 2 (.tmp 4)),
 qM 37 1,
 qM 38 2,
 qO 39 (.call 134 [(.tmp 36), (.tmp 37), (.tmp 38)])] none
def f110r10 : ICode := .region [
 qM 40 3,
 qO 41 (.bin .sub (.tmp 40) (qK 1)),
 qM 3 41] none
def f110r11 : ICode := .region [
 qO 43 (.loadN 2 (.tmp 4)),
 qM 44 1,
 qM 45 2,
 qO 46 (.call 135 [(.tmp 43), (.tmp 44), (.tmp 45)]),
 qM 42 46,
 qO 47 (.extract (.tmp 42) 0),
 qO 48 (.extract (.tmp 42) 1),
 qM 11 47,
 qM 12 48] none
def f110r12 : ICode := .region [
 qM 49 12,
 qO 50 (.bin .eql (.tmp 49) (qK 2))] none
def f110r13 : ICode := .region [
 qO 51 (.loadN 2 (.tmp 4)),
 qM 52 1,
 qM 53 2,
 qO 54 (.call 136 [(.tmp 51), (.tmp 52), (.tmp 53)])] none
def f110r14 : ICode := .region [
 qM 55 2,
 qO 56 (.bin .sub (.tmp 55) (qK 1)),
 qM 57 11,
 qM 58 1,
 qO 59 (.bin .sub (.tmp 57) (.tmp 58)),
 qO 60 (.bin .sub (.tmp 56) (.tmp 59)),
 qM 11 60] none
def f110r15 : ICode := .region [
 qO 12 (.move (qK 1))] none
def f110r16 : ICode := .region [
 qM 61 8,
 qM 62 61,
  ⟨(some 63), .move (.tmp 9), (some ((some 62), true))⟩,
 qO 64 (.pick (.tmp 62) (.tmp 63) (.const (.bool false))),
 qM 65 64,
  ⟨(some 66), .move (.tmp 12), (some ((some 65), true))⟩,
  ⟨(some 67), .bin .eql (.tmp 66) (qK 1), (some ((some 65), true))⟩,
 qO 68 (.pick (.tmp 65) (.tmp 67) (.const (.bool false)))] none
def f110r17 : ICode := .region [
 qO 69 (.loadN 2 (.tmp 4)),
 qM 70 1,
 qM 71 2,
 qO 72 (.call 137 [(.tmp 69), (.tmp 70), (.tmp 71)])] none
def f110r18 : ICode := .region [
 qM 73 1,
 qO 74 (.bin .gtr (.tmp 73) (qK 0)),
 qM 75 74,
  ⟨(some 76), .fieldAddr 0 (.tmp 4), (some ((some 75), true))⟩,
  ⟨(some 77), .load1 (.tmp 76), (some ((some 75), true))⟩,
  ⟨(some 78), .move (.tmp 1), (some ((some 75), true))⟩,
  ⟨(some 79), .bin .sub (.tmp 78) (qK 1), (some ((some 75), true))⟩,
  ⟨(some 80), .move (.tmp 11), (some ((some 75), true))⟩,
  ⟨(some 81), .callv (.tmp 77) [(.tmp 79), (.tmp 80)], (some ((some 75), true))⟩,
  ⟨(some 82), .un .not (.tmp 81), (some ((some 75), true))⟩,
 qO 83 (.pick (.tmp 75) (.tmp 82) (.const (.bool false)))] none
def f110r19 : ICode := .region [
 qO 84 (.loadN 2 (.tmp 4)),
 qM 85 1,
 qM 86 2,
 qM 87 11,
 qO 88 (.call 138 [(.tmp 84), (.tmp 85), (.tmp 86), (.tmp 87)]),
 qM 13 88] none
def f110r20 : ICode := .region [
 qM 89 13,
 qM 1 89] none
def f110r21 : ICode := .region [
 qO 91 (.loadN 2 (.tmp 4)),
 qM 92 1,
 qM 93 2,
 qM 94 11,
 qO 95 (.call 139 [(.tmp 91), (.tmp 92), (.tmp 93), (.tmp 94)]),
 qM 90 95,
 qO 96 (.extract (.tmp 90) 0),
 qO 97 (.extract (.tmp 90) 1),
 qM 14 96,
 qM 15 97] none
def f110r22 : ICode := .region [
 qM 98 15,
 qM 9 98] none
def f110r23 : ICode := .region [
 qM 99 14,
 qM 100 1,
 qO 101 (.bin .sub (.tmp 99) (.tmp 100)),
 qM 102 2,
 qM 103 14,
 qO 104 (.bin .sub (.tmp 102) (.tmp 103)),
 qM 16 101,
 qM 17 104] none
def f110r24 : ICode := .region [
 qM 105 10,
 qO 106 (.bin .quo (.tmp 105) (qK 8)),
 qM 18 106] none
def f110r25 : ICode := .region [
 qM 107 16,
 qM 108 17,
 qO 109 (.bin .lss (.tmp 107) (.tmp 108))] none
def f110r26 : ICode := .region [
 qM 110 16,
 qM 111 18,
 qO 112 (.bin .geq (.tmp 110) (.tmp 111)),
 qM 8 112] none
def f110r27 : ICode := .region [
 qO 113 (.loadN 2 (.tmp 4)),
 qM 114 1,
 qM 115 14,
 qM 116 3,
 qO 117 (.call 110 [(.tmp 113), (.tmp 114), (.tmp 115), (.tmp 116)])] none
def f110r28 : ICode := .region [
 qM 118 14,
 qO 119 (.bin .add (.tmp 118) (qK 1)),
 qM 1 119] none
def f110r29 : ICode := .region [
 qM 120 17,
 qM 121 18,
 qO 122 (.bin .geq (.tmp 120) (.tmp 121)),
 qM 8 122] none
def f110r30 : ICode := .region [
 qO 123 (.loadN 2 (.tmp 4)),
 qM 124 14,
 qO 125 (.bin .add (.tmp 124) (qK 1)),
 qM 126 2,
 qM 127 3,
 qO 128 (.call 110 [(.tmp 123), (.tmp 125), (.tmp 126), (.tmp 127)])] none
def f110r31 : ICode := .region [
 qM 129 14,
 qM 2 129] none
/- sort.pdqsort_func -/
def f110 : IFn := ⟨130, [], (.seq f110r0 (.seq f110r1 (.seq f110r2 (.block 0 (.loop (.block 1 (.seq f110r3 (.seq (.seq f110r4 (.cond (.tmp 23) (.seq f110r5 .ret) .skip)) (.seq (.seq f110r6 (.cond (.tmp 29) (.seq f110r7 .ret) .skip)) (.seq (.seq f110r8 (.cond (.tmp 35) (.seq f110r9 f110r10) .skip)) (.seq f110r11 (.seq (.seq f110r12 (.cond (.tmp 50) (.seq f110r13 (.seq f110r14 f110r15)) .skip)) (.seq (.seq f110r16 (.cond (.tmp 68) (.seq f110r17 (.cond (.tmp 72) .ret .skip)) .skip)) (.seq (.seq f110r18 (.cond (.tmp 83) (.seq f110r19 (.seq f110r20 (.exit 1))) .skip)) (.seq f110r21 (.seq f110r22 (.seq f110r23 (.seq f110r24 (.seq f110r25 (.cond (.tmp 109) (.seq f110r26 (.seq f110r27 f110r28)) (.seq f110r29 (.seq f110r30 f110r31))))))))))))))))))))))⟩
def f34r0 : ICode := .region [
 qO 3 (.box 53 (.tmp 1)),
 qO 4 (.move (.const (.slice none 0 0)))] none
def f34r1 : ICode := .region [
 qO 5 (.move (qK 6))] none
def f34r2 : ICode := .region [
 qM 13 5,
 qO 14 (.bin .leq (.tmp 13) (qK 18))] none
def f34r3 : ICode := .region [
 qM 17 5,
 qO 18 (.bin .shl (qK 1) (.tmp 17)),
 qO 19 (.bin .sub (.tmp 18) (qK 1)),
 qM 6 19] none
def f34r4 : ICode := .region [
 qO 20 (.fieldAddr 0 (.tmp 3)),
 qO 21 (.load1 (.tmp 20)),
 qM 22 5,
 qO 23 (.bin .shr (.tmp 21) (.tmp 22)),
 qO 24 (.fieldAddr 1 (.tmp 3)),
 qO 25 (.load1 (.tmp 24)),
 qM 26 5,
 qO 27 (.bin .shr (.tmp 25) (.tmp 26)),
 qO 28 (.bin .eql (.tmp 23) (.tmp 27))] (some ⟨[], []⟩)
def f34r5 : ICode := .region [
 qO 29 (.fieldAddr 0 (.tmp 3)),
 qO 30 (.load1 (.tmp 29)),
 qM 31 6,
 qO 32 (.bin .and (.tmp 30) (.tmp 31)),
 qO 33 (.bin .neq (.tmp 32) (qK 0))] none
def f34r6 : ICode := .region [
 qM 34 0,
 qO 35 (.fieldAddr 0 (.tmp 3)),
 qO 36 (.load1 (.tmp 35)),
 qO 37 (.fieldAddr 0 (.tmp 3)),
 qO 38 (.load1 (.tmp 37)),
 qM 39 6,
 qO 40 (.bin .or (.tmp 38) (.tmp 39)),
 qO 41 (.build [qZ, qZ] [(0, 1, (.tmp 36)), (1, 1, (.tmp 40))]),
 qO 42 (.call 34 [(.tmp 34), (.tmp 41)]),
 qM 0 42] none
def f34r7 : ICode := .region [
 qM 43 0,
 qO 44 (.fieldAddr 0 (.tmp 3)),
 qO 45 (.load1 (.tmp 44)),
 qM 46 6,
 qO 47 (.bin .or (.tmp 45) (.tmp 46)),
 qO 48 (.bin .add (.tmp 47) (qK 1)),
 qO 49 (.fieldAddr 1 (.tmp 3)),
 qO 50 (.load1 (.tmp 49)),
 qO 51 (.build [qZ, qZ] [(0, 1, (.tmp 48)), (1, 1, (.tmp 50))]),
 qO 52 (.call 34 [(.tmp 43), (.tmp 51)]),
 qM 4 52] none
def f34r8 : ICode := .region [
 qO 53 (.fieldAddr 1 (.tmp 3)),
 qO 54 (.load1 (.tmp 53)),
 qM 55 6,
 qO 56 (.bin .and (.tmp 54) (.tmp 55)),
 qM 57 6,
 qO 58 (.bin .neq (.tmp 56) (.tmp 57))] none
def f34r9 : ICode := .region [
 qM 59 0,
 qO 60 (.fieldAddr 0 (.tmp 3)),
 qO 61 (.load1 (.tmp 60)),
 qO 62 (.fieldAddr 1 (.tmp 3)),
 qO 63 (.load1 (.tmp 62)),
 qM 64 6,
 qO 65 (.bin .andNot (.tmp 63) (.tmp 64)),
 qO 66 (.bin .sub (.tmp 65) (qK 1)),
 qO 67 (.build [qZ, qZ] [(0, 1, (.tmp 61)), (1, 1, (.tmp 66))]),
 qO 68 (.call 34 [(.tmp 59), (.tmp 67)]),
 qM 0 68] none
def f34r10 : ICode := .region [
 qM 69 0,
 qO 70 (.fieldAddr 1 (.tmp 3)),
 qO 71 (.load1 (.tmp 70)),
 qM 72 6,
 qO 73 (.bin .andNot (.tmp 71) (.tmp 72)),
 qO 74 (.fieldAddr 1 (.tmp 3)),
 qO 75 (.load1 (.tmp 74)),
 qO 76 (.build [qZ, qZ] [(0, 1, (.tmp 73)), (1, 1, (.tmp 75))]),
 qO 77 (.call 34 [(.tmp 69), (.tmp 76)]),
 qM 4 77] none
def f34r11 : ICode := .region [
 qM 15 5,
 qO 16 (.bin .add (.tmp 15) (qK 6)),
 qM 5 16] none
def f34r12 : ICode := .region [
 qO 79 (.fieldAddr 0 (.tmp 3)),
 qO 80 (.load1 (.tmp 79)),
 qO 81 (.buildSlice 3 1 [qZ] [(0, 1, (.tmp 80))]),
 qO 82 (.call 12 [(.tmp 81), (qK 1), (.const (.bool false))]),
 qM 78 82,
 qO 83 (.extract (.tmp 78) 0),
 qO 84 (.extract (.tmp 78) 1),
 qM 7 83,
 qM 8 84] none
def f34r13 : ICode := .region [
 qO 86 (.fieldAddr 1 (.tmp 3)),
 qO 87 (.load1 (.tmp 86)),
 qO 88 (.buildSlice 3 1 [qZ] [(0, 1, (.tmp 87))]),
 qO 89 (.call 12 [(.tmp 88), (qK 1), (.const (.bool false))]),
 qM 85 89,
 qO 90 (.extract (.tmp 85) 0),
 qO 91 (.extract (.tmp 85) 1),
 qM 9 90,
 qM 10 91] none
def f34r14 : ICode := .region [
 qO 11 (.move (.const (.slice none 0 0)))] none
def f34r15 : ICode := .region [
 qM 92 7,
 qO 93 (.len 0 (.tmp 92)),
 qO 94 (.move (qK 0))] none
def f34r16 : ICode := .region [
 qO 95 (.bin .lss (.tmp 94) (.tmp 93))] none
def f34r17 : ICode := .region [
 qM 96 94,
 qM 12 96] none
def f34r18 : ICode := .region [
 qM 97 11,
 qM 98 7,
 qM 99 12,
 qO 100 (.indexStr (.tmp 98) (.tmp 99)),
 qO 101 (.conv .i64 (.tmp 100)),
 qM 102 9,
 qM 103 12,
 qO 104 (.indexStr (.tmp 102) (.tmp 103)),
 qO 105 (.conv .i64 (.tmp 104)),
 qO 106 (.build [qZ, qZ] [(0, 1, (.tmp 101)), (1, 1, (.tmp 105))]),
 qO 107 (.buildSlice 53 1 [qZ, qZ] [(0, 2, (.tmp 106))]),
 qO 108 (.append 53 2 16 (.tmp 97) (.tmp 107)),
 qM 11 108] (some ⟨[], []⟩)
def f34r19 : ICode := .region [
 qO 109 (.bin .add (.tmp 94) (qK 1)),
 qM 94 109] none
def f34r20 : ICode := .region [
 qM 110 0,
 qM 111 11,
 qO 112 (.buildSlice 88 1 [(.slice none 0 0)] [(0, 1, (.tmp 111))]),
 qO 113 (.append 88 1 24 (.tmp 110) (.tmp 112)),
 qM 4 113] none
/- ferret/utfsplit.rows -/
def f34 : IFn := ⟨114, [.inl 4], (.seq f34r0 (.seq (.seq f34r1 (.block 0 (.loop (.seq (.seq f34r2 (.cond (.tmp 14) .skip (.exit 0))) (.seq (.block 1 (.seq f34r3 (.seq (.seq f34r4 (.cond (.tmp 28) (.exit 0) .skip)) (.seq (.seq f34r5 (.cond (.tmp 33) (.seq f34r6 (.seq f34r7 .ret)) .skip)) (.seq f34r8 (.cond (.tmp 58) (.seq f34r9 (.seq f34r10 .ret)) .skip)))))) f34r11))))) (.seq f34r12 (.seq f34r13 (.seq f34r14 (.seq (.seq f34r15 (.block 2 (.loop (.seq f34r16 (.seq (.cond (.tmp 95) .skip (.exit 2)) (.seq (.block 3 (.seq f34r17 f34r18)) f34r19)))))) (.seq f34r20 .ret)))))))⟩
def f131r0 : ICode := .region [
 qO 2 (.move (qK 0))] none
def f131r1 : ICode := .region [
 qM 3 0,
 qO 4 (.bin .geq (.tmp 3) (.const (.int .u64 (.ofNat 4294967296))))] none
def f131r2 : ICode := .region [
 qM 5 0,
 qO 6 (.bin .shr (.tmp 5) (.const (.int .u64 (.ofNat 32)))),
 qM 0 6] none
def f131r3 : ICode := .region [
 qO 2 (.move (qK 32))] none
def f131r4 : ICode := .region [
 qM 7 0,
 qO 8 (.bin .geq (.tmp 7) (.const (.int .u64 (.ofNat 65536))))] none
def f131r5 : ICode := .region [
 qM 9 0,
 qO 10 (.bin .shr (.tmp 9) (.const (.int .u64 (.ofNat 16)))),
 qM 0 10] none
def f131r6 : ICode := .region [
 qM 11 2,
 qO 12 (.bin .add (.tmp 11) (qK 16)),
 qM 2 12] none
def f131r7 : ICode := .region [
 qM 13 0,
 qO 14 (.bin .geq (.tmp 13) (.const (.int .u64 (.ofNat 256))))] none
def f131r8 : ICode := .region [
 qM 15 0,
 qO 16 (.bin .shr (.tmp 15) (.const (.int .u64 (.ofNat 8)))),
 qM 0 16] none
def f131r9 : ICode := .region [
 qM 17 2,
 qO 18 (.bin .add (.tmp 17) (qK 8)),
 qM 2 18] none
def f131r10 : ICode := .region [
 qM 19 2,
 qM 20 0,
 qO 21 (.conv .u8 (.tmp 20)),
 qO 22 (.indexStr (.const (.string ⟨⟨[0, 1, 2, 2, 3, 3, 3, 3, 4, 4, 4, 4, 4, 4, 4, 4, 5, 5, 5, 5, 5, 5, 5, 5, 5, 5, 5, 5, 5, 5, 5, 5, 6, 6, 6, 6, 6, 6, 6, 6, 6, 6, 6, 6, 6, 6, 6, 6, 6, 6, 6, 6, 6, 6, 6, 6, 6, 6, 6, 6, 6, 6, 6, 6, 7, 7, 7, 7, 7, 7, 7, 7, 7, 7, 7, 7, 7, 7, 7, 7, 7, 7, 7, 7, 7, 7, 7, 7, 7, 7, 7, 7, 7, 7, 7, 7, 7, 7, 7, 7, 7, 7, 7, 7, 7, 7, 7, 7, 7, 7, 7, 7, 7, 7, 7, 7, 7, 7, 7, 7, 7, 7, 7, 7, 7, 7, 7, 7, 8, 8, 8, 8, 8, 8, 8, 8, 8, 8, 8, 8, 8, 8, 8, 8, 8, 8, 8, 8, 8, 8, 8, 8, 8, 8, 8, 8, 8, 8, 8, 8, 8, 8, 8, 8, 8, 8, 8, 8, 8, 8, 8, 8, 8, 8, 8, 8, 8, 8, 8, 8, 8, 8, 8, 8, 8, 8, 8, 8, 8, 8, 8, 8, 8, 8, 8, 8, 8, 8, 8, 8, 8, 8, 8, 8, 8, 8, 8, 8, 8, 8, 8, 8, 8, 8, 8, 8, 8, 8, 8, 8, 8, 8, 8, 8, 8, 8, 8, 8, 8, 8, 8, 8, 8, 8, 8, 8, 8, 8, 8, 8, 8, 8, 8, 8, 8, 8, 8, 8, 8, 8, 8, 8, 8, 8, 8, 8]⟩⟩)) (.tmp 21)),
 qO 23 (.conv .i64 (.tmp 22)),
 qO 24 (.bin .add (.tmp 19) (.tmp 23)),
 qM 2 24] none
/- math/bits.Len64 -/
def f131 : IFn := ⟨25, [.inl 2], (.seq f131r0 (.seq (.seq f131r1 (.cond (.tmp 4) (.seq f131r2 f131r3) .skip)) (.seq (.seq f131r4 (.cond (.tmp 8) (.seq f131r5 f131r6) .skip)) (.seq (.seq f131r7 (.cond (.tmp 14) (.seq f131r8 f131r9) .skip)) (.seq f131r10 .ret)))))⟩
def f140r0 : ICode := .region [
 qO 2 (.move (qK 0))] none
def f140r1 : ICode := .region [
 qM 3 0,
 qO 4 (.bin .mul (.tmp 3) (qK 78913)),
 qO 5 (.bin .shr (.tmp 4) (.const (.int .u64 (.ofNat 18)))),
 qM 2 5] none
/- internal/strconv.log10Pow2 -/
def f140 : IFn := ⟨6, [.inl 2], (.seq f140r0 (.seq f140r1 .ret))⟩
def f141r0 : ICode := .region [
 qO 2 (.move (qK 0))] none
def f141r1 : ICode := .region [
 qM 3 0] none
def f141r2 : ICode := .region [
 qO 2 (.move (qK 1))] none
def f141r3 : ICode := .region [
 qO 2 (.move (qK 0))] none
/- internal/strconv.bool2[int] -/
def f141 : IFn := ⟨4, [.inl 2], (.seq f141r0 (.seq (.seq f141r1 (.cond (.tmp 3) (.seq f141r2 .ret) .skip)) (.seq f141r3 .ret)))⟩
def f142r0 : ICode := .region [
 qO 2 (.move (.const (.bool false)))] none
def f142r1 : ICode := .region [
 qM 3 0,
 qM 4 0,
 qO 5 (.bin .sub (.tmp 4) (qK 1)),
 qO 6 (.bin .and (.tmp 3) (.tmp 5)),
 qO 7 (.bin .eql (.tmp 6) (qK 0)),
 qM 2 7] none
/- internal/strconv.isPowerOfTwo -/
def f142 : IFn := ⟨8, [.inl 2], (.seq f142r0 (.seq f142r1 .ret))⟩
def f143r0 : ICode := .region [
 qO 2 (.move (qK 0))] none
def f143r1 : ICode := .region [
 qM 3 0,
 qO 4 (.conv .u32 (.tmp 3)),
 qO 5 (.call 154 [(.tmp 4)]),
 qM 2 5] none
def f143r2 : ICode := .region [
 qM 6 0,
 qO 7 (.call 155 [(.tmp 6)]),
 qM 2 7] none
/- math/bits.TrailingZeros -/
def f143 : IFn := ⟨8, [.inl 2], (.seq f143r0 (.seq (.cond (.const (.bool false)) (.seq f143r1 .ret) .skip) (.seq f143r2 .ret)))⟩
def f115r0 : ICode := .region [
 qO 4 (.move (.const (.bool false)))] none
def f115r1 : ICode := .region [
 qM 5 0,
 qM 6 1,
 qO 7 (.call 144 [(.tmp 5), (.tmp 6)]),
 qO 8 (.bin .geq (.tmp 7) (qK 0)),
 qM 4 8] none
/- slices.Contains[[]string,string] -/
def f115 : IFn := ⟨9, [.inl 4], (.seq f115r0 (.seq f115r1 .ret))⟩
def f26r0 : ICode := .region [
 qO 4 (.move (.const (.bool false)))] none
def f26r1 : ICode := .region [
 qM 5 0,
 qM 6 1,
 qO 7 (.call 47 [(.tmp 5), (.tmp 6)]),
 qO 8 (.bin .geq (.tmp 7) (qK 0)),
 qM 4 8] none
/- slices.Contains[[]int,int] -/
def f26 : IFn := ⟨9, [.inl 4], (.seq f26r0 (.seq f26r1 .ret))⟩
def f116r0 : ICode := .region [
 qO 4 (.move (.const (.pointer none)))] none
def f116r1 : ICode := .region [
 qM 5 1] none
def f116r2 : ICode := .region [
 qO 7 (.bin .eql (.tmp 5) (qK 105)),
 qM 6 7] none
def f116r3 : ICode := .region [
 qM 8 0,
 qO 9 (.nilCheck (.tmp 8)),
 qO 10 (.fieldAddr 0 (.tmp 9)),
 qM 4 10] none
def f116r4 : ICode := .region [
 qO 12 (.bin .eql (.tmp 5) (qK 109)),
 qM 11 12] none
def f116r5 : ICode := .region [
 qM 13 0,
 qO 14 (.nilCheck (.tmp 13)),
 qO 15 (.fieldAddr 1 (.tmp 14)),
 qM 4 15] none
def f116r6 : ICode := .region [
 qO 17 (.bin .eql (.tmp 5) (qK 115)),
 qM 16 17] none
def f116r7 : ICode := .region [
 qM 18 0,
 qO 19 (.nilCheck (.tmp 18)),
 qO 20 (.fieldAddr 2 (.tmp 19)),
 qM 4 20] none
def f116r8 : ICode := .region [
 qM 21 0,
 qO 22 (.nilCheck (.tmp 21)),
 qO 23 (.fieldAddr 3 (.tmp 22)),
 qM 4 23] none
/- (*ferret/syn.Flags).of -/
def f116 : IFn := ⟨24, [.inl 4], (.seq f116r0 (.seq (.seq f116r1 (.block 0 (.seq f116r2 (.cond (.tmp 6) (.seq f116r3 .ret) (.seq f116r4 (.cond (.tmp 11) (.seq f116r5 .ret) (.seq f116r6 (.cond (.tmp 16) (.seq f116r7 .ret) .skip)))))))) (.seq f116r8 .ret)))⟩
def f117r0 : ICode := .region [
 qO 2 (.move (.const (.slice none 0 0))),
 qO 3 (.move (.const (.bool false)))] none
def f117r1 : ICode := .region [
 qM 13 0,
 qO 14 (.bin .eql (.tmp 13) (.const (.string ⟨⟨[65, 110, 121]⟩⟩)))] none
def f117r2 : ICode := .region [
 qO 15 (.build [qZ, qZ] [(1, 1, (qK 1114111))]),
 qO 16 (.buildSlice 53 1 [qZ, qZ] [(0, 2, (.tmp 15))]),
 qO 17 (.call 67 [(.tmp 16)]),
 qM 2 17,
 qO 3 (.move (.const (.bool true)))] none
def f117r3 : ICode := .region [
 qO 18 (.call 145 []),
 qO 19 (.len 1 (.tmp 18)),
 qO 20 (.move (qK 0))] none
def f117r4 : ICode := .region [
 qO 21 (.bin .lss (.tmp 20) (.tmp 19))] none
def f117r5 : ICode := .region [
 qO 22 (.indexSl 2 (.tmp 18) (.tmp 20)),
 qO 23 (.loadN 2 (.tmp 22)),
 qO 5 (.new [(.string ⟨⟨[]⟩⟩), (.slice none 0 0)] 193),
  ⟨none, .store 2 (.tmp 5) (.tmp 23), none⟩] none
def f117r6 : ICode := .region [
 qO 24 (.fieldAddr 0 (.tmp 5)),
 qO 25 (.load1 (.tmp 24)),
 qM 26 0,
 qO 27 (.bin .eql (.tmp 25) (.tmp 26))] none
def f117r7 : ICode := .region [
 qO 28 (.fieldAddr 1 (.tmp 5)),
 qO 29 (.load1 (.tmp 28)),
 qO 30 (.call 146 [(.tmp 29)]),
 qM 2 30,
 qO 3 (.move (.const (.bool true)))] none
def f117r8 : ICode := .region [
 qO 31 (.bin .add (.tmp 20) (qK 1)),
 qM 20 31] none
def f117r9 : ICode := .region [
 qO 32 (.call 147 []),
 qO 33 (.len 1 (.tmp 32)),
 qO 34 (.move (qK 0))] none
def f117r10 : ICode := .region [
 qO 35 (.bin .lss (.tmp 34) (.tmp 33))] none
def f117r11 : ICode := .region [
 qO 36 (.indexSl 2 (.tmp 32) (.tmp 34)),
 qO 37 (.loadN 2 (.tmp 36)),
 qO 7 (.new [(.string ⟨⟨[]⟩⟩), (.slice none 0 0)] 197),
  ⟨none, .store 2 (.tmp 7) (.tmp 37), none⟩] none
def f117r12 : ICode := .region [
 qO 38 (.fieldAddr 0 (.tmp 7)),
 qO 39 (.load1 (.tmp 38)),
 qM 40 0,
 qO 41 (.bin .neq (.tmp 39) (.tmp 40))] none
def f117r13 : ICode := .region [
 qO 8 (.move (.const (.slice none 0 0)))] none
def f117r14 : ICode := .region [
 qO 42 (.fieldAddr 1 (.tmp 7)),
 qO 43 (.load1 (.tmp 42)),
 qO 44 (.len 1 (.tmp 43)),
 qO 45 (.move (qK 0))] none
def f117r15 : ICode := .region [
 qO 46 (.bin .lss (.tmp 45) (.tmp 44))] none
def f117r16 : ICode := .region [
 qO 47 (.indexSl 1 (.tmp 43) (.tmp 45)),
 qO 48 (.load1 (.tmp 47)),
 qM 10 48] none
def f117r17 : ICode := .region [
 qM 50 10,
 qO 51 (.call 117 [(.tmp 50)]),
 qM 49 51,
 qO 52 (.extract (.tmp 49) 0),
 qO 53 (.extract (.tmp 49) 1),
 qM 11 52,
 qM 12 53] none
def f117r18 : ICode := .region [
 qM 54 8,
 qM 55 11,
 qO 56 (.call 98 [(.tmp 54), (.tmp 55)]),
 qM 8 56] none
def f117r19 : ICode := .region [
 qO 57 (.bin .add (.tmp 45) (qK 1)),
 qM 45 57] none
def f117r20 : ICode := .region [
 qM 58 8,
 qM 2 58,
 qO 3 (.move (.const (.bool true)))] none
def f117r21 : ICode := .region [
 qO 59 (.bin .add (.tmp 34) (qK 1)),
 qM 34 59] none
def f117r22 : ICode := .region [
 qO 2 (.move (.const (.slice none 0 0))),
 qO 3 (.move (.const (.bool false)))] none
/- ferret/ucd.Class -/
def f117 : IFn := ⟨60, [.inl 2, .inl 3], (.seq f117r0 (.seq (.seq f117r1 (.cond (.tmp 14) (.seq f117r2 .ret) .skip)) (.seq (.seq f117r3 (.block 0 (.loop (.seq f117r4 (.seq (.cond (.tmp 21) .skip (.exit 0)) (.seq (.block 1 (.seq f117r5 (.seq f117r6 (.cond (.tmp 27) (.seq f117r7 .ret) .skip)))) f117r8)))))) (.seq (.seq f117r9 (.block 2 (.loop (.seq f117r10 (.seq (.cond (.tmp 35) .skip (.exit 2)) (.seq (.block 3 (.seq f117r11 (.seq (.seq f117r12 (.cond (.tmp 41) (.exit 3) .skip)) (.seq f117r13 (.seq (.seq f117r14 (.block 4 (.loop (.seq f117r15 (.seq (.cond (.tmp 46) .skip (.exit 4)) (.seq (.block 5 (.seq f117r16 (.seq f117r17 f117r18))) f117r19)))))) (.seq f117r20 .ret)))))) f117r21)))))) (.seq f117r22 .ret)))))⟩
def f118r0 : ICode := .region [
 qO 2 (.move (qK 0))] none
def f118r1 : ICode := .region [
 qM 4 0,
 qO 5 (.bin .geq (.tmp 4) (qK 48)),
 qM 6 5,
  ⟨(some 7), .move (.tmp 0), (some ((some 6), true))⟩,
  ⟨(some 8), .bin .leq (.tmp 7) (qK 57), (some ((some 6), true))⟩,
 qO 9 (.pick (.tmp 6) (.tmp 8) (.const (.bool false))),
 qM 3 9] none
def f118r2 : ICode := .region [
 qM 10 0,
 qO 11 (.bin .sub (.tmp 10) (qK 48)),
 qM 2 11] none
def f118r3 : ICode := .region [
 qM 13 0,
 qO 14 (.bin .geq (.tmp 13) (qK 65)),
 qM 15 14,
  ⟨(some 16), .move (.tmp 0), (some ((some 15), true))⟩,
  ⟨(some 17), .bin .leq (.tmp 16) (qK 70), (some ((some 15), true))⟩,
 qO 18 (.pick (.tmp 15) (.tmp 17) (.const (.bool false))),
 qM 12 18] none
def f118r4 : ICode := .region [
 qM 19 0,
 qO 20 (.bin .sub (.tmp 19) (qK 65)),
 qO 21 (.bin .add (.tmp 20) (qK 10)),
 qM 2 21] none
def f118r5 : ICode := .region [
 qM 23 0,
 qO 24 (.bin .geq (.tmp 23) (qK 97)),
 qM 25 24,
  ⟨(some 26), .move (.tmp 0), (some ((some 25), true))⟩,
  ⟨(some 27), .bin .leq (.tmp 26) (qK 102), (some ((some 25), true))⟩,
 qO 28 (.pick (.tmp 25) (.tmp 27) (.const (.bool false))),
 qM 22 28] none
def f118r6 : ICode := .region [
 qM 29 0,
 qO 30 (.bin .sub (.tmp 29) (qK 97)),
 qO 31 (.bin .add (.tmp 30) (qK 10)),
 qM 2 31] none
def f118r7 : ICode := .region [
 qO 2 (.move (.const (.int .i64 (.negSucc 0))))] none
/- ferret/syn.hex -/
def f118 : IFn := ⟨32, [.inl 2], (.seq f118r0 (.seq (.block 0 (.seq f118r1 (.cond (.tmp 3) (.seq f118r2 .ret) (.seq f118r3 (.cond (.tmp 12) (.seq f118r4 .ret) (.seq f118r5 (.cond (.tmp 22) (.seq f118r6 .ret) .skip))))))) (.seq f118r7 .ret)))⟩
def f119r0 : ICode := .region [
 qO 0 (.move (.const (.slice none 0 0)))] none
def f119r1 : ICode := .region [
 qO 1 (.build [qZ, qZ] [(0, 1, (qK 9)), (1, 1, (qK 13))]),
 qO 2 (.build [qZ, qZ] [(0, 1, (qK 32)), (1, 1, (qK 32))]),
 qO 3 (.build [qZ, qZ] [(0, 1, (qK 133)), (1, 1, (qK 133))]),
 qO 4 (.build [qZ, qZ] [(0, 1, (qK 160)), (1, 1, (qK 160))]),
 qO 5 (.build [qZ, qZ] [(0, 1, (qK 8192)), (1, 1, (qK 8202))]),
 qO 6 (.build [qZ, qZ] [(0, 1, (qK 8232)), (1, 1, (qK 8233))]),
 qO 7 (.build [qZ, qZ] [(0, 1, (qK 12288)), (1, 1, (qK 12288))]),
 qO 8 (.buildSlice 198 7 [qZ, qZ, qZ, qZ, qZ, qZ, qZ, qZ, qZ, qZ, qZ, qZ, qZ, qZ] [(0, 2, (.tmp 1)), (2, 2, (.tmp 2)), (4, 2, (.tmp 3)), (6, 2, (.tmp 4)), (8, 2, (.tmp 5)), (10, 2, (.tmp 6)), (12, 2, (.tmp 7))]),
 qO 9 (.call 146 [(.tmp 8)]),
 qM 0 9] none
/- ferret/ucd.blanks -/
def f119 : IFn := ⟨10, [.inl 0], (.seq f119r0 (.seq f119r1 .ret))⟩
def f120r0 : ICode := .region [
 qO 4 (.move (qK 0))] none
def f120r1 : ICode := .region [
 qM 5 0,
 qM 6 1,
 qO 7 (.call 148 [(.tmp 5), (.tmp 6)]),
 qM 4 7] none
/- internal/stringslite.IndexByte -/
def f120 : IFn := ⟨8, [.inl 4], (.seq f120r0 (.seq f120r1 .ret))⟩
def f130r0 : ICode := .region [
 qO 2 (.move (qK 0))] none
def f130r1 : ICode := .region [
 qM 3 0,
 qO 4 (.bin .geq (.tmp 3) (.const (.int .u32 (.ofNat 65536))))] none
def f130r2 : ICode := .region [
 qM 5 0,
 qO 6 (.bin .shr (.tmp 5) (.const (.int .u64 (.ofNat 16)))),
 qM 0 6] none
def f130r3 : ICode := .region [
 qO 2 (.move (qK 16))] none
def f130r4 : ICode := .region [
 qM 7 0,
 qO 8 (.bin .geq (.tmp 7) (.const (.int .u32 (.ofNat 256))))] none
def f130r5 : ICode := .region [
 qM 9 0,
 qO 10 (.bin .shr (.tmp 9) (.const (.int .u64 (.ofNat 8)))),
 qM 0 10] none
def f130r6 : ICode := .region [
 qM 11 2,
 qO 12 (.bin .add (.tmp 11) (qK 8)),
 qM 2 12] none
def f130r7 : ICode := .region [
 qM 13 2,
 qM 14 0,
 qO 15 (.conv .u8 (.tmp 14)),
 qO 16 (.indexStr (.const (.string ⟨⟨[0, 1, 2, 2, 3, 3, 3, 3, 4, 4, 4, 4, 4, 4, 4, 4, 5, 5, 5, 5, 5, 5, 5, 5, 5, 5, 5, 5, 5, 5, 5, 5, 6, 6, 6, 6, 6, 6, 6, 6, 6, 6, 6, 6, 6, 6, 6, 6, 6, 6, 6, 6, 6, 6, 6, 6, 6, 6, 6, 6, 6, 6, 6, 6, 7, 7, 7, 7, 7, 7, 7, 7, 7, 7, 7, 7, 7, 7, 7, 7, 7, 7, 7, 7, 7, 7, 7, 7, 7, 7, 7, 7, 7, 7, 7, 7, 7, 7, 7, 7, 7, 7, 7, 7, 7, 7, 7, 7, 7, 7, 7, 7, 7, 7, 7, 7, 7, 7, 7, 7, 7, 7, 7, 7, 7, 7, 7, 7, 8, 8, 8, 8, 8, 8, 8, 8, 8, 8, 8, 8, 8, 8, 8, 8, 8, 8, 8, 8, 8, 8, 8, 8, 8, 8, 8, 8, 8, 8, 8, 8, 8, 8, 8, 8, 8, 8, 8, 8, 8, 8, 8, 8, 8, 8, 8, 8, 8, 8, 8, 8, 8, 8, 8, 8, 8, 8, 8, 8, 8, 8, 8, 8, 8, 8, 8, 8, 8, 8, 8, 8, 8, 8, 8, 8, 8, 8, 8, 8, 8, 8, 8, 8, 8, 8, 8, 8, 8, 8, 8, 8, 8, 8, 8, 8, 8, 8, 8, 8, 8, 8, 8, 8, 8, 8, 8, 8, 8, 8, 8, 8, 8, 8, 8, 8, 8, 8, 8, 8, 8, 8, 8, 8, 8, 8, 8, 8]⟩⟩)) (.tmp 15)),
 qO 17 (.conv .i64 (.tmp 16)),
 qO 18 (.bin .add (.tmp 13) (.tmp 17)),
 qM 2 18] none
/- math/bits.Len32 -/
def f130 : IFn := ⟨19, [.inl 2], (.seq f130r0 (.seq (.seq f130r1 (.cond (.tmp 4) (.seq f130r2 f130r3) .skip)) (.seq (.seq f130r4 (.cond (.tmp 8) (.seq f130r5 f130r6) .skip)) (.seq f130r7 .ret))))⟩
def f132r0 : ICode := .region [
 qO 3 (.box 160 (.tmp 0))] none
def f132r1 : ICode := .region [
 qM 8 1,
 qO 9 (.bin .add (.tmp 8) (qK 1)),
 qM 6 9] none
def f132r2 : ICode := .region [
 qM 10 6,
 qM 11 2,
 qO 12 (.bin .lss (.tmp 10) (.tmp 11))] none
def f132r3 : ICode := .region [
 qM 15 6,
 qM 7 15] none
def f132r4 : ICode := .region [
 qM 16 7,
 qM 17 1,
 qO 18 (.bin .gtr (.tmp 16) (.tmp 17)),
 qM 19 18,
  ⟨(some 20), .fieldAddr 0 (.tmp 3), (some ((some 19), true))⟩,
  ⟨(some 21), .load1 (.tmp 20), (some ((some 19), true))⟩,
  ⟨(some 22), .move (.tmp 7), (some ((some 19), true))⟩,
  ⟨(some 23), .move (.tmp 7), (some ((some 19), true))⟩,
  ⟨(some 24), .bin .sub (.tmp 23) (qK 1), (some ((some 19), true))⟩,
  ⟨(some 25), .callv (.tmp 21) [(.tmp 22), (.tmp 24)], (some ((some 19), true))⟩,
 qO 26 (.pick (.tmp 19) (.tmp 25) (.const (.bool false)))] none
def f132r5 : ICode := .region [
 qO 29 (.fieldAddr 1 (.tmp 3)),
 qO 30 (.load1 (.tmp 29)),
 qM 31 7,
 qM 32 7,
 qO 33 (.bin .sub (.tmp 32) (qK 1)),
 qO 34 (.callv (.tmp 30) [(.tmp 31), (.tmp 33)])] none
def f132r6 : ICode := .region [
 qM 27 7,
 qO 28 (.bin .sub (.tmp 27) (qK 1)),
 qM 7 28] none
def f132r7 : ICode := .region [
 qM 13 6,
 qO 14 (.bin .add (.tmp 13) (qK 1)),
 qM 6 14] none
/- sort.insertionSort_func -/
def f132 : IFn := ⟨35, [], (.seq f132r0 (.seq f132r1 (.block 0 (.loop (.seq (.seq f132r2 (.cond (.tmp 12) .skip (.exit 0))) (.seq (.block 1 (.seq f132r3 (.block 2 (.loop (.seq (.seq f132r4 (.cond (.tmp 26) .skip (.exit 2))) (.seq (.block 3 f132r5) f132r6)))))) f132r7))))))⟩
def f133r0 : ICode := .region [
 qO 3 (.box 160 (.tmp 0))] none
def f133r1 : ICode := .region [
 qM 11 1,
 qM 6 11] none
def f133r2 : ICode := .region [
 qO 7 (.move (qK 0))] none
def f133r3 : ICode := .region [
 qM 12 2,
 qM 13 1,
 qO 14 (.bin .sub (.tmp 12) (.tmp 13)),
 qM 8 14] none
def f133r4 : ICode := .region [
 qM 15 8,
 qO 16 (.bin .sub (.tmp 15) (qK 1)),
 qO 17 (.bin .quo (.tmp 16) (qK 2)),
 qM 9 17] none
def f133r5 : ICode := .region [
 qM 18 9,
 qO 19 (.bin .geq (.tmp 18) (qK 0))] none
def f133r6 : ICode := .region [
 qO 22 (.loadN 2 (.tmp 3)),
 qM 23 9,
 qM 24 8,
 qM 25 6,
 qO 26 (.call 149 [(.tmp 22), (.tmp 23), (.tmp 24), (.tmp 25)])] none
def f133r7 : ICode := .region [
 qM 20 9,
 qO 21 (.bin .sub (.tmp 20) (qK 1)),
 qM 9 21] none
def f133r8 : ICode := .region [
 qM 27 8,
 qO 28 (.bin .sub (.tmp 27) (qK 1)),
 qM 10 28] none
def f133r9 : ICode := .region [
 qM 29 10,
 qO 30 (.bin .geq (.tmp 29) (qK 0))] none
def f133r10 : ICode := .region [
 qO 33 (.fieldAddr 1 (.tmp 3)),
 qO 34 (.load1 (.tmp 33)),
 qM 35 6,
 qM 36 6,
 qM 37 10,
 qO 38 (.bin .add (.tmp 36) (.tmp 37)),
 qO 39 (.callv (.tmp 34) [(.tmp 35), (.tmp 38)])] none
def f133r11 : ICode := .region [
 qO 40 (.loadN 2 (.tmp 3)),
 qM 41 7,
 qM 42 10,
 qM 43 6,
 qO 44 (.call 149 [(.tmp 40), (.tmp 41), (.tmp 42), (.tmp 43)])] none
def f133r12 : ICode := .region [
 qM 31 10,
 qO 32 (.bin .sub (.tmp 31) (qK 1)),
 qM 10 32] none
/- sort.heapSort_func -/
def f133 : IFn := ⟨45, [], (.seq f133r0 (.seq f133r1 (.seq f133r2 (.seq f133r3 (.seq (.seq f133r4 (.block 0 (.loop (.seq (.seq f133r5 (.cond (.tmp 19) .skip (.exit 0))) (.seq (.block 1 f133r6) f133r7))))) (.seq f133r8 (.block 2 (.loop (.seq (.seq f133r9 (.cond (.tmp 30) .skip (.exit 2))) (.seq (.block 3 (.seq f133r10 f133r11)) f133r12))))))))))⟩
def f134r0 : ICode := .region [
 qO 3 (.box 160 (.tmp 0))] none
def f134r1 : ICode := .region [
 qM 11 2,
 qM 12 1,
 qO 13 (.bin .sub (.tmp 11) (.tmp 12)),
 qM 6 13] none
def f134r2 : ICode := .region [
 qM 14 6,
 qO 15 (.bin .geq (.tmp 14) (qK 8))] none
def f134r3 : ICode := .region [
 qM 16 6,
 qO 17 (.conv .u64 (.tmp 16)),
 qO 7 (.new [(.int .u64 (.ofNat 0))] 199),
  ⟨none, .store 1 (.tmp 7) (.tmp 17), none⟩] none
def f134r4 : ICode := .region [
 qM 18 6,
 qO 19 (.call 150 [(.tmp 18)]),
 qM 8 19] none
def f134r5 : ICode := .region [
 qM 20 1,
 qM 21 6,
 qO 22 (.bin .quo (.tmp 21) (qK 4)),
 qO 23 (.bin .mul (.tmp 22) (qK 2)),
 qO 24 (.bin .add (.tmp 20) (.tmp 23)),
 qO 25 (.bin .sub (.tmp 24) (qK 1)),
 qM 9 25] none
def f134r6 : ICode := .region [
 qM 26 9,
 qM 27 1,
 qM 28 6,
 qO 29 (.bin .quo (.tmp 28) (qK 4)),
 qO 30 (.bin .mul (.tmp 29) (qK 2)),
 qO 31 (.bin .add (.tmp 27) (.tmp 30)),
 qO 32 (.bin .add (.tmp 31) (qK 1)),
 qO 33 (.bin .leq (.tmp 26) (.tmp 32))] none
def f134r7 : ICode := .region [
 qO 36 (.call 151 [(.tmp 7)]),
 qM 37 8,
 qO 38 (.bin .sub (.tmp 37) (.const (.int .u64 (.ofNat 1)))),
 qO 39 (.bin .and (.tmp 36) (.tmp 38)),
 qO 40 (.conv .i64 (.tmp 39)),
 qM 10 40] none
def f134r8 : ICode := .region [
 qM 41 10,
 qM 42 6,
 qO 43 (.bin .geq (.tmp 41) (.tmp 42))] none
def f134r9 : ICode := .region [
 qM 44 10,
 qM 45 6,
 qO 46 (.bin .sub (.tmp 44) (.tmp 45)),
 qM 10 46] none
def f134r10 : ICode := .region [
 qO 47 (.fieldAddr 1 (.tmp 3)),
 qO 48 (.load1 (.tmp 47)),
 qM 49 9,
 qM 50 1,
 qM 51 10,
 qO 52 (.bin .add (.tmp 50) (.tmp 51)),
 qO 53 (.callv (.tmp 48) [(.tmp 49), (.tmp 52)])] none
def f134r11 : ICode := .region [
 qM 34 9,
 qO 35 (.bin .add (.tmp 34) (qK 1)),
 qM 9 35] none
/- sort.breakPatterns_func -/
def f134 : IFn := ⟨54, [], (.seq f134r0 (.seq f134r1 (.seq f134r2 (.cond (.tmp 15) (.seq f134r3 (.seq f134r4 (.seq f134r5 (.block 0 (.loop (.seq (.seq f134r6 (.cond (.tmp 33) .skip (.exit 0))) (.seq (.block 1 (.seq f134r7 (.seq (.seq f134r8 (.cond (.tmp 43) f134r9 .skip)) f134r10))) f134r11))))))) .skip))))⟩
def f135r0 : ICode := .region [
 qO 3 (.box 160 (.tmp 0)),
 qO 6 (.move (qK 0)),
 qO 7 (.move (qK 0))] none
def f135r1 : ICode := .region [
 qM 13 2,
 qM 14 1,
 qO 15 (.bin .sub (.tmp 13) (.tmp 14)),
 qM 8 15] none
def f135r2 : ICode := .region [
 qO 9 (.new [qZ] 3)] none
def f135r3 : ICode := .region [
 qM 16 1,
 qM 17 8,
 qO 18 (.bin .quo (.tmp 17) (qK 4)),
 qO 19 (.bin .mul (.tmp 18) (qK 1)),
 qO 20 (.bin .add (.tmp 16) (.tmp 19)),
 qM 10 20] none
def f135r4 : ICode := .region [
 qM 21 1,
 qM 22 8,
 qO 23 (.bin .quo (.tmp 22) (qK 4)),
 qO 24 (.bin .mul (.tmp 23) (qK 2)),
 qO 25 (.bin .add (.tmp 21) (.tmp 24)),
 qM 11 25] none
def f135r5 : ICode := .region [
 qM 26 1,
 qM 27 8,
 qO 28 (.bin .quo (.tmp 27) (qK 4)),
 qO 29 (.bin .mul (.tmp 28) (qK 3)),
 qO 30 (.bin .add (.tmp 26) (.tmp 29)),
 qM 12 30] none
def f135r6 : ICode := .region [
 qM 31 8,
 qO 32 (.bin .geq (.tmp 31) (qK 8))] none
def f135r7 : ICode := .region [
 qM 33 8,
 qO 34 (.bin .geq (.tmp 33) (qK 50))] none
def f135r8 : ICode := .region [
 qO 35 (.loadN 2 (.tmp 3)),
 qM 36 10,
 qO 37 (.call 152 [(.tmp 35), (.tmp 36), (.tmp 9)]),
 qM 10 37] none
def f135r9 : ICode := .region [
 qO 38 (.loadN 2 (.tmp 3)),
 qM 39 11,
 qO 40 (.call 152 [(.tmp 38), (.tmp 39), (.tmp 9)]),
 qM 11 40] none
def f135r10 : ICode := .region [
 qO 41 (.loadN 2 (.tmp 3)),
 qM 42 12,
 qO 43 (.call 152 [(.tmp 41), (.tmp 42), (.tmp 9)]),
 qM 12 43] none
def f135r11 : ICode := .region [
 qO 44 (.loadN 2 (.tmp 3)),
 qM 45 10,
 qM 46 11,
 qM 47 12,
 qO 48 (.call 153 [(.tmp 44), (.tmp 45), (.tmp 46), (.tmp 47), (.tmp 9)]),
 qM 11 48] none
def f135r12 : ICode := .region [
 qO 49 (.load1 (.tmp 9))] none
def f135r13 : ICode := .region [
 qO 52 (.bin .eql (.tmp 49) (qK 0)),
 qM 51 52] none
def f135r14 : ICode := .region [
 qM 53 11,
 qM 6 53,
 qO 7 (.move (qK 1))] none
def f135r15 : ICode := .region [
 qO 55 (.bin .eql (.tmp 49) (qK 12)),
 qM 54 55] none
def f135r16 : ICode := .region [
 qM 56 11,
 qM 6 56,
 qO 7 (.move (qK 2))] none
def f135r17 : ICode := .region [
 qM 50 11,
 qM 6 50,
 qO 7 (.move (qK 0))] none
/- sort.choosePivot_func -/
def f135 : IFn := ⟨57, [.inl 6, .inl 7], (.seq f135r0 (.seq f135r1 (.seq f135r2 (.seq f135r3 (.seq f135r4 (.seq f135r5 (.seq (.seq f135r6 (.cond (.tmp 32) (.seq (.seq f135r7 (.cond (.tmp 34) (.seq f135r8 (.seq f135r9 f135r10)) .skip)) f135r11) .skip)) (.seq f135r12 (.block 0 (.seq f135r13 (.cond (.tmp 51) (.seq f135r14 .ret) (.seq f135r15 (.cond (.tmp 54) (.seq f135r16 .ret) (.seq f135r17 .ret))))))))))))))⟩
def f136r0 : ICode := .region [
 qO 3 (.box 160 (.tmp 0))] none
def f136r1 : ICode := .region [
 qM 8 1,
 qM 6 8] none
def f136r2 : ICode := .region [
 qM 9 2,
 qO 10 (.bin .sub (.tmp 9) (qK 1)),
 qM 7 10] none
def f136r3 : ICode := .region [
 qM 11 6,
 qM 12 7,
 qO 13 (.bin .lss (.tmp 11) (.tmp 12))] none
def f136r4 : ICode := .region [
 qO 14 (.fieldAddr 1 (.tmp 3)),
 qO 15 (.load1 (.tmp 14)),
 qM 16 6,
 qM 17 7,
 qO 18 (.callv (.tmp 15) [(.tmp 16), (.tmp 17)])] none
def f136r5 : ICode := .region [
 qM 19 6,
 qO 20 (.bin .add (.tmp 19) (qK 1)),
 qM 6 20] none
def f136r6 : ICode := .region [
 qM 21 7,
 qO 22 (.bin .sub (.tmp 21) (qK 1)),
 qM 7 22] none
/- sort.reverseRange_func -/
def f136 : IFn := ⟨23, [], (.seq f136r0 (.seq f136r1 (.seq f136r2 (.block 0 (.loop (.seq (.seq f136r3 (.cond (.tmp 13) .skip (.exit 0))) (.block 1 (.seq f136r4 (.seq f136r5 f136r6)))))))))⟩
def f137r0 : ICode := .region [
 qO 3 (.box 160 (.tmp 0)),
 qO 6 (.move (.const (.bool false)))] none
def f137r1 : ICode := .region [
 qM 11 1,
 qO 12 (.bin .add (.tmp 11) (qK 1)),
 qM 7 12] none
def f137r2 : ICode := .region [
 qO 8 (.move (qK 0))] none
def f137r3 : ICode := .region [
 qM 13 8,
 qO 14 (.bin .lss (.tmp 13) (qK 5))] none
def f137r4 : ICode := .region [
 qM 17 7,
 qM 18 2,
 qO 19 (.bin .lss (.tmp 17) (.tmp 18)),
 qM 20 19,
  ⟨(some 21), .fieldAddr 0 (.tmp 3), (some ((some 20), true))⟩,
  ⟨(some 22), .load1 (.tmp 21), (some ((some 20), true))⟩,
  ⟨(some 23), .move (.tmp 7), (some ((some 20), true))⟩,
  ⟨(some 24), .move (.tmp 7), (some ((some 20), true))⟩,
  ⟨(some 25), .bin .sub (.tmp 24) (qK 1), (some ((some 20), true))⟩,
  ⟨(some 26), .callv (.tmp 22) [(.tmp 23), (.tmp 25)], (some ((some 20), true))⟩,
  ⟨(some 27), .un .not (.tmp 26), (some ((some 20), true))⟩,
 qO 28 (.pick (.tmp 20) (.tmp 27) (.const (.bool false)))] none
def f137r5 : ICode := .region [
 qM 29 7,
 qO 30 (.bin .add (.tmp 29) (qK 1)),
 qM 7 30] none
def f137r6 : ICode := .region [
 qM 31 7,
 qM 32 2,
 qO 33 (.bin .eql (.tmp 31) (.tmp 32))] none
def f137r7 : ICode := .region [
 qO 6 (.move (.const (.bool true)))] none
def f137r8 : ICode := .region [
 qM 34 2,
 qM 35 1,
 qO 36 (.bin .sub (.tmp 34) (.tmp 35)),
 qO 37 (.bin .lss (.tmp 36) (qK 50))] none
def f137r9 : ICode := .region [
 qO 6 (.move (.const (.bool false)))] none
def f137r10 : ICode := .region [
 qO 38 (.fieldAddr 1 (.tmp 3)),
 qO 39 (.load1 (.tmp 38)),
 qM 40 7,
 qM 41 7,
 qO 42 (.bin .sub (.tmp 41) (qK 1)),
 qO 43 (.callv (.tmp 39) [(.tmp 40), (.tmp 42)])] none
def f137r11 : ICode := .region [
 qM 44 7,
 qM 45 1,
 qO 46 (.bin .sub (.tmp 44) (.tmp 45)),
 qO 47 (.bin .geq (.tmp 46) (qK 2))] none
def f137r12 : ICode := .region [
 qM 48 7,
 qO 49 (.bin .sub (.tmp 48) (qK 1)),
 qM 9 49] none
def f137r13 : ICode := .region [
 qM 50 9,
 qO 51 (.bin .geq (.tmp 50) (qK 1))] none
def f137r14 : ICode := .region [
 qO 54 (.fieldAddr 0 (.tmp 3)),
 qO 55 (.load1 (.tmp 54)),
 qM 56 9,
 qM 57 9,
 qO 58 (.bin .sub (.tmp 57) (qK 1)),
 qO 59 (.callv (.tmp 55) [(.tmp 56), (.tmp 58)]),
 qO 60 (.un .not (.tmp 59))] none
def f137r15 : ICode := .region [
 qO 61 (.fieldAddr 1 (.tmp 3)),
 qO 62 (.load1 (.tmp 61)),
 qM 63 9,
 qM 64 9,
 qO 65 (.bin .sub (.tmp 64) (qK 1)),
 qO 66 (.callv (.tmp 62) [(.tmp 63), (.tmp 65)])] none
def f137r16 : ICode := .region [
 qM 52 9,
 qO 53 (.bin .sub (.tmp 52) (qK 1)),
 qM 9 53] none
def f137r17 : ICode := .region [
 qM 67 2,
 qM 68 7,
 qO 69 (.bin .sub (.tmp 67) (.tmp 68)),
 qO 70 (.bin .geq (.tmp 69) (qK 2))] none
def f137r18 : ICode := .region [
 qM 71 7,
 qO 72 (.bin .add (.tmp 71) (qK 1)),
 qM 10 72] none
def f137r19 : ICode := .region [
 qM 73 10,
 qM 74 2,
 qO 75 (.bin .lss (.tmp 73) (.tmp 74))] none
def f137r20 : ICode := .region [
 qO 78 (.fieldAddr 0 (.tmp 3)),
 qO 79 (.load1 (.tmp 78)),
 qM 80 10,
 qM 81 10,
 qO 82 (.bin .sub (.tmp 81) (qK 1)),
 qO 83 (.callv (.tmp 79) [(.tmp 80), (.tmp 82)]),
 qO 84 (.un .not (.tmp 83))] none
def f137r21 : ICode := .region [
 qO 85 (.fieldAddr 1 (.tmp 3)),
 qO 86 (.load1 (.tmp 85)),
 qM 87 10,
 qM 88 10,
 qO 89 (.bin .sub (.tmp 88) (qK 1)),
 qO 90 (.callv (.tmp 86) [(.tmp 87), (.tmp 89)])] none
def f137r22 : ICode := .region [
 qM 76 10,
 qO 77 (.bin .add (.tmp 76) (qK 1)),
 qM 10 77] none
def f137r23 : ICode := .region [
 qM 15 8,
 qO 16 (.bin .add (.tmp 15) (qK 1)),
 qM 8 16] none
def f137r24 : ICode := .region [
 qO 6 (.move (.const (.bool false)))] none
/- sort.partialInsertionSort_func -/
def f137 : IFn := ⟨91, [.inl 6], (.seq f137r0 (.seq f137r1 (.seq (.seq f137r2 (.block 0 (.loop (.seq (.seq f137r3 (.cond (.tmp 14) .skip (.exit 0))) (.seq (.block 1 (.seq (.block 2 (.loop (.seq (.seq f137r4 (.cond (.tmp 28) .skip (.exit 2))) (.block 3 f137r5)))) (.seq (.seq f137r6 (.cond (.tmp 33) (.seq f137r7 .ret) .skip)) (.seq (.seq f137r8 (.cond (.tmp 37) (.seq f137r9 .ret) .skip)) (.seq f137r10 (.seq (.seq f137r11 (.cond (.tmp 47) (.seq f137r12 (.block 4 (.loop (.seq (.seq f137r13 (.cond (.tmp 51) .skip (.exit 4))) (.seq (.block 5 (.seq (.seq f137r14 (.cond (.tmp 60) (.exit 4) .skip)) f137r15)) f137r16))))) .skip)) (.seq f137r17 (.cond (.tmp 70) (.seq f137r18 (.block 6 (.loop (.seq (.seq f137r19 (.cond (.tmp 75) .skip (.exit 6))) (.seq (.block 7 (.seq (.seq f137r20 (.cond (.tmp 84) (.exit 6) .skip)) f137r21)) f137r22))))) .skip)))))))) f137r23))))) (.seq f137r24 .ret))))⟩
def f138r0 : ICode := .region [
 qO 4 (.box 160 (.tmp 0)),
 qO 8 (.move (qK 0))] none
def f138r1 : ICode := .region [
 qO 11 (.fieldAddr 1 (.tmp 4)),
 qO 12 (.load1 (.tmp 11)),
 qM 13 1,
 qM 14 3,
 qO 15 (.callv (.tmp 12) [(.tmp 13), (.tmp 14)])] none
def f138r2 : ICode := .region [
 qM 16 1,
 qO 17 (.bin .add (.tmp 16) (qK 1)),
 qM 18 2,
 qO 19 (.bin .sub (.tmp 18) (qK 1)),
 qM 9 17,
 qM 10 19] none
def f138r3 : ICode := .region [
 qM 20 9,
 qM 21 10,
 qO 22 (.bin .leq (.tmp 20) (.tmp 21)),
 qM 23 22,
  ⟨(some 24), .fieldAddr 0 (.tmp 4), (some ((some 23), true))⟩,
  ⟨(some 25), .load1 (.tmp 24), (some ((some 23), true))⟩,
  ⟨(some 26), .move (.tmp 1), (some ((some 23), true))⟩,
  ⟨(some 27), .move (.tmp 9), (some ((some 23), true))⟩,
  ⟨(some 28), .callv (.tmp 25) [(.tmp 26), (.tmp 27)], (some ((some 23), true))⟩,
  ⟨(some 29), .un .not (.tmp 28), (some ((some 23), true))⟩,
 qO 30 (.pick (.tmp 23) (.tmp 29) (.const (.bool false)))] none
def f138r4 : ICode := .region [
 qM 31 9,
 qO 32 (.bin .add (.tmp 31) (qK 1)),
 qM 9 32] none
def f138r5 : ICode := .region [
 qM 33 9,
 qM 34 10,
 qO 35 (.bin .leq (.tmp 33) (.tmp 34)),
 qM 36 35,
  ⟨(some 37), .fieldAddr 0 (.tmp 4), (some ((some 36), true))⟩,
  ⟨(some 38), .load1 (.tmp 37), (some ((some 36), true))⟩,
  ⟨(some 39), .move (.tmp 1), (some ((some 36), true))⟩,
  ⟨(some 40), .move (.tmp 10), (some ((some 36), true))⟩,
  ⟨(some 41), .callv (.tmp 38) [(.tmp 39), (.tmp 40)], (some ((some 36), true))⟩,
 qO 42 (.pick (.tmp 36) (.tmp 41) (.const (.bool false)))] none
def f138r6 : ICode := .region [
 qM 43 10,
 qO 44 (.bin .sub (.tmp 43) (qK 1)),
 qM 10 44] none
def f138r7 : ICode := .region [
 qM 45 9,
 qM 46 10,
 qO 47 (.bin .gtr (.tmp 45) (.tmp 46))] none
def f138r8 : ICode := .region [
 qO 48 (.fieldAddr 1 (.tmp 4)),
 qO 49 (.load1 (.tmp 48)),
 qM 50 9,
 qM 51 10,
 qO 52 (.callv (.tmp 49) [(.tmp 50), (.tmp 51)])] none
def f138r9 : ICode := .region [
 qM 53 9,
 qO 54 (.bin .add (.tmp 53) (qK 1)),
 qM 9 54] none
def f138r10 : ICode := .region [
 qM 55 10,
 qO 56 (.bin .sub (.tmp 55) (qK 1)),
 qM 10 56] none
def f138r11 : ICode := .region [
 qM 57 9,
 qM 8 57] none
/- sort.partitionEqual_func -/
def f138 : IFn := ⟨58, [.inl 8], (.seq f138r0 (.seq f138r1 (.seq f138r2 (.seq (.block 0 (.loop (.block 1 (.seq (.block 2 (.loop (.seq (.seq f138r3 (.cond (.tmp 30) .skip (.exit 2))) (.block 3 f138r4)))) (.seq (.block 4 (.loop (.seq (.seq f138r5 (.cond (.tmp 42) .skip (.exit 4))) (.block 5 f138r6)))) (.seq (.seq f138r7 (.cond (.tmp 47) (.exit 0) .skip)) (.seq f138r8 (.seq f138r9 f138r10)))))))) (.seq f138r11 .ret)))))⟩
def f139r0 : ICode := .region [
 qO 4 (.box 160 (.tmp 0)),
 qO 8 (.move (qK 0)),
 qO 9 (.move (.const (.bool false)))] none
def f139r1 : ICode := .region [
 qO 12 (.fieldAddr 1 (.tmp 4)),
 qO 13 (.load1 (.tmp 12)),
 qM 14 1,
 qM 15 3,
 qO 16 (.callv (.tmp 13) [(.tmp 14), (.tmp 15)])] none
def f139r2 : ICode := .region [
 qM 17 1,
 qO 18 (.bin .add (.tmp 17) (qK 1)),
 qM 19 2,
 qO 20 (.bin .sub (.tmp 19) (qK 1)),
 qM 10 18,
 qM 11 20] none
def f139r3 : ICode := .region [
 qM 21 10,
 qM 22 11,
 qO 23 (.bin .leq (.tmp 21) (.tmp 22)),
 qM 24 23,
  ⟨(some 25), .fieldAddr 0 (.tmp 4), (some ((some 24), true))⟩,
  ⟨(some 26), .load1 (.tmp 25), (some ((some 24), true))⟩,
  ⟨(some 27), .move (.tmp 10), (some ((some 24), true))⟩,
  ⟨(some 28), .move (.tmp 1), (some ((some 24), true))⟩,
  ⟨(some 29), .callv (.tmp 26) [(.tmp 27), (.tmp 28)], (some ((some 24), true))⟩,
 qO 30 (.pick (.tmp 24) (.tmp 29) (.const (.bool false)))] none
def f139r4 : ICode := .region [
 qM 31 10,
 qO 32 (.bin .add (.tmp 31) (qK 1)),
 qM 10 32] none
def f139r5 : ICode := .region [
 qM 33 10,
 qM 34 11,
 qO 35 (.bin .leq (.tmp 33) (.tmp 34)),
 qM 36 35,
  ⟨(some 37), .fieldAddr 0 (.tmp 4), (some ((some 36), true))⟩,
  ⟨(some 38), .load1 (.tmp 37), (some ((some 36), true))⟩,
  ⟨(some 39), .move (.tmp 11), (some ((some 36), true))⟩,
  ⟨(some 40), .move (.tmp 1), (some ((some 36), true))⟩,
  ⟨(some 41), .callv (.tmp 38) [(.tmp 39), (.tmp 40)], (some ((some 36), true))⟩,
  ⟨(some 42), .un .not (.tmp 41), (some ((some 36), true))⟩,
 qO 43 (.pick (.tmp 36) (.tmp 42) (.const (.bool false)))] none
def f139r6 : ICode := .region [
 qM 44 11,
 qO 45 (.bin .sub (.tmp 44) (qK 1)),
 qM 11 45] none
def f139r7 : ICode := .region [
 qM 46 10,
 qM 47 11,
 qO 48 (.bin .gtr (.tmp 46) (.tmp 47))] none
def f139r8 : ICode := .region [
 qO 49 (.fieldAddr 1 (.tmp 4)),
 qO 50 (.load1 (.tmp 49)),
 qM 51 11,
 qM 52 1,
 qO 53 (.callv (.tmp 50) [(.tmp 51), (.tmp 52)])] none
def f139r9 : ICode := .region [
 qM 54 11,
 qM 8 54,
 qO 9 (.move (.const (.bool true)))] none
def f139r10 : ICode := .region [
 qO 55 (.fieldAddr 1 (.tmp 4)),
 qO 56 (.load1 (.tmp 55)),
 qM 57 10,
 qM 58 11,
 qO 59 (.callv (.tmp 56) [(.tmp 57), (.tmp 58)])] none
def f139r11 : ICode := .region [
 qM 60 10,
 qO 61 (.bin .add (.tmp 60) (qK 1)),
 qM 10 61] none
def f139r12 : ICode := .region [
 qM 62 11,
 qO 63 (.bin .sub (.tmp 62) (qK 1)),
 qM 11 63] none
def f139r13 : ICode := .region [
 qM 64 10,
 qM 65 11,
 qO 66 (.bin .leq (.tmp 64) (.tmp 65)),
 qM 67 66,
  ⟨(some 68), .fieldAddr 0 (.tmp 4), (some ((some 67), true))⟩,
  ⟨(some 69), .load1 (.tmp 68), (some ((some 67), true))⟩,
  ⟨(some 70), .move (.tmp 10), (some ((some 67), true))⟩,
  ⟨(some 71), .move (.tmp 1), (some ((some 67), true))⟩,
  ⟨(some 72), .callv (.tmp 69) [(.tmp 70), (.tmp 71)], (some ((some 67), true))⟩,
 qO 73 (.pick (.tmp 67) (.tmp 72) (.const (.bool false)))] none
def f139r14 : ICode := .region [
 qM 74 10,
 qO 75 (.bin .add (.tmp 74) (qK 1)),
 qM 10 75] none
def f139r15 : ICode := .region [
 qM 76 10,
 qM 77 11,
 qO 78 (.bin .leq (.tmp 76) (.tmp 77)),
 qM 79 78,
  ⟨(some 80), .fieldAddr 0 (.tmp 4), (some ((some 79), true))⟩,
  ⟨(some 81), .load1 (.tmp 80), (some ((some 79), true))⟩,
  ⟨(some 82), .move (.tmp 11), (some ((some 79), true))⟩,
  ⟨(some 83), .move (.tmp 1), (some ((some 79), true))⟩,
  ⟨(some 84), .callv (.tmp 81) [(.tmp 82), (.tmp 83)], (some ((some 79), true))⟩,
  ⟨(some 85), .un .not (.tmp 84), (some ((some 79), true))⟩,
 qO 86 (.pick (.tmp 79) (.tmp 85) (.const (.bool false)))] none
def f139r16 : ICode := .region [
 qM 87 11,
 qO 88 (.bin .sub (.tmp 87) (qK 1)),
 qM 11 88] none
def f139r17 : ICode := .region [
 qM 89 10,
 qM 90 11,
 qO 91 (.bin .gtr (.tmp 89) (.tmp 90))] none
def f139r18 : ICode := .region [
 qO 92 (.fieldAddr 1 (.tmp 4)),
 qO 93 (.load1 (.tmp 92)),
 qM 94 10,
 qM 95 11,
 qO 96 (.callv (.tmp 93) [(.tmp 94), (.tmp 95)])] none
def f139r19 : ICode := .region [
 qM 97 10,
 qO 98 (.bin .add (.tmp 97) (qK 1)),
 qM 10 98] none
def f139r20 : ICode := .region [
 qM 99 11,
 qO 100 (.bin .sub (.tmp 99) (qK 1)),
 qM 11 100] none
def f139r21 : ICode := .region [
 qO 101 (.fieldAddr 1 (.tmp 4)),
 qO 102 (.load1 (.tmp 101)),
 qM 103 11,
 qM 104 1,
 qO 105 (.callv (.tmp 102) [(.tmp 103), (.tmp 104)])] none
def f139r22 : ICode := .region [
 qM 106 11,
 qM 8 106,
 qO 9 (.move (.const (.bool false)))] none
/- sort.partition_func -/
def f139 : IFn := ⟨107, [.inl 8, .inl 9], (.seq f139r0 (.seq f139r1 (.seq f139r2 (.seq (.block 0 (.loop (.seq (.seq f139r3 (.cond (.tmp 30) .skip (.exit 0))) (.block 1 f139r4)))) (.seq (.block 2 (.loop (.seq (.seq f139r5 (.cond (.tmp 43) .skip (.exit 2))) (.block 3 f139r6)))) (.seq (.seq f139r7 (.cond (.tmp 48) (.seq f139r8 (.seq f139r9 .ret)) .skip)) (.seq f139r10 (.seq f139r11 (.seq f139r12 (.seq (.block 4 (.loop (.block 5 (.seq (.block 6 (.loop (.seq (.seq f139r13 (.cond (.tmp 73) .skip (.exit 6))) (.block 7 f139r14)))) (.seq (.block 8 (.loop (.seq (.seq f139r15 (.cond (.tmp 86) .skip (.exit 8))) (.block 9 f139r16)))) (.seq (.seq f139r17 (.cond (.tmp 91) (.exit 4) .skip)) (.seq f139r18 (.seq f139r19 f139r20)))))))) (.seq f139r21 (.seq f139r22 .ret))))))))))))⟩
def f12r0 : ICode := .region [
 qO 6 (.move (.const (.string ⟨⟨[]⟩⟩))),
 qO 7 (.move (qK 0))] none
def f12r1 : ICode := .region [
 qM 11 1,
 qO 12 (.bin .lss (.tmp 11) (qK 1)),
 qM 13 12,
  ⟨(some 14), .move (.tmp 1), (some ((some 13), false))⟩,
  ⟨(some 15), .bin .gtr (.tmp 14) (qK 4), (some ((some 13), false))⟩,
 qO 16 (.pick (.tmp 13) (.const (.bool true)) (.tmp 15))] none
def f12r2 : ICode := .region [
 qO 6 (.move (.const (.string ⟨⟨[]⟩⟩))),
 qO 7 (.move (qK 1))] none
def f12r3 : ICode := .region [
 qO 8 (.move (.const (.slice none 0 0)))] none
def f12r4 : ICode := .region [
 qM 17 2] none
def f12r5 : ICode := .region [
 qM 18 8,
 qM 19 1,
 qO 20 (.call 30 [(.tmp 19)]),
 qO 21 (.append 5 1 1 (.tmp 18) (.tmp 20)),
 qM 8 21] none
def f12r6 : ICode := .region [
 qM 22 0,
 qO 23 (.len 1 (.tmp 22)),
 qO 24 (.move (qK 0))] none
def f12r7 : ICode := .region [
 qO 25 (.bin .lss (.tmp 24) (.tmp 23))] none
def f12r8 : ICode := .region [
 qO 26 (.indexSl 1 (.tmp 22) (.tmp 24)),
 qO 27 (.load1 (.tmp 26)),
 qM 10 27] none
def f12r9 : ICode := .region [
 qM 28 10,
 qO 29 (.bin .lss (.tmp 28) (qK 0)),
 qM 30 29,
  ⟨(some 31), .move (.tmp 10), (some ((some 30), false))⟩,
  ⟨(some 32), .bin .gtr (.tmp 31) (qK 1114111), (some ((some 30), false))⟩,
 qO 33 (.pick (.tmp 30) (.const (.bool true)) (.tmp 32)),
 qM 34 33,
  ⟨(some 35), .move (.tmp 10), (some ((some 34), false))⟩,
  ⟨(some 36), .bin .geq (.tmp 35) (qK 55296), (some ((some 34), false))⟩,
  ⟨(some 37), .move (.tmp 36), (some ((some 34), false))⟩,
  ⟨(some 38), .move (.tmp 10), (some ((some 37), true))⟩,
  ⟨(some 39), .bin .leq (.tmp 38) (qK 57343), (some ((some 37), true))⟩,
  ⟨(some 40), .pick (.tmp 37) (.tmp 39) (.const (.bool false)), (some ((some 34), false))⟩,
 qO 41 (.pick (.tmp 34) (.const (.bool true)) (.tmp 40)),
 qM 42 41,
  ⟨(some 43), .move (.tmp 1), (some ((some 42), false))⟩,
  ⟨(some 44), .bin .eql (.tmp 43) (qK 4), (some ((some 42), false))⟩,
  ⟨(some 45), .move (.tmp 44), (some ((some 42), false))⟩,
  ⟨(some 46), .move (.tmp 10), (some ((some 45), true))⟩,
  ⟨(some 47), .bin .gtr (.tmp 46) (qK 255), (some ((some 45), true))⟩,
  ⟨(some 48), .pick (.tmp 45) (.tmp 47) (.const (.bool false)), (some ((some 42), false))⟩,
 qO 49 (.pick (.tmp 42) (.const (.bool true)) (.tmp 48))] none
def f12r10 : ICode := .region [
 qO 6 (.move (.const (.string ⟨⟨[]⟩⟩))),
 qO 7 (.move (qK 17))] none
def f12r11 : ICode := .region [
 qM 50 8,
 qM 51 10,
 qM 52 1,
 qO 53 (.call 31 [(.tmp 50), (.tmp 51), (.tmp 52)]),
 qM 8 53] none
def f12r12 : ICode := .region [
 qO 54 (.bin .add (.tmp 24) (qK 1)),
 qM 24 54] none
def f12r13 : ICode := .region [
 qM 55 8,
 qO 56 (.bytesToStr (.tmp 55)),
 qM 6 56,
 qO 7 (.move (qK 0))] none
/- ferret/coding.Encode -/
def f12 : IFn := ⟨57, [.inl 6, .inl 7], (.seq f12r0 (.seq (.seq f12r1 (.cond (.tmp 16) (.seq f12r2 .ret) .skip)) (.seq f12r3 (.seq (.seq f12r4 (.cond (.tmp 17) f12r5 .skip)) (.seq (.seq f12r6 (.block 0 (.loop (.seq f12r7 (.seq (.cond (.tmp 25) .skip (.exit 0)) (.seq (.block 1 (.seq f12r8 (.seq (.seq f12r9 (.cond (.tmp 49) (.seq f12r10 .ret) .skip)) f12r11))) f12r12)))))) (.seq f12r13 .ret))))))⟩
def f154r0 : ICode := .region [
 qO 2 (.move (qK 0))] none
def f154r1 : ICode := .region [
 qM 3 0,
 qO 4 (.bin .eql (.tmp 3) (.const (.int .u32 (.ofNat 0))))] none
def f154r2 : ICode := .region [
 qO 2 (.move (qK 32))] none
def f154r3 : ICode := .region [
 qM 5 0,
 qM 6 0,
 qO 7 (.un .neg (.tmp 6)),
 qO 8 (.bin .and (.tmp 5) (.tmp 7)),
 qO 9 (.bin .mul (.tmp 8) (.const (.int .u32 (.ofNat 125613361)))),
 qO 10 (.bin .shr (.tmp 9) (.const (.int .u64 (.ofNat 27)))),
 qO 11 (.bad),
 qO 12 (.load1 (.tmp 11)),
 qO 13 (.conv .i64 (.tmp 12)),
 qM 2 13] none
/- math/bits.TrailingZeros32 -/
def f154 : IFn := ⟨14, [.inl 2], (.seq f154r0 (.seq (.seq f154r1 (.cond (.tmp 4) (.seq f154r2 .ret) .skip)) (.seq f154r3 .ret)))⟩
def f155r0 : ICode := .region [
 qO 2 (.move (qK 0))] none
def f155r1 : ICode := .region [
 qM 3 0,
 qO 4 (.bin .eql (.tmp 3) (.const (.int .u64 (.ofNat 0))))] none
def f155r2 : ICode := .region [
 qO 2 (.move (qK 64))] none
def f155r3 : ICode := .region [
 qM 5 0,
 qM 6 0,
 qO 7 (.un .neg (.tmp 6)),
 qO 8 (.bin .and (.tmp 5) (.tmp 7)),
 qO 9 (.bin .mul (.tmp 8) (.const (.int .u64 (.ofNat 285870213051353865)))),
 qO 10 (.bin .shr (.tmp 9) (.const (.int .u64 (.ofNat 58)))),
 qO 11 (.bad),
 qO 12 (.load1 (.tmp 11)),
 qO 13 (.conv .i64 (.tmp 12)),
 qM 2 13] none
/- math/bits.TrailingZeros64 -/
def f155 : IFn := ⟨14, [.inl 2], (.seq f155r0 (.seq (.seq f155r1 (.cond (.tmp 4) (.seq f155r2 .ret) .skip)) (.seq f155r3 .ret)))⟩
def f144r0 : ICode := .region [
 qO 4 (.move (qK 0))] none
def f144r1 : ICode := .region [
 qM 6 0,
 qO 7 (.len 1 (.tmp 6)),
 qO 8 (.move (qK 0))] none
def f144r2 : ICode := .region [
 qO 9 (.bin .lss (.tmp 8) (.tmp 7))] none
def f144r3 : ICode := .region [
 qM 10 8,
 qM 5 10] none
def f144r4 : ICode := .region [
 qM 11 1,
 qM 12 0,
 qM 13 5,
 qO 14 (.indexSl 1 (.tmp 12) (.tmp 13)),
 qO 15 (.load1 (.tmp 14)),
 qO 16 (.bin .eql (.tmp 11) (.tmp 15))] none
def f144r5 : ICode := .region [
 qM 17 5,
 qM 4 17] none
def f144r6 : ICode := .region [
 qO 18 (.bin .add (.tmp 8) (qK 1)),
 qM 8 18] none
def f144r7 : ICode := .region [
 qO 4 (.move (.const (.int .i64 (.negSucc 0))))] none
/- slices.Index[[]string,string] -/
def f144 : IFn := ⟨19, [.inl 4], (.seq f144r0 (.seq (.seq f144r1 (.block 0 (.loop (.seq f144r2 (.seq (.cond (.tmp 9) .skip (.exit 0)) (.seq (.block 1 (.seq f144r3 (.seq f144r4 (.cond (.tmp 16) (.seq f144r5 .ret) .skip)))) f144r6)))))) (.seq f144r7 .ret)))⟩
def f47r0 : ICode := .region [
 qO 4 (.move (qK 0))] none
def f47r1 : ICode := .region [
 qM 6 0,
 qO 7 (.len 1 (.tmp 6)),
 qO 8 (.move (qK 0))] none
def f47r2 : ICode := .region [
 qO 9 (.bin .lss (.tmp 8) (.tmp 7))] none
def f47r3 : ICode := .region [
 qM 10 8,
 qM 5 10] none
def f47r4 : ICode := .region [
 qM 11 1,
 qM 12 0,
 qM 13 5,
 qO 14 (.indexSl 1 (.tmp 12) (.tmp 13)),
 qO 15 (.load1 (.tmp 14)),
 qO 16 (.bin .eql (.tmp 11) (.tmp 15))] none
def f47r5 : ICode := .region [
 qM 17 5,
 qM 4 17] none
def f47r6 : ICode := .region [
 qO 18 (.bin .add (.tmp 8) (qK 1)),
 qM 8 18] none
def f47r7 : ICode := .region [
 qO 4 (.move (.const (.int .i64 (.negSucc 0))))] none
/- slices.Index[[]int,int] -/
def f47 : IFn := ⟨19, [.inl 4], (.seq f47r0 (.seq (.seq f47r1 (.block 0 (.loop (.seq f47r2 (.seq (.cond (.tmp 9) .skip (.exit 0)) (.seq (.block 1 (.seq f47r3 (.seq f47r4 (.cond (.tmp 16) (.seq f47r5 .ret) .skip)))) f47r6)))))) (.seq f47r7 .ret)))⟩
def f145r0 : ICode := .region [
 qO 0 (.move (.const (.slice none 0 0)))] none
def f145r1 : ICode := .region [
 qO 1 (.build [qZ, qZ] [(0, 1, (qK 65)), (1, 1, (qK 90))]),
 qO 2 (.build [qZ, qZ] [(0, 1, (qK 192)), (1, 1, (qK 214))]),
 qO 3 (.build [qZ, qZ] [(0, 1, (qK 216)), (1, 1, (qK 222))]),
 qO 4 (.build [qZ, qZ] [(0, 1, (qK 913)), (1, 1, (qK 929))]),
 qO 5 (.build [qZ, qZ] [(0, 1, (qK 931)), (1, 1, (qK 937))]),
 qO 6 (.build [qZ, qZ] [(0, 1, (qK 1040)), (1, 1, (qK 1071))]),
 qO 7 (.build [qZ, qZ] [(0, 1, (qK 66560)), (1, 1, (qK 66599))]),
 qO 8 (.buildSlice 198 7 [qZ, qZ, qZ, qZ, qZ, qZ, qZ, qZ, qZ, qZ, qZ, qZ, qZ, qZ] [(0, 2, (.tmp 1)), (2, 2, (.tmp 2)), (4, 2, (.tmp 3)), (6, 2, (.tmp 4)), (8, 2, (.tmp 5)), (10, 2, (.tmp 6)), (12, 2, (.tmp 7))]),
 qO 9 (.build [(.string ⟨⟨[]⟩⟩), (.slice none 0 0)] [(0, 1, (.const (.string ⟨⟨[76, 117]⟩⟩))), (1, 1, (.tmp 8))]),
 qO 10 (.build [qZ, qZ] [(0, 1, (qK 97)), (1, 1, (qK 122))]),
 qO 11 (.build [qZ, qZ] [(0, 1, (qK 181)), (1, 1, (qK 181))]),
 qO 12 (.build [qZ, qZ] [(0, 1, (qK 223)), (1, 1, (qK 246))]),
 qO 13 (.build [qZ, qZ] [(0, 1, (qK 248)), (1, 1, (qK 255))]),
 qO 14 (.build [qZ, qZ] [(0, 1, (qK 383)), (1, 1, (qK 383))]),
 qO 15 (.build [qZ, qZ] [(0, 1, (qK 945)), (1, 1, (qK 969))]),
 qO 16 (.build [qZ, qZ] [(0, 1, (qK 1072)), (1, 1, (qK 1103))]),
 qO 17 (.build [qZ, qZ] [(0, 1, (qK 66600)), (1, 1, (qK 66639))]),
 qO 18 (.buildSlice 198 8 [qZ, qZ, qZ, qZ, qZ, qZ, qZ, qZ, qZ, qZ, qZ, qZ, qZ, qZ, qZ, qZ] [(0, 2, (.tmp 10)), (2, 2, (.tmp 11)), (4, 2, (.tmp 12)), (6, 2, (.tmp 13)), (8, 2, (.tmp 14)), (10, 2, (.tmp 15)), (12, 2, (.tmp 16)), (14, 2, (.tmp 17))]),
 qO 19 (.build [(.string ⟨⟨[]⟩⟩), (.slice none 0 0)] [(0, 1, (.const (.string ⟨⟨[76, 108]⟩⟩))), (1, 1, (.tmp 18))]),
 qO 20 (.build [qZ, qZ] [(0, 1, (qK 170)), (1, 1, (qK 170))]),
 qO 21 (.build [qZ, qZ] [(0, 1, (qK 186)), (1, 1, (qK 186))]),
 qO 22 (.build [qZ, qZ] [(0, 1, (qK 1488)), (1, 1, (qK 1514))]),
 qO 23 (.build [qZ, qZ] [(0, 1, (qK 12353)), (1, 1, (qK 12438))]),
 qO 24 (.build [qZ, qZ] [(0, 1, (qK 12449)), (1, 1, (qK 12538))]),
 qO 25 (.build [qZ, qZ] [(0, 1, (qK 19968)), (1, 1, (qK 40959))]),
 qO 26 (.buildSlice 198 6 [qZ, qZ, qZ, qZ, qZ, qZ, qZ, qZ, qZ, qZ, qZ, qZ] [(0, 2, (.tmp 20)), (2, 2, (.tmp 21)), (4, 2, (.tmp 22)), (6, 2, (.tmp 23)), (8, 2, (.tmp 24)), (10, 2, (.tmp 25))]),
 qO 27 (.build [(.string ⟨⟨[]⟩⟩), (.slice none 0 0)] [(0, 1, (.const (.string ⟨⟨[76, 111]⟩⟩))), (1, 1, (.tmp 26))]),
 qO 28 (.build [qZ, qZ] [(0, 1, (qK 48)), (1, 1, (qK 57))]),
 qO 29 (.build [qZ, qZ] [(0, 1, (qK 1632)), (1, 1, (qK 1641))]),
 qO 30 (.build [qZ, qZ] [(0, 1, (qK 2406)), (1, 1, (qK 2415))]),
 qO 31 (.build [qZ, qZ] [(0, 1, (qK 65296)), (1, 1, (qK 65305))]),
 qO 32 (.buildSlice 198 4 [qZ, qZ, qZ, qZ, qZ, qZ, qZ, qZ] [(0, 2, (.tmp 28)), (2, 2, (.tmp 29)), (4, 2, (.tmp 30)), (6, 2, (.tmp 31))]),
 qO 33 (.build [(.string ⟨⟨[]⟩⟩), (.slice none 0 0)] [(0, 1, (.const (.string ⟨⟨[78, 100]⟩⟩))), (1, 1, (.tmp 32))]),
 qO 34 (.build [qZ, qZ] [(0, 1, (qK 95)), (1, 1, (qK 95))]),
 qO 35 (.build [qZ, qZ] [(0, 1, (qK 8255)), (1, 1, (qK 8256))]),
 qO 36 (.buildSlice 198 2 [qZ, qZ, qZ, qZ] [(0, 2, (.tmp 34)), (2, 2, (.tmp 35))]),
 qO 37 (.build [(.string ⟨⟨[]⟩⟩), (.slice none 0 0)] [(0, 1, (.const (.string ⟨⟨[80, 99]⟩⟩))), (1, 1, (.tmp 36))]),
 qO 38 (.build [qZ, qZ] [(0, 1, (qK 32)), (1, 1, (qK 32))]),
 qO 39 (.build [qZ, qZ] [(0, 1, (qK 160)), (1, 1, (qK 160))]),
 qO 40 (.build [qZ, qZ] [(0, 1, (qK 8192)), (1, 1, (qK 8202))]),
 qO 41 (.build [qZ, qZ] [(0, 1, (qK 12288)), (1, 1, (qK 12288))]),
 qO 42 (.buildSlice 198 4 [qZ, qZ, qZ, qZ, qZ, qZ, qZ, qZ] [(0, 2, (.tmp 38)), (2, 2, (.tmp 39)), (4, 2, (.tmp 40)), (6, 2, (.tmp 41))]),
 qO 43 (.build [(.string ⟨⟨[]⟩⟩), (.slice none 0 0)] [(0, 1, (.const (.string ⟨⟨[90, 115]⟩⟩))), (1, 1, (.tmp 42))]),
 qO 44 (.build [qZ, qZ] [(0, 1, (qK 33)), (1, 1, (qK 35))]),
 qO 45 (.build [qZ, qZ] [(0, 1, (qK 37)), (1, 1, (qK 42))]),
 qO 46 (.build [qZ, qZ] [(0, 1, (qK 44)), (1, 1, (qK 47))]),
 qO 47 (.build [qZ, qZ] [(0, 1, (qK 58)), (1, 1, (qK 59))]),
 qO 48 (.build [qZ, qZ] [(0, 1, (qK 63)), (1, 1, (qK 64))]),
 qO 49 (.build [qZ, qZ] [(0, 1, (qK 91)), (1, 1, (qK 93))]),
 qO 50 (.build [qZ, qZ] [(0, 1, (qK 95)), (1, 1, (qK 95))]),
 qO 51 (.build [qZ, qZ] [(0, 1, (qK 123)), (1, 1, (qK 123))]),
 qO 52 (.build [qZ, qZ] [(0, 1, (qK 125)), (1, 1, (qK 125))]),
 qO 53 (.build [qZ, qZ] [(0, 1, (qK 161)), (1, 1, (qK 161))]),
 qO 54 (.build [qZ, qZ] [(0, 1, (qK 167)), (1, 1, (qK 167))]),
 qO 55 (.build [qZ, qZ] [(0, 1, (qK 171)), (1, 1, (qK 171))]),
 qO 56 (.build [qZ, qZ] [(0, 1, (qK 182)), (1, 1, (qK 183))]),
 qO 57 (.build [qZ, qZ] [(0, 1, (qK 187)), (1, 1, (qK 187))]),
 qO 58 (.build [qZ, qZ] [(0, 1, (qK 191)), (1, 1, (qK 191))]),
 qO 59 (.build [qZ, qZ] [(0, 1, (qK 8208)), (1, 1, (qK 8231))]),
 qO 60 (.build [qZ, qZ] [(0, 1, (qK 8255)), (1, 1, (qK 8256))]),
 qO 61 (.build [qZ, qZ] [(0, 1, (qK 12289)), (1, 1, (qK 12291))]),
 qO 62 (.buildSlice 198 18 [qZ, qZ, qZ, qZ, qZ, qZ, qZ, qZ, qZ, qZ, qZ, qZ, qZ, qZ, qZ, qZ, qZ, qZ, qZ, qZ, qZ, qZ, qZ, qZ, qZ, qZ, qZ, qZ, qZ, qZ, qZ, qZ, qZ, qZ, qZ, qZ] [(0, 2, (.tmp 44)), (2, 2, (.tmp 45)), (4, 2, (.tmp 46)), (6, 2, (.tmp 47)), (8, 2, (.tmp 48)), (10, 2, (.tmp 49)), (12, 2, (.tmp 50)), (14, 2, (.tmp 51)), (16, 2, (.tmp 52)), (18, 2, (.tmp 53)), (20, 2, (.tmp 54)), (22, 2, (.tmp 55)), (24, 2, (.tmp 56)), (26, 2, (.tmp 57)), (28, 2, (.tmp 58)), (30, 2, (.tmp 59)), (32, 2, (.tmp 60)), (34, 2, (.tmp 61))]),
 qO 63 (.build [(.string ⟨⟨[]⟩⟩), (.slice none 0 0)] [(0, 1, (.const (.string ⟨⟨[80]⟩⟩))), (1, 1, (.tmp 62))]),
 qO 64 (.build [qZ, qZ] [(0, 1, (qK 65)), (1, 1, (qK 90))]),
 qO 65 (.build [qZ, qZ] [(0, 1, (qK 97)), (1, 1, (qK 122))]),
 qO 66 (.build [qZ, qZ] [(0, 1, (qK 170)), (1, 1, (qK 170))]),
 qO 67 (.build [qZ, qZ] [(0, 1, (qK 186)), (1, 1, (qK 186))]),
 qO 68 (.build [qZ, qZ] [(0, 1, (qK 192)), (1, 1, (qK 214))]),
 qO 69 (.build [qZ, qZ] [(0, 1, (qK 216)), (1, 1, (qK 246))]),
 qO 70 (.build [qZ, qZ] [(0, 1, (qK 248)), (1, 1, (qK 591))]),
 qO 71 (.build [qZ, qZ] [(0, 1, (qK 8490)), (1, 1, (qK 8491))]),
 qO 72 (.buildSlice 198 8 [qZ, qZ, qZ, qZ, qZ, qZ, qZ, qZ, qZ, qZ, qZ, qZ, qZ, qZ, qZ, qZ] [(0, 2, (.tmp 64)), (2, 2, (.tmp 65)), (4, 2, (.tmp 66)), (6, 2, (.tmp 67)), (8, 2, (.tmp 68)), (10, 2, (.tmp 69)), (12, 2, (.tmp 70)), (14, 2, (.tmp 71))]),
 qO 73 (.build [(.string ⟨⟨[]⟩⟩), (.slice none 0 0)] [(0, 1, (.const (.string ⟨⟨[76, 97, 116, 105, 110]⟩⟩))), (1, 1, (.tmp 72))]),
 qO 74 (.build [qZ, qZ] [(0, 1, (qK 913)), (1, 1, (qK 929))]),
 qO 75 (.build [qZ, qZ] [(0, 1, (qK 931)), (1, 1, (qK 993))]),
 qO 76 (.buildSlice 198 2 [qZ, qZ, qZ, qZ] [(0, 2, (.tmp 74)), (2, 2, (.tmp 75))]),
 qO 77 (.build [(.string ⟨⟨[]⟩⟩), (.slice none 0 0)] [(0, 1, (.const (.string ⟨⟨[71, 114, 101, 101, 107]⟩⟩))), (1, 1, (.tmp 76))]),
 qO 78 (.build [qZ, qZ] [(0, 1, (qK 1024)), (1, 1, (qK 1156))]),
 qO 79 (.buildSlice 198 1 [qZ, qZ] [(0, 2, (.tmp 78))]),
 qO 80 (.build [(.string ⟨⟨[]⟩⟩), (.slice none 0 0)] [(0, 1, (.const (.string ⟨⟨[67, 121, 114, 105, 108, 108, 105, 99]⟩⟩))), (1, 1, (.tmp 79))]),
 qO 81 (.build [qZ, qZ] [(0, 1, (qK 1488)), (1, 1, (qK 1514))]),
 qO 82 (.buildSlice 198 1 [qZ, qZ] [(0, 2, (.tmp 81))]),
 qO 83 (.build [(.string ⟨⟨[]⟩⟩), (.slice none 0 0)] [(0, 1, (.const (.string ⟨⟨[72, 101, 98, 114, 101, 119]⟩⟩))), (1, 1, (.tmp 82))]),
 qO 84 (.build [qZ, qZ] [(0, 1, (qK 12353)), (1, 1, (qK 12438))]),
 qO 85 (.buildSlice 198 1 [qZ, qZ] [(0, 2, (.tmp 84))]),
 qO 86 (.build [(.string ⟨⟨[]⟩⟩), (.slice none 0 0)] [(0, 1, (.const (.string ⟨⟨[72, 105, 114, 97, 103, 97, 110, 97]⟩⟩))), (1, 1, (.tmp 85))]),
 qO 87 (.build [qZ, qZ] [(0, 1, (qK 12449)), (1, 1, (qK 12538))]),
 qO 88 (.buildSlice 198 1 [qZ, qZ] [(0, 2, (.tmp 87))]),
 qO 89 (.build [(.string ⟨⟨[]⟩⟩), (.slice none 0 0)] [(0, 1, (.const (.string ⟨⟨[75, 97, 116, 97, 107, 97, 110, 97]⟩⟩))), (1, 1, (.tmp 88))]),
 qO 90 (.build [qZ, qZ] [(0, 1, (qK 19968)), (1, 1, (qK 40959))]),
 qO 91 (.buildSlice 198 1 [qZ, qZ] [(0, 2, (.tmp 90))]),
 qO 92 (.build [(.string ⟨⟨[]⟩⟩), (.slice none 0 0)] [(0, 1, (.const (.string ⟨⟨[72, 97, 110]⟩⟩))), (1, 1, (.tmp 91))]),
 qO 93 (.build [qZ, qZ] [(0, 1, (qK 66560)), (1, 1, (qK 66639))]),
 qO 94 (.buildSlice 198 1 [qZ, qZ] [(0, 2, (.tmp 93))]),
 qO 95 (.build [(.string ⟨⟨[]⟩⟩), (.slice none 0 0)] [(0, 1, (.const (.string ⟨⟨[68, 101, 115, 101, 114, 101, 116]⟩⟩))), (1, 1, (.tmp 94))]),
 qO 96 (.buildSlice 193 15 [(.string ⟨⟨[]⟩⟩), (.slice none 0 0), (.string ⟨⟨[]⟩⟩), (.slice none 0 0), (.string ⟨⟨[]⟩⟩), (.slice none 0 0), (.string ⟨⟨[]⟩⟩), (.slice none 0 0), (.string ⟨⟨[]⟩⟩), (.slice none 0 0), (.string ⟨⟨[]⟩⟩), (.slice none 0 0), (.string ⟨⟨[]⟩⟩), (.slice none 0 0), (.string ⟨⟨[]⟩⟩), (.slice none 0 0), (.string ⟨⟨[]⟩⟩), (.slice none 0 0), (.string ⟨⟨[]⟩⟩), (.slice none 0 0), (.string ⟨⟨[]⟩⟩), (.slice none 0 0), (.string ⟨⟨[]⟩⟩), (.slice none 0 0), (.string ⟨⟨[]⟩⟩), (.slice none 0 0), (.string ⟨⟨[]⟩⟩), (.slice none 0 0), (.string ⟨⟨[]⟩⟩), (.slice none 0 0)] [(0, 2, (.tmp 9)), (2, 2, (.tmp 19)), (4, 2, (.tmp 27)), (6, 2, (.tmp 33)), (8, 2, (.tmp 37)), (10, 2, (.tmp 43)), (12, 2, (.tmp 63)), (14, 2, (.tmp 73)), (16, 2, (.tmp 77)), (18, 2, (.tmp 80)), (20, 2, (.tmp 83)), (22, 2, (.tmp 86)), (24, 2, (.tmp 89)), (26, 2, (.tmp 92)), (28, 2, (.tmp 95))]),
 qM 0 96] none
/- ferret/ucd.classes -/
def f145 : IFn := ⟨97, [.inl 0], (.seq f145r0 (.seq f145r1 .ret))⟩
def f146r0 : ICode := .region [
 qO 2 (.move (.const (.slice none 0 0)))] none
def f146r1 : ICode := .region [
 qO 3 (.move (.const (.slice none 0 0)))] none
def f146r2 : ICode := .region [
 qM 6 0,
 qO 7 (.len 1 (.tmp 6)),
 qO 8 (.move (qK 0))] none
def f146r3 : ICode := .region [
 qO 9 (.bin .lss (.tmp 8) (.tmp 7))] none
def f146r4 : ICode := .region [
 qO 10 (.indexSl 2 (.tmp 6) (.tmp 8)),
 qO 11 (.loadN 2 (.tmp 10)),
 qO 5 (.new [qZ, qZ] 198),
  ⟨none, .store 2 (.tmp 5) (.tmp 11), none⟩] none
def f146r5 : ICode := .region [
 qM 12 3,
 qO 13 (.indexArrA 2 1 (.tmp 5) (qK 0)),
 qO 14 (.load1 (.tmp 13)),
 qO 15 (.indexArrA 2 1 (.tmp 5) (qK 1)),
 qO 16 (.load1 (.tmp 15)),
 qO 17 (.build [qZ, qZ] [(0, 1, (.tmp 14)), (1, 1, (.tmp 16))]),
 qO 18 (.buildSlice 53 1 [qZ, qZ] [(0, 2, (.tmp 17))]),
 qO 19 (.append 53 2 16 (.tmp 12) (.tmp 18)),
 qM 3 19] none
def f146r6 : ICode := .region [
 qO 20 (.bin .add (.tmp 8) (qK 1)),
 qM 8 20] none
def f146r7 : ICode := .region [
 qM 21 3,
 qO 22 (.call 67 [(.tmp 21)]),
 qM 2 22] none
/- ferret/ucd.of -/
def f146 : IFn := ⟨23, [.inl 2], (.seq f146r0 (.seq f146r1 (.seq (.seq f146r2 (.block 0 (.loop (.seq f146r3 (.seq (.cond (.tmp 9) .skip (.exit 0)) (.seq (.block 1 (.seq f146r4 f146r5)) f146r6)))))) (.seq f146r7 .ret))))⟩
def f147r0 : ICode := .region [
 qO 0 (.move (.const (.slice none 0 0)))] none
def f147r1 : ICode := .region [
 qO 1 (.buildSlice 9 3 [(.string ⟨⟨[]⟩⟩), (.string ⟨⟨[]⟩⟩), (.string ⟨⟨[]⟩⟩)] [(0, 1, (.const (.string ⟨⟨[76, 117]⟩⟩))), (1, 1, (.const (.string ⟨⟨[76, 108]⟩⟩))), (2, 1, (.const (.string ⟨⟨[76, 111]⟩⟩)))]),
 qO 2 (.build [(.string ⟨⟨[]⟩⟩), (.slice none 0 0)] [(0, 1, (.const (.string ⟨⟨[76]⟩⟩))), (1, 1, (.tmp 1))]),
 qO 3 (.buildSlice 9 1 [(.string ⟨⟨[]⟩⟩)] [(0, 1, (.const (.string ⟨⟨[78, 100]⟩⟩)))]),
 qO 4 (.build [(.string ⟨⟨[]⟩⟩), (.slice none 0 0)] [(0, 1, (.const (.string ⟨⟨[78]⟩⟩))), (1, 1, (.tmp 3))]),
 qO 5 (.buildSlice 197 2 [(.string ⟨⟨[]⟩⟩), (.slice none 0 0), (.string ⟨⟨[]⟩⟩), (.slice none 0 0)] [(0, 2, (.tmp 2)), (2, 2, (.tmp 4))]),
 qM 0 5] none
/- ferret/ucd.unions -/
def f147 : IFn := ⟨6, [.inl 0], (.seq f147r0 (.seq f147r1 .ret))⟩
def f149r0 : ICode := .region [
 qO 4 (.box 160 (.tmp 0))] none
def f149r1 : ICode := .region [
 qM 10 1,
 qM 8 10] none
def f149r2 : ICode := .region [
 qM 11 8,
 qO 12 (.bin .mul (qK 2) (.tmp 11)),
 qO 13 (.bin .add (.tmp 12) (qK 1)),
 qM 9 13] none
def f149r3 : ICode := .region [
 qM 14 9,
 qM 15 2,
 qO 16 (.bin .geq (.tmp 14) (.tmp 15))] none
def f149r4 : ICode := .region [
 qM 17 9,
 qO 18 (.bin .add (.tmp 17) (qK 1)),
 qM 19 2,
 qO 20 (.bin .lss (.tmp 18) (.tmp 19)),
 qM 21 20,
  ⟨(some 22), .fieldAddr 0 (.tmp 4), (some ((some 21), true))⟩,
  ⟨(some 23), .load1 (.tmp 22), (some ((some 21), true))⟩,
  ⟨(some 24), .move (.tmp 3), (some ((some 21), true))⟩,
  ⟨(some 25), .move (.tmp 9), (some ((some 21), true))⟩,
  ⟨(some 26), .bin .add (.tmp 24) (.tmp 25), (some ((some 21), true))⟩,
  ⟨(some 27), .move (.tmp 3), (some ((some 21), true))⟩,
  ⟨(some 28), .move (.tmp 9), (some ((some 21), true))⟩,
  ⟨(some 29), .bin .add (.tmp 27) (.tmp 28), (some ((some 21), true))⟩,
  ⟨(some 30), .bin .add (.tmp 29) (qK 1), (some ((some 21), true))⟩,
  ⟨(some 31), .callv (.tmp 23) [(.tmp 26), (.tmp 30)], (some ((some 21), true))⟩,
 qO 32 (.pick (.tmp 21) (.tmp 31) (.const (.bool false)))] none
def f149r5 : ICode := .region [
 qM 33 9,
 qO 34 (.bin .add (.tmp 33) (qK 1)),
 qM 9 34] none
def f149r6 : ICode := .region [
 qO 35 (.fieldAddr 0 (.tmp 4)),
 qO 36 (.load1 (.tmp 35)),
 qM 37 3,
 qM 38 8,
 qO 39 (.bin .add (.tmp 37) (.tmp 38)),
 qM 40 3,
 qM 41 9,
 qO 42 (.bin .add (.tmp 40) (.tmp 41)),
 qO 43 (.callv (.tmp 36) [(.tmp 39), (.tmp 42)]),
 qO 44 (.un .not (.tmp 43))] none
def f149r7 : ICode := .region [
 qO 45 (.fieldAddr 1 (.tmp 4)),
 qO 46 (.load1 (.tmp 45)),
 qM 47 3,
 qM 48 8,
 qO 49 (.bin .add (.tmp 47) (.tmp 48)),
 qM 50 3,
 qM 51 9,
 qO 52 (.bin .add (.tmp 50) (.tmp 51)),
 qO 53 (.callv (.tmp 46) [(.tmp 49), (.tmp 52)])] none
def f149r8 : ICode := .region [
 qM 54 9,
 qM 8 54] none
/- sort.siftDown_func -/
def f149 : IFn := ⟨55, [], (.seq f149r0 (.seq f149r1 (.block 0 (.loop (.block 1 (.seq f149r2 (.seq (.seq f149r3 (.cond (.tmp 16) (.exit 0) .skip)) (.seq (.seq f149r4 (.cond (.tmp 32) f149r5 .skip)) (.seq (.seq f149r6 (.cond (.tmp 44) .ret .skip)) (.seq f149r7 f149r8))))))))))⟩
def f150r0 : ICode := .region [
 qO 2 (.move (.const (.int .u64 (.ofNat 0))))] none
def f150r1 : ICode := .region [
 qM 4 0,
 qO 5 (.conv .u64 (.tmp 4)),
 qO 6 (.call 109 [(.tmp 5)]),
 qO 7 (.conv .u64 (.tmp 6)),
 qM 3 7] none
def f150r2 : ICode := .region [
 qM 8 3,
 qO 9 (.bin .shl (.const (.int .u64 (.ofNat 1))) (.tmp 8)),
 qM 2 9] none
/- sort.nextPowerOfTwo -/
def f150 : IFn := ⟨10, [.inl 2], (.seq f150r0 (.seq f150r1 (.seq f150r2 .ret)))⟩
def f151r0 : ICode := .region [
 qO 2 (.move (.const (.int .u64 (.ofNat 0))))] none
def f151r1 : ICode := .region [
 qM 3 0,
 qO 4 (.nilCheck (.tmp 3)),
 qO 5 (.load1 (.tmp 4)),
 qM 6 0,
 qO 7 (.nilCheck (.tmp 6)),
 qO 8 (.load1 (.tmp 7)),
 qO 9 (.bin .shl (.tmp 8) (.const (.int .u64 (.ofNat 13)))),
 qO 10 (.bin .xor (.tmp 5) (.tmp 9)),
 qO 11 (.nilCheck (.tmp 3)),
  ⟨none, .store 1 (.tmp 11) (.tmp 10), none⟩] (some ⟨[], []⟩)
def f151r2 : ICode := .region [
 qM 12 0,
 qO 13 (.nilCheck (.tmp 12)),
 qO 14 (.load1 (.tmp 13)),
 qM 15 0,
 qO 16 (.nilCheck (.tmp 15)),
 qO 17 (.load1 (.tmp 16)),
 qO 18 (.bin .shr (.tmp 17) (.const (.int .u64 (.ofNat 7)))),
 qO 19 (.bin .xor (.tmp 14) (.tmp 18)),
 qO 20 (.nilCheck (.tmp 12)),
  ⟨none, .store 1 (.tmp 20) (.tmp 19), none⟩] (some ⟨[], []⟩)
def f151r3 : ICode := .region [
 qM 21 0,
 qO 22 (.nilCheck (.tmp 21)),
 qO 23 (.load1 (.tmp 22)),
 qM 24 0,
 qO 25 (.nilCheck (.tmp 24)),
 qO 26 (.load1 (.tmp 25)),
 qO 27 (.bin .shl (.tmp 26) (.const (.int .u64 (.ofNat 17)))),
 qO 28 (.bin .xor (.tmp 23) (.tmp 27)),
 qO 29 (.nilCheck (.tmp 21)),
  ⟨none, .store 1 (.tmp 29) (.tmp 28), none⟩] (some ⟨[], []⟩)
def f151r4 : ICode := .region [
 qM 30 0,
 qO 31 (.nilCheck (.tmp 30)),
 qO 32 (.load1 (.tmp 31)),
 qM 2 32] none
/- (*sort.xorshift).Next -/
def f151 : IFn := ⟨33, [.inl 2], (.seq f151r0 (.seq f151r1 (.seq f151r2 (.seq f151r3 (.seq f151r4 .ret)))))⟩
def f152r0 : ICode := .region [
 qO 3 (.box 160 (.tmp 0)),
 qO 6 (.move (qK 0))] none
def f152r1 : ICode := .region [
 qO 7 (.loadN 2 (.tmp 3)),
 qM 8 1,
 qO 9 (.bin .sub (.tmp 8) (qK 1)),
 qM 10 1,
 qM 11 1,
 qO 12 (.bin .add (.tmp 11) (qK 1)),
 qM 13 2,
 qO 14 (.call 153 [(.tmp 7), (.tmp 9), (.tmp 10), (.tmp 12), (.tmp 13)]),
 qM 6 14] none
/- sort.medianAdjacent_func -/
def f152 : IFn := ⟨15, [.inl 6], (.seq f152r0 (.seq f152r1 .ret))⟩
def f153r0 : ICode := .region [
 qO 5 (.box 160 (.tmp 0)),
 qO 10 (.move (qK 0))] none
def f153r1 : ICode := .region [
 qO 12 (.loadN 2 (.tmp 5)),
 qM 13 1,
 qM 14 2,
 qM 15 4,
 qO 16 (.call 156 [(.tmp 12), (.tmp 13), (.tmp 14), (.tmp 15)]),
 qM 11 16,
 qO 17 (.extract (.tmp 11) 0),
 qO 18 (.extract (.tmp 11) 1),
 qM 1 17,
 qM 2 18] none
def f153r2 : ICode := .region [
 qO 20 (.loadN 2 (.tmp 5)),
 qM 21 2,
 qM 22 3,
 qM 23 4,
 qO 24 (.call 156 [(.tmp 20), (.tmp 21), (.tmp 22), (.tmp 23)]),
 qM 19 24,
 qO 25 (.extract (.tmp 19) 0),
 qO 26 (.extract (.tmp 19) 1),
 qM 2 25,
 qM 3 26] none
def f153r3 : ICode := .region [
 qO 28 (.loadN 2 (.tmp 5)),
 qM 29 1,
 qM 30 2,
 qM 31 4,
 qO 32 (.call 156 [(.tmp 28), (.tmp 29), (.tmp 30), (.tmp 31)]),
 qM 27 32,
 qO 33 (.extract (.tmp 27) 0),
 qO 34 (.extract (.tmp 27) 1),
 qM 1 33,
 qM 2 34] none
def f153r4 : ICode := .region [
 qM 35 2,
 qM 10 35] none
/- sort.median_func -/
def f153 : IFn := ⟨36, [.inl 10], (.seq f153r0 (.seq f153r1 (.seq f153r2 (.seq f153r3 (.seq f153r4 .ret)))))⟩
def f31r0 : ICode := .region [
 qO 3 (.box 51 (.tmp 0)),
 qO 5 (.box 3 (.tmp 2)),
 qO 6 (.move (.const (.slice none 0 0)))] none
def f31r1 : ICode := .region [
 qO 8 (.mkFunc (.func 52) [] [(.tmp 5), (.tmp 3)]),
 qM 7 8] none
def f31r2 : ICode := .region [
 qO 31 (.load1 (.tmp 5)),
 qO 32 (.bin .eql (.tmp 31) (qK 4)),
 qM 30 32] none
def f31r3 : ICode := .region [
 qO 33 (.load1 (.tmp 3)),
 qM 34 1,
 qO 35 (.conv .u8 (.tmp 34)),
 qO 36 (.buildSlice 5 1 [(.int .u8 (.ofNat 0))] [(0, 1, (.tmp 35))]),
 qO 37 (.append 5 1 1 (.tmp 33) (.tmp 36)),
 qM 6 37] none
def f31r4 : ICode := .region [
 qO 39 (.load1 (.tmp 5)),
 qO 40 (.bin .neq (.tmp 39) (qK 1)),
 qM 41 40,
  ⟨(some 42), .move (.tmp 1), (some ((some 41), true))⟩,
  ⟨(some 43), .bin .geq (.tmp 42) (qK 65536), (some ((some 41), true))⟩,
 qO 44 (.pick (.tmp 41) (.tmp 43) (.const (.bool false))),
 qM 38 44] none
def f31r5 : ICode := .region [
 qM 45 1,
 qO 46 (.bin .sub (.tmp 45) (qK 65536)),
 qM 1 46] none
def f31r6 : ICode := .region [
 qM 47 7,
 qM 48 1,
 qO 49 (.bin .shr (.tmp 48) (.const (.int .u64 (.ofNat 10)))),
 qO 50 (.bin .add (qK 55296) (.tmp 49)),
 qO 51 (.callv (.tmp 47) [(.tmp 50)])] none
def f31r7 : ICode := .region [
 qM 52 7,
 qM 53 1,
 qO 54 (.bin .and (.tmp 53) (qK 1023)),
 qO 55 (.bin .add (qK 56320) (.tmp 54)),
 qO 56 (.callv (.tmp 52) [(.tmp 55)])] none
def f31r8 : ICode := .region [
 qO 58 (.load1 (.tmp 5)),
 qO 59 (.bin .neq (.tmp 58) (qK 1)),
 qM 57 59] none
def f31r9 : ICode := .region [
 qM 60 7,
 qM 61 1,
 qO 62 (.callv (.tmp 60) [(.tmp 61)])] none
def f31r10 : ICode := .region [
 qM 64 1,
 qO 65 (.bin .lss (.tmp 64) (qK 128)),
 qM 63 65] none
def f31r11 : ICode := .region [
 qO 66 (.load1 (.tmp 3)),
 qM 67 1,
 qO 68 (.conv .u8 (.tmp 67)),
 qO 69 (.buildSlice 5 1 [(.int .u8 (.ofNat 0))] [(0, 1, (.tmp 68))]),
 qO 70 (.append 5 1 1 (.tmp 66) (.tmp 69)),
 qM 6 70] none
def f31r12 : ICode := .region [
 qM 72 1,
 qO 73 (.bin .lss (.tmp 72) (qK 2048)),
 qM 71 73] none
def f31r13 : ICode := .region [
 qO 74 (.load1 (.tmp 3)),
 qM 75 1,
 qO 76 (.bin .shr (.tmp 75) (.const (.int .u64 (.ofNat 6)))),
 qO 77 (.bin .or (qK 192) (.tmp 76)),
 qO 78 (.conv .u8 (.tmp 77)),
 qM 79 1,
 qO 80 (.bin .and (.tmp 79) (qK 63)),
 qO 81 (.bin .or (qK 128) (.tmp 80)),
 qO 82 (.conv .u8 (.tmp 81)),
 qO 83 (.buildSlice 5 2 [(.int .u8 (.ofNat 0)), (.int .u8 (.ofNat 0))] [(0, 1, (.tmp 78)), (1, 1, (.tmp 82))]),
 qO 84 (.append 5 1 1 (.tmp 74) (.tmp 83)),
 qM 6 84] none
def f31r14 : ICode := .region [
 qM 86 1,
 qO 87 (.bin .lss (.tmp 86) (qK 65536)),
 qM 85 87] none
def f31r15 : ICode := .region [
 qO 88 (.load1 (.tmp 3)),
 qM 89 1,
 qO 90 (.bin .shr (.tmp 89) (.const (.int .u64 (.ofNat 12)))),
 qO 91 (.bin .or (qK 224) (.tmp 90)),
 qO 92 (.conv .u8 (.tmp 91)),
 qM 93 1,
 qO 94 (.bin .shr (.tmp 93) (.const (.int .u64 (.ofNat 6)))),
 qO 95 (.bin .and (.tmp 94) (qK 63)),
 qO 96 (.bin .or (qK 128) (.tmp 95)),
 qO 97 (.conv .u8 (.tmp 96)),
 qM 98 1,
 qO 99 (.bin .and (.tmp 98) (qK 63)),
 qO 100 (.bin .or (qK 128) (.tmp 99)),
 qO 101 (.conv .u8 (.tmp 100)),
 qO 102 (.buildSlice 5 3 [(.int .u8 (.ofNat 0)), (.int .u8 (.ofNat 0)), (.int .u8 (.ofNat 0))] [(0, 1, (.tmp 92)), (1, 1, (.tmp 97)), (2, 1, (.tmp 101))]),
 qO 103 (.append 5 1 1 (.tmp 88) (.tmp 102)),
 qM 6 103] none
def f31r16 : ICode := .region [
 qO 9 (.load1 (.tmp 3)),
 qM 10 1,
 qO 11 (.bin .shr (.tmp 10) (.const (.int .u64 (.ofNat 18)))),
 qO 12 (.bin .or (qK 240) (.tmp 11)),
 qO 13 (.conv .u8 (.tmp 12)),
 qM 14 1,
 qO 15 (.bin .shr (.tmp 14) (.const (.int .u64 (.ofNat 12)))),
 qO 16 (.bin .and (.tmp 15) (qK 63)),
 qO 17 (.bin .or (qK 128) (.tmp 16)),
 qO 18 (.conv .u8 (.tmp 17)),
 qM 19 1,
 qO 20 (.bin .shr (.tmp 19) (.const (.int .u64 (.ofNat 6)))),
 qO 21 (.bin .and (.tmp 20) (qK 63)),
 qO 22 (.bin .or (qK 128) (.tmp 21)),
 qO 23 (.conv .u8 (.tmp 22)),
 qM 24 1,
 qO 25 (.bin .and (.tmp 24) (qK 63)),
 qO 26 (.bin .or (qK 128) (.tmp 25)),
 qO 27 (.conv .u8 (.tmp 26)),
 qO 28 (.buildSlice 5 4 [(.int .u8 (.ofNat 0)), (.int .u8 (.ofNat 0)), (.int .u8 (.ofNat 0)), (.int .u8 (.ofNat 0))] [(0, 1, (.tmp 13)), (1, 1, (.tmp 18)), (2, 1, (.tmp 23)), (3, 1, (.tmp 27))]),
 qO 29 (.append 5 1 1 (.tmp 9) (.tmp 28)),
 qM 6 29] none
def f31r17 : ICode := .region [
 qO 104 (.load1 (.tmp 3)),
 qM 6 104] none
/- ferret/coding.put -/
def f31 : IFn := ⟨105, [.inl 6], (.seq f31r0 (.seq f31r1 (.seq (.block 0 (.seq f31r2 (.cond (.tmp 30) (.seq f31r3 .ret) (.seq f31r4 (.cond (.tmp 38) (.seq f31r5 (.seq f31r6 f31r7)) (.seq f31r8 (.cond (.tmp 57) f31r9 (.seq f31r10 (.cond (.tmp 63) (.seq f31r11 .ret) (.seq f31r12 (.cond (.tmp 71) (.seq f31r13 .ret) (.seq f31r14 (.cond (.tmp 85) (.seq f31r15 .ret) (.seq f31r16 .ret)))))))))))))) (.seq f31r17 .ret))))⟩
def f156r0 : ICode := .region [
 qO 4 (.box 160 (.tmp 0)),
 qO 8 (.move (qK 0)),
 qO 9 (.move (qK 0))] none
def f156r1 : ICode := .region [
 qO 10 (.fieldAddr 0 (.tmp 4)),
 qO 11 (.load1 (.tmp 10)),
 qM 12 2,
 qM 13 1,
 qO 14 (.callv (.tmp 11) [(.tmp 12), (.tmp 13)])] none
def f156r2 : ICode := .region [
 qM 15 3,
 qO 16 (.nilCheck (.tmp 15)),
 qO 17 (.load1 (.tmp 16)),
 qO 18 (.bin .add (.tmp 17) (qK 1)),
 qO 19 (.nilCheck (.tmp 15)),
  ⟨none, .store 1 (.tmp 19) (.tmp 18), none⟩] none
def f156r3 : ICode := .region [
 qM 20 2,
 qM 21 1,
 qM 8 20,
 qM 9 21] none
def f156r4 : ICode := .region [
 qM 22 1,
 qM 23 2,
 qM 8 22,
 qM 9 23] none
/- sort.order2_func -/
def f156 : IFn := ⟨24, [.inl 8, .inl 9], (.seq f156r0 (.seq (.seq f156r1 (.cond (.tmp 14) (.seq f156r2 (.seq f156r3 .ret)) .skip)) (.seq f156r4 .ret)))⟩
def f52r0 : ICode := .region [
 qO 4 (.load1 (.tmp 1)),
 qO 5 (.bin .eql (.tmp 4) (qK 3))] none
def f52r1 : ICode := .region [
 qO 6 (.load1 (.tmp 2)),
 qM 7 0,
 qO 8 (.bin .shr (.tmp 7) (.const (.int .u64 (.ofNat 8)))),
 qO 9 (.conv .u8 (.tmp 8)),
 qM 10 0,
 qO 11 (.conv .u8 (.tmp 10)),
 qO 12 (.buildSlice 5 2 [(.int .u8 (.ofNat 0)), (.int .u8 (.ofNat 0))] [(0, 1, (.tmp 9)), (1, 1, (.tmp 11))]),
 qO 13 (.append 5 1 1 (.tmp 6) (.tmp 12)),
  ⟨none, .store 1 (.tmp 2) (.tmp 13), none⟩] none
def f52r2 : ICode := .region [
 qO 14 (.load1 (.tmp 2)),
 qM 15 0,
 qO 16 (.conv .u8 (.tmp 15)),
 qM 17 0,
 qO 18 (.bin .shr (.tmp 17) (.const (.int .u64 (.ofNat 8)))),
 qO 19 (.conv .u8 (.tmp 18)),
 qO 20 (.buildSlice 5 2 [(.int .u8 (.ofNat 0)), (.int .u8 (.ofNat 0))] [(0, 1, (.tmp 16)), (1, 1, (.tmp 19))]),
 qO 21 (.append 5 1 1 (.tmp 14) (.tmp 20)),
  ⟨none, .store 1 (.tmp 2) (.tmp 21), none⟩] none
/- ferret/coding.put$1 -/
def f52 : IFn := ⟨22, [], (.seq f52r0 (.cond (.tmp 5) f52r1 f52r2))⟩
def d20r0 : ICode := .region [
 qM 6 2,
 qO 7 (.nilEq true 4 (.tmp 6) (.const .nilIface))] none
def d20r1 : ICode := .region [
 qM 9 2,
 qO 10 (.bad),
 qM 8 10,
 qO 11 (.extract (.tmp 8) 0),
 qO 12 (.extract (.tmp 8) 1),
 qO 3 (.new [qZ, qZ] 65),
  ⟨none, .store 2 (.tmp 3) (.tmp 11), none⟩,
 qM 4 12] none
def d20r2 : ICode := .region [
 qM 13 4,
 qO 14 (.un .not (.tmp 13))] none
def d20r3 : ICode := .region [
 qM 15 2,
  ⟨none, .bad, none⟩] none
def d20r4 : ICode := .region [
 qO 16 (.build [qZ, (.slice none 0 0), (.bool false), qZ, qZ, (.bool false), qZ, (.string ⟨⟨[]⟩⟩), (.slice none 0 0), (.slice none 0 0)] []),
 qO 17 (.loadN 2 (.tmp 3)),
  ⟨none, .store 10 (.tmp 0) (.tmp 16), none⟩,
  ⟨none, .store 2 (.tmp 1) (.tmp 17), none⟩] (some ⟨[], [(1, 2)]⟩)
/- ferret/syn.Parse$1 -/
def d20 : IDf := ⟨18, (some 5), [⟨(some 2), .move (.tmp 5), none⟩], (.seq d20r0 (.cond (.tmp 7) (.seq d20r1 (.seq (.seq d20r2 (.cond (.tmp 14) d20r3 .skip)) d20r4)) .skip))⟩
end Go.Am.Zd
