import Derived.Test.YtikphefllmemjaaGreatDoorZd6B
import Derived.Test.YtikphefllmemjaaGreatDoorZd6s
/-
ProgHolds: the law's own function.
-/
namespace Go.Am.Zd
open Go Go.Am Go.Proofs
set_option maxRecDepth 100000
set_option linter.unusedVariables false

theorem progHolds (kind : Int) (s : ByteArray) (k : Int) (_ : (Lit.int .i64 kind).wf = true) (hs : s.size ≤ maxLen) (_ : (Lit.int .i64 k).wf = true) : ∃ h', Ev Tryz.prog tbl 6 [.int .i64 kind, .string s, .int .i64 k] h0 (.bool true, h') := by
  obtain ⟨h1, e13⟩ := Ev.of_true speaks13
  have l13 := lim_of e13
  have l15 := lim_of (e15 kind s k h1 hs)
  have l16 := lim_of (e16 kind s k h1 hs)
  refine ⟨h1, Ev.intro lim_ev (n := 50) ?_⟩
  have e : bodyF Tryz.prog tbl (lim Tryz.prog tbl) 50 6 [.int .i64 kind, .string s, .int .i64 k] h0 = (match exec Tryz.prog (lim Tryz.prog tbl) 50 f6.body ⟨startT [.int .i64 kind, .string s, .int .i64 k] f6.ntmps, h0, []⟩ with
    | some (.normal, st) => finishFn Tryz.prog tbl (lim Tryz.prog tbl) 50 f6 st
    | some (.ret, st) => finishFn Tryz.prog tbl (lim Tryz.prog tbl) 50 f6 st
    | _ => none) := by kernel_rfl
  rw [e]
  simp [f6, f6r0, f6r1, f6r2, f6r3, exec, runRegion, runOps, stepOp, wantedT, IOp.kind, evalQ, act, evalC, evT, putT, startT, undef, l13, l15, l16, List.replicate, finishFn, runDefers, resVs, resV, packV]

end Go.Am.Zd
