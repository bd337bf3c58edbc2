import Derived.Test.YtikphefllmemjaaGreatZt3
namespace Go.Am.Zt
open Go Go.Am Go.Proofs
set_option maxRecDepth 100000
set_option linter.unusedVariables false

theorem e16 (text : ByteArray) (from_ : Int) (h : AH) : runFn Tryz.prog tbl 50 16 [.pointer none, .string text, .int .i64 from_, .bool true] h = some (.tuple #[.int .i64 0, .bool false], h) := by kernel_rfl
theorem e17 (h : AH) : runFn Tryz.prog tbl 50 17 [.pointer none] h = some (.tuple #[.int .i64 0, .int .i64 0], h) := by kernel_rfl

theorem run7 (text : ByteArray) (from_ : Int) {h1 : AH} (hs : Ev Tryz.prog tbl 13 [] h0 (.bool true, h1)) : Ev Tryz.prog tbl 7 [.string text, .int .i64 from_] h0 (.bool true, h1) := by
  have l13 := lim_of hs
  have l16 := lim_of (Ev.of_run 50 (e16 text from_ h1))
  have l17 := lim_of (Ev.of_run 50 (e17 h1))
  refine Ev.intro lim_ev (n := 50) ?_
  have e : bodyF Tryz.prog tbl (lim Tryz.prog tbl) 50 7 [.string text, .int .i64 from_] h0 = (match exec Tryz.prog (lim Tryz.prog tbl) 50 f7.body ⟨startT [.string text, .int .i64 from_] f7.ntmps, h0, []⟩ with
    | some (.normal, st) => finishFn Tryz.prog tbl (lim Tryz.prog tbl) 50 f7 st
    | some (.ret, st) => finishFn Tryz.prog tbl (lim Tryz.prog tbl) 50 f7 st
    | _ => none) := by kernel_rfl
  rw [e]
  simp (config := { decide := true }) [f7, f7r0, f7r1, f7r2, f7r3, f7r4, f7r5, f7r6, exec, runRegion, runOps, stepOp, wantedT, IOp.kind, evalQ, act, evalC, evT, putT, startT, undef, l13, l16, l17, List.replicate, finishFn, runDefers, resVs, resV, packV, binV, intBin]

theorem speaks13 : isTrue (runFn Tryz.prog tbl 3000 13 [] h0) = true := by kernel_rfl

theorem dfaNil (text : ByteArray) (from_ : Int) (_ : text.size ≤ maxLen) (_ : (Lit.int .i64 from_).wf = true) : ∃ h', Ev Tryz.prog tbl 7 [.string text, .int .i64 from_] h0 (.bool true, h') := by
  obtain ⟨h1, e⟩ := Ev.of_true speaks13
  exact ⟨h1, run7 text from_ e⟩

end Go.Am.Zt
