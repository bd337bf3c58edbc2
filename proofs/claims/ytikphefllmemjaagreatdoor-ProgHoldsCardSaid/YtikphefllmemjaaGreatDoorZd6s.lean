import Derived.Test.YtikphefllmemjaaGreatDoorZd3
/-
The closed part: law 14 speaks.
-/
namespace Go.Am.Zd
open Go Go.Am Go.Proofs
set_option maxRecDepth 100000
theorem speaks13 : isTrue (runFn Tryz.prog tbl 3000 13 [] h0) = true := by kernel_rfl
end Go.Am.Zd
