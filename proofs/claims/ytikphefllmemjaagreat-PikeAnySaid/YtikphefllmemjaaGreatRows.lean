/-
  No cell of these rows narrows 'for every input' (looked for: loops, veiled, ifaces, maps, wideKeys, modest, calm, conditions, laid).
  DERIVED. THE GIVEN ROWS OF THIS SEAT. 5 by the template 'for every input the law returns true; each argument reads behind the call as it read before'; 0 by the template 'total and deterministic' (their statements: YtikphefllmemjaaGreatTotals.lean).
  GIVEN WITH THE SEED: the statements are not yours to turn. If you find one false, say at which input.
  Laid BY PROGRAM, IN A SANDBOX (cutbox-rows.mjs): the forced cells as the released guide's own fill.sh prints them over the translation e9fe259abfe50a7c… (all of the seat's roots in one cut). By AI agents, Wed Nov 11 2026. No macro, syntax, notation, axiom, sorry.
-/
import Derived.Test.YtikphefllmemjaaGreatChecked
import GoSem.Claim
import GoSem.ClaimJoined
import GoSem.ClaimMapViews
import Derived.JoinedTies
import Derived.KernelRfl
namespace Go.Proofs.YtikphefllmemjaaGreat
/- THE CELL 'sum', in the pinned program and in every row, IS THE sha256 OF THE DUMP (.gsa) THAT YtikphefllmemjaaGreatProg.lean LOADS. Nothing in Lean hashes anything: it is a label: what it is worth is what the hold of that sum in a sandbox is worth. -/
noncomputable def Tryz.pinned : Pinned := { name := "ytikphefllmemjaagreat", sum := "e9fe259abfe50a7c1c80298a996ac1b1d6736116b2bf8dc77cdc3b586dd1ead0", checked := Tryz.checked }
namespace Rows
def none {H : Type} : Left H := { results := [], args := [] }

/-- 'ferretlaw15.PikeWords': WHATEVER THE INPUT: true; the input reads as it did. -/
def pikeWordsSpec : ChangeSpec := { name := "pikeWords", fn := fun _ => fun
  | [d1, d2, d3] => { results := [.lit (.bool true)], args := [d1, d2, d3] }
  | _ => none }
def pikeWordsRow : OpenClaim := { program := "ytikphefllmemjaagreat", sum := "e9fe259abfe50a7c1c80298a996ac1b1d6736116b2bf8dc77cdc3b586dd1ead0", func := "ferret/ferretlaw15.PikeWords", spec := "pikeWords", inPlace := ["internal/bytealg.IndexByteString", "internal/reflectlite.ValueOf", "internal/reflectlite.Swapper", "(internal/reflectlite.Value).Len"], unfollowed := true, recurses := true, apart := false }
def PikeWordsSaid : Prop := pikeWordsRow.holds Tryz.pinned (OpenSpec.ofChange pikeWordsSpec)

/-- ITS FALSE NEIGHBOUR: 'it returns false'. Refute it at one input. -/
def pikeWordsWrong : ChangeSpec := { name := "pikeWords", fn := fun _ => fun
  | [d1, d2, d3] => { results := [.lit (.bool false)], args := [d1, d2, d3] }
  | _ => none }
def PikeWordsWrongFalsely : Prop := pikeWordsRow.holds Tryz.pinned (OpenSpec.ofChange pikeWordsWrong)

/-- 'ferretlaw15.PikeStars': WHATEVER THE INPUT: true; the input reads as it did. -/
def pikeStarsSpec : ChangeSpec := { name := "pikeStars", fn := fun _ => fun
  | [d1, d2, d3] => { results := [.lit (.bool true)], args := [d1, d2, d3] }
  | _ => none }
def pikeStarsRow : OpenClaim := { program := "ytikphefllmemjaagreat", sum := "e9fe259abfe50a7c1c80298a996ac1b1d6736116b2bf8dc77cdc3b586dd1ead0", func := "ferret/ferretlaw15.PikeStars", spec := "pikeStars", inPlace := ["internal/bytealg.IndexByteString", "internal/reflectlite.ValueOf", "internal/reflectlite.Swapper", "(internal/reflectlite.Value).Len"], unfollowed := true, recurses := true, apart := false }
def PikeStarsSaid : Prop := pikeStarsRow.holds Tryz.pinned (OpenSpec.ofChange pikeStarsSpec)

/-- ITS FALSE NEIGHBOUR: 'it returns false'. Refute it at one input. -/
def pikeStarsWrong : ChangeSpec := { name := "pikeStars", fn := fun _ => fun
  | [d1, d2, d3] => { results := [.lit (.bool false)], args := [d1, d2, d3] }
  | _ => none }
def PikeStarsWrongFalsely : Prop := pikeStarsRow.holds Tryz.pinned (OpenSpec.ofChange pikeStarsWrong)

/-- 'ferretlaw15.PikeAny': WHATEVER THE INPUT: true; the input reads as it did. -/
def pikeAnySpec : ChangeSpec := { name := "pikeAny", fn := fun _ => fun
  | [d1, d2] => { results := [.lit (.bool true)], args := [d1, d2] }
  | _ => none }
def pikeAnyRow : OpenClaim := { program := "ytikphefllmemjaagreat", sum := "e9fe259abfe50a7c1c80298a996ac1b1d6736116b2bf8dc77cdc3b586dd1ead0", func := "ferret/ferretlaw15.PikeAny", spec := "pikeAny", inPlace := ["internal/bytealg.IndexByteString", "internal/reflectlite.ValueOf", "internal/reflectlite.Swapper", "(internal/reflectlite.Value).Len"], unfollowed := true, recurses := true, apart := false }
def PikeAnySaid : Prop := pikeAnyRow.holds Tryz.pinned (OpenSpec.ofChange pikeAnySpec)

/-- ITS FALSE NEIGHBOUR: 'it returns false'. Refute it at one input. -/
def pikeAnyWrong : ChangeSpec := { name := "pikeAny", fn := fun _ => fun
  | [d1, d2] => { results := [.lit (.bool false)], args := [d1, d2] }
  | _ => none }
def PikeAnyWrongFalsely : Prop := pikeAnyRow.holds Tryz.pinned (OpenSpec.ofChange pikeAnyWrong)

/-- 'ferretlaw16.DfaWords': WHATEVER THE INPUT: true; the input reads as it did. -/
def dfaWordsSpec : ChangeSpec := { name := "dfaWords", fn := fun _ => fun
  | [d1, d2, d3] => { results := [.lit (.bool true)], args := [d1, d2, d3] }
  | _ => none }
def dfaWordsRow : OpenClaim := { program := "ytikphefllmemjaagreat", sum := "e9fe259abfe50a7c1c80298a996ac1b1d6736116b2bf8dc77cdc3b586dd1ead0", func := "ferret/ferretlaw16.DfaWords", spec := "dfaWords", inPlace := ["internal/bytealg.IndexByteString", "internal/reflectlite.ValueOf", "internal/reflectlite.Swapper", "(internal/reflectlite.Value).Len"], unfollowed := true, recurses := true, apart := false }
def DfaWordsSaid : Prop := dfaWordsRow.holds Tryz.pinned (OpenSpec.ofChange dfaWordsSpec)

/-- ITS FALSE NEIGHBOUR: 'it returns false'. Refute it at one input. -/
def dfaWordsWrong : ChangeSpec := { name := "dfaWords", fn := fun _ => fun
  | [d1, d2, d3] => { results := [.lit (.bool false)], args := [d1, d2, d3] }
  | _ => none }
def DfaWordsWrongFalsely : Prop := dfaWordsRow.holds Tryz.pinned (OpenSpec.ofChange dfaWordsWrong)

/-- 'ferretlaw16.DfaNil': WHATEVER THE INPUT: true; the input reads as it did. -/
def dfaNilSpec : ChangeSpec := { name := "dfaNil", fn := fun _ => fun
  | [d1, d2] => { results := [.lit (.bool true)], args := [d1, d2] }
  | _ => none }
def dfaNilRow : OpenClaim := { program := "ytikphefllmemjaagreat", sum := "e9fe259abfe50a7c1c80298a996ac1b1d6736116b2bf8dc77cdc3b586dd1ead0", func := "ferret/ferretlaw16.DfaNil", spec := "dfaNil", inPlace := ["internal/bytealg.IndexByteString", "internal/reflectlite.ValueOf", "internal/reflectlite.Swapper", "(internal/reflectlite.Value).Len"], unfollowed := true, recurses := true, apart := false }
def DfaNilSaid : Prop := dfaNilRow.holds Tryz.pinned (OpenSpec.ofChange dfaNilSpec)

/-- ITS FALSE NEIGHBOUR: 'it returns false'. Refute it at one input. -/
def dfaNilWrong : ChangeSpec := { name := "dfaNil", fn := fun _ => fun
  | [d1, d2] => { results := [.lit (.bool false)], args := [d1, d2] }
  | _ => none }
def DfaNilWrongFalsely : Prop := dfaNilRow.holds Tryz.pinned (OpenSpec.ofChange dfaNilWrong)

/- THE SECOND FORM. 'bulk': how many values and letters a reading holds, each counted each time it is reached (what is shared counts as often as it is met; a slice's spare places count too). A statement '..UptoSaid' is the law's where the arguments, and the package variables that the reading takes, are together of bulk at most 1048576: NARROWER than '..Said'. Prove '..Said' where nothing that the law and all that it calls make is longer than what came in: it says more and counts as full. Else prove '..UptoSaid'. A law counts once. -/
mutual
def uptoBulk {H : Type} : DataW H → Nat
  | .lit (.string bytes) => bytes.length + 1
  | .lit _ => 1
  | .nil => 1
  | .ptr d => uptoBulk d + 1
  | .slice elems spare => uptoBulkAll elems + uptoBulkAll spare + 1
  | .agg parts => uptoBulkAll parts + 1
  | .iface _ d => uptoBulk d + 1
  | .map entries => uptoBulkEntries entries + 1
  | .held _ => 1
def uptoBulkAll {H : Type} : List (DataW H) → Nat
  | [] => 0
  | d :: r => uptoBulk d + uptoBulkAll r
def uptoBulkEntries {H : Type} : List (Lit × DataW H) → Nat
  | [] => 0
  | x :: r => uptoBulkEntry x + uptoBulkEntries r
def uptoBulkEntry {H : Type} : Lit × DataW H → Nat
  | (.string bytes, d) => bytes.length + uptoBulk d + 1
  | (_, d) => uptoBulk d + 1
 end
def uptoSmall : (H : Type) → List (DataW H) → Bool := fun _ ds => decide (uptoBulkAll ds ≤ 1048576)
def OpenSpec.upto (s : _root_.Go.ChangeSpec) : _root_.Go.OpenSpec := { _root_.Go.OpenSpec.ofChange s with cond := some uptoSmall }

/-- 'ferretlaw15.PikeWords', WHERE WHAT IT READS IS OF BULK AT MOST 1048576: true; the input reads as it did. -/
def pikeWordsUptoRow : OpenClaim := { program := "ytikphefllmemjaagreat", sum := "e9fe259abfe50a7c1c80298a996ac1b1d6736116b2bf8dc77cdc3b586dd1ead0", func := "ferret/ferretlaw15.PikeWords", spec := "pikeWords", inPlace := ["internal/bytealg.IndexByteString", "internal/reflectlite.ValueOf", "internal/reflectlite.Swapper", "(internal/reflectlite.Value).Len"], unfollowed := true, recurses := true, apart := false, narrowed := true }
def PikeWordsUptoSaid : Prop := pikeWordsUptoRow.holds Tryz.pinned (OpenSpec.upto pikeWordsSpec)

/-- 'ferretlaw15.PikeStars', WHERE WHAT IT READS IS OF BULK AT MOST 1048576: true; the input reads as it did. -/
def pikeStarsUptoRow : OpenClaim := { program := "ytikphefllmemjaagreat", sum := "e9fe259abfe50a7c1c80298a996ac1b1d6736116b2bf8dc77cdc3b586dd1ead0", func := "ferret/ferretlaw15.PikeStars", spec := "pikeStars", inPlace := ["internal/bytealg.IndexByteString", "internal/reflectlite.ValueOf", "internal/reflectlite.Swapper", "(internal/reflectlite.Value).Len"], unfollowed := true, recurses := true, apart := false, narrowed := true }
def PikeStarsUptoSaid : Prop := pikeStarsUptoRow.holds Tryz.pinned (OpenSpec.upto pikeStarsSpec)

/-- 'ferretlaw15.PikeAny', WHERE WHAT IT READS IS OF BULK AT MOST 1048576: true; the input reads as it did. -/
def pikeAnyUptoRow : OpenClaim := { program := "ytikphefllmemjaagreat", sum := "e9fe259abfe50a7c1c80298a996ac1b1d6736116b2bf8dc77cdc3b586dd1ead0", func := "ferret/ferretlaw15.PikeAny", spec := "pikeAny", inPlace := ["internal/bytealg.IndexByteString", "internal/reflectlite.ValueOf", "internal/reflectlite.Swapper", "(internal/reflectlite.Value).Len"], unfollowed := true, recurses := true, apart := false, narrowed := true }
def PikeAnyUptoSaid : Prop := pikeAnyUptoRow.holds Tryz.pinned (OpenSpec.upto pikeAnySpec)

/-- 'ferretlaw16.DfaWords', WHERE WHAT IT READS IS OF BULK AT MOST 1048576: true; the input reads as it did. -/
def dfaWordsUptoRow : OpenClaim := { program := "ytikphefllmemjaagreat", sum := "e9fe259abfe50a7c1c80298a996ac1b1d6736116b2bf8dc77cdc3b586dd1ead0", func := "ferret/ferretlaw16.DfaWords", spec := "dfaWords", inPlace := ["internal/bytealg.IndexByteString", "internal/reflectlite.ValueOf", "internal/reflectlite.Swapper", "(internal/reflectlite.Value).Len"], unfollowed := true, recurses := true, apart := false, narrowed := true }
def DfaWordsUptoSaid : Prop := dfaWordsUptoRow.holds Tryz.pinned (OpenSpec.upto dfaWordsSpec)

/-- 'ferretlaw16.DfaNil', WHERE WHAT IT READS IS OF BULK AT MOST 1048576: true; the input reads as it did. -/
def dfaNilUptoRow : OpenClaim := { program := "ytikphefllmemjaagreat", sum := "e9fe259abfe50a7c1c80298a996ac1b1d6736116b2bf8dc77cdc3b586dd1ead0", func := "ferret/ferretlaw16.DfaNil", spec := "dfaNil", inPlace := ["internal/bytealg.IndexByteString", "internal/reflectlite.ValueOf", "internal/reflectlite.Swapper", "(internal/reflectlite.Value).Len"], unfollowed := true, recurses := true, apart := false, narrowed := true }
def DfaNilUptoSaid : Prop := dfaNilUptoRow.holds Tryz.pinned (OpenSpec.upto dfaNilSpec)

end Rows
end Go.Proofs.YtikphefllmemjaaGreat
