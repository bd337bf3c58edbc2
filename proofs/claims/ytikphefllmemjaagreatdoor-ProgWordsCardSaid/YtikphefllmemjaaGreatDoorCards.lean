/-
  DERIVED. GIVEN WITH THE SEED: THE CARDS: each row of YtikphefllmemjaaGreatDoorRows.lean that lists a variable, with what it lists TIED to the program's text (the seventh form; the later family's looks); each row that meets fmt, with fmt's text TOLD by the authors' own Lean function (tested against real Go, not proved from fmt's source: count such statements apart). THE CARD IS WHAT COUNTS. Prove the row's statement (the work); the ties are given (YtikphefllmemjaaGreatDoorTie.lean); close each card by the builder's one call (the guide's Derived/Test/ToyasCard.lean, 'card_holds'). Laid BY PROGRAM, IN A SANDBOX (cutbox-door.mjs). By AI agents, Wed Nov 11 2026. No macro, syntax, notation, axiom, sorry.
-/
import Derived.Test.YtikphefllmemjaaGreatDoorRows
import GoSem.ClaimSeven
namespace Go.Proofs.YtikphefllmemjaaGreatDoor
namespace Rows

/-- THE TIED CARD OF 'ferrettop.TopFolds'. -/
def topFoldsCard : Claim7 := { stood := { row := topFoldsRow, standIns := [], harness := (true, "3b2ad60d864e2433a40036f71aa5246270b818090a5a0831a503469809fc2f7a"), looks := true }, kinds := [], alts := [], laidByText := true, laidKinds := [.data, .data, .data], laidTests := true, laidLooks := .later }
def TopFoldsCardSaid : Prop := Claim7.holds Tryz.pinned (.plain (OpenSpec.ofChange topFoldsSpec)) topFoldsCard

/-- THE TIED CARD OF 'ferretlaw14.ProgWords'. -/
def progWordsCard : Claim7 := { stood := { row := progWordsRow, standIns := [], harness := (true, "3b2ad60d864e2433a40036f71aa5246270b818090a5a0831a503469809fc2f7a"), looks := true }, kinds := [], alts := [], laidByText := true, laidKinds := [.data, .data, .data], laidTests := true, laidLooks := .later }
def ProgWordsCardSaid : Prop := Claim7.holds Tryz.pinned (.plain (OpenSpec.ofChange progWordsSpec)) progWordsCard

/-- THE TIED CARD OF 'ferretlaw14.ProgBig'. -/
def progBigCard : Claim7 := { stood := { row := progBigRow, standIns := [], harness := (true, "3b2ad60d864e2433a40036f71aa5246270b818090a5a0831a503469809fc2f7a"), looks := true }, kinds := [], alts := [], laidByText := true, laidKinds := [.data, .data, .data], laidTests := true, laidLooks := .later }
def ProgBigCardSaid : Prop := Claim7.holds Tryz.pinned (.plain (OpenSpec.ofChange progBigSpec)) progBigCard

/-- THE TIED CARD OF 'ferretlaw14.ProgHolds'. -/
def progHoldsCard : Claim7 := { stood := { row := progHoldsRow, standIns := [], harness := (true, "3b2ad60d864e2433a40036f71aa5246270b818090a5a0831a503469809fc2f7a"), looks := true }, kinds := [], alts := [], laidByText := true, laidKinds := [.data, .data, .data], laidTests := true, laidLooks := .later }
def ProgHoldsCardSaid : Prop := Claim7.holds Tryz.pinned (.plain (OpenSpec.ofChange progHoldsSpec)) progHoldsCard

/-- THE SECOND FORM's CARD OF 'ferrettop.TopFolds'. -/
def topFoldsUptoCard : Claim7 := { stood := { row := topFoldsUptoRow, standIns := [], harness := (true, "3b2ad60d864e2433a40036f71aa5246270b818090a5a0831a503469809fc2f7a"), looks := true }, kinds := [], alts := [], laidByText := true, laidKinds := [.data, .data, .data], laidTests := true, laidLooks := .later }
def TopFoldsUptoCardSaid : Prop := Claim7.holds Tryz.pinned (.plain (OpenSpec.upto topFoldsSpec)) topFoldsUptoCard

/-- THE SECOND FORM's CARD OF 'ferretlaw14.ProgWords'. -/
def progWordsUptoCard : Claim7 := { stood := { row := progWordsUptoRow, standIns := [], harness := (true, "3b2ad60d864e2433a40036f71aa5246270b818090a5a0831a503469809fc2f7a"), looks := true }, kinds := [], alts := [], laidByText := true, laidKinds := [.data, .data, .data], laidTests := true, laidLooks := .later }
def ProgWordsUptoCardSaid : Prop := Claim7.holds Tryz.pinned (.plain (OpenSpec.upto progWordsSpec)) progWordsUptoCard

/-- THE SECOND FORM's CARD OF 'ferretlaw14.ProgBig'. -/
def progBigUptoCard : Claim7 := { stood := { row := progBigUptoRow, standIns := [], harness := (true, "3b2ad60d864e2433a40036f71aa5246270b818090a5a0831a503469809fc2f7a"), looks := true }, kinds := [], alts := [], laidByText := true, laidKinds := [.data, .data, .data], laidTests := true, laidLooks := .later }
def ProgBigUptoCardSaid : Prop := Claim7.holds Tryz.pinned (.plain (OpenSpec.upto progBigSpec)) progBigUptoCard

/-- THE SECOND FORM's CARD OF 'ferretlaw14.ProgHolds'. -/
def progHoldsUptoCard : Claim7 := { stood := { row := progHoldsUptoRow, standIns := [], harness := (true, "3b2ad60d864e2433a40036f71aa5246270b818090a5a0831a503469809fc2f7a"), looks := true }, kinds := [], alts := [], laidByText := true, laidKinds := [.data, .data, .data], laidTests := true, laidLooks := .later }
def ProgHoldsUptoCardSaid : Prop := Claim7.holds Tryz.pinned (.plain (OpenSpec.upto progHoldsSpec)) progHoldsUptoCard
end Rows
end Go.Proofs.YtikphefllmemjaaGreatDoor
