/-
  DERIVED. GIVEN WITH THE SEED: THE CARDS: each row of YtafmnkngjjnpiaaGreatDoorRows.lean that lists a variable, with what it lists TIED to the program's text (the seventh form; the later family's looks); each row that meets fmt, with fmt's text TOLD by the authors' own Lean function (tested against real Go, not proved from fmt's source: count such statements apart). THE CARD IS WHAT COUNTS. Prove the row's statement (the work); the ties are given (YtafmnkngjjnpiaaGreatDoorTie.lean); close each card by the builder's one call (the guide's Derived/Test/ToyasCard.lean, 'card_holds'). Laid BY PROGRAM, IN A SANDBOX (cutbox-door.mjs). By AI agents, Wed Nov 11 2026. No macro, syntax, notation, axiom, sorry.
-/
import Derived.Test.YtafmnkngjjnpiaaGreatDoorRows
import GoSem.ClaimSeven
namespace Go.Proofs.YtafmnkngjjnpiaaGreatDoor
namespace Rows

/-- THE TIED CARD OF 'whisperertop.TopClean'. -/
def topCleanCard : Claim7 := { stood := { row := topCleanRow, standIns := [], harness := (true, "744e2b15491edefd714e0d1c5bc317004408576da473cd53720dd03cfc504c08"), looks := true }, kinds := [], alts := [], laidByText := true, laidKinds := [.data, .data, .data, .data, .handle, .pinned], laidTests := true, laidLooks := .later }
def TopCleanCardSaid : Prop := Claim7.holds Tryz.pinned (.plain (OpenSpec.ofChange topCleanSpec)) topCleanCard

/-- THE TIED CARD OF 'whisperertop.TopRestores'. -/
def topRestoresCard : Claim7 := { stood := { row := topRestoresRow, standIns := [], harness := (true, "744e2b15491edefd714e0d1c5bc317004408576da473cd53720dd03cfc504c08"), looks := true }, kinds := [], alts := [], laidByText := true, laidKinds := [.data, .data, .data, .data, .handle, .pinned], laidTests := true, laidLooks := .later }
def TopRestoresCardSaid : Prop := Claim7.holds Tryz.pinned (.plain (OpenSpec.ofChange topRestoresSpec)) topRestoresCard

/-- THE TIED CARD OF 'whisperertop.TopUnknown'. -/
def topUnknownCard : Claim7 := { stood := { row := topUnknownRow, standIns := [], harness := (true, "744e2b15491edefd714e0d1c5bc317004408576da473cd53720dd03cfc504c08"), looks := true }, kinds := [], alts := [], laidByText := true, laidKinds := [.data, .data, .data, .data, .handle, .pinned], laidTests := true, laidLooks := .later }
def TopUnknownCardSaid : Prop := Claim7.holds Tryz.pinned (.plain (OpenSpec.ofChange topUnknownSpec)) topUnknownCard

/-- THE TIED CARD OF 'whisperertop.TopPieces'. -/
def topPiecesCard : Claim7 := { stood := { row := topPiecesRow, standIns := [], harness := (true, "744e2b15491edefd714e0d1c5bc317004408576da473cd53720dd03cfc504c08"), looks := true }, kinds := [], alts := [], laidByText := true, laidKinds := [.data, .data, .data, .data, .handle, .pinned], laidTests := true, laidLooks := .later }
def TopPiecesCardSaid : Prop := Claim7.holds Tryz.pinned (.plain (OpenSpec.ofChange topPiecesSpec)) topPiecesCard

/-- THE SECOND FORM's CARD OF 'whisperertop.TopClean'. -/
def topCleanUptoCard : Claim7 := { stood := { row := topCleanUptoRow, standIns := [], harness := (true, "744e2b15491edefd714e0d1c5bc317004408576da473cd53720dd03cfc504c08"), looks := true }, kinds := [], alts := [], laidByText := true, laidKinds := [.data, .data, .data, .data, .handle, .pinned], laidTests := true, laidLooks := .later }
def TopCleanUptoCardSaid : Prop := Claim7.holds Tryz.pinned (.plain (OpenSpec.upto topCleanSpec)) topCleanUptoCard

/-- THE SECOND FORM's CARD OF 'whisperertop.TopRestores'. -/
def topRestoresUptoCard : Claim7 := { stood := { row := topRestoresUptoRow, standIns := [], harness := (true, "744e2b15491edefd714e0d1c5bc317004408576da473cd53720dd03cfc504c08"), looks := true }, kinds := [], alts := [], laidByText := true, laidKinds := [.data, .data, .data, .data, .handle, .pinned], laidTests := true, laidLooks := .later }
def TopRestoresUptoCardSaid : Prop := Claim7.holds Tryz.pinned (.plain (OpenSpec.upto topRestoresSpec)) topRestoresUptoCard

/-- THE SECOND FORM's CARD OF 'whisperertop.TopUnknown'. -/
def topUnknownUptoCard : Claim7 := { stood := { row := topUnknownUptoRow, standIns := [], harness := (true, "744e2b15491edefd714e0d1c5bc317004408576da473cd53720dd03cfc504c08"), looks := true }, kinds := [], alts := [], laidByText := true, laidKinds := [.data, .data, .data, .data, .handle, .pinned], laidTests := true, laidLooks := .later }
def TopUnknownUptoCardSaid : Prop := Claim7.holds Tryz.pinned (.plain (OpenSpec.upto topUnknownSpec)) topUnknownUptoCard

/-- THE SECOND FORM's CARD OF 'whisperertop.TopPieces'. -/
def topPiecesUptoCard : Claim7 := { stood := { row := topPiecesUptoRow, standIns := [], harness := (true, "744e2b15491edefd714e0d1c5bc317004408576da473cd53720dd03cfc504c08"), looks := true }, kinds := [], alts := [], laidByText := true, laidKinds := [.data, .data, .data, .data, .handle, .pinned], laidTests := true, laidLooks := .later }
def TopPiecesUptoCardSaid : Prop := Claim7.holds Tryz.pinned (.plain (OpenSpec.upto topPiecesSpec)) topPiecesUptoCard
end Rows
end Go.Proofs.YtafmnkngjjnpiaaGreatDoor
