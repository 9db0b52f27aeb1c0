/-
  DERIVED. GIVEN WITH THE SEED: THE CARDS: each row of YtlgbgbngdhhjaaaGreatDoorRows.lean that lists a variable, with what it lists TIED to the program's text (the seventh form; the later family's looks); each row that meets fmt, with fmt's text TOLD by the authors' own Lean function (tested against real Go, not proved from fmt's source: count such statements apart). THE CARD IS WHAT COUNTS. Prove the row's statement (the work); the ties are given (YtlgbgbngdhhjaaaGreatDoorTie.lean); close each card by the builder's one call (the guide's Derived/Test/ToyasCard.lean, 'card_holds'). Laid BY PROGRAM, IN A SANDBOX (cutbox-door.mjs). By AI agents, Wed Nov 11 2026. No macro, syntax, notation, axiom, sorry.
-/
import Derived.Test.YtlgbgbngdhhjaaaGreatDoorRows
import GoSem.ClaimSeven
namespace Go.Proofs.YtlgbgbngdhhjaaaGreatDoor
namespace Rows

/-- THE TIED CARD OF 'azimuthlaw11.LatticeAbsorbs'. -/
def latticeAbsorbsCard : Claim7 := { stood := { row := latticeAbsorbsRow, standIns := [], harness := (true, "485a50cdda381f550d80658d9d8f8f96a93b519eb2bf32fa582a733cf7f37661"), looks := true }, kinds := [], alts := [], laidByText := true, laidKinds := [.data, .data, .data], laidTests := true, laidLooks := .later }
def LatticeAbsorbsCardSaid : Prop := Claim7.holds Tryz.pinned (.plain (OpenSpec.ofChange latticeAbsorbsSpec)) latticeAbsorbsCard

/-- THE TIED CARD OF 'azimuthlaw11.LatticeJoins'. -/
def latticeJoinsCard : Claim7 := { stood := { row := latticeJoinsRow, standIns := [], harness := (true, "485a50cdda381f550d80658d9d8f8f96a93b519eb2bf32fa582a733cf7f37661"), looks := true }, kinds := [], alts := [], laidByText := true, laidKinds := [.data, .data, .data], laidTests := true, laidLooks := .later }
def LatticeJoinsCardSaid : Prop := Claim7.holds Tryz.pinned (.plain (OpenSpec.ofChange latticeJoinsSpec)) latticeJoinsCard

/-- THE TIED CARD OF 'azimuthlaw11.LatticeRules'. -/
def latticeRulesCard : Claim7 := { stood := { row := latticeRulesRow, standIns := [], harness := (true, "485a50cdda381f550d80658d9d8f8f96a93b519eb2bf32fa582a733cf7f37661"), looks := true }, kinds := [], alts := [], laidByText := true, laidKinds := [.data, .data, .data], laidTests := true, laidLooks := .later }
def LatticeRulesCardSaid : Prop := Claim7.holds Tryz.pinned (.plain (OpenSpec.ofChange latticeRulesSpec)) latticeRulesCard

/-- THE TIED CARD OF 'azimuthlaw11.LatticeThree'. -/
def latticeThreeCard : Claim7 := { stood := { row := latticeThreeRow, standIns := [], harness := (true, "485a50cdda381f550d80658d9d8f8f96a93b519eb2bf32fa582a733cf7f37661"), looks := true }, kinds := [], alts := [], laidByText := true, laidKinds := [.data, .data, .data], laidTests := true, laidLooks := .later }
def LatticeThreeCardSaid : Prop := Claim7.holds Tryz.pinned (.plain (OpenSpec.ofChange latticeThreeSpec)) latticeThreeCard

/-- THE TIED CARD OF 'azimuthlaw11.LatticeAll'. -/
def latticeAllCard : Claim7 := { stood := { row := latticeAllRow, standIns := [], harness := (true, "485a50cdda381f550d80658d9d8f8f96a93b519eb2bf32fa582a733cf7f37661"), looks := true }, kinds := [], alts := [], laidByText := true, laidKinds := [.data, .data, .data], laidTests := true, laidLooks := .later }
def LatticeAllCardSaid : Prop := Claim7.holds Tryz.pinned (.plain (OpenSpec.ofChange latticeAllSpec)) latticeAllCard

/-- THE SECOND FORM's CARD OF 'azimuthlaw11.LatticeAbsorbs'. -/
def latticeAbsorbsUptoCard : Claim7 := { stood := { row := latticeAbsorbsUptoRow, standIns := [], harness := (true, "485a50cdda381f550d80658d9d8f8f96a93b519eb2bf32fa582a733cf7f37661"), looks := true }, kinds := [], alts := [], laidByText := true, laidKinds := [.data, .data, .data], laidTests := true, laidLooks := .later }
def LatticeAbsorbsUptoCardSaid : Prop := Claim7.holds Tryz.pinned (.plain (OpenSpec.upto latticeAbsorbsSpec)) latticeAbsorbsUptoCard

/-- THE SECOND FORM's CARD OF 'azimuthlaw11.LatticeJoins'. -/
def latticeJoinsUptoCard : Claim7 := { stood := { row := latticeJoinsUptoRow, standIns := [], harness := (true, "485a50cdda381f550d80658d9d8f8f96a93b519eb2bf32fa582a733cf7f37661"), looks := true }, kinds := [], alts := [], laidByText := true, laidKinds := [.data, .data, .data], laidTests := true, laidLooks := .later }
def LatticeJoinsUptoCardSaid : Prop := Claim7.holds Tryz.pinned (.plain (OpenSpec.upto latticeJoinsSpec)) latticeJoinsUptoCard

/-- THE SECOND FORM's CARD OF 'azimuthlaw11.LatticeRules'. -/
def latticeRulesUptoCard : Claim7 := { stood := { row := latticeRulesUptoRow, standIns := [], harness := (true, "485a50cdda381f550d80658d9d8f8f96a93b519eb2bf32fa582a733cf7f37661"), looks := true }, kinds := [], alts := [], laidByText := true, laidKinds := [.data, .data, .data], laidTests := true, laidLooks := .later }
def LatticeRulesUptoCardSaid : Prop := Claim7.holds Tryz.pinned (.plain (OpenSpec.upto latticeRulesSpec)) latticeRulesUptoCard

/-- THE SECOND FORM's CARD OF 'azimuthlaw11.LatticeThree'. -/
def latticeThreeUptoCard : Claim7 := { stood := { row := latticeThreeUptoRow, standIns := [], harness := (true, "485a50cdda381f550d80658d9d8f8f96a93b519eb2bf32fa582a733cf7f37661"), looks := true }, kinds := [], alts := [], laidByText := true, laidKinds := [.data, .data, .data], laidTests := true, laidLooks := .later }
def LatticeThreeUptoCardSaid : Prop := Claim7.holds Tryz.pinned (.plain (OpenSpec.upto latticeThreeSpec)) latticeThreeUptoCard

/-- THE SECOND FORM's CARD OF 'azimuthlaw11.LatticeAll'. -/
def latticeAllUptoCard : Claim7 := { stood := { row := latticeAllUptoRow, standIns := [], harness := (true, "485a50cdda381f550d80658d9d8f8f96a93b519eb2bf32fa582a733cf7f37661"), looks := true }, kinds := [], alts := [], laidByText := true, laidKinds := [.data, .data, .data], laidTests := true, laidLooks := .later }
def LatticeAllUptoCardSaid : Prop := Claim7.holds Tryz.pinned (.plain (OpenSpec.upto latticeAllSpec)) latticeAllUptoCard
end Rows
end Go.Proofs.YtlgbgbngdhhjaaaGreatDoor
