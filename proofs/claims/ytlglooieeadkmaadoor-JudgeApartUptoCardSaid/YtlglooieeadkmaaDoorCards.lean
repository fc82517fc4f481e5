/-
  DERIVED. GIVEN WITH THE SEED: THE CARDS: each row of YtlglooieeadkmaaDoorRows.lean that lists a variable, with what it lists TIED to the program's text (the seventh form; the later family's looks); each row that meets fmt, with fmt's text TOLD by the authors' own Lean function (tested against real Go, not proved from fmt's source: count such statements apart). THE CARD IS WHAT COUNTS. Prove the row's statement (the work); the ties are given (YtlglooieeadkmaaDoorTie.lean); close each card by the builder's one call (the guide's Derived/Test/ToyasCard.lean, 'card_holds'). Laid BY PROGRAM, IN A SANDBOX (cutbox-door.mjs). By AI agents, Wed Nov 11 2026. No macro, syntax, notation, axiom, sorry.
-/
import Derived.Test.YtlglooieeadkmaaDoorRows
import GoSem.ClaimSeven
namespace Go.Proofs.YtlglooieeadkmaaDoor
namespace Rows

/-- THE TIED CARD OF 'usherlaw29.JudgeApart'. -/
def judgeApartCard : Claim7 := { stood := { row := judgeApartRow, standIns := [], harness := (true, "0210b6fbc02e3bedd9c4242ec100299b868c043af0aed7d88a4217a380505951"), looks := false }, kinds := [], alts := [], laidByText := true, laidKinds := [.data, .data, .data, .data, .pinned], laidTests := true, laidLooks := .later }
def JudgeApartCardSaid : Prop := Claim7.holds Tryd.pinned (.plain (OpenSpec.ofChange judgeApartSpec)) judgeApartCard

/-- THE TIED CARD OF 'usherlaw29.JudgeMerges'. -/
def judgeMergesCard : Claim7 := { stood := { row := judgeMergesRow, standIns := [], harness := (true, "0210b6fbc02e3bedd9c4242ec100299b868c043af0aed7d88a4217a380505951"), looks := false }, kinds := [], alts := [], laidByText := true, laidKinds := [.data, .data, .data, .data, .pinned], laidTests := true, laidLooks := .later }
def JudgeMergesCardSaid : Prop := Claim7.holds Tryd.pinned (.plain (OpenSpec.ofChange judgeMergesSpec)) judgeMergesCard

/-- THE TIED CARD OF 'usherlaw11.PrintBack'. -/
def printBackCard : Claim7 := { stood := { row := printBackRow, standIns := [], harness := (true, "0210b6fbc02e3bedd9c4242ec100299b868c043af0aed7d88a4217a380505951"), looks := false }, kinds := [], alts := [], laidByText := true, laidKinds := [.data, .data, .data, .data, .pinned], laidTests := true, laidLooks := .later }
def PrintBackCardSaid : Prop := Claim7.holds Tryd.pinned (.plain (OpenSpec.ofChange printBackSpec)) printBackCard

/-- THE TIED CARD OF 'usherlaw11.PrintOne'. -/
def printOneCard : Claim7 := { stood := { row := printOneRow, standIns := [], harness := (true, "0210b6fbc02e3bedd9c4242ec100299b868c043af0aed7d88a4217a380505951"), looks := false }, kinds := [], alts := [], laidByText := true, laidKinds := [.data, .data, .data, .data, .pinned], laidTests := true, laidLooks := .later }
def PrintOneCardSaid : Prop := Claim7.holds Tryd.pinned (.plain (OpenSpec.ofChange printOneSpec)) printOneCard

/-- THE SECOND FORM's CARD OF 'usherlaw29.JudgeApart'. -/
def judgeApartUptoCard : Claim7 := { stood := { row := judgeApartUptoRow, standIns := [], harness := (true, "0210b6fbc02e3bedd9c4242ec100299b868c043af0aed7d88a4217a380505951"), looks := false }, kinds := [], alts := [], laidByText := true, laidKinds := [.data, .data, .data, .data, .pinned], laidTests := true, laidLooks := .later }
def JudgeApartUptoCardSaid : Prop := Claim7.holds Tryd.pinned (.plain (OpenSpec.upto judgeApartSpec)) judgeApartUptoCard

/-- THE SECOND FORM's CARD OF 'usherlaw29.JudgeMerges'. -/
def judgeMergesUptoCard : Claim7 := { stood := { row := judgeMergesUptoRow, standIns := [], harness := (true, "0210b6fbc02e3bedd9c4242ec100299b868c043af0aed7d88a4217a380505951"), looks := false }, kinds := [], alts := [], laidByText := true, laidKinds := [.data, .data, .data, .data, .pinned], laidTests := true, laidLooks := .later }
def JudgeMergesUptoCardSaid : Prop := Claim7.holds Tryd.pinned (.plain (OpenSpec.upto judgeMergesSpec)) judgeMergesUptoCard

/-- THE SECOND FORM's CARD OF 'usherlaw11.PrintBack'. -/
def printBackUptoCard : Claim7 := { stood := { row := printBackUptoRow, standIns := [], harness := (true, "0210b6fbc02e3bedd9c4242ec100299b868c043af0aed7d88a4217a380505951"), looks := false }, kinds := [], alts := [], laidByText := true, laidKinds := [.data, .data, .data, .data, .pinned], laidTests := true, laidLooks := .later }
def PrintBackUptoCardSaid : Prop := Claim7.holds Tryd.pinned (.plain (OpenSpec.upto printBackSpec)) printBackUptoCard

/-- THE SECOND FORM's CARD OF 'usherlaw11.PrintOne'. -/
def printOneUptoCard : Claim7 := { stood := { row := printOneUptoRow, standIns := [], harness := (true, "0210b6fbc02e3bedd9c4242ec100299b868c043af0aed7d88a4217a380505951"), looks := false }, kinds := [], alts := [], laidByText := true, laidKinds := [.data, .data, .data, .data, .pinned], laidTests := true, laidLooks := .later }
def PrintOneUptoCardSaid : Prop := Claim7.holds Tryd.pinned (.plain (OpenSpec.upto printOneSpec)) printOneUptoCard
end Rows
end Go.Proofs.YtlglooieeadkmaaDoor
