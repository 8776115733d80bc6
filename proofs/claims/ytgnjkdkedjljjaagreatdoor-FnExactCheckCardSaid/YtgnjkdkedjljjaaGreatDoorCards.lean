/-
  DERIVED. GIVEN WITH THE SEED: THE CARDS: each row of YtgnjkdkedjljjaaGreatDoorRows.lean that lists a variable, with what it lists TIED to the program's text (the seventh form; the later family's looks); each row that meets fmt, with fmt's text TOLD by the authors' own Lean function (tested against real Go, not proved from fmt's source: count such statements apart). THE CARD IS WHAT COUNTS. Prove the row's statement (the work); the ties are given (YtgnjkdkedjljjaaGreatDoorTie.lean); close each card by the builder's one call (the guide's Derived/Test/ToyasCard.lean, 'card_holds'). Laid BY PROGRAM, IN A SANDBOX (cutbox-door.mjs). By AI agents, Wed Nov 11 2026. No macro, syntax, notation, axiom, sorry.
-/
import Derived.Test.YtgnjkdkedjljjaaGreatDoorRows
import GoSem.ClaimSeven
namespace Go.Proofs.YtgnjkdkedjljjaaGreatDoor
namespace Rows

/-- THE TIED CARD OF 'laws.FnExactCheck'. -/
def fnExactCheckCard : Claim7 := { stood := { row := fnExactCheckRow, standIns := [], harness := (true, "4c414d0fddbeacdea9228f66edaf34b3637c41280084be25b8b2e436fe8bb89c"), looks := true }, kinds := [], alts := [], laidByText := true, laidKinds := [.handle, .mapped, .mapped], laidTests := true, laidLooks := .later }
def FnExactCheckCardSaid : Prop := Claim7.holds Tryz.pinned (.plain (OpenSpec.ofChange fnExactCheckSpec)) fnExactCheckCard

/-- THE TIED CARD OF 'laws.FnExactRun'. -/
def fnExactRunCard : Claim7 := { stood := { row := fnExactRunRow, standIns := [], harness := (true, "4c414d0fddbeacdea9228f66edaf34b3637c41280084be25b8b2e436fe8bb89c"), looks := true }, kinds := [], alts := [], laidByText := true, laidKinds := [.sentinel, .sentinel, .sentinel, .mapped, .mapped, .mapped], laidTests := true, laidLooks := .later }
def FnExactRunCardSaid : Prop := Claim7.holds Tryz.pinned (.plain (OpenSpec.ofChange fnExactRunSpec)) fnExactRunCard

/-- THE TIED CARD OF 'laws.FnExactDecide'. -/
def fnExactDecideCard : Claim7 := { stood := { row := fnExactDecideRow, standIns := [], harness := (true, "4c414d0fddbeacdea9228f66edaf34b3637c41280084be25b8b2e436fe8bb89c"), looks := true }, kinds := [], alts := [], laidByText := true, laidKinds := [.sentinel, .sentinel, .sentinel, .mapped, .mapped, .mapped], laidTests := true, laidLooks := .later }
def FnExactDecideCardSaid : Prop := Claim7.holds Tryz.pinned (.plain (OpenSpec.ofChange fnExactDecideSpec)) fnExactDecideCard

/-- THE TIED CARD OF 'laws.FnExactOptimize'. -/
def fnExactOptimizeCard : Claim7 := { stood := { row := fnExactOptimizeRow, standIns := [], harness := (true, "4c414d0fddbeacdea9228f66edaf34b3637c41280084be25b8b2e436fe8bb89c"), looks := true }, kinds := [], alts := [], laidByText := true, laidKinds := [.sentinel, .sentinel, .sentinel, .mapped, .mapped, .mapped], laidTests := true, laidLooks := .later }
def FnExactOptimizeCardSaid : Prop := Claim7.holds Tryz.pinned (.plain (OpenSpec.ofChange fnExactOptimizeSpec)) fnExactOptimizeCard

/-- THE SECOND FORM's CARD OF 'laws.FnExactCheck'. -/
def fnExactCheckUptoCard : Claim7 := { stood := { row := fnExactCheckUptoRow, standIns := [], harness := (true, "4c414d0fddbeacdea9228f66edaf34b3637c41280084be25b8b2e436fe8bb89c"), looks := true }, kinds := [], alts := [], laidByText := true, laidKinds := [.handle, .mapped, .mapped], laidTests := true, laidLooks := .later }
def FnExactCheckUptoCardSaid : Prop := Claim7.holds Tryz.pinned (.plain (OpenSpec.upto fnExactCheckSpec)) fnExactCheckUptoCard

/-- THE SECOND FORM's CARD OF 'laws.FnExactRun'. -/
def fnExactRunUptoCard : Claim7 := { stood := { row := fnExactRunUptoRow, standIns := [], harness := (true, "4c414d0fddbeacdea9228f66edaf34b3637c41280084be25b8b2e436fe8bb89c"), looks := true }, kinds := [], alts := [], laidByText := true, laidKinds := [.sentinel, .sentinel, .sentinel, .mapped, .mapped, .mapped], laidTests := true, laidLooks := .later }
def FnExactRunUptoCardSaid : Prop := Claim7.holds Tryz.pinned (.plain (OpenSpec.upto fnExactRunSpec)) fnExactRunUptoCard

/-- THE SECOND FORM's CARD OF 'laws.FnExactDecide'. -/
def fnExactDecideUptoCard : Claim7 := { stood := { row := fnExactDecideUptoRow, standIns := [], harness := (true, "4c414d0fddbeacdea9228f66edaf34b3637c41280084be25b8b2e436fe8bb89c"), looks := true }, kinds := [], alts := [], laidByText := true, laidKinds := [.sentinel, .sentinel, .sentinel, .mapped, .mapped, .mapped], laidTests := true, laidLooks := .later }
def FnExactDecideUptoCardSaid : Prop := Claim7.holds Tryz.pinned (.plain (OpenSpec.upto fnExactDecideSpec)) fnExactDecideUptoCard

/-- THE SECOND FORM's CARD OF 'laws.FnExactOptimize'. -/
def fnExactOptimizeUptoCard : Claim7 := { stood := { row := fnExactOptimizeUptoRow, standIns := [], harness := (true, "4c414d0fddbeacdea9228f66edaf34b3637c41280084be25b8b2e436fe8bb89c"), looks := true }, kinds := [], alts := [], laidByText := true, laidKinds := [.sentinel, .sentinel, .sentinel, .mapped, .mapped, .mapped], laidTests := true, laidLooks := .later }
def FnExactOptimizeUptoCardSaid : Prop := Claim7.holds Tryz.pinned (.plain (OpenSpec.upto fnExactOptimizeSpec)) fnExactOptimizeUptoCard
end Rows
end Go.Proofs.YtgnjkdkedjljjaaGreatDoor
