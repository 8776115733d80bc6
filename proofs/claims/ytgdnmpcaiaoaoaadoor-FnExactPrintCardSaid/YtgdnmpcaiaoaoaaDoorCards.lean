/-
  DERIVED. GIVEN WITH THE SEED: THE CARDS: each row of YtgdnmpcaiaoaoaaDoorRows.lean that lists a variable, with what it lists TIED to the program's text (the seventh form; the later family's looks); each row that meets fmt, with fmt's text TOLD by the authors' own Lean function (tested against real Go, not proved from fmt's source: count such statements apart). THE CARD IS WHAT COUNTS. Prove the row's statement (the work); the ties are given (YtgdnmpcaiaoaoaaDoorTie.lean); close each card by the builder's one call (the guide's Derived/Test/ToyasCard.lean, 'card_holds'). Laid BY PROGRAM, IN A SANDBOX (cutbox-door.mjs). By AI agents, Wed Nov 11 2026. No macro, syntax, notation, axiom, sorry.
-/
import Derived.Test.YtgdnmpcaiaoaoaaDoorRows
import GoSem.ClaimSeven
namespace Go.Proofs.YtgdnmpcaiaoaoaaDoor
namespace Rows

/-- THE TIED CARD OF 'laws.FnExactPrint'. -/
def fnExactPrintCard : Claim7 := { stood := { row := fnExactPrintRow, standIns := [], harness := (true, "60584dceb6b66123daf9c6bf16ab0e85eb4de62513796c74d09f3678dddf2732"), looks := true }, kinds := [], alts := [], laidByText := true, laidKinds := [.data, .data, .data, .mapped, .mapped, .mapped], laidTests := true, laidLooks := .later }
def FnExactPrintCardSaid : Prop := Claim7.holds Tryd.pinned (.plain (OpenSpec.ofChange fnExactPrintSpec)) fnExactPrintCard

/-- THE SECOND FORM's CARD OF 'laws.FnExactPrint'. -/
def fnExactPrintUptoCard : Claim7 := { stood := { row := fnExactPrintUptoRow, standIns := [], harness := (true, "60584dceb6b66123daf9c6bf16ab0e85eb4de62513796c74d09f3678dddf2732"), looks := true }, kinds := [], alts := [], laidByText := true, laidKinds := [.data, .data, .data, .mapped, .mapped, .mapped], laidTests := true, laidLooks := .later }
def FnExactPrintUptoCardSaid : Prop := Claim7.holds Tryd.pinned (.plain (OpenSpec.upto fnExactPrintSpec)) fnExactPrintUptoCard
end Rows
end Go.Proofs.YtgdnmpcaiaoaoaaDoor
