/-
  DERIVED. GIVEN WITH THE SEED: THE CARDS: each row of YtjaejonnbhdddaaGreatDoorRows.lean that lists a variable, with what it lists TIED to the program's text (the seventh form; the later family's looks); each row that meets fmt, with fmt's text TOLD by the authors' own Lean function (tested against real Go, not proved from fmt's source: count such statements apart). THE CARD IS WHAT COUNTS. Prove the row's statement (the work); the ties are given (YtjaejonnbhdddaaGreatDoorTie.lean); close each card by the builder's one call (the guide's Derived/Test/ToyasCard.lean, 'card_holds'). Laid BY PROGRAM, IN A SANDBOX (cutbox-door.mjs). By AI agents, Wed Nov 11 2026. No macro, syntax, notation, axiom, sorry.
-/
import Derived.Test.YtjaejonnbhdddaaGreatDoorRows
import GoSem.ClaimSeven
namespace Go.Proofs.YtjaejonnbhdddaaGreatDoor
namespace Rows

/-- THE TIED CARD OF 'laws.FnAsks'. -/
def fnAsksCard : Claim7 := { stood := { row := fnAsksRow, standIns := [], harness := (true, "da2b513c06abd7bf9f9107bb4d8d8aaa0fd1c632d36049e5debafa8d9af94d41"), looks := true }, kinds := [], alts := [], laidByText := true, laidKinds := [.data, .data, .data, .data, .sentinel, .sentinel, .pinned], laidTests := true, laidLooks := .later }
def FnAsksCardSaid : Prop := Claim7.holds Tryz.pinned (.plain (OpenSpec.ofChange fnAsksSpec)) fnAsksCard

/-- THE SECOND FORM's CARD OF 'laws.FnAsks'. -/
def fnAsksUptoCard : Claim7 := { stood := { row := fnAsksUptoRow, standIns := [], harness := (true, "da2b513c06abd7bf9f9107bb4d8d8aaa0fd1c632d36049e5debafa8d9af94d41"), looks := true }, kinds := [], alts := [], laidByText := true, laidKinds := [.data, .data, .data, .data, .sentinel, .sentinel, .pinned], laidTests := true, laidLooks := .later }
def FnAsksUptoCardSaid : Prop := Claim7.holds Tryz.pinned (.plain (OpenSpec.upto fnAsksSpec)) fnAsksUptoCard
end Rows
end Go.Proofs.YtjaejonnbhdddaaGreatDoor
