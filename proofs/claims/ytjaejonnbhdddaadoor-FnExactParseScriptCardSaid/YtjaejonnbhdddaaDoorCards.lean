/-
  DERIVED. GIVEN WITH THE SEED: THE CARDS: each row of YtjaejonnbhdddaaDoorRows.lean that lists a variable, with what it lists TIED to the program's text (the seventh form; the later family's looks); each row that meets fmt, with fmt's text TOLD by the authors' own Lean function (tested against real Go, not proved from fmt's source: count such statements apart). THE CARD IS WHAT COUNTS. Prove the row's statement (the work); the ties are given (YtjaejonnbhdddaaDoorTie.lean); close each card by the builder's one call (the guide's Derived/Test/ToyasCard.lean, 'card_holds'). Laid BY PROGRAM, IN A SANDBOX (cutbox-door.mjs). By AI agents, Wed Nov 11 2026. No macro, syntax, notation, axiom, sorry.
-/
import Derived.Test.YtjaejonnbhdddaaDoorRows
import GoSem.ClaimSeven
namespace Go.Proofs.YtjaejonnbhdddaaDoor
namespace Rows

/-- THE TIED CARD OF 'laws.FnSets'. -/
def fnSetsCard : Claim7 := { stood := { row := fnSetsRow, standIns := [], harness := (true, "b90e3099244bbee0716d1c1c176ea9f6fa1733e2467bdf7eec514eac950aed4f"), looks := true }, kinds := [], alts := [], laidByText := true, laidKinds := [.sentinel, .sentinel, .sentinel], laidTests := true, laidLooks := .later }
def FnSetsCardSaid : Prop := Claim7.holds Tryd.pinned (.plain (OpenSpec.ofChange fnSetsSpec)) fnSetsCard

/-- THE TIED CARD OF 'laws.FnExactParseScript'. -/
def fnExactParseScriptCard : Claim7 := { stood := { row := fnExactParseScriptRow, standIns := [], harness := (true, "b90e3099244bbee0716d1c1c176ea9f6fa1733e2467bdf7eec514eac950aed4f"), looks := true }, kinds := [], alts := [], laidByText := true, laidKinds := [.data, .data, .data, .data, .sentinel, .sentinel, .pinned], laidTests := true, laidLooks := .later }
def FnExactParseScriptCardSaid : Prop := Claim7.holds Tryd.pinned (.plain (OpenSpec.ofChange fnExactParseScriptSpec)) fnExactParseScriptCard

/-- THE TIED CARD OF 'laws.FnExactParseAsk'. -/
def fnExactParseAskCard : Claim7 := { stood := { row := fnExactParseAskRow, standIns := [], harness := (true, "b90e3099244bbee0716d1c1c176ea9f6fa1733e2467bdf7eec514eac950aed4f"), looks := true }, kinds := [], alts := [], laidByText := true, laidKinds := [.data, .data, .data, .data, .sentinel, .sentinel, .pinned], laidTests := true, laidLooks := .later }
def FnExactParseAskCardSaid : Prop := Claim7.holds Tryd.pinned (.plain (OpenSpec.ofChange fnExactParseAskSpec)) fnExactParseAskCard

/-- THE SECOND FORM's CARD OF 'laws.FnSets'. -/
def fnSetsUptoCard : Claim7 := { stood := { row := fnSetsUptoRow, standIns := [], harness := (true, "b90e3099244bbee0716d1c1c176ea9f6fa1733e2467bdf7eec514eac950aed4f"), looks := true }, kinds := [], alts := [], laidByText := true, laidKinds := [.sentinel, .sentinel, .sentinel], laidTests := true, laidLooks := .later }
def FnSetsUptoCardSaid : Prop := Claim7.holds Tryd.pinned (.plain (OpenSpec.upto fnSetsSpec)) fnSetsUptoCard

/-- THE SECOND FORM's CARD OF 'laws.FnExactParseScript'. -/
def fnExactParseScriptUptoCard : Claim7 := { stood := { row := fnExactParseScriptUptoRow, standIns := [], harness := (true, "b90e3099244bbee0716d1c1c176ea9f6fa1733e2467bdf7eec514eac950aed4f"), looks := true }, kinds := [], alts := [], laidByText := true, laidKinds := [.data, .data, .data, .data, .sentinel, .sentinel, .pinned], laidTests := true, laidLooks := .later }
def FnExactParseScriptUptoCardSaid : Prop := Claim7.holds Tryd.pinned (.plain (OpenSpec.upto fnExactParseScriptSpec)) fnExactParseScriptUptoCard

/-- THE SECOND FORM's CARD OF 'laws.FnExactParseAsk'. -/
def fnExactParseAskUptoCard : Claim7 := { stood := { row := fnExactParseAskUptoRow, standIns := [], harness := (true, "b90e3099244bbee0716d1c1c176ea9f6fa1733e2467bdf7eec514eac950aed4f"), looks := true }, kinds := [], alts := [], laidByText := true, laidKinds := [.data, .data, .data, .data, .sentinel, .sentinel, .pinned], laidTests := true, laidLooks := .later }
def FnExactParseAskUptoCardSaid : Prop := Claim7.holds Tryd.pinned (.plain (OpenSpec.upto fnExactParseAskSpec)) fnExactParseAskUptoCard
end Rows
end Go.Proofs.YtjaejonnbhdddaaDoor
