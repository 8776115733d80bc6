/-
  DERIVED. GIVEN WITH THE SEED: THE CARDS: each row of YtkedmcebngachaaGreatDoorRows.lean that lists a variable, with what it lists TIED to the program's text (the seventh form; the later family's looks); each row that meets fmt, with fmt's text TOLD by the authors' own Lean function (tested against real Go, not proved from fmt's source: count such statements apart). THE CARD IS WHAT COUNTS. Prove the row's statement (the work); the ties are given (YtkedmcebngachaaGreatDoorTie.lean); close each card by the builder's one call (the guide's Derived/Test/ToyasCard.lean, 'card_holds'). Laid BY PROGRAM, IN A SANDBOX (cutbox-door.mjs). By AI agents, Wed Nov 11 2026. No macro, syntax, notation, axiom, sorry.
-/
import Derived.Test.YtkedmcebngachaaGreatDoorRows
import GoSem.ClaimSeven
namespace Go.Proofs.YtkedmcebngachaaGreatDoor
namespace Rows

/-- THE TIED CARD OF 'laws.FnExactRun'. -/
def fnExactRunCard : Claim7 := { stood := { row := fnExactRunRow, standIns := [], harness := (true, "4acfad3590a19c5ba8979b48e3eea8c685efe8f362bf030ee8736b9a041f17b6"), looks := true }, kinds := [], alts := [], laidByText := true, laidKinds := [.sentinel, .sentinel, .sentinel, .mapped, .mapped, .mapped], laidTests := true, laidLooks := .later }
def FnExactRunCardSaid : Prop := Claim7.holds Tryz.pinned (.plain (OpenSpec.ofChange fnExactRunSpec)) fnExactRunCard

/-- THE TIED CARD OF 'laws.FnExactOptimize'. -/
def fnExactOptimizeCard : Claim7 := { stood := { row := fnExactOptimizeRow, standIns := [], harness := (true, "4acfad3590a19c5ba8979b48e3eea8c685efe8f362bf030ee8736b9a041f17b6"), looks := true }, kinds := [], alts := [], laidByText := true, laidKinds := [.sentinel, .sentinel, .sentinel, .mapped, .mapped, .mapped], laidTests := true, laidLooks := .later }
def FnExactOptimizeCardSaid : Prop := Claim7.holds Tryz.pinned (.plain (OpenSpec.ofChange fnExactOptimizeSpec)) fnExactOptimizeCard

/-- THE TIED CARD OF 'laws.FnOptimized'. -/
def fnOptimizedCard : Claim7 := { stood := { row := fnOptimizedRow, standIns := [], harness := (true, "4acfad3590a19c5ba8979b48e3eea8c685efe8f362bf030ee8736b9a041f17b6"), looks := true }, kinds := [], alts := [], laidByText := true, laidKinds := [.sentinel, .sentinel, .sentinel, .mapped, .mapped, .mapped], laidTests := true, laidLooks := .later }
def FnOptimizedCardSaid : Prop := Claim7.holds Tryz.pinned (.plain (OpenSpec.ofChange fnOptimizedSpec)) fnOptimizedCard

/-- THE SECOND FORM's CARD OF 'laws.FnExactRun'. -/
def fnExactRunUptoCard : Claim7 := { stood := { row := fnExactRunUptoRow, standIns := [], harness := (true, "4acfad3590a19c5ba8979b48e3eea8c685efe8f362bf030ee8736b9a041f17b6"), looks := true }, kinds := [], alts := [], laidByText := true, laidKinds := [.sentinel, .sentinel, .sentinel, .mapped, .mapped, .mapped], laidTests := true, laidLooks := .later }
def FnExactRunUptoCardSaid : Prop := Claim7.holds Tryz.pinned (.plain (OpenSpec.upto fnExactRunSpec)) fnExactRunUptoCard

/-- THE SECOND FORM's CARD OF 'laws.FnExactOptimize'. -/
def fnExactOptimizeUptoCard : Claim7 := { stood := { row := fnExactOptimizeUptoRow, standIns := [], harness := (true, "4acfad3590a19c5ba8979b48e3eea8c685efe8f362bf030ee8736b9a041f17b6"), looks := true }, kinds := [], alts := [], laidByText := true, laidKinds := [.sentinel, .sentinel, .sentinel, .mapped, .mapped, .mapped], laidTests := true, laidLooks := .later }
def FnExactOptimizeUptoCardSaid : Prop := Claim7.holds Tryz.pinned (.plain (OpenSpec.upto fnExactOptimizeSpec)) fnExactOptimizeUptoCard

/-- THE SECOND FORM's CARD OF 'laws.FnOptimized'. -/
def fnOptimizedUptoCard : Claim7 := { stood := { row := fnOptimizedUptoRow, standIns := [], harness := (true, "4acfad3590a19c5ba8979b48e3eea8c685efe8f362bf030ee8736b9a041f17b6"), looks := true }, kinds := [], alts := [], laidByText := true, laidKinds := [.sentinel, .sentinel, .sentinel, .mapped, .mapped, .mapped], laidTests := true, laidLooks := .later }
def FnOptimizedUptoCardSaid : Prop := Claim7.holds Tryz.pinned (.plain (OpenSpec.upto fnOptimizedSpec)) fnOptimizedUptoCard
end Rows
end Go.Proofs.YtkedmcebngachaaGreatDoor
