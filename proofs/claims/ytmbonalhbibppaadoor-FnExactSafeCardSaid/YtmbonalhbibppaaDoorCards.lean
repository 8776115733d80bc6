/-
  DERIVED. GIVEN WITH THE SEED: THE CARDS: each row of YtmbonalhbibppaaDoorRows.lean that lists a variable, with what it lists TIED to the program's text (the seventh form; the later family's looks); each row that meets fmt, with fmt's text TOLD by the authors' own Lean function (tested against real Go, not proved from fmt's source: count such statements apart). THE CARD IS WHAT COUNTS. Prove the row's statement (the work); the ties are given (YtmbonalhbibppaaDoorTie.lean); close each card by the builder's one call (the guide's Derived/Test/ToyasCard.lean, 'card_holds'). Laid BY PROGRAM, IN A SANDBOX (cutbox-door.mjs). By AI agents, Wed Nov 11 2026. No macro, syntax, notation, axiom, sorry.
-/
import Derived.Test.YtmbonalhbibppaaDoorRows
import GoSem.ClaimSeven
namespace Go.Proofs.YtmbonalhbibppaaDoor
namespace Rows

/-- THE TIED CARD OF 'laws.FnExactValidPolicy'. -/
def fnExactValidPolicyCard : Claim7 := { stood := { row := fnExactValidPolicyRow, standIns := [], harness := (true, "8c6f60545359395145a2da8ccb72832c58bc6ffff5c48c35fd90c1b6eb179055"), looks := true }, kinds := [], alts := [], laidByText := true, laidKinds := [.mapped, .mapped], laidTests := true, laidLooks := .later }
def FnExactValidPolicyCardSaid : Prop := Claim7.holds Tryd.pinned (.plain (OpenSpec.ofChange fnExactValidPolicySpec)) fnExactValidPolicyCard

/-- THE TIED CARD OF 'laws.FnExactVerify'. -/
def fnExactVerifyCard : Claim7 := { stood := { row := fnExactVerifyRow, standIns := [], harness := (true, "8c6f60545359395145a2da8ccb72832c58bc6ffff5c48c35fd90c1b6eb179055"), looks := true }, kinds := [], alts := [], laidByText := true, laidKinds := [.mapped, .mapped], laidTests := true, laidLooks := .later }
def FnExactVerifyCardSaid : Prop := Claim7.holds Tryd.pinned (.plain (OpenSpec.ofChange fnExactVerifySpec)) fnExactVerifyCard

/-- THE TIED CARD OF 'laws.FnExactWellTyped'. -/
def fnExactWellTypedCard : Claim7 := { stood := { row := fnExactWellTypedRow, standIns := [], harness := (true, "8c6f60545359395145a2da8ccb72832c58bc6ffff5c48c35fd90c1b6eb179055"), looks := true }, kinds := [], alts := [], laidByText := true, laidKinds := [.mapped, .mapped], laidTests := true, laidLooks := .later }
def FnExactWellTypedCardSaid : Prop := Claim7.holds Tryd.pinned (.plain (OpenSpec.ofChange fnExactWellTypedSpec)) fnExactWellTypedCard

/-- THE TIED CARD OF 'laws.FnExactScan'. -/
def fnExactScanCard : Claim7 := { stood := { row := fnExactScanRow, standIns := [], harness := (true, "8c6f60545359395145a2da8ccb72832c58bc6ffff5c48c35fd90c1b6eb179055"), looks := true }, kinds := [], alts := [], laidByText := true, laidKinds := [.data, .data, .data, .handle, .sentinel, .sentinel, .sentinel, .sentinel, .sentinel, .sentinel, .sentinel, .mapped], laidTests := true, laidLooks := .later }
def FnExactScanCardSaid : Prop := Claim7.holds Tryd.pinned (.plain (OpenSpec.ofChange fnExactScanSpec)) fnExactScanCard

/-- THE TIED CARD OF 'laws.FnExactSafe'. -/
def fnExactSafeCard : Claim7 := { stood := { row := fnExactSafeRow, standIns := [], harness := (true, "8c6f60545359395145a2da8ccb72832c58bc6ffff5c48c35fd90c1b6eb179055"), looks := true }, kinds := [], alts := [], laidByText := true, laidKinds := [.mapped, .mapped], laidTests := true, laidLooks := .later }
def FnExactSafeCardSaid : Prop := Claim7.holds Tryd.pinned (.plain (OpenSpec.ofChange fnExactSafeSpec)) fnExactSafeCard

/-- THE SECOND FORM's CARD OF 'laws.FnExactValidPolicy'. -/
def fnExactValidPolicyUptoCard : Claim7 := { stood := { row := fnExactValidPolicyUptoRow, standIns := [], harness := (true, "8c6f60545359395145a2da8ccb72832c58bc6ffff5c48c35fd90c1b6eb179055"), looks := true }, kinds := [], alts := [], laidByText := true, laidKinds := [.mapped, .mapped], laidTests := true, laidLooks := .later }
def FnExactValidPolicyUptoCardSaid : Prop := Claim7.holds Tryd.pinned (.plain (OpenSpec.upto fnExactValidPolicySpec)) fnExactValidPolicyUptoCard

/-- THE SECOND FORM's CARD OF 'laws.FnExactVerify'. -/
def fnExactVerifyUptoCard : Claim7 := { stood := { row := fnExactVerifyUptoRow, standIns := [], harness := (true, "8c6f60545359395145a2da8ccb72832c58bc6ffff5c48c35fd90c1b6eb179055"), looks := true }, kinds := [], alts := [], laidByText := true, laidKinds := [.mapped, .mapped], laidTests := true, laidLooks := .later }
def FnExactVerifyUptoCardSaid : Prop := Claim7.holds Tryd.pinned (.plain (OpenSpec.upto fnExactVerifySpec)) fnExactVerifyUptoCard

/-- THE SECOND FORM's CARD OF 'laws.FnExactWellTyped'. -/
def fnExactWellTypedUptoCard : Claim7 := { stood := { row := fnExactWellTypedUptoRow, standIns := [], harness := (true, "8c6f60545359395145a2da8ccb72832c58bc6ffff5c48c35fd90c1b6eb179055"), looks := true }, kinds := [], alts := [], laidByText := true, laidKinds := [.mapped, .mapped], laidTests := true, laidLooks := .later }
def FnExactWellTypedUptoCardSaid : Prop := Claim7.holds Tryd.pinned (.plain (OpenSpec.upto fnExactWellTypedSpec)) fnExactWellTypedUptoCard

/-- THE SECOND FORM's CARD OF 'laws.FnExactScan'. -/
def fnExactScanUptoCard : Claim7 := { stood := { row := fnExactScanUptoRow, standIns := [], harness := (true, "8c6f60545359395145a2da8ccb72832c58bc6ffff5c48c35fd90c1b6eb179055"), looks := true }, kinds := [], alts := [], laidByText := true, laidKinds := [.data, .data, .data, .handle, .sentinel, .sentinel, .sentinel, .sentinel, .sentinel, .sentinel, .sentinel, .mapped], laidTests := true, laidLooks := .later }
def FnExactScanUptoCardSaid : Prop := Claim7.holds Tryd.pinned (.plain (OpenSpec.upto fnExactScanSpec)) fnExactScanUptoCard

/-- THE SECOND FORM's CARD OF 'laws.FnExactSafe'. -/
def fnExactSafeUptoCard : Claim7 := { stood := { row := fnExactSafeUptoRow, standIns := [], harness := (true, "8c6f60545359395145a2da8ccb72832c58bc6ffff5c48c35fd90c1b6eb179055"), looks := true }, kinds := [], alts := [], laidByText := true, laidKinds := [.mapped, .mapped], laidTests := true, laidLooks := .later }
def FnExactSafeUptoCardSaid : Prop := Claim7.holds Tryd.pinned (.plain (OpenSpec.upto fnExactSafeSpec)) fnExactSafeUptoCard
end Rows
end Go.Proofs.YtmbonalhbibppaaDoor
