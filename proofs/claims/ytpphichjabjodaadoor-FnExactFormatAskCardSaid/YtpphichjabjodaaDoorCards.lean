/-
  DERIVED. GIVEN WITH THE SEED: THE CARDS: each row of YtpphichjabjodaaDoorRows.lean that lists a variable, with what it lists TIED to the program's text (the seventh form; the later family's looks); each row that meets fmt, with fmt's text TOLD by the authors' own Lean function (tested against real Go, not proved from fmt's source: count such statements apart). THE CARD IS WHAT COUNTS. Prove the row's statement (the work); the ties are given (YtpphichjabjodaaDoorTie.lean); close each card by the builder's one call (the guide's Derived/Test/ToyasCard.lean, 'card_holds'). Laid BY PROGRAM, IN A SANDBOX (cutbox-door.mjs). By AI agents, Wed Nov 11 2026. No macro, syntax, notation, axiom, sorry.
-/
import Derived.Test.YtpphichjabjodaaDoorRows
import GoSem.ClaimSeven
namespace Go.Proofs.YtpphichjabjodaaDoor
namespace Rows

/-- THE TIED CARD OF 'laws.FnExactCalc'. -/
def fnExactCalcCard : Claim7 := { stood := { row := fnExactCalcRow, standIns := [], harness := (true, "70bee3e99e82c03002aadd03b01b1f257afa79bb382df9cde41983a02deac652"), looks := true }, kinds := [], alts := [], laidByText := true, laidKinds := [.sentinel, .sentinel, .sentinel], laidTests := true, laidLooks := .later }
def FnExactCalcCardSaid : Prop := Claim7.holds Tryd.pinned (.plain (OpenSpec.ofChange fnExactCalcSpec)) fnExactCalcCard

/-- THE TIED CARD OF 'laws.FnNumbers'. -/
def fnNumbersCard : Claim7 := { stood := { row := fnNumbersRow, standIns := [], harness := (true, "70bee3e99e82c03002aadd03b01b1f257afa79bb382df9cde41983a02deac652"), looks := true }, kinds := [], alts := [], laidByText := true, laidKinds := [.sentinel, .sentinel, .sentinel], laidTests := true, laidLooks := .later }
def FnNumbersCardSaid : Prop := Claim7.holds Tryd.pinned (.plain (OpenSpec.ofChange fnNumbersSpec)) fnNumbersCard

/-- THE TIED CARD OF 'laws.FnExactUnion'. -/
def fnExactUnionCard : Claim7 := { stood := { row := fnExactUnionRow, standIns := [], harness := (true, "70bee3e99e82c03002aadd03b01b1f257afa79bb382df9cde41983a02deac652"), looks := true }, kinds := [], alts := [], laidByText := true, laidKinds := [.sentinel, .sentinel, .sentinel], laidTests := true, laidLooks := .later }
def FnExactUnionCardSaid : Prop := Claim7.holds Tryd.pinned (.plain (OpenSpec.ofChange fnExactUnionSpec)) fnExactUnionCard

/-- THE TIED CARD OF 'laws.FnExactFormatAsk'. -/
def fnExactFormatAskCard : Claim7 := { stood := { row := fnExactFormatAskRow, standIns := [], harness := (true, "70bee3e99e82c03002aadd03b01b1f257afa79bb382df9cde41983a02deac652"), looks := true }, kinds := [], alts := [], laidByText := true, laidKinds := [.data, .data, .data], laidTests := true, laidLooks := .later }
def FnExactFormatAskCardSaid : Prop := Claim7.holds Tryd.pinned (.plain (OpenSpec.ofChange fnExactFormatAskSpec)) fnExactFormatAskCard

/-- THE SECOND FORM's CARD OF 'laws.FnExactCalc'. -/
def fnExactCalcUptoCard : Claim7 := { stood := { row := fnExactCalcUptoRow, standIns := [], harness := (true, "70bee3e99e82c03002aadd03b01b1f257afa79bb382df9cde41983a02deac652"), looks := true }, kinds := [], alts := [], laidByText := true, laidKinds := [.sentinel, .sentinel, .sentinel], laidTests := true, laidLooks := .later }
def FnExactCalcUptoCardSaid : Prop := Claim7.holds Tryd.pinned (.plain (OpenSpec.upto fnExactCalcSpec)) fnExactCalcUptoCard

/-- THE SECOND FORM's CARD OF 'laws.FnNumbers'. -/
def fnNumbersUptoCard : Claim7 := { stood := { row := fnNumbersUptoRow, standIns := [], harness := (true, "70bee3e99e82c03002aadd03b01b1f257afa79bb382df9cde41983a02deac652"), looks := true }, kinds := [], alts := [], laidByText := true, laidKinds := [.sentinel, .sentinel, .sentinel], laidTests := true, laidLooks := .later }
def FnNumbersUptoCardSaid : Prop := Claim7.holds Tryd.pinned (.plain (OpenSpec.upto fnNumbersSpec)) fnNumbersUptoCard

/-- THE SECOND FORM's CARD OF 'laws.FnExactUnion'. -/
def fnExactUnionUptoCard : Claim7 := { stood := { row := fnExactUnionUptoRow, standIns := [], harness := (true, "70bee3e99e82c03002aadd03b01b1f257afa79bb382df9cde41983a02deac652"), looks := true }, kinds := [], alts := [], laidByText := true, laidKinds := [.sentinel, .sentinel, .sentinel], laidTests := true, laidLooks := .later }
def FnExactUnionUptoCardSaid : Prop := Claim7.holds Tryd.pinned (.plain (OpenSpec.upto fnExactUnionSpec)) fnExactUnionUptoCard

/-- THE SECOND FORM's CARD OF 'laws.FnExactFormatAsk'. -/
def fnExactFormatAskUptoCard : Claim7 := { stood := { row := fnExactFormatAskUptoRow, standIns := [], harness := (true, "70bee3e99e82c03002aadd03b01b1f257afa79bb382df9cde41983a02deac652"), looks := true }, kinds := [], alts := [], laidByText := true, laidKinds := [.data, .data, .data], laidTests := true, laidLooks := .later }
def FnExactFormatAskUptoCardSaid : Prop := Claim7.holds Tryd.pinned (.plain (OpenSpec.upto fnExactFormatAskSpec)) fnExactFormatAskUptoCard
end Rows
end Go.Proofs.YtpphichjabjodaaDoor
