/-
  No cell of these rows narrows 'for every input' (looked for: loops, veiled, ifaces, maps, wideKeys, modest, calm, conditions, laid).
  DERIVED. THE GIVEN ROWS OF THIS SEAT. 8 by the template 'for every input the law returns true; each argument reads behind the call as it read before'; 0 by the template 'total and deterministic' (their statements: YtpphichjabjodaaTotals.lean).
  GIVEN WITH THE SEED: the statements are not yours to turn. If you find one false, say at which input.
  Laid BY PROGRAM, IN A SANDBOX (cutbox-rows.mjs): the forced cells as the released guide's own fill.sh prints them over the translation 6ae4a8893fef06fc… (all of the seat's roots in one cut). By AI agents, Wed Nov 11 2026. No macro, syntax, notation, axiom, sorry.
-/
import Derived.Test.YtpphichjabjodaaChecked
import GoSem.Claim
import GoSem.ClaimJoined
import GoSem.ClaimMapViews
import Derived.JoinedTies
import Derived.KernelRfl
namespace Go.Proofs.Ytpphichjabjodaa
/- THE CELL 'sum', in the pinned program and in every row, IS THE sha256 OF THE DUMP (.gsa) THAT YtpphichjabjodaaProg.lean LOADS. Nothing in Lean hashes anything: it is a label: what it is worth is what the hold of that sum in a sandbox is worth. -/
noncomputable def Try.pinned : Pinned := { name := "ytpphichjabjodaa", sum := "6ae4a8893fef06fca7ba7096bedfb9a0dfaa1185c62d47b73443c0dccf42778e", checked := Try.checked }
namespace Rows
def none {H : Type} : Left H := { results := [], args := [] }

/-- 'laws.FnExactConstants': WHATEVER THE INPUT: true; the input reads as it did. -/
def fnExactConstantsSpec : ChangeSpec := { name := "fnExactConstants", fn := fun _ => fun
  | [] => { results := [.lit (.bool true)], args := [] }
  | _ => none }
def fnExactConstantsRow : OpenClaim := { program := "ytpphichjabjodaa", sum := "6ae4a8893fef06fca7ba7096bedfb9a0dfaa1185c62d47b73443c0dccf42778e", func := "loop.example/s01308/laws.FnExactConstants", spec := "fnExactConstants", apart := false }
def FnExactConstantsSaid : Prop := fnExactConstantsRow.holds Try.pinned (OpenSpec.ofChange fnExactConstantsSpec)

/-- ITS FALSE NEIGHBOUR: 'it returns false'. Refute it at one input. -/
def fnExactConstantsWrong : ChangeSpec := { name := "fnExactConstants", fn := fun _ => fun
  | [] => { results := [.lit (.bool false)], args := [] }
  | _ => none }
def FnExactConstantsWrongFalsely : Prop := fnExactConstantsRow.holds Try.pinned (OpenSpec.ofChange fnExactConstantsWrong)

/-- 'laws.FnExactValidName': WHATEVER THE INPUT: true; the input reads as it did. -/
def fnExactValidNameSpec : ChangeSpec := { name := "fnExactValidName", fn := fun _ => fun
  | [d] => { results := [.lit (.bool true)], args := [d] }
  | _ => none }
def fnExactValidNameRow : OpenClaim := { program := "ytpphichjabjodaa", sum := "6ae4a8893fef06fca7ba7096bedfb9a0dfaa1185c62d47b73443c0dccf42778e", func := "loop.example/s01308/laws.FnExactValidName", spec := "fnExactValidName", apart := false }
def FnExactValidNameSaid : Prop := fnExactValidNameRow.holds Try.pinned (OpenSpec.ofChange fnExactValidNameSpec)

/-- ITS FALSE NEIGHBOUR: 'it returns false'. Refute it at one input. -/
def fnExactValidNameWrong : ChangeSpec := { name := "fnExactValidName", fn := fun _ => fun
  | [d] => { results := [.lit (.bool false)], args := [d] }
  | _ => none }
def FnExactValidNameWrongFalsely : Prop := fnExactValidNameRow.holds Try.pinned (OpenSpec.ofChange fnExactValidNameWrong)

/-- 'laws.FnExactIsSet': WHATEVER THE INPUT: true; the input reads as it did. -/
def fnExactIsSetSpec : ChangeSpec := { name := "fnExactIsSet", fn := fun _ => fun
  | [d] => { results := [.lit (.bool true)], args := [d] }
  | _ => none }
def fnExactIsSetRow : OpenClaim := { program := "ytpphichjabjodaa", sum := "6ae4a8893fef06fca7ba7096bedfb9a0dfaa1185c62d47b73443c0dccf42778e", func := "loop.example/s01308/laws.FnExactIsSet", spec := "fnExactIsSet", apart := false }
def FnExactIsSetSaid : Prop := fnExactIsSetRow.holds Try.pinned (OpenSpec.ofChange fnExactIsSetSpec)

/-- ITS FALSE NEIGHBOUR: 'it returns false'. Refute it at one input. -/
def fnExactIsSetWrong : ChangeSpec := { name := "fnExactIsSet", fn := fun _ => fun
  | [d] => { results := [.lit (.bool false)], args := [d] }
  | _ => none }
def FnExactIsSetWrongFalsely : Prop := fnExactIsSetRow.holds Try.pinned (OpenSpec.ofChange fnExactIsSetWrong)

/-- 'laws.FnExactWithin': WHATEVER THE INPUT: true; the input reads as it did. -/
def fnExactWithinSpec : ChangeSpec := { name := "fnExactWithin", fn := fun _ => fun
  | [d1, d2] => { results := [.lit (.bool true)], args := [d1, d2] }
  | _ => none }
def fnExactWithinRow : OpenClaim := { program := "ytpphichjabjodaa", sum := "6ae4a8893fef06fca7ba7096bedfb9a0dfaa1185c62d47b73443c0dccf42778e", func := "loop.example/s01308/laws.FnExactWithin", spec := "fnExactWithin", unfollowed := true, recurses := true, apart := false }
def FnExactWithinSaid : Prop := fnExactWithinRow.holds Try.pinned (OpenSpec.ofChange fnExactWithinSpec)

/-- ITS FALSE NEIGHBOUR: 'it returns false'. Refute it at one input. -/
def fnExactWithinWrong : ChangeSpec := { name := "fnExactWithin", fn := fun _ => fun
  | [d1, d2] => { results := [.lit (.bool false)], args := [d1, d2] }
  | _ => none }
def FnExactWithinWrongFalsely : Prop := fnExactWithinRow.holds Try.pinned (OpenSpec.ofChange fnExactWithinWrong)

/-- 'laws.FnExactValidRequest': WHATEVER THE INPUT: true; the input reads as it did. -/
def fnExactValidRequestSpec : ChangeSpec := { name := "fnExactValidRequest", fn := fun _ => fun
  | [d] => { results := [.lit (.bool true)], args := [d] }
  | _ => none }
def fnExactValidRequestRow : OpenClaim := { program := "ytpphichjabjodaa", sum := "6ae4a8893fef06fca7ba7096bedfb9a0dfaa1185c62d47b73443c0dccf42778e", func := "loop.example/s01308/laws.FnExactValidRequest", spec := "fnExactValidRequest", apart := false }
def FnExactValidRequestSaid : Prop := fnExactValidRequestRow.holds Try.pinned (OpenSpec.ofChange fnExactValidRequestSpec)

/-- ITS FALSE NEIGHBOUR: 'it returns false'. Refute it at one input. -/
def fnExactValidRequestWrong : ChangeSpec := { name := "fnExactValidRequest", fn := fun _ => fun
  | [d] => { results := [.lit (.bool false)], args := [d] }
  | _ => none }
def FnExactValidRequestWrongFalsely : Prop := fnExactValidRequestRow.holds Try.pinned (OpenSpec.ofChange fnExactValidRequestWrong)

/-- 'laws.FnExactMeet': WHATEVER THE INPUT: true; the input reads as it did. -/
def fnExactMeetSpec : ChangeSpec := { name := "fnExactMeet", fn := fun _ => fun
  | [d1, d2] => { results := [.lit (.bool true)], args := [d1, d2] }
  | _ => none }
def fnExactMeetRow : OpenClaim := { program := "ytpphichjabjodaa", sum := "6ae4a8893fef06fca7ba7096bedfb9a0dfaa1185c62d47b73443c0dccf42778e", func := "loop.example/s01308/laws.FnExactMeet", spec := "fnExactMeet", unfollowed := true, recurses := true, apart := false }
def FnExactMeetSaid : Prop := fnExactMeetRow.holds Try.pinned (OpenSpec.ofChange fnExactMeetSpec)

/-- ITS FALSE NEIGHBOUR: 'it returns false'. Refute it at one input. -/
def fnExactMeetWrong : ChangeSpec := { name := "fnExactMeet", fn := fun _ => fun
  | [d1, d2] => { results := [.lit (.bool false)], args := [d1, d2] }
  | _ => none }
def FnExactMeetWrongFalsely : Prop := fnExactMeetRow.holds Try.pinned (OpenSpec.ofChange fnExactMeetWrong)

/-- 'laws.FnExactMinus': WHATEVER THE INPUT: true; the input reads as it did. -/
def fnExactMinusSpec : ChangeSpec := { name := "fnExactMinus", fn := fun _ => fun
  | [d1, d2] => { results := [.lit (.bool true)], args := [d1, d2] }
  | _ => none }
def fnExactMinusRow : OpenClaim := { program := "ytpphichjabjodaa", sum := "6ae4a8893fef06fca7ba7096bedfb9a0dfaa1185c62d47b73443c0dccf42778e", func := "loop.example/s01308/laws.FnExactMinus", spec := "fnExactMinus", unfollowed := true, recurses := true, apart := false }
def FnExactMinusSaid : Prop := fnExactMinusRow.holds Try.pinned (OpenSpec.ofChange fnExactMinusSpec)

/-- ITS FALSE NEIGHBOUR: 'it returns false'. Refute it at one input. -/
def fnExactMinusWrong : ChangeSpec := { name := "fnExactMinus", fn := fun _ => fun
  | [d1, d2] => { results := [.lit (.bool false)], args := [d1, d2] }
  | _ => none }
def FnExactMinusWrongFalsely : Prop := fnExactMinusRow.holds Try.pinned (OpenSpec.ofChange fnExactMinusWrong)

/-- 'laws.FnExactMakeSet': WHATEVER THE INPUT: true; the input reads as it did. -/
def fnExactMakeSetSpec : ChangeSpec := { name := "fnExactMakeSet", fn := fun _ => fun
  | [d] => { results := [.lit (.bool true)], args := [d] }
  | _ => none }
def fnExactMakeSetRow : OpenClaim := { program := "ytpphichjabjodaa", sum := "6ae4a8893fef06fca7ba7096bedfb9a0dfaa1185c62d47b73443c0dccf42778e", func := "loop.example/s01308/laws.FnExactMakeSet", spec := "fnExactMakeSet", recurses := true, apart := false }
def FnExactMakeSetSaid : Prop := fnExactMakeSetRow.holds Try.pinned (OpenSpec.ofChange fnExactMakeSetSpec)

/-- ITS FALSE NEIGHBOUR: 'it returns false'. Refute it at one input. -/
def fnExactMakeSetWrong : ChangeSpec := { name := "fnExactMakeSet", fn := fun _ => fun
  | [d] => { results := [.lit (.bool false)], args := [d] }
  | _ => none }
def FnExactMakeSetWrongFalsely : Prop := fnExactMakeSetRow.holds Try.pinned (OpenSpec.ofChange fnExactMakeSetWrong)

/- THE SECOND FORM. 'bulk': how many values and letters a reading holds, each counted each time it is reached (what is shared counts as often as it is met; a slice's spare places count too). A statement '..UptoSaid' is the law's where the arguments, and the package variables that the reading takes, are together of bulk at most 1048576: NARROWER than '..Said'. Prove '..Said' where nothing that the law and all that it calls make is longer than what came in: it says more and counts as full. Else prove '..UptoSaid'. A law counts once. -/
mutual
def uptoBulk {H : Type} : DataW H → Nat
  | .lit (.string bytes) => bytes.length + 1
  | .lit _ => 1
  | .nil => 1
  | .ptr d => uptoBulk d + 1
  | .slice elems spare => uptoBulkAll elems + uptoBulkAll spare + 1
  | .agg parts => uptoBulkAll parts + 1
  | .iface _ d => uptoBulk d + 1
  | .map entries => uptoBulkEntries entries + 1
  | .held _ => 1
def uptoBulkAll {H : Type} : List (DataW H) → Nat
  | [] => 0
  | d :: r => uptoBulk d + uptoBulkAll r
def uptoBulkEntries {H : Type} : List (Lit × DataW H) → Nat
  | [] => 0
  | x :: r => uptoBulkEntry x + uptoBulkEntries r
def uptoBulkEntry {H : Type} : Lit × DataW H → Nat
  | (.string bytes, d) => bytes.length + uptoBulk d + 1
  | (_, d) => uptoBulk d + 1
 end
def uptoSmall : (H : Type) → List (DataW H) → Bool := fun _ ds => decide (uptoBulkAll ds ≤ 1048576)
def OpenSpec.upto (s : _root_.Go.ChangeSpec) : _root_.Go.OpenSpec := { _root_.Go.OpenSpec.ofChange s with cond := some uptoSmall }

/-- 'laws.FnExactConstants', WHERE WHAT IT READS IS OF BULK AT MOST 1048576: true; the input reads as it did. -/
def fnExactConstantsUptoRow : OpenClaim := { program := "ytpphichjabjodaa", sum := "6ae4a8893fef06fca7ba7096bedfb9a0dfaa1185c62d47b73443c0dccf42778e", func := "loop.example/s01308/laws.FnExactConstants", spec := "fnExactConstants", apart := false, narrowed := true }
def FnExactConstantsUptoSaid : Prop := fnExactConstantsUptoRow.holds Try.pinned (OpenSpec.upto fnExactConstantsSpec)

/-- 'laws.FnExactValidName', WHERE WHAT IT READS IS OF BULK AT MOST 1048576: true; the input reads as it did. -/
def fnExactValidNameUptoRow : OpenClaim := { program := "ytpphichjabjodaa", sum := "6ae4a8893fef06fca7ba7096bedfb9a0dfaa1185c62d47b73443c0dccf42778e", func := "loop.example/s01308/laws.FnExactValidName", spec := "fnExactValidName", apart := false, narrowed := true }
def FnExactValidNameUptoSaid : Prop := fnExactValidNameUptoRow.holds Try.pinned (OpenSpec.upto fnExactValidNameSpec)

/-- 'laws.FnExactIsSet', WHERE WHAT IT READS IS OF BULK AT MOST 1048576: true; the input reads as it did. -/
def fnExactIsSetUptoRow : OpenClaim := { program := "ytpphichjabjodaa", sum := "6ae4a8893fef06fca7ba7096bedfb9a0dfaa1185c62d47b73443c0dccf42778e", func := "loop.example/s01308/laws.FnExactIsSet", spec := "fnExactIsSet", apart := false, narrowed := true }
def FnExactIsSetUptoSaid : Prop := fnExactIsSetUptoRow.holds Try.pinned (OpenSpec.upto fnExactIsSetSpec)

/-- 'laws.FnExactWithin', WHERE WHAT IT READS IS OF BULK AT MOST 1048576: true; the input reads as it did. -/
def fnExactWithinUptoRow : OpenClaim := { program := "ytpphichjabjodaa", sum := "6ae4a8893fef06fca7ba7096bedfb9a0dfaa1185c62d47b73443c0dccf42778e", func := "loop.example/s01308/laws.FnExactWithin", spec := "fnExactWithin", unfollowed := true, recurses := true, apart := false, narrowed := true }
def FnExactWithinUptoSaid : Prop := fnExactWithinUptoRow.holds Try.pinned (OpenSpec.upto fnExactWithinSpec)

/-- 'laws.FnExactValidRequest', WHERE WHAT IT READS IS OF BULK AT MOST 1048576: true; the input reads as it did. -/
def fnExactValidRequestUptoRow : OpenClaim := { program := "ytpphichjabjodaa", sum := "6ae4a8893fef06fca7ba7096bedfb9a0dfaa1185c62d47b73443c0dccf42778e", func := "loop.example/s01308/laws.FnExactValidRequest", spec := "fnExactValidRequest", apart := false, narrowed := true }
def FnExactValidRequestUptoSaid : Prop := fnExactValidRequestUptoRow.holds Try.pinned (OpenSpec.upto fnExactValidRequestSpec)

/-- 'laws.FnExactMeet', WHERE WHAT IT READS IS OF BULK AT MOST 1048576: true; the input reads as it did. -/
def fnExactMeetUptoRow : OpenClaim := { program := "ytpphichjabjodaa", sum := "6ae4a8893fef06fca7ba7096bedfb9a0dfaa1185c62d47b73443c0dccf42778e", func := "loop.example/s01308/laws.FnExactMeet", spec := "fnExactMeet", unfollowed := true, recurses := true, apart := false, narrowed := true }
def FnExactMeetUptoSaid : Prop := fnExactMeetUptoRow.holds Try.pinned (OpenSpec.upto fnExactMeetSpec)

/-- 'laws.FnExactMinus', WHERE WHAT IT READS IS OF BULK AT MOST 1048576: true; the input reads as it did. -/
def fnExactMinusUptoRow : OpenClaim := { program := "ytpphichjabjodaa", sum := "6ae4a8893fef06fca7ba7096bedfb9a0dfaa1185c62d47b73443c0dccf42778e", func := "loop.example/s01308/laws.FnExactMinus", spec := "fnExactMinus", unfollowed := true, recurses := true, apart := false, narrowed := true }
def FnExactMinusUptoSaid : Prop := fnExactMinusUptoRow.holds Try.pinned (OpenSpec.upto fnExactMinusSpec)

/-- 'laws.FnExactMakeSet', WHERE WHAT IT READS IS OF BULK AT MOST 1048576: true; the input reads as it did. -/
def fnExactMakeSetUptoRow : OpenClaim := { program := "ytpphichjabjodaa", sum := "6ae4a8893fef06fca7ba7096bedfb9a0dfaa1185c62d47b73443c0dccf42778e", func := "loop.example/s01308/laws.FnExactMakeSet", spec := "fnExactMakeSet", recurses := true, apart := false, narrowed := true }
def FnExactMakeSetUptoSaid : Prop := fnExactMakeSetUptoRow.holds Try.pinned (OpenSpec.upto fnExactMakeSetSpec)

end Rows
end Go.Proofs.Ytpphichjabjodaa
