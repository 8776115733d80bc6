/-
  NARROWER THAN 'FOR EVERY INPUT', by the rows' own cells (each row's printed sentence says how): FnExactRun: ifaces, maps, laid · FnExactOptimize: ifaces, maps, laid · FnOptimized: ifaces, maps, laid.
  DERIVED. THE GIVEN ROWS OF THIS SEAT. 3 by the template 'for every input the law returns true; each argument reads behind the call as it read before'; 0 by the template 'total and deterministic' (their statements: YtkedmcebngachaaGreatDoorTotals.lean).
  GIVEN WITH THE SEED: the statements are not yours to turn. If you find one false, say at which input.
  Laid BY PROGRAM, IN A SANDBOX (cutbox-rows.mjs): the forced cells as the released guide's own fill.sh prints them over the translation 8e1b1272532444fe… (all of the seat's roots in one cut). By AI agents, Wed Nov 11 2026. No macro, syntax, notation, axiom, sorry.
-/
import Derived.Test.YtkedmcebngachaaGreatDoorChecked
import GoSem.Claim
import GoSem.ClaimJoined
import GoSem.ClaimMapViews
import Derived.JoinedTies
import Derived.KernelRfl
namespace Go.Proofs.YtkedmcebngachaaGreatDoor
/- THE CELL 'sum', in the pinned program and in every row, IS THE sha256 OF THE DUMP (.gsa) THAT YtkedmcebngachaaGreatDoorProg.lean LOADS. Nothing in Lean hashes anything: it is a label: what it is worth is what the hold of that sum in a sandbox is worth. -/
noncomputable def Tryz.pinned : Pinned := { name := "ytkedmcebngachaagreatdoor", sum := "8e1b1272532444fe073fc0ab9ff48257fc1cb21bf32767c9f0adb52c05cbee1f", checked := Tryz.checked }
namespace Rows
def none {H : Type} : Left H := { results := [], args := [] }

/- WHAT THE LISTED PACKAGE-LEVEL VARIABLES READ AS WHEN THE CALL BEGINS. Each datum BY PROGRAM (the guide's laid-datum.mjs) off the statement by which the dump's own 'gosem.cut.vars' lays the variable. In a bare row this is a premise. The card (YtkedmcebngachaaGreatDoorCards.lean) ties it to the program's text. -/
def laid_loop_example_s01308_impl_errOverflow {H : Type} : DataW H := .iface "*errors.errorString" (.ptr (.agg [.lit (.string [111, 118, 101, 114, 102, 108, 111, 119])]))
def laid_loop_example_s01308_impl_errZero {H : Type} : DataW H := .iface "*errors.errorString" (.ptr (.agg [.lit (.string [100, 105, 118, 105, 115, 105, 111, 110, 32, 98, 121, 32, 122, 101, 114, 111])]))
def laid_loop_example_s01308_impl_errWide {H : Type} : DataW H := .iface "*errors.errorString" (.ptr (.agg [.lit (.string [116, 111, 111, 32, 119, 105, 100, 101])]))
def laid_loop_example_s01308_impl_constOps {H : Type} : DataW H := .map [(.int .i64 1, .lit (.int .i64 3)), (.int .i64 2, .lit (.int .i64 1)), (.int .i64 3, .lit (.int .i64 2)), (.int .i64 4, .lit (.int .i64 4))]
def laid_loop_example_s01308_impl_calcOps {H : Type} : DataW H := .map [(.int .i64 11, .lit (.int .i64 1)), (.int .i64 12, .lit (.int .i64 2)), (.int .i64 13, .lit (.int .i64 3)), (.int .i64 14, .lit (.int .i64 4)), (.int .i64 15, .lit (.int .i64 5))]
def laid_loop_example_s01308_impl_opcodes {H : Type} : DataW H := .map [(.int .i64 8, .lit (.int .i64 5)), (.int .i64 9, .lit (.int .i64 6)), (.int .i64 10, .lit (.int .i64 7)), (.int .i64 11, .lit (.int .i64 8)), (.int .i64 12, .lit (.int .i64 9)), (.int .i64 13, .lit (.int .i64 10)), (.int .i64 14, .lit (.int .i64 11)), (.int .i64 15, .lit (.int .i64 12)), (.int .i64 16, .lit (.int .i64 13)), (.int .i64 17, .lit (.int .i64 14)), (.int .i64 18, .lit (.int .i64 15)), (.int .i64 19, .lit (.int .i64 16)), (.int .i64 20, .lit (.int .i64 17)), (.int .i64 21, .lit (.int .i64 18)), (.int .i64 22, .lit (.int .i64 19)), (.int .i64 23, .lit (.int .i64 20)), (.int .i64 24, .lit (.int .i64 21))]
def laid_loop_example_s01308_impl_reserved {H : Type} : DataW H := .map [(.string [97, 110, 100], .lit (.bool true)), (.string [100, 101, 110, 121], .lit (.bool true)), (.string [101, 108, 115, 101], .lit (.bool true)), (.string [102, 97, 108, 115, 101], .lit (.bool true)), (.string [103, 114, 97, 110, 116], .lit (.bool true)), (.string [105, 102], .lit (.bool true)), (.string [105, 110], .lit (.bool true)), (.string [108, 101, 116], .lit (.bool true)), (.string [110, 111, 116], .lit (.bool true)), (.string [111, 114], .lit (.bool true)), (.string [115, 105, 122, 101], .lit (.bool true)), (.string [116, 104, 101, 110], .lit (.bool true)), (.string [116, 114, 117, 101], .lit (.bool true)), (.string [119, 104, 101, 110], .lit (.bool true)), (.string [119, 105, 116, 104, 105, 110], .lit (.bool true))]

/-- 'laws.FnExactRun': WHATEVER THE INPUT: true; the input reads as it did. -/
def fnExactRunSpec : ChangeSpec := { name := "fnExactRun", vars := ["loop.example/s01308/impl.constOps", "loop.example/s01308/impl.opcodes", "loop.example/s01308/impl.calcOps", "loop.example/s01308/impl.errZero", "loop.example/s01308/impl.errOverflow", "loop.example/s01308/impl.errWide"], fn := fun _ => fun
  | [d1, d2, g1, g2, g3, g4, g5, g6] => { results := [.lit (.bool true)], args := [d1, d2], vars := [g1, g2, g3, g4, g5, g6] }
  | _ => none }
def fnExactRunRow : OpenClaim := { program := "ytkedmcebngachaagreatdoor", sum := "8e1b1272532444fe073fc0ab9ff48257fc1cb21bf32767c9f0adb52c05cbee1f", func := "loop.example/s01308/laws.FnExactRun", spec := "fnExactRun", inPlace := ["internal/reflectlite.TypeOf"], unfollowed := true, recurses := true, named := ["loop.example/s01308/impl.constOps", "loop.example/s01308/impl.opcodes", "loop.example/s01308/impl.calcOps", "loop.example/s01308/impl.errZero", "loop.example/s01308/impl.errOverflow", "loop.example/s01308/impl.errWide"], maps := true, ifaces := true, apart := false, laid := [("loop.example/s01308/impl.errOverflow", laid_loop_example_s01308_impl_errOverflow), ("loop.example/s01308/impl.errZero", laid_loop_example_s01308_impl_errZero), ("loop.example/s01308/impl.errWide", laid_loop_example_s01308_impl_errWide), ("loop.example/s01308/impl.constOps", laid_loop_example_s01308_impl_constOps), ("loop.example/s01308/impl.calcOps", laid_loop_example_s01308_impl_calcOps), ("loop.example/s01308/impl.opcodes", laid_loop_example_s01308_impl_opcodes)] }
def FnExactRunSaid : Prop := fnExactRunRow.holds Tryz.pinned (OpenSpec.ofChange fnExactRunSpec)

/-- ITS FALSE NEIGHBOUR: 'it returns false'. Refute it at one input. -/
def fnExactRunWrong : ChangeSpec := { name := "fnExactRun", vars := ["loop.example/s01308/impl.constOps", "loop.example/s01308/impl.opcodes", "loop.example/s01308/impl.calcOps", "loop.example/s01308/impl.errZero", "loop.example/s01308/impl.errOverflow", "loop.example/s01308/impl.errWide"], fn := fun _ => fun
  | [d1, d2, g1, g2, g3, g4, g5, g6] => { results := [.lit (.bool false)], args := [d1, d2], vars := [g1, g2, g3, g4, g5, g6] }
  | _ => none }
def FnExactRunWrongFalsely : Prop := fnExactRunRow.holds Tryz.pinned (OpenSpec.ofChange fnExactRunWrong)

/-- 'laws.FnExactOptimize': WHATEVER THE INPUT: true; the input reads as it did. -/
def fnExactOptimizeSpec : ChangeSpec := { name := "fnExactOptimize", vars := ["loop.example/s01308/impl.reserved", "loop.example/s01308/impl.constOps", "loop.example/s01308/impl.calcOps", "loop.example/s01308/impl.errZero", "loop.example/s01308/impl.errOverflow", "loop.example/s01308/impl.errWide"], fn := fun _ => fun
  | [d, g1, g2, g3, g4, g5, g6] => { results := [.lit (.bool true)], args := [d], vars := [g1, g2, g3, g4, g5, g6] }
  | _ => none }
def fnExactOptimizeRow : OpenClaim := { program := "ytkedmcebngachaagreatdoor", sum := "8e1b1272532444fe073fc0ab9ff48257fc1cb21bf32767c9f0adb52c05cbee1f", func := "loop.example/s01308/laws.FnExactOptimize", spec := "fnExactOptimize", unfollowed := true, recurses := true, named := ["loop.example/s01308/impl.reserved", "loop.example/s01308/impl.constOps", "loop.example/s01308/impl.calcOps", "loop.example/s01308/impl.errZero", "loop.example/s01308/impl.errOverflow", "loop.example/s01308/impl.errWide"], maps := true, ifaces := true, apart := false, laid := [("loop.example/s01308/impl.errOverflow", laid_loop_example_s01308_impl_errOverflow), ("loop.example/s01308/impl.errZero", laid_loop_example_s01308_impl_errZero), ("loop.example/s01308/impl.errWide", laid_loop_example_s01308_impl_errWide), ("loop.example/s01308/impl.reserved", laid_loop_example_s01308_impl_reserved), ("loop.example/s01308/impl.constOps", laid_loop_example_s01308_impl_constOps), ("loop.example/s01308/impl.calcOps", laid_loop_example_s01308_impl_calcOps)] }
def FnExactOptimizeSaid : Prop := fnExactOptimizeRow.holds Tryz.pinned (OpenSpec.ofChange fnExactOptimizeSpec)

/-- ITS FALSE NEIGHBOUR: 'it returns false'. Refute it at one input. -/
def fnExactOptimizeWrong : ChangeSpec := { name := "fnExactOptimize", vars := ["loop.example/s01308/impl.reserved", "loop.example/s01308/impl.constOps", "loop.example/s01308/impl.calcOps", "loop.example/s01308/impl.errZero", "loop.example/s01308/impl.errOverflow", "loop.example/s01308/impl.errWide"], fn := fun _ => fun
  | [d, g1, g2, g3, g4, g5, g6] => { results := [.lit (.bool false)], args := [d], vars := [g1, g2, g3, g4, g5, g6] }
  | _ => none }
def FnExactOptimizeWrongFalsely : Prop := fnExactOptimizeRow.holds Tryz.pinned (OpenSpec.ofChange fnExactOptimizeWrong)

/-- 'laws.FnOptimized': WHATEVER THE INPUT: true; the input reads as it did. -/
def fnOptimizedSpec : ChangeSpec := { name := "fnOptimized", vars := ["loop.example/s01308/impl.reserved", "loop.example/s01308/impl.constOps", "loop.example/s01308/impl.calcOps", "loop.example/s01308/impl.errZero", "loop.example/s01308/impl.errOverflow", "loop.example/s01308/impl.errWide"], fn := fun _ => fun
  | [d1, d2, g1, g2, g3, g4, g5, g6] => { results := [.lit (.bool true)], args := [d1, d2], vars := [g1, g2, g3, g4, g5, g6] }
  | _ => none }
def fnOptimizedRow : OpenClaim := { program := "ytkedmcebngachaagreatdoor", sum := "8e1b1272532444fe073fc0ab9ff48257fc1cb21bf32767c9f0adb52c05cbee1f", func := "loop.example/s01308/laws.FnOptimized", spec := "fnOptimized", inPlace := ["internal/reflectlite.TypeOf"], unfollowed := true, recurses := true, named := ["loop.example/s01308/impl.reserved", "loop.example/s01308/impl.constOps", "loop.example/s01308/impl.calcOps", "loop.example/s01308/impl.errZero", "loop.example/s01308/impl.errOverflow", "loop.example/s01308/impl.errWide"], maps := true, ifaces := true, apart := false, laid := [("loop.example/s01308/impl.errOverflow", laid_loop_example_s01308_impl_errOverflow), ("loop.example/s01308/impl.errZero", laid_loop_example_s01308_impl_errZero), ("loop.example/s01308/impl.errWide", laid_loop_example_s01308_impl_errWide), ("loop.example/s01308/impl.reserved", laid_loop_example_s01308_impl_reserved), ("loop.example/s01308/impl.constOps", laid_loop_example_s01308_impl_constOps), ("loop.example/s01308/impl.calcOps", laid_loop_example_s01308_impl_calcOps)] }
def FnOptimizedSaid : Prop := fnOptimizedRow.holds Tryz.pinned (OpenSpec.ofChange fnOptimizedSpec)

/-- ITS FALSE NEIGHBOUR: 'it returns false'. Refute it at one input. -/
def fnOptimizedWrong : ChangeSpec := { name := "fnOptimized", vars := ["loop.example/s01308/impl.reserved", "loop.example/s01308/impl.constOps", "loop.example/s01308/impl.calcOps", "loop.example/s01308/impl.errZero", "loop.example/s01308/impl.errOverflow", "loop.example/s01308/impl.errWide"], fn := fun _ => fun
  | [d1, d2, g1, g2, g3, g4, g5, g6] => { results := [.lit (.bool false)], args := [d1, d2], vars := [g1, g2, g3, g4, g5, g6] }
  | _ => none }
def FnOptimizedWrongFalsely : Prop := fnOptimizedRow.holds Tryz.pinned (OpenSpec.ofChange fnOptimizedWrong)

/- THE SECOND FORM. 'bulk': how many values and letters a reading holds, each counted each time it is reached (what is shared counts as often as it is met; a slice's spare places count too). A statement '..UptoSaid' is the law's where the arguments, and the package variables that the reading takes, are together of bulk at most 1048576: NARROWER than '..Said'. Prove '..Said' where nothing that the law and all that it calls make is longer than what came in: it says more and counts as full. Else prove '..UptoSaid'. A law counts once. -/
mutual
def uptoBulk {H : Type} : DataW H → Nat
  | .lit (.string bytes) => bytes.length + 1
  | .lit _ => 1
  | .nil => 1
  | .ptr d => uptoBulk d + 1
  | .slice elems spare => uptoBulkAll elems + uptoBulkAll spare + 1
  | .agg parts => uptoBulkAll parts + 1
  | .iface _ d => uptoBulk d + 1
  | .map entries => uptoBulkEntries entries + 1
  | .held _ => 1
def uptoBulkAll {H : Type} : List (DataW H) → Nat
  | [] => 0
  | d :: r => uptoBulk d + uptoBulkAll r
def uptoBulkEntries {H : Type} : List (Lit × DataW H) → Nat
  | [] => 0
  | x :: r => uptoBulkEntry x + uptoBulkEntries r
def uptoBulkEntry {H : Type} : Lit × DataW H → Nat
  | (.string bytes, d) => bytes.length + uptoBulk d + 1
  | (_, d) => uptoBulk d + 1
 end
def uptoSmall : (H : Type) → List (DataW H) → Bool := fun _ ds => decide (uptoBulkAll ds ≤ 1048576)
def OpenSpec.upto (s : _root_.Go.ChangeSpec) : _root_.Go.OpenSpec := { _root_.Go.OpenSpec.ofChange s with cond := some uptoSmall }

/-- 'laws.FnExactRun', WHERE WHAT IT READS IS OF BULK AT MOST 1048576: true; the input reads as it did. -/
def fnExactRunUptoRow : OpenClaim := { program := "ytkedmcebngachaagreatdoor", sum := "8e1b1272532444fe073fc0ab9ff48257fc1cb21bf32767c9f0adb52c05cbee1f", func := "loop.example/s01308/laws.FnExactRun", spec := "fnExactRun", inPlace := ["internal/reflectlite.TypeOf"], unfollowed := true, recurses := true, named := ["loop.example/s01308/impl.constOps", "loop.example/s01308/impl.opcodes", "loop.example/s01308/impl.calcOps", "loop.example/s01308/impl.errZero", "loop.example/s01308/impl.errOverflow", "loop.example/s01308/impl.errWide"], maps := true, ifaces := true, apart := false, laid := [("loop.example/s01308/impl.errOverflow", laid_loop_example_s01308_impl_errOverflow), ("loop.example/s01308/impl.errZero", laid_loop_example_s01308_impl_errZero), ("loop.example/s01308/impl.errWide", laid_loop_example_s01308_impl_errWide), ("loop.example/s01308/impl.constOps", laid_loop_example_s01308_impl_constOps), ("loop.example/s01308/impl.calcOps", laid_loop_example_s01308_impl_calcOps), ("loop.example/s01308/impl.opcodes", laid_loop_example_s01308_impl_opcodes)], narrowed := true }
def FnExactRunUptoSaid : Prop := fnExactRunUptoRow.holds Tryz.pinned (OpenSpec.upto fnExactRunSpec)

/-- 'laws.FnExactOptimize', WHERE WHAT IT READS IS OF BULK AT MOST 1048576: true; the input reads as it did. -/
def fnExactOptimizeUptoRow : OpenClaim := { program := "ytkedmcebngachaagreatdoor", sum := "8e1b1272532444fe073fc0ab9ff48257fc1cb21bf32767c9f0adb52c05cbee1f", func := "loop.example/s01308/laws.FnExactOptimize", spec := "fnExactOptimize", unfollowed := true, recurses := true, named := ["loop.example/s01308/impl.reserved", "loop.example/s01308/impl.constOps", "loop.example/s01308/impl.calcOps", "loop.example/s01308/impl.errZero", "loop.example/s01308/impl.errOverflow", "loop.example/s01308/impl.errWide"], maps := true, ifaces := true, apart := false, laid := [("loop.example/s01308/impl.errOverflow", laid_loop_example_s01308_impl_errOverflow), ("loop.example/s01308/impl.errZero", laid_loop_example_s01308_impl_errZero), ("loop.example/s01308/impl.errWide", laid_loop_example_s01308_impl_errWide), ("loop.example/s01308/impl.reserved", laid_loop_example_s01308_impl_reserved), ("loop.example/s01308/impl.constOps", laid_loop_example_s01308_impl_constOps), ("loop.example/s01308/impl.calcOps", laid_loop_example_s01308_impl_calcOps)], narrowed := true }
def FnExactOptimizeUptoSaid : Prop := fnExactOptimizeUptoRow.holds Tryz.pinned (OpenSpec.upto fnExactOptimizeSpec)

/-- 'laws.FnOptimized', WHERE WHAT IT READS IS OF BULK AT MOST 1048576: true; the input reads as it did. -/
def fnOptimizedUptoRow : OpenClaim := { program := "ytkedmcebngachaagreatdoor", sum := "8e1b1272532444fe073fc0ab9ff48257fc1cb21bf32767c9f0adb52c05cbee1f", func := "loop.example/s01308/laws.FnOptimized", spec := "fnOptimized", inPlace := ["internal/reflectlite.TypeOf"], unfollowed := true, recurses := true, named := ["loop.example/s01308/impl.reserved", "loop.example/s01308/impl.constOps", "loop.example/s01308/impl.calcOps", "loop.example/s01308/impl.errZero", "loop.example/s01308/impl.errOverflow", "loop.example/s01308/impl.errWide"], maps := true, ifaces := true, apart := false, laid := [("loop.example/s01308/impl.errOverflow", laid_loop_example_s01308_impl_errOverflow), ("loop.example/s01308/impl.errZero", laid_loop_example_s01308_impl_errZero), ("loop.example/s01308/impl.errWide", laid_loop_example_s01308_impl_errWide), ("loop.example/s01308/impl.reserved", laid_loop_example_s01308_impl_reserved), ("loop.example/s01308/impl.constOps", laid_loop_example_s01308_impl_constOps), ("loop.example/s01308/impl.calcOps", laid_loop_example_s01308_impl_calcOps)], narrowed := true }
def FnOptimizedUptoSaid : Prop := fnOptimizedUptoRow.holds Tryz.pinned (OpenSpec.upto fnOptimizedSpec)

end Rows
end Go.Proofs.YtkedmcebngachaaGreatDoor
