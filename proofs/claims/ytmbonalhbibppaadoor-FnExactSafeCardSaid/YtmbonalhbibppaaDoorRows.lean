/-
  NARROWER THAN 'FOR EVERY INPUT', by the rows' own cells (each row's printed sentence says how): FnExactValidPolicy: maps, laid · FnExactVerify: maps, laid · FnExactWellTyped: maps, laid · FnExactScan: ifaces, maps, laid · FnExactSafe: maps, laid.
  DERIVED. THE GIVEN ROWS OF THIS SEAT. 5 by the template 'for every input the law returns true; each argument reads behind the call as it read before'; 0 by the template 'total and deterministic' (their statements: YtmbonalhbibppaaDoorTotals.lean).
  GIVEN WITH THE SEED: the statements are not yours to turn. If you find one false, say at which input.
  Laid BY PROGRAM, IN A SANDBOX (cutbox-rows.mjs): the forced cells as the released guide's own fill.sh prints them over the translation 1cf801f99374ea6d… (all of the seat's roots in one cut). By AI agents, Wed Nov 11 2026. No macro, syntax, notation, axiom, sorry.
-/
import Derived.Test.YtmbonalhbibppaaDoorChecked
import GoSem.Claim
import GoSem.ClaimJoined
import GoSem.ClaimMapViews
import Derived.JoinedTies
import Derived.KernelRfl
namespace Go.Proofs.YtmbonalhbibppaaDoor
/- THE CELL 'sum', in the pinned program and in every row, IS THE sha256 OF THE DUMP (.gsa) THAT YtmbonalhbibppaaDoorProg.lean LOADS. Nothing in Lean hashes anything: it is a label: what it is worth is what the hold of that sum in a sandbox is worth. -/
noncomputable def Tryd.pinned : Pinned := { name := "ytmbonalhbibppaadoor", sum := "1cf801f99374ea6d3b567cabcecdd769e8a9243e8a88a130ff7dffbbd732a5f7", checked := Tryd.checked }
namespace Rows
def none {H : Type} : Left H := { results := [], args := [] }

/- WHAT THE LISTED PACKAGE-LEVEL VARIABLES READ AS WHEN THE CALL BEGINS. Each datum BY PROGRAM (the guide's laid-datum.mjs) off the statement by which the dump's own 'gosem.cut.vars' lays the variable. In a bare row this is a premise. The card (YtmbonalhbibppaaDoorCards.lean) ties it to the program's text. -/
def laid_loop_example_s01308_impl_reserved {H : Type} : DataW H := .map [(.string [97, 110, 100], .lit (.bool true)), (.string [100, 101, 110, 121], .lit (.bool true)), (.string [101, 108, 115, 101], .lit (.bool true)), (.string [102, 97, 108, 115, 101], .lit (.bool true)), (.string [103, 114, 97, 110, 116], .lit (.bool true)), (.string [105, 102], .lit (.bool true)), (.string [105, 110], .lit (.bool true)), (.string [108, 101, 116], .lit (.bool true)), (.string [110, 111, 116], .lit (.bool true)), (.string [111, 114], .lit (.bool true)), (.string [115, 105, 122, 101], .lit (.bool true)), (.string [116, 104, 101, 110], .lit (.bool true)), (.string [116, 114, 117, 101], .lit (.bool true)), (.string [119, 104, 101, 110], .lit (.bool true)), (.string [119, 105, 116, 104, 105, 110], .lit (.bool true))]
def laid_loop_example_s01308_impl_constOps {H : Type} : DataW H := .map [(.int .i64 1, .lit (.int .i64 3)), (.int .i64 2, .lit (.int .i64 1)), (.int .i64 3, .lit (.int .i64 2)), (.int .i64 4, .lit (.int .i64 4))]
def laid_loop_example_s01308_impl_opcodes {H : Type} : DataW H := .map [(.int .i64 8, .lit (.int .i64 5)), (.int .i64 9, .lit (.int .i64 6)), (.int .i64 10, .lit (.int .i64 7)), (.int .i64 11, .lit (.int .i64 8)), (.int .i64 12, .lit (.int .i64 9)), (.int .i64 13, .lit (.int .i64 10)), (.int .i64 14, .lit (.int .i64 11)), (.int .i64 15, .lit (.int .i64 12)), (.int .i64 16, .lit (.int .i64 13)), (.int .i64 17, .lit (.int .i64 14)), (.int .i64 18, .lit (.int .i64 15)), (.int .i64 19, .lit (.int .i64 16)), (.int .i64 20, .lit (.int .i64 17)), (.int .i64 21, .lit (.int .i64 18)), (.int .i64 22, .lit (.int .i64 19)), (.int .i64 23, .lit (.int .i64 20)), (.int .i64 24, .lit (.int .i64 21))]
def laid_math_bits_deBruijn32tab {H : Type} : DataW H := .agg [.lit (.int .u8 0), .lit (.int .u8 1), .lit (.int .u8 28), .lit (.int .u8 2), .lit (.int .u8 29), .lit (.int .u8 14), .lit (.int .u8 24), .lit (.int .u8 3), .lit (.int .u8 30), .lit (.int .u8 22), .lit (.int .u8 20), .lit (.int .u8 15), .lit (.int .u8 25), .lit (.int .u8 17), .lit (.int .u8 4), .lit (.int .u8 8), .lit (.int .u8 31), .lit (.int .u8 27), .lit (.int .u8 13), .lit (.int .u8 23), .lit (.int .u8 21), .lit (.int .u8 19), .lit (.int .u8 16), .lit (.int .u8 7), .lit (.int .u8 26), .lit (.int .u8 12), .lit (.int .u8 18), .lit (.int .u8 6), .lit (.int .u8 11), .lit (.int .u8 5), .lit (.int .u8 10), .lit (.int .u8 9)]
def laid_math_bits_deBruijn64tab {H : Type} : DataW H := .agg [.lit (.int .u8 0), .lit (.int .u8 1), .lit (.int .u8 56), .lit (.int .u8 2), .lit (.int .u8 57), .lit (.int .u8 49), .lit (.int .u8 28), .lit (.int .u8 3), .lit (.int .u8 61), .lit (.int .u8 58), .lit (.int .u8 42), .lit (.int .u8 50), .lit (.int .u8 38), .lit (.int .u8 29), .lit (.int .u8 17), .lit (.int .u8 4), .lit (.int .u8 62), .lit (.int .u8 47), .lit (.int .u8 59), .lit (.int .u8 36), .lit (.int .u8 45), .lit (.int .u8 43), .lit (.int .u8 51), .lit (.int .u8 22), .lit (.int .u8 53), .lit (.int .u8 39), .lit (.int .u8 33), .lit (.int .u8 30), .lit (.int .u8 24), .lit (.int .u8 18), .lit (.int .u8 12), .lit (.int .u8 5), .lit (.int .u8 63), .lit (.int .u8 55), .lit (.int .u8 48), .lit (.int .u8 27), .lit (.int .u8 60), .lit (.int .u8 41), .lit (.int .u8 37), .lit (.int .u8 16), .lit (.int .u8 46), .lit (.int .u8 35), .lit (.int .u8 44), .lit (.int .u8 21), .lit (.int .u8 52), .lit (.int .u8 32), .lit (.int .u8 23), .lit (.int .u8 11), .lit (.int .u8 54), .lit (.int .u8 26), .lit (.int .u8 40), .lit (.int .u8 15), .lit (.int .u8 34), .lit (.int .u8 20), .lit (.int .u8 31), .lit (.int .u8 10), .lit (.int .u8 25), .lit (.int .u8 14), .lit (.int .u8 19), .lit (.int .u8 9), .lit (.int .u8 13), .lit (.int .u8 8), .lit (.int .u8 7), .lit (.int .u8 6)]
def laid_internal_strconv_uint64pow10 {H : Type} : DataW H := .agg [.lit (.int .u64 1), .lit (.int .u64 10), .lit (.int .u64 100), .lit (.int .u64 1000), .lit (.int .u64 10000), .lit (.int .u64 100000), .lit (.int .u64 1000000), .lit (.int .u64 10000000), .lit (.int .u64 100000000), .lit (.int .u64 1000000000), .lit (.int .u64 10000000000), .lit (.int .u64 100000000000), .lit (.int .u64 1000000000000), .lit (.int .u64 10000000000000), .lit (.int .u64 100000000000000), .lit (.int .u64 1000000000000000), .lit (.int .u64 10000000000000000), .lit (.int .u64 100000000000000000), .lit (.int .u64 1000000000000000000), .lit (.int .u64 10000000000000000000)]
def laid_errors_errorType {H : Type} : DataW H := .iface "internal/reflectlite.rtype" (.agg [.ptr (.lit (.string [101, 114, 114, 111, 114]))])
def laid_strconv_ErrRange {H : Type} : DataW H := .iface "*errors.errorString" (.ptr (.agg [.lit (.string [118, 97, 108, 117, 101, 32, 111, 117, 116, 32, 111, 102, 32, 114, 97, 110, 103, 101])]))
def laid_strconv_ErrSyntax {H : Type} : DataW H := .iface "*errors.errorString" (.ptr (.agg [.lit (.string [105, 110, 118, 97, 108, 105, 100, 32, 115, 121, 110, 116, 97, 120])]))
def laid_loop_example_s01308_impl_errByte {H : Type} : DataW H := .iface "*errors.errorString" (.ptr (.agg [.lit (.string [98, 97, 100, 32, 98, 121, 116, 101])]))
def laid_loop_example_s01308_impl_errToken {H : Type} : DataW H := .iface "*errors.errorString" (.ptr (.agg [.lit (.string [98, 97, 100, 32, 116, 111, 107, 101, 110])]))
def laid_loop_example_s01308_impl_errSyntax {H : Type} : DataW H := .iface "*errors.errorString" (.ptr (.agg [.lit (.string [115, 121, 110, 116, 97, 120])]))
def laid_loop_example_s01308_impl_errLimit {H : Type} : DataW H := .iface "*errors.errorString" (.ptr (.agg [.lit (.string [108, 105, 109, 105, 116])]))
def laid_loop_example_s01308_impl_errDepth {H : Type} : DataW H := .iface "*errors.errorString" (.ptr (.agg [.lit (.string [100, 101, 112, 116, 104])]))

/-- 'laws.FnExactValidPolicy': WHATEVER THE INPUT: true; the input reads as it did. -/
def fnExactValidPolicySpec : ChangeSpec := { name := "fnExactValidPolicy", vars := ["loop.example/s01308/impl.reserved", "loop.example/s01308/impl.constOps"], fn := fun _ => fun
  | [d, g1, g2] => { results := [.lit (.bool true)], args := [d], vars := [g1, g2] }
  | _ => none }
def fnExactValidPolicyRow : OpenClaim := { program := "ytmbonalhbibppaadoor", sum := "1cf801f99374ea6d3b567cabcecdd769e8a9243e8a88a130ff7dffbbd732a5f7", func := "loop.example/s01308/laws.FnExactValidPolicy", spec := "fnExactValidPolicy", unfollowed := true, recurses := true, named := ["loop.example/s01308/impl.reserved", "loop.example/s01308/impl.constOps"], maps := true, apart := false, laid := [("loop.example/s01308/impl.reserved", laid_loop_example_s01308_impl_reserved), ("loop.example/s01308/impl.constOps", laid_loop_example_s01308_impl_constOps)] }
def FnExactValidPolicySaid : Prop := fnExactValidPolicyRow.holds Tryd.pinned (OpenSpec.ofChange fnExactValidPolicySpec)

/-- ITS FALSE NEIGHBOUR: 'it returns false'. Refute it at one input. -/
def fnExactValidPolicyWrong : ChangeSpec := { name := "fnExactValidPolicy", vars := ["loop.example/s01308/impl.reserved", "loop.example/s01308/impl.constOps"], fn := fun _ => fun
  | [d, g1, g2] => { results := [.lit (.bool false)], args := [d], vars := [g1, g2] }
  | _ => none }
def FnExactValidPolicyWrongFalsely : Prop := fnExactValidPolicyRow.holds Tryd.pinned (OpenSpec.ofChange fnExactValidPolicyWrong)

/-- 'laws.FnExactVerify': WHATEVER THE INPUT: true; the input reads as it did. -/
def fnExactVerifySpec : ChangeSpec := { name := "fnExactVerify", vars := ["loop.example/s01308/impl.constOps", "loop.example/s01308/impl.opcodes"], fn := fun _ => fun
  | [d, g1, g2] => { results := [.lit (.bool true)], args := [d], vars := [g1, g2] }
  | _ => none }
def fnExactVerifyRow : OpenClaim := { program := "ytmbonalhbibppaadoor", sum := "1cf801f99374ea6d3b567cabcecdd769e8a9243e8a88a130ff7dffbbd732a5f7", func := "loop.example/s01308/laws.FnExactVerify", spec := "fnExactVerify", unfollowed := true, recurses := true, named := ["loop.example/s01308/impl.constOps", "loop.example/s01308/impl.opcodes"], maps := true, apart := false, laid := [("loop.example/s01308/impl.constOps", laid_loop_example_s01308_impl_constOps), ("loop.example/s01308/impl.opcodes", laid_loop_example_s01308_impl_opcodes)] }
def FnExactVerifySaid : Prop := fnExactVerifyRow.holds Tryd.pinned (OpenSpec.ofChange fnExactVerifySpec)

/-- ITS FALSE NEIGHBOUR: 'it returns false'. Refute it at one input. -/
def fnExactVerifyWrong : ChangeSpec := { name := "fnExactVerify", vars := ["loop.example/s01308/impl.constOps", "loop.example/s01308/impl.opcodes"], fn := fun _ => fun
  | [d, g1, g2] => { results := [.lit (.bool false)], args := [d], vars := [g1, g2] }
  | _ => none }
def FnExactVerifyWrongFalsely : Prop := fnExactVerifyRow.holds Tryd.pinned (OpenSpec.ofChange fnExactVerifyWrong)

/-- 'laws.FnExactWellTyped': WHATEVER THE INPUT: true; the input reads as it did. -/
def fnExactWellTypedSpec : ChangeSpec := { name := "fnExactWellTyped", vars := ["loop.example/s01308/impl.reserved", "loop.example/s01308/impl.constOps"], fn := fun _ => fun
  | [d, g1, g2] => { results := [.lit (.bool true)], args := [d], vars := [g1, g2] }
  | _ => none }
def fnExactWellTypedRow : OpenClaim := { program := "ytmbonalhbibppaadoor", sum := "1cf801f99374ea6d3b567cabcecdd769e8a9243e8a88a130ff7dffbbd732a5f7", func := "loop.example/s01308/laws.FnExactWellTyped", spec := "fnExactWellTyped", unfollowed := true, recurses := true, named := ["loop.example/s01308/impl.reserved", "loop.example/s01308/impl.constOps"], maps := true, apart := false, laid := [("loop.example/s01308/impl.reserved", laid_loop_example_s01308_impl_reserved), ("loop.example/s01308/impl.constOps", laid_loop_example_s01308_impl_constOps)] }
def FnExactWellTypedSaid : Prop := fnExactWellTypedRow.holds Tryd.pinned (OpenSpec.ofChange fnExactWellTypedSpec)

/-- ITS FALSE NEIGHBOUR: 'it returns false'. Refute it at one input. -/
def fnExactWellTypedWrong : ChangeSpec := { name := "fnExactWellTyped", vars := ["loop.example/s01308/impl.reserved", "loop.example/s01308/impl.constOps"], fn := fun _ => fun
  | [d, g1, g2] => { results := [.lit (.bool false)], args := [d], vars := [g1, g2] }
  | _ => none }
def FnExactWellTypedWrongFalsely : Prop := fnExactWellTypedRow.holds Tryd.pinned (OpenSpec.ofChange fnExactWellTypedWrong)

/-- 'laws.FnExactScan': WHATEVER THE INPUT: true; the input reads as it did. -/
def fnExactScanSpec : ChangeSpec := { name := "fnExactScan", vars := ["loop.example/s01308/impl.errToken", "loop.example/s01308/impl.reserved", "loop.example/s01308/impl.errByte", "loop.example/s01308/impl.errSyntax", "loop.example/s01308/impl.errLimit", "loop.example/s01308/impl.errDepth"], fn := fun _ => fun
  | [d, g1, g2, g3, g4, g5, g6] => { results := [.lit (.bool true)], args := [d], vars := [g1, g2, g3, g4, g5, g6] }
  | _ => none }
def fnExactScanRow : OpenClaim := { program := "ytmbonalhbibppaadoor", sum := "1cf801f99374ea6d3b567cabcecdd769e8a9243e8a88a130ff7dffbbd732a5f7", func := "loop.example/s01308/laws.FnExactScan", spec := "fnExactScan", inPlace := ["internal/bytealg.IndexByteString", "internal/reflectlite.ValueOf", "(internal/reflectlite.Value).Type", "(internal/reflectlite.Value).IsNil", "internal/reflectlite.TypeOf", "(internal/reflectlite.Value).Elem", "(internal/reflectlite.Value).Set"], unfollowed := true, recurses := true, named := ["loop.example/s01308/impl.errToken", "loop.example/s01308/impl.reserved", "loop.example/s01308/impl.errByte", "strconv.ErrSyntax", "strconv.ErrRange", "internal/strconv.uint64pow10", "math/bits.deBruijn32tab", "math/bits.deBruijn64tab", "loop.example/s01308/impl.errSyntax", "loop.example/s01308/impl.errLimit", "loop.example/s01308/impl.errDepth", "errors.errorType"], maps := true, ifaces := true, apart := false, laid := [("math/bits.deBruijn32tab", laid_math_bits_deBruijn32tab), ("math/bits.deBruijn64tab", laid_math_bits_deBruijn64tab), ("internal/strconv.uint64pow10", laid_internal_strconv_uint64pow10), ("errors.errorType", laid_errors_errorType), ("strconv.ErrRange", laid_strconv_ErrRange), ("strconv.ErrSyntax", laid_strconv_ErrSyntax), ("loop.example/s01308/impl.errByte", laid_loop_example_s01308_impl_errByte), ("loop.example/s01308/impl.errToken", laid_loop_example_s01308_impl_errToken), ("loop.example/s01308/impl.errSyntax", laid_loop_example_s01308_impl_errSyntax), ("loop.example/s01308/impl.errLimit", laid_loop_example_s01308_impl_errLimit), ("loop.example/s01308/impl.errDepth", laid_loop_example_s01308_impl_errDepth), ("loop.example/s01308/impl.reserved", laid_loop_example_s01308_impl_reserved)] }
def FnExactScanSaid : Prop := fnExactScanRow.holds Tryd.pinned (OpenSpec.ofChange fnExactScanSpec)

/-- ITS FALSE NEIGHBOUR: 'it returns false'. Refute it at one input. -/
def fnExactScanWrong : ChangeSpec := { name := "fnExactScan", vars := ["loop.example/s01308/impl.errToken", "loop.example/s01308/impl.reserved", "loop.example/s01308/impl.errByte", "loop.example/s01308/impl.errSyntax", "loop.example/s01308/impl.errLimit", "loop.example/s01308/impl.errDepth"], fn := fun _ => fun
  | [d, g1, g2, g3, g4, g5, g6] => { results := [.lit (.bool false)], args := [d], vars := [g1, g2, g3, g4, g5, g6] }
  | _ => none }
def FnExactScanWrongFalsely : Prop := fnExactScanRow.holds Tryd.pinned (OpenSpec.ofChange fnExactScanWrong)

/-- 'laws.FnExactSafe': WHATEVER THE INPUT: true; the input reads as it did. -/
def fnExactSafeSpec : ChangeSpec := { name := "fnExactSafe", vars := ["loop.example/s01308/impl.reserved", "loop.example/s01308/impl.constOps"], fn := fun _ => fun
  | [d1, d2, g1, g2] => { results := [.lit (.bool true)], args := [d1, d2], vars := [g1, g2] }
  | _ => none }
def fnExactSafeRow : OpenClaim := { program := "ytmbonalhbibppaadoor", sum := "1cf801f99374ea6d3b567cabcecdd769e8a9243e8a88a130ff7dffbbd732a5f7", func := "loop.example/s01308/laws.FnExactSafe", spec := "fnExactSafe", unfollowed := true, recurses := true, named := ["loop.example/s01308/impl.reserved", "loop.example/s01308/impl.constOps"], maps := true, apart := false, laid := [("loop.example/s01308/impl.reserved", laid_loop_example_s01308_impl_reserved), ("loop.example/s01308/impl.constOps", laid_loop_example_s01308_impl_constOps)] }
def FnExactSafeSaid : Prop := fnExactSafeRow.holds Tryd.pinned (OpenSpec.ofChange fnExactSafeSpec)

/-- ITS FALSE NEIGHBOUR: 'it returns false'. Refute it at one input. -/
def fnExactSafeWrong : ChangeSpec := { name := "fnExactSafe", vars := ["loop.example/s01308/impl.reserved", "loop.example/s01308/impl.constOps"], fn := fun _ => fun
  | [d1, d2, g1, g2] => { results := [.lit (.bool false)], args := [d1, d2], vars := [g1, g2] }
  | _ => none }
def FnExactSafeWrongFalsely : Prop := fnExactSafeRow.holds Tryd.pinned (OpenSpec.ofChange fnExactSafeWrong)

/- THE SECOND FORM. 'bulk': how many values and letters a reading holds, each counted each time it is reached (what is shared counts as often as it is met; a slice's spare places count too). A statement '..UptoSaid' is the law's where the arguments, and the package variables that the reading takes, are together of bulk at most 1048576: NARROWER than '..Said'. Prove '..Said' where nothing that the law and all that it calls make is longer than what came in: it says more and counts as full. Else prove '..UptoSaid'. A law counts once. -/
mutual
def uptoBulk {H : Type} : DataW H → Nat
  | .lit (.string bytes) => bytes.length + 1
  | .lit _ => 1
  | .nil => 1
  | .ptr d => uptoBulk d + 1
  | .slice elems spare => uptoBulkAll elems + uptoBulkAll spare + 1
  | .agg parts => uptoBulkAll parts + 1
  | .iface _ d => uptoBulk d + 1
  | .map entries => uptoBulkEntries entries + 1
  | .held _ => 1
def uptoBulkAll {H : Type} : List (DataW H) → Nat
  | [] => 0
  | d :: r => uptoBulk d + uptoBulkAll r
def uptoBulkEntries {H : Type} : List (Lit × DataW H) → Nat
  | [] => 0
  | x :: r => uptoBulkEntry x + uptoBulkEntries r
def uptoBulkEntry {H : Type} : Lit × DataW H → Nat
  | (.string bytes, d) => bytes.length + uptoBulk d + 1
  | (_, d) => uptoBulk d + 1
 end
def uptoSmall : (H : Type) → List (DataW H) → Bool := fun _ ds => decide (uptoBulkAll ds ≤ 1048576)
def OpenSpec.upto (s : _root_.Go.ChangeSpec) : _root_.Go.OpenSpec := { _root_.Go.OpenSpec.ofChange s with cond := some uptoSmall }

/-- 'laws.FnExactValidPolicy', WHERE WHAT IT READS IS OF BULK AT MOST 1048576: true; the input reads as it did. -/
def fnExactValidPolicyUptoRow : OpenClaim := { program := "ytmbonalhbibppaadoor", sum := "1cf801f99374ea6d3b567cabcecdd769e8a9243e8a88a130ff7dffbbd732a5f7", func := "loop.example/s01308/laws.FnExactValidPolicy", spec := "fnExactValidPolicy", unfollowed := true, recurses := true, named := ["loop.example/s01308/impl.reserved", "loop.example/s01308/impl.constOps"], maps := true, apart := false, laid := [("loop.example/s01308/impl.reserved", laid_loop_example_s01308_impl_reserved), ("loop.example/s01308/impl.constOps", laid_loop_example_s01308_impl_constOps)], narrowed := true }
def FnExactValidPolicyUptoSaid : Prop := fnExactValidPolicyUptoRow.holds Tryd.pinned (OpenSpec.upto fnExactValidPolicySpec)

/-- 'laws.FnExactVerify', WHERE WHAT IT READS IS OF BULK AT MOST 1048576: true; the input reads as it did. -/
def fnExactVerifyUptoRow : OpenClaim := { program := "ytmbonalhbibppaadoor", sum := "1cf801f99374ea6d3b567cabcecdd769e8a9243e8a88a130ff7dffbbd732a5f7", func := "loop.example/s01308/laws.FnExactVerify", spec := "fnExactVerify", unfollowed := true, recurses := true, named := ["loop.example/s01308/impl.constOps", "loop.example/s01308/impl.opcodes"], maps := true, apart := false, laid := [("loop.example/s01308/impl.constOps", laid_loop_example_s01308_impl_constOps), ("loop.example/s01308/impl.opcodes", laid_loop_example_s01308_impl_opcodes)], narrowed := true }
def FnExactVerifyUptoSaid : Prop := fnExactVerifyUptoRow.holds Tryd.pinned (OpenSpec.upto fnExactVerifySpec)

/-- 'laws.FnExactWellTyped', WHERE WHAT IT READS IS OF BULK AT MOST 1048576: true; the input reads as it did. -/
def fnExactWellTypedUptoRow : OpenClaim := { program := "ytmbonalhbibppaadoor", sum := "1cf801f99374ea6d3b567cabcecdd769e8a9243e8a88a130ff7dffbbd732a5f7", func := "loop.example/s01308/laws.FnExactWellTyped", spec := "fnExactWellTyped", unfollowed := true, recurses := true, named := ["loop.example/s01308/impl.reserved", "loop.example/s01308/impl.constOps"], maps := true, apart := false, laid := [("loop.example/s01308/impl.reserved", laid_loop_example_s01308_impl_reserved), ("loop.example/s01308/impl.constOps", laid_loop_example_s01308_impl_constOps)], narrowed := true }
def FnExactWellTypedUptoSaid : Prop := fnExactWellTypedUptoRow.holds Tryd.pinned (OpenSpec.upto fnExactWellTypedSpec)

/-- 'laws.FnExactScan', WHERE WHAT IT READS IS OF BULK AT MOST 1048576: true; the input reads as it did. -/
def fnExactScanUptoRow : OpenClaim := { program := "ytmbonalhbibppaadoor", sum := "1cf801f99374ea6d3b567cabcecdd769e8a9243e8a88a130ff7dffbbd732a5f7", func := "loop.example/s01308/laws.FnExactScan", spec := "fnExactScan", inPlace := ["internal/bytealg.IndexByteString", "internal/reflectlite.ValueOf", "(internal/reflectlite.Value).Type", "(internal/reflectlite.Value).IsNil", "internal/reflectlite.TypeOf", "(internal/reflectlite.Value).Elem", "(internal/reflectlite.Value).Set"], unfollowed := true, recurses := true, named := ["loop.example/s01308/impl.errToken", "loop.example/s01308/impl.reserved", "loop.example/s01308/impl.errByte", "strconv.ErrSyntax", "strconv.ErrRange", "internal/strconv.uint64pow10", "math/bits.deBruijn32tab", "math/bits.deBruijn64tab", "loop.example/s01308/impl.errSyntax", "loop.example/s01308/impl.errLimit", "loop.example/s01308/impl.errDepth", "errors.errorType"], maps := true, ifaces := true, apart := false, laid := [("math/bits.deBruijn32tab", laid_math_bits_deBruijn32tab), ("math/bits.deBruijn64tab", laid_math_bits_deBruijn64tab), ("internal/strconv.uint64pow10", laid_internal_strconv_uint64pow10), ("errors.errorType", laid_errors_errorType), ("strconv.ErrRange", laid_strconv_ErrRange), ("strconv.ErrSyntax", laid_strconv_ErrSyntax), ("loop.example/s01308/impl.errByte", laid_loop_example_s01308_impl_errByte), ("loop.example/s01308/impl.errToken", laid_loop_example_s01308_impl_errToken), ("loop.example/s01308/impl.errSyntax", laid_loop_example_s01308_impl_errSyntax), ("loop.example/s01308/impl.errLimit", laid_loop_example_s01308_impl_errLimit), ("loop.example/s01308/impl.errDepth", laid_loop_example_s01308_impl_errDepth), ("loop.example/s01308/impl.reserved", laid_loop_example_s01308_impl_reserved)], narrowed := true }
def FnExactScanUptoSaid : Prop := fnExactScanUptoRow.holds Tryd.pinned (OpenSpec.upto fnExactScanSpec)

/-- 'laws.FnExactSafe', WHERE WHAT IT READS IS OF BULK AT MOST 1048576: true; the input reads as it did. -/
def fnExactSafeUptoRow : OpenClaim := { program := "ytmbonalhbibppaadoor", sum := "1cf801f99374ea6d3b567cabcecdd769e8a9243e8a88a130ff7dffbbd732a5f7", func := "loop.example/s01308/laws.FnExactSafe", spec := "fnExactSafe", unfollowed := true, recurses := true, named := ["loop.example/s01308/impl.reserved", "loop.example/s01308/impl.constOps"], maps := true, apart := false, laid := [("loop.example/s01308/impl.reserved", laid_loop_example_s01308_impl_reserved), ("loop.example/s01308/impl.constOps", laid_loop_example_s01308_impl_constOps)], narrowed := true }
def FnExactSafeUptoSaid : Prop := fnExactSafeUptoRow.holds Tryd.pinned (OpenSpec.upto fnExactSafeSpec)

end Rows
end Go.Proofs.YtmbonalhbibppaaDoor
