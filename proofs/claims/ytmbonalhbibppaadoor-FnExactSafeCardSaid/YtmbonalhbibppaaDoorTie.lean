/-
  DERIVED. GIVEN WITH THE SEED: THE PROGRAM's TIES (one call each: nine closed facts by the kernel) AND EACH ROW's TIE, after the 31st guide's Derived/Test/Toyas{Tie, Card}.lean. No idea stands in it: it is a product of the set-up. Laid BY PROGRAM, IN A SANDBOX (cutbox-door.mjs). By AI agents, Wed Nov 11 2026. No macro, syntax, notation, axiom, sorry.
-/
import Derived.Test.YtmbonalhbibppaaDoorRows
import Derived.LaidByTextLater
import Derived.SevenTiedAt
import Derived.LaidSub
import Derived.LaidOnce
namespace Go.Proofs.YtmbonalhbibppaaDoor
open Go
set_option maxRecDepth 100000
theorem seatTie1 : Tryd.prog.laidByTextLater [("math/bits.deBruijn32tab", Rows.laid_math_bits_deBruijn32tab), ("math/bits.deBruijn64tab", Rows.laid_math_bits_deBruijn64tab), ("internal/strconv.uint64pow10", Rows.laid_internal_strconv_uint64pow10), ("errors.errorType", Rows.laid_errors_errorType), ("strconv.ErrRange", Rows.laid_strconv_ErrRange), ("strconv.ErrSyntax", Rows.laid_strconv_ErrSyntax), ("loop.example/s01308/impl.errByte", Rows.laid_loop_example_s01308_impl_errByte), ("loop.example/s01308/impl.errToken", Rows.laid_loop_example_s01308_impl_errToken), ("loop.example/s01308/impl.errSyntax", Rows.laid_loop_example_s01308_impl_errSyntax), ("loop.example/s01308/impl.errLimit", Rows.laid_loop_example_s01308_impl_errLimit), ("loop.example/s01308/impl.errDepth", Rows.laid_loop_example_s01308_impl_errDepth), ("loop.example/s01308/impl.reserved", Rows.laid_loop_example_s01308_impl_reserved), ("loop.example/s01308/impl.constOps", Rows.laid_loop_example_s01308_impl_constOps), ("loop.example/s01308/impl.opcodes", Rows.laid_loop_example_s01308_impl_opcodes)] [.data, .data, .data, .handle, .sentinel, .sentinel, .sentinel, .sentinel, .sentinel, .sentinel, .sentinel, .mapped, .mapped, .mapped] true :=
  Program.laidByTextLater_by_one 359 8 65 (by kernel_rfl) (by kernel_rfl) (by kernel_rfl) (by kernel_rfl) (by kernel_rfl) (by kernel_rfl) (fun _ _ => by kernel_rfl)
theorem noOwnUnsafe : Tryd.pinned.checked.prog.headLifts.contains "ownunsafe" = false := by kernel_rfl
theorem tie : Tryd.prog.laidByTextLater [("loop.example/s01308/impl.reserved", Rows.laid_loop_example_s01308_impl_reserved), ("loop.example/s01308/impl.constOps", Rows.laid_loop_example_s01308_impl_constOps)] [.mapped, .mapped] true :=
  Program.laidByTextLater.sub seatTie1 ["loop.example/s01308/impl.reserved", "loop.example/s01308/impl.constOps"] (by kernel_rfl) (by kernel_rfl)
theorem fnExactValidPolicy_row_tie : Rows.fnExactValidPolicyRow.laidByTextAt .later Tryd.pinned [.mapped, .mapped] true :=
  OpenClaim.laidByTextAt_later rfl rfl tie noOwnUnsafe
theorem fnExactWellTyped_row_tie : Rows.fnExactWellTypedRow.laidByTextAt .later Tryd.pinned [.mapped, .mapped] true :=
  OpenClaim.laidByTextAt_later rfl rfl tie noOwnUnsafe
theorem fnExactSafe_row_tie : Rows.fnExactSafeRow.laidByTextAt .later Tryd.pinned [.mapped, .mapped] true :=
  OpenClaim.laidByTextAt_later rfl rfl tie noOwnUnsafe
theorem tie2 : Tryd.prog.laidByTextLater [("loop.example/s01308/impl.constOps", Rows.laid_loop_example_s01308_impl_constOps), ("loop.example/s01308/impl.opcodes", Rows.laid_loop_example_s01308_impl_opcodes)] [.mapped, .mapped] true :=
  Program.laidByTextLater.sub seatTie1 ["loop.example/s01308/impl.constOps", "loop.example/s01308/impl.opcodes"] (by kernel_rfl) (by kernel_rfl)
theorem fnExactVerify_row_tie : Rows.fnExactVerifyRow.laidByTextAt .later Tryd.pinned [.mapped, .mapped] true :=
  OpenClaim.laidByTextAt_later rfl rfl tie2 noOwnUnsafe
theorem tie3 : Tryd.prog.laidByTextLater [("math/bits.deBruijn32tab", Rows.laid_math_bits_deBruijn32tab), ("math/bits.deBruijn64tab", Rows.laid_math_bits_deBruijn64tab), ("internal/strconv.uint64pow10", Rows.laid_internal_strconv_uint64pow10), ("errors.errorType", Rows.laid_errors_errorType), ("strconv.ErrRange", Rows.laid_strconv_ErrRange), ("strconv.ErrSyntax", Rows.laid_strconv_ErrSyntax), ("loop.example/s01308/impl.errByte", Rows.laid_loop_example_s01308_impl_errByte), ("loop.example/s01308/impl.errToken", Rows.laid_loop_example_s01308_impl_errToken), ("loop.example/s01308/impl.errSyntax", Rows.laid_loop_example_s01308_impl_errSyntax), ("loop.example/s01308/impl.errLimit", Rows.laid_loop_example_s01308_impl_errLimit), ("loop.example/s01308/impl.errDepth", Rows.laid_loop_example_s01308_impl_errDepth), ("loop.example/s01308/impl.reserved", Rows.laid_loop_example_s01308_impl_reserved)] [.data, .data, .data, .handle, .sentinel, .sentinel, .sentinel, .sentinel, .sentinel, .sentinel, .sentinel, .mapped] true :=
  Program.laidByTextLater.sub seatTie1 ["math/bits.deBruijn32tab", "math/bits.deBruijn64tab", "internal/strconv.uint64pow10", "errors.errorType", "strconv.ErrRange", "strconv.ErrSyntax", "loop.example/s01308/impl.errByte", "loop.example/s01308/impl.errToken", "loop.example/s01308/impl.errSyntax", "loop.example/s01308/impl.errLimit", "loop.example/s01308/impl.errDepth", "loop.example/s01308/impl.reserved"] (by kernel_rfl) (by kernel_rfl)
theorem fnExactScan_row_tie : Rows.fnExactScanRow.laidByTextAt .later Tryd.pinned [.data, .data, .data, .handle, .sentinel, .sentinel, .sentinel, .sentinel, .sentinel, .sentinel, .sentinel, .mapped] true :=
  OpenClaim.laidByTextAt_later rfl rfl tie3 noOwnUnsafe
theorem fnExactValidPolicyUpto_row_tie : Rows.fnExactValidPolicyUptoRow.laidByTextAt .later Tryd.pinned [.mapped, .mapped] true :=
  OpenClaim.laidByTextAt_later rfl rfl tie noOwnUnsafe
theorem fnExactVerifyUpto_row_tie : Rows.fnExactVerifyUptoRow.laidByTextAt .later Tryd.pinned [.mapped, .mapped] true :=
  OpenClaim.laidByTextAt_later rfl rfl tie2 noOwnUnsafe
theorem fnExactWellTypedUpto_row_tie : Rows.fnExactWellTypedUptoRow.laidByTextAt .later Tryd.pinned [.mapped, .mapped] true :=
  OpenClaim.laidByTextAt_later rfl rfl tie noOwnUnsafe
theorem fnExactScanUpto_row_tie : Rows.fnExactScanUptoRow.laidByTextAt .later Tryd.pinned [.data, .data, .data, .handle, .sentinel, .sentinel, .sentinel, .sentinel, .sentinel, .sentinel, .sentinel, .mapped] true :=
  OpenClaim.laidByTextAt_later rfl rfl tie3 noOwnUnsafe
theorem fnExactSafeUpto_row_tie : Rows.fnExactSafeUptoRow.laidByTextAt .later Tryd.pinned [.mapped, .mapped] true :=
  OpenClaim.laidByTextAt_later rfl rfl tie noOwnUnsafe
end Go.Proofs.YtmbonalhbibppaaDoor
