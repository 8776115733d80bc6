/-
  DERIVED. GIVEN WITH THE SEED: THE PROGRAM's TIES (one call each: nine closed facts by the kernel) AND EACH ROW's TIE, after the 31st guide's Derived/Test/Toyas{Tie, Card}.lean. No idea stands in it: it is a product of the set-up. Laid BY PROGRAM, IN A SANDBOX (cutbox-door.mjs). By AI agents, Wed Nov 11 2026. No macro, syntax, notation, axiom, sorry.
-/
import Derived.Test.YtgdnmpcaiaoaoaaDoorRows
import Derived.LaidByTextLater
import Derived.SevenTiedAt
import Derived.LaidSub
import Derived.LaidOnce
namespace Go.Proofs.YtgdnmpcaiaoaoaaDoor
open Go
set_option maxRecDepth 100000
theorem seatTie1 : Tryd.prog.laidByTextLater [("math/bits.deBruijn32tab", Rows.laid_math_bits_deBruijn32tab), ("math/bits.deBruijn64tab", Rows.laid_math_bits_deBruijn64tab), ("internal/strconv.uint64pow10", Rows.laid_internal_strconv_uint64pow10), ("loop.example/s01308/impl.reserved", Rows.laid_loop_example_s01308_impl_reserved), ("loop.example/s01308/impl.constOps", Rows.laid_loop_example_s01308_impl_constOps), ("loop.example/s01308/impl.signs", Rows.laid_loop_example_s01308_impl_signs)] [.data, .data, .data, .mapped, .mapped, .mapped] true :=
  Program.laidByTextLater_by_one 214 8 65 (by kernel_rfl) (by kernel_rfl) (by kernel_rfl) (by kernel_rfl) (by kernel_rfl) (by kernel_rfl) (fun _ _ => by kernel_rfl)
theorem noOwnUnsafe : Tryd.pinned.checked.prog.headLifts.contains "ownunsafe" = false := by kernel_rfl
theorem tie : Tryd.prog.laidByTextLater [("math/bits.deBruijn32tab", Rows.laid_math_bits_deBruijn32tab), ("math/bits.deBruijn64tab", Rows.laid_math_bits_deBruijn64tab), ("internal/strconv.uint64pow10", Rows.laid_internal_strconv_uint64pow10), ("loop.example/s01308/impl.reserved", Rows.laid_loop_example_s01308_impl_reserved), ("loop.example/s01308/impl.constOps", Rows.laid_loop_example_s01308_impl_constOps), ("loop.example/s01308/impl.signs", Rows.laid_loop_example_s01308_impl_signs)] [.data, .data, .data, .mapped, .mapped, .mapped] true :=
  Program.laidByTextLater.sub seatTie1 ["math/bits.deBruijn32tab", "math/bits.deBruijn64tab", "internal/strconv.uint64pow10", "loop.example/s01308/impl.reserved", "loop.example/s01308/impl.constOps", "loop.example/s01308/impl.signs"] (by kernel_rfl) (by kernel_rfl)
theorem fnExactPrint_row_tie : Rows.fnExactPrintRow.laidByTextAt .later Tryd.pinned [.data, .data, .data, .mapped, .mapped, .mapped] true :=
  OpenClaim.laidByTextAt_later rfl rfl tie noOwnUnsafe
theorem fnExactPrintUpto_row_tie : Rows.fnExactPrintUptoRow.laidByTextAt .later Tryd.pinned [.data, .data, .data, .mapped, .mapped, .mapped] true :=
  OpenClaim.laidByTextAt_later rfl rfl tie noOwnUnsafe
end Go.Proofs.YtgdnmpcaiaoaoaaDoor
