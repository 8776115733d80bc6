/-
  DERIVED. GIVEN WITH THE SEED: THE PROGRAM's TIES (one call each: nine closed facts by the kernel) AND EACH ROW's TIE, after the 31st guide's Derived/Test/Toyas{Tie, Card}.lean. No idea stands in it: it is a product of the set-up. Laid BY PROGRAM, IN A SANDBOX (cutbox-door.mjs). By AI agents, Wed Nov 11 2026. No macro, syntax, notation, axiom, sorry.
-/
import Derived.Test.YtkedmcebngachaaGreatDoorRows
import Derived.LaidByTextLater
import Derived.SevenTiedAt
import Derived.LaidSub
import Derived.LaidOnce
namespace Go.Proofs.YtkedmcebngachaaGreatDoor
open Go
set_option maxRecDepth 100000
theorem seatTie1 : Tryz.prog.laidByTextLater [("loop.example/s01308/impl.errOverflow", Rows.laid_loop_example_s01308_impl_errOverflow), ("loop.example/s01308/impl.errZero", Rows.laid_loop_example_s01308_impl_errZero), ("loop.example/s01308/impl.errWide", Rows.laid_loop_example_s01308_impl_errWide), ("loop.example/s01308/impl.reserved", Rows.laid_loop_example_s01308_impl_reserved), ("loop.example/s01308/impl.constOps", Rows.laid_loop_example_s01308_impl_constOps), ("loop.example/s01308/impl.calcOps", Rows.laid_loop_example_s01308_impl_calcOps), ("loop.example/s01308/impl.opcodes", Rows.laid_loop_example_s01308_impl_opcodes)] [.sentinel, .sentinel, .sentinel, .mapped, .mapped, .mapped, .mapped] true :=
  Program.laidByTextLater_by_one 291 8 2 (by kernel_rfl) (by kernel_rfl) (by kernel_rfl) (by kernel_rfl) (by kernel_rfl) (by kernel_rfl) (fun _ _ => by kernel_rfl)
theorem noOwnUnsafe : Tryz.pinned.checked.prog.headLifts.contains "ownunsafe" = false := by kernel_rfl
theorem tie : Tryz.prog.laidByTextLater [("loop.example/s01308/impl.errOverflow", Rows.laid_loop_example_s01308_impl_errOverflow), ("loop.example/s01308/impl.errZero", Rows.laid_loop_example_s01308_impl_errZero), ("loop.example/s01308/impl.errWide", Rows.laid_loop_example_s01308_impl_errWide), ("loop.example/s01308/impl.constOps", Rows.laid_loop_example_s01308_impl_constOps), ("loop.example/s01308/impl.calcOps", Rows.laid_loop_example_s01308_impl_calcOps), ("loop.example/s01308/impl.opcodes", Rows.laid_loop_example_s01308_impl_opcodes)] [.sentinel, .sentinel, .sentinel, .mapped, .mapped, .mapped] true :=
  Program.laidByTextLater.sub seatTie1 ["loop.example/s01308/impl.errOverflow", "loop.example/s01308/impl.errZero", "loop.example/s01308/impl.errWide", "loop.example/s01308/impl.constOps", "loop.example/s01308/impl.calcOps", "loop.example/s01308/impl.opcodes"] (by kernel_rfl) (by kernel_rfl)
theorem fnExactRun_row_tie : Rows.fnExactRunRow.laidByTextAt .later Tryz.pinned [.sentinel, .sentinel, .sentinel, .mapped, .mapped, .mapped] true :=
  OpenClaim.laidByTextAt_later rfl rfl tie noOwnUnsafe
theorem tie2 : Tryz.prog.laidByTextLater [("loop.example/s01308/impl.errOverflow", Rows.laid_loop_example_s01308_impl_errOverflow), ("loop.example/s01308/impl.errZero", Rows.laid_loop_example_s01308_impl_errZero), ("loop.example/s01308/impl.errWide", Rows.laid_loop_example_s01308_impl_errWide), ("loop.example/s01308/impl.reserved", Rows.laid_loop_example_s01308_impl_reserved), ("loop.example/s01308/impl.constOps", Rows.laid_loop_example_s01308_impl_constOps), ("loop.example/s01308/impl.calcOps", Rows.laid_loop_example_s01308_impl_calcOps)] [.sentinel, .sentinel, .sentinel, .mapped, .mapped, .mapped] true :=
  Program.laidByTextLater.sub seatTie1 ["loop.example/s01308/impl.errOverflow", "loop.example/s01308/impl.errZero", "loop.example/s01308/impl.errWide", "loop.example/s01308/impl.reserved", "loop.example/s01308/impl.constOps", "loop.example/s01308/impl.calcOps"] (by kernel_rfl) (by kernel_rfl)
theorem fnExactOptimize_row_tie : Rows.fnExactOptimizeRow.laidByTextAt .later Tryz.pinned [.sentinel, .sentinel, .sentinel, .mapped, .mapped, .mapped] true :=
  OpenClaim.laidByTextAt_later rfl rfl tie2 noOwnUnsafe
theorem fnOptimized_row_tie : Rows.fnOptimizedRow.laidByTextAt .later Tryz.pinned [.sentinel, .sentinel, .sentinel, .mapped, .mapped, .mapped] true :=
  OpenClaim.laidByTextAt_later rfl rfl tie2 noOwnUnsafe
theorem fnExactRunUpto_row_tie : Rows.fnExactRunUptoRow.laidByTextAt .later Tryz.pinned [.sentinel, .sentinel, .sentinel, .mapped, .mapped, .mapped] true :=
  OpenClaim.laidByTextAt_later rfl rfl tie noOwnUnsafe
theorem fnExactOptimizeUpto_row_tie : Rows.fnExactOptimizeUptoRow.laidByTextAt .later Tryz.pinned [.sentinel, .sentinel, .sentinel, .mapped, .mapped, .mapped] true :=
  OpenClaim.laidByTextAt_later rfl rfl tie2 noOwnUnsafe
theorem fnOptimizedUpto_row_tie : Rows.fnOptimizedUptoRow.laidByTextAt .later Tryz.pinned [.sentinel, .sentinel, .sentinel, .mapped, .mapped, .mapped] true :=
  OpenClaim.laidByTextAt_later rfl rfl tie2 noOwnUnsafe
end Go.Proofs.YtkedmcebngachaaGreatDoor
