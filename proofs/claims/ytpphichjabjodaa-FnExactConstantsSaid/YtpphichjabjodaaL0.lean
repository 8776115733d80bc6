/- Every constant of the program is the document's. No condition. -/
import Derived.Test.YtpphichjabjodaaSt
namespace Go.Proofs.Ytpphichjabjodaa
open Go.Eng
set_option maxRecDepth 100000 in
theorem lawConstants (w : World) : QF Try.prog 3 [] w (.bool true) := by
  refine QF.intro Try.func3 (by kernel_rfl) fun w1 hs E R hE hr hR => ?_
  conv => cbv
  rw [hR]; exact ⟨rfl, hs⟩
end Go.Proofs.Ytpphichjabjodaa
