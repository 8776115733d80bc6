/- The type table's rows of this seat, as the engine asks for them. -/
import Derived.Test.YtpphichjabjodaaRows
import Derived.Test.YtpphichjabjodaaEng2
namespace Go.Proofs.Ytpphichjabjodaa
open Go.Eng
theorem fol : Try.prog.follows .mixedOrders = true := by kernel_rfl
theorem uStr : Try.prog.underlying 9 = some .string := Try.underlying9
theorem uBool : Try.prog.underlying 4 = some .bool := Try.underlying4
theorem cStr : Cel Try.prog 9 := ⟨_, uStr, by simp, by simp⟩
theorem tStrs : Slc Try.prog 24 9 (.string ⟨#[]⟩) 1 16 := ⟨Try.underlying24, by kernel_rfl⟩
end Go.Proofs.Ytpphichjabjodaa
