/- The type table's rows of this seat, as the engine asks for them. -/
import Derived.Test.YtpphichjabjodaaRows
import Derived.Test.YtpphichjabjodaaEng2
namespace Go.Proofs.Ytpphichjabjodaa
open Go.Eng
theorem fol : Try.prog.follows .mixedOrders = true := by kernel_rfl
theorem uStr : Try.prog.underlying 9 = some .string := Try.underlying9
theorem uBool : Try.prog.underlying 4 = some .bool := Try.underlying4
theorem cStr : Cel Try.prog 9 := ⟨_, uStr, by simp, by simp⟩
theorem tStrs : Slc Try.prog 24 9 (.string ⟨#[]⟩) 1 16 := ⟨Try.underlying24, by kernel_rfl⟩
theorem uU8 : Try.prog.underlying 5 = some (.int .u8) := Try.underlying5
theorem uInt : Try.prog.underlying 3 = some (.int .i64) := Try.underlying3
theorem tBytes : Slc Try.prog 46 5 (.int .u8 0) 1 1 := ⟨Try.underlying46, by kernel_rfl⟩
end Go.Proofs.Ytpphichjabjodaa
