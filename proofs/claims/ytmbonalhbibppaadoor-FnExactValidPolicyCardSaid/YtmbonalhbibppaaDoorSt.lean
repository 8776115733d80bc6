/- The type table's rows of this seat, as the engine asks for them. -/
import Derived.Test.YtmbonalhbibppaaDoorRows
import Derived.Test.YtmbonalhbibppaaDoorEng2
namespace Go.Proofs.YtmbonalhbibppaaDoor
open Go.Eng
theorem fol : Tryd.prog.follows .mixedOrders = true := by kernel_rfl
theorem uStr : Tryd.prog.underlying 9 = some .string := Tryd.underlying9
theorem uBool : Tryd.prog.underlying 4 = some .bool := Tryd.underlying4
theorem cStr : Cel Tryd.prog 9 := ⟨_, uStr, by simp, by simp⟩
theorem tStrs : Slc Tryd.prog 120 9 (.string ⟨#[]⟩) 1 16 := ⟨Tryd.underlying120, by kernel_rfl⟩
theorem uU8 : Tryd.prog.underlying 5 = some (.int .u8) := Tryd.underlying5
theorem uInt : Tryd.prog.underlying 3 = some (.int .i64) := Tryd.underlying3
theorem tBytes : Slc Tryd.prog 181 5 (.int .u8 0) 1 1 := ⟨Tryd.underlying181, by kernel_rfl⟩
end Go.Proofs.YtmbonalhbibppaaDoor
