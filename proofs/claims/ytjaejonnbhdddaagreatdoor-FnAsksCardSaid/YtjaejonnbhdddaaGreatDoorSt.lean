/- The type table's rows of this seat, as the engine asks for them. -/
import Derived.Test.YtjaejonnbhdddaaGreatDoorRows
import Derived.Test.YtjaejonnbhdddaaGreatDoorEng2
namespace Go.Proofs.YtjaejonnbhdddaaGreatDoor
open Go.Eng
theorem fol : Tryz.prog.follows .mixedOrders = true := by kernel_rfl
theorem uStr : Tryz.prog.underlying 9 = some .string := Tryz.underlying9
theorem uBool : Tryz.prog.underlying 4 = some .bool := Tryz.underlying4
theorem cStr : Cel Tryz.prog 9 := ⟨_, uStr, by simp, by simp⟩
theorem tStrs : Slc Tryz.prog 23 9 (.string ⟨#[]⟩) 1 16 := ⟨Tryz.underlying23, by kernel_rfl⟩
theorem uU8 : Tryz.prog.underlying 5 = some (.int .u8) := Tryz.underlying5
theorem uInt : Tryz.prog.underlying 3 = some (.int .i64) := Tryz.underlying3
theorem tBytes : Slc Tryz.prog 22 5 (.int .u8 0) 1 1 := ⟨Tryz.underlying22, by kernel_rfl⟩
end Go.Proofs.YtjaejonnbhdddaaGreatDoor
