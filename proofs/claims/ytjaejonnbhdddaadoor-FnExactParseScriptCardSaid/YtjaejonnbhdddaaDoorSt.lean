/- The type table's rows of this seat, as the engine asks for them. -/
import Derived.Test.YtjaejonnbhdddaaDoorRows
import Derived.Test.YtjaejonnbhdddaaDoorEng2
namespace Go.Proofs.YtjaejonnbhdddaaDoor
open Go.Eng
theorem fol : Tryd.prog.follows .mixedOrders = true := by kernel_rfl
theorem uStr : Tryd.prog.underlying 9 = some .string := Tryd.underlying9
theorem uBool : Tryd.prog.underlying 4 = some .bool := Tryd.underlying4
theorem cStr : Cel Tryd.prog 9 := ⟨_, uStr, by simp, by simp⟩
theorem tStrs : Slc Tryd.prog 23 9 (.string ⟨#[]⟩) 1 16 := ⟨Tryd.underlying23, by kernel_rfl⟩
theorem uU8 : Tryd.prog.underlying 5 = some (.int .u8) := Tryd.underlying5
theorem uInt : Tryd.prog.underlying 3 = some (.int .i64) := Tryd.underlying3
theorem tBytes : Slc Tryd.prog 22 5 (.int .u8 0) 1 1 := ⟨Tryd.underlying22, by kernel_rfl⟩
end Go.Proofs.YtjaejonnbhdddaaDoor
