/- Opening a law's arguments: what the row's reading of them gives the walks. -/
import Derived.Test.YtmbonalhbibppaaDoorSt
import Derived.ProofKit
import Derived.OpenShut
import Derived.ShutString
import Derived.ChangeOld
import Derived.SizedLaws
import Derived.SliceStrings
namespace Go.Proofs.YtmbonalhbibppaaDoor
open Go.ChangeShapes Go.WideShapes Go.ChangeAt Go.RowKit Go.Eng
open Go.ChangeMaps (open_string shut_string)
set_option maxRecDepth 100000
theorem own : ownKnob Tryd.prog.godebug = none := by kernel_rfl
theorem laidOut : laidOutB Tryd.prog = true := by kernel_rfl
section
variable {H : Type} {enc : TypeId × Value → H} {w : World} {base : Nat} {held : Bool}
theorem open_strs {v : Value} {d : DataW H} {ps : List MemPlace} {r : Reach} {b0 : Nat} (hv : Value.okWide Tryd.prog w r b0 120 v) (h : DataW.Trod enc Tryd.prog w base (fun _ => true) held 120 v d ps) :
    ∃ A len cap xs, v = .slice A len cap ∧ Strs w A len cap xs := by
  obtain ⟨a0, len, cap, rfl⟩ := okWide_slice Tryd.underlying120 hv
  obtain ⟨fuel, hf⟩ := h
  rcases open_strings Tryd.underlying120 uStr (by kernel_rfl) hf with ⟨hcs, _⟩ | ⟨a, len', cap', ss, hcs, _, hl, hm, hz, _, hcell, hws⟩
  · simp only [Value.cells, List.cons.injEq, Value.slice.injEq, and_true] at hcs
    obtain ⟨rfl, rfl, rfl⟩ := hcs
    exact ⟨none, 0, 0, [], rfl, rfl, by omega, by omega, ⟨by simp, by simp⟩, by simp⟩
  · simp only [Value.cells, List.cons.injEq, Value.slice.injEq, and_true] at hcs
    obtain ⟨rfl, rfl, rfl⟩ := hcs
    simp only [if_true] at hz
    unfold maxLen at hm
    refine ⟨some a, len, cap, ss.take len, rfl, by simp; omega, by omega, hl, ⟨fun _ => ⟨a, rfl⟩, fun a' ha' j v hv => ?_⟩, fun s hs => ?_⟩
    · cases ha'
      rw [List.getElem?_map, List.getElem?_take] at hv
      split at hv
      · rename_i hj
        rw [hcell j (by omega), ← hv, List.getD_eq_getElem?_getD, List.getElem?_eq_getElem (by omega)]
        simp
      · simp at hv
    · have := hws s (List.mem_of_mem_take hs)
      unfold maxLen at this; omega
end
end Go.Proofs.YtmbonalhbibppaaDoor
