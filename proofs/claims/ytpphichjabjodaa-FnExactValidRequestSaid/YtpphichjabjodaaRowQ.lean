/- Opening a request. -/
import Derived.Test.YtpphichjabjodaaRowK
import Derived.Test.YtpphichjabjodaaL8
namespace Go.Proofs.Ytpphichjabjodaa
open Go.ChangeShapes Go.WideShapes Go.ChangeAt Go.RowKit Go.Eng
section
variable {H : Type} {enc : TypeId × Value → H} {w : World} {base : Nat} {held : Bool} {fuel : Nat} {x : DataW H × List MemPlace}
theorem list6 {α : Type} {l : List α} (h : l.length = 6) : ∃ a b c d e f, l = [a, b, c, d, e, f] := by
  match l, h with
  | [a, b, c, d, e, f], _ => exact ⟨a, b, c, d, e, f, rfl⟩
theorem fldAt {P : Program} {sp : Nat → Bool} {fs : Array Field} {cs : List Value} {xs : List (DataW H × List MemPlace)} {n : Nat} (hlen : xs.length = fs.size) (hf : ∀ (i : Nat) (f : Field), fs[i]? = some f → DataW.trod enc P w base sp held n f.type ((cs.drop f.offset).take (P.cellsOf f.type)) = xs[i]?)
    (i : Nat) (f : Field) (hi : fs[i]? = some f) : ∃ x, DataW.trod enc P w base sp held n f.type ((cs.drop f.offset).take (P.cellsOf f.type)) = some x := by
  have h1 := (Array.getElem?_eq_some_iff.1 hi).1
  exact ⟨xs[i]'(by omega), by rw [hf i f hi]; simp⟩
theorem strs_of_cells {cs : List Value} (h : DataW.trod enc Try.prog w base (fun _ => true) held fuel 24 cs = some x) : ∃ A n c xs, cs = [.slice A n c] ∧ Strs w A n c xs := by
  rcases open_strings Try.underlying24 uStr (by kernel_rfl) h with ⟨hcs, _⟩ | ⟨a, len, cap, ss, hcs, _, hl, hm, hz, _, hcell, hws⟩
  · exact ⟨none, 0, 0, [], hcs, rfl, by omega, by omega, ⟨by simp, by simp⟩, by simp⟩
  · simp only [if_true] at hz
    unfold maxLen at hm
    refine ⟨some a, len, cap, ss.take len, hcs, by simp; omega, by omega, hl, ⟨fun _ => ⟨a, rfl⟩, fun a' ha' j v hv => ?_⟩, fun s hs => ?_⟩
    · cases ha'
      rw [List.getElem?_map, List.getElem?_take] at hv
      split at hv
      · rename_i hj
        rw [hcell j (by omega), ← hv, List.getD_eq_getElem?_getD, List.getElem?_eq_getElem (by omega)]
        simp
      · simp at hv
    · have := hws s (List.mem_of_mem_take hs)
      unfold maxLen at this; omega
theorem open_lreq {v : Value} {d : DataW H} {ps : List MemPlace} {r : Reach} {b0 : Nat} (hv : Value.okWide Try.prog w r b0 30 v) (h : DataW.Trod enc Try.prog w base (fun _ => true) held 30 v d ps) :
    ∃ cl us lv nw A n c xs A' n' c' ys, v = .agg ⟨[.string cl, .string us, .int .i64 lv, .int .i64 nw, .slice A n c, .slice A' n' c']⟩ ∧ cl.size ≤ 9223372036854775807 ∧ us.size ≤ 9223372036854775807 ∧ Strs w A n c xs ∧ Strs w A' n' c' ys := by
  obtain ⟨cs, rfl, hl⟩ := okWide_struct Try.underlying30 hv
  obtain ⟨fuel, hf⟩ := h
  obtain ⟨xs, m, _, _, _, hlen, hfs⟩ := DataW.trod_struct Try.underlying30 hf
  rw [show Try.prog.cellsOf 30 = 6 by kernel_rfl] at hl
  obtain ⟨l⟩ := cs
  obtain ⟨c0, c1, c2, c3, c4, c5, rfl⟩ := list6 (by simpa using hl)
  obtain ⟨x0, h0⟩ := fldAt hlen hfs 0 _ rfl
  obtain ⟨x1, h1⟩ := fldAt hlen hfs 1 _ rfl
  obtain ⟨x2, h2⟩ := fldAt hlen hfs 2 _ rfl
  obtain ⟨x3, h3⟩ := fldAt hlen hfs 3 _ rfl
  obtain ⟨x4, h4⟩ := fldAt hlen hfs 4 _ rfl
  obtain ⟨x5, h5⟩ := fldAt hlen hfs 5 _ rfl




  obtain ⟨s0, g0, _, k0⟩ := DataW.trod_string uStr h0
  obtain ⟨s1, g1, _, k1⟩ := DataW.trod_string uStr h1
  obtain ⟨z2, g2, _⟩ := DataW.trod_int uI64 h2
  obtain ⟨z3, g3, _⟩ := DataW.trod_int uI64 h3
  obtain ⟨A4, n4, d4, q4, g4, k4⟩ := strs_of_cells h4
  obtain ⟨A5, n5, d5, q5, g5, k5⟩ := strs_of_cells h5
  cases g0; cases g1; cases g2; cases g3; cases g4; cases g5
  unfold maxLen at k0 k1
  exact ⟨s0, s1, z2, z3, A4, n4, d4, q4, A5, n5, d5, q5, rfl, by omega, by omega, k4, k5⟩
end
end Go.Proofs.Ytpphichjabjodaa
