/- Opening an ask among a law's arguments; the table of powers of ten out of a row's condition. -/
import Derived.Test.YtpphichjabjodaaDoorRowK
import Derived.Test.YtpphichjabjodaaDoorL18
import Derived.LaidMore
import Derived.Lib.LaidTab
namespace Go.Proofs.YtpphichjabjodaaDoor
open Go.ChangeShapes Go.WideShapes Go.ChangeAt Go.RowKit Go.Eng
set_option maxRecDepth 100000
theorem list4 {α : Type} : ∀ {l : List α}, l.length = 4 → ∃ a b c d, l = [a, b, c, d]
  | [a, b, c, d], _ => ⟨a, b, c, d, rfl⟩
section
variable {H : Type} {enc : TypeId × Value → H} {w : World} {base : Nat} {held : Bool} {fuel : Nat} {x : DataW H × List MemPlace}
theorem fldAtA {P : Program} {sp : Nat → Bool} {fs : Array Field} {cs : List Value} {xs : List (DataW H × List MemPlace)} {n : Nat} (hlen : xs.length = fs.size) (hf : ∀ (i : Nat) (f : Field), fs[i]? = some f → DataW.trod enc P w base sp held n f.type ((cs.drop f.offset).take (P.cellsOf f.type)) = xs[i]?)
    (i : Nat) (f : Field) (hi : fs[i]? = some f) : ∃ x, DataW.trod enc P w base sp held n f.type ((cs.drop f.offset).take (P.cellsOf f.type)) = some x := by
  have h1 := (Array.getElem?_eq_some_iff.1 hi).1
  exact ⟨xs[i]'(by omega), by rw [hf i f hi]; simp⟩
theorem strs_of_cellsA {cs : List Value} (h : DataW.trod enc Tryd.prog w base (fun _ => true) held fuel 29 cs = some x) : ∃ A n c xs, cs = [.slice A n c] ∧ Strs w A n c xs := by
  rcases open_strings Tryd.underlying29 uStr (by kernel_rfl) h with ⟨hcs, _⟩ | ⟨a, len, cap, ss, hcs, _, hl, hm, hz, _, hcell, hws⟩
  · exact ⟨none, 0, 0, [], hcs, rfl, by omega, by omega, ⟨by simp, by simp⟩, by simp⟩
  · simp only [if_true] at hz
    unfold maxLen at hm
    refine ⟨some a, len, cap, ss.take len, hcs, by simp; omega, by omega, hl, ⟨fun _ => ⟨a, rfl⟩, fun a' ha' j v hv => ?_⟩, fun s hs => ?_⟩
    · cases ha'
      rw [List.getElem?_map, List.getElem?_take] at hv
      split at hv
      · rename_i hj
        rw [hcell j (by omega), ← hv, List.getD_eq_getElem?_getD, List.getElem?_eq_getElem (by omega)]
        simp
      · simp at hv
    · have := hws s (List.mem_of_mem_take hs)
      unfold maxLen at this; omega
theorem open_lask {v : Value} {d : DataW H} {ps : List MemPlace} {r : Reach} {b0 : Nat} (hv : Value.okWide Tryd.prog w r b0 36 v) (h : DataW.Trod enc Tryd.prog w base (fun _ => true) held 36 v d ps) :
    ∃ cl us lv A n c xs, v = askV cl us lv A n c ∧ cl.size ≤ 9223372036854775807 ∧ us.size ≤ 9223372036854775807 ∧ Strs w A n c xs := by
  obtain ⟨cs, rfl, hl⟩ := okWide_struct Tryd.underlying36 hv
  obtain ⟨fuel, hf⟩ := h
  obtain ⟨xs, m, _, _, _, hlen, hfs⟩ := DataW.trod_struct Tryd.underlying36 hf
  rw [show Tryd.prog.cellsOf 36 = 4 by kernel_rfl] at hl
  obtain ⟨l⟩ := cs
  obtain ⟨c0, c1, c2, c3, rfl⟩ := list4 (by simpa using hl)
  obtain ⟨x0, h0⟩ := fldAtA hlen hfs 0 _ rfl
  obtain ⟨x1, h1⟩ := fldAtA hlen hfs 1 _ rfl
  obtain ⟨x2, h2⟩ := fldAtA hlen hfs 2 _ rfl
  obtain ⟨x3, h3⟩ := fldAtA hlen hfs 3 _ rfl
  obtain ⟨s0, g0, _, k0⟩ := DataW.trod_string uStr h0
  obtain ⟨s1, g1, _, k1⟩ := DataW.trod_string uStr h1
  obtain ⟨z2, g2, _⟩ := DataW.trod_int uI64a h2
  obtain ⟨A3, n3, d3, q3, g3, k3⟩ := strs_of_cellsA h3
  cases g0; cases g1; cases g2; cases g3
  unfold maxLen at k0 k1
  exact ⟨s0, s1, z2, A3, n3, d3, q3, rfl, by omega, by omega, k3⟩
end
theorem gPow : Tryd.prog.globalNamed "internal/strconv.uint64pow10" = some 3 := by kernel_rfl
theorem pow_of_laid {W : World} {n0 n1 : String} {d0 d1 : DataW Unit}
    (h : laidMet Tryd.prog [(n0, d0), (n1, d1), ("internal/strconv.uint64pow10", Lib.tabData .u64 Lib.pow10Tab)] W) : Pow W := by
  obtain ⟨ps, ⟨g0, t0, cs0, f0, p0, q0, hg0, ht0, hv0, hd0, ⟨g1, t1, cs1, f1, p1, q1, hg1, ht1, hv1, hd1, ⟨g2, t2, cs2, f2, p2, q2, hg2, ht2, hv2, hd2, _, _⟩, _⟩, _⟩, _⟩ := h
  obtain rfl := Option.some.inj (gPow.symm.trans hg2)
  obtain ⟨t, e, n, hty, ht, he, hce, hct⟩ : ∃ t e n, (Tryd.prog.globals[3]?).map (·.type) = some t ∧ Tryd.prog.underlying t = some (.array n e) ∧ Tryd.prog.underlying e = some (.int .u64) ∧ Tryd.prog.cellsOf e = 1 ∧ Tryd.prog.cellsOf t = n :=
    ⟨108, 43, 20, by kernel_rfl, by kernel_rfl, by kernel_rfl, by kernel_rfl, by kernel_rfl⟩
  obtain rfl := Option.some.inj (hty.symm.trans ht2)
  unfold Pow Lib.TabIs
  rw [hv2, ← Lib.cells_of_tab ht he hce hct hd2]
end Go.Proofs.YtpphichjabjodaaDoor
