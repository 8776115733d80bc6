/- Opening policies among a law's arguments; the table of reserved words. -/
import Derived.Test.YtmbonalhbibppaaDoorRowM
import Derived.Test.YtmbonalhbibppaaDoorP6
import Derived.Test.YtmbonalhbibppaaDoorP1
namespace Go.Proofs.YtmbonalhbibppaaDoor
open Go.ChangeShapes Go.WideShapes Go.ChangeAt Go.RowKit Go.Eng
set_option maxRecDepth 100000
theorem list5m {α : Type} : ∀ {l : List α}, l.length = 5 → ∃ a b c d e, l = [a, b, c, d, e]
  | [a, b, c, d, e], _ => ⟨a, b, c, d, e, rfl⟩
theorem fm_map {α β : Type} (f : α → β) (l : List α) : (l.flatMap fun x => [f x]) = l.map f := by
  induction l with
  | nil => rfl
  | cons a l ih => rw [List.flatMap_cons, ih]; rfl
theorem res_words {w : World} {v : Nat} (h : STab w v resL) : STab w v words := stab_perm h (by decide +kernel) (by decide +kernel)
section
variable {H : Type} {enc : TypeId × Value → H} {w : World} {base : Nat} {held : Bool} {fuel : Nat} {x : DataW H × List MemPlace}
theorem ints_of_cellsM {cs : List Value} (h : DataW.trod enc Tryd.prog w base (fun _ => true) held fuel 49 cs = some x) : ∃ A n c zs, cs = [.slice A n c] ∧ Ints w A n c zs := by
  obtain ⟨A, n, c, zs, g, e1, e2, e3, e4, _⟩ := open_rowsM (f := fun z : Int => [Value.int .i64 z]) (k := 1) (Q := fun _ => True) Tryd.underlying49 (show Tryd.prog.cellsOf 3 = 1 by kernel_rfl) (by omega) (fun n cs x h => by
    obtain ⟨z, g, _⟩ := DataW.trod_int uInt h
    exact ⟨z, g, rfl, trivial⟩) h
  rw [fm_map] at e4
  exact ⟨A, n, c, zs, g, e1, e3, e2, e4⟩
theorem el_node (n : Nat) (cs : List Value) (x : DataW H × List MemPlace) (h : DataW.trod enc Tryd.prog w base (fun _ => true) held n 133 cs = some x) : ∃ v : VN, cs = cN v ∧ (cN v).length = 5 ∧ OKN w v := by
  obtain ⟨xs, m, _, _, hl, hlen, hfs⟩ := DataW.trod_struct Tryd.underlying133 h
  rw [show Tryd.prog.cellsOf 133 = 5 by kernel_rfl] at hl
  obtain ⟨c0, c1, c2, c3, c4, rfl⟩ := list5m hl
  obtain ⟨x0, h0⟩ := fldAtM hlen hfs 0 _ rfl
  obtain ⟨x1, h1⟩ := fldAtM hlen hfs 1 _ rfl
  obtain ⟨x2, h2⟩ := fldAtM hlen hfs 2 _ rfl
  obtain ⟨x3, h3⟩ := fldAtM hlen hfs 3 _ rfl
  obtain ⟨x4, h4⟩ := fldAtM hlen hfs 4 _ rfl
  obtain ⟨z0, g0, _⟩ := DataW.trod_int uInt h0
  obtain ⟨z1, g1, _⟩ := DataW.trod_int uI64 h1
  obtain ⟨s2, g2, _, k2⟩ := DataW.trod_string uStr h2
  obtain ⟨A3, n3, d3, q3, g3, k3⟩ := strs_of_cellsM h3
  obtain ⟨A4, n4, d4, q4, g4, k4⟩ := ints_of_cellsM h4
  cases g0; cases g1; cases g2; cases g3; cases g4
  unfold maxLen at k2
  exact ⟨⟨⟨z0, z1, s2, q3, q4⟩, A3, n3, d3, A4, n4, d4⟩, rfl, rfl, ⟨by simp only; omega, k3, k4⟩⟩
theorem el_stmt (n : Nat) (cs : List Value) (x : DataW H × List MemPlace) (h : DataW.trod enc Tryd.prog w base (fun _ => true) held n 136 cs = some x) : ∃ v : VS, cs = cS v ∧ (cS v).length = 4 ∧ OKS w v := by
  obtain ⟨xs, m, _, _, hl, hlen, hfs⟩ := DataW.trod_struct Tryd.underlying136 h
  rw [show Tryd.prog.cellsOf 136 = 4 by kernel_rfl] at hl
  obtain ⟨c0, c1, c2, c3, rfl⟩ := list4m hl
  obtain ⟨x0, h0⟩ := fldAtM hlen hfs 0 _ rfl
  obtain ⟨x1, h1⟩ := fldAtM hlen hfs 1 _ rfl
  obtain ⟨x2, h2⟩ := fldAtM hlen hfs 2 _ rfl
  obtain ⟨x3, h3⟩ := fldAtM hlen hfs 3 _ rfl
  obtain ⟨z0, g0, _⟩ := DataW.trod_int uInt h0
  obtain ⟨s1, g1, _, k1⟩ := DataW.trod_string uStr h1
  obtain ⟨z2, g2, _⟩ := DataW.trod_int uInt h2
  obtain ⟨z3, g3, _⟩ := DataW.trod_int uInt h3
  cases g0; cases g1; cases g2; cases g3
  unfold maxLen at k1
  exact ⟨⟨z0, s1, z2, z3⟩, rfl, rfl, ⟨by simp only; omega⟩⟩
theorem nodes_of_cellsM {cs : List Value} (h : DataW.trod enc Tryd.prog w base (fun _ => true) held fuel 22 cs = some x) : ∃ A n c nv, cs = [.slice A n c] ∧ RNs w A n nv ∧ n ≤ 9223372036854775807 := by
  obtain ⟨A, n, c, vs, g0, e1, e2, e3, e4, e5⟩ := open_rowsM (f := cN) Tryd.underlying22 (show Tryd.prog.cellsOf 133 = 5 by kernel_rfl) (by omega) el_node h
  exact ⟨A, n, c, vs.map (·.p), g0, ⟨vs, rfl, e1, e4, e5⟩, e3⟩
theorem stmts_of_cellsM {cs : List Value} (h : DataW.trod enc Tryd.prog w base (fun _ => true) held fuel 23 cs = some x) : ∃ A n c sv, cs = [.slice A n c] ∧ RSs w A n sv ∧ n ≤ 9223372036854775807 := by
  obtain ⟨A, n, c, vs, g0, e1, e2, e3, e4, e5⟩ := open_rowsM (f := cS) Tryd.underlying23 (show Tryd.prog.cellsOf 136 = 4 by kernel_rfl) (by omega) el_stmt h
  exact ⟨A, n, c, vs, g0, ⟨vs, rfl, e1, e4, e5⟩, e3⟩
theorem open_lpolicy {v : Value} {d : DataW H} {ps : List MemPlace} {r : Reach} {b0 : Nat} (hv : Value.okWide Tryd.prog w r b0 25 v) (h : DataW.Trod enc Tryd.prog w base (fun _ => true) held 25 v d ps) :
    ∃ A n c A2 n2 c2 nv sv, v = polV A n c A2 n2 c2 ∧ PolR w A n A2 n2 nv sv ∧ n ≤ 9223372036854775807 ∧ n2 ≤ 9223372036854775807 := by
  obtain ⟨cs, rfl, hl⟩ := okWide_struct Tryd.underlying25 hv
  obtain ⟨fuel, hf⟩ := h
  obtain ⟨xs, m, _, _, _, hlen, hfs⟩ := DataW.trod_struct Tryd.underlying25 hf
  rw [show Tryd.prog.cellsOf 25 = 2 by kernel_rfl] at hl
  obtain ⟨l⟩ := cs
  obtain ⟨c0, c1, rfl⟩ := list2m (l := l) (by simpa using hl)
  obtain ⟨x0, h0⟩ := fldAtM hlen hfs 0 _ rfl
  obtain ⟨x1, h1⟩ := fldAtM hlen hfs 1 _ rfl
  obtain ⟨A, n, c, nv, g0, k0, e0⟩ := nodes_of_cellsM h0
  obtain ⟨A2, n2, c2, sv, g1, k1, e1⟩ := stmts_of_cellsM h1
  cases g0; cases g1
  exact ⟨A, n, c, A2, n2, c2, nv, sv, rfl, ⟨k0, k1⟩, e0, e1⟩
end
end Go.Proofs.YtmbonalhbibppaaDoor
