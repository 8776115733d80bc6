/- Opening slices of structs among a law's arguments; tables of whole numbers out of a row's condition. -/
import Derived.Test.YtmbonalhbibppaaDoorRowK
import Derived.Test.YtmbonalhbibppaaDoorV1
import Derived.Deep.Slices
import Derived.WideKeyMaps
import Derived.WideKeyElems2
import Derived.Test.YtmbonalhbibppaaDoorEng15

import Derived.OpenVars
import Derived.LaidMore
import Derived.Stop.Joined
import Derived.Stop.LaidTwo
namespace Go.Proofs.YtmbonalhbibppaaDoor
open Go.ChangeShapes Go.WideShapes Go.ChangeAt Go.RowKit Go.Eng
set_option maxRecDepth 100000
theorem list4m {α : Type} : ∀ {l : List α}, l.length = 4 → ∃ a b c d, l = [a, b, c, d]
  | [a, b, c, d], _ => ⟨a, b, c, d, rfl⟩
theorem list3m {α : Type} : ∀ {l : List α}, l.length = 3 → ∃ a b c, l = [a, b, c]
  | [a, b, c], _ => ⟨a, b, c, rfl⟩
theorem list2m {α : Type} : ∀ {l : List α}, l.length = 2 → ∃ a b, l = [a, b]
  | [a, b], _ => ⟨a, b, rfl⟩
theorem pick_list {α : Type} {Q : Nat → α → Prop} : ∀ (n : Nat), (∀ i, i < n → ∃ y, Q i y) → ∃ ys : List α, ys.length = n ∧ ∀ i y, ys[i]? = some y → Q i y
  | 0, _ => ⟨[], rfl, by simp⟩
  | n + 1, h => by
    obtain ⟨ys, h1, h2⟩ := pick_list n fun i hi => h i (by omega)
    obtain ⟨y, hy⟩ := h n (by omega)
    refine ⟨ys ++ [y], by simp [h1], fun i z hz => ?_⟩
    rcases Nat.lt_or_ge i n with hi | hi
    · rw [List.getElem?_append_left (by omega)] at hz; exact h2 i z hz
    · rw [List.getElem?_append_right (by omega)] at hz
      have : i - ys.length = 0 := by
        rcases Nat.eq_zero_or_pos (i - ys.length) with h0 | h0
        · exact h0
        · rw [List.getElem?_eq_none (by simp; omega)] at hz; cases hz
      rw [this] at hz
      simp at hz
      subst hz
      have : i = n := by omega
      subst this; exact hy
section
variable {H : Type} {enc : TypeId × Value → H} {P : Program} {w : World} {base : Nat} {held : Bool} {fuel : Nat} {x : DataW H × List MemPlace}
theorem fldAtM {sp : Nat → Bool} {fs : Array Field} {cs : List Value} {xs : List (DataW H × List MemPlace)} {n : Nat} (hlen : xs.length = fs.size) (hf : ∀ (i : Nat) (f : Field), fs[i]? = some f → DataW.trod enc P w base sp held n f.type ((cs.drop f.offset).take (P.cellsOf f.type)) = xs[i]?)
    (i : Nat) (f : Field) (hi : fs[i]? = some f) : ∃ x, DataW.trod enc P w base sp held n f.type ((cs.drop f.offset).take (P.cellsOf f.type)) = some x := by
  have h1 := (Array.getElem?_eq_some_iff.1 hi).1
  exact ⟨xs[i]'(by omega), by rw [hf i f hi]; simp⟩
/-- A slice whose elements take k cells each. -/
theorem open_rowsM {α : Type} {f : α → List Value} {k : Nat} {Q : α → Prop} {t e : TypeId} {cs : List Value} (ht : P.underlying t = some (.slice e)) (hk : P.cellsOf e = k) (hk0 : 0 < k)
    (hel : ∀ n cs x, DataW.trod enc P w base (fun _ => true) held n e cs = some x → ∃ y, cs = f y ∧ (f y).length = k ∧ Q y)
    (h : DataW.trod enc P w base (fun _ => true) held fuel t cs = some x) :
    ∃ (A : Option Addr) (n c : Nat) (ys : List α), cs = [.slice A n c] ∧ ys.length = n ∧ n ≤ c ∧ n ≤ 9223372036854775807 ∧ Cells w A (ys.flatMap f) ∧ ∀ y ∈ ys, Q y := by
  rcases DataW.trod_slice ht h with ⟨rfl, _⟩ | ⟨a, len, cap, elems, rest, n, _, rfl, _, _, hl, hm, hlen, hall, _⟩
  · exact ⟨none, 0, 0, [], rfl, rfl, by omega, by omega, ⟨by simp, by simp⟩, by simp⟩
  · obtain ⟨ys, h1, h2⟩ := pick_list (Q := fun i y => (∀ j v, (f y)[j]? = some v → w.cell? ((a.add (i * k)).add j) = some v) ∧ (f y).length = k ∧ Q y) len fun i hi => by
      have key := hall i hi
      rw [List.getElem?_eq_getElem (by omega)] at key
      obtain ⟨cs', g1, g2⟩ := Option.bind_eq_some_iff.1 key
      obtain ⟨y, g3, g4, g5⟩ := hel _ _ _ g2
      refine ⟨y, fun j v hv => ?_, g4, g5⟩
      unfold World.cells? at g1
      split at g1
      · have hj : j < k := by rw [← g4]; exact (List.getElem?_eq_some_iff.1 hv).1
        have := mapM_some_get g1 j j (by rw [hk]; simp [hj])
        rw [hk] at this
        rw [this, g3, hv]
      · cases g1
    have hfl : ∀ y ∈ ys, (f y).length = k := fun y hy => by
      obtain ⟨i, hi⟩ := List.mem_iff_getElem?.1 hy
      exact (h2 i y hi).2.1
    unfold maxLen at hm
    refine ⟨some a, len, cap, ys, rfl, h1, hl, by omega, ⟨fun _ => ⟨a, rfl⟩, fun a' ha' j v hv => ?_⟩, fun y hy => ?_⟩
    · cases ha'
      -- place j lies in element j / k
      have get : ∀ (zs : List α) (o : Nat), (∀ z ∈ zs, (f z).length = k) → (∀ i z, zs[i]? = some z → ∀ j v, (f z)[j]? = some v → w.cell? (a.add ((o + i) * k + j)) = some v) → ∀ j v, (zs.flatMap f)[j]? = some v → w.cell? (a.add (o * k + j)) = some v := by
        intro zs
        induction zs with
        | nil => intro o _ _ j v hv; simp at hv
        | cons z zs ih =>
          intro o hz hq j v hv
          rw [List.flatMap_cons] at hv
          rcases Nat.lt_or_ge j k with hj | hj
          · rw [List.getElem?_append_left (by rw [hz z (by simp)]; exact hj)] at hv
            simpa using hq 0 z rfl j v hv
          · rw [List.getElem?_append_right (by rw [hz z (by simp)]; exact hj), hz z (by simp)] at hv
            have := ih (o + 1) (fun z hz' => hz z (by simp [hz'])) (fun i z hi j v hv => by have := hq (i + 1) z (by simpa using hi) j v hv; rwa [show o + 1 + i = o + (i + 1) by omega]) (j - k) v hv
            rwa [show (o + 1) * k + (j - k) = o * k + j by rw [Nat.succ_mul]; omega] at this
      have := get ys 0 hfl (fun i z hi j v hv => by have := (h2 i z hi).1 j v hv; rw [add_add] at this; simpa using this) j v hv
      simpa using this
    · obtain ⟨i, hi⟩ := List.mem_iff_getElem?.1 hy
      exact (h2 i y hi).2.2
end
section
variable {H : Type} {enc : TypeId × Value → H} {w : World} {base : Nat} {held : Bool} {fuel : Nat} {x : DataW H × List MemPlace}
theorem strs_of_cellsM {cs : List Value} (h : DataW.trod enc Tryd.prog w base (fun _ => true) held fuel 120 cs = some x) : ∃ A n c xs, cs = [.slice A n c] ∧ Strs w A n c xs := by
  rcases open_strings Tryd.underlying120 uStr (by kernel_rfl) h with ⟨hcs, _⟩ | ⟨a, len, cap, ss, hcs, _, hl, hm, hz, _, hcell, hws⟩
  · exact ⟨none, 0, 0, [], hcs, rfl, by omega, by omega, ⟨by simp, by simp⟩, by simp⟩
  · simp only [if_true] at hz
    unfold maxLen at hm
    refine ⟨some a, len, cap, ss.take len, hcs, by simp; omega, by omega, hl, ⟨fun _ => ⟨a, rfl⟩, fun a' ha' j v hv => ?_⟩, fun s hs => ?_⟩
    · cases ha'
      rw [List.getElem?_map, List.getElem?_take] at hv
      split at hv
      · rename_i hj
        rw [hcell j (by omega), ← hv, List.getD_eq_getElem?_getD, List.getElem?_eq_getElem (by omega)]
        simp
      · simp at hv
    · have := hws s (List.mem_of_mem_take hs)
      unfold maxLen at this; omega
theorem el_value (n : Nat) (cs : List Value) (x : DataW H × List MemPlace) (h : DataW.trod enc Tryd.prog w base (fun _ => true) held n 152 cs = some x) : ∃ v : VV, cs = vC v ∧ (vC v).length = 4 ∧ (Strs w v.A v.m v.c v.p.xs ∧ v.p.tx.size ≤ 9223372036854775807) := by
  obtain ⟨xs, m, _, _, hl, hlen, hfs⟩ := DataW.trod_struct Tryd.underlying152 h
  rw [show Tryd.prog.cellsOf 152 = 4 by kernel_rfl] at hl
  obtain ⟨c0, c1, c2, c3, rfl⟩ := list4m hl
  obtain ⟨x0, h0⟩ := fldAtM hlen hfs 0 _ rfl
  obtain ⟨x1, h1⟩ := fldAtM hlen hfs 1 _ rfl
  obtain ⟨x2, h2⟩ := fldAtM hlen hfs 2 _ rfl
  obtain ⟨x3, h3⟩ := fldAtM hlen hfs 3 _ rfl
  obtain ⟨z0, g0, _⟩ := DataW.trod_int uInt h0
  obtain ⟨z1, g1, _⟩ := DataW.trod_int uI64 h1
  obtain ⟨s2, g2, _, k2⟩ := DataW.trod_string uStr h2
  obtain ⟨A3, n3, d3, q3, g3, k3⟩ := strs_of_cellsM h3
  cases g0; cases g1; cases g2; cases g3
  unfold maxLen at k2
  exact ⟨⟨⟨z0, z1, s2, q3⟩, A3, n3, d3⟩, rfl, rfl, k3, by simp only; omega⟩
theorem el_ins (n : Nat) (cs : List Value) (x : DataW H × List MemPlace) (h : DataW.trod enc Tryd.prog w base (fun _ => true) held n 164 cs = some x) : ∃ v : Int × Int, cs = iC v ∧ (iC v).length = 2 ∧ True := by
  obtain ⟨xs, m, _, _, hl, hlen, hfs⟩ := DataW.trod_struct Tryd.underlying164 h
  rw [show Tryd.prog.cellsOf 164 = 2 by kernel_rfl] at hl
  obtain ⟨c0, c1, rfl⟩ := list2m hl
  obtain ⟨x0, h0⟩ := fldAtM hlen hfs 0 _ rfl
  obtain ⟨x1, h1⟩ := fldAtM hlen hfs 1 _ rfl
  obtain ⟨z0, g0, _⟩ := DataW.trod_int uInt h0
  obtain ⟨z1, g1, _⟩ := DataW.trod_int uInt h1
  cases g0; cases g1
  exact ⟨(z0, z1), rfl, rfl, trivial⟩
theorem open_lcode {v : Value} {d : DataW H} {ps : List MemPlace} {r : Reach} {b0 : Nat} (hv : Value.okWide Tryd.prog w r b0 38 v) (h : DataW.Trod enc Tryd.prog w base (fun _ => true) held 38 v d ps) :
    ∃ A n c sl A2 n2 c2 pv is, v = codeV A n c sl A2 n2 c2 ∧ CodeR w A n A2 n2 pv is ∧ n ≤ 9223372036854775807 ∧ n2 ≤ 9223372036854775807 := by
  obtain ⟨cs, rfl, hl⟩ := okWide_struct Tryd.underlying38 hv
  obtain ⟨fuel, hf⟩ := h
  obtain ⟨xs, m, _, _, _, hlen, hfs⟩ := DataW.trod_struct Tryd.underlying38 hf
  rw [show Tryd.prog.cellsOf 38 = 3 by kernel_rfl] at hl
  obtain ⟨l⟩ := cs
  obtain ⟨c0, c1, c2, rfl⟩ := list3m (l := l) (by simpa using hl)
  obtain ⟨x0, h0⟩ := fldAtM hlen hfs 0 _ rfl
  obtain ⟨x1, h1⟩ := fldAtM hlen hfs 1 _ rfl
  obtain ⟨x2, h2⟩ := fldAtM hlen hfs 2 _ rfl
  obtain ⟨A, n, c, vs, g0, e1, e2, e3, e4, e5⟩ := open_rowsM (f := vC) Tryd.underlying35 (show Tryd.prog.cellsOf 152 = 4 by kernel_rfl) (by omega) el_value h0
  obtain ⟨z1, g1, _⟩ := DataW.trod_int uInt h1
  obtain ⟨A2, n2, c2, is, g2, i1, i2, i3, i4, i5⟩ := open_rowsM (f := iC) Tryd.underlying36 (show Tryd.prog.cellsOf 164 = 2 by kernel_rfl) (by omega) el_ins h2
  cases g0; cases g1; cases g2
  exact ⟨A, n, c, z1, A2, n2, c2, vs.map (·.p), is, rfl, ⟨⟨vs, rfl, e1, e4, e5⟩, ⟨i1, i4⟩⟩, e3, i3⟩
end
section
variable {H : Type} {enc : TypeId × Value → H} {P : Program} {base : Nat} {held : Bool} {fuel : Nat}
theorem mem_insAll {p : Lit × DataW H} : ∀ (l : List (Lit × DataW H)), p ∈ l.foldr DataW.insert [] ↔ p ∈ l
  | [] => by simp
  | q :: l => by rw [List.foldr_cons, Go.ChangeMaps.mem_insert_iff, mem_insAll l, List.mem_cons]
theorem keyInt {k : TypeId} (hk : P.underlying k = some (.int .i64)) {v : Value} {z : Int} (h : keyOf P k v = some (.int .i64 z)) : v = .int .i64 z := by
  unfold keyOf mapKey at h
  rw [hk] at h
  cases v <;> simp at h
  obtain ⟨⟨rfl, _⟩, rfl⟩ := h
  rfl
/-- A table of whole numbers that is laid in a variable. -/
theorem tab_of_trod {n : String} {g : Nat} {t k e : TypeId} {cs : Array Value} {sp : Nat → Bool} {L : List (Lit × DataW H)} {p : List MemPlace} {W : World} (hg : P.globalNamed n = some g) (ht : P.underlying t = some (.map k e)) (hk : P.underlying k = some (.int .i64)) (he : P.underlying e = some (.int .i64))
    (hv : W.var? P n = some cs) (hd : DataW.trod enc P W base sp held fuel t cs.toList = some (.map L, p)) (f : List (Int × Int)) (hL : L = f.map fun q => (Lit.int .i64 q.1, .lit (.int .i64 q.2))) : Tab W g f := by
  rcases Go.WideMaps.open_map ht he hd with ⟨_, h0⟩ | ⟨b, es, clock, hcs, hb, _, F, hx⟩
  · cases h0
  · have hx1 : L = (es.toList.map (Go.WideMaps.rg H P k .i64)).foldr DataW.insert [] := by
      have := congrArg Prod.fst hx
      simpa using this
    obtain ⟨l⟩ := cs
    simp only at hcs
    subst hcs
    refine ⟨b, es, clock, by simpa using World.var?_cell hg hv 0, hb, fun y hy => ?_, fun kk z hq => ?_, F.stamped.2.1, F.stamped.1⟩
    · obtain ⟨r, hr⟩ := F.reads y hy
      have h1 := Go.WideMaps.rd_key hr
      obtain ⟨m, h2, h3, _⟩ := Go.WideMaps.rd_val hr
      have hm : r ∈ L := by rw [hx1, mem_insAll, ← Go.WideMaps.rg_of hr]; exact List.mem_map.2 ⟨y, hy, rfl⟩
      rw [hL] at hm
      obtain ⟨q, hq1, hq2⟩ := List.mem_map.1 hm
      rw [← hq2] at h1 h3
      have h4 := keyInt hk h1
      simp at h3
      exact ⟨q.1, q.2, h4, by rw [h2, h3], hq1⟩
    · have hm : (Lit.int .i64 kk, DataW.lit (.int .i64 z)) ∈ L := by rw [hL]; exact List.mem_map.2 ⟨(kk, z), hq, rfl⟩
      rw [hx1, mem_insAll] at hm
      obtain ⟨y, hy, hy2⟩ := List.mem_map.1 hm
      obtain ⟨r, hr⟩ := F.reads y hy
      rw [Go.WideMaps.rg_of hr] at hy2
      have h1 := Go.WideMaps.rd_key hr
      obtain ⟨m, h2, h3, _⟩ := Go.WideMaps.rd_val hr
      rw [hy2] at h1 h3
      simp at h3
      exact ⟨y, hy, keyInt hk h1, by rw [h2, h3]⟩
theorem keyStr {k : TypeId} (hk : P.underlying k = some .string) {v : Value} {l : List UInt8} (h : keyOf P k v = some (.string l)) : v = .string ⟨⟨l⟩⟩ := by
  unfold keyOf mapKey at h
  rw [hk] at h
  cases v <;> simp at h
  obtain ⟨_, rfl⟩ := h
  rfl
theorem elem_bool {W : World} {sp : Nat → Bool} {n : Nat} {e : TypeId} (he : P.underlying e = some .bool) {v : Value} {z : DataW H × List MemPlace} (h : Go.WideElems.elemAt enc P W base sp held n e v = some z) {b : Bool} (hz : z.1 = .lit (.bool b)) : v = .bool b := by
  unfold Go.WideElems.elemAt at h
  split at h
  · rename_i hf
    obtain ⟨c, h1, h2⟩ := DataW.trod_bool he h
    rw [h2] at hz
    simp at hz
    subst hz
    cases v <;> simp [Value.cells] at h1
    · exact congrArg _ h1
    all_goals (first | (exfalso; revert hf; simp [Value.formed, he]; done) | skip)
  · cases h
/-- A table of words that is laid in a variable. -/
theorem stab_of_trod {n : String} {g : Nat} {t k e : TypeId} {cs : Array Value} {sp : Nat → Bool} {L : List (Lit × DataW H)} {p : List MemPlace} {W : World} (hg : P.globalNamed n = some g) (ht : P.underlying t = some (.map k e)) (hk : P.underlying k = some .string) (he : P.underlying e = some .bool)
    (hv : W.var? P n = some cs) (hd : DataW.trod enc P W base sp held fuel t cs.toList = some (.map L, p)) (f : List ByteArray) (hL : L = f.map fun q => (Lit.string q.data.toList, .lit (.bool true))) : STab W g f := by
  rcases Go.WideElems.open_map ht hd with ⟨_, h0⟩ | ⟨b, es, clock, m, _, hcs, hb, _, F, hx⟩
  · cases h0
  · have hx1 : L = (es.toList.map (Go.WideElems.rg P k (Go.WideElems.elemAt enc P W base sp held m e))).foldr DataW.insert [] := by
      have := congrArg Prod.fst hx
      simpa using this
    obtain ⟨l⟩ := cs
    simp only at hcs
    subst hcs
    refine ⟨b, es, clock, by simpa using World.var?_cell hg hv 0, hb, fun y hy => ?_, fun kk hq => ?_⟩
    · obtain ⟨r, hr⟩ := F.reads y hy
      have h1 := Go.WideElems.rd_key hr
      obtain ⟨z, h2, h3⟩ := Go.WideElems.rd_val hr
      have hm : r ∈ L := by rw [hx1, mem_insAll, ← Go.WideElems.rg_of hr]; exact List.mem_map.2 ⟨y, hy, rfl⟩
      rw [hL] at hm
      obtain ⟨q, hq1, hq2⟩ := List.mem_map.1 hm
      rw [← hq2] at h1 h3
      exact ⟨q, keyStr hk h1, elem_bool he h2 h3.symm, hq1⟩
    · have hm : (Lit.string kk.data.toList, DataW.lit (.bool true)) ∈ L := by rw [hL]; exact List.mem_map.2 ⟨kk, hq, rfl⟩
      rw [hx1, mem_insAll] at hm
      obtain ⟨y, hy, hy2⟩ := List.mem_map.1 hm
      obtain ⟨r, hr⟩ := F.reads y hy
      rw [Go.WideElems.rg_of hr] at hy2
      have h1 := Go.WideElems.rd_key hr
      obtain ⟨z, h2, h3⟩ := Go.WideElems.rd_val hr
      rw [hy2] at h1 h3
      exact ⟨y, hy, keyStr hk h1, elem_bool he h2 h3.symm⟩
theorem stab_perm {w : World} {v : Nat} {f g : List ByteArray} (h : STab w v f) (h1 : ∀ k ∈ f, k ∈ g) (h2 : ∀ k ∈ g, k ∈ f) : STab w v g := by
  obtain ⟨bm, es, clock, a, b, c, d⟩ := h.ex
  exact ⟨bm, es, clock, a, b, fun e he => by obtain ⟨k, p, q, r⟩ := c e he; exact ⟨k, p, q, h1 k r⟩, fun k hk => d k (h2 k hk)⟩
/-- The words in the order in which they are laid. -/
def resL : List ByteArray := [⟨⟨[97, 110, 100]⟩⟩, ⟨⟨[100, 101, 110, 121]⟩⟩, ⟨⟨[101, 108, 115, 101]⟩⟩, ⟨⟨[102, 97, 108, 115, 101]⟩⟩, ⟨⟨[103, 114, 97, 110, 116]⟩⟩, ⟨⟨[105, 102]⟩⟩, ⟨⟨[105, 110]⟩⟩, ⟨⟨[108, 101, 116]⟩⟩, ⟨⟨[110, 111, 116]⟩⟩, ⟨⟨[111, 114]⟩⟩, ⟨⟨[115, 105, 122, 101]⟩⟩, ⟨⟨[116, 104, 101, 110]⟩⟩, ⟨⟨[116, 114, 117, 101]⟩⟩, ⟨⟨[119, 104, 101, 110]⟩⟩, ⟨⟨[119, 105, 116, 104, 105, 110]⟩⟩]
end
end Go.Proofs.YtmbonalhbibppaaDoor
