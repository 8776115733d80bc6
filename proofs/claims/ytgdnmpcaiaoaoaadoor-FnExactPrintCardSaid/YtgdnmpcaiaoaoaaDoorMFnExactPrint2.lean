/- Texts that the law FnExactPrint leans on, part 2 of 4: contracts of the functions that it reaches and plain lemmas. Each holds under the conditions that it states. -/
import Derived.Test.YtgdnmpcaiaoaoaaDoorMFnExactPrint1
import Derived.Deep.Slices
import Derived.WideKeyMaps
import Derived.WideKeyElems2
import Derived.OpenVars
import Derived.LaidMore
import Derived.Stop.Joined
import Derived.Stop.LaidTwo
import Derived.Lib.ItoaNum
import Derived.Lib.Join
import Derived.Test.YtgdnmpcaiaoaoaaDoorSh156
import Derived.Test.YtgdnmpcaiaoaoaaDoorSh173
import Derived.Lib.AppendIntMem
import Derived.Maps.RangeRun
/- Opening slices of structs among a law's arguments; tables of whole numbers out of a row's condition. -/

namespace Go.Proofs.YtgdnmpcaiaoaoaaDoor
open Go.ChangeShapes Go.WideShapes Go.ChangeAt Go.RowKit Go.Eng
set_option maxRecDepth 100000
theorem list4m {α : Type} : ∀ {l : List α}, l.length = 4 → ∃ a b c d, l = [a, b, c, d]
  | [a, b, c, d], _ => ⟨a, b, c, d, rfl⟩
theorem list2m {α : Type} : ∀ {l : List α}, l.length = 2 → ∃ a b, l = [a, b]
  | [a, b], _ => ⟨a, b, rfl⟩
theorem pick_list {α : Type} {Q : Nat → α → Prop} : ∀ (n : Nat), (∀ i, i < n → ∃ y, Q i y) → ∃ ys : List α, ys.length = n ∧ ∀ i y, ys[i]? = some y → Q i y
  | 0, _ => ⟨[], rfl, by simp⟩
  | n + 1, h => by
    obtain ⟨ys, h1, h2⟩ := pick_list n fun i hi => h i (by omega)
    obtain ⟨y, hy⟩ := h n (by omega)
    refine ⟨ys ++ [y], by simp [h1], fun i z hz => ?_⟩
    rcases Nat.lt_or_ge i n with hi | hi
    · rw [List.getElem?_append_left (by omega)] at hz; exact h2 i z hz
    · rw [List.getElem?_append_right (by omega)] at hz
      have : i - ys.length = 0 := by
        rcases Nat.eq_zero_or_pos (i - ys.length) with h0 | h0
        · exact h0
        · rw [List.getElem?_eq_none (by simp; omega)] at hz; cases hz
      rw [this] at hz
      simp at hz
      subst hz
      have : i = n := by omega
      subst this; exact hy
section
variable {H : Type} {enc : TypeId × Value → H} {P : Program} {w : World} {base : Nat} {held : Bool} {fuel : Nat} {x : DataW H × List MemPlace}
theorem fldAtM {sp : Nat → Bool} {fs : Array Field} {cs : List Value} {xs : List (DataW H × List MemPlace)} {n : Nat} (hlen : xs.length = fs.size) (hf : ∀ (i : Nat) (f : Field), fs[i]? = some f → DataW.trod enc P w base sp held n f.type ((cs.drop f.offset).take (P.cellsOf f.type)) = xs[i]?)
    (i : Nat) (f : Field) (hi : fs[i]? = some f) : ∃ x, DataW.trod enc P w base sp held n f.type ((cs.drop f.offset).take (P.cellsOf f.type)) = some x := by
  have h1 := (Array.getElem?_eq_some_iff.1 hi).1
  exact ⟨xs[i]'(by omega), by rw [hf i f hi]; simp⟩
/-- A slice whose elements take k cells each. -/
theorem open_rowsM {α : Type} {f : α → List Value} {k : Nat} {Q : α → Prop} {t e : TypeId} {cs : List Value} (ht : P.underlying t = some (.slice e)) (hk : P.cellsOf e = k) (hk0 : 0 < k)
    (hel : ∀ n cs x, DataW.trod enc P w base (fun _ => true) held n e cs = some x → ∃ y, cs = f y ∧ (f y).length = k ∧ Q y)
    (h : DataW.trod enc P w base (fun _ => true) held fuel t cs = some x) :
    ∃ (A : Option Addr) (n c : Nat) (ys : List α), cs = [.slice A n c] ∧ ys.length = n ∧ n ≤ c ∧ n ≤ 9223372036854775807 ∧ Cells w A (ys.flatMap f) ∧ ∀ y ∈ ys, Q y := by
  rcases DataW.trod_slice ht h with ⟨rfl, _⟩ | ⟨a, len, cap, elems, rest, n, _, rfl, _, _, hl, hm, hlen, hall, _⟩
  · exact ⟨none, 0, 0, [], rfl, rfl, by omega, by omega, ⟨by simp, by simp⟩, by simp⟩
  · obtain ⟨ys, h1, h2⟩ := pick_list (Q := fun i y => (∀ j v, (f y)[j]? = some v → w.cell? ((a.add (i * k)).add j) = some v) ∧ (f y).length = k ∧ Q y) len fun i hi => by
      have key := hall i hi
      rw [List.getElem?_eq_getElem (by omega)] at key
      obtain ⟨cs', g1, g2⟩ := Option.bind_eq_some_iff.1 key
      obtain ⟨y, g3, g4, g5⟩ := hel _ _ _ g2
      refine ⟨y, fun j v hv => ?_, g4, g5⟩
      unfold World.cells? at g1
      split at g1
      · have hj : j < k := by rw [← g4]; exact (List.getElem?_eq_some_iff.1 hv).1
        have := mapM_some_get g1 j j (by rw [hk]; simp [hj])
        rw [hk] at this
        rw [this, g3, hv]
      · cases g1
    have hfl : ∀ y ∈ ys, (f y).length = k := fun y hy => by
      obtain ⟨i, hi⟩ := List.mem_iff_getElem?.1 hy
      exact (h2 i y hi).2.1
    unfold maxLen at hm
    refine ⟨some a, len, cap, ys, rfl, h1, hl, by omega, ⟨fun _ => ⟨a, rfl⟩, fun a' ha' j v hv => ?_⟩, fun y hy => ?_⟩
    · cases ha'
      -- place j lies in element j / k
      have get : ∀ (zs : List α) (o : Nat), (∀ z ∈ zs, (f z).length = k) → (∀ i z, zs[i]? = some z → ∀ j v, (f z)[j]? = some v → w.cell? (a.add ((o + i) * k + j)) = some v) → ∀ j v, (zs.flatMap f)[j]? = some v → w.cell? (a.add (o * k + j)) = some v := by
        intro zs
        induction zs with
        | nil => intro o _ _ j v hv; simp at hv
        | cons z zs ih =>
          intro o hz hq j v hv
          rw [List.flatMap_cons] at hv
          rcases Nat.lt_or_ge j k with hj | hj
          · rw [List.getElem?_append_left (by rw [hz z (by simp)]; exact hj)] at hv
            simpa using hq 0 z rfl j v hv
          · rw [List.getElem?_append_right (by rw [hz z (by simp)]; exact hj), hz z (by simp)] at hv
            have := ih (o + 1) (fun z hz' => hz z (by simp [hz'])) (fun i z hi j v hv => by have := hq (i + 1) z (by simpa using hi) j v hv; rwa [show o + 1 + i = o + (i + 1) by omega]) (j - k) v hv
            rwa [show (o + 1) * k + (j - k) = o * k + j by rw [Nat.succ_mul]; omega] at this
      have := get ys 0 hfl (fun i z hi j v hv => by have := (h2 i z hi).1 j v hv; rw [add_add] at this; simpa using this) j v hv
      simpa using this
    · obtain ⟨i, hi⟩ := List.mem_iff_getElem?.1 hy
      exact (h2 i y hi).2.2
end
section
variable {H : Type} {enc : TypeId × Value → H} {w : World} {base : Nat} {held : Bool} {fuel : Nat} {x : DataW H × List MemPlace}
theorem strs_of_cellsM {cs : List Value} (h : DataW.trod enc Tryd.prog w base (fun _ => true) held fuel 54 cs = some x) : ∃ A n c xs, cs = [.slice A n c] ∧ Strs w A n c xs := by
  rcases open_strings Tryd.underlying54 uStr (by kernel_rfl) h with ⟨hcs, _⟩ | ⟨a, len, cap, ss, hcs, _, hl, hm, hz, _, hcell, hws⟩
  · exact ⟨none, 0, 0, [], hcs, rfl, by omega, by omega, ⟨by simp, by simp⟩, by simp⟩
  · simp only [if_true] at hz
    unfold maxLen at hm
    refine ⟨some a, len, cap, ss.take len, hcs, by simp; omega, by omega, hl, ⟨fun _ => ⟨a, rfl⟩, fun a' ha' j v hv => ?_⟩, fun s hs => ?_⟩
    · cases ha'
      rw [List.getElem?_map, List.getElem?_take] at hv
      split at hv
      · rename_i hj
        rw [hcell j (by omega), ← hv, List.getD_eq_getElem?_getD, List.getElem?_eq_getElem (by omega)]
        simp
      · simp at hv
    · have := hws s (List.mem_of_mem_take hs)
      unfold maxLen at this; omega
end
section
variable {H : Type} {enc : TypeId × Value → H} {P : Program} {base : Nat} {held : Bool} {fuel : Nat}
theorem mem_insAll {p : Lit × DataW H} : ∀ (l : List (Lit × DataW H)), p ∈ l.foldr DataW.insert [] ↔ p ∈ l
  | [] => by simp
  | q :: l => by rw [List.foldr_cons, Go.ChangeMaps.mem_insert_iff, mem_insAll l, List.mem_cons]
theorem keyInt {k : TypeId} (hk : P.underlying k = some (.int .i64)) {v : Value} {z : Int} (h : keyOf P k v = some (.int .i64 z)) : v = .int .i64 z := by
  unfold keyOf mapKey at h
  rw [hk] at h
  cases v <;> simp at h
  obtain ⟨⟨rfl, _⟩, rfl⟩ := h
  rfl
/-- A table of whole numbers that is laid in a variable. -/
theorem tab_of_trod {n : String} {g : Nat} {t k e : TypeId} {cs : Array Value} {sp : Nat → Bool} {L : List (Lit × DataW H)} {p : List MemPlace} {W : World} (hg : P.globalNamed n = some g) (ht : P.underlying t = some (.map k e)) (hk : P.underlying k = some (.int .i64)) (he : P.underlying e = some (.int .i64))
    (hv : W.var? P n = some cs) (hd : DataW.trod enc P W base sp held fuel t cs.toList = some (.map L, p)) (f : List (Int × Int)) (hL : L = f.map fun q => (Lit.int .i64 q.1, .lit (.int .i64 q.2))) : Tab W g f := by
  rcases Go.WideMaps.open_map ht he hd with ⟨_, h0⟩ | ⟨b, es, clock, hcs, hb, _, F, hx⟩
  · cases h0
  · have hx1 : L = (es.toList.map (Go.WideMaps.rg H P k .i64)).foldr DataW.insert [] := by
      have := congrArg Prod.fst hx
      simpa using this
    obtain ⟨l⟩ := cs
    simp only at hcs
    subst hcs
    refine ⟨b, es, clock, by simpa using World.var?_cell hg hv 0, hb, fun y hy => ?_, fun kk z hq => ?_, F.stamped.2.1, F.stamped.1⟩
    · obtain ⟨r, hr⟩ := F.reads y hy
      have h1 := Go.WideMaps.rd_key hr
      obtain ⟨m, h2, h3, _⟩ := Go.WideMaps.rd_val hr
      have hm : r ∈ L := by rw [hx1, mem_insAll, ← Go.WideMaps.rg_of hr]; exact List.mem_map.2 ⟨y, hy, rfl⟩
      rw [hL] at hm
      obtain ⟨q, hq1, hq2⟩ := List.mem_map.1 hm
      rw [← hq2] at h1 h3
      have h4 := keyInt hk h1
      simp at h3
      exact ⟨q.1, q.2, h4, by rw [h2, h3], hq1⟩
    · have hm : (Lit.int .i64 kk, DataW.lit (.int .i64 z)) ∈ L := by rw [hL]; exact List.mem_map.2 ⟨(kk, z), hq, rfl⟩
      rw [hx1, mem_insAll] at hm
      obtain ⟨y, hy, hy2⟩ := List.mem_map.1 hm
      obtain ⟨r, hr⟩ := F.reads y hy
      rw [Go.WideMaps.rg_of hr] at hy2
      have h1 := Go.WideMaps.rd_key hr
      obtain ⟨m, h2, h3, _⟩ := Go.WideMaps.rd_val hr
      rw [hy2] at h1 h3
      simp at h3
      exact ⟨y, hy, keyInt hk h1, by rw [h2, h3]⟩
theorem keyStr {k : TypeId} (hk : P.underlying k = some .string) {v : Value} {l : List UInt8} (h : keyOf P k v = some (.string l)) : v = .string ⟨⟨l⟩⟩ := by
  unfold keyOf mapKey at h
  rw [hk] at h
  cases v <;> simp at h
  obtain ⟨_, rfl⟩ := h
  rfl
theorem elem_bool {W : World} {sp : Nat → Bool} {n : Nat} {e : TypeId} (he : P.underlying e = some .bool) {v : Value} {z : DataW H × List MemPlace} (h : Go.WideElems.elemAt enc P W base sp held n e v = some z) {b : Bool} (hz : z.1 = .lit (.bool b)) : v = .bool b := by
  unfold Go.WideElems.elemAt at h
  split at h
  · rename_i hf
    obtain ⟨c, h1, h2⟩ := DataW.trod_bool he h
    rw [h2] at hz
    simp at hz
    subst hz
    cases v <;> simp [Value.cells] at h1
    · exact congrArg _ h1
    all_goals (first | (exfalso; revert hf; simp [Value.formed, he]; done) | skip)
  · cases h
/-- A table of words that is laid in a variable. -/
theorem stab_of_trod {n : String} {g : Nat} {t k e : TypeId} {cs : Array Value} {sp : Nat → Bool} {L : List (Lit × DataW H)} {p : List MemPlace} {W : World} (hg : P.globalNamed n = some g) (ht : P.underlying t = some (.map k e)) (hk : P.underlying k = some .string) (he : P.underlying e = some .bool)
    (hv : W.var? P n = some cs) (hd : DataW.trod enc P W base sp held fuel t cs.toList = some (.map L, p)) (f : List ByteArray) (hL : L = f.map fun q => (Lit.string q.data.toList, .lit (.bool true))) : STab W g f := by
  rcases Go.WideElems.open_map ht hd with ⟨_, h0⟩ | ⟨b, es, clock, m, _, hcs, hb, _, F, hx⟩
  · cases h0
  · have hx1 : L = (es.toList.map (Go.WideElems.rg P k (Go.WideElems.elemAt enc P W base sp held m e))).foldr DataW.insert [] := by
      have := congrArg Prod.fst hx
      simpa using this
    obtain ⟨l⟩ := cs
    simp only at hcs
    subst hcs
    refine ⟨b, es, clock, by simpa using World.var?_cell hg hv 0, hb, fun y hy => ?_, fun kk hq => ?_⟩
    · obtain ⟨r, hr⟩ := F.reads y hy
      have h1 := Go.WideElems.rd_key hr
      obtain ⟨z, h2, h3⟩ := Go.WideElems.rd_val hr
      have hm : r ∈ L := by rw [hx1, mem_insAll, ← Go.WideElems.rg_of hr]; exact List.mem_map.2 ⟨y, hy, rfl⟩
      rw [hL] at hm
      obtain ⟨q, hq1, hq2⟩ := List.mem_map.1 hm
      rw [← hq2] at h1 h3
      exact ⟨q, keyStr hk h1, elem_bool he h2 h3.symm, hq1⟩
    · have hm : (Lit.string kk.data.toList, DataW.lit (.bool true)) ∈ L := by rw [hL]; exact List.mem_map.2 ⟨kk, hq, rfl⟩
      rw [hx1, mem_insAll] at hm
      obtain ⟨y, hy, hy2⟩ := List.mem_map.1 hm
      obtain ⟨r, hr⟩ := F.reads y hy
      rw [Go.WideElems.rg_of hr] at hy2
      have h1 := Go.WideElems.rd_key hr
      obtain ⟨z, h2, h3⟩ := Go.WideElems.rd_val hr
      rw [hy2] at h1 h3
      exact ⟨y, hy, keyStr hk h1, elem_bool he h2 h3.symm⟩
theorem stab_perm {w : World} {v : Nat} {f g : List ByteArray} (h : STab w v f) (h1 : ∀ k ∈ f, k ∈ g) (h2 : ∀ k ∈ g, k ∈ f) : STab w v g := by
  obtain ⟨bm, es, clock, a, b, c, d⟩ := h.ex
  exact ⟨bm, es, clock, a, b, fun e he => by obtain ⟨k, p, q, r⟩ := c e he; exact ⟨k, p, q, h1 k r⟩, fun k hk => d k (h2 k hk)⟩
/-- The words in the order in which they are laid. -/
def resL : List ByteArray := [⟨⟨[97, 110, 100]⟩⟩, ⟨⟨[100, 101, 110, 121]⟩⟩, ⟨⟨[101, 108, 115, 101]⟩⟩, ⟨⟨[102, 97, 108, 115, 101]⟩⟩, ⟨⟨[103, 114, 97, 110, 116]⟩⟩, ⟨⟨[105, 102]⟩⟩, ⟨⟨[105, 110]⟩⟩, ⟨⟨[108, 101, 116]⟩⟩, ⟨⟨[110, 111, 116]⟩⟩, ⟨⟨[111, 114]⟩⟩, ⟨⟨[115, 105, 122, 101]⟩⟩, ⟨⟨[116, 104, 101, 110]⟩⟩, ⟨⟨[116, 114, 117, 101]⟩⟩, ⟨⟨[119, 104, 101, 110]⟩⟩, ⟨⟨[119, 105, 116, 104, 105, 110]⟩⟩]
end
end Go.Proofs.YtgdnmpcaiaoaoaaDoor
/- The laws' helpers over compiled policies: their size, their copy, whether two are one. -/
namespace Go.Proofs.YtgdnmpcaiaoaoaaDoor
open Go.Eng
set_option linter.unusedVariables false
def v0 : VV := ⟨⟨0, 0, ⟨#[]⟩, []⟩, none, 0, 0⟩
end Go.Proofs.YtgdnmpcaiaoaoaaDoor
/- The laws' helpers over compiled policies, the rest: copies of codes, whether two codes are one. -/
namespace Go.Proofs.YtgdnmpcaiaoaoaaDoor
open Go.Eng
set_option linter.unusedVariables false
end Go.Proofs.YtgdnmpcaiaoaoaaDoor
/- What a code's shape must be, on both sides (printed by gen_v4.py). -/
namespace Go.Proofs.YtgdnmpcaiaoaoaaDoor
open Go.Eng
set_option linter.unusedVariables false
set_option linter.unusedSimpArgs false
/-- A constant as it may stand in a pool. -/
def valOK (p : PV) : Prop :=
  (p.k = 1 ∧ (p.n = 0 ∨ p.n = 1) ∧ p.tx = ⟨#[]⟩ ∧ p.xs = []) ∨ (p.k = 2 ∧ p.tx = ⟨#[]⟩ ∧ p.xs = []) ∨ (p.k = 3 ∧ p.n = 0 ∧ nameBytes p.tx ∧ p.xs = []) ∨ (p.k = 4 ∧ p.n = 0 ∧ p.tx = ⟨#[]⟩ ∧ isSet p.xs)
theorem data_len (s : ByteArray) : s.data.toList.length = s.size := Array.length_toList
theorem size0 (s : ByteArray) : s.size = 0 ↔ s = ⟨#[]⟩ := by
  constructor
  · intro h
    have : s.data.toList = [] := List.eq_nil_of_length_eq_zero (by rw [data_len]; exact h)
    cases s with
    | mk d => simp at this; rw [this]
  · intro h; rw [h]; rfl
theorem quoted_iff (s : ByteArray) : (s = ⟨#[]⟩ ∨ validName s) ↔ nameBytes s := by
  unfold validName
  constructor
  · rintro (h | h)
    · subst h; exact ⟨fun i h => by simp [ByteArray.size] at h, by simp [ByteArray.size]⟩
    · exact h.2
  · intro h
    by_cases h0 : s.size = 0
    · exact .inl ((size0 s).1 h0)
    · exact .inr ⟨h0, h⟩
theorem l2quoted_f {w : World} (s : ByteArray) (hs : s.size ≤ 9223372036854775807) : FC Tryd.prog 59 [.string s] w fun v _ => ∃ b : Bool, v = .bool b ∧ (b = true ↔ nameBytes s) := by
  refine FC.intro (cs := []) Tryd.func59 (by kernel_rfl) fun E R hE hr hR => ?_
  conv => cbv
  refine br (fun g => ?_) (fun g => ?_)
  · have g : s = ⟨#[]⟩ := by simpa [hE.scmp, scmp_eql] using g
    conv => cbv
    rw [hR]; exact ⟨Ext.refl _, true, rfl, by rw [← quoted_iff]; simp [g]⟩
  · have g : s ≠ ⟨#[]⟩ := by simpa [hE.scmp, scmp_eql] using g
    conv => cbv
    refine st_qb hE (sValidName_q s _ hs) fun b hb w2 hs2 => ?_
    conv => cbv
    rw [hR]; exact ⟨hs2.ext, b, rfl, by rw [hb, ← quoted_iff]; simp [g]⟩
abbrev zN : List Value := [.int .i64 0, .int .i64 0, .string ⟨#[]⟩, .slice none 0 0, .slice none 0 0]
theorem tIN : Stc Tryd.prog 61 5 zN := ⟨by kernel_rfl, by kernel_rfl⟩
theorem fIN0 : Fld Tryd.prog 61 0 0 := ⟨by kernel_rfl⟩
theorem fIN1 : Fld Tryd.prog 61 1 1 := ⟨by kernel_rfl⟩
theorem fIN2 : Fld Tryd.prog 61 2 2 := ⟨by kernel_rfl⟩
theorem fIN3 : Fld Tryd.prog 61 3 3 := ⟨by kernel_rfl⟩
set_option maxHeartbeats 1000000 in
theorem bare_f {w : World} {o z : Int} {tx : ByteArray} {A B : Option Addr} {m c m2 c2 : Nat} {xs : List ByteArray} (hsl : xs.length = m) (p1 p2 p3 : Bool) :
    FC Tryd.prog 30 [.agg ⟨[.int .i64 o, .int .i64 z, .string tx, .slice A m c, .slice B m2 c2]⟩, .bool p1, .bool p2, .bool p3] w fun v _ => ∃ b : Bool, v = .bool b ∧ (b = true ↔ (p1 = true ∨ z = 0) ∧ (p2 = true ∨ tx = ⟨#[]⟩) ∧ (p3 = true ∨ xs = [])) := by
  refine FC.intro (cs := []) Tryd.func30 (by kernel_rfl) fun E R hE hr hR => ?_
  conv => cbv
  refine st_box hr fun a w1 hx hb0 => ?_
  have hb := hb0 _ (Nat.le_refl _)
  clear hb0
  conv => cbv
  refine br (fun g => ?_) (fun g => ?_)
  · have g1_0 : p1 = true := g
    conv => cbv
    refine br (fun g => ?_) (fun g => ?_)
    · have g2_0 : p2 = true := g
      conv => cbv
      refine br (fun g => ?_) (fun g => ?_)
      · have g3_0 : p3 = true := g
        conv => cbv
        rw [hR]; exact ⟨hx, true, rfl, by simp [g1_0, g2_0, g3_0]⟩
      · have g3_0 : ¬ p3 = true := g
        conv => cbv
        (refine st_fld hE fIN3 fun p hp => ?_; (conv => cbv); refine st_load hE cStrs (by rw [hp]; exact (hb).at _ _ rfl) ?_; clear hp; (conv => cbv))
        refine st_len hE tStrs fun x hx1 => ?_
        conv => cbv
        obtain ⟨q, hq⟩ : ∃ q, q = E.cmp .eql x 0 := ⟨_, rfl⟩
        have hq' : q = true ↔ xs = [] := by rw [hq, hE.cmp, ← List.length_eq_zero_iff, hsl]; simp [cmpR]; omega
        simp only [← hq]
        rw [hR]; exact ⟨hx, q, rfl, by rw [hq']; simp [g1_0, g2_0, g3_0]⟩
    · have g2_0 : ¬ p2 = true := g
      conv => cbv
      (refine st_fld hE fIN2 fun p hp => ?_; (conv => cbv); refine st_load hE cStr (by rw [hp]; exact (hb).at _ _ rfl) ?_; clear hp; (conv => cbv))
      refine br (fun g => ?_) (fun g => ?_)
      · have g2_1 : tx = ⟨#[]⟩ := by simpa [hE.scmp, scmp_eql] using g
        conv => cbv
        refine br (fun g => ?_) (fun g => ?_)
        · have g3_0 : p3 = true := g
          conv => cbv
          rw [hR]; exact ⟨hx, true, rfl, by simp [g1_0, g2_0, g2_1, g3_0]⟩
        · have g3_0 : ¬ p3 = true := g
          conv => cbv
          (refine st_fld hE fIN3 fun p hp => ?_; (conv => cbv); refine st_load hE cStrs (by rw [hp]; exact (hb).at _ _ rfl) ?_; clear hp; (conv => cbv))
          refine st_len hE tStrs fun x hx1 => ?_
          conv => cbv
          obtain ⟨q, hq⟩ : ∃ q, q = E.cmp .eql x 0 := ⟨_, rfl⟩
          have hq' : q = true ↔ xs = [] := by rw [hq, hE.cmp, ← List.length_eq_zero_iff, hsl]; simp [cmpR]; omega
          simp only [← hq]
          rw [hR]; exact ⟨hx, q, rfl, by rw [hq']; simp [g1_0, g2_0, g2_1, g3_0]⟩
      · have g2_1 : tx ≠ ⟨#[]⟩ := by simpa [hE.scmp, scmp_eql] using g
        conv => cbv
        rw [hR]; exact ⟨hx, false, rfl, by simp [g1_0, g2_0, g2_1]⟩
  · have g1_0 : ¬ p1 = true := g
    conv => cbv
    (refine st_fld hE fIN1 fun p hp => ?_; (conv => cbv); refine st_load hE cI64 (by rw [hp]; exact (hb).at _ _ rfl) ?_; clear hp; (conv => cbv))
    refine br (fun g => ?_) (fun g => ?_)
    · have g1_1 : z = 0 := by simpa [hE.cmp, cmpR] using g
      conv => cbv
      refine br (fun g => ?_) (fun g => ?_)
      · have g2_0 : p2 = true := g
        conv => cbv
        refine br (fun g => ?_) (fun g => ?_)
        · have g3_0 : p3 = true := g
          conv => cbv
          rw [hR]; exact ⟨hx, true, rfl, by simp [g1_0, g1_1, g2_0, g3_0]⟩
        · have g3_0 : ¬ p3 = true := g
          conv => cbv
          (refine st_fld hE fIN3 fun p hp => ?_; (conv => cbv); refine st_load hE cStrs (by rw [hp]; exact (hb).at _ _ rfl) ?_; clear hp; (conv => cbv))
          refine st_len hE tStrs fun x hx1 => ?_
          conv => cbv
          obtain ⟨q, hq⟩ : ∃ q, q = E.cmp .eql x 0 := ⟨_, rfl⟩
          have hq' : q = true ↔ xs = [] := by rw [hq, hE.cmp, ← List.length_eq_zero_iff, hsl]; simp [cmpR]; omega
          simp only [← hq]
          rw [hR]; exact ⟨hx, q, rfl, by rw [hq']; simp [g1_0, g1_1, g2_0, g3_0]⟩
      · have g2_0 : ¬ p2 = true := g
        conv => cbv
        (refine st_fld hE fIN2 fun p hp => ?_; (conv => cbv); refine st_load hE cStr (by rw [hp]; exact (hb).at _ _ rfl) ?_; clear hp; (conv => cbv))
        refine br (fun g => ?_) (fun g => ?_)
        · have g2_1 : tx = ⟨#[]⟩ := by simpa [hE.scmp, scmp_eql] using g
          conv => cbv
          refine br (fun g => ?_) (fun g => ?_)
          · have g3_0 : p3 = true := g
            conv => cbv
            rw [hR]; exact ⟨hx, true, rfl, by simp [g1_0, g1_1, g2_0, g2_1, g3_0]⟩
          · have g3_0 : ¬ p3 = true := g
            conv => cbv
            (refine st_fld hE fIN3 fun p hp => ?_; (conv => cbv); refine st_load hE cStrs (by rw [hp]; exact (hb).at _ _ rfl) ?_; clear hp; (conv => cbv))
            refine st_len hE tStrs fun x hx1 => ?_
            conv => cbv
            obtain ⟨q, hq⟩ : ∃ q, q = E.cmp .eql x 0 := ⟨_, rfl⟩
            have hq' : q = true ↔ xs = [] := by rw [hq, hE.cmp, ← List.length_eq_zero_iff, hsl]; simp [cmpR]; omega
            simp only [← hq]
            rw [hR]; exact ⟨hx, q, rfl, by rw [hq']; simp [g1_0, g1_1, g2_0, g2_1, g3_0]⟩
        · have g2_1 : tx ≠ ⟨#[]⟩ := by simpa [hE.scmp, scmp_eql] using g
          conv => cbv
          rw [hR]; exact ⟨hx, false, rfl, by simp [g1_0, g1_1, g2_0, g2_1]⟩
    · have g1_1 : z ≠ 0 := by simpa [hE.cmp, cmpR] using g
      conv => cbv
      rw [hR]; exact ⟨hx, false, rfl, by simp [g1_0, g1_1]⟩
/-- The node's operator of a constant's kind; 0 of none. -/
def kOp (k : Int) : Int := if k = 1 then 3 else if k = 2 then 1 else if k = 3 then 2 else if k = 4 then 4 else 0
set_option maxHeartbeats 1000000 in
theorem validConst_f {w : World} {o z : Int} {tx : ByteArray} {A B : Option Addr} {m c m2 c2 : Nat} {xs : List ByteArray} (h : Strs w A m c xs) (ht : tx.size ≤ 9223372036854775807) :
    FC Tryd.prog 32 [.agg ⟨[.int .i64 o, .int .i64 z, .string tx, .slice A m c, .slice B m2 c2]⟩] w fun v _ => ∃ b : Bool, v = .bool b ∧
      (b = true ↔ (o = 1 ∧ tx = ⟨#[]⟩ ∧ xs = []) ∨ (o = 2 ∧ z = 0 ∧ nameBytes tx ∧ xs = []) ∨ (o = 3 ∧ (z = 0 ∨ z = 1) ∧ tx = ⟨#[]⟩ ∧ xs = []) ∨ (o = 4 ∧ z = 0 ∧ tx = ⟨#[]⟩ ∧ isSet xs)) := by
  refine FC.intro (cs := []) Tryd.func32 (by kernel_rfl) fun E R hE hr hR => ?_
  have hsl := h.len
  conv => cbv
  refine st_box hr fun a w1 hx hb0 => ?_
  have hb := hb0 _ (Nat.le_refl _)
  clear hb0
  conv => cbv
  (refine st_fld hE fIN0 fun p hp => ?_; (conv => cbv); refine st_load hE cInt (by rw [hp]; exact (hb).at _ _ rfl) ?_; clear hp; (conv => cbv))
  refine br (fun g => ?_) (fun g => ?_)
  · have k1 : o = 1 := by simpa [hE.cmp, cmpR] using g
    conv => cbv
    refine st_loadS hE tIN rfl hb.at ?_
    conv => cbv
    refine st_f hr (bare_f (o := o) (z := z) (tx := tx) hsl true false false) fun v w2 hx2 ⟨r, ev, hr2⟩ => ?_
    subst ev
    replace hb := hb.bel hx2
    replace hx := hx.trans hx2
    conv => cbv
    rw [hR]; exact ⟨hx, r, rfl, by rw [hr2]; simp [k1]⟩
  have k1 : o ≠ 1 := by simpa [hE.cmp, cmpR] using g
  conv => cbv
  refine br (fun g => ?_) (fun g => ?_)
  · have k2 : o = 2 := by simpa [hE.cmp, cmpR] using g
    conv => cbv
    refine st_loadS hE tIN rfl hb.at ?_
    conv => cbv
    refine st_f hr (bare_f (o := o) (z := z) (tx := tx) hsl false true false) fun v w2 hx2 ⟨r, ev, hr2⟩ => ?_
    subst ev
    replace hb := hb.bel hx2
    replace hx := hx.trans hx2
    cases r with
    | false =>
      conv => cbv
      rw [hR]; refine ⟨hx, false, rfl, ?_⟩
      have n0 : ¬ _ := fun q => absurd (hr2.2 q) (by simp)
      simp only [k2]; simp at n0 ⊢
      exact fun q _ => n0 q
    | true =>
      have n0 := hr2.1 rfl
      conv => cbv
      (refine st_fld hE fIN2 fun p hp => ?_; (conv => cbv); refine st_load hE cStr (by rw [hp]; exact (hb).at _ _ rfl) ?_; clear hp; (conv => cbv))
      refine st_qb hE (nameBytes_q tx _ ht) fun q hq w2 hs2 => ?_
      conv => cbv
      rw [hR]; refine ⟨hx.trans hs2.ext, q, rfl, ?_⟩
      simp at n0
      rw [hq]; simp [k2, n0]
  have k2 : o ≠ 2 := by simpa [hE.cmp, cmpR] using g
  conv => cbv
  refine br (fun g => ?_) (fun g => ?_)
  · have k3 : o = 3 := by simpa [hE.cmp, cmpR] using g
    conv => cbv
    refine st_loadS hE tIN rfl hb.at ?_
    conv => cbv
    refine st_f hr (bare_f (o := o) (z := z) (tx := tx) hsl true false false) fun v w2 hx2 ⟨r, ev, hr2⟩ => ?_
    subst ev
    replace hb := hb.bel hx2
    replace hx := hx.trans hx2
    cases r with
    | false =>
      conv => cbv
      rw [hR]; refine ⟨hx, false, rfl, ?_⟩
      have n0 : ¬ _ := fun q => absurd (hr2.2 q) (by simp)
      simp only [k3]; simp at n0 ⊢
      exact fun _ q => n0 q
    | true =>
      have n0 := hr2.1 rfl
      simp at n0
      conv => cbv
      (refine st_fld hE fIN1 fun p hp => ?_; (conv => cbv); refine st_load hE cI64 (by rw [hp]; exact (hb).at _ _ rfl) ?_; clear hp; (conv => cbv))
      refine br (fun g => ?_) (fun g => ?_)
      · have g : z = 0 := by simpa [hE.cmp, cmpR] using g
        conv => cbv
        rw [hR]; exact ⟨hx, true, rfl, by simp [k3, g, n0]⟩
      · have g : z ≠ 0 := by simpa [hE.cmp, cmpR] using g
        conv => cbv
        (refine st_fld hE fIN1 fun p hp => ?_; (conv => cbv); refine st_load hE cI64 (by rw [hp]; exact (hb).at _ _ rfl) ?_; clear hp; (conv => cbv))
        obtain ⟨q, hq⟩ : ∃ q, q = E.cmp .eql z 1 := ⟨_, rfl⟩
        have hq' : q = true ↔ z = 1 := by rw [hq, hE.cmp]; simp [cmpR]
        simp only [← hq]
        conv => cbv
        rw [hR]; exact ⟨hx, q, rfl, by rw [hq']; simp [k3, g, n0]⟩
  have k3 : o ≠ 3 := by simpa [hE.cmp, cmpR] using g
  conv => cbv
  refine br (fun g => ?_) (fun g => ?_)
  · have k4 : o = 4 := by simpa [hE.cmp, cmpR] using g
    conv => cbv
    refine st_loadS hE tIN rfl hb.at ?_
    conv => cbv
    refine st_f hr (bare_f (o := o) (z := z) (tx := tx) hsl false false true) fun v w2 hx2 ⟨r, ev, hr2⟩ => ?_
    subst ev
    replace hb := hb.bel hx2
    replace hx := hx.trans hx2
    cases r with
    | false =>
      conv => cbv
      rw [hR]; refine ⟨hx, false, rfl, ?_⟩
      have n0 : ¬ _ := fun q => absurd (hr2.2 q) (by simp)
      simp only [k4]; simp at n0 ⊢
      exact fun q r => absurd r (n0 q)
    | true =>
      have n0 := hr2.1 rfl
      simp at n0
      conv => cbv
      (refine st_fld hE fIN3 fun p hp => ?_; (conv => cbv); refine st_load hE cStrs (by rw [hp]; exact (hb).at _ _ rfl) ?_; clear hp; (conv => cbv))
      refine st_qb hE (IsSet_q (h.ext hx)) fun q hq w2 hs2 => ?_
      conv => cbv
      rw [hR]; exact ⟨hx.trans hs2.ext, q, rfl, by rw [hq]; simp [k4, n0]⟩
  have k4 : o ≠ 4 := by simpa [hE.cmp, cmpR] using g
  conv => cbv
  rw [hR]; exact ⟨hx, false, rfl, by simp [k1, k2, k3, k4]⟩
end Go.Proofs.YtgdnmpcaiaoaoaaDoor
/- Names of tokens: runs of bytes, words, what both sides call a name. -/
namespace Go.Proofs.YtgdnmpcaiaoaoaaDoor
open Go.Eng
set_option linter.unusedVariables false
set_option linter.unusedSimpArgs false
theorem scq {P : Program} {E : Sym} {bq : Bool} (hE : EngB bq P E) (a b : ByteArray) : E.scmp .eql a b = true ↔ a = b := by rw [hE.scmp, scmp_eql]
theorem scn {P : Program} {E : Sym} {bq : Bool} (hE : EngB bq P E) (s : ByteArray) : E.scmp .neq s ⟨#[]⟩ = true ↔ s.size ≠ 0 := by rw [hE.scmp]; exact ne_empty s
def sm (c : Int) : Prop := 97 ≤ c ∧ c ≤ 122
def dg (c : Int) : Prop := 48 ≤ c ∧ c ≤ 57
def wb (c : Int) : Prop := sm c ∨ dg c ∨ c = 95
theorem isSmall_q (c : Int) (w : World) : QB Tryd.prog 48 [.int .u8 c] w (sm c) := by
  refine QB.intro (cs := []) Tryd.func48 (by kernel_rfl) fun w0 hx0 w1 hs E R hE hr hR => ?_
  conv => cbv
  refine br (fun g => ?_) (fun g => ?_)
  · conv => cbv
    exact hR _ _ hs (by simp [hE.cmp, cmpR] at g ⊢; unfold sm; omega)
  · conv => cbv
    exact hR _ _ hs (by simp [hE.cmp, cmpR] at g ⊢; unfold sm; omega)
theorem l2letter_q (c : Int) (w : World) : QB Tryd.prog 61 [.int .u8 c] w (sm c) := by
  refine QB.intro (cs := []) Tryd.func61 (by kernel_rfl) fun w0 hx0 w1 hs E R hE hr hR => ?_
  conv => cbv
  refine br (fun g => ?_) (fun g => ?_)
  · conv => cbv
    exact hR _ _ hs (by simp [hE.cmp, cmpR] at g ⊢; unfold sm; omega)
  · conv => cbv
    exact hR _ _ hs (by simp [hE.cmp, cmpR] at g ⊢; unfold sm; omega)
theorem isDigit_q (c : Int) (w : World) : QB Tryd.prog 66 [.int .u8 c] w (dg c) := by
  refine QB.intro (cs := []) Tryd.func66 (by kernel_rfl) fun w0 hx0 w1 hs E R hE hr hR => ?_
  conv => cbv
  refine br (fun g => ?_) (fun g => ?_)
  · conv => cbv
    exact hR _ _ hs (by simp [hE.cmp, cmpR] at g ⊢; unfold dg; omega)
  · conv => cbv
    exact hR _ _ hs (by simp [hE.cmp, cmpR] at g ⊢; unfold dg; omega)
theorem l2digit_q (c : Int) (w : World) : QB Tryd.prog 75 [.int .u8 c] w (dg c) := by
  refine QB.intro (cs := []) Tryd.func75 (by kernel_rfl) fun w0 hx0 w1 hs E R hE hr hR => ?_
  conv => cbv
  refine br (fun g => ?_) (fun g => ?_)
  · conv => cbv
    exact hR _ _ hs (by simp [hE.cmp, cmpR] at g ⊢; unfold dg; omega)
  · conv => cbv
    exact hR _ _ hs (by simp [hE.cmp, cmpR] at g ⊢; unfold dg; omega)
theorem wordByte_q (c : Int) (w : World) : QB Tryd.prog 50 [.int .u8 c] w (wb c) := by
  refine QB.intro (cs := []) Tryd.func50 (by kernel_rfl) fun w0 hx0 w1 hs E R hE hr hR => ?_
  conv => cbv
  refine st_qb hE (isSmall_q c _) fun b hb w2 hs2 => ?_
  replace hs := hs.trans hs2
  cases b with
  | true =>
    conv => cbv
    exact hR _ _ hs (by unfold wb; simp [hb.1 rfl])
  | false =>
    have h1 : ¬ sm c := fun q => absurd (hb.2 q) (by simp)
    conv => cbv
    refine st_qb hE (isDigit_q c _) fun b2 hb2 w3 hs3 => ?_
    replace hs := hs.trans hs3
    cases b2 with
    | true =>
      conv => cbv
      exact hR _ _ hs (by unfold wb; simp [hb2.1 rfl])
    | false =>
      have h2 : ¬ dg c := fun q => absurd (hb2.2 q) (by simp)
      conv => cbv
      exact hR _ _ hs (by simp [hE.cmp, cmpR, wb, h1, h2])
/-- From i to j all bytes are of this kind, and the one at j is not. -/
structure RunTo (P : Int → Prop) (s : ByteArray) (i j : Nat) : Prop where
  le : i ≤ j
  hi : j ≤ s.size
  all : ∀ k (h : k < s.size), i ≤ k → k < j → P (s[k].toNat)
  stop : ∀ h : j < s.size, ¬ P (s[j].toNat)
theorem RunTo.uniq {P : Int → Prop} {s : ByteArray} {i j j' : Nat} (h : RunTo P s i j) (h' : RunTo P s i j') : j = j' := by
  rcases Nat.lt_trichotomy j j' with e | e | e
  · exact absurd (h'.all j (by have := h'.hi; omega) h.le e) (h.stop _)
  · exact e
  · exact absurd (h.all j' (by have := h.hi; omega) h'.le e) (h'.stop _)
theorem runTo_ex (P : Int → Prop) (s : ByteArray) : ∀ (m i : Nat), i + m = s.size → ∃ j, RunTo P s i j
  | 0, i, h => ⟨i, Nat.le_refl _, by omega, fun k hk h1 h2 => by omega, fun h => by omega⟩
  | m + 1, i, h => by
    by_cases hp : P ((s[i]'(by omega)).toNat)
    · obtain ⟨j, hj⟩ := runTo_ex P s m (i + 1) (by omega)
      refine ⟨j, by have := hj.le; omega, hj.hi, fun k hk h1 h2 => ?_, hj.stop⟩
      rcases Nat.eq_or_lt_of_le h1 with e | e
      · subst e; exact hp
      · exact hj.all k hk e h2
    · exact ⟨i, Nat.le_refl _, by omega, fun k hk h1 h2 => by omega, fun _ => hp⟩
theorem l2run_q {s : ByteArray} {i j : Nat} {ii : Int} (hii : ii = (i : Int)) (hj : RunTo wb s i j) (hl : s.size ≤ 9223372036854775807) (w : World) : QF Tryd.prog 62 [.string s, .int .i64 ii] w (.int .i64 (j : Int)) := by
  refine QF.intro (cs := []) Tryd.func62 (by kernel_rfl) fun w0 hx0 w1 hs E R hE hr hR => ?_
  conv => cbv
  refine loop_rule hr (fun (t : Nat × Int) w' => Same w0 w' ∧ t.2 = (t.1 : Int) ∧ i ≤ t.1 ∧ t.1 ≤ s.size ∧ ∀ k (h : k < s.size), i ≤ k → k < t.1 → wb (s[k].toNat)) (fun t => [(0, .string s), (1, .int .i64 t.2)]) (fun t => s.size - t.1) (i, ii)
    (by simp [Fits, lk]) ⟨hs, hii, Nat.le_refl _, by have := hj.le; have := hj.hi; omega, fun k h h1 h2 => by simp only at h2; omega⟩ ?_
  rintro I hI ⟨k, kk⟩ w' ⟨hs', hkk, hk1, hk2, hall⟩
  simp only at hkk hk1 hk2 hall
  obtain ⟨kj, hkj⟩ : ∃ z, z = kk + 1 := ⟨_, rfl⟩
  have fin : ∀ w2, Same w0 w2 → (∀ h : k < s.size, ¬ wb (s[k].toNat)) → R (.int .i64 kk) w2 := fun w2 h2 hst => by
    have := hj.uniq ⟨hk1, hk2, hall, hst⟩
    rw [hR, hkk, this]; exact ⟨rfl, h2⟩
  conv => cbv
  refine st_slen hE uStr fun x hx => ?_
  conv => cbv
  refine br (fun g => ?_) (fun g => ?_)
  · have g : k < s.size := by
      have : kk < x := by simpa [hE.cmp, cmpR] using g
      omega
    have ek : E.ar .add .i64 kk 1 = kj := by rw [hE.ar, hkj]; exact wrap_in (by omega) (by omega)
    obtain ⟨cz, hcz⟩ : ∃ cz : Int, cz = ((s[k]'g).toNat : Int) := ⟨_, rfl⟩
    have go : wb cz → ∀ w2, Same w0 w2 → I (k + 1, kj) w2 := fun hw w2 h2 => hI _ _ ⟨h2, by simp only; omega, by simp only; omega, by simp only; omega, fun q h h1 h3 => by
      rcases Nat.lt_or_ge q k with e | e
      · exact hall q h h1 e
      · obtain rfl : q = k := by simp only at h3; omega
        rw [← hcz]; exact hw⟩
    conv => cbv
    refine st_byte hE uStr (by omega) (by omega) fun c hc h0 h1 => ?_
    have hc : c = cz := by rw [hc, hcz]; congr 2; simp only [hkk, Int.toNat_natCast]
    subst hc
    conv => cbv
    refine st_qb hE (l2letter_q c _) fun b hb w2 hs2 => ?_
    cases b with
    | true =>
      conv => cbv
      simp only [ek]
      exact ⟨(k + 1, kj), by simp [Fits, lk], go (.inl (hb.1 rfl)) _ (hs'.trans hs2), by simp only; omega⟩
    | false =>
      have h2 : ¬ sm c := fun q => absurd (hb.2 q) (by simp)
      conv => cbv
      refine st_byte hE uStr (by omega) (by omega) fun c' hc' _ _ => ?_
      have hc' : c' = c := by rw [hc', hcz]; congr 2; simp only [hkk, Int.toNat_natCast]
      subst hc'
      conv => cbv
      refine st_qb hE (l2digit_q c' _) fun b2 hb2 w3 hs3 => ?_
      cases b2 with
      | true =>
        conv => cbv
        simp only [ek]
        exact ⟨(k + 1, kj), by simp [Fits, lk], go (.inr (.inl (hb2.1 rfl))) _ ((hs'.trans hs2).trans hs3), by simp only; omega⟩
      | false =>
        have h3 : ¬ dg c' := fun q => absurd (hb2.2 q) (by simp)
        conv => cbv
        refine st_byte hE uStr (by omega) (by omega) fun c2 hc2 _ _ => ?_
        have hc2 : c2 = c' := by rw [hc2, hcz]; congr 2; simp only [hkk, Int.toNat_natCast]
        subst hc2
        conv => cbv
        refine br (fun g3 => ?_) (fun g3 => ?_)
        · have g3 : c2 = 95 := by simpa [hE.cmp, cmpR] using g3
          conv => cbv
          simp only [ek]
          exact ⟨(k + 1, kj), by simp [Fits, lk], go (.inr (.inr g3)) _ ((hs'.trans hs2).trans hs3), by simp only; omega⟩
        · have g3 : c2 ≠ 95 := by simpa [hE.cmp, cmpR] using g3
          conv => cbv
          exact fin _ ((hs'.trans hs2).trans hs3) (fun _ => by rw [← hcz]; unfold wb; simp [h2, h3, g3])
  · have g : ¬ k < s.size := by
      have : ¬ kk < x := by simpa [hE.cmp, cmpR] using g
      omega
    conv => cbv
    exact fin _ hs' (fun h => absurd h g)
theorem run_q {s : ByteArray} {j : Nat} {Pr : Int → Prop} {f : FuncId} (hj : RunTo Pr s 0 j) (hl : s.size ≤ 9223372036854775807) (w : World) (hq : ∀ c w', QB Tryd.prog f [.int .u8 c] w' (Pr c)) : QF Tryd.prog 49 [.string s, .func (.func f) #[] #[]] w (.string (s.extract 0 j)) := by
  refine QF.intro (cs := []) Tryd.func49 (by kernel_rfl) fun w0 hx0 w1 hs E R hE hr hR => ?_
  conv => cbv
  refine loop_rule hr (fun (t : Nat × Int) w' => Same w0 w' ∧ t.2 = (t.1 : Int) ∧ t.1 ≤ s.size ∧ ∀ k (h : k < s.size), 0 ≤ k → k < t.1 → Pr (s[k].toNat)) (fun t => [(0, .string s), (1, .func (.func f) #[] #[]), (5, .int .i64 t.2)]) (fun t => s.size - t.1) (0, 0)
    (by simp [Fits, lk]) ⟨hs, rfl, by omega, fun k h h1 h2 => by simp only at h2; omega⟩ ?_
  rintro I hI ⟨k, kk⟩ w' ⟨hs', hkk, hk2, hall⟩
  simp only at hkk hk2 hall
  obtain ⟨kj, hkj⟩ : ∃ z, z = kk + 1 := ⟨_, rfl⟩
  conv => cbv
  refine st_slen hE uStr fun x hx => ?_
  conv => cbv
  refine br (fun g => ?_) (fun g => ?_)
  · have g : k < s.size := by
      have : kk < x := by simpa [hE.cmp, cmpR] using g
      omega
    have ek : E.ar .add .i64 kk 1 = kj := by rw [hE.ar, hkj]; exact wrap_in (by omega) (by omega)
    obtain ⟨cz, hcz⟩ : ∃ cz : Int, cz = ((s[k]'g).toNat : Int) := ⟨_, rfl⟩
    conv => cbv
    refine st_byte hE uStr (by omega) (by omega) fun c hc h0 h1 => ?_
    have hc : c = cz := by rw [hc, hcz]; congr 2; simp only [hkk, Int.toNat_natCast]
    subst hc
    conv => cbv
    refine st_qb hE (hq c _) fun b hb w2 hs2 => ?_
    cases b with
    | true =>
      conv => cbv
      simp only [ek]
      refine ⟨(k + 1, kj), by simp [Fits, lk], hI _ _ ⟨hs'.trans hs2, by simp only; omega, by simp only; omega, fun q h h1 h3 => ?_⟩, by simp only; omega⟩
      rcases Nat.lt_or_ge q k with e | e
      · exact hall q h h1 e
      · obtain rfl : q = k := by simp only at h3; omega
        rw [← hcz]; exact hb.1 rfl
    | false =>
      have h2 : ¬ Pr c := fun q => absurd (hb.2 q) (by simp)
      have ej := hj.uniq ⟨Nat.zero_le _, hk2, hall, fun _ => by rw [← hcz]; exact h2⟩
      conv => cbv
      refine st_upTo hE uStr (by omega) (by omega) fun u hu => ?_
      conv => cbv
      rw [hR, hu, ej, hkk]; exact ⟨by simp; rfl, hs'.trans hs2⟩
  · have g : ¬ k < s.size := by
      have : ¬ kk < x := by simpa [hE.cmp, cmpR] using g
      omega
    have ej := hj.uniq ⟨Nat.zero_le _, hk2, hall, fun h => absurd h g⟩
    conv => cbv
    refine st_upTo hE uStr (by omega) (by omega) fun u hu => ?_
    conv => cbv
    rw [hR, hu, ej, hkk]; exact ⟨by simp; rfl, hs'⟩
/-! ### Words -/
def words : List ByteArray := [⟨⟨[108, 101, 116]⟩⟩, ⟨⟨[119, 104, 101, 110]⟩⟩, ⟨⟨[101, 108, 115, 101]⟩⟩, ⟨⟨[100, 101, 110, 121]⟩⟩, ⟨⟨[103, 114, 97, 110, 116]⟩⟩, ⟨⟨[105, 102]⟩⟩, ⟨⟨[116, 104, 101, 110]⟩⟩, ⟨⟨[110, 111, 116]⟩⟩, ⟨⟨[97, 110, 100]⟩⟩, ⟨⟨[111, 114]⟩⟩, ⟨⟨[105, 110]⟩⟩, ⟨⟨[119, 105, 116, 104, 105, 110]⟩⟩, ⟨⟨[115, 105, 122, 101]⟩⟩, ⟨⟨[116, 114, 117, 101]⟩⟩, ⟨⟨[102, 97, 108, 115, 101]⟩⟩]
theorem words_small : ∀ s ∈ words, s.size ≤ 9223372036854775807 := by
  have h : ∀ s ∈ words, s.size ≤ 6 := by decide
  exact fun s hs => by have := h s hs; omega
theorem l2word_f (s : ByteArray) (w : World) : FC Tryd.prog 63 [.string s] w fun v _ => ∃ b : Bool, v = .bool b ∧ (b = true ↔ s ∈ words) := by
  refine FC.intro (cs := []) Tryd.func63 (by kernel_rfl) fun E R hE hr hR => ?_
  conv => cbv
  refine st_lits hr tStrs rfl (vs := words.map .string) (m := 15) rfl (by omega) (by omega) rfl (by simp [words, Value.cells]) fun A w1 hx ho => ?_
  have hS : Strs w1 A 15 15 words := Own.strs (ho _ (Nat.le_refl _)) words_small
  conv => cbv
  refine st_len hE tStrs fun x hx2 => ?_
  conv => cbv
  refine loop_rule hr (fun (t : Nat × Int) w' => Same w1 w' ∧ t.2 = (t.1 : Int) ∧ t.1 ≤ 15 ∧ s ∉ words.take t.1) (fun t => [(0, .string s), (5, .slice A 15 15), (6, .int .i64 x), (7, .int .i64 t.2)]) (fun t => 15 - t.1) (0, 0)
    (by simp [Fits, lk]) ⟨Same.refl _, rfl, by omega, by simp⟩ ?_
  rintro I hI ⟨k, kk⟩ w' ⟨hs', hkk, hk2, hall⟩
  simp only at hkk hk2 hall
  obtain ⟨kj, hkj⟩ : ∃ z, z = kk + 1 := ⟨_, rfl⟩
  conv => cbv
  refine br (fun g => ?_) (fun g => ?_)
  · have g : k < 15 := by
      have : kk < x := by simpa [hE.cmp, cmpR] using g
      omega
    have ek : E.ar .add .i64 kk 1 = kj := by rw [hE.ar, hkj]; exact wrap_in (by omega) (by omega)
    conv => cbv
    refine st_str hE tStrs (hS.same hs') (k := k) hkk g fun p u hu _ hp => ?_
    conv => cbv
    refine st_load hE cStr hp ?_
    conv => cbv
    refine br (fun g2 => ?_) (fun g2 => ?_)
    · have g2 : s = u := (scq hE _ _).1 g2
      conv => cbv
      rw [hR]; exact ⟨hx.trans hs'.ext, true, rfl, by simp; rw [g2]; exact List.mem_of_getElem? hu⟩
    · have g2 : s ≠ u := fun e => g2 ((scq hE _ _).2 e)
      conv => cbv
      simp only [ek]
      refine ⟨(k + 1, kj), by simp [Fits, lk], hI _ _ ⟨hs', by simp only; omega, by simp only; omega, ?_⟩, by simp only; omega⟩
      simp only
      rw [List.take_add_one, hu, List.mem_append]
      rintro (q | q)
      · exact hall q
      · simp at q; exact g2 q
  · have g : k = 15 := by
      have : ¬ kk < x := by simpa [hE.cmp, cmpR] using g
      omega
    subst g
    rw [List.take_of_length_le (by decide)] at hall
    conv => cbv
    rw [hR]; exact ⟨hx.trans hs'.ext, false, rfl, by simp [hall]⟩
/-- A name of a token. -/
def ident (s : ByteArray) : Prop := s.size ≠ 0 ∧ s.size ≤ 32 ∧ (∀ h : 0 < s.size, sm (s[0].toNat)) ∧ RunTo wb s 0 s.size ∧ s ∉ words
theorem l2ident_f (s : ByteArray) (hl : s.size ≤ 9223372036854775807) (w : World) : FC Tryd.prog 40 [.string s] w fun v _ => ∃ b : Bool, v = .bool b ∧ (b = true ↔ ident s) := by
  refine FC.intro (cs := []) Tryd.func40 (by kernel_rfl) fun E R hE hr hR => ?_
  have no : ¬ ident s → ∀ w', Ext w w' → R (.bool false) w' := fun h w' hx => by rw [hR]; exact ⟨hx, false, rfl, by simp [h]⟩
  conv => cbv
  refine st_slen hE uStr fun x hx => ?_
  conv => cbv
  refine br (fun g => ?_) (fun g => ?_)
  rotate_left
  · have g : ¬ 0 < x := by simpa [hE.cmp, cmpR] using g
    conv => cbv
    exact no (fun h => h.1 (by omega)) _ (Ext.refl _)
  have g : 0 < x := by simpa [hE.cmp, cmpR] using g
  conv => cbv
  refine st_slen hE uStr fun x2 hx2 => ?_
  conv => cbv
  refine br (fun g2 => ?_) (fun g2 => ?_)
  rotate_left
  · have g2 : ¬ x2 ≤ 32 := by simpa [hE.cmp, cmpR] using g2
    conv => cbv
    exact no (fun h => g2 (by have := h.2.1; omega)) _ (Ext.refl _)
  have g2 : x2 ≤ 32 := by simpa [hE.cmp, cmpR] using g2
  conv => cbv
  refine st_byte hE uStr (by omega) (by omega) fun c hc _ _ => ?_
  conv => cbv
  refine st_qb hE (l2letter_q c _) fun b hb w2 hs2 => ?_
  cases b with
  | false =>
    conv => cbv
    exact no (fun h => absurd (hb.2 (by rw [hc]; exact h.2.2.1 (by omega))) (by simp)) _ hs2.ext
  | true =>
  have hb := hb.1 rfl
  obtain ⟨j, hj⟩ := runTo_ex wb s s.size 0 (by omega)
  conv => cbv
  refine st_q hE (l2run_q (ii := 0) rfl hj hl _) fun w3 hs3 => ?_
  have hx3 := (hs2.trans hs3).ext
  obtain ⟨jj, hjj⟩ : ∃ jj : Int, jj = j := ⟨_, rfl⟩
  rw [← hjj]
  conv => cbv
  refine st_slen hE uStr fun x3 hx3' => ?_
  conv => cbv
  refine br (fun g3 => ?_) (fun g3 => ?_)
  rotate_left
  · have g3 : jj ≠ x3 := by simpa [hE.cmp, cmpR] using g3
    conv => cbv
    exact no (fun h => g3 (by have := hj.uniq h.2.2.2.1; omega)) _ hx3
  have g3 : jj = x3 := by simpa [hE.cmp, cmpR] using g3
  have ej : j = s.size := by omega
  subst ej
  conv => cbv
  refine st_f hr (l2word_f s _) fun v w4 hx4 ⟨b, ev, hb4⟩ => ?_
  subst ev
  cases b with
  | true =>
    conv => cbv
    exact no (fun h => h.2.2.2.2 (hb4.1 rfl)) _ (hx3.trans hx4)
  | false =>
    conv => cbv
    rw [hR]; exact ⟨hx3.trans hx4, true, rfl, by simp only [true_iff]; exact ⟨by omega, by omega, fun _ => by rw [hc] at hb; exact hb, hj, fun q => absurd (hb4.2 q) (by simp)⟩⟩
theorem extract_full {s : ByteArray} {j : Nat} (h : j ≤ s.size) : s.extract 0 j = s ↔ j = s.size := by
  constructor
  · intro e
    have := congrArg ByteArray.size e
    rw [ByteArray.size_extract] at this; omega
  · rintro rfl; exact ByteArray.extract_zero_size
theorem cSet : Cel Tryd.prog 103 := ⟨_, Tryd.underlying103, by simp, by simp⟩
theorem isNameToken_f {w : World} (hT : STab w 1 words) (s : ByteArray) (hl : s.size ≤ 9223372036854775807) : QB Tryd.prog 31 [.string s] w (ident s) := by
  refine QB.intro (cs := []) Tryd.func31 (by kernel_rfl) fun w0 hx0 w1 hs E R hE hr hR => ?_
  replace hT := (hT.ext hx0).ext hs.ext
  obtain ⟨bm, es, clock, t1, t2, t3, t4⟩ := hT.ex
  have no : ¬ ident s → ∀ w', Same w0 w' → R (.bool false) w' := fun h w' hx => hR _ _ hx (by simp [h])
  conv => cbv
  refine br (fun g => ?_) (fun g => ?_)
  rotate_left
  · have g : s.size = 0 := Classical.byContradiction fun q => g ((scn hE _).2 q)
    conv => cbv
    exact no (fun h => h.1 g) _ hs
  have g : s.size ≠ 0 := (scn hE _).1 g
  conv => cbv
  refine st_slen hE uStr fun x2 hx2 => ?_
  conv => cbv
  refine br (fun g2 => ?_) (fun g2 => ?_)
  rotate_left
  · have g2 : ¬ x2 ≤ 32 := by simpa [hE.cmp, cmpR] using g2
    conv => cbv
    exact no (fun h => g2 (by have := h.2.1; omega)) _ hs
  have g2 : x2 ≤ 32 := by simpa [hE.cmp, cmpR] using g2
  conv => cbv
  refine st_byte hE uStr (by omega) (by omega) fun c hc _ _ => ?_
  conv => cbv
  refine st_qb hE (isSmall_q c _) fun b hb w2 hs2 => ?_
  cases b with
  | false =>
    conv => cbv
    exact no (fun h => absurd (hb.2 (by rw [hc]; exact h.2.2.1 (by omega))) (by simp)) _ (hs.trans hs2)
  | true =>
  have hb := hb.1 rfl
  obtain ⟨j, hj⟩ := runTo_ex wb s s.size 0 (by omega)
  conv => cbv
  refine st_q hE (run_q hj hl _ (fun c w' => wordByte_q c w')) fun w3 hs3 => ?_
  have hx3 := (hs.trans hs2).trans hs3
  obtain ⟨u, hu⟩ : ∃ u, u = s.extract 0 j := ⟨_, rfl⟩
  rw [← hu]
  conv => cbv
  refine br (fun g3 => ?_) (fun g3 => ?_)
  rotate_left
  · have g3 : u ≠ s := fun e => g3 ((scq hE _ _).2 e)
    conv => cbv
    exact no (fun h => g3 (by rw [hu]; exact (extract_full hj.hi).2 (hj.uniq h.2.2.2.1))) _ hx3
  have g3 : u = s := (scq hE _ _).1 g3
  have ej : j = s.size := (extract_full hj.hi).1 (by rw [← hu]; exact g3)
  subst ej
  have hxx := (hs2.trans hs3).ext
  conv => cbv
  refine st_load hE cSet (hxx.cell t1) ?_
  conv => cbv
  refine st_stab hE Tryd.underlying103 uStr (by kernel_rfl) (hxx.getMap t2) t3 t4 fun b hb4 => ?_
  cases b with
  | true =>
    conv => cbv
    exact no (fun h => h.2.2.2.2 (hb4.1 rfl)) _ hx3
  | false =>
    conv => cbv
    exact hR _ _ hx3 (by simp only [true_iff]; exact ⟨g, by omega, fun _ => by rw [hc] at hb; exact hb, hj, fun q => absurd (hb4.2 q) (by simp)⟩)
end Go.Proofs.YtgdnmpcaiaoaoaaDoor
/- Nodes and statements as they lie in memory (printed by gen_p1.py). -/
namespace Go.Proofs.YtgdnmpcaiaoaoaaDoor
open Go.Eng
set_option linter.unusedVariables false
set_option linter.unusedSimpArgs false
abbrev zNd : List Value := [.int .i64 0, .int .i64 0, .string ⟨#[]⟩, .slice none 0 0, .slice none 0 0]
theorem tLNd : Stc Tryd.prog 57 5 zNd := ⟨by kernel_rfl, by kernel_rfl⟩
theorem sLNd : Slc Tryd.prog 22 57 (.agg ⟨zNd⟩) 5 80 := ⟨Tryd.underlying22, by kernel_rfl⟩
theorem cLNs : Cel Tryd.prog 22 := ⟨_, Tryd.underlying22, by simp, by simp⟩
theorem fLNd0 : Fld Tryd.prog 57 0 0 := ⟨by kernel_rfl⟩
theorem fLNd1 : Fld Tryd.prog 57 1 1 := ⟨by kernel_rfl⟩
theorem fLNd2 : Fld Tryd.prog 57 2 2 := ⟨by kernel_rfl⟩
theorem fLNd3 : Fld Tryd.prog 57 3 3 := ⟨by kernel_rfl⟩
theorem fLNd4 : Fld Tryd.prog 57 4 4 := ⟨by kernel_rfl⟩
theorem tINd : Stc Tryd.prog 61 5 zNd := ⟨by kernel_rfl, by kernel_rfl⟩
theorem sINd : Slc Tryd.prog 28 61 (.agg ⟨zNd⟩) 5 80 := ⟨Tryd.underlying28, by kernel_rfl⟩
theorem cINs : Cel Tryd.prog 28 := ⟨_, Tryd.underlying28, by simp, by simp⟩
theorem zINs : (Tryd.prog.info? 28).map (·.size) = some 1 := by kernel_rfl
theorem fINd0 : Fld Tryd.prog 61 0 0 := ⟨by kernel_rfl⟩
theorem fINd1 : Fld Tryd.prog 61 1 1 := ⟨by kernel_rfl⟩
theorem fINd2 : Fld Tryd.prog 61 2 2 := ⟨by kernel_rfl⟩
theorem fINd3 : Fld Tryd.prog 61 3 3 := ⟨by kernel_rfl⟩
theorem fINd4 : Fld Tryd.prog 61 4 4 := ⟨by kernel_rfl⟩
structure PN where
  o : Int
  z : Int
  tx : ByteArray
  xs : List ByteArray
  ks : List Int
structure VN where
  p : PN
  A0 : Option Addr
  m0 : Nat
  c0 : Nat
  A1 : Option Addr
  m1 : Nat
  c1 : Nat
def cN (v : VN) : List Value := [.int .i64 v.p.o, .int .i64 v.p.z, .string v.p.tx, .slice v.A0 v.m0 v.c0, .slice v.A1 v.m1 v.c1]
theorem cN_len (v : VN) : (cN v).length = 5 := rfl
structure OKN (w : World) (v : VN) : Prop where
  s_tx : v.p.tx.size ≤ 9223372036854775807
  r_xs : Strs w v.A0 v.m0 v.c0 v.p.xs
  r_ks : Ints w v.A1 v.m1 v.c1 v.p.ks
theorem OKN.ext {w w' : World} {v : VN} (h : OKN w v) (hx : Ext w w') : OKN w' v := ⟨h.s_tx, h.r_xs.ext hx, h.r_ks.ext hx⟩
/-- A slice of them that is read. -/
def RNs (w : World) (A : Option Addr) (n : Nat) (pv : List PN) : Prop := ∃ vs : List VN, vs.map (·.p) = pv ∧ vs.length = n ∧ Cells w A (vs.flatMap cN) ∧ ∀ v ∈ vs, OKN w v
theorem RNs.ext {w w' : World} {A : Option Addr} {n : Nat} {pv : List PN} (h : RNs w A n pv) (hx : Ext w w') : RNs w' A n pv := by
  obtain ⟨vs, h1, h2, h3, h4⟩ := h
  exact ⟨vs, h1, h2, h3.ext hx, fun v hv => (h4 v hv).ext hx⟩
theorem RNs.len {w : World} {A : Option Addr} {n : Nat} {pv : List PN} (h : RNs w A n pv) : pv.length = n := by
  obtain ⟨vs, h1, h2, _⟩ := h
  rw [← h1, ← h2]; simp
theorem RNs.get {w : World} {A : Option Addr} {n : Nat} {pv : List PN} (h : RNs w A n pv) {i : Nat} (hi : i < n) : ∃ (a : Addr) (v : VN), A = some a ∧ pv[i]? = some v.p ∧ (∀ j u, (cN v)[j]? = some u → w.cell? ((a.add (i * 5)).add j) = some u) ∧ OKN w v := by
  obtain ⟨vs, h1, h2, h3, h4⟩ := h
  obtain ⟨v, hv⟩ : ∃ v, vs[i]? = some v := ⟨_, List.getElem?_eq_getElem (by omega)⟩
  obtain ⟨a, ha, hc⟩ := fl_at cN_len h3 (by omega) hv
  exact ⟨a, v, ha, by rw [← h1]; simp [hv], hc, h4 _ (List.mem_of_getElem? hv)⟩
def wtN (p : PN) : Nat := p.tx.size + bulk p.xs + p.ks.length
def wtNs : List PN → Nat
  | [] => 0
  | p :: l => 1 + wtN p + wtNs l
theorem wtNs_app : ∀ (l r : List PN), wtNs (l ++ r) = wtNs l + wtNs r
  | [], r => by simp [wtNs]
  | p :: l, r => by rw [List.cons_append, wtNs, wtNs, wtNs_app l r]; omega
theorem wtNs_mem : ∀ {l : List PN} {p : PN}, p ∈ l → 1 + wtN p ≤ wtNs l
  | q :: l, p, h => by
    rw [wtNs]
    rcases List.mem_cons.1 h with rfl | h
    · omega
    · have := wtNs_mem h; omega
theorem wtNs_len : ∀ l : List PN, l.length ≤ wtNs l
  | [] => by simp
  | p :: l => by have := wtNs_len l; rw [wtNs, List.length_cons]; omega
abbrev zSd : List Value := [.int .i64 0, .string ⟨#[]⟩, .int .i64 0, .int .i64 0]
theorem tLSd : Stc Tryd.prog 59 4 zSd := ⟨by kernel_rfl, by kernel_rfl⟩
theorem sLSd : Slc Tryd.prog 23 59 (.agg ⟨zSd⟩) 4 40 := ⟨Tryd.underlying23, by kernel_rfl⟩
theorem cLSs : Cel Tryd.prog 23 := ⟨_, Tryd.underlying23, by simp, by simp⟩
theorem fLSd0 : Fld Tryd.prog 59 0 0 := ⟨by kernel_rfl⟩
theorem fLSd1 : Fld Tryd.prog 59 1 1 := ⟨by kernel_rfl⟩
theorem fLSd2 : Fld Tryd.prog 59 2 2 := ⟨by kernel_rfl⟩
theorem fLSd3 : Fld Tryd.prog 59 3 3 := ⟨by kernel_rfl⟩
theorem tISd : Stc Tryd.prog 39 4 zSd := ⟨by kernel_rfl, by kernel_rfl⟩
theorem sISd : Slc Tryd.prog 29 39 (.agg ⟨zSd⟩) 4 40 := ⟨Tryd.underlying29, by kernel_rfl⟩
theorem cISs : Cel Tryd.prog 29 := ⟨_, Tryd.underlying29, by simp, by simp⟩
theorem zISs : (Tryd.prog.info? 29).map (·.size) = some 1 := by kernel_rfl
theorem fISd0 : Fld Tryd.prog 39 0 0 := ⟨by kernel_rfl⟩
theorem fISd1 : Fld Tryd.prog 39 1 1 := ⟨by kernel_rfl⟩
theorem fISd2 : Fld Tryd.prog 39 2 2 := ⟨by kernel_rfl⟩
theorem fISd3 : Fld Tryd.prog 39 3 3 := ⟨by kernel_rfl⟩
structure PS where
  k : Int
  nm : ByteArray
  c : Int
  g : Int
abbrev VS := PS
def cS (v : VS) : List Value := [.int .i64 v.k, .string v.nm, .int .i64 v.c, .int .i64 v.g]
theorem cS_len (v : VS) : (cS v).length = 4 := rfl
structure OKS (w : World) (v : VS) : Prop where
  s_nm : v.nm.size ≤ 9223372036854775807
theorem OKS.ext {w w' : World} {v : VS} (h : OKS w v) (hx : Ext w w') : OKS w' v := ⟨h.s_nm⟩
/-- A slice of them that is read. -/
def RSs (w : World) (A : Option Addr) (n : Nat) (pv : List PS) : Prop := ∃ vs : List VS, vs = pv ∧ vs.length = n ∧ Cells w A (vs.flatMap cS) ∧ ∀ v ∈ vs, OKS w v
theorem RSs.ext {w w' : World} {A : Option Addr} {n : Nat} {pv : List PS} (h : RSs w A n pv) (hx : Ext w w') : RSs w' A n pv := by
  obtain ⟨vs, h1, h2, h3, h4⟩ := h
  exact ⟨vs, h1, h2, h3.ext hx, fun v hv => (h4 v hv).ext hx⟩
theorem RSs.len {w : World} {A : Option Addr} {n : Nat} {pv : List PS} (h : RSs w A n pv) : pv.length = n := by
  obtain ⟨vs, h1, h2, _⟩ := h
  rw [← h1, ← h2]
theorem RSs.get {w : World} {A : Option Addr} {n : Nat} {pv : List PS} (h : RSs w A n pv) {i : Nat} (hi : i < n) : ∃ (a : Addr) (v : VS), A = some a ∧ pv[i]? = some v ∧ (∀ j u, (cS v)[j]? = some u → w.cell? ((a.add (i * 4)).add j) = some u) ∧ OKS w v := by
  obtain ⟨vs, h1, h2, h3, h4⟩ := h
  obtain ⟨v, hv⟩ : ∃ v, vs[i]? = some v := ⟨_, List.getElem?_eq_getElem (by omega)⟩
  obtain ⟨a, ha, hc⟩ := fl_at cS_len h3 (by omega) hv
  exact ⟨a, v, ha, by rw [← h1]; exact hv, hc, h4 _ (List.mem_of_getElem? hv)⟩
def wtS (p : PS) : Nat := p.nm.size
def wtSs : List PS → Nat
  | [] => 0
  | p :: l => 1 + wtS p + wtSs l
theorem wtSs_app : ∀ (l r : List PS), wtSs (l ++ r) = wtSs l + wtSs r
  | [], r => by simp [wtSs]
  | p :: l, r => by rw [List.cons_append, wtSs, wtSs, wtSs_app l r]; omega
theorem wtSs_len : ∀ l : List PS, l.length ≤ wtSs l
  | [] => by simp
  | p :: l => by have := wtSs_len l; rw [wtSs, List.length_cons]; omega
abbrev polV (A : Option Addr) (n c : Nat) (A2 : Option Addr) (n2 c2 : Nat) : Value := .agg ⟨[.slice A n c, .slice A2 n2 c2]⟩
structure PolR (w : World) (A : Option Addr) (n : Nat) (A2 : Option Addr) (n2 : Nat) (nv : List PN) (sv : List PS) : Prop where
  nodes : RNs w A n nv
  stmts : RSs w A2 n2 sv
theorem PolR.ext {w w' : World} {A A2 : Option Addr} {n n2 : Nat} {nv : List PN} {sv : List PS} (h : PolR w A n A2 n2 nv sv) (hx : Ext w w') : PolR w' A n A2 n2 nv sv := ⟨h.1.ext hx, h.2.ext hx⟩
end Go.Proofs.YtgdnmpcaiaoaoaaDoor
/- Opening policies among a law's arguments; the table of reserved words. -/
namespace Go.Proofs.YtgdnmpcaiaoaoaaDoor
open Go.ChangeShapes Go.WideShapes Go.ChangeAt Go.RowKit Go.Eng
set_option maxRecDepth 100000
theorem list5m {α : Type} : ∀ {l : List α}, l.length = 5 → ∃ a b c d e, l = [a, b, c, d, e]
  | [a, b, c, d, e], _ => ⟨a, b, c, d, e, rfl⟩
theorem fm_map {α β : Type} (f : α → β) (l : List α) : (l.flatMap fun x => [f x]) = l.map f := by
  induction l with
  | nil => rfl
  | cons a l ih => rw [List.flatMap_cons, ih]; rfl
theorem res_words {w : World} {v : Nat} (h : STab w v resL) : STab w v words := stab_perm h (by decide +kernel) (by decide +kernel)
section
variable {H : Type} {enc : TypeId × Value → H} {w : World} {base : Nat} {held : Bool} {fuel : Nat} {x : DataW H × List MemPlace}
theorem ints_of_cellsM {cs : List Value} (h : DataW.trod enc Tryd.prog w base (fun _ => true) held fuel 55 cs = some x) : ∃ A n c zs, cs = [.slice A n c] ∧ Ints w A n c zs := by
  obtain ⟨A, n, c, zs, g, e1, e2, e3, e4, _⟩ := open_rowsM (f := fun z : Int => [Value.int .i64 z]) (k := 1) (Q := fun _ => True) Tryd.underlying55 (show Tryd.prog.cellsOf 3 = 1 by kernel_rfl) (by omega) (fun n cs x h => by
    obtain ⟨z, g, _⟩ := DataW.trod_int uInt h
    exact ⟨z, g, rfl, trivial⟩) h
  rw [fm_map] at e4
  exact ⟨A, n, c, zs, g, e1, e3, e2, e4⟩
theorem el_stmt (n : Nat) (cs : List Value) (x : DataW H × List MemPlace) (h : DataW.trod enc Tryd.prog w base (fun _ => true) held n 59 cs = some x) : ∃ v : VS, cs = cS v ∧ (cS v).length = 4 ∧ OKS w v := by
  obtain ⟨xs, m, _, _, hl, hlen, hfs⟩ := DataW.trod_struct Tryd.underlying59 h
  rw [show Tryd.prog.cellsOf 59 = 4 by kernel_rfl] at hl
  obtain ⟨c0, c1, c2, c3, rfl⟩ := list4m hl
  obtain ⟨x0, h0⟩ := fldAtM hlen hfs 0 _ rfl
  obtain ⟨x1, h1⟩ := fldAtM hlen hfs 1 _ rfl
  obtain ⟨x2, h2⟩ := fldAtM hlen hfs 2 _ rfl
  obtain ⟨x3, h3⟩ := fldAtM hlen hfs 3 _ rfl
  obtain ⟨z0, g0, _⟩ := DataW.trod_int uInt h0
  obtain ⟨s1, g1, _, k1⟩ := DataW.trod_string uStr h1
  obtain ⟨z2, g2, _⟩ := DataW.trod_int uInt h2
  obtain ⟨z3, g3, _⟩ := DataW.trod_int uInt h3
  cases g0; cases g1; cases g2; cases g3
  unfold maxLen at k1
  exact ⟨⟨z0, s1, z2, z3⟩, rfl, rfl, ⟨by simp only; omega⟩⟩
theorem stmts_of_cellsM {cs : List Value} (h : DataW.trod enc Tryd.prog w base (fun _ => true) held fuel 23 cs = some x) : ∃ A n c sv, cs = [.slice A n c] ∧ RSs w A n sv ∧ n ≤ 9223372036854775807 := by
  obtain ⟨A, n, c, vs, g0, e1, e2, e3, e4, e5⟩ := open_rowsM (f := cS) Tryd.underlying23 (show Tryd.prog.cellsOf 59 = 4 by kernel_rfl) (by omega) el_stmt h
  exact ⟨A, n, c, vs, g0, ⟨vs, rfl, e1, e4, e5⟩, e3⟩
end
end Go.Proofs.YtgdnmpcaiaoaoaaDoor
/- Opening policies among a law's arguments, with the ranges of their numbers. -/
namespace Go.Proofs.YtgdnmpcaiaoaoaaDoor
open Go.ChangeShapes Go.WideShapes Go.ChangeAt Go.RowKit Go.Eng
set_option maxRecDepth 100000
section
variable {H : Type} {enc : TypeId × Value → H} {w : World} {base : Nat} {held : Bool} {fuel : Nat} {x : DataW H × List MemPlace}
theorem el_nodeF (n : Nat) (cs : List Value) (x : DataW H × List MemPlace) (h : DataW.trod enc Tryd.prog w base (fun _ => true) held n 57 cs = some x) : ∃ v : VN, cs = cN v ∧ (cN v).length = 5 ∧ (OKN w v ∧ fits v.p.z) := by
  obtain ⟨xs, m, _, _, hl, hlen, hfs⟩ := DataW.trod_struct Tryd.underlying57 h
  rw [show Tryd.prog.cellsOf 57 = 5 by kernel_rfl] at hl
  obtain ⟨c0, c1, c2, c3, c4, rfl⟩ := list5m hl
  obtain ⟨x0, h0⟩ := fldAtM hlen hfs 0 _ rfl
  obtain ⟨x1, h1⟩ := fldAtM hlen hfs 1 _ rfl
  obtain ⟨x2, h2⟩ := fldAtM hlen hfs 2 _ rfl
  obtain ⟨x3, h3⟩ := fldAtM hlen hfs 3 _ rfl
  obtain ⟨x4, h4⟩ := fldAtM hlen hfs 4 _ rfl
  obtain ⟨z0, g0, _⟩ := DataW.trod_int uInt h0
  obtain ⟨z1, g1, _, w1⟩ := DataW.trod_int uI64 h1
  obtain ⟨s2, g2, _, k2⟩ := DataW.trod_string uStr h2
  obtain ⟨A3, n3, d3, q3, g3, k3⟩ := strs_of_cellsM h3
  obtain ⟨A4, n4, d4, q4, g4, k4⟩ := ints_of_cellsM h4
  cases g0; cases g1; cases g2; cases g3; cases g4
  unfold maxLen at k2
  exact ⟨⟨⟨z0, z1, s2, q3, q4⟩, A3, n3, d3, A4, n4, d4⟩, rfl, rfl, ⟨by simp only; omega, k3, k4⟩, by simp only [Lit.wf, Bool.and_eq_true, decide_eq_true_eq] at w1; exact w1⟩
theorem nodes_of_cellsF {cs : List Value} (h : DataW.trod enc Tryd.prog w base (fun _ => true) held fuel 22 cs = some x) : ∃ A n c nv, cs = [.slice A n c] ∧ RNs w A n nv ∧ n ≤ 9223372036854775807 ∧ ∀ p ∈ nv, fits p.z := by
  obtain ⟨A, n, c, vs, g0, e1, e2, e3, e4, e5⟩ := open_rowsM (f := cN) Tryd.underlying22 (show Tryd.prog.cellsOf 57 = 5 by kernel_rfl) (by omega) el_nodeF h
  exact ⟨A, n, c, vs.map (·.p), g0, ⟨vs, rfl, e1, e4, fun v hv => (e5 v hv).1⟩, e3, fun p hp => by obtain ⟨v, hv, rfl⟩ := List.mem_map.1 hp; exact (e5 v hv).2⟩
theorem open_lpolicyF {v : Value} {d : DataW H} {ps : List MemPlace} {r : Reach} {b0 : Nat} (hv : Value.okWide Tryd.prog w r b0 25 v) (h : DataW.Trod enc Tryd.prog w base (fun _ => true) held 25 v d ps) :
    ∃ A n c A2 n2 c2 nv sv, v = polV A n c A2 n2 c2 ∧ PolR w A n A2 n2 nv sv ∧ n ≤ 9223372036854775807 ∧ n2 ≤ 9223372036854775807 ∧ ∀ p ∈ nv, fits p.z := by
  obtain ⟨cs, rfl, hl⟩ := okWide_struct Tryd.underlying25 hv
  obtain ⟨fuel, hf⟩ := h
  obtain ⟨xs, m, _, _, _, hlen, hfs⟩ := DataW.trod_struct Tryd.underlying25 hf
  rw [show Tryd.prog.cellsOf 25 = 2 by kernel_rfl] at hl
  obtain ⟨l⟩ := cs
  obtain ⟨c0, c1, rfl⟩ := list2m (l := l) (by simpa using hl)
  obtain ⟨x0, h0⟩ := fldAtM hlen hfs 0 _ rfl
  obtain ⟨x1, h1⟩ := fldAtM hlen hfs 1 _ rfl
  obtain ⟨A, n, c, nv, g0, k0, e0, ef⟩ := nodes_of_cellsF h0
  obtain ⟨A2, n2, c2, sv, g1, k1, e1⟩ := stmts_of_cellsM h1
  cases g0; cases g1
  exact ⟨A, n, c, A2, n2, c2, nv, sv, rfl, ⟨k0, k1⟩, e0, e1, ef⟩
end
end Go.Proofs.YtgdnmpcaiaoaoaaDoor
/- Decimal numerals and lists joined by commas, as the reference writes them. -/
namespace Go.Proofs.YtgdnmpcaiaoaoaaDoor
open Go.Eng
set_option linter.unusedVariables false
/-- A number's numeral. -/
def decS (n : Int) : ByteArray := ⟨(Lib.itoa n).toArray⟩
theorem decD_len : ∀ (k u : Nat), u < 10 ^ (k + 1) → (Lib.decDigits u).length ≤ k + 1
  | 0, u, h => by rw [Lib.decDigits, dif_pos (by omega)]; simp
  | k + 1, u, h => by
    rw [Lib.decDigits]
    split
    · simp
    · have := decD_len k (u / 10) (by rw [Nat.pow_succ] at h; omega)
      simp; omega
theorem itoa_len {n : Int} (h : fits n) : (Lib.itoa n).length ≤ 20 := by
  unfold fits at h; unfold Lib.itoa
  split
  · have := decD_len 18 n.natAbs (by omega); simp; omega
  · have := decD_len 18 n.toNat (by omega); omega
theorem decS_size {n : Int} (h : fits n) : (decS n).size ≤ 20 := by
  have := itoa_len h; simpa [decS, ByteArray.size] using this
theorem decS_small {n : Int} (h0 : 0 ≤ n) (h : n < 10) : decS n = ⟨[UInt8.ofNat (48 + n.toNat)].toArray⟩ := by
  unfold decS Lib.itoa; rw [if_neg (by omega), Lib.decDigits, dif_pos (by omega)]
theorem decS_step {n : Int} (h : 10 ≤ n) : decS n = decS (n / 10) ++ decS (n % 10) := by
  rw [decS_small (n := n % 10) (by omega) (by omega)]
  have e : Lib.itoa n = Lib.itoa (n / 10) ++ [UInt8.ofNat (48 + (n % 10).toNat)] := by
    unfold Lib.itoa
    rw [if_neg (by omega), if_neg (by omega), Lib.decDigits, dif_neg (by omega), show (n / 10).toNat = n.toNat / 10 by omega, show (n % 10).toNat = n.toNat % 10 by omega]
  unfold decS
  rw [e, mk_append]
theorem decS_neg {n : Int} (h : n < 0) : decS n = ⟨#[45]⟩ ++ decS (-n) := by
  have e : Lib.itoa n = [45] ++ Lib.itoa (-n) := by
    unfold Lib.itoa
    rw [if_pos h, if_neg (by omega), show (-n).toNat = n.natAbs by omega]; rfl
  unfold decS
  rw [e, ← mk_append]
theorem dec_pos (m : Nat) : ∀ (n : Int), 0 ≤ n → n.toNat ≤ m → n ≤ 9223372036854775807 → ∀ w : World, VF Tryd.prog 23 [.int .i64 n] w (.string (decS n)) := by
  induction m with
  | zero =>
    intro n h0 hm hb w
    refine VF.intro (cs := []) Tryd.func23 (by kernel_rfl) fun w hx0 E R hE hr hR => ?_
    clear hx0
    conv => cbv
    refine br (fun g => absurd g (by simp [hE.cmp, cmpR]; omega)) (fun _ => ?_)
    conv => cbv
    refine br (fun g => ?_) (fun g => absurd (by simp [hE.cmp, cmpR]; omega) g)
    have hn10 : n < 10 := by omega
    obtain ⟨y, hy⟩ : ∃ y, y = 48 + n := ⟨_, rfl⟩
    have e1 : E.ar .add .i64 48 n = y := by rw [hE.ar, hy]; exact wrap_in (by omega) (by omega)
    conv => cbv
    simp only [e1]
    refine st_conv hE ⟨_, Tryd.underlying2⟩ uU8 fun z hz => ?_
    have hz2 : z = ((UInt8.ofNat (48 + n.toNat)).toNat : Int) := by
      rw [hz, hy]; simp [IntKind.wrap, IntKind.signed, IntKind.bits]; omega
    conv => cbv
    refine st_one hr tBytes rfl rfl fun A1 w1 hx1 hc1 => ?_
    conv => cbv
    refine st_b2s hE Tryd.underlying92 uU8 uStr (bs := [UInt8.ofNat (48 + n.toNat)]) rfl (by rw [hz2] at hc1; exact hc1) ?_
    obtain ⟨u, hu⟩ : ∃ u : ByteArray, u = ⟨[UInt8.ofNat (48 + n.toNat)].toArray⟩ := ⟨_, rfl⟩
    rw [← hu]
    conv => cbv
    rw [hR]; exact ⟨by rw [decS_small h0 hn10, ← hu]; rfl, hx1⟩
  | succ m ih =>
    intro n h0 hm hb w
    refine VF.intro (cs := []) Tryd.func23 (by kernel_rfl) fun w hx0 E R hE hr hR => ?_
    clear hx0
    conv => cbv
    refine br (fun g => absurd g (by simp [hE.cmp, cmpR]; omega)) (fun _ => ?_)
    conv => cbv
    refine br (fun g => ?_) (fun g => ?_)
    · have g : n < 10 := by simpa [hE.cmp, cmpR] using g
      have hn10 : n < 10 := by omega
      obtain ⟨y, hy⟩ : ∃ y, y = 48 + n := ⟨_, rfl⟩
      have e1 : E.ar .add .i64 48 n = y := by rw [hE.ar, hy]; exact wrap_in (by omega) (by omega)
      conv => cbv
      simp only [e1]
      refine st_conv hE ⟨_, Tryd.underlying2⟩ uU8 fun z hz => ?_
      have hz2 : z = ((UInt8.ofNat (48 + n.toNat)).toNat : Int) := by
        rw [hz, hy]; simp [IntKind.wrap, IntKind.signed, IntKind.bits]; omega
      conv => cbv
      refine st_one hr tBytes rfl rfl fun A1 w1 hx1 hc1 => ?_
      conv => cbv
      refine st_b2s hE Tryd.underlying92 uU8 uStr (bs := [UInt8.ofNat (48 + n.toNat)]) rfl (by rw [hz2] at hc1; exact hc1) ?_
      obtain ⟨u, hu⟩ : ∃ u : ByteArray, u = ⟨[UInt8.ofNat (48 + n.toNat)].toArray⟩ := ⟨_, rfl⟩
      rw [← hu]
      conv => cbv
      rw [hR]; exact ⟨by rw [decS_small h0 hn10, ← hu]; rfl, hx1⟩
    · have g : 10 ≤ n := by simp [hE.cmp, cmpR] at g; omega
      conv => cbv
      refine st_quo hE (by decide) fun q hq => ?_
      have hq : q = n / 10 := by rw [hq, Int.tdiv_eq_ediv_of_nonneg h0]; exact wrap_in (by omega) (by omega)
      conv => cbv
      obtain ⟨u, hu⟩ : ∃ u, u = decS q := ⟨_, rfl⟩
      refine st_v hr (v := .string u) (by rw [hu]; exact ih q (by omega) (by omega) (by omega) _) fun w1 hx1 => ?_
      conv => cbv
      refine st_rem hE (by decide) fun r hr' => ?_
      have hr' : r = n % 10 := by rw [hr', Int.tmod_eq_emod_of_nonneg h0]
      conv => cbv
      obtain ⟨u', hu'⟩ : ∃ u, u = decS r := ⟨_, rfl⟩
      refine st_v hr (v := .string u') (by rw [hu']; exact ih r (by omega) (by omega) (by omega) _) fun w2 hx2 => ?_
      conv => cbv
      have s1 : (decS q).size ≤ 20 := decS_size (by unfold fits; omega)
      have s2 : (decS r).size ≤ 20 := decS_size (by unfold fits; omega)
      refine st_cat hE (by rw [hu, hu']; omega) fun v hv => ?_
      conv => cbv
      rw [hR]; exact ⟨by rw [decS_step g, hv, hu, hu', hq, hr']; rfl, hx1.trans hx2⟩
theorem dec_min : decS (-9223372036854775808) = ⟨#[45, 57, 50, 50, 51, 51, 55, 50, 48, 51, 54, 56, 53, 52, 55, 55, 53, 56, 48, 56]⟩ := by
  unfold decS Lib.itoa
  rw [if_pos (by omega)]
  simp [Lib.decDigits]
theorem l1decimal_v {n : Int} (hn : fits n) (w : World) : VF Tryd.prog 23 [.int .i64 n] w (.string (decS n)) := by
  unfold fits at hn
  rcases (by omega : 0 ≤ n ∨ n < 0) with h0 | h0
  · exact dec_pos _ n h0 (Nat.le_refl _) hn.2 w
  refine VF.intro (cs := []) Tryd.func23 (by kernel_rfl) fun w hx0 E R hE hr hR => ?_
  clear hx0
  conv => cbv
  refine br (fun _ => ?_) (fun g => absurd (by simp [hE.cmp, cmpR]; omega) g)
  conv => cbv
  refine br (fun g => ?_) (fun g => ?_)
  · have g : n = -9223372036854775808 := by simpa [hE.cmp, cmpR] using g
    conv => cbv
    rw [hR]; exact ⟨by rw [g, dec_min]; rfl, Ext.refl _⟩
  · have g : n ≠ -9223372036854775808 := by simpa [hE.cmp, cmpR] using g
    conv => cbv
    refine st_neg hE fun q hq => ?_
    have hq : q = -n := by rw [hq]; rw [show (0 : Int) - n = -n by omega]; exact wrap_in (by omega) (by omega)
    conv => cbv
    obtain ⟨u, hu⟩ : ∃ u, u = decS q := ⟨_, rfl⟩
    refine st_v hr (v := .string u) (by rw [hu]; exact dec_pos _ q (by omega) (Nat.le_refl _) (by omega) _) fun w1 hx1 => ?_
    conv => cbv
    have s1 : (decS q).size ≤ 20 := decS_size (by unfold fits; omega)
    have e45 : (⟨⟨[45]⟩⟩ : ByteArray).size = 1 := rfl
    refine st_cat hE (by rw [hu]; exact Nat.le_trans (Nat.add_le_add (Nat.le_of_eq e45) s1) (by decide)) fun v hv => ?_
    conv => cbv
    rw [hR]; exact ⟨by rw [decS_neg h0, hv, hu, hq]; rfl, hx1⟩
/-- A list with commas. -/
def joinS (xs : List ByteArray) : ByteArray := ⟨(Lib.join (xs.map (·.data.toList)) [44]).toArray⟩
theorem bl_mk (x : ByteArray) : (⟨x.data.toList.toArray⟩ : ByteArray) = x := by cases x; simp
theorem take_snoc {xs : List ByteArray} {k : Nat} {s : ByteArray} (h : xs[k]? = some s) : xs.take (k + 1) = xs.take k ++ [s] := by
  rw [List.take_add_one, h]; rfl
theorem append_empty (s : ByteArray) : (⟨#[]⟩ : ByteArray) ++ s = s := by
  apply ByteArray.ext; simp
end Go.Proofs.YtgdnmpcaiaoaoaaDoor
/- Numerals and lists with any separator: the library's FormatInt and Join, the reference's l1join. -/
namespace Go.Proofs.YtgdnmpcaiaoaoaaDoor
open Go.Eng
set_option linter.unusedVariables false
set_option linter.unusedSimpArgs false
theorem extK : Builder.Extra Tryd.prog Tryd.lays156_ren where
  sizeBuilder := by kernel_rfl
  liesBuilder := by kernel_rfl
  t5 := Tryd.underlying5
  a5 := Tryd.isAgg5
  z5 := Tryd.sizeOf5
  v5 := Tryd.zeroValue5
  infoByte := by kernel_rfl
  cellsByte := by kernel_rfl
  sizeByte := by kernel_rfl
  neB5 := by decide
theorem tabIs_ext {P : Program} {w w' : World} {name : String} {k : IntKind} {zs : List Int} (h : Lib.TabIs P w name k zs) (hx : Ext w w') : Lib.TabIs P w' name k zs := by
  unfold Lib.TabIs World.var? at *
  cases hg : P.globalNamed name with
  | none => simp [hg] at h
  | some g =>
    simp only [hg, Option.bind_some] at h ⊢
    have hlt : g < w.heap.size := by
      rcases Nat.lt_or_ge g w.heap.size with h' | h'
      · exact h'
      · simp [Array.getElem?_eq_none h'] at h
    rw [hx.block g hlt]; exact h
/-- The library's table of powers of ten stands. -/
abbrev PowK (w : World) : Prop := Lib.TabIs Tryd.prog w "internal/strconv.uint64pow10" .u64 Lib.pow10Tab
theorem FormatInt_k {w : World} (ht : PowK w) {n : Int} (hn : fits n) : VF Tryd.prog 53 [.int .i64 n, .int .i64 10] w (.string (decS n)) :=
  ⟨⟨_, Tryd.func53, by kernel_rfl⟩, fun w1 hx => (Any.strconv_FormatInt_10 Tryd.laysM173 n hn.1 hn.2 w1 (tabIs_ext ht hx)).mono fun e w' ⟨he, k, os, hw⟩ => ⟨he, by rw [hw]; exact Lib.below_grow _ w1 (Nat.le_refl _) k os⟩⟩
/-- A list with a separator. -/
def joinG (sp : ByteArray) (xs : List ByteArray) : ByteArray := ⟨(Lib.join (xs.map (·.data.toList)) sp.data.toList).toArray⟩
theorem joinG_nil (sp : ByteArray) : joinG sp [] = ⟨#[]⟩ := rfl
theorem joinG_one (sp x : ByteArray) : joinG sp [x] = x := by
  unfold joinG; rw [List.map_cons, List.map_nil, Lib.join_one, bl_mk]
theorem joinG_snoc (sp x : ByteArray) : ∀ xs : List ByteArray, xs ≠ [] → joinG sp (xs ++ [x]) = joinG sp xs ++ sp ++ x
  | [], h => absurd rfl h
  | y :: r, _ => by
    unfold joinG
    rw [List.cons_append, List.map_cons, List.map_cons, Lib.join_cons, Lib.join_cons, List.map_append]
    have e : Lib.joinTail sp.data.toList (r.map (·.data.toList) ++ [x].map (·.data.toList)) = Lib.joinTail sp.data.toList (r.map (·.data.toList)) ++ (sp.data.toList ++ x.data.toList) := by simp [Lib.joinTail]
    rw [e, ← List.append_assoc, ← mk_append, ← mk_append sp.data.toList x.data.toList, bl_mk, bl_mk]
    rw [ByteArray.append_assoc]
theorem letters_snoc (s : ByteArray) : ∀ l : List ByteArray, letters (l ++ [s]) = letters l + s.size
  | [] => by simp [letters]
  | a :: l => by simp only [List.cons_append, letters, letters_snoc s l]; omega
theorem joinG_size (sp : ByteArray) (xs : List ByteArray) : (joinG sp xs).size ≤ letters xs + sp.size * xs.length := by
  have key : ∀ l : List ByteArray, (joinG sp l.reverse).size ≤ letters l.reverse + sp.size * l.length := by
    intro l
    induction l with
    | nil => exact Nat.zero_le _
    | cons x l ih =>
      rw [List.reverse_cons, letters_snoc, List.length_cons, Nat.mul_succ]
      by_cases h : l.reverse = []
      · rw [h, List.nil_append, joinG_one]; omega
      · rw [joinG_snoc _ _ _ h, append_size, append_size]; omega
  have := key xs.reverse
  rwa [List.reverse_reverse, List.length_reverse] at this
theorem Join_k {w : World} {B e : Nat} {A : Option Addr} {n c : Nat} {xs : List ByteArray} (sp : ByteArray) (h : Own B e 1 w A n c (xs.map .string)) (hb : letters xs + sp.size * xs.length ≤ 1048576) (hn : xs.length ≤ 1048576) :
    VF Tryd.prog 55 [.slice A n c, .string sp] w (.string (joinG sp xs)) := by
  have hl := h.len
  simp only [List.length_map, Nat.mul_one] at hl
  refine ⟨⟨_, Tryd.func55, by kernel_rfl⟩, fun w1 hx => ?_⟩
  have h1 := h.bel hx
  rcases Nat.eq_zero_or_pos n with h0 | h0
  · subst h0
    obtain rfl : xs = [] := List.eq_nil_of_length_eq_zero hl
    exact (Any.strings_Join_none Tryd.lays156 extK A c sp w1).mono fun e w' ⟨he, hw⟩ => ⟨he, by rw [hw]; exact Ext.refl _⟩
  · obtain ⟨g, hA, _, hg⟩ := h1.addr h0
    subst hA
    have hcap := h1.cap
    have hz := joinG_size sp xs
    subst hl
    refine (Any.strings_Join Tryd.lays156 extK g 0 c xs sp w1 (fun j x hj => ?_) hg (by omega) hcap ?_).mono fun e w' ⟨he, hw⟩ => ⟨he, hw⟩
    · have := h1.at j (.string x) (by rw [List.getElem?_map, hj]; rfl)
      rwa [add_plain] at this
    · unfold joinG at hz; simp only [ByteArray.size, List.size_toArray] at hz
      exact Nat.le_trans hz (Nat.le_trans hb (by omega))
theorem letters_take_leq (xs : List ByteArray) (k : Nat) : letters (xs.take k) ≤ letters xs := by
  have h : letters xs = letters (xs.take k) + letters (xs.drop k) := by
    have : ∀ l r : List ByteArray, letters (l ++ r) = letters l + letters r := by
      intro l r
      induction l with
      | nil => simp [letters]
      | cons a l ih => simp only [List.cons_append, letters, ih]; omega
    rw [← this, List.take_append_drop]
  omega
theorem l1join_k {w : World} {A : Option Addr} {n c : Nat} {xs : List ByteArray} {sp : ByteArray} (h : Strs w A n c xs) (hb : letters xs + sp.size * xs.length ≤ 1048576) :
    QF Tryd.prog 24 [.slice A n c, .string sp] w (.string (joinG sp xs)) := by
  refine QF.intro (cs := []) Tryd.func24 (by kernel_rfl) fun w hx0 w1 hs E R hE hr hR => ?_
  have h := h.ext hx0
  have hl := h.len
  have hle := h.le
  conv => cbv
  refine st_len hE tStrs fun x hx => ?_
  conv => cbv
  refine loop_rule hr (fun (s : Nat × ByteArray) w' => Same w w' ∧ s.1 ≤ n ∧ s.2 = joinG sp (xs.take s.1)) (fun s => [(1, .string sp), (5, .string s.2), (8, .slice A n c), (9, .int .i64 x), (10, .int .i64 (E.nat s.1))]) (fun s => n - s.1) (0, ⟨#[]⟩)
    (by simp [Fits, lk, hE.nat]) ⟨hs, by simp, by simp [joinG_nil]⟩ ?_
  rintro I hI ⟨k, out⟩ w2 ⟨hs2, hk, ho⟩
  simp only at hk ho
  have h2 := h.ext hs2.ext
  conv => cbv
  refine br (fun g => ?_) (fun g => ?_)
  · have g : k < n := by simpa [hE.cmp, cmpR, nk hE, hx] using g
    conv => cbv
    refine st_str hE tStrs h2 (nk hE k) g fun p s hsx hz hp => ?_
    conv => cbv
    refine st_load hE cStr hp ?_
    have e1 := take_snoc hsx
    have z3 := joinG_size sp (xs.take k)
    have z4 := letters_take_leq xs (k + 1)
    rw [e1, letters_snoc] at z4
    rw [← ho] at z3
    have hlk : (xs.take k).length = k := by rw [List.length_take]; omega
    rw [hlk] at z3
    have zz : sp.size * k + sp.size ≤ sp.size * xs.length := by
      rw [← Nat.mul_succ]; exact Nat.mul_le_mul_left _ (by omega)
    conv => cbv
    refine br (fun g2 => ?_) (fun g2 => ?_)
    · have g2 : 0 < k := by simpa [hE.cmp, cmpR, hE.nat] using g2
      conv => cbv
      refine st_cat hE (by omega) fun v hv => ?_
      conv => cbv
      refine st_cat hE (by rw [hv, append_size]; omega) fun v2 hv2 => ?_
      conv => cbv
      simp only [inc hE (by omega : k < 9223372036854775807)]
      refine ⟨(k + 1, v2), by simp [Fits, lk, hE.nat], hI _ _ ⟨hs2, by simp only; omega, ?_⟩, by simp only; omega⟩
      simp only
      have ne0 : xs.take k ≠ [] := fun e => by rw [e] at hlk; simp at hlk; omega
      rw [e1, joinG_snoc _ _ _ ne0, hv2, hv, ho]
    · have g2 : k = 0 := by simp [hE.cmp, cmpR, hE.nat] at g2; omega
      conv => cbv
      refine st_cat hE (by omega) fun v hv => ?_
      conv => cbv
      simp only [inc hE (by omega : k < 9223372036854775807)]
      refine ⟨(k + 1, v), by simp [Fits, lk, hE.nat], hI _ _ ⟨hs2, by simp only; omega, ?_⟩, by simp only; omega⟩
      simp only
      subst g2
      rw [e1, List.take_zero, List.nil_append, joinG_one, hv, ho, List.take_zero, joinG_nil, append_empty]
  · have g : k = n := by simp [hE.cmp, cmpR, nk hE, hx] at g; omega
    conv => cbv
    rw [hR]; exact ⟨by rw [ho, g, ← hl, List.take_length]; rfl, hs2⟩
end Go.Proofs.YtgdnmpcaiaoaoaaDoor
/- More for the engine: interface values made, methods called through them. No condition. -/
namespace Go.Eng
set_option linter.unusedVariables false
set_option linter.unusedSimpArgs false
section
variable {P : Program} {Pn : List PanicEntry → World → Prop} {n : Nat} {E : Sym} {w : World} {K : Value → World → Prop} {d : Option Tmp} {ty : TypeId} {pos : String} {aft : Array Edge} {g : Option (Nat × Bool)}
theorem st_mk {bq : Bool} (hE : EngB bq P E) {t : TypeId} (ht : ∃ u, P.underlying t = some u ∧ ∀ ms, u ≠ .interface ms) {x : Operand} {v : Value} (hk : K (.iface t v) w) : E.stop ⟨d, .makeInterface t x, ty, pos, aft, g⟩ [v] w K := by
  obtain ⟨u, h1, h2⟩ := ht
  refine hE.det (v := .iface t v) (fun w1 _ ρ hρ => ?_) hk
  simp only [opnds, List.map_cons, List.map_nil, List.cons.injEq, and_true] at hρ
  have : (Instr.makeInterface t v).run P w1 = .ok (.iface t v) w1 := by
    unfold Instr.makeInterface
    simp only [underlying, Sem.run_bind, run_program, Result.andThen_ok, h1, Sem.run_pure]
  simp [execOp, hρ, this]
theorem run_inv {ρ : Operand → Value} {ro : Operand} {name : String} {ao : Array Operand} {at_ : Array TypeId} {recv : Value} {args l : List Value} {f : FuncId} (hv : (opnds (.call ⟨.invoke ro name, ao, at_⟩)).map ρ = recv :: args)
    (hc : ∀ w, (callMethod recv name args.toArray).run P w = .ok (.enter f l.toArray) w) (w : World) :
    (execOp ρ ⟨d, .call ⟨.invoke ro name, ao, at_⟩, ty, pos, aft, g⟩).run P w = .ok (.enter f l.toArray) w := by
  have hv : ρ ro = recv ∧ ao.toList.map ρ = args := by simpa [opnds] using hv
  obtain ⟨h1, h2⟩ := hv
  have h3 : ao.map ρ = args.toArray := by rw [← h2, ← Array.toList_map, Array.toArray_toList]
  have e : (#[recv] ++ args.toArray).extract 1 (#[recv] ++ args.toArray).size = args.toArray := by
    apply Array.ext'
    simp
  simp only [execOp, Sem.run_bind, resolve, h1, h3, Sem.run_pure, Result.andThen_ok, invoke, e]
  have e0 : (#[recv] ++ args.toArray)[0]? = some recv := by simp
  simp only [e0, hc]
theorem st_if (hE : E = real P Pn n) {ro : Operand} {name : String} {ao : Array Operand} {at_ : Array TypeId} {recv : Value} {args l : List Value} {f : FuncId} {R : Value → World → Prop} (hc : ∀ w, (callMethod recv name args.toArray).run P w = .ok (.enter f l.toArray) w)
    (h : FC P f l w R) (hk : ∀ v w', Ext w w' → R v w' → K v w') : E.stop ⟨d, .call ⟨.invoke ro name, ao, at_⟩, ty, pos, aft, g⟩ (recv :: args) w K := by
  obtain ⟨⟨fn, hf, he⟩, hcc⟩ := h
  subst hE
  intro ρ hρ
  rw [run_inv hρ hc]
  exact hcc.mono fun e w' ⟨v, he, hx, hr⟩ => by subst he; exact hk _ _ hx hr
/-- append(s, xs...), of elements of k cells, and where the row lies then. -/
theorem st_appsKG (hE : E = real P Pn n) {t e : TypeId} {z : Value} {k b : Nat} (ht : Slc P t e z k b) (hz : z.cells.size = k) (hk0 : 0 < k) {B : Nat} {A A1 : Option Addr} {m c m1 c1 : Nat} {xs vs : List Value} {ao : Array Operand} (h : Own B e k w A m c xs) (hn : Cells w A1 vs) (hl : vs.length = m1 * k) (hm1 : 0 < m1) (hv : ∀ v ∈ vs, v.oneCell' = true)
    (hB : B ≤ w.heap.size) (hb : (m + m1) * b ≤ 140737488355328) (hm : m + m1 ≤ 9223372036854775807)
    (hk : ∀ A' c' m' w', m' = m + m1 → Wr A w w' → Own B e k w' A' m' c' (xs ++ vs) → (Eng.blk A' = Eng.blk A ∨ Eng.blk A' = some w.heap.size) → K (.slice A' m' c') w') : E.stop ⟨d, .call ⟨.builtin .append, ao, #[t, t]⟩, ty, pos, aft, g⟩ [.slice A m c, .slice A1 m1 c1] w K := by
  obtain ⟨i0, h1, h2, h3, h4⟩ := ht.info
  cases A1 with
  | none =>
    obtain ⟨a, ha⟩ := hn.1 (by rw [hl]; exact Nat.mul_pos hm1 hk0)
    cases ha
  | some a1 =>
    obtain ⟨v', w', hr, hown, hg, _, hbk⟩ := run_append_own_at (P := P) w B t ty e i0 z k b ht.u h1 h2 h3 h4 hz hk0 (.slice A m c) m xs h a1 m1 c1 vs hl
      (fun j u hu => hn.2 a1 rfl j u hu) hv (by unfold maxLen; omega) hb hB
    have hform : ∃ A' c', v' = .slice A' (m + m1) c' := by
      rcases hown.2 with ⟨h5, h6⟩ | ⟨g, cap, cur, h5, _⟩
      · exact ⟨none, 0, by rw [h5, h6]⟩
      · exact ⟨_, _, h5⟩
    obtain ⟨A', c', rfl⟩ := hform
    refine st_run hE (v := .slice A' (m + m1) c') (w' := w') (fun ρ hρ => ?_) (hk _ _ _ _ rfl ?_ hown ?_)
    · have h3' := map_of (ao := ao) hρ
      simp [execOp, resolve, invoke, builtin, h3', hr]
    · cases A <;> exact hg
    · cases A <;> cases A' <;> exact hbk
/-- xs[lo:], of elements of k cells: what is read. -/
theorem st_from {bq : Bool} (hE : EngB bq P E) {t e : TypeId} {z : Value} {k b : Nat} (ht : Slc P t e z k b) {A : Option Addr} {m c lo : Nat} {ik : IntKind} {i : Int} {xs : List Value} {x y : Operand} {w0 : World} (h : Cells w0 A xs) (hl : xs.length = m * k) (hmc : m ≤ c) (hi : i = lo) (hlo : lo ≤ m)
    (hk : ∀ A' c', Cells w0 A' (xs.drop (lo * k)) → m - lo ≤ c' → K (.slice A' (m - lo) c') w) : E.stop ⟨d, .slice t x (some y) none none, ty, pos, aft, g⟩ [.slice A m c, .int ik i] w K := by
  subst hi
  refine hE.det (v := .slice (if c = lo then A else A.map (·.add (lo * k))) (m - lo) (c - lo)) (fun w1 _ ρ hρ => ?_) (hk _ _ ?_ (by omega))
  · simp only [opnds, Option.toList, List.map_cons, List.map_nil, List.append_nil, List.cons.injEq, and_true] at hρ
    simp only [execOp, hρ.1, hρ.2, Option.map_some, Option.map_none, Sem.run_bind, run_from ht w1 hlo]
    rfl
  · exact h.from hl hlo (fun h1 h2 => by omega)
end
end Go.Eng
/- A code's shape, on both sides (printed by gen_v5.py). -/
namespace Go.Proofs.YtgdnmpcaiaoaoaaDoor
open Go.Eng
set_option linter.unusedVariables false
set_option linter.unusedSimpArgs false
theorem cMap : Cel Tryd.prog 128 := ⟨_, Tryd.underlying128, by simp, by simp⟩
def constF : List (Int × Int) := [(1, 3), (2, 1), (3, 2), (4, 4)]
/-- The instructions that have an argument. -/
def hasA (o : Int) : Prop := o = 1 ∨ o = 2 ∨ o = 3 ∨ o = 4 ∨ o = 22 ∨ o = 23
def insOK (i : Int × Int) : Prop := 1 ≤ i.1 ∧ i.1 ≤ 25 ∧ 0 ≤ i.2 ∧ i.2 ≤ 65535 ∧ (i.2 = 0 ∨ hasA i.1)
/-- A code's shape. -/
def shapeP (pv : List PV) (sl : Int) (is : List (Int × Int)) : Prop := pv.length ≤ 4000 ∧ 0 ≤ sl ∧ sl ≤ 600 ∧ is.length ≤ 20000 ∧ (∀ p ∈ pv, valOK p) ∧ ∀ i ∈ is, insOK i
end Go.Proofs.YtgdnmpcaiaoaoaaDoor
/- Operators of instructions, their types, what instructions pop (printed by gen_v6.py). -/
namespace Go.Proofs.YtgdnmpcaiaoaoaaDoor
open Go.Eng
open Go.ChangeMaps (setBlock)
set_option linter.unusedVariables false
set_option linter.unusedSimpArgs false
def opF : List (Int × Int) := (List.range 17).map fun (i : Nat) => ((i : Int) + 8, (i : Int) + 5)
/-- The operator of an instruction; 0 of none. -/
def oprF (o : Int) : Int := if 5 ≤ o ∧ o ≤ 21 then o + 3 else 0
end Go.Proofs.YtgdnmpcaiaoaoaaDoor
/- Types of operators; what instructions pop and push (printed by gen_v7.py). -/
namespace Go.Proofs.YtgdnmpcaiaoaoaaDoor
open Go.Eng
set_option linter.unusedVariables false
set_option linter.unusedSimpArgs false
def kidsF (op : Int) : Int := if 1 ≤ op ∧ op ≤ 7 then 0 else if 8 ≤ op ∧ op ≤ 10 then 1 else if 11 ≤ op ∧ op ≤ 26 then 2 else if op = 27 then 3 else -1
theorem kidsOf_f {w : World} (op : Int) : FC Tryd.prog 64 [.int .i64 op] w fun v _ => v = .int .i64 (kidsF op) := by
  refine FC.intro (cs := []) Tryd.func64 (by kernel_rfl) fun E R hE hr hR => ?_
  conv => cbv
  repeat' (split <;> conv => cbv)
  all_goals (rw [hR]; refine ⟨Ext.refl _, congrArg (Value.int .i64) ?_⟩; simp only [hE.cmp, cmpR, decide_eq_true_eq, beq_iff_eq] at *; unfold kidsF; repeat' split) <;> omega
def attrF (g : Int) : Int := if g < 2 then 3 else if g < 4 then 2 else 4
def popsF (o : Int) : Int := if o = 1 ∨ o = 2 ∨ o = 3 ∨ o = 22 ∨ o = 24 then 0 else if o = 4 ∨ o = 23 ∨ o = 25 then 1 else kidsF (oprF o)
/-! ### typeOf -/
def allT (t : Int) (ts : List Int) : Bool := ts.all fun x => x == t
/-- The type of an operator (8 to 24) by its kids'; 0: they do not fit. -/
def typF (op : Int) (ts : List Int) : Int :=
  if op = 8 ∨ (11 ≤ op ∧ op ≤ 15) then (if allT 2 ts = true then 2 else 0)
  else if op = 9 then (if allT 1 ts = true then 1 else 0)
  else if op = 10 then (if allT 4 ts = true then 2 else 0)
  else if 16 ≤ op ∧ op ≤ 18 then (if allT 4 ts = true then 4 else 0)
  else if op = 19 ∨ op = 20 then (if ts[0]? = ts[1]? then 1 else 0)
  else if op = 21 ∨ op = 22 then (if allT 2 ts = true then 1 else 0)
  else if op = 23 then (if ts[0]? = some 3 ∧ ts[1]? = some 4 then 1 else 0)
  else (if allT 4 ts = true then 1 else 0)
end Go.Proofs.YtgdnmpcaiaoaoaaDoor
/- Trees of nodes in post-order, in plain words: what the program's stack and what the reference's walk find. -/
namespace Go.Proofs.YtgdnmpcaiaoaoaaDoor
set_option linter.unusedVariables false
set_option linter.unusedSimpArgs false
inductive Tr where
  | con (k n : Int) (tx : ByteArray) (xs : List ByteArray) (at_ : Int)
  | nam (tx : ByteArray) (at_ : Int)
  | att (n : Int)
  | lt (n : Int)
  | op (o : Int) (kids : List Tr) (at_ : Int)
/-- The type of a constant by its operator. -/
def knd (o : Int) : Int := if o = 1 then 2 else if o = 2 then 3 else if o = 3 then 1 else 4
def leafF (p : PN) (i : Int) : Tr := if p.o = 5 then .nam p.tx i else if p.o = 6 then .att p.z else if p.o = 7 then .lt p.z else .con (knd p.o) p.z p.tx p.xs i
def mkT (p : PN) (i : Int) (kids : List Tr) : Tr := if kidsF p.o = 0 then leafF p i else .op p.o kids i
mutual
def dep : Tr → Nat
  | .op _ kids _ => deps kids + 1
  | _ => 1
def deps : List Tr → Nat
  | [] => 0
  | t :: l => max (dep t) (deps l)
end
theorem dep_leaf (p : PN) (i : Int) : dep (leafF p i) = 1 := by unfold leafF; (repeat' split) <;> rfl
theorem deps_mem : ∀ {l : List Tr} {t : Tr}, t ∈ l → dep t ≤ deps l
  | u :: l, t, h => by
    rw [deps]
    rcases List.mem_cons.1 h with rfl | h
    · omega
    · have := deps_mem h; omega
theorem deps_le {l : List Tr} {n : Nat} (h : ∀ t ∈ l, dep t ≤ n) : deps l ≤ n := by
  induction l with
  | nil => simp [deps]
  | cons t l ih => rw [deps]; have := h t (by simp); have := ih fun t ht => h t (by simp [ht]); omega
/-- The nodes a .. b-1 are trees in post-order, whose tops are ks. -/
inductive IsTs (ns : List PN) : Nat → Nat → List Int → List Tr → Prop
  | nil (a : Nat) : IsTs ns a a [] []
  | cons {a b k : Nat} {p : PN} {ks : List Int} {kids ts : List Tr} (hp : ns[k]? = some p) (hk : (p.ks.length : Int) = kidsF p.o) (h1 : IsTs ns a k p.ks kids) (h2 : IsTs ns (k + 1) b ks ts) : IsTs ns a b ((k : Int) :: ks) (mkT p k kids :: ts)
namespace IsTs
variable {ns : List PN}
theorem le {a b : Nat} {ks : List Int} {ts : List Tr} (h : IsTs ns a b ks ts) : a ≤ b := by
  induction h with
  | nil => omega
  | cons hp hk h1 h2 i1 i2 => omega
theorem len {a b : Nat} {ks : List Int} {ts : List Tr} (h : IsTs ns a b ks ts) : ts.length = ks.length := by
  induction h with
  | nil => rfl
  | cons hp hk h1 h2 i1 i2 => simp [i2]
theorem roots {a b : Nat} {ks : List Int} {ts : List Tr} (h : IsTs ns a b ks ts) : ∀ k ∈ ks, (a : Int) ≤ k ∧ k < b := by
  induction h with
  | nil => simp
  | cons hp hk h1 h2 i1 i2 =>
    intro k hk'
    have e1 := h1.le
    have e2 := h2.le
    rcases List.mem_cons.1 hk' with rfl | hk'
    · omega
    · have := i2 k hk'; omega
theorem bound {a b : Nat} {ks : List Int} {ts : List Tr} (h : IsTs ns a b ks ts) : a < b → b ≤ ns.length := by
  induction h with
  | nil => omega
  | @cons a b k p ks kids ts hp hk h1 h2 i1 i2 =>
    intro _
    have := (List.getElem?_eq_some_iff.1 hp).1
    have := h2.le
    rcases Nat.lt_or_ge (k + 1) b with q | q
    · exact i2 q
    · omega
theorem append {a c : Nat} {ks : List Int} {ts : List Tr} (h : IsTs ns a c ks ts) : ∀ {b : Nat} {ks2 : List Int} {ts2 : List Tr}, IsTs ns c b ks2 ts2 → IsTs ns a b (ks ++ ks2) (ts ++ ts2) := by
  induction h with
  | nil => intro b ks2 ts2 h; exact h
  | cons hp hk h1 h2 i1 i2 => intro b ks2 ts2 h; exact .cons hp hk h1 (i2 h)
theorem split : ∀ {ks1 : List Int} {a b : Nat} {ks2 : List Int} {ts : List Tr}, IsTs ns a b (ks1 ++ ks2) ts → ∃ c ts1 ts2, ts = ts1 ++ ts2 ∧ IsTs ns a c ks1 ts1 ∧ IsTs ns c b ks2 ts2
  | [], a, b, ks2, ts, h => ⟨a, [], ts, rfl, .nil a, h⟩
  | k :: ks1, a, b, ks2, ts, h => by
    rw [List.cons_append] at h
    cases h with
    | cons hp hk h1 h2 =>
      obtain ⟨c, ts1, ts2, e, g1, g2⟩ := split h2
      exact ⟨c, _ :: ts1, ts2, by rw [e]; rfl, .cons hp hk h1 g1, g2⟩
theorem one {a b : Nat} {k : Int} {ts : List Tr} (h : IsTs ns a b [k] ts) : ∃ (kn : Nat) (p : PN) (kids : List Tr), k = kn ∧ b = kn + 1 ∧ ns[kn]? = some p ∧ (p.ks.length : Int) = kidsF p.o ∧ IsTs ns a kn p.ks kids ∧ ts = [mkT p kn kids] := by
  cases h with
  | cons hp hk h1 h2 => cases h2; exact ⟨_, _, _, rfl, rfl, hp, hk, h1, rfl⟩
theorem uniq {a b : Nat} {ks : List Int} {ts : List Tr} (h : IsTs ns a b ks ts) : ∀ {b' : Nat} {ts' : List Tr}, IsTs ns a b' ks ts' → b = b' ∧ ts = ts' := by
  induction h with
  | nil => intro b' ts' h; cases h; exact ⟨rfl, rfl⟩
  | @cons a b k p ks kids ts hp hk h1 h2 i1 i2 =>
    intro b' ts' h
    generalize hq : ((k : Int) :: ks) = kk at h
    cases h with
    | nil => cases hq
    | cons hp' hk' h1' h2' =>
      simp only [List.cons.injEq] at hq
      obtain ⟨e1, e2⟩ := hq
      have e1 : k = _ := Int.ofNat.inj e1
      subst e1; subst e2
      rw [hp] at hp'
      cases hp'
      obtain ⟨_, rfl⟩ := i1 h1'
      obtain ⟨rfl, rfl⟩ := i2 h2'
      exact ⟨rfl, rfl⟩
end IsTs
/-! ### The program's stack -/
/-- What the program asks of each node. -/
def nodeOK (leafP : PN → Prop) (p : PN) : Prop := (kidsF p.o = 0 → leafP p) ∧ (1 ≤ kidsF p.o → p.z = 0 ∧ p.tx = ⟨#[]⟩ ∧ p.xs = [])
open Classical in
noncomputable def stepM (leafP : PN → Prop) (p : PN) (i : Nat) (st : List (Tr × Int)) : Option (List (Tr × Int)) :=
  if kidsF p.o < 0 ∨ (p.ks.length : Int) ≠ kidsF p.o ∨ st.length < p.ks.length then none
  else if kidsF p.o = 0 then (if leafP p then some (st ++ [(leafF p i, (i : Int))]) else none)
  else if ¬ (p.z = 0 ∧ p.tx = ⟨#[]⟩ ∧ p.xs = []) then none
  else if p.ks ≠ (st.drop (st.length - p.ks.length)).map (·.2) then none
  else if 64 < dep (.op p.o ((st.drop (st.length - p.ks.length)).map (·.1)) i) then none
  else some (st.take (st.length - p.ks.length) ++ [(.op p.o ((st.drop (st.length - p.ks.length)).map (·.1)) i, (i : Int))])
noncomputable def runM (leafP : PN → Prop) : List PN → Nat → List (Tr × Int) → Option (List (Tr × Int))
  | [], _, st => some st
  | p :: l, i, st => match stepM leafP p i st with
    | none => none
    | some st' => runM leafP l (i + 1) st'
theorem runM_append (leafP : PN → Prop) : ∀ (l r : List PN) (i : Nat) (st : List (Tr × Int)), runM leafP (l ++ r) i st = match runM leafP l i st with
    | none => none
    | some st' => runM leafP r (i + l.length) st'
  | [], r, i, st => by simp [runM]
  | p :: l, r, i, st => by
    rw [List.cons_append, runM, runM]
    cases h : stepM leafP p i st with
    | none => rfl
    | some st' => simp only; rw [runM_append leafP l r (i + 1) st', List.length_cons, show i + 1 + l.length = i + (l.length + 1) by omega]
theorem runM_one (leafP : PN → Prop) (p : PN) (i : Nat) (st : List (Tr × Int)) : runM leafP [p] i st = stepM leafP p i st := by
  rw [runM]; cases stepM leafP p i st <;> rfl
theorem step_sound {ns : List PN} {leafP : PN → Prop} {p : PN} {i a : Nat} {st st' : List (Tr × Int)} (hp : ns[i]? = some p) (h : IsTs ns a i (st.map (·.2)) (st.map (·.1))) (hd : ∀ x ∈ st, dep x.1 ≤ 64) (hs : stepM leafP p i st = some st') :
    IsTs ns a (i + 1) (st'.map (·.2)) (st'.map (·.1)) ∧ (∀ x ∈ st', dep x.1 ≤ 64) ∧ nodeOK leafP p := by
  unfold stepM at hs
  split at hs
  · cases hs
  rename_i g1
  have hk : (p.ks.length : Int) = kidsF p.o := by omega
  split at hs
  · rename_i g2
    split at hs
    · rename_i g3
      cases hs
      have hks : p.ks = [] := List.eq_nil_of_length_eq_zero (by omega)
      refine ⟨?_, fun x hx => ?_, ⟨fun _ => g3, fun q => by omega⟩⟩
      · simp only [List.map_append, List.map_cons, List.map_nil]
        refine h.append ?_
        have : IsTs ns i (i + 1) [(i : Int)] [mkT p i []] := .cons hp hk (by rw [hks]; exact .nil i) (.nil _)
        rwa [mkT, if_pos g2] at this
      · rcases List.mem_append.1 hx with hx | hx
        · exact hd x hx
        · simp at hx; subst hx; simp only; rw [dep_leaf]; omega
    · cases hs
  split at hs
  · cases hs
  split at hs
  · cases hs
  split at hs
  · cases hs
  rename_i g2 g3 g4 g5
  cases hs
  have g4 : p.ks = (st.drop (st.length - p.ks.length)).map (·.2) := Classical.byContradiction g4
  refine ⟨?_, fun x hx => ?_, ⟨fun q => absurd q g2, fun _ => Classical.byContradiction g3⟩⟩
  · simp only [List.map_append, List.map_cons, List.map_nil]
    have e : st = st.take (st.length - p.ks.length) ++ st.drop (st.length - p.ks.length) := (List.take_append_drop _ _).symm
    have h2 := h
    rw [e, List.map_append, List.map_append] at h2
    obtain ⟨c, ts1, ts2, et, k1, k2⟩ := h2.split
    have hlen := k1.len
    obtain ⟨e1, e2⟩ := List.append_inj et (by rw [hlen]; simp)
    rw [← e1] at k1
    rw [← e2] at k2
    refine k1.append ?_
    have : IsTs ns c (i + 1) [(i : Int)] [mkT p i ((st.drop (st.length - p.ks.length)).map (·.1))] := .cons hp hk (by rw [← g4] at k2; exact k2) (.nil _)
    rwa [mkT, if_neg g2] at this
  · rcases List.mem_append.1 hx with hx | hx
    · exact hd x (List.mem_of_mem_take hx)
    · rw [List.mem_singleton] at hx; subst hx; simp only; omega
/-- The nodes from a on, up to b. -/
def seg (ns : List PN) (a b : Nat) : List PN := (ns.take b).drop a
theorem seg_nil (ns : List PN) (a : Nat) : seg ns a a = [] := List.drop_eq_nil_of_le (by simp; omega)
theorem seg_cat {ns : List PN} {a b c : Nat} (h1 : a ≤ b) (h2 : b ≤ c) : seg ns a c = seg ns a b ++ seg ns b c := by
  unfold seg
  apply List.ext_getElem?
  intro i
  rcases Nat.lt_or_ge i ((ns.take b).drop a).length with hi | hi
  · rw [List.getElem?_append_left hi]
    simp only [List.length_drop, List.length_take] at hi
    rw [List.getElem?_drop, List.getElem?_drop, List.getElem?_take, List.getElem?_take, if_pos (by omega), if_pos (by omega)]
  · rw [List.getElem?_append_right hi]
    simp only [List.length_drop, List.length_take] at hi ⊢
    rw [List.getElem?_drop, List.getElem?_drop]
    rcases Nat.lt_or_ge b ns.length with q | q
    · congr 1; omega
    · rw [List.getElem?_eq_none (by simp; omega), List.getElem?_eq_none (by simp; omega)]
theorem seg_one {ns : List PN} {k : Nat} {p : PN} (h : ns[k]? = some p) : seg ns k (k + 1) = [p] := by
  unfold seg
  rw [List.take_add_one, h]
  have := (List.getElem?_eq_some_iff.1 h).1
  rw [List.drop_append_of_le_length (by simp; omega), List.drop_eq_nil_of_le (by simp; omega)]
  rfl
theorem seg_len {ns : List PN} {a b : Nat} (hb : b ≤ ns.length) : (seg ns a b).length = b - a := by unfold seg; simp; omega
theorem run_sound {ns : List PN} {leafP : PN → Prop} {a : Nat} : ∀ (m : Nat) {i : Nat} {st st' : List (Tr × Int)}, i + m ≤ ns.length → IsTs ns a i (st.map (·.2)) (st.map (·.1)) → (∀ x ∈ st, dep x.1 ≤ 64) → runM leafP (seg ns i (i + m)) i st = some st' →
    IsTs ns a (i + m) (st'.map (·.2)) (st'.map (·.1)) ∧ (∀ x ∈ st', dep x.1 ≤ 64) ∧ ∀ j p, i ≤ j → j < i + m → ns[j]? = some p → nodeOK leafP p
  | 0, i, st, st', _, h, hd, hr => by
    rw [Nat.add_zero, seg_nil, runM] at hr
    cases hr
    exact ⟨h, hd, fun j p h1 h2 => by omega⟩
  | m + 1, i, st, st', hb, h, hd, hr => by
    obtain ⟨p, hp⟩ : ∃ p, ns[i]? = some p := ⟨_, List.getElem?_eq_getElem (by omega)⟩
    rw [seg_cat (show i ≤ i + 1 by omega) (show i + 1 ≤ i + (m + 1) by omega), seg_one hp, runM_append, runM_one] at hr
    cases hs : stepM leafP p i st with
    | none => rw [hs] at hr; cases hr
    | some st2 =>
      rw [hs] at hr
      simp only [List.length_cons, List.length_nil] at hr
      obtain ⟨k1, k2, k3⟩ := step_sound hp h hd hs
      rw [show i + (m + 1) = i + 1 + m by omega] at hr ⊢
      obtain ⟨j1, j2, j3⟩ := run_sound m (by omega) k1 k2 hr
      refine ⟨j1, j2, fun j q h1 h2 hq => ?_⟩
      rcases Nat.eq_or_lt_of_le h1 with e | e
      · subst e; rw [hp] at hq; cases hq; exact k3
      · exact j3 j q (by omega) (by omega) hq
theorem mkT_dep {p : PN} {i : Int} {kids : List Tr} (h0 : 1 ≤ kidsF p.o) : dep (mkT p i kids) = deps kids + 1 := by
  unfold mkT; rw [if_neg (by omega), dep]
theorem run_complete {ns : List PN} {leafP : PN → Prop} {a b : Nat} {ks : List Int} {ts : List Tr} (h : IsTs ns a b ks ts) : b ≤ ns.length → (∀ j p, a ≤ j → j < b → ns[j]? = some p → nodeOK leafP p) → (∀ t ∈ ts, dep t ≤ 64) → ∀ st, runM leafP (seg ns a b) a st = some (st ++ ts.zip ks) := by
  induction h with
  | nil a => intro _ _ _ st; rw [seg_nil, runM]; simp
  | @cons a b k p ks kids ts hp hk h1 h2 i1 i2 =>
    intro hb hok hd st
    have e1 := h1.le
    have e2 := h2.le
    have hkn := hok k p e1 (by omega) hp
    have hdk := hd _ (List.mem_cons_self ..)
    have hl1 := h1.len
    rw [seg_cat (b := k) (by omega) (by omega), seg_cat (a := k) (b := k + 1) (by omega) (by omega), seg_one hp, runM_append]
    have hks : ∀ t ∈ kids, dep t ≤ 64 := fun t ht => by
      rcases Int.lt_or_le (kidsF p.o) 1 with q | q
      · have : kids = [] := List.eq_nil_of_length_eq_zero (by omega)
        rw [this] at ht; cases ht
      · rw [mkT_dep q] at hdk
        have := deps_mem ht; omega
    rw [i1 (by omega) (fun j p h1 h2 => hok j p h1 (by omega)) hks st]
    simp only
    rw [seg_len (by omega), show a + (k - a) = k by omega, runM_append, runM_one]
    have hz : (kids.zip p.ks).length = p.ks.length := by simp [hl1]
    have hzs : (kids.zip p.ks).map (·.2) = p.ks := by rw [List.map_snd_zip (by omega)]
    have hzf : (kids.zip p.ks).map (·.1) = kids := by rw [List.map_fst_zip (by omega)]
    have hstep : stepM leafP p k (st ++ kids.zip p.ks) = some (st ++ [(mkT p k kids, (k : Int))]) := by
      have hlen : (st ++ kids.zip p.ks).length - p.ks.length = st.length := by rw [List.length_append, hz]; omega
      unfold stepM
      rw [if_neg (by rw [List.length_append, hz]; omega), hlen, List.drop_left, List.take_left, hzs, hzf]
      split
      · rename_i q
        rw [if_pos (hkn.1 q)]
        have : kids.zip p.ks = [] := List.eq_nil_of_length_eq_zero (by omega)
        rw [this, List.append_nil, mkT, if_pos q]
      · rename_i q
        have q1 : 1 ≤ kidsF p.o := by omega
        rw [if_neg (fun z => z (hkn.2 q1)), if_neg (fun z => z rfl)]
        rw [mkT, if_neg q] at hdk
        rw [if_neg (by omega), mkT, if_neg q]
    rw [hstep]
    simp only [List.length_cons, List.length_nil]
    rw [i2 hb (fun j p h1 h2 => hok j p (by omega) h2) (fun t ht => hd t (by simp [ht]))]
    simp
open Classical in
/-- What the program makes of the nodes from i on with this top. -/
noncomputable def treeM (ns : List PN) (leafP : PN → Prop) (i : Nat) (top : Int) : Option Tr :=
  if top < i ∨ (ns.length : Int) ≤ top then none
  else match runM leafP (seg ns i (top.toNat + 1)) i [] with
    | some [(t, _)] => some t
    | _ => none
theorem treeM_iff {ns : List PN} {leafP : PN → Prop} {i : Nat} {top : Int} {t : Tr} : treeM ns leafP i top = some t ↔
    ∃ k : Nat, top = k ∧ i ≤ k ∧ k < ns.length ∧ IsTs ns i (k + 1) [top] [t] ∧ dep t ≤ 64 ∧ ∀ j p, i ≤ j → j < k + 1 → ns[j]? = some p → nodeOK leafP p := by
  unfold treeM
  constructor
  · intro h
    split at h
    · cases h
    rename_i g
    obtain ⟨k, rfl⟩ : ∃ k : Nat, top = k := ⟨top.toNat, by omega⟩
    split at h
    · rename_i t' z hr
      cases h
      obtain ⟨m, hm⟩ : ∃ m, k + 1 = i + m := ⟨k + 1 - i, by omega⟩
      rw [show (k : Int).toNat + 1 = i + m by omega] at hr
      obtain ⟨j1, j2, j3⟩ := run_sound (a := i) m (by omega) (.nil i) (by simp) hr
      rw [← hm] at j1 j3
      obtain ⟨kn, p, kids, e1, e2, _⟩ := j1.one
      simp only at e1
      refine ⟨k, rfl, by omega, by omega, ?_, j2 (t, z) (by simp), j3⟩
      have : z = (k : Int) := by omega
      rw [← this]; exact j1
    · cases h
  · rintro ⟨k, rfl, h1, h2, h3, h4, h5⟩
    rw [if_neg (by omega)]
    have := run_complete h3 (by omega) h5 (by simpa using h4) []
    rw [show (k : Int).toNat + 1 = k + 1 by omega, this]
    rfl
/-! ### The reference's walk -/
def kidsW (g : Int → List Int → List Int) (top : Int) : List Int → List Int → List Int
  | [], out => out ++ [top]
  | k :: ks, out => if top ≤ k then out ++ [-1] else kidsW g top ks (g k out)
def walkF (ns : List PN) : Nat → Int → List Int → List Int
  | 0, _, out => out ++ [-1]
  | f + 1, top, out => if top < 0 ∨ (ns.length : Int) ≤ top ∨ ns.length < out.length then out ++ [-1] else kidsW (walkF ns f) top ((ns[top.toNat]?).map (·.ks) |>.getD []) out
def foldW (ns : List PN) (f : Nat) : List Int → List Int → List Int
  | [], out => out
  | k :: ks, out => foldW ns f ks (walkF ns f k out)
def rg (n : Nat) : List Int := (List.range n).map fun (i : Nat) => (i : Int)
theorem rg_len (n : Nat) : (rg n).length = n := by simp [rg]
theorem rg_succ (n : Nat) : rg (n + 1) = rg n ++ [(n : Int)] := by simp [rg, List.range_succ]
theorem rg_get {n i : Nat} {z : Int} (h : (rg n)[i]? = some z) : z = i ∧ i < n := by
  simp only [rg, List.getElem?_map, Option.map_eq_some_iff] at h
  obtain ⟨j, hj, rfl⟩ := h
  obtain ⟨h1, h2⟩ := List.getElem?_eq_some_iff.1 hj
  simp at h1 h2
  omega
theorem kidsW_all {g : Int → List Int → List Int} {top : Int} : ∀ (ks out : List Int), (∀ k ∈ ks, k < top) → kidsW g top ks out = ks.foldl (fun o k => g k o) out ++ [top]
  | [], out, _ => rfl
  | k :: ks, out, h => by
    rw [kidsW, if_neg (by have := h k (by simp); omega), kidsW_all ks _ fun k hk => h k (by simp [hk])]
    rfl
theorem foldW_eq (ns : List PN) (f : Nat) : ∀ (ks out : List Int), foldW ns f ks out = ks.foldl (fun o k => walkF ns f k o) out
  | [], out => rfl
  | k :: ks, out => by rw [foldW, foldW_eq ns f ks]; rfl
theorem walk_of {ns : List PN} {a b : Nat} {ks : List Int} {ts : List Tr} (h : IsTs ns a b ks ts) : b ≤ ns.length → ∀ f : Nat, (∀ k ∈ ks, k < (f : Int)) → foldW ns f ks (rg a) = rg b := by
  induction h with
  | nil a => intro _ f _; rfl
  | @cons a b k p ks kids ts hp hk h1 h2 i1 i2 =>
    intro hb f hf
    have e1 := h1.le
    have e2 := h2.le
    have hkf : (k : Int) < f := hf k (by simp)
    cases f with
    | zero => omega
    | succ f =>
      rw [foldW, walkF, if_neg (by rw [rg_len]; omega), show ((k : Int)).toNat = k by omega, hp]
      simp only [Option.map_some, Option.getD_some]
      rw [kidsW_all _ _ (fun q hq => by have := (h1.roots q hq).2; omega), ← foldW_eq, i1 (by omega) f (fun q hq => by have := (h1.roots q hq).2; omega), ← rg_succ]
      exact i2 hb (f + 1) fun q hq => hf q (by simp [hq])
theorem pre_app {a b c : List Int} (h : a ++ b <+: c) : a <+: c := (List.prefix_append a b).trans h
theorem pre_rg {l : List Int} {z : Int} {M : Nat} (h : l ++ [z] <+: rg M) : z = l.length := by
  obtain ⟨r, hr⟩ := h
  have : (rg M)[l.length]? = some z := by rw [← hr]; simp
  exact (rg_get this).1
theorem walk_pre (ns : List PN) : ∀ (f : Nat) (top : Int) (out : List Int), out <+: walkF ns f top out := by
  intro f
  induction f with
  | zero => intro top out; exact List.prefix_append _ _
  | succ f ih =>
    intro top out
    rw [walkF]
    split
    · exact List.prefix_append _ _
    · have : ∀ (ks out : List Int), out <+: kidsW (walkF ns f) top ks out := by
        intro ks
        induction ks with
        | nil => intro out; exact List.prefix_append _ _
        | cons k ks ih2 =>
          intro out
          rw [kidsW]
          split
          · exact List.prefix_append _ _
          · exact (ih k out).trans (ih2 _)
      exact this _ _
theorem foldW_pre (ns : List PN) (f : Nat) : ∀ (ks out : List Int), out <+: foldW ns f ks out
  | [], out => List.prefix_refl _
  | k :: ks, out => (walk_pre ns f k out).trans (foldW_pre ns f ks _)
theorem kidsW_ok {g : Int → List Int → List Int} (hg : ∀ k o, o <+: g k o) {top : Int} {M : Nat} : ∀ (ks out : List Int), kidsW g top ks out <+: rg M → ∀ k ∈ ks, k < top
  | [], out, _ => by simp
  | k :: ks, out, h => by
    rw [kidsW] at h
    split at h
    · have := pre_rg h; omega
    · intro q hq
      rcases List.mem_cons.1 hq with rfl | hq
      · omega
      · exact kidsW_ok hg ks _ h q hq
/-- What is written down in order is trees in post-order. -/
theorem walk_conv {ns : List PN} (hk : ∀ p ∈ ns, (p.ks.length : Int) = kidsF p.o) {M : Nat} : ∀ (f : Nat) (ks : List Int) (a : Nat), foldW ns f ks (rg a) <+: rg M → ∃ b ts, foldW ns f ks (rg a) = rg b ∧ IsTs ns a b ks ts := by
  intro f
  induction f with
  | zero =>
    intro ks a h
    cases ks with
    | nil => exact ⟨a, [], rfl, .nil a⟩
    | cons k ks =>
      rw [foldW, walkF] at h
      have := pre_rg ((foldW_pre ns 0 ks _).trans h)
      omega
  | succ f ih =>
    intro ks
    induction ks with
    | nil => intro a h; exact ⟨a, [], rfl, .nil a⟩
    | cons k ks ih2 =>
      intro a h
      rw [foldW] at h ⊢
      have h1 := (foldW_pre ns (f + 1) ks _).trans h
      rw [walkF] at h1
      split at h1
      · have := pre_rg h1; omega
      rename_i g
      obtain ⟨kn, rfl⟩ : ∃ kn : Nat, k = kn := ⟨k.toNat, by omega⟩
      obtain ⟨p, hp⟩ : ∃ p, ns[kn]? = some p := ⟨_, List.getElem?_eq_getElem (by omega)⟩
      rw [show ((kn : Int)).toNat = kn by omega, hp] at h1
      simp only [Option.map_some, Option.getD_some] at h1
      have hlt := kidsW_ok (walk_pre ns f) _ _ h1
      rw [kidsW_all _ _ hlt, ← foldW_eq] at h1
      obtain ⟨c, kids, e1, e2⟩ := ih p.ks a (pre_app h1)
      rw [e1] at h1
      have ec : kn = c := by have := pre_rg h1; rw [rg_len] at this; omega
      subst ec
      have hw : walkF ns (f + 1) (kn : Int) (rg a) = rg (kn + 1) := by
        rw [walkF, if_neg g, show ((kn : Int)).toNat = kn by omega, hp]
        simp only [Option.map_some, Option.getD_some]
        rw [kidsW_all _ _ hlt, ← foldW_eq, e1, rg_succ]
      rw [hw] at h ⊢
      obtain ⟨b, ts, e3, e4⟩ := ih2 (kn + 1) h
      exact ⟨b, mkT p kn kids :: ts, e3, .cons hp (hk p (List.mem_of_getElem? hp)) e2 e4⟩
/-- How long what is written down becomes. -/
theorem walk_len {ns : List PN} (hk : ∀ p ∈ ns, p.ks.length ≤ 3) : ∀ (f : Nat) (top : Int) (out : List Int), (walkF ns f top out).length ≤ max (out.length + 1) (ns.length + 1 + 4 * f) := by
  intro f
  induction f with
  | zero => intro top out; simp [walkF]; omega
  | succ f ih =>
    intro top out
    rw [walkF]
    split
    · simp; omega
    rename_i g
    have step : ∀ (ks out : List Int) (X : Nat), ns.length + 1 + 4 * f ≤ X + 1 → out.length ≤ X → (kidsW (walkF ns f) top ks out).length ≤ X + ks.length + 1 := by
      intro ks
      induction ks with
      | nil => intro out X _ h; simp [kidsW]; omega
      | cons k ks ih2 =>
        intro out X h1 h2
        rw [kidsW]
        split
        · simp; omega
        · have := ih2 (walkF ns f k out) (X + 1) (by omega) (by have := ih k out; omega)
          simp only [List.length_cons]; omega
    have hks : ((ns[top.toNat]?).map (·.ks) |>.getD []).length ≤ 3 := by
      cases hq : ns[top.toNat]? with
      | none => simp
      | some p => simpa using hk p (List.mem_of_getElem? hq)
    have := step ((ns[top.toNat]?).map (·.ks) |>.getD []) out (ns.length + 4 * f) (by omega) (by omega)
    omega
end Go.Proofs.YtgdnmpcaiaoaoaaDoor
/- The reference's l2kids, l2fields, l2walk, l2depth (printed by gen_p7.py). -/
namespace Go.Proofs.YtgdnmpcaiaoaoaaDoor
open Go.Eng
set_option linter.unusedVariables false
set_option linter.unusedSimpArgs false
theorem l2kids_q (op : Int) (w : World) : QF Tryd.prog 58 [.int .i64 op] w (.int .i64 (kidsF op)) := by
  refine QF.intro (cs := []) Tryd.func58 (by kernel_rfl) fun w0 hx0 w1 hs E R hE hr hR => ?_
  have fin : ∀ z : Int, z = kidsF op → R (.int .i64 z) w1 := fun z hz => by rw [hR, hz]; exact ⟨rfl, hs⟩
  conv => cbv
  refine br (fun g0 => ?_) (fun g0 => ?_)
  · have g0 : 1 ≤ op := by simpa [hE.cmp, cmpR] using g0
    conv => cbv
    refine br (fun k0 => ?_) (fun k0 => ?_)
    · have k0 : op ≤ 7 := by simpa [hE.cmp, cmpR] using k0
      conv => cbv
      exact fin _ (by unfold kidsF; (repeat' split) <;> omega)
    · have k0 : ¬ op ≤ 7 := by simpa [hE.cmp, cmpR] using k0
      conv => cbv
      refine br (fun g1 => ?_) (fun g1 => ?_)
      · have g1 : 8 ≤ op := by simpa [hE.cmp, cmpR] using g1
        conv => cbv
        refine br (fun k1 => ?_) (fun k1 => ?_)
        · have k1 : op ≤ 10 := by simpa [hE.cmp, cmpR] using k1
          conv => cbv
          exact fin _ (by unfold kidsF; (repeat' split) <;> omega)
        · have k1 : ¬ op ≤ 10 := by simpa [hE.cmp, cmpR] using k1
          conv => cbv
          refine br (fun g2 => ?_) (fun g2 => ?_)
          · have g2 : 11 ≤ op := by simpa [hE.cmp, cmpR] using g2
            conv => cbv
            refine br (fun k2 => ?_) (fun k2 => ?_)
            · have k2 : op ≤ 26 := by simpa [hE.cmp, cmpR] using k2
              conv => cbv
              exact fin _ (by unfold kidsF; (repeat' split) <;> omega)
            · have k2 : ¬ op ≤ 26 := by simpa [hE.cmp, cmpR] using k2
              conv => cbv
              refine br (fun g27 => ?_) (fun g27 => ?_)
              · have g27 : op = 27 := by simpa [hE.cmp, cmpR] using g27
                conv => cbv
                exact fin _ (by unfold kidsF; (repeat' split) <;> omega)
              · have g27 : op ≠ 27 := by simpa [hE.cmp, cmpR] using g27
                conv => cbv
                exact fin _ (by unfold kidsF; (repeat' split) <;> omega)
          · have g2 : ¬ 11 ≤ op := by simpa [hE.cmp, cmpR] using g2
            conv => cbv
            refine br (fun g27 => ?_) (fun g27 => ?_)
            · have g27 : op = 27 := by simpa [hE.cmp, cmpR] using g27
              conv => cbv
              exact fin _ (by unfold kidsF; (repeat' split) <;> omega)
            · have g27 : op ≠ 27 := by simpa [hE.cmp, cmpR] using g27
              conv => cbv
              exact fin _ (by unfold kidsF; (repeat' split) <;> omega)
      · have g1 : ¬ 8 ≤ op := by simpa [hE.cmp, cmpR] using g1
        conv => cbv
        refine br (fun g2 => ?_) (fun g2 => ?_)
        · have g2 : 11 ≤ op := by simpa [hE.cmp, cmpR] using g2
          conv => cbv
          refine br (fun k2 => ?_) (fun k2 => ?_)
          · have k2 : op ≤ 26 := by simpa [hE.cmp, cmpR] using k2
            conv => cbv
            exact fin _ (by unfold kidsF; (repeat' split) <;> omega)
          · have k2 : ¬ op ≤ 26 := by simpa [hE.cmp, cmpR] using k2
            conv => cbv
            refine br (fun g27 => ?_) (fun g27 => ?_)
            · have g27 : op = 27 := by simpa [hE.cmp, cmpR] using g27
              conv => cbv
              exact fin _ (by unfold kidsF; (repeat' split) <;> omega)
            · have g27 : op ≠ 27 := by simpa [hE.cmp, cmpR] using g27
              conv => cbv
              exact fin _ (by unfold kidsF; (repeat' split) <;> omega)
        · have g2 : ¬ 11 ≤ op := by simpa [hE.cmp, cmpR] using g2
          conv => cbv
          refine br (fun g27 => ?_) (fun g27 => ?_)
          · have g27 : op = 27 := by simpa [hE.cmp, cmpR] using g27
            conv => cbv
            exact fin _ (by unfold kidsF; (repeat' split) <;> omega)
          · have g27 : op ≠ 27 := by simpa [hE.cmp, cmpR] using g27
            conv => cbv
            exact fin _ (by unfold kidsF; (repeat' split) <;> omega)
  · have g0 : ¬ 1 ≤ op := by simpa [hE.cmp, cmpR] using g0
    conv => cbv
    refine br (fun g1 => ?_) (fun g1 => ?_)
    · have g1 : 8 ≤ op := by simpa [hE.cmp, cmpR] using g1
      conv => cbv
      refine br (fun k1 => ?_) (fun k1 => ?_)
      · have k1 : op ≤ 10 := by simpa [hE.cmp, cmpR] using k1
        conv => cbv
        exact fin _ (by unfold kidsF; (repeat' split) <;> omega)
      · have k1 : ¬ op ≤ 10 := by simpa [hE.cmp, cmpR] using k1
        conv => cbv
        refine br (fun g2 => ?_) (fun g2 => ?_)
        · have g2 : 11 ≤ op := by simpa [hE.cmp, cmpR] using g2
          conv => cbv
          refine br (fun k2 => ?_) (fun k2 => ?_)
          · have k2 : op ≤ 26 := by simpa [hE.cmp, cmpR] using k2
            conv => cbv
            exact fin _ (by unfold kidsF; (repeat' split) <;> omega)
          · have k2 : ¬ op ≤ 26 := by simpa [hE.cmp, cmpR] using k2
            conv => cbv
            refine br (fun g27 => ?_) (fun g27 => ?_)
            · have g27 : op = 27 := by simpa [hE.cmp, cmpR] using g27
              conv => cbv
              exact fin _ (by unfold kidsF; (repeat' split) <;> omega)
            · have g27 : op ≠ 27 := by simpa [hE.cmp, cmpR] using g27
              conv => cbv
              exact fin _ (by unfold kidsF; (repeat' split) <;> omega)
        · have g2 : ¬ 11 ≤ op := by simpa [hE.cmp, cmpR] using g2
          conv => cbv
          refine br (fun g27 => ?_) (fun g27 => ?_)
          · have g27 : op = 27 := by simpa [hE.cmp, cmpR] using g27
            conv => cbv
            exact fin _ (by unfold kidsF; (repeat' split) <;> omega)
          · have g27 : op ≠ 27 := by simpa [hE.cmp, cmpR] using g27
            conv => cbv
            exact fin _ (by unfold kidsF; (repeat' split) <;> omega)
    · have g1 : ¬ 8 ≤ op := by simpa [hE.cmp, cmpR] using g1
      conv => cbv
      refine br (fun g2 => ?_) (fun g2 => ?_)
      · have g2 : 11 ≤ op := by simpa [hE.cmp, cmpR] using g2
        conv => cbv
        refine br (fun k2 => ?_) (fun k2 => ?_)
        · have k2 : op ≤ 26 := by simpa [hE.cmp, cmpR] using k2
          conv => cbv
          exact fin _ (by unfold kidsF; (repeat' split) <;> omega)
        · have k2 : ¬ op ≤ 26 := by simpa [hE.cmp, cmpR] using k2
          conv => cbv
          refine br (fun g27 => ?_) (fun g27 => ?_)
          · have g27 : op = 27 := by simpa [hE.cmp, cmpR] using g27
            conv => cbv
            exact fin _ (by unfold kidsF; (repeat' split) <;> omega)
          · have g27 : op ≠ 27 := by simpa [hE.cmp, cmpR] using g27
            conv => cbv
            exact fin _ (by unfold kidsF; (repeat' split) <;> omega)
      · have g2 : ¬ 11 ≤ op := by simpa [hE.cmp, cmpR] using g2
        conv => cbv
        refine br (fun g27 => ?_) (fun g27 => ?_)
        · have g27 : op = 27 := by simpa [hE.cmp, cmpR] using g27
          conv => cbv
          exact fin _ (by unfold kidsF; (repeat' split) <;> omega)
        · have g27 : op ≠ 27 := by simpa [hE.cmp, cmpR] using g27
          conv => cbv
          exact fin _ (by unfold kidsF; (repeat' split) <;> omega)
/-- A node has the fields of its operator, and no other; ty: it stands among typed ones. -/
def fieldsP (ty : Bool) (p : PN) : Prop := (p.ks.length : Int) = kidsF p.o ∧
  (if p.o = 1 then (0 ≤ p.z ∨ ty = true) ∧ p.tx = ⟨#[]⟩ ∧ p.xs = []
   else if p.o = 3 then (p.z = 0 ∨ p.z = 1) ∧ p.tx = ⟨#[]⟩ ∧ p.xs = []
   else if p.o = 2 then p.z = 0 ∧ nameBytes p.tx ∧ p.xs = []
   else if p.o = 5 then ty = false ∧ ident p.tx ∧ p.z = 0 ∧ p.xs = []
   else if p.o = 4 then p.z = 0 ∧ p.tx = ⟨#[]⟩ ∧ isSet p.xs
   else if p.o = 6 then ty = true ∧ 0 ≤ p.z ∧ p.z ≤ 5 ∧ p.tx = ⟨#[]⟩ ∧ p.xs = []
   else if p.o = 7 then ty = true ∧ 0 ≤ p.z ∧ p.z < 600 ∧ p.tx = ⟨#[]⟩ ∧ p.xs = []
   else p.z = 0 ∧ p.tx = ⟨#[]⟩ ∧ p.xs = [])
theorem kidsF_le (o : Int) : kidsF o ≤ 3 := by unfold kidsF; (repeat' split) <;> omega
theorem run_bNd (o : Int) (w : World) : (Instr.build 61 #[(0, .int .i64 o)]).run Tryd.prog w = .ok (.agg #[.int .i64 o, .int .i64 0, .string ⟨#[]⟩, .slice none 0 0, .slice none 0 0]) w := by kernel_rfl
theorem st_bNd {E : Sym} {w : World} {K : Value → World → Prop} {d : Option Tmp} {ty : TypeId} {pos : String} {aft : Array Edge} {g : Option (Nat × Bool)} {bq : Bool} (hE : EngB bq Tryd.prog E) {o : Int} {x : Operand} (hk : K (.agg ⟨[.int .i64 o, .int .i64 0, .string ⟨#[]⟩, .slice none 0 0, .slice none 0 0]⟩) w) : E.stop ⟨d, .build 61 ⟨[(0, x)]⟩, ty, pos, aft, g⟩ [.int .i64 o] w K := by
  refine hE.det (v := .agg ⟨[.int .i64 o, .int .i64 0, .string ⟨#[]⟩, .slice none 0 0, .slice none 0 0]⟩) (fun w1 _ ρ hρ => ?_) hk
  simp only [opnds, List.map_cons, List.map_nil, List.cons.injEq, and_true] at hρ
  have := run_bNd o w1
  simp [execOp, hρ, this]
set_option maxHeartbeats 4000000 in
theorem l2fields_f {w : World} (v : VN) (h : OKN w v) (ty : Bool) :
    FC Tryd.prog 39 [.agg ⟨cN v⟩, .bool ty] w fun u _ => ∃ b : Bool, u = .bool b ∧ (b = true ↔ fieldsP ty v.p) := by
  refine FC.intro (cs := [31]) Tryd.func39 (by kernel_rfl) fun E R hE hr hR => ?_
  obtain ⟨⟨o, z, tx, xs, ks⟩, A0, m0, c0, A1, m1, c1⟩ := v
  have s_tx := h.s_tx
  have r_xs := h.r_xs
  have r_ks := h.r_ks
  clear h
  simp only at s_tx r_xs r_ks hR
  have hkl := r_ks.len
  have hxl := r_xs.len
  obtain ⟨FP, hFP0⟩ : ∃ FP, FP = fieldsP ty ⟨o, z, tx, xs, ks⟩ := ⟨_, rfl⟩
  rw [← hFP0] at hR
  have hFP := hFP0
  unfold fieldsP at hFP
  simp only at hFP
  have no : ¬ FP → ∀ w', Ext w w' → R (.bool false) w' := fun h w' hx => by rw [hR]; exact ⟨hx, false, rfl, by simp [h]⟩
  conv => cbv
  refine st_box hr fun a w1 hx hb0 => ?_
  have hb := hb0 _ (Nat.le_refl _)
  clear hb0
  conv => cbv
  refine draw_q hr fol (by kernel_rfl) fun E' hE' => ?_
  conv => cbv
  (refine st_fld hE' fINd4 fun p hp => ?_; (conv => cbv); refine st_load hE' cInts (by rw [hp]; exact (hb).at _ _ rfl) ?_; clear hp; (conv => cbv))
  refine st_len hE' tInts fun x1 hx1 => ?_
  conv => cbv
  (refine st_fld hE' fINd0 fun p hp => ?_; (conv => cbv); refine st_load hE' cInt (by rw [hp]; exact (hb).at _ _ rfl) ?_; clear hp; (conv => cbv))
  refine st_q hE' (l2kids_q o _) fun w2 hs2 => ?_
  obtain ⟨kf, hkf⟩ : ∃ kf, kf = kidsF o := ⟨_, rfl⟩
  rw [← hkf]
  obtain ⟨q4, hq4⟩ : ∃ q4, q4 = E'.cmp .neq x1 kf := ⟨_, rfl⟩
  have hq5 : q4 = true ↔ x1 ≠ kf := by rw [hq4, hE'.cmp]; simp [cmpR]
  conv => cbv
  simp only [← hq4]
  intro w3 hs3
  replace hb := hb.bel hs3.ext
  replace hx := hx.trans hs3.ext
  clear hs3 hs2 hq4
  conv => cbv
  refine br (fun g => ?_) (fun g => ?_)
  · have g := hq5.1 g
    conv => cbv
    exact no (by rw [hFP]; exact fun q => g (by have := q.1; omega)) _ hx
  have g : x1 = kf := Classical.byContradiction fun q => g (hq5.2 q)
  have hks : (ks.length : Int) = kidsF o := by omega
  replace hFP : FP = _ := hFP.trans (propext (and_iff_right hks))
  clear g hq5
  conv => cbv
  (refine st_fld hE fINd0 fun p hp => ?_; (conv => cbv); refine st_load hE cInt (by rw [hp]; exact (hb).at _ _ rfl) ?_; clear hp; (conv => cbv))
  refine st_bNd hE ?_
  conv => cbv
  refine st_alloc hr tINd rfl fun q w4 hx4 hq0 => ?_
  have hq1 := hq0 _ hx.size
  have aq := (hb.apart (hq0 _ (Nat.le_refl _)) (Nat.le_refl _)).1
  conv => cbv
  refine st_putS hr (by kernel_rfl) hq1 (add_zero _).symm (by simp) (by simp [Value.oneCell']) fun w5 hw5 hq => ?_
  simp only [List.take_zero, List.nil_append, List.length_cons, List.length_nil, List.drop_succ_cons, List.drop_nil, List.append_nil] at hq
  replace hb := (hb.bel hx4).wr hw5 aq
  replace hx := hx.trans (hx4.then (hw5.bel (hq0 _ (Nat.le_refl _)) hx4.size))
  clear hq0 hq1 hw5 hx4
  conv => cbv
  refine cut_rule [] [] hr (fun (s : Int × ByteArray) w' => Ext w w' ∧ Box w.heap.size 61 5 w' a [.int .i64 o, .int .i64 z, .string tx, .slice A0 m0 c0, .slice A1 m1 c1] ∧ Box w.heap.size 61 5 w' q [.int .i64 o, .int .i64 s.1, .string s.2, .slice none 0 0, .slice none 0 0] ∧ ((z = s.1 ∧ tx = s.2 ∧ xs = []) ↔ FP))
    (fun s => [(1, .bool ty), (2, .pointer (some a)), (5, .pointer (some q))]) (fun I hI => ?_) ?_
  · conv => cbv
    (refine st_fld hE fINd0 fun p hp => ?_; (conv => cbv); refine st_load hE cInt (by rw [hp]; exact (hb).at _ _ rfl) ?_; clear hp; (conv => cbv))
    refine br (fun g => ?_) (fun g => ?_)
    · have g : o = 1 := by simpa [hE.cmp, cmpR] using g
      conv => cbv
      (refine st_fld hE fINd1 fun p hp => ?_; (conv => cbv); refine st_load hE cI64 (by rw [hp]; exact (hb).at _ _ rfl) ?_; clear hp; (conv => cbv))
      refine br (fun g2 => ?_) (fun g2 => ?_)
      · have g2 : z < 0 := by simpa [hE.cmp, cmpR] using g2
        conv => cbv
        cases ty with
        | false =>
          conv => cbv
          exact no (by rw [hFP]; rw [if_pos g]; simp; omega) _ hx
        | true =>
          conv => cbv
          (refine st_fld hE fINd1 fun p hp => ?_; (conv => cbv); refine st_load hE cI64 (by rw [hp]; exact (hb).at _ _ rfl) ?_; clear hp; (conv => cbv))
          refine st_fld hE fINd1 fun p hp => ?_
          conv => cbv
          refine st_put hr zI64 hq hp (by simp) rfl fun w6 hw6 hq6 => ?_
          simp only [List.set_cons_zero, List.set_cons_succ] at hq6
          conv => cbv
          exact ⟨(z, ⟨#[]⟩), by simp [Fits, lk], hI _ _ ⟨hx.then (hw6.bel hq hx.size), hb.wr hw6 aq, hq6, by rw [hFP]; simp only; rw [if_pos g]; simp⟩⟩
      · have g2 : ¬ z < 0 := by simpa [hE.cmp, cmpR] using g2
        conv => cbv
        (refine st_fld hE fINd1 fun p hp => ?_; (conv => cbv); refine st_load hE cI64 (by rw [hp]; exact (hb).at _ _ rfl) ?_; clear hp; (conv => cbv))
        refine st_fld hE fINd1 fun p hp => ?_
        conv => cbv
        refine st_put hr zI64 hq hp (by simp) rfl fun w6 hw6 hq6 => ?_
        simp only [List.set_cons_zero, List.set_cons_succ] at hq6
        conv => cbv
        exact ⟨(z, ⟨#[]⟩), by simp [Fits, lk], hI _ _ ⟨hx.then (hw6.bel hq hx.size), hb.wr hw6 aq, hq6, by rw [hFP]; simp only; rw [if_pos g]; simp; intro _ _; omega⟩⟩
    have g1 : o ≠ 1 := by simpa [hE.cmp, cmpR] using g
    clear g
    conv => cbv
    refine br (fun g => ?_) (fun g => ?_)
    · have g : o = 3 := by simpa [hE.cmp, cmpR] using g
      conv => cbv
      (refine st_fld hE fINd1 fun p hp => ?_; (conv => cbv); refine st_load hE cI64 (by rw [hp]; exact (hb).at _ _ rfl) ?_; clear hp; (conv => cbv))
      refine br (fun g2 => ?_) (fun g2 => ?_)
      · have g2 : z ≠ 0 := by simpa [hE.cmp, cmpR] using g2
        conv => cbv
        (refine st_fld hE fINd1 fun p hp => ?_; (conv => cbv); refine st_load hE cI64 (by rw [hp]; exact (hb).at _ _ rfl) ?_; clear hp; (conv => cbv))
        refine br (fun g3 => ?_) (fun g3 => ?_)
        · have g3 : z ≠ 1 := by simpa [hE.cmp, cmpR] using g3
          conv => cbv
          exact no (by rw [hFP]; rw [if_neg g1, if_pos g]; simp; omega) _ hx
        · have g3 : z = 1 := by simpa [hE.cmp, cmpR] using g3
          conv => cbv
          (refine st_fld hE fINd1 fun p hp => ?_; (conv => cbv); refine st_load hE cI64 (by rw [hp]; exact (hb).at _ _ rfl) ?_; clear hp; (conv => cbv))
          refine st_fld hE fINd1 fun p hp => ?_
          conv => cbv
          refine st_put hr zI64 hq hp (by simp) rfl fun w6 hw6 hq6 => ?_
          simp only [List.set_cons_zero, List.set_cons_succ] at hq6
          conv => cbv
          exact ⟨(z, ⟨#[]⟩), by simp [Fits, lk], hI _ _ ⟨hx.then (hw6.bel hq hx.size), hb.wr hw6 aq, hq6, by rw [hFP]; simp only; rw [if_neg g1, if_pos g]; simp [g3]⟩⟩
      · have g2 : z = 0 := by simpa [hE.cmp, cmpR] using g2
        conv => cbv
        (refine st_fld hE fINd1 fun p hp => ?_; (conv => cbv); refine st_load hE cI64 (by rw [hp]; exact (hb).at _ _ rfl) ?_; clear hp; (conv => cbv))
        refine st_fld hE fINd1 fun p hp => ?_
        conv => cbv
        refine st_put hr zI64 hq hp (by simp) rfl fun w6 hw6 hq6 => ?_
        simp only [List.set_cons_zero, List.set_cons_succ] at hq6
        conv => cbv
        exact ⟨(z, ⟨#[]⟩), by simp [Fits, lk], hI _ _ ⟨hx.then (hw6.bel hq hx.size), hb.wr hw6 aq, hq6, by rw [hFP]; simp only; rw [if_neg g1, if_pos g]; simp [g2]⟩⟩
    have g3 : o ≠ 3 := by simpa [hE.cmp, cmpR] using g
    clear g
    conv => cbv
    refine br (fun g => ?_) (fun g => ?_)
    · have g : o = 2 := by simpa [hE.cmp, cmpR] using g
      conv => cbv
      (refine st_fld hE fINd2 fun p hp => ?_; (conv => cbv); refine st_load hE cStr (by rw [hp]; exact (hb).at _ _ rfl) ?_; clear hp; (conv => cbv))
      refine st_f hr (l2quoted_f (w := _) tx s_tx) fun u w6 hx6 ⟨b, ev, hbq⟩ => ?_
      subst ev
      replace hb := hb.bel hx6
      replace hq := hq.bel hx6
      replace hx := hx.trans hx6
      clear hx6
      cases b with
      | false =>
        have hbq : ¬ nameBytes tx := fun q => absurd (hbq.2 q) (by simp)
        conv => cbv
        exact no (by rw [hFP]; rw [if_neg g1, if_neg g3, if_pos g]; simp [hbq]) _ hx
      | true =>
        have hbq := hbq.1 rfl
        conv => cbv
        (refine st_fld hE fINd2 fun p hp => ?_; (conv => cbv); refine st_load hE cStr (by rw [hp]; exact (hb).at _ _ rfl) ?_; clear hp; (conv => cbv))
        refine st_fld hE fINd2 fun p hp => ?_
        conv => cbv
        refine st_put hr zStr hq hp (by simp) rfl fun w6 hw6 hq6 => ?_
        simp only [List.set_cons_zero, List.set_cons_succ] at hq6
        conv => cbv
        exact ⟨(0, tx), by simp [Fits, lk], hI _ _ ⟨hx.then (hw6.bel hq hx.size), hb.wr hw6 aq, hq6, by rw [hFP]; simp only; rw [if_neg g1, if_neg g3, if_pos g]; simp [hbq]⟩⟩
    have g2 : o ≠ 2 := by simpa [hE.cmp, cmpR] using g
    clear g
    conv => cbv
    refine br (fun g => ?_) (fun g => ?_)
    · have g : o = 5 := by simpa [hE.cmp, cmpR] using g
      cases ty with
      | true =>
        conv => cbv
        exact no (by rw [hFP]; rw [if_neg g1, if_neg g3, if_neg g2, if_pos g]; simp) _ hx
      | false =>
        conv => cbv
        (refine st_fld hE fINd2 fun p hp => ?_; (conv => cbv); refine st_load hE cStr (by rw [hp]; exact (hb).at _ _ rfl) ?_; clear hp; (conv => cbv))
        refine st_f hr (l2ident_f tx s_tx _) fun u w6 hx6 ⟨b, ev, hbq⟩ => ?_
        subst ev
        replace hb := hb.bel hx6
        replace hq := hq.bel hx6
        replace hx := hx.trans hx6
        clear hx6
        cases b with
        | false =>
          have hbq : ¬ ident tx := fun q => absurd (hbq.2 q) (by simp)
          conv => cbv
          exact no (by rw [hFP]; rw [if_neg g1, if_neg g3, if_neg g2, if_pos g]; simp [hbq]) _ hx
        | true =>
          have hbq := hbq.1 rfl
          conv => cbv
          (refine st_fld hE fINd2 fun p hp => ?_; (conv => cbv); refine st_load hE cStr (by rw [hp]; exact (hb).at _ _ rfl) ?_; clear hp; (conv => cbv))
          refine st_fld hE fINd2 fun p hp => ?_
          conv => cbv
          refine st_put hr zStr hq hp (by simp) rfl fun w6 hw6 hq6 => ?_
          simp only [List.set_cons_zero, List.set_cons_succ] at hq6
          conv => cbv
          exact ⟨(0, tx), by simp [Fits, lk], hI _ _ ⟨hx.then (hw6.bel hq hx.size), hb.wr hw6 aq, hq6, by rw [hFP]; simp only; rw [if_neg g1, if_neg g3, if_neg g2, if_pos g]; simp [hbq]⟩⟩
    have g5 : o ≠ 5 := by simpa [hE.cmp, cmpR] using g
    clear g
    conv => cbv
    refine br (fun g => ?_) (fun g => ?_)
    · have g : o = 4 := by simpa [hE.cmp, cmpR] using g
      conv => cbv
      (refine st_fld hE fINd1 fun p hp => ?_; (conv => cbv); refine st_load hE cI64 (by rw [hp]; exact (hb).at _ _ rfl) ?_; clear hp; (conv => cbv))
      refine br (fun k2 => ?_) (fun k2 => ?_)
      · have k2 : z = 0 := by simpa [hE.cmp, cmpR] using k2
        conv => cbv
        (refine st_fld hE fINd2 fun p hp => ?_; (conv => cbv); refine st_load hE cStr (by rw [hp]; exact (hb).at _ _ rfl) ?_; clear hp; (conv => cbv))
        refine br (fun k3 => ?_) (fun k3 => ?_)
        · have k3 : tx = ⟨#[]⟩ := (scq hE _ _).1 k3
          conv => cbv
          (refine st_fld hE fINd3 fun p hp => ?_; (conv => cbv); refine st_load hE cStrs (by rw [hp]; exact (hb).at _ _ rfl) ?_; clear hp; (conv => cbv))
          refine st_qb hE (sIsSet_q (r_xs.ext hx)) fun b hbs w6 hs6 => ?_
          conv => cbv
          rw [hR]; exact ⟨hx.trans hs6.ext, b, rfl, by rw [hbs, hFP]; rw [if_neg g1, if_neg g3, if_neg g2, if_neg g5, if_pos g]; simp [k2, k3]⟩
        · have k3 : tx ≠ ⟨#[]⟩ := fun e => k3 ((scq hE _ _).2 e)
          conv => cbv
          exact no (by rw [hFP]; rw [if_neg g1, if_neg g3, if_neg g2, if_neg g5, if_pos g]; simp [k3]) _ hx
      · have k2 : z ≠ 0 := by simpa [hE.cmp, cmpR] using k2
        conv => cbv
        exact no (by rw [hFP]; rw [if_neg g1, if_neg g3, if_neg g2, if_neg g5, if_pos g]; simp [k2]) _ hx
    have g4 : o ≠ 4 := by simpa [hE.cmp, cmpR] using g
    clear g
    conv => cbv
    refine br (fun g => ?_) (fun g => ?_)
    · have g : o = 6 := by simpa [hE.cmp, cmpR] using g
      cases ty with
      | false =>
        conv => cbv
        exact no (by rw [hFP]; rw [if_neg g1, if_neg g3, if_neg g2, if_neg g5, if_neg g4, if_pos g]; simp) _ hx
      | true =>
        conv => cbv
        (refine st_fld hE fINd1 fun p hp => ?_; (conv => cbv); refine st_load hE cI64 (by rw [hp]; exact (hb).at _ _ rfl) ?_; clear hp; (conv => cbv))
        refine br (fun k2 => ?_) (fun k2 => ?_)
        · have k2 : z < 0 := by simpa [hE.cmp, cmpR] using k2
          conv => cbv
          exact no (by rw [hFP]; rw [if_neg g1, if_neg g3, if_neg g2, if_neg g5, if_neg g4, if_pos g]; simp; omega) _ hx
        have k2 : ¬ z < 0 := by simpa [hE.cmp, cmpR] using k2
        conv => cbv
        (refine st_fld hE fINd1 fun p hp => ?_; (conv => cbv); refine st_load hE cI64 (by rw [hp]; exact (hb).at _ _ rfl) ?_; clear hp; (conv => cbv))
        refine br (fun k3 => ?_) (fun k3 => ?_)
        · have k3 : 5 < z := by simpa [hE.cmp, cmpR] using k3
          conv => cbv
          exact no (by rw [hFP]; rw [if_neg g1, if_neg g3, if_neg g2, if_neg g5, if_neg g4, if_pos g]; simp; omega) _ hx
        have k3 : ¬ (5 < z) := by simpa [hE.cmp, cmpR] using k3
        conv => cbv
        (refine st_fld hE fINd1 fun p hp => ?_; (conv => cbv); refine st_load hE cI64 (by rw [hp]; exact (hb).at _ _ rfl) ?_; clear hp; (conv => cbv))
        refine st_fld hE fINd1 fun p hp => ?_
        conv => cbv
        refine st_put hr zI64 hq hp (by simp) rfl fun w6 hw6 hq6 => ?_
        simp only [List.set_cons_zero, List.set_cons_succ] at hq6
        conv => cbv
        exact ⟨(z, ⟨#[]⟩), by simp [Fits, lk], hI _ _ ⟨hx.then (hw6.bel hq hx.size), hb.wr hw6 aq, hq6, by rw [hFP]; simp only; rw [if_neg g1, if_neg g3, if_neg g2, if_neg g5, if_neg g4, if_pos g]; simp only [true_and]; exact ⟨fun q => ⟨by omega, by omega, q⟩, fun q => q.2.2⟩⟩⟩
    have g6 : o ≠ 6 := by simpa [hE.cmp, cmpR] using g
    clear g
    conv => cbv
    refine br (fun g => ?_) (fun g => ?_)
    · have g : o = 7 := by simpa [hE.cmp, cmpR] using g
      cases ty with
      | false =>
        conv => cbv
        exact no (by rw [hFP]; rw [if_neg g1, if_neg g3, if_neg g2, if_neg g5, if_neg g4, if_neg g6, if_pos g]; simp) _ hx
      | true =>
        conv => cbv
        (refine st_fld hE fINd1 fun p hp => ?_; (conv => cbv); refine st_load hE cI64 (by rw [hp]; exact (hb).at _ _ rfl) ?_; clear hp; (conv => cbv))
        refine br (fun k2 => ?_) (fun k2 => ?_)
        · have k2 : z < 0 := by simpa [hE.cmp, cmpR] using k2
          conv => cbv
          exact no (by rw [hFP]; rw [if_neg g1, if_neg g3, if_neg g2, if_neg g5, if_neg g4, if_neg g6, if_pos g]; simp; omega) _ hx
        have k2 : ¬ z < 0 := by simpa [hE.cmp, cmpR] using k2
        conv => cbv
        (refine st_fld hE fINd1 fun p hp => ?_; (conv => cbv); refine st_load hE cI64 (by rw [hp]; exact (hb).at _ _ rfl) ?_; clear hp; (conv => cbv))
        refine br (fun k3 => ?_) (fun k3 => ?_)
        · have k3 : 600 ≤ z := by simpa [hE.cmp, cmpR] using k3
          conv => cbv
          exact no (by rw [hFP]; rw [if_neg g1, if_neg g3, if_neg g2, if_neg g5, if_neg g4, if_neg g6, if_pos g]; simp; omega) _ hx
        have k3 : ¬ (600 ≤ z) := by simpa [hE.cmp, cmpR] using k3
        conv => cbv
        (refine st_fld hE fINd1 fun p hp => ?_; (conv => cbv); refine st_load hE cI64 (by rw [hp]; exact (hb).at _ _ rfl) ?_; clear hp; (conv => cbv))
        refine st_fld hE fINd1 fun p hp => ?_
        conv => cbv
        refine st_put hr zI64 hq hp (by simp) rfl fun w6 hw6 hq6 => ?_
        simp only [List.set_cons_zero, List.set_cons_succ] at hq6
        conv => cbv
        exact ⟨(z, ⟨#[]⟩), by simp [Fits, lk], hI _ _ ⟨hx.then (hw6.bel hq hx.size), hb.wr hw6 aq, hq6, by rw [hFP]; simp only; rw [if_neg g1, if_neg g3, if_neg g2, if_neg g5, if_neg g4, if_neg g6, if_pos g]; simp only [true_and]; exact ⟨fun q => ⟨by omega, by omega, q⟩, fun q => q.2.2⟩⟩⟩
    have g7 : o ≠ 7 := by simpa [hE.cmp, cmpR] using g
    clear g
    conv => cbv
    exact ⟨(0, ⟨#[]⟩), by simp [Fits, lk], hI _ _ ⟨hx, hb, hq, by rw [hFP]; simp only; rw [if_neg g1, if_neg g3, if_neg g2, if_neg g5, if_neg g4, if_neg g6, if_neg g7]⟩⟩
  · clear hb hq hx
    rintro ⟨wz, wt⟩ w6 ⟨hx, hb, hq, hI⟩
    simp only at hq hI
    have no2 : ¬ (z = wz ∧ tx = wt ∧ xs = []) → ∀ w', Ext w w' → R (.bool false) w' := fun h => no fun q => h (hI.2 q)
    conv => cbv
    (refine st_fld hE fINd1 fun p hp => ?_; (conv => cbv); refine st_load hE cI64 (by rw [hp]; exact (hb).at _ _ rfl) ?_; clear hp; (conv => cbv))
    (refine st_fld hE fINd1 fun p hp => ?_; (conv => cbv); refine st_load hE cI64 (by rw [hp]; exact (hq).at _ _ rfl) ?_; clear hp; (conv => cbv))
    refine br (fun g => ?_) (fun g => ?_)
    · have g : z = wz := by simpa [hE.cmp, cmpR] using g
      conv => cbv
      (refine st_fld hE fINd2 fun p hp => ?_; (conv => cbv); refine st_load hE cStr (by rw [hp]; exact (hb).at _ _ rfl) ?_; clear hp; (conv => cbv))
      (refine st_fld hE fINd2 fun p hp => ?_; (conv => cbv); refine st_load hE cStr (by rw [hp]; exact (hq).at _ _ rfl) ?_; clear hp; (conv => cbv))
      refine br (fun g2 => ?_) (fun g2 => ?_)
      · have g2 : tx = wt := (scq hE _ _).1 g2
        conv => cbv
        (refine st_fld hE fINd3 fun p hp => ?_; (conv => cbv); refine st_load hE cStrs (by rw [hp]; exact (hb).at _ _ rfl) ?_; clear hp; (conv => cbv))
        refine st_len hE tStrs fun x9 hx9 => ?_
        obtain ⟨q4, hq4⟩ : ∃ q4, q4 = E.cmp .eql x9 0 := ⟨_, rfl⟩
        have hq5 : q4 = true ↔ x9 = 0 := by rw [hq4, hE.cmp]; simp [cmpR]
        conv => cbv
        simp only [← hq4]
        rw [hR]; exact ⟨hx, q4, rfl, by
          rw [hq5, ← hI]
          exact ⟨fun q => ⟨g, g2, List.eq_nil_of_length_eq_zero (by omega)⟩, fun q => by rw [q.2.2] at hxl; simp at hxl; omega⟩⟩
      · have g2 : tx ≠ wt := fun e => g2 ((scq hE _ _).2 e)
        conv => cbv
        exact no2 (fun q => g2 q.2.1) _ hx
    · have g : z ≠ wz := by simpa [hE.cmp, cmpR] using g
      conv => cbv
      exact no2 (fun q => g q.1) _ hx
end Go.Proofs.YtgdnmpcaiaoaoaaDoor
/- The reference's l2walk and l2depth walked. -/
namespace Go.Proofs.YtgdnmpcaiaoaoaaDoor
open Go.Eng
set_option linter.unusedVariables false
set_option linter.unusedSimpArgs false
theorem IsTs.uniqT {ns : List PN} {a b : Nat} {ks : List Int} {ts : List Tr} (h : IsTs ns a b ks ts) : ∀ {a' b' : Nat} {ts' : List Tr}, IsTs ns a' b' ks ts' → ts = ts' := by
  induction h with
  | nil => intro a' b' ts' h; cases h; rfl
  | @cons a b k p ks kids ts hp hk h1 h2 i1 i2 =>
    intro a' b' ts' h
    generalize hq : ((k : Int) :: ks) = kk at h
    cases h with
    | nil => cases hq
    | cons hp' hk' h1' h2' =>
      simp only [List.cons.injEq] at hq
      obtain ⟨e1, e2⟩ := hq
      have e1 : k = _ := Int.ofNat.inj e1
      subst e1; subst e2
      rw [hp] at hp'
      cases hp'
      rw [i1 h1', i2 h2']
theorem IsTs.at {ns : List PN} {a b : Nat} {ks : List Int} {ts : List Tr} (h : IsTs ns a b ks ts) : ∀ {j : Nat} {k : Int}, ks[j]? = some k → ∃ t a' b', ts[j]? = some t ∧ IsTs ns a' b' [k] [t] := by
  induction h with
  | nil => intro j k h; simp at h
  | @cons a b k p ks kids ts hp hk h1 h2 i1 i2 =>
    intro j q hq
    cases j with
    | zero => simp at hq; subst hq; exact ⟨_, a, k + 1, rfl, .cons hp hk h1 (.nil _)⟩
    | succ j => simpa using i2 (by simpa using hq)
theorem IsTs.of_mem {ns : List PN} {a b : Nat} {ks : List Int} {ts : List Tr} (h : IsTs ns a b ks ts) {t : Tr} (ht : t ∈ ts) : ∃ k ∈ ks, ∃ a' b', IsTs ns a' b' [k] [t] := by
  obtain ⟨j, hj⟩ := List.mem_iff_getElem?.1 ht
  have hlt : j < ks.length := by rw [← h.len]; exact (List.getElem?_eq_some_iff.1 hj).1
  obtain ⟨t', a', b', h1, h2⟩ := h.at (List.getElem?_eq_getElem hlt)
  rw [hj] at h1
  cases h1
  exact ⟨_, List.getElem_mem hlt, a', b', h2⟩
theorem IsTs.dep_le {ns : List PN} {a b : Nat} {ks : List Int} {ts : List Tr} (h : IsTs ns a b ks ts) : deps ts ≤ b := by
  induction h with
  | nil => simp [deps]
  | @cons a b k p ks kids ts hp hk h1 h2 i1 i2 =>
    have := h2.le
    rw [deps]
    have : dep (mkT p k kids) ≤ deps kids + 1 := by
      unfold mkT
      split
      · rw [dep_leaf]; omega
      · rw [dep]; omega
    omega
theorem kidsW_pre {g : Int → List Int → List Int} (hg : ∀ k o, o <+: g k o) {top : Int} : ∀ (ks out : List Int), out <+: kidsW g top ks out
  | [], out => List.prefix_append _ _
  | k :: ks, out => by
    rw [kidsW]
    split
    · exact List.prefix_append _ _
    · exact (hg k out).trans (kidsW_pre hg ks _)
theorem pre_len {a b : List Int} (h : a <+: b) : a.length ≤ b.length := h.length_le
/-- A row that has grown: what else there was stands. -/
structure Gro (w : World) (A : Option Addr) (w' : World) (A' : Option Addr) : Prop where
  wr : Wr A w w'
  at_ : blk A' = blk A ∨ ∃ b, blk A' = some b ∧ w.heap.size ≤ b
theorem Gro.refl (w : World) (A : Option Addr) : Gro w A w A := ⟨Wr.refl _ _, .inl rfl⟩
theorem Gro.trans {a b c : World} {A B C : Option Addr} (h : Gro a A b B) (k : Gro b B c C) : Gro a A c C := by
  refine ⟨⟨k.wr.os.trans h.wr.os, k.wr.tape.trans h.wr.tape, k.wr.output.trans h.wr.output, Nat.le_trans h.wr.size k.wr.size, fun i hi hn => ?_⟩, ?_⟩
  · have e1 := h.wr.block i hi hn
    have e2 := k.wr.block i (Nat.lt_of_lt_of_le hi h.wr.size) (by
      rcases h.at_ with e | ⟨b0, e, hb⟩
      · rw [e]; exact hn
      · rw [e]; intro q; cases q; omega)
    rw [e2, e1]
  · rcases k.at_ with e | ⟨b0, e, hb⟩
    · rw [e]; exact h.at_
    · exact .inr ⟨b0, e, Nat.le_trans h.wr.size hb⟩
theorem Gro.ext {a b c : World} {A C : Option Addr} (h : Ext a b) (k : Gro b A c C) : Gro a A c C := Gro.trans ⟨h.wr A, .inl rfl⟩ k
theorem Gro.app {a b c : World} {A C : Option Addr} (h : Ext a b) (hw : Wr A b c) (hk : blk C = blk A ∨ blk C = some b.heap.size) : Gro a A c C :=
  Gro.ext h ⟨hw, hk.imp id fun e => ⟨_, e, Nat.le_refl _⟩⟩
theorem Gro.apart {a c : World} {A C : Option Addr} {x : Addr} {B e k m cc : Nat} {xs : List Value} (h : Gro a A c C) (hx : Own B e k a (some x) m cc xs) (ha : Apart A (some x) ∧ Apart (some x) A) : Apart C (some x) ∧ Apart (some x) C := by
  obtain ⟨gb, rfl, _, hlt⟩ := hx.form
  have hb : blk (some (⟨gb, 0, none⟩ : Addr)) = some gb := rfl
  have key : blk C ≠ some gb := by
    rcases h.at_ with e | ⟨b0, e, hb0⟩
    · rw [e]
      rcases ha.2 with h1 | h1
      · cases h1
      · rw [hb] at h1; exact fun q => h1 q.symm
    · rw [e]; intro q; cases q; omega
  exact ⟨.inr (by rw [hb]; exact key), .inr (by rw [hb]; exact fun q => key q.symm)⟩
set_option maxHeartbeats 2000000 in
theorem l2walk_g {w0 : World} {AN : Option Addr} {N cN : Nat} {nv : List PN} (hN : RNs w0 AN N nv) (hk : ∀ p ∈ nv, p.ks.length ≤ 3) (hNb : N ≤ 4000) : ∀ (f : Nat), f ≤ 4001 → ∀ (top : Int) (w : World) (A : Option Addr) (n c : Nat) (out : List Int), (top < f ∨ (N : Int) ≤ top) → Ext w0 w → Own w0.heap.size 3 1 w A n c (out.map (.int .i64)) → n + f ≤ 60000 →
    GC Tryd.prog 41 [.slice AN N cN, .int .i64 top, .slice A n c] w fun v w' => ∃ A' n' c', v = .slice A' n' c' ∧ Ext w0 w' ∧ Own w0.heap.size 3 1 w' A' n' c' ((walkF nv f top out).map (.int .i64)) ∧ Gro w A w' A' := by
  intro f
  induction f with
  | zero =>
    intro hf top w A n c out htop hx ho hnf
    refine GC.intro (cs := []) Tryd.func41 (by kernel_rfl) fun E R hE hr hR => ?_
    have hol := ho.len
    rw [List.length_map, Nat.mul_one] at hol
    have bad : ∀ w2, w2 = w → E.cmp .eql 0 0 = E.cmp .eql 0 0 := fun _ _ => rfl
    clear bad
    conv => cbv
    refine br (fun g => ?_) (fun g => ?_)
    · conv => cbv
      refine st_one hr tInts rfl rfl fun A1 w1 hx1 hc1 => ?_
      conv => cbv
      refine st_appsG hr tInts rfl (ho.bel hx1) hc1 rfl (by simp [Value.oneCell']) (Nat.le_trans hx.size hx1.size) (by omega) (by omega) fun A2 c2 m2 w2 hm2 hw2 ho2 hk2 => ?_
      conv => cbv
      rw [hR]; exact ⟨A2, m2, c2, rfl, (hx.trans hx1).then (hw2.bel (ho.bel hx1) (Nat.le_trans hx.size hx1.size)), by rw [walkF, List.map_append]; exact ho2, Gro.app hx1 hw2 hk2⟩
    have g : ¬ top < 0 := by simpa [hE.cmp, cmpR] using g
    conv => cbv
    refine st_len hE sINd fun x hx9 => ?_
    conv => cbv
    refine br (fun g2 => ?_) (fun g2 => ?_)
    · conv => cbv
      refine st_one hr tInts rfl rfl fun A1 w1 hx1 hc1 => ?_
      conv => cbv
      refine st_appsG hr tInts rfl (ho.bel hx1) hc1 rfl (by simp [Value.oneCell']) (Nat.le_trans hx.size hx1.size) (by omega) (by omega) fun A2 c2 m2 w2 hm2 hw2 ho2 hk2 => ?_
      conv => cbv
      rw [hR]; exact ⟨A2, m2, c2, rfl, (hx.trans hx1).then (hw2.bel (ho.bel hx1) (Nat.le_trans hx.size hx1.size)), by rw [walkF, List.map_append]; exact ho2, Gro.app hx1 hw2 hk2⟩
    have g2 : ¬ x ≤ top := by simpa [hE.cmp, cmpR] using g2
    exfalso; omega
  | succ f ih =>
    intro hf top w A n c out htop hx ho hnf
    refine GC.intro (cs := []) Tryd.func41 (by kernel_rfl) fun E R hE hr hR => ?_
    have hol := ho.len
    rw [List.length_map, Nat.mul_one] at hol
    have hNl := hN.len
    have hlen := walk_len hk (f + 1) top out
    obtain ⟨V, hV0⟩ : ∃ V, V = walkF nv (f + 1) top out := ⟨_, rfl⟩
    rw [← hV0] at hR hlen
    have hV := hV0
    rw [walkF] at hV
    conv => cbv
    refine br (fun g => ?_) (fun g => ?_)
    · have g : top < 0 := by simpa [hE.cmp, cmpR] using g
      rw [if_pos (.inl g)] at hV
      conv => cbv
      refine st_one hr tInts rfl rfl fun A1 w1 hx1 hc1 => ?_
      conv => cbv
      refine st_appsG hr tInts rfl (ho.bel hx1) hc1 rfl (by simp [Value.oneCell']) (Nat.le_trans hx.size hx1.size) (by omega) (by omega) fun A2 c2 m2 w2 hm2 hw2 ho2 hk2 => ?_
      conv => cbv
      rw [hR]; exact ⟨A2, m2, c2, rfl, (hx.trans hx1).then (hw2.bel (ho.bel hx1) (Nat.le_trans hx.size hx1.size)), by rw [hV, List.map_append]; exact ho2, Gro.app hx1 hw2 hk2⟩
    have g : ¬ top < 0 := by simpa [hE.cmp, cmpR] using g
    conv => cbv
    refine st_len hE sINd fun x hx9 => ?_
    conv => cbv
    refine br (fun g2 => ?_) (fun g2 => ?_)
    · have g2 : x ≤ top := by simpa [hE.cmp, cmpR] using g2
      rw [if_pos (.inr (.inl (by omega)))] at hV
      conv => cbv
      refine st_one hr tInts rfl rfl fun A1 w1 hx1 hc1 => ?_
      conv => cbv
      refine st_appsG hr tInts rfl (ho.bel hx1) hc1 rfl (by simp [Value.oneCell']) (Nat.le_trans hx.size hx1.size) (by omega) (by omega) fun A2 c2 m2 w2 hm2 hw2 ho2 hk2 => ?_
      conv => cbv
      rw [hR]; exact ⟨A2, m2, c2, rfl, (hx.trans hx1).then (hw2.bel (ho.bel hx1) (Nat.le_trans hx.size hx1.size)), by rw [hV, List.map_append]; exact ho2, Gro.app hx1 hw2 hk2⟩
    have g2 : ¬ x ≤ top := by simpa [hE.cmp, cmpR] using g2
    conv => cbv
    refine st_len hE tInts fun x3 hx3 => ?_
    conv => cbv
    refine st_len hE sINd fun x4 hx4 => ?_
    conv => cbv
    refine br (fun g3 => ?_) (fun g3 => ?_)
    · have g3 : x4 < x3 := by simpa [hE.cmp, cmpR] using g3
      rw [if_pos (.inr (.inr (by omega)))] at hV
      conv => cbv
      refine st_one hr tInts rfl rfl fun A1 w1 hx1 hc1 => ?_
      conv => cbv
      refine st_appsG hr tInts rfl (ho.bel hx1) hc1 rfl (by simp [Value.oneCell']) (Nat.le_trans hx.size hx1.size) (by omega) (by omega) fun A2 c2 m2 w2 hm2 hw2 ho2 hk2 => ?_
      conv => cbv
      rw [hR]; exact ⟨A2, m2, c2, rfl, (hx.trans hx1).then (hw2.bel (ho.bel hx1) (Nat.le_trans hx.size hx1.size)), by rw [hV, List.map_append]; exact ho2, Gro.app hx1 hw2 hk2⟩
    have g3 : ¬ x4 < x3 := by simpa [hE.cmp, cmpR] using g3
    rw [if_neg (by omega)] at hV
    obtain ⟨tn, htn⟩ : ∃ tn : Nat, top = tn := ⟨top.toNat, by omega⟩
    obtain ⟨a, v, hA, hg, hc, hok⟩ := hN.get (i := tn) (by omega)
    rw [show top.toNat = tn by omega, hg] at hV
    simp only [Option.map_some, Option.getD_some] at hV
    conv => cbv
    refine st_idx hE sINd hA (by omega) (by omega) fun q hq => ?_
    rw [show top.toNat = tn by omega] at hq
    conv => cbv
    refine st_fld hE fINd4 fun q2 hq2 => ?_
    conv => cbv
    refine st_load hE cInts (v := .slice v.A1 v.m1 v.c1) (by rw [hq2, hq]; exact hx.cell (hc 4 _ rfl)) ?_
    have rk := hok.r_ks
    have hkl := rk.len
    have hk3 := hk _ (List.mem_of_getElem? hg)
    obtain ⟨ks, hks⟩ : ∃ ks, ks = v.p.ks := ⟨_, rfl⟩
    obtain ⟨A5, hA5⟩ : ∃ x, x = v.A1 := ⟨_, rfl⟩
    obtain ⟨m5, hm5⟩ : ∃ x, x = v.m1 := ⟨_, rfl⟩
    obtain ⟨c5, hc5⟩ : ∃ x, x = v.c1 := ⟨_, rfl⟩
    rw [← hks, ← hA5, ← hm5, ← hc5] at rk
    rw [← hks, ← hm5] at hkl
    rw [← hks] at hV hk3
    rw [← hA5, ← hm5, ← hc5]
    conv => cbv
    clear hq hq2 hc hok
    refine st_len hE tInts fun x5 hx5 => ?_
    conv => cbv
    have hle5 := rk.le
    refine loop_rule hr (fun (s : Nat × Int × Option Addr × Nat × Nat × List Int) w' => s.1 ≤ m5 ∧ s.2.1 = (s.1 : Int) ∧ Ext w0 w' ∧ Own w0.heap.size 3 1 w' s.2.2.1 s.2.2.2.1 s.2.2.2.2.1 (s.2.2.2.2.2.map (.int .i64)) ∧ kidsW (walkF nv f) top (ks.drop s.1) s.2.2.2.2.2 = V ∧ Gro w A w' s.2.2.1)
      (fun s => [(0, .slice AN N cN), (1, .int .i64 top), (2, .slice s.2.2.1 s.2.2.2.1 s.2.2.2.2.1), (31, .slice A5 m5 c5), (32, .int .i64 x5), (33, .int .i64 s.2.1)]) (fun s => m5 - s.1) (0, 0, A, n, c, out)
      (by simp [Fits, lk]) ⟨by simp, by simp, hx, ho, by simpa using hV.symm, Gro.refl _ _⟩ ?_
    clear hx ho
    rintro I hI ⟨j, jj, A', n', c', out'⟩ w' ⟨hj, hjj, hx, ho, hKV, hG⟩
    simp only at hj hjj ho hKV hG
    have hol' := ho.len
    rw [List.length_map, Nat.mul_one] at hol'
    have hpl : n' ≤ V.length := by rw [← hol', ← hKV]; exact pre_len (kidsW_pre (walk_pre nv f) _ _)
    have hn' : n' + f ≤ 60000 := by omega
    obtain ⟨jk, hjk⟩ : ∃ z, z = jj + 1 := ⟨_, rfl⟩
    conv => cbv
    refine br (fun g4 => ?_) (fun g4 => ?_)
    · have g4 : j < m5 := by
        have : jj < x5 := by simpa [hE.cmp, cmpR] using g4
        omega
      have ej : E.ar .add .i64 jj 1 = jk := by rw [hE.ar, hjk]; exact wrap_in (by omega) (by omega)
      conv => cbv
      refine st_int hE tInts (rk.ext hx) (k := j) (by omega) g4 fun p u hu hp => ?_
      have hdr : ks.drop j = u :: ks.drop (j + 1) := by
        obtain ⟨z1, z2⟩ := List.getElem?_eq_some_iff.1 hu
        rw [List.drop_eq_getElem_cons z1, z2]
      rw [hdr, kidsW] at hKV
      conv => cbv
      refine st_load hE cInt hp ?_
      conv => cbv
      refine br (fun g5 => ?_) (fun g5 => ?_)
      · have g5 : top ≤ u := by simpa [hE.cmp, cmpR] using g5
        rw [if_pos g5] at hKV
        conv => cbv
        refine st_one hr tInts rfl rfl fun A1 w1 hx1 hc1 => ?_
        conv => cbv
        refine st_appsG hr tInts rfl (ho.bel hx1) hc1 rfl (by simp [Value.oneCell']) (Nat.le_trans hx.size hx1.size) (by omega) (by omega) fun A2 c2 m2 w2 hm2 hw2 ho2 hk2 => ?_
        conv => cbv
        rw [hR]; exact ⟨A2, m2, c2, rfl, (hx.trans hx1).then (hw2.bel (ho.bel hx1) (Nat.le_trans hx.size hx1.size)), by rw [← hKV, List.map_append]; exact ho2, hG.trans (Gro.app hx1 hw2 hk2)⟩
      · have g5 : ¬ top ≤ u := by simpa [hE.cmp, cmpR] using g5
        rw [if_neg g5] at hKV
        conv => cbv
        refine st_g hr (ih (by omega) u w' A' n' c' out' (.inl (by omega)) hx ho hn') fun r w2 ⟨A2, n2, c2, ev, hx2, ho2, hG2⟩ => ?_
        subst ev
        conv => cbv
        simp only [ej]
        exact ⟨(j + 1, jk, A2, n2, c2, walkF nv f u out'), by simp [Fits, lk], hI _ _ ⟨by simp only; omega, by simp only; omega, hx2, ho2, hKV, hG.trans hG2⟩, by simp only; omega⟩
    · have g4 : j = m5 := by
        have : ¬ jj < x5 := by simpa [hE.cmp, cmpR] using g4
        omega
      rw [List.drop_of_length_le (by omega), kidsW] at hKV
      conv => cbv
      refine st_one hr tInts rfl rfl fun A1 w1 hx1 hc1 => ?_
      conv => cbv
      refine st_appsG hr tInts rfl (ho.bel hx1) hc1 rfl (by simp [Value.oneCell']) (Nat.le_trans hx.size hx1.size) (by omega) (by omega) fun A2 c2 m2 w2 hm2 hw2 ho2 hk2 => ?_
      conv => cbv
      rw [hR]; exact ⟨A2, m2, c2, rfl, (hx.trans hx1).then (hw2.bel (ho.bel hx1) (Nat.le_trans hx.size hx1.size)), by rw [← hKV, List.map_append]; exact ho2, hG.trans (Gro.app hx1 hw2 hk2)⟩
/-- The depth of the tree with this top. -/
theorem l2depth_q {w : World} {AN : Option Addr} {N cN : Nat} {nv : List PN} (hN : RNs w AN N nv) (hNb : N ≤ 4000) : ∀ (k : Nat) (a b : Nat) (t : Tr), IsTs nv a b [(k : Int)] [t] → QF Tryd.prog 42 [.slice AN N cN, .int .i64 (k : Int)] w (.int .i64 (dep t : Int)) := by
  intro k
  induction k using Nat.strongRecOn with
  | _ k ih =>
    intro a b t ht
    refine QF.intro (cs := []) Tryd.func42 (by kernel_rfl) fun w0 hx0 w1 hs E R hE hr hR => ?_
    have hNl := hN.len
    have hdt : dep t ≤ 4000 := by
      have h1 := ht.dep_le
      have h2 := ht.bound (by have := (ht.roots k (by simp)).1; have := (ht.roots k (by simp)).2; omega)
      rw [deps] at h1; omega
    obtain ⟨kn, p, kids, e1, e2, hp, hk, hks, et⟩ := ht.one
    have e1 : k = kn := by omega
    subst e1
    have et : t = mkT p k kids := by simpa using et
    have hkn := (List.getElem?_eq_some_iff.1 hp).1
    obtain ⟨ad, v, hA, hg, hc, hok⟩ := hN.get (i := k) (by omega)
    rw [hp] at hg
    have hpv : p = v.p := Option.some.inj hg
    subst hpv
    have hx1 : Ext w w1 := hx0.trans hs.ext
    obtain ⟨kk, hkk⟩ : ∃ kk : Int, kk = k := ⟨_, rfl⟩
    rw [← hkk]
    obtain ⟨D, hD⟩ : ∃ D : Int, D = dep t := ⟨_, rfl⟩
    rw [← hD] at hR
    conv => cbv
    refine st_idx hE sINd hA (by omega) (by omega) fun q hq => ?_
    rw [show kk.toNat = k by omega] at hq
    conv => cbv
    refine st_fld hE fINd4 fun q2 hq2 => ?_
    conv => cbv
    refine st_load hE cInts (v := .slice v.A1 v.m1 v.c1) (by rw [hq2, hq]; exact hx1.cell (hc 4 _ rfl)) ?_
    have rk := hok.r_ks
    have hkl := rk.len
    have hlen := hks.len
    have hdk : dep t = deps kids + 1 ∨ (kids = [] ∧ dep t = 1) := by
      rw [et, mkT]
      split
      · rw [dep_leaf]; exact .inr ⟨List.eq_nil_of_length_eq_zero (by omega), rfl⟩
      · exact .inl (by rw [dep])
    obtain ⟨ks, hks0⟩ : ∃ ks, ks = v.p.ks := ⟨_, rfl⟩
    obtain ⟨A5, hA5⟩ : ∃ x, x = v.A1 := ⟨_, rfl⟩
    obtain ⟨m5, hm5⟩ : ∃ x, x = v.m1 := ⟨_, rfl⟩
    obtain ⟨c5, hc5⟩ : ∃ x, x = v.c1 := ⟨_, rfl⟩
    rw [← hks0, ← hA5, ← hm5, ← hc5] at rk
    rw [← hks0, ← hm5] at hkl
    rw [← hks0] at hks hlen
    rw [← hA5, ← hm5, ← hc5]
    conv => cbv
    clear hq hq2 hc hok
    refine st_len hE tInts fun x5 hx5 => ?_
    conv => cbv
    have hle5 := rk.le
    refine loop_rule hr (fun (s : Nat × Int × Int) w' => s.1 ≤ m5 ∧ s.2.1 = (s.1 : Int) ∧ Same w0 w' ∧ s.2.2 = (deps (kids.take s.1) : Int))
      (fun s => [(0, .slice AN N cN), (1, .int .i64 kk), (5, .int .i64 s.2.2), (13, .slice A5 m5 c5), (14, .int .i64 x5), (15, .int .i64 s.2.1)]) (fun s => m5 - s.1) (0, 0, 0)
      (by simp [Fits, lk]) ⟨by simp, by simp, hs, by simp [deps]⟩ ?_
    rintro I hI ⟨j, jj, d⟩ w' ⟨hj, hjj, hs', hd⟩
    simp only at hj hjj hd
    have hxw : Ext w w' := hx0.trans hs'.ext
    obtain ⟨jk, hjk⟩ : ∃ z, z = jj + 1 := ⟨_, rfl⟩
    have take1 : ∀ (u : Int) (t' : Tr), kids[j]? = some t' → deps (kids.take (j + 1)) = max (deps (kids.take j)) (dep t') := by
      intro u t' h
      rw [List.take_add_one, h]
      have : ∀ l : List Tr, deps (l ++ [t']) = max (deps l) (dep t') := by
        intro l
        induction l with
        | nil => simp [deps]
        | cons x l ih => rw [List.cons_append, deps, ih, deps]; omega
      exact this _
    have dle : deps (kids.take j) ≤ deps kids := deps_le fun t ht => deps_mem (List.mem_of_mem_take ht)
    conv => cbv
    refine br (fun g4 => ?_) (fun g4 => ?_)
    · have g4 : j < m5 := by
        have : jj < x5 := by simpa [hE.cmp, cmpR] using g4
        omega
      have ej : E.ar .add .i64 jj 1 = jk := by rw [hE.ar, hjk]; exact wrap_in (by omega) (by omega)
      conv => cbv
      refine st_int hE tInts (rk.ext hxw) (k := j) (by omega) g4 fun p u hu hp => ?_
      obtain ⟨t', a', b', ht1, ht2⟩ := hks.at hu
      obtain ⟨un, hun⟩ : ∃ un : Nat, u = un := ⟨u.toNat, by have := (hks.roots u (List.mem_of_getElem? hu)).1; omega⟩
      have hult : un < k := by have := (hks.roots u (List.mem_of_getElem? hu)).2; omega
      conv => cbv
      refine st_load hE cInt hp ?_
      conv => cbv
      have hc := ih un hult a' b' t' (by rw [← hun]; exact ht2)
      rw [← hun] at hc
      have hcx : QF Tryd.prog 42 [.slice AN N cN, .int .i64 u] w' (.int .i64 (dep t' : Int)) := ⟨hc.1, fun w2 h2 => hc.2 w2 (hxw.trans h2)⟩
      refine st_qi hE hcx fun e he w2 hs2 => ?_
      conv => cbv
      refine br (fun g5 => ?_) (fun g5 => ?_)
      · have g5 : d < e := by simpa [hE.cmp, cmpR] using g5
        conv => cbv
        simp only [ej]
        exact ⟨(j + 1, jk, e), by simp [Fits, lk], hI _ _ ⟨by simp only; omega, by simp only; omega, hs'.trans hs2, by simp only; rw [take1 u t' ht1]; omega⟩, by simp only; omega⟩
      · have g5 : ¬ d < e := by simpa [hE.cmp, cmpR] using g5
        conv => cbv
        simp only [ej]
        exact ⟨(j + 1, jk, d), by simp [Fits, lk], hI _ _ ⟨by simp only; omega, by simp only; omega, hs'.trans hs2, by simp only; rw [take1 u t' ht1]; omega⟩, by simp only; omega⟩
    · have g4 : j = m5 := by
        have : ¬ jj < x5 := by simpa [hE.cmp, cmpR] using g4
        omega
      rw [List.take_of_length_le (by omega)] at hd
      have hD2 : D = d + 1 := by
        rcases hdk with h1 | ⟨h1, h2⟩
        · omega
        · rw [h1] at hd; simp [deps] at hd; omega
      have ed : E.ar .add .i64 d 1 = D := by rw [hE.ar, hD2]; exact wrap_in (by omega) (by omega)
      conv => cbv
      simp only [ed]
      rw [hR]; exact ⟨rfl, hs'⟩
end Go.Proofs.YtgdnmpcaiaoaoaaDoor
/- The program's trees as they lie in memory; their depth. -/
namespace Go.Proofs.YtgdnmpcaiaoaoaaDoor
open Go.Eng
set_option linter.unusedVariables false
set_option linter.unusedSimpArgs false
/-- What lies at A is in blocks of D. -/
def InD (D : Nat → Prop) (A : Option Addr) (m : Nat) : Prop := ∀ a, A = some a → 0 < m → D a.block
mutual
def TreeV (D : Nat → Prop) (w : World) : Tr → Value → Prop
  | .con k n tx xs at_, v => ∃ A m c, v = .iface 76 (.agg ⟨[.int .i64 k, .int .i64 n, .string tx, .slice A m c, .int .i64 at_]⟩) ∧ Strs w A m c xs ∧ InD D A m ∧ tx.size ≤ 9223372036854775807
  | .nam tx at_, v => v = .iface 79 (.agg ⟨[.string tx, .int .i64 at_]⟩) ∧ tx.size ≤ 9223372036854775807
  | .att n, v => v = .iface 126 (.agg ⟨[.int .i64 n]⟩)
  | .lt n, v => v = .iface 127 (.agg ⟨[.int .i64 n]⟩)
  | .op o kids at_, v => ∃ A m c vs, v = .iface 82 (.agg ⟨[.int .i64 o, .slice A m c, .int .i64 at_]⟩) ∧ vs.length = m ∧ m ≤ c ∧ m ≤ 9223372036854775807 ∧ Cells w A vs ∧ InD D A m ∧ TreesV D w kids vs
def TreesV (D : Nat → Prop) (w : World) : List Tr → List Value → Prop
  | [], [] => True
  | t :: ts, v :: vs => TreeV D w t v ∧ TreesV D w ts vs
  | _, _ => False
end
theorem TreesV.len {D : Nat → Prop} {w : World} : ∀ {ts : List Tr} {vs : List Value}, TreesV D w ts vs → ts.length = vs.length
  | [], [], _ => rfl
  | t :: ts, v :: vs, h => by simp only [TreesV] at h; simp [TreesV.len h.2]
  | [], _ :: _, h => by simp only [TreesV] at h
  | _ :: _, [], h => by simp only [TreesV] at h
theorem TreesV.get {D : Nat → Prop} {w : World} : ∀ {ts : List Tr} {vs : List Value}, TreesV D w ts vs → ∀ (i : Nat) (t : Tr) (v : Value), ts[i]? = some t → vs[i]? = some v → TreeV D w t v
  | t :: ts, v :: vs, h, 0, t', v', h1, h2 => by simp at h1 h2; subst h1; subst h2; simp only [TreesV] at h; exact h.1
  | t :: ts, v :: vs, h, i + 1, t', v', h1, h2 => by simp only [TreesV] at h; exact TreesV.get h.2 i t' v' (by simpa using h1) (by simpa using h2)
  | [], [], _, i, t, v, h1, _ => by simp at h1
  | [], _ :: _, h, _, _, _, _, _ => by simp only [TreesV] at h
  | _ :: _, [], h, _, _, _, _, _ => by simp only [TreesV] at h
theorem TreesV.of_get {D : Nat → Prop} {w : World} : ∀ {ts : List Tr} {vs : List Value}, ts.length = vs.length → (∀ (i : Nat) (t : Tr) (v : Value), ts[i]? = some t → vs[i]? = some v → TreeV D w t v) → TreesV D w ts vs
  | [], [], _, _ => by simp only [TreesV]
  | t :: ts, v :: vs, h, hq => by
    simp only [TreesV]
    exact ⟨hq 0 t v rfl rfl, TreesV.of_get (by simpa using h) fun i t v h1 h2 => hq (i + 1) t v (by simpa using h1) (by simpa using h2)⟩
  | [], _ :: _, h, _ => by simp at h
  | _ :: _, [], h, _ => by simp at h
theorem TreeV.one {D : Nat → Prop} {w : World} {t : Tr} {v : Value} (h : TreeV D w t v) : v.oneCell' = true ∧ v ≠ .nilIface := by
  cases t <;> simp only [TreeV] at h
  · obtain ⟨A, m, c, rfl, _⟩ := h; exact ⟨rfl, by simp⟩
  · rw [h.1]; exact ⟨rfl, by simp⟩
  · rw [h]; exact ⟨rfl, by simp⟩
  · rw [h]; exact ⟨rfl, by simp⟩
  · obtain ⟨A, m, c, vs, rfl, _⟩ := h; exact ⟨rfl, by simp⟩
/-! ### Worlds in which these blocks stand -/
def Keeps (D : Nat → Prop) (w w' : World) : Prop := ∀ b, D b → w'.heap[b]? = w.heap[b]?
theorem add_block (a : Addr) (j : Nat) : (a.add j).block = a.block := by unfold Addr.add; split <;> rfl
theorem cell_keep {w w' : World} {a : Addr} (h : w'.heap[a.block]? = w.heap[a.block]?) : w'.cell? a = w.cell? a := by simp only [World.cell?, h]
theorem cells_keep {D : Nat → Prop} {w w' : World} {A : Option Addr} {vs : List Value} (h : Cells w A vs) (hD : InD D A vs.length) (hk : Keeps D w w') : Cells w' A vs :=
  ⟨h.1, fun a ha j v hv => by
    have hlt := (List.getElem?_eq_some_iff.1 hv).1
    exact (cell_keep (by rw [add_block]; exact hk _ (hD a ha (by omega)))).trans (h.2 a ha j v hv)⟩
theorem strs_keep {D : Nat → Prop} {w w' : World} {A : Option Addr} {m c : Nat} {xs : List ByteArray} (h : Strs w A m c xs) (hD : InD D A m) (hk : Keeps D w w') : Strs w' A m c xs :=
  ⟨h.1, h.2, h.3, cells_keep h.4 (by rw [List.length_map, h.len]; exact hD) hk, h.5⟩
mutual
theorem TreeV.keep {D D' : Nat → Prop} {w w' : World} (hk : Keeps D w w') (hD : ∀ b, D b → D' b) : ∀ (t : Tr) (v : Value), TreeV D w t v → TreeV D' w' t v
  | .con k n tx xs at_, v, h => by
    simp only [TreeV] at h ⊢
    obtain ⟨A, m, c, e, h1, h2, h3⟩ := h
    exact ⟨A, m, c, e, strs_keep h1 h2 hk, fun a ha hm => hD _ (h2 a ha hm), h3⟩
  | .nam tx at_, v, h => by simp only [TreeV] at h ⊢; exact h
  | .att n, v, h => by simp only [TreeV] at h ⊢; exact h
  | .lt n, v, h => by simp only [TreeV] at h ⊢; exact h
  | .op o kids at_, v, h => by
    simp only [TreeV] at h ⊢
    obtain ⟨A, m, c, vs, e, h1, h2, h3, h4, h5, h6⟩ := h
    exact ⟨A, m, c, vs, e, h1, h2, h3, cells_keep h4 (by rw [h1]; exact h5) hk, fun a ha hm => hD _ (h5 a ha hm), TreesV.keep hk hD kids vs h6⟩
theorem TreesV.keep {D D' : Nat → Prop} {w w' : World} (hk : Keeps D w w') (hD : ∀ b, D b → D' b) : ∀ (ts : List Tr) (vs : List Value), TreesV D w ts vs → TreesV D' w' ts vs
  | [], [], _ => by simp only [TreesV]
  | t :: ts, v :: vs, h => by simp only [TreesV] at h ⊢; exact ⟨TreeV.keep hk hD t v h.1, TreesV.keep hk hD ts vs h.2⟩
  | [], _ :: _, h => by simp only [TreesV] at h
  | _ :: _, [], h => by simp only [TreesV] at h
end
theorem TreeV.ext {D : Nat → Prop} {w w' : World} {t : Tr} {v : Value} (h : TreeV D w t v) (hD : ∀ b, D b → b < w.heap.size) (hx : Ext w w') : TreeV D w' t v := h.keep (fun b hb => hx.block b (hD b hb)) (fun _ h => h)
/-! ### Depth -/
theorem tOp : Stc Tryd.prog 82 3 [.int .i64 0, .slice none 0 0, .int .i64 0] := ⟨by kernel_rfl, by kernel_rfl⟩
theorem fOp0 : Fld Tryd.prog 82 0 0 := ⟨by kernel_rfl⟩
theorem fOp1 : Fld Tryd.prog 82 1 1 := ⟨by kernel_rfl⟩
theorem cTrs : Cel Tryd.prog 80 := ⟨_, Tryd.underlying80, by simp, by simp⟩
theorem zTrs : (Tryd.prog.info? 80).map (·.size) = some 1 := by kernel_rfl
theorem sTrs : Slc Tryd.prog 80 47 .nilIface 1 16 := ⟨Tryd.underlying80, by kernel_rfl⟩
theorem cTr : Cel Tryd.prog 47 := ⟨_, Tryd.underlying47, by simp, by simp⟩
theorem zTr : (Tryd.prog.info? 47).map (·.size) = some 1 := by kernel_rfl
theorem cmCon (v : Value) (w : World) : (callMethod (.iface 76 v) "loop.example/s01308/impl.depth" #[]).run Tryd.prog w = .ok (.enter 107 #[v]) w := by kernel_rfl
theorem cmNam (v : Value) (w : World) : (callMethod (.iface 79 v) "loop.example/s01308/impl.depth" #[]).run Tryd.prog w = .ok (.enter 108 #[v]) w := by kernel_rfl
theorem cmAtt (v : Value) (w : World) : (callMethod (.iface 126 v) "loop.example/s01308/impl.depth" #[]).run Tryd.prog w = .ok (.enter 111 #[v]) w := by kernel_rfl
theorem cmLt (v : Value) (w : World) : (callMethod (.iface 127 v) "loop.example/s01308/impl.depth" #[]).run Tryd.prog w = .ok (.enter 112 #[v]) w := by kernel_rfl
theorem cmOp (v : Value) (w : World) : (callMethod (.iface 82 v) "loop.example/s01308/impl.depth" #[]).run Tryd.prog w = .ok (.enter 109 #[v]) w := by kernel_rfl
section
variable {P : Program} {E : Sym} {w : World} {K : Value → World → Prop} {d : Option Tmp} {ty : TypeId} {pos : String} {aft : Array Edge} {g : Option (Nat × Bool)}
theorem st_max2 {bq : Bool} (hE : EngB bq P E) {ao : Array Operand} {ts : Array TypeId} {a b : Int} (hk : ∀ r : Int, r = max a b → K (.int .i64 r) w) : E.stop ⟨d, .call ⟨.builtin .max, ao, ts⟩, ty, pos, aft, g⟩ [.int .i64 a, .int .i64 b] w K := by
  refine hE.det (v := .int .i64 (max a b)) (fun w1 _ ρ hρ => ?_) (hk _ rfl)
  have h3 := map_of (ao := ao) (ρ := ρ) (l := [.int .i64 a, .int .i64 b]) (by simpa [opnds] using hρ)
  have e : ∀ x y : Int, (if y > x then y else x) = max x y := fun x y => by rw [Int.max_def]; split <;> split <;> omega
  simp [execOp, resolve, invoke, builtin, h3, Builtin.max_, Builtin.max2, e]
end
theorem deps_take {kids : List Tr} {j : Nat} {t : Tr} (h : kids[j]? = some t) : deps (kids.take (j + 1)) = max (deps (kids.take j)) (dep t) := by
  rw [List.take_add_one, h]
  have : ∀ l : List Tr, deps (l ++ [t]) = max (deps l) (dep t) := by
    intro l
    induction l with
    | nil => simp [deps]
    | cons x l ih => rw [List.cons_append, deps, ih, deps]; omega
  exact this _
theorem dep_f : ∀ (n : Nat) (t : Tr) (v : Value) (w : World) (D : Nat → Prop), dep t ≤ n → n ≤ 1000000 → TreeV D w t v → (∀ b, D b → b < w.heap.size) →
    ∃ f l, (∀ w, (callMethod v "loop.example/s01308/impl.depth" #[]).run Tryd.prog w = .ok (.enter f #[l]) w) ∧ FC Tryd.prog f [l] w fun r _ => r = .int .i64 (dep t : Int) := by
  intro n
  induction n with
  | zero => intro t v w D h; cases t <;> simp [dep] at h
  | succ n ih =>
    intro t v w D hn hn2 ht hD
    cases t with
    | con k z tx xs at_ =>
      simp only [TreeV] at ht
      obtain ⟨A, m, c, rfl, _⟩ := ht
      refine ⟨_, _, cmCon _, FC.intro (cs := []) Tryd.func107 (by kernel_rfl) fun E R hE hr hR => ?_⟩
      conv => cbv
      refine st_box hr fun a w1 hx hb0 => ?_
      conv => cbv
      rw [hR]; exact ⟨hx, rfl⟩
    | nam tx at_ =>
      simp only [TreeV] at ht
      obtain ⟨rfl, _⟩ := ht
      refine ⟨_, _, cmNam _, FC.intro (cs := []) Tryd.func108 (by kernel_rfl) fun E R hE hr hR => ?_⟩
      conv => cbv
      refine st_box hr fun a w1 hx hb0 => ?_
      conv => cbv
      rw [hR]; exact ⟨hx, rfl⟩
    | att z =>
      simp only [TreeV] at ht
      obtain rfl := ht
      refine ⟨_, _, cmAtt _, FC.intro (cs := []) Tryd.func111 (by kernel_rfl) fun E R hE hr hR => ?_⟩
      conv => cbv
      refine st_box hr fun a w1 hx hb0 => ?_
      conv => cbv
      rw [hR]; exact ⟨hx, rfl⟩
    | lt z =>
      simp only [TreeV] at ht
      obtain rfl := ht
      refine ⟨_, _, cmLt _, FC.intro (cs := []) Tryd.func112 (by kernel_rfl) fun E R hE hr hR => ?_⟩
      conv => cbv
      refine st_box hr fun a w1 hx hb0 => ?_
      conv => cbv
      rw [hR]; exact ⟨hx, rfl⟩
    | op o kids at_ =>
      simp only [TreeV] at ht
      obtain ⟨A, m, c, vs, rfl, hvl, hmc, hmm, hcl, hin, hts⟩ := ht
      refine ⟨_, _, cmOp _, FC.intro (cs := []) Tryd.func109 (by kernel_rfl) fun E R hE hr hR => ?_⟩
      have hkl := hts.len
      rw [dep] at hn
      obtain ⟨DD, hDD⟩ : ∃ DD : Int, DD = (dep (.op o kids at_) : Int) := ⟨_, rfl⟩
      rw [← hDD] at hR
      rw [dep] at hDD
      conv => cbv
      refine st_box hr fun a w1 hx hb0 => ?_
      have hb := hb0 _ (Nat.le_refl _)
      conv => cbv
      (refine st_fld hE fOp1 fun p hp => ?_; (conv => cbv); refine st_load hE cTrs (by rw [hp]; exact (hb).at _ _ rfl) ?_; clear hp; (conv => cbv))
      refine st_len hE sTrs fun x hx1 => ?_
      conv => cbv
      refine loop_rule hr (fun (s : Nat × Int × Int) w' => s.1 ≤ m ∧ s.2.1 = (s.1 : Int) ∧ Ext w w' ∧ s.2.2 = (deps (kids.take s.1) : Int))
        (fun s => [(3, .int .i64 s.2.2), (7, .slice A m c), (8, .int .i64 x), (9, .int .i64 s.2.1)]) (fun s => m - s.1) (0, 0, 0)
        (by simp [Fits, lk]) ⟨by simp, by simp, hx, by simp [deps]⟩ ?_
      rintro I hI ⟨j, jj, d⟩ w' ⟨hj, hjj, hxw, hd⟩
      simp only at hj hjj hd
      obtain ⟨jk, hjk⟩ : ∃ z, z = jj + 1 := ⟨_, rfl⟩
      have dle : deps (kids.take j) ≤ deps kids := deps_le fun t ht => deps_mem (List.mem_of_mem_take ht)
      conv => cbv
      refine br (fun g => ?_) (fun g => ?_)
      · have g : j < m := by
          have : jj < x := by simpa [hE.cmp, cmpR] using g
          omega
        have ej : E.ar .add .i64 jj 1 = jk := by rw [hE.ar, hjk]; exact wrap_in (by omega) (by omega)
        obtain ⟨u, hu⟩ : ∃ u, vs[j]? = some u := ⟨_, List.getElem?_eq_getElem (by omega)⟩
        obtain ⟨t', ht'⟩ : ∃ t', kids[j]? = some t' := ⟨_, List.getElem?_eq_getElem (by omega)⟩
        have htu := (hts.get j t' u ht' hu).ext hD hxw
        have hdt := deps_mem (List.mem_of_getElem? ht')
        conv => cbv
        refine st_elem hE sTrs (hcl.ext hxw) hvl.symm (by omega) (by omega) fun p v hv hp => ?_
        rw [show jj.toNat = j by omega, hu] at hv
        cases hv
        conv => cbv
        refine st_load hE cTr hp ?_
        obtain ⟨f, l, hcm, hf⟩ := ih t' u w' D (by omega) (by omega) htu (fun b hb => Nat.lt_of_lt_of_le (hD b hb) hxw.size)
        obtain ⟨dt, hdt2⟩ : ∃ dt : Int, dt = (dep t' : Int) := ⟨_, rfl⟩
        rw [← hdt2] at hf
        conv => cbv
        refine st_if hr (args := []) (l := [l]) hcm hf fun r w2 hx2 ev => ?_
        subst ev
        conv => cbv
        refine st_max2 hE fun y hy => ?_
        conv => cbv
        simp only [ej]
        exact ⟨(j + 1, jk, y), by simp [Fits, lk], hI _ _ ⟨by simp only; omega, by simp only; omega, hxw.trans hx2, by simp only; rw [deps_take ht']; omega⟩, by simp only; omega⟩
      · have g : j = m := by
          have : ¬ jj < x := by simpa [hE.cmp, cmpR] using g
          omega
        rw [List.take_of_length_le (by omega)] at hd
        have ed : E.ar .add .i64 d 1 = DD := by rw [hE.ar, show arR .add .i64 d 1 = IntKind.i64.wrap (d + 1) from rfl, wrap_in (by omega) (by omega)]; omega
        conv => cbv
        simp only [ed]
        rw [hR]; exact ⟨hxw, rfl⟩
end Go.Proofs.YtgdnmpcaiaoaoaaDoor
/- The program's leafTree walked. -/
namespace Go.Proofs.YtgdnmpcaiaoaoaaDoor
open Go.Eng
open Go.ChangeMaps (setBlock)
set_option linter.unusedVariables false
set_option linter.unusedSimpArgs false
theorem uOpT : ∃ u, Tryd.prog.underlying 82 = some u ∧ ∀ ms, u ≠ .interface ms := ⟨_, Tryd.underlying82, by simp⟩
theorem uCoT : ∃ u, Tryd.prog.underlying 76 = some u ∧ ∀ ms, u ≠ .interface ms := ⟨_, Tryd.underlying76, by simp⟩
theorem uNaT : ∃ u, Tryd.prog.underlying 79 = some u ∧ ∀ ms, u ≠ .interface ms := ⟨_, Tryd.underlying79, by simp⟩
theorem uAtT : ∃ u, Tryd.prog.underlying 126 = some u ∧ ∀ ms, u ≠ .interface ms := ⟨_, Tryd.underlying126, by simp⟩
theorem uLtT : ∃ u, Tryd.prog.underlying 127 = some u ∧ ∀ ms, u ≠ .interface ms := ⟨_, Tryd.underlying127, by simp⟩
section
variable {E : Sym} {w : World} {K : Value → World → Prop} {d : Option Tmp} {ty : TypeId} {pos : String} {aft : Array Edge} {g : Option (Nat × Bool)} {bq : Bool}
theorem run_bNam (s : ByteArray) (i : Int) (w : World) : (Instr.build 79 #[(0, .string s), (1, .int .i64 i)]).run Tryd.prog w = .ok (.agg #[.string s, .int .i64 i]) w := by kernel_rfl
theorem st_bNam (hE : EngB bq Tryd.prog E) {s : ByteArray} {i : Int} {x y : Operand} (hk : K (.agg ⟨[.string s, .int .i64 i]⟩) w) : E.stop ⟨d, .build 79 ⟨[(0, x), (1, y)]⟩, ty, pos, aft, g⟩ [.string s, .int .i64 i] w K := by
  refine hE.det (v := .agg ⟨[.string s, .int .i64 i]⟩) (fun w1 _ ρ hρ => ?_) hk
  simp only [opnds, List.map_cons, List.map_nil, List.cons.injEq, and_true] at hρ
  have := run_bNam s i w1
  simp [execOp, hρ, this]
theorem run_bAtt (i : Int) (w : World) : (Instr.build 126 #[(0, .int .i64 i)]).run Tryd.prog w = .ok (.agg #[.int .i64 i]) w := by kernel_rfl
theorem st_bAtt (hE : EngB bq Tryd.prog E) {i : Int} {x : Operand} (hk : K (.agg ⟨[.int .i64 i]⟩) w) : E.stop ⟨d, .build 126 ⟨[(0, x)]⟩, ty, pos, aft, g⟩ [.int .i64 i] w K := by
  refine hE.det (v := .agg ⟨[.int .i64 i]⟩) (fun w1 _ ρ hρ => ?_) hk
  simp only [opnds, List.map_cons, List.map_nil, List.cons.injEq, and_true] at hρ
  have := run_bAtt i w1
  simp [execOp, hρ, this]
theorem run_bLt (i : Int) (w : World) : (Instr.build 127 #[(0, .int .i64 i)]).run Tryd.prog w = .ok (.agg #[.int .i64 i]) w := by kernel_rfl
theorem st_bLt (hE : EngB bq Tryd.prog E) {i : Int} {x : Operand} (hk : K (.agg ⟨[.int .i64 i]⟩) w) : E.stop ⟨d, .build 127 ⟨[(0, x)]⟩, ty, pos, aft, g⟩ [.int .i64 i] w K := by
  refine hE.det (v := .agg ⟨[.int .i64 i]⟩) (fun w1 _ ρ hρ => ?_) hk
  simp only [opnds, List.map_cons, List.map_nil, List.cons.injEq, and_true] at hρ
  have := run_bLt i w1
  simp [execOp, hρ, this]
theorem run_bVal (k z : Int) (s : ByteArray) (A : Option Addr) (m c : Nat) (w : World) : (Instr.build 74 #[(0, .int .i64 k), (1, .int .i64 z), (2, .string s), (3, .slice A m c)]).run Tryd.prog w = .ok (.agg #[.int .i64 k, .int .i64 z, .string s, .slice A m c]) w := by kernel_rfl
theorem st_bVal (hE : EngB bq Tryd.prog E) {k z : Int} {s : ByteArray} {A : Option Addr} {m c : Nat} {x y u v : Operand} (hk : K (.agg ⟨[.int .i64 k, .int .i64 z, .string s, .slice A m c]⟩) w) : E.stop ⟨d, .build 74 ⟨[(0, x), (1, y), (2, u), (3, v)]⟩, ty, pos, aft, g⟩ [.int .i64 k, .int .i64 z, .string s, .slice A m c] w K := by
  refine hE.det (v := .agg ⟨[.int .i64 k, .int .i64 z, .string s, .slice A m c]⟩) (fun w1 _ ρ hρ => ?_) hk
  simp only [opnds, List.map_cons, List.map_nil, List.cons.injEq, and_true] at hρ
  have := run_bVal k z s A m c w1
  simp [execOp, hρ, this]
theorem run_bCon (k z i : Int) (s : ByteArray) (A : Option Addr) (m c : Nat) (w : World) : (Instr.build 76 #[(0, .agg ⟨[.int .i64 k, .int .i64 z, .string s, .slice A m c]⟩), (1, .int .i64 i)]).run Tryd.prog w = .ok (.agg #[.int .i64 k, .int .i64 z, .string s, .slice A m c, .int .i64 i]) w := by kernel_rfl
theorem st_bCon (hE : EngB bq Tryd.prog E) {k z i : Int} {s : ByteArray} {A : Option Addr} {m c : Nat} {x y : Operand} (hk : K (.agg ⟨[.int .i64 k, .int .i64 z, .string s, .slice A m c, .int .i64 i]⟩) w) : E.stop ⟨d, .build 76 ⟨[(0, x), (1, y)]⟩, ty, pos, aft, g⟩ [.agg ⟨[.int .i64 k, .int .i64 z, .string s, .slice A m c]⟩, .int .i64 i] w K := by
  refine hE.det (v := .agg ⟨[.int .i64 k, .int .i64 z, .string s, .slice A m c, .int .i64 i]⟩) (fun w1 _ ρ hρ => ?_) hk
  simp only [opnds, List.map_cons, List.map_nil, List.cons.injEq, and_true] at hρ
  have := run_bCon k z i s A m c w1
  simp [execOp, hρ, this]
end
theorem constF_iff (k z : Int) : (k, z) ∈ constF ↔ 1 ≤ z ∧ z ≤ 4 ∧ k = knd z := by
  unfold constF knd
  simp only [List.mem_cons, Prod.mk.injEq, List.not_mem_nil, or_false]
  (repeat' split) <;> omega
theorem leafTree_f {w : World} (hT : Tab w 2 constF) (v : VN) (h : OKN w v) (hop : 1 ≤ v.p.o ∧ v.p.o ≤ 7) {D : Nat → Prop} (hin : InD D v.A0 v.m0) (at_ : Int) :
    FC Tryd.prog 65 [.agg ⟨cN v⟩, .int .i64 at_] w fun r w' => TreeV D w' (leafF v.p at_) r := by
  refine FC.intro (cs := []) Tryd.func65 (by kernel_rfl) fun E R hE hr hR => ?_
  obtain ⟨⟨o, z, tx, xs, ks⟩, A0, m0, c0, A1, m1, c1⟩ := v
  have s_tx := h.s_tx
  have r_xs := h.r_xs
  clear h
  simp only at s_tx r_xs hR hop hin
  obtain ⟨bm, es, clock, t1, t2, t3, t4, t5, t6⟩ := hT.ex
  have hbl : bm < w.heap.size := by
    rcases Nat.lt_or_ge bm w.heap.size with h | h
    · exact h
    · simp [Array.getElem?_eq_none h] at t2
  conv => cbv
  refine st_box hr fun a w0 hx0 hb0 => ?_
  have hb := hb0 _ (Nat.le_refl _)
  conv => cbv
  (refine st_fld hE fINd0 fun p hp => ?_; (conv => cbv); refine st_load hE cInt (by rw [hp]; exact (hb).at _ _ rfl) ?_; clear hp; (conv => cbv))
  refine br (fun g => ?_) (fun g => ?_)
  · have g : o = 5 := by simpa [hE.cmp, cmpR] using g
    conv => cbv
    (refine st_fld hE fINd2 fun p hp => ?_; (conv => cbv); refine st_load hE cStr (by rw [hp]; exact (hb).at _ _ rfl) ?_; clear hp; (conv => cbv))
    refine st_bNam hE ?_
    conv => cbv
    refine st_mk hE uNaT ?_
    conv => cbv
    rw [hR]; exact ⟨hx0, by simp only [leafF]; rw [if_pos g]; simp only [TreeV]; exact ⟨rfl, s_tx⟩⟩
  have g5 : o ≠ 5 := by simpa [hE.cmp, cmpR] using g
  clear g
  conv => cbv
  refine br (fun g => ?_) (fun g => ?_)
  · have g : o = 6 := by simpa [hE.cmp, cmpR] using g
    conv => cbv
    (refine st_fld hE fINd1 fun p hp => ?_; (conv => cbv); refine st_load hE cI64 (by rw [hp]; exact (hb).at _ _ rfl) ?_; clear hp; (conv => cbv))
    refine st_bAtt hE ?_
    conv => cbv
    refine st_mk hE uAtT ?_
    conv => cbv
    rw [hR]; exact ⟨hx0, by simp only [leafF]; rw [if_neg g5, if_pos g]; simp only [TreeV]; rfl⟩
  have g6 : o ≠ 6 := by simpa [hE.cmp, cmpR] using g
  clear g
  conv => cbv
  refine br (fun g => ?_) (fun g => ?_)
  · have g : o = 7 := by simpa [hE.cmp, cmpR] using g
    conv => cbv
    (refine st_fld hE fINd1 fun p hp => ?_; (conv => cbv); refine st_load hE cI64 (by rw [hp]; exact (hb).at _ _ rfl) ?_; clear hp; (conv => cbv))
    refine st_bLt hE ?_
    conv => cbv
    refine st_mk hE uLtT ?_
    conv => cbv
    rw [hR]; exact ⟨hx0, by simp only [leafF]; rw [if_neg g5, if_neg g6, if_pos g]; simp only [TreeV]; rfl⟩
  have g7 : o ≠ 7 := by simpa [hE.cmp, cmpR] using g
  clear g
  conv => cbv
  refine st_load hE cMap (hx0.cell t1) ?_
  conv => cbv
  have t2' := hx0.getMap t2
  obtain ⟨r, hrr⟩ : ∃ r, r = w0.heap.size := ⟨_, rfl⟩
  obtain ⟨wi, hwi⟩ : ∃ wi, wi = w0.alloc (.mapIter (some bm) clock #[] clock) := ⟨_, rfl⟩
  have hxi : Ext w0 wi := by rw [hwi]; exact (Ext.refl w0).alloc (Nat.le_refl _) _
  have hri : wi.heap[r]? = some (.mapIter (some bm) clock #[] clock) := by rw [hwi, hrr]; exact heap_alloc_new _ _
  refine st_run hr (v := .pointer (some ⟨r, 0, none⟩)) (w' := wi) (fun ρ hρ => ?_) ?_
  · simp only [opnds, List.map_cons, List.map_nil, List.cons.injEq, and_true] at hρ
    simp [execOp, hρ, hwi, hrr, run_range_map w0 128 _ _ bm es clock Tryd.underlying128 t2']
  conv => cbv
  refine loop_rule hr (fun (s : Array Nat) w' => Ext w0 w' ∧ w'.heap[r]? = some (.mapIter (some bm) clock s clock) ∧ ∀ e ∈ es.toList, s.contains e.born = true → e.val ≠ .int .i64 o) (fun s => [(1, .int .i64 at_), (2, .pointer (some a)), (29, .pointer (some ⟨r, 0, none⟩))]) (fun s => (leftOf es s).size) #[]
    (by simp [Fits, lk]) ⟨hxi, hri, by simp⟩ ?_
  rintro I hI seen w' ⟨hx, hit, hall⟩
  have hb' := hx.getMap t2'
  conv => cbv
  rcases run_next_at (P := Tryd.prog) w' 0 r bm clock clock seen es clock hit hb' t6 (Nat.le_refl _) with ⟨h0, hrun⟩ | ⟨e, he, w1, hw1, hrun⟩
  · exfalso
    obtain ⟨e, he, h1, h2⟩ := t4 (knd o) o ((constF_iff _ _).2 ⟨hop.1, by omega, rfl⟩)
    exact hall e he (all_seen es seen h0 e he) h2
  · obtain ⟨hem, hes⟩ := mem_left he
    obtain ⟨k, zz, hk, hz, hf⟩ := t3 e hem
    rw [hk, hz] at hrun
    obtain ⟨w2, hw2⟩ : ∃ w2, w2 = setBlock w1 r (.mapIter (some bm) clock (seen.push e.born) clock) := ⟨_, rfl⟩
    rw [← hw2] at hrun
    have hr1 : w1.heap[r]? = some (.mapIter (some bm) clock seen clock) := by rcases hw1 with rfl | rfl <;> exact hit
    have hset := MapKept.heap_set (o' := .mapIter (some bm) clock (seen.push e.born) clock) hr1
    have hs1 : w2.heap[r]? = some (.mapIter (some bm) clock (seen.push e.born) clock) := by rw [hw2]; exact hset.1
    have hrun : ∀ ty, (Instr.next (.pointer (some ⟨r, 0, none⟩)) false ty).run Tryd.prog w' = .ok (.tuple #[.bool true, .int .i64 k, .int .i64 zz]) w2 := fun ty => hrun
    have hx2 : Ext w0 w2 := by
      refine hx.then ?_
      rcases hw1 with rfl | rfl <;> exact ⟨by rw [hw2]; rfl, by rw [hw2]; rfl, by rw [hw2]; rfl, by rw [hw2]; simp [setBlock], fun i hi => by rw [hw2]; exact hset.2 i (by omega)⟩
    refine st_run hr (v := .tuple #[.bool true, .int .i64 k, .int .i64 zz]) (w' := w2) (fun ρ hρ => ?_) ?_
    · simp only [opnds, List.map_cons, List.map_nil, List.cons.injEq, and_true] at hρ
      simp [execOp, hρ, hrun]
    have hen := run_entry_at (P := Tryd.prog) w2 r bm clock seen es clock e hs1 (hx2.getMap t2') hem t5
    rw [hk, hz] at hen
    conv => cbv
    refine st_run hr (v := .tuple #[.int .i64 k, .int .i64 zz]) (w' := w2) (fun ρ hρ => ?_) ?_
    · simp only [opnds, List.map_cons, List.map_nil, List.cons.injEq, and_true] at hρ
      simp [execOp, hρ, hen]
    rw [constF_iff] at hf
    have hb2 := hb.bel hx2
    conv => cbv
    (refine st_fld hE fINd0 fun p hp => ?_; (conv => cbv); refine st_load hE cInt (by rw [hp]; exact (hb2).at _ _ rfl) ?_; clear hp; (conv => cbv))
    refine br (fun g => ?_) (fun g => ?_)
    · have g : zz = o := by simpa [hE.cmp, cmpR] using g
      conv => cbv
      (refine st_fld hE fINd1 fun p hp => ?_; (conv => cbv); refine st_load hE cI64 (by rw [hp]; exact (hb2).at _ _ rfl) ?_; clear hp; (conv => cbv))
      (refine st_fld hE fINd2 fun p hp => ?_; (conv => cbv); refine st_load hE cStr (by rw [hp]; exact (hb2).at _ _ rfl) ?_; clear hp; (conv => cbv))
      (refine st_fld hE fINd3 fun p hp => ?_; (conv => cbv); refine st_load hE cStrs (by rw [hp]; exact (hb2).at _ _ rfl) ?_; clear hp; (conv => cbv))
      refine st_bVal hE ?_
      conv => cbv
      refine st_bCon hE ?_
      conv => cbv
      refine st_mk hE uCoT ?_
      conv => cbv
      rw [hR]; refine ⟨hx0.trans hx2, ?_⟩
      simp only [leafF]
      rw [if_neg g5, if_neg g6, if_neg g7]
      simp only [TreeV]
      exact ⟨A0, m0, c0, by rw [hf.2.2, g]; rfl, r_xs.ext (hx0.trans hx2), hin, s_tx⟩
    · have g : zz ≠ o := by simpa [hE.cmp, cmpR] using g
      conv => cbv
      refine ⟨seen.push e.born, by simp [Fits, lk], hI _ _ ⟨hx2, hs1, fun e' he' hs => ?_⟩, left_shrinks es seen e he⟩
      rw [contains_push] at hs
      rcases Bool.or_eq_true _ _ ▸ hs with hs | hs
      · exact hall e' he' hs
      · rw [born_inj t5 he' hem (by simpa using hs), hz]
        intro q; cases q; exact g rfl
end Go.Proofs.YtgdnmpcaiaoaoaaDoor
/- The program's walk.tree walked. -/
namespace Go.Proofs.YtgdnmpcaiaoaoaaDoor
open Go.Eng
set_option linter.unusedVariables false
set_option linter.unusedSimpArgs false
theorem tPl : Stc Tryd.prog 114 2 [.nilIface, .int .i64 0] := ⟨by kernel_rfl, by kernel_rfl⟩
theorem sPl : Slc Tryd.prog 111 114 (.agg ⟨[.nilIface, .int .i64 0]⟩) 2 24 := ⟨Tryd.underlying111, by kernel_rfl⟩
theorem fPl0 : Fld Tryd.prog 114 0 0 := ⟨by kernel_rfl⟩
theorem fPl1 : Fld Tryd.prog 114 1 1 := ⟨by kernel_rfl⟩
theorem fWk0 : Fld Tryd.prog 98 0 0 := ⟨by kernel_rfl⟩
theorem fWk1 : Fld Tryd.prog 98 1 1 := ⟨by kernel_rfl⟩
theorem fWk2 : Fld Tryd.prog 98 2 2 := ⟨by kernel_rfl⟩
theorem cFn : Cel Tryd.prog 71 := ⟨_, Tryd.underlying71, by simp, by simp⟩
section
variable {E : Sym} {w : World} {K : Value → World → Prop} {d : Option Tmp} {ty : TypeId} {pos : String} {aft : Array Edge} {g : Option (Nat × Bool)} {bq : Bool}
theorem run_bPl (t : TypeId) (u : Value) (i : Int) (w : World) : (Instr.build 114 #[(0, .iface t u), (1, .int .i64 i)]).run Tryd.prog w = .ok (.agg #[.iface t u, .int .i64 i]) w := by kernel_rfl
theorem st_bPl (hE : EngB bq Tryd.prog E) {t : TypeId} {u : Value} {i : Int} {x y : Operand} (hk : K (.agg ⟨[.iface t u, .int .i64 i]⟩) w) : E.stop ⟨d, .build 114 ⟨[(0, x), (1, y)]⟩, ty, pos, aft, g⟩ [.iface t u, .int .i64 i] w K := by
  refine hE.det (v := .agg ⟨[.iface t u, .int .i64 i]⟩) (fun w1 _ ρ hρ => ?_) hk
  simp only [opnds, List.map_cons, List.map_nil, List.cons.injEq, and_true] at hρ
  have := run_bPl t u i w1
  simp [execOp, hρ, this]
theorem run_bOp (o i : Int) (w : World) : (Instr.build 82 #[(0, .int .i64 o), (2, .int .i64 i)]).run Tryd.prog w = .ok (.agg #[.int .i64 o, .slice none 0 0, .int .i64 i]) w := by kernel_rfl
theorem st_bOp (hE : EngB bq Tryd.prog E) {o i : Int} {x y : Operand} (hk : K (.agg ⟨[.int .i64 o, .slice none 0 0, .int .i64 i]⟩) w) : E.stop ⟨d, .build 82 ⟨[(0, x), (2, y)]⟩, ty, pos, aft, g⟩ [.int .i64 o, .int .i64 i] w K := by
  refine hE.det (v := .agg ⟨[.int .i64 o, .slice none 0 0, .int .i64 i]⟩) (fun w1 _ ρ hρ => ?_) hk
  simp only [opnds, List.map_cons, List.map_nil, List.cons.injEq, and_true] at hρ
  have := run_bOp o i w1
  simp [execOp, hρ, this]
end
/-! ### The stack -/
structure SE where
  t : Tr
  pl : Int
  ty : TypeId
  u : Value
def fE (e : SE) : List Value := [.iface e.ty e.u, .int .i64 e.pl]
theorem fE_len (e : SE) : (fE e).length = 2 := rfl
def stOf (es : List SE) : List (Tr × Int) := es.map fun e => (e.t, e.pl)
/-- Blocks in which trees may lie: what there was at first, and what has come since, but not the stack. -/
def Foot (w0s ws : Nat) (w : World) (A : Option Addr) (b : Nat) : Prop := b < w0s ∨ (ws ≤ b ∧ b < w.heap.size ∧ blk A ≠ some b)
def SOK (w0s ws : Nat) (w : World) (A : Option Addr) (es : List SE) : Prop := ∀ e ∈ es, TreeV (Foot w0s ws w A) w e.t (.iface e.ty e.u) ∧ dep e.t ≤ 64
theorem foot_lt {w0s ws : Nat} {w : World} {A : Option Addr} (h : w0s ≤ w.heap.size) {b : Nat} (hb : Foot w0s ws w A b) : b < w.heap.size := by
  rcases hb with hb | hb
  · omega
  · exact hb.2.1
theorem foot_ext {w0s ws : Nat} {w w' : World} {A : Option Addr} (hx : w.heap.size ≤ w'.heap.size) {b : Nat} (hb : Foot w0s ws w A b) : Foot w0s ws w' A b := by
  rcases hb with hb | ⟨h1, h2, h3⟩
  · exact .inl hb
  · exact .inr ⟨h1, by omega, h3⟩
theorem tree_ext {w0s ws : Nat} {w w' : World} {A : Option Addr} (h0 : w0s ≤ w.heap.size) (hx : Ext w w') {t : Tr} {v : Value} (h : TreeV (Foot w0s ws w A) w t v) : TreeV (Foot w0s ws w' A) w' t v :=
  h.keep (fun b hb => hx.block b (foot_lt h0 hb)) (fun b hb => foot_ext hx.size hb)
theorem SOK.ext {w0s ws : Nat} {w w' : World} {A : Option Addr} {es : List SE} (h : SOK w0s ws w A es) (h0 : w0s ≤ w.heap.size) (hx : Ext w w') : SOK w0s ws w' A es := fun e he => ⟨tree_ext h0 hx (h e he).1, (h e he).2⟩
theorem tree_wr {w0s ws : Nat} {w w' : World} {A : Option Addr} {a : Addr} (h0 : w0s ≤ w.heap.size) (ha : w0s ≤ a.block ∧ a.block < ws) (ha0 : blk (some a) = some a.block) (hw : Wr (some a) w w') {t : Tr} {v : Value} (h : TreeV (Foot w0s ws w A) w t v) : TreeV (Foot w0s ws w' A) w' t v :=
  h.keep (fun b hb => hw.block b (foot_lt h0 hb) (by
    intro e
    rw [ha0] at e
    cases e
    rcases hb with hb | hb <;> omega)) (fun b hb => foot_ext hw.size hb)
theorem SOK.wr {w0s ws : Nat} {w w' : World} {A : Option Addr} {a : Addr} {es : List SE} (h : SOK w0s ws w A es) (h0 : w0s ≤ w.heap.size) (ha : w0s ≤ a.block ∧ a.block < ws) (ha0 : blk (some a) = some a.block) (hw : Wr (some a) w w') : SOK w0s ws w' A es := fun e he => ⟨tree_wr h0 ha ha0 hw (h e he).1, (h e he).2⟩
theorem tree_gro {w0s ws : Nat} {w w' : World} {A A' : Option Addr} (h0 : w0s ≤ w.heap.size) (hA : A = none ∨ ∃ g, blk A = some g ∧ w0s ≤ g) (hg : Gro w A w' A') {t : Tr} {v : Value} (h : TreeV (Foot w0s ws w A) w t v) : TreeV (Foot w0s ws w' A') w' t v :=
  h.keep (fun b hb => hg.wr.block b (foot_lt h0 hb) (by
    intro e
    rcases hb with hb | hb
    · rcases hA with rfl | ⟨g, e2, hg2⟩
      · simp [Eng.blk, Value.ownBlock] at e
      · rw [e2] at e; cases e; omega
    · exact hb.2.2 e.symm)) (fun b hb => by
    rcases hb with hb | ⟨h1, h2, h3⟩
    · exact .inl hb
    · refine .inr ⟨h1, Nat.lt_of_lt_of_le h2 hg.wr.size, ?_⟩
      rcases hg.at_ with e | ⟨g, e, hg2⟩
      · rw [e]; exact h3
      · rw [e]; intro q; cases q; omega)
theorem SOK.gro {w0s ws : Nat} {w w' : World} {A A' : Option Addr} {es : List SE} (h : SOK w0s ws w A es) (h0 : w0s ≤ w.heap.size) (hA : A = none ∨ ∃ g, blk A = some g ∧ w0s ≤ g) (hg : Gro w A w' A') : SOK w0s ws w' A' es := fun e he => ⟨tree_gro h0 hA hg (h e he).1, (h e he).2⟩
/-- What the walk's function 'leaf' does. -/
def LeafC (w : World) (a : Addr) (f : FuncId) (fst cap : Array Value) (leafP : PN → Prop) : Prop :=
  ∀ w', Wr (some a) w w' → ∀ v : VN, OKN w' v → FC Tryd.prog f (fst.toList ++ [.agg ⟨cN v⟩] ++ cap.toList) w' fun r _ => ∃ b : Bool, r = .bool b ∧ (b = true ↔ leafP v.p)
theorem TreeV.form {D : Nat → Prop} {w : World} {t : Tr} {v : Value} (h : TreeV D w t v) : ∃ ty u, v = .iface ty u := by
  cases t <;> simp only [TreeV] at h
  · obtain ⟨A, m, c, rfl, _⟩ := h; exact ⟨_, _, rfl⟩
  · rw [h.1]; exact ⟨_, _, rfl⟩
  · rw [h]; exact ⟨_, _, rfl⟩
  · rw [h]; exact ⟨_, _, rfl⟩
  · obtain ⟨A, m, c, vs, rfl, _⟩ := h; exact ⟨_, _, rfl⟩
theorem own_low {B : Nat} {e : TypeId} {k : Nat} {w : World} {A : Option Addr} {m c : Nat} {xs : List Value} {a : Addr} (h : Own B e k w A m c xs) (ha : a.block < B) (ha0 : blk (some a) = some a.block) : Apart A (some a) ∧ Apart (some a) A := by
  obtain rfl | ⟨g, rfl, hg, _⟩ := h.blk
  · exact ⟨.inl rfl, .inr (by rw [ha0]; simp [Eng.blk, Value.ownBlock])⟩
  · have e1 : blk (some (⟨g, 0, none⟩ : Addr)) = some g := rfl
    exact ⟨.inr (by rw [ha0, e1]; intro q; cases q; omega), .inr (by rw [ha0, e1]; intro q; cases q; omega)⟩
theorem own_row {B B' : Nat} {e : TypeId} {k : Nat} {w : World} {A : Option Addr} {m c : Nat} {xs : List Value} (h : Own B e k w A m c xs) (hB : B' ≤ B) : A = none ∨ ∃ g, blk A = some g ∧ B' ≤ g := by
  obtain rfl | ⟨g, rfl, hg, _⟩ := h.blk
  · exact .inl rfl
  · exact .inr ⟨g, rfl, by omega⟩
theorem strs_low {w : World} {A : Option Addr} {m c : Nat} {xs : List ByteArray} (h : Strs w A m c xs) {D : Nat → Prop} (hD : ∀ b, b < w.heap.size → D b) : InD D A m := fun a ha hm => by
  have hl := h.len
  obtain ⟨a', e, hc⟩ := h.cells.at (i := 0) (by simp; omega)
  rw [ha] at e
  cases e
  have := World.block_lt_of_cell? w _ hc
  rw [add_block] at this
  exact hD _ this
set_option maxHeartbeats 8000000 in
theorem tree_g {w0 w : World} (hT : Tab w0 2 constF) {AN : Option Addr} {N cN' : Nat} {nv : List PN} (hN : RNs w0 AN N nv) (hNb : N ≤ 4000) {a : Addr} {f : FuncId} {fst cap : Array Value} {i0 : Nat} {ii0 : Int} (hii0 : ii0 = (i0 : Int)) (hi0 : i0 ≤ N)
    (hb : Box w0.heap.size 98 3 w a [.slice AN N cN', .int .i64 ii0, .func (.func f) fst cap]) (hx : Ext w0 w) {leafP : PN → Prop} (hleaf : LeafC w a f fst cap leafP) (top : Int) :
    GC Tryd.prog 47 [.pointer (some a), .int .i64 top] w fun r w' => ∃ (v : Value) (b : Bool), r = .tuple ⟨[v, .bool b]⟩ ∧ v.oneCell' = true ∧ Wr (some a) w w' ∧ (b = false → treeM nv leafP i0 top = none) ∧
      (b = true → ∃ t ty u, v = .iface ty u ∧ treeM nv leafP i0 top = some t ∧ TreeV (fun b => b < w0.heap.size ∨ (w.heap.size ≤ b ∧ b < w'.heap.size)) w' t v ∧ Box w0.heap.size 98 3 w' a [.slice AN N cN', .int .i64 (top + 1), .func (.func f) fst cap]) := by
  refine GC.intro (cs := []) Tryd.func47 (by kernel_rfl) fun E R hE hr hR => ?_
  have hNl := hN.len
  obtain ⟨TM, hTM0⟩ : ∃ TM, TM = treeM nv leafP i0 top := ⟨_, rfl⟩
  rw [← hTM0] at hR
  have hTM := hTM0
  unfold treeM at hTM
  obtain ⟨ga, hga, hga1, hga2⟩ := hb.form
  have hab : a.block = ga := by rw [hga]
  have ha0 : blk (some a) = some a.block := by rw [hga]; rfl
  have har : w0.heap.size ≤ a.block ∧ a.block < w.heap.size := by omega
  have h0s := hx.size
  have bad : TM = none → ∀ w2, Wr (some a) w w2 → R (.tuple ⟨[.nilIface, .bool false]⟩) w2 := fun h w2 h2 => by
    rw [hR]; exact ⟨.nilIface, false, rfl, rfl, h2, fun _ => h, fun q => by cases q⟩
  conv => cbv
  (refine st_nil hE ?_; (conv => cbv); refine st_fld hE fWk1 fun p hp => ?_; (conv => cbv); refine st_load hE cInt (by rw [hp]; exact (hb).at _ _ rfl) ?_; clear hp; (conv => cbv))
  refine br (fun g => ?_) (fun g => ?_)
  · have g : top < ii0 := by simpa [hE.cmp, cmpR] using g
    rw [if_pos (.inl (by omega))] at hTM
    conv => cbv
    exact bad hTM _ (Wr.refl _ _)
  have g : ¬ top < ii0 := by simpa [hE.cmp, cmpR] using g
  conv => cbv
  (refine st_nil hE ?_; (conv => cbv); refine st_fld hE fWk0 fun p hp => ?_; (conv => cbv); refine st_load hE cINs (by rw [hp]; exact (hb).at _ _ rfl) ?_; clear hp; (conv => cbv))
  refine st_len hE sINd fun x1 hx1 => ?_
  conv => cbv
  refine br (fun g1 => ?_) (fun g1 => ?_)
  · have g1 : x1 ≤ top := by simpa [hE.cmp, cmpR] using g1
    rw [if_pos (.inr (by omega))] at hTM
    conv => cbv
    exact bad hTM _ (Wr.refl _ _)
  have g1 : ¬ x1 ≤ top := by simpa [hE.cmp, cmpR] using g1
  rw [if_neg (by omega)] at hTM
  obtain ⟨tn, htn⟩ : ∃ tn : Nat, top = tn := ⟨top.toNat, by omega⟩
  rw [show top.toNat = tn by omega] at hTM
  obtain ⟨V, hV0⟩ : ∃ V, V = runM leafP (seg nv i0 (tn + 1)) i0 [] := ⟨_, rfl⟩
  rw [← hV0] at hTM
  conv => cbv
  refine st_none hr sPl fun A1 w1 hx1' h10 => ?_
  have h1 := h10 w.heap.size (Nat.le_refl _)
  conv => cbv
  refine loop_rulec [28] hr (fun (s : Nat × Int × Option Addr × Nat × Nat × List SE) w' => i0 ≤ s.1 ∧ s.1 ≤ tn + 1 ∧ s.2.1 = (s.1 : Int) ∧ Wr (some a) w w' ∧ Box w0.heap.size 98 3 w' a [.slice AN N cN', .int .i64 s.2.1, .func (.func f) fst cap] ∧
      Own w.heap.size 114 2 w' s.2.2.1 s.2.2.2.1 s.2.2.2.2.1 (s.2.2.2.2.2.flatMap fE) ∧ SOK w0.heap.size w.heap.size w' s.2.2.1 s.2.2.2.2.2 ∧ runM leafP (seg nv s.1 (tn + 1)) s.1 (stOf s.2.2.2.2.2) = V ∧ s.2.2.2.1 ≤ s.1)
    (fun s => [(0, .pointer (some a)), (1, .int .i64 top), (6, .slice s.2.2.1 s.2.2.2.1 s.2.2.2.2.1)]) (fun s => tn + 1 - s.1) (i0, ii0, A1, 0, 0, [])
    (by simp [Fits, lk]) ⟨Nat.le_refl _, by simp only; omega, hii0, hx1'.wr _, hb.bel hx1', by simpa using h1, (fun e he => by cases he), hV0.symm, by simp⟩ ?_
  clear hb h1 h10 hV0
  rintro I hI ⟨i, ii, A, m, c, es⟩ w' ⟨hi1, hi2, hii, hwr, hb, ho, hso, hV, hmi⟩
  simp only at hi1 hi2 hii hb ho hso hV hmi
  obtain ⟨ij, hij⟩ : ∃ z, z = ii + 1 := ⟨_, rfl⟩
  have hol := ho.len
  rw [fl_len fE_len] at hol
  have hx' : Ext w0 w' := hx.then (hwr.bel (show Own w0.heap.size _ _ w' (some a) 1 1 _ from hb) hx.size)
  have h0s' := hx'.size
  have hws' := hwr.size
  conv => cbv
  (refine st_nil hE ?_; (conv => cbv); refine st_fld hE fWk1 fun p hp => ?_; (conv => cbv); refine st_load hE cInt (by rw [hp]; exact (hb).at _ _ rfl) ?_; clear hp; (conv => cbv))
  refine br (fun g2 => ?_) (fun g2 => ?_)
  · have g2 : i ≤ tn := by
      have : ii ≤ top := by simpa [hE.cmp, cmpR] using g2
      omega
    have ei : E.ar .add .i64 ii 1 = ij := by rw [hE.ar, hij]; exact wrap_in (by omega) (by omega)
    obtain ⟨ad, v, hA, hg, hc, hok⟩ := hN.get (i := i) (by omega)
    obtain ⟨⟨o, z, tx, xs, ks⟩, A0, m0, c0, A2, m2, c2⟩ := v
    simp only at hg
    rw [seg_cat (b := i + 1) (by omega) (by omega), seg_one hg, List.cons_append, List.nil_append, runM] at hV
    have r_ks := hok.r_ks
    simp only at r_ks
    have hkl := r_ks.len
    obtain ⟨SM, hSM0⟩ : ∃ SM, SM = stepM leafP ⟨o, z, tx, xs, ks⟩ i (stOf es) := ⟨_, rfl⟩
    rw [← hSM0] at hV
    have hSM := hSM0
    unfold stepM at hSM
    have hstl : (stOf es).length = m := by unfold stOf; simp; omega
    simp only [hstl] at hSM
    have bad2 : SM = none → ∀ w2, Wr (some a) w w2 → R (.tuple ⟨[.nilIface, .bool false]⟩) w2 := fun h => by
      rw [h] at hV
      simp only at hV
      rw [← hV] at hTM
      exact bad hTM
    conv => cbv
    refine draw_h [0, 1, 2, 3, 4, 5, 6, 7, 8, 9] [(10, false), (11, false)] hr fol (by kernel_rfl) fun E' hE' w2 hs2 S hS => ?_
    replace hb := hb.bel hs2.ext
    replace ho := ho.bel hs2.ext
    replace hso := hso.ext h0s' hs2.ext
    replace hx' := hx'.trans hs2.ext
    replace hwr := hwr.trans (hs2.ext.wr _)
    conv => cbv
    (refine st_nil hE' ?_; (conv => cbv); refine st_fld hE' fWk0 fun p hp => ?_; (conv => cbv); refine st_load hE' cINs (by rw [hp]; exact (hb).at _ _ rfl) ?_; clear hp; (conv => cbv))
    (refine st_nil hE' ?_; (conv => cbv); refine st_fld hE' fWk1 fun p hp => ?_; (conv => cbv); refine st_load hE' cInt (by rw [hp]; exact (hb).at _ _ rfl) ?_; clear hp; (conv => cbv))
    refine st_idx hE' sINd hA (by omega) (by omega) fun q hq => ?_
    rw [show ii.toNat = i by omega] at hq
    conv => cbv
    refine st_loadS hE' tINd (vs := [.int .i64 o, .int .i64 z, .string tx, .slice A0 m0 c0, .slice A2 m2 c2]) rfl (fun j u hu => by rw [hq]; exact hx'.cell (hc j u hu)) ?_
    conv => cbv
    refine st_alloc hr tINd rfl fun q7 w3 hx3 hq0 => ?_
    refine ⟨hS _ hx3, ?_⟩
    conv => cbv
    refine st_putS hr (by kernel_rfl) (hq0 _ (Nat.le_refl _)) (add_zero _).symm (by simp) (by simp [Value.oneCell']) fun w4 hw4 hq7 => ?_
    simp only [List.take_zero, List.nil_append, List.length_cons, List.length_nil, List.drop_succ_cons, List.drop_nil, List.append_nil] at hq7
    have hxy := hx3.then (hw4.bel (hq0 _ (Nat.le_refl _)) hx3.size)
    refine ⟨hS _ hxy, ?_⟩
    have h0s2 := hx'.size
    replace hb := hb.bel hxy
    replace ho := ho.bel hxy
    replace hso := hso.ext h0s2 hxy
    replace hx' := hx'.trans hxy
    replace hwr := hwr.trans (hxy.wr _)
    clear hq0 hw4 hx3 hq hc hxy hs2 hS h0s2
    conv => cbv
    (refine st_fld hE fINd0 fun p hp => ?_; (conv => cbv); refine st_load hE cInt (by rw [hp]; exact (hq7).at _ _ rfl) ?_; clear hp; (conv => cbv))
    refine st_f hr (kidsOf_f o) fun r w5 hx5 ev => ?_
    subst ev
    obtain ⟨kf, hkf⟩ : ∃ kf, kf = kidsF o := ⟨_, rfl⟩
    have hkf3 := kidsF_le o
    rw [← hkf]
    rw [← hkf] at hSM
    have h0s3 := hx'.size
    replace hb := hb.bel hx5
    replace ho := ho.bel hx5
    replace hso := hso.ext h0s3 hx5
    replace hq7 := hq7.bel hx5
    replace hx' := hx'.trans hx5
    replace hwr := hwr.trans (hx5.wr _)
    clear hx5 h0s3
    conv => cbv
    refine br (fun g3 => ?_) (fun g3 => ?_)
    · have g3 : kf < 0 := by simpa [hE.cmp, cmpR] using g3
      rw [if_pos (.inl g3)] at hSM
      conv => cbv
      exact bad2 hSM _ hwr
    have g3 : ¬ kf < 0 := by simpa [hE.cmp, cmpR] using g3
    conv => cbv
    (refine st_fld hE fINd4 fun p hp => ?_; (conv => cbv); refine st_load hE cInts (by rw [hp]; exact (hq7).at _ _ rfl) ?_; clear hp; (conv => cbv))
    refine st_len hE tInts fun x3 hx3 => ?_
    conv => cbv
    refine br (fun g4 => ?_) (fun g4 => ?_)
    · have g4 : x3 ≠ kf := by simpa [hE.cmp, cmpR] using g4
      rw [if_pos (.inr (.inl (by omega)))] at hSM
      conv => cbv
      exact bad2 hSM _ hwr
    have g4 : x3 = kf := by simpa [hE.cmp, cmpR] using g4
    conv => cbv
    refine st_len hE sPl fun x4 hx4 => ?_
    conv => cbv
    refine br (fun g5 => ?_) (fun g5 => ?_)
    · have g5 : x4 < kf := by simpa [hE.cmp, cmpR] using g5
      rw [if_pos (.inr (.inr (by omega)))] at hSM
      conv => cbv
      exact bad2 hSM _ hwr
    have g5 : ¬ x4 < kf := by simpa [hE.cmp, cmpR] using g5
    rw [if_neg (by omega)] at hSM
    rw [← hii] at hSM
    conv => cbv
    refine cut_rule [] [] hr (fun (s : Tr × TypeId × Value) w9 => Wr (some a) w w9 ∧ Ext w0 w9 ∧ Box w0.heap.size 98 3 w9 a [.slice AN N cN', .int .i64 ii, .func (.func f) fst cap] ∧ Own w.heap.size 114 2 w9 A m c (es.flatMap fE) ∧ SOK w0.heap.size w.heap.size w9 A es ∧
        TreeV (Foot w0.heap.size w.heap.size w9 A) w9 s.1 (.iface s.2.1 s.2.2) ∧ dep s.1 ≤ 64 ∧ SM = some ((stOf es).take (m - ks.length) ++ [(s.1, ii)]))
      (fun s => [(0, .pointer (some a)), (1, .int .i64 top), (6, .slice A m c), (8, .int .i64 kf), (9, .iface s.2.1 s.2.2)]) (fun J hJ => ?_) ?_
    · conv => cbv
      refine br (fun g6 => ?_) (fun g6 => ?_)
      · have g6 : kf = 0 := by simpa [hE.cmp, cmpR] using g6
        rw [if_pos g6] at hSM
        have hop : 1 ≤ o ∧ o ≤ 7 := by rw [hkf] at g6; unfold kidsF at g6; (repeat' split at g6) <;> omega
        conv => cbv
        refine draw_h [0, 1, 2, 3, 4] [(5, false), (6, true)] hr fol (by kernel_rfl) fun E' hE' w6 hs6 S hS => ?_
        conv => cbv
        (refine st_nil hE' ?_; (conv => cbv); refine st_fld hE' fWk2 fun p hp => ?_; (conv => cbv); refine st_load hE' cFn (by rw [hp]; exact ((hb.bel hs6.ext)).at _ _ rfl) ?_; clear hp; (conv => cbv))
        refine st_loadS hE' tINd rfl (hq7.bel hs6.ext).at ?_
        conv => cbv
        refine st_f hr (hleaf w6 (hwr.trans (hs6.ext.wr _)) ⟨⟨o, z, tx, xs, ks⟩, A0, m0, c0, A2, m2, c2⟩ (hok.ext (hx'.trans hs6.ext))) fun r w7 hx7 ⟨b, ev, hbl⟩ => ?_
        subst ev
        refine ⟨hS _ hx7, ?_⟩
        have hxz := hs6.ext.trans hx7
        have h0s3 := hx'.size
        replace hb := hb.bel hxz
        replace ho := ho.bel hxz
        replace hso := hso.ext h0s3 hxz
        replace hq7 := hq7.bel hxz
        replace hx' := hx'.trans hxz
        replace hwr := hwr.trans (hxz.wr _)
        clear hxz hx7 hs6 hS h0s3
        conv => cbv
        cases b with
        | false =>
          rw [if_neg (fun q => absurd (hbl.2 q) (by simp))] at hSM
          conv => cbv
          exact bad2 hSM _ hwr
        | true =>
          rw [if_pos (hbl.1 rfl)] at hSM
          conv => cbv
          refine draw_h [0, 1, 2, 3, 4] [(5, false), (6, true)] hr fol (by kernel_rfl) fun E' hE' w6 hs6 S hS => ?_
          conv => cbv
          refine st_loadS hE' tINd rfl (hq7.bel hs6.ext).at ?_
          conv => cbv
          (refine st_nil hE' ?_; (conv => cbv); refine st_fld hE' fWk1 fun p hp => ?_; (conv => cbv); refine st_load hE' cInt (by rw [hp]; exact ((hb.bel hs6.ext)).at _ _ rfl) ?_; clear hp; (conv => cbv))
          have hx6 := hx'.trans hs6.ext
          refine st_f hr (leafTree_f (D := Foot w0.heap.size w.heap.size w6 A) (hT.ext hx6) ⟨⟨o, z, tx, xs, ks⟩, A0, m0, c0, A2, m2, c2⟩ (hok.ext hx6) hop (strs_low hok.r_xs fun b hb => .inl hb) ii) fun r w7 hx7 ht => ?_
          obtain ⟨ty9, u9, rfl⟩ := ht.form
          refine ⟨hS _ hx7, ?_⟩
          have hxz := hs6.ext.trans hx7
          have h0s3 := hx'.size
          have ht2 : TreeV (Foot w0.heap.size w.heap.size w7 A) w7 (leafF ⟨o, z, tx, xs, ks⟩ ii) (.iface ty9 u9) := ht.keep (fun b _ => rfl) (fun b hb => foot_ext hx7.size hb)
          conv => cbv
          refine ⟨(leafF ⟨o, z, tx, xs, ks⟩ ii, ty9, u9), by simp [Fits, lk], hJ _ _ ⟨hwr.trans (hxz.wr _), hx'.trans hxz, hb.bel hxz, ho.bel hxz, hso.ext h0s3 hxz, ht2, by simp only; rw [dep_leaf]; omega, ?_⟩⟩
          simp only
          rw [hSM, List.take_of_length_le (by rw [hstl]; omega)]
      · have g6 : kf ≠ 0 := by simpa [hE.cmp, cmpR] using g6
        rw [if_neg g6] at hSM
        obtain ⟨lo, hlo⟩ : ∃ lo, lo = m - ks.length := ⟨_, rfl⟩
        obtain ⟨kn, hkn⟩ : ∃ kn, kn = m - lo := ⟨_, rfl⟩
        have hkn2 : kn = ks.length := by omega
        have hd1 : ((stOf es).drop (m - ks.length)).map (·.2) = (es.drop lo).map (·.pl) := by rw [← hlo]; unfold stOf; rw [← List.map_drop, List.map_map]; rfl
        have hd2 : ((stOf es).drop (m - ks.length)).map (·.1) = (es.drop lo).map (·.t) := by rw [← hlo]; unfold stOf; rw [← List.map_drop, List.map_map]; rfl
        rw [hd1, hd2] at hSM
        have hdl : (es.drop lo).length = kn := by rw [List.length_drop]; omega
        conv => cbv
        refine draw_h [0, 1, 2, 3, 4, 5, 6] [(7, false), (8, false)] hr fol (by kernel_rfl) fun E' hE' w6 hs6 S hS => ?_
        have h0s3 := hx'.size
        replace hb := hb.bel hs6.ext
        replace ho := ho.bel hs6.ext
        replace hso := hso.ext h0s3 hs6.ext
        replace hq7 := hq7.bel hs6.ext
        replace hx' := hx'.trans hs6.ext
        replace hwr := hwr.trans (hs6.ext.wr _)
        conv => cbv
        (refine st_fld hE' fINd0 fun p hp => ?_; (conv => cbv); refine st_load hE' cInt (by rw [hp]; exact (hq7).at _ _ rfl) ?_; clear hp; (conv => cbv))
        (refine st_nil hE' ?_; (conv => cbv); refine st_fld hE' fWk1 fun p hp => ?_; (conv => cbv); refine st_load hE' cInt (by rw [hp]; exact (hb).at _ _ rfl) ?_; clear hp; (conv => cbv))
        refine st_bOp hE' ?_
        conv => cbv
        refine st_alloc hr tOp rfl fun q10 w7 hx7 hq0 => ?_
        refine ⟨hS _ hx7, ?_⟩
        conv => cbv
        refine st_putS hr (by kernel_rfl) (hq0 _ (Nat.le_refl _)) (add_zero _).symm (by simp) (by simp [Value.oneCell']) fun w8 hw8 hq10 => ?_
        simp only [List.take_zero, List.nil_append, List.length_cons, List.length_nil, List.drop_succ_cons, List.drop_nil, List.append_nil] at hq10
        have hy := hx7.then (hw8.bel (hq0 _ (Nat.le_refl _)) hx7.size)
        refine ⟨hS _ hy, ?_⟩
        clear hq0 hw8 hx7 hs6 hS h0s3
        conv => cbv
        refine st_loadS hE tINd rfl (hq7.bel hy).at ?_
        conv => cbv
        refine st_f hr (bare_f (w := w8) (o := o) (z := z) (tx := tx) hok.r_xs.len false false false) fun r w9 hx9 ⟨b, ev, hbb⟩ => ?_
        subst ev
        replace hq10 := hq10.bel hx9
        replace hy := hy.trans hx9
        clear hx9
        simp only [Bool.false_eq_true, false_or] at hbb
        cases b with
        | false =>
          rw [if_pos (fun q => absurd (hbb.2 q) (by simp))] at hSM
          conv => cbv
          exact bad2 hSM _ (hwr.trans (hy.wr _))
        | true =>
        rw [if_neg (fun q => q (hbb.1 rfl))] at hSM
        conv => cbv
        refine st_len hE sPl fun x5 hx5 => ?_
        obtain ⟨lz, hlz⟩ : ∃ lz : Int, lz = lo := ⟨_, rfl⟩
        have el : E.ar .sub .i64 x5 kf = lz := by rw [hE.ar, show arR .sub .i64 x5 kf = IntKind.i64.wrap (x5 - kf) from rfl, wrap_in (by omega) (by omega)]; omega
        conv => cbv
        simp only [el]
        refine st_from hE sPl ho.cells (by rw [fl_len fE_len]; omega) ho.cap hlz (by omega) fun A6 c6 hc6 hm6 => ?_
        rw [fl_drop fE_len] at hc6
        rw [← hkn] at hm6 ⊢
        conv => cbv
        refine st_len hE sPl fun x6 hx6 => ?_
        conv => cbv
        refine loop_rule hr (fun (s : Nat × Int × Option Addr × Nat) wz => s.1 ≤ kn ∧ s.2.1 = (s.1 : Int) ∧ Ext w6 wz ∧ Own w6.heap.size 82 3 wz (some q10) 1 1 [.int .i64 o, .slice s.2.2.1 s.1 s.2.2.2, .int .i64 ii] ∧
            Own w6.heap.size 47 1 wz s.2.2.1 s.1 s.2.2.2 (((es.drop lo).take s.1).map fun e => Value.iface e.ty e.u) ∧ (Apart s.2.2.1 (some q10) ∧ Apart (some q10) s.2.2.1) ∧ ks.take s.1 = ((es.drop lo).take s.1).map (·.pl))
          (fun s => [(0, .pointer (some a)), (1, .int .i64 top), (6, .slice A m c), (7, .pointer (some q7)), (8, .int .i64 kf), (10, .pointer (some q10)), (100, .slice A6 kn c6), (101, .int .i64 x6), (102, .int .i64 s.2.1)]) (fun s => kn - s.1) (0, 0, none, 0)
          (by simp [Fits, lk]) ⟨by simp, by simp, hy, hq10, Own.nil, ⟨.inl rfl, .inr (by obtain ⟨gq, rfl, _⟩ := hq10.form; simp [Eng.blk, Value.ownBlock])⟩, by simp⟩ ?_
        clear hq10 hy
        rintro I2 hI2 ⟨j, jj, Ak, ck⟩ wz ⟨hj, hjj, hy, hq10, hok', hap, htk⟩
        simp only at hj hjj hq10 hok' hap htk
        obtain ⟨jk, hjk⟩ : ∃ z, z = jj + 1 := ⟨_, rfl⟩
        conv => cbv
        refine br (fun g7 => ?_) (fun g7 => ?_)
        · have g7 : j < kn := by
            have : jj < x6 := by simpa [hE.cmp, cmpR] using g7
            omega
          have ej : E.ar .add .i64 jj 1 = jk := by rw [hE.ar, hjk]; exact wrap_in (by omega) (by omega)
          obtain ⟨e, he⟩ : ∃ e, (es.drop lo)[j]? = some e := ⟨_, List.getElem?_eq_getElem (by omega)⟩
          obtain ⟨te, ple, tye, ue⟩ := e
          obtain ⟨a6, ha6, hc6'⟩ := fl_at fE_len (hc6.ext hy) (by omega) he
          conv => cbv
          refine st_idx hE sPl ha6 (by omega) (by omega) fun q hq => ?_
          rw [show jj.toNat = j by omega] at hq
          conv => cbv
          refine st_loadS hE tPl (vs := [.iface tye ue, .int .i64 ple]) rfl (by rw [hq]; exact hc6') ?_
          conv => cbv
          refine st_alloc hr tPl rfl fun q12 wy hx12 hq0 => ?_
          conv => cbv
          refine st_putS hr (by kernel_rfl) (hq0 _ (Nat.le_refl _)) (add_zero _).symm (by simp) (by simp [Value.oneCell']) fun wx hw12 hq12 => ?_
          simp only [List.take_zero, List.nil_append, List.length_cons, List.length_nil, List.drop_succ_cons, List.drop_nil, List.append_nil] at hq12
          have hx13 := hx12.then (hw12.bel (hq0 _ (Nat.le_refl _)) hx12.size)
          replace hq10 := hq10.bel hx13
          replace hok' := hok'.bel hx13
          replace hy := hy.trans hx13
          clear hq0 hw12 hx12 hx13 hq hc6'
          conv => cbv
          refine draw_q hr fol (by kernel_rfl) fun E' hE' => ?_
          conv => cbv
          (refine st_fld hE' fINd4 fun p hp => ?_; (conv => cbv); refine st_load hE' cInts (by rw [hp]; exact ((hq7.bel hy)).at _ _ rfl) ?_; clear hp; (conv => cbv))
          refine st_int hE' tInts ((r_ks.ext hx').ext hy) (k := j) (by omega) (by omega) fun p u hu hp => ?_
          conv => cbv
          refine st_load hE' cInt hp ?_
          conv => cbv
          (refine st_fld hE' fPl1 fun p hp => ?_; (conv => cbv); refine st_load hE' cInt (by rw [hp]; exact (hq12).at _ _ rfl) ?_; clear hp; (conv => cbv))
          obtain ⟨q4, hq4⟩ : ∃ q4, q4 = E'.cmp .neq u ple := ⟨_, rfl⟩
          have hq5 : q4 = true ↔ u ≠ ple := by rw [hq4, hE'.cmp]; simp [cmpR]
          simp only [← hq4]
          intro wv hsv
          replace hq10 := hq10.bel hsv.ext
          replace hok' := hok'.bel hsv.ext
          replace hq12 := hq12.bel hsv.ext
          replace hy := hy.trans hsv.ext
          clear hsv hq4
          conv => cbv
          refine br (fun g8 => ?_) (fun g8 => ?_)
          · have g8 := hq5.1 g8
            rw [if_pos (fun q => g8 (by
              have h1 : ((es.drop lo).map (·.pl))[j]? = some ple := by rw [List.getElem?_map, he]; rfl
              rw [← q, hu] at h1
              exact Option.some.inj h1))] at hSM
            conv => cbv
            exact bad2 hSM _ (hwr.trans (hy.wr _))
          have g8 : u = ple := Classical.byContradiction fun q => g8 (hq5.2 q)
          conv => cbv
          (refine st_fld hE fOp1 fun p hp => ?_; (conv => cbv); refine st_load hE cTrs (by rw [hp]; exact (hq10).at _ _ rfl) ?_; clear hp; (conv => cbv))
          (refine st_fld hE fPl0 fun p hp => ?_; (conv => cbv); refine st_load hE cTr (by rw [hp]; exact (hq12).at _ _ rfl) ?_; clear hp; (conv => cbv))
          refine st_one hr sTrs rfl rfl fun A13 w13 hx13 hc13 => ?_
          replace hq10 := hq10.bel hx13
          replace hok' := hok'.bel hx13
          replace hy := hy.trans hx13
          conv => cbv
          refine st_appsG hr sTrs rfl hok' hc13 rfl (by simp [Value.oneCell']) hy.size (by omega) (by omega) fun A14 c14 m14 w14 hm14 hw14 ho14 hbk => ?_
          subst hm14
          have ap14 := (Gro.mk hw14 (hbk.imp id fun e => ⟨_, e, Nat.le_refl _⟩)).apart hq10 hap
          replace hq10 := hq10.wr hw14 hap.2
          replace hy := hy.then (hw14.bel hok' hy.size)
          clear hbk hw14 hok' hc13 hx13
          conv => cbv
          refine st_fld hE fOp1 fun p hp => ?_
          conv => cbv
          refine st_put hr zTrs hq10 hp (by simp) rfl fun w15 hw15 hq15 => ?_
          simp only [List.set_cons_zero, List.set_cons_succ] at hq15
          conv => cbv
          simp only [ej]
          refine ⟨(j + 1, jk, A14, c14), by simp [Fits, lk], hI2 _ _ ⟨by simp only; omega, by simp only; omega, hy.then (hw15.bel hq10 hy.size), hq15, ?_, ap14, ?_⟩, by simp only; omega⟩
          · simp only
            have := ho14.wr hw15 ap14.1
            rw [List.take_add_one, he, List.map_append]
            exact this
          · simp only
            rw [List.take_add_one, List.take_add_one, hu, he, htk, g8]; simp
        have g7 : j = kn := by
          have : ¬ jj < x6 := by simpa [hE.cmp, cmpR] using g7
          omega
        subst g7
        rw [List.take_of_length_le (by omega)] at hok'
        rw [List.take_of_length_le (by omega), List.take_of_length_le (by omega)] at htk
        rw [if_neg (fun q => q htk)] at hSM
        conv => cbv
        clear hI2 I2 hjk jk
        refine st_loadS hE tOp rfl hq10.at ?_
        conv => cbv
        refine st_mk hE uOpT ?_
        obtain ⟨T, hTd⟩ : ∃ T, T = Tr.op o ((es.drop lo).map (·.t)) ii := ⟨_, rfl⟩
        rw [← hTd] at hSM
        have h0s6 := hx'.size
        replace hso := hso.ext h0s6 hy
        have hwsz : w.heap.size ≤ w6.heap.size := hwr.size
        have htv : TreeV (Foot w0.heap.size w.heap.size wz A) wz T (.iface 82 (.agg ⟨[.int .i64 o, .slice Ak j ck, .int .i64 ii]⟩)) := by
          rw [hTd]
          simp only [TreeV]
          refine ⟨Ak, j, ck, _, rfl, by simp; omega, hok'.cap, hok'.le, hok'.cells, fun a' ha' hj0 => ?_, ?_⟩
          · obtain ⟨g, hg1, hg2, hg3⟩ := hok'.addr hj0
            rw [ha'] at hg1
            cases hg1
            refine .inr ⟨by simp only; omega, hg3, fun q => ?_⟩
            obtain rfl | ⟨g', rfl, _, hg4⟩ := ho.blk
            · simp [Eng.blk, Value.ownBlock] at q
            · simp [Eng.blk, Value.ownBlock] at q; omega
          · refine TreesV.of_get (by simp) fun q t v h1 h2 => ?_
            rw [List.getElem?_map] at h1 h2
            obtain ⟨e, he, rfl⟩ := Option.map_eq_some_iff.1 h1
            rw [he] at h2
            simp at h2
            subst h2
            exact (hso e (List.mem_of_mem_drop (List.mem_of_getElem? he))).1
        have hdT : dep T ≤ 65 := by
          rw [hTd, dep]
          have := deps_le (l := (es.drop lo).map (·.t)) (n := 64) fun t ht => by
            obtain ⟨e, he, rfl⟩ := List.mem_map.1 ht
            exact (hso e (List.mem_of_mem_drop he)).2
          omega
        have hxz' := hx'.trans hy
        obtain ⟨fd, ld, hcm, hfd⟩ := dep_f 65 T _ wz _ hdT (by omega) htv (fun b hb => foot_lt hxz'.size hb)
        obtain ⟨dT, hdT2⟩ : ∃ dT : Int, dT = (dep T : Int) := ⟨_, rfl⟩
        rw [← hdT2] at hfd
        conv => cbv
        refine st_if hr (args := []) (l := [ld]) hcm hfd fun r w16 hx16 ev => ?_
        subst ev
        have hyz := hy.trans hx16
        conv => cbv
        refine br (fun g8 => ?_) (fun g8 => ?_)
        · have g8 : 64 < dT := by simpa [hE.cmp, cmpR] using g8
          rw [if_pos (by omega)] at hSM
          conv => cbv
          exact bad2 hSM _ (hwr.trans (hyz.wr _))
        have g8 : ¬ 64 < dT := by simpa [hE.cmp, cmpR] using g8
        rw [if_neg (by omega)] at hSM
        conv => cbv
        exact ⟨(T, _, _), by simp [Fits, lk], hJ _ _ ⟨hwr.trans (hyz.wr _), hx'.trans hyz, hb.bel hyz, ho.bel hyz, hso.ext hxz'.size hx16, tree_ext hxz'.size hx16 htv, by simp only; omega, hSM⟩⟩
    · clear hwr hx' hb ho hso hq7
      rintro ⟨t9, ty9, u9⟩ w9 ⟨hwr, hx', hb, ho, hso, ht9, hd9, hSM2⟩
      simp only at ht9 hd9 hSM2
      rw [hSM2] at hV
      simp only at hV
      obtain ⟨lo, hlo⟩ : ∃ lo, lo = m - ks.length := ⟨_, rfl⟩
      rw [← hlo] at hV
      obtain ⟨lz, hlz⟩ : ∃ lz : Int, lz = lo := ⟨_, rfl⟩
      conv => cbv
      refine draw_t [0, 1, 2, 3, 4, 5, 6, 7, 8, 9, 10, 11] [(12, true), (13, false), (14, false)] hr fol (by kernel_rfl) fun E' hE' wA hsA S hS => ?_
      have h0s3 := hx'.size
      replace hb := hb.bel hsA.ext
      replace ho := ho.bel hsA.ext
      replace hso := hso.ext h0s3 hsA.ext
      replace ht9 := tree_ext h0s3 hsA.ext ht9
      replace hx' := hx'.trans hsA.ext
      replace hwr := hwr.trans (hsA.ext.wr _)
      clear hsA h0s3
      conv => cbv
      refine st_len hE' sPl fun x5 hx5 => ?_
      have el : E'.ar .sub .i64 x5 kf = lz := by rw [hE'.ar, show arR .sub .i64 x5 kf = IntKind.i64.wrap (x5 - kf) from rfl, wrap_in (by omega) (by omega)]; omega
      conv => cbv
      simp only [el]
      refine st_upto hE' sPl ho hlz (by omega) fun ho2 => ?_
      rw [fl_take fE_len] at ho2
      conv => cbv
      (refine st_nil hE' ?_; (conv => cbv); refine st_fld hE' fWk1 fun p hp => ?_; (conv => cbv); refine st_load hE' cInt (by rw [hp]; exact (hb).at _ _ rfl) ?_; clear hp; (conv => cbv))
      refine st_bPl hE' ?_
      refine st_oneS hr sPl rfl (by omega) (by omega) rfl fun A7 w7 hx7 hc7 => ?_
      refine ⟨hS _ hx7, ?_⟩
      have h0s3 := hx'.size
      replace hb := hb.bel hx7
      replace hso := hso.ext h0s3 hx7
      replace ht9 := tree_ext h0s3 hx7 ht9
      replace ho2 := ho2.bel hx7
      replace hx' := hx'.trans hx7
      replace hwr := hwr.trans (hx7.wr _)
      clear hx7 h0s3 hS
      have hwsz := hwr.size
      conv => cbv
      refine st_appsKG hr sPl rfl (by omega) ho2 hc7 rfl (by omega) (by simp [Value.oneCell']) hwsz (by omega) (by omega) fun A8 c8 m8 w8 hm8 hw8 ho8 hbk => ?_
      subst hm8
      have hgro : Gro _ A w8 A8 := ⟨hw8, hbk.imp id fun e => ⟨_, e, Nat.le_refl _⟩⟩
      have hrow := own_row ho2 h0s
      have h0s3 := hx'.size
      have apA := own_low ho2 har.2 ha0
      have apA8 := own_low ho8 har.2 ha0
      have h0w := hw8.bel (ho2.mono h0s) h0s3
      replace hb := hb.wr hw8 apA.2
      replace hso := hso.gro h0s3 hrow hgro
      replace ht9 := tree_gro h0s3 hrow hgro ht9
      replace hx' := hx'.then h0w
      replace hwr : Wr (some a) w w8 := by
        refine ⟨hw8.os.trans hwr.os, hw8.tape.trans hwr.tape, hw8.output.trans hwr.output, Nat.le_trans hwr.size hw8.size, fun b hb1 hb2 => ?_⟩
        rw [hw8.block b (Nat.lt_of_lt_of_le hb1 hwr.size) ?_, hwr.block b hb1 hb2]
        obtain rfl | ⟨g, rfl, hg, _⟩ := ho2.blk
        · simp [Eng.blk, Value.ownBlock]
        · have e1 : blk (some (⟨g, 0, none⟩ : Addr)) = some g := rfl
          rw [e1]; intro q; cases q; omega
      clear hgro hbk hw8 ho2 hc7 h0w hrow h0s3
      conv => cbv
      (refine st_nil hE ?_; (conv => cbv); refine st_fld hE fWk1 fun p hp => ?_; (conv => cbv); refine st_load hE cInt (by rw [hp]; exact (hb).at _ _ rfl) ?_; clear hp; (conv => cbv))
      simp only [ei]
      refine st_nil hE ?_
      conv => cbv
      refine st_fld hE fWk1 fun p hp => ?_
      conv => cbv
      refine st_put hr zInt hb hp (by simp) rfl fun wf hwf hbf => ?_
      simp only [List.set_cons_zero, List.set_cons_succ] at hbf
      have h0s3 := hx'.size
      conv => cbv
      refine ⟨(i + 1, ij, A8, lo + 1, c8, es.take lo ++ [⟨t9, ii, ty9, u9⟩]), by simp [Fits, lk], hI _ _ ⟨by simp only; omega, by simp only; omega, by simp only; omega, hwr.trans hwf, hbf, ?_, ?_, ?_, by simp only; omega⟩, by simp only; omega⟩
      · simp only
        rw [List.flatMap_append]
        exact ho8.wr hwf apA8.1
      · simp only
        intro e he
        rcases List.mem_append.1 he with he | he
        · exact ⟨tree_wr h0s3 har ha0 hwf (hso e (List.mem_of_mem_take he)).1, (hso e (List.mem_of_mem_take he)).2⟩
        · simp at he
          subst he
          exact ⟨tree_wr h0s3 har ha0 hwf ht9, hd9⟩
      · simp only
        rw [← hV]
        unfold stOf
        rw [List.map_append, List.map_take]; rfl
  · have g2 : i = tn + 1 := by
      have : ¬ ii ≤ top := by simpa [hE.cmp, cmpR] using g2
      omega
    subst g2
    rw [seg_nil, runM] at hV
    conv => cbv
    refine st_len hE sPl fun x5 hx5 => ?_
    conv => cbv
    refine br (fun g3 => ?_) (fun g3 => ?_)
    · have g3 : x5 ≠ 1 := by simpa [hE.cmp, cmpR] using g3
      conv => cbv
      refine bad ?_ _ hwr
      rw [hTM, ← hV]
      match es, hol with
      | [], _ => rfl
      | [e], h => simp at h; omega
      | e :: e' :: l, _ => rfl
    · have g3 : x5 = 1 := by simpa [hE.cmp, cmpR] using g3
      obtain ⟨e, rfl⟩ : ∃ e, es = [e] := List.length_eq_one_iff.1 (by omega)
      obtain ⟨te, ple, tye, ue⟩ := e
      obtain ⟨gs, hgs, _⟩ := ho.addr (by omega)
      have hst := (hso ⟨te, ple, tye, ue⟩ (by simp)).1
      conv => cbv
      refine st_idx hE sPl hgs (by omega) (by omega) fun p hp => ?_
      conv => cbv
      refine st_fld hE fPl0 fun p2 hp2 => ?_
      conv => cbv
      refine st_load hE cTr (v := .iface tye ue) (by rw [hp2, hp]; subst hgs; simp only [add_add]; exact ho.at 0 _ rfl) ?_
      conv => cbv
      rw [hR]
      refine ⟨.iface tye ue, true, rfl, rfl, hwr, (fun q => by cases q), fun _ => ⟨te, tye, ue, rfl, by rw [hTM, ← hV]; rfl, ?_, ?_⟩⟩
      · exact hst.keep (fun b _ => rfl) fun b hb => by
          rcases hb with hb | hb
          · exact .inl hb
          · exact .inr ⟨hb.1, hb.2.1⟩
      · have : top + 1 = ii := by omega
        rw [this]; exact hb
end Go.Proofs.YtgdnmpcaiaoaoaaDoor
/- The leaves that a plain policy may have; the program's closure about them. -/
namespace Go.Proofs.YtgdnmpcaiaoaoaaDoor
open Go.Eng
set_option linter.unusedVariables false
set_option linter.unusedSimpArgs false
def cOK (p : PN) : Prop := (p.o = 1 ∧ p.tx = ⟨#[]⟩ ∧ p.xs = []) ∨ (p.o = 2 ∧ p.z = 0 ∧ nameBytes p.tx ∧ p.xs = []) ∨ (p.o = 3 ∧ (p.z = 0 ∨ p.z = 1) ∧ p.tx = ⟨#[]⟩ ∧ p.xs = []) ∨ (p.o = 4 ∧ p.z = 0 ∧ p.tx = ⟨#[]⟩ ∧ isSet p.xs)
def leafU (p : PN) : Prop := if p.o = 5 then p.z = 0 ∧ ident p.tx ∧ p.xs = [] else cOK p ∧ (p.o ≠ 1 ∨ 0 ≤ p.z)
set_option maxHeartbeats 1000000 in
theorem leafU_f {w : World} (hT : STab w 1 words) (v : VN) (h : OKN w v) (l : Int) :
    FC Tryd.prog 29 [.int .i64 l, .agg ⟨cN v⟩] w fun r _ => ∃ b : Bool, r = .bool b ∧ (b = true ↔ leafU v.p) := by
  refine FC.intro (cs := []) Tryd.func29 (by kernel_rfl) fun E R hE hr hR => ?_
  obtain ⟨⟨o, z, tx, xs, ks⟩, A0, m0, c0, A1, m1, c1⟩ := v
  have s_tx := h.s_tx
  have r_xs := h.r_xs
  simp only at s_tx r_xs
  obtain ⟨FP, hFP0⟩ : ∃ FP, FP = leafU ⟨o, z, tx, xs, ks⟩ := ⟨_, rfl⟩
  simp only [← hFP0] at hR
  have hFP := hFP0
  unfold leafU at hFP
  simp only at hFP
  conv => cbv
  refine st_box hr fun a w1 hx hb0 => ?_
  have hb := hb0 _ (Nat.le_refl _)
  clear hb0
  conv => cbv
  (refine st_fld hE fINd0 fun p hp => ?_; (conv => cbv); refine st_load hE cInt (by rw [hp]; exact (hb).at _ _ rfl) ?_; clear hp; (conv => cbv))
  refine br (fun g => ?_) (fun g => ?_)
  · have g : o = 5 := by simpa [hE.cmp, cmpR] using g
    rw [if_pos g] at hFP
    conv => cbv
    refine st_loadS hE tINd rfl hb.at ?_
    conv => cbv
    refine st_f hr (bare_f (o := o) (z := z) (tx := tx) (r_xs.ext hx).len false true false) fun r w2 hx2 ⟨b, ev, hbb⟩ => ?_
    subst ev
    simp only [Bool.false_eq_true, false_or, true_or, true_and] at hbb
    replace hb := hb.bel hx2
    replace hx := hx.trans hx2
    cases b with
    | false =>
      conv => cbv
      rw [hR]; exact ⟨hx, false, rfl, by rw [hFP]; exact ⟨(fun q => nomatch q), fun q => hbb.2 ⟨q.1, q.2.2⟩⟩⟩
    | true =>
      have hbb := hbb.1 rfl
      conv => cbv
      (refine st_fld hE fINd2 fun p hp => ?_; (conv => cbv); refine st_load hE cStr (by rw [hp]; exact (hb).at _ _ rfl) ?_; clear hp; (conv => cbv))
      refine st_qb hE (isNameToken_f (hT.ext hx) tx s_tx) fun b hb2 w3 hs3 => ?_
      conv => cbv
      rw [hR]; exact ⟨hx.trans hs3.ext, b, rfl, by rw [hFP, hb2]; simp [hbb]⟩
  · have g : o ≠ 5 := by simpa [hE.cmp, cmpR] using g
    rw [if_neg g] at hFP
    conv => cbv
    refine st_loadS hE tINd rfl hb.at ?_
    conv => cbv
    refine st_f hr (validConst_f (o := o) (z := z) (tx := tx) (r_xs.ext hx) s_tx) fun r w2 hx2 ⟨b, ev, hbb⟩ => ?_
    subst ev
    have hbb : b = true ↔ cOK ⟨o, z, tx, xs, ks⟩ := hbb
    replace hb := hb.bel hx2
    replace hx := hx.trans hx2
    cases b with
    | false =>
      conv => cbv
      rw [hR]; exact ⟨hx, false, rfl, by rw [hFP]; exact ⟨(fun q => nomatch q), fun q => hbb.2 q.1⟩⟩
    | true =>
      have hbb := hbb.1 rfl
      conv => cbv
      (refine st_fld hE fINd0 fun p hp => ?_; (conv => cbv); refine st_load hE cInt (by rw [hp]; exact (hb).at _ _ rfl) ?_; clear hp; (conv => cbv))
      refine br (fun g2 => ?_) (fun g2 => ?_)
      · have g2 : o ≠ 1 := by simpa [hE.cmp, cmpR] using g2
        conv => cbv
        rw [hR]; exact ⟨hx, true, rfl, by rw [hFP]; simp [hbb, g2]⟩
      · have g2 : o = 1 := by simpa [hE.cmp, cmpR] using g2
        conv => cbv
        (refine st_fld hE fINd1 fun p hp => ?_; (conv => cbv); refine st_load hE cI64 (by rw [hp]; exact (hb).at _ _ rfl) ?_; clear hp; (conv => cbv))
        obtain ⟨q4, hq4⟩ : ∃ q4, q4 = E.cmp .geq z 0 := ⟨_, rfl⟩
        have hq5 : q4 = true ↔ 0 ≤ z := by rw [hq4, hE.cmp]; simp [cmpR]
        simp only [← hq4]
        rw [hR]; exact ⟨hx, q4, rfl, by rw [hFP, hq5]; exact ⟨fun q => ⟨hbb, .inr q⟩, fun q => q.2.resolve_left fun r => r g2⟩⟩
/-- What trees asks of the leaf function that it is given. -/
def LeafA (w0 : World) (f0 : FuncId) (lp : Nat → PN → Prop) : Prop :=
  ∀ w', Ext w0 w' → ∀ (l : Nat), l ≤ 600 → ∀ (ll : Int), ll = (l : Int) → ∀ v : VN, OKN w' v → FC Tryd.prog f0 [.int .i64 ll, .agg ⟨cN v⟩] w' fun r _ => ∃ b : Bool, r = .bool b ∧ (b = true ↔ lp l v.p)
theorem leafU_a {w0 : World} (hT : STab w0 1 words) : LeafA w0 29 (fun _ => leafU) :=
  fun w' hx l _ ll _ v hv => leafU_f (hT.ext hx) v hv ll
theorem cF2 : Cel Tryd.prog 72 := ⟨_, Tryd.underlying72, by simp, by simp⟩
theorem trees1_f {w0 w : World} {f0 : FuncId} {lp : Nat → PN → Prop} (hf : LeafA w0 f0 lp) (hx0 : Ext w0 w) {q5 q8 : Addr} {l : Nat} (hl : l ≤ 600) {ll : Int} (hll : ll = (l : Int)) (h5 : w.cell? q5 = some (.func (.func f0) #[] #[])) (h8 : w.cell? q8 = some (.int .i64 ll)) (v : VN) (h : OKN w v) :
    FC Tryd.prog 46 [.agg ⟨cN v⟩, .pointer (some q5), .pointer (some q8)] w fun r _ => ∃ b : Bool, r = .bool b ∧ (b = true ↔ lp l v.p) := by
  refine FC.intro (cs := []) Tryd.func46 (by kernel_rfl) fun E R hE hr hR => ?_
  obtain ⟨cv, hcv⟩ : ∃ cv, cv = cN v := ⟨_, rfl⟩
  have hcl : cv.length = 5 := by rw [hcv]; rfl
  rw [← hcv]
  conv => cbv
  refine st_box hr fun a w1 hx hb0 => ?_
  have hb : Box w.heap.size 61 5 w1 a cv := by have := hb0 _ (Nat.le_refl _); rwa [hcl] at this
  clear hb0
  conv => cbv
  refine st_load hE cF2 (hx.cell h5) ?_
  conv => cbv
  refine st_load hE cInt (hx.cell h8) ?_
  conv => cbv
  refine st_loadS hE tINd hcl hb.at ?_
  conv => cbv
  rw [hcv]
  refine st_f hr (hf w1 (hx0.trans hx) l hl ll hll v (h.ext hx)) fun r w2 hx2 ⟨b, ev, hbb⟩ => ?_
  subst ev
  conv => cbv
  rw [hR]; exact ⟨hx.trans hx2, b, rfl, hbb⟩
theorem trees1_a {w0 w : World} {f0 : FuncId} {lp : Nat → PN → Prop} (hf : LeafA w0 f0 lp) (hx0 : Ext w0 w) {a q5 q8 : Addr} (ha : w0.heap.size ≤ a.block ∧ a.block < w.heap.size) (ha0 : blk (some a) = some a.block) {B : Nat} {e5 e8 : TypeId} {l : Nat} (hl : l ≤ 600) {ll : Int} (hll : ll = (l : Int)) (h5 : Box B e5 1 w q5 [.func (.func f0) #[] #[]]) (h8 : Box B e8 1 w q8 [.int .i64 ll]) (a5 : Apart (some q5) (some a)) (a8 : Apart (some q8) (some a)) :
    LeafC w a 46 #[] #[.pointer (some q5), .pointer (some q8)] (lp l) := fun w' hw v hv => by
  have h5 := (h5.wr hw a5).at 0 _ rfl
  have h8 := (h8.wr hw a8).at 0 _ rfl
  rw [add_zero] at h5 h8
  have hxw : Ext w0 w' := hx0.then ⟨hw.os, hw.tape, hw.output, hw.size, fun i h1 => hw.block i (by omega) (by rw [ha0]; intro q; cases q; omega)⟩
  exact trees1_f hf hxw hl hll (h5) (h8) v hv
end Go.Proofs.YtgdnmpcaiaoaoaaDoor
