/- Union: what the program and the reference answer; the law (printed by gen12.py). -/
import Derived.Test.YtjaejonnbhdddaaDoorL6
import Derived.Test.YtjaejonnbhdddaaDoorL9
import Derived.Test.YtjaejonnbhdddaaDoorEng4
import Derived.Test.YtjaejonnbhdddaaDoorLErr
namespace Go.Proofs.YtjaejonnbhdddaaDoor
open Go.Eng
set_option linter.unusedVariables false
/-- What Union answers. -/
def UnionOf (xs ys r : List ByteArray) (z : Int) : Prop :=
  (¬ (isSet xs ∧ isSet ys) ∧ r = [] ∧ z = 4) ∨ (isSet xs ∧ isSet ys ∧ ∃ q, SortOf (xs ++ ys) q ∧ ((64 < q.length ∧ r = [] ∧ z = 3) ∨ (q.length ≤ 64 ∧ r = q ∧ z = 0)))
theorem UnionOf.same {xs ys r r' : List ByteArray} {z z' : Int} (h : UnionOf xs ys r z) (h' : UnionOf xs ys r' z') : r = r' ∧ z = z' := by
  rcases h with ⟨h1, rfl, rfl⟩ | ⟨h1, h2, q, h3, h4⟩ <;> rcases h' with ⟨k1, rfl, rfl⟩ | ⟨k1, k2, q', k3, k4⟩
  · exact ⟨rfl, rfl⟩
  · exact absurd ⟨k1, k2⟩ h1
  · exact absurd ⟨h1, h2⟩ k1
  · obtain rfl := h3.same k3
    rcases h4 with ⟨h4, rfl, rfl⟩ | ⟨h4, rfl, rfl⟩ <;> rcases k4 with ⟨k4, rfl, rfl⟩ | ⟨k4, rfl, rfl⟩
    · exact ⟨rfl, rfl⟩
    · omega
    · omega
    · exact ⟨rfl, rfl⟩
theorem UnionOf.len {xs ys r : List ByteArray} {z : Int} (h : UnionOf xs ys r z) : r.length ≤ 64 := by
  rcases h with ⟨h1, rfl, rfl⟩ | ⟨h1, h2, q, h3, h4⟩
  · simp
  · rcases h4 with ⟨h4, rfl, rfl⟩ | ⟨h4, rfl, rfl⟩
    · simp
    · exact h4
theorem snil (w : World) : Strs w none 0 0 [] := ⟨rfl, by omega, by omega, ⟨by simp, by simp⟩, by simp⟩
theorem union1_q (p q : Bool) (w : World) : QB Tryd.prog 58 [.bool p, .bool q] w ((true : Bool) = true) := by
  refine QB.intro (cs := []) Tryd.func58 (by kernel_rfl) fun w hx0 w1 hs E R hE hr hR => ?_
  conv => cbv
  exact hR _ _ hs (by simp)
theorem mrg_all {xs ys : List ByteArray} (hx : xs.Pairwise blt) (hy : ys.Pairwise blt) : SortOf (xs ++ ys) (mrg (fun _ _ => true) xs ys) :=
  ⟨mrg_rise _ _ _ hx hy, fun s => by rw [mrg_mem _ _ _ hx hy]; simp⟩
theorem union_f {w : World} {A A' : Option Addr} {n c n' c' : Nat} {xs ys : List ByteArray} {z o v : Addr} (he : Errs w z o v) (h : Strs w A n c xs) (h' : Strs w A' n' c' ys) (hx : xs.Pairwise blt) (hy : ys.Pairwise blt) (hb : n + n' ≤ 2097152) :
    FC Tryd.prog 26 [.slice A n c, .slice A' n' c'] w fun u w' => ∃ q, SortOf (xs ++ ys) q ∧ ((64 < q.length ∧ u = .tuple ⟨[.slice none 0 0, .iface 154 (.pointer (some v))]⟩) ∨
      (q.length ≤ 64 ∧ ∃ A1 n1 c1, u = .tuple ⟨[.slice A1 n1 c1, .nilIface]⟩ ∧ Strs w' A1 n1 c1 q ∧ Own w.heap.size 9 1 w' A1 n1 c1 (q.map .string))) := by
  refine FC.intro (cs := []) Tryd.func26 (by kernel_rfl) fun E R hE hr hR => ?_
  conv => cbv
  refine st_f hr (merge_f h h' (fun _ _ => true) union1_q hb) fun u w1 hx1 hc => ?_
  obtain ⟨A1, n1, c1, rfl, hc, ho⟩ := hc
  have hso := mrg_all hx hy
  have hl := hc.len
  generalize mrg (fun _ _ => true) xs ys = q at hso hc ho hl
  conv => cbv
  refine st_len hE tStrs fun x hxl => ?_
  conv => cbv
  refine br (fun g => ?_) (fun g => ?_)
  · have g : 64 < n1 := by simp [hE.cmp, cmpR, hxl] at g; omega
    conv => cbv
    refine draw_q hr fol (by kernel_rfl) fun E' hE' => ?_
    conv => cbv
    refine st_load hE' cErr (he.ext hx1).cv ?_
    conv => cbv
    intro w2 hs2
    conv => cbv
    rw [hR]; exact ⟨hx1.trans hs2.ext, q, hso, .inl ⟨by omega, rfl⟩⟩
  · have g : n1 ≤ 64 := by simp [hE.cmp, cmpR, hxl] at g; omega
    conv => cbv
    rw [hR]; exact ⟨hx1, q, hso, .inr ⟨by omega, A1, n1, c1, rfl, hc, ho⟩⟩
theorem Union_f {w : World} {A A' : Option Addr} {n c n' c' : Nat} {xs ys : List ByteArray} {z o v : Addr} (he : Errs w z o v) (h : Strs w A n c xs) (h' : Strs w A' n' c' ys) (hn : n ≤ 1048576) (hn' : n' ≤ 1048576) :
    FC Tryd.prog 7 [.slice A n c, .slice A' n' c'] w fun u w' => ∃ r k A1 n1 c1, u = .tuple ⟨[.slice A1 n1 c1, .int .i64 k]⟩ ∧ UnionOf xs ys r k ∧ Strs w' A1 n1 c1 r ∧ Own w.heap.size 9 1 w' A1 n1 c1 (r.map .string) := by
  refine FC.intro (cs := []) Tryd.func7 (by kernel_rfl) fun E R hE hr hR => ?_
  conv => cbv
  refine st_qb hE (IsSet_q h) fun b1 hb1 w1 hs1 => ?_
  cases b1 with
  | false =>
    conv => cbv
    rw [hR]; exact ⟨hs1.ext, [], 4, none, 0, 0, rfl, .inl ⟨fun k => by simpa using hb1.2 k.1, rfl, rfl⟩, snil _, Own.nil⟩
  | true =>
    have g1 := hb1.1 rfl
    conv => cbv
    refine st_qb hE (IsSet_q (h'.ext hs1.ext)) fun b2 hb2 w2 hs2 => ?_
    have hx := hs1.ext.trans hs2.ext
    cases b2 with
    | false =>
      conv => cbv
      rw [hR]; exact ⟨hx, [], 4, none, 0, 0, rfl, .inl ⟨fun k => by simpa using hb2.2 k.2, rfl, rfl⟩, snil _, Own.nil⟩
    | true =>
      have g2 := hb2.1 rfl
      conv => cbv
      refine st_f hr (union_f (he.ext hx) (h.ext hx) (h'.ext hx) g1.2.1 g2.2.1 (by omega)) fun u w3 hx3 ⟨q, hso, hu⟩ => ?_
      have hs := hx.size
      rcases hu with ⟨hq, rfl⟩ | ⟨hq, A1, n1, c1, rfl, hst, how⟩
      · replace hx := hx.trans hx3
        conv => cbv
        refine st_q hE (code_v (he.ext hx)) fun w4 hs4 => ?_
        conv => cbv
        rw [hR]; exact ⟨hx.trans hs4.ext, [], 3, none, 0, 0, rfl, .inr ⟨g1, g2, q, hso, .inl ⟨hq, rfl, rfl⟩⟩, snil _, Own.nil⟩
      · replace hx := hx.trans hx3
        conv => cbv
        refine st_q hE (code_nil (he.ext hx)) fun w4 hs4 => ?_
        conv => cbv
        rw [hR]; exact ⟨hx.trans hs4.ext, q, 0, A1, n1, c1, rfl, .inr ⟨g1, g2, q, hso, .inr ⟨hq, rfl, rfl⟩⟩, hst.ext hs4.ext, (how.mono hs).bel hs4.ext⟩
theorem sUnion_f {w : World} {A A' : Option Addr} {n c n' c' : Nat} {xs ys : List ByteArray} (h : Strs w A n c xs) (h' : Strs w A' n' c' ys) (hn : n ≤ 1048576) (hn' : n' ≤ 1048576) :
    FC Tryd.prog 8 [.slice A n c, .slice A' n' c'] w fun u w' => ∃ r k A1 n1 c1, u = .tuple ⟨[.slice A1 n1 c1, .int .i64 k]⟩ ∧ UnionOf xs ys r k ∧ Strs w' A1 n1 c1 r ∧ Own w.heap.size 9 1 w' A1 n1 c1 (r.map .string) := by
  refine FC.intro (cs := []) Tryd.func8 (by kernel_rfl) fun E R hE hr hR => ?_
  have l1 := h.len
  have l2 := h'.len
  conv => cbv
  refine st_qb hE (sIsSet_q h) fun b1 hb1 w1 hs1 => ?_
  cases b1 with
  | false =>
    conv => cbv
    rw [hR]; exact ⟨hs1.ext, [], 4, none, 0, 0, rfl, .inl ⟨fun k => by simpa using hb1.2 k.1, rfl, rfl⟩, snil _, Own.nil⟩
  | true =>
    have g1 := hb1.1 rfl
    conv => cbv
    refine st_qb hE (sIsSet_q (h'.ext hs1.ext)) fun b2 hb2 w2 hs2 => ?_
    have hx := hs1.ext.trans hs2.ext
    cases b2 with
    | false =>
      conv => cbv
      rw [hR]; exact ⟨hx, [], 4, none, 0, 0, rfl, .inl ⟨fun k => by simpa using hb2.2 k.2, rfl, rfl⟩, snil _, Own.nil⟩
    | true =>
      have g2 := hb2.1 rfl
      have q1 := g1.2.2
      have q2 := g2.2.2
      conv => cbv
      have ho : Own w.heap.size 9 1 w2 none 0 0 [] := Own.nil
      refine st_apps hr tStrs rfl ho (h.ext hx).cells (by simp [l1]) (by simp [Value.oneCell']) hx.size (by omega) (by omega) fun A3 c3 m3 w3 em hw ho3 => ?_
      replace hx := hx.then (hw.bel ho hx.size)
      clear ho hw
      conv => cbv
      refine st_apps hr tStrs rfl ho3 (h'.ext hx).cells (by simp [l2]) (by simp [Value.oneCell']) hx.size (by omega) (by omega) fun A4 c4 m4 w4 em2 hw ho4 => ?_
      replace hx := hx.then (hw.bel ho3 hx.size)
      rw [List.nil_append, ← List.map_append] at ho4
      have hst := ho4.strs (fun s hs => (List.mem_append.1 hs).elim (h.small s) (h'.small s))
      clear ho3 hw
      have hs := hx.size
      conv => cbv
      refine st_f hr (l1sorted_f hst (by omega)) fun u w5 hx5 ⟨q, hso, A5, n5, c5, ev, hst5, how⟩ => ?_
      subst ev
      have hl := hst5.len
      replace hx := hx.trans hx5
      conv => cbv
      refine st_len hE tStrs fun x hxl => ?_
      conv => cbv
      refine br (fun g => ?_) (fun g => ?_)
      · have g : 64 < n5 := by simp [hE.cmp, cmpR, hxl] at g; omega
        conv => cbv
        rw [hR]; exact ⟨hx, [], 3, none, 0, 0, rfl, .inr ⟨g1, g2, q, hso, .inl ⟨by omega, rfl, rfl⟩⟩, snil _, Own.nil⟩
      · have g : n5 ≤ 64 := by simp [hE.cmp, cmpR, hxl] at g; omega
        conv => cbv
        rw [hR]; exact ⟨hx, q, 0, A5, n5, c5, rfl, .inr ⟨g1, g2, q, hso, .inr ⟨by omega, rfl, rfl⟩⟩, hst5, how.mono hs⟩
end Go.Proofs.YtjaejonnbhdddaaDoor
