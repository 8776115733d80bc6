/- Union: what the program and the reference answer; the law (printed by gen12.py). -/
import Derived.Test.YtpphichjabjodaaDoorL6
import Derived.Test.YtpphichjabjodaaDoorL9
import Derived.Test.YtpphichjabjodaaDoorEng4
import Derived.Test.YtpphichjabjodaaDoorLErr
namespace Go.Proofs.YtpphichjabjodaaDoor
open Go.Eng
set_option linter.unusedVariables false
/-- What Union answers. -/
def UnionOf (xs ys r : List ByteArray) (z : Int) : Prop :=
  (¬ (isSet xs ∧ isSet ys) ∧ r = [] ∧ z = 4) ∨ (isSet xs ∧ isSet ys ∧ ∃ q, SortOf (xs ++ ys) q ∧ ((64 < q.length ∧ r = [] ∧ z = 3) ∨ (q.length ≤ 64 ∧ r = q ∧ z = 0)))
theorem UnionOf.same {xs ys r r' : List ByteArray} {z z' : Int} (h : UnionOf xs ys r z) (h' : UnionOf xs ys r' z') : r = r' ∧ z = z' := by
  rcases h with ⟨h1, rfl, rfl⟩ | ⟨h1, h2, q, h3, h4⟩ <;> rcases h' with ⟨k1, rfl, rfl⟩ | ⟨k1, k2, q', k3, k4⟩
  · exact ⟨rfl, rfl⟩
  · exact absurd ⟨k1, k2⟩ h1
  · exact absurd ⟨h1, h2⟩ k1
  · obtain rfl := h3.same k3
    rcases h4 with ⟨h4, rfl, rfl⟩ | ⟨h4, rfl, rfl⟩ <;> rcases k4 with ⟨k4, rfl, rfl⟩ | ⟨k4, rfl, rfl⟩
    · exact ⟨rfl, rfl⟩
    · omega
    · omega
    · exact ⟨rfl, rfl⟩
theorem UnionOf.len {xs ys r : List ByteArray} {z : Int} (h : UnionOf xs ys r z) : r.length ≤ 64 := by
  rcases h with ⟨h1, rfl, rfl⟩ | ⟨h1, h2, q, h3, h4⟩
  · simp
  · rcases h4 with ⟨h4, rfl, rfl⟩ | ⟨h4, rfl, rfl⟩
    · simp
    · exact h4
theorem snil (w : World) : Strs w none 0 0 [] := ⟨rfl, by omega, by omega, ⟨by simp, by simp⟩, by simp⟩
theorem union1_q (p q : Bool) (w : World) : QB Tryd.prog 46 [.bool p, .bool q] w ((true : Bool) = true) := by
  refine QB.intro (cs := []) Tryd.func46 (by kernel_rfl) fun w hx0 w1 hs E R hE hr hR => ?_
  conv => cbv
  exact hR _ _ hs (by simp)
theorem mrg_all {xs ys : List ByteArray} (hx : xs.Pairwise blt) (hy : ys.Pairwise blt) : SortOf (xs ++ ys) (mrg (fun _ _ => true) xs ys) :=
  ⟨mrg_rise _ _ _ hx hy, fun s => by rw [mrg_mem _ _ _ hx hy]; simp⟩
theorem union_f {w : World} {A A' : Option Addr} {n c n' c' : Nat} {xs ys : List ByteArray} {z o v : Addr} (he : Errs w z o v) (h : Strs w A n c xs) (h' : Strs w A' n' c' ys) (hx : xs.Pairwise blt) (hy : ys.Pairwise blt) (hb : n + n' ≤ 2097152) :
    FC Tryd.prog 33 [.slice A n c, .slice A' n' c'] w fun u w' => ∃ q, SortOf (xs ++ ys) q ∧ ((64 < q.length ∧ u = .tuple ⟨[.slice none 0 0, .iface 119 (.pointer (some v))]⟩) ∨
      (q.length ≤ 64 ∧ ∃ A1 n1 c1, u = .tuple ⟨[.slice A1 n1 c1, .nilIface]⟩ ∧ Strs w' A1 n1 c1 q ∧ Own w.heap.size 9 1 w' A1 n1 c1 (q.map .string))) := by
  refine FC.intro (cs := []) Tryd.func33 (by kernel_rfl) fun E R hE hr hR => ?_
  conv => cbv
  refine st_f hr (merge_f h h' (fun _ _ => true) union1_q hb) fun u w1 hx1 hc => ?_
  obtain ⟨A1, n1, c1, rfl, hc, ho⟩ := hc
  have hso := mrg_all hx hy
  have hl := hc.len
  generalize mrg (fun _ _ => true) xs ys = q at hso hc ho hl
  conv => cbv
  refine st_len hE tStrs fun x hxl => ?_
  conv => cbv
  refine br (fun g => ?_) (fun g => ?_)
  · have g : 64 < n1 := by simp [hE.cmp, cmpR, hxl] at g; omega
    conv => cbv
    refine draw_q hr fol (by kernel_rfl) fun E' hE' => ?_
    conv => cbv
    refine st_load hE' cErr (he.ext hx1).cv ?_
    conv => cbv
    intro w2 hs2
    conv => cbv
    rw [hR]; exact ⟨hx1.trans hs2.ext, q, hso, .inl ⟨by omega, rfl⟩⟩
  · have g : n1 ≤ 64 := by simp [hE.cmp, cmpR, hxl] at g; omega
    conv => cbv
    rw [hR]; exact ⟨hx1, q, hso, .inr ⟨by omega, A1, n1, c1, rfl, hc, ho⟩⟩
theorem Union_f {w : World} {A A' : Option Addr} {n c n' c' : Nat} {xs ys : List ByteArray} {z o v : Addr} (he : Errs w z o v) (h : Strs w A n c xs) (h' : Strs w A' n' c' ys) (hn : n ≤ 1048576) (hn' : n' ≤ 1048576) :
    FC Tryd.prog 13 [.slice A n c, .slice A' n' c'] w fun u w' => ∃ r k A1 n1 c1, u = .tuple ⟨[.slice A1 n1 c1, .int .i64 k]⟩ ∧ UnionOf xs ys r k ∧ Strs w' A1 n1 c1 r ∧ Own w.heap.size 9 1 w' A1 n1 c1 (r.map .string) := by
  refine FC.intro (cs := []) Tryd.func13 (by kernel_rfl) fun E R hE hr hR => ?_
  conv => cbv
  refine st_qb hE (IsSet_q h) fun b1 hb1 w1 hs1 => ?_
  cases b1 with
  | false =>
    conv => cbv
    rw [hR]; exact ⟨hs1.ext, [], 4, none, 0, 0, rfl, .inl ⟨fun k => by simpa using hb1.2 k.1, rfl, rfl⟩, snil _, Own.nil⟩
  | true =>
    have g1 := hb1.1 rfl
    conv => cbv
    refine st_qb hE (IsSet_q (h'.ext hs1.ext)) fun b2 hb2 w2 hs2 => ?_
    have hx := hs1.ext.trans hs2.ext
    cases b2 with
    | false =>
      conv => cbv
      rw [hR]; exact ⟨hx, [], 4, none, 0, 0, rfl, .inl ⟨fun k => by simpa using hb2.2 k.2, rfl, rfl⟩, snil _, Own.nil⟩
    | true =>
      have g2 := hb2.1 rfl
      conv => cbv
      refine st_f hr (union_f (he.ext hx) (h.ext hx) (h'.ext hx) g1.2.1 g2.2.1 (by omega)) fun u w3 hx3 ⟨q, hso, hu⟩ => ?_
      have hs := hx.size
      rcases hu with ⟨hq, rfl⟩ | ⟨hq, A1, n1, c1, rfl, hst, how⟩
      · replace hx := hx.trans hx3
        conv => cbv
        refine st_q hE (code_v (he.ext hx)) fun w4 hs4 => ?_
        conv => cbv
        rw [hR]; exact ⟨hx.trans hs4.ext, [], 3, none, 0, 0, rfl, .inr ⟨g1, g2, q, hso, .inl ⟨hq, rfl, rfl⟩⟩, snil _, Own.nil⟩
      · replace hx := hx.trans hx3
        conv => cbv
        refine st_q hE (code_nil (he.ext hx)) fun w4 hs4 => ?_
        conv => cbv
        rw [hR]; exact ⟨hx.trans hs4.ext, q, 0, A1, n1, c1, rfl, .inr ⟨g1, g2, q, hso, .inr ⟨hq, rfl, rfl⟩⟩, hst.ext hs4.ext, (how.mono hs).bel hs4.ext⟩
theorem sUnion_f {w : World} {A A' : Option Addr} {n c n' c' : Nat} {xs ys : List ByteArray} (h : Strs w A n c xs) (h' : Strs w A' n' c' ys) (hn : n ≤ 1048576) (hn' : n' ≤ 1048576) :
    FC Tryd.prog 11 [.slice A n c, .slice A' n' c'] w fun u w' => ∃ r k A1 n1 c1, u = .tuple ⟨[.slice A1 n1 c1, .int .i64 k]⟩ ∧ UnionOf xs ys r k ∧ Strs w' A1 n1 c1 r ∧ Own w.heap.size 9 1 w' A1 n1 c1 (r.map .string) := by
  refine FC.intro (cs := []) Tryd.func11 (by kernel_rfl) fun E R hE hr hR => ?_
  have l1 := h.len
  have l2 := h'.len
  conv => cbv
  refine st_qb hE (sIsSet_q h) fun b1 hb1 w1 hs1 => ?_
  cases b1 with
  | false =>
    conv => cbv
    rw [hR]; exact ⟨hs1.ext, [], 4, none, 0, 0, rfl, .inl ⟨fun k => by simpa using hb1.2 k.1, rfl, rfl⟩, snil _, Own.nil⟩
  | true =>
    have g1 := hb1.1 rfl
    conv => cbv
    refine st_qb hE (sIsSet_q (h'.ext hs1.ext)) fun b2 hb2 w2 hs2 => ?_
    have hx := hs1.ext.trans hs2.ext
    cases b2 with
    | false =>
      conv => cbv
      rw [hR]; exact ⟨hx, [], 4, none, 0, 0, rfl, .inl ⟨fun k => by simpa using hb2.2 k.2, rfl, rfl⟩, snil _, Own.nil⟩
    | true =>
      have g2 := hb2.1 rfl
      have q1 := g1.2.2
      have q2 := g2.2.2
      conv => cbv
      have ho : Own w.heap.size 9 1 w2 none 0 0 [] := Own.nil
      refine st_apps hr tStrs rfl ho (h.ext hx).cells (by simp [l1]) (by simp [Value.oneCell']) hx.size (by omega) (by omega) fun A3 c3 m3 w3 em hw ho3 => ?_
      replace hx := hx.then (hw.bel ho hx.size)
      clear ho hw
      conv => cbv
      refine st_apps hr tStrs rfl ho3 (h'.ext hx).cells (by simp [l2]) (by simp [Value.oneCell']) hx.size (by omega) (by omega) fun A4 c4 m4 w4 em2 hw ho4 => ?_
      replace hx := hx.then (hw.bel ho3 hx.size)
      rw [List.nil_append, ← List.map_append] at ho4
      have hst := ho4.strs (fun s hs => (List.mem_append.1 hs).elim (h.small s) (h'.small s))
      clear ho3 hw
      have hs := hx.size
      conv => cbv
      refine st_f hr (l1sorted_f hst (by omega)) fun u w5 hx5 ⟨q, hso, A5, n5, c5, ev, hst5, how⟩ => ?_
      subst ev
      have hl := hst5.len
      replace hx := hx.trans hx5
      conv => cbv
      refine st_len hE tStrs fun x hxl => ?_
      conv => cbv
      refine br (fun g => ?_) (fun g => ?_)
      · have g : 64 < n5 := by simp [hE.cmp, cmpR, hxl] at g; omega
        conv => cbv
        rw [hR]; exact ⟨hx, [], 3, none, 0, 0, rfl, .inr ⟨g1, g2, q, hso, .inl ⟨by omega, rfl, rfl⟩⟩, snil _, Own.nil⟩
      · have g : n5 ≤ 64 := by simp [hE.cmp, cmpR, hxl] at g; omega
        conv => cbv
        rw [hR]; exact ⟨hx, q, 0, A5, n5, c5, rfl, .inr ⟨g1, g2, q, hso, .inr ⟨by omega, rfl, rfl⟩⟩, hst5, how.mono hs⟩
theorem lawUnion (A : Option Addr) (n c : Nat) (xs : List ByteArray) (A' : Option Addr) (n' c' : Nat) (ys : List ByteArray) (w : World) {ez eo ev : Addr} (he : Errs w ez eo ev) (h : Strs w A n c xs) (h' : Strs w A' n' c' ys) : Law Tryd.prog 5 [.slice A n c, .slice A' n' c'] w := by
  refine FC.intro (cs := []) Tryd.func5 (by kernel_rfl) fun E R hE hr hR => ?_
  conv => cbv
  refine st_qi hE (szStringS_q h 1048576 (by omega) (by omega)) fun l hl w1 hs1 => ?_
  have hx := hs1.ext
  conv => cbv
  refine br (fun _ => ?_) (fun g => ?_)
  · conv => cbv
    rw [hR]; exact ⟨hx, rfl⟩
  have g : 0 ≤ l := by simpa [hE.cmp, cmpR] using g
  have hn := room_bulk h.len (by omega : 0 ≤ room 1048576 (bulk xs))
  rw [← hl] at hn
  conv => cbv
  refine st_qi hE (szStringS_q (h'.ext hx) l g (by omega)) fun l' hl' w2 hs2 => ?_
  have hx := hx.trans hs2.ext
  conv => cbv
  refine br (fun _ => ?_) (fun g' => ?_)
  · conv => cbv
    rw [hR]; exact ⟨hx, rfl⟩
  have g' : 0 ≤ l' := by simpa [hE.cmp, cmpR] using g'
  have hn' := room_bulk h'.len (by omega : 0 ≤ room l (bulk ys))
  rw [← hl'] at hn'
  have l1 := h.len
  have l2 := h'.len
  conv => cbv
  refine st_f hr (toStringS_f (h.ext hx) (by omega)) fun v w3 hx3 ⟨A3, n3, c3, ev, h3, _⟩ => ?_
  subst ev
  have e3 := h3.len
  have hx := hx.trans hx3
  conv => cbv
  refine st_f hr (toStringS_f (h'.ext hx) (by omega)) fun v w4 hx4 ⟨A4, n4, c4, ev, h4, _⟩ => ?_
  subst ev
  have e4 := h4.len
  have hx := hx.trans hx4
  conv => cbv
  refine st_f hr (sUnion_f (h3.ext hx4) h4 (by omega) (by omega)) fun v w5 hx5 ⟨r, kz, A5, n5, c5, ev, hop, h5, o5⟩ => ?_
  subst ev
  have hx := hx.trans hx5
  have k5 := hx.size
  conv => cbv
  refine st_f hr (toStringS_f (h.ext hx) (by omega)) fun v w6 hx6 ⟨A6, n6, c6, ev, h6, o6⟩ => ?_
  subst ev
  have e6 := h6.len
  have a56 := (o5.apart o6 (Nat.le_refl _)).1
  have hx := hx.trans hx6
  have k6 := hx.size
  conv => cbv
  refine st_f hr (toStringS_f (h'.ext hx) (by omega)) fun v w7 hx7 ⟨A7, n7, c7, ev, h7, o7⟩ => ?_
  subst ev
  have e7 := h7.len
  have a57 := ((o5.bel hx6).apart o7 (Nat.le_refl _)).1
  have a67 := o6.apart o7 (Nat.le_refl _)
  have hx := hx.trans hx7
  have k7 := hx.size
  conv => cbv
  refine st_f hr (Union_f (he.ext hx) (h6.ext hx7) h7 (by omega) (by omega)) fun v w8 hx8 ⟨r', kz', A8, n8, c8, ev, hop', h8, o8⟩ => ?_
  subst ev
  obtain ⟨rfl, rfl⟩ := hop.same hop'
  clear hop'
  have e8 := h8.len
  have lr := hop.len
  have ezz : E.cmp .neq kz kz = false := by rw [hE.cmp]; simp [cmpR]
  have a58 := ((o5.bel (hx6.trans hx7)).apart o8 (Nat.le_refl _)).1
  have a68 := ((o6.bel hx7).apart o8 (Nat.le_refl _)).2
  have a78 := (o7.apart o8 (Nat.le_refl _)).2
  have sr := h8.small
  have hx := hx.trans hx8
  have q5 := ((o5.bel hx6).bel hx7).bel hx8
  have q6 := ((o6.mono k5).bel hx7).bel hx8
  have q7 := (o7.mono k6).bel hx8
  have q8 := o8.mono k7
  clear h3 h4 o5 o6 o7 o8
  conv => cbv
  refine st_qb hE (eqStringS_q h8 (h5.ext ((hx6.trans hx7).trans hx8))) fun v hv w9 hs9 => ?_
  obtain rfl : v = true := hv.2 rfl
  have hx := hx.trans hs9.ext
  have hy := hs9.ext
  conv => cbv
  simp only [ezz]
  conv => cbv
  refine st_f hr (toStringS_f (h.ext hx) (by omega)) fun v w10 hx10 ⟨A10, n10, c10, ev, h10, _⟩ => ?_
  subst ev
  have hx := hx.trans hx10
  have hy := hy.trans hx10
  conv => cbv
  refine st_qb hE (eqStringS_q (h6.ext ((hx7.trans hx8).trans hy)) h10) fun v hv w11 hs11 => ?_
  obtain rfl : v = true := hv.2 rfl
  have hx := hx.trans hs11.ext
  have hy := hy.trans hs11.ext
  conv => cbv
  refine st_f hr (toStringS_f (h'.ext hx) (by omega)) fun v w12 hx12 ⟨A12, n12, c12, ev, h12, _⟩ => ?_
  subst ev
  have hx := hx.trans hx12
  have hy := hy.trans hx12
  conv => cbv
  refine st_qb hE (eqStringS_q (h7.ext (hx8.trans hy)) h12) fun v hv w13 hs13 => ?_
  obtain rfl : v = true := hv.2 rfl
  have hx := hx.trans hs13.ext
  have hy := hy.trans hs13.ext
  replace q5 := q5.bel hy
  replace q6 := q6.bel hy
  replace q7 := q7.bel hy
  replace q8 := q8.bel hy
  clear h5 h6 h7 h8 h10 h12 hy
  conv => cbv
  refine st_g hr (markStringS_g q6 1 (by omega) (by omega)) fun v w14 ⟨ev, _, hw⟩ => ?_
  subst ev
  replace hx := hx.then (hw.bel q6 hx.size)
  clear q6
  replace q5 := q5.wr hw a56
  replace q7 := q7.wr hw a67.2
  replace q8 := q8.wr hw a68
  obtain ⟨z1, hz1⟩ : ∃ z : Int, z = 1 + (n6 : Int) := ⟨_, rfl⟩
  rw [← hz1]
  conv => cbv
  refine st_g hr (markStringS_g q7 z1 (by omega) (by omega)) fun v w15 ⟨ev, _, hw⟩ => ?_
  subst ev
  replace hx := hx.then (hw.bel q7 hx.size)
  clear q7
  replace q5 := q5.wr hw a57
  replace q8 := q8.wr hw a78
  obtain ⟨z2, hz2⟩ : ∃ z : Int, z = z1 + (n7 : Int) := ⟨_, rfl⟩
  rw [← hz2]
  conv => cbv
  have ez : E.cmp .lss z2 0 = false := by rw [hE.cmp]; simp [cmpR]; omega
  simp only [ez]
  conv => cbv
  refine st_qb hE (eqStringS_q (q8.strs sr) (q5.strs sr)) fun v hv w16 hs16 => ?_
  obtain rfl : v = true := hv.2 rfl
  have hx := hx.trans hs16.ext
  replace q5 := q5.bel hs16.ext
  replace q8 := q8.bel hs16.ext
  conv => cbv
  simp only [ezz]
  conv => cbv
  refine st_g hr (markStringS_g q8 1 (by omega) (by omega)) fun v w17 ⟨ev, q8', hw⟩ => ?_
  subst ev
  replace hx := hx.then (hw.bel q8 hx.size)
  clear q8
  replace q5 := q5.wr hw a58
  have s8 := q8'.strs (marks_small (by omega))
  clear q8'
  obtain ⟨z3, hz3⟩ : ∃ z : Int, z = 1 + (n8 : Int) := ⟨_, rfl⟩
  rw [← hz3]
  conv => cbv
  refine st_v hr (heldStringS_v s8 (by omega) (by omega)) fun w18 hx18 => ?_
  rw [← hz3]
  have hx := hx.trans hx18
  replace q5 := q5.bel hx18
  replace s8 := s8.ext hx18
  have ez : E.cmp .lss z3 0 = false := by rw [hE.cmp]; simp [cmpR]; omega
  have ez2 : E.cmp .neq z3 z3 = false := by rw [hE.cmp]; simp [cmpR]
  conv => cbv
  simp only [ez]
  conv => cbv
  simp only [ez2]
  conv => cbv
  refine st_f hr (toStringS_f (h.ext hx) (by omega)) fun v w19 hx19 ⟨A19, n19, c19, ev, h19, _⟩ => ?_
  subst ev
  have e19 := h19.len
  have hx := hx.trans hx19
  conv => cbv
  refine st_f hr (toStringS_f (h'.ext hx) (by omega)) fun v w20 hx20 ⟨A20, n20, c20, ev, h20, _⟩ => ?_
  subst ev
  have e20 := h20.len
  have hx := hx.trans hx20
  conv => cbv
  refine st_f hr (Union_f (he.ext hx) (h19.ext hx20) h20 (by omega) (by omega)) fun v w21 hx21 ⟨r', kz', A21, n21, c21, ev, hop', h21, _⟩ => ?_
  subst ev
  obtain ⟨rfl, rfl⟩ := hop.same hop'
  have hx := hx.trans hx21
  have hy := (hx19.trans hx20).trans hx21
  conv => cbv
  refine st_qb hE (eqStringS_q h21 ((q5.bel hy).strs sr)) fun v hv w22 hs22 => ?_
  obtain rfl : v = true := hv.2 rfl
  have hx := hx.trans hs22.ext
  have hy := hy.trans hs22.ext
  conv => cbv
  simp only [ezz]
  conv => cbv
  refine st_v hr (heldStringS_v (s8.ext hy) (by omega) (by omega)) fun w23 hx23 => ?_
  rw [← hz3]
  conv => cbv
  simp only [ez]
  conv => cbv
  simp only [ez2]
  conv => cbv
  rw [hR]; exact ⟨hx.trans hx23, rfl⟩
end Go.Proofs.YtpphichjabjodaaDoor
