/- The laws' helpers over whole policies: size, copy, equality. -/
import Derived.Test.YtmbonalhbibppaaDoorP3
namespace Go.Proofs.YtmbonalhbibppaaDoor
open Go.Eng
set_option linter.unusedVariables false
set_option linter.unusedSimpArgs false
abbrev zPol : List Value := [.slice none 0 0, .slice none 0 0]
theorem tLPol : Stc Tryd.prog 25 2 zPol := ⟨by kernel_rfl, by kernel_rfl⟩
theorem tIPol : Stc Tryd.prog 31 2 zPol := ⟨by kernel_rfl, by kernel_rfl⟩
theorem fLPol0 : Fld Tryd.prog 25 0 0 := ⟨by kernel_rfl⟩
theorem fLPol1 : Fld Tryd.prog 25 1 1 := ⟨by kernel_rfl⟩
theorem fIPol0 : Fld Tryd.prog 31 0 0 := ⟨by kernel_rfl⟩
theorem fIPol1 : Fld Tryd.prog 31 1 1 := ⟨by kernel_rfl⟩
theorem bulk_len : ∀ xs : List ByteArray, xs.length ≤ bulk xs
  | [] => by simp [bulk]
  | x :: xs => by have := bulk_len xs; rw [bulk, List.length_cons]; omega
theorem wt_b {nv : List PN} (h : wtNs nv ≤ 1048576) : nv.length ≤ 1048576 ∧ (∀ p ∈ nv, p.xs.length ≤ 1048576) ∧ ∀ p ∈ nv, p.ks.length ≤ 1048576 := by
  refine ⟨by have := wtNs_len nv; omega, fun p hp => ?_, fun p hp => ?_⟩
  · have h1 := wtNs_mem hp; have h2 := bulk_len p.xs; unfold wtN at h1; omega
  · have h1 := wtNs_mem hp; unfold wtN at h1; omega
theorem szPolicy_f {w : World} {A A2 : Option Addr} {n c n2 c2 : Nat} {nv : List PN} {sv : List PS} (h : PolR w A n A2 n2 nv sv) (hn : n ≤ 9223372036854775807) (hn2 : n2 ≤ 9223372036854775807) :
    FC Tryd.prog 8 [polV A n c A2 n2 c2, .int .i64 1048576] w fun v _ => ∃ r : Int, v = .int .i64 r ∧ (0 ≤ r → wtNs nv + wtSs sv ≤ 1048576) := by
  refine FC.intro (cs := []) Tryd.func8 (by kernel_rfl) fun E R hE hr hR => ?_
  conv => cbv
  refine st_box hr fun a w1 hx hb0 => ?_
  have hb := hb0 _ (Nat.le_refl _)
  conv => cbv
  (refine st_fld hE fLPol0 fun p hp => ?_; (conv => cbv); refine st_load hE cLNs (by rw [hp]; exact (hb).at _ _ rfl) ?_; clear hp; (conv => cbv))
  refine st_f hr (szNodeS_f (h.nodes.ext hx) hn 1048576 (by omega) (by omega)) fun v w2 hx2 ⟨r, ev, hr1, hr2⟩ => ?_
  subst ev
  replace hb := hb.bel hx2
  replace hx := hx.trans hx2
  conv => cbv
  refine br (fun _ => ?_) (fun g1 => ?_)
  · conv => cbv
    rw [hR]; exact ⟨hx, -1, rfl, fun h => by omega⟩
  have g1 : 0 ≤ r := by simpa [hE.cmp, cmpR] using g1
  have hr2 := hr2 g1
  conv => cbv
  (refine st_fld hE fLPol1 fun p hp => ?_; (conv => cbv); refine st_load hE cLSs (by rw [hp]; exact (hb).at _ _ rfl) ?_; clear hp; (conv => cbv))
  refine st_f hr (szStmtS_f (h.stmts.ext hx) hn2 r g1 hr1) fun v w3 hx3 ⟨r', ev, hr3, hr4⟩ => ?_
  subst ev
  replace hx := hx.trans hx3
  conv => cbv
  refine br (fun _ => ?_) (fun g2 => ?_)
  · conv => cbv
    rw [hR]; exact ⟨hx, -1, rfl, fun h => by omega⟩
  have g2 : 0 ≤ r' := by simpa [hE.cmp, cmpR] using g2
  have hr4 := hr4 g2
  conv => cbv
  rw [hR]; exact ⟨hx, r', rfl, fun _ => by omega⟩
set_option maxHeartbeats 1000000 in
theorem toPolicy_f {w : World} {A A2 : Option Addr} {n c n2 c2 : Nat} {nv : List PN} {sv : List PS} (h : PolR w A n A2 n2 nv sv) (hw : wtNs nv + wtSs sv ≤ 1048576) :
    FC Tryd.prog 10 [polV A n c A2 n2 c2] w fun v w' => ∃ A1 c1 A3 c3, v = polV A1 n c1 A3 n2 c3 ∧ PolR w' A1 n A3 n2 nv sv := by
  refine FC.intro (cs := []) Tryd.func10 (by kernel_rfl) fun E R hE hr hR => ?_
  obtain ⟨b1, b2, b3⟩ := wt_b (nv := nv) (by omega)
  have b4 := wtSs_len sv
  have hl1 := h.nodes.len
  have hl2 := h.stmts.len
  conv => cbv
  refine st_box hr fun a w1 hx hb0 => ?_
  have hb := hb0 _ (Nat.le_refl _)
  conv => cbv
  refine st_alloc hr tIPol rfl fun o w2 hx2 ho0 => ?_
  have ho := ho0 _ hx.size
  have hb := hb.bel hx2
  have hx := hx.trans hx2
  conv => cbv
  refine st_alloc hr tIPol rfl fun q w3 hx3 hq0 => ?_
  have hq := hq0 _ hx.size
  have aq := (hb.apart (hq0 _ (Nat.le_refl _)) (Nat.le_refl _)).1
  have oq := (ho.apart (hq0 _ (Nat.le_refl _)) (Nat.le_refl _)).1
  have o0 := ho
  have hso := hx3.size
  have hb := hb.bel hx3
  have ho := ho.bel hx3
  have hx := hx.trans hx3
  clear hb0 ho0 hq0
  conv => cbv
  (refine st_fld hE fLPol0 fun p hp => ?_; (conv => cbv); refine st_load hE cLNs (by rw [hp]; exact (hb).at _ _ rfl) ?_; clear hp; (conv => cbv))
  refine st_f hr (toNodeS_f (h.nodes.ext hx) (by omega) b2 b3) fun v w4 hx4 ⟨A4, c4, ev, h4⟩ => ?_
  subst ev
  have hs4 := hx4.size
  have q0 := hq
  replace hb := hb.bel hx4
  replace ho := ho.bel hx4
  replace hq := hq.bel hx4
  replace hx := hx.trans hx4
  conv => cbv
  refine st_fld hE fIPol0 fun p hp => ?_
  conv => cbv
  refine st_put hr zINs hq hp (by simp) rfl fun wm hwm hq2 => ?_
  replace hx := hx.then (hwm.bel hq hx.size)
  have y4 : Above w3.heap.size w4 wm := hwm.above q0 (Nat.le_refl _)
  simp only [List.set_cons_zero, List.set_cons_succ] at hq2
  replace hq := hq2
  replace hb := hb.wr hwm aq
  replace ho := ho.wr hwm oq
  have hsz : w3.heap.size ≤ wm.heap.size := Nat.le_trans hs4 y4.size
  conv => cbv
  (refine st_fld hE fLPol1 fun p hp => ?_; (conv => cbv); refine st_load hE cLSs (by rw [hp]; exact (hb).at _ _ rfl) ?_; clear hp; (conv => cbv))
  refine st_f hr (toStmtS_f (h.stmts.ext hx) (by omega)) fun v w6 hx6 ⟨A6, c6, ev, h6⟩ => ?_
  subst ev
  replace ho := ho.bel hx6
  replace hq := hq.bel hx6
  replace hx := hx.trans hx6
  replace y4 := y4.trans (hx6.above _)
  conv => cbv
  refine st_fld hE fIPol1 fun p2 hp2 => ?_
  conv => cbv
  refine st_put hr zISs hq hp2 (by simp) rfl fun w7 hw7 hq3 => ?_
  have y7 : Above w3.heap.size w6 w7 := hw7.above q0 (Nat.le_refl _)
  replace hx := hx.then (hw7.bel hq hx.size)
  replace ho := ho.wr hw7 oq
  simp only [List.set_cons_zero, List.set_cons_succ] at hq3
  replace y4 := y4.trans y7
  conv => cbv
  refine st_loadS hE tIPol rfl hq3.at ?_
  conv => cbv
  refine st_putS hr (by kernel_rfl) ho (add_zero _).symm (by simp) (by simp [Value.oneCell']) fun w8 hw8 ho8 => ?_
  simp only [List.take_zero, List.nil_append, List.length_cons, List.length_nil, List.drop_succ_cons, List.drop_nil, List.append_nil] at ho8
  have y8 : Above w3.heap.size w7 w8 := hw8.above o0 hso
  conv => cbv
  refine st_cell hr tIPol rfl ho8.at ?_
  rw [hR]; exact ⟨hx.then (hw8.bel ho hx.size), A4, c4, A6, c6, rfl, h4 _ (y4.trans y8), h6 _ ((y7.trans y8).mono hsz)⟩
theorem eqPolicy_f {w : World} {A A2 A3 A4 : Option Addr} {n c n2 c2 c3 c4 : Nat} {nv : List PN} {sv : List PS} (h : PolR w A n A2 n2 nv sv) (h' : PolR w A3 n A4 n2 nv sv) (hn : n ≤ 9223372036854775807) (hn2 : n2 ≤ 9223372036854775807) :
    FC Tryd.prog 12 [polV A n c A2 n2 c2, polV A3 n c3 A4 n2 c4] w fun v _ => v = .bool true := by
  refine FC.intro (cs := []) Tryd.func12 (by kernel_rfl) fun E R hE hr hR => ?_
  conv => cbv
  refine st_box hr fun a w1 hx ha0 => ?_
  have ha := ha0 _ (Nat.le_refl _)
  conv => cbv
  refine st_box hr fun b w2 hx2 hb0 => ?_
  have hb := hb0 _ hx.size
  replace ha := ha.bel hx2
  replace hx := hx.trans hx2
  clear ha0 hb0
  conv => cbv
  (refine st_fld hE fIPol0 fun p hp => ?_; (conv => cbv); refine st_load hE cINs (by rw [hp]; exact (ha).at _ _ rfl) ?_; clear hp; (conv => cbv))
  (refine st_fld hE fIPol0 fun p hp => ?_; (conv => cbv); refine st_load hE cINs (by rw [hp]; exact (hb).at _ _ rfl) ?_; clear hp; (conv => cbv))
  refine st_f hr (eqNodeS_f (h.nodes.ext hx) (h'.nodes.ext hx) hn) fun v w3 hx3 ev => ?_
  subst ev
  replace ha := ha.bel hx3
  replace hb := hb.bel hx3
  replace hx := hx.trans hx3
  conv => cbv
  (refine st_fld hE fIPol1 fun p hp => ?_; (conv => cbv); refine st_load hE cISs (by rw [hp]; exact (ha).at _ _ rfl) ?_; clear hp; (conv => cbv))
  (refine st_fld hE fIPol1 fun p hp => ?_; (conv => cbv); refine st_load hE cISs (by rw [hp]; exact (hb).at _ _ rfl) ?_; clear hp; (conv => cbv))
  refine st_f hr (eqStmtS_f (h.stmts.ext hx) (h'.stmts.ext hx) hn2) fun v w4 hx4 ev => ?_
  subst ev
  conv => cbv
  rw [hR]; exact ⟨hx.trans hx4, rfl⟩
end Go.Proofs.YtmbonalhbibppaaDoor
