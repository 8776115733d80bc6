/- The program's Verify walked. -/
import Derived.Test.YtmbonalhbibppaaDoorV15
namespace Go.Proofs.YtmbonalhbibppaaDoor
open Go.Eng
set_option linter.unusedVariables false
set_option linter.unusedSimpArgs false
theorem run_bVf (A A2 A3 : Option Addr) (n c n2 c2 n3 c3 : Nat) (sl : Int) (w : World) : (Instr.build 95 #[(0, .agg ⟨[.slice A n c, .int .i64 sl, .slice A2 n2 c2]⟩), (1, .slice A3 n3 c3)]).run Tryd.prog w = .ok (.agg ⟨vfV A n c sl A2 n2 c2 A3 n3 c3 0⟩) w := by kernel_rfl
theorem st_bVf {E : Sym} {w : World} {K : Value → World → Prop} {d : Option Tmp} {ty : TypeId} {pos : String} {aft : Array Edge} {g : Option (Nat × Bool)} {bq : Bool} (hE : EngB bq Tryd.prog E) {A A2 A3 : Option Addr} {n c n2 c2 n3 c3 : Nat} {sl : Int} {x y : Operand} (hk : K (.agg ⟨vfV A n c sl A2 n2 c2 A3 n3 c3 0⟩) w) : E.stop ⟨d, .build 95 ⟨[(0, x), (1, y)]⟩, ty, pos, aft, g⟩ [.agg ⟨[.slice A n c, .int .i64 sl, .slice A2 n2 c2]⟩, .slice A3 n3 c3] w K := by
  refine hE.det (v := .agg ⟨vfV A n c sl A2 n2 c2 A3 n3 c3 0⟩) (fun w1 _ ρ hρ => ?_) hk
  simp only [opnds, List.map_cons, List.map_nil, List.cons.injEq, and_true] at hρ
  have := run_bVf A A2 A3 n c n2 c2 n3 c3 sl w1
  simp [execOp, hρ, this]
theorem run_bSt1 (A2 : Option Addr) (n2 c2 : Nat) (w : World) : (Instr.build 98 #[(1, .slice A2 n2 c2)]).run Tryd.prog w = .ok (.agg #[.slice none 0 0, .slice A2 n2 c2]) w := by kernel_rfl
theorem st_bSt1 {E : Sym} {w : World} {K : Value → World → Prop} {d : Option Tmp} {ty : TypeId} {pos : String} {aft : Array Edge} {g : Option (Nat × Bool)} {bq : Bool} (hE : EngB bq Tryd.prog E) {A2 : Option Addr} {n2 c2 : Nat} {y : Operand} (hk : K (.agg ⟨[.slice none 0 0, .slice A2 n2 c2]⟩) w) : E.stop ⟨d, .build 98 ⟨[(1, y)]⟩, ty, pos, aft, g⟩ [.slice A2 n2 c2] w K := by
  refine hE.det (v := .agg ⟨[.slice none 0 0, .slice A2 n2 c2]⟩) (fun w1 _ ρ hρ => ?_) hk
  simp only [opnds, List.map_cons, List.map_nil, List.cons.injEq, and_true] at hρ
  have := run_bSt1 A2 n2 c2 w1
  simp [execOp, hρ, this]
theorem start_irep {B : Nat} {w : World} {sl : Int} {n : Nat} {x : Addr} (h0 : 0 ≤ sl) (hx : StB B w x ([], List.replicate sl.toNat 0)) : IRep B w sl ((List.replicate n none).set 0 (some x)) 0 (start sl) := by
  intro k p _ hp
  rw [List.getElem?_set] at hp
  by_cases e : 0 = k
  · subst e
    rw [if_pos rfl] at hp
    split at hp
    · cases hp
      exact ⟨fun q => (by cases q), fun y e => by cases e; exact ⟨_, rfl, ⟨by simp, by simp, by simp, by simp; omega⟩, hx⟩⟩
    · cases hp
  · rw [if_neg e] at hp
    have : p = none := (List.mem_replicate.1 (List.mem_of_getElem? hp)).2
    subst this
    exact ⟨fun _ => by unfold start; rw [if_neg (Ne.symm e)], fun y q => by cases q⟩
set_option maxHeartbeats 4000000 in
theorem implVerify_f {w : World} (hT1 : Tab w 6 constF) (hT2 : Tab w 8 opF) {A A2 : Option Addr} {n c n2 c2 : Nat} {sl : Int} {pv : List PV} {is : List (Int × Int)} (h : CodeR w A n A2 n2 pv is) (hn : n ≤ 9223372036854775807) (hn2 : n2 ≤ 9223372036854775807) :
    FC Tryd.prog 16 [codeV A n c sl A2 n2 c2] w fun v _ => v = .tuple ⟨[.int .i64 (verF pv sl is).1, .int .i64 (verF pv sl is).2]⟩ := by
  refine FC.intro (cs := []) Tryd.func16 (by kernel_rfl) fun E R hE hr hR => ?_
  have hil := h.ins.len
  conv => cbv
  refine st_box hr fun a0 w1 hx hb0 => ?_
  have hb := hb0 _ (Nat.le_refl _)
  clear hb0
  conv => cbv
  refine st_loadS hE tIC rfl hb.at ?_
  conv => cbv
  refine st_f hr (shapeOK_f (c := c) (c2 := c2) (sl := sl) (hT1.ext hx) (h.ext hx) hn hn2) fun v w2 hx2 ⟨b, ev, hsh⟩ => ?_
  subst ev
  replace hb := hb.bel hx2
  replace hx := hx.trans hx2
  clear hx2
  cases b with
  | false =>
    have hsh : ¬ shapeP pv sl is := fun q => absurd (hsh.2 q) (by simp)
    conv => cbv
    rw [hR]; exact ⟨hx, by unfold verF; rw [if_pos hsh]; rfl⟩
  | true =>
  have hsh := hsh.1 rfl
  obtain ⟨q1, q2, q3, q4, q5, q6⟩ := id hsh
  conv => cbv
  (refine st_fld hE fIC2 fun p hp => ?_; (conv => cbv); refine st_load hE cIIs (by rw [hp]; exact (hb).at _ _ rfl) ?_; clear hp; (conv => cbv))
  refine st_len hE sII fun x1 hx1 => ?_
  conv => cbv
  refine br (fun g => ?_) (fun g => ?_)
  · have g : x1 = 0 := by simpa [hE.cmp, cmpR] using g
    conv => cbv
    rw [hR]; exact ⟨hx, by unfold verF; rw [if_neg (fun q => q hsh), if_pos (List.eq_nil_of_length_eq_zero (by omega))]; rfl⟩
  have g : x1 ≠ 0 := by simpa [hE.cmp, cmpR] using g
  have hne : is ≠ [] := fun q => by rw [q] at hil; simp at hil; omega
  obtain ⟨V, hV0⟩ : ∃ V, V = verL pv sl is.length is 0 (start sl) 0 := ⟨_, rfl⟩
  have hVe : verF pv sl is = V := by unfold verF; rw [if_neg (fun q => q hsh), if_neg hne, hV0]
  rw [hVe] at hR
  clear hVe
  conv => cbv
  refine draw_h [0, 1, 2, 3] [(4, false), (5, false), (6, false), (7, true)] hr fol (by kernel_rfl) fun E' hE' w3 hs3 S hS => ?_
  replace hb := hb.bel hs3.ext
  replace hx := hx.trans hs3.ext
  conv => cbv
  refine st_loadS hE' tIC rfl hb.at ?_
  conv => cbv
  (refine st_fld hE' fIC2 fun p hp => ?_; (conv => cbv); refine st_load hE' cIIs (by rw [hp]; exact (hb).at _ _ rfl) ?_; clear hp; (conv => cbv))
  refine st_len hE' sII fun x2 hx2 => ?_
  conv => cbv
  refine st_make hr sPs rfl (m := n2) (by omega) (by omega) (by omega) fun A1 w4 hx4 h10 => ?_
  refine ⟨hS _ hx4, ?_⟩
  have h1 := h10 _ hx.size
  obtain ⟨gs, rfl, _⟩ := h1.addr (by omega)
  have apb := (hb.apart (h10 _ (Nat.le_refl _)) (Nat.le_refl _)).1
  have hb4 := hb.bel hx4
  have hsz1 : w.heap.size ≤ w4.heap.size := (hx.trans hx4).size
  conv => cbv
  refine st_bVf hE ?_
  refine ⟨hS _ hx4, ?_⟩
  conv => cbv
  refine st_box hr fun a w5 hx5 h20 => ?_
  refine ⟨hS _ (hx4.trans hx5), ?_⟩
  have h2 := h20 _ hsz1
  have ap := h1.apart (h20 _ (Nat.le_refl _)) (Nat.le_refl _)
  replace h1 := h1.bel hx5
  replace hb := hb4.bel hx5
  replace hx := (hx.trans hx4).trans hx5
  obtain ⟨B1, hB1⟩ : ∃ B1, B1 = w5.heap.size := ⟨_, rfl⟩
  have hv : VfR w.heap.size B1 w5 a A n c sl A2 n2 c2 gs 0 (List.replicate n2 none) :=
    ⟨h2, by rw [List.map_replicate]; exact h1, ⟨ap.2, ap.1⟩, fun hw => hw.above h2 (by omega), fun hw => hw.above h1 (by omega), by omega⟩
  have hB0 : w.heap.size ≤ B1 := by have := hx.size; omega
  clear h1 h2 h20 h10 hx4 hx5 hb4 hS hs3 ap
  conv => cbv
  refine draw_t [0, 1, 2, 3, 4, 5] [(6, true), (7, true), (8, true), (9, false), (10, false)] hr fol (by kernel_rfl) fun E' hE' w6 hs6 S hS => ?_
  replace hb := hb.bel hs6.ext
  replace hx := hx.trans hs6.ext
  replace hv := hv.ext hs6.ext
  clear hs6
  conv => cbv
  (refine st_nil hE' ?_; (conv => cbv); refine st_fld hE' fVf1 fun p hp => ?_; (conv => cbv); refine st_load hE' cPs (by rw [hp]; exact (hv.box).at _ _ rfl) ?_; clear hp; (conv => cbv))
  (refine st_fld hE' fIC1 fun p hp => ?_; (conv => cbv); refine st_load hE' cInt (by rw [hp]; exact (hb).at _ _ rfl) ?_; clear hp; (conv => cbv))
  obtain ⟨sn, hsn⟩ : ∃ sn : Nat, sl = sn := ⟨sl.toNat, by omega⟩
  refine st_make hr tInts rfl (m := sn) hsn (by omega) (by omega) fun A3 w7 hx7 h30 => ?_
  refine ⟨hS _ hx7, ?_⟩
  have h3 := h30 B1 hv.siz
  conv => cbv
  refine st_bSt1 hE ?_
  refine ⟨hS _ hx7, ?_⟩
  conv => cbv
  refine st_box hr fun x8 w8 hx8 h80 => ?_
  refine ⟨hS _ (hx7.trans hx8), ?_⟩
  have h8 := h80 B1 (hv.ext hx7).siz
  replace h3 := h3.bel hx8
  replace hb := hb.bel (hx7.trans hx8)
  replace hx := hx.trans (hx7.trans hx8)
  replace hv := hv.ext (hx7.trans hx8)
  have hst : StB B1 w8 x8 ([], List.replicate sl.toNat 0) := ⟨_, _, _, _, _, _, h8, ⟨Own.nil, by rw [show sl.toNat = sn by omega, List.map_replicate]; exact h3⟩⟩
  clear h8 h3 h80 h30 hx7 hx8 hS
  conv => cbv
  refine st_idx hE sPs rfl (by omega) (by omega) fun p hp => ?_
  conv => cbv
  refine st_put hr zPt hv.row (j := 0) hp (by rw [List.length_map, List.length_replicate]; omega) rfl fun w9 hw9 h9 => ?_
  have hrep : IRep B1 w9 sl ((List.replicate n2 none).set 0 (some x8)) 0 (start sl) := start_irep (by omega) (hst.above (hv.abS hw9))
  replace hb : Box w.heap.size 45 3 w9 a0 [.slice A n c, .int .i64 sl, .slice A2 n2 c2] := hb.wr hw9 apb
  replace hx := hx.then (hw9.bel hv.row hx.size)
  replace hv : VfR w.heap.size B1 w9 a A n c sl A2 n2 c2 gs 0 ((List.replicate n2 none).set 0 (some x8)) :=
    ⟨hv.box.wr hw9 hv.apt.1, by rw [List.map_set]; exact h9, hv.apt, hv.abA, hv.abS, by have := hv.siz; have := hw9.size; omega⟩
  clear hw9 h9 hp hst
  conv => cbv
  (refine st_fld hE fIC2 fun p hp => ?_; (conv => cbv); refine st_load hE cIIs (by rw [hp]; exact (hb).at _ _ rfl) ?_; clear hp; (conv => cbv))
  refine st_len hE sII fun x3 hx3 => ?_
  conv => cbv
  refine loop_rule hr (fun (s : Nat × Int × List (Option Addr) × Sts × Int) w' => s.1 ≤ n2 ∧ s.2.1 = (s.1 : Int) ∧ Ext w w' ∧ VfR w.heap.size B1 w' a A n c sl A2 n2 c2 gs s.2.2.2.2 s.2.2.1 ∧ IRep B1 w' sl s.2.2.1 s.1 s.2.2.2.1 ∧ verL pv sl is.length (is.drop s.1) s.1 s.2.2.2.1 s.2.2.2.2 = V)
    (fun s => [(4, .pointer (some a)), (33, .int .i64 x3), (34, .int .i64 s.2.1)]) (fun s => n2 - s.1) (0, 0, (List.replicate n2 none).set 0 (some x8), start sl, 0)
    (by simp [Fits, lk]) ⟨by simp, by simp, hx, hv, hrep, by simpa using hV0.symm⟩ ?_
  clear hb hx hv hrep hV0
  rintro I hI ⟨i, ii, ps, f, m⟩ w' ⟨hi, hii, hx, hv, hrep, hV⟩
  simp only at hi hii hv hrep hV
  obtain ⟨ij, hij⟩ : ∃ z, z = ii + 1 := ⟨_, rfl⟩
  conv => cbv
  refine br (fun g2 => ?_) (fun g2 => ?_)
  · have g2 : i < n2 := by
      have : ii < x3 := by simpa [hE.cmp, cmpR] using g2
      omega
    have ei : E.ar .add .i64 ii 1 = ij := by rw [hE.ar, hij]; exact wrap_in (by omega) (by omega)
    obtain ⟨⟨o, gg⟩, hio⟩ : ∃ x, is[i]? = some x := ⟨_, List.getElem?_eq_getElem (by omega)⟩
    have hdr : is.drop i = (o, gg) :: is.drop (i + 1) := by
      obtain ⟨z1, z2⟩ := List.getElem?_eq_some_iff.1 hio
      rw [List.drop_eq_getElem_cons z1, z2]
    rw [hdr, verL_cons, hil] at hV
    conv => cbv
    refine st_g hr (place_g h hT2 hx hB0 hv hrep hsh hii g2 hio) fun v w10 ⟨cd, ev, hx10, hcd⟩ => ?_
    subst ev
    conv => cbv
    rcases hcd with ⟨h0, h1⟩ | ⟨h0, f', m', ps', h1, hv2, hrep2⟩
    · rw [h1] at hV
      simp only at hV
      refine br (fun g3 => ?_) (fun g3 => ?_)
      · conv => cbv
        rw [hR]; exact ⟨hx10, by rw [← hV]; rfl⟩
      · exact absurd (by simpa [hE.cmp, cmpR] using g3) h0
    · rw [h1] at hV
      simp only at hV
      refine br (fun g3 => ?_) (fun g3 => ?_)
      · exact absurd h0 (by simpa [hE.cmp, cmpR] using g3)
      · conv => cbv
        simp only [ei]
        exact ⟨(i + 1, ij, ps', f', m'), by simp [Fits, lk], hI _ _ ⟨by simp only; omega, by simp only; omega, hx10, hv2, hrep2, by rw [hil]; exact hV⟩, by simp only; omega⟩
  · have g2 : i = n2 := by
      have : ¬ ii < x3 := by simpa [hE.cmp, cmpR] using g2
      omega
    rw [List.drop_of_length_le (by omega), verL] at hV
    conv => cbv
    (refine st_nil hE ?_; (conv => cbv); refine st_fld hE fVf2 fun p hp => ?_; (conv => cbv); refine st_load hE cInt (by rw [hp]; exact (hv.box).at _ _ rfl) ?_; clear hp; (conv => cbv))
    rw [hR]; exact ⟨hx, by rw [← hV]; rfl⟩
end Go.Proofs.YtmbonalhbibppaaDoor
