/- Requests: their size, copy, equality and validity; the law ValidRequest. -/
import Derived.Test.YtpphichjabjodaaEng3
import Derived.Test.YtpphichjabjodaaL6
namespace Go.Proofs.Ytpphichjabjodaa
open Go.Eng
theorem uI64 : Try.prog.underlying 2 = some (.int .i64) := Try.underlying2
theorem cI64 : Cel Try.prog 2 := ⟨_, uI64, by simp, by simp⟩
theorem cStrs : Cel Try.prog 24 := ⟨_, Try.underlying24, by simp, by simp⟩
theorem tLReq : Stc Try.prog 30 6 [.string ⟨#[]⟩, .string ⟨#[]⟩, .int .i64 0, .int .i64 0, .slice none 0 0, .slice none 0 0] := ⟨by kernel_rfl, by kernel_rfl⟩
theorem tIReq : Stc Try.prog 33 6 [.string ⟨#[]⟩, .string ⟨#[]⟩, .int .i64 0, .int .i64 0, .slice none 0 0, .slice none 0 0] := ⟨by kernel_rfl, by kernel_rfl⟩
theorem zStr : (Try.prog.info? 9).map (·.size) = some 1 := by kernel_rfl
theorem zI64 : (Try.prog.info? 2).map (·.size) = some 1 := by kernel_rfl
theorem zStrs : (Try.prog.info? 24).map (·.size) = some 1 := by kernel_rfl
theorem fL0 : Fld Try.prog 30 0 0 := ⟨by kernel_rfl⟩
theorem fL1 : Fld Try.prog 30 1 1 := ⟨by kernel_rfl⟩
theorem fL2 : Fld Try.prog 30 2 2 := ⟨by kernel_rfl⟩
theorem fL3 : Fld Try.prog 30 3 3 := ⟨by kernel_rfl⟩
theorem fL4 : Fld Try.prog 30 4 4 := ⟨by kernel_rfl⟩
theorem fL5 : Fld Try.prog 30 5 5 := ⟨by kernel_rfl⟩
theorem fI0 : Fld Try.prog 33 0 0 := ⟨by kernel_rfl⟩
theorem fI1 : Fld Try.prog 33 1 1 := ⟨by kernel_rfl⟩
theorem fI2 : Fld Try.prog 33 2 2 := ⟨by kernel_rfl⟩
theorem fI3 : Fld Try.prog 33 3 3 := ⟨by kernel_rfl⟩
theorem fI4 : Fld Try.prog 33 4 4 := ⟨by kernel_rfl⟩
theorem fI5 : Fld Try.prog 33 5 5 := ⟨by kernel_rfl⟩
section
variable {w : World} {cl us : ByteArray} {lv nw : Int} {A A' : Option Addr} {n c n' c' : Nat} {xs ys : List ByteArray}
theorem szRequest_f (hc : cl.size ≤ 9223372036854775807) (hu : us.size ≤ 9223372036854775807) (h : Strs w A n c xs) (h' : Strs w A' n' c' ys) :
    FC Try.prog 20 [.agg ⟨[.string cl, .string us, .int .i64 lv, .int .i64 nw, .slice A n c, .slice A' n' c']⟩, .int .i64 1048576] w fun v _ => ∃ z : Int, v = .int .i64 z ∧ (0 ≤ z → n ≤ 1048576 ∧ n' ≤ 1048576) := by
  refine FC.intro (cs := []) Try.func20 (by kernel_rfl) fun E R hE hr hR => ?_
  conv => cbv
  refine st_box hr fun a w1 hx hb0 => ?_
  have hb := hb0 _ (Nat.le_refl _)
  conv => cbv
  (refine st_fld hE fL0 fun p hp => ?_; (conv => cbv); refine st_load hE cStr (by rw [hp]; exact (hb).at _ _ rfl) ?_; clear hp; (conv => cbv))
  refine st_slen hE uStr fun x1 hx1 => ?_
  conv => cbv
  obtain ⟨y1, hy1⟩ : ∃ y, y = 1048576 - x1 := ⟨_, rfl⟩
  have e1 : E.ar .sub .i64 1048576 x1 = y1 := by rw [hE.ar, hy1]; exact wrap_in (by omega) (by omega)
  simp only [e1]
  refine br (fun _ => ?_) (fun g1 => ?_)
  · conv => cbv
    rw [hR]; exact ⟨hx, -1, rfl, fun h => by omega⟩
  have g1 : 0 ≤ y1 := by simpa [hE.cmp, cmpR] using g1
  conv => cbv
  (refine st_fld hE fL1 fun p hp => ?_; (conv => cbv); refine st_load hE cStr (by rw [hp]; exact (hb).at _ _ rfl) ?_; clear hp; (conv => cbv))
  refine st_slen hE uStr fun x2 hx2 => ?_
  conv => cbv
  obtain ⟨y2, hy2⟩ : ∃ y, y = y1 - x2 := ⟨_, rfl⟩
  have e1 : E.ar .sub .i64 y1 x2 = y2 := by rw [hE.ar, hy2]; exact wrap_in (by omega) (by omega)
  simp only [e1]
  refine br (fun _ => ?_) (fun g2 => ?_)
  · conv => cbv
    rw [hR]; exact ⟨hx, -1, rfl, fun h => by omega⟩
  have g2 : 0 ≤ y2 := by simpa [hE.cmp, cmpR] using g2
  conv => cbv
  (refine st_fld hE fL4 fun p hp => ?_; (conv => cbv); refine st_load hE cStrs (by rw [hp]; exact (hb).at _ _ rfl) ?_; clear hp; (conv => cbv))
  refine st_qi hE (szStringS_q (h.ext hx) y2 g2 (by omega)) fun l hl w2 hs2 => ?_
  have hx := hx.trans hs2.ext
  have hb := hb.bel hs2.ext
  conv => cbv
  refine br (fun _ => ?_) (fun g => ?_)
  · conv => cbv
    rw [hR]; exact ⟨hx, -1, rfl, fun h => by omega⟩
  have g : 0 ≤ l := by simpa [hE.cmp, cmpR] using g
  have hn := room_bulk h.len (by omega : 0 ≤ room y2 (bulk xs))
  rw [← hl] at hn
  conv => cbv
  (refine st_fld hE fL5 fun p hp => ?_; (conv => cbv); refine st_load hE cStrs (by rw [hp]; exact (hb).at _ _ rfl) ?_; clear hp; (conv => cbv))
  refine st_qi hE (szStringS_q (h'.ext hx) l g (by omega)) fun l' hl' w3 hs3 => ?_
  have hx := hx.trans hs3.ext
  conv => cbv
  refine br (fun _ => ?_) (fun g' => ?_)
  · conv => cbv
    rw [hR]; exact ⟨hx, -1, rfl, fun h => by omega⟩
  have g' : 0 ≤ l' := by simpa [hE.cmp, cmpR] using g'
  have hn' := room_bulk h'.len (by omega : 0 ≤ room l (bulk ys))
  rw [← hl'] at hn'
  conv => cbv
  rw [hR]; exact ⟨hx, l', rfl, fun _ => by omega⟩
theorem toRequest_f (h : Strs w A n c xs) (h' : Strs w A' n' c' ys) (hn : n ≤ 1048576) (hn' : n' ≤ 1048576) :
    FC Try.prog 22 [.agg ⟨[.string cl, .string us, .int .i64 lv, .int .i64 nw, .slice A n c, .slice A' n' c']⟩] w fun v w' => ∃ A1 n1 c1 A2 n2 c2, v = .agg ⟨[.string cl, .string us, .int .i64 lv, .int .i64 nw, .slice A1 n1 c1, .slice A2 n2 c2]⟩ ∧ Strs w' A1 n1 c1 xs ∧ Strs w' A2 n2 c2 ys := by
  refine FC.intro (cs := []) Try.func22 (by kernel_rfl) fun E R hE hr hR => ?_
  conv => cbv
  refine st_box hr fun a w1 hx hb0 => ?_
  have hb := hb0 _ (Nat.le_refl _)
  conv => cbv
  refine st_alloc hr tIReq rfl fun o w2 hx2 ho0 => ?_
  have ho := ho0 _ hx.size
  have hb := hb.bel hx2
  have hx := hx.trans hx2
  conv => cbv
  refine st_alloc hr tIReq rfl fun q w3 hx3 hq0 => ?_
  have hq := hq0 _ hx.size
  have aq := (hb.apart (hq0 _ (Nat.le_refl _)) (Nat.le_refl _)).1
  have oq := (ho.apart (hq0 _ (Nat.le_refl _)) (Nat.le_refl _)).1
  have hb := hb.bel hx3
  have ho := ho.bel hx3
  have hx := hx.trans hx3
  clear hb0 ho0 hq0
  conv => cbv
  (refine st_fld hE fL0 fun p hp => ?_; (conv => cbv); refine st_load hE cStr (by rw [hp]; exact (hb).at _ _ rfl) ?_; clear hp; (conv => cbv))
  (refine st_fld hE fI0 fun p hp => ?_; (conv => cbv); refine st_put hr zStr hq hp (by simp) rfl fun wn hw hq2 => ?_; replace hx := hx.then (hw.bel hq hx.size); (try clear hq); (have hq := hq2); clear hq2; (simp only [List.set_cons_zero, List.set_cons_succ] at hq); clear hp)
  replace hb := hb.wr hw aq
  replace ho := ho.wr hw oq
  conv => cbv
  (refine st_fld hE fL1 fun p hp => ?_; (conv => cbv); refine st_load hE cStr (by rw [hp]; exact (hb).at _ _ rfl) ?_; clear hp; (conv => cbv))
  (refine st_fld hE fI1 fun p hp => ?_; (conv => cbv); refine st_put hr zStr hq hp (by simp) rfl fun wn hw hq2 => ?_; replace hx := hx.then (hw.bel hq hx.size); (try clear hq); (have hq := hq2); clear hq2; (simp only [List.set_cons_zero, List.set_cons_succ] at hq); clear hp)
  replace hb := hb.wr hw aq
  replace ho := ho.wr hw oq
  conv => cbv
  (refine st_fld hE fL2 fun p hp => ?_; (conv => cbv); refine st_load hE cI64 (by rw [hp]; exact (hb).at _ _ rfl) ?_; clear hp; (conv => cbv))
  (refine st_fld hE fI2 fun p hp => ?_; (conv => cbv); refine st_put hr zI64 hq hp (by simp) rfl fun wn hw hq2 => ?_; replace hx := hx.then (hw.bel hq hx.size); (try clear hq); (have hq := hq2); clear hq2; (simp only [List.set_cons_zero, List.set_cons_succ] at hq); clear hp)
  replace hb := hb.wr hw aq
  replace ho := ho.wr hw oq
  conv => cbv
  (refine st_fld hE fL3 fun p hp => ?_; (conv => cbv); refine st_load hE cI64 (by rw [hp]; exact (hb).at _ _ rfl) ?_; clear hp; (conv => cbv))
  (refine st_fld hE fI3 fun p hp => ?_; (conv => cbv); refine st_put hr zI64 hq hp (by simp) rfl fun wn hw hq2 => ?_; replace hx := hx.then (hw.bel hq hx.size); (try clear hq); (have hq := hq2); clear hq2; (simp only [List.set_cons_zero, List.set_cons_succ] at hq); clear hp)
  replace hb := hb.wr hw aq
  replace ho := ho.wr hw oq
  conv => cbv
  (refine st_fld hE fL4 fun p hp => ?_; (conv => cbv); refine st_load hE cStrs (by rw [hp]; exact (hb).at _ _ rfl) ?_; clear hp; (conv => cbv))
  refine st_f hr (toStringS_f (h.ext hx) hn) fun v w4 hx4 ⟨A4, n4, c4, ev, h4, o4⟩ => ?_
  subst ev
  have ax := (hq.apart o4 (Nat.le_refl _)).2
  have bx := (ho.apart o4 (Nat.le_refl _)).2
  replace o4 := o4.mono hx.size
  replace hb := hb.bel hx4
  replace ho := ho.bel hx4
  replace hq := hq.bel hx4
  replace hx := hx.trans hx4
  conv => cbv
  (refine st_fld hE fI4 fun p hp => ?_; (conv => cbv); refine st_put hr zStrs hq hp (by simp) rfl fun wn hw hq2 => ?_; replace hx := hx.then (hw.bel hq hx.size); (try clear hq); (have hq := hq2); clear hq2; (simp only [List.set_cons_zero, List.set_cons_succ] at hq); clear hp)
  replace hb := hb.wr hw aq
  replace ho := ho.wr hw oq
  replace o4 := o4.wr hw ax
  conv => cbv
  (refine st_fld hE fL5 fun p hp => ?_; (conv => cbv); refine st_load hE cStrs (by rw [hp]; exact (hb).at _ _ rfl) ?_; clear hp; (conv => cbv))
  refine st_f hr (toStringS_f (h'.ext hx) hn') fun v w5 hx5 ⟨A5, n5, c5, ev, h5, o5⟩ => ?_
  subst ev
  have ay := (hq.apart o5 (Nat.le_refl _)).2
  have bY := (ho.apart o5 (Nat.le_refl _)).2
  replace o5 := o5.mono hx.size
  replace hb := hb.bel hx5
  replace ho := ho.bel hx5
  replace hq := hq.bel hx5
  replace o4 := o4.bel hx5
  replace hx := hx.trans hx5
  conv => cbv
  (refine st_fld hE fI5 fun p hp => ?_; (conv => cbv); refine st_put hr zStrs hq hp (by simp) rfl fun wn hw hq2 => ?_; replace hx := hx.then (hw.bel hq hx.size); (try clear hq); (have hq := hq2); clear hq2; (simp only [List.set_cons_zero, List.set_cons_succ] at hq); clear hp)
  replace o4 := o4.wr hw ax
  replace o5 := o5.wr hw ay
  replace ho := ho.wr hw oq
  conv => cbv
  refine st_loadS hE tIReq rfl hq.at ?_
  conv => cbv
  refine st_putS hr (by kernel_rfl) ho (add_zero _).symm (by simp) (by simp [Value.oneCell']) fun w7 hw ho2 => ?_
  replace hx := hx.then (hw.bel ho hx.size)
  simp only [List.take_zero, List.nil_append, List.length_cons, List.length_nil, List.drop_succ_cons, List.drop_nil, List.append_nil] at ho2
  conv => cbv
  refine st_cell hr tIReq rfl ho2.at ?_
  rw [hR]; exact ⟨hx, A4, n4, c4, A5, n5, c5, rfl, (o4.wr hw bx).strs h.small, (o5.wr hw bY).strs h'.small⟩
def validReq (cl us : ByteArray) (xs ys : List ByteArray) : Prop := validName cl ∧ validName us ∧ isSet xs ∧ isSet ys
/-- A request that is valid. -/
theorem ValidRequest_f (hc : cl.size ≤ 9223372036854775807) (hu : us.size ≤ 9223372036854775807) (h : Strs w A n c xs) (h' : Strs w A' n' c' ys) :
    FC Try.prog 23 [.agg ⟨[.string cl, .string us, .int .i64 lv, .int .i64 nw, .slice A n c, .slice A' n' c']⟩] w fun v _ => ∃ b : Bool, v = .bool b ∧ (b = true ↔ validReq cl us xs ys) := by
  refine FC.intro (cs := []) Try.func23 (by kernel_rfl) fun E R hE hr hR => ?_
  conv => cbv
  refine st_box hr fun a w1 hx hb0 => ?_
  have hb := hb0 _ (Nat.le_refl _)
  conv => cbv
  (refine st_fld hE fI0 fun p hp => ?_; (conv => cbv); refine st_load hE cStr (by rw [hp]; exact (hb).at _ _ rfl) ?_; clear hp; (conv => cbv))
  refine st_qb hE (ValidName_q cl _ hc) fun b1 hb1 w2 hs2 => ?_
  replace hb := hb.bel hs2.ext
  replace hx := hx.trans hs2.ext
  cases b1
  · conv => cbv
    rw [hR]; exact ⟨hx, false, rfl, by simp only [Bool.false_eq_true, false_iff] at hb1 ⊢; exact fun k => hb1 k.1⟩
  have hb1 := hb1.1 rfl
  conv => cbv
  (refine st_fld hE fI1 fun p hp => ?_; (conv => cbv); refine st_load hE cStr (by rw [hp]; exact (hb).at _ _ rfl) ?_; clear hp; (conv => cbv))
  refine st_qb hE (ValidName_q us _ hu) fun b2 hb2 w3 hs3 => ?_
  replace hb := hb.bel hs3.ext
  replace hx := hx.trans hs3.ext
  cases b2
  · conv => cbv
    rw [hR]; exact ⟨hx, false, rfl, by simp only [Bool.false_eq_true, false_iff] at hb2 ⊢; exact fun k => hb2 k.2.1⟩
  have hb2 := hb2.1 rfl
  conv => cbv
  (refine st_fld hE fI4 fun p hp => ?_; (conv => cbv); refine st_load hE cStrs (by rw [hp]; exact (hb).at _ _ rfl) ?_; clear hp; (conv => cbv))
  refine st_qb hE (IsSet_q (h.ext hx)) fun b3 hb3 w4 hs4 => ?_
  replace hb := hb.bel hs4.ext
  replace hx := hx.trans hs4.ext
  cases b3
  · conv => cbv
    rw [hR]; exact ⟨hx, false, rfl, by simp only [Bool.false_eq_true, false_iff] at hb3 ⊢; exact fun k => hb3 k.2.2.1⟩
  have hb3 := hb3.1 rfl
  conv => cbv
  (refine st_fld hE fI5 fun p hp => ?_; (conv => cbv); refine st_load hE cStrs (by rw [hp]; exact (hb).at _ _ rfl) ?_; clear hp; (conv => cbv))
  refine st_qb hE (IsSet_q (h'.ext hx)) fun b4 hb4 w5 hs5 => ?_
  replace hx := hx.trans hs5.ext
  conv => cbv
  rw [hR]; exact ⟨hx, b4, rfl, by rw [hb4]; exact ⟨fun k => ⟨hb1, hb2, hb3, k⟩, fun k => k.2.2.2⟩⟩
/-- A request that is valid. -/
theorem sValidRequest_f (hc : cl.size ≤ 9223372036854775807) (hu : us.size ≤ 9223372036854775807) (h : Strs w A n c xs) (h' : Strs w A' n' c' ys) :
    FC Try.prog 21 [.agg ⟨[.string cl, .string us, .int .i64 lv, .int .i64 nw, .slice A n c, .slice A' n' c']⟩] w fun v _ => ∃ b : Bool, v = .bool b ∧ (b = true ↔ validReq cl us xs ys) := by
  refine FC.intro (cs := []) Try.func21 (by kernel_rfl) fun E R hE hr hR => ?_
  conv => cbv
  refine st_box hr fun a w1 hx hb0 => ?_
  have hb := hb0 _ (Nat.le_refl _)
  conv => cbv
  (refine st_fld hE fI0 fun p hp => ?_; (conv => cbv); refine st_load hE cStr (by rw [hp]; exact (hb).at _ _ rfl) ?_; clear hp; (conv => cbv))
  refine st_qb hE (sValidName_q cl _ hc) fun b1 hb1 w2 hs2 => ?_
  replace hb := hb.bel hs2.ext
  replace hx := hx.trans hs2.ext
  cases b1
  · conv => cbv
    rw [hR]; exact ⟨hx, false, rfl, by simp only [Bool.false_eq_true, false_iff] at hb1 ⊢; exact fun k => hb1 k.1⟩
  have hb1 := hb1.1 rfl
  conv => cbv
  (refine st_fld hE fI1 fun p hp => ?_; (conv => cbv); refine st_load hE cStr (by rw [hp]; exact (hb).at _ _ rfl) ?_; clear hp; (conv => cbv))
  refine st_qb hE (sValidName_q us _ hu) fun b2 hb2 w3 hs3 => ?_
  replace hb := hb.bel hs3.ext
  replace hx := hx.trans hs3.ext
  cases b2
  · conv => cbv
    rw [hR]; exact ⟨hx, false, rfl, by simp only [Bool.false_eq_true, false_iff] at hb2 ⊢; exact fun k => hb2 k.2.1⟩
  have hb2 := hb2.1 rfl
  conv => cbv
  (refine st_fld hE fI4 fun p hp => ?_; (conv => cbv); refine st_load hE cStrs (by rw [hp]; exact (hb).at _ _ rfl) ?_; clear hp; (conv => cbv))
  refine st_qb hE (sIsSet_q (h.ext hx)) fun b3 hb3 w4 hs4 => ?_
  replace hb := hb.bel hs4.ext
  replace hx := hx.trans hs4.ext
  cases b3
  · conv => cbv
    rw [hR]; exact ⟨hx, false, rfl, by simp only [Bool.false_eq_true, false_iff] at hb3 ⊢; exact fun k => hb3 k.2.2.1⟩
  have hb3 := hb3.1 rfl
  conv => cbv
  (refine st_fld hE fI5 fun p hp => ?_; (conv => cbv); refine st_load hE cStrs (by rw [hp]; exact (hb).at _ _ rfl) ?_; clear hp; (conv => cbv))
  refine st_qb hE (sIsSet_q (h'.ext hx)) fun b4 hb4 w5 hs5 => ?_
  replace hx := hx.trans hs5.ext
  conv => cbv
  rw [hR]; exact ⟨hx, b4, rfl, by rw [hb4]; exact ⟨fun k => ⟨hb1, hb2, hb3, k⟩, fun k => k.2.2.2⟩⟩
end
theorem eqRequest_f {w : World} {cl us cl' us' : ByteArray} {lv nw lv' nw' : Int} {A A' A1 A1' : Option Addr} {n c n' c' m k m' k' : Nat} {xs ys xs' ys' : List ByteArray} (h : Strs w A n c xs) (h' : Strs w A' n' c' ys) (h1 : Strs w A1 m k xs') (h1' : Strs w A1' m' k' ys') :
    FC Try.prog 24 [.agg ⟨[.string cl, .string us, .int .i64 lv, .int .i64 nw, .slice A n c, .slice A' n' c']⟩, .agg ⟨[.string cl', .string us', .int .i64 lv', .int .i64 nw', .slice A1 m k, .slice A1' m' k']⟩] w fun v _ => (cl = cl' ∧ us = us' ∧ lv = lv' ∧ nw = nw' ∧ xs = xs' ∧ ys = ys') → v = .bool true := by
  refine FC.intro (cs := []) Try.func24 (by kernel_rfl) fun E R hE hr hR => ?_
  conv => cbv
  refine st_box hr fun a w1 hx ha0 => ?_
  have ha := ha0 _ (Nat.le_refl _)
  conv => cbv
  refine st_box hr fun b w2 hx2 hb0 => ?_
  have hb := hb0 _ hx.size
  replace ha := ha.bel hx2
  replace hx := hx.trans hx2
  clear ha0 hb0
  conv => cbv
  (refine st_fld hE fI0 fun p hp => ?_; (conv => cbv); refine st_load hE cStr (by rw [hp]; exact (ha).at _ _ rfl) ?_; clear hp; (conv => cbv))
  (refine st_fld hE fI0 fun p hp => ?_; (conv => cbv); refine st_load hE cStr (by rw [hp]; exact (hb).at _ _ rfl) ?_; clear hp; (conv => cbv))
  refine br (fun g => ?_) (fun _ => ?_)
  · conv => cbv
    rw [hR]; exact ⟨hx, fun e => absurd e.1 (by simpa [hE.scmp, scmp_neq] using g)⟩
  conv => cbv
  (refine st_fld hE fI1 fun p hp => ?_; (conv => cbv); refine st_load hE cStr (by rw [hp]; exact (ha).at _ _ rfl) ?_; clear hp; (conv => cbv))
  (refine st_fld hE fI1 fun p hp => ?_; (conv => cbv); refine st_load hE cStr (by rw [hp]; exact (hb).at _ _ rfl) ?_; clear hp; (conv => cbv))
  refine br (fun g => ?_) (fun _ => ?_)
  · conv => cbv
    rw [hR]; exact ⟨hx, fun e => absurd e.2.1 (by simpa [hE.scmp, scmp_neq] using g)⟩
  conv => cbv
  (refine st_fld hE fI2 fun p hp => ?_; (conv => cbv); refine st_load hE cI64 (by rw [hp]; exact (ha).at _ _ rfl) ?_; clear hp; (conv => cbv))
  (refine st_fld hE fI2 fun p hp => ?_; (conv => cbv); refine st_load hE cI64 (by rw [hp]; exact (hb).at _ _ rfl) ?_; clear hp; (conv => cbv))
  refine br (fun g => ?_) (fun _ => ?_)
  · conv => cbv
    rw [hR]; exact ⟨hx, fun e => absurd e.2.2.1 (by simpa [hE.cmp, cmpR] using g)⟩
  conv => cbv
  (refine st_fld hE fI3 fun p hp => ?_; (conv => cbv); refine st_load hE cI64 (by rw [hp]; exact (ha).at _ _ rfl) ?_; clear hp; (conv => cbv))
  (refine st_fld hE fI3 fun p hp => ?_; (conv => cbv); refine st_load hE cI64 (by rw [hp]; exact (hb).at _ _ rfl) ?_; clear hp; (conv => cbv))
  refine br (fun g => ?_) (fun _ => ?_)
  · conv => cbv
    rw [hR]; exact ⟨hx, fun e => absurd e.2.2.2.1 (by simpa [hE.cmp, cmpR] using g)⟩
  conv => cbv
  (refine st_fld hE fI4 fun p hp => ?_; (conv => cbv); refine st_load hE cStrs (by rw [hp]; exact (ha).at _ _ rfl) ?_; clear hp; (conv => cbv))
  (refine st_fld hE fI4 fun p hp => ?_; (conv => cbv); refine st_load hE cStrs (by rw [hp]; exact (hb).at _ _ rfl) ?_; clear hp; (conv => cbv))
  refine st_qb hE (eqStringS_q (h.ext hx) (h1.ext hx)) fun v hv w3 hs3 => ?_
  replace ha := ha.bel hs3.ext
  replace hb := hb.bel hs3.ext
  replace hx := hx.trans hs3.ext
  cases v
  · conv => cbv
    rw [hR]; exact ⟨hx, fun e => absurd (hv.2 e.2.2.2.2.1) (by simp)⟩
  conv => cbv
  (refine st_fld hE fI5 fun p hp => ?_; (conv => cbv); refine st_load hE cStrs (by rw [hp]; exact (ha).at _ _ rfl) ?_; clear hp; (conv => cbv))
  (refine st_fld hE fI5 fun p hp => ?_; (conv => cbv); refine st_load hE cStrs (by rw [hp]; exact (hb).at _ _ rfl) ?_; clear hp; (conv => cbv))
  refine st_qb hE (eqStringS_q (h'.ext hx) (h1'.ext hx)) fun v hv w4 hs4 => ?_
  replace hx := hx.trans hs4.ext
  cases v
  · conv => cbv
    rw [hR]; exact ⟨hx, fun e => absurd (hv.2 e.2.2.2.2.2) (by simp)⟩
  conv => cbv
  rw [hR]; exact ⟨hx, fun _ => rfl⟩
/-- The law. -/
theorem lawValidRequest (cl us : ByteArray) (lv nw : Int) (A : Option Addr) (n c : Nat) (xs : List ByteArray) (A' : Option Addr) (n' c' : Nat) (ys : List ByteArray) (w : World) (hc : cl.size ≤ 9223372036854775807) (hu : us.size ≤ 9223372036854775807) (h : Strs w A n c xs) (h' : Strs w A' n' c' ys) :
    Law Try.prog 7 [.agg ⟨[.string cl, .string us, .int .i64 lv, .int .i64 nw, .slice A n c, .slice A' n' c']⟩] w := by
  refine FC.intro (cs := []) Try.func7 (by kernel_rfl) fun E R hE hr hR => ?_
  conv => cbv
  refine st_box hr fun a w1 hx ha0 => ?_
  have ha := ha0 _ (Nat.le_refl _)
  clear ha0
  conv => cbv
  refine st_loadS hE tLReq rfl ha.at ?_
  conv => cbv
  refine st_f hr (szRequest_f hc hu (h.ext hx) (h'.ext hx)) fun v w2 hx2 ⟨z, ev, hz⟩ => ?_
  subst ev
  replace ha := ha.bel hx2
  replace hx := hx.trans hx2
  conv => cbv
  refine br (fun _ => ?_) (fun g => ?_)
  · conv => cbv
    rw [hR]; exact ⟨hx, rfl⟩
  have g : 0 ≤ z := by simpa [hE.cmp, cmpR] using g
  obtain ⟨hn, hn'⟩ := hz g
  conv => cbv
  refine st_loadS hE tLReq rfl ha.at ?_
  conv => cbv
  refine st_f hr (toRequest_f (cl := cl) (us := us) (lv := lv) (nw := nw) (h.ext hx) (h'.ext hx) hn hn') fun v w3 hx3 ⟨A3, n3, c3, B3, m3, k3, ev, h3, h3'⟩ => ?_
  subst ev
  replace ha := ha.bel hx3
  replace hx := hx.trans hx3
  conv => cbv
  refine st_f hr (sValidRequest_f hc hu h3 h3') fun v w4 hx4 ⟨b, ev, hb⟩ => ?_
  subst ev
  replace ha := ha.bel hx4
  replace hx := hx.trans hx4
  conv => cbv
  refine st_loadS hE tLReq rfl ha.at ?_
  conv => cbv
  refine st_f hr (toRequest_f (cl := cl) (us := us) (lv := lv) (nw := nw) (h.ext hx) (h'.ext hx) hn hn') fun v w5 hx5 ⟨A5, n5, c5, B5, m5, k5, ev, h5, h5'⟩ => ?_
  subst ev
  replace ha := ha.bel hx5
  replace hx := hx.trans hx5
  conv => cbv
  refine st_alloc hr tIReq rfl fun q w6 hx6 hq0 => ?_
  have hq := hq0 _ hx.size
  have aq := (ha.apart (hq0 _ (Nat.le_refl _)) (Nat.le_refl _)).1
  have hq5 := hq0 _ (Nat.le_refl _)
  clear hq0
  replace ha := ha.bel hx6
  replace hx := hx.trans hx6
  conv => cbv
  refine st_putS hr (by kernel_rfl) hq (add_zero _).symm (by simp) (by simp [Value.oneCell']) fun w7 hw hq2 => ?_
  replace hx := hx.then (hw.bel hq hx.size)
  have hx5 := hx6.then (hw.bel hq5 hx6.size)
  replace ha := ha.wr hw aq
  simp only [List.take_zero, List.nil_append, List.length_cons, List.length_nil, List.drop_succ_cons, List.drop_nil, List.append_nil] at hq2
  clear hq hq5 hx6 hw
  replace h5 := h5.ext hx5
  replace h5' := h5'.ext hx5
  conv => cbv
  refine st_loadS hE tIReq rfl hq2.at ?_
  conv => cbv
  refine st_f hr (ValidRequest_f hc hu h5 h5') fun v w8 hx8 ⟨b', ev, hb'⟩ => ?_
  subst ev
  replace ha := ha.bel hx8
  replace hq2 := hq2.bel hx8
  replace hx := hx.trans hx8
  replace h5 := h5.ext hx8
  replace h5' := h5'.ext hx8
  conv => cbv
  refine st_bne hE uBool fun v hv => ?_
  obtain rfl : v = false := by rw [← Bool.not_eq_true, hv, hb, hb']; simp
  conv => cbv
  refine draw_h [0, 1] [(2, false), (3, false), (4, false)] hr fol (by kernel_rfl) fun E' hE' w9 hs9 S hS => ?_
  replace ha := ha.bel hs9.ext
  replace hq2 := hq2.bel hs9.ext
  replace hx := hx.trans hs9.ext
  conv => cbv
  refine st_loadS hE' tIReq rfl hq2.at ?_
  conv => cbv
  refine st_loadS hE' tLReq rfl ha.at ?_
  conv => cbv
  refine st_f hr (toRequest_f (cl := cl) (us := us) (lv := lv) (nw := nw) (h.ext hx) (h'.ext hx) hn hn') fun v w10 hx10 ⟨A10, n10, c10, B10, m10, k10, ev, h10, h10'⟩ => ?_
  subst ev
  refine ⟨hS _ hx10, ?_⟩
  have hy := hs9.ext.trans hx10
  replace hx := hx.trans hx10
  conv => cbv
  refine st_f hr (eqRequest_f (h5.ext hy) (h5'.ext hy) h10 h10') fun v w11 hx11 ev => ?_
  have ev := ev ⟨rfl, rfl, rfl, rfl, rfl, rfl⟩
  subst ev
  refine ⟨hS _ (hx10.trans hx11), ?_⟩
  conv => cbv
  refine ⟨hS _ (hx10.trans hx11), ?_⟩
  conv => cbv
  rw [hR]; exact ⟨hx.trans hx11, rfl⟩
end Go.Proofs.Ytpphichjabjodaa
