/- The laws' helpers over compiled policies, the rest: copies of codes, whether two codes are one. -/
import Derived.Test.YtmbonalhbibppaaDoorV2
namespace Go.Proofs.YtmbonalhbibppaaDoor
open Go.Eng
set_option linter.unusedVariables false
theorem toIns_f {w : World} {o g : Int} : FC Tryd.prog 88 [.agg ⟨[.int .i64 o, .int .i64 g]⟩] w fun v _ => v = .agg ⟨[.int .i64 o, .int .i64 g]⟩ := by
  refine FC.intro (cs := []) Tryd.func88 (by kernel_rfl) fun E R hE hr hR => ?_
  conv => cbv
  refine st_box hr fun a w1 hx hb0 => ?_
  have hb := hb0 _ (Nat.le_refl _)
  conv => cbv
  refine st_alloc hr tII rfl fun o w2 hx2 ho0 => ?_
  have ho := ho0 _ hx.size
  have hb := hb.bel hx2
  have hx := hx.trans hx2
  conv => cbv
  refine st_alloc hr tII rfl fun q w3 hx3 hq0 => ?_
  have hq := hq0 _ hx.size
  have aq := (hb.apart (hq0 _ (Nat.le_refl _)) (Nat.le_refl _)).1
  have oq := (ho.apart (hq0 _ (Nat.le_refl _)) (Nat.le_refl _)).1
  have hb := hb.bel hx3
  have ho := ho.bel hx3
  have hx := hx.trans hx3
  clear hb0 ho0 hq0
  conv => cbv
  (refine st_fld hE fLI0 fun p hp => ?_; (conv => cbv); refine st_load hE cInt (by rw [hp]; exact (hb).at _ _ rfl) ?_; clear hp; (conv => cbv))
  (refine st_fld hE fII0 fun p hp => ?_; (conv => cbv); refine st_put hr zInt hq hp (by simp) rfl fun wn hw hq2 => ?_; replace hx := hx.then (hw.bel hq hx.size); (try clear hq); (have hq := hq2); clear hq2; (simp only [List.set_cons_zero, List.set_cons_succ] at hq); clear hp)
  replace hb := hb.wr hw aq
  replace ho := ho.wr hw oq
  conv => cbv
  (refine st_fld hE fLI1 fun p hp => ?_; (conv => cbv); refine st_load hE cInt (by rw [hp]; exact (hb).at _ _ rfl) ?_; clear hp; (conv => cbv))
  (refine st_fld hE fII1 fun p hp => ?_; (conv => cbv); refine st_put hr zInt hq hp (by simp) rfl fun wn hw hq2 => ?_; replace hx := hx.then (hw.bel hq hx.size); (try clear hq); (have hq := hq2); clear hq2; (simp only [List.set_cons_zero, List.set_cons_succ] at hq); clear hp)
  replace ho := ho.wr hw oq
  conv => cbv
  refine st_loadS hE tII rfl hq.at ?_
  conv => cbv
  refine st_putS hr (by kernel_rfl) ho (add_zero _).symm (by simp) (by simp [Value.oneCell']) fun w5 hw5 ho5 => ?_
  simp only [List.take_zero, List.nil_append, List.length_cons, List.length_nil, List.drop_succ_cons, List.drop_nil, List.append_nil] at ho5
  conv => cbv
  refine st_cell hr tII rfl ho5.at ?_
  rw [hR]; exact ⟨hx.then (hw5.bel ho hx.size), rfl⟩
theorem toInsS_f {w : World} {A : Option Addr} {n c : Nat} {is : List (Int × Int)} (h : InsR w A n is) (hn : n ≤ 1048576) :
    FC Tryd.prog 46 [.slice A n c] w fun v w' => ∃ A1 c1, v = .slice A1 n c1 ∧ ∀ w2, Above w.heap.size w' w2 → InsR w2 A1 n is := by
  refine FC.intro (cs := []) Tryd.func46 (by kernel_rfl) fun E R hE hr hR => ?_
  have hl := h.len
  conv => cbv
  refine st_len hE sLI fun x hx => ?_
  conv => cbv
  refine st_makeK hr sII rfl (m := n) (by omega) (by omega) (by omega) fun A1 w1 hx1 h10 => ?_
  have h1 := h10 _ (Nat.le_refl _)
  rw [show (Value.agg ⟨zI⟩).cells = ⟨iC (0, 0)⟩ from rfl, made_fl (f := iC) (0, 0) n 2 rfl (by omega)] at h1
  conv => cbv
  refine loop_rule hr (fun (s : Nat × Int) w' => s.1 ≤ n ∧ s.2 = (s.1 : Int) ∧ Ext w w' ∧ Own w.heap.size 156 2 w' A1 n n ((is.take s.1 ++ List.replicate (n - s.1) (0, 0)).flatMap iC))
    (fun s => [(0, .slice A n c), (3, .slice A1 n n), (4, .int .i64 s.2)]) (fun s => n - s.1) (0, 0)
    (by simp [Fits, lk]) ⟨by simp, by simp, hx1, by simpa using h1⟩ ?_
  rintro I hI ⟨i, ii⟩ w' ⟨hi, hii, hxw, ho⟩
  simp only at hi hii ho
  obtain ⟨ii', hii'⟩ : ∃ z, z = ii + 1 := ⟨_, rfl⟩
  conv => cbv
  refine st_len hE sLI fun x2 hx2 => ?_
  conv => cbv
  refine br (fun g2 => ?_) (fun g2 => ?_)
  · have g2 : i < n := by
      have : ii < x2 := by simpa [hE.cmp, cmpR] using g2
      omega
    have ei : E.ar .add .i64 ii 1 = ii' := by rw [hE.ar, hii']; exact wrap_in (by omega) (by omega)
    obtain ⟨a, o, g, hA, hg, hc⟩ := (h.ext hxw).get g2
    obtain ⟨gb, rfl, _⟩ := ho.addr (by omega)
    conv => cbv
    refine st_idx hE sLI hA (by omega) (by omega) fun q hq => ?_
    rw [show ii.toNat = i by omega] at hq
    conv => cbv
    refine st_loadS hE tLI rfl (by rw [hq]; exact hc) ?_
    conv => cbv
    refine st_f hr (toIns_f (o := o) (g := g)) fun v w2 hx3 ev => ?_
    subst ev
    replace ho := ho.bel hx3
    replace hxw := hxw.trans hx3
    conv => cbv
    refine st_idx hE sII rfl (by omega) (by omega) fun q1 hq1 => ?_
    rw [show ii.toNat = i by omega] at hq1
    conv => cbv
    refine st_putS hr (vs := [.int .i64 o, .int .i64 g]) (by kernel_rfl) ho (j := i * 2) hq1 (by rw [fl_len iC_len]; simp; omega) (by simp [Value.oneCell']) fun w3 hw3 ho3 => ?_
    rw [show [Value.int .i64 o, .int .i64 g] = iC (o, g) from rfl, fl_put iC_len _ i (o, g) (by simp; omega)] at ho3
    have hset : (is.take i ++ List.replicate (n - i) ((0, 0) : Int × Int)).set i (o, g) = is.take (i + 1) ++ List.replicate (n - (i + 1)) (0, 0) := by
      rw [List.set_append_right _ _ (by simp; omega), List.length_take, Nat.min_eq_left (by omega), Nat.sub_self, show n - i = (n - (i + 1)) + 1 by omega, List.replicate_succ, List.set_cons_zero, List.take_add_one, hg, List.append_assoc]; rfl
    rw [hset] at ho3
    conv => cbv
    simp only [ei]
    exact ⟨(i + 1, ii'), by simp [Fits, lk], hI _ _ ⟨by simp only; omega, by simp only; omega, hxw.then (hw3.bel ho hxw.size), ho3⟩, by simp only; omega⟩
  · have g2 : i = n := by
      have : ¬ ii < x2 := by simpa [hE.cmp, cmpR] using g2
      omega
    subst g2
    rw [List.take_of_length_le (by omega)] at ho
    simp only [Nat.sub_self, List.replicate_zero, List.append_nil] at ho
    conv => cbv
    rw [hR]; exact ⟨hxw, A1, i, rfl, fun w2 ha => ⟨hl, (ho.above ha).cells⟩⟩
set_option maxHeartbeats 1000000 in
theorem toCode_f {w : World} {A A2 : Option Addr} {n c n2 c2 : Nat} {sl : Int} {pv : List PV} {is : List (Int × Int)} (h : CodeR w A n A2 n2 pv is) (hn : n ≤ 1048576) (hn2 : n2 ≤ 1048576) (hp : ∀ p ∈ pv, p.xs.length ≤ 1048576) :
    FC Tryd.prog 15 [codeV A n c sl A2 n2 c2] w fun v w' => ∃ A1 c1 A3 c3, v = codeV A1 n c1 sl A3 n2 c3 ∧ CodeR w' A1 n A3 n2 pv is := by
  refine FC.intro (cs := []) Tryd.func15 (by kernel_rfl) fun E R hE hr hR => ?_
  conv => cbv
  refine st_box hr fun a w1 hx hb0 => ?_
  have hb := hb0 _ (Nat.le_refl _)
  conv => cbv
  refine st_alloc hr tIC rfl fun o w2 hx2 ho0 => ?_
  have ho := ho0 _ hx.size
  have hb := hb.bel hx2
  have hx := hx.trans hx2
  conv => cbv
  refine st_alloc hr tIC rfl fun q w3 hx3 hq0 => ?_
  have hq := hq0 _ hx.size
  have aq := (hb.apart (hq0 _ (Nat.le_refl _)) (Nat.le_refl _)).1
  have oq := (ho.apart (hq0 _ (Nat.le_refl _)) (Nat.le_refl _)).1
  have o0 := ho
  have hso := hx3.size
  have hb := hb.bel hx3
  have ho := ho.bel hx3
  have hx := hx.trans hx3
  clear hb0 ho0 hq0
  conv => cbv
  (refine st_fld hE fLC0 fun p hp => ?_; (conv => cbv); refine st_load hE cLVs (by rw [hp]; exact (hb).at _ _ rfl) ?_; clear hp; (conv => cbv))
  refine st_f hr (toValueS_f (h.pool.ext hx) hn hp) fun v w4 hx4 ⟨A4, c4, ev, h4⟩ => ?_
  subst ev
  have hs4 := hx4.size
  have q0 := hq
  replace hb := hb.bel hx4
  replace ho := ho.bel hx4
  replace hq := hq.bel hx4
  replace hx := hx.trans hx4
  conv => cbv
  (refine st_fld hE fIC0 fun p hp => ?_; (conv => cbv); refine st_put hr zIVs hq hp (by simp) rfl fun wn hw hq2 => ?_; replace hx := hx.then (hw.bel hq hx.size); (try clear hq); (have hq := hq2); clear hq2; (simp only [List.set_cons_zero, List.set_cons_succ] at hq); clear hp)
  have y4 : Above w3.heap.size w4 wn := hw.above q0 (Nat.le_refl _)
  replace hb := hb.wr hw aq
  replace ho := ho.wr hw oq
  conv => cbv
  (refine st_fld hE fLC1 fun p hp => ?_; (conv => cbv); refine st_load hE cInt (by rw [hp]; exact (hb).at _ _ rfl) ?_; clear hp; (conv => cbv))
  refine st_fld hE fIC1 fun p hp => ?_
  conv => cbv
  refine st_put hr zInt hq hp (by simp) rfl fun wm hwm hq2 => ?_
  replace hx := hx.then (hwm.bel hq hx.size)
  replace y4 := y4.trans (hwm.above q0 (Nat.le_refl _))
  simp only [List.set_cons_zero, List.set_cons_succ] at hq2
  replace hq := hq2
  replace hb := hb.wr hwm aq
  replace ho := ho.wr hwm oq
  have hsz : w3.heap.size ≤ wm.heap.size := Nat.le_trans hs4 y4.size
  conv => cbv
  (refine st_fld hE fLC2 fun p hp => ?_; (conv => cbv); refine st_load hE cLIs (by rw [hp]; exact (hb).at _ _ rfl) ?_; clear hp; (conv => cbv))
  refine st_f hr (toInsS_f (h.ins.ext hx) hn2) fun v w6 hx6 ⟨A6, c6, ev, h6⟩ => ?_
  subst ev
  replace ho := ho.bel hx6
  replace hq := hq.bel hx6
  replace hx := hx.trans hx6
  replace y4 := y4.trans (hx6.above _)
  conv => cbv
  refine st_fld hE fIC2 fun p2 hp2 => ?_
  conv => cbv
  refine st_put hr zIIs hq hp2 (by simp) rfl fun w7 hw7 hq3 => ?_
  have y7 : Above w3.heap.size w6 w7 := hw7.above q0 (Nat.le_refl _)
  replace hx := hx.then (hw7.bel hq hx.size)
  replace ho := ho.wr hw7 oq
  simp only [List.set_cons_zero, List.set_cons_succ] at hq3
  replace y4 := y4.trans y7
  conv => cbv
  refine st_loadS hE tIC rfl hq3.at ?_
  conv => cbv
  refine st_putS hr (by kernel_rfl) ho (add_zero _).symm (by simp) (by simp [Value.oneCell']) fun w8 hw8 ho8 => ?_
  simp only [List.take_zero, List.nil_append, List.length_cons, List.length_nil, List.drop_succ_cons, List.drop_nil, List.append_nil] at ho8
  have y8 : Above w3.heap.size w7 w8 := hw8.above o0 hso
  conv => cbv
  refine st_cell hr tIC rfl ho8.at ?_
  rw [hR]; exact ⟨hx.then (hw8.bel ho hx.size), A4, c4, A6, c6, rfl, h4 _ (y4.trans y8), h6 _ ((y7.trans y8).mono hsz)⟩
theorem eqValue_f {w : World} {k z : Int} {tx : ByteArray} {A A1 : Option Addr} {m c m1 c1 : Nat} {xs : List ByteArray} (h : Strs w A m c xs) (h1 : Strs w A1 m1 c1 xs) :
    FC Tryd.prog 96 [.agg ⟨[.int .i64 k, .int .i64 z, .string tx, .slice A m c]⟩, .agg ⟨[.int .i64 k, .int .i64 z, .string tx, .slice A1 m1 c1]⟩] w fun v _ => v = .bool true := by
  refine FC.intro (cs := []) Tryd.func96 (by kernel_rfl) fun E R hE hr hR => ?_
  have ei : ∀ z : Int, ¬ E.cmp .neq z z = true := fun z => by rw [hE.cmp]; simp [cmpR]
  have es : ∀ z : ByteArray, ¬ E.scmp .neq z z = true := fun z => by rw [hE.scmp, scmp_neq]; simp
  conv => cbv
  refine st_box hr fun a w1 hx ha0 => ?_
  have ha := ha0 _ (Nat.le_refl _)
  conv => cbv
  refine st_box hr fun b w2 hx2 hb0 => ?_
  have hb := hb0 _ hx.size
  replace ha := ha.bel hx2
  replace hx := hx.trans hx2
  clear ha0 hb0
  conv => cbv
  (refine st_fld hE fIV0 fun p hp => ?_; (conv => cbv); refine st_load hE cInt (by rw [hp]; exact (ha).at _ _ rfl) ?_; clear hp; (conv => cbv))
  (refine st_fld hE fIV0 fun p hp => ?_; (conv => cbv); refine st_load hE cInt (by rw [hp]; exact (hb).at _ _ rfl) ?_; clear hp; (conv => cbv))
  refine br (fun g => absurd g (ei _)) (fun _ => ?_)
  conv => cbv
  (refine st_fld hE fIV1 fun p hp => ?_; (conv => cbv); refine st_load hE cI64 (by rw [hp]; exact (ha).at _ _ rfl) ?_; clear hp; (conv => cbv))
  (refine st_fld hE fIV1 fun p hp => ?_; (conv => cbv); refine st_load hE cI64 (by rw [hp]; exact (hb).at _ _ rfl) ?_; clear hp; (conv => cbv))
  refine br (fun g => absurd g (ei _)) (fun _ => ?_)
  conv => cbv
  (refine st_fld hE fIV2 fun p hp => ?_; (conv => cbv); refine st_load hE cStr (by rw [hp]; exact (ha).at _ _ rfl) ?_; clear hp; (conv => cbv))
  (refine st_fld hE fIV2 fun p hp => ?_; (conv => cbv); refine st_load hE cStr (by rw [hp]; exact (hb).at _ _ rfl) ?_; clear hp; (conv => cbv))
  refine br (fun g => absurd g (es _)) (fun _ => ?_)
  conv => cbv
  (refine st_fld hE fIV3 fun p hp => ?_; (conv => cbv); refine st_load hE cStrs (by rw [hp]; exact (ha).at _ _ rfl) ?_; clear hp; (conv => cbv))
  (refine st_fld hE fIV3 fun p hp => ?_; (conv => cbv); refine st_load hE cStrs (by rw [hp]; exact (hb).at _ _ rfl) ?_; clear hp; (conv => cbv))
  refine st_qb hE (eqStringS_q (h.ext hx) (h1.ext hx)) fun v hv w3 hs3 => ?_
  obtain rfl : v = true := hv.2 rfl
  conv => cbv
  rw [hR]; exact ⟨hx.trans hs3.ext, rfl⟩
theorem eqIns_f {w : World} {o g : Int} :
    FC Tryd.prog 97 [.agg ⟨[.int .i64 o, .int .i64 g]⟩, .agg ⟨[.int .i64 o, .int .i64 g]⟩] w fun v _ => v = .bool true := by
  refine FC.intro (cs := []) Tryd.func97 (by kernel_rfl) fun E R hE hr hR => ?_
  have ei : ∀ z : Int, ¬ E.cmp .neq z z = true := fun z => by rw [hE.cmp]; simp [cmpR]
  conv => cbv
  refine st_box hr fun a w1 hx ha0 => ?_
  have ha := ha0 _ (Nat.le_refl _)
  conv => cbv
  refine st_box hr fun b w2 hx2 hb0 => ?_
  have hb := hb0 _ hx.size
  replace ha := ha.bel hx2
  replace hx := hx.trans hx2
  clear ha0 hb0
  conv => cbv
  (refine st_fld hE fII0 fun p hp => ?_; (conv => cbv); refine st_load hE cInt (by rw [hp]; exact (ha).at _ _ rfl) ?_; clear hp; (conv => cbv))
  (refine st_fld hE fII0 fun p hp => ?_; (conv => cbv); refine st_load hE cInt (by rw [hp]; exact (hb).at _ _ rfl) ?_; clear hp; (conv => cbv))
  refine br (fun g => absurd g (ei _)) (fun _ => ?_)
  conv => cbv
  (refine st_fld hE fII1 fun p hp => ?_; (conv => cbv); refine st_load hE cInt (by rw [hp]; exact (ha).at _ _ rfl) ?_; clear hp; (conv => cbv))
  (refine st_fld hE fII1 fun p hp => ?_; (conv => cbv); refine st_load hE cInt (by rw [hp]; exact (hb).at _ _ rfl) ?_; clear hp; (conv => cbv))
  refine br (fun g => absurd g (ei _)) (fun _ => ?_)
  conv => cbv
  rw [hR]; exact ⟨hx, rfl⟩
theorem eqValueS_f {w : World} {A A1 : Option Addr} {n c c1 : Nat} {xs : List PV} (h : Pool w A n xs) (h1 : Pool w A1 n xs) (hn : n ≤ 9223372036854775807) :
    FC Tryd.prog 49 [.slice A n c, .slice A1 n c1] w fun v _ => v = .bool true := by
  refine FC.intro (cs := []) Tryd.func49 (by kernel_rfl) fun E R hE hr hR => ?_
  have ei : ∀ z : Int, ¬ E.cmp .neq z z = true := fun z => by rw [hE.cmp]; simp [cmpR]
  conv => cbv
  refine st_len hE sIV fun x hx => ?_
  conv => cbv
  refine st_len hE sIV fun x' hx' => ?_
  obtain rfl : x = x' := by rw [hx, hx']
  conv => cbv
  refine br (fun g => absurd g (ei _)) (fun _ => ?_)
  conv => cbv
  refine loop_rule hr (fun (s : Nat × Int) w' => s.1 ≤ n ∧ s.2 = (s.1 : Int) ∧ Ext w w') (fun s => [(0, .slice A n c), (1, .slice A1 n c1), (5, .int .i64 s.2)]) (fun s => n - s.1) (0, 0)
    (by simp [Fits, lk]) ⟨by simp, by simp, Ext.refl _⟩ ?_
  rintro I hI ⟨i, z⟩ w' ⟨hi, hz, hxw⟩
  simp only at hi hz
  obtain ⟨z', hz'⟩ : ∃ z', z' = z + 1 := ⟨_, rfl⟩
  conv => cbv
  refine st_len hE sIV fun y hy => ?_
  conv => cbv
  refine br (fun g => ?_) (fun g => ?_)
  · have g : i < n := by
      have : z < y := by simpa [hE.cmp, cmpR] using g
      omega
    have e1 : E.ar .add .i64 z 1 = z' := by rw [hE.ar, hz']; exact wrap_in (by omega) (by omega)
    conv => cbv
    refine draw_h [0, 1, 2, 3, 4, 5, 6, 7] [(8, false), (9, false)] hr fol (by kernel_rfl) fun E' hE' w0 hs0 S hS => ?_
    replace hxw := hxw.trans hs0.ext
    obtain ⟨a, k, u, tx, xs, A2, m, c2, hA, hg, hc, hs, ht⟩ := (h.ext hxw).get g
    obtain ⟨a1, k1, u1, tx1, xs1, A3, m1, c3, hA1, hg1, hc1, hs1, ht1⟩ := (h1.ext hxw).get g
    rw [hg] at hg1
    simp only [Option.some.injEq, PV.mk.injEq] at hg1
    obtain ⟨rfl, rfl, rfl, rfl⟩ := hg1
    conv => cbv
    refine st_idx hE' sIV hA (by omega) (by omega) fun q hq => ?_
    rw [show z.toNat = i by omega] at hq
    conv => cbv
    refine st_loadS hE' tIV rfl (by rw [hq]; exact hc) ?_
    conv => cbv
    refine st_idx hE' sIV hA1 (by omega) (by omega) fun q1 hq1 => ?_
    rw [show z.toNat = i by omega] at hq1
    conv => cbv
    refine st_loadS hE' tIV rfl (by rw [hq1]; exact hc1) ?_
    conv => cbv
    refine st_f hr (eqValue_f (k := k) (z := u) (tx := tx) hs hs1) fun v w2 hx2 ev => ?_
    subst ev
    replace hxw := hxw.trans hx2
    refine ⟨hS _ hx2, ?_⟩
    conv => cbv
    refine ⟨hS _ hx2, ?_⟩
    conv => cbv
    simp only [e1]
    exact ⟨(i + 1, z'), by simp [Fits, lk], hI _ _ ⟨by simp only; omega, by simp only; omega, hxw⟩, by simp only; omega⟩
  · conv => cbv
    rw [hR]; exact ⟨hxw, rfl⟩
theorem eqInsS_f {w : World} {A A1 : Option Addr} {n c c1 : Nat} {xs : List (Int × Int)} (h : InsR w A n xs) (h1 : InsR w A1 n xs) (hn : n ≤ 9223372036854775807) :
    FC Tryd.prog 50 [.slice A n c, .slice A1 n c1] w fun v _ => v = .bool true := by
  refine FC.intro (cs := []) Tryd.func50 (by kernel_rfl) fun E R hE hr hR => ?_
  have ei : ∀ z : Int, ¬ E.cmp .neq z z = true := fun z => by rw [hE.cmp]; simp [cmpR]
  conv => cbv
  refine st_len hE sII fun x hx => ?_
  conv => cbv
  refine st_len hE sII fun x' hx' => ?_
  obtain rfl : x = x' := by rw [hx, hx']
  conv => cbv
  refine br (fun g => absurd g (ei _)) (fun _ => ?_)
  conv => cbv
  refine loop_rule hr (fun (s : Nat × Int) w' => s.1 ≤ n ∧ s.2 = (s.1 : Int) ∧ Ext w w') (fun s => [(0, .slice A n c), (1, .slice A1 n c1), (5, .int .i64 s.2)]) (fun s => n - s.1) (0, 0)
    (by simp [Fits, lk]) ⟨by simp, by simp, Ext.refl _⟩ ?_
  rintro I hI ⟨i, z⟩ w' ⟨hi, hz, hxw⟩
  simp only at hi hz
  obtain ⟨z', hz'⟩ : ∃ z', z' = z + 1 := ⟨_, rfl⟩
  conv => cbv
  refine st_len hE sII fun y hy => ?_
  conv => cbv
  refine br (fun g => ?_) (fun g => ?_)
  · have g : i < n := by
      have : z < y := by simpa [hE.cmp, cmpR] using g
      omega
    have e1 : E.ar .add .i64 z 1 = z' := by rw [hE.ar, hz']; exact wrap_in (by omega) (by omega)
    conv => cbv
    refine draw_h [0, 1, 2, 3, 4, 5, 6, 7] [(8, false), (9, false)] hr fol (by kernel_rfl) fun E' hE' w0 hs0 S hS => ?_
    replace hxw := hxw.trans hs0.ext
    obtain ⟨a, o, u, hA, hg, hc⟩ := (h.ext hxw).get g
    obtain ⟨a1, o1, u1, hA1, hg1, hc1⟩ := (h1.ext hxw).get g
    rw [hg] at hg1
    simp only [Option.some.injEq, Prod.mk.injEq] at hg1
    obtain ⟨rfl, rfl⟩ := hg1
    conv => cbv
    refine st_idx hE' sII hA (by omega) (by omega) fun q hq => ?_
    rw [show z.toNat = i by omega] at hq
    conv => cbv
    refine st_loadS hE' tII rfl (by rw [hq]; exact hc) ?_
    conv => cbv
    refine st_idx hE' sII hA1 (by omega) (by omega) fun q1 hq1 => ?_
    rw [show z.toNat = i by omega] at hq1
    conv => cbv
    refine st_loadS hE' tII rfl (by rw [hq1]; exact hc1) ?_
    conv => cbv
    refine st_f hr (eqIns_f (o := o) (g := u)) fun v w2 hx2 ev => ?_
    subst ev
    replace hxw := hxw.trans hx2
    refine ⟨hS _ hx2, ?_⟩
    conv => cbv
    refine ⟨hS _ hx2, ?_⟩
    conv => cbv
    simp only [e1]
    exact ⟨(i + 1, z'), by simp [Fits, lk], hI _ _ ⟨by simp only; omega, by simp only; omega, hxw⟩, by simp only; omega⟩
  · conv => cbv
    rw [hR]; exact ⟨hxw, rfl⟩
theorem eqCode_f {w : World} {A A2 A3 A4 : Option Addr} {n c n2 c2 c3 c4 : Nat} {sl : Int} {pv : List PV} {is : List (Int × Int)} (h : CodeR w A n A2 n2 pv is) (h' : CodeR w A3 n A4 n2 pv is) (hn : n ≤ 9223372036854775807) (hn2 : n2 ≤ 9223372036854775807) :
    FC Tryd.prog 17 [codeV A n c sl A2 n2 c2, codeV A3 n c3 sl A4 n2 c4] w fun v _ => v = .bool true := by
  refine FC.intro (cs := []) Tryd.func17 (by kernel_rfl) fun E R hE hr hR => ?_
  have ei : ∀ z : Int, ¬ E.cmp .neq z z = true := fun z => by rw [hE.cmp]; simp [cmpR]
  conv => cbv
  refine st_box hr fun a w1 hx ha0 => ?_
  have ha := ha0 _ (Nat.le_refl _)
  conv => cbv
  refine st_box hr fun b w2 hx2 hb0 => ?_
  have hb := hb0 _ hx.size
  replace ha := ha.bel hx2
  replace hx := hx.trans hx2
  clear ha0 hb0
  conv => cbv
  (refine st_fld hE fIC0 fun p hp => ?_; (conv => cbv); refine st_load hE cIVs (by rw [hp]; exact (ha).at _ _ rfl) ?_; clear hp; (conv => cbv))
  (refine st_fld hE fIC0 fun p hp => ?_; (conv => cbv); refine st_load hE cIVs (by rw [hp]; exact (hb).at _ _ rfl) ?_; clear hp; (conv => cbv))
  refine st_f hr (eqValueS_f (h.pool.ext hx) (h'.pool.ext hx) hn) fun v w3 hx3 ev => ?_
  subst ev
  replace ha := ha.bel hx3
  replace hb := hb.bel hx3
  replace hx := hx.trans hx3
  conv => cbv
  (refine st_fld hE fIC1 fun p hp => ?_; (conv => cbv); refine st_load hE cInt (by rw [hp]; exact (ha).at _ _ rfl) ?_; clear hp; (conv => cbv))
  (refine st_fld hE fIC1 fun p hp => ?_; (conv => cbv); refine st_load hE cInt (by rw [hp]; exact (hb).at _ _ rfl) ?_; clear hp; (conv => cbv))
  refine br (fun g => absurd g (ei _)) (fun _ => ?_)
  conv => cbv
  (refine st_fld hE fIC2 fun p hp => ?_; (conv => cbv); refine st_load hE cIIs (by rw [hp]; exact (ha).at _ _ rfl) ?_; clear hp; (conv => cbv))
  (refine st_fld hE fIC2 fun p hp => ?_; (conv => cbv); refine st_load hE cIIs (by rw [hp]; exact (hb).at _ _ rfl) ?_; clear hp; (conv => cbv))
  refine st_f hr (eqInsS_f (h.ins.ext hx) (h'.ins.ext hx) hn2) fun v w4 hx4 ev => ?_
  subst ev
  conv => cbv
  rw [hR]; exact ⟨hx.trans hx4, rfl⟩
end Go.Proofs.YtmbonalhbibppaaDoor
