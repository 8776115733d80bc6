/- The reference's l5step (printed by gen_v12.py). -/
import Derived.Test.YtmbonalhbibppaaDoorV11
namespace Go.Proofs.YtmbonalhbibppaaDoor
open Go.Eng
set_option linter.unusedVariables false
set_option linter.unusedSimpArgs false
theorem chk_at {o : Int} {gi : Nat} {want args : List Int} {any : Int} {sls : List Int} {k : Nat} {wv u : Int} (h1 : want[k]? = some wv) (h2 : args[k]? = some u) : chk o gi (want.drop k) (args.drop k) any sls =
    if (wv = 0 ∧ u ≠ (if wv = 0 ∧ any = 0 then u else any)) ∨ (0 < wv ∧ u ≠ wv) then none
    else if o = 4 then (if (sls[gi]?).getD 0 ≠ 0 ∧ (sls[gi]?).getD 0 ≠ u then none else chk o gi (want.drop (k + 1)) (args.drop (k + 1)) (if wv = 0 ∧ any = 0 then u else any) (sls.set gi u))
    else chk o gi (want.drop (k + 1)) (args.drop (k + 1)) (if wv = 0 ∧ any = 0 then u else any) sls := by
  obtain ⟨p1, q1⟩ := List.getElem?_eq_some_iff.1 h1
  obtain ⟨p2, q2⟩ := List.getElem?_eq_some_iff.1 h2
  rw [List.drop_eq_getElem_cons p1, List.drop_eq_getElem_cons p2, q1, q2, chk]
theorem chk_end {o : Int} {gi : Nat} {want args : List Int} {any : Int} {sls : List Int} {k : Nat} (h1 : want.length ≤ k) : chk o gi (want.drop k) (args.drop k) any sls = some sls := by
  rw [List.drop_eq_nil_of_le h1]; rfl
theorem row_pos (op : Int) : 0 ≤ (rowF op).2 := by unfold rowF; (repeat' split) <;> simp
theorem push_nn {pv : List PV} {sls : List Int} {o g : Int} (hk : ∀ p ∈ pv, 0 < p.k) (hs : ∀ x ∈ sls, 0 ≤ x) : 0 ≤ pushF pv sls o g := by
  unfold pushF
  split
  · unfold kindF
    cases h : pv[g.toNat]? with
    | none => simp
    | some p => have := hk p (List.mem_of_getElem? h); simp; omega
  split
  · unfold attrF; (repeat' split) <;> omega
  split
  · unfold slotF
    cases h : sls[g.toNat]? with
    | none => simp
    | some p => have := hs p (List.mem_of_getElem? h); simp; exact this
  split
  · omega
  · exact row_pos _
set_option maxHeartbeats 8000000 in
theorem l5step_f {w : World} {A A2 A3 A4 : Option Addr} {n c n2 c2 n3 c3 n4 c4 : Nat} {sl : Int} {pv : List PV} {is : List (Int × Int)} (h : CodeR w A n A2 n2 pv is) (hn : n ≤ 9223372036854775807) (hn2 : n2 ≤ 9223372036854775807) {i : Nat} {ii o gg : Int} (hii : ii = (i : Int)) (hi : i < n2) (hi2 : is[i]? = some (o, gg))
    (h1 : 1 ≤ o) (h2 : o ≤ 25) (hg0 : 0 ≤ gg) {kn : Bool} {st sls : List Int} (hs : Ints w A3 n3 c3 st) (hs2 : Ints w A4 n4 c4 sls) (hsl : (n4 : Int) = sl) (hpos : ∀ x ∈ st, 0 < x) (hnn : ∀ x ∈ sls, 0 ≤ x) (hk : ∀ p ∈ pv, 0 < p.k) (hb3 : n3 ≤ 1000) (hb4 : n4 ≤ 1000) :
    FC Tryd.prog 42 [codeV A n c sl A2 n2 c2, .int .i64 ii, .agg ⟨[.bool kn, .slice A3 n3 c3, .slice A4 n4 c4]⟩] w fun v w' => ∃ kn' A5 n5 c5 A6 n6 c6 cd, v = .tuple ⟨[.agg ⟨[.bool kn', .slice A5 n5 c5, .slice A6 n6 c6]⟩, .int .i64 cd]⟩ ∧ cd = (stepF pv sl n2 i o gg (st, sls)).1 ∧
      (cd = 0 → kn' = kn ∧ Own w.heap.size 3 1 w' A5 n5 c5 ((stepF pv sl n2 i o gg (st, sls)).2.1.map (.int .i64)) ∧ Own w.heap.size 3 1 w' A6 n6 c6 ((stepF pv sl n2 i o gg (st, sls)).2.2.map (.int .i64))) := by
  refine FC.intro (cs := []) Tryd.func42 (by kernel_rfl) fun E R hE hr hR => ?_
  have hpl := h.pool.len
  have hstl := hs.len
  have hsll := hs2.len
  have en : ∀ x y : Int, ¬ x ≠ y → ¬ E.cmp .neq x y = true := fun x y h => by rw [hE.cmp]; simpa [cmpR] using h
  have eg : ∀ x y : Int, ¬ y < x → ¬ E.cmp .gtr x y = true := fun x y h => by rw [hE.cmp]; simpa [cmpR] using h
  conv => cbv
  refine st_box hr fun a0 w1 hx hb0 => ?_
  have hb := hb0 _ (Nat.le_refl _)
  clear hb0
  conv => cbv
  refine st_box hr fun a5 w2 hx2 h50 => ?_
  have h5 := h50 _ hx.size
  replace hb := hb.bel hx2
  replace hx := hx.trans hx2
  clear h50 hx2
  conv => cbv
  refine st_alloc hr tLS rfl fun a6 w3 hx3 h60 => ?_
  have h6 := h60 _ hx.size
  have ap56 := h5.apart (h60 _ (Nat.le_refl _)) (Nat.le_refl _)
  have ap06 := hb.apart (h60 _ (Nat.le_refl _)) (Nat.le_refl _)
  replace hb := hb.bel hx3
  replace h5 := h5.bel hx3
  replace hx := hx.trans hx3
  clear h60 hx3
  conv => cbv
  (refine st_fld hE fIC2 fun p hp => ?_; (conv => cbv); refine st_load hE cIIs (by rw [hp]; exact (hb).at _ _ rfl) ?_; clear hp; (conv => cbv))
  obtain ⟨ai, o', g', hA, hg, hc⟩ := (h.ins.ext hx).get hi
  rw [hi2] at hg
  cases hg
  refine st_idx hE sII hA (by omega) (by omega) fun q hq => ?_
  rw [show ii.toNat = i by omega] at hq
  conv => cbv
  refine st_loadS hE tII rfl (by rw [hq]; exact hc) ?_
  conv => cbv
  refine st_alloc hr tII rfl fun q2 w2 hx2 hq0 => ?_
  have hq2 := hq0 _ hx.size
  have aq := (hb.apart (hq0 _ (Nat.le_refl _)) (Nat.le_refl _)).1
  have a5q := (h5.apart (hq0 _ (Nat.le_refl _)) (Nat.le_refl _)).1
  have a6q := (h6.apart (hq0 _ (Nat.le_refl _)) (Nat.le_refl _)).1
  replace hb := hb.bel hx2
  replace h5 := h5.bel hx2
  replace h6 := h6.bel hx2
  replace hx := hx.trans hx2
  conv => cbv
  refine st_putS hr (by kernel_rfl) hq2 (add_zero _).symm (by simp) (by simp [Value.oneCell']) fun w3 hw3 hq3 => ?_
  simp only [List.take_zero, List.nil_append, List.length_cons, List.length_nil, List.drop_succ_cons, List.drop_nil, List.append_nil] at hq3
  replace hx := hx.then (hw3.bel hq2 hx.size)
  replace hb := hb.wr hw3 aq
  replace h5 := h5.wr hw3 a5q
  replace h6 := h6.wr hw3 a6q
  clear hq2 hq0 hw3 hx2
  conv => cbv
  refine st_loadS hE tIC rfl hb.at ?_
  conv => cbv
  refine st_f hr (l5range_f (sl := sl) (c := c) (c2 := c2) (h.ext hx) hn hn2 hii hi hi2) fun v w4 hx4 ⟨b, ev, hrg⟩ => ?_
  subst ev
  replace hb := hb.bel hx4
  replace h5 := h5.bel hx4
  replace h6 := h6.bel hx4
  replace hq3 := hq3.bel hx4
  replace hx := hx.trans hx4
  clear hx4
  cases b with
  | false =>
    have hrg : ¬ rangeF pv.length sl n2 i o gg := fun q => absurd (hrg.2 q) (by simp)
    conv => cbv
    refine st_loadS hE tLS rfl h5.at ?_
    conv => cbv
    refine st_putS hr (by kernel_rfl) h6 (add_zero _).symm (by simp) (by simp [Value.oneCell']) fun wf hwf h6f => ?_
    simp only [List.take_zero, List.nil_append, List.length_cons, List.length_nil, List.drop_succ_cons, List.drop_nil, List.append_nil] at h6f
    conv => cbv
    refine st_cell hr tLS rfl h6f.at ?_
    rw [hR]; exact ⟨hx.then (hwf.bel h6 hx.size), kn, A3, n3, c3, A4, n4, c4, 3, rfl, by unfold stepF; rw [if_pos hrg], fun e => absurd e (by decide)⟩
  | true =>
  have hrg := hrg.1 rfl
  conv => cbv
  refine st_loadS hE tIC rfl hb.at ?_
  conv => cbv
  refine st_loadS hE tII rfl hq3.at ?_
  conv => cbv
  refine st_loadS hE tLS rfl h5.at ?_
  conv => cbv
  refine st_f hr (l5takes_f (c := c) (c2 := c2) (kn := kn) (A3 := A3) (n3 := n3) (c3 := c3) (h.ext hx) hn (hs2.ext hx) hsl h1 h2 hg0 hrg) fun v wq hx5 ⟨A1, n1, c1, t, ev, hwant, ht⟩ => ?_
  subst ev
  have hwl := hwant.len
  replace h5 := h5.bel hx5
  replace h6 := h6.bel hx5
  replace hq3 := hq3.bel hx5
  replace hx := hx.trans hx5
  clear hx5 hb
  conv => cbv
  refine st_loadS hE tLS rfl h5.at ?_
  conv => cbv
  refine st_f hr (copyOf_f (kn := kn) (hs.ext hx) (hs2.ext hx) (by omega) (by omega)) fun v w6 hx6 ⟨A5, c5, A6, c6, ev, o5, o6, ap1, ap2⟩ => ?_
  subst ev
  have hq6 := hx6
  have ap65 := h6.apart o5 (Nat.le_refl _)
  have ap66 := h6.apart o6 (Nat.le_refl _)
  conv => cbv
  refine st_alloc hr tLS rfl fun a7 w7 hx7 h70 => ?_
  have h7 := h70 _ hq6.size
  have ap57 := o5.apart (h70 _ (Nat.le_refl _)) (Nat.le_refl _)
  have ap67 := o6.apart (h70 _ (Nat.le_refl _)) (Nat.le_refl _)
  replace o5 := o5.bel hx7
  replace o6 := o6.bel hx7
  replace hq6 := hq6.trans hx7
  clear h70 hx7 hx6
  conv => cbv
  refine st_putS hr (by kernel_rfl) h7 (add_zero _).symm (by simp) (by simp [Value.oneCell']) fun w8 hw8 h72 => ?_
  simp only [List.take_zero, List.nil_append, List.length_cons, List.length_nil, List.drop_succ_cons, List.drop_nil, List.append_nil] at h72
  replace hq6 := hq6.then (hw8.bel h7 hq6.size)
  replace o5 := o5.wr hw8 ap57.1
  replace o6 := o6.wr hw8 ap67.1
  replace h7 := h72
  clear h72 hw8
  obtain ⟨gi, hgi⟩ : ∃ gi : Nat, gi = gg.toNat := ⟨_, rfl⟩
  conv => cbv
  (refine st_fld hE fLS1 fun p hp => ?_; (conv => cbv); refine st_load hE cInts (by rw [hp]; exact (h7).at _ _ rfl) ?_; clear hp; (conv => cbv))
  refine st_len hE tInts fun x1 hx1 => ?_
  conv => cbv
  refine st_len hE tInts fun x2 hx2 => ?_
  conv => cbv
  refine br (fun g => ?_) (fun g => ?_)
  · have g : st.length < (wantF o).length := by
      have : x1 < x2 := by simpa [hE.cmp, cmpR] using g
      omega
    replace h5 := h5.bel hq6
    replace h6 := h6.bel hq6
    replace hx := hx.trans hq6
    conv => cbv
    refine st_loadS hE tLS rfl h5.at ?_
    conv => cbv
    refine st_putS hr (by kernel_rfl) h6 (add_zero _).symm (by simp) (by simp [Value.oneCell']) fun wf hwf h6f => ?_
    simp only [List.take_zero, List.nil_append, List.length_cons, List.length_nil, List.drop_succ_cons, List.drop_nil, List.append_nil] at h6f
    conv => cbv
    refine st_cell hr tLS rfl h6f.at ?_
    rw [hR]; exact ⟨hx.then (hwf.bel h6 hx.size), kn, A3, n3, c3, A4, n4, c4, 4, rfl, by unfold stepF; rw [if_neg (fun q => q hrg), if_pos g], fun e => absurd e (by decide)⟩
  have g : n1 ≤ n3 := by
    have : ¬ x1 < x2 := by simpa [hE.cmp, cmpR] using g
    omega
  have hlt : ¬ (st, sls).1.length < (wantF o).length := by simp only; omega
  conv => cbv
  (refine st_fld hE fLS1 fun p hp => ?_; (conv => cbv); refine st_load hE cInts (by rw [hp]; exact (h7).at _ _ rfl) ?_; clear hp; (conv => cbv))
  refine st_len hE tInts fun x3 hx3 => ?_
  conv => cbv
  refine st_len hE tInts fun x4 hx4 => ?_
  obtain ⟨base, hbase⟩ : ∃ base, base = n3 - n1 := ⟨_, rfl⟩
  obtain ⟨bi, hbi⟩ : ∃ z : Int, z = (base : Int) := ⟨_, rfl⟩
  have eb : E.ar .sub .i64 x3 x4 = bi := by rw [hE.ar, hbi, show arR .sub .i64 x3 x4 = IntKind.i64.wrap (x3 - x4) from rfl, wrap_in (by omega) (by omega)]; omega
  conv => cbv
  simp only [eb]
  refine st_len hE tInts fun x5 hx5 => ?_
  obtain ⟨args, hargs⟩ : ∃ args, args = st.drop base := ⟨_, rfl⟩
  have hal : args.length = (wantF o).length := by rw [hargs, List.length_drop]; omega
  have hap : ∀ x ∈ args, 0 < x := fun x hx => hpos x (by rw [hargs] at hx; exact List.mem_of_mem_drop hx)
  have hfit := chk_fit (gi := gi) (sls := sls) h1 h2 hal hap
  obtain ⟨C, hC0⟩ : ∃ C, C = chk o gi (wantF o) args 0 sls := ⟨_, rfl⟩
  rw [← hC0] at hfit
  have hbs : st.length - (wantF o).length = base := by omega
  have hfe : fitF o (slotF (st, sls).2 gg) ((st, sls).1.drop ((st, sls).1.length - (wantF o).length)) = fitF o ((sls[gi]?).getD 0) args := by simp only [hbs, ← hargs, slotF, ← hgi]
  have hno : C = none → ¬ fitF o (slotF (st, sls).2 gg) ((st, sls).1.drop ((st, sls).1.length - (wantF o).length)) := fun q f => by
    rw [hfe] at f
    rw [if_pos f] at hfit
    rw [hfit] at q; cases q
  conv => cbv
  refine loop_rule hr (fun (s : Nat × Int × Int × List Int) w' => s.1 ≤ n1 ∧ s.2.1 = (s.1 : Int) ∧ Ext wq w' ∧ Box wq.heap.size 85 3 w' a7 [.bool kn, .slice A5 n3 c5, .slice A6 n4 c6] ∧
      Own wq.heap.size 3 1 w' A5 n3 c5 (st.map (.int .i64)) ∧ Own wq.heap.size 3 1 w' A6 n4 c6 (s.2.2.2.map (.int .i64)) ∧ s.2.2.2.length = n4 ∧ chk o gi ((wantF o).drop s.1) (args.drop s.1) s.2.2.1 s.2.2.2 = C)
    (fun s => [(5, .pointer (some a5)), (6, .pointer (some a6)), (8, .pointer (some q2)), (10, .int .i64 t), (11, .pointer (some a7)), (12, .int .i64 bi), (13, .int .i64 s.2.2.1), (49, .slice A1 n1 c1), (50, .int .i64 x5), (51, .int .i64 s.2.1)]) (fun s => n1 - s.1) (0, 0, 0, sls)
    (by simp [Fits, lk]) ⟨by simp, by simp, hq6, h7, o5, o6, hsll, by simpa using hC0.symm⟩ ?_
  clear h7 o5 o6 hq6
  rintro I hI ⟨k, kk, any, sl2⟩ w' ⟨hk1, hkk, hq6, h7, o5, o6, hs2l, hC⟩
  simp only at hk1 hkk o6 hs2l hC
  obtain ⟨kj, hkj⟩ : ∃ z, z = kk + 1 := ⟨_, rfl⟩
  conv => cbv
  refine br (fun g2 => ?_) (fun g2 => ?_)
  · have g2 : k < n1 := by
      have : kk < x5 := by simpa [hE.cmp, cmpR] using g2
      omega
    have ek : E.ar .add .i64 kk 1 = kj := by rw [hE.ar, hkj]; exact wrap_in (by omega) (by omega)
    conv => cbv
    refine st_int hE tInts (hwant.ext hq6) (k := k) (by omega) g2 fun p wv hwv hp => ?_
    conv => cbv
    refine st_load hE cInt hp ?_
    conv => cbv
    (refine st_fld hE fLS1 fun p hp => ?_; (conv => cbv); refine st_load hE cInts (by rw [hp]; exact (h7).at _ _ rfl) ?_; clear hp; (conv => cbv))
    obtain ⟨bk, hbk⟩ : ∃ z, z = bi + kk := ⟨_, rfl⟩
    have ebk : E.ar .add .i64 bi kk = bk := by rw [hE.ar, hbk]; exact wrap_in (by omega) (by omega)
    simp only [ebk]
    refine st_int hE tInts o5.ints (k := base + k) (by omega) (by omega) fun p2 u hu hp2 => ?_
    have hua : args[k]? = some u := by rw [hargs, List.getElem?_drop]; exact hu
    rw [chk_at hwv hua] at hC
    conv => cbv
    refine st_load hE cInt hp2 ?_
    conv => cbv
    have hq3f := hq3.bel hq6
    refine br (fun g3 => ?_) (fun g3 => ?_)
    · have g30 := g3
      have g3 : wv = 0 := by simpa [hE.cmp, cmpR] using g3
      conv => cbv
      refine br (fun g4 => ?_) (fun g4 => ?_)
      · have g4 : any = 0 := by simpa [hE.cmp, cmpR] using g4
        have ea : (if wv = 0 ∧ any = 0 then u else any) = u := if_pos ⟨g3, g4⟩
        rw [ea, if_neg (by omega)] at hC
        conv => cbv
        refine br (fun _ => ?_) (fun q => absurd g30 q)
        conv => cbv
        refine br (fun q => absurd q (en u u (by simp))) (fun _ => ?_)
        conv => cbv
        refine br (fun q => absurd q (eg wv 0 (by omega))) (fun _ => ?_)
        conv => cbv
        (refine st_fld hE fII0 fun p hp => ?_; (conv => cbv); refine st_load hE cInt (by rw [hp]; exact (hq3f).at _ _ rfl) ?_; clear hp; (conv => cbv))
        refine br (fun g5 => ?_) (fun g5 => ?_)
        · have g5 : o = 4 := by simpa [hE.cmp, cmpR] using g5
          rw [if_pos g5] at hC
          have hgs := hrg.2.2.1 (.inr g5)
          obtain ⟨u4, hu4⟩ : ∃ u4, sl2[gi]? = some u4 := ⟨_, List.getElem?_eq_getElem (by omega)⟩
          rw [hu4, Option.getD_some] at hC
          have nx : ∀ w9, Wr A6 w' w9 → Own wq.heap.size 3 1 w9 A6 n4 c6 ((sl2.set gi u).map (.int .i64)) → ¬ (u4 ≠ 0 ∧ u4 ≠ u) → I (k + 1, kj, u, sl2.set gi u) w9 := fun w9 hw9 ho9 hne => by
            rw [if_neg hne] at hC
            exact hI _ _ ⟨by simp only; omega, by simp only; omega, hq6.then (hw9.bel o6 hq6.size), h7.wr hw9 ap67.2, o5.wr hw9 ap1, ho9, by simp only; rw [List.length_set]; exact hs2l, hC⟩
          conv => cbv
          (refine st_fld hE fLS2 fun p hp => ?_; (conv => cbv); refine st_load hE cInts (by rw [hp]; exact (h7).at _ _ rfl) ?_; clear hp; (conv => cbv))
          (refine st_fld hE fII1 fun p hp => ?_; (conv => cbv); refine st_load hE cInt (by rw [hp]; exact (hq3f).at _ _ rfl) ?_; clear hp; (conv => cbv))
          refine st_int hE tInts o6.ints (k := gi) (by omega) (by omega) fun p3 y hy hp3 => ?_
          rw [hu4] at hy
          cases hy
          conv => cbv
          refine st_load hE cInt hp3 ?_
          conv => cbv
          refine br (fun g6 => ?_) (fun g6 => ?_)
          · have g6 : u4 ≠ 0 := by simpa [hE.cmp, cmpR] using g6
            conv => cbv
            (refine st_fld hE fLS2 fun p hp => ?_; (conv => cbv); refine st_load hE cInts (by rw [hp]; exact (h7).at _ _ rfl) ?_; clear hp; (conv => cbv))
            (refine st_fld hE fII1 fun p hp => ?_; (conv => cbv); refine st_load hE cInt (by rw [hp]; exact (hq3f).at _ _ rfl) ?_; clear hp; (conv => cbv))
            refine st_int hE tInts o6.ints (k := gi) (by omega) (by omega) fun p4 y hy hp4 => ?_
            rw [hu4] at hy
            cases hy
            conv => cbv
            refine st_load hE cInt hp4 ?_
            conv => cbv
            refine br (fun g7 => ?_) (fun g7 => ?_)
            · have g7 : u4 ≠ u := by simpa [hE.cmp, cmpR] using g7
              rw [if_pos ⟨g6, g7⟩] at hC
              replace h5 := h5.bel hq6
              replace h6 := h6.bel hq6
              replace hx := hx.trans hq6
              conv => cbv
              refine st_loadS hE tLS rfl h5.at ?_
              conv => cbv
              refine st_putS hr (by kernel_rfl) h6 (add_zero _).symm (by simp) (by simp [Value.oneCell']) fun wf hwf h6f => ?_
              simp only [List.take_zero, List.nil_append, List.length_cons, List.length_nil, List.drop_succ_cons, List.drop_nil, List.append_nil] at h6f
              conv => cbv
              refine st_cell hr tLS rfl h6f.at ?_
              rw [hR]; exact ⟨hx.then (hwf.bel h6 hx.size), kn, A3, n3, c3, A4, n4, c4, 5, rfl, by unfold stepF; rw [if_neg (fun q => q hrg), if_neg hlt, if_pos (hno hC.symm)], fun e => absurd e (by decide)⟩
            · have g7 : u4 = u := by simpa [hE.cmp, cmpR] using g7
              conv => cbv
              (refine st_fld hE fLS2 fun p hp => ?_; (conv => cbv); refine st_load hE cInts (by rw [hp]; exact (h7).at _ _ rfl) ?_; clear hp; (conv => cbv))
              (refine st_fld hE fII1 fun p hp => ?_; (conv => cbv); refine st_load hE cInt (by rw [hp]; exact (hq3f).at _ _ rfl) ?_; clear hp; (conv => cbv))
              obtain ⟨gb, hgb, _⟩ := o6.addr (by omega)
              refine st_idx hE tInts hgb (by omega) (by omega) fun p5 hp5 => ?_
              rw [show gg.toNat = gi by omega] at hp5
              conv => cbv
              refine st_set hr tInts o6 hgb (j := gi) (by omega) hp5 rfl fun w9 _ hw9 ho9 => ?_
              rw [← List.map_set] at ho9
              conv => cbv
              simp only [ek]
              exact ⟨(k + 1, kj, u, sl2.set gi u), by simp [Fits, lk], nx w9 hw9 ho9 (fun q => q.2 g7), by simp only; omega⟩
          · have g6 : u4 = 0 := by simpa [hE.cmp, cmpR] using g6
            conv => cbv
            (refine st_fld hE fLS2 fun p hp => ?_; (conv => cbv); refine st_load hE cInts (by rw [hp]; exact (h7).at _ _ rfl) ?_; clear hp; (conv => cbv))
            (refine st_fld hE fII1 fun p hp => ?_; (conv => cbv); refine st_load hE cInt (by rw [hp]; exact (hq3f).at _ _ rfl) ?_; clear hp; (conv => cbv))
            obtain ⟨gb, hgb, _⟩ := o6.addr (by omega)
            refine st_idx hE tInts hgb (by omega) (by omega) fun p5 hp5 => ?_
            rw [show gg.toNat = gi by omega] at hp5
            conv => cbv
            refine st_set hr tInts o6 hgb (j := gi) (by omega) hp5 rfl fun w9 _ hw9 ho9 => ?_
            rw [← List.map_set] at ho9
            conv => cbv
            simp only [ek]
            exact ⟨(k + 1, kj, u, sl2.set gi u), by simp [Fits, lk], nx w9 hw9 ho9 (fun q => q.1 g6), by simp only; omega⟩
        · have g5 : o ≠ 4 := by simpa [hE.cmp, cmpR] using g5
          rw [if_neg g5] at hC
          conv => cbv
          simp only [ek]
          exact ⟨(k + 1, kj, u, sl2), by simp [Fits, lk], hI _ _ ⟨by simp only; omega, by simp only; omega, hq6, h7, o5, o6, hs2l, hC⟩, by simp only; omega⟩
      · have g4 : any ≠ 0 := by simpa [hE.cmp, cmpR] using g4
        have ea : (if wv = 0 ∧ any = 0 then u else any) = any := if_neg (fun q => g4 q.2)
        rw [ea] at hC
        conv => cbv
        refine br (fun _ => ?_) (fun q => absurd g30 q)
        conv => cbv
        refine br (fun g5 => ?_) (fun g5 => ?_)
        · have g5 : u ≠ any := by simpa [hE.cmp, cmpR] using g5
          rw [if_pos (.inl ⟨g3, g5⟩)] at hC
          replace h5 := h5.bel hq6
          replace h6 := h6.bel hq6
          replace hx := hx.trans hq6
          conv => cbv
          refine st_loadS hE tLS rfl h5.at ?_
          conv => cbv
          refine st_putS hr (by kernel_rfl) h6 (add_zero _).symm (by simp) (by simp [Value.oneCell']) fun wf hwf h6f => ?_
          simp only [List.take_zero, List.nil_append, List.length_cons, List.length_nil, List.drop_succ_cons, List.drop_nil, List.append_nil] at h6f
          conv => cbv
          refine st_cell hr tLS rfl h6f.at ?_
          rw [hR]; exact ⟨hx.then (hwf.bel h6 hx.size), kn, A3, n3, c3, A4, n4, c4, 5, rfl, by unfold stepF; rw [if_neg (fun q => q hrg), if_neg hlt, if_pos (hno hC.symm)], fun e => absurd e (by decide)⟩
        · have g5 : u = any := by simpa [hE.cmp, cmpR] using g5
          rw [if_neg (by omega)] at hC
          conv => cbv
          refine br (fun q => absurd q (eg wv 0 (by omega))) (fun _ => ?_)
          conv => cbv
          (refine st_fld hE fII0 fun p hp => ?_; (conv => cbv); refine st_load hE cInt (by rw [hp]; exact (hq3f).at _ _ rfl) ?_; clear hp; (conv => cbv))
          refine br (fun g5 => ?_) (fun g5 => ?_)
          · have g5 : o = 4 := by simpa [hE.cmp, cmpR] using g5
            rw [if_pos g5] at hC
            have hgs := hrg.2.2.1 (.inr g5)
            obtain ⟨u4, hu4⟩ : ∃ u4, sl2[gi]? = some u4 := ⟨_, List.getElem?_eq_getElem (by omega)⟩
            rw [hu4, Option.getD_some] at hC
            have nx : ∀ w9, Wr A6 w' w9 → Own wq.heap.size 3 1 w9 A6 n4 c6 ((sl2.set gi u).map (.int .i64)) → ¬ (u4 ≠ 0 ∧ u4 ≠ u) → I (k + 1, kj, any, sl2.set gi u) w9 := fun w9 hw9 ho9 hne => by
              rw [if_neg hne] at hC
              exact hI _ _ ⟨by simp only; omega, by simp only; omega, hq6.then (hw9.bel o6 hq6.size), h7.wr hw9 ap67.2, o5.wr hw9 ap1, ho9, by simp only; rw [List.length_set]; exact hs2l, hC⟩
            conv => cbv
            (refine st_fld hE fLS2 fun p hp => ?_; (conv => cbv); refine st_load hE cInts (by rw [hp]; exact (h7).at _ _ rfl) ?_; clear hp; (conv => cbv))
            (refine st_fld hE fII1 fun p hp => ?_; (conv => cbv); refine st_load hE cInt (by rw [hp]; exact (hq3f).at _ _ rfl) ?_; clear hp; (conv => cbv))
            refine st_int hE tInts o6.ints (k := gi) (by omega) (by omega) fun p3 y hy hp3 => ?_
            rw [hu4] at hy
            cases hy
            conv => cbv
            refine st_load hE cInt hp3 ?_
            conv => cbv
            refine br (fun g6 => ?_) (fun g6 => ?_)
            · have g6 : u4 ≠ 0 := by simpa [hE.cmp, cmpR] using g6
              conv => cbv
              (refine st_fld hE fLS2 fun p hp => ?_; (conv => cbv); refine st_load hE cInts (by rw [hp]; exact (h7).at _ _ rfl) ?_; clear hp; (conv => cbv))
              (refine st_fld hE fII1 fun p hp => ?_; (conv => cbv); refine st_load hE cInt (by rw [hp]; exact (hq3f).at _ _ rfl) ?_; clear hp; (conv => cbv))
              refine st_int hE tInts o6.ints (k := gi) (by omega) (by omega) fun p4 y hy hp4 => ?_
              rw [hu4] at hy
              cases hy
              conv => cbv
              refine st_load hE cInt hp4 ?_
              conv => cbv
              refine br (fun g7 => ?_) (fun g7 => ?_)
              · have g7 : u4 ≠ u := by simpa [hE.cmp, cmpR] using g7
                rw [if_pos ⟨g6, g7⟩] at hC
                replace h5 := h5.bel hq6
                replace h6 := h6.bel hq6
                replace hx := hx.trans hq6
                conv => cbv
                refine st_loadS hE tLS rfl h5.at ?_
                conv => cbv
                refine st_putS hr (by kernel_rfl) h6 (add_zero _).symm (by simp) (by simp [Value.oneCell']) fun wf hwf h6f => ?_
                simp only [List.take_zero, List.nil_append, List.length_cons, List.length_nil, List.drop_succ_cons, List.drop_nil, List.append_nil] at h6f
                conv => cbv
                refine st_cell hr tLS rfl h6f.at ?_
                rw [hR]; exact ⟨hx.then (hwf.bel h6 hx.size), kn, A3, n3, c3, A4, n4, c4, 5, rfl, by unfold stepF; rw [if_neg (fun q => q hrg), if_neg hlt, if_pos (hno hC.symm)], fun e => absurd e (by decide)⟩
              · have g7 : u4 = u := by simpa [hE.cmp, cmpR] using g7
                conv => cbv
                (refine st_fld hE fLS2 fun p hp => ?_; (conv => cbv); refine st_load hE cInts (by rw [hp]; exact (h7).at _ _ rfl) ?_; clear hp; (conv => cbv))
                (refine st_fld hE fII1 fun p hp => ?_; (conv => cbv); refine st_load hE cInt (by rw [hp]; exact (hq3f).at _ _ rfl) ?_; clear hp; (conv => cbv))
                obtain ⟨gb, hgb, _⟩ := o6.addr (by omega)
                refine st_idx hE tInts hgb (by omega) (by omega) fun p5 hp5 => ?_
                rw [show gg.toNat = gi by omega] at hp5
                conv => cbv
                refine st_set hr tInts o6 hgb (j := gi) (by omega) hp5 rfl fun w9 _ hw9 ho9 => ?_
                rw [← List.map_set] at ho9
                conv => cbv
                simp only [ek]
                exact ⟨(k + 1, kj, any, sl2.set gi u), by simp [Fits, lk], nx w9 hw9 ho9 (fun q => q.2 g7), by simp only; omega⟩
            · have g6 : u4 = 0 := by simpa [hE.cmp, cmpR] using g6
              conv => cbv
              (refine st_fld hE fLS2 fun p hp => ?_; (conv => cbv); refine st_load hE cInts (by rw [hp]; exact (h7).at _ _ rfl) ?_; clear hp; (conv => cbv))
              (refine st_fld hE fII1 fun p hp => ?_; (conv => cbv); refine st_load hE cInt (by rw [hp]; exact (hq3f).at _ _ rfl) ?_; clear hp; (conv => cbv))
              obtain ⟨gb, hgb, _⟩ := o6.addr (by omega)
              refine st_idx hE tInts hgb (by omega) (by omega) fun p5 hp5 => ?_
              rw [show gg.toNat = gi by omega] at hp5
              conv => cbv
              refine st_set hr tInts o6 hgb (j := gi) (by omega) hp5 rfl fun w9 _ hw9 ho9 => ?_
              rw [← List.map_set] at ho9
              conv => cbv
              simp only [ek]
              exact ⟨(k + 1, kj, any, sl2.set gi u), by simp [Fits, lk], nx w9 hw9 ho9 (fun q => q.1 g6), by simp only; omega⟩
          · have g5 : o ≠ 4 := by simpa [hE.cmp, cmpR] using g5
            rw [if_neg g5] at hC
            conv => cbv
            simp only [ek]
            exact ⟨(k + 1, kj, any, sl2), by simp [Fits, lk], hI _ _ ⟨by simp only; omega, by simp only; omega, hq6, h7, o5, o6, hs2l, hC⟩, by simp only; omega⟩
    · have g30 := g3
      have g3 : wv ≠ 0 := by simpa [hE.cmp, cmpR] using g3
      have ea : (if wv = 0 ∧ any = 0 then u else any) = any := if_neg (fun q => g3 q.1)
      rw [ea] at hC
      conv => cbv
      refine br (fun q => absurd q g30) (fun _ => ?_)
      conv => cbv
      refine br (fun g4 => ?_) (fun g4 => ?_)
      · have g4 : 0 < wv := by simpa [hE.cmp, cmpR] using g4
        conv => cbv
        refine br (fun g5 => ?_) (fun g5 => ?_)
        · have g5 : u ≠ wv := by simpa [hE.cmp, cmpR] using g5
          rw [if_pos (.inr ⟨g4, g5⟩)] at hC
          replace h5 := h5.bel hq6
          replace h6 := h6.bel hq6
          replace hx := hx.trans hq6
          conv => cbv
          refine st_loadS hE tLS rfl h5.at ?_
          conv => cbv
          refine st_putS hr (by kernel_rfl) h6 (add_zero _).symm (by simp) (by simp [Value.oneCell']) fun wf hwf h6f => ?_
          simp only [List.take_zero, List.nil_append, List.length_cons, List.length_nil, List.drop_succ_cons, List.drop_nil, List.append_nil] at h6f
          conv => cbv
          refine st_cell hr tLS rfl h6f.at ?_
          rw [hR]; exact ⟨hx.then (hwf.bel h6 hx.size), kn, A3, n3, c3, A4, n4, c4, 5, rfl, by unfold stepF; rw [if_neg (fun q => q hrg), if_neg hlt, if_pos (hno hC.symm)], fun e => absurd e (by decide)⟩
        · have g5 : u = wv := by simpa [hE.cmp, cmpR] using g5
          rw [if_neg (by omega)] at hC
          conv => cbv
          (refine st_fld hE fII0 fun p hp => ?_; (conv => cbv); refine st_load hE cInt (by rw [hp]; exact (hq3f).at _ _ rfl) ?_; clear hp; (conv => cbv))
          refine br (fun g5 => ?_) (fun g5 => ?_)
          · have g5 : o = 4 := by simpa [hE.cmp, cmpR] using g5
            rw [if_pos g5] at hC
            have hgs := hrg.2.2.1 (.inr g5)
            obtain ⟨u4, hu4⟩ : ∃ u4, sl2[gi]? = some u4 := ⟨_, List.getElem?_eq_getElem (by omega)⟩
            rw [hu4, Option.getD_some] at hC
            have nx : ∀ w9, Wr A6 w' w9 → Own wq.heap.size 3 1 w9 A6 n4 c6 ((sl2.set gi u).map (.int .i64)) → ¬ (u4 ≠ 0 ∧ u4 ≠ u) → I (k + 1, kj, any, sl2.set gi u) w9 := fun w9 hw9 ho9 hne => by
              rw [if_neg hne] at hC
              exact hI _ _ ⟨by simp only; omega, by simp only; omega, hq6.then (hw9.bel o6 hq6.size), h7.wr hw9 ap67.2, o5.wr hw9 ap1, ho9, by simp only; rw [List.length_set]; exact hs2l, hC⟩
            conv => cbv
            (refine st_fld hE fLS2 fun p hp => ?_; (conv => cbv); refine st_load hE cInts (by rw [hp]; exact (h7).at _ _ rfl) ?_; clear hp; (conv => cbv))
            (refine st_fld hE fII1 fun p hp => ?_; (conv => cbv); refine st_load hE cInt (by rw [hp]; exact (hq3f).at _ _ rfl) ?_; clear hp; (conv => cbv))
            refine st_int hE tInts o6.ints (k := gi) (by omega) (by omega) fun p3 y hy hp3 => ?_
            rw [hu4] at hy
            cases hy
            conv => cbv
            refine st_load hE cInt hp3 ?_
            conv => cbv
            refine br (fun g6 => ?_) (fun g6 => ?_)
            · have g6 : u4 ≠ 0 := by simpa [hE.cmp, cmpR] using g6
              conv => cbv
              (refine st_fld hE fLS2 fun p hp => ?_; (conv => cbv); refine st_load hE cInts (by rw [hp]; exact (h7).at _ _ rfl) ?_; clear hp; (conv => cbv))
              (refine st_fld hE fII1 fun p hp => ?_; (conv => cbv); refine st_load hE cInt (by rw [hp]; exact (hq3f).at _ _ rfl) ?_; clear hp; (conv => cbv))
              refine st_int hE tInts o6.ints (k := gi) (by omega) (by omega) fun p4 y hy hp4 => ?_
              rw [hu4] at hy
              cases hy
              conv => cbv
              refine st_load hE cInt hp4 ?_
              conv => cbv
              refine br (fun g7 => ?_) (fun g7 => ?_)
              · have g7 : u4 ≠ u := by simpa [hE.cmp, cmpR] using g7
                rw [if_pos ⟨g6, g7⟩] at hC
                replace h5 := h5.bel hq6
                replace h6 := h6.bel hq6
                replace hx := hx.trans hq6
                conv => cbv
                refine st_loadS hE tLS rfl h5.at ?_
                conv => cbv
                refine st_putS hr (by kernel_rfl) h6 (add_zero _).symm (by simp) (by simp [Value.oneCell']) fun wf hwf h6f => ?_
                simp only [List.take_zero, List.nil_append, List.length_cons, List.length_nil, List.drop_succ_cons, List.drop_nil, List.append_nil] at h6f
                conv => cbv
                refine st_cell hr tLS rfl h6f.at ?_
                rw [hR]; exact ⟨hx.then (hwf.bel h6 hx.size), kn, A3, n3, c3, A4, n4, c4, 5, rfl, by unfold stepF; rw [if_neg (fun q => q hrg), if_neg hlt, if_pos (hno hC.symm)], fun e => absurd e (by decide)⟩
              · have g7 : u4 = u := by simpa [hE.cmp, cmpR] using g7
                conv => cbv
                (refine st_fld hE fLS2 fun p hp => ?_; (conv => cbv); refine st_load hE cInts (by rw [hp]; exact (h7).at _ _ rfl) ?_; clear hp; (conv => cbv))
                (refine st_fld hE fII1 fun p hp => ?_; (conv => cbv); refine st_load hE cInt (by rw [hp]; exact (hq3f).at _ _ rfl) ?_; clear hp; (conv => cbv))
                obtain ⟨gb, hgb, _⟩ := o6.addr (by omega)
                refine st_idx hE tInts hgb (by omega) (by omega) fun p5 hp5 => ?_
                rw [show gg.toNat = gi by omega] at hp5
                conv => cbv
                refine st_set hr tInts o6 hgb (j := gi) (by omega) hp5 rfl fun w9 _ hw9 ho9 => ?_
                rw [← List.map_set] at ho9
                conv => cbv
                simp only [ek]
                exact ⟨(k + 1, kj, any, sl2.set gi u), by simp [Fits, lk], nx w9 hw9 ho9 (fun q => q.2 g7), by simp only; omega⟩
            · have g6 : u4 = 0 := by simpa [hE.cmp, cmpR] using g6
              conv => cbv
              (refine st_fld hE fLS2 fun p hp => ?_; (conv => cbv); refine st_load hE cInts (by rw [hp]; exact (h7).at _ _ rfl) ?_; clear hp; (conv => cbv))
              (refine st_fld hE fII1 fun p hp => ?_; (conv => cbv); refine st_load hE cInt (by rw [hp]; exact (hq3f).at _ _ rfl) ?_; clear hp; (conv => cbv))
              obtain ⟨gb, hgb, _⟩ := o6.addr (by omega)
              refine st_idx hE tInts hgb (by omega) (by omega) fun p5 hp5 => ?_
              rw [show gg.toNat = gi by omega] at hp5
              conv => cbv
              refine st_set hr tInts o6 hgb (j := gi) (by omega) hp5 rfl fun w9 _ hw9 ho9 => ?_
              rw [← List.map_set] at ho9
              conv => cbv
              simp only [ek]
              exact ⟨(k + 1, kj, any, sl2.set gi u), by simp [Fits, lk], nx w9 hw9 ho9 (fun q => q.1 g6), by simp only; omega⟩
          · have g5 : o ≠ 4 := by simpa [hE.cmp, cmpR] using g5
            rw [if_neg g5] at hC
            conv => cbv
            simp only [ek]
            exact ⟨(k + 1, kj, any, sl2), by simp [Fits, lk], hI _ _ ⟨by simp only; omega, by simp only; omega, hq6, h7, o5, o6, hs2l, hC⟩, by simp only; omega⟩
      · have g4 : wv ≤ 0 := by simpa [hE.cmp, cmpR] using g4
        rw [if_neg (by omega)] at hC
        conv => cbv
        (refine st_fld hE fII0 fun p hp => ?_; (conv => cbv); refine st_load hE cInt (by rw [hp]; exact (hq3f).at _ _ rfl) ?_; clear hp; (conv => cbv))
        refine br (fun g5 => ?_) (fun g5 => ?_)
        · have g5 : o = 4 := by simpa [hE.cmp, cmpR] using g5
          rw [if_pos g5] at hC
          have hgs := hrg.2.2.1 (.inr g5)
          obtain ⟨u4, hu4⟩ : ∃ u4, sl2[gi]? = some u4 := ⟨_, List.getElem?_eq_getElem (by omega)⟩
          rw [hu4, Option.getD_some] at hC
          have nx : ∀ w9, Wr A6 w' w9 → Own wq.heap.size 3 1 w9 A6 n4 c6 ((sl2.set gi u).map (.int .i64)) → ¬ (u4 ≠ 0 ∧ u4 ≠ u) → I (k + 1, kj, any, sl2.set gi u) w9 := fun w9 hw9 ho9 hne => by
            rw [if_neg hne] at hC
            exact hI _ _ ⟨by simp only; omega, by simp only; omega, hq6.then (hw9.bel o6 hq6.size), h7.wr hw9 ap67.2, o5.wr hw9 ap1, ho9, by simp only; rw [List.length_set]; exact hs2l, hC⟩
          conv => cbv
          (refine st_fld hE fLS2 fun p hp => ?_; (conv => cbv); refine st_load hE cInts (by rw [hp]; exact (h7).at _ _ rfl) ?_; clear hp; (conv => cbv))
          (refine st_fld hE fII1 fun p hp => ?_; (conv => cbv); refine st_load hE cInt (by rw [hp]; exact (hq3f).at _ _ rfl) ?_; clear hp; (conv => cbv))
          refine st_int hE tInts o6.ints (k := gi) (by omega) (by omega) fun p3 y hy hp3 => ?_
          rw [hu4] at hy
          cases hy
          conv => cbv
          refine st_load hE cInt hp3 ?_
          conv => cbv
          refine br (fun g6 => ?_) (fun g6 => ?_)
          · have g6 : u4 ≠ 0 := by simpa [hE.cmp, cmpR] using g6
            conv => cbv
            (refine st_fld hE fLS2 fun p hp => ?_; (conv => cbv); refine st_load hE cInts (by rw [hp]; exact (h7).at _ _ rfl) ?_; clear hp; (conv => cbv))
            (refine st_fld hE fII1 fun p hp => ?_; (conv => cbv); refine st_load hE cInt (by rw [hp]; exact (hq3f).at _ _ rfl) ?_; clear hp; (conv => cbv))
            refine st_int hE tInts o6.ints (k := gi) (by omega) (by omega) fun p4 y hy hp4 => ?_
            rw [hu4] at hy
            cases hy
            conv => cbv
            refine st_load hE cInt hp4 ?_
            conv => cbv
            refine br (fun g7 => ?_) (fun g7 => ?_)
            · have g7 : u4 ≠ u := by simpa [hE.cmp, cmpR] using g7
              rw [if_pos ⟨g6, g7⟩] at hC
              replace h5 := h5.bel hq6
              replace h6 := h6.bel hq6
              replace hx := hx.trans hq6
              conv => cbv
              refine st_loadS hE tLS rfl h5.at ?_
              conv => cbv
              refine st_putS hr (by kernel_rfl) h6 (add_zero _).symm (by simp) (by simp [Value.oneCell']) fun wf hwf h6f => ?_
              simp only [List.take_zero, List.nil_append, List.length_cons, List.length_nil, List.drop_succ_cons, List.drop_nil, List.append_nil] at h6f
              conv => cbv
              refine st_cell hr tLS rfl h6f.at ?_
              rw [hR]; exact ⟨hx.then (hwf.bel h6 hx.size), kn, A3, n3, c3, A4, n4, c4, 5, rfl, by unfold stepF; rw [if_neg (fun q => q hrg), if_neg hlt, if_pos (hno hC.symm)], fun e => absurd e (by decide)⟩
            · have g7 : u4 = u := by simpa [hE.cmp, cmpR] using g7
              conv => cbv
              (refine st_fld hE fLS2 fun p hp => ?_; (conv => cbv); refine st_load hE cInts (by rw [hp]; exact (h7).at _ _ rfl) ?_; clear hp; (conv => cbv))
              (refine st_fld hE fII1 fun p hp => ?_; (conv => cbv); refine st_load hE cInt (by rw [hp]; exact (hq3f).at _ _ rfl) ?_; clear hp; (conv => cbv))
              obtain ⟨gb, hgb, _⟩ := o6.addr (by omega)
              refine st_idx hE tInts hgb (by omega) (by omega) fun p5 hp5 => ?_
              rw [show gg.toNat = gi by omega] at hp5
              conv => cbv
              refine st_set hr tInts o6 hgb (j := gi) (by omega) hp5 rfl fun w9 _ hw9 ho9 => ?_
              rw [← List.map_set] at ho9
              conv => cbv
              simp only [ek]
              exact ⟨(k + 1, kj, any, sl2.set gi u), by simp [Fits, lk], nx w9 hw9 ho9 (fun q => q.2 g7), by simp only; omega⟩
          · have g6 : u4 = 0 := by simpa [hE.cmp, cmpR] using g6
            conv => cbv
            (refine st_fld hE fLS2 fun p hp => ?_; (conv => cbv); refine st_load hE cInts (by rw [hp]; exact (h7).at _ _ rfl) ?_; clear hp; (conv => cbv))
            (refine st_fld hE fII1 fun p hp => ?_; (conv => cbv); refine st_load hE cInt (by rw [hp]; exact (hq3f).at _ _ rfl) ?_; clear hp; (conv => cbv))
            obtain ⟨gb, hgb, _⟩ := o6.addr (by omega)
            refine st_idx hE tInts hgb (by omega) (by omega) fun p5 hp5 => ?_
            rw [show gg.toNat = gi by omega] at hp5
            conv => cbv
            refine st_set hr tInts o6 hgb (j := gi) (by omega) hp5 rfl fun w9 _ hw9 ho9 => ?_
            rw [← List.map_set] at ho9
            conv => cbv
            simp only [ek]
            exact ⟨(k + 1, kj, any, sl2.set gi u), by simp [Fits, lk], nx w9 hw9 ho9 (fun q => q.1 g6), by simp only; omega⟩
        · have g5 : o ≠ 4 := by simpa [hE.cmp, cmpR] using g5
          rw [if_neg g5] at hC
          conv => cbv
          simp only [ek]
          exact ⟨(k + 1, kj, any, sl2), by simp [Fits, lk], hI _ _ ⟨by simp only; omega, by simp only; omega, hq6, h7, o5, o6, hs2l, hC⟩, by simp only; omega⟩
  have g2 : k = n1 := by
    have : ¬ kk < x5 := by simpa [hE.cmp, cmpR] using g2
    omega
  rw [chk_end (by omega)] at hC
  have hfy : fitF o (slotF (st, sls).2 gg) ((st, sls).1.drop ((st, sls).1.length - (wantF o).length)) := by
    rw [hfe]
    by_cases f : fitF o ((sls[gi]?).getD 0) args
    · exact f
    · rw [if_neg f, ← hC] at hfit; cases hfit
  have hsl2 : sl2 = if o = 4 then sls.set gi ((args[0]?).getD 0) else sls := by
    rw [hfe] at hfy
    rw [if_pos hfy, ← hC] at hfit
    exact Option.some.inj hfit
  have hsn : sl2 = (nextS o gg (st, sls) base t).2 := by
    rw [hsl2]; unfold nextS; simp only [← hgi]
    rw [hargs, List.getElem?_drop, Nat.add_zero]
  have hwx : w.heap.size ≤ wq.heap.size := hx.size
  have hpn := push_nn (o := o) (g := gg) hk hnn
  rw [← ht] at hpn
  have hq3f := hq3.bel hq6
  conv => cbv
  (refine st_fld hE fII0 fun p hp => ?_; (conv => cbv); refine st_load hE cInt (by rw [hp]; exact (hq3f).at _ _ rfl) ?_; clear hp; (conv => cbv))
  refine br (fun g9 => ?_) (fun g9 => ?_)
  · have g9 : o = 3 := by simpa [hE.cmp, cmpR] using g9
    conv => cbv
    refine br (fun g10 => ?_) (fun g10 => ?_)
    · have g10 : t = 0 := by simpa [hE.cmp, cmpR] using g10
      replace h5 := h5.bel hq6
      replace h6 := h6.bel hq6
      replace hx := hx.trans hq6
      conv => cbv
      refine st_loadS hE tLS rfl h5.at ?_
      conv => cbv
      refine st_putS hr (by kernel_rfl) h6 (add_zero _).symm (by simp) (by simp [Value.oneCell']) fun wf hwf h6f => ?_
      simp only [List.take_zero, List.nil_append, List.length_cons, List.length_nil, List.drop_succ_cons, List.drop_nil, List.append_nil] at h6f
      conv => cbv
      refine st_cell hr tLS rfl h6f.at ?_
      rw [hR]; exact ⟨hx.then (hwf.bel h6 hx.size), kn, A3, n3, c3, A4, n4, c4, 6, rfl, by unfold stepF; rw [if_neg (fun q => q hrg), if_neg hlt, if_neg (fun q => q hfy), if_pos ⟨g9, by rw [show pushF pv (st, sls).2 o gg = t from ht.symm]; exact g10⟩], fun e => absurd e (by decide)⟩
    · have g10 : t ≠ 0 := by simpa [hE.cmp, cmpR] using g10
      have hno3 : ¬ (o = 3 ∧ pushF pv (st, sls).2 o gg = 0) := by rw [show pushF pv (st, sls).2 o gg = t from ht.symm]; exact fun q => g10 q.2
      conv => cbv
      (refine st_fld hE fLS1 fun p hp => ?_; (conv => cbv); refine st_load hE cInts (by rw [hp]; exact (h7).at _ _ rfl) ?_; clear hp; (conv => cbv))
      refine st_upto hE tInts (hi := base) o5 hbi (by omega) fun os => ?_
      rw [Nat.mul_one, ← List.map_take] at os
      conv => cbv
      refine st_fld hE fLS1 fun p6 hp6 => ?_
      conv => cbv
      refine st_put hr zInts h7 hp6 (by simp) rfl fun w10 hw10 h73 => ?_
      simp only [List.set_cons_zero, List.set_cons_succ] at h73
      replace hq6 := hq6.then (hw10.bel h7 hq6.size)
      replace os := os.wr hw10 ap57.1
      replace o6 := o6.wr hw10 ap67.1
      replace h7 := h73
      clear h73 hw10 hC
      conv => cbv
      refine br (fun g7 => ?_) (fun g7 => ?_)
      · have g7 : 0 < t := by simpa [hE.cmp, cmpR] using g7
        have hn1 : (nextS o gg (st, sls) base t).1 = st.take base ++ [t] := by unfold nextS; rw [if_neg (by omega)]
        conv => cbv
        (refine st_fld hE fLS1 fun p hp => ?_; (conv => cbv); refine st_load hE cInts (by rw [hp]; exact (h7).at _ _ rfl) ?_; clear hp; (conv => cbv))
        refine st_one hr tInts rfl rfl fun A8 w11 hx11 hc11 => ?_
        replace h7 := h7.bel hx11
        replace os := os.bel hx11
        replace o6 := o6.bel hx11
        replace hq6 := hq6.trans hx11
        conv => cbv
        refine st_appsG hr tInts rfl os hc11 (m1 := 1) rfl (by simp [Value.oneCell']) hq6.size (by omega) (by omega) fun A9 c9 n9 w12 hn9 hw12 os2 hbk => ?_
        rw [show [Value.int .i64 t] = [t].map (Value.int .i64) from rfl, ← List.map_append] at os2
        have ap97 := apart_grow h7 ap57.1 hbk
        have ap96 := apart_grow (h6.bel hq6) ap65.2 hbk
        replace hq6 := hq6.then (hw12.bel os hq6.size)
        replace h7 := h7.wr hw12 ap57.2
        replace o6 := o6.wr hw12 ap2
        clear hc11 hx11
        conv => cbv
        refine st_fld hE fLS1 fun p7 hp7 => ?_
        conv => cbv
        refine st_put hr zInts h7 hp7 (by simp) rfl fun w13 hw13 h74 => ?_
        simp only [List.set_cons_zero, List.set_cons_succ] at h74
        replace hq6 := hq6.then (hw13.bel h7 hq6.size)
        replace os2 := os2.wr hw13 ap97
        replace o6 := o6.wr hw13 ap67.1
        replace h7 := h74
        clear h74 hw13 hw12
        conv => cbv
        (refine st_fld hE fLS1 fun p hp => ?_; (conv => cbv); refine st_load hE cInts (by rw [hp]; exact (h7).at _ _ rfl) ?_; clear hp; (conv => cbv))
        refine st_len hE tInts fun x6 hx6 => ?_
        conv => cbv
        refine br (fun g8 => ?_) (fun g8 => ?_)
        · have g8 : 100 < x6 := by simpa [hE.cmp, cmpR] using g8
          replace h5 := h5.bel hq6
          replace h6 := h6.bel hq6
          replace hx := hx.trans hq6
          conv => cbv
          refine st_loadS hE tLS rfl h5.at ?_
          conv => cbv
          refine st_putS hr (by kernel_rfl) h6 (add_zero _).symm (by simp) (by simp [Value.oneCell']) fun wf hwf h6f => ?_
          simp only [List.take_zero, List.nil_append, List.length_cons, List.length_nil, List.drop_succ_cons, List.drop_nil, List.append_nil] at h6f
          conv => cbv
          refine st_cell hr tLS rfl h6f.at ?_
          rw [hR]; exact ⟨hx.then (hwf.bel h6 hx.size), kn, A3, n3, c3, A4, n4, c4, 7, rfl, by unfold stepF; rw [if_neg (fun q => q hrg), if_neg hlt, if_neg (fun q => q hfy), if_neg hno3, hbs, ← ht, if_pos (by rw [hn1]; simp; omega)], fun e => absurd e (by decide)⟩
        have g8 : x6 ≤ 100 := by simpa [hE.cmp, cmpR] using g8
        have hst : stepF pv sl n2 i o gg (st, sls) = (0, nextS o gg (st, sls) base t) := by
          unfold stepF
          rw [if_neg (fun q => q hrg), if_neg hlt, if_neg (fun q => q hfy), if_neg hno3, hbs, ← ht, if_neg (by rw [hn1]; simp; omega)]
        conv => cbv
        refine st_loadS hE tLS rfl h7.at ?_
        replace h6 := h6.bel hq6
        replace hx := hx.trans hq6
        conv => cbv
        refine st_putS hr (by kernel_rfl) h6 (add_zero _).symm (by simp) (by simp [Value.oneCell']) fun wf hwf h6f => ?_
        simp only [List.take_zero, List.nil_append, List.length_cons, List.length_nil, List.drop_succ_cons, List.drop_nil, List.append_nil] at h6f
        conv => cbv
        refine st_cell hr tLS rfl h6f.at ?_
        rw [hR, hst]; exact ⟨hx.then (hwf.bel h6 hx.size), kn, _, _, _, _, _, _, 0, rfl, rfl, fun _ => ⟨rfl, by simp only [hn1]; exact (os2.mono hwx).wr hwf ap96, by simp only [← hsn]; exact (o6.mono hwx).wr hwf ap66.2⟩⟩
      · have g7 : t = 0 := by
          have : ¬ 0 < t := by simpa [hE.cmp, cmpR] using g7
          omega
        have hn1 : (nextS o gg (st, sls) base t).1 = st.take base := by unfold nextS; rw [if_pos g7, List.append_nil]
        conv => cbv
        (refine st_fld hE fLS1 fun p hp => ?_; (conv => cbv); refine st_load hE cInts (by rw [hp]; exact (h7).at _ _ rfl) ?_; clear hp; (conv => cbv))
        refine st_len hE tInts fun x6 hx6 => ?_
        conv => cbv
        refine br (fun g8 => ?_) (fun g8 => ?_)
        · have g8 : 100 < x6 := by simpa [hE.cmp, cmpR] using g8
          replace h5 := h5.bel hq6
          replace h6 := h6.bel hq6
          replace hx := hx.trans hq6
          conv => cbv
          refine st_loadS hE tLS rfl h5.at ?_
          conv => cbv
          refine st_putS hr (by kernel_rfl) h6 (add_zero _).symm (by simp) (by simp [Value.oneCell']) fun wf hwf h6f => ?_
          simp only [List.take_zero, List.nil_append, List.length_cons, List.length_nil, List.drop_succ_cons, List.drop_nil, List.append_nil] at h6f
          conv => cbv
          refine st_cell hr tLS rfl h6f.at ?_
          rw [hR]; exact ⟨hx.then (hwf.bel h6 hx.size), kn, A3, n3, c3, A4, n4, c4, 7, rfl, by unfold stepF; rw [if_neg (fun q => q hrg), if_neg hlt, if_neg (fun q => q hfy), if_neg hno3, hbs, ← ht, if_pos (by rw [hn1]; simp; omega)], fun e => absurd e (by decide)⟩
        have g8 : x6 ≤ 100 := by simpa [hE.cmp, cmpR] using g8
        have hst : stepF pv sl n2 i o gg (st, sls) = (0, nextS o gg (st, sls) base t) := by
          unfold stepF
          rw [if_neg (fun q => q hrg), if_neg hlt, if_neg (fun q => q hfy), if_neg hno3, hbs, ← ht, if_neg (by rw [hn1]; simp; omega)]
        conv => cbv
        refine st_loadS hE tLS rfl h7.at ?_
        replace h6 := h6.bel hq6
        replace hx := hx.trans hq6
        conv => cbv
        refine st_putS hr (by kernel_rfl) h6 (add_zero _).symm (by simp) (by simp [Value.oneCell']) fun wf hwf h6f => ?_
        simp only [List.take_zero, List.nil_append, List.length_cons, List.length_nil, List.drop_succ_cons, List.drop_nil, List.append_nil] at h6f
        conv => cbv
        refine st_cell hr tLS rfl h6f.at ?_
        rw [hR, hst]; exact ⟨hx.then (hwf.bel h6 hx.size), kn, _, _, _, _, _, _, 0, rfl, rfl, fun _ => ⟨rfl, by simp only [hn1]; exact (os.mono hwx).wr hwf ap65.2, by simp only [← hsn]; exact (o6.mono hwx).wr hwf ap66.2⟩⟩
  · have g9 : o ≠ 3 := by simpa [hE.cmp, cmpR] using g9
    have hno3 : ¬ (o = 3 ∧ pushF pv (st, sls).2 o gg = 0) := by rw [show pushF pv (st, sls).2 o gg = t from ht.symm]; exact fun q => g9 q.1
    conv => cbv
    (refine st_fld hE fLS1 fun p hp => ?_; (conv => cbv); refine st_load hE cInts (by rw [hp]; exact (h7).at _ _ rfl) ?_; clear hp; (conv => cbv))
    refine st_upto hE tInts (hi := base) o5 hbi (by omega) fun os => ?_
    rw [Nat.mul_one, ← List.map_take] at os
    conv => cbv
    refine st_fld hE fLS1 fun p6 hp6 => ?_
    conv => cbv
    refine st_put hr zInts h7 hp6 (by simp) rfl fun w10 hw10 h73 => ?_
    simp only [List.set_cons_zero, List.set_cons_succ] at h73
    replace hq6 := hq6.then (hw10.bel h7 hq6.size)
    replace os := os.wr hw10 ap57.1
    replace o6 := o6.wr hw10 ap67.1
    replace h7 := h73
    clear h73 hw10 hC
    conv => cbv
    refine br (fun g7 => ?_) (fun g7 => ?_)
    · have g7 : 0 < t := by simpa [hE.cmp, cmpR] using g7
      have hn1 : (nextS o gg (st, sls) base t).1 = st.take base ++ [t] := by unfold nextS; rw [if_neg (by omega)]
      conv => cbv
      (refine st_fld hE fLS1 fun p hp => ?_; (conv => cbv); refine st_load hE cInts (by rw [hp]; exact (h7).at _ _ rfl) ?_; clear hp; (conv => cbv))
      refine st_one hr tInts rfl rfl fun A8 w11 hx11 hc11 => ?_
      replace h7 := h7.bel hx11
      replace os := os.bel hx11
      replace o6 := o6.bel hx11
      replace hq6 := hq6.trans hx11
      conv => cbv
      refine st_appsG hr tInts rfl os hc11 (m1 := 1) rfl (by simp [Value.oneCell']) hq6.size (by omega) (by omega) fun A9 c9 n9 w12 hn9 hw12 os2 hbk => ?_
      rw [show [Value.int .i64 t] = [t].map (Value.int .i64) from rfl, ← List.map_append] at os2
      have ap97 := apart_grow h7 ap57.1 hbk
      have ap96 := apart_grow (h6.bel hq6) ap65.2 hbk
      replace hq6 := hq6.then (hw12.bel os hq6.size)
      replace h7 := h7.wr hw12 ap57.2
      replace o6 := o6.wr hw12 ap2
      clear hc11 hx11
      conv => cbv
      refine st_fld hE fLS1 fun p7 hp7 => ?_
      conv => cbv
      refine st_put hr zInts h7 hp7 (by simp) rfl fun w13 hw13 h74 => ?_
      simp only [List.set_cons_zero, List.set_cons_succ] at h74
      replace hq6 := hq6.then (hw13.bel h7 hq6.size)
      replace os2 := os2.wr hw13 ap97
      replace o6 := o6.wr hw13 ap67.1
      replace h7 := h74
      clear h74 hw13 hw12
      conv => cbv
      (refine st_fld hE fLS1 fun p hp => ?_; (conv => cbv); refine st_load hE cInts (by rw [hp]; exact (h7).at _ _ rfl) ?_; clear hp; (conv => cbv))
      refine st_len hE tInts fun x6 hx6 => ?_
      conv => cbv
      refine br (fun g8 => ?_) (fun g8 => ?_)
      · have g8 : 100 < x6 := by simpa [hE.cmp, cmpR] using g8
        replace h5 := h5.bel hq6
        replace h6 := h6.bel hq6
        replace hx := hx.trans hq6
        conv => cbv
        refine st_loadS hE tLS rfl h5.at ?_
        conv => cbv
        refine st_putS hr (by kernel_rfl) h6 (add_zero _).symm (by simp) (by simp [Value.oneCell']) fun wf hwf h6f => ?_
        simp only [List.take_zero, List.nil_append, List.length_cons, List.length_nil, List.drop_succ_cons, List.drop_nil, List.append_nil] at h6f
        conv => cbv
        refine st_cell hr tLS rfl h6f.at ?_
        rw [hR]; exact ⟨hx.then (hwf.bel h6 hx.size), kn, A3, n3, c3, A4, n4, c4, 7, rfl, by unfold stepF; rw [if_neg (fun q => q hrg), if_neg hlt, if_neg (fun q => q hfy), if_neg hno3, hbs, ← ht, if_pos (by rw [hn1]; simp; omega)], fun e => absurd e (by decide)⟩
      have g8 : x6 ≤ 100 := by simpa [hE.cmp, cmpR] using g8
      have hst : stepF pv sl n2 i o gg (st, sls) = (0, nextS o gg (st, sls) base t) := by
        unfold stepF
        rw [if_neg (fun q => q hrg), if_neg hlt, if_neg (fun q => q hfy), if_neg hno3, hbs, ← ht, if_neg (by rw [hn1]; simp; omega)]
      conv => cbv
      refine st_loadS hE tLS rfl h7.at ?_
      replace h6 := h6.bel hq6
      replace hx := hx.trans hq6
      conv => cbv
      refine st_putS hr (by kernel_rfl) h6 (add_zero _).symm (by simp) (by simp [Value.oneCell']) fun wf hwf h6f => ?_
      simp only [List.take_zero, List.nil_append, List.length_cons, List.length_nil, List.drop_succ_cons, List.drop_nil, List.append_nil] at h6f
      conv => cbv
      refine st_cell hr tLS rfl h6f.at ?_
      rw [hR, hst]; exact ⟨hx.then (hwf.bel h6 hx.size), kn, _, _, _, _, _, _, 0, rfl, rfl, fun _ => ⟨rfl, by simp only [hn1]; exact (os2.mono hwx).wr hwf ap96, by simp only [← hsn]; exact (o6.mono hwx).wr hwf ap66.2⟩⟩
    · have g7 : t = 0 := by
        have : ¬ 0 < t := by simpa [hE.cmp, cmpR] using g7
        omega
      have hn1 : (nextS o gg (st, sls) base t).1 = st.take base := by unfold nextS; rw [if_pos g7, List.append_nil]
      conv => cbv
      (refine st_fld hE fLS1 fun p hp => ?_; (conv => cbv); refine st_load hE cInts (by rw [hp]; exact (h7).at _ _ rfl) ?_; clear hp; (conv => cbv))
      refine st_len hE tInts fun x6 hx6 => ?_
      conv => cbv
      refine br (fun g8 => ?_) (fun g8 => ?_)
      · have g8 : 100 < x6 := by simpa [hE.cmp, cmpR] using g8
        replace h5 := h5.bel hq6
        replace h6 := h6.bel hq6
        replace hx := hx.trans hq6
        conv => cbv
        refine st_loadS hE tLS rfl h5.at ?_
        conv => cbv
        refine st_putS hr (by kernel_rfl) h6 (add_zero _).symm (by simp) (by simp [Value.oneCell']) fun wf hwf h6f => ?_
        simp only [List.take_zero, List.nil_append, List.length_cons, List.length_nil, List.drop_succ_cons, List.drop_nil, List.append_nil] at h6f
        conv => cbv
        refine st_cell hr tLS rfl h6f.at ?_
        rw [hR]; exact ⟨hx.then (hwf.bel h6 hx.size), kn, A3, n3, c3, A4, n4, c4, 7, rfl, by unfold stepF; rw [if_neg (fun q => q hrg), if_neg hlt, if_neg (fun q => q hfy), if_neg hno3, hbs, ← ht, if_pos (by rw [hn1]; simp; omega)], fun e => absurd e (by decide)⟩
      have g8 : x6 ≤ 100 := by simpa [hE.cmp, cmpR] using g8
      have hst : stepF pv sl n2 i o gg (st, sls) = (0, nextS o gg (st, sls) base t) := by
        unfold stepF
        rw [if_neg (fun q => q hrg), if_neg hlt, if_neg (fun q => q hfy), if_neg hno3, hbs, ← ht, if_neg (by rw [hn1]; simp; omega)]
      conv => cbv
      refine st_loadS hE tLS rfl h7.at ?_
      replace h6 := h6.bel hq6
      replace hx := hx.trans hq6
      conv => cbv
      refine st_putS hr (by kernel_rfl) h6 (add_zero _).symm (by simp) (by simp [Value.oneCell']) fun wf hwf h6f => ?_
      simp only [List.take_zero, List.nil_append, List.length_cons, List.length_nil, List.drop_succ_cons, List.drop_nil, List.append_nil] at h6f
      conv => cbv
      refine st_cell hr tLS rfl h6f.at ?_
      rw [hR, hst]; exact ⟨hx.then (hwf.bel h6 hx.size), kn, _, _, _, _, _, _, 0, rfl, rfl, fun _ => ⟨rfl, by simp only [hn1]; exact (os.mono hwx).wr hwf ap65.2, by simp only [← hsn]; exact (o6.mono hwx).wr hwf ap66.2⟩⟩
end Go.Proofs.YtmbonalhbibppaaDoor
