/- A code's shape, on both sides (printed by gen_v5.py). -/
import Derived.Test.YtmbonalhbibppaaDoorV4
namespace Go.Proofs.YtmbonalhbibppaaDoor
open Go.Eng
set_option linter.unusedVariables false
set_option linter.unusedSimpArgs false
theorem cMap : Cel Tryd.prog 209 := ⟨_, Tryd.underlying209, by simp, by simp⟩
def constF : List (Int × Int) := [(1, 3), (2, 1), (3, 2), (4, 4)]
theorem run_bN (o z : Int) (tx : ByteArray) (A : Option Addr) (m c : Nat) (w : World) : (Instr.build 137 #[(0, .int .i64 o), (1, .int .i64 z), (2, .string tx), (3, .slice A m c)]).run Tryd.prog w = .ok (.agg #[.int .i64 o, .int .i64 z, .string tx, .slice A m c, .slice none 0 0]) w := by kernel_rfl
theorem st_bN {E : Sym} {w : World} {K : Value → World → Prop} {d : Option Tmp} {ty : TypeId} {pos : String} {aft : Array Edge} {g : Option (Nat × Bool)} {bq : Bool} (hE : EngB bq Tryd.prog E) {o z : Int} {tx : ByteArray} {A : Option Addr} {m c : Nat} {x0 x1 x2 x3 : Operand} (hk : K (.agg ⟨[.int .i64 o, .int .i64 z, .string tx, .slice A m c, .slice none 0 0]⟩) w) : E.stop ⟨d, .build 137 ⟨[(0, x0), (1, x1), (2, x2), (3, x3)]⟩, ty, pos, aft, g⟩ [.int .i64 o, .int .i64 z, .string tx, .slice A m c] w K := by
  refine hE.det (v := .agg ⟨[.int .i64 o, .int .i64 z, .string tx, .slice A m c, .slice none 0 0]⟩) (fun w1 _ ρ hρ => ?_) hk
  simp only [opnds, List.map_cons, List.map_nil, List.cons.injEq, and_true] at hρ
  have := run_bN o z tx A m c w1
  simp [execOp, hρ.1, hρ.2.1, hρ.2.2.1, hρ.2.2.2, this]
set_option maxHeartbeats 1000000 in
theorem valueOK_f {w : World} (hT : Tab w 6 constF) {k z : Int} {tx : ByteArray} {A : Option Addr} {m c : Nat} {xs : List ByteArray} (h : Strs w A m c xs) (ht : tx.size ≤ 9223372036854775807) :
    FC Tryd.prog 89 [.agg ⟨[.int .i64 k, .int .i64 z, .string tx, .slice A m c]⟩] w fun v _ => ∃ b : Bool, v = .bool b ∧ (b = true ↔ valOK ⟨k, z, tx, xs⟩) := by
  refine FC.intro (cs := []) Tryd.func89 (by kernel_rfl) fun E R hE hr hR => ?_
  conv => cbv
  refine st_box hr fun a w1 hx hb0 => ?_
  have hb := hb0 _ (Nat.le_refl _)
  clear hb0
  obtain ⟨bm, es, clock, t1, t2, t3, t4, _⟩ := (hT.ext hx).ex
  conv => cbv
  refine st_load hE cMap t1 ?_
  conv => cbv
  (refine st_fld hE fIV0 fun p hp => ?_; (conv => cbv); refine st_load hE cInt (by rw [hp]; exact (hb).at _ _ rfl) ?_; clear hp; (conv => cbv))
  refine st_tab hE Tryd.underlying209 uInt (by kernel_rfl) t2 t3 t4 fun o ho => ?_
  conv => cbv
  (refine st_fld hE fIV1 fun p hp => ?_; (conv => cbv); refine st_load hE cI64 (by rw [hp]; exact (hb).at _ _ rfl) ?_; clear hp; (conv => cbv))
  (refine st_fld hE fIV2 fun p hp => ?_; (conv => cbv); refine st_load hE cStr (by rw [hp]; exact (hb).at _ _ rfl) ?_; clear hp; (conv => cbv))
  (refine st_fld hE fIV3 fun p hp => ?_; (conv => cbv); refine st_load hE cStrs (by rw [hp]; exact (hb).at _ _ rfl) ?_; clear hp; (conv => cbv))
  refine st_bN hE ?_
  conv => cbv
  refine st_alloc hr tIN rfl fun q w2 hx2 hq0 => ?_
  have hq := hq0 _ hx.size
  replace hx := hx.trans hx2
  conv => cbv
  refine st_putS hr (by kernel_rfl) hq (add_zero _).symm (by simp) (by simp [Value.oneCell']) fun w3 hw3 hq3 => ?_
  simp only [List.take_zero, List.nil_append, List.length_cons, List.length_nil, List.drop_succ_cons, List.drop_nil, List.append_nil] at hq3
  replace hx := hx.then (hw3.bel hq hx.size)
  conv => cbv
  refine st_loadS hE tIN rfl hq3.at ?_
  conv => cbv
  refine st_f hr (validConst_f (o := o) (z := z) (tx := tx) (h.ext hx) ht) fun v w4 hx4 ⟨b, ev, hb2⟩ => ?_
  subst ev
  conv => cbv
  rw [hR]; refine ⟨hx.trans hx4, b, rfl, ?_⟩
  rw [hb2]
  rcases ho with ho | ⟨rfl, ho⟩
  · simp [constF] at ho
    rcases ho with ⟨rfl, rfl⟩ | ⟨rfl, rfl⟩ | ⟨rfl, rfl⟩ | ⟨rfl, rfl⟩ <;> simp [valOK]
  · have h1 : k ≠ 1 := fun e => ho 3 (by rw [e]; simp [constF])
    have h2 : k ≠ 2 := fun e => ho 1 (by rw [e]; simp [constF])
    have h3 : k ≠ 3 := fun e => ho 2 (by rw [e]; simp [constF])
    have h4 : k ≠ 4 := fun e => ho 4 (by rw [e]; simp [constF])
    simp [valOK, h1, h2, h3, h4]
/-- The instructions that have an argument. -/
def hasA (o : Int) : Prop := o = 1 ∨ o = 2 ∨ o = 3 ∨ o = 4 ∨ o = 22 ∨ o = 23
theorem hasArg_q (o : Int) (w : World) : QB Tryd.prog 90 [.int .i64 o] w (hasA o) := by
  refine QB.intro (cs := []) Tryd.func90 (by kernel_rfl) fun w hx0 w1 hs E R hE hr hR => ?_
  conv => cbv
  repeat' (split <;> conv => cbv)
  all_goals (refine hR _ _ hs ?_; simp only [hE.cmp, cmpR, decide_eq_true_eq, beq_iff_eq] at *; simp [hasA]; omega)
theorem l5hasArg_q (o : Int) (w : World) : QB Tryd.prog 83 [.int .i64 o] w (hasA o) := by
  refine QB.intro (cs := []) Tryd.func83 (by kernel_rfl) fun w hx0 w1 hs E R hE hr hR => ?_
  conv => cbv
  repeat' (split <;> conv => cbv)
  all_goals (refine hR _ _ hs ?_; simp only [hE.cmp, cmpR, decide_eq_true_eq, beq_iff_eq] at *; simp [hasA]; omega)
def insOK (i : Int × Int) : Prop := 1 ≤ i.1 ∧ i.1 ≤ 25 ∧ 0 ≤ i.2 ∧ i.2 ≤ 65535 ∧ (i.2 = 0 ∨ hasA i.1)
/-- A code's shape. -/
def shapeP (pv : List PV) (sl : Int) (is : List (Int × Int)) : Prop := pv.length ≤ 4000 ∧ 0 ≤ sl ∧ sl ≤ 600 ∧ is.length ≤ 20000 ∧ (∀ p ∈ pv, valOK p) ∧ ∀ i ∈ is, insOK i
set_option maxHeartbeats 2000000 in
theorem shapeOK_f {w : World} (hT : Tab w 6 constF) {A A2 : Option Addr} {n c n2 c2 : Nat} {sl : Int} {pv : List PV} {is : List (Int × Int)} (h : CodeR w A n A2 n2 pv is) (hn : n ≤ 9223372036854775807) (hn2 : n2 ≤ 9223372036854775807) :
    FC Tryd.prog 47 [codeV A n c sl A2 n2 c2] w fun v _ => ∃ b : Bool, v = .bool b ∧ (b = true ↔ shapeP pv sl is) := by
  refine FC.intro (cs := []) Tryd.func47 (by kernel_rfl) fun E R hE hr hR => ?_
  have hl := h.pool.len
  have hl2 := h.ins.len
  conv => cbv
  refine st_box hr fun a w1 hx hb0 => ?_
  have hb := hb0 _ (Nat.le_refl _)
  clear hb0
  conv => cbv
  (refine st_fld hE fIC0 fun p hp => ?_; (conv => cbv); refine st_load hE cIVs (by rw [hp]; exact (hb).at _ _ rfl) ?_; clear hp; (conv => cbv))
  refine st_len hE sIV fun x1 hx1 => ?_
  conv => cbv
  refine br (fun g => ?_) (fun g => ?_)
  · have g : 4000 < x1 := by simpa [hE.cmp, cmpR] using g
    conv => cbv
    rw [hR]; exact ⟨hx, false, rfl, by simp only [Bool.false_eq_true, false_iff]; exact fun q => by have := q.1; omega⟩
  have g1 : n ≤ 4000 := by simp [hE.cmp, cmpR] at g; omega
  conv => cbv
  (refine st_fld hE fIC1 fun p hp => ?_; (conv => cbv); refine st_load hE cInt (by rw [hp]; exact (hb).at _ _ rfl) ?_; clear hp; (conv => cbv))
  refine br (fun g => ?_) (fun g => ?_)
  · have g : sl < 0 := by simpa [hE.cmp, cmpR] using g
    conv => cbv
    rw [hR]; exact ⟨hx, false, rfl, by simp only [Bool.false_eq_true, false_iff]; exact fun q => by have := q.2.1; omega⟩
  have g2 : 0 ≤ sl := by simp [hE.cmp, cmpR] at g; omega
  conv => cbv
  (refine st_fld hE fIC1 fun p hp => ?_; (conv => cbv); refine st_load hE cInt (by rw [hp]; exact (hb).at _ _ rfl) ?_; clear hp; (conv => cbv))
  refine br (fun g => ?_) (fun g => ?_)
  · have g : 600 < sl := by simpa [hE.cmp, cmpR] using g
    conv => cbv
    rw [hR]; exact ⟨hx, false, rfl, by simp only [Bool.false_eq_true, false_iff]; exact fun q => by have := q.2.2.1; omega⟩
  have g3 : sl ≤ 600 := by simp [hE.cmp, cmpR] at g; omega
  conv => cbv
  (refine st_fld hE fIC2 fun p hp => ?_; (conv => cbv); refine st_load hE cIIs (by rw [hp]; exact (hb).at _ _ rfl) ?_; clear hp; (conv => cbv))
  refine st_len hE sII fun x2 hx2 => ?_
  conv => cbv
  refine br (fun g => ?_) (fun g => ?_)
  · have g : 20000 < x2 := by simpa [hE.cmp, cmpR] using g
    conv => cbv
    rw [hR]; exact ⟨hx, false, rfl, by simp only [Bool.false_eq_true, false_iff]; exact fun q => by have := q.2.2.2.1; omega⟩
  have g4 : n2 ≤ 20000 := by simp [hE.cmp, cmpR] at g; omega
  conv => cbv
  (refine st_fld hE fIC0 fun p hp => ?_; (conv => cbv); refine st_load hE cIVs (by rw [hp]; exact (hb).at _ _ rfl) ?_; clear hp; (conv => cbv))
  refine st_len hE sIV fun x3 hx3 => ?_
  conv => cbv
  refine loop_rule hr (fun (s : Nat × Int) w' => s.1 ≤ n ∧ s.2 = (s.1 : Int) ∧ Ext w w' ∧ Box w.heap.size 45 3 w' a [.slice A n c, .int .i64 sl, .slice A2 n2 c2] ∧ ∀ p ∈ pv.take s.1, valOK p) (fun s => [(1, .pointer (some a)), (28, .slice A n c), (29, .int .i64 x3), (30, .int .i64 s.2)]) (fun s => n - s.1) (0, 0)
    (by simp [Fits, lk]) ⟨by simp, by simp, hx, hb, by simp⟩ ?_
  clear hb hx
  rintro I hI ⟨i, ii⟩ w' ⟨hi, hii, hx, hb, hall⟩
  simp only at hi hii hall
  obtain ⟨ii', hii'⟩ : ∃ z, z = ii + 1 := ⟨_, rfl⟩
  conv => cbv
  refine br (fun g => ?_) (fun g => ?_)
  · have g : i < n := by
      have : ii < x3 := by simpa [hE.cmp, cmpR] using g
      omega
    have ei : E.ar .add .i64 ii 1 = ii' := by rw [hE.ar, hii']; exact wrap_in (by omega) (by omega)
    obtain ⟨a1, k, z, tx, xs, A3, m, c3, hA, hg, hc, hs, ht⟩ := (h.pool.ext hx).get g
    conv => cbv
    refine st_idx hE sIV hA (by omega) (by omega) fun q hq => ?_
    rw [show ii.toNat = i by omega] at hq
    conv => cbv
    refine st_loadS hE tIV rfl (by rw [hq]; exact hc) ?_
    conv => cbv
    refine st_alloc hr tIV rfl fun q w2 hx2 hq0 => ?_
    have hq := hq0 _ hx.size
    have aq := (hb.apart (hq0 _ (Nat.le_refl _)) (Nat.le_refl _)).1
    replace hb := hb.bel hx2
    replace hx := hx.trans hx2
    conv => cbv
    refine st_putS hr (by kernel_rfl) hq (add_zero _).symm (by simp) (by simp [Value.oneCell']) fun w3 hw3 hq3 => ?_
    simp only [List.take_zero, List.nil_append, List.length_cons, List.length_nil, List.drop_succ_cons, List.drop_nil, List.append_nil] at hq3
    have hw3E : Ext w' w3 := hx2.then (hw3.bel (hq0 _ (Nat.le_refl _)) hx2.size)
    replace hx := hx.then (hw3.bel hq hx.size)
    replace hb := hb.wr hw3 aq
    conv => cbv
    refine st_loadS hE tIV rfl hq3.at ?_
    have hA4 : Strs w3 A3 m c3 xs := hs.ext hw3E
    conv => cbv
    refine st_f hr (valueOK_f (hT.ext hx) (k := k) (z := z) (tx := tx) hA4 ht) fun v w4 hx4 ⟨b, ev, hb2⟩ => ?_
    subst ev
    replace hb := hb.bel hx4
    replace hx := hx.trans hx4
    conv => cbv
    cases b with
    | false =>
      conv => cbv
      rw [hR]; exact ⟨hx, false, rfl, by
        simp only [Bool.false_eq_true, false_iff]
        exact fun q => absurd (hb2.2 (q.2.2.2.2.1 _ (List.mem_of_getElem? hg))) (by simp)⟩
    | true =>
      conv => cbv
      simp only [ei]
      refine ⟨(i + 1, ii'), by simp [Fits, lk], hI _ _ ⟨by simp only; omega, by simp only; omega, hx, hb, ?_⟩, by simp only; omega⟩
      simp only
      rw [List.take_add_one, hg]
      intro p hp
      rcases List.mem_append.1 hp with hp | hp
      · exact hall p hp
      · simp at hp; rw [hp]; exact hb2.1 rfl
  have g : i = n := by
    have : ¬ ii < x3 := by simpa [hE.cmp, cmpR] using g
    omega
  subst g
  rw [List.take_of_length_le (by omega)] at hall

  conv => cbv
  (refine st_fld hE fIC2 fun p hp => ?_; (conv => cbv); refine st_load hE cIIs (by rw [hp]; exact (hb).at _ _ rfl) ?_; clear hp; (conv => cbv))
  refine st_len hE sII fun x4 hx4 => ?_
  conv => cbv
  refine loop_rule hr (fun (s : Nat × Int) w' => s.1 ≤ n2 ∧ s.2 = (s.1 : Int) ∧ Ext w w' ∧ ∀ p ∈ is.take s.1, insOK p) (fun s => [(39, .slice A2 n2 c2), (40, .int .i64 x4), (41, .int .i64 s.2)]) (fun s => n2 - s.1) (0, 0)
    (by simp [Fits, lk]) ⟨by simp, by simp, hx, by simp⟩ ?_
  clear hb hx
  rintro I hI ⟨j, jj⟩ w' ⟨hj, hjj, hx, hal2⟩
  simp only at hj hjj hal2
  obtain ⟨jj', hjj'⟩ : ∃ z, z = jj + 1 := ⟨_, rfl⟩
  conv => cbv
  refine br (fun g => ?_) (fun g => ?_)
  · have g : j < n2 := by
      have : jj < x4 := by simpa [hE.cmp, cmpR] using g
      omega
    have ej : E.ar .add .i64 jj 1 = jj' := by rw [hE.ar, hjj']; exact wrap_in (by omega) (by omega)
    obtain ⟨a1, o, u, hA, hg, hc⟩ := (h.ins.ext hx).get g
    have hno : ∀ q : shapeP pv sl is, insOK (o, u) := fun q => q.2.2.2.2.2 _ (List.mem_of_getElem? hg)
    conv => cbv
    refine st_idx hE sII hA (by omega) (by omega) fun q hq => ?_
    rw [show jj.toNat = j by omega] at hq
    conv => cbv
    refine st_loadS hE tII rfl (by rw [hq]; exact hc) ?_
    conv => cbv
    refine st_alloc hr tII rfl fun q w2 hx2 hq0 => ?_
    have hq := hq0 _ hx.size
    replace hx := hx.trans hx2
    conv => cbv
    refine st_putS hr (by kernel_rfl) hq (add_zero _).symm (by simp) (by simp [Value.oneCell']) fun w3 hw3 hq3 => ?_
    simp only [List.take_zero, List.nil_append, List.length_cons, List.length_nil, List.drop_succ_cons, List.drop_nil, List.append_nil] at hq3
    replace hx := hx.then (hw3.bel hq hx.size)
    conv => cbv
    (refine st_fld hE fII0 fun p hp => ?_; (conv => cbv); refine st_load hE cInt (by rw [hp]; exact (hq3).at _ _ rfl) ?_; clear hp; (conv => cbv))
    refine br (fun g2 => ?_) (fun g2 => ?_)
    · have g2 : o < 1 := by simpa [hE.cmp, cmpR] using g2
      conv => cbv
      rw [hR]; exact ⟨hx, false, rfl, by simp only [Bool.false_eq_true, false_iff]; exact fun q => by have := (hno q).1; simp only at this; omega⟩
    have f_1 : 1 ≤ o := by simp [hE.cmp, cmpR] at g2; omega
    conv => cbv
    (refine st_fld hE fII0 fun p hp => ?_; (conv => cbv); refine st_load hE cInt (by rw [hp]; exact (hq3).at _ _ rfl) ?_; clear hp; (conv => cbv))
    refine br (fun g2 => ?_) (fun g2 => ?_)
    · have g2 : 25 < o := by simpa [hE.cmp, cmpR] using g2
      conv => cbv
      rw [hR]; exact ⟨hx, false, rfl, by simp only [Bool.false_eq_true, false_iff]; exact fun q => by have := (hno q).2.1; simp only at this; omega⟩
    have f_2_1 : o ≤ 25 := by simp [hE.cmp, cmpR] at g2; omega
    conv => cbv
    (refine st_fld hE fII1 fun p hp => ?_; (conv => cbv); refine st_load hE cInt (by rw [hp]; exact (hq3).at _ _ rfl) ?_; clear hp; (conv => cbv))
    refine br (fun g2 => ?_) (fun g2 => ?_)
    · have g2 : u < 0 := by simpa [hE.cmp, cmpR] using g2
      conv => cbv
      rw [hR]; exact ⟨hx, false, rfl, by simp only [Bool.false_eq_true, false_iff]; exact fun q => by have := (hno q).2.2.1; simp only at this; omega⟩
    have f_2_2_1 : 0 ≤ u := by simp [hE.cmp, cmpR] at g2; omega
    conv => cbv
    (refine st_fld hE fII1 fun p hp => ?_; (conv => cbv); refine st_load hE cInt (by rw [hp]; exact (hq3).at _ _ rfl) ?_; clear hp; (conv => cbv))
    refine br (fun g2 => ?_) (fun g2 => ?_)
    · have g2 : 65535 < u := by simpa [hE.cmp, cmpR] using g2
      conv => cbv
      rw [hR]; exact ⟨hx, false, rfl, by simp only [Bool.false_eq_true, false_iff]; exact fun q => by have := (hno q).2.2.2.1; simp only at this; omega⟩
    have f_2_2_2_1 : u ≤ 65535 := by simp [hE.cmp, cmpR] at g2; omega
    have step : ∀ w4, Ext w w4 → (u = 0 ∨ hasA o) → I (j + 1, jj') w4 := fun w4 hx4 hq => by
      refine hI _ _ ⟨by simp only; omega, by simp only; omega, hx4, ?_⟩
      simp only
      rw [List.take_add_one, hg]
      intro p hp
      rcases List.mem_append.1 hp with hp | hp
      · exact hal2 p hp
      · simp at hp; rw [hp]; exact ⟨f_1, f_2_1, f_2_2_1, f_2_2_2_1, hq⟩
    conv => cbv
    (refine st_fld hE fII1 fun p hp => ?_; (conv => cbv); refine st_load hE cInt (by rw [hp]; exact (hq3).at _ _ rfl) ?_; clear hp; (conv => cbv))
    refine br (fun g2 => ?_) (fun g2 => ?_)
    · have g2 : u ≠ 0 := by simpa [hE.cmp, cmpR] using g2
      conv => cbv
      (refine st_fld hE fII0 fun p hp => ?_; (conv => cbv); refine st_load hE cInt (by rw [hp]; exact (hq3).at _ _ rfl) ?_; clear hp; (conv => cbv))
      refine st_qb hE (hasArg_q o _) fun b hb w4 hs4 => ?_
      conv => cbv
      cases b with
      | false =>
        conv => cbv
        rw [hR]; exact ⟨hx.trans hs4.ext, false, rfl, by
          simp only [Bool.false_eq_true, false_iff]
          intro q
          rcases (hno q).2.2.2.2 with q | q
          · exact g2 q
          · exact absurd (hb.2 q) (by simp)⟩
      | true =>
        conv => cbv
        simp only [ej]
        exact ⟨(j + 1, jj'), by simp [Fits, lk], step _ (hx.trans hs4.ext) (.inr (hb.1 rfl)), by simp only; omega⟩
    · have g2 : u = 0 := by simpa [hE.cmp, cmpR] using g2
      conv => cbv
      simp only [ej]
      exact ⟨(j + 1, jj'), by simp [Fits, lk], step _ hx (.inl g2), by simp only; omega⟩
  have g : j = n2 := by
    have : ¬ jj < x4 := by simpa [hE.cmp, cmpR] using g
    omega
  rw [List.take_of_length_le (by omega)] at hal2
  conv => cbv
  rw [hR]; exact ⟨hx, true, rfl, by simp only [true_iff]; exact ⟨by omega, g2, g3, by omega, hall, hal2⟩⟩
set_option maxHeartbeats 2000000 in
theorem l5shape_f {w : World} {A A2 : Option Addr} {n c n2 c2 : Nat} {sl : Int} {pv : List PV} {is : List (Int × Int)} (h : CodeR w A n A2 n2 pv is) (hn : n ≤ 9223372036854775807) (hn2 : n2 ≤ 9223372036854775807) :
    FC Tryd.prog 41 [codeV A n c sl A2 n2 c2] w fun v _ => ∃ b : Bool, v = .bool b ∧ (b = true ↔ shapeP pv sl is) := by
  refine FC.intro (cs := []) Tryd.func41 (by kernel_rfl) fun E R hE hr hR => ?_
  have hl := h.pool.len
  have hl2 := h.ins.len
  conv => cbv
  refine st_box hr fun a w1 hx hb0 => ?_
  have hb := hb0 _ (Nat.le_refl _)
  clear hb0
  conv => cbv
  (refine st_fld hE fIC0 fun p hp => ?_; (conv => cbv); refine st_load hE cIVs (by rw [hp]; exact (hb).at _ _ rfl) ?_; clear hp; (conv => cbv))
  refine st_len hE sIV fun x1 hx1 => ?_
  conv => cbv
  refine br (fun g => ?_) (fun g => ?_)
  · have g : 4000 < x1 := by simpa [hE.cmp, cmpR] using g
    conv => cbv
    rw [hR]; exact ⟨hx, false, rfl, by simp only [Bool.false_eq_true, false_iff]; exact fun q => by have := q.1; omega⟩
  have g1 : n ≤ 4000 := by simp [hE.cmp, cmpR] at g; omega
  conv => cbv
  (refine st_fld hE fIC2 fun p hp => ?_; (conv => cbv); refine st_load hE cIIs (by rw [hp]; exact (hb).at _ _ rfl) ?_; clear hp; (conv => cbv))
  refine st_len hE sII fun x2 hx2 => ?_
  conv => cbv
  refine br (fun g => ?_) (fun g => ?_)
  · have g : 20000 < x2 := by simpa [hE.cmp, cmpR] using g
    conv => cbv
    rw [hR]; exact ⟨hx, false, rfl, by simp only [Bool.false_eq_true, false_iff]; exact fun q => by have := q.2.2.2.1; omega⟩
  have g4 : n2 ≤ 20000 := by simp [hE.cmp, cmpR] at g; omega
  conv => cbv
  (refine st_fld hE fIC1 fun p hp => ?_; (conv => cbv); refine st_load hE cInt (by rw [hp]; exact (hb).at _ _ rfl) ?_; clear hp; (conv => cbv))
  refine br (fun g => ?_) (fun g => ?_)
  · have g : sl < 0 := by simpa [hE.cmp, cmpR] using g
    conv => cbv
    rw [hR]; exact ⟨hx, false, rfl, by simp only [Bool.false_eq_true, false_iff]; exact fun q => by have := q.2.1; omega⟩
  have g2 : 0 ≤ sl := by simp [hE.cmp, cmpR] at g; omega
  conv => cbv
  (refine st_fld hE fIC1 fun p hp => ?_; (conv => cbv); refine st_load hE cInt (by rw [hp]; exact (hb).at _ _ rfl) ?_; clear hp; (conv => cbv))
  refine br (fun g => ?_) (fun g => ?_)
  · have g : 600 < sl := by simpa [hE.cmp, cmpR] using g
    conv => cbv
    rw [hR]; exact ⟨hx, false, rfl, by simp only [Bool.false_eq_true, false_iff]; exact fun q => by have := q.2.2.1; omega⟩
  have g3 : sl ≤ 600 := by simp [hE.cmp, cmpR] at g; omega
  conv => cbv
  (refine st_fld hE fIC0 fun p hp => ?_; (conv => cbv); refine st_load hE cIVs (by rw [hp]; exact (hb).at _ _ rfl) ?_; clear hp; (conv => cbv))
  refine st_len hE sIV fun x3 hx3 => ?_
  conv => cbv
  refine loop_rule hr (fun (s : Nat × Int) w' => s.1 ≤ n ∧ s.2 = (s.1 : Int) ∧ Ext w w' ∧ Box w.heap.size 45 3 w' a [.slice A n c, .int .i64 sl, .slice A2 n2 c2] ∧ ∀ p ∈ pv.take s.1, valOK p) (fun s => [(1, .pointer (some a)), (28, .slice A n c), (29, .int .i64 x3), (30, .int .i64 s.2)]) (fun s => n - s.1) (0, 0)
    (by simp [Fits, lk]) ⟨by simp, by simp, hx, hb, by simp⟩ ?_
  clear hb hx
  rintro I hI ⟨i, ii⟩ w' ⟨hi, hii, hx, hb, hall⟩
  simp only at hi hii hall
  obtain ⟨ii', hii'⟩ : ∃ z, z = ii + 1 := ⟨_, rfl⟩
  conv => cbv
  refine br (fun g => ?_) (fun g => ?_)
  · have g : i < n := by
      have : ii < x3 := by simpa [hE.cmp, cmpR] using g
      omega
    have ei : E.ar .add .i64 ii 1 = ii' := by rw [hE.ar, hii']; exact wrap_in (by omega) (by omega)
    obtain ⟨a1, k, z, tx, xs, A3, m, c3, hA, hg, hc, hs, ht⟩ := (h.pool.ext hx).get g
    conv => cbv
    refine st_idx hE sIV hA (by omega) (by omega) fun q hq => ?_
    rw [show ii.toNat = i by omega] at hq
    conv => cbv
    refine st_loadS hE tIV rfl (by rw [hq]; exact hc) ?_
    conv => cbv
    refine st_alloc hr tIV rfl fun q w2 hx2 hq0 => ?_
    have hq := hq0 _ hx.size
    have aq := (hb.apart (hq0 _ (Nat.le_refl _)) (Nat.le_refl _)).1
    replace hb := hb.bel hx2
    replace hx := hx.trans hx2
    conv => cbv
    refine st_putS hr (by kernel_rfl) hq (add_zero _).symm (by simp) (by simp [Value.oneCell']) fun w3 hw3 hq3 => ?_
    simp only [List.take_zero, List.nil_append, List.length_cons, List.length_nil, List.drop_succ_cons, List.drop_nil, List.append_nil] at hq3
    have hw3E : Ext w' w3 := hx2.then (hw3.bel (hq0 _ (Nat.le_refl _)) hx2.size)
    replace hx := hx.then (hw3.bel hq hx.size)
    replace hb := hb.wr hw3 aq
    conv => cbv
    refine st_loadS hE tIV rfl hq3.at ?_
    have hA4 : Strs w3 A3 m c3 xs := hs.ext hw3E
    conv => cbv
    refine st_f hr (l5value_f (k := k) (z := z) (tx := tx) hA4 ht) fun v w4 hx4 ⟨b, ev, hb2⟩ => ?_
    subst ev
    replace hb := hb.bel hx4
    replace hx := hx.trans hx4
    conv => cbv
    cases b with
    | false =>
      conv => cbv
      rw [hR]; exact ⟨hx, false, rfl, by
        simp only [Bool.false_eq_true, false_iff]
        exact fun q => absurd (hb2.2 (q.2.2.2.2.1 _ (List.mem_of_getElem? hg))) (by simp)⟩
    | true =>
      conv => cbv
      simp only [ei]
      refine ⟨(i + 1, ii'), by simp [Fits, lk], hI _ _ ⟨by simp only; omega, by simp only; omega, hx, hb, ?_⟩, by simp only; omega⟩
      simp only
      rw [List.take_add_one, hg]
      intro p hp
      rcases List.mem_append.1 hp with hp | hp
      · exact hall p hp
      · simp at hp; rw [hp]; exact hb2.1 rfl
  have g : i = n := by
    have : ¬ ii < x3 := by simpa [hE.cmp, cmpR] using g
    omega
  subst g
  rw [List.take_of_length_le (by omega)] at hall

  conv => cbv
  (refine st_fld hE fIC2 fun p hp => ?_; (conv => cbv); refine st_load hE cIIs (by rw [hp]; exact (hb).at _ _ rfl) ?_; clear hp; (conv => cbv))
  refine st_len hE sII fun x4 hx4 => ?_
  conv => cbv
  refine loop_rule hr (fun (s : Nat × Int) w' => s.1 ≤ n2 ∧ s.2 = (s.1 : Int) ∧ Ext w w' ∧ ∀ p ∈ is.take s.1, insOK p) (fun s => [(39, .slice A2 n2 c2), (40, .int .i64 x4), (41, .int .i64 s.2)]) (fun s => n2 - s.1) (0, 0)
    (by simp [Fits, lk]) ⟨by simp, by simp, hx, by simp⟩ ?_
  clear hb hx
  rintro I hI ⟨j, jj⟩ w' ⟨hj, hjj, hx, hal2⟩
  simp only at hj hjj hal2
  obtain ⟨jj', hjj'⟩ : ∃ z, z = jj + 1 := ⟨_, rfl⟩
  conv => cbv
  refine br (fun g => ?_) (fun g => ?_)
  · have g : j < n2 := by
      have : jj < x4 := by simpa [hE.cmp, cmpR] using g
      omega
    have ej : E.ar .add .i64 jj 1 = jj' := by rw [hE.ar, hjj']; exact wrap_in (by omega) (by omega)
    obtain ⟨a1, o, u, hA, hg, hc⟩ := (h.ins.ext hx).get g
    have hno : ∀ q : shapeP pv sl is, insOK (o, u) := fun q => q.2.2.2.2.2 _ (List.mem_of_getElem? hg)
    conv => cbv
    refine st_idx hE sII hA (by omega) (by omega) fun q hq => ?_
    rw [show jj.toNat = j by omega] at hq
    conv => cbv
    refine st_loadS hE tII rfl (by rw [hq]; exact hc) ?_
    conv => cbv
    refine st_alloc hr tII rfl fun q w2 hx2 hq0 => ?_
    have hq := hq0 _ hx.size
    replace hx := hx.trans hx2
    conv => cbv
    refine st_putS hr (by kernel_rfl) hq (add_zero _).symm (by simp) (by simp [Value.oneCell']) fun w3 hw3 hq3 => ?_
    simp only [List.take_zero, List.nil_append, List.length_cons, List.length_nil, List.drop_succ_cons, List.drop_nil, List.append_nil] at hq3
    replace hx := hx.then (hw3.bel hq hx.size)
    conv => cbv
    (refine st_fld hE fII0 fun p hp => ?_; (conv => cbv); refine st_load hE cInt (by rw [hp]; exact (hq3).at _ _ rfl) ?_; clear hp; (conv => cbv))
    refine br (fun g2 => ?_) (fun g2 => ?_)
    · have g2 : o < 1 := by simpa [hE.cmp, cmpR] using g2
      conv => cbv
      rw [hR]; exact ⟨hx, false, rfl, by simp only [Bool.false_eq_true, false_iff]; exact fun q => by have := (hno q).1; simp only at this; omega⟩
    have f_1 : 1 ≤ o := by simp [hE.cmp, cmpR] at g2; omega
    conv => cbv
    (refine st_fld hE fII0 fun p hp => ?_; (conv => cbv); refine st_load hE cInt (by rw [hp]; exact (hq3).at _ _ rfl) ?_; clear hp; (conv => cbv))
    refine br (fun g2 => ?_) (fun g2 => ?_)
    · have g2 : 25 < o := by simpa [hE.cmp, cmpR] using g2
      conv => cbv
      rw [hR]; exact ⟨hx, false, rfl, by simp only [Bool.false_eq_true, false_iff]; exact fun q => by have := (hno q).2.1; simp only at this; omega⟩
    have f_2_1 : o ≤ 25 := by simp [hE.cmp, cmpR] at g2; omega
    conv => cbv
    (refine st_fld hE fII1 fun p hp => ?_; (conv => cbv); refine st_load hE cInt (by rw [hp]; exact (hq3).at _ _ rfl) ?_; clear hp; (conv => cbv))
    refine br (fun g2 => ?_) (fun g2 => ?_)
    · have g2 : u < 0 := by simpa [hE.cmp, cmpR] using g2
      conv => cbv
      rw [hR]; exact ⟨hx, false, rfl, by simp only [Bool.false_eq_true, false_iff]; exact fun q => by have := (hno q).2.2.1; simp only at this; omega⟩
    have f_2_2_1 : 0 ≤ u := by simp [hE.cmp, cmpR] at g2; omega
    conv => cbv
    (refine st_fld hE fII1 fun p hp => ?_; (conv => cbv); refine st_load hE cInt (by rw [hp]; exact (hq3).at _ _ rfl) ?_; clear hp; (conv => cbv))
    refine br (fun g2 => ?_) (fun g2 => ?_)
    · have g2 : 65535 < u := by simpa [hE.cmp, cmpR] using g2
      conv => cbv
      rw [hR]; exact ⟨hx, false, rfl, by simp only [Bool.false_eq_true, false_iff]; exact fun q => by have := (hno q).2.2.2.1; simp only at this; omega⟩
    have f_2_2_2_1 : u ≤ 65535 := by simp [hE.cmp, cmpR] at g2; omega
    have step : ∀ w4, Ext w w4 → (u = 0 ∨ hasA o) → I (j + 1, jj') w4 := fun w4 hx4 hq => by
      refine hI _ _ ⟨by simp only; omega, by simp only; omega, hx4, ?_⟩
      simp only
      rw [List.take_add_one, hg]
      intro p hp
      rcases List.mem_append.1 hp with hp | hp
      · exact hal2 p hp
      · simp at hp; rw [hp]; exact ⟨f_1, f_2_1, f_2_2_1, f_2_2_2_1, hq⟩
    conv => cbv
    (refine st_fld hE fII1 fun p hp => ?_; (conv => cbv); refine st_load hE cInt (by rw [hp]; exact (hq3).at _ _ rfl) ?_; clear hp; (conv => cbv))
    refine br (fun g2 => ?_) (fun g2 => ?_)
    · have g2 : u ≠ 0 := by simpa [hE.cmp, cmpR] using g2
      conv => cbv
      (refine st_fld hE fII0 fun p hp => ?_; (conv => cbv); refine st_load hE cInt (by rw [hp]; exact (hq3).at _ _ rfl) ?_; clear hp; (conv => cbv))
      refine st_qb hE (l5hasArg_q o _) fun b hb w4 hs4 => ?_
      conv => cbv
      cases b with
      | false =>
        conv => cbv
        rw [hR]; exact ⟨hx.trans hs4.ext, false, rfl, by
          simp only [Bool.false_eq_true, false_iff]
          intro q
          rcases (hno q).2.2.2.2 with q | q
          · exact g2 q
          · exact absurd (hb.2 q) (by simp)⟩
      | true =>
        conv => cbv
        simp only [ej]
        exact ⟨(j + 1, jj'), by simp [Fits, lk], step _ (hx.trans hs4.ext) (.inr (hb.1 rfl)), by simp only; omega⟩
    · have g2 : u = 0 := by simpa [hE.cmp, cmpR] using g2
      conv => cbv
      simp only [ej]
      exact ⟨(j + 1, jj'), by simp [Fits, lk], step _ hx (.inl g2), by simp only; omega⟩
  have g : j = n2 := by
    have : ¬ jj < x4 := by simpa [hE.cmp, cmpR] using g
    omega
  rw [List.take_of_length_le (by omega)] at hal2
  conv => cbv
  rw [hR]; exact ⟨hx, true, rfl, by simp only [true_iff]; exact ⟨by omega, g2, g3, by omega, hall, hal2⟩⟩
end Go.Proofs.YtmbonalhbibppaaDoor
