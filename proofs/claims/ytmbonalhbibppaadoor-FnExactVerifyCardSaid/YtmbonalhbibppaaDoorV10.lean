/- The reference's parts of Verify (printed by gen_v10.py). -/
import Derived.Test.YtmbonalhbibppaaDoorV9
namespace Go.Proofs.YtmbonalhbibppaaDoor
open Go.Eng
set_option linter.unusedVariables false
set_option linter.unusedSimpArgs false
theorem cBool : Cel Tryd.prog 4 := ⟨_, uBool, by simp, by simp⟩
abbrev zLS : List Value := [.bool false, .slice none 0 0, .slice none 0 0]
theorem tLS : Stc Tryd.prog 85 3 zLS := ⟨by kernel_rfl, by kernel_rfl⟩
theorem sLS : Slc Tryd.prog 83 85 (.agg ⟨zLS⟩) 3 56 := ⟨Tryd.underlying83, by kernel_rfl⟩
theorem fLS0 : Fld Tryd.prog 85 0 0 := ⟨by kernel_rfl⟩
theorem fLS1 : Fld Tryd.prog 85 1 1 := ⟨by kernel_rfl⟩
theorem fLS2 : Fld Tryd.prog 85 2 2 := ⟨by kernel_rfl⟩
theorem run_bLS (b : Bool) (w : World) : (Instr.build 85 #[(0, .bool b)]).run Tryd.prog w = .ok (.agg #[.bool b, .slice none 0 0, .slice none 0 0]) w := by kernel_rfl
theorem st_bLS {E : Sym} {w : World} {K : Value → World → Prop} {d : Option Tmp} {ty : TypeId} {pos : String} {aft : Array Edge} {g : Option (Nat × Bool)} {bq : Bool} (hE : EngB bq Tryd.prog E) {b : Bool} {x : Operand} (hk : K (.agg ⟨[.bool b, .slice none 0 0, .slice none 0 0]⟩) w) : E.stop ⟨d, .build 85 ⟨[(0, x)]⟩, ty, pos, aft, g⟩ [.bool b] w K := by
  refine hE.det (v := .agg ⟨[.bool b, .slice none 0 0, .slice none 0 0]⟩) (fun w1 _ ρ hρ => ?_) hk
  simp only [opnds, List.map_cons, List.map_nil, List.cons.injEq, and_true] at hρ
  have := run_bLS b w1
  simp [execOp, hρ, this]
theorem ne_get {a b : List Int} {i : Nat} {x y : Int} (ha : a[i]? = some x) (hb : b[i]? = some y) (h : x ≠ y) : a ≠ b := fun e => by
  rw [e] at ha; rw [ha] at hb; exact h (Option.some.inj hb)
theorem take_step {a b : List Int} {i : Nat} {x : Int} (h : a.take i = b.take i) (ha : a[i]? = some x) (hb : b[i]? = some x) : a.take (i + 1) = b.take (i + 1) := by
  rw [List.take_add_one, List.take_add_one, h, ha, hb]
theorem l5sameInts_q {w : World} {A A1 : Option Addr} {n c n1 c1 : Nat} {zs ys : List Int} (h : Ints w A n c zs) (h1 : Ints w A1 n1 c1 ys) :
    QB Tryd.prog 44 [.slice A n c, .slice A1 n1 c1] w (zs = ys) := by
  refine QB.intro (cs := []) Tryd.func44 (by kernel_rfl) fun w0 hx0 w1 hs E R hE hr hR => ?_
  replace h := (h.ext hx0).ext hs.ext
  replace h1 := (h1.ext hx0).ext hs.ext
  have hl := h.len
  have hl1 := h1.len
  have hle := h.le
  conv => cbv
  refine st_len hE tInts fun x hx => ?_
  conv => cbv
  refine st_len hE tInts fun x1 hx1 => ?_
  conv => cbv
  refine br (fun g => ?_) (fun g => ?_)
  · have g : x ≠ x1 := by simpa [hE.cmp, cmpR] using g
    conv => cbv
    exact hR _ _ hs (by simp only [Bool.false_eq_true, false_iff]; exact fun e => g (by rw [e] at hl; omega))
  have g : n = n1 := by
    have : x = x1 := by simpa [hE.cmp, cmpR] using g
    omega
  subst g
  conv => cbv
  refine st_len hE tInts fun x2 hx2 => ?_
  conv => cbv
  refine loop_rule hr (fun (s : Nat × Int) w' => s.1 ≤ n ∧ s.2 = (s.1 : Int) ∧ Same w1 w' ∧ zs.take s.1 = ys.take s.1) (fun s => [(0, .slice A n c), (1, .slice A1 n c1), (12, .slice A n c), (13, .int .i64 x2), (14, .int .i64 s.2)]) (fun s => n - s.1) (0, 0)
    (by simp [Fits, lk]) ⟨by simp, by simp, Same.refl _, by simp⟩ ?_
  rintro I hI ⟨i, ii⟩ w' ⟨hi, hii, hxw, hall⟩
  simp only at hi hii hall
  obtain ⟨ii', hii'⟩ : ∃ z, z = ii + 1 := ⟨_, rfl⟩
  conv => cbv
  refine br (fun g => ?_) (fun g => ?_)
  · have g : i < n := by
      have : ii < x2 := by simpa [hE.cmp, cmpR] using g
      omega
    have e1 : E.ar .add .i64 ii 1 = ii' := by rw [hE.ar, hii']; exact wrap_in (by omega) (by omega)
    conv => cbv
    refine st_int hE tInts (h.ext hxw.ext) (k := i) (by omega) g fun p u hu hp => ?_
    conv => cbv
    refine st_load hE cInt hp ?_
    conv => cbv
    refine st_int hE tInts (h1.ext hxw.ext) (k := i) (by omega) g fun p2 y hy hp2 => ?_
    conv => cbv
    refine st_load hE cInt hp2 ?_
    conv => cbv
    refine br (fun g2 => ?_) (fun g2 => ?_)
    · have g2 : u ≠ y := by simpa [hE.cmp, cmpR] using g2
      conv => cbv
      exact hR _ _ (hs.trans hxw) (by simp only [Bool.false_eq_true, false_iff]; exact ne_get hu hy g2)
    · have g2 : u = y := by simpa [hE.cmp, cmpR] using g2
      conv => cbv
      simp only [e1]
      exact ⟨(i + 1, ii'), by simp [Fits, lk], hI _ _ ⟨by simp only; omega, by simp only; omega, hxw, take_step hall hu (by rw [g2]; exact hy)⟩, by simp only; omega⟩
  · have g : i = n := by
      have : ¬ ii < x2 := by simpa [hE.cmp, cmpR] using g
      omega
    rw [List.take_of_length_le (by omega), List.take_of_length_le (by omega)] at hall
    conv => cbv
    exact hR _ _ (hs.trans hxw) (by simp [hall])
theorem Equal_q {w : World} {A A1 : Option Addr} {n c n1 c1 : Nat} {zs ys : List Int} (h : Ints w A n c zs) (h1 : Ints w A1 n1 c1 ys) :
    QB Tryd.prog 157 [.slice A n c, .slice A1 n1 c1] w (zs = ys) := by
  refine QB.intro (cs := []) Tryd.func157 (by kernel_rfl) fun w0 hx0 w1 hs E R hE hr hR => ?_
  replace h := (h.ext hx0).ext hs.ext
  replace h1 := (h1.ext hx0).ext hs.ext
  have hl := h.len
  have hl1 := h1.len
  have hle := h.le
  conv => cbv
  refine st_len hE tInts fun x hx => ?_
  conv => cbv
  refine st_len hE tInts fun x1 hx1 => ?_
  conv => cbv
  refine br (fun g => ?_) (fun g => ?_)
  · have g : x ≠ x1 := by simpa [hE.cmp, cmpR] using g
    conv => cbv
    exact hR _ _ hs (by simp only [Bool.false_eq_true, false_iff]; exact fun e => g (by rw [e] at hl; omega))
  have g : n = n1 := by
    have : x = x1 := by simpa [hE.cmp, cmpR] using g
    omega
  subst g
  conv => cbv
  refine st_len hE tInts fun x2 hx2 => ?_
  conv => cbv
  refine loop_rule hr (fun (s : Nat × Int) w' => s.1 ≤ n ∧ s.2 = (s.1 : Int) ∧ Same w1 w' ∧ zs.take s.1 = ys.take s.1) (fun s => [(0, .slice A n c), (1, .slice A1 n c1), (12, .int .i64 x2), (13, .int .i64 s.2)]) (fun s => n - s.1) (0, 0)
    (by simp [Fits, lk]) ⟨by simp, by simp, Same.refl _, by simp⟩ ?_
  rintro I hI ⟨i, ii⟩ w' ⟨hi, hii, hxw, hall⟩
  simp only at hi hii hall
  obtain ⟨ii', hii'⟩ : ∃ z, z = ii + 1 := ⟨_, rfl⟩
  conv => cbv
  refine br (fun g => ?_) (fun g => ?_)
  · have g : i < n := by
      have : ii < x2 := by simpa [hE.cmp, cmpR] using g
      omega
    have e1 : E.ar .add .i64 ii 1 = ii' := by rw [hE.ar, hii']; exact wrap_in (by omega) (by omega)
    conv => cbv
    refine draw_q hr fol (by kernel_rfl) fun E' hE' => ?_
    conv => cbv
    refine st_int hE' tInts (h.ext hxw.ext) (k := i) (by omega) g fun p u hu hp => ?_
    conv => cbv
    refine st_load hE' cInt hp ?_
    conv => cbv
    refine st_int hE' tInts (h1.ext hxw.ext) (k := i) (by omega) g fun p2 y hy hp2 => ?_
    conv => cbv
    refine st_load hE' cInt hp2 ?_
    conv => cbv
    intro w2 hs2
    replace hxw := hxw.trans hs2
    conv => cbv
    refine br (fun g2 => ?_) (fun g2 => ?_)
    · have g2 : u ≠ y := by simpa [hE'.cmp, cmpR] using g2
      conv => cbv
      exact hR _ _ (hs.trans hxw) (by simp only [Bool.false_eq_true, false_iff]; exact ne_get hu hy g2)
    · have g2 : u = y := by simpa [hE'.cmp, cmpR] using g2
      conv => cbv
      simp only [e1]
      exact ⟨(i + 1, ii'), by simp [Fits, lk], hI _ _ ⟨by simp only; omega, by simp only; omega, hxw, take_step hall hu (by rw [g2]; exact hy)⟩, by simp only; omega⟩
  · have g : i = n := by
      have : ¬ ii < x2 := by simpa [hE.cmp, cmpR] using g
      omega
    rw [List.take_of_length_le (by omega), List.take_of_length_le (by omega)] at hall
    conv => cbv
    exact hR _ _ (hs.trans hxw) (by simp [hall])
theorem l5range_f {w : World} {A A2 : Option Addr} {n c n2 c2 : Nat} {sl : Int} {pv : List PV} {is : List (Int × Int)} (h : CodeR w A n A2 n2 pv is) (hn : n ≤ 9223372036854775807) (hn2 : n2 ≤ 9223372036854775807) {i : Nat} {ii o gg : Int} (hii : ii = (i : Int)) (hi : i < n2) (hi2 : is[i]? = some (o, gg)) :
    FC Tryd.prog 84 [codeV A n c sl A2 n2 c2, .int .i64 ii] w fun v _ => ∃ b : Bool, v = .bool b ∧ (b = true ↔ rangeF pv.length sl n2 i o gg) := by
  refine FC.intro (cs := []) Tryd.func84 (by kernel_rfl) fun E R hE hr hR => ?_
  have hpl := h.pool.len
  conv => cbv
  refine st_box hr fun a0 w1 hx hb0 => ?_
  have hb := hb0 _ (Nat.le_refl _)
  clear hb0
  conv => cbv
  (refine st_fld hE fIC2 fun p hp => ?_; (conv => cbv); refine st_load hE cIIs (by rw [hp]; exact (hb).at _ _ rfl) ?_; clear hp; (conv => cbv))
  obtain ⟨ai, o', g', hA, hg, hc⟩ := (h.ins.ext hx).get hi
  rw [hi2] at hg
  cases hg
  refine st_idx hE sII hA (by omega) (by omega) fun q hq => ?_
  rw [show ii.toNat = i by omega] at hq
  conv => cbv
  refine st_loadS hE tII rfl (by rw [hq]; exact hc) ?_
  conv => cbv
  refine st_alloc hr tII rfl fun q2 w2 hx2 hq0 => ?_
  have hq2 := hq0 _ hx.size
  have aq := (hb.apart (hq0 _ (Nat.le_refl _)) (Nat.le_refl _)).1
  replace hb := hb.bel hx2
  replace hx := hx.trans hx2
  conv => cbv
  refine st_putS hr (by kernel_rfl) hq2 (add_zero _).symm (by simp) (by simp [Value.oneCell']) fun w3 hw3 hq3 => ?_
  simp only [List.take_zero, List.nil_append, List.length_cons, List.length_nil, List.drop_succ_cons, List.drop_nil, List.append_nil] at hq3
  replace hx := hx.then (hw3.bel hq2 hx.size)
  replace hb := hb.wr hw3 aq
  clear hq2 hq0 hw3 hx2
  conv => cbv
  (refine st_fld hE fII0 fun p hp => ?_; (conv => cbv); refine st_load hE cInt (by rw [hp]; exact (hq3).at _ _ rfl) ?_; clear hp; (conv => cbv))
  refine br (fun g => ?_) (fun g => ?_)
  · have g0 := g
    have g : o = 1 := by simpa [hE.cmp, cmpR] using g
    conv => cbv
    (refine st_fld hE fII1 fun p hp => ?_; (conv => cbv); refine st_load hE cInt (by rw [hp]; exact (hq3).at _ _ rfl) ?_; clear hp; (conv => cbv))
    (refine st_fld hE fIC0 fun p hp => ?_; (conv => cbv); refine st_load hE cIVs (by rw [hp]; exact (hb).at _ _ rfl) ?_; clear hp; (conv => cbv))
    refine st_len hE sIV fun x hx4 => ?_
    conv => cbv
    obtain ⟨q4, hq4⟩ : ∃ q4, q4 = E.cmp .lss gg x := ⟨_, rfl⟩
    have hq5 : q4 = true ↔ gg < x := by rw [hq4, hE.cmp]; simp [cmpR]
    simp only [← hq4]
    conv => cbv
    rw [hR]; exact ⟨hx, q4, rfl, by rw [hq5]; simp [rangeF, g]; try omega⟩
  have g1 : o ≠ 1 := by simpa [hE.cmp, cmpR] using g
  clear g
  conv => cbv
  refine br (fun g => ?_) (fun g => ?_)
  · have g0 := g
    have g : o = 2 := by simpa [hE.cmp, cmpR] using g
    conv => cbv
    (refine st_fld hE fII1 fun p hp => ?_; (conv => cbv); refine st_load hE cInt (by rw [hp]; exact (hq3).at _ _ rfl) ?_; clear hp; (conv => cbv))
    obtain ⟨q4, hq4⟩ : ∃ q4, q4 = E.cmp .leq gg 5 := ⟨_, rfl⟩
    have hq5 : q4 = true ↔ gg ≤ 5 := by rw [hq4, hE.cmp]; simp [cmpR]
    simp only [← hq4]
    conv => cbv
    rw [hR]; exact ⟨hx, q4, rfl, by rw [hq5]; simp [rangeF, g]; try omega⟩
  have g2 : o ≠ 2 := by simpa [hE.cmp, cmpR] using g
  clear g
  conv => cbv
  refine br (fun g => ?_) (fun g => ?_)
  · have g0 := g
    have g : o = 3 := by simpa [hE.cmp, cmpR] using g
    conv => cbv
    refine br (fun _ => ?_) (fun q => absurd g0 q)
    conv => cbv
    (refine st_fld hE fII1 fun p hp => ?_; (conv => cbv); refine st_load hE cInt (by rw [hp]; exact (hq3).at _ _ rfl) ?_; clear hp; (conv => cbv))
    (refine st_fld hE fIC1 fun p hp => ?_; (conv => cbv); refine st_load hE cInt (by rw [hp]; exact (hb).at _ _ rfl) ?_; clear hp; (conv => cbv))
    obtain ⟨q4, hq4⟩ : ∃ q4, q4 = E.cmp .lss gg sl := ⟨_, rfl⟩
    have hq5 : q4 = true ↔ gg < sl := by rw [hq4, hE.cmp]; simp [cmpR]
    simp only [← hq4]
    conv => cbv
    rw [hR]; exact ⟨hx, q4, rfl, by rw [hq5]; simp [rangeF, g]; try omega⟩
  have g3 : o ≠ 3 := by simpa [hE.cmp, cmpR] using g
  clear g
  conv => cbv
  refine br (fun g => ?_) (fun g => ?_)
  · have g0 := g
    have g : o = 4 := by simpa [hE.cmp, cmpR] using g
    conv => cbv
    (refine st_fld hE fII1 fun p hp => ?_; (conv => cbv); refine st_load hE cInt (by rw [hp]; exact (hq3).at _ _ rfl) ?_; clear hp; (conv => cbv))
    (refine st_fld hE fIC1 fun p hp => ?_; (conv => cbv); refine st_load hE cInt (by rw [hp]; exact (hb).at _ _ rfl) ?_; clear hp; (conv => cbv))
    obtain ⟨q4, hq4⟩ : ∃ q4, q4 = E.cmp .lss gg sl := ⟨_, rfl⟩
    have hq5 : q4 = true ↔ gg < sl := by rw [hq4, hE.cmp]; simp [cmpR]
    simp only [← hq4]
    conv => cbv
    rw [hR]; exact ⟨hx, q4, rfl, by rw [hq5]; simp [rangeF, g]; try omega⟩
  have g4 : o ≠ 4 := by simpa [hE.cmp, cmpR] using g
  clear g
  conv => cbv
  refine br (fun g => ?_) (fun g => ?_)
  · have g0 := g
    have g : o = 22 := by simpa [hE.cmp, cmpR] using g
    conv => cbv
    refine br (fun _ => ?_) (fun q => absurd g0 q)
    conv => cbv
    (refine st_fld hE fII1 fun p hp => ?_; (conv => cbv); refine st_load hE cInt (by rw [hp]; exact (hq3).at _ _ rfl) ?_; clear hp; (conv => cbv))
    refine br (fun g2 => ?_) (fun g2 => ?_)
    · have g2 : ii < gg := by simpa [hE.cmp, cmpR] using g2
      conv => cbv
      (refine st_fld hE fII1 fun p hp => ?_; (conv => cbv); refine st_load hE cInt (by rw [hp]; exact (hq3).at _ _ rfl) ?_; clear hp; (conv => cbv))
      (refine st_fld hE fIC2 fun p hp => ?_; (conv => cbv); refine st_load hE cIIs (by rw [hp]; exact (hb).at _ _ rfl) ?_; clear hp; (conv => cbv))
      refine st_len hE sII fun x hx4 => ?_
      conv => cbv
      obtain ⟨q4, hq4⟩ : ∃ q4, q4 = E.cmp .lss gg x := ⟨_, rfl⟩
      have hq5 : q4 = true ↔ gg < x := by rw [hq4, hE.cmp]; simp [cmpR]
      simp only [← hq4]
      conv => cbv
      rw [hR]; exact ⟨hx, q4, rfl, by rw [hq5]; simp [rangeF, g]; try omega⟩
    · have g2 : ¬ ii < gg := by simpa [hE.cmp, cmpR] using g2
      conv => cbv
      rw [hR]; exact ⟨hx, false, rfl, by simp [rangeF, g]; omega⟩
  have g22 : o ≠ 22 := by simpa [hE.cmp, cmpR] using g
  clear g
  conv => cbv
  refine br (fun g => ?_) (fun g => ?_)
  · have g0 := g
    have g : o = 23 := by simpa [hE.cmp, cmpR] using g
    conv => cbv
    (refine st_fld hE fII1 fun p hp => ?_; (conv => cbv); refine st_load hE cInt (by rw [hp]; exact (hq3).at _ _ rfl) ?_; clear hp; (conv => cbv))
    refine br (fun g2 => ?_) (fun g2 => ?_)
    · have g2 : ii < gg := by simpa [hE.cmp, cmpR] using g2
      conv => cbv
      (refine st_fld hE fII1 fun p hp => ?_; (conv => cbv); refine st_load hE cInt (by rw [hp]; exact (hq3).at _ _ rfl) ?_; clear hp; (conv => cbv))
      (refine st_fld hE fIC2 fun p hp => ?_; (conv => cbv); refine st_load hE cIIs (by rw [hp]; exact (hb).at _ _ rfl) ?_; clear hp; (conv => cbv))
      refine st_len hE sII fun x hx4 => ?_
      conv => cbv
      obtain ⟨q4, hq4⟩ : ∃ q4, q4 = E.cmp .lss gg x := ⟨_, rfl⟩
      have hq5 : q4 = true ↔ gg < x := by rw [hq4, hE.cmp]; simp [cmpR]
      simp only [← hq4]
      conv => cbv
      rw [hR]; exact ⟨hx, q4, rfl, by rw [hq5]; simp [rangeF, g]; try omega⟩
    · have g2 : ¬ ii < gg := by simpa [hE.cmp, cmpR] using g2
      conv => cbv
      rw [hR]; exact ⟨hx, false, rfl, by simp [rangeF, g]; omega⟩
  have g23 : o ≠ 23 := by simpa [hE.cmp, cmpR] using g
  clear g
  conv => cbv
  rw [hR]; exact ⟨hx, true, rfl, by simp [rangeF, g1, g2, g3, g4, g22, g23]⟩
theorem l5next_f {w : World} {A A2 : Option Addr} {n c n2 c2 : Nat} {sl : Int} {pv : List PV} {is : List (Int × Int)} (h : CodeR w A n A2 n2 pv is) (hn : n ≤ 9223372036854775807) (hn2 : n2 ≤ 9223372036854775807) {i : Nat} {ii o gg : Int} (hii : ii = (i : Int)) (hi : i < n2) (hi2 : is[i]? = some (o, gg)) (hg0 : 0 ≤ gg) (hib : i ≤ 100000) :
    FC Tryd.prog 43 [codeV A n c sl A2 n2 c2, .int .i64 ii] w fun v w' => ∃ A1 n1 c1, v = .slice A1 n1 c1 ∧ Own w.heap.size 3 1 w' A1 n1 c1 ((nexts i o gg).map (.int .i64)) := by
  refine FC.intro (cs := []) Tryd.func43 (by kernel_rfl) fun E R hE hr hR => ?_
  conv => cbv
  refine st_box hr fun a0 w1 hx hb0 => ?_
  have hb := hb0 _ (Nat.le_refl _)
  clear hb0
  conv => cbv
  (refine st_fld hE fIC2 fun p hp => ?_; (conv => cbv); refine st_load hE cIIs (by rw [hp]; exact (hb).at _ _ rfl) ?_; clear hp; (conv => cbv))
  obtain ⟨ai, o', g', hA, hg, hc⟩ := (h.ins.ext hx).get hi
  rw [hi2] at hg
  cases hg
  refine st_idx hE sII hA (by omega) (by omega) fun q hq => ?_
  rw [show ii.toNat = i by omega] at hq
  conv => cbv
  refine st_loadS hE tII rfl (by rw [hq]; exact hc) ?_
  conv => cbv
  refine st_alloc hr tII rfl fun q2 w2 hx2 hq0 => ?_
  have hq2 := hq0 _ hx.size
  have aq := (hb.apart (hq0 _ (Nat.le_refl _)) (Nat.le_refl _)).1
  replace hb := hb.bel hx2
  replace hx := hx.trans hx2
  conv => cbv
  refine st_putS hr (by kernel_rfl) hq2 (add_zero _).symm (by simp) (by simp [Value.oneCell']) fun w3 hw3 hq3 => ?_
  simp only [List.take_zero, List.nil_append, List.length_cons, List.length_nil, List.drop_succ_cons, List.drop_nil, List.append_nil] at hq3
  replace hx := hx.then (hw3.bel hq2 hx.size)
  replace hb := hb.wr hw3 aq
  clear hq2 hq0 hw3 hx2
  conv => cbv
  (refine st_fld hE fII0 fun p hp => ?_; (conv => cbv); refine st_load hE cInt (by rw [hp]; exact (hq3).at _ _ rfl) ?_; clear hp; (conv => cbv))
  obtain ⟨ij, hij⟩ : ∃ z, z = ii + 1 := ⟨_, rfl⟩
  have ei : E.ar .add .i64 ii 1 = ij := by rw [hE.ar, hij]; exact wrap_in (by omega) (by omega)
  refine br (fun g => ?_) (fun g => ?_)
  · have g0 := g
    have g : o = 24 := by simpa [hE.cmp, cmpR] using g
    conv => cbv
    refine br (fun _ => ?_) (fun q => absurd g0 q)
    conv => cbv
    rw [hR]; exact ⟨hx, none, 0, 0, rfl, by simp [nexts, g]; exact Own.nil⟩
  have g24 : o ≠ 24 := by simpa [hE.cmp, cmpR] using g
  clear g
  conv => cbv
  refine br (fun g => ?_) (fun g => ?_)
  · have g0 := g
    have g : o = 25 := by simpa [hE.cmp, cmpR] using g
    conv => cbv
    rw [hR]; exact ⟨hx, none, 0, 0, rfl, by simp [nexts, g]; exact Own.nil⟩
  have g25 : o ≠ 25 := by simpa [hE.cmp, cmpR] using g
  clear g
  conv => cbv
  refine br (fun g => ?_) (fun g => ?_)
  · have g0 := g
    have g : o = 22 := by simpa [hE.cmp, cmpR] using g
    conv => cbv
    (refine st_fld hE fII1 fun p hp => ?_; (conv => cbv); refine st_load hE cInt (by rw [hp]; exact (hq3).at _ _ rfl) ?_; clear hp; (conv => cbv))
    refine st_lits hr tInts rfl (vs := [.int .i64 gg]) (m := 1) rfl (by omega) (by omega) rfl (by simp [Value.cells]) fun A5 w5 hx5 ho => ?_
    conv => cbv
    rw [hR]; refine ⟨hx.trans hx5, A5, 1, 1, rfl, ?_⟩
    have := ho _ hx.size
    simpa [nexts, g, hij, hii] using this
  have g22 : o ≠ 22 := by simpa [hE.cmp, cmpR] using g
  clear g
  conv => cbv
  refine br (fun g => ?_) (fun g => ?_)
  · have g0 := g
    have g : o = 23 := by simpa [hE.cmp, cmpR] using g
    conv => cbv
    simp only [ei]
    (refine st_fld hE fII1 fun p hp => ?_; (conv => cbv); refine st_load hE cInt (by rw [hp]; exact (hq3).at _ _ rfl) ?_; clear hp; (conv => cbv))
    refine st_lits hr tInts rfl (vs := [.int .i64 ij, .int .i64 gg]) (m := 2) rfl (by omega) (by omega) rfl (by simp [Value.cells]) fun A5 w5 hx5 ho => ?_
    conv => cbv
    rw [hR]; refine ⟨hx.trans hx5, A5, 2, 2, rfl, ?_⟩
    have := ho _ hx.size
    simpa [nexts, g, hij, hii] using this
  have g23 : o ≠ 23 := by simpa [hE.cmp, cmpR] using g
  clear g
  conv => cbv
  simp only [ei]
  refine st_lits hr tInts rfl (vs := [.int .i64 ij]) (m := 1) rfl (by omega) (by omega) rfl (by simp [Value.cells]) fun A5 w5 hx5 ho => ?_
  conv => cbv
  rw [hR]; refine ⟨hx.trans hx5, A5, 1, 1, rfl, ?_⟩
  have := ho _ hx.size
  simpa [nexts, g22, g23, g24, g25, hij, hii] using this
end Go.Proofs.YtmbonalhbibppaaDoor
