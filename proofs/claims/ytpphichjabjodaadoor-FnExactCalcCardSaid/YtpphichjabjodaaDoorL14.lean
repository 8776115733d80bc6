/- Calc: what the program and the reference answer; the law. -/
import Derived.Test.YtpphichjabjodaaDoorL13
namespace Go.Proofs.YtpphichjabjodaaDoor
open Go.Eng
set_option linter.unusedVariables false
/-- What Calc answers. -/
def CalcOf (op a b r c : Int) : Prop :=
  (op = 1 ∧ OutOf (a + b) r c) ∨ (op = 2 ∧ OutOf (a - b) r c) ∨ (op = 3 ∧ OutOf (a * b) r c) ∨ ((op = 4 ∨ op = 5) ∧ b = 0 ∧ r = 0 ∧ c = 2) ∨ (op = 4 ∧ b ≠ 0 ∧ OutOf (a.tdiv b) r c) ∨ (op = 5 ∧ b ≠ 0 ∧ OutOf (a.tmod b) r c) ∨ ((op < 1 ∨ 5 < op) ∧ r = 0 ∧ c = 4)
theorem OutOf.same {v r c r' c' : Int} (h : OutOf v r c) (h' : OutOf v r' c') : r = r' ∧ c = c' := by
  rcases h with ⟨h1, rfl, rfl⟩ | ⟨h1, rfl, rfl⟩ <;> rcases h' with ⟨k1, rfl, rfl⟩ | ⟨k1, rfl, rfl⟩
  · exact ⟨rfl, rfl⟩
  · exact absurd h1 k1
  · exact absurd k1 h1
  · exact ⟨rfl, rfl⟩
theorem CalcOf.same {op a b r c r' c' : Int} (h : CalcOf op a b r c) (h' : CalcOf op a b r' c') : r = r' ∧ c = c' := by
  rcases h with ⟨h0, h⟩ | ⟨h0, h⟩ | ⟨h0, h⟩ | ⟨h0, hb, rfl, rfl⟩ | ⟨h0, hb, h⟩ | ⟨h0, hb, h⟩ | ⟨h0, rfl, rfl⟩ <;>
    rcases h' with ⟨k0, k⟩ | ⟨k0, k⟩ | ⟨k0, k⟩ | ⟨k0, kb, rfl, rfl⟩ | ⟨k0, kb, k⟩ | ⟨k0, kb, k⟩ | ⟨k0, rfl, rfl⟩ <;>
    first
    | exact h.same k
    | exact ⟨rfl, rfl⟩
    | (exfalso; omega)
theorem sg_mul {a b : Int} {n n' v : Bool} (hn : n = true ↔ a < 0) (hn' : n' = true ↔ b < 0) (hv : v = true ↔ ¬ (n = true ↔ n' = true)) : sg v ((a.natAbs : Int) * (b.natAbs : Int)) = a * b := by
  rcases (by omega : a < 0 ∨ 0 ≤ a) with ha | ha <;> rcases (by omega : b < 0 ∨ 0 ≤ b) with hb | hb
  · have hv : v = false := by rw [← Bool.not_eq_true, hv, hn, hn']; simp [ha, hb]
    rw [hv, show (a.natAbs : Int) = -a by omega, show (b.natAbs : Int) = -b by omega]; simp [sg, Int.neg_mul_neg]
  · have hv : v = true := by rw [hv, hn, hn']; simp [ha]; omega
    rw [hv, show (a.natAbs : Int) = -a by omega, show (b.natAbs : Int) = b by omega]; simp [sg, Int.neg_mul]
  · have hv : v = true := by rw [hv, hn, hn']; simp [hb]; omega
    rw [hv, show (a.natAbs : Int) = a by omega, show (b.natAbs : Int) = -b by omega]; simp [sg, Int.mul_neg]
  · have hv : v = false := by rw [← Bool.not_eq_true, hv, hn, hn']; simp; omega
    rw [hv, show (a.natAbs : Int) = a by omega, show (b.natAbs : Int) = b by omega]; simp [sg]
theorem sg_div {a b : Int} {n n' v : Bool} (hn : n = true ↔ a < 0) (hn' : n' = true ↔ b < 0) (hv : v = true ↔ ¬ (n = true ↔ n' = true)) : sg v ((a.natAbs : Int).tdiv (b.natAbs : Int)) = a.tdiv b := by
  rcases (by omega : a < 0 ∨ 0 ≤ a) with ha | ha <;> rcases (by omega : b < 0 ∨ 0 ≤ b) with hb | hb
  · have hv : v = false := by rw [← Bool.not_eq_true, hv, hn, hn']; simp [ha, hb]
    rw [hv, show (a.natAbs : Int) = -a by omega, show (b.natAbs : Int) = -b by omega]; simp [sg, Int.neg_tdiv, Int.tdiv_neg]
  · have hv : v = true := by rw [hv, hn, hn']; simp [ha]; omega
    rw [hv, show (a.natAbs : Int) = -a by omega, show (b.natAbs : Int) = b by omega]; simp [sg, Int.neg_tdiv]
  · have hv : v = true := by rw [hv, hn, hn']; simp [hb]; omega
    rw [hv, show (a.natAbs : Int) = a by omega, show (b.natAbs : Int) = -b by omega]; simp [sg, Int.tdiv_neg]
  · have hv : v = false := by rw [← Bool.not_eq_true, hv, hn, hn']; simp; omega
    rw [hv, show (a.natAbs : Int) = a by omega, show (b.natAbs : Int) = b by omega]; simp [sg]
theorem sg_mod {a b : Int} {n : Bool} (hn : n = true ↔ a < 0) : sg n ((a.natAbs : Int).tmod (b.natAbs : Int)) = a.tmod b := by
  have e : ∀ x : Int, x.tmod (b.natAbs : Int) = x.tmod b := fun x => by
    rcases (by omega : b < 0 ∨ 0 ≤ b) with hb | hb
    · rw [show (b.natAbs : Int) = -b by omega, Int.tmod_neg]
    · rw [show (b.natAbs : Int) = b by omega]
  rw [e]
  rcases (by omega : a < 0 ∨ 0 ≤ a) with ha | ha
  · rw [hn.2 ha, show (a.natAbs : Int) = -a by omega, Int.neg_tmod]; simp [sg]
  · have : n = false := by rw [← Bool.not_eq_true, hn]; omega
    rw [this, show (a.natAbs : Int) = a by omega]; simp [sg]
theorem sg_of {a : Int} {n : Bool} (hn : n = true ↔ a < 0) : sg n (a.natAbs : Int) = a := by
  unfold sg
  split
  · rename_i h; have := hn.1 h; omega
  · rename_i h; have : ¬ a < 0 := fun k => h (hn.2 k)
    omega
set_option maxHeartbeats 1000000 in
/-- The program's own reckoning, an error for what does not fit. -/
theorem calc_f {w : World} {z o v : Addr} (he : Errs w z o v) (op a b : Int) (ha : fits a) (hb : fits b) (h1 : 1 ≤ op) (h5 : op ≤ 5) :
    FC Tryd.prog 26 [.int .i64 op, .int .i64 a, .int .i64 b] w fun u _ => ∃ r, (u = .tuple ⟨[.int .i64 r, .nilIface]⟩ ∧ CalcOf op a b r 0) ∨ (u = .tuple ⟨[.int .i64 r, .iface 119 (.pointer (some o))]⟩ ∧ CalcOf op a b r 1) ∨ (u = .tuple ⟨[.int .i64 r, .iface 119 (.pointer (some z))]⟩ ∧ CalcOf op a b r 2) := by
  refine FC.intro (cs := []) Tryd.func26 (by kernel_rfl) fun E R hE hr hR => ?_
  conv => cbv
  refine br (fun g => ?_) (fun g => ?_)
  · have g : op = 1 := by simpa [hE.cmp, cmpR] using g
    obtain ⟨y, hy⟩ : ∃ y, y = IntKind.i64.wrap (a + b) := ⟨_, rfl⟩
    have e1 : E.ar .add .i64 a b = y := by rw [hE.ar, hy]; rfl
    have hok := add_ok ha hb
    rw [← hy] at hok
    conv => cbv
    simp only [e1]
    refine st_beq hE uBool fun q hq => ?_
    simp only [hE.cmp, cmpR, decide_eq_true_eq] at hq
    rw [hok] at hq
    conv => cbv
    refine br (fun g2 => ?_) (fun g2 => ?_)
    · have g2 := hq.1 g2
      conv => cbv
      rw [hR]; refine ⟨Ext.refl _, y, .inl ⟨rfl, .inl ⟨g, .inl ⟨g2, ?_, rfl⟩⟩⟩⟩
      unfold fits at g2; rw [hy]; exact wrap_in g2.1 g2.2
    · have g2 : ¬ fits (a + b) := fun k => g2 (hq.2 k)
      conv => cbv
      refine draw_q hr fol (by kernel_rfl) fun E' hE' => ?_
      conv => cbv
      refine st_load hE' cErr he.co ?_
      conv => cbv
      intro w2 hs2
      conv => cbv
      rw [hR]; exact ⟨hs2.ext, 0, .inr (.inl ⟨rfl, .inl ⟨g, .inr ⟨g2, rfl, rfl⟩⟩⟩)⟩
  have g1 : op ≠ 1 := by simpa [hE.cmp, cmpR] using g
  clear g
  conv => cbv
  refine br (fun g => ?_) (fun g => ?_)
  · have g : op = 2 := by simpa [hE.cmp, cmpR] using g
    obtain ⟨y, hy⟩ : ∃ y, y = IntKind.i64.wrap (a - b) := ⟨_, rfl⟩
    have e1 : E.ar .sub .i64 a b = y := by rw [hE.ar, hy]; rfl
    have hok := sub_ok ha hb
    rw [← hy] at hok
    conv => cbv
    simp only [e1]
    refine st_beq hE uBool fun q hq => ?_
    simp only [hE.cmp, cmpR, decide_eq_true_eq] at hq
    rw [hok] at hq
    conv => cbv
    refine br (fun g2 => ?_) (fun g2 => ?_)
    · have g2 := hq.1 g2
      conv => cbv
      rw [hR]; refine ⟨Ext.refl _, y, .inl ⟨rfl, .inr (.inl ⟨g, .inl ⟨g2, ?_, rfl⟩⟩)⟩⟩
      unfold fits at g2; rw [hy]; exact wrap_in g2.1 g2.2
    · have g2 : ¬ fits (a - b) := fun k => g2 (hq.2 k)
      conv => cbv
      refine draw_q hr fol (by kernel_rfl) fun E' hE' => ?_
      conv => cbv
      refine st_load hE' cErr he.co ?_
      conv => cbv
      intro w2 hs2
      conv => cbv
      rw [hR]; exact ⟨hs2.ext, 0, .inr (.inl ⟨rfl, .inr (.inl ⟨g, .inr ⟨g2, rfl, rfl⟩⟩)⟩)⟩
  have g2 : op ≠ 2 := by simpa [hE.cmp, cmpR] using g
  clear g
  have T : ∀ x y : Int, x = y → E.cmp .eql x y = true := fun x y h => by rw [hE.cmp]; simp [cmpR, h]
  have F : ∀ x y : Int, x ≠ y → E.cmp .eql x y = false := fun x y h => by rw [hE.cmp]; simp [cmpR, h]
  conv => cbv
  refine br (fun g => ?_) (fun g => ?_)
  · have g : op = 3 := by simpa [hE.cmp, cmpR] using g
    obtain ⟨y, hy⟩ : ∃ y, y = IntKind.i64.wrap (a * b) := ⟨_, rfl⟩
    have e1 : E.ar .mul .i64 a b = y := by rw [hE.ar, hy]; rfl
    conv => cbv
    simp only [e1]
    refine br (fun k => ?_) (fun k => ?_)
    · have k : a = 0 := by simpa [hE.cmp, cmpR] using k
      conv => cbv
      rw [hR]; exact ⟨Ext.refl _, 0, .inl ⟨rfl, .inr (.inr (.inl ⟨g, .inl ⟨by subst k; simp [fits], by subst k; simp, rfl⟩⟩))⟩⟩
    have a0 : a ≠ 0 := by simpa [hE.cmp, cmpR] using k
    clear k
    conv => cbv
    refine br (fun k => ?_) (fun k => ?_)
    · have k : b = 0 := by simpa [hE.cmp, cmpR] using k
      conv => cbv
      rw [hR]; exact ⟨Ext.refl _, 0, .inl ⟨rfl, .inr (.inr (.inl ⟨g, .inl ⟨by subst k; simp [fits], by subst k; simp, rfl⟩⟩))⟩⟩
    have b0 : b ≠ 0 := by simpa [hE.cmp, cmpR] using k
    clear k
    conv => cbv
    refine st_quo hE b0 fun q hq => ?_
    have hok := mul_ok ha hb b0
    rw [← hy, ← hq] at hok
    have good : fits (a * b) → R (.tuple ⟨[.int .i64 y, .nilIface]⟩) w := fun hf => by
      rw [hR]; exact ⟨Ext.refl _, y, .inl ⟨rfl, .inr (.inr (.inl ⟨g, .inl ⟨hf, by rw [hy]; exact wrap_in hf.1 hf.2, rfl⟩⟩))⟩⟩
    have bad : ¬ fits (a * b) → ∀ w2, Same w w2 → R (.tuple ⟨[.int .i64 0, .iface 119 (.pointer (some o))]⟩) w2 := fun hf w2 hs2 => by
      rw [hR]; exact ⟨hs2.ext, 0, .inr (.inl ⟨rfl, .inr (.inr (.inl ⟨g, .inr ⟨hf, rfl, rfl⟩⟩))⟩)⟩
    clear hR
    have P : ∀ x y : Int, E.cmp .eql x y = true → x = y := fun x y h => by rw [hE.cmp] at h; simpa [cmpR] using h
    have N : ∀ x y : Int, ¬ E.cmp .eql x y = true → x ≠ y := fun x y h => by rw [hE.cmp] at h; simpa [cmpR] using h
    conv => cbv
    refine br (fun c1 => ?_) (fun c1 => ?_)
    · have c1 : q = a := P _ _ c1
      conv => cbv
      refine br (fun c2 => ?_) (fun c2 => ?_)
      · have c2 : b = -1 := P _ _ c2
        conv => cbv
        refine brn (fun c3 => ?_) (fun c3 => ?_)
        · have c3 : a = -9223372036854775808 := P _ _ c3
          conv => cbv
          refine draw_q hr fol (by kernel_rfl) fun E' hE' => ?_
          conv => cbv
          refine st_load hE' cErr he.co ?_
          conv => cbv
          intro w2 hs2
          conv => cbv
          exact bad (fun hf => (hok.2 hf).2.1 ⟨c2, c3⟩) _ hs2
        · have c3 : a ≠ -9223372036854775808 := N _ _ c3
          conv => cbv
          refine br (fun c4 => ?_) (fun c4 => ?_)
          · have c4 : a = -1 := P _ _ c4
            conv => cbv
            refine brn (fun c5 => ?_) (fun c5 => ?_)
            · have c5 : b = -9223372036854775808 := P _ _ c5
              omega
            · conv => cbv
              exact good (hok.1 ⟨c1, fun h => c3 h.2, fun h => by omega⟩)
          · have c4 : a ≠ -1 := N _ _ c4
            conv => cbv
            exact good (hok.1 ⟨c1, fun h => c3 h.2, fun h => by omega⟩)
      · have c2 : b ≠ -1 := N _ _ c2
        conv => cbv
        refine br (fun c4 => ?_) (fun c4 => ?_)
        · have c4 : a = -1 := P _ _ c4
          conv => cbv
          refine brn (fun c5 => ?_) (fun c5 => ?_)
          · have c5 : b = -9223372036854775808 := P _ _ c5
            conv => cbv
            refine draw_q hr fol (by kernel_rfl) fun E' hE' => ?_
            conv => cbv
            refine st_load hE' cErr he.co ?_
            conv => cbv
            intro w2 hs2
            conv => cbv
            exact bad (fun hf => (hok.2 hf).2.2 ⟨c4, c5⟩) _ hs2
          · have c5 : b ≠ -9223372036854775808 := N _ _ c5
            conv => cbv
            exact good (hok.1 ⟨c1, fun h => c2 h.1, fun h => c5 h.2⟩)
        · have c4 : a ≠ -1 := N _ _ c4
          conv => cbv
          exact good (hok.1 ⟨c1, fun h => c2 h.1, fun h => c4 h.1⟩)
    · have c1 : q ≠ a := N _ _ c1
      conv => cbv
      refine draw_q hr fol (by kernel_rfl) fun E' hE' => ?_
      conv => cbv
      refine st_load hE' cErr he.co ?_
      conv => cbv
      intro w2 hs2
      conv => cbv
      exact bad (fun hf => c1 (hok.2 hf).1) _ hs2
  have g3 : op ≠ 3 := by simpa [hE.cmp, cmpR] using g
  clear g
  have T' : ∀ x y : Int, x ≠ y → E.cmp .neq x y = true := fun x y h => by rw [hE.cmp]; simp [cmpR, h]
  have F' : ∀ x y : Int, x = y → E.cmp .neq x y = false := fun x y h => by rw [hE.cmp]; simp [cmpR, h]
  conv => cbv
  refine br (fun g => ?_) (fun g => ?_)
  · have g : op = 4 := by simpa [hE.cmp, cmpR] using g
    conv => cbv
    refine br (fun k => ?_) (fun k => ?_)
    · have k : b = 0 := by simpa [hE.cmp, cmpR] using k
      conv => cbv
      refine draw_q hr fol (by kernel_rfl) fun E' hE' => ?_
      conv => cbv
      refine st_load hE' cErr he.cz ?_
      conv => cbv
      intro w2 hs2
      conv => cbv
      rw [hR]; exact ⟨hs2.ext, 0, .inr (.inr ⟨rfl, .inr (.inr (.inr (.inl ⟨.inl g, k, rfl, rfl⟩)))⟩)⟩
    have b0 : b ≠ 0 := by simpa [hE.cmp, cmpR] using k
    clear k
    have hok := div_ok ha b0
    have P' : ∀ x y : Int, E.cmp .neq x y = true → x ≠ y := fun x y h => by rw [hE.cmp] at h; simpa [cmpR] using h
    have N' : ∀ x y : Int, ¬ E.cmp .neq x y = true → x = y := fun x y h => by rw [hE.cmp] at h; simpa [cmpR] using h
    conv => cbv
    refine br (fun c1 => ?_) (fun c1 => ?_)
    · have c1 : a ≠ -9223372036854775808 := P' _ _ c1
      conv => cbv
      refine st_quo hE b0 fun q hq => ?_
      have hf := hok.1 (.inl c1)
      conv => cbv
      rw [hR]; exact ⟨Ext.refl _, q, .inl ⟨rfl, .inr (.inr (.inr (.inr (.inl ⟨g, b0, .inl ⟨hf, by rw [hq]; exact wrap_in hf.1 hf.2, rfl⟩⟩))))⟩⟩
    · have c1 : a = -9223372036854775808 := N' _ _ c1
      conv => cbv
      refine br (fun c2 => ?_) (fun c2 => ?_)
      · have c2 : b ≠ -1 := P' _ _ c2
        conv => cbv
        refine st_quo hE b0 fun q hq => ?_
        have hf := hok.1 (.inr c2)
        conv => cbv
        rw [hR]; exact ⟨Ext.refl _, q, .inl ⟨rfl, .inr (.inr (.inr (.inr (.inl ⟨g, b0, .inl ⟨hf, by rw [hq]; exact wrap_in hf.1 hf.2, rfl⟩⟩))))⟩⟩
      · have c2 : b = -1 := N' _ _ c2
        conv => cbv
        refine draw_q hr fol (by kernel_rfl) fun E' hE' => ?_
        conv => cbv
        refine st_load hE' cErr he.co ?_
        conv => cbv
        intro w2 hs2
        conv => cbv
        rw [hR]; exact ⟨hs2.ext, 0, .inr (.inl ⟨rfl, .inr (.inr (.inr (.inr (.inl ⟨g, b0, .inr ⟨fun hf => (hok.2 hf).elim (fun h => h c1) (fun h => h c2), rfl, rfl⟩⟩))))⟩)⟩
  have g4 : op ≠ 4 := by simpa [hE.cmp, cmpR] using g
  clear g
  conv => cbv
  refine br (fun g => ?_) (fun g => absurd (T op 5 (by omega)) g)
  have g : op = 5 := by simpa [hE.cmp, cmpR] using g
  conv => cbv
  refine br (fun k => ?_) (fun k => ?_)
  · have k : b = 0 := by simpa [hE.cmp, cmpR] using k
    conv => cbv
    refine draw_q hr fol (by kernel_rfl) fun E' hE' => ?_
    conv => cbv
    refine st_load hE' cErr he.cz ?_
    conv => cbv
    intro w2 hs2
    conv => cbv
    rw [hR]; exact ⟨hs2.ext, 0, .inr (.inr ⟨rfl, .inr (.inr (.inr (.inl ⟨.inr g, k, rfl, rfl⟩)))⟩)⟩
  have b0 : b ≠ 0 := by simpa [hE.cmp, cmpR] using k
  clear k
  have hf := rem_ok (a := a) hb b0
  conv => cbv
  refine br (fun k => ?_) (fun k => ?_)
  · have k : b = -1 := by simpa [hE.cmp, cmpR] using k
    conv => cbv
    rw [hR]; exact ⟨Ext.refl _, 0, .inl ⟨rfl, .inr (.inr (.inr (.inr (.inr (.inl ⟨g, b0, .inl ⟨hf, by subst k; simp, rfl⟩⟩)))))⟩⟩
  · conv => cbv
    refine st_rem hE b0 fun q hq => ?_
    conv => cbv
    rw [hR]; exact ⟨Ext.refl _, q, .inl ⟨rfl, .inr (.inr (.inr (.inr (.inr (.inl ⟨g, b0, .inl ⟨hf, hq, rfl⟩⟩)))))⟩⟩
theorem Calc_f {w : World} {z o v : Addr} (he : Errs w z o v) (op a b : Int) (ha : fits a) (hb : fits b) :
    FC Tryd.prog 8 [.int .i64 op, .int .i64 a, .int .i64 b] w fun u _ => ∃ r c, u = .tuple ⟨[.int .i64 r, .int .i64 c]⟩ ∧ CalcOf op a b r c := by
  refine FC.intro (cs := []) Tryd.func8 (by kernel_rfl) fun E R hE hr hR => ?_
  conv => cbv
  refine br (fun g => ?_) (fun g => ?_)
  · have g : op < 1 := by simpa [hE.cmp, cmpR] using g
    conv => cbv
    rw [hR]; exact ⟨Ext.refl _, 0, 4, rfl, .inr (.inr (.inr (.inr (.inr (.inr ⟨.inl g, rfl, rfl⟩)))))⟩
  have g1 : 1 ≤ op := by simp [hE.cmp, cmpR] at g; omega
  clear g
  conv => cbv
  refine br (fun g => ?_) (fun g => ?_)
  · have g : 5 < op := by simpa [hE.cmp, cmpR] using g
    conv => cbv
    rw [hR]; exact ⟨Ext.refl _, 0, 4, rfl, .inr (.inr (.inr (.inr (.inr (.inr ⟨.inr g, rfl, rfl⟩)))))⟩
  have g5 : op ≤ 5 := by simp [hE.cmp, cmpR] at g; omega
  clear g
  conv => cbv
  refine st_f hr (calc_f he op a b ha hb g1 g5) fun u w1 hx ⟨r, hu⟩ => ?_
  rcases hu with ⟨rfl, hc⟩ | ⟨rfl, hc⟩ | ⟨rfl, hc⟩
  · conv => cbv
    refine st_q hE (code_nil (he.ext hx)) fun w2 hs => ?_
    conv => cbv
    rw [hR]; exact ⟨hx.trans hs.ext, r, 0, rfl, hc⟩
  · conv => cbv
    refine st_q hE (code_o (he.ext hx)) fun w2 hs => ?_
    conv => cbv
    rw [hR]; exact ⟨hx.trans hs.ext, r, 1, rfl, hc⟩
  · conv => cbv
    refine st_q hE (code_z (he.ext hx)) fun w2 hs => ?_
    conv => cbv
    rw [hR]; exact ⟨hx.trans hs.ext, r, 2, rfl, hc⟩
theorem zBool : (Tryd.prog.info? 4).map (·.size) = some 1 := by kernel_rfl
set_option maxHeartbeats 1000000 in
theorem sCalc_f {w : World} (op a b : Int) (ha : fits a) (hb : fits b) :
    FC Tryd.prog 7 [.int .i64 op, .int .i64 a, .int .i64 b] w fun u _ => ∃ r c, u = .tuple ⟨[.int .i64 r, .int .i64 c]⟩ ∧ CalcOf op a b r c := by
  refine FC.intro (cs := []) Tryd.func7 (by kernel_rfl) fun E R hE hr hR => ?_
  obtain ⟨n, hn⟩ : ∃ n : Bool, n = true ↔ a < 0 := ⟨decide (a < 0), by simp⟩
  obtain ⟨n', hn'⟩ : ∃ n : Bool, n = true ↔ b < 0 := ⟨decide (b < 0), by simp⟩
  obtain ⟨l, hl⟩ : ∃ l : Int, l = a.natAbs := ⟨_, rfl⟩
  obtain ⟨l', hl'⟩ : ∃ l : Int, l = b.natAbs := ⟨_, rfl⟩
  have hfa := ha
  have hfb := hb
  unfold fits at ha hb
  have ea : sg n l = a := by rw [hl]; exact sg_of hn
  have eb : sg n' l' = b := by rw [hl']; exact sg_of hn'
  conv => cbv
  refine st_v hr (bigOf_v a hfa n l hn hl w) fun w1 hx => ?_
  conv => cbv
  refine st_alloc hr tBig rfl fun x w2 hx2 hx0 => ?_
  have hX := hx0 _ hx.size
  replace hx := hx.trans hx2
  conv => cbv
  refine st_putS hr zBig hX (add_zero _).symm (by simp) (by simp [Value.oneCell']) fun w3 hw hX2 => ?_
  replace hx := hx.then (hw.bel hX hx.size)
  simp only [List.take_zero, List.nil_append, List.length_cons, List.length_nil, List.drop_succ_cons, List.drop_nil, List.append_nil] at hX2
  clear hX hx0 hw hx2
  conv => cbv
  refine st_v hr (bigOf_v b hfb n' l' hn' hl' _) fun w4 hx4 => ?_
  replace hX2 := hX2.bel hx4
  replace hx := hx.trans hx4
  conv => cbv
  refine st_alloc hr tBig rfl fun y w5 hx5 hy0 => ?_
  have hY := hy0 _ hx.size
  have axy := (hX2.apart (hy0 _ (Nat.le_refl _)) (Nat.le_refl _)).1
  replace hX2 := hX2.bel hx5
  replace hx := hx.trans hx5
  conv => cbv
  refine st_putS hr zBig hY (add_zero _).symm (by simp) (by simp [Value.oneCell']) fun w6 hw hY2 => ?_
  replace hx := hx.then (hw.bel hY hx.size)
  replace hX2 := hX2.wr hw axy
  simp only [List.take_zero, List.nil_append, List.length_cons, List.length_nil, List.drop_succ_cons, List.drop_nil, List.append_nil] at hY2
  clear hY hy0 hw hx5 hx4
  have P : ∀ x y : Int, E.cmp .eql x y = true → x = y := fun x y h => by rw [hE.cmp] at h; simpa [cmpR] using h
  have N : ∀ x y : Int, ¬ E.cmp .eql x y = true → x ≠ y := fun x y h => by rw [hE.cmp] at h; simpa [cmpR] using h
  conv => cbv
  refine br (fun g => ?_) (fun g => ?_)
  · have g : op = 1 := P _ _ g
    conv => cbv
    refine st_loadS hE tBig rfl hX2.at ?_
    conv => cbv
    refine st_loadS hE tBig rfl hY2.at ?_
    conv => cbv
    refine st_f hr (sum_f n n' l l' _ (by omega) (by omega) (by omega) (by omega)) fun u w7 hx7 ⟨n2, h2, l2, eu, q0, q1, q2, q3⟩ => ?_
    subst eu
    conv => cbv
    refine st_f hr (small_f n2 h2 l2 _ q0 q1 q2) fun u w8 hx8 ⟨r, c, eu, ho⟩ => ?_
    subst eu
    rw [q3, ea, eb] at ho
    conv => cbv
    rw [hR]; exact ⟨(hx.trans hx7).trans hx8, r, c, rfl, .inl ⟨g, ho⟩⟩
  have g1 : op ≠ 1 := N _ _ g
  clear g
  conv => cbv
  refine br (fun g => ?_) (fun g => ?_)
  · have g : op = 2 := P _ _ g
    obtain ⟨n3, hn3⟩ : ∃ n3 : Bool, n3 = !n' := ⟨_, rfl⟩
    have e3 : (if n' = true then false else true) = n3 := by rw [hn3]; cases n' <;> rfl
    have eb3 : sg n3 l' = -b := by rw [← eb, hn3]; cases n' <;> simp [sg]
    conv => cbv
    (refine st_fld hE fB0 fun p hp => ?_; (conv => cbv); refine st_load hE cBool (by rw [hp]; exact (hY2).at _ _ rfl) ?_; clear hp; (conv => cbv))
    refine st_fld hE fB0 fun p hp => ?_
    conv => cbv
    refine st_put hr zBool hY2 hp (by simp) rfl fun w7 hw hY3 => ?_
    replace hx := hx.then (hw.bel hY2 hx.size)
    replace hX2 := hX2.wr hw axy
    have hY3' : Box w.heap.size 45 3 w7 y [.bool n3, .int .u64 0, .int .u64 l'] := by
      have : (Value.bool (if n' = true then false else true)) = .bool n3 := by rw [e3]
      simp only [List.set_cons_zero] at hY3
      rw [← e3]
      cases n' <;> exact hY3
    conv => cbv
    refine st_loadS hE tBig rfl hX2.at ?_
    conv => cbv
    refine st_loadS hE tBig rfl hY3'.at ?_
    conv => cbv
    refine st_f hr (sum_f n n3 l l' _ (by omega) (by omega) (by omega) (by omega)) fun u w8 hx8 ⟨n2, h2, l2, eu, q0, q1, q2, q3⟩ => ?_
    subst eu
    conv => cbv
    refine st_f hr (small_f n2 h2 l2 _ q0 q1 q2) fun u w9 hx9 ⟨r, c, eu, ho⟩ => ?_
    subst eu
    rw [q3, ea, eb3, ← Int.sub_eq_add_neg] at ho
    conv => cbv
    rw [hR]; exact ⟨(hx.trans hx8).trans hx9, r, c, rfl, .inr (.inl ⟨g, ho⟩)⟩
  have g2 : op ≠ 2 := N _ _ g
  clear g
  conv => cbv
  refine br (fun g => ?_) (fun g => ?_)
  · have g : op = 3 := P _ _ g
    conv => cbv
    (refine st_fld hE fB2 fun p hp => ?_; (conv => cbv); refine st_load hE cU64 (by rw [hp]; exact (hX2).at _ _ rfl) ?_; clear hp; (conv => cbv))
    (refine st_fld hE fB2 fun p hp => ?_; (conv => cbv); refine st_load hE cU64 (by rw [hp]; exact (hY2).at _ _ rfl) ?_; clear hp; (conv => cbv))
    refine st_f hr (times_f l l' _ (by omega) (by omega) (by omega) (by omega)) fun u w7 hx7 ⟨h2, l2, eu, q0, q1, q2, q3⟩ => ?_
    subst eu
    replace hX2 := hX2.bel hx7
    replace hY2 := hY2.bel hx7
    replace hx := hx.trans hx7
    conv => cbv
    (refine st_fld hE fB0 fun p hp => ?_; (conv => cbv); refine st_load hE cBool (by rw [hp]; exact (hX2).at _ _ rfl) ?_; clear hp; (conv => cbv))
    (refine st_fld hE fB0 fun p hp => ?_; (conv => cbv); refine st_load hE cBool (by rw [hp]; exact (hY2).at _ _ rfl) ?_; clear hp; (conv => cbv))
    refine st_bne hE uBool fun v hv => ?_
    conv => cbv
    refine st_big hE ?_
    conv => cbv
    refine st_f hr (small_f v h2 l2 _ q0 q1 q2) fun u w8 hx8 ⟨r, c, eu, ho⟩ => ?_
    subst eu
    rw [q3, hl, hl', sg_mul hn hn' hv] at ho
    conv => cbv
    rw [hR]; exact ⟨hx.trans hx8, r, c, rfl, .inr (.inr (.inl ⟨g, ho⟩))⟩
  have g3 : op ≠ 3 := N _ _ g
  clear g
  have zero : ∀ w', Ext w w' → (op = 4 ∨ op = 5) → b = 0 → R (.tuple ⟨[.int .i64 0, .int .i64 2]⟩) w' := fun w' hx' ho hb0 => by
    rw [hR]; exact ⟨hx', 0, 2, rfl, .inr (.inr (.inr (.inl ⟨ho, hb0, rfl, rfl⟩)))⟩
  conv => cbv
  refine br (fun g => ?_) (fun g => ?_)
  · have g4 : op = 4 := P _ _ g
    have t4 : E.cmp .eql op 4 = true := g
    clear g
    conv => cbv
    refine br (fun _ => ?_) (fun k => absurd t4 k)
    conv => cbv
    refine br (fun k => ?_) (fun k => ?_)
    · have k : b = 0 := P _ _ k
      conv => cbv
      exact zero _ hx (.inl g4) k
    have b0 : b ≠ 0 := N _ _ k
    clear k
    conv => cbv
    refine br (fun _ => ?_) (fun k => absurd t4 k)
    conv => cbv
    refine draw_h [0, 1, 2, 3, 4, 5, 6, 7, 8, 9, 10] [(11, false), (12, true), (13, true), (14, true), (15, true)] hr fol (by kernel_rfl) fun E' hE' w7 hs7 S hS => ?_
    replace hX2 := hX2.bel hs7.ext
    replace hY2 := hY2.bel hs7.ext
    replace hx := hx.trans hs7.ext
    conv => cbv
    (refine st_fld hE' fB0 fun p hp => ?_; (conv => cbv); refine st_load hE' cBool (by rw [hp]; exact (hX2).at _ _ rfl) ?_; clear hp; (conv => cbv))
    (refine st_fld hE' fB0 fun p hp => ?_; (conv => cbv); refine st_load hE' cBool (by rw [hp]; exact (hY2).at _ _ rfl) ?_; clear hp; (conv => cbv))
    refine st_bne hE' uBool fun v hv => ?_
    conv => cbv
    (refine st_fld hE' fB2 fun p hp => ?_; (conv => cbv); refine st_load hE' cU64 (by rw [hp]; exact (hX2).at _ _ rfl) ?_; clear hp; (conv => cbv))
    (refine st_fld hE' fB2 fun p hp => ?_; (conv => cbv); refine st_load hE' cU64 (by rw [hp]; exact (hY2).at _ _ rfl) ?_; clear hp; (conv => cbv))
    refine st_quo hE' (by omega) fun q hq => ?_
    have hq2 : q = l.tdiv l' := by
      have h1 : (l.tdiv l') = l / l' := Int.tdiv_eq_ediv_of_nonneg (by omega)
      have h2 : 0 ≤ l / l' := Int.ediv_nonneg (by omega) (by omega)
      have h3 : l / l' ≤ l := Int.ediv_le_self _ (by omega)
      rw [hq]; exact u64_in (by omega) (by omega)
    have q0 : 0 ≤ q := by rw [hq2, Int.tdiv_eq_ediv_of_nonneg (by omega)]; exact Int.ediv_nonneg (by omega) (by omega)
    have q1 : q ≤ l := by rw [hq2, Int.tdiv_eq_ediv_of_nonneg (by omega)]; exact Int.ediv_le_self _ (by omega)
    conv => cbv
    refine st_big hE' ?_
    conv => cbv
    refine st_f hr (small_f v 0 q _ (by omega) q0 (by omega)) fun u w8 hx8 ⟨r, c, eu, ho⟩ => ?_
    subst eu
    refine ⟨hS _ hx8, ?_⟩
    rw [show (0 : Int) * 18446744073709551616 + q = q by omega, hq2, hl, hl', sg_div hn hn' hv] at ho
    conv => cbv
    rw [hR]; exact ⟨hx.trans hx8, r, c, rfl, .inr (.inr (.inr (.inr (.inl ⟨g4, b0, ho⟩))))⟩
  have g4 : op ≠ 4 := N _ _ g
  have t4 : ¬ E.cmp .eql op 4 = true := g
  clear g
  conv => cbv
  refine br (fun g => ?_) (fun g => ?_)
  · have g5 : op = 5 := P _ _ g
    conv => cbv
    refine br (fun k => ?_) (fun k => ?_)
    · have k : b = 0 := P _ _ k
      conv => cbv
      exact zero _ hx (.inr g5) k
    have b0 : b ≠ 0 := N _ _ k
    clear k
    conv => cbv
    refine br (fun k => absurd k t4) (fun _ => ?_)
    conv => cbv
    refine draw_h [0, 1, 2, 3, 4, 5, 6, 7] [(8, false), (9, true), (10, true), (11, true), (12, true)] hr fol (by kernel_rfl) fun E' hE' w7 hs7 S hS => ?_
    replace hX2 := hX2.bel hs7.ext
    replace hY2 := hY2.bel hs7.ext
    replace hx := hx.trans hs7.ext
    conv => cbv
    (refine st_fld hE' fB0 fun p hp => ?_; (conv => cbv); refine st_load hE' cBool (by rw [hp]; exact (hX2).at _ _ rfl) ?_; clear hp; (conv => cbv))
    (refine st_fld hE' fB2 fun p hp => ?_; (conv => cbv); refine st_load hE' cU64 (by rw [hp]; exact (hX2).at _ _ rfl) ?_; clear hp; (conv => cbv))
    (refine st_fld hE' fB2 fun p hp => ?_; (conv => cbv); refine st_load hE' cU64 (by rw [hp]; exact (hY2).at _ _ rfl) ?_; clear hp; (conv => cbv))
    refine st_rem hE' (by omega) fun q hq => ?_
    have q0 : 0 ≤ q := by rw [hq]; exact Int.tmod_nonneg _ (by omega)
    have q1 : q < 18446744073709551616 := by
      have := Int.tmod_lt_of_pos l (show 0 < l' by omega)
      omega
    conv => cbv
    refine st_big hE' ?_
    conv => cbv
    refine st_f hr (small_f n 0 q _ (by omega) q0 (by omega)) fun u w8 hx8 ⟨r, c, eu, ho⟩ => ?_
    subst eu
    refine ⟨hS _ hx8, ?_⟩
    rw [show (0 : Int) * 18446744073709551616 + q = q by omega, hq, hl, hl', sg_mod hn] at ho
    conv => cbv
    rw [hR]; exact ⟨hx.trans hx8, r, c, rfl, .inr (.inr (.inr (.inr (.inr (.inl ⟨g5, b0, ho⟩)))))⟩
  · have g5 : op ≠ 5 := N _ _ g
    conv => cbv
    rw [hR]; exact ⟨hx, 0, 4, rfl, .inr (.inr (.inr (.inr (.inr (.inr ⟨by omega, rfl, rfl⟩)))))⟩
theorem lawCalc (op a b : Int) (w : World) {z o v : Addr} (he : Errs w z o v) (ha : fits a) (hb : fits b) : Law Tryd.prog 3 [.int .i64 op, .int .i64 a, .int .i64 b] w := by
  refine FC.intro (cs := []) Tryd.func3 (by kernel_rfl) fun E R hE hr hR => ?_
  conv => cbv
  refine st_f hr (sCalc_f op a b ha hb) fun u w1 hx ⟨r, c, eu, hc⟩ => ?_
  subst eu
  conv => cbv
  refine st_f hr (Calc_f (he.ext hx) op a b ha hb) fun u w2 hx2 ⟨r', c', eu, hc'⟩ => ?_
  subst eu
  obtain ⟨rfl, rfl⟩ := hc.same hc'
  have N : ∀ x : Int, ¬ E.cmp .neq x x = true := fun x => by rw [hE.cmp]; simp [cmpR]
  conv => cbv
  refine br (fun k => absurd k (N _)) (fun _ => ?_)
  conv => cbv
  refine br (fun k => absurd k (N _)) (fun _ => ?_)
  conv => cbv
  rw [hR]; exact ⟨hx.trans hx2, rfl⟩
end Go.Proofs.YtpphichjabjodaaDoor
