/- Calc: the reference's great numbers, the program's test of overflow; the law. -/
import Derived.Test.YtpphichjabjodaaDoorEng5
import Derived.Test.YtpphichjabjodaaDoorLErr
namespace Go.Proofs.YtpphichjabjodaaDoor
open Go.Eng
set_option linter.unusedVariables false
theorem uU64 : Tryd.prog.underlying 43 = some (.int .u64) := Tryd.underlying43
theorem uI64' : Tryd.prog.underlying 2 = some (.int .i64) := Tryd.underlying2
theorem cU64 : Cel Tryd.prog 43 := ⟨_, uU64, by simp, by simp⟩
theorem cBool : Cel Tryd.prog 4 := ⟨_, uBool, by simp, by simp⟩
theorem tBig : Stc Tryd.prog 45 3 [.bool false, .int .u64 0, .int .u64 0] := ⟨by kernel_rfl, by kernel_rfl⟩
theorem fB0 : Fld Tryd.prog 45 0 0 := ⟨by kernel_rfl⟩
theorem fB1 : Fld Tryd.prog 45 1 1 := ⟨by kernel_rfl⟩
theorem fB2 : Fld Tryd.prog 45 2 2 := ⟨by kernel_rfl⟩
theorem zBig : (Tryd.prog.info? 45).map (·.size) = some 3 := by kernel_rfl
theorem run_big (n : Bool) (h l : Int) (w : World) : (Instr.build 45 #[(0, .bool n), (1, .int .u64 h), (2, .int .u64 l)]).run Tryd.prog w = .ok (.agg #[.bool n, .int .u64 h, .int .u64 l]) w := by kernel_rfl
section
variable {E : Sym} {w : World} {K : Value → World → Prop} {d : Option Tmp} {ty : TypeId} {pos : String} {aft : Array Edge} {g : Option (Nat × Bool)}
theorem st_big {bq : Bool} (hE : EngB bq Tryd.prog E) {n : Bool} {h l : Int} {x y z : Operand} (hk : K (.agg ⟨[.bool n, .int .u64 h, .int .u64 l]⟩) w) : E.stop ⟨d, .build 45 ⟨[(0, x), (1, y), (2, z)]⟩, ty, pos, aft, g⟩ [.bool n, .int .u64 h, .int .u64 l] w K := by
  refine hE.det (v := .agg ⟨[.bool n, .int .u64 h, .int .u64 l]⟩) (fun w1 _ ρ hρ => ?_) hk
  simp only [opnds, List.map_cons, List.map_nil, List.cons.injEq, and_true] at hρ
  have := run_big n h l w1
  simp [execOp, hρ.1, hρ.2.1, hρ.2.2, this]
end
/-- The number that a sign and a size stand for. -/
def sg (n : Bool) (x : Int) : Int := if n = true then -x else x
/-- A value, or overflow. -/
def OutOf (v r c : Int) : Prop := (fits v ∧ r = v ∧ c = 0) ∨ (¬ fits v ∧ r = 0 ∧ c = 1)
theorem bigOf_v (k : Int) (hk : fits k) (n : Bool) (m : Int) (hn : n = true ↔ k < 0) (hm : m = k.natAbs) (w : World) :
    VF Tryd.prog 22 [.int .i64 k] w (.agg ⟨[.bool n, .int .u64 0, .int .u64 m]⟩) := by
  refine VF.intro (cs := []) Tryd.func22 (by kernel_rfl) fun w hx0 E R hE hr hR => ?_
  unfold fits at hk
  conv => cbv
  refine st_alloc hr tBig rfl fun a w1 hx ha0 => ?_
  have ha := ha0 _ (Nat.le_refl _)
  conv => cbv
  refine br (fun g => ?_) (fun g => ?_)
  · have g : k < 0 := by simpa [hE.cmp, cmpR] using g
    obtain rfl : n = true := hn.2 g
    obtain ⟨y, hy⟩ : ∃ y, y = k + 1 := ⟨_, rfl⟩
    have e1 : E.ar .add .i64 k 1 = y := by rw [hE.ar, hy]; exact wrap_in (by omega) (by omega)
    conv => cbv
    simp only [e1]
    refine st_neg hE fun r hr' => ?_
    have hr2 : r = -y := by rw [hr', wrap_in (by omega) (by omega)]; omega
    conv => cbv
    refine st_conv hE ⟨_, uI64'⟩ uU64 fun z hz => ?_
    have hz2 : z = r := by rw [hz]; exact u64_in (by omega) (by omega)
    have e2 : E.ar .add .u64 z 1 = m := by
      rw [hE.ar]
      show IntKind.u64.wrap (z + 1) = m
      rw [u64_in (by omega) (by omega), hm]; omega
    conv => cbv
    simp only [e2]
    refine st_big hE ?_
    conv => cbv
    refine st_putS hr zBig ha (add_zero _).symm (by simp) (by simp [Value.oneCell']) fun w2 hw ho2 => ?_
    replace hx := hx.then (hw.bel ha (Nat.le_trans (Nat.le_refl _) hx.size))
    simp only [List.take_zero, List.nil_append, List.length_cons, List.length_nil, List.drop_succ_cons, List.drop_nil, List.append_nil] at ho2
    conv => cbv
    refine st_cell hr tBig rfl ho2.at ?_
    rw [hR]; exact ⟨rfl, hx⟩
  · have g : 0 ≤ k := by simpa [hE.cmp, cmpR] using g
    obtain rfl : n = false := by rw [← Bool.not_eq_true, hn]; omega
    conv => cbv
    refine st_conv hE ⟨_, uI64'⟩ uU64 fun z hz => ?_
    obtain rfl : z = m := by rw [hz, u64_in (by omega) (by omega), hm]; omega
    conv => cbv
    refine st_big hE ?_
    conv => cbv
    refine st_putS hr zBig ha (add_zero _).symm (by simp) (by simp [Value.oneCell']) fun w2 hw ho2 => ?_
    replace hx := hx.then (hw.bel ha (Nat.le_trans (Nat.le_refl _) hx.size))
    simp only [List.take_zero, List.nil_append, List.length_cons, List.length_nil, List.drop_succ_cons, List.drop_nil, List.append_nil] at ho2
    conv => cbv
    refine st_cell hr tBig rfl ho2.at ?_
    rw [hR]; exact ⟨rfl, hx⟩
theorem small_f (n : Bool) (h l : Int) (w : World) (h0 : 0 ≤ h) (l0 : 0 ≤ l) (l1 : l < 18446744073709551616) :
    FC Tryd.prog 23 [.agg ⟨[.bool n, .int .u64 h, .int .u64 l]⟩] w fun v _ => ∃ r c, v = .tuple ⟨[.int .i64 r, .int .i64 c]⟩ ∧ OutOf (sg n (h * 18446744073709551616 + l)) r c := by
  refine FC.intro (cs := []) Tryd.func23 (by kernel_rfl) fun E R hE hr hR => ?_
  conv => cbv
  refine st_box hr fun a w1 hx ha0 => ?_
  have ha := ha0 _ (Nat.le_refl _)
  conv => cbv
  (refine st_fld hE fB1 fun p hp => ?_; (conv => cbv); refine st_load hE cU64 (by rw [hp]; exact (ha).at _ _ rfl) ?_; clear hp; (conv => cbv))
  refine br (fun g1 => ?_) (fun g1 => ?_)
  · have g1 : h ≠ 0 := by simpa [hE.cmp, cmpR] using g1
    conv => cbv
    rw [hR]; exact ⟨hx, 0, 1, rfl, .inr ⟨by unfold fits sg; split <;> omega, rfl, rfl⟩⟩
  have g1 : h = 0 := by simpa [hE.cmp, cmpR] using g1
  subst g1
  conv => cbv
  (refine st_fld hE fB2 fun p hp => ?_; (conv => cbv); refine st_load hE cU64 (by rw [hp]; exact (ha).at _ _ rfl) ?_; clear hp; (conv => cbv))
  refine br (fun g2 => ?_) (fun g2 => ?_)
  · have g2 : 9223372036854775808 < l := by simpa [hE.cmp, cmpR] using g2
    conv => cbv
    rw [hR]; exact ⟨hx, 0, 1, rfl, .inr ⟨by unfold fits sg; split <;> omega, rfl, rfl⟩⟩
  have g2 : l ≤ 9223372036854775808 := by simpa [hE.cmp, cmpR] using g2
  conv => cbv
  (refine st_fld hE fB2 fun p hp => ?_; (conv => cbv); refine st_load hE cU64 (by rw [hp]; exact (ha).at _ _ rfl) ?_; clear hp; (conv => cbv))
  refine br (fun g3 => ?_) (fun g3 => ?_)
  · have g3 : l = 9223372036854775808 := by simpa [hE.cmp, cmpR] using g3
    subst g3
    have ee : E.cmp .eql 9223372036854775808 9223372036854775808 = true := by rw [hE.cmp]; rfl
    conv => cbv
    (refine st_fld hE fB0 fun p hp => ?_; (conv => cbv); refine st_load hE cBool (by rw [hp]; exact (ha).at _ _ rfl) ?_; clear hp; (conv => cbv))
    cases n with
    | false =>
      conv => cbv
      rw [hR]; exact ⟨hx, 0, 1, rfl, .inr ⟨by unfold fits sg; simp, rfl, rfl⟩⟩
    | true =>
      conv => cbv
      (refine st_fld hE fB2 fun p hp => ?_; (conv => cbv); refine st_load hE cU64 (by rw [hp]; exact (ha).at _ _ rfl) ?_; clear hp; (conv => cbv))
      simp only [ee]
      conv => cbv
      rw [hR]; exact ⟨hx, _, 0, rfl, .inl ⟨by unfold fits sg; simp, by unfold sg; simp, rfl⟩⟩
  · have g3 : l ≠ 9223372036854775808 := by simpa [hE.cmp, cmpR] using g3
    have ee : E.cmp .eql l 9223372036854775808 = false := by rw [hE.cmp]; simpa [cmpR] using g3
    conv => cbv
    (refine st_fld hE fB2 fun p hp => ?_; (conv => cbv); refine st_load hE cU64 (by rw [hp]; exact (ha).at _ _ rfl) ?_; clear hp; (conv => cbv))
    simp only [ee]
    conv => cbv
    (refine st_fld hE fB0 fun p hp => ?_; (conv => cbv); refine st_load hE cBool (by rw [hp]; exact (ha).at _ _ rfl) ?_; clear hp; (conv => cbv))
    cases n with
    | false =>
      conv => cbv
      (refine st_fld hE fB2 fun p hp => ?_; (conv => cbv); refine st_load hE cU64 (by rw [hp]; exact (ha).at _ _ rfl) ?_; clear hp; (conv => cbv))
      refine st_conv hE ⟨_, uU64⟩ uI64' fun z hz => ?_
      obtain rfl : z = l := by rw [hz]; exact wrap_in (by omega) (by omega)
      conv => cbv
      rw [hR]; exact ⟨hx, _, 0, rfl, .inl ⟨by unfold fits sg; simp; omega, by unfold sg; simp, rfl⟩⟩
    | true =>
      conv => cbv
      (refine st_fld hE fB2 fun p hp => ?_; (conv => cbv); refine st_load hE cU64 (by rw [hp]; exact (ha).at _ _ rfl) ?_; clear hp; (conv => cbv))
      refine st_conv hE ⟨_, uU64⟩ uI64' fun z hz => ?_
      obtain rfl : z = l := by rw [hz]; exact wrap_in (by omega) (by omega)
      conv => cbv
      refine st_neg hE fun r hr' => ?_
      have hr2 : r = -z := by rw [hr', wrap_in (by omega) (by omega)]; omega
      conv => cbv
      rw [hR]; exact ⟨hx, _, 0, rfl, .inl ⟨by unfold fits sg; simp; omega, by unfold sg; simp; omega, rfl⟩⟩
theorem sum_f (n n' : Bool) (l l' : Int) (w : World) (l0 : 0 ≤ l) (l1 : l < 18446744073709551616) (k0 : 0 ≤ l') (k1 : l' < 18446744073709551616) :
    FC Tryd.prog 24 [.agg ⟨[.bool n, .int .u64 0, .int .u64 l]⟩, .agg ⟨[.bool n', .int .u64 0, .int .u64 l']⟩] w fun v _ => ∃ n2 h2 l2, v = .agg ⟨[.bool n2, .int .u64 h2, .int .u64 l2]⟩ ∧ 0 ≤ h2 ∧ 0 ≤ l2 ∧ l2 < 18446744073709551616 ∧ sg n2 (h2 * 18446744073709551616 + l2) = sg n l + sg n' l' := by
  refine FC.intro (cs := []) Tryd.func24 (by kernel_rfl) fun E R hE hr hR => ?_
  conv => cbv
  refine st_box hr fun a w1 hx ha0 => ?_
  have ha := ha0 _ (Nat.le_refl _)
  conv => cbv
  refine st_box hr fun b w2 hx2 hb0 => ?_
  have hb := hb0 _ hx.size
  replace ha := ha.bel hx2
  replace hx := hx.trans hx2
  conv => cbv
  refine st_alloc hr tBig rfl fun o w3 hx3 ho0 => ?_
  have ho := ho0 _ hx.size
  replace ha := ha.bel hx3
  replace hb := hb.bel hx3
  replace hx := hx.trans hx3
  clear ha0 hb0 ho0 hx2 hx3
  conv => cbv
  (refine st_fld hE fB0 fun p hp => ?_; (conv => cbv); refine st_load hE cBool (by rw [hp]; exact (ha).at _ _ rfl) ?_; clear hp; (conv => cbv))
  (refine st_fld hE fB0 fun p hp => ?_; (conv => cbv); refine st_load hE cBool (by rw [hp]; exact (hb).at _ _ rfl) ?_; clear hp; (conv => cbv))
  refine st_beq hE uBool fun v hv => ?_
  cases v with
  | true =>
    obtain rfl : n = n' := by have := hv.1 rfl; cases n <;> cases n' <;> simp_all
    conv => cbv
    (refine st_fld hE fB2 fun p hp => ?_; (conv => cbv); refine st_load hE cU64 (by rw [hp]; exact (ha).at _ _ rfl) ?_; clear hp; (conv => cbv))
    (refine st_fld hE fB2 fun p hp => ?_; (conv => cbv); refine st_load hE cU64 (by rw [hp]; exact (hb).at _ _ rfl) ?_; clear hp; (conv => cbv))
    obtain ⟨y, hy⟩ : ∃ y, y = (l + l') % 18446744073709551616 := ⟨_, rfl⟩
    have e1 : E.ar .add .u64 l l' = y := by rw [hE.ar, hy, ← IntKind.wrap_u64]; rfl
    simp only [e1]
    (refine st_fld hE fB1 fun p hp => ?_; (conv => cbv); refine st_load hE cU64 (by rw [hp]; exact (ha).at _ _ rfl) ?_; clear hp; (conv => cbv))
    (refine st_fld hE fB1 fun p hp => ?_; (conv => cbv); refine st_load hE cU64 (by rw [hp]; exact (hb).at _ _ rfl) ?_; clear hp; (conv => cbv))
    have e2 : E.ar .add .u64 0 0 = 0 := by rw [hE.ar]; rfl
    have e3 : E.ar .add .u64 0 1 = 1 := by rw [hE.ar]; rfl
    simp only [e2]
    (refine st_fld hE fB2 fun p hp => ?_; (conv => cbv); refine st_load hE cU64 (by rw [hp]; exact (ha).at _ _ rfl) ?_; clear hp; (conv => cbv))
    refine br (fun g => ?_) (fun g => ?_)
    · have g : y < l := by simpa [hE.cmp, cmpR] using g
      conv => cbv
      simp only [e3]
      (refine st_fld hE fB0 fun p hp => ?_; (conv => cbv); refine st_load hE cBool (by rw [hp]; exact (ha).at _ _ rfl) ?_; clear hp; (conv => cbv))
      refine st_big hE ?_
      conv => cbv
      refine st_putS hr zBig ho (add_zero _).symm (by simp) (by simp [Value.oneCell']) fun w2 hw ho2 => ?_
      replace hx := hx.then (hw.bel ho hx.size)
      simp only [List.take_zero, List.nil_append, List.length_cons, List.length_nil, List.drop_succ_cons, List.drop_nil, List.append_nil] at ho2
      conv => cbv
      refine st_cell hr tBig rfl ho2.at ?_
      rw [hR]; exact ⟨hx, n, 1, y, rfl, by omega, by omega, by omega, by unfold sg; split <;> omega⟩
    · have g : l ≤ y := by simpa [hE.cmp, cmpR] using g
      conv => cbv
      (refine st_fld hE fB0 fun p hp => ?_; (conv => cbv); refine st_load hE cBool (by rw [hp]; exact (ha).at _ _ rfl) ?_; clear hp; (conv => cbv))
      refine st_big hE ?_
      conv => cbv
      refine st_putS hr zBig ho (add_zero _).symm (by simp) (by simp [Value.oneCell']) fun w2 hw ho2 => ?_
      replace hx := hx.then (hw.bel ho hx.size)
      simp only [List.take_zero, List.nil_append, List.length_cons, List.length_nil, List.drop_succ_cons, List.drop_nil, List.append_nil] at ho2
      conv => cbv
      refine st_cell hr tBig rfl ho2.at ?_
      rw [hR]; exact ⟨hx, n, 0, y, rfl, by omega, by omega, by omega, by unfold sg; split <;> omega⟩
  | false =>
    have hnn : n' = !n := by
      have h2 : ¬ (n = true ↔ n' = true) := fun h => by simpa using hv.2 h
      cases n <;> cases n' <;> simp_all
    subst hnn
    conv => cbv
    (refine st_fld hE fB2 fun p hp => ?_; (conv => cbv); refine st_load hE cU64 (by rw [hp]; exact (ha).at _ _ rfl) ?_; clear hp; (conv => cbv))
    (refine st_fld hE fB2 fun p hp => ?_; (conv => cbv); refine st_load hE cU64 (by rw [hp]; exact (hb).at _ _ rfl) ?_; clear hp; (conv => cbv))
    refine br (fun g => ?_) (fun g => ?_)
    · have g : l' ≤ l := by simpa [hE.cmp, cmpR] using g
      conv => cbv
      (refine st_fld hE fB0 fun p hp => ?_; (conv => cbv); refine st_load hE cBool (by rw [hp]; exact (ha).at _ _ rfl) ?_; clear hp; (conv => cbv))
      (refine st_fld hE fB2 fun p hp => ?_; (conv => cbv); refine st_load hE cU64 (by rw [hp]; exact (ha).at _ _ rfl) ?_; clear hp; (conv => cbv))
      (refine st_fld hE fB2 fun p hp => ?_; (conv => cbv); refine st_load hE cU64 (by rw [hp]; exact (hb).at _ _ rfl) ?_; clear hp; (conv => cbv))
      obtain ⟨y, hy⟩ : ∃ y, y = l - l' := ⟨_, rfl⟩
      have e1 : E.ar .sub .u64 l l' = y := by
        rw [hE.ar, hy]; show IntKind.u64.wrap (l - l') = _; exact u64_in (by omega) (by omega)
      simp only [e1]
      refine st_big hE ?_
      conv => cbv
      refine st_putS hr zBig ho (add_zero _).symm (by simp) (by simp [Value.oneCell']) fun w2 hw ho2 => ?_
      replace hx := hx.then (hw.bel ho hx.size)
      simp only [List.take_zero, List.nil_append, List.length_cons, List.length_nil, List.drop_succ_cons, List.drop_nil, List.append_nil] at ho2
      conv => cbv
      refine st_cell hr tBig rfl ho2.at ?_
      rw [hR]; exact ⟨hx, n, 0, y, rfl, by omega, by omega, by omega, by cases n <;> simp [sg] <;> omega⟩
    · have g : l < l' := by simpa [hE.cmp, cmpR] using g
      conv => cbv
      (refine st_fld hE fB0 fun p hp => ?_; (conv => cbv); refine st_load hE cBool (by rw [hp]; exact (hb).at _ _ rfl) ?_; clear hp; (conv => cbv))
      (refine st_fld hE fB2 fun p hp => ?_; (conv => cbv); refine st_load hE cU64 (by rw [hp]; exact (hb).at _ _ rfl) ?_; clear hp; (conv => cbv))
      (refine st_fld hE fB2 fun p hp => ?_; (conv => cbv); refine st_load hE cU64 (by rw [hp]; exact (ha).at _ _ rfl) ?_; clear hp; (conv => cbv))
      obtain ⟨y, hy⟩ : ∃ y, y = l' - l := ⟨_, rfl⟩
      have e1 : E.ar .sub .u64 l' l = y := by
        rw [hE.ar, hy]; show IntKind.u64.wrap (l' - l) = _; exact u64_in (by omega) (by omega)
      simp only [e1]
      obtain ⟨n3, hn3⟩ : ∃ n3, n3 = !n := ⟨_, rfl⟩
      cases n <;> (
        conv => cbv
        refine st_big hE ?_
        conv => cbv
        refine st_putS hr zBig ho (add_zero _).symm (by simp) (by simp [Value.oneCell']) fun w2 hw ho2 => ?_
        replace hx := hx.then (hw.bel ho hx.size)
        simp only [List.take_zero, List.nil_append, List.length_cons, List.length_nil, List.drop_succ_cons, List.drop_nil, List.append_nil] at ho2
        conv => cbv
        refine st_cell hr tBig rfl ho2.at ?_
        rw [hR]; exact ⟨hx, n3, 0, y, by rw [hn3]; rfl, by omega, by omega, by omega, by subst hn3; simp [sg] <;> omega⟩)
theorem uUint : Tryd.prog.underlying 69 = some (.int .u64) := Tryd.underlying69
/-- One round: what stands is doubled. -/
theorem dbl {h l : Int} (h0 : 0 ≤ h) (l0 : 0 ≤ l) (l1 : l < 18446744073709551616) (hP : (h * 18446744073709551616 + l) * 2 < 340282366920938463463374607431768211456) :
    IntKind.u64.wrap (h * 2 ^ (min (1 : Int).toNat IntKind.u64.bits)) + l.fdiv (2 ^ (min (63 : Int).toNat IntKind.u64.bits)) < 18446744073709551616 ∧
    (IntKind.u64.wrap (h * 2 ^ (min (1 : Int).toNat IntKind.u64.bits)) + l.fdiv (2 ^ (min (63 : Int).toNat IntKind.u64.bits))) * 18446744073709551616 + IntKind.u64.wrap (l * 2 ^ (min (1 : Int).toNat IntKind.u64.bits)) = (h * 18446744073709551616 + l) * 2 ∧
    0 ≤ l.fdiv (2 ^ (min (63 : Int).toNat IntKind.u64.bits)) ∧ l.fdiv (2 ^ (min (63 : Int).toNat IntKind.u64.bits)) < 2 ∧ IntKind.u64.wrap (h * 2 ^ (min (1 : Int).toNat IntKind.u64.bits)) % 2 = 0 ∧ 0 ≤ IntKind.u64.wrap (h * 2 ^ (min (1 : Int).toNat IntKind.u64.bits)) ∧
    0 ≤ IntKind.u64.wrap (l * 2 ^ (min (1 : Int).toNat IntKind.u64.bits)) ∧ IntKind.u64.wrap (l * 2 ^ (min (1 : Int).toNat IntKind.u64.bits)) < 18446744073709551616 := by
  have e1 : (2 : Int) ^ (min (1 : Int).toNat IntKind.u64.bits) = 2 := by decide
  have e2 : (2 : Int) ^ (min (63 : Int).toNat IntKind.u64.bits) = 9223372036854775808 := by decide
  rw [e1, e2, IntKind.wrap_u64, IntKind.wrap_u64, Int.fdiv_eq_ediv_of_nonneg _ (by omega)]
  omega
theorem half (a : Int) (k : Nat) : a / 2 ^ k = 2 * (a / 2 ^ (k + 1)) + a / 2 ^ k % 2 := by
  have : a / 2 ^ (k + 1) = a / 2 ^ k / 2 := by rw [Int.pow_succ, Int.ediv_ediv_of_nonneg (Int.le_of_lt (Int.pow_pos (by omega)))]
  rw [this]; omega
theorem small_pow {k : Nat} (hk : k < 64) : min ((k : Int)).toNat IntKind.u64.bits = k := by
  have : IntKind.u64.bits = 64 := rfl
  rw [this]; omega
theorem times_f (a b : Int) (w : World) (a0 : 0 ≤ a) (a1 : a < 18446744073709551616) (b0 : 0 ≤ b) (b1 : b < 18446744073709551616) :
    FC Tryd.prog 25 [.int .u64 a, .int .u64 b] w fun v _ => ∃ h l, v = .tuple ⟨[.int .u64 h, .int .u64 l]⟩ ∧ 0 ≤ h ∧ 0 ≤ l ∧ l < 18446744073709551616 ∧ h * 18446744073709551616 + l = a * b := by
  refine FC.intro (cs := []) Tryd.func25 (by kernel_rfl) fun E R hE hr hR => ?_
  conv => cbv
  refine loop_rule hr (fun (s : Nat × Int × Int × Int) w' => w' = w ∧ s.1 ≤ 64 ∧ s.2.1 = (s.1 : Int) - 1 ∧ 0 ≤ s.2.2.1 ∧ 0 ≤ s.2.2.2 ∧ s.2.2.2 < 18446744073709551616 ∧ s.2.2.1 * 18446744073709551616 + s.2.2.2 = a / 2 ^ s.1 * b) (fun s => [(0, .int .u64 a), (1, .int .u64 b), (6, .int .u64 s.2.2.1), (7, .int .u64 s.2.2.2), (8, .int .i64 s.2.1)]) (fun s => s.1) (64, 63, 0, 0)
    (by simp [Fits, lk]) ⟨rfl, by simp, by simp, by simp, by simp, by simp, by simp only; rw [show a / 2 ^ 64 = 0 from Int.ediv_eq_zero_of_lt a0 (by omega)]; simp⟩ ?_
  rintro I hI ⟨k, i, h, l⟩ w' ⟨rfl, hk, hi, h0, l0, l1, hP⟩
  simp only at hk hi h0 l0 l1 hP
  conv => cbv
  refine br (fun g => ?_) (fun g => ?_)
  · have g : 0 ≤ i := by simpa [hE.cmp, cmpR] using g
    obtain ⟨k, rfl⟩ : ∃ j, k = j + 1 := ⟨k - 1, by omega⟩
    have hi : i = (k : Int) := by omega
    have hh := half a k
    obtain ⟨Q, hQ⟩ : ∃ Q, Q = a / 2 ^ k := ⟨_, rfl⟩
    have q0 : 0 ≤ Q := by rw [hQ]; exact Int.ediv_nonneg a0 (Int.le_of_lt (Int.pow_pos (by omega)))
    have q1 : Q ≤ a := by rw [hQ]; exact Int.ediv_le_self _ a0
    rw [← hQ] at hh
    obtain ⟨q, hq⟩ : ∃ q, q = a / 2 ^ (k + 1) := ⟨_, rfl⟩
    rw [← hq] at hh hP
    have hQb : Q * b ≤ 18446744073709551615 * 18446744073709551615 := Int.mul_le_mul (by omega) (by omega) b0 (by omega)
    have hbit : Q * b = q * b * 2 + Q % 2 * b := by
      have : Q * b = (2 * q + Q % 2) * b := by rw [← hh]
      rw [this, Int.add_mul, Int.mul_assoc, Int.mul_comm 2]
    have hb2 : 0 ≤ Q % 2 * b := Int.mul_nonneg (by omega) b0
    obtain ⟨d1, d2, d3, d4, d5, d6, d7, d8⟩ := dbl h0 l0 l1 (by omega)
    conv => cbv
    refine st_shl hE (by omega) fun r1 hr1 => ?_
    conv => cbv
    refine st_shr hE (by omega) fun r2 hr2 => ?_
    rw [← hr1, ← hr2] at d1 d2
    rw [← hr2] at d3 d4
    rw [← hr1] at d5 d6
    conv => cbv
    refine st_or hE d6 (by omega) d3 (by omega) fun r3 hr3 => ?_
    have hr3' : r3 = r1 + r2 := by
      rw [hr3, even_or (by omega) (by omega)]; omega
    conv => cbv
    refine st_shl hE (by omega) fun r4 hr4 => ?_
    rw [← hr4] at d2 d7 d8
    conv => cbv
    refine st_conv hE ⟨_, uInt⟩ uUint fun r5 hr5 => ?_
    obtain rfl : r5 = i := by rw [hr5]; exact u64_in (by omega) (by omega)
    conv => cbv
    refine st_shr hE (by omega) fun r6 hr6 => ?_
    have hr6' : r6 = Q := by
      rw [hr6, hi, small_pow (by omega), hQ, Int.fdiv_eq_ediv_of_nonneg _ (Int.le_of_lt (Int.pow_pos (by omega)))]
    conv => cbv
    refine st_and hE (by omega) (by omega) (by omega) (by omega) fun r7 hr7 => ?_
    have hr7' : r7 = Q % 2 := by
      rw [hr7, hr6']
      have : (1 : Int).toNat = 1 := rfl
      rw [this, Nat.and_one_is_mod]; omega
    have ed : E.ar .sub .i64 r5 1 = r5 - 1 := by rw [hE.ar]; exact wrap_in (by omega) (by omega)
    obtain ⟨i', hi'⟩ : ∃ i' : Int, i' = r5 - 1 := ⟨_, rfl⟩
    rw [← hi'] at ed
    conv => cbv
    refine br (fun g2 => ?_) (fun g2 => ?_)
    · have g2 : r7 = 1 := by simpa [hE.cmp, cmpR] using g2
      have hone : Q % 2 * b = b := by rw [← hr7', g2]; omega
      obtain ⟨y, hy⟩ : ∃ y, y = (r4 + b) % 18446744073709551616 := ⟨_, rfl⟩
      have e1 : E.ar .add .u64 r4 b = y := by rw [hE.ar, hy, ← IntKind.wrap_u64]; rfl
      conv => cbv
      simp only [e1]
      refine br (fun g3 => ?_) (fun g3 => ?_)
      · have g3 : y < r4 := by simpa [hE.cmp, cmpR] using g3
        obtain ⟨z, hz⟩ : ∃ z, z = r3 + 1 := ⟨_, rfl⟩
        have e2 : E.ar .add .u64 r3 1 = z := by
          rw [hE.ar, hz]; show IntKind.u64.wrap (r3 + 1) = _; exact u64_in (by omega) (by omega)
        conv => cbv
        exact ⟨(k, i', z, y), by simp [Fits, lk, e2, ed], hI _ _ ⟨rfl, by simp only; omega, by simp only; omega, by simp only; omega, by simp only; omega, by simp only; omega, by simp only; rw [← hQ]; omega⟩, by simp only; omega⟩
      · have g3 : r4 ≤ y := by simpa [hE.cmp, cmpR] using g3
        conv => cbv
        exact ⟨(k, i', r3, y), by simp [Fits, lk, ed], hI _ _ ⟨rfl, by simp only; omega, by simp only; omega, by simp only; omega, by simp only; omega, by simp only; omega, by simp only; rw [← hQ]; omega⟩, by simp only; omega⟩
    · have g2 : r7 ≠ 1 := by simpa [hE.cmp, cmpR] using g2
      have hone : Q % 2 * b = 0 := by
        have : Q % 2 = 0 := by omega
        rw [this]; omega
      conv => cbv
      exact ⟨(k, i', r3, r4), by simp [Fits, lk, ed], hI _ _ ⟨rfl, by simp only; omega, by simp only; omega, by simp only; omega, by simp only; omega, by simp only; omega, by simp only; rw [← hQ]; omega⟩, by simp only; omega⟩
  · have g : i < 0 := by simpa [hE.cmp, cmpR] using g
    obtain rfl : k = 0 := by omega
    rw [Int.pow_zero, Int.ediv_one] at hP
    conv => cbv
    rw [hR]; exact ⟨Ext.refl _, h, l, rfl, h0, l0, l1, hP⟩
end Go.Proofs.YtpphichjabjodaaDoor
