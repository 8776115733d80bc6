/- The laws' helpers over slices of operations (printed by gen33.py): they are compared, marked, and looked at. -/
import Derived.Test.YtjaejonnbhdddaaDoorL32
namespace Go.Proofs.YtjaejonnbhdddaaDoor
open Go.Eng
set_option linter.unusedVariables false
set_option linter.unusedSimpArgs false
theorem tOps : Slc Tryd.prog 32 53 (.agg ⟨[.int .i64 0, .string ⟨#[]⟩, .string ⟨#[]⟩, .string ⟨#[]⟩, .int .i64 0]⟩) 5 64 := ⟨by kernel_rfl, by kernel_rfl⟩
theorem cIntO : Cel Tryd.prog 3 := ⟨_, uInt, by simp, by simp⟩
theorem flat_len : ∀ xs : List OpV, (xs.flatMap opC).length = xs.length * 5
  | [] => rfl
  | x :: xs => by rw [List.flatMap_cons, List.length_append, flat_len xs]; simp [opC]; omega
theorem flat_get : ∀ (xs : List OpV) (i : Nat) (x : OpV) (j : Nat), xs[i]? = some x → j < 5 → (xs.flatMap opC)[i * 5 + j]? = (opC x)[j]?
  | [], i, x, j, h, _ => by simp at h
  | y :: ys, 0, x, j, h, hj => by
    simp at h; subst h
    rw [List.flatMap_cons, List.getElem?_append_left (by simp [opC]; omega)]; simp
  | y :: ys, i + 1, x, j, h, hj => by
    simp only [List.getElem?_cons_succ] at h
    rw [List.flatMap_cons, List.getElem?_append_right (by simp [opC]; omega), ← flat_get ys i x j h hj]
    congr 1; simp [opC]; omega
theorem flat_set : ∀ (xs : List OpV) (i : Nat) (x y : OpV) (j : Nat) (v : Value), xs[i]? = some x → j < 5 → opC y = (opC x).set j v → (xs.flatMap opC).set (i * 5 + j) v = (xs.set i y).flatMap opC
  | [], i, x, y, j, v, h, _, _ => by simp at h
  | z :: zs, 0, x, y, j, v, h, hj, he => by
    simp at h; subst h
    rw [List.flatMap_cons, List.set_append_left _ _ (by simp [opC]; omega), List.set_cons_zero, List.flatMap_cons, he]; simp
  | z :: zs, i + 1, x, y, j, v, h, hj, he => by
    simp only [List.getElem?_cons_succ] at h
    rw [List.flatMap_cons, List.set_append_right _ _ (by simp [opC]; omega), List.set_cons_succ, List.flatMap_cons, ← flat_set zs i x y j v h hj he]
    congr 2; simp [opC]; omega
/-- A slice of operations that is read. -/
structure Ops (w : World) (A : Option Addr) (n : Nat) (xs : List OpV) : Prop where
  len : xs.length = n
  cells : Cells w A (xs.flatMap opC)
theorem Ops.ext {w w' : World} {A : Option Addr} {n : Nat} {xs : List OpV} (h : Ops w A n xs) (hx : Ext w w') : Ops w' A n xs := ⟨h.1, h.2.ext hx⟩
theorem ops_own {B : Nat} {w : World} {A : Option Addr} {n c : Nat} {xs : List OpV} (h : Own B 53 5 w A n c (xs.flatMap opC)) : Ops w A n xs :=
  ⟨by have := h.len; rw [flat_len] at this; omega, h.cells⟩
theorem Ops.get {w : World} {A : Option Addr} {n : Nat} {xs : List OpV} (h : Ops w A n xs) {i : Nat} (hi : i < n) : ∃ a k nm ot tx nu, A = some a ∧ xs[i]? = some ⟨k, nm, ot, tx, nu⟩ ∧
    ∀ j v, [Value.int .i64 k, .string nm, .string ot, .string tx, .int .i64 nu][j]? = some v → w.cell? ((a.add (i * 5)).add j) = some v := by
  have hl := h.len
  obtain ⟨a, ha⟩ := h.cells.1 (by rw [flat_len]; omega)
  have hx := List.getElem?_eq_getElem (l := xs) (i := i) (by omega)
  obtain ⟨k, nm, ot, tx, nu⟩ : OpV := xs[i]
  rcases hq : xs[i]'(by omega) with ⟨k, nm, ot, tx, nu⟩
  rw [hq] at hx
  refine ⟨a, k, nm, ot, tx, nu, ha, hx, fun j v hv => ?_⟩
  have hj : j < 5 := by
    rcases Nat.lt_or_ge j 5 with h | h
    · exact h
    · rw [List.getElem?_eq_none (by simpa using h)] at hv; cases hv
  rw [add_add]
  exact h.cells.2 a ha _ _ (by rw [flat_get _ _ _ _ hx hj]; exact hv)
theorem eqOp_f {w : World} {k nu : Int} {nm ot tx : ByteArray} :
    FC Tryd.prog 39 [.agg ⟨[.int .i64 k, .string nm, .string ot, .string tx, .int .i64 nu]⟩, .agg ⟨[.int .i64 k, .string nm, .string ot, .string tx, .int .i64 nu]⟩] w fun v _ => v = .bool true := by
  refine FC.intro (cs := []) Tryd.func39 (by kernel_rfl) fun E R hE hr hR => ?_
  have ei : ∀ z : Int, ¬ E.cmp .neq z z = true := fun z => by rw [hE.cmp]; simp [cmpR]
  have es : ∀ z : ByteArray, ¬ E.scmp .neq z z = true := fun z => by rw [hE.scmp, scmp_neq]; simp
  conv => cbv
  refine st_box hr fun a w1 hx ha0 => ?_
  have ha := ha0 _ (Nat.le_refl _)
  conv => cbv
  refine st_box hr fun b w2 hx2 hb0 => ?_
  have hb := hb0 _ hx.size
  replace ha := ha.bel hx2
  replace hx := hx.trans hx2
  clear ha0 hb0
  conv => cbv
  refine st_fld hE fO0 fun q hq => ?_
  conv => cbv
  refine st_load hE cIntO (v := .int .i64 k) (by rw [hq]; exact ha.at _ _ rfl) ?_
  conv => cbv
  refine st_fld hE fO0 fun q hq => ?_
  conv => cbv
  refine st_load hE cIntO (v := .int .i64 k) (by rw [hq]; exact hb.at _ _ rfl) ?_
  conv => cbv
  refine br (fun g => absurd g (ei _)) (fun _ => ?_)
  conv => cbv
  refine st_fld hE fO1 fun q hq => ?_
  conv => cbv
  refine st_load hE cStr (v := .string nm) (by rw [hq]; exact ha.at _ _ rfl) ?_
  conv => cbv
  refine st_fld hE fO1 fun q hq => ?_
  conv => cbv
  refine st_load hE cStr (v := .string nm) (by rw [hq]; exact hb.at _ _ rfl) ?_
  conv => cbv
  refine br (fun g => absurd g (es _)) (fun _ => ?_)
  conv => cbv
  refine st_fld hE fO2 fun q hq => ?_
  conv => cbv
  refine st_load hE cStr (v := .string ot) (by rw [hq]; exact ha.at _ _ rfl) ?_
  conv => cbv
  refine st_fld hE fO2 fun q hq => ?_
  conv => cbv
  refine st_load hE cStr (v := .string ot) (by rw [hq]; exact hb.at _ _ rfl) ?_
  conv => cbv
  refine br (fun g => absurd g (es _)) (fun _ => ?_)
  conv => cbv
  refine st_fld hE fO3 fun q hq => ?_
  conv => cbv
  refine st_load hE cStr (v := .string tx) (by rw [hq]; exact ha.at _ _ rfl) ?_
  conv => cbv
  refine st_fld hE fO3 fun q hq => ?_
  conv => cbv
  refine st_load hE cStr (v := .string tx) (by rw [hq]; exact hb.at _ _ rfl) ?_
  conv => cbv
  refine br (fun g => absurd g (es _)) (fun _ => ?_)
  conv => cbv
  refine st_fld hE fO4 fun q hq => ?_
  conv => cbv
  refine st_load hE cI64a (v := .int .i64 nu) (by rw [hq]; exact ha.at _ _ rfl) ?_
  conv => cbv
  refine st_fld hE fO4 fun q hq => ?_
  conv => cbv
  refine st_load hE cI64a (v := .int .i64 nu) (by rw [hq]; exact hb.at _ _ rfl) ?_
  conv => cbv
  refine br (fun g => absurd g (ei _)) (fun _ => ?_)
  conv => cbv
  rw [hR]; exact ⟨hx, rfl⟩
theorem eqOpS_f {w : World} {A A1 : Option Addr} {n c c1 : Nat} {xs : List OpV} (h : Ops w A n xs) (h1 : Ops w A1 n xs) (hn : n ≤ 9223372036854775807) :
    FC Tryd.prog 16 [.slice A n c, .slice A1 n c1] w fun v _ => v = .bool true := by
  refine FC.intro (cs := []) Tryd.func16 (by kernel_rfl) fun E R hE hr hR => ?_
  have ei : ∀ z : Int, ¬ E.cmp .neq z z = true := fun z => by rw [hE.cmp]; simp [cmpR]
  conv => cbv
  refine st_len hE tOps fun x hx => ?_
  conv => cbv
  refine st_len hE tOps fun x' hx' => ?_
  obtain rfl : x = x' := by rw [hx, hx']
  conv => cbv
  refine br (fun g => absurd g (ei _)) (fun _ => ?_)
  conv => cbv
  refine loop_rule hr (fun (s : Nat × Int) w' => s.1 ≤ n ∧ s.2 = (s.1 : Int) ∧ Ext w w') (fun s => [(0, .slice A n c), (1, .slice A1 n c1), (5, .int .i64 s.2)]) (fun s => n - s.1) (0, 0)
    (by simp [Fits, lk]) ⟨by simp, by simp, Ext.refl _⟩ ?_
  rintro I hI ⟨i, z⟩ w' ⟨hi, hz, hxw⟩
  simp only at hi hz
  obtain ⟨z', hz'⟩ : ∃ z', z' = z + 1 := ⟨_, rfl⟩
  conv => cbv
  refine st_len hE tOps fun y hy => ?_
  conv => cbv
  refine br (fun g => ?_) (fun g => ?_)
  · have g : i < n := by have : z < y := by simpa [hE.cmp, cmpR] using g
                         omega
    have e1 : E.ar .add .i64 z 1 = z' := by rw [hz']; exact inc' hE (by omega) (by omega)
    conv => cbv
    refine draw_h [0, 1, 2, 3, 4, 5, 6, 7] [(8, false), (9, false)] hr fol (by kernel_rfl) fun E' hE' w0 hs0 S hS => ?_
    obtain ⟨a, k, nm, ot, tx, nu, hA, hg, hc⟩ := (h.ext (hxw.trans hs0.ext)).get g
    obtain ⟨a1, k1, nm1, ot1, tx1, nu1, hA1, hg1, hc1⟩ := (h1.ext (hxw.trans hs0.ext)).get g
    rw [hg] at hg1
    simp only [Option.some.injEq, OpV.mk.injEq] at hg1
    obtain ⟨rfl, rfl, rfl, rfl, rfl⟩ := hg1
    replace hxw := hxw.trans hs0.ext
    conv => cbv
    refine st_idx hE' tOps hA (by omega) (by omega) fun q hq => ?_
    rw [show z.toNat = i by omega] at hq
    conv => cbv
    refine st_loadS hE' tOp rfl (by rw [hq]; exact hc) ?_
    conv => cbv
    refine st_idx hE' tOps hA1 (by omega) (by omega) fun q1 hq1 => ?_
    rw [show z.toNat = i by omega] at hq1
    conv => cbv
    refine st_loadS hE' tOp rfl (by rw [hq1]; exact hc1) ?_
    conv => cbv
    refine st_f hr (eqOp_f (k := k) (nm := nm) (ot := ot) (tx := tx) (nu := nu)) fun v w2 hx2 ev => ?_
    subst ev
    replace hxw := hxw.trans hx2
    refine ⟨hS _ hx2, ?_⟩
    conv => cbv
    refine ⟨hS _ hx2, ?_⟩
    conv => cbv
    simp only [e1]
    exact ⟨(i + 1, z'), by simp [Fits, lk], hI _ _ ⟨by simp only; omega, by simp only; omega, hxw⟩, by simp only; omega⟩
  · conv => cbv
    rw [hR]; exact ⟨hxw, rfl⟩
/-- The marks of an operation. -/
def opM (k : Int) : OpV := ⟨k, mkText (k + 1), mkText (k + 2), mkText (k + 3), k + 4⟩
def opMs (k : Int) (n : Nat) : List OpV := (List.range n).map fun (i : Nat) => opM (k + 5 * i)
theorem opMs_len (k : Int) (n : Nat) : (opMs k n).length = n := by simp [opMs]
theorem opMs_get {k : Int} {n i : Nat} (h : i < n) : (opMs k n)[i]? = some (opM (k + 5 * i)) := by simp [opMs, h]
theorem opMs_succ (k : Int) (n : Nat) : opMs k (n + 1) = opMs k n ++ [opM (k + 5 * n)] := by simp [opMs, List.range_succ]
set_option maxHeartbeats 1000000 in
theorem markOpS_g {w : World} {B : Nat} {A : Option Addr} {n c : Nat} {xs : List OpV} (h : Own B 53 5 w A n c (xs.flatMap opC)) (k : Int) (hk : 0 ≤ k) (hkn : k + 5 * n < 9223372036854775807) :
    GC Tryd.prog 17 [.slice A n c, .int .i64 k] w fun v w' => v = .int .i64 (k + 5 * n) ∧ Own B 53 5 w' A n c ((opMs k n).flatMap opC) ∧ Wr A w w' := by
  refine GC.intro (cs := []) Tryd.func17 (by kernel_rfl) fun E R hE hr hR => ?_
  have hl : xs.length = n := (ops_own h).len
  conv => cbv
  refine loop_rule hr (fun (s : Nat × Int × Int) w' => s.1 ≤ n ∧ s.2.1 = k + 5 * s.1 ∧ s.2.2 = s.1 ∧ Wr A w w' ∧ Own B 53 5 w' A n c ((opMs k s.1 ++ xs.drop s.1).flatMap opC)) (fun s => [(0, .slice A n c), (1, .int .i64 s.2.1), (5, .int .i64 s.2.2)]) (fun s => n - s.1) (0, k, 0)
    (by simp [Fits, lk]) ⟨by simp, by simp, by simp, Wr.refl _ _, by simpa [opMs] using h⟩ ?_
  rintro I hI ⟨i, z, ii⟩ w' ⟨hi, hz, hii, hw, ho⟩
  simp only at hi hz hii ho
  obtain ⟨ii', hii'⟩ : ∃ z, z = ii + 1 := ⟨_, rfl⟩
  conv => cbv
  refine st_len hE tOps fun x hx => ?_
  conv => cbv
  refine br (fun h1 => ?_) (fun h1 => ?_)
  · have h1 : i < n := by have : ii < x := by simpa [hE.cmp, cmpR] using h1
                          omega
    have ei : E.ar .add .i64 ii 1 = ii' := by rw [hii']; exact inc' hE (by omega) (by omega)
    obtain ⟨z0, hz0⟩ : ∃ q, q = z + 1 := ⟨_, rfl⟩
    have e0 : E.ar .add .i64 z 1 = z0 := by rw [hz0, inc' hE (by omega) (by omega)]
    obtain ⟨z1, hz1⟩ : ∃ q, q = z + 2 := ⟨_, rfl⟩
    have e1 : E.ar .add .i64 z0 1 = z1 := by rw [hz1, hz0, inc' hE (by omega) (by omega)]; omega
    obtain ⟨z2, hz2⟩ : ∃ q, q = z + 3 := ⟨_, rfl⟩
    have e2 : E.ar .add .i64 z1 1 = z2 := by rw [hz2, hz1, inc' hE (by omega) (by omega)]; omega
    obtain ⟨z3, hz3⟩ : ∃ q, q = z + 4 := ⟨_, rfl⟩
    have e3 : E.ar .add .i64 z2 1 = z3 := by rw [hz3, hz2, inc' hE (by omega) (by omega)]; omega
    obtain ⟨z4, hz4⟩ : ∃ q, q = z + 5 := ⟨_, rfl⟩
    have e4 : E.ar .add .i64 z3 1 = z4 := by rw [hz4, hz3, inc' hE (by omega) (by omega)]; omega
    obtain ⟨gb, rfl, _⟩ := ho.addr (by omega)
    have hgl : (opMs k i ++ xs.drop i).length = n := by simp [opMs_len]; omega
    obtain ⟨y0, hy0⟩ : ∃ y, (opMs k i ++ xs.drop i)[i]? = some y := ⟨_, List.getElem?_eq_getElem (by omega)⟩
    obtain ⟨k0, nm0, ot0, tx0, nu0⟩ := y0
    conv => cbv
    refine st_idx hE tOps rfl (by omega) (by omega) fun q0 hq0 => ?_
    rw [show ii.toNat = i by omega] at hq0
    conv => cbv
    refine st_fld hE fO0 fun p0 hp0 => ?_
    conv => cbv
    refine st_put hr zInO ho (j := i * 5 + 0) (by rw [hp0, hq0, add_add]) (by rw [flat_len]; omega) rfl fun w3 hw3 ho3 => ?_
    rw [flat_set _ i ⟨k0, nm0, ot0, tx0, nu0⟩ ⟨z, nm0, ot0, tx0, nu0⟩ 0 _ hy0 (by omega) rfl] at ho3
    replace hw := hw.trans hw3
    replace ho := ho3
    clear ho3 hw3
    conv => cbv
    simp only [e0]
    conv => cbv
    obtain ⟨u1, hu1⟩ : ∃ u, u = mkText z0 := ⟨_, rfl⟩
    refine st_v hr (v := .string u1) (by rw [hu1]; exact markText_v z0 _ (by omega)) fun w2 hx2 => ?_
    replace hw := hw.trans (hx2.wr _)
    replace ho := ho.bel hx2
    clear hx2
    conv => cbv
    refine st_idx hE tOps rfl (by omega) (by omega) fun q1 hq1 => ?_
    rw [show ii.toNat = i by omega] at hq1
    conv => cbv
    refine st_fld hE fO1 fun p1 hp1 => ?_
    conv => cbv
    refine st_put hr (by kernel_rfl) ho (j := i * 5 + 1) (by rw [hp1, hq1, add_add]) (by rw [flat_len, List.length_set]; omega) rfl fun w3 hw3 ho3 => ?_
    rw [flat_set _ i ⟨z, nm0, ot0, tx0, nu0⟩ ⟨z, u1, ot0, tx0, nu0⟩ 1 _ (by rw [List.getElem?_set_self (by omega)]) (by omega) rfl, List.set_set] at ho3
    replace hw := hw.trans hw3
    replace ho := ho3
    clear ho3 hw3
    conv => cbv
    simp only [e1]
    conv => cbv
    obtain ⟨u2, hu2⟩ : ∃ u, u = mkText z1 := ⟨_, rfl⟩
    refine st_v hr (v := .string u2) (by rw [hu2]; exact markText_v z1 _ (by omega)) fun w2 hx2 => ?_
    replace hw := hw.trans (hx2.wr _)
    replace ho := ho.bel hx2
    clear hx2
    conv => cbv
    refine st_idx hE tOps rfl (by omega) (by omega) fun q2 hq2 => ?_
    rw [show ii.toNat = i by omega] at hq2
    conv => cbv
    refine st_fld hE fO2 fun p2 hp2 => ?_
    conv => cbv
    refine st_put hr (by kernel_rfl) ho (j := i * 5 + 2) (by rw [hp2, hq2, add_add]) (by rw [flat_len, List.length_set]; omega) rfl fun w3 hw3 ho3 => ?_
    rw [flat_set _ i ⟨z, u1, ot0, tx0, nu0⟩ ⟨z, u1, u2, tx0, nu0⟩ 2 _ (by rw [List.getElem?_set_self (by omega)]) (by omega) rfl, List.set_set] at ho3
    replace hw := hw.trans hw3
    replace ho := ho3
    clear ho3 hw3
    conv => cbv
    simp only [e2]
    conv => cbv
    obtain ⟨u3, hu3⟩ : ∃ u, u = mkText z2 := ⟨_, rfl⟩
    refine st_v hr (v := .string u3) (by rw [hu3]; exact markText_v z2 _ (by omega)) fun w2 hx2 => ?_
    replace hw := hw.trans (hx2.wr _)
    replace ho := ho.bel hx2
    clear hx2
    conv => cbv
    refine st_idx hE tOps rfl (by omega) (by omega) fun q3 hq3 => ?_
    rw [show ii.toNat = i by omega] at hq3
    conv => cbv
    refine st_fld hE fO3 fun p3 hp3 => ?_
    conv => cbv
    refine st_put hr (by kernel_rfl) ho (j := i * 5 + 3) (by rw [hp3, hq3, add_add]) (by rw [flat_len, List.length_set]; omega) rfl fun w3 hw3 ho3 => ?_
    rw [flat_set _ i ⟨z, u1, u2, tx0, nu0⟩ ⟨z, u1, u2, u3, nu0⟩ 3 _ (by rw [List.getElem?_set_self (by omega)]) (by omega) rfl, List.set_set] at ho3
    replace hw := hw.trans hw3
    replace ho := ho3
    clear ho3 hw3
    conv => cbv
    simp only [e3]
    conv => cbv
    refine st_idx hE tOps rfl (by omega) (by omega) fun q4 hq4 => ?_
    rw [show ii.toNat = i by omega] at hq4
    conv => cbv
    refine st_fld hE fO4 fun p4 hp4 => ?_
    conv => cbv
    refine st_put hr (by kernel_rfl) ho (j := i * 5 + 4) (by rw [hp4, hq4, add_add]) (by rw [flat_len, List.length_set]; omega) rfl fun w3 hw3 ho3 => ?_
    rw [flat_set _ i ⟨z, u1, u2, u3, nu0⟩ ⟨z, u1, u2, u3, z3⟩ 4 _ (by rw [List.getElem?_set_self (by omega)]) (by omega) rfl, List.set_set] at ho3
    replace hw := hw.trans hw3
    replace ho := ho3
    clear ho3 hw3
    conv => cbv
    simp only [e4]
    conv => cbv
    simp only [ei]
    refine ⟨(i + 1, z4, ii'), by simp [Fits, lk], hI _ _ ⟨by simp only; omega, by simp only; omega, by simp only; omega, hw, ?_⟩, by simp only; omega⟩
    have e : opMs k (i + 1) ++ xs.drop (i + 1) = (opMs k i ++ xs.drop i).set i ⟨z, u1, u2, u3, z3⟩ := by
      rw [List.set_append_right _ _ (by rw [opMs_len]; omega), opMs_len, Nat.sub_self, List.drop_eq_getElem_cons (show i < xs.length by omega), List.set_cons_zero, opMs_succ, List.append_assoc, List.singleton_append]
      congr 2
      unfold opM
      rw [hu1, hu2, hu3, hz3, hz2, hz1, hz0, hz]
    simp only; rw [e]; exact ho
  · have h1 : i = n := by
      have : ¬ ii < x := by simpa [hE.cmp, cmpR] using h1
      omega
    subst h1
    rw [List.drop_of_length_le (by omega), List.append_nil] at ho
    conv => cbv
    rw [hR]; exact ⟨by rw [hz]; rfl, ho, hw⟩
set_option maxHeartbeats 1000000 in
theorem heldOpS_f {w : World} {A : Option Addr} {n c : Nat} {k : Int} (h : Ops w A n (opMs k n)) (hk : 0 ≤ k) (hkn : k + 5 * n < 9223372036854775807) :
    FC Tryd.prog 18 [.slice A n c, .int .i64 k] w fun v _ => v = .int .i64 (k + 5 * n) := by
  refine FC.intro (cs := []) Tryd.func18 (by kernel_rfl) fun E R hE hr hR => ?_
  have ec : ∀ z : Int, ¬ E.cmp .neq z z = true := fun z => by rw [hE.cmp]; simp [cmpR]
  conv => cbv
  refine loop_rule hr (fun (s : Nat × Int × Int) w' => s.1 ≤ n ∧ s.2.1 = k + 5 * s.1 ∧ s.2.2 = s.1 ∧ Ext w w') (fun s => [(0, .slice A n c), (1, .int .i64 s.2.1), (5, .int .i64 s.2.2)]) (fun s => n - s.1) (0, k, 0)
    (by simp [Fits, lk]) ⟨by simp, by simp, by simp, Ext.refl _⟩ ?_
  rintro I hI ⟨i, z, ii⟩ w' ⟨hi, hz, hii, hx⟩
  simp only at hi hz hii
  obtain ⟨ii', hii'⟩ : ∃ z, z = ii + 1 := ⟨_, rfl⟩
  conv => cbv
  refine st_len hE tOps fun x hxl => ?_
  conv => cbv
  refine br (fun h1 => ?_) (fun h1 => ?_)
  · have h1 : i < n := by have : ii < x := by simpa [hE.cmp, cmpR] using h1
                          omega
    have ei : E.ar .add .i64 ii 1 = ii' := by rw [hii']; exact inc' hE (by omega) (by omega)
    obtain ⟨z0, hz0⟩ : ∃ q, q = z + 1 := ⟨_, rfl⟩
    have e0 : E.ar .add .i64 z 1 = z0 := by rw [hz0, inc' hE (by omega) (by omega)]
    obtain ⟨z1, hz1⟩ : ∃ q, q = z + 2 := ⟨_, rfl⟩
    have e1 : E.ar .add .i64 z0 1 = z1 := by rw [hz1, hz0, inc' hE (by omega) (by omega)]; omega
    obtain ⟨z2, hz2⟩ : ∃ q, q = z + 3 := ⟨_, rfl⟩
    have e2 : E.ar .add .i64 z1 1 = z2 := by rw [hz2, hz1, inc' hE (by omega) (by omega)]; omega
    obtain ⟨z3, hz3⟩ : ∃ q, q = z + 4 := ⟨_, rfl⟩
    have e3 : E.ar .add .i64 z2 1 = z3 := by rw [hz3, hz2, inc' hE (by omega) (by omega)]; omega
    obtain ⟨z4, hz4⟩ : ∃ q, q = z + 5 := ⟨_, rfl⟩
    have e4 : E.ar .add .i64 z3 1 = z4 := by rw [hz4, hz3, inc' hE (by omega) (by omega)]; omega
    obtain ⟨a, k0, nm, ot, tx, nu, hA, hg, _⟩ := h.get h1
    rw [opMs_get h1, ← hz] at hg
    simp only [opM, Option.some.injEq, OpV.mk.injEq] at hg
    obtain ⟨q0, q1, q2, q3, q4⟩ := hg
    have hc : ∀ w2, Ext w w2 → ∀ j v, [Value.int .i64 k0, .string nm, .string ot, .string tx, .int .i64 nu][j]? = some v → w2.cell? ((a.add (i * 5)).add j) = some v := fun w2 hx2 => by
      obtain ⟨a', k0', nm', ot', tx', nu', hA', hg', hc'⟩ := (h.ext hx2).get h1
      rw [hA'] at hA
      rw [opMs_get h1, ← hz] at hg'
      simp only [opM, Option.some.injEq, OpV.mk.injEq] at hg' hA
      obtain ⟨r0, r1, r2, r3, r4⟩ := hg'
      rw [← q0, ← q1, ← q2, ← q3, ← q4, ← hA]
      rw [← r0, ← r1, ← r2, ← r3, ← r4] at hc'
      exact hc'
    have d0 : k0 = z := by rw [← q0]
    conv => cbv
    refine st_idx hE tOps hA (by omega) (by omega) fun q hq => ?_
    rw [show ii.toNat = i by omega] at hq
    conv => cbv
    refine st_fld hE fO0 fun p hp => ?_
    conv => cbv
    refine st_load hE cIntO (v := .int .i64 z) (by rw [hp, hq, ← d0]; exact hc _ hx _ _ rfl) ?_
    conv => cbv
    refine br (fun g => absurd g (ec _)) (fun _ => ?_)
    conv => cbv
    simp only [e0]
    have d1 : nm = mkText z0 := by rw [← q1, hz0]
    conv => cbv
    refine draw_x hr fol (by kernel_rfl) fun E' hE' hX => ?_
    conv => cbv
    refine st_idx hE' tOps hA (by omega) (by omega) fun q hq => ?_
    rw [show ii.toNat = i by omega] at hq
    conv => cbv
    refine st_fld hE' fO1 fun p hp => ?_
    conv => cbv
    refine st_load hE' cStr (v := .string nm) (by rw [hp, hq]; exact hc _ hx _ _ rfl) ?_
    conv => cbv
    refine st_vx hX (v := .string nm) (by rw [d1]; exact markText_v z0 _ (by omega)) ?_
    conv => cbv
    intro w2 hx2
    replace hx := hx.trans hx2
    have hne : ¬ E'.scmp .neq nm nm = true := by rw [hE'.scmp, scmp_neq]; simp
    clear hx2
    conv => cbv
    refine br (fun h2 => absurd h2 hne) (fun _ => ?_)
    clear hne hE' hX
    conv => cbv
    simp only [e1]
    have d2 : ot = mkText z1 := by rw [← q2, hz1]
    conv => cbv
    refine draw_x hr fol (by kernel_rfl) fun E' hE' hX => ?_
    conv => cbv
    refine st_idx hE' tOps hA (by omega) (by omega) fun q hq => ?_
    rw [show ii.toNat = i by omega] at hq
    conv => cbv
    refine st_fld hE' fO2 fun p hp => ?_
    conv => cbv
    refine st_load hE' cStr (v := .string ot) (by rw [hp, hq]; exact hc _ hx _ _ rfl) ?_
    conv => cbv
    refine st_vx hX (v := .string ot) (by rw [d2]; exact markText_v z1 _ (by omega)) ?_
    conv => cbv
    intro w2 hx2
    replace hx := hx.trans hx2
    have hne : ¬ E'.scmp .neq ot ot = true := by rw [hE'.scmp, scmp_neq]; simp
    clear hx2
    conv => cbv
    refine br (fun h2 => absurd h2 hne) (fun _ => ?_)
    clear hne hE' hX
    conv => cbv
    simp only [e2]
    have d3 : tx = mkText z2 := by rw [← q3, hz2]
    conv => cbv
    refine draw_x hr fol (by kernel_rfl) fun E' hE' hX => ?_
    conv => cbv
    refine st_idx hE' tOps hA (by omega) (by omega) fun q hq => ?_
    rw [show ii.toNat = i by omega] at hq
    conv => cbv
    refine st_fld hE' fO3 fun p hp => ?_
    conv => cbv
    refine st_load hE' cStr (v := .string tx) (by rw [hp, hq]; exact hc _ hx _ _ rfl) ?_
    conv => cbv
    refine st_vx hX (v := .string tx) (by rw [d3]; exact markText_v z2 _ (by omega)) ?_
    conv => cbv
    intro w2 hx2
    replace hx := hx.trans hx2
    have hne : ¬ E'.scmp .neq tx tx = true := by rw [hE'.scmp, scmp_neq]; simp
    clear hx2
    conv => cbv
    refine br (fun h2 => absurd h2 hne) (fun _ => ?_)
    clear hne hE' hX
    conv => cbv
    simp only [e3]
    have d4 : nu = z3 := by rw [← q4, hz3]
    conv => cbv
    refine st_idx hE tOps hA (by omega) (by omega) fun q hq => ?_
    rw [show ii.toNat = i by omega] at hq
    conv => cbv
    refine st_fld hE fO4 fun p hp => ?_
    conv => cbv
    refine st_load hE cI64a (v := .int .i64 z3) (by rw [hp, hq, ← d4]; exact hc _ hx _ _ rfl) ?_
    conv => cbv
    refine br (fun g => absurd g (ec _)) (fun _ => ?_)
    conv => cbv
    simp only [e4]
    conv => cbv
    simp only [ei]
    exact ⟨(i + 1, z4, ii'), by simp [Fits, lk], hI _ _ ⟨by simp only; omega, by simp only; omega, by simp only; omega, hx⟩, by simp only; omega⟩
  · have h1 : i = n := by
      have : ¬ ii < x := by simpa [hE.cmp, cmpR] using h1
      omega
    subst h1
    conv => cbv
    rw [hR]; exact ⟨hx, by rw [hz]; rfl⟩
end Go.Proofs.YtjaejonnbhdddaaDoor
