/- Texts that the law FnExactRun leans on, part 10 of 11: contracts of the functions that it reaches and plain lemmas. Each holds under the conditions that it states. -/
import Derived.Test.YtkedmcebngachaaGreatDoorMFnExactRun9
set_option maxHeartbeats 16000000
set_option linter.unusedVariables false
set_option linter.unusedSimpArgs false
namespace Go.Proofs.YtkedmcebngachaaGreatDoor
open Go.Eng
set_option linter.unusedVariables false
set_option linter.unusedSimpArgs false
theorem run_bLS2 (b : Bool) (A : Option Addr) (m c : Nat) (w : World) : (Instr.build 145 #[(0, .bool b), (2, .slice A m c)]).run Tryz.prog w = .ok (.agg #[.bool b, .slice none 0 0, .slice A m c]) w := by kernel_rfl
theorem st_bLS2 {E : Sym} {w : World} {K : Value → World → Prop} {d : Option Tmp} {ty : TypeId} {pos : String} {aft : Array Edge} {g : Option (Nat × Bool)} {bq : Bool} (hE : EngB bq Tryz.prog E) {b : Bool} {A : Option Addr} {m c : Nat} {x y : Operand} (hk : K (.agg ⟨[.bool b, .slice none 0 0, .slice A m c]⟩) w) : E.stop ⟨d, .build 145 ⟨[(0, x), (2, y)]⟩, ty, pos, aft, g⟩ [.bool b, .slice A m c] w K := by
 refine hE.det (v := .agg ⟨[.bool b, .slice none 0 0, .slice A m c]⟩) (fun w1 _ ρ hρ => ?_) hk
 simp only [opnds, b2_, b3_, b1_, and_true] at hρ
 have := run_bLS2 b A m c w1
 simp [execOp, hρ, this]
theorem run_bLS0 (w : World) : (Instr.build 145 #[]).run Tryz.prog w = .ok (.agg #[.bool false, .slice none 0 0, .slice none 0 0]) w := by kernel_rfl
theorem st_bLS0 {E : Sym} {w : World} {K : Value → World → Prop} {d : Option Tmp} {ty : TypeId} {pos : String} {aft : Array Edge} {g : Option (Nat × Bool)} {bq : Bool} (hE : EngB bq Tryz.prog E) (hk : K (.agg ⟨[.bool false, .slice none 0 0, .slice none 0 0]⟩) w) : E.stop ⟨d, .build 145 ⟨[]⟩, ty, pos, aft, g⟩ [] w K := by
 refine hE.det (v := .agg ⟨[.bool false, .slice none 0 0, .slice none 0 0]⟩) (fun w1 _ ρ hρ => ?_) hk
 have := run_bLS0 w1
 simp [execOp, this]
structure okSt (sl : Int) (s : St) : Prop where
 pos : ∀ x ∈ s.1, 0 < x
 nn : ∀ x ∈ s.2, 0 ≤ x
 hgt : s.1.length ≤ 100
 len : (s.2.length : Int) = sl
structure SS where
 kn : Bool
 A : Option Addr
 n : Nat
 c : Nat
 A2 : Option Addr
 n2 : Nat
 c2 : Nat
def sC (s : SS) : List Value := [.bool s.kn, .slice s.A s.n s.c, .slice s.A2 s.n2 s.c2]
theorem sC_len (s : SS) : (sC s).length = 3 := rfl
def s0 : SS := ⟨false, none, 0, 0, none, 0, 0⟩
structure RepS (B : Nat) (w : World) (A : Option Addr) (n c : Nat) (A2 : Option Addr) (n2 c2 : Nat) (st : St) : Prop where
 a : Own B 3 1 w A n c (st.1.map (.int .i64))
 b : Own B 3 1 w A2 n2 c2 (st.2.map (.int .i64))
theorem RepS.ext {B : Nat} {w w' : World} {A A2 : Option Addr} {n c n2 c2 : Nat} {st : St} (h : RepS B w A n c A2 n2 c2 st) (hx : Ext w w') : RepS B w' A n c A2 n2 c2 st := ⟨h.a.bel hx, h.b.bel hx⟩
theorem RepS.above {B : Nat} {w w' : World} {A A2 : Option Addr} {n c n2 c2 : Nat} {st : St} (h : RepS B w A n c A2 n2 c2 st) (hx : Above B w w') : RepS B w' A n c A2 n2 c2 st := ⟨h.a.above hx, h.b.above hx⟩
def Rep (B : Nat) (w : World) (sl : Int) (ss : List SS) (a : Nat) (f : Sts) : Prop :=
 ∀ k s, a ≤ k → ss[k]? = some s → (s.kn = false → f k = none) ∧ (s.kn = true → ∃ st, f k = some st ∧ okSt sl st ∧ RepS B w s.A s.n s.c s.A2 s.n2 s.c2 st)
theorem Rep.ext {B : Nat} {w w' : World} {sl : Int} {ss : List SS} {a : Nat} {f : Sts} (h : Rep B w sl ss a f) (hx : Ext w w') : Rep B w' sl ss a f := fun k s hk hs =>
 ⟨(h k s hk hs).1, fun e => by obtain ⟨st, h1, h2, h3⟩ := (h k s hk hs).2 e; exact ⟨st, h1, h2, h3.ext hx⟩⟩
theorem Rep.above {B : Nat} {w w' : World} {sl : Int} {ss : List SS} {a : Nat} {f : Sts} (h : Rep B w sl ss a f) (hx : Above B w w') : Rep B w' sl ss a f := fun k s hk hs =>
 ⟨(h k s hk hs).1, fun e => by obtain ⟨st, h1, h2, h3⟩ := (h k s hk hs).2 e; exact ⟨st, h1, h2, h3.above hx⟩⟩
theorem Rep.set {B : Nat} {w : World} {sl : Int} {ss : List SS} {a k : Nat} {f : Sts} (h : Rep B w sl ss a f) {s : SS} {t : St} (hs : s.kn = true) (hok : okSt sl t) (hr : RepS B w s.A s.n s.c s.A2 s.n2 s.c2 t) : Rep B w sl (ss.set k s) a (fun j => if j = k then some t else f j) := by
 intro j s' hj hs'
 rw [List.getElem?_set] at hs'
 by_cases e : k = j
 ·subst e
  rw [if_pos rfl] at hs'
  split at hs'
  ·cases hs'
   exact ⟨fun q => (by rw [hs] at q; cases q), fun _ => ⟨t, if_pos rfl, hok, hr⟩⟩
  ·cases hs'
 ·rw [if_neg e] at hs'
  obtain ⟨h1, h2⟩ := h j s' hj hs'
  refine ⟨fun q => by simp only; rw [if_neg (Ne.symm e)]; exact h1 q, fun q => ?_⟩
  obtain ⟨st, h3, h4⟩ := h2 q
  exact ⟨st, by simp only; rw [if_neg (Ne.symm e)]; exact h3, h4⟩
theorem Rep.step {B : Nat} {w : World} {sl : Int} {ss : List SS} {a : Nat} {f : Sts} (h : Rep B w sl ss a f) (s : SS) : Rep B w sl (ss.set a s) (a + 1) f := by
 intro j s' hj hs'
 rw [List.getElem?_set] at hs'
 rw [if_neg (by omega)] at hs'
 exact h j s' (by omega) hs'
theorem know_at {f : Sts} {k : Nat} {t : St} (h : f k = some t) : (fun j => if j = k then some t else f j) = f := by
 funext j
 by_cases e : j = k
 ·subst e; rw [if_pos rfl, h]
 ·rw [if_neg e]
theorem step_ok {pv : List PV} {sl : Int} {ni a : Nat} {o g : Int} {s : St} (hk : ∀ p ∈ pv, 0 < p.k) (hs : okSt sl s) (h : (stepF pv sl ni a o g s).1 = 0) : okSt sl (stepF pv sl ni a o g s).2 := by
 unfold stepF at h ⊢
 split
 ·exact hs
 split
 ·exact hs
 split
 ·exact hs
 split
 ·exact hs
 split
 ·exact hs
 rename_i h1 h2 h3 h4 h5
 have hp := push_nn (o := o) (g := g) hk hs.nn
 refine ⟨fun x hx => ?_, fun x hx => ?_, by simp only; omega, ?_⟩
 ·simp only [nextS, List.mem_append] at hx
  rcases hx with hx | hx
  ·exact hs.pos x (List.mem_of_mem_take hx)
  ·split at hx
   ·simp at hx
   ·simp at hx; subst hx; omega
 ·simp only [nextS] at hx
  split at hx
  ·rcases List.mem_or_eq_of_mem_set hx with hx | hx
   ·exact hs.nn x hx
   ·subst hx
    cases hq : s.1[s.1.length - (wantF o).length]? with
    | none => simp
    | some y => have := hs.pos y (m1_ hq); simp; omega
  ·exact hs.nn x hx
 ·simp only [nextS]
  split
  ·rw [List.length_set]; exact hs.len
  ·exact hs.len
theorem step_rng {pv : List PV} {sl : Int} {ni a : Nat} {o g : Int} {s : St} (h : (stepF pv sl ni a o g s).1 = 0) : rangeF pv.length sl ni a o g := by
 unfold stepF at h
 split at h
 ·simp at h
 ·rename_i h1; simpa using h1
theorem nexts_in {np ni a : Nat} {sl o g : Int} (h : rangeF np sl ni a o g) (h1 : 1 ≤ o) (h2 : o ≤ 25) (ha : a < ni) : (∀ k ∈ nexts a o g, (a : Int) < k) ∧ ((∀ k ∈ nexts a o g, k < ni) ↔ ¬ (goesF o ∧ a + 1 = ni)) := by
 obtain ⟨_, _, _, r4⟩ := h
 unfold nexts goesF
 split
 ·rename_i e; refine ⟨by simp, by simp; omega⟩
 split
 ·rename_i e; have := r4 (.inl e); simp; omega
 split
 ·rename_i e; have := r4 (.inr e); simp; omega
 ·rename_i e1 e2 e3; simp; omega
theorem start_rep {B : Nat} {w : World} {sl : Int} {n : Nat} {A : Option Addr} {m c : Nat} (h0 : 0 ≤ sl) (hb : Own B 3 1 w A m c ((List.replicate sl.toNat (0 : Int)).map (.int .i64))) : Rep B w sl ((List.replicate n s0).set 0 ⟨true, none, 0, 0, A, m, c⟩) 0 (start sl) := by
 intro k s _ hs
 rw [List.getElem?_set] at hs
 by_cases e : 0 = k
 ·subst e
  rw [if_pos rfl] at hs
  split at hs
  ·cases hs
   exact ⟨fun q => (by cases q), fun _ => ⟨_, rfl, ⟨by simp, by simp, by simp, by simp; omega⟩, ⟨Own.nil, hb⟩⟩⟩
  ·cases hs
 ·rw [if_neg e] at hs
  have : s = s0 := by
   have := m1_ hs
   exact (List.mem_replicate.1 this).2
  subst this
  exact ⟨fun _ => by unfold start; rw [if_neg (Ne.symm e)], fun q => by cases q⟩
theorem shape_k {pv : List PV} {sl : Int} {is : List (Int × Int)} (h : shapeP pv sl is) : ∀ p ∈ pv, 0 < p.k := by
 intro p hp
 rcases h.2.2.2.2.1 p hp with h | h | h | h <;> omega
theorem specVerify_f {w : World} {A A2 : Option Addr} {n c n2 c2 : Nat} {sl : Int} {pv : List PV} {is : List (Int × Int)} (h : CodeR w A n A2 n2 pv is) (hn : n ≤ 9223372036854775807) (hn2 : n2 ≤ 9223372036854775807) :
  FC Tryz.prog 37 [codeV A n c sl A2 n2 c2] w fun v _ => v = .tuple ⟨[.int .i64 (verF pv sl is).1, .int .i64 (verF pv sl is).2]⟩ := by
 refine FC.intro (cs := []) Tryz.func37 (by kernel_rfl) fun E R hE hr hR => ?_
 have hpl := h.pool.len
 have hil := h.ins.len
 conv => cbv
 refine st_box hr fun a0 w1 hx hb0 => ?_
 have hb := hb0 _ (n1_ _)
 clear hb0
 conv => cbv
 refine st_loadS hE tIC rfl hb.at ?_
 conv => cbv
 refine st_f hr (l5shape_f (c := c) (c2 := c2) (sl := sl) (h.ext hx) hn hn2) fun v w2 hx2 ⟨b, ev, hsh⟩ => ?_
 subst ev
 replace hb := hb.bel hx2
 replace hx := hx.trans hx2
 clear hx2
 cases b with
 | false =>
  have hsh : ¬ shapeP pv sl is := fun q => absurd (hsh.2 q) (by simp)
  conv => cbv
  rw [hR]; exact ⟨hx, by unfold verF; rw [if_pos hsh]; rfl⟩
 | true =>
 have hsh := hsh.1 rfl
 have hpk := shape_k hsh
 obtain ⟨q1, q2, q3, q4, q5, q6⟩ := id hsh
 conv => cbv
 (refine st_fld hE fIC2 fun p hp => ?_; (conv => cbv); refine st_load hE cIIs (by rw [hp]; exact (hb).at _ _ rfl) ?_; clear hp; (conv => cbv))
 refine st_len hE sII fun x1 hx1 => ?_
 conv => cbv
 refine br (fun g => ?_) (fun g => ?_)
 ·have g : x1 = 0 := by simpa [hE.cmp, cmpR] using g
  conv => cbv
  rw [hR]; exact ⟨hx, by unfold verF; rw [if_neg (fun q => q hsh), if_pos (List.eq_nil_of_length_eq_zero (by omega))]; rfl⟩
 have g : x1 ≠ 0 := by simpa [hE.cmp, cmpR] using g
 have hne : is ≠ [] := fun q => by rw [q] at hil; simp at hil; omega
 obtain ⟨V, hV0⟩ : ∃ V, V = verL pv sl is.length is 0 (start sl) 0 := ⟨_, rfl⟩
 have hVe : verF pv sl is = V := by unfold verF; rw [if_neg (fun q => q hsh), if_neg hne, hV0]
 rw [hVe] at hR
 conv => cbv
 (refine st_fld hE fIC2 fun p hp => ?_; (conv => cbv); refine st_load hE cIIs (by rw [hp]; exact (hb).at _ _ rfl) ?_; clear hp; (conv => cbv))
 refine st_len hE sII fun x2 hx2 => ?_
 conv => cbv
 refine st_makeK hr sLS rfl (m := n2) (by omega) (by omega) (by omega) fun A1 w3 hx3 h10 => ?_
 have h1 := h10 _ hx.size
 rw [show (Value.agg ⟨zLS⟩).cells = ⟨sC s0⟩ from rfl, made_fl (f := sC) s0 n2 3 rfl (by omega)] at h1
 obtain ⟨gb, rfl, _⟩ := h1.addr (by omega)
 obtain ⟨B1, hB1⟩ : ∃ B1, B1 = w3.heap.size := ⟨_, rfl⟩
 have abv : ∀ {wa wb : World}, Wr (some ⟨gb, 0, none⟩) wa wb → Above B1 wa wb := fun hw => hw.above h1 (Nat.le_of_eq hB1.symm)
 have apb := (hb.apart (h10 _ (n1_ _)) (n1_ _))
 replace hb := hb.bel hx3
 replace hx := hx.trans hx3
 clear h10 hx3
 conv => cbv
 (refine st_fld hE fIC1 fun p hp => ?_; (conv => cbv); refine st_load hE cInt (by rw [hp]; exact (hb).at _ _ rfl) ?_; clear hp; (conv => cbv))
 obtain ⟨sn, hsn⟩ : ∃ sn : Nat, sl = sn := ⟨sl.toNat, by omega⟩
 refine st_make hr tInts rfl (m := sn) hsn (by omega) (by omega) fun A3 w4 hx4 h30 => ?_
 have h3 := h30 B1 (by omega)
 replace hb := hb.bel hx4
 replace h1 := h1.bel hx4
 replace hx := hx.trans hx4
 have hB4 : B1 ≤ w4.heap.size := by have := hx4.size; omega
 clear h30 hx4
 conv => cbv
 refine st_bLS2 hE ?_
 conv => cbv
 refine st_idx hE sLS rfl (by omega) (by omega) fun p hp => ?_
 conv => cbv
 obtain ⟨y, hy⟩ : ∃ y : SS, y = ⟨true, none, 0, 0, A3, sn, sn⟩ := ⟨_, rfl⟩
 refine st_putS hr (vs := [.bool true, .slice none 0 0, .slice A3 sn sn]) (by kernel_rfl) h1 (j := 0 * 3) hp (by rw [fl_len sC_len]; simp; omega) (by simp [Value.oneCell']) fun w5 hw5 h12 => ?_
 rw [show [Value.bool true, .slice none 0 0, .slice A3 sn sn] = sC y by rw [hy]; rfl, fl_put sC_len _ 0 y (by simp; omega)] at h12
 have hrep : Rep B1 w5 sl ((List.replicate n2 s0).set 0 y) 0 (start sl) := by
  rw [hy]
  refine start_rep (by omega) ?_
  have := h3.above (abv hw5)
  rw [show sl.toNat = sn by omega, List.map_replicate]; exact this
 replace hx := hx.then (hw5.bel h1 hx.size)
 replace hb := hb.wr hw5 apb.1
 have hB5 : B1 ≤ w5.heap.size := by have := hw5.size; omega
 clear h1 hw5 h3 hp
 conv => cbv
 (refine st_fld hE fIC2 fun p hp => ?_; (conv => cbv); refine st_load hE cIIs (by rw [hp]; exact (hb).at _ _ rfl) ?_; clear hp; (conv => cbv))
 refine st_len hE sII fun x3 hx3 => ?_
 conv => cbv
 refine loop_rule hr (fun (s : Nat × Int × List SS × Sts × Int) w' => s.1 ≤ n2 ∧ s.2.1 = (s.1 : Int) ∧ s.2.2.1.length = n2 ∧ Ext w w' ∧ Box w.heap.size 39 3 w' a0 [.slice A n c, .int .i64 sl, .slice A2 n2 c2] ∧
   Own w.heap.size 145 3 w' (some ⟨gb, 0, none⟩) n2 n2 (s.2.2.1.flatMap sC) ∧ B1 ≤ w'.heap.size ∧ Rep B1 w' sl s.2.2.1 s.1 s.2.2.2.1 ∧ verL pv sl is.length (is.drop s.1) s.1 s.2.2.2.1 s.2.2.2.2 = V)
  (fun s => [(1, .pointer (some a0)), (4, .slice (some ⟨gb, 0, none⟩) n2 n2), (5, .int .i64 s.2.2.2.2), (36, .int .i64 x3), (37, .int .i64 s.2.1)]) (fun s => n2 - s.1) (0, 0, (List.replicate n2 s0).set 0 y, start sl, 0)
  (by simp [Fits, lk]) ⟨by simp, by simp, by simp, hx, hb, h12, hB5, hrep, by simpa using hV0.symm⟩ ?_
 clear hb h12 hx hrep hB5 hB4 hV0 hy y
 rintro I hI ⟨i, ii, ss, f, m⟩ w' ⟨hi, hii, hsl, hx, hb, ho, hB, hrep, hV⟩
 simp only at hi hii hsl hb ho hrep hV
 obtain ⟨ij, hij⟩ : ∃ z, z = ii + 1 := ⟨_, rfl⟩
 conv => cbv
 refine br (fun g2 => ?_) (fun g2 => ?_)
 ·have g2 : i < n2 := by
   have : ii < x3 := by simpa [hE.cmp, cmpR] using g2
   omega
  have ei : E.ar .add .i64 ii 1 = ij := by rw [hE.ar, hij]; exact wrap_in (by omega) (by omega)
  obtain ⟨⟨kn, A3, n3, c3, A4, n4, c4⟩, hgi⟩ : ∃ s, ss[i]? = some s := ⟨_, g2_ (by omega)⟩
  obtain ⟨⟨o, gg⟩, hio⟩ : ∃ x, is[i]? = some x := ⟨_, g2_ (by omega)⟩
  obtain ⟨o1, o2, g0, _⟩ := q6 _ (m1_ hio)
  simp only at o1 o2 g0
  have hdr : is.drop i = (o, gg) :: is.drop (i + 1) := by
   obtain ⟨z1, z2⟩ := List.getElem?_eq_some_iff.1 hio
   rw [List.drop_eq_getElem_cons z1, z2]
  rw [hdr] at hV
  obtain ⟨r1, r2⟩ := hrep i _ (n1_ _) hgi
  simp only at r1 r2
  conv => cbv
  refine st_idx hE sLS rfl (by omega) (by omega) fun p hp => ?_
  rw [show ii.toNat = i by omega] at hp
  conv => cbv
  obtain ⟨_, e0, hcs⟩ := fl_at sC_len ho.cells (by omega) hgi
  cases e0
  refine st_loadS hE tLS (vs := [.bool kn, .slice A3 n3 c3, .slice A4 n4 c4]) rfl (by rw [hp]; exact hcs) ?_
  conv => cbv
  refine st_alloc hr tLS rfl fun a7 w7 hx7 h70 => ?_
  have h7 := h70 B1 hB
  conv => cbv
  refine st_putS hr (by kernel_rfl) h7 (add_zero _).symm (by simp) (by simp [Value.oneCell']) fun w8 hw8 h72 => ?_
  simp only [a1_, a2_, a3_, a4_, a5_, a6_, a7_] at h72
  have hx8 : Ext w' w8 := hx7.then (hw8.bel (h70 _ (n1_ _)) (hx7.size))
  have ap7 : ∀ {w9 : World}, w8.heap.size ≤ w9.heap.size → True := fun _ => trivial
  replace hb := hb.bel hx8
  replace ho := ho.bel hx8
  replace hx := hx.trans hx8
  replace hrep := hrep.ext hx8
  have hap7 := ho.apart h72
  clear h70 h7 hw8 hx7 hcs hp ap7
  have hB8 : B1 ≤ w8.heap.size := by have := hx8.size; omega
  conv => cbv
  (refine st_fld hE fLS0 fun p hp => ?_; (conv => cbv); refine st_load hE cBool (by rw [hp]; exact (h72).at _ _ rfl) ?_; clear hp; (conv => cbv))
  cases kn with
  | false =>
   rw [verL, r1 rfl] at hV
   conv => cbv
   rw [hR]; exact ⟨hx, by rw [← hV]; rfl⟩
  | true =>
  obtain ⟨st, hf, hok, hrs⟩ := r2 rfl
  replace hrs := hrs.ext hx8
  rw [verL, hf] at hV
  simp only at hV
  have hl3 := hrs.a.len
  have hl4 := hrs.b.len
  rw [List.length_map, Nat.mul_one] at hl3 hl4
  have hh := hok.hgt
  have hsl4 := hok.len
  conv => cbv
  refine st_loadS hE tIC rfl hb.at ?_
  conv => cbv
  refine st_loadS hE tLS rfl h72.at ?_
  conv => cbv
  obtain ⟨st1, st2⟩ := st
  simp only at hl3 hl4 hh hsl4
  refine st_f hr (l5step_f (sl := sl) (c := c) (c2 := c2) (kn := true) (h.ext hx) hn hn2 hii g2 hio o1 o2 g0 hrs.a.ints hrs.b.ints (by omega) hok.pos hok.nn hpk (by omega) (by omega)) fun v w9 hx9 ⟨kn', A5, n5, c5, A6, n6, c6, cd, ev, hcd, hok2⟩ => ?_
  subst ev
  replace h72 := h72.bel hx9
  replace hb := hb.bel hx9
  replace ho := ho.bel hx9
  replace hx := hx.trans hx9
  replace hrep := hrep.ext hx9
  have hB9 : B1 ≤ w9.heap.size := by have := hx9.size; omega
  rw [hil] at hV
  rw [← hcd] at hV
  obtain ⟨t, ht⟩ : ∃ t, t = (stepF pv sl n2 i o gg (st1, st2)).2 := ⟨_, rfl⟩
  rw [← ht] at hV hok2
  conv => cbv
  refine st_alloc hr tLS rfl fun a8 w10 hx10 h80 => ?_
  have h8 := h80 B1 hB9
  conv => cbv
  refine st_putS hr (by kernel_rfl) h8 (add_zero _).symm (by simp) (by simp [Value.oneCell']) fun w11 hw11 h82 => ?_
  simp only [a1_, a2_, a3_, a4_, a5_, a6_, a7_] at h82
  have hx11 : Ext w9 w11 := hx10.then (hw11.bel (h80 _ (n1_ _)) (hx10.size))
  replace h72 := h72.bel hx11
  replace hb := hb.bel hx11
  replace ho := ho.bel hx11
  replace hx := hx.trans hx11
  replace hrep := hrep.ext hx11
  clear h80 h8 hw11 hx10
  have hB11 : B1 ≤ w11.heap.size := by have := hx11.size; omega
  conv => cbv
  refine br (fun g3 => ?_) (fun g3 => ?_)
  ·have g3 : cd ≠ 0 := by simpa [hE.cmp, cmpR] using g3
   rw [if_pos g3] at hV
   conv => cbv
   rw [hR]; exact ⟨hx, by rw [← hV]; rfl⟩
  have g3 : cd = 0 := by simpa [hE.cmp, cmpR] using g3
  rw [if_neg (by simp [g3])] at hV
  obtain ⟨hkn, o5, o6⟩ := hok2 g3
  subst hkn
  replace o5 := (o5.mono (by omega : B1 ≤ w8.heap.size)).bel hx11
  replace o6 := (o6.mono (by omega : B1 ≤ w8.heap.size)).bel hx11
  have htk : okSt sl t := by rw [ht]; exact step_ok hpk hok (by rw [← hcd]; exact g3)
  have hrg := step_rng (by rw [← hcd]; exact g3)
  have hl5 := o5.len
  rw [List.length_map, Nat.mul_one] at hl5
  conv => cbv
  (refine st_fld hE fLS1 fun p hp => ?_; (conv => cbv); refine st_load hE cInts (by rw [hp]; exact (h72).at _ _ rfl) ?_; clear hp; (conv => cbv))
  refine st_len hE tInts fun x5 hx5 => ?_
  conv => cbv
  (refine st_fld hE fLS1 fun p hp => ?_; (conv => cbv); refine st_load hE cInts (by rw [hp]; exact (h82).at _ _ rfl) ?_; clear hp; (conv => cbv))
  refine st_len hE tInts fun x6 hx6 => ?_
  conv => cbv
  refine st_lits hr tInts rfl (vs := [.int .i64 x5, .int .i64 x6]) (m := 2) rfl (by omega) (by omega) rfl (by simp [Value.cells]) fun A9 w12 hx12 ho9 => ?_
  have o9 := Own.ints (zs := [x5, x6]) (ho9 _ (n1_ _))
  replace h72 := h72.bel hx12
  replace h82 := h82.bel hx12
  replace hb := hb.bel hx12
  replace ho := ho.bel hx12
  replace hx := hx.trans hx12
  replace hrep := hrep.ext hx12
  replace o5 := o5.bel hx12
  replace o6 := o6.bel hx12
  have hB12 : B1 ≤ w12.heap.size := by have := hx12.size; omega
  conv => cbv
  refine st_len hE tInts fun x7 hx7 => ?_
  conv => cbv
  obtain ⟨m2, hm2⟩ : ∃ z, z = max (max m x5) x6 := ⟨_, rfl⟩
  have hm2' : max (max m (st1.length : Int)) (t.1.length : Int) = m2 := by rw [hm2, show (st1.length : Int) = x5 by omega, show (t.1.length : Int) = x6 by omega]
  rw [hm2'] at hV
  refine loop_rule hr (fun (s : Nat × Int × Int) w' => s.1 ≤ 2 ∧ s.2.1 = (s.1 : Int) ∧ w' = w12 ∧ max (max s.2.2 (if s.1 = 0 then x5 else s.2.2)) (if s.1 ≤ 1 then x6 else s.2.2) = m2)
   (fun s => [(1, .pointer (some a0)), (4, .slice (some ⟨gb, 0, none⟩) n2 n2), (5, .int .i64 s.2.2), (6, .int .i64 ii), (7, .pointer (some a7)), (8, .pointer (some a8)), (36, .int .i64 x3), (37, .int .i64 ii), (63, .slice A9 2 2), (64, .int .i64 x7), (65, .int .i64 s.2.1)]) (fun s => 2 - s.1) (0, 0, m)
   (by simp [Fits, lk]) ⟨by simp, by simp, rfl, by simp [hm2]⟩ ?_
  rintro I2 hI2 ⟨j, jj, mm⟩ wz ⟨hj, hjj, hwz, hmm⟩
  simp only at hj hjj hwz hmm
  subst hwz
  obtain ⟨jk, hjk⟩ : ∃ z, z = jj + 1 := ⟨_, rfl⟩
  have ej : j < 2 → E.ar .add .i64 jj 1 = jk := fun _ => by rw [hE.ar, hjk]; exact wrap_in (by omega) (by omega)
  conv => cbv
  refine br (fun g4 => ?_) (fun g4 => ?_)
  ·have g4 : j < 2 := by
    have : jj < x7 := by simpa [hE.cmp, cmpR] using g4
    omega
   conv => cbv
   refine st_int hE tInts o9 (k := j) (by omega) g4 fun p u hu hp => ?_
   conv => cbv
   refine st_load hE cInt hp ?_
   conv => cbv
   have hu2 : u = if j = 0 then x5 else x6 := by
    have : j = 0 ∨ j = 1 := by omega
    rcases this with rfl | rfl <;> simp at hu <;> simp [hu]
   refine br (fun g5 => ?_) (fun g5 => ?_)
   ·have g5 : mm < u := by simpa [hE.cmp, cmpR] using g5
    conv => cbv
    simp only [ej g4]
    refine ⟨(j + 1, jk, u), by simp [Fits, lk], hI2 _ _ ⟨by simp only; omega, by simp only; omega, rfl, ?_⟩, by simp only; omega⟩
    simp only
    have : j = 0 ∨ j = 1 := by omega
    rcases this with rfl | rfl <;> simp at hmm hu2 ⊢ <;> omega
   ·have g5 : ¬ mm < u := by simpa [hE.cmp, cmpR] using g5
    conv => cbv
    simp only [ej g4]
    refine ⟨(j + 1, jk, mm), by simp [Fits, lk], hI2 _ _ ⟨by simp only; omega, by simp only; omega, rfl, ?_⟩, by simp only; omega⟩
    simp only
    have : j = 0 ∨ j = 1 := by omega
    rcases this with rfl | rfl <;> simp at hmm hu2 ⊢ <;> omega
  have g4 : j = 2 := by
   have : ¬ jj < x7 := by simpa [hE.cmp, cmpR] using g4
   omega
  subst g4
  have hmm : mm = m2 := by simp at hmm; omega
  subst hmm
  conv => cbv
  clear hI2 I2 hm2' ej hjk jk
  refine st_bLS0 hE ?_
  conv => cbv
  refine st_idx hE sLS rfl (by omega) (by omega) fun p hp => ?_
  rw [show ii.toNat = i by omega] at hp
  conv => cbv
  refine st_putS hr (vs := [.bool false, .slice none 0 0, .slice none 0 0]) (by kernel_rfl) ho (j := i * 3) hp (by rw [fl_len sC_len]; simp; omega) (by simp [Value.oneCell']) fun w13 hw13 ho13 => ?_
  rw [show [Value.bool false, .slice none 0 0, .slice none 0 0] = sC s0 from rfl, fl_put sC_len _ i s0 (by omega)] at ho13
  replace hrep := (hrep.above (abv hw13)).step s0
  replace o5 := o5.above (abv hw13)
  replace o6 := o6.above (abv hw13)
  replace h72 := h72.above (abv hw13)
  replace h82 := h82.above (abv hw13)
  replace hx := hx.then (hw13.bel ho hx.size)
  replace hb := hb.wr hw13 apb.1
  have hB13 : B1 ≤ w13.heap.size := by have := hw13.size; omega
  replace ho := ho13
  clear hw13 ho13 hp
  conv => cbv
  refine st_loadS hE tIC rfl hb.at ?_
  conv => cbv
  refine st_f hr (l5next_f (c := c) (c2 := c2) (sl := sl) (h.ext hx) hn hn2 hii g2 hio g0 (by omega)) fun v w14 hx14 ⟨A10, n10, c10, ev, hnx⟩ => ?_
  subst ev
  replace h82 := h82.bel hx14
  replace hb := hb.bel hx14
  replace ho := ho.bel hx14
  replace hx := hx.trans hx14
  replace hrep := hrep.ext hx14
  replace o5 := o5.bel hx14
  replace o6 := o6.bel hx14
  have hB14 : B1 ≤ w14.heap.size := by have := hx14.size; omega
  obtain ⟨hn1, hn2'⟩ := nexts_in hrg o1 o2 g2
  obtain ⟨nx, hnx0⟩ : ∃ nx, nx = nexts i o gg := ⟨_, rfl⟩
  rw [← hnx0] at hnx hn1 hn2' hV
  have hnl := hnx.len
  rw [List.length_map, Nat.mul_one] at hnl
  have hnle := hnx.le
  replace hnx := hnx.mono (by have := hB13; omega : B1 ≤ w13.heap.size)
  have hnlb : nx.length ≤ 2 := by rw [hnx0]; unfold nexts; (repeat' split) <;> simp
  conv => cbv
  refine st_len hE tInts fun x8 hx8 => ?_
  conv => cbv
  refine loop_rule hr (fun (s : Nat × Int) wz => s.1 ≤ n10 ∧ s.2 = (s.1 : Int) ∧ wz = w14 ∧ ∀ k ∈ nx.take s.1, k < (n2 : Int))
   (fun s => [(1, .pointer (some a0)), (4, .slice (some ⟨gb, 0, none⟩) n2 n2), (5, .int .i64 mm), (8, .pointer (some a8)), (12, .slice A10 n10 c10), (36, .int .i64 x3), (37, .int .i64 ii), (81, .slice A10 n10 c10), (82, .int .i64 x8), (83, .int .i64 s.2)]) (fun s => n10 - s.1) (0, 0)
   (by simp [Fits, lk]) ⟨by simp, by simp, rfl, by simp⟩ ?_
  rintro I2 hI2 ⟨j, jj⟩ wz ⟨hj, hjj, hwz, hall⟩
  simp only at hj hjj hwz hall
  subst hwz
  obtain ⟨jk, hjk⟩ : ∃ z, z = jj + 1 := ⟨_, rfl⟩
  conv => cbv
  refine br (fun g4 => ?_) (fun g4 => ?_)
  ·have g4 : j < n10 := by
    have : jj < x8 := by simpa [hE.cmp, cmpR] using g4
    omega
   have ej : E.ar .add .i64 jj 1 = jk := by rw [hE.ar, hjk]; exact wrap_in (by omega) (by omega)
   conv => cbv
   refine st_int hE tInts hnx.ints (k := j) (by omega) g4 fun p u hu hp => ?_
   conv => cbv
   refine st_load hE cInt hp ?_
   conv => cbv
   (refine st_fld hE fIC2 fun p hp => ?_; (conv => cbv); refine st_load hE cIIs (by rw [hp]; exact (hb).at _ _ rfl) ?_; clear hp; (conv => cbv))
   refine st_len hE sII fun x9 hx9 => ?_
   conv => cbv
   refine br (fun g5 => ?_) (fun g5 => ?_)
   ·have g5 : x9 ≤ u := by simpa [hE.cmp, cmpR] using g5
    have hgo : goesF o ∧ i + 1 = n2 := by
     refine Classical.byContradiction fun q => ?_
     have := hn2'.2 q u (m1_ hu)
     omega
    rw [if_pos hgo] at hV
    conv => cbv
    rw [hR]; exact ⟨hx, by rw [← hV]; rfl⟩
   ·have g5 : u < x9 := by simpa [hE.cmp, cmpR] using g5
    conv => cbv
    simp only [ej]
    refine ⟨(j + 1, jk), by simp [Fits, lk], hI2 _ _ ⟨by simp only; omega, by simp only; omega, rfl, fun k hk => ?_⟩, by simp only; omega⟩
    simp only at hk
    rw [g4_, hu] at hk
    rcases List.mem_append.1 hk with hk | hk
    ·exact hall k hk
    ·simp at hk; omega
  have g4 : j = n10 := by
   have : ¬ jj < x8 := by simpa [hE.cmp, cmpR] using g4
   omega
  rw [g3_ (by omega)] at hall
  rw [if_neg (hn2'.1 hall)] at hV
  conv => cbv
  clear hI2 I2 hjk jk g4 hj hjj
  refine st_len hE tInts fun x10 hx10 => ?_
  conv => cbv
  obtain ⟨M, hM0⟩ : ∃ M, M = merge t nx f := ⟨_, rfl⟩
  rw [← hM0] at hV
  refine loop_rule hr (fun (s : Nat × Int × List SS × Sts) wz => s.1 ≤ n10 ∧ s.2.1 = (s.1 : Int) ∧ s.2.2.1.length = n2 ∧ Ext w wz ∧ Box w.heap.size 39 3 wz a0 [.slice A n c, .int .i64 sl, .slice A2 n2 c2] ∧
    Own w.heap.size 145 3 wz (some ⟨gb, 0, none⟩) n2 n2 (s.2.2.1.flatMap sC) ∧ B1 ≤ wz.heap.size ∧ Rep B1 wz sl s.2.2.1 (i + 1) s.2.2.2 ∧ Box B1 145 3 wz a8 [.bool true, .slice A5 n5 c5, .slice A6 n6 c6] ∧ RepS B1 wz A5 n5 c5 A6 n6 c6 t ∧ Own B1 3 1 wz A10 n10 c10 (nx.map (.int .i64)) ∧ merge t (nx.drop s.1) s.2.2.2 = M)
   (fun s => [(1, .pointer (some a0)), (4, .slice (some ⟨gb, 0, none⟩) n2 n2), (5, .int .i64 mm), (8, .pointer (some a8)), (36, .int .i64 x3), (37, .int .i64 ii), (93, .slice A10 n10 c10), (94, .int .i64 x10), (95, .int .i64 s.2.1)]) (fun s => n10 - s.1) (0, 0, ss.set i s0, f)
   (by simp [Fits, lk]) ⟨by simp, by simp, by simpa using hsl, hx, hb, ho, hB14, hrep, h82, ⟨o5, o6⟩, hnx, by simpa using hM0.symm⟩ ?_
  clear hb ho hrep h82 o5 o6 hnx hx hM0
  rintro I2 hI2 ⟨j, jj, ss2, f2⟩ wz ⟨hj, hjj, hsl2, hx, hb, ho, hBz, hrep, h82, hrt, hnx, hM⟩
  simp only at hj hjj hsl2 hb ho hrep hM
  obtain ⟨jk, hjk⟩ : ∃ z, z = jj + 1 := ⟨_, rfl⟩
  conv => cbv
  refine br (fun g4 => ?_) (fun g4 => ?_)
  ·have g4 : j < n10 := by
    have : jj < x10 := by simpa [hE.cmp, cmpR] using g4
    omega
   have ej : E.ar .add .i64 jj 1 = jk := by rw [hE.ar, hjk]; exact wrap_in (by omega) (by omega)
   conv => cbv
   refine st_int hE tInts hnx.ints (k := j) (by omega) g4 fun p u hu hp => ?_
   conv => cbv
   refine st_load hE cInt hp ?_
   clear hp
   have hu1 := hn1 u (m1_ hu)
   have hu2 := hall u (m1_ hu)
   obtain ⟨ku, hku⟩ : ∃ ku : Nat, u = ku := ⟨u.toNat, by omega⟩
   have hdn : nx.drop j = u :: nx.drop (j + 1) := by
    obtain ⟨z1, z2⟩ := List.getElem?_eq_some_iff.1 hu
    rw [List.drop_eq_getElem_cons z1, z2]
   rw [hdn, merge, show u.toNat = ku by omega] at hM
   obtain ⟨⟨kn2, A11, n11, c11, A12, n12, c12⟩, hgk⟩ : ∃ s, ss2[ku]? = some s := ⟨_, g2_ (by omega)⟩
   obtain ⟨r1, r2⟩ := hrep ku _ (by omega) hgk
   simp only at r1 r2
   obtain ⟨_, e0, hcs⟩ := fl_at sC_len ho.cells (by omega) hgk
   cases e0
   have fin : ∀ f3, know f2 ku t = some f3 → (fun j => if j = ku then some t else f2 j) = f3 → ∀ wy, Same wz wy → ∀ F : Fr, lk F 1 = some (.pointer (some a0)) → True := fun _ _ _ _ _ _ _ => trivial
   clear fin
   conv => cbv
   refine draw_q hr fol (by kernel_rfl) fun E' hE' => ?_
   conv => cbv
   refine st_idx hE' sLS rfl (by omega) (by omega) fun p hp => ?_
   rw [show u.toNat = ku by omega] at hp
   conv => cbv
   refine st_fld hE' fLS0 fun p2 hp2 => ?_
   conv => cbv
   refine st_load hE' cBool (v := .bool kn2) (by rw [hp2, hp]; exact hcs 0 _ rfl) ?_
   clear hp hp2
   conv => cbv
   cases kn2 with
   | false =>
    have hfn := r1 rfl
    rw [know, hfn] at hM
    simp only at hM
    conv => cbv
    intro wy hsy
    replace hb := hb.bel hsy.ext
    replace ho := ho.bel hsy.ext
    replace hx := hx.trans hsy.ext
    replace hrep := hrep.ext hsy.ext
    replace h82 := h82.bel hsy.ext
    replace hrt := hrt.ext hsy.ext
    replace hnx := hnx.bel hsy.ext
    have hBy : B1 ≤ wy.heap.size := by have := hsy.ext.size; omega
    clear hsy
    conv => cbv
    refine st_loadS hE tLS rfl h82.at ?_
    conv => cbv
    refine st_idx hE sLS rfl (by omega) (by omega) fun p hp => ?_
    rw [show u.toNat = ku by omega] at hp
    conv => cbv
    obtain ⟨y, hy⟩ : ∃ y : SS, y = ⟨true, A5, n5, c5, A6, n6, c6⟩ := ⟨_, rfl⟩
    refine st_putS hr (vs := [.bool true, .slice A5 n5 c5, .slice A6 n6 c6]) (by kernel_rfl) ho (j := ku * 3) hp (by rw [fl_len sC_len]; simp; omega) (by simp [Value.oneCell']) fun wx hwx hox => ?_
    rw [show [Value.bool true, .slice A5 n5 c5, .slice A6 n6 c6] = sC y by rw [hy]; rfl, fl_put sC_len _ ku y (by omega)] at hox
    conv => cbv
    simp only [ej]
    have hrt2 := hrt.above (abv hwx)
    refine ⟨(j + 1, jk, ss2.set ku y, fun j => if j = ku then some t else f2 j), by simp [Fits, lk], hI2 _ _ ⟨by simp only; omega, by simp only; omega, by simpa using hsl2, hx.then (hwx.bel ho hx.size), hb.wr hwx apb.1, hox, by have := hwx.size; omega, ?_, h82.above (abv hwx), hrt2, (hnx.above (abv hwx)), hM⟩, by simp only; omega⟩
    exact (hrep.above (abv hwx)).set (by rw [hy]) htk (by rw [hy]; exact hrt2)
   | true =>
    obtain ⟨u2, hfn, hok2, hru⟩ := r2 rfl
    rw [know, hfn] at hM
    simp only at hM
    conv => cbv
    refine st_idx hE' sLS rfl (by omega) (by omega) fun p hp => ?_
    rw [show u.toNat = ku by omega] at hp
    conv => cbv
    refine st_fld hE' fLS1 fun p2 hp2 => ?_
    conv => cbv
    refine st_load hE' cInts (v := .slice A11 n11 c11) (by rw [hp2, hp]; exact hcs 1 _ rfl) ?_
    clear hp hp2
    conv => cbv
    (refine st_fld hE' fLS1 fun p hp => ?_; (conv => cbv); refine st_load hE' cInts (by rw [hp]; exact (h82).at _ _ rfl) ?_; clear hp; (conv => cbv))
    refine st_qb hE' (l5sameInts_q hru.a.ints hrt.a.ints) fun b hb1 w20 hs20 => ?_
    conv => cbv
    have bad : ∀ wy, Same wz wy → u2 ≠ t → Ext w wy ∧ (Value.tuple ⟨[.int .i64 0, .int .i64 9]⟩ : Value) = .tuple ⟨[.int .i64 V.1, .int .i64 V.2]⟩ := fun wy hsy hne => by
     rw [if_neg hne] at hM
     simp only at hM
     have e1 : M = none := hM.symm
     rw [e1] at hV
     exact ⟨hx.trans hsy.ext, by rw [← hV]⟩
    cases b with
    | false =>
     have hne : u2 ≠ t := fun q => by rw [q] at hb1; exact absurd (hb1.2 rfl) (by simp)
     conv => cbv
     intro wy hsy
     conv => cbv
     rw [hR]; exact bad wy hsy hne
    | true =>
     have he1 := hb1.1 rfl
     conv => cbv
     refine st_idx hE' sLS rfl (by omega) (by omega) fun p hp => ?_
     rw [show u.toNat = ku by omega] at hp
     conv => cbv
     refine st_fld hE' fLS2 fun p2 hp2 => ?_
     conv => cbv
     refine st_load hE' cInts (v := .slice A12 n12 c12) (by rw [hp2, hp]; exact hs20.ext.cell (hcs 2 _ rfl)) ?_
     clear hp hp2
     conv => cbv
     refine st_fld hE' fLS2 fun p hp => ?_
     conv => cbv
     refine st_load hE' cInts (by rw [hp]; exact hs20.ext.cell (h82.at _ _ rfl)) ?_
     clear hp
     conv => cbv
     refine st_qb hE' (l5sameInts_q (hru.b.ints.ext hs20.ext) (hrt.b.ints.ext hs20.ext)) fun b hb2 w21 hs21 => ?_
     conv => cbv
     cases b with
     | false =>
      have hne : u2 ≠ t := fun q => by rw [q] at hb2; exact absurd (hb2.2 rfl) (by simp)
      conv => cbv
      intro wy hsy
      conv => cbv
      rw [hR]; exact bad wy hsy hne
     | true =>
      have he2 : u2 = t := by
       have := hb2.1 rfl
       exact Prod.ext he1 this
      rw [if_pos he2] at hM
      simp only at hM
      rw [he2] at hfn
      conv => cbv
      intro wy hsy
      replace hb := hb.bel hsy.ext
      replace ho := ho.bel hsy.ext
      replace hx := hx.trans hsy.ext
      replace hrep := hrep.ext hsy.ext
      replace h82 := h82.bel hsy.ext
      replace hrt := hrt.ext hsy.ext
      replace hnx := hnx.bel hsy.ext
      have hBy : B1 ≤ wy.heap.size := by have := hsy.ext.size; omega
      clear hsy
      conv => cbv
      refine st_loadS hE tLS rfl h82.at ?_
      conv => cbv
      refine st_idx hE sLS rfl (by omega) (by omega) fun p hp => ?_
      rw [show u.toNat = ku by omega] at hp
      conv => cbv
      obtain ⟨y, hy⟩ : ∃ y : SS, y = ⟨true, A5, n5, c5, A6, n6, c6⟩ := ⟨_, rfl⟩
      refine st_putS hr (vs := [.bool true, .slice A5 n5 c5, .slice A6 n6 c6]) (by kernel_rfl) ho (j := ku * 3) hp (by rw [fl_len sC_len]; simp; omega) (by simp [Value.oneCell']) fun wx hwx hox => ?_
      rw [show [Value.bool true, .slice A5 n5 c5, .slice A6 n6 c6] = sC y by rw [hy]; rfl, fl_put sC_len _ ku y (by omega)] at hox
      conv => cbv
      simp only [ej]
      have hrt2 := hrt.above (abv hwx)
      refine ⟨(j + 1, jk, ss2.set ku y, f2), by simp [Fits, lk], hI2 _ _ ⟨by simp only; omega, by simp only; omega, by simpa using hsl2, hx.then (hwx.bel ho hx.size), hb.wr hwx apb.1, hox, by have := hwx.size; omega, ?_, h82.above (abv hwx), hrt2, (hnx.above (abv hwx)), hM⟩, by simp only; omega⟩
      have := (hrep.above (abv hwx)).set (k := ku) (s := y) (t := t) (by rw [hy]) htk (by rw [hy]; exact hrt2)
      rwa [know_at hfn] at this
  ·have g4 : j = n10 := by
    have : ¬ jj < x10 := by simpa [hE.cmp, cmpR] using g4
    omega
   subst g4
   rw [List.drop_of_length_le (by omega), merge] at hM
   rw [← hM] at hV
   simp only at hV
   conv => cbv
   simp only [ei]
   exact ⟨(i + 1, ij, ss2, f2, mm), by simp [Fits, lk], hI _ _ ⟨by simp only; omega, by simp only; omega, hsl2, hx, hb, ho, hBz, hrep, by rw [hil]; exact hV⟩, by simp only; omega⟩
 ·have g2 : i = n2 := by
   have : ¬ ii < x3 := by simpa [hE.cmp, cmpR] using g2
   omega
  rw [List.drop_of_length_le (by omega), verL] at hV
  conv => cbv
  rw [hR]; exact ⟨hx, by rw [← hV]; rfl⟩
theorem tr_build0 (w : World) : (Instr.build 34 #[]).run Tryz.prog w = .ok (.agg ⟨[.int .i64 0, .int .i64 0, .slice none 0 0, .int .i64 0, .int .i64 0]⟩) w := by kernel_rfl
theorem tr_build1 (k : Int) (w : World) : (Instr.build 34 #[(0, .agg ⟨[.int .i64 k, .int .i64 0, .slice none 0 0]⟩)]).run Tryz.prog w = .ok (.agg ⟨[.int .i64 k, .int .i64 0, .slice none 0 0, .int .i64 0, .int .i64 0]⟩) w := by kernel_rfl
def RunP (pv : List PV) (sl : Int) (is : List (Int × Int)) (cl us : ByteArray) (lv nw : Int) (xs ys : List ByteArray) (x : Int × Int × List ByteArray × Int × Int) : Prop :=
 (¬ ((verF pv sl is).2 = 0 ∧ validReq cl us xs ys) ∧ x = (4, 0, [], 0, 0)) ∨
 (((verF pv sl is).2 = 0 ∧ validReq cl us xs ys) ∧ ∃ R, R = runV pv (rqL cl us lv nw xs ys) is is.length 0 [] (List.replicate sl.toNat nonV) 0 0 ∧ x = ((ocOf R.1).1, (ocOf R.1).2.1, (ocOf R.1).2.2, (R.2.1 : Int), (R.2.2 : Int)))
theorem RunP.unique {pv : List PV} {sl : Int} {is : List (Int × Int)} {cl us : ByteArray} {lv nw : Int} {xs ys : List ByteArray} {x y : Int × Int × List ByteArray × Int × Int} (h : RunP pv sl is cl us lv nw xs ys x) (k : RunP pv sl is cl us lv nw xs ys y) : x = y := by
 rcases h with ⟨h1, rfl⟩ | ⟨h1, R, rfl, rfl⟩ <;> rcases k with ⟨k1, rfl⟩ | ⟨k1, R, rfl, rfl⟩
 ·rfl
 ·exact absurd k1 h1
 ·exact absurd h1 k1
 ·rfl
def TrR (B : Nat) (w : World) (x : Int × Int × List ByteArray × Int × Int) (r : Value) : Prop := ∃ N nm nc, r = .agg ⟨[.int .i64 x.1, .int .i64 x.2.1, .slice N nm nc, .int .i64 x.2.2.2.1, .int .i64 x.2.2.2.2]⟩ ∧ Own B 9 1 w N nm nc (x.2.2.1.map .string) ∧ (∀ s ∈ x.2.2.1, s.size ≤ 9223372036854775807) ∧ x.2.2.1.length ≤ 64
theorem ver_pair {pv : List PV} {sl : Int} {is : List (Int × Int)} (h : (verF pv sl is).2 = 0) : verF pv sl is = ((verF pv sl is).1, 0) := by rw [← h]
theorem pool_ok {w : World} {A A2 : Option Addr} {n n2 : Nat} {pv : List PV} {is : List (Int × Int)} {sl : Int} (h : CodeR w A n A2 n2 pv is) (hsh : shapeP pv sl is) (hf : ∀ p ∈ pv, fits p.n) : PoolV pv := by
 refine pool_val hsh.2.2.2.2.1 hf fun p hp => ?_
 obtain ⟨i, hi⟩ := List.mem_iff_getElem?.1 hp
 have hl := (List.getElem?_eq_some_iff.1 hi).1
 obtain ⟨_, k, z, tx, xs, _, _, _, _, he, _, _, ht⟩ := h.pool.get (i := i) (by rw [← h.pool.len]; exact hl)
 rw [hi] at he
 cases he
 exact ht
theorem specRun_f {w : World} {A A2 : Option Addr} {n c n2 c2 : Nat} {sl : Int} {pv : List PV} {is : List (Int × Int)} (h : CodeR w A n A2 n2 pv is) (hn : n ≤ 9223372036854775807) (hn2 : n2 ≤ 9223372036854775807) (hf : ∀ p ∈ pv, fits p.n)
  {cl us : ByteArray} {lv nw : Int} {Q Q2 : Option Addr} {m d m2 d2 : Nat} {xs ys : List ByteArray} (hc : cl.size ≤ 9223372036854775807) (hu : us.size ≤ 9223372036854775807) (hs : Strs w Q m d xs) (hs2 : Strs w Q2 m2 d2 ys) (fl : fits lv) (fn : fits nw) :
  FC Tryz.prog 8 [codeV A n c sl A2 n2 c2, reqV cl us lv nw Q m d Q2 m2 d2] w fun r w' => ∃ x, RunP pv sl is cl us lv nw xs ys x ∧ TrR w.heap.size w' x r := by
 refine FC.intro (cs := []) Tryz.func8 (by kernel_rfl) fun E R hE hr hR => ?_
 conv => cbv
 refine st_box hr fun q2 w1 hx1 h20 => ?_
 have h2 := h20 _ (n1_ _)
 have f2 := bx_form (h20 _ (n1_ _))
 clear h20
 have k1 := hx1.size
 conv => cbv
 refine st_box hr fun q3 w2 hx2 h30 => ?_
 have h3 := h30 _ hx1.size
 have f3 := bx_form (h30 _ (n1_ _))
 clear h30
 have k2 := hx2.size
 replace h2 := h2.bel hx2
 have hx := hx1.trans hx2
 clear hx1 hx2
 conv => cbv
 refine st_alloc hr tTr rfl fun q4 w3 hx3 h40 => ?_
 have h4 := h40 _ hx.size
 have f4 := bx_form (h40 _ (n1_ _))
 clear h40
 have k3 := hx3.size
 replace h2 := h2.bel hx3
 replace h3 := h3.bel hx3
 replace hx := hx.trans hx3
 clear hx3
 have no : ∀ (w5 w9 : World), Ext w w5 → Box w.heap.size 34 5 w5 q4 zTrc → Wr (some q4) w5 w9 → ¬ ((verF pv sl is).2 = 0 ∧ validReq cl us xs ys) → R (.agg ⟨[.int .i64 4, .int .i64 0, .slice none 0 0, .int .i64 0, .int .i64 0]⟩) w9 := fun w5 w9 hx5 hb hw hne => by
  rw [hR]
  exact ⟨hx5.then (hw.bel hb hx5.size), _, .inl ⟨hne, rfl⟩, none, 0, 0, rfl, Own.nil, by simp, by simp⟩
 conv => cbv
 refine st_loadS hE tIC rfl h2.at ?_
 have hv := specVerify_f (c := c) (c2 := c2) (sl := sl) (h.ext hx) hn hn2
 obtain ⟨VM, hVM⟩ : ∃ y, y = (verF pv sl is).1 := ⟨_, rfl⟩
 obtain ⟨VE, hVE⟩ : ∃ y, y = (verF pv sl is).2 := ⟨_, rfl⟩
 rw [← hVM, ← hVE] at hv
 rw [← hVE] at no
 conv => cbv
 refine st_f hr hv fun r w4 hx4 ev => ?_
 subst ev
 replace h2 := h2.bel hx4
 replace h3 := h3.bel hx4
 replace h4 := h4.bel hx4
 replace hx := hx.trans hx4
 have k4 := hx4.size
 clear hx4
 conv => cbv
 refine br (fun g => ?_) (fun g => ?_)
 ·have g : VE ≠ 0 := by simpa [hE.cmp, cmpR] using g
  conv => cbv
  refine st_bO1 hE ?_
  conv => cbv
  refine hE.det (v := .agg ⟨[.int .i64 4, .int .i64 0, .slice none 0 0, .int .i64 0, .int .i64 0]⟩) (fun w1 _ ρ hρ => ?_) ?_
  ·simp only [opnds, b2_, b3_, b1_, and_true] at hρ
   have := tr_build1 4 w1
   simp [execOp, hρ, this]
  conv => cbv
  refine st_putS hr (by kernel_rfl) h4 (add_zero _).symm (by simp [zTrc]) (by simp [Value.oneCell']) fun w9 hw9 h49 => ?_
  simp only [zTrc, a1_, a2_, a3_, a4_, a5_, a6_, a7_] at h49
  conv => cbv
  refine st_cell hr tTr rfl h49.at ?_
  exact no _ _ hx h4 hw9 fun q => g q.1
 have g : VE = 0 := by simpa [hE.cmp, cmpR] using g
 conv => cbv
 refine st_loadS hE tIReq rfl h3.at ?_
 conv => cbv
 refine st_f hr (sValidRequest_f hc hu (hs.ext hx) (hs2.ext hx)) fun r w5 hx5 ⟨b2, ev, hbr⟩ => ?_
 subst ev
 replace h2 := h2.bel hx5
 replace h3 := h3.bel hx5
 replace h4 := h4.bel hx5
 replace hx := hx.trans hx5
 have k5 := hx5.size
 clear hx5
 cases b2 with
 | false =>
  conv => cbv
  refine st_bO1 hE ?_
  conv => cbv
  refine hE.det (v := .agg ⟨[.int .i64 4, .int .i64 0, .slice none 0 0, .int .i64 0, .int .i64 0]⟩) (fun w1 _ ρ hρ => ?_) ?_
  ·simp only [opnds, b2_, b3_, b1_, and_true] at hρ
   have := tr_build1 4 w1
   simp [execOp, hρ, this]
  conv => cbv
  refine st_putS hr (by kernel_rfl) h4 (add_zero _).symm (by simp [zTrc]) (by simp [Value.oneCell']) fun w9 hw9 h49 => ?_
  simp only [zTrc, a1_, a2_, a3_, a4_, a5_, a6_, a7_] at h49
  conv => cbv
  refine st_cell hr tTr rfl h49.at ?_
  exact no _ _ hx h4 hw9 fun q => by simpa using hbr.2 q.2
 | true =>
 have hreq := hbr.1 rfl
 have hver := ver_pair (hVE.symm.trans g)
 obtain ⟨hsh, hne, F, hV⟩ := ver_sound hver
 have hpv := pool_ok h hsh hf
 have hrq := req_val (lv := lv) (nw := nw) hreq fl fn
 have hsl0 := hsh.2.1
 have hsl6 := hsh.2.2.1
 have hil : 0 < is.length := by cases is with
  | nil => exact absurd rfl hne
  | cons _ _ => simp
 have s5 := hx.size
 conv => cbv
 refine draw_sa (fun w1 => (∀ i u, ([.slice A n c, .int .i64 sl, .slice A2 n2 c2] : List Value)[i]? = some u → w1.cell? (q2.add i) = some u) ∧ ∀ i u, ([.string cl, .string us, .int .i64 lv, .int .i64 nw, .slice Q m d, .slice Q2 m2 d2] : List Value)[i]? = some u → w1.cell? (q3.add i) = some u) [0, 1, 2, 3, 5] [(4, false), (6, false), (7, false)] hr fol (by kernel_rfl) (fun w1 hs => ⟨(h2.bel hs.ext).at, (h3.bel hs.ext).at⟩) fun E' hE' har w6 hs6 => ?_
 have x6 := hs6.ext
 replace h2 := h2.bel x6
 replace h3 := h3.bel x6
 replace h4 := h4.bel x6
 replace hx := hx.trans x6
 have k6 := x6.size
 clear x6
 conv => cbv
 refine sw_loadS hE' tIC (vs := [.slice A n c, .int .i64 sl, .slice A2 n2 c2]) rfl (fun w1 h1 => h1.1) ?_
 conv => cbv
 refine sw_loadS hE' tIReq (vs := [.string cl, .string us, .int .i64 lv, .int .i64 nw, .slice Q m d, .slice Q2 m2 d2]) rfl (fun w1 h1 => h1.2) ?_
 conv => cbv
 refine sw_fld hE' fIC1 fun p hp => ?_
 conv => cbv
 refine sw_load hE' cInt (v := .int .i64 sl) (fun w1 h1 => by rw [hp]; exact h1.1 1 _ rfl) ?_
 conv => cbv
 refine sw_det hE' (v := .agg ⟨[.int .i64 0, .int .i64 0, .slice none 0 0, .int .i64 0, .int .i64 0]⟩) (fun w1 ρ hρ => ?_) ?_
 ·have := tr_build0 w1
  simp [execOp, this]
 conv => cbv
 obtain ⟨sn, hsn⟩ : ∃ y, y = sl.toNat := ⟨_, rfl⟩
 obtain ⟨v0, hv0⟩ : ∃ v0 : VV, v0 = ⟨nonV, none, 0, 0⟩ := ⟨_, rfl⟩
 refine st_makeK hr sL3 rfl (m := sn) (by omega) (by omega) (by omega) fun LA w7 hx7 ho0 => ?_
 have hL := ho0 _ (n1_ _)
 rw [show (Value.agg ⟨zL3⟩).cells = ⟨lC v0⟩ from by rw [hv0]; rfl, made_fl (f := lC) v0 sn 4 rfl (by omega)] at hL
 refine ⟨⟨(h2.bel hx7).at, (h3.bel hx7).at⟩, ?_⟩
 have hI := l6run_all (wt := w6) (n := n) (c := c) (n2 := n2) (c2 := c2) (h.ext hx) hc hu (hs.ext hx) (hs2.ext hx) hV hsh hpv hrq is.length 0 0 w7 none 0 0 LA sn sn [] (List.replicate sn v0) ([], List.replicate sl.toNat 0) 0 0 rfl (by omega) hil hx7 (by simp [Cells]) rfl (by omega) (by omega) hL (fun x hm => by
  rcases hm with hm | hm
  ·simp at hm
  ·obtain rfl := List.eq_of_mem_replicate hm
   rw [hv0]
   exact ⟨nil_m rfl (by simp [nonV, noS, ByteArray.size]), inD_none⟩) hV.start (by
  rw [List.map_replicate, hsn, hv0]
  exact stT_start sl.toNat) (by omega) (by omega) (by omega)
 have eR : (List.replicate sn v0).map (·.p) = List.replicate sl.toNat nonV := by rw [List.map_replicate, hsn, hv0]
 rw [eR] at hI
 simp only [b3_] at hI
 obtain ⟨RUN, hRUN⟩ : ∃ R, R = runV pv (rqL cl us lv nw xs ys) is is.length 0 [] (List.replicate sl.toNat nonV) 0 0 := ⟨_, rfl⟩
 rw [← hRUN] at hI
 have hRP : RunP pv sl is cl us lv nw xs ys ((ocOf RUN.1).1, (ocOf RUN.1).2.1, (ocOf RUN.1).2.2, (RUN.2.1 : Int), (RUN.2.2 : Int)) := .inr ⟨⟨hVE.symm.trans g, hreq⟩, RUN, hRUN, rfl⟩
 conv => cbv
 refine st_g hr hI fun r w8 ⟨⟨N, nm, nc, ev, hoN, hN1, hN2⟩, hW8⟩ => ?_
 have hx8 : Ext w6 w8 := hx7.then (hW8.bel hL (by have := hx7.size; omega))
 have k78 := hW8.size
 have k67 := hx7.size
 refine ⟨⟨(h2.bel hx8).at, (h3.bel hx8).at⟩, ?_⟩
 obtain ⟨kk, hkk⟩ : ∃ y : Int, y = (ocOf RUN.1).1 := ⟨_, rfl⟩
 obtain ⟨kc, hkc⟩ : ∃ y : Int, y = (ocOf RUN.1).2.1 := ⟨_, rfl⟩
 obtain ⟨kz, hkz⟩ : ∃ y, y = (ocOf RUN.1).2.2 := ⟨_, rfl⟩
 obtain ⟨nSz, hnS⟩ : ∃ y : Int, y = (RUN.2.1 : Int) := ⟨_, rfl⟩
 obtain ⟨nPz, hnP⟩ : ∃ y : Int, y = (RUN.2.2 : Int) := ⟨_, rfl⟩
 rw [← hkk, ← hkc, ← hnS, ← hnP] at ev
 rw [← hkk, ← hkc, ← hkz, ← hnS, ← hnP] at hRP
 rw [← hkz] at hoN hN1 hN2
 subst ev
 have h48 := h4.bel hx8
 conv => cbv
 refine st_putS hr (by kernel_rfl) h48 (add_zero _).symm (by simp [zTrc]) (by simp [Value.oneCell']) fun w9 hw9 h49 => ?_
 simp only [zTrc, a1_, a2_, a3_, a4_, a5_, a6_, a7_] at h49
 refine ⟨⟨((h2.bel hx8).wr hw9 (bx_apart f2.2.2 f4.2.2 (by omega))).at, ((h3.bel hx8).wr hw9 (bx_apart f3.2.2 f4.2.2 (by omega))).at⟩, ?_⟩
 conv => cbv
 refine st_cell hr tTr rfl h49.at ?_
 rw [hR]
 exact ⟨(hx.trans hx8).then (hw9.bel h48 (hx.trans hx8).size), _, hRP, N, nm, nc, rfl, (hoN.wr hw9 (dj_apart hoN fun g h1 h2 => by rw [f4.2.2] at h2; cases h2; have := (own_blk hoN _ h1).1; omega)).mono (by have := hx.size; omega), hN1, hN2⟩
abbrev zSta : List Value := [.slice none 0 0, .slice none 0 0]
theorem fSta0 : Fld Tryz.prog 168 0 0 := ⟨by kernel_rfl⟩
theorem fSta1 : Fld Tryz.prog 168 1 1 := ⟨by kernel_rfl⟩
theorem fVf0 : Fld Tryz.prog 165 0 0 := ⟨by kernel_rfl⟩
theorem fVf1 : Fld Tryz.prog 165 1 3 := ⟨by kernel_rfl⟩
theorem fVf2 : Fld Tryz.prog 165 2 4 := ⟨by kernel_rfl⟩
theorem sPs : Slc Tryz.prog 163 166 (.pointer none) 1 8 := ⟨Tryz.underlying163, by kernel_rfl⟩
theorem cPs : Cel Tryz.prog 163 := ⟨_, Tryz.underlying163, by simp, by simp⟩
theorem cPt : Cel Tryz.prog 166 := ⟨_, Tryz.underlying166, by simp, by simp⟩
abbrev vfV (A : Option Addr) (n c : Nat) (sl : Int) (A2 : Option Addr) (n2 c2 : Nat) (A3 : Option Addr) (n3 c3 : Nat) (m : Int) : List Value := [.slice A n c, .int .i64 sl, .slice A2 n2 c2, .slice A3 n3 c3, .int .i64 m]
def StB (B : Nat) (w : World) (x : Addr) (st : St) : Prop := ∃ A n c A2 n2 c2, Box B 168 2 w x [.slice A n c, .slice A2 n2 c2] ∧ RepS B w A n c A2 n2 c2 st
theorem StB.ext {B : Nat} {w w' : World} {x : Addr} {st : St} (h : StB B w x st) (hx : Ext w w') : StB B w' x st := by
 obtain ⟨A, n, c, A2, n2, c2, h1, h2⟩ := h
 exact ⟨A, n, c, A2, n2, c2, h1.bel hx, h2.ext hx⟩
theorem StB.above {B : Nat} {w w' : World} {x : Addr} {st : St} (h : StB B w x st) (hx : Above B w w') : StB B w' x st := by
 obtain ⟨A, n, c, A2, n2, c2, h1, h2⟩ := h
 exact ⟨A, n, c, A2, n2, c2, h1.above hx, h2.above hx⟩
theorem same_q {w : World} {B B' : Nat} {x y : Addr} {u t : St} (h : StB B w x u) (h1 : StB B' w y t) : QB Tryz.prog 248 [.pointer (some x), .pointer (some y)] w (u = t) := by
 refine QB.intro (cs := []) Tryz.func248 (by kernel_rfl) fun w0 hx0 w1 hs E R hE hr hR => ?_
 obtain ⟨A, n, c, A2, n2, c2, hb, hu⟩ := (h.ext hx0).ext hs.ext
 obtain ⟨A3, n3, c3, A4, n4, c4, hb1, ht⟩ := (h1.ext hx0).ext hs.ext
 conv => cbv
 refine draw_q hr fol (by kernel_rfl) fun E' hE' => ?_
 conv => cbv
 refine st_nil hE' ?_
 conv => cbv
 (refine st_fld hE' fSta0 fun p hp => ?_; (conv => cbv); refine st_load hE' cInts (by rw [hp]; exact (hb).at _ _ rfl) ?_; clear hp; (conv => cbv))
 refine st_nil hE' ?_
 conv => cbv
 (refine st_fld hE' fSta0 fun p hp => ?_; (conv => cbv); refine st_load hE' cInts (by rw [hp]; exact (hb1).at _ _ rfl) ?_; clear hp; (conv => cbv))
 refine st_qb hE' (Equal_q hu.a.ints ht.a.ints) fun b e1 w2 hs2 => ?_
 replace hb := hb.bel hs2.ext
 replace hb1 := hb1.bel hs2.ext
 replace hu := hu.ext hs2.ext
 replace ht := ht.ext hs2.ext
 cases b with
 | false =>
  have hne : u ≠ t := fun q => by rw [q] at e1; exact absurd (e1.2 rfl) (by simp)
  conv => cbv
  intro w3 hs3
  conv => cbv
  exact hR _ _ (hs.trans hs3) (by simp [hne])
 | true =>
  have e1 := e1.1 rfl
  conv => cbv
  refine st_nil hE' ?_
  conv => cbv
  (refine st_fld hE' fSta1 fun p hp => ?_; (conv => cbv); refine st_load hE' cInts (by rw [hp]; exact (hb).at _ _ rfl) ?_; clear hp; (conv => cbv))
  refine st_nil hE' ?_
  conv => cbv
  (refine st_fld hE' fSta1 fun p hp => ?_; (conv => cbv); refine st_load hE' cInts (by rw [hp]; exact (hb1).at _ _ rfl) ?_; clear hp; (conv => cbv))
  refine st_qb hE' (Equal_q hu.b.ints ht.b.ints) fun b e2 w4 hs4 => ?_
  obtain ⟨bb, hbb⟩ : ∃ bb, bb = b := ⟨_, rfl⟩
  conv => cbv
  intro w3 hs3
  conv => cbv
  refine hR _ _ (hs.trans hs3) (by rw [e2]; exact ⟨fun q => Prod.ext e1 q, fun q => by rw [q]⟩)
theorem ranged_f {w : World} {A A2 : Option Addr} {n c n2 c2 : Nat} {sl : Int} {pv : List PV} (hpl : pv.length = n) {B : Nat} {a : Addr} {A3 : Option Addr} {n3 c3 : Nat} {m : Int} (hb : Box B 165 5 w a (vfV A n c sl A2 n2 c2 A3 n3 c3 m)) {i : Nat} {ii o gg : Int} (hii : ii = (i : Int)) :
  FC Tryz.prog 166 [.pointer (some a), .int .i64 ii, .agg ⟨[.int .i64 o, .int .i64 gg]⟩] w fun v _ => ∃ b : Bool, v = .bool b ∧ (b = true ↔ rangeF pv.length sl n2 i o gg) := by
 refine FC.intro (cs := []) Tryz.func166 (by kernel_rfl) fun E R hE hr hR => ?_
 conv => cbv
 refine st_box hr fun q w1 hx hq0 => ?_
 have hq := hq0 _ (n1_ _)
 replace hb := hb.bel hx
 clear hq0
 conv => cbv
 (refine st_fld hE fII0 fun p hp => ?_; (conv => cbv); refine st_load hE cInt (by rw [hp]; exact (hq).at _ _ rfl) ?_; clear hp; (conv => cbv))
 refine br (fun g => ?_) (fun g => ?_)
 ·have g0 := g
  have g : o = 1 := by simpa [hE.cmp, cmpR] using g
  conv => cbv
  refine draw_q hr fol (by kernel_rfl) fun E' hE' => ?_
  conv => cbv
  (refine st_fld hE' fII1 fun p hp => ?_; (conv => cbv); refine st_load hE' cInt (by rw [hp]; exact (hq).at _ _ rfl) ?_; clear hp; (conv => cbv))
  (refine st_nil hE' ?_; (conv => cbv); refine st_fld hE' fVf0 fun p hp => ?_; (conv => cbv); refine st_fld hE' fIC0 fun p2 hp2 => ?_; (conv => cbv); refine st_load hE' cIVs (by rw [hp2, hp, add_add]; exact (hb).at _ _ rfl) ?_; clear hp hp2; (conv => cbv))
  refine st_len hE' sIV fun x hx4 => ?_
  conv => cbv
  obtain ⟨q4, hq4⟩ : ∃ q4, q4 = E'.cmp .lss gg x := ⟨_, rfl⟩
  have hq5 : q4 = true ↔ gg < x := by rw [hq4, hE'.cmp]; simp [cmpR]
  simp only [← hq4]
  conv => cbv
  intro w4 hs4
  conv => cbv
  rw [hR]; exact ⟨hx.trans hs4.ext, q4, rfl, by rw [hq5]; simp [rangeF, g, hpl]; try omega⟩
 have g1 : o ≠ 1 := by simpa [hE.cmp, cmpR] using g
 clear g
 conv => cbv
 refine br (fun g => ?_) (fun g => ?_)
 ·have g0 := g
  have g : o = 2 := by simpa [hE.cmp, cmpR] using g
  conv => cbv
  refine draw_h [0, 1] [(2, false), (3, false), (4, true), (5, true)] hr fol (by kernel_rfl) fun E' hE' w0 hs0 S hS => ?_
  conv => cbv
  refine st_fld hE' fII1 fun p hp => ?_
  conv => cbv
  refine st_load hE' cInt (by rw [hp]; exact (hq.bel hs0.ext).at _ _ rfl) ?_
  clear hp
  conv => cbv
  refine st_f hr attributesV_f fun v w5 hx5 ⟨a5, ev, _⟩ => ?_
  subst ev
  refine ⟨hS _ hx5, ?_⟩
  conv => cbv
  refine st_len hE sAt fun x hx4 => ?_
  refine ⟨hS _ hx5, ?_⟩
  conv => cbv
  obtain ⟨q4, hq4⟩ : ∃ q4, q4 = E.cmp .lss gg x := ⟨_, rfl⟩
  have hq5 : q4 = true ↔ gg < x := by rw [hq4, hE.cmp]; simp [cmpR]
  simp only [← hq4]
  conv => cbv
  rw [hR]; exact ⟨(hx.trans hs0.ext).trans hx5, q4, rfl, by rw [hq5]; simp [rangeF, g]; omega⟩
 have g2 : o ≠ 2 := by simpa [hE.cmp, cmpR] using g
 clear g
 conv => cbv
 refine br (fun g => ?_) (fun g => ?_)
 ·have g0 := g
  have g : o = 3 := by simpa [hE.cmp, cmpR] using g
  conv => cbv
  refine br (fun _ => ?_) (fun q => absurd g0 q)
  conv => cbv
  refine draw_q hr fol (by kernel_rfl) fun E' hE' => ?_
  conv => cbv
  (refine st_fld hE' fII1 fun p hp => ?_; (conv => cbv); refine st_load hE' cInt (by rw [hp]; exact (hq).at _ _ rfl) ?_; clear hp; (conv => cbv))
  (refine st_nil hE' ?_; (conv => cbv); refine st_fld hE' fVf0 fun p hp => ?_; (conv => cbv); refine st_fld hE' fIC1 fun p2 hp2 => ?_; (conv => cbv); refine st_load hE' cInt (by rw [hp2, hp, add_add]; exact (hb).at _ _ rfl) ?_; clear hp hp2; (conv => cbv))
  obtain ⟨q4, hq4⟩ : ∃ q4, q4 = E'.cmp .lss gg sl := ⟨_, rfl⟩
  have hq5 : q4 = true ↔ gg < sl := by rw [hq4, hE'.cmp]; simp [cmpR]
  simp only [← hq4]
  conv => cbv
  intro w4 hs4
  conv => cbv
  rw [hR]; exact ⟨hx.trans hs4.ext, q4, rfl, by rw [hq5]; simp [rangeF, g]; try omega⟩
 have g3 : o ≠ 3 := by simpa [hE.cmp, cmpR] using g
 clear g
 conv => cbv
 refine br (fun g => ?_) (fun g => ?_)
 ·have g0 := g
  have g : o = 4 := by simpa [hE.cmp, cmpR] using g
  conv => cbv
  refine draw_q hr fol (by kernel_rfl) fun E' hE' => ?_
  conv => cbv
  (refine st_fld hE' fII1 fun p hp => ?_; (conv => cbv); refine st_load hE' cInt (by rw [hp]; exact (hq).at _ _ rfl) ?_; clear hp; (conv => cbv))
  (refine st_nil hE' ?_; (conv => cbv); refine st_fld hE' fVf0 fun p hp => ?_; (conv => cbv); refine st_fld hE' fIC1 fun p2 hp2 => ?_; (conv => cbv); refine st_load hE' cInt (by rw [hp2, hp, add_add]; exact (hb).at _ _ rfl) ?_; clear hp hp2; (conv => cbv))
  obtain ⟨q4, hq4⟩ : ∃ q4, q4 = E'.cmp .lss gg sl := ⟨_, rfl⟩
  have hq5 : q4 = true ↔ gg < sl := by rw [hq4, hE'.cmp]; simp [cmpR]
  simp only [← hq4]
  conv => cbv
  intro w4 hs4
  conv => cbv
  rw [hR]; exact ⟨hx.trans hs4.ext, q4, rfl, by rw [hq5]; simp [rangeF, g]; try omega⟩
 have g4 : o ≠ 4 := by simpa [hE.cmp, cmpR] using g
 clear g
 conv => cbv
 refine br (fun g => ?_) (fun g => ?_)
 ·have g0 := g
  have g : o = 22 := by simpa [hE.cmp, cmpR] using g
  conv => cbv
  refine br (fun _ => ?_) (fun q => absurd g0 q)
  conv => cbv
  refine draw_q hr fol (by kernel_rfl) fun E' hE' => ?_
  conv => cbv
  (refine st_fld hE' fII1 fun p hp => ?_; (conv => cbv); refine st_load hE' cInt (by rw [hp]; exact (hq).at _ _ rfl) ?_; clear hp; (conv => cbv))
  obtain ⟨q6, hq6⟩ : ∃ q6, q6 = E'.cmp .gtr gg ii := ⟨_, rfl⟩
  have hq7 : q6 = true ↔ ii < gg := by rw [hq6, hE'.cmp]; simp [cmpR]
  simp only [← hq6]
  cases q6 with
  | false =>
   have g2 : ¬ ii < gg := fun q => absurd (hq7.2 q) (by simp)
   conv => cbv
   intro w4 hs4
   conv => cbv
   rw [hR]; exact ⟨hx.trans hs4.ext, false, rfl, by simp [rangeF, g]; omega⟩
  | true =>
   have g2 := hq7.1 rfl
   conv => cbv
   (refine st_fld hE' fII1 fun p hp => ?_; (conv => cbv); refine st_load hE' cInt (by rw [hp]; exact (hq).at _ _ rfl) ?_; clear hp; (conv => cbv))
   (refine st_nil hE' ?_; (conv => cbv); refine st_fld hE' fVf0 fun p hp => ?_; (conv => cbv); refine st_fld hE' fIC2 fun p2 hp2 => ?_; (conv => cbv); refine st_load hE' cIIs (by rw [hp2, hp, add_add]; exact (hb).at _ _ rfl) ?_; clear hp hp2; (conv => cbv))
   refine st_len hE' sII fun x hx4 => ?_
   conv => cbv
   obtain ⟨q4, hq4⟩ : ∃ q4, q4 = E'.cmp .lss gg x := ⟨_, rfl⟩
   have hq5 : q4 = true ↔ gg < x := by rw [hq4, hE'.cmp]; simp [cmpR]
   simp only [← hq4]
   conv => cbv
   intro w4 hs4
   conv => cbv
   rw [hR]; exact ⟨hx.trans hs4.ext, q4, rfl, by rw [hq5]; simp [rangeF, g]; try omega⟩
 have g22 : o ≠ 22 := by simpa [hE.cmp, cmpR] using g
 clear g
 conv => cbv
 refine br (fun g => ?_) (fun g => ?_)
 ·have g0 := g
  have g : o = 23 := by simpa [hE.cmp, cmpR] using g
  conv => cbv
  refine draw_q hr fol (by kernel_rfl) fun E' hE' => ?_
  conv => cbv
  (refine st_fld hE' fII1 fun p hp => ?_; (conv => cbv); refine st_load hE' cInt (by rw [hp]; exact (hq).at _ _ rfl) ?_; clear hp; (conv => cbv))
  obtain ⟨q6, hq6⟩ : ∃ q6, q6 = E'.cmp .gtr gg ii := ⟨_, rfl⟩
  have hq7 : q6 = true ↔ ii < gg := by rw [hq6, hE'.cmp]; simp [cmpR]
  simp only [← hq6]
  cases q6 with
  | false =>
   have g2 : ¬ ii < gg := fun q => absurd (hq7.2 q) (by simp)
   conv => cbv
   intro w4 hs4
   conv => cbv
   rw [hR]; exact ⟨hx.trans hs4.ext, false, rfl, by simp [rangeF, g]; omega⟩
  | true =>
   have g2 := hq7.1 rfl
   conv => cbv
   (refine st_fld hE' fII1 fun p hp => ?_; (conv => cbv); refine st_load hE' cInt (by rw [hp]; exact (hq).at _ _ rfl) ?_; clear hp; (conv => cbv))
   (refine st_nil hE' ?_; (conv => cbv); refine st_fld hE' fVf0 fun p hp => ?_; (conv => cbv); refine st_fld hE' fIC2 fun p2 hp2 => ?_; (conv => cbv); refine st_load hE' cIIs (by rw [hp2, hp, add_add]; exact (hb).at _ _ rfl) ?_; clear hp hp2; (conv => cbv))
   refine st_len hE' sII fun x hx4 => ?_
   conv => cbv
   obtain ⟨q4, hq4⟩ : ∃ q4, q4 = E'.cmp .lss gg x := ⟨_, rfl⟩
   have hq5 : q4 = true ↔ gg < x := by rw [hq4, hE'.cmp]; simp [cmpR]
   simp only [← hq4]
   conv => cbv
   intro w4 hs4
   conv => cbv
   rw [hR]; exact ⟨hx.trans hs4.ext, q4, rfl, by rw [hq5]; simp [rangeF, g]; try omega⟩
 have g23 : o ≠ 23 := by simpa [hE.cmp, cmpR] using g
 clear g
 conv => cbv
 rw [hR]; exact ⟨hx, true, rfl, by simp [rangeF, g1, g2, g3, g4, g22, g23]⟩
theorem fits_f {w : World} (hT : Tab w 3 opF) {A A2 : Option Addr} {n c n2 c2 : Nat} {sl : Int} {pv : List PV} (hpo : Pool w A n pv) {B : Nat} {a : Addr} {A3 : Option Addr} {n3 c3 : Nat} {m : Int} (hb : Box B 165 5 w a (vfV A n c sl A2 n2 c2 A3 n3 c3 m)) {ni i : Nat} {o gg : Int} (h1 : 1 ≤ o) (h2 : o ≤ 25) (hg0 : 0 ≤ gg) (hrg : rangeF pv.length sl ni i o gg)
  {B1 : Nat} {x : Addr} {st : St} (hst : StB B1 w x st) (hok : okSt sl st) {A5 : Option Addr} {n5 c5 : Nat} {args : List Int} (ha : Ints w A5 n5 c5 args) (hal : args.length = (wantF o).length) :
  FC Tryz.prog 168 [.pointer (some a), .agg ⟨[.int .i64 o, .int .i64 gg]⟩, .pointer (some x), .slice A5 n5 c5] w fun v _ => ∃ (t : Int) (b : Bool), v = .tuple ⟨[.int .i64 t, .bool b]⟩ ∧ (b = true ↔ fitF o (slotF st.2 gg) args) ∧ (b = true → t = pushF pv st.2 o gg) := by
 refine FC.intro (cs := []) Tryz.func168 (by kernel_rfl) fun E R hE hr hR => ?_
 obtain ⟨r1, r2, r3, r4⟩ := hrg
 have hpl := hpo.len
 have hanl := ha.len
 conv => cbv
 refine st_box hr fun q w1 hx hq0 => ?_
 have hq := hq0 _ (n1_ _)
 replace hb := hb.bel hx
 replace hpo := hpo.ext hx
 replace ha := ha.ext hx
 replace hT := hT.ext hx
 obtain ⟨A6, n6, c6, A7, n7, c7, hsb, hrs⟩ := hst.ext hx
 have hn7 := hrs.b.len
 rw [List.length_map, Nat.mul_one] at hn7
 have hsl := hok.len
 clear hq0
 conv => cbv
 (refine st_fld hE fII0 fun p hp => ?_; (conv => cbv); refine st_load hE cInt (by rw [hp]; exact (hq).at _ _ rfl) ?_; clear hp; (conv => cbv))
 refine br (fun g => ?_) (fun g => ?_)
 ·have g0 := g
  have g : o = 1 := by simpa [hE.cmp, cmpR] using g
  conv => cbv
  refine draw_q hr fol (by kernel_rfl) fun E' hE' => ?_
  conv => cbv
  (refine st_nil hE' ?_; (conv => cbv); refine st_fld hE' fVf0 fun p hp => ?_; (conv => cbv); refine st_fld hE' fIC0 fun p2 hp2 => ?_; (conv => cbv); refine st_load hE' cIVs (by rw [hp2, hp, add_add]; exact (hb).at _ _ rfl) ?_; clear hp hp2; (conv => cbv))
  (refine st_fld hE' fII1 fun p hp => ?_; (conv => cbv); refine st_load hE' cInt (by rw [hp]; exact (hq).at _ _ rfl) ?_; clear hp; (conv => cbv))
  obtain ⟨gn, hgn2⟩ : ∃ gn : Nat, gg = gn := ⟨gg.toNat, by omega⟩
  obtain ⟨ap, k, z, tx, xs, A8, m8, c8, hA, hpg, hc, _, _⟩ := hpo.get (i := gn) (by have := r1 g; omega)
  refine st_idx hE' sIV hA (by omega) (by have := r1 g; omega) fun q hq1 => ?_
  rw [show gg.toNat = gn by omega] at hq1
  conv => cbv
  refine st_fld hE' fIV0 fun q2 hq2 => ?_
  conv => cbv
  refine st_load hE' cInt (v := .int .i64 k) (by rw [hq2, hq1]; exact hc _ _ rfl) ?_
  conv => cbv
  intro w4 hs4
  conv => cbv
  rw [hR]; refine ⟨hx.trans hs4.ext, k, true, rfl, by simp [fitF, g], fun _ => ?_⟩
  simp [pushF, g, kindF, show gg.toNat = gn by omega, hpg]
 have g1 : o ≠ 1 := by simpa [hE.cmp, cmpR] using g
 clear g
 conv => cbv
 refine br (fun g => ?_) (fun g => ?_)
 ·have g0 := g
  have g : o = 2 := by simpa [hE.cmp, cmpR] using g
  conv => cbv
  have hgn := r2 g
  obtain ⟨gn, hgn2⟩ : ∃ gn : Nat, gg = gn := ⟨gg.toNat, by omega⟩
  refine draw_h [1, 2] [(0, false), (3, false), (4, false), (5, false), (6, true), (7, true)] hr fol (by kernel_rfl) fun E' hE' w0 hs0 S hS => ?_
  conv => cbv
  refine st_fld hE' fII1 fun p hp => ?_
  conv => cbv
  refine st_load hE' cInt (by rw [hp]; exact (hq.bel hs0.ext).at _ _ rfl) ?_
  clear hp
  conv => cbv
  refine st_f hr attributesV_f fun v w5 hx5 ⟨a5, ev, hat⟩ => ?_
  subst ev
  refine ⟨hS _ hx5, ?_⟩
  conv => cbv
  refine st_idx hE sAt rfl (by omega) (by omega) fun p hp => ?_
  rw [show gg.toNat = gn by omega] at hp
  refine ⟨hS _ hx5, ?_⟩
  conv => cbv
  refine st_fld hE fAt1 fun p2 hp2 => ?_
  refine ⟨hS _ hx5, ?_⟩
  conv => cbv
  obtain ⟨z, hz⟩ : ∃ z, z = attrF gn := ⟨_, rfl⟩
  refine st_load hE cInt (v := .int .i64 z) (by rw [hp2, hp, hz]; exact hat gn (by omega)) ?_
  refine ⟨hS _ hx5, ?_⟩
  conv => cbv
  rw [hR]; refine ⟨(hx.trans hs0.ext).trans hx5, z, true, rfl, by simp [fitF, g], fun _ => ?_⟩
  simp [pushF, g, hz, hgn2]
 have g2 : o ≠ 2 := by simpa [hE.cmp, cmpR] using g
 clear g
 conv => cbv
 refine br (fun g => ?_) (fun g => ?_)
 ·have g0 := g
  have g : o = 3 := by simpa [hE.cmp, cmpR] using g
  conv => cbv
  have hgn := r3 (.inl g)
  obtain ⟨gn, hgn2⟩ : ∃ gn : Nat, gg = gn := ⟨gg.toNat, by omega⟩
  refine draw_q hr fol (by kernel_rfl) fun E' hE' => ?_
  conv => cbv
  refine st_nil hE' ?_
  conv => cbv
  (refine st_fld hE' fSta1 fun p hp => ?_; (conv => cbv); refine st_load hE' cInts (by rw [hp]; exact (hsb).at _ _ rfl) ?_; clear hp; (conv => cbv))
  (refine st_fld hE' fII1 fun p hp => ?_; (conv => cbv); refine st_load hE' cInt (by rw [hp]; exact (hq).at _ _ rfl) ?_; clear hp; (conv => cbv))
  refine st_int hE' tInts hrs.b.ints (k := gn) (by omega) (by omega) fun p u hu hp => ?_
  conv => cbv
  refine st_load hE' cInt hp ?_
  conv => cbv
  intro w4 hs4
  conv => cbv
  rw [hR]; refine ⟨hx.trans hs4.ext, u, true, rfl, by simp [fitF, g], fun _ => ?_⟩
  simp [pushF, g, slotF, show gg.toNat = gn by omega, hu]
 have g3 : o ≠ 3 := by simpa [hE.cmp, cmpR] using g
 clear g
 conv => cbv
 refine br (fun g => ?_) (fun g => ?_)
 ·have g0 := g
  have g : o = 4 := by simpa [hE.cmp, cmpR] using g
  conv => cbv
  have hgn := r3 (.inr g)
  obtain ⟨gn, hgn2⟩ : ∃ gn : Nat, gg = gn := ⟨gg.toNat, by omega⟩
  have h51 : n5 = 1 := by rw [g] at hal; rw [← hanl, hal]; decide
  refine draw_q hr fol (by kernel_rfl) fun E' hE' => ?_
  conv => cbv
  refine st_nil hE' ?_
  conv => cbv
  (refine st_fld hE' fSta1 fun p hp => ?_; (conv => cbv); refine st_load hE' cInts (by rw [hp]; exact (hsb).at _ _ rfl) ?_; clear hp; (conv => cbv))
  (refine st_fld hE' fII1 fun p hp => ?_; (conv => cbv); refine st_load hE' cInt (by rw [hp]; exact (hq).at _ _ rfl) ?_; clear hp; (conv => cbv))
  refine st_int hE' tInts hrs.b.ints (k := gn) (by omega) (by omega) fun p u hu hp => ?_
  conv => cbv
  refine st_load hE' cInt hp ?_
  conv => cbv
  have hsu : slotF st.2 gg = u := by simp [slotF, show gg.toNat = gn by omega, hu]
  obtain ⟨q6, hq6⟩ : ∃ q6, q6 = E'.cmp .eql u 0 := ⟨_, rfl⟩
  have hq7 : q6 = true ↔ u = 0 := by rw [hq6, hE'.cmp]; simp [cmpR]
  simp only [← hq6]
  cases q6 with
  | true =>
   have g2 := hq7.1 rfl
   conv => cbv
   intro w4 hs4
   conv => cbv
   rw [hR]; refine ⟨hx.trans hs4.ext, 0, true, rfl, by simp [fitF, g, hsu, g2], fun _ => by simp [pushF, g]⟩
  | false =>
   have g2 : u ≠ 0 := fun q => absurd (hq7.2 q) (by simp)
   conv => cbv
   refine st_nil hE' ?_
   conv => cbv
   (refine st_fld hE' fSta1 fun p hp => ?_; (conv => cbv); refine st_load hE' cInts (by rw [hp]; exact (hsb).at _ _ rfl) ?_; clear hp; (conv => cbv))
   (refine st_fld hE' fII1 fun p hp => ?_; (conv => cbv); refine st_load hE' cInt (by rw [hp]; exact (hq).at _ _ rfl) ?_; clear hp; (conv => cbv))
   refine st_int hE' tInts hrs.b.ints (k := gn) (by omega) (by omega) fun p4 u4 hu4 hp4 => ?_
   rw [hu] at hu4
   cases hu4
   conv => cbv
   refine st_load hE' cInt hp4 ?_
   conv => cbv
   refine st_int hE' tInts ha (k := 0) rfl (by omega) fun p3 y hy hp3 => ?_
   conv => cbv
   refine st_load hE' cInt hp3 ?_
   obtain ⟨q4, hq4⟩ : ∃ q4, q4 = E'.cmp .eql u y := ⟨_, rfl⟩
   have hq5 : q4 = true ↔ u = y := by rw [hq4, hE'.cmp]; simp [cmpR]
   conv => cbv
   simp only [← hq4]
   intro w4 hs4
   conv => cbv
   rw [hR]; refine ⟨hx.trans hs4.ext, 0, q4, rfl, by rw [hq5]; simp [fitF, g, hsu, g2, hy]; exact eq_comm, fun _ => by simp [pushF, g]⟩
 have g4 : o ≠ 4 := by simpa [hE.cmp, cmpR] using g
 clear g
 conv => cbv
 refine br (fun g => ?_) (fun g => ?_)
 ·have g0 := g
  have g : o = 23 := by simpa [hE.cmp, cmpR] using g
  conv => cbv
  have h51 : n5 = 1 := by rw [g] at hal; rw [← hanl, hal]; decide
  refine draw_q hr fol (by kernel_rfl) fun E' hE' => ?_
  conv => cbv
  refine st_int hE' tInts ha (k := 0) rfl (by omega) fun p3 y hy hp3 => ?_
  conv => cbv
  refine st_load hE' cInt hp3 ?_
  obtain ⟨q4, hq4⟩ : ∃ q4, q4 = E'.cmp .eql y 1 := ⟨_, rfl⟩
  have hq5 : q4 = true ↔ y = 1 := by rw [hq4, hE'.cmp]; simp [cmpR]
  conv => cbv
  simp only [← hq4]
  intro w4 hs4
  conv => cbv
  rw [hR]; refine ⟨hx.trans hs4.ext, 0, q4, rfl, by rw [hq5]; simp [fitF, g, hy], fun _ => by simp [pushF, g]⟩
 have g23 : o ≠ 23 := by simpa [hE.cmp, cmpR] using g
 clear g
 conv => cbv
 refine br (fun g => ?_) (fun g => ?_)
 ·have g0 := g
  have g : o = 25 := by simpa [hE.cmp, cmpR] using g
  conv => cbv
  have h51 : n5 = 1 := by rw [g] at hal; rw [← hanl, hal]; decide
  refine draw_q hr fol (by kernel_rfl) fun E' hE' => ?_
  conv => cbv
  refine st_int hE' tInts ha (k := 0) rfl (by omega) fun p3 y hy hp3 => ?_
  conv => cbv
  refine st_load hE' cInt hp3 ?_
  obtain ⟨q4, hq4⟩ : ∃ q4, q4 = E'.cmp .eql y 4 := ⟨_, rfl⟩
  have hq5 : q4 = true ↔ y = 4 := by rw [hq4, hE'.cmp]; simp [cmpR]
  conv => cbv
  simp only [← hq4]
  intro w4 hs4
  conv => cbv
  rw [hR]; refine ⟨hx.trans hs4.ext, 0, q4, rfl, by rw [hq5]; simp [fitF, g, hy], fun _ => by simp [pushF, g]⟩
 have g25 : o ≠ 25 := by simpa [hE.cmp, cmpR] using g
 clear g
 conv => cbv
 refine br (fun g => ?_) (fun g => ?_)
 ·have g0 := g
  have g : o = 22 := by simpa [hE.cmp, cmpR] using g
  conv => cbv
  refine br (fun _ => ?_) (fun q => absurd g0 q)
  conv => cbv
  rw [hR]; exact ⟨hx, 0, true, rfl, by simp [fitF, g], fun _ => by simp [pushF, g]⟩
 have g22 : o ≠ 22 := by simpa [hE.cmp, cmpR] using g
 clear g
 conv => cbv
 refine br (fun g => ?_) (fun g => ?_)
 ·have g0 := g
  have g : o = 24 := by simpa [hE.cmp, cmpR] using g
  conv => cbv
  rw [hR]; exact ⟨hx, 0, true, rfl, by simp [fitF, g], fun _ => by simp [pushF, g]⟩
 have g24 : o ≠ 24 := by simpa [hE.cmp, cmpR] using g
 clear g
 conv => cbv
 have ho5 : 5 ≤ o ∧ o ≤ 21 := by omega
 have hop : oprF o = o + 3 := by unfold oprF; rw [if_pos ho5]
 (refine st_fld hE fII0 fun p hp => ?_; (conv => cbv); refine st_load hE cInt (by rw [hp]; exact (hq).at _ _ rfl) ?_; clear hp; (conv => cbv))
 refine st_f hr (operatorOf_f hT o) fun v w4 hx4 ev => ?_
 rw [hop] at ev
 subst ev
 obtain ⟨o3, ho3⟩ : ∃ z, z = o + 3 := ⟨_, rfl⟩
 rw [← ho3]
 conv => cbv
 refine st_f hr (typeOf_f (ha.ext hx4) o3 (by omega) (by omega) (by rw [ho3, kids_want ho5.1 ho5.2, ← hal, hanl])) fun v w5 hx5 ev => ?_
 subst ev
 obtain ⟨t, ht⟩ : ∃ t, t = typF o3 args := ⟨_, rfl⟩
 rw [← ht]
 conv => cbv
 obtain ⟨q4, hq4⟩ : ∃ q4, q4 = E.cmp .neq t 0 := ⟨_, rfl⟩
 have hq5 : q4 = true ↔ t ≠ 0 := by rw [hq4, hE.cmp]; simp [cmpR]
 simp only [← hq4]
 rw [hR]; refine ⟨(hx.trans hx4).trans hx5, t, q4, rfl, ?_, fun q => ?_⟩
 ·rw [hq5, ht, ho3]; simp [fitF, g4, g23, g25, ho5]
 ·have := hq5.1 q
  rw [ht] at this
  have := row_typ (by omega) (by omega) this
  simp only [pushF]
  rw [if_neg g1, if_neg g2, if_neg g3, if_neg (by omega), ← ho3, ht, this]
theorem zPt : (Tryz.prog.info? 166).map (·.size) = some 1 := by kernel_rfl
theorem uPt : Tryz.prog.underlying 166 = some (.pointer 168) := Tryz.underlying166
def IRep (B : Nat) (w : World) (sl : Int) (ps : List (Option Addr)) (a : Nat) (f : Sts) : Prop :=
 ∀ k p, a ≤ k → ps[k]? = some p → (p = none → f k = none) ∧ ∀ x, p = some x → ∃ st, f k = some st ∧ okSt sl st ∧ StB B w x st
theorem IRep.ext {B : Nat} {w w' : World} {sl : Int} {ps : List (Option Addr)} {a : Nat} {f : Sts} (h : IRep B w sl ps a f) (hx : Ext w w') : IRep B w' sl ps a f := fun k p hk hp =>
 ⟨(h k p hk hp).1, fun x e => by obtain ⟨st, h1, h2, h3⟩ := (h k p hk hp).2 x e; exact ⟨st, h1, h2, h3.ext hx⟩⟩
theorem IRep.above {B : Nat} {w w' : World} {sl : Int} {ps : List (Option Addr)} {a : Nat} {f : Sts} (h : IRep B w sl ps a f) (hx : Above B w w') : IRep B w' sl ps a f := fun k p hk hp =>
 ⟨(h k p hk hp).1, fun x e => by obtain ⟨st, h1, h2, h3⟩ := (h k p hk hp).2 x e; exact ⟨st, h1, h2, h3.above hx⟩⟩
theorem IRep.mono {B : Nat} {w : World} {sl : Int} {ps : List (Option Addr)} {a a' : Nat} {f : Sts} (h : IRep B w sl ps a f) (ha : a ≤ a') : IRep B w sl ps a' f := fun k p hk hp => h k p (by omega) hp
theorem IRep.set {B : Nat} {w : World} {sl : Int} {ps : List (Option Addr)} {a k : Nat} {f : Sts} (h : IRep B w sl ps a f) {x : Addr} {t : St} (hok : okSt sl t) (hx : StB B w x t) : IRep B w sl (ps.set k (some x)) a (fun j => if j = k then some t else f j) := by
 intro j p hj hp
 rw [List.getElem?_set] at hp
 by_cases e : k = j
 ·subst e
  rw [if_pos rfl] at hp
  split at hp
  ·cases hp
   exact ⟨fun q => (by cases q), fun y e => by cases e; exact ⟨t, if_pos rfl, hok, hx⟩⟩
  ·cases hp
 ·rw [if_neg e] at hp
  obtain ⟨h1, h2⟩ := h j p hj hp
  refine ⟨fun q => by simp only; rw [if_neg (Ne.symm e)]; exact h1 q, fun y q => ?_⟩
  obtain ⟨st, h3, h4⟩ := h2 y q
  exact ⟨st, by simp only; rw [if_neg (Ne.symm e)]; exact h3, h4⟩
structure VfR (B B1 : Nat) (w : World) (a : Addr) (A : Option Addr) (n c : Nat) (sl : Int) (A2 : Option Addr) (n2 c2 : Nat) (gs : Nat) (m : Int) (ps : List (Option Addr)) : Prop where
 box : Box B 165 5 w a (vfV A n c sl A2 n2 c2 (some ⟨gs, 0, none⟩) n2 n2 m)
 row : Own B 166 1 w (some ⟨gs, 0, none⟩) n2 n2 (ps.map .pointer)
 apt : Apart (some a) (some ⟨gs, 0, none⟩) ∧ Apart (some ⟨gs, 0, none⟩) (some a)
 abA : ∀ {wa wb : World}, Wr (some a) wa wb → Above B1 wa wb
 abS : ∀ {wa wb : World}, Wr (some ⟨gs, 0, none⟩) wa wb → Above B1 wa wb
 siz : B1 ≤ w.heap.size
theorem VfR.ext {B B1 : Nat} {w w' : World} {a : Addr} {A : Option Addr} {n c : Nat} {sl : Int} {A2 : Option Addr} {n2 c2 gs : Nat} {m : Int} {ps : List (Option Addr)} (h : VfR B B1 w a A n c sl A2 n2 c2 gs m ps) (hx : Ext w w') : VfR B B1 w' a A n c sl A2 n2 c2 gs m ps :=
 ⟨h.box.bel hx, h.row.bel hx, h.apt, h.abA, h.abS, by have := h.siz; have := hx.size; omega⟩
theorem know_g {w : World} {B B1 : Nat} {a : Addr} {A : Option Addr} {n c : Nat} {sl : Int} {A2 : Option Addr} {n2 c2 gs : Nat} {m : Int} {ps : List (Option Addr)} (hv : VfR B B1 w a A n c sl A2 n2 c2 gs m ps) {b : Nat} {f : Sts} (hrep : IRep B1 w sl ps b f)
  {k : Nat} {kk : Int} (hkk : kk = (k : Int)) (hk : b ≤ k) (hk2 : k < n2) {x : Addr} {t : St} (hok : okSt sl t) (hx : StB B1 w x t) :
  GC Tryz.prog 170 [.pointer (some a), .int .i64 kk, .pointer (some x)] w fun v w' => ∃ b' : Bool, v = .bool b' ∧ Bel B w w' ∧ Above B1 w w' ∧ (b' = false → know f k t = none) ∧ (b' = true → ∃ f' ps', know f k t = some f' ∧ VfR B B1 w' a A n c sl A2 n2 c2 gs m ps' ∧ IRep B1 w' sl ps' b f') := by
 refine GC.intro (cs := []) Tryz.func170 (by kernel_rfl) fun E R hE hr hR => ?_
 have hb := hv.box
 have hro := hv.row
 have hpl := hro.len
 rw [List.length_map, Nat.mul_one] at hpl
 obtain ⟨p0, hp0⟩ : ∃ p0, ps[k]? = some p0 := ⟨_, g2_ (by omega)⟩
 have hpk : (ps.map Value.pointer)[k]? = some (.pointer p0) := by rw [List.getElem?_map, hp0]; rfl
 obtain ⟨r1, r2⟩ := hrep k p0 hk hp0
 conv => cbv
 (refine st_nil hE ?_; (conv => cbv); refine st_fld hE fVf1 fun p hp => ?_; (conv => cbv); refine st_load hE cPs (by rw [hp]; exact (hb).at _ _ rfl) ?_; clear hp; (conv => cbv))
 refine st_elem hE sPs hro.cells (by rw [List.length_map]; omega) (by omega) (by omega) fun q v hv1 hq1 => ?_
 rw [show kk.toNat = k by omega, hpk] at hv1
 cases hv1
 conv => cbv
 refine st_load hE cPt hq1 ?_
 conv => cbv
 refine st_pnil hE uPt fun b2 hb2 => ?_
 cases b2 with
 | true =>
  have e0 := hb2.1 rfl
  have hfn := r1 e0
  conv => cbv
  (refine st_nil hE ?_; (conv => cbv); refine st_fld hE fVf1 fun p hp => ?_; (conv => cbv); refine st_load hE cPs (by rw [hp]; exact (hb).at _ _ rfl) ?_; clear hp; (conv => cbv))
  refine st_idx hE sPs rfl (by omega) (by omega) fun q2 hq2 => ?_
  rw [show kk.toNat = k by omega, Nat.mul_one] at hq2
  conv => cbv
  refine st_put hr zPt hro hq2 (by rw [List.length_map]; omega) rfl fun w2 hw2 ho2 => ?_
  conv => cbv
  rw [hR]; refine ⟨true, rfl, hw2.bel hro (by have := hv.siz; have := hro.form; obtain ⟨_, _, h7, h8⟩ := this; omega), hv.abS hw2, fun q => (by cases q), fun _ => ?_⟩
  refine ⟨fun j => if j = k then some t else f j, ps.set k (some x), by rw [know, hfn], ⟨hb.wr hw2 hv.apt.1, by rw [List.map_set]; exact ho2, hv.apt, hv.abA, hv.abS, by have := hv.siz; have := hw2.size; omega⟩, ?_⟩
  exact (hrep.above (hv.abS hw2)).set hok (hx.above (hv.abS hw2))
 | false =>
  cases p0 with
  | none => exact absurd (hb2.2 rfl) (by simp)
  | some y =>
  obtain ⟨u, hfn, hok2, hy⟩ := r2 y rfl
  conv => cbv
  (refine st_nil hE ?_; (conv => cbv); refine st_fld hE fVf1 fun p hp => ?_; (conv => cbv); refine st_load hE cPs (by rw [hp]; exact (hb).at _ _ rfl) ?_; clear hp; (conv => cbv))
  refine st_elem hE sPs hro.cells (by rw [List.length_map]; omega) (by omega) (by omega) fun q2 v hv2 hq2 => ?_
  rw [show kk.toNat = k by omega, hpk] at hv2
  cases hv2
  conv => cbv
  refine st_load hE cPt hq2 ?_
  conv => cbv
  refine st_qb hE (same_q hy hx) fun b3 hb3 w2 hs2 => ?_
  conv => cbv
  rw [hR]; refine ⟨b3, rfl, (RowKit.Below.mono hs2.ext (by have := hv.siz; have := hro.form; obtain ⟨_, _, h7, h8⟩ := this; omega)), hs2.ext.above _, fun q => ?_, fun q => ?_⟩
  ·have : u ≠ t := fun e => by rw [q] at hb3; exact absurd (hb3.2 e) (by simp)
   rw [know, hfn]; simp only; rw [if_neg this]
  ·have e := hb3.1 q
   exact ⟨f, ps, by rw [know, hfn]; simp only; rw [if_pos e], hv.ext hs2.ext, hrep.ext hs2.ext⟩
def oneF (pv : List PV) (sl : Int) (ni a : Nat) (o g : Int) (f : Sts) (m : Int) : Int × Option (Sts × Int) :=
 match f a with
 | none => (2, none)
 | some s =>
  if (stepF pv sl ni a o g s).1 ≠ 0 then ((stepF pv sl ni a o g s).1, none)
  else if goesF o ∧ a + 1 = ni then (8, none)
  else match merge (stepF pv sl ni a o g s).2 (nexts a o g) f with
   | none => (9, none)
   | some f' => (0, some (f', max (max m s.1.length) (stepF pv sl ni a o g s).2.1.length))
theorem verL_cons (pv : List PV) (sl : Int) (ni a : Nat) (o g : Int) (r : List (Int × Int)) (f : Sts) (m : Int) :
  verL pv sl ni ((o, g) :: r) a f m = match oneF pv sl ni a o g f m with
   | (cd, none) => (0, cd)
   | (_, some (f', m')) => verL pv sl ni r (a + 1) f' m' := by
 rw [verL, oneF]
 cases f a with
 | none => rfl
 | some s =>
  simp only
  split
  ·rfl
  split
  ·rfl
  cases merge (stepF pv sl ni a o g s).2 (nexts a o g) f <;> rfl
theorem run_bSta (A A2 : Option Addr) (n c n2 c2 : Nat) (w : World) : (Instr.build 168 #[(0, .slice A n c), (1, .slice A2 n2 c2)]).run Tryz.prog w = .ok (.agg #[.slice A n c, .slice A2 n2 c2]) w := by kernel_rfl
theorem st_bSta {E : Sym} {w : World} {K : Value → World → Prop} {d : Option Tmp} {ty : TypeId} {pos : String} {aft : Array Edge} {g : Option (Nat × Bool)} {bq : Bool} (hE : EngB bq Tryz.prog E) {A A2 : Option Addr} {n c n2 c2 : Nat} {x y : Operand} (hk : K (.agg ⟨[.slice A n c, .slice A2 n2 c2]⟩) w) : E.stop ⟨d, .build 168 ⟨[(0, x), (1, y)]⟩, ty, pos, aft, g⟩ [.slice A n c, .slice A2 n2 c2] w K := by
 refine hE.det (v := .agg ⟨[.slice A n c, .slice A2 n2 c2]⟩) (fun w1 _ ρ hρ => ?_) hk
 simp only [opnds, b2_, b3_, b1_, and_true] at hρ
 have := run_bSta A A2 n c n2 c2 w1
 simp [execOp, hρ, this]
theorem VfR.putm {B B1 : Nat} {w w' : World} {a : Addr} {A : Option Addr} {n c : Nat} {sl : Int} {A2 : Option Addr} {n2 c2 gs : Nat} {m m' : Int} {ps : List (Option Addr)} (h : VfR B B1 w a A n c sl A2 n2 c2 gs m ps) (hw : Wr (some a) w w') (hb : Box B 165 5 w' a (vfV A n c sl A2 n2 c2 (some ⟨gs, 0, none⟩) n2 n2 m')) : VfR B B1 w' a A n c sl A2 n2 c2 gs m' ps :=
 ⟨hb, h.row.wr hw h.apt.2, h.apt, h.abA, h.abS, by have := h.siz; have := hw.size; omega⟩
theorem place_g {w0 w : World} {B1 : Nat} {a : Addr} {A : Option Addr} {n c : Nat} {sl : Int} {A2 : Option Addr} {n2 c2 gs : Nat} {m : Int} {ps : List (Option Addr)} {pv : List PV} {is : List (Int × Int)} (h : CodeR w0 A n A2 n2 pv is) (hT : Tab w0 3 opF) (hx : Ext w0 w) (hB0 : w0.heap.size ≤ B1)
  (hv : VfR w0.heap.size B1 w a A n c sl A2 n2 c2 gs m ps) {i : Nat} {f : Sts} (hrep : IRep B1 w sl ps i f) (hsh : shapeP pv sl is) {ii o gg : Int} (hii : ii = (i : Int)) (hi : i < n2) (hi2 : is[i]? = some (o, gg)) :
  GC Tryz.prog 102 [.pointer (some a), .int .i64 ii] w fun v w' => ∃ cd : Int, v = .int .i64 cd ∧ Ext w0 w' ∧
   ((cd ≠ 0 ∧ oneF pv sl n2 i o gg f m = (cd, none)) ∨ (cd = 0 ∧ ∃ f' m' ps', oneF pv sl n2 i o gg f m = (0, some (f', m')) ∧ VfR w0.heap.size B1 w' a A n c sl A2 n2 c2 gs m' ps' ∧ IRep B1 w' sl ps' (i + 1) f')) := by
 refine GC.intro (cs := []) Tryz.func102 (by kernel_rfl) fun E R hE hr hR => ?_
 have hpk := shape_k hsh
 have hpl := h.pool.len
 obtain ⟨q1, q2, q3, q4, q5, q6⟩ := id hsh
 obtain ⟨o1, o2, g0, _⟩ := q6 _ (m1_ hi2)
 simp only at o1 o2 g0
 have hil := h.ins.len
 obtain ⟨V, hV⟩ : ∃ V, V = oneF pv sl n2 i o gg f m := ⟨_, rfl⟩
 rw [← hV] at hR
 unfold oneF at hV
 conv => cbv
 refine draw_t [0, 1, 2, 3, 4, 5, 6, 7, 8, 9, 10, 11, 12, 13, 14] [(15, true), (16, true), (17, false)] hr fol (by kernel_rfl) fun E' hE' w1 hs1 S hS => ?_
 replace hx := hx.trans hs1.ext
 replace hv := hv.ext hs1.ext
 replace hrep := hrep.ext hs1.ext
 have hpsl := hv.row.len
 rw [List.length_map, Nat.mul_one] at hpsl
 obtain ⟨p0, hp0⟩ : ∃ p0, ps[i]? = some p0 := ⟨_, g2_ (by omega)⟩
 have hpi : (ps.map Value.pointer)[i]? = some (.pointer p0) := by rw [List.getElem?_map, hp0]; rfl
 obtain ⟨r1, r2⟩ := hrep i p0 (n1_ _) hp0
 conv => cbv
 (refine st_nil hE' ?_; (conv => cbv); refine st_fld hE' fVf0 fun p hp => ?_; (conv => cbv); refine st_fld hE' fIC2 fun p2 hp2 => ?_; (conv => cbv); refine st_load hE' cIIs (by rw [hp2, hp, add_add]; exact (hv.box).at _ _ rfl) ?_; clear hp hp2; (conv => cbv))
 obtain ⟨ai, o', g', hA, hg, hc⟩ := (h.ins.ext hx).get hi
 rw [hi2] at hg
 cases hg
 refine st_idx hE' sII hA (by omega) (by omega) fun q hq => ?_
 rw [show ii.toNat = i by omega] at hq
 conv => cbv
 refine st_loadS hE' tII rfl (by rw [hq]; exact hc) ?_
 conv => cbv
 (refine st_nil hE' ?_; (conv => cbv); refine st_fld hE' fVf1 fun p hp => ?_; (conv => cbv); refine st_load hE' cPs (by rw [hp]; exact (hv.box).at _ _ rfl) ?_; clear hp; (conv => cbv))
 refine st_elem hE' sPs hv.row.cells (by rw [List.length_map]; omega) (by omega) (by omega) fun q1 v hv1 hq1 => ?_
 rw [show ii.toNat = i by omega, hpi] at hv1
 cases hv1
 conv => cbv
 refine st_load hE' cPt hq1 ?_
 conv => cbv
 refine st_alloc hr tII rfl fun q2 w2 hx2 hq0 => ?_
 refine ⟨hS _ hx2, ?_⟩
 conv => cbv
 refine st_putS hr (by kernel_rfl) (hq0 B1 hv.siz) (add_zero _).symm (by simp) (by simp [Value.oneCell']) fun w3 hw3 hq3 => ?_
 simp only [a1_, a2_, a3_, a4_, a5_, a6_, a7_] at hq3
 have hx3 : Ext w1 w3 := hx2.then (hw3.bel (hq0 _ (n1_ _)) hx2.size)
 refine ⟨hS _ hx3, ?_⟩
 replace hx := hx.trans hx3
 replace hv := hv.ext hx3
 replace hrep := hrep.ext hx3
 have hq3f : Above B1 w1 w3 := hx3.above _
 clear hq1 hq hc hx2 hq0 hw3
 conv => cbv
 refine st_pnil hE uPt fun b2 hb2 => ?_
 cases b2 with
 | true =>
  rw [r1 (hb2.1 rfl)] at hV
  simp only at hV
  conv => cbv
  rw [hR]; exact ⟨2, rfl, hx, .inl ⟨by decide, by rw [hV]⟩⟩
 | false =>
 cases p0 with
 | none => exact absurd (hb2.2 rfl) (by simp)
 | some x0 =>
 obtain ⟨⟨st1, st2⟩, hf, hok, hstb⟩ := r2 x0 rfl
 replace hstb := hstb.ext hx3
 clear hx3 hq3f r1 r2 hb2
 rw [hf] at hV
 simp only at hV
 have hst := hok.hgt
 have hsl := hok.len
 simp only at hst hsl
 have hwl : popsF o = ((wantF o).length : Int) := pops_want o1 o2
 conv => cbv
 refine st_loadS hE tII rfl hq3.at ?_
 conv => cbv
 refine st_f hr (ranged_f (o := o) (gg := gg) hpl hv.box hii) fun v w4 hx4 ⟨b, ev, hrg⟩ => ?_
 subst ev
 replace hx := hx.trans hx4
 replace hv := hv.ext hx4
 replace hrep := hrep.ext hx4
 replace hstb := hstb.ext hx4
 replace hq3 := hq3.bel hx4
 clear hx4
 obtain ⟨SR, hSR0⟩ : ∃ SR, SR = stepF pv sl n2 i o gg (st1, st2) := ⟨_, rfl⟩
 rw [← hSR0] at hV
 have hSR := hSR0
 unfold stepF at hSR
 cases b with
 | false =>
  have hrg : ¬ rangeF pv.length sl n2 i o gg := fun q => absurd (hrg.2 q) (by simp)
  rw [if_pos hrg] at hSR
  conv => cbv
  rw [hR]; exact ⟨3, rfl, hx, .inl ⟨by decide, by rw [hV, hSR, if_pos (by simp)]⟩⟩
 | true =>
 have hrg := hrg.1 rfl
 rw [if_neg (fun q => q hrg)] at hSR
 obtain ⟨A6, n6, c6, A7, n7, c7, hsb, hrs⟩ := id hstb
 have hn6 := hrs.a.len
 have hn7 := hrs.b.len
 rw [List.length_map, Nat.mul_one] at hn6 hn7
 simp only at hn6 hn7
 conv => cbv
 refine draw_h [0, 1, 2, 3, 4, 5, 6] [(7, false), (8, true), (9, true)] hr fol (by kernel_rfl) fun E' hE' w5 hs5 S hS => ?_
 replace hx := hx.trans hs5.ext
 replace hv := hv.ext hs5.ext
 replace hrep := hrep.ext hs5.ext
 replace hstb := hstb.ext hs5.ext
 replace hrs := hrs.ext hs5.ext
 replace hsb := hsb.bel hs5.ext
 replace hq3 := hq3.bel hs5.ext
 clear hs5
 conv => cbv
 refine st_nil hE' ?_
 conv => cbv
 (refine st_fld hE' fSta0 fun p hp => ?_; (conv => cbv); refine st_load hE' cInts (by rw [hp]; exact (hsb).at _ _ rfl) ?_; clear hp; (conv => cbv))
 refine st_len hE' tInts fun x1 hx1 => ?_
 conv => cbv
 (refine st_fld hE' fII0 fun p hp => ?_; (conv => cbv); refine st_load hE' cInt (by rw [hp]; exact (hq3).at _ _ rfl) ?_; clear hp; (conv => cbv))
 refine st_f hr (pops_f (hT.ext hx) o) fun v w6 hx6 ev => ?_
 subst ev
 refine ⟨hS _ hx6, ?_⟩
 replace hx := hx.trans hx6
 replace hv := hv.ext hx6
 replace hrep := hrep.ext hx6
 replace hstb := hstb.ext hx6
 replace hrs := hrs.ext hx6
 replace hsb := hsb.bel hx6
 replace hq3 := hq3.bel hx6
 clear hx6 hS
 obtain ⟨nn, hnn⟩ : ∃ z, z = x1 - popsF o := ⟨_, rfl⟩
 obtain ⟨po, hpo⟩ : ∃ z, z = popsF o := ⟨_, rfl⟩
 have hpo2 : po ≤ 2 := by
  rw [hpo, hwl]; rcases o25 o1 o2 with rfl | rfl | rfl | rfl | rfl | rfl | rfl | rfl | rfl | rfl | rfl | rfl | rfl | rfl | rfl | rfl | rfl | rfl | rfl | rfl | rfl | rfl | rfl | rfl | rfl <;> decide
 have en : E.ar .sub .i64 x1 po = nn := by rw [hE.ar, hnn, ← hpo, show arR .sub .i64 x1 po = IntKind.i64.wrap (x1 - po) from rfl, wrap_in (by omega) (by omega)]
 rw [← hpo]
 conv => cbv
 simp only [en]
 refine br (fun g => ?_) (fun g => ?_)
 ·have g : nn < 0 := by simpa [hE.cmp, cmpR] using g
  rw [if_pos (show (st1, st2).1.length < (wantF o).length by simp only; omega)] at hSR
  conv => cbv
  rw [hR]; exact ⟨4, rfl, hx, .inl ⟨by decide, by rw [hV, hSR, if_pos (by simp)]⟩⟩
 have g : ¬ nn < 0 := by simpa [hE.cmp, cmpR] using g
 obtain ⟨nb, hnb⟩ : ∃ nb : Nat, nn = nb := ⟨nn.toNat, by omega⟩
 have hnbs : (st1, st2).1.length - (wantF o).length = nb := by simp only; omega
 rw [if_neg (show ¬ (st1, st2).1.length < (wantF o).length by simp only; omega), hnbs] at hSR
 conv => cbv
 refine draw_h [0, 1, 2, 3, 4, 5, 6, 7, 8] [(9, false), (10, true), (11, true), (12, true), (13, true), (14, true)] hr fol (by kernel_rfl) fun E' hE' w7 hs7 S hS => ?_
 replace hx := hx.trans hs7.ext
 replace hv := hv.ext hs7.ext
 replace hrep := hrep.ext hs7.ext
 replace hstb := hstb.ext hs7.ext
 replace hrs := hrs.ext hs7.ext
 replace hsb := hsb.bel hs7.ext
 replace hq3 := hq3.bel hs7.ext
 clear hs7
 conv => cbv
 refine st_loadS hE' tII rfl hq3.at ?_
 conv => cbv
 refine st_nil hE' ?_
 conv => cbv
 (refine st_fld hE' fSta0 fun p hp => ?_; (conv => cbv); refine st_load hE' cInts (by rw [hp]; exact (hsb).at _ _ rfl) ?_; clear hp; (conv => cbv))
 refine st_intsFrom hE' tInts hrs.a.ints hnb (by omega) fun A8 n8 c8 hn8 ha8 => ?_
 conv => cbv
 have hal8 := ha8.len
 refine st_f hr (fits_f (hT.ext hx) (h.pool.ext hx) hv.box o1 o2 g0 hrg hstb hok ha8 (by simp only; rw [List.length_drop]; omega)) fun v w8 hx8 ⟨t, b, ev, hfit, ht⟩ => ?_
 subst ev
 refine ⟨hS _ hx8, ?_⟩
 replace hx := hx.trans hx8
 replace hv := hv.ext hx8
 replace hrep := hrep.ext hx8
 replace hstb := hstb.ext hx8
 replace hrs := hrs.ext hx8
 replace hsb := hsb.bel hx8
 replace hq3 := hq3.bel hx8
 clear hx8 hS ha8
 conv => cbv
 cases b with
 | false =>
  have hfit : ¬ fitF o (slotF st2 gg) (st1.drop nb) := fun q => absurd (hfit.2 q) (by simp)
  rw [if_pos hfit] at hSR
  conv => cbv
  rw [hR]; exact ⟨5, rfl, hx, .inl ⟨by decide, by rw [hV, hSR, if_pos (by simp)]⟩⟩
 | true =>
 have hfit := hfit.1 rfl
 have ht := ht rfl
 simp only at ht
 rw [if_neg (fun q => q hfit)] at hSR
 simp only at hSR
 rw [← ht] at hSR
 have ht0 : 0 ≤ t := by rw [ht]; exact push_nn hpk hok.nn
 conv => cbv
 (refine st_fld hE fII0 fun p hp => ?_; (conv => cbv); refine st_load hE cInt (by rw [hp]; exact (hq3).at _ _ rfl) ?_; clear hp; (conv => cbv))
 refine br (fun g3 => ?_) (fun g3 => ?_)
 ·have g3 : o = 3 := by simpa [hE.cmp, cmpR] using g3
  conv => cbv
  refine br (fun g12 => ?_) (fun g12 => ?_)
  ·have g12 : t = 0 := by simpa [hE.cmp, cmpR] using g12
   rw [if_pos ⟨g3, g12⟩] at hSR
   conv => cbv
   rw [hR]; exact ⟨6, rfl, hx, .inl ⟨by decide, by rw [hV, hSR, if_pos (by simp)]⟩⟩
  have g12 : t ≠ 0 := by simpa [hE.cmp, cmpR] using g12
  rw [if_neg (fun q => g12 q.2)] at hSR
  conv => cbv
  obtain ⟨T, hTd⟩ : ∃ T, T = nextS o gg (st1, st2) nb t := ⟨_, rfl⟩
  rw [← hTd] at hSR
  refine draw_h [1, 2, 3, 4, 5, 6, 8, 9, 10, 11] [(0, false), (7, false), (12, false), (13, false), (14, true)] hr fol (by kernel_rfl) fun E' hE' wS hs9 S hS => ?_
  replace hx := hx.trans hs9.ext
  replace hv := hv.ext hs9.ext
  replace hrep := hrep.ext hs9.ext
  replace hrs := hrs.ext hs9.ext
  replace hsb := hsb.bel hs9.ext
  replace hq3 := hq3.bel hs9.ext
  clear hs9
  have hBS := hv.siz
  conv => cbv
  refine st_nil hE' ?_
  conv => cbv
  (refine st_fld hE' fSta0 fun p hp => ?_; (conv => cbv); refine st_load hE' cInts (by rw [hp]; exact (hsb).at _ _ rfl) ?_; clear hp; (conv => cbv))
  refine st_intsUpto hE' tInts hrs.a.ints hnb (by omega) fun ha8 => ?_
  conv => cbv
  refine st_nil hE' ?_
  conv => cbv
  (refine st_fld hE' fSta1 fun p hp => ?_; (conv => cbv); refine st_load hE' cInts (by rw [hp]; exact (hsb).at _ _ rfl) ?_; clear hp; (conv => cbv))
  refine st_none hr tInts fun A9 w9 hx9 ho9 => ?_
  refine ⟨hS _ hx9, ?_⟩
  conv => cbv
  refine st_apps hr tInts rfl (ho9 _ (n1_ _)) (ha8.ext hx9).cells (by rw [List.length_map]; exact ha8.len) (fun v hv => by obtain ⟨x, _, rfl⟩ := List.mem_map.1 hv; rfl) hx9.size (by omega) (by omega) fun A10 c10 n10 w10 hn10 hw10 o10 => ?_
  rw [Nat.zero_add] at hn10
  replace hn10 := hn10.symm
  subst hn10
  have hy := hx9.then (hw10.bel (ho9 _ (n1_ _)) hx9.size)
  rw [a2_] at o10
  refine ⟨hS _ hy, ?_⟩
  clear ho9 hw10 hx9 ha8
  conv => cbv
  refine st_bSta hE ?_
  refine ⟨hS _ hy, ?_⟩
  conv => cbv
  refine st_box hr fun x10 w11 hx11 hb11 => ?_
  have hs10 := hb11 _ hy.size
  have ap10 := o10.apart (hb11 _ (n1_ _)) (n1_ _)
  replace o10 := o10.bel hx11
  replace hy := hy.trans hx11
  clear hb11 hx11
  refine ⟨hS _ hy, ?_⟩
  clear hS
  conv => cbv
  refine br (fun g15 => ?_) (fun g15 => ?_)
  ·have g15 : t ≠ 0 := by simpa [hE.cmp, cmpR] using g15
   have no4 : o ≠ 4 := fun q => g15 (by rw [ht]; simp [pushF, q])
   conv => cbv
   refine st_nil hE ?_
   conv => cbv
   (refine st_fld hE fSta0 fun p hp => ?_; (conv => cbv); refine st_load hE cInts (by rw [hp]; exact (hs10).at _ _ rfl) ?_; clear hp; (conv => cbv))
   refine st_one hr tInts rfl rfl fun A12 w12 hx12 hc12 => ?_
   replace o10 := o10.bel hx12
   replace hs10 := hs10.bel hx12
   replace hy := hy.trans hx12
   conv => cbv
   refine st_appsG hr tInts rfl o10 hc12 rfl (by simp [Value.oneCell']) hy.size (by omega) (by omega) fun A13 c13 n13 w13 hn13 hw13 o13 hbk => ?_
   subst hn13
   have ap13 := apart_grow hs10 ap10.1 hbk
   rw [show [Value.int .i64 t] = [t].map (Value.int .i64) from rfl, ← List.map_append] at o13
   replace hs10 := hs10.wr hw13 ap10.2
   replace hy := hy.then (hw13.bel o10 hy.size)
   clear hbk hw13 o10 hc12 hx12
   conv => cbv
   refine st_nil hE ?_
   conv => cbv
   refine st_fld hE fSta0 fun p hp => ?_
   conv => cbv
   refine st_put hr zInts hs10 hp (by simp) rfl fun w14 hw14 hs14 => ?_
   simp only [b4_, b5_] at hs14
   replace o13 := o13.wr hw14 ap13
   replace hy := hy.then (hw14.bel hs10 hy.size)
   clear hw14 hp
   conv => cbv
   (refine st_fld hE fII0 fun p hp => ?_; (conv => cbv); refine st_load hE cInt (by rw [hp]; exact ((hq3.bel hy)).at _ _ rfl) ?_; clear hp; (conv => cbv))
   refine br (fun g17 => ?_) (fun g17 => ?_)
   ·have g17 : o = 4 := by simpa [hE.cmp, cmpR] using g17
    exact absurd g17 no4
   have hTe : T = (st1.take nb ++ [t], st2) := by rw [hTd]; simp only [nextS, if_neg g15, if_neg no4]
   have hx10 : StB B1 w14 x10 T := by
    rw [hTe]
    exact ⟨_, _, _, _, _, _, hs14.mono hBS, ⟨by simpa using o13.mono hBS, (hrs.b.bel hy)⟩⟩
   replace hx := hx.trans hy
   replace hv := hv.ext hy
   replace hrep := hrep.ext hy
   replace hrs := hrs.ext hy
   replace hsb := hsb.bel hy
   replace hq3 := hq3.bel hy
   obtain ⟨A20, n20, c20, A21, n21, c21, hs20, hr20⟩ := id hx10
   have hn20 := hr20.a.len
   rw [List.length_map, Nat.mul_one] at hn20
   clear hstb
   conv => cbv
   refine st_nil hE ?_
   conv => cbv
   (refine st_fld hE fSta0 fun p hp => ?_; (conv => cbv); refine st_load hE cInts (by rw [hp]; exact (hs20).at _ _ rfl) ?_; clear hp; (conv => cbv))
   refine st_len hE tInts fun x20 hx20 => ?_
   conv => cbv
   refine br (fun g20 => ?_) (fun g20 => ?_)
   ·have g20 : 100 < x20 := by simpa [hE.cmp, cmpR] using g20
    rw [if_pos (show 100 < T.1.length by omega)] at hSR
    conv => cbv
    rw [hR]; exact ⟨7, rfl, hx, .inl ⟨by decide, by rw [hV, hSR, if_pos (by simp)]⟩⟩
   have g20 : ¬ 100 < x20 := by simpa [hE.cmp, cmpR] using g20
   rw [if_neg (show ¬ 100 < T.1.length by omega)] at hSR
   have hTok : okSt sl T := by
    have := step_ok (sl := sl) (ni := n2) (a := i) (o := o) (g := gg) hpk hok (by rw [← hSR0, hSR])
    rw [← hSR0, hSR] at this
    exact this
   rw [hSR, if_neg (by simp)] at hV
   simp only at hV
   obtain ⟨m2, hm2⟩ : ∃ z, z = max (max m x1) x20 := ⟨_, rfl⟩
   rw [show max (max m (st1.length : Int)) (T.1.length : Int) = m2 by rw [hm2, show (st1.length : Int) = x1 by omega, show (T.1.length : Int) = x20 by omega]] at hV
   conv => cbv
   refine draw_t [0, 1, 2, 3, 4, 5, 6, 7, 8, 9, 10, 11, 12, 13, 14, 15] [(16, false), (17, false), (18, false)] hr fol (by kernel_rfl) fun E' hE' w30 hs30 S hS => ?_
   replace hx := hx.trans hs30.ext
   replace hv := hv.ext hs30.ext
   replace hrep := hrep.ext hs30.ext
   replace hsb := hsb.bel hs30.ext
   replace hq3 := hq3.bel hs30.ext
   replace hs20 := hs20.bel hs30.ext
   replace hx10 := hx10.ext hs30.ext
   clear hs30 hr20 hS
   conv => cbv
   (refine st_nil hE' ?_; (conv => cbv); refine st_fld hE' fVf2 fun p hp => ?_; (conv => cbv); refine st_load hE' cInt (by rw [hp]; exact (hv.box).at _ _ rfl) ?_; clear hp; (conv => cbv))
   refine st_nil hE' ?_
   conv => cbv
   (refine st_fld hE' fSta0 fun p hp => ?_; (conv => cbv); refine st_load hE' cInts (by rw [hp]; exact (hsb).at _ _ rfl) ?_; clear hp; (conv => cbv))
   refine st_len hE' tInts fun x21 hx21 => ?_
   conv => cbv
   refine st_nil hE' ?_
   conv => cbv
   (refine st_fld hE' fSta0 fun p hp => ?_; (conv => cbv); refine st_load hE' cInts (by rw [hp]; exact (hs20).at _ _ rfl) ?_; clear hp; (conv => cbv))
   refine st_len hE' tInts fun x22 hx22 => ?_
   conv => cbv
   refine st_max3 hE' fun m3 hm3 => ?_
   have hm3 : m3 = m2 := by rw [hm3, hm2, hx21, hx22, hx1, hx20]
   subst hm3
   refine st_nil hE ?_
   conv => cbv
   refine st_fld hE fVf2 fun p hp => ?_
   conv => cbv
   refine st_put hr zInt hv.box hp (by simp) rfl fun w31 hw31 hb31 => ?_
   simp only [b4_, b5_] at hb31
   replace hx := hx.then (hw31.bel hv.box hx.size)
   replace hv := hv.putm hw31 hb31
   replace hrep := (hrep.above (hv.abA hw31)).mono (Nat.le_succ i)
   replace hx10 := hx10.above (hv.abA hw31)
   replace hq3 := hq3.above (hv.abA hw31)
   clear hw31 hb31 hp hsb hs20
   conv => cbv
   (refine st_fld hE fII0 fun p hp => ?_; (conv => cbv); refine st_load hE cInt (by rw [hp]; exact (hq3).at _ _ rfl) ?_; clear hp; (conv => cbv))
   refine st_qb hE (goesOn_q o w31) fun bg hbg w32 hs32 => ?_
   replace hx := hx.trans hs32.ext
   replace hv := hv.ext hs32.ext
   replace hrep := hrep.ext hs32.ext
   replace hx10 := hx10.ext hs32.ext
   replace hq3 := hq3.bel hs32.ext
   clear hs32
   obtain ⟨ij, hij⟩ : ∃ z, z = ii + 1 := ⟨_, rfl⟩
   have ei : E.ar .add .i64 ii 1 = ij := by rw [hE.ar, hij]; exact wrap_in (by omega) (by omega)
   cases bg with
   | true =>
    have hgo := hbg.1 rfl
    conv => cbv
    simp only [ei]
    (refine st_nil hE ?_; (conv => cbv); refine st_fld hE fVf0 fun p hp => ?_; (conv => cbv); refine st_fld hE fIC2 fun p2 hp2 => ?_; (conv => cbv); refine st_load hE cIIs (by rw [hp2, hp, add_add]; exact (hv.box).at _ _ rfl) ?_; clear hp hp2; (conv => cbv))
    refine st_len hE sII fun x30 hx30 => ?_
    conv => cbv
    refine br (fun g30 => ?_) (fun g30 => ?_)
    ·have g30 : ij = x30 := by simpa [hE.cmp, cmpR] using g30
     rw [if_pos ⟨hgo, by omega⟩] at hV
     conv => cbv
     rw [hR]; exact ⟨8, rfl, hx, .inl ⟨by decide, by rw [hV]⟩⟩
    have g30 : ij ≠ x30 := by simpa [hE.cmp, cmpR] using g30
    rw [if_neg (fun q => g30 (by have := q.2; omega))] at hV
    conv => cbv
    (refine st_fld hE fII0 fun p hp => ?_; (conv => cbv); refine st_load hE cInt (by rw [hp]; exact (hq3).at _ _ rfl) ?_; clear hp; (conv => cbv))
    refine st_qb hE (goesOn_q o w32) fun bg2 hbg2 w33 hs33 => ?_
    replace hx := hx.trans hs33.ext
    replace hv := hv.ext hs33.ext
    replace hrep := hrep.ext hs33.ext
    replace hx10 := hx10.ext hs33.ext
    replace hq3 := hq3.bel hs33.ext
    clear hs33
    have : bg2 = true := hbg2.2 hgo
    subst this
    conv => cbv
    simp only [ei]
    refine st_g hr (know_g hv hrep (k := i + 1) (kk := ij) (by omega) (n1_ _) (by omega) hTok hx10) fun v w34 ⟨b34, ev, hbl, hab, hkf, hkt⟩ => ?_
    subst ev
    replace hx := hx.then hbl
    cases b34 with
    | false =>
     have hkf := hkf rfl
     have hnx : merge T (nexts i o gg) f = none := by
      unfold nexts
      rw [if_neg (by obtain ⟨z1, z2, z3⟩ := hgo; omega), if_neg hgo.1]
      split <;> simp only [merge, show ((i : Int) + 1).toNat = i + 1 by omega, hkf]
     conv => cbv
     rw [hR]; exact ⟨9, rfl, hx, .inl ⟨by decide, by rw [hV, hnx]⟩⟩
    | true =>
    obtain ⟨f2, ps2, hkn, hv2, hrep2⟩ := hkt rfl
    replace hx10 := hx10.above hab
    replace hq3 := hq3.above hab
    clear hrep hv hab
    conv => cbv
    (refine st_fld hE fII0 fun p hp => ?_; (conv => cbv); refine st_load hE cInt (by rw [hp]; exact (hq3).at _ _ rfl) ?_; clear hp; (conv => cbv))
    refine br (fun g31 => ?_) (fun g31 => ?_)
    ·have g31 : o = 22 := by simpa [hE.cmp, cmpR] using g31
     exact absurd g31 hgo.1
    conv => cbv
    (refine st_fld hE fII0 fun p hp => ?_; (conv => cbv); refine st_load hE cInt (by rw [hp]; exact (hq3).at _ _ rfl) ?_; clear hp; (conv => cbv))
    refine br (fun g32 => ?_) (fun g32 => ?_)
    ·have g32 : o = 23 := by simpa [hE.cmp, cmpR] using g32
     have hgb := hrg.2.2.2 (.inr g32)
     conv => cbv
     (refine st_fld hE fII1 fun p hp => ?_; (conv => cbv); refine st_load hE cInt (by rw [hp]; exact (hq3).at _ _ rfl) ?_; clear hp; (conv => cbv))
     refine st_g hr (know_g hv2 hrep2 (k := gg.toNat) (kk := gg) (by omega) (by omega) (by omega) hTok hx10) fun v w35 ⟨b35, ev, hbl2, hab2, hkf2, hkt2⟩ => ?_
     subst ev
     replace hx := hx.then hbl2
     have hnx : merge T (nexts i o gg) f = match know f2 gg.toNat T with | none => none | some f' => some f' := by
      unfold nexts
      rw [if_neg (by omega), if_neg (by omega), if_pos g32]
      simp only [merge, show ((i : Int) + 1).toNat = i + 1 by omega, hkn]
      cases know f2 gg.toNat T <;> rfl
     cases b35 with
     | false =>
      rw [hkf2 rfl] at hnx
      conv => cbv
      rw [hR]; exact ⟨9, rfl, hx, .inl ⟨by decide, by rw [hV, hnx]⟩⟩
     | true =>
     obtain ⟨f3, ps3, hkn3, hv3, hrep3⟩ := hkt2 rfl
     rw [hkn3] at hnx
     conv => cbv
     rw [hR]; exact ⟨0, rfl, hx, .inr ⟨rfl, f3, m3, ps3, by rw [hV, hnx], hv3, hrep3⟩⟩
    have g32 : o ≠ 23 := by simpa [hE.cmp, cmpR] using g32
    have hnx : merge T (nexts i o gg) f = some f2 := by
     unfold nexts
     rw [if_neg (by obtain ⟨z1, z2, z3⟩ := hgo; omega), if_neg hgo.1, if_neg g32]
     simp only [merge, show ((i : Int) + 1).toNat = i + 1 by omega, hkn]
    conv => cbv
    rw [hR]; exact ⟨0, rfl, hx, .inr ⟨rfl, f2, m3, ps2, by rw [hV, hnx], hv2, hrep2⟩⟩
   | false =>
    have hgo : ¬ goesF o := fun q => absurd (hbg.2 q) (by simp)
    rw [if_neg (fun q => hgo q.1)] at hV
    conv => cbv
    (refine st_fld hE fII0 fun p hp => ?_; (conv => cbv); refine st_load hE cInt (by rw [hp]; exact (hq3).at _ _ rfl) ?_; clear hp; (conv => cbv))
    refine st_qb hE (goesOn_q o w32) fun bg2 hbg2 w33 hs33 => ?_
    replace hx := hx.trans hs33.ext
    replace hv := hv.ext hs33.ext
    replace hrep := hrep.ext hs33.ext
    replace hx10 := hx10.ext hs33.ext
    replace hq3 := hq3.bel hs33.ext
    clear hs33
    have : bg2 = false := by
     cases bg2 with
     | false => rfl
     | true => exact absurd (hbg2.1 rfl) hgo
    subst this
    conv => cbv
    (refine st_fld hE fII0 fun p hp => ?_; (conv => cbv); refine st_load hE cInt (by rw [hp]; exact (hq3).at _ _ rfl) ?_; clear hp; (conv => cbv))
    refine br (fun g31 => ?_) (fun g31 => ?_)
    ·have g31 : o = 22 := by simpa [hE.cmp, cmpR] using g31
     have hgb := hrg.2.2.2 (.inl g31)
     conv => cbv
     (refine st_fld hE fII1 fun p hp => ?_; (conv => cbv); refine st_load hE cInt (by rw [hp]; exact (hq3).at _ _ rfl) ?_; clear hp; (conv => cbv))
     refine st_g hr (know_g hv hrep (k := gg.toNat) (kk := gg) (by omega) (by omega) (by omega) hTok hx10) fun v w35 ⟨b35, ev, hbl2, hab2, hkf2, hkt2⟩ => ?_
     subst ev
     replace hx := hx.then hbl2
     have hnx : merge T (nexts i o gg) f = match know f gg.toNat T with | none => none | some f' => some f' := by
      unfold nexts
      rw [if_neg (by omega), if_pos g31]
      simp only [merge]
      cases know f gg.toNat T <;> rfl
     cases b35 with
     | false =>
      rw [hkf2 rfl] at hnx
      conv => cbv
      rw [hR]; exact ⟨9, rfl, hx, .inl ⟨by decide, by rw [hV, hnx]⟩⟩
     | true =>
     obtain ⟨f3, ps3, hkn3, hv3, hrep3⟩ := hkt2 rfl
     rw [hkn3] at hnx
     conv => cbv
     rw [hR]; exact ⟨0, rfl, hx, .inr ⟨rfl, f3, m3, ps3, by rw [hV, hnx], hv3, hrep3⟩⟩
    have g31 : o ≠ 22 := by simpa [hE.cmp, cmpR] using g31
    conv => cbv
    (refine st_fld hE fII0 fun p hp => ?_; (conv => cbv); refine st_load hE cInt (by rw [hp]; exact (hq3).at _ _ rfl) ?_; clear hp; (conv => cbv))
    refine br (fun g32 => ?_) (fun g32 => ?_)
    ·have g32 : o = 23 := by simpa [hE.cmp, cmpR] using g32
     exact absurd (show goesF o by unfold goesF; omega) hgo
    have hnx : merge T (nexts i o gg) f = some f := by
     unfold nexts
     rw [if_pos (by unfold goesF at hgo; omega)]
     rfl
    conv => cbv
    rw [hR]; exact ⟨0, rfl, hx, .inr ⟨rfl, f, m3, ps, by rw [hV, hnx], hv, hrep⟩⟩
  ·have g15 : t = 0 := by simpa [hE.cmp, cmpR] using g15
   exact absurd g15 g12
 have g3 : o ≠ 3 := by simpa [hE.cmp, cmpR] using g3
 rw [if_neg (fun q => g3 q.1)] at hSR
 conv => cbv
 obtain ⟨T, hTd⟩ : ∃ T, T = nextS o gg (st1, st2) nb t := ⟨_, rfl⟩
 rw [← hTd] at hSR
 refine draw_h [1, 2, 3, 4, 5, 6, 8, 9, 10, 11] [(0, false), (7, false), (12, false), (13, false), (14, true)] hr fol (by kernel_rfl) fun E' hE' wS hs9 S hS => ?_
 replace hx := hx.trans hs9.ext
 replace hv := hv.ext hs9.ext
 replace hrep := hrep.ext hs9.ext
 replace hrs := hrs.ext hs9.ext
 replace hsb := hsb.bel hs9.ext
 replace hq3 := hq3.bel hs9.ext
 clear hs9
 have hBS := hv.siz
 conv => cbv
 refine st_nil hE' ?_
 conv => cbv
 (refine st_fld hE' fSta0 fun p hp => ?_; (conv => cbv); refine st_load hE' cInts (by rw [hp]; exact (hsb).at _ _ rfl) ?_; clear hp; (conv => cbv))
 refine st_intsUpto hE' tInts hrs.a.ints hnb (by omega) fun ha8 => ?_
 conv => cbv
 refine st_nil hE' ?_
 conv => cbv
 (refine st_fld hE' fSta1 fun p hp => ?_; (conv => cbv); refine st_load hE' cInts (by rw [hp]; exact (hsb).at _ _ rfl) ?_; clear hp; (conv => cbv))
 refine st_none hr tInts fun A9 w9 hx9 ho9 => ?_
 refine ⟨hS _ hx9, ?_⟩
 conv => cbv
 refine st_apps hr tInts rfl (ho9 _ (n1_ _)) (ha8.ext hx9).cells (by rw [List.length_map]; exact ha8.len) (fun v hv => by obtain ⟨x, _, rfl⟩ := List.mem_map.1 hv; rfl) hx9.size (by omega) (by omega) fun A10 c10 n10 w10 hn10 hw10 o10 => ?_
 rw [Nat.zero_add] at hn10
 replace hn10 := hn10.symm
 subst hn10
 have hy := hx9.then (hw10.bel (ho9 _ (n1_ _)) hx9.size)
 rw [a2_] at o10
 refine ⟨hS _ hy, ?_⟩
 clear ho9 hw10 hx9 ha8
 conv => cbv
 refine st_bSta hE ?_
 refine ⟨hS _ hy, ?_⟩
 conv => cbv
 refine st_box hr fun x10 w11 hx11 hb11 => ?_
 have hs10 := hb11 _ hy.size
 have ap10 := o10.apart (hb11 _ (n1_ _)) (n1_ _)
 replace o10 := o10.bel hx11
 replace hy := hy.trans hx11
 clear hb11 hx11
 refine ⟨hS _ hy, ?_⟩
 clear hS
 conv => cbv
 refine br (fun g15 => ?_) (fun g15 => ?_)
 ·have g15 : t ≠ 0 := by simpa [hE.cmp, cmpR] using g15
  have no4 : o ≠ 4 := fun q => g15 (by rw [ht]; simp [pushF, q])
  conv => cbv
  refine st_nil hE ?_
  conv => cbv
  (refine st_fld hE fSta0 fun p hp => ?_; (conv => cbv); refine st_load hE cInts (by rw [hp]; exact (hs10).at _ _ rfl) ?_; clear hp; (conv => cbv))
  refine st_one hr tInts rfl rfl fun A12 w12 hx12 hc12 => ?_
  replace o10 := o10.bel hx12
  replace hs10 := hs10.bel hx12
  replace hy := hy.trans hx12
  conv => cbv
  refine st_appsG hr tInts rfl o10 hc12 rfl (by simp [Value.oneCell']) hy.size (by omega) (by omega) fun A13 c13 n13 w13 hn13 hw13 o13 hbk => ?_
  subst hn13
  have ap13 := apart_grow hs10 ap10.1 hbk
  rw [show [Value.int .i64 t] = [t].map (Value.int .i64) from rfl, ← List.map_append] at o13
  replace hs10 := hs10.wr hw13 ap10.2
  replace hy := hy.then (hw13.bel o10 hy.size)
  clear hbk hw13 o10 hc12 hx12
  conv => cbv
  refine st_nil hE ?_
  conv => cbv
  refine st_fld hE fSta0 fun p hp => ?_
  conv => cbv
  refine st_put hr zInts hs10 hp (by simp) rfl fun w14 hw14 hs14 => ?_
  simp only [b4_, b5_] at hs14
  replace o13 := o13.wr hw14 ap13
  replace hy := hy.then (hw14.bel hs10 hy.size)
  clear hw14 hp
  conv => cbv
  (refine st_fld hE fII0 fun p hp => ?_; (conv => cbv); refine st_load hE cInt (by rw [hp]; exact ((hq3.bel hy)).at _ _ rfl) ?_; clear hp; (conv => cbv))
  refine br (fun g17 => ?_) (fun g17 => ?_)
  ·have g17 : o = 4 := by simpa [hE.cmp, cmpR] using g17
   exact absurd g17 no4
  have hTe : T = (st1.take nb ++ [t], st2) := by rw [hTd]; simp only [nextS, if_neg g15, if_neg no4]
  have hx10 : StB B1 w14 x10 T := by
   rw [hTe]
   exact ⟨_, _, _, _, _, _, hs14.mono hBS, ⟨by simpa using o13.mono hBS, (hrs.b.bel hy)⟩⟩
  replace hx := hx.trans hy
  replace hv := hv.ext hy
  replace hrep := hrep.ext hy
  replace hrs := hrs.ext hy
  replace hsb := hsb.bel hy
  replace hq3 := hq3.bel hy
  obtain ⟨A20, n20, c20, A21, n21, c21, hs20, hr20⟩ := id hx10
  have hn20 := hr20.a.len
  rw [List.length_map, Nat.mul_one] at hn20
  clear hstb
  conv => cbv
  refine st_nil hE ?_
  conv => cbv
  (refine st_fld hE fSta0 fun p hp => ?_; (conv => cbv); refine st_load hE cInts (by rw [hp]; exact (hs20).at _ _ rfl) ?_; clear hp; (conv => cbv))
  refine st_len hE tInts fun x20 hx20 => ?_
  conv => cbv
  refine br (fun g20 => ?_) (fun g20 => ?_)
  ·have g20 : 100 < x20 := by simpa [hE.cmp, cmpR] using g20
   rw [if_pos (show 100 < T.1.length by omega)] at hSR
   conv => cbv
   rw [hR]; exact ⟨7, rfl, hx, .inl ⟨by decide, by rw [hV, hSR, if_pos (by simp)]⟩⟩
  have g20 : ¬ 100 < x20 := by simpa [hE.cmp, cmpR] using g20
  rw [if_neg (show ¬ 100 < T.1.length by omega)] at hSR
  have hTok : okSt sl T := by
   have := step_ok (sl := sl) (ni := n2) (a := i) (o := o) (g := gg) hpk hok (by rw [← hSR0, hSR])
   rw [← hSR0, hSR] at this
   exact this
  rw [hSR, if_neg (by simp)] at hV
  simp only at hV
  obtain ⟨m2, hm2⟩ : ∃ z, z = max (max m x1) x20 := ⟨_, rfl⟩
  rw [show max (max m (st1.length : Int)) (T.1.length : Int) = m2 by rw [hm2, show (st1.length : Int) = x1 by omega, show (T.1.length : Int) = x20 by omega]] at hV
  conv => cbv
  refine draw_t [0, 1, 2, 3, 4, 5, 6, 7, 8, 9, 10, 11, 12, 13, 14, 15] [(16, false), (17, false), (18, false)] hr fol (by kernel_rfl) fun E' hE' w30 hs30 S hS => ?_
  replace hx := hx.trans hs30.ext
  replace hv := hv.ext hs30.ext
  replace hrep := hrep.ext hs30.ext
  replace hsb := hsb.bel hs30.ext
  replace hq3 := hq3.bel hs30.ext
  replace hs20 := hs20.bel hs30.ext
  replace hx10 := hx10.ext hs30.ext
  clear hs30 hr20 hS
  conv => cbv
  (refine st_nil hE' ?_; (conv => cbv); refine st_fld hE' fVf2 fun p hp => ?_; (conv => cbv); refine st_load hE' cInt (by rw [hp]; exact (hv.box).at _ _ rfl) ?_; clear hp; (conv => cbv))
  refine st_nil hE' ?_
  conv => cbv
  (refine st_fld hE' fSta0 fun p hp => ?_; (conv => cbv); refine st_load hE' cInts (by rw [hp]; exact (hsb).at _ _ rfl) ?_; clear hp; (conv => cbv))
  refine st_len hE' tInts fun x21 hx21 => ?_
  conv => cbv
  refine st_nil hE' ?_
  conv => cbv
  (refine st_fld hE' fSta0 fun p hp => ?_; (conv => cbv); refine st_load hE' cInts (by rw [hp]; exact (hs20).at _ _ rfl) ?_; clear hp; (conv => cbv))
  refine st_len hE' tInts fun x22 hx22 => ?_
  conv => cbv
  refine st_max3 hE' fun m3 hm3 => ?_
  have hm3 : m3 = m2 := by rw [hm3, hm2, hx21, hx22, hx1, hx20]
  subst hm3
  refine st_nil hE ?_
  conv => cbv
  refine st_fld hE fVf2 fun p hp => ?_
  conv => cbv
  refine st_put hr zInt hv.box hp (by simp) rfl fun w31 hw31 hb31 => ?_
  simp only [b4_, b5_] at hb31
  replace hx := hx.then (hw31.bel hv.box hx.size)
  replace hv := hv.putm hw31 hb31
  replace hrep := (hrep.above (hv.abA hw31)).mono (Nat.le_succ i)
  replace hx10 := hx10.above (hv.abA hw31)
  replace hq3 := hq3.above (hv.abA hw31)
  clear hw31 hb31 hp hsb hs20
  conv => cbv
  (refine st_fld hE fII0 fun p hp => ?_; (conv => cbv); refine st_load hE cInt (by rw [hp]; exact (hq3).at _ _ rfl) ?_; clear hp; (conv => cbv))
  refine st_qb hE (goesOn_q o w31) fun bg hbg w32 hs32 => ?_
  replace hx := hx.trans hs32.ext
  replace hv := hv.ext hs32.ext
  replace hrep := hrep.ext hs32.ext
  replace hx10 := hx10.ext hs32.ext
  replace hq3 := hq3.bel hs32.ext
  clear hs32
  obtain ⟨ij, hij⟩ : ∃ z, z = ii + 1 := ⟨_, rfl⟩
  have ei : E.ar .add .i64 ii 1 = ij := by rw [hE.ar, hij]; exact wrap_in (by omega) (by omega)
  cases bg with
  | true =>
   have hgo := hbg.1 rfl
   conv => cbv
   simp only [ei]
   (refine st_nil hE ?_; (conv => cbv); refine st_fld hE fVf0 fun p hp => ?_; (conv => cbv); refine st_fld hE fIC2 fun p2 hp2 => ?_; (conv => cbv); refine st_load hE cIIs (by rw [hp2, hp, add_add]; exact (hv.box).at _ _ rfl) ?_; clear hp hp2; (conv => cbv))
   refine st_len hE sII fun x30 hx30 => ?_
   conv => cbv
   refine br (fun g30 => ?_) (fun g30 => ?_)
   ·have g30 : ij = x30 := by simpa [hE.cmp, cmpR] using g30
    rw [if_pos ⟨hgo, by omega⟩] at hV
    conv => cbv
    rw [hR]; exact ⟨8, rfl, hx, .inl ⟨by decide, by rw [hV]⟩⟩
   have g30 : ij ≠ x30 := by simpa [hE.cmp, cmpR] using g30
   rw [if_neg (fun q => g30 (by have := q.2; omega))] at hV
   conv => cbv
   (refine st_fld hE fII0 fun p hp => ?_; (conv => cbv); refine st_load hE cInt (by rw [hp]; exact (hq3).at _ _ rfl) ?_; clear hp; (conv => cbv))
   refine st_qb hE (goesOn_q o w32) fun bg2 hbg2 w33 hs33 => ?_
   replace hx := hx.trans hs33.ext
   replace hv := hv.ext hs33.ext
   replace hrep := hrep.ext hs33.ext
   replace hx10 := hx10.ext hs33.ext
   replace hq3 := hq3.bel hs33.ext
   clear hs33
   have : bg2 = true := hbg2.2 hgo
   subst this
   conv => cbv
   simp only [ei]
   refine st_g hr (know_g hv hrep (k := i + 1) (kk := ij) (by omega) (n1_ _) (by omega) hTok hx10) fun v w34 ⟨b34, ev, hbl, hab, hkf, hkt⟩ => ?_
   subst ev
   replace hx := hx.then hbl
   cases b34 with
   | false =>
    have hkf := hkf rfl
    have hnx : merge T (nexts i o gg) f = none := by
     unfold nexts
     rw [if_neg (by obtain ⟨z1, z2, z3⟩ := hgo; omega), if_neg hgo.1]
     split <;> simp only [merge, show ((i : Int) + 1).toNat = i + 1 by omega, hkf]
    conv => cbv
    rw [hR]; exact ⟨9, rfl, hx, .inl ⟨by decide, by rw [hV, hnx]⟩⟩
   | true =>
   obtain ⟨f2, ps2, hkn, hv2, hrep2⟩ := hkt rfl
   replace hx10 := hx10.above hab
   replace hq3 := hq3.above hab
   clear hrep hv hab
   conv => cbv
   (refine st_fld hE fII0 fun p hp => ?_; (conv => cbv); refine st_load hE cInt (by rw [hp]; exact (hq3).at _ _ rfl) ?_; clear hp; (conv => cbv))
   refine br (fun g31 => ?_) (fun g31 => ?_)
   ·have g31 : o = 22 := by simpa [hE.cmp, cmpR] using g31
    exact absurd g31 hgo.1
   conv => cbv
   (refine st_fld hE fII0 fun p hp => ?_; (conv => cbv); refine st_load hE cInt (by rw [hp]; exact (hq3).at _ _ rfl) ?_; clear hp; (conv => cbv))
   refine br (fun g32 => ?_) (fun g32 => ?_)
   ·have g32 : o = 23 := by simpa [hE.cmp, cmpR] using g32
    have hgb := hrg.2.2.2 (.inr g32)
    conv => cbv
    (refine st_fld hE fII1 fun p hp => ?_; (conv => cbv); refine st_load hE cInt (by rw [hp]; exact (hq3).at _ _ rfl) ?_; clear hp; (conv => cbv))
    refine st_g hr (know_g hv2 hrep2 (k := gg.toNat) (kk := gg) (by omega) (by omega) (by omega) hTok hx10) fun v w35 ⟨b35, ev, hbl2, hab2, hkf2, hkt2⟩ => ?_
    subst ev
    replace hx := hx.then hbl2
    have hnx : merge T (nexts i o gg) f = match know f2 gg.toNat T with | none => none | some f' => some f' := by
     unfold nexts
     rw [if_neg (by omega), if_neg (by omega), if_pos g32]
     simp only [merge, show ((i : Int) + 1).toNat = i + 1 by omega, hkn]
     cases know f2 gg.toNat T <;> rfl
    cases b35 with
    | false =>
     rw [hkf2 rfl] at hnx
     conv => cbv
     rw [hR]; exact ⟨9, rfl, hx, .inl ⟨by decide, by rw [hV, hnx]⟩⟩
    | true =>
    obtain ⟨f3, ps3, hkn3, hv3, hrep3⟩ := hkt2 rfl
    rw [hkn3] at hnx
    conv => cbv
    rw [hR]; exact ⟨0, rfl, hx, .inr ⟨rfl, f3, m3, ps3, by rw [hV, hnx], hv3, hrep3⟩⟩
   have g32 : o ≠ 23 := by simpa [hE.cmp, cmpR] using g32
   have hnx : merge T (nexts i o gg) f = some f2 := by
    unfold nexts
    rw [if_neg (by obtain ⟨z1, z2, z3⟩ := hgo; omega), if_neg hgo.1, if_neg g32]
    simp only [merge, show ((i : Int) + 1).toNat = i + 1 by omega, hkn]
   conv => cbv
   rw [hR]; exact ⟨0, rfl, hx, .inr ⟨rfl, f2, m3, ps2, by rw [hV, hnx], hv2, hrep2⟩⟩
  | false =>
   have hgo : ¬ goesF o := fun q => absurd (hbg.2 q) (by simp)
   rw [if_neg (fun q => hgo q.1)] at hV
   conv => cbv
   (refine st_fld hE fII0 fun p hp => ?_; (conv => cbv); refine st_load hE cInt (by rw [hp]; exact (hq3).at _ _ rfl) ?_; clear hp; (conv => cbv))
   refine st_qb hE (goesOn_q o w32) fun bg2 hbg2 w33 hs33 => ?_
   replace hx := hx.trans hs33.ext
   replace hv := hv.ext hs33.ext
   replace hrep := hrep.ext hs33.ext
   replace hx10 := hx10.ext hs33.ext
   replace hq3 := hq3.bel hs33.ext
   clear hs33
   have : bg2 = false := by
    cases bg2 with
    | false => rfl
    | true => exact absurd (hbg2.1 rfl) hgo
   subst this
   conv => cbv
   (refine st_fld hE fII0 fun p hp => ?_; (conv => cbv); refine st_load hE cInt (by rw [hp]; exact (hq3).at _ _ rfl) ?_; clear hp; (conv => cbv))
   refine br (fun g31 => ?_) (fun g31 => ?_)
   ·have g31 : o = 22 := by simpa [hE.cmp, cmpR] using g31
    have hgb := hrg.2.2.2 (.inl g31)
    conv => cbv
    (refine st_fld hE fII1 fun p hp => ?_; (conv => cbv); refine st_load hE cInt (by rw [hp]; exact (hq3).at _ _ rfl) ?_; clear hp; (conv => cbv))
    refine st_g hr (know_g hv hrep (k := gg.toNat) (kk := gg) (by omega) (by omega) (by omega) hTok hx10) fun v w35 ⟨b35, ev, hbl2, hab2, hkf2, hkt2⟩ => ?_
    subst ev
    replace hx := hx.then hbl2
    have hnx : merge T (nexts i o gg) f = match know f gg.toNat T with | none => none | some f' => some f' := by
     unfold nexts
     rw [if_neg (by omega), if_pos g31]
     simp only [merge]
     cases know f gg.toNat T <;> rfl
    cases b35 with
    | false =>
     rw [hkf2 rfl] at hnx
     conv => cbv
     rw [hR]; exact ⟨9, rfl, hx, .inl ⟨by decide, by rw [hV, hnx]⟩⟩
    | true =>
    obtain ⟨f3, ps3, hkn3, hv3, hrep3⟩ := hkt2 rfl
    rw [hkn3] at hnx
    conv => cbv
    rw [hR]; exact ⟨0, rfl, hx, .inr ⟨rfl, f3, m3, ps3, by rw [hV, hnx], hv3, hrep3⟩⟩
   have g31 : o ≠ 22 := by simpa [hE.cmp, cmpR] using g31
   conv => cbv
   (refine st_fld hE fII0 fun p hp => ?_; (conv => cbv); refine st_load hE cInt (by rw [hp]; exact (hq3).at _ _ rfl) ?_; clear hp; (conv => cbv))
   refine br (fun g32 => ?_) (fun g32 => ?_)
   ·have g32 : o = 23 := by simpa [hE.cmp, cmpR] using g32
    exact absurd (show goesF o by unfold goesF; omega) hgo
   have hnx : merge T (nexts i o gg) f = some f := by
    unfold nexts
    rw [if_pos (by unfold goesF at hgo; omega)]
    rfl
   conv => cbv
   rw [hR]; exact ⟨0, rfl, hx, .inr ⟨rfl, f, m3, ps, by rw [hV, hnx], hv, hrep⟩⟩
 have g15 : t = 0 := by simpa [hE.cmp, cmpR] using g15
 conv => cbv
 (refine st_fld hE fII0 fun p hp => ?_; (conv => cbv); refine st_load hE cInt (by rw [hp]; exact ((hq3.bel hy)).at _ _ rfl) ?_; clear hp; (conv => cbv))
 refine br (fun g17 => ?_) (fun g17 => ?_)
 ·have g17 : o = 4 := by simpa [hE.cmp, cmpR] using g17
  have hgb := hrg.2.2.1 (.inr g17)
  conv => cbv
  refine st_none hr tInts fun A15 w15 hx15 ho15 => ?_
  conv => cbv
  refine st_nil hE ?_
  conv => cbv
  (refine st_fld hE fSta1 fun p hp => ?_; (conv => cbv); refine st_load hE cInts (by rw [hp]; exact ((hsb.bel (hy.trans hx15))).at _ _ rfl) ?_; clear hp; (conv => cbv))
  refine st_apps hr tInts rfl (ho15 _ (n1_ _)) (hrs.b.bel (hy.trans hx15)).cells (by rw [List.length_map]; exact hn7) (by simp [Value.oneCell']) hx15.size (by omega) (by omega) fun A16 c16 n16 w16 hn16 hw16 o16 => ?_
  rw [Nat.zero_add] at hn16
  replace hn16 := hn16.symm
  subst hn16
  have hz := hx15.then (hw16.bel (ho15 _ (n1_ _)) hx15.size)
  rw [a2_] at o16
  have ap16 := hs10.apart o16 (n1_ _)
  have aq16 := o10.apart o16 (n1_ _)
  replace o16 := o16.mono hy.size
  replace o10 := o10.bel hz
  replace hs10 := hs10.bel hz
  replace hy := hy.trans hz
  clear hz hw16 ho15 hx15
  conv => cbv
  refine st_nil hE ?_
  conv => cbv
  refine st_fld hE fSta1 fun p hp => ?_
  conv => cbv
  refine st_put hr zInts hs10 hp (by simp) rfl fun w17 hw17 hs17 => ?_
  simp only [b4_, b5_] at hs17
  replace o16 := o16.wr hw17 ap16.2
  replace o10 := o10.wr hw17 ap10.1
  replace hy := hy.then (hw17.bel hs10 hy.size)
  clear hw17 hp hs10
  conv => cbv
  refine draw_t [0, 1, 2, 3, 4, 5, 6, 7, 8, 9, 10, 11, 12, 13] [(14, false)] hr fol (by kernel_rfl) fun E' hE' w18 hs18 S hS => ?_
  replace o10 := o10.bel hs18.ext
  replace o16 := o16.bel hs18.ext
  replace hs17 := hs17.bel hs18.ext
  replace hy := hy.trans hs18.ext
  clear hs18 hS
  obtain ⟨gn, hgn⟩ : ∃ gn : Nat, gg = gn := ⟨gg.toNat, by omega⟩
  have hw1 : (wantF o).length = 1 := by rw [g17]; decide
  obtain ⟨g16, hA16, _⟩ := o16.addr (by omega)
  subst hA16
  conv => cbv
  refine st_nil hE' ?_
  conv => cbv
  (refine st_fld hE' fSta1 fun p hp => ?_; (conv => cbv); refine st_load hE' cInts (by rw [hp]; exact (hs17).at _ _ rfl) ?_; clear hp; (conv => cbv))
  (refine st_fld hE' fII1 fun p hp => ?_; (conv => cbv); refine st_load hE' cInt (by rw [hp]; exact ((hq3.bel hy)).at _ _ rfl) ?_; clear hp; (conv => cbv))
  refine st_nil hE' ?_
  conv => cbv
  (refine st_fld hE' fSta0 fun p hp => ?_; (conv => cbv); refine st_load hE' cInts (by rw [hp]; exact ((hsb.bel hy)).at _ _ rfl) ?_; clear hp; (conv => cbv))
  refine st_int hE' tInts (hrs.a.bel hy).ints (k := nb) (by omega) (by omega) fun p3 u hu hp3 => ?_
  conv => cbv
  refine st_load hE' cInt hp3 ?_
  conv => cbv
  refine st_idx hE' tInts rfl (by omega) (by omega) fun p4 hp4 => ?_
  rw [show gg.toNat = gn by omega] at hp4
  conv => cbv
  refine st_set hr tInts o16 rfl (j := gn) (by omega) hp4 rfl fun w19 hb19 hw19 o19 => ?_
  rw [← List.map_set] at o19
  replace o10 := o10.wr hw19 aq16.1
  replace hs17 := hs17.wr hw19 ap16.1
  replace hy := hy.then (hw19.bel o16 hy.size)
  clear hp3 hp4 hb19 hw19 o16
  have hTe : T = (st1.take nb, st2.set gn u) := by rw [hTd]; simp only [nextS, g15, if_true, if_pos g17, a7_, show gg.toNat = gn by omega, hu, Option.getD_some]
  have hx10 : StB B1 w19 x10 T := by
   rw [hTe]
   exact ⟨_, _, _, _, _, _, hs17.mono hBS, ⟨by simpa using o10.mono hBS, (o19.mono hBS)⟩⟩
  replace hx := hx.trans hy
  replace hv := hv.ext hy
  replace hrep := hrep.ext hy
  replace hrs := hrs.ext hy
  replace hsb := hsb.bel hy
  replace hq3 := hq3.bel hy
  obtain ⟨A20, n20, c20, A21, n21, c21, hs20, hr20⟩ := id hx10
  have hn20 := hr20.a.len
  rw [List.length_map, Nat.mul_one] at hn20
  clear hstb
  conv => cbv
  refine st_nil hE ?_
  conv => cbv
  (refine st_fld hE fSta0 fun p hp => ?_; (conv => cbv); refine st_load hE cInts (by rw [hp]; exact (hs20).at _ _ rfl) ?_; clear hp; (conv => cbv))
  refine st_len hE tInts fun x20 hx20 => ?_
  conv => cbv
  refine br (fun g20 => ?_) (fun g20 => ?_)
  ·have g20 : 100 < x20 := by simpa [hE.cmp, cmpR] using g20
   rw [if_pos (show 100 < T.1.length by omega)] at hSR
   conv => cbv
   rw [hR]; exact ⟨7, rfl, hx, .inl ⟨by decide, by rw [hV, hSR, if_pos (by simp)]⟩⟩
  have g20 : ¬ 100 < x20 := by simpa [hE.cmp, cmpR] using g20
  rw [if_neg (show ¬ 100 < T.1.length by omega)] at hSR
  have hTok : okSt sl T := by
   have := step_ok (sl := sl) (ni := n2) (a := i) (o := o) (g := gg) hpk hok (by rw [← hSR0, hSR])
   rw [← hSR0, hSR] at this
   exact this
  rw [hSR, if_neg (by simp)] at hV
  simp only at hV
  obtain ⟨m2, hm2⟩ : ∃ z, z = max (max m x1) x20 := ⟨_, rfl⟩
  rw [show max (max m (st1.length : Int)) (T.1.length : Int) = m2 by rw [hm2, show (st1.length : Int) = x1 by omega, show (T.1.length : Int) = x20 by omega]] at hV
  conv => cbv
  refine draw_t [0, 1, 2, 3, 4, 5, 6, 7, 8, 9, 10, 11, 12, 13, 14, 15] [(16, false), (17, false), (18, false)] hr fol (by kernel_rfl) fun E' hE' w30 hs30 S hS => ?_
  replace hx := hx.trans hs30.ext
  replace hv := hv.ext hs30.ext
  replace hrep := hrep.ext hs30.ext
  replace hsb := hsb.bel hs30.ext
  replace hq3 := hq3.bel hs30.ext
  replace hs20 := hs20.bel hs30.ext
  replace hx10 := hx10.ext hs30.ext
  clear hs30 hr20 hS
  conv => cbv
  (refine st_nil hE' ?_; (conv => cbv); refine st_fld hE' fVf2 fun p hp => ?_; (conv => cbv); refine st_load hE' cInt (by rw [hp]; exact (hv.box).at _ _ rfl) ?_; clear hp; (conv => cbv))
  refine st_nil hE' ?_
  conv => cbv
  (refine st_fld hE' fSta0 fun p hp => ?_; (conv => cbv); refine st_load hE' cInts (by rw [hp]; exact (hsb).at _ _ rfl) ?_; clear hp; (conv => cbv))
  refine st_len hE' tInts fun x21 hx21 => ?_
  conv => cbv
  refine st_nil hE' ?_
  conv => cbv
  (refine st_fld hE' fSta0 fun p hp => ?_; (conv => cbv); refine st_load hE' cInts (by rw [hp]; exact (hs20).at _ _ rfl) ?_; clear hp; (conv => cbv))
  refine st_len hE' tInts fun x22 hx22 => ?_
  conv => cbv
  refine st_max3 hE' fun m3 hm3 => ?_
  have hm3 : m3 = m2 := by rw [hm3, hm2, hx21, hx22, hx1, hx20]
  subst hm3
  refine st_nil hE ?_
  conv => cbv
  refine st_fld hE fVf2 fun p hp => ?_
  conv => cbv
  refine st_put hr zInt hv.box hp (by simp) rfl fun w31 hw31 hb31 => ?_
  simp only [b4_, b5_] at hb31
  replace hx := hx.then (hw31.bel hv.box hx.size)
  replace hv := hv.putm hw31 hb31
  replace hrep := (hrep.above (hv.abA hw31)).mono (Nat.le_succ i)
  replace hx10 := hx10.above (hv.abA hw31)
  replace hq3 := hq3.above (hv.abA hw31)
  clear hw31 hb31 hp hsb hs20
  conv => cbv
  (refine st_fld hE fII0 fun p hp => ?_; (conv => cbv); refine st_load hE cInt (by rw [hp]; exact (hq3).at _ _ rfl) ?_; clear hp; (conv => cbv))
  refine st_qb hE (goesOn_q o w31) fun bg hbg w32 hs32 => ?_
  replace hx := hx.trans hs32.ext
  replace hv := hv.ext hs32.ext
  replace hrep := hrep.ext hs32.ext
  replace hx10 := hx10.ext hs32.ext
  replace hq3 := hq3.bel hs32.ext
  clear hs32
  obtain ⟨ij, hij⟩ : ∃ z, z = ii + 1 := ⟨_, rfl⟩
  have ei : E.ar .add .i64 ii 1 = ij := by rw [hE.ar, hij]; exact wrap_in (by omega) (by omega)
  cases bg with
  | true =>
   have hgo := hbg.1 rfl
   conv => cbv
   simp only [ei]
   (refine st_nil hE ?_; (conv => cbv); refine st_fld hE fVf0 fun p hp => ?_; (conv => cbv); refine st_fld hE fIC2 fun p2 hp2 => ?_; (conv => cbv); refine st_load hE cIIs (by rw [hp2, hp, add_add]; exact (hv.box).at _ _ rfl) ?_; clear hp hp2; (conv => cbv))
   refine st_len hE sII fun x30 hx30 => ?_
   conv => cbv
   refine br (fun g30 => ?_) (fun g30 => ?_)
   ·have g30 : ij = x30 := by simpa [hE.cmp, cmpR] using g30
    rw [if_pos ⟨hgo, by omega⟩] at hV
    conv => cbv
    rw [hR]; exact ⟨8, rfl, hx, .inl ⟨by decide, by rw [hV]⟩⟩
   have g30 : ij ≠ x30 := by simpa [hE.cmp, cmpR] using g30
   rw [if_neg (fun q => g30 (by have := q.2; omega))] at hV
   conv => cbv
   (refine st_fld hE fII0 fun p hp => ?_; (conv => cbv); refine st_load hE cInt (by rw [hp]; exact (hq3).at _ _ rfl) ?_; clear hp; (conv => cbv))
   refine st_qb hE (goesOn_q o w32) fun bg2 hbg2 w33 hs33 => ?_
   replace hx := hx.trans hs33.ext
   replace hv := hv.ext hs33.ext
   replace hrep := hrep.ext hs33.ext
   replace hx10 := hx10.ext hs33.ext
   replace hq3 := hq3.bel hs33.ext
   clear hs33
   have : bg2 = true := hbg2.2 hgo
   subst this
   conv => cbv
   simp only [ei]
   refine st_g hr (know_g hv hrep (k := i + 1) (kk := ij) (by omega) (n1_ _) (by omega) hTok hx10) fun v w34 ⟨b34, ev, hbl, hab, hkf, hkt⟩ => ?_
   subst ev
   replace hx := hx.then hbl
   cases b34 with
   | false =>
    have hkf := hkf rfl
    have hnx : merge T (nexts i o gg) f = none := by
     unfold nexts
     rw [if_neg (by obtain ⟨z1, z2, z3⟩ := hgo; omega), if_neg hgo.1]
     split <;> simp only [merge, show ((i : Int) + 1).toNat = i + 1 by omega, hkf]
    conv => cbv
    rw [hR]; exact ⟨9, rfl, hx, .inl ⟨by decide, by rw [hV, hnx]⟩⟩
   | true =>
   obtain ⟨f2, ps2, hkn, hv2, hrep2⟩ := hkt rfl
   replace hx10 := hx10.above hab
   replace hq3 := hq3.above hab
   clear hrep hv hab
   conv => cbv
   (refine st_fld hE fII0 fun p hp => ?_; (conv => cbv); refine st_load hE cInt (by rw [hp]; exact (hq3).at _ _ rfl) ?_; clear hp; (conv => cbv))
   refine br (fun g31 => ?_) (fun g31 => ?_)
   ·have g31 : o = 22 := by simpa [hE.cmp, cmpR] using g31
    exact absurd g31 hgo.1
   conv => cbv
   (refine st_fld hE fII0 fun p hp => ?_; (conv => cbv); refine st_load hE cInt (by rw [hp]; exact (hq3).at _ _ rfl) ?_; clear hp; (conv => cbv))
   refine br (fun g32 => ?_) (fun g32 => ?_)
   ·have g32 : o = 23 := by simpa [hE.cmp, cmpR] using g32
    have hgb := hrg.2.2.2 (.inr g32)
    conv => cbv
    (refine st_fld hE fII1 fun p hp => ?_; (conv => cbv); refine st_load hE cInt (by rw [hp]; exact (hq3).at _ _ rfl) ?_; clear hp; (conv => cbv))
    refine st_g hr (know_g hv2 hrep2 (k := gg.toNat) (kk := gg) (by omega) (by omega) (by omega) hTok hx10) fun v w35 ⟨b35, ev, hbl2, hab2, hkf2, hkt2⟩ => ?_
    subst ev
    replace hx := hx.then hbl2
    have hnx : merge T (nexts i o gg) f = match know f2 gg.toNat T with | none => none | some f' => some f' := by
     unfold nexts
     rw [if_neg (by omega), if_neg (by omega), if_pos g32]
     simp only [merge, show ((i : Int) + 1).toNat = i + 1 by omega, hkn]
     cases know f2 gg.toNat T <;> rfl
    cases b35 with
    | false =>
     rw [hkf2 rfl] at hnx
     conv => cbv
     rw [hR]; exact ⟨9, rfl, hx, .inl ⟨by decide, by rw [hV, hnx]⟩⟩
    | true =>
    obtain ⟨f3, ps3, hkn3, hv3, hrep3⟩ := hkt2 rfl
    rw [hkn3] at hnx
    conv => cbv
    rw [hR]; exact ⟨0, rfl, hx, .inr ⟨rfl, f3, m3, ps3, by rw [hV, hnx], hv3, hrep3⟩⟩
   have g32 : o ≠ 23 := by simpa [hE.cmp, cmpR] using g32
   have hnx : merge T (nexts i o gg) f = some f2 := by
    unfold nexts
    rw [if_neg (by obtain ⟨z1, z2, z3⟩ := hgo; omega), if_neg hgo.1, if_neg g32]
    simp only [merge, show ((i : Int) + 1).toNat = i + 1 by omega, hkn]
   conv => cbv
   rw [hR]; exact ⟨0, rfl, hx, .inr ⟨rfl, f2, m3, ps2, by rw [hV, hnx], hv2, hrep2⟩⟩
  | false =>
   have hgo : ¬ goesF o := fun q => absurd (hbg.2 q) (by simp)
   rw [if_neg (fun q => hgo q.1)] at hV
   conv => cbv
   (refine st_fld hE fII0 fun p hp => ?_; (conv => cbv); refine st_load hE cInt (by rw [hp]; exact (hq3).at _ _ rfl) ?_; clear hp; (conv => cbv))
   refine st_qb hE (goesOn_q o w32) fun bg2 hbg2 w33 hs33 => ?_
   replace hx := hx.trans hs33.ext
   replace hv := hv.ext hs33.ext
   replace hrep := hrep.ext hs33.ext
   replace hx10 := hx10.ext hs33.ext
   replace hq3 := hq3.bel hs33.ext
   clear hs33
   have : bg2 = false := by
    cases bg2 with
    | false => rfl
    | true => exact absurd (hbg2.1 rfl) hgo
   subst this
   conv => cbv
   (refine st_fld hE fII0 fun p hp => ?_; (conv => cbv); refine st_load hE cInt (by rw [hp]; exact (hq3).at _ _ rfl) ?_; clear hp; (conv => cbv))
   refine br (fun g31 => ?_) (fun g31 => ?_)
   ·have g31 : o = 22 := by simpa [hE.cmp, cmpR] using g31
    have hgb := hrg.2.2.2 (.inl g31)
    conv => cbv
    (refine st_fld hE fII1 fun p hp => ?_; (conv => cbv); refine st_load hE cInt (by rw [hp]; exact (hq3).at _ _ rfl) ?_; clear hp; (conv => cbv))
    refine st_g hr (know_g hv hrep (k := gg.toNat) (kk := gg) (by omega) (by omega) (by omega) hTok hx10) fun v w35 ⟨b35, ev, hbl2, hab2, hkf2, hkt2⟩ => ?_
    subst ev
    replace hx := hx.then hbl2
    have hnx : merge T (nexts i o gg) f = match know f gg.toNat T with | none => none | some f' => some f' := by
     unfold nexts
     rw [if_neg (by omega), if_pos g31]
     simp only [merge]
     cases know f gg.toNat T <;> rfl
    cases b35 with
    | false =>
     rw [hkf2 rfl] at hnx
     conv => cbv
     rw [hR]; exact ⟨9, rfl, hx, .inl ⟨by decide, by rw [hV, hnx]⟩⟩
    | true =>
    obtain ⟨f3, ps3, hkn3, hv3, hrep3⟩ := hkt2 rfl
    rw [hkn3] at hnx
    conv => cbv
    rw [hR]; exact ⟨0, rfl, hx, .inr ⟨rfl, f3, m3, ps3, by rw [hV, hnx], hv3, hrep3⟩⟩
   have g31 : o ≠ 22 := by simpa [hE.cmp, cmpR] using g31
   conv => cbv
   (refine st_fld hE fII0 fun p hp => ?_; (conv => cbv); refine st_load hE cInt (by rw [hp]; exact (hq3).at _ _ rfl) ?_; clear hp; (conv => cbv))
   refine br (fun g32 => ?_) (fun g32 => ?_)
   ·have g32 : o = 23 := by simpa [hE.cmp, cmpR] using g32
    exact absurd (show goesF o by unfold goesF; omega) hgo
   have hnx : merge T (nexts i o gg) f = some f := by
    unfold nexts
    rw [if_pos (by unfold goesF at hgo; omega)]
    rfl
   conv => cbv
   rw [hR]; exact ⟨0, rfl, hx, .inr ⟨rfl, f, m3, ps, by rw [hV, hnx], hv, hrep⟩⟩
 have no4 : o ≠ 4 := by simpa [hE.cmp, cmpR] using g17
 have hTe : T = (st1.take nb, st2) := by rw [hTd]; simp only [nextS, g15, if_true, if_neg no4, a7_]
 have hx10 : StB B1 w11 x10 T := by
  rw [hTe]
  exact ⟨_, _, _, _, _, _, hs10.mono hBS, ⟨by simpa using o10.mono hBS, (hrs.b.bel hy)⟩⟩
 replace hx := hx.trans hy
 replace hv := hv.ext hy
 replace hrep := hrep.ext hy
 replace hrs := hrs.ext hy
 replace hsb := hsb.bel hy
 replace hq3 := hq3.bel hy
 obtain ⟨A20, n20, c20, A21, n21, c21, hs20, hr20⟩ := id hx10
 have hn20 := hr20.a.len
 rw [List.length_map, Nat.mul_one] at hn20
 clear hstb
 conv => cbv
 refine st_nil hE ?_
 conv => cbv
 (refine st_fld hE fSta0 fun p hp => ?_; (conv => cbv); refine st_load hE cInts (by rw [hp]; exact (hs20).at _ _ rfl) ?_; clear hp; (conv => cbv))
 refine st_len hE tInts fun x20 hx20 => ?_
 conv => cbv
 refine br (fun g20 => ?_) (fun g20 => ?_)
 ·have g20 : 100 < x20 := by simpa [hE.cmp, cmpR] using g20
  rw [if_pos (show 100 < T.1.length by omega)] at hSR
  conv => cbv
  rw [hR]; exact ⟨7, rfl, hx, .inl ⟨by decide, by rw [hV, hSR, if_pos (by simp)]⟩⟩
 have g20 : ¬ 100 < x20 := by simpa [hE.cmp, cmpR] using g20
 rw [if_neg (show ¬ 100 < T.1.length by omega)] at hSR
 have hTok : okSt sl T := by
  have := step_ok (sl := sl) (ni := n2) (a := i) (o := o) (g := gg) hpk hok (by rw [← hSR0, hSR])
  rw [← hSR0, hSR] at this
  exact this
 rw [hSR, if_neg (by simp)] at hV
 simp only at hV
 obtain ⟨m2, hm2⟩ : ∃ z, z = max (max m x1) x20 := ⟨_, rfl⟩
 rw [show max (max m (st1.length : Int)) (T.1.length : Int) = m2 by rw [hm2, show (st1.length : Int) = x1 by omega, show (T.1.length : Int) = x20 by omega]] at hV
 conv => cbv
 refine draw_t [0, 1, 2, 3, 4, 5, 6, 7, 8, 9, 10, 11, 12, 13, 14, 15] [(16, false), (17, false), (18, false)] hr fol (by kernel_rfl) fun E' hE' w30 hs30 S hS => ?_
 replace hx := hx.trans hs30.ext
 replace hv := hv.ext hs30.ext
 replace hrep := hrep.ext hs30.ext
 replace hsb := hsb.bel hs30.ext
 replace hq3 := hq3.bel hs30.ext
 replace hs20 := hs20.bel hs30.ext
 replace hx10 := hx10.ext hs30.ext
 clear hs30 hr20 hS
 conv => cbv
 (refine st_nil hE' ?_; (conv => cbv); refine st_fld hE' fVf2 fun p hp => ?_; (conv => cbv); refine st_load hE' cInt (by rw [hp]; exact (hv.box).at _ _ rfl) ?_; clear hp; (conv => cbv))
 refine st_nil hE' ?_
 conv => cbv
 (refine st_fld hE' fSta0 fun p hp => ?_; (conv => cbv); refine st_load hE' cInts (by rw [hp]; exact (hsb).at _ _ rfl) ?_; clear hp; (conv => cbv))
 refine st_len hE' tInts fun x21 hx21 => ?_
 conv => cbv
 refine st_nil hE' ?_
 conv => cbv
 (refine st_fld hE' fSta0 fun p hp => ?_; (conv => cbv); refine st_load hE' cInts (by rw [hp]; exact (hs20).at _ _ rfl) ?_; clear hp; (conv => cbv))
 refine st_len hE' tInts fun x22 hx22 => ?_
 conv => cbv
 refine st_max3 hE' fun m3 hm3 => ?_
 have hm3 : m3 = m2 := by rw [hm3, hm2, hx21, hx22, hx1, hx20]
 subst hm3
 refine st_nil hE ?_
 conv => cbv
 refine st_fld hE fVf2 fun p hp => ?_
 conv => cbv
 refine st_put hr zInt hv.box hp (by simp) rfl fun w31 hw31 hb31 => ?_
 simp only [b4_, b5_] at hb31
 replace hx := hx.then (hw31.bel hv.box hx.size)
 replace hv := hv.putm hw31 hb31
 replace hrep := (hrep.above (hv.abA hw31)).mono (Nat.le_succ i)
 replace hx10 := hx10.above (hv.abA hw31)
 replace hq3 := hq3.above (hv.abA hw31)
 clear hw31 hb31 hp hsb hs20
 conv => cbv
 (refine st_fld hE fII0 fun p hp => ?_; (conv => cbv); refine st_load hE cInt (by rw [hp]; exact (hq3).at _ _ rfl) ?_; clear hp; (conv => cbv))
 refine st_qb hE (goesOn_q o w31) fun bg hbg w32 hs32 => ?_
 replace hx := hx.trans hs32.ext
 replace hv := hv.ext hs32.ext
 replace hrep := hrep.ext hs32.ext
 replace hx10 := hx10.ext hs32.ext
 replace hq3 := hq3.bel hs32.ext
 clear hs32
 obtain ⟨ij, hij⟩ : ∃ z, z = ii + 1 := ⟨_, rfl⟩
 have ei : E.ar .add .i64 ii 1 = ij := by rw [hE.ar, hij]; exact wrap_in (by omega) (by omega)
 cases bg with
 | true =>
  have hgo := hbg.1 rfl
  conv => cbv
  simp only [ei]
  (refine st_nil hE ?_; (conv => cbv); refine st_fld hE fVf0 fun p hp => ?_; (conv => cbv); refine st_fld hE fIC2 fun p2 hp2 => ?_; (conv => cbv); refine st_load hE cIIs (by rw [hp2, hp, add_add]; exact (hv.box).at _ _ rfl) ?_; clear hp hp2; (conv => cbv))
  refine st_len hE sII fun x30 hx30 => ?_
  conv => cbv
  refine br (fun g30 => ?_) (fun g30 => ?_)
  ·have g30 : ij = x30 := by simpa [hE.cmp, cmpR] using g30
   rw [if_pos ⟨hgo, by omega⟩] at hV
   conv => cbv
   rw [hR]; exact ⟨8, rfl, hx, .inl ⟨by decide, by rw [hV]⟩⟩
  have g30 : ij ≠ x30 := by simpa [hE.cmp, cmpR] using g30
  rw [if_neg (fun q => g30 (by have := q.2; omega))] at hV
  conv => cbv
  (refine st_fld hE fII0 fun p hp => ?_; (conv => cbv); refine st_load hE cInt (by rw [hp]; exact (hq3).at _ _ rfl) ?_; clear hp; (conv => cbv))
  refine st_qb hE (goesOn_q o w32) fun bg2 hbg2 w33 hs33 => ?_
  replace hx := hx.trans hs33.ext
  replace hv := hv.ext hs33.ext
  replace hrep := hrep.ext hs33.ext
  replace hx10 := hx10.ext hs33.ext
  replace hq3 := hq3.bel hs33.ext
  clear hs33
  have : bg2 = true := hbg2.2 hgo
  subst this
  conv => cbv
  simp only [ei]
  refine st_g hr (know_g hv hrep (k := i + 1) (kk := ij) (by omega) (n1_ _) (by omega) hTok hx10) fun v w34 ⟨b34, ev, hbl, hab, hkf, hkt⟩ => ?_
  subst ev
  replace hx := hx.then hbl
  cases b34 with
  | false =>
   have hkf := hkf rfl
   have hnx : merge T (nexts i o gg) f = none := by
    unfold nexts
    rw [if_neg (by obtain ⟨z1, z2, z3⟩ := hgo; omega), if_neg hgo.1]
    split <;> simp only [merge, show ((i : Int) + 1).toNat = i + 1 by omega, hkf]
   conv => cbv
   rw [hR]; exact ⟨9, rfl, hx, .inl ⟨by decide, by rw [hV, hnx]⟩⟩
  | true =>
  obtain ⟨f2, ps2, hkn, hv2, hrep2⟩ := hkt rfl
  replace hx10 := hx10.above hab
  replace hq3 := hq3.above hab
  clear hrep hv hab
  conv => cbv
  (refine st_fld hE fII0 fun p hp => ?_; (conv => cbv); refine st_load hE cInt (by rw [hp]; exact (hq3).at _ _ rfl) ?_; clear hp; (conv => cbv))
  refine br (fun g31 => ?_) (fun g31 => ?_)
  ·have g31 : o = 22 := by simpa [hE.cmp, cmpR] using g31
   exact absurd g31 hgo.1
  conv => cbv
  (refine st_fld hE fII0 fun p hp => ?_; (conv => cbv); refine st_load hE cInt (by rw [hp]; exact (hq3).at _ _ rfl) ?_; clear hp; (conv => cbv))
  refine br (fun g32 => ?_) (fun g32 => ?_)
  ·have g32 : o = 23 := by simpa [hE.cmp, cmpR] using g32
   have hgb := hrg.2.2.2 (.inr g32)
   conv => cbv
   (refine st_fld hE fII1 fun p hp => ?_; (conv => cbv); refine st_load hE cInt (by rw [hp]; exact (hq3).at _ _ rfl) ?_; clear hp; (conv => cbv))
   refine st_g hr (know_g hv2 hrep2 (k := gg.toNat) (kk := gg) (by omega) (by omega) (by omega) hTok hx10) fun v w35 ⟨b35, ev, hbl2, hab2, hkf2, hkt2⟩ => ?_
   subst ev
   replace hx := hx.then hbl2
   have hnx : merge T (nexts i o gg) f = match know f2 gg.toNat T with | none => none | some f' => some f' := by
    unfold nexts
    rw [if_neg (by omega), if_neg (by omega), if_pos g32]
    simp only [merge, show ((i : Int) + 1).toNat = i + 1 by omega, hkn]
    cases know f2 gg.toNat T <;> rfl
   cases b35 with
   | false =>
    rw [hkf2 rfl] at hnx
    conv => cbv
    rw [hR]; exact ⟨9, rfl, hx, .inl ⟨by decide, by rw [hV, hnx]⟩⟩
   | true =>
   obtain ⟨f3, ps3, hkn3, hv3, hrep3⟩ := hkt2 rfl
   rw [hkn3] at hnx
   conv => cbv
   rw [hR]; exact ⟨0, rfl, hx, .inr ⟨rfl, f3, m3, ps3, by rw [hV, hnx], hv3, hrep3⟩⟩
  have g32 : o ≠ 23 := by simpa [hE.cmp, cmpR] using g32
  have hnx : merge T (nexts i o gg) f = some f2 := by
   unfold nexts
   rw [if_neg (by obtain ⟨z1, z2, z3⟩ := hgo; omega), if_neg hgo.1, if_neg g32]
   simp only [merge, show ((i : Int) + 1).toNat = i + 1 by omega, hkn]
  conv => cbv
  rw [hR]; exact ⟨0, rfl, hx, .inr ⟨rfl, f2, m3, ps2, by rw [hV, hnx], hv2, hrep2⟩⟩
 | false =>
  have hgo : ¬ goesF o := fun q => absurd (hbg.2 q) (by simp)
  rw [if_neg (fun q => hgo q.1)] at hV
  conv => cbv
  (refine st_fld hE fII0 fun p hp => ?_; (conv => cbv); refine st_load hE cInt (by rw [hp]; exact (hq3).at _ _ rfl) ?_; clear hp; (conv => cbv))
  refine st_qb hE (goesOn_q o w32) fun bg2 hbg2 w33 hs33 => ?_
  replace hx := hx.trans hs33.ext
  replace hv := hv.ext hs33.ext
  replace hrep := hrep.ext hs33.ext
  replace hx10 := hx10.ext hs33.ext
  replace hq3 := hq3.bel hs33.ext
  clear hs33
  have : bg2 = false := by
   cases bg2 with
   | false => rfl
   | true => exact absurd (hbg2.1 rfl) hgo
  subst this
  conv => cbv
  (refine st_fld hE fII0 fun p hp => ?_; (conv => cbv); refine st_load hE cInt (by rw [hp]; exact (hq3).at _ _ rfl) ?_; clear hp; (conv => cbv))
  refine br (fun g31 => ?_) (fun g31 => ?_)
  ·have g31 : o = 22 := by simpa [hE.cmp, cmpR] using g31
   have hgb := hrg.2.2.2 (.inl g31)
   conv => cbv
   (refine st_fld hE fII1 fun p hp => ?_; (conv => cbv); refine st_load hE cInt (by rw [hp]; exact (hq3).at _ _ rfl) ?_; clear hp; (conv => cbv))
   refine st_g hr (know_g hv hrep (k := gg.toNat) (kk := gg) (by omega) (by omega) (by omega) hTok hx10) fun v w35 ⟨b35, ev, hbl2, hab2, hkf2, hkt2⟩ => ?_
   subst ev
   replace hx := hx.then hbl2
   have hnx : merge T (nexts i o gg) f = match know f gg.toNat T with | none => none | some f' => some f' := by
    unfold nexts
    rw [if_neg (by omega), if_pos g31]
    simp only [merge]
    cases know f gg.toNat T <;> rfl
   cases b35 with
   | false =>
    rw [hkf2 rfl] at hnx
    conv => cbv
    rw [hR]; exact ⟨9, rfl, hx, .inl ⟨by decide, by rw [hV, hnx]⟩⟩
   | true =>
   obtain ⟨f3, ps3, hkn3, hv3, hrep3⟩ := hkt2 rfl
   rw [hkn3] at hnx
   conv => cbv
   rw [hR]; exact ⟨0, rfl, hx, .inr ⟨rfl, f3, m3, ps3, by rw [hV, hnx], hv3, hrep3⟩⟩
  have g31 : o ≠ 22 := by simpa [hE.cmp, cmpR] using g31
  conv => cbv
  (refine st_fld hE fII0 fun p hp => ?_; (conv => cbv); refine st_load hE cInt (by rw [hp]; exact (hq3).at _ _ rfl) ?_; clear hp; (conv => cbv))
  refine br (fun g32 => ?_) (fun g32 => ?_)
  ·have g32 : o = 23 := by simpa [hE.cmp, cmpR] using g32
   exact absurd (show goesF o by unfold goesF; omega) hgo
  have hnx : merge T (nexts i o gg) f = some f := by
   unfold nexts
   rw [if_pos (by unfold goesF at hgo; omega)]
   rfl
  conv => cbv
  rw [hR]; exact ⟨0, rfl, hx, .inr ⟨rfl, f, m3, ps, by rw [hV, hnx], hv, hrep⟩⟩
theorem run_bVf (A A2 A3 : Option Addr) (n c n2 c2 n3 c3 : Nat) (sl : Int) (w : World) : (Instr.build 165 #[(0, .agg ⟨[.slice A n c, .int .i64 sl, .slice A2 n2 c2]⟩), (1, .slice A3 n3 c3)]).run Tryz.prog w = .ok (.agg ⟨vfV A n c sl A2 n2 c2 A3 n3 c3 0⟩) w := by kernel_rfl
theorem st_bVf {E : Sym} {w : World} {K : Value → World → Prop} {d : Option Tmp} {ty : TypeId} {pos : String} {aft : Array Edge} {g : Option (Nat × Bool)} {bq : Bool} (hE : EngB bq Tryz.prog E) {A A2 A3 : Option Addr} {n c n2 c2 n3 c3 : Nat} {sl : Int} {x y : Operand} (hk : K (.agg ⟨vfV A n c sl A2 n2 c2 A3 n3 c3 0⟩) w) : E.stop ⟨d, .build 165 ⟨[(0, x), (1, y)]⟩, ty, pos, aft, g⟩ [.agg ⟨[.slice A n c, .int .i64 sl, .slice A2 n2 c2]⟩, .slice A3 n3 c3] w K := by
 refine hE.det (v := .agg ⟨vfV A n c sl A2 n2 c2 A3 n3 c3 0⟩) (fun w1 _ ρ hρ => ?_) hk
 simp only [opnds, b2_, b3_, b1_, and_true] at hρ
 have := run_bVf A A2 A3 n c n2 c2 n3 c3 sl w1
 simp [execOp, hρ, this]
theorem run_bSt1 (A2 : Option Addr) (n2 c2 : Nat) (w : World) : (Instr.build 168 #[(1, .slice A2 n2 c2)]).run Tryz.prog w = .ok (.agg #[.slice none 0 0, .slice A2 n2 c2]) w := by kernel_rfl
theorem st_bSt1 {E : Sym} {w : World} {K : Value → World → Prop} {d : Option Tmp} {ty : TypeId} {pos : String} {aft : Array Edge} {g : Option (Nat × Bool)} {bq : Bool} (hE : EngB bq Tryz.prog E) {A2 : Option Addr} {n2 c2 : Nat} {y : Operand} (hk : K (.agg ⟨[.slice none 0 0, .slice A2 n2 c2]⟩) w) : E.stop ⟨d, .build 168 ⟨[(1, y)]⟩, ty, pos, aft, g⟩ [.slice A2 n2 c2] w K := by
 refine hE.det (v := .agg ⟨[.slice none 0 0, .slice A2 n2 c2]⟩) (fun w1 _ ρ hρ => ?_) hk
 simp only [opnds, b2_, b3_, b1_, and_true] at hρ
 have := run_bSt1 A2 n2 c2 w1
 simp [execOp, hρ, this]
theorem start_irep {B : Nat} {w : World} {sl : Int} {n : Nat} {x : Addr} (h0 : 0 ≤ sl) (hx : StB B w x ([], List.replicate sl.toNat 0)) : IRep B w sl ((List.replicate n none).set 0 (some x)) 0 (start sl) := by
 intro k p _ hp
 rw [List.getElem?_set] at hp
 by_cases e : 0 = k
 ·subst e
  rw [if_pos rfl] at hp
  split at hp
  ·cases hp
   exact ⟨fun q => (by cases q), fun y e => by cases e; exact ⟨_, rfl, ⟨by simp, by simp, by simp, by simp; omega⟩, hx⟩⟩
  ·cases hp
 ·rw [if_neg e] at hp
  have : p = none := (List.mem_replicate.1 (m1_ hp)).2
  subst this
  exact ⟨fun _ => by unfold start; rw [if_neg (Ne.symm e)], fun y q => by cases q⟩
theorem implVerify_f {w : World} (hT1 : Tab w 4 constF) (hT2 : Tab w 3 opF) {A A2 : Option Addr} {n c n2 c2 : Nat} {sl : Int} {pv : List PV} {is : List (Int × Int)} (h : CodeR w A n A2 n2 pv is) (hn : n ≤ 9223372036854775807) (hn2 : n2 ≤ 9223372036854775807) :
  FC Tryz.prog 43 [codeV A n c sl A2 n2 c2] w fun v _ => v = .tuple ⟨[.int .i64 (verF pv sl is).1, .int .i64 (verF pv sl is).2]⟩ := by
 refine FC.intro (cs := []) Tryz.func43 (by kernel_rfl) fun E R hE hr hR => ?_
 have hil := h.ins.len
 conv => cbv
 refine st_box hr fun a0 w1 hx hb0 => ?_
 have hb := hb0 _ (n1_ _)
 clear hb0
 conv => cbv
 refine st_loadS hE tIC rfl hb.at ?_
 conv => cbv
 refine st_f hr (shapeOK_f (c := c) (c2 := c2) (sl := sl) (hT1.ext hx) (h.ext hx) hn hn2) fun v w2 hx2 ⟨b, ev, hsh⟩ => ?_
 subst ev
 replace hb := hb.bel hx2
 replace hx := hx.trans hx2
 clear hx2
 cases b with
 | false =>
  have hsh : ¬ shapeP pv sl is := fun q => absurd (hsh.2 q) (by simp)
  conv => cbv
  rw [hR]; exact ⟨hx, by unfold verF; rw [if_pos hsh]; rfl⟩
 | true =>
 have hsh := hsh.1 rfl
 obtain ⟨q1, q2, q3, q4, q5, q6⟩ := id hsh
 conv => cbv
 (refine st_fld hE fIC2 fun p hp => ?_; (conv => cbv); refine st_load hE cIIs (by rw [hp]; exact (hb).at _ _ rfl) ?_; clear hp; (conv => cbv))
 refine st_len hE sII fun x1 hx1 => ?_
 conv => cbv
 refine br (fun g => ?_) (fun g => ?_)
 ·have g : x1 = 0 := by simpa [hE.cmp, cmpR] using g
  conv => cbv
  rw [hR]; exact ⟨hx, by unfold verF; rw [if_neg (fun q => q hsh), if_pos (List.eq_nil_of_length_eq_zero (by omega))]; rfl⟩
 have g : x1 ≠ 0 := by simpa [hE.cmp, cmpR] using g
 have hne : is ≠ [] := fun q => by rw [q] at hil; simp at hil; omega
 obtain ⟨V, hV0⟩ : ∃ V, V = verL pv sl is.length is 0 (start sl) 0 := ⟨_, rfl⟩
 have hVe : verF pv sl is = V := by unfold verF; rw [if_neg (fun q => q hsh), if_neg hne, hV0]
 rw [hVe] at hR
 clear hVe
 conv => cbv
 refine draw_h [0, 1, 2, 3] [(4, false), (5, false), (6, false), (7, true)] hr fol (by kernel_rfl) fun E' hE' w3 hs3 S hS => ?_
 replace hb := hb.bel hs3.ext
 replace hx := hx.trans hs3.ext
 conv => cbv
 refine st_loadS hE' tIC rfl hb.at ?_
 conv => cbv
 (refine st_fld hE' fIC2 fun p hp => ?_; (conv => cbv); refine st_load hE' cIIs (by rw [hp]; exact (hb).at _ _ rfl) ?_; clear hp; (conv => cbv))
 refine st_len hE' sII fun x2 hx2 => ?_
 conv => cbv
 refine st_make hr sPs rfl (m := n2) (by omega) (by omega) (by omega) fun A1 w4 hx4 h10 => ?_
 refine ⟨hS _ hx4, ?_⟩
 have h1 := h10 _ hx.size
 obtain ⟨gs, rfl, _⟩ := h1.addr (by omega)
 have apb := (hb.apart (h10 _ (n1_ _)) (n1_ _)).1
 have hb4 := hb.bel hx4
 have hsz1 : w.heap.size ≤ w4.heap.size := (hx.trans hx4).size
 conv => cbv
 refine st_bVf hE ?_
 refine ⟨hS _ hx4, ?_⟩
 conv => cbv
 refine st_box hr fun a w5 hx5 h20 => ?_
 refine ⟨hS _ (hx4.trans hx5), ?_⟩
 have h2 := h20 _ hsz1
 have ap := h1.apart (h20 _ (n1_ _)) (n1_ _)
 replace h1 := h1.bel hx5
 replace hb := hb4.bel hx5
 replace hx := (hx.trans hx4).trans hx5
 obtain ⟨B1, hB1⟩ : ∃ B1, B1 = w5.heap.size := ⟨_, rfl⟩
 have hv : VfR w.heap.size B1 w5 a A n c sl A2 n2 c2 gs 0 (List.replicate n2 none) :=
  ⟨h2, by rw [List.map_replicate]; exact h1, ⟨ap.2, ap.1⟩, fun hw => hw.above h2 (by omega), fun hw => hw.above h1 (by omega), by omega⟩
 have hB0 : w.heap.size ≤ B1 := by have := hx.size; omega
 clear h1 h2 h20 h10 hx4 hx5 hb4 hS hs3 ap
 conv => cbv
 refine draw_t [0, 1, 2, 3, 4, 5] [(6, true), (7, true), (8, true), (9, false), (10, false)] hr fol (by kernel_rfl) fun E' hE' w6 hs6 S hS => ?_
 replace hb := hb.bel hs6.ext
 replace hx := hx.trans hs6.ext
 replace hv := hv.ext hs6.ext
 clear hs6
 conv => cbv
 (refine st_nil hE' ?_; (conv => cbv); refine st_fld hE' fVf1 fun p hp => ?_; (conv => cbv); refine st_load hE' cPs (by rw [hp]; exact (hv.box).at _ _ rfl) ?_; clear hp; (conv => cbv))
 (refine st_fld hE' fIC1 fun p hp => ?_; (conv => cbv); refine st_load hE' cInt (by rw [hp]; exact (hb).at _ _ rfl) ?_; clear hp; (conv => cbv))
 obtain ⟨sn, hsn⟩ : ∃ sn : Nat, sl = sn := ⟨sl.toNat, by omega⟩
 refine st_make hr tInts rfl (m := sn) hsn (by omega) (by omega) fun A3 w7 hx7 h30 => ?_
 refine ⟨hS _ hx7, ?_⟩
 have h3 := h30 B1 hv.siz
 conv => cbv
 refine st_bSt1 hE ?_
 refine ⟨hS _ hx7, ?_⟩
 conv => cbv
 refine st_box hr fun x8 w8 hx8 h80 => ?_
 refine ⟨hS _ (hx7.trans hx8), ?_⟩
 have h8 := h80 B1 (hv.ext hx7).siz
 replace h3 := h3.bel hx8
 replace hb := hb.bel (hx7.trans hx8)
 replace hx := hx.trans (hx7.trans hx8)
 replace hv := hv.ext (hx7.trans hx8)
 have hst : StB B1 w8 x8 ([], List.replicate sl.toNat 0) := ⟨_, _, _, _, _, _, h8, ⟨Own.nil, by rw [show sl.toNat = sn by omega, List.map_replicate]; exact h3⟩⟩
 clear h8 h3 h80 h30 hx7 hx8 hS
 conv => cbv
 refine st_idx hE sPs rfl (by omega) (by omega) fun p hp => ?_
 conv => cbv
 refine st_put hr zPt hv.row (j := 0) hp (by rw [List.length_map, List.length_replicate]; omega) rfl fun w9 hw9 h9 => ?_
 have hrep : IRep B1 w9 sl ((List.replicate n2 none).set 0 (some x8)) 0 (start sl) := start_irep (by omega) (hst.above (hv.abS hw9))
 replace hb : Box w.heap.size 39 3 w9 a0 [.slice A n c, .int .i64 sl, .slice A2 n2 c2] := hb.wr hw9 apb
 replace hx := hx.then (hw9.bel hv.row hx.size)
 replace hv : VfR w.heap.size B1 w9 a A n c sl A2 n2 c2 gs 0 ((List.replicate n2 none).set 0 (some x8)) :=
  ⟨hv.box.wr hw9 hv.apt.1, by rw [List.map_set]; exact h9, hv.apt, hv.abA, hv.abS, by have := hv.siz; have := hw9.size; omega⟩
 clear hw9 h9 hp hst
 conv => cbv
 (refine st_fld hE fIC2 fun p hp => ?_; (conv => cbv); refine st_load hE cIIs (by rw [hp]; exact (hb).at _ _ rfl) ?_; clear hp; (conv => cbv))
 refine st_len hE sII fun x3 hx3 => ?_
 conv => cbv
 refine loop_rule hr (fun (s : Nat × Int × List (Option Addr) × Sts × Int) w' => s.1 ≤ n2 ∧ s.2.1 = (s.1 : Int) ∧ Ext w w' ∧ VfR w.heap.size B1 w' a A n c sl A2 n2 c2 gs s.2.2.2.2 s.2.2.1 ∧ IRep B1 w' sl s.2.2.1 s.1 s.2.2.2.1 ∧ verL pv sl is.length (is.drop s.1) s.1 s.2.2.2.1 s.2.2.2.2 = V)
  (fun s => [(4, .pointer (some a)), (33, .int .i64 x3), (34, .int .i64 s.2.1)]) (fun s => n2 - s.1) (0, 0, (List.replicate n2 none).set 0 (some x8), start sl, 0)
  (by simp [Fits, lk]) ⟨by simp, by simp, hx, hv, hrep, by simpa using hV0.symm⟩ ?_
 clear hb hx hv hrep hV0
 rintro I hI ⟨i, ii, ps, f, m⟩ w' ⟨hi, hii, hx, hv, hrep, hV⟩
 simp only at hi hii hv hrep hV
 obtain ⟨ij, hij⟩ : ∃ z, z = ii + 1 := ⟨_, rfl⟩
 conv => cbv
 refine br (fun g2 => ?_) (fun g2 => ?_)
 ·have g2 : i < n2 := by
   have : ii < x3 := by simpa [hE.cmp, cmpR] using g2
   omega
  have ei : E.ar .add .i64 ii 1 = ij := by rw [hE.ar, hij]; exact wrap_in (by omega) (by omega)
  obtain ⟨⟨o, gg⟩, hio⟩ : ∃ x, is[i]? = some x := ⟨_, g2_ (by omega)⟩
  have hdr : is.drop i = (o, gg) :: is.drop (i + 1) := by
   obtain ⟨z1, z2⟩ := List.getElem?_eq_some_iff.1 hio
   rw [List.drop_eq_getElem_cons z1, z2]
  rw [hdr, verL_cons, hil] at hV
  conv => cbv
  refine st_g hr (place_g h hT2 hx hB0 hv hrep hsh hii g2 hio) fun v w10 ⟨cd, ev, hx10, hcd⟩ => ?_
  subst ev
  conv => cbv
  rcases hcd with ⟨h0, h1⟩ | ⟨h0, f', m', ps', h1, hv2, hrep2⟩
  ·rw [h1] at hV
   simp only at hV
   refine br (fun g3 => ?_) (fun g3 => ?_)
   ·conv => cbv
    rw [hR]; exact ⟨hx10, by rw [← hV]; rfl⟩
   ·exact absurd (by simpa [hE.cmp, cmpR] using g3) h0
  ·rw [h1] at hV
   simp only at hV
   refine br (fun g3 => ?_) (fun g3 => ?_)
   ·exact absurd h0 (by simpa [hE.cmp, cmpR] using g3)
   ·conv => cbv
    simp only [ei]
    exact ⟨(i + 1, ij, ps', f', m'), by simp [Fits, lk], hI _ _ ⟨by simp only; omega, by simp only; omega, hx10, hv2, hrep2, by rw [hil]; exact hV⟩, by simp only; omega⟩
 ·have g2 : i = n2 := by
   have : ¬ ii < x3 := by simpa [hE.cmp, cmpR] using g2
   omega
  rw [List.drop_of_length_le (by omega), verL] at hV
  conv => cbv
  (refine st_nil hE ?_; (conv => cbv); refine st_fld hE fVf2 fun p hp => ?_; (conv => cbv); refine st_load hE cInt (by rw [hp]; exact (hv.box).at _ _ rfl) ?_; clear hp; (conv => cbv))
  rw [hR]; exact ⟨hx, by rw [← hV]; rfl⟩
theorem run_bMa (A : Option Addr) (n c : Nat) (sl : Int) (A2 : Option Addr) (n2 c2 : Nat) (ra : Addr) (LA : Option Addr) (m m' : Nat) (w : World) : (Instr.build 87 #[(0, .agg ⟨[.slice A n c, .int .i64 sl, .slice A2 n2 c2]⟩), (1, .pointer (some ra)), (3, .slice LA m m')]).run Tryz.prog w = .ok (.agg ⟨[.slice A n c, .int .i64 sl, .slice A2 n2 c2, .pointer (some ra), .slice none 0 0, .slice LA m m', .int .i64 0, .int .i64 0, .int .i64 0, .slice none 0 0, .int .i64 0, .int .i64 0]⟩) w := by kernel_rfl
theorem stepV_len {pv rq : List PV} {a : Nat} {o g : Int} {st sl : List PV} {a' : Nat} {st' sl' : List PV} (h : stepV pv rq a o g st sl = .go a' st' sl') : st'.length ≤ st.length + 1 := by
 unfold stepV at h
 repeat' split at h
 all_goals first | (cases h; done) | (simp only [RS.go.injEq] at h; obtain ⟨_, rfl, _⟩ := h; simp; done) | (simp only [RS.go.injEq] at h; obtain ⟨_, rfl, _⟩ := h; simp; omega) | (simp only [RS.go.injEq] at h; obtain ⟨_, rfl, _⟩ := h; omega)
theorem implRun_f {w : World} (hT1 : Tab w 4 constF) (hT2 : Tab w 3 opF) (hTc : Tab w 5 calcF) {zz oo vv : Addr} (he : Errs w zz oo vv) {A A2 : Option Addr} {n c n2 c2 : Nat} {sl : Int} {pv : List PV} {is : List (Int × Int)} (h : CodeR w A n A2 n2 pv is) (hn : n ≤ 9223372036854775807) (hn2 : n2 ≤ 9223372036854775807) (hf : ∀ p ∈ pv, fits p.n)
  {cl us : ByteArray} {lv nw : Int} {Q Q2 : Option Addr} {m d m2 d2 : Nat} {xs ys : List ByteArray} (hc : cl.size ≤ 9223372036854775807) (hu : us.size ≤ 9223372036854775807) (hs : Strs w Q m d xs) (hs2 : Strs w Q2 m2 d2 ys) (fl : fits lv) (fn : fits nw) :
  FC Tryz.prog 11 [codeV A n c sl A2 n2 c2, reqV cl us lv nw Q m d Q2 m2 d2] w fun r w' => ∃ x, RunP pv sl is cl us lv nw xs ys x ∧ TrR w.heap.size w' x r := by
 refine FC.intro (cs := []) Tryz.func11 (by kernel_rfl) fun E R hE hr hR => ?_
 conv => cbv
 refine st_box hr fun q2 w1 hx1 h20 => ?_
 have h2 := h20 _ (n1_ _)
 have f2 := bx_form (h20 _ (n1_ _))
 clear h20
 have k1 := hx1.size
 conv => cbv
 refine st_box hr fun q3 w2 hx2 h30 => ?_
 have h3 := h30 _ hx1.size
 have f3 := bx_form (h30 _ (n1_ _))
 clear h30
 have k2 := hx2.size
 replace h2 := h2.bel hx2
 have hx := hx1.trans hx2
 clear hx1 hx2
 conv => cbv
 refine st_alloc hr tTr rfl fun q4 w3 hx3 h40 => ?_
 have h4 := h40 _ hx.size
 have f4 := bx_form (h40 _ (n1_ _))
 clear h40
 have k3 := hx3.size
 replace h2 := h2.bel hx3
 replace h3 := h3.bel hx3
 replace hx := hx.trans hx3
 clear hx3
 have no : ∀ (w5 w9 : World), Ext w w5 → Box w.heap.size 34 5 w5 q4 zTrc → Wr (some q4) w5 w9 → ¬ ((verF pv sl is).2 = 0 ∧ validReq cl us xs ys) → R (.agg ⟨[.int .i64 4, .int .i64 0, .slice none 0 0, .int .i64 0, .int .i64 0]⟩) w9 := fun w5 w9 hx5 hb hw hne => by
  rw [hR]
  exact ⟨hx5.then (hw.bel hb hx5.size), _, .inl ⟨hne, rfl⟩, none, 0, 0, rfl, Own.nil, by simp, by simp⟩
 conv => cbv
 refine st_loadS hE tIC rfl h2.at ?_
 have hv := implVerify_f (c := c) (c2 := c2) (sl := sl) (hT1.ext hx) (hT2.ext hx) (h.ext hx) hn hn2
 obtain ⟨VM, hVM⟩ : ∃ y, y = (verF pv sl is).1 := ⟨_, rfl⟩
 obtain ⟨VE, hVE⟩ : ∃ y, y = (verF pv sl is).2 := ⟨_, rfl⟩
 rw [← hVM, ← hVE] at hv
 rw [← hVE] at no
 conv => cbv
 refine st_f hr hv fun r w4 hx4 ev => ?_
 subst ev
 replace h2 := h2.bel hx4
 replace h3 := h3.bel hx4
 replace h4 := h4.bel hx4
 replace hx := hx.trans hx4
 have k4 := hx4.size
 clear hx4
 conv => cbv
 refine br (fun g => ?_) (fun g => ?_)
 ·have g : VE ≠ 0 := by simpa [hE.cmp, cmpR] using g
  conv => cbv
  refine st_bO1 hE ?_
  conv => cbv
  refine hE.det (v := .agg ⟨[.int .i64 4, .int .i64 0, .slice none 0 0, .int .i64 0, .int .i64 0]⟩) (fun w1 _ ρ hρ => ?_) ?_
  ·simp only [opnds, b2_, b3_, b1_, and_true] at hρ
   have := tr_build1 4 w1
   simp [execOp, hρ, this]
  conv => cbv
  refine st_putS hr (by kernel_rfl) h4 (add_zero _).symm (by simp [zTrc]) (by simp [Value.oneCell']) fun w9 hw9 h49 => ?_
  simp only [zTrc, a1_, a2_, a3_, a4_, a5_, a6_, a7_] at h49
  conv => cbv
  refine st_cell hr tTr rfl h49.at ?_
  exact no _ _ hx h4 hw9 fun q => g q.1
 have g : VE = 0 := by simpa [hE.cmp, cmpR] using g
 conv => cbv
 refine st_loadS hE tIReq rfl h3.at ?_
 conv => cbv
 refine st_f hr (ValidRequest_f hc hu (hs.ext hx) (hs2.ext hx)) fun r w5 hx5 ⟨b2, ev, hbr⟩ => ?_
 subst ev
 replace h2 := h2.bel hx5
 replace h3 := h3.bel hx5
 replace h4 := h4.bel hx5
 replace hx := hx.trans hx5
 have k5 := hx5.size
 clear hx5
 cases b2 with
 | false =>
  conv => cbv
  refine st_bO1 hE ?_
  conv => cbv
  refine hE.det (v := .agg ⟨[.int .i64 4, .int .i64 0, .slice none 0 0, .int .i64 0, .int .i64 0]⟩) (fun w1 _ ρ hρ => ?_) ?_
  ·simp only [opnds, b2_, b3_, b1_, and_true] at hρ
   have := tr_build1 4 w1
   simp [execOp, hρ, this]
  conv => cbv
  refine st_putS hr (by kernel_rfl) h4 (add_zero _).symm (by simp [zTrc]) (by simp [Value.oneCell']) fun w9 hw9 h49 => ?_
  simp only [zTrc, a1_, a2_, a3_, a4_, a5_, a6_, a7_] at h49
  conv => cbv
  refine st_cell hr tTr rfl h49.at ?_
  exact no _ _ hx h4 hw9 fun q => by simpa using hbr.2 q.2
 | true =>
 have hreq := hbr.1 rfl
 have hver := ver_pair (hVE.symm.trans g)
 obtain ⟨hsh, hne, F, hV⟩ := ver_sound hver
 have hpv := pool_ok h hsh hf
 have hrq := req_val (lv := lv) (nw := nw) hreq fl fn
 have hsl0 := hsh.2.1
 have hsl6 := hsh.2.2.1
 have hil : 0 < is.length := by cases is with
  | nil => exact absurd rfl hne
  | cons _ _ => simp
 have his := hsh.2.2.2.1
 conv => cbv
 refine draw_zsa (fun w1 => Ext w5 w1) [0, 1, 2] [0, 1, 2] [(3, .c), (4, .w), (5, .w), (6, .p)] hr fol (by kernel_rfl) (fun w1 hs => hs.ext) fun E' hE' har w6 hs6 => ?_
 have x6 := hs6.ext
 have k6 := x6.size
 conv => cbv
 refine sw_loadS hE' tIC (vs := [.slice A n c, .int .i64 sl, .slice A2 n2 c2]) rfl (fun w1 h1 => fun j u hu => h1.cell (h2.at j u hu)) ?_
 conv => cbv
 refine sw_fld hE' fIC1 fun p hp => ?_
 conv => cbv
 refine sw_load hE' cInt (v := .int .i64 sl) (fun w1 h1 => by rw [hp]; exact h1.cell (h2.at 1 _ rfl)) ?_
 replace h2 := h2.bel x6
 replace h3 := h3.bel x6
 replace h4 := h4.bel x6
 replace hx := hx.trans x6
 obtain ⟨sn, hsn⟩ : ∃ y, y = sl.toNat := ⟨_, rfl⟩
 obtain ⟨v0, hv0⟩ : ∃ v0 : VV, v0 = ⟨nonV, none, 0, 0⟩ := ⟨_, rfl⟩
 conv => cbv
 refine st_make hr sIt rfl (m := sn) (by omega) (by omega) (by omega) fun LA w7 hx7 ho0 => ?_
 have hL := ho0 _ (n1_ _)
 clear ho0
 rw [show List.replicate sn Value.nilIface = (List.replicate sn v0).map itV by rw [List.map_replicate, hv0]; rfl] at hL
 have k7 := hx7.size
 refine ⟨x6.trans hx7, ?_⟩
 conv => cbv
 refine hE.det (v := .agg ⟨[.slice A n c, .int .i64 sl, .slice A2 n2 c2, .pointer (some q3), .slice none 0 0, .slice LA sn sn, .int .i64 0, .int .i64 0, .int .i64 0, .slice none 0 0, .int .i64 0, .int .i64 0]⟩) (fun w1 _ ρ hρ => ?_) ?_
 ·simp only [opnds, b2_, b3_, b1_, and_true] at hρ
  have := run_bMa A n c sl A2 n2 c2 q3 LA sn sn w1
  simp [execOp, hρ.1, hρ.2.1, hρ.2.2, this]
 conv => cbv
 refine st_box hr fun q w8 hx8 hq0 => ?_
 have hq := hq0 w6.heap.size k7
 have fq := bx_form (hq0 _ (n1_ _))
 clear hq0
 have hM8 : MM w6.heap.size w8 q q3 A n c sl A2 n2 c2 0 0 0 none 0 0 0 0 none 0 0 [] LA sn sn (List.replicate sn v0) := ⟨hq, ⟨Own.nil, hL.bel hx8, (fun g h1 => by cases h1), fun x hm => by
  rcases hm with hm | hm
  ·simp at hm
  ·obtain rfl := List.eq_of_mem_replicate hm
   rw [hv0]
   exact ⟨nil_m rfl (by simp [nonV, noS, ByteArray.size]), inD_none⟩⟩, (fun g h1 h2 => by cases h2), fun g h1 h2 => by rw [fq.2.2] at h1; cases h1; have := (own_blk hL _ h2).2; omega⟩
 have hx68 := hx7.trans hx8
 have hcode6 := h.ext hx
 have hRq : RqR (fun b => b < w6.heap.size) w6 q3 ⟨cl, us, lv, nw, Q, m, d, xs, Q2, m2, d2, ys⟩ := ⟨h3.at, hs.ext hx, hs2.ext hx, strs_in (hs.ext hx), strs_in (hs2.ext hx), hc, hu⟩
 obtain ⟨RUN, hRUN⟩ : ∃ R, R = runV pv (rqL cl us lv nw xs ys) is is.length 0 [] (List.replicate sl.toNat nonV) 0 0 := ⟨_, rfl⟩
 have hRP : RunP pv sl is cl us lv nw xs ys ((ocOf RUN.1).1, (ocOf RUN.1).2.1, (ocOf RUN.1).2.2, (RUN.2.1 : Int), (RUN.2.2 : Int)) := .inr ⟨⟨hVE.symm.trans g, hreq⟩, RUN, hRUN, rfl⟩
 have eR : (List.replicate sn v0).map (·.p) = List.replicate sl.toNat nonV := by rw [List.map_replicate, hsn, hv0]
 conv => cbv
 refine loop_rule hr (fun (a : Nat) w' => ∃ (s : St) (stp pk fu : Nat) (SA : Option Addr) (sn' sc' : Nat) (sv lv' : List VV), Ext w6 w' ∧ MM w6.heap.size w' q q3 A n c sl A2 n2 c2 (a : Int) 0 0 none 0 0 (stp : Int) (pk : Int) SA sn' sc' sv LA sn sn lv' ∧ is.length ≤ a + fu ∧ a < is.length ∧ F a = some s ∧ StT s (sv.map (·.p)) (lv'.map (·.p)) ∧ (lv'.length : Int) = sl ∧ stp ≤ a ∧ pk ≤ a ∧ sn' ≤ a ∧ RUN = runV pv (rqL cl us lv nw xs ys) is fu a (sv.map (·.p)) (lv'.map (·.p)) stp pk)
  (fun _ => [(4, .pointer (some q4)), (7, .pointer (some q))]) (fun a => is.length - a) 0 (by simp [Fits, lk])
  ⟨([], List.replicate sl.toNat 0), 0, 0, is.length, none, 0, 0, [], List.replicate sn v0, hx68, hM8, by omega, hil, hV.start, by rw [eR]; exact stT_start sl.toNat, by rw [List.length_replicate]; omega, by omega, by omega, by omega, by rw [eR]; exact hRUN⟩ ?_
 rintro I hI a w' ⟨s, stp, pk, fu, SA, sn', sc', sv, lv', hx', hM, hfu, ha, hFa, hST, hln, hstp, hpk, hsa, hrun⟩
 obtain ⟨f', hf'⟩ : ∃ f', fu = f' + 1 := ⟨fu - 1, by omega⟩
 rw [hf'] at hrun hfu
 obtain ⟨⟨o, g⟩, hio⟩ : ∃ i, is[a]? = some i := ⟨_, g2_ ha⟩
 rw [runV, hio] at hrun
 simp only at hrun
 have htyp := (step_typ hV hsh hpv hrq hio hFa hST (by rw [List.length_map]; exact hln)).2
 have hstep := step_g hx' (he.ext hx) (hTc.ext hx) (hT2.ext hx) hcode6 hRq hrq hpv hV hsh rfl hio hFa hST hln hstp hpk hsa hM
 conv => cbv
 refine st_g hr hstep fun r w9 hres => ?_
 rw [show rqP ⟨cl, us, lv, nw, Q, m, d, xs, Q2, m2, d2, ys⟩ = rqL cl us lv nw xs ys from rfl] at hres
 cases hsv : stepV pv (rqL cl us lv nw xs ys) a o g (sv.map (·.p)) (lv'.map (·.p)) with
 | go a' st' sl' =>
  rw [hsv] at hres htyp hrun
  simp only at hrun
  obtain ⟨ev, SA1, sn1, sc1, sv1, lv1, hM9, e1, e2, hC9⟩ := hres
  subst ev
  obtain ⟨q1, q2', s', q3', q4', q5, q6'⟩ := htyp
  have hl1 := hM9.im.slen
  have hlo := hM.lo
  conv => cbv
  refine ⟨a', by simp [Fits, lk], hI _ _ ⟨s', stp + 1, max pk sn1, f', SA1, sn1, sc1, sv1, lv1, hC9.ext0 hx' fun r hr g hg => (hlo r hr g hg).1, hM9, by omega, q2', q3', by rw [e1, e2]; exact q4', ?_, by omega, ?_, ?_, ?_⟩, by omega⟩
  ·have e3 := congrArg List.length e2
   rw [List.length_map] at e3 q6'
   omega
  all_goals have e4 := congrArg List.length e1
  all_goals rw [List.length_map] at e4
  all_goals have e5 := stepV_len hsv
  all_goals rw [List.length_map, hM.im.slen] at e5
  ·omega
  ·omega
  ·rw [e1, e2, hrun, show st'.length = sn1 by omega]
 | done oc =>
  rw [hsv] at hres hrun
  simp only at hrun
  obtain ⟨ev, hx9, N, nm, nc, V, hVl, hb9, hoN, hN1, hN2⟩ := hres
  subst ev
  have hat : ∀ j v, ([.int .i64 (ocOf oc).1, .int .i64 (ocOf oc).2.1, .slice N nm nc, .int .i64 ((stp + 1 : Nat) : Int), .int .i64 (pk : Int)] : List Value)[j]? = some v → w9.cell? ((q.add 7).add j) = some v := fun j v hv => by
   rw [add_add]
   exact hb9.at (7 + j) v (by rw [List.getElem?_append_right (by omega), hVl, show 7 + j - 7 = j by omega]; exact hv)
  obtain ⟨kk, hkk⟩ : ∃ y : Int, y = (ocOf oc).1 := ⟨_, rfl⟩
  obtain ⟨kc, hkc⟩ : ∃ y : Int, y = (ocOf oc).2.1 := ⟨_, rfl⟩
  obtain ⟨kz, hkz⟩ : ∃ y, y = (ocOf oc).2.2 := ⟨_, rfl⟩
  obtain ⟨nSz, hnS⟩ : ∃ y : Int, y = ((stp + 1 : Nat) : Int) := ⟨_, rfl⟩
  obtain ⟨nPz, hnP⟩ : ∃ y : Int, y = (pk : Int) := ⟨_, rfl⟩
  rw [hrun] at hRP
  simp only at hRP
  rw [← hkk, ← hkc, ← hnS, ← hnP] at hat
  rw [← hkk, ← hkc, ← hkz, ← hnS, ← hnP] at hRP
  rw [← hkz] at hoN hN1 hN2
  have h49 := h4.bel hx9
  have k9 := hx9.size
  have kx := hx.size
  have k' := hx'.size
  conv => cbv
  refine st_nil hE ?_
  conv => cbv
  refine st_fld hE fMa5 fun p6 hp6 => ?_
  conv => cbv
  refine st_loadS hE tTr (vs := [.int .i64 kk, .int .i64 kc, .slice N nm nc, .int .i64 nSz, .int .i64 nPz]) rfl (by rw [hp6]; exact hat) ?_
  conv => cbv
  refine st_putS hr (by kernel_rfl) h49 (add_zero _).symm (by simp [zTrc]) (by simp [Value.oneCell']) fun wA hwA h4A => ?_
  simp only [zTrc, a1_, a2_, a3_, a4_, a5_, a6_, a7_] at h4A
  conv => cbv
  refine st_cell hr tTr rfl h4A.at ?_
  rw [hR]
  exact ⟨(hx.trans hx9).then (hwA.bel h49 (hx.trans hx9).size), _, hRP, N, nm, nc, rfl, (hoN.wr hwA (dj_apart hoN fun g1 h1 h2 => by rw [f4.2.2] at h2; cases h2; have := (own_blk hoN _ h1).1; omega)).mono (by omega), hN1, hN2⟩
theorem szInsS2_f {w : World} {A : Option Addr} {n c : Nat} (hn : n ≤ 9223372036854775807) (l : Int) (h0 : 0 ≤ l) (h1 : l ≤ 1048576) :
  FC Tryz.prog 35 [.slice A n c, .int .i64 l] w fun v _ => ∃ r : Int, v = .int .i64 r ∧ r ≤ 1048576 ∧ (0 ≤ r → n ≤ 1048576) := by
 refine FC.intro (cs := []) Tryz.func35 (by kernel_rfl) fun E R hE hr hR => ?_
 conv => cbv
 refine st_len hE sLI fun x hx => ?_
 conv => cbv
 obtain ⟨y1, hy1⟩ : ∃ y, y = l - x := ⟨_, rfl⟩
 have e1 : E.ar .sub .i64 l x = y1 := by rw [hE.ar, hy1]; exact wrap_in (by omega) (by omega)
 simp only [e1]
 refine br (fun _ => ?_) (fun g1 => ?_)
 ·conv => cbv
  rw [hR]; exact ⟨Ext.refl _, -1, rfl, by omega, fun h => by omega⟩
 conv => cbv
 rw [hR]; exact ⟨Ext.refl _, y1, rfl, by omega, fun h => by omega⟩
theorem szCode2_f {w : World} {A A2 : Option Addr} {n c n2 c2 : Nat} {sl : Int} {pv : List PV} {is : List (Int × Int)} (h : CodeR w A n A2 n2 pv is) (hn : n ≤ 9223372036854775807) (hn2 : n2 ≤ 9223372036854775807) :
  FC Tryz.prog 6 [codeV A n c sl A2 n2 c2, .int .i64 1048576] w fun v _ => ∃ r : Int, v = .int .i64 r ∧ r ≤ 1048576 ∧ (0 ≤ r → n ≤ 1048576 ∧ n2 ≤ 1048576 ∧ ∀ p ∈ pv, p.xs.length ≤ 1048576) := by
 refine FC.intro (cs := []) Tryz.func6 (by kernel_rfl) fun E R hE hr hR => ?_
 conv => cbv
 refine st_box hr fun a w1 hx hb0 => ?_
 have hb := hb0 _ (n1_ _)
 conv => cbv
 (refine st_fld hE fLC0 fun p hp => ?_; (conv => cbv); refine st_load hE cLVs (by rw [hp]; exact (hb).at _ _ rfl) ?_; clear hp; (conv => cbv))
 refine st_f hr (szValueS_f (h.pool.ext hx) hn 1048576 (by omega) (by omega)) fun v w2 hx2 ⟨r, ev, hr1, hr2⟩ => ?_
 subst ev
 replace hb := hb.bel hx2
 replace hx := hx.trans hx2
 conv => cbv
 refine br (fun _ => ?_) (fun g1 => ?_)
 ·conv => cbv
  rw [hR]; exact ⟨hx, -1, rfl, by omega, fun h => by omega⟩
 have g1 : 0 ≤ r := by simpa [hE.cmp, cmpR] using g1
 conv => cbv
 (refine st_fld hE fLC2 fun p hp => ?_; (conv => cbv); refine st_load hE cLIs (by rw [hp]; exact (hb).at _ _ rfl) ?_; clear hp; (conv => cbv))
 refine st_f hr (szInsS2_f (w := w2) hn2 r g1 hr1) fun v w3 hx3 ⟨r', ev, hr4, hr3⟩ => ?_
 subst ev
 replace hx := hx.trans hx3
 conv => cbv
 refine br (fun _ => ?_) (fun g2 => ?_)
 ·conv => cbv
  rw [hR]; exact ⟨hx, -1, rfl, by omega, fun h => by omega⟩
 have g2 : 0 ≤ r' := by simpa [hE.cmp, cmpR] using g2
 conv => cbv
 rw [hR]; exact ⟨hx, r', rfl, hr4, fun _ => ⟨(hr2 g1).1, hr3 g2, (hr2 g1).2⟩⟩
theorem toInsSO_f {w : World} {A : Option Addr} {n c : Nat} {is : List (Int × Int)} (h : InsR w A n is) (hn : n ≤ 1048576) :
  FC Tryz.prog 41 [.slice A n c] w fun v w' => ∃ A1 c1, v = .slice A1 n c1 ∧ Own w.heap.size 152 2 w' A1 n c1 (is.flatMap iC) := by
 refine FC.intro (cs := []) Tryz.func41 (by kernel_rfl) fun E R hE hr hR => ?_
 have hl := h.len
 conv => cbv
 refine st_len hE sLI fun x hx => ?_
 conv => cbv
 refine st_makeK hr sII rfl (m := n) (by omega) (by omega) (by omega) fun A1 w1 hx1 h10 => ?_
 have h1 := h10 _ (n1_ _)
 rw [show (Value.agg ⟨zI⟩).cells = ⟨iC (0, 0)⟩ from rfl, made_fl (f := iC) (0, 0) n 2 rfl (by omega)] at h1
 conv => cbv
 refine loop_rule hr (fun (s : Nat × Int) w' => s.1 ≤ n ∧ s.2 = (s.1 : Int) ∧ Ext w w' ∧ Own w.heap.size 152 2 w' A1 n n ((is.take s.1 ++ List.replicate (n - s.1) (0, 0)).flatMap iC))
  (fun s => [(0, .slice A n c), (3, .slice A1 n n), (4, .int .i64 s.2)]) (fun s => n - s.1) (0, 0)
  (by simp [Fits, lk]) ⟨by simp, by simp, hx1, by simpa using h1⟩ ?_
 rintro I hI ⟨i, ii⟩ w' ⟨hi, hii, hxw, ho⟩
 simp only at hi hii ho
 obtain ⟨ii', hii'⟩ : ∃ z, z = ii + 1 := ⟨_, rfl⟩
 conv => cbv
 refine st_len hE sLI fun x2 hx2 => ?_
 conv => cbv
 refine br (fun g2 => ?_) (fun g2 => ?_)
 ·have g2 : i < n := by
   have : ii < x2 := by simpa [hE.cmp, cmpR] using g2
   omega
  have ei : E.ar .add .i64 ii 1 = ii' := by rw [hE.ar, hii']; exact wrap_in (by omega) (by omega)
  obtain ⟨a, o, g, hA, hg, hc⟩ := (h.ext hxw).get g2
  obtain ⟨gb, rfl, _⟩ := ho.addr (by omega)
  conv => cbv
  refine st_idx hE sLI hA (by omega) (by omega) fun q hq => ?_
  rw [show ii.toNat = i by omega] at hq
  conv => cbv
  refine st_loadS hE tLI rfl (by rw [hq]; exact hc) ?_
  conv => cbv
  refine st_f hr (toIns_f (o := o) (g := g)) fun v w2 hx3 ev => ?_
  subst ev
  replace ho := ho.bel hx3
  replace hxw := hxw.trans hx3
  conv => cbv
  refine st_idx hE sII rfl (by omega) (by omega) fun q1 hq1 => ?_
  rw [show ii.toNat = i by omega] at hq1
  conv => cbv
  refine st_putS hr (vs := [.int .i64 o, .int .i64 g]) (by kernel_rfl) ho (j := i * 2) hq1 (by rw [fl_len iC_len]; simp; omega) (by simp [Value.oneCell']) fun w3 hw3 ho3 => ?_
  rw [show [Value.int .i64 o, .int .i64 g] = iC (o, g) from rfl, fl_put iC_len _ i (o, g) (by simp; omega)] at ho3
  have hset : (is.take i ++ List.replicate (n - i) ((0, 0) : Int × Int)).set i (o, g) = is.take (i + 1) ++ List.replicate (n - (i + 1)) (0, 0) := by
   rw [List.set_append_right _ _ (by simp; omega), List.length_take, Nat.min_eq_left (by omega), Nat.sub_self, show n - i = (n - (i + 1)) + 1 by omega, List.replicate_succ, b4_, g4_, hg, List.append_assoc]; rfl
  rw [hset] at ho3
  conv => cbv
  simp only [ei]
  exact ⟨(i + 1, ii'), by simp [Fits, lk], hI _ _ ⟨by simp only; omega, by simp only; omega, hxw.then (hw3.bel ho hxw.size), ho3⟩, by simp only; omega⟩
 ·have g2 : i = n := by
   have : ¬ ii < x2 := by simpa [hE.cmp, cmpR] using g2
   omega
  subst g2
  rw [g3_ (by omega)] at ho
  simp only [Nat.sub_self, List.replicate_zero, a7_] at ho
  conv => cbv
  rw [hR]; exact ⟨hxw, A1, i, rfl, ho⟩
theorem toValueSO_f {w : World} {A : Option Addr} {n c : Nat} {pv : List PV} (h : Pool w A n pv) (hn : n ≤ 1048576) (hp : ∀ p ∈ pv, p.xs.length ≤ 1048576) :
  FC Tryz.prog 40 [.slice A n c] w fun v w' => ∃ A1 c1 vs, v = .slice A1 n c1 ∧ vs.map (·.p) = pv ∧ RO 153 4 vC sbValue w.heap.size w' A1 n c1 vs ∧ ∀ v ∈ vs, v.p.tx.size ≤ 9223372036854775807 ∧ ∀ u ∈ v.p.xs, u.size ≤ 9223372036854775807 := by
 refine FC.intro (cs := []) Tryz.func40 (by kernel_rfl) fun E R hE hr hR => ?_
 have hl := h.len
 obtain ⟨v0, hv0⟩ : ∃ v0 : VV, v0 = ⟨nonV, none, 0, 0⟩ := ⟨_, rfl⟩
 conv => cbv
 refine st_len hE sLV fun x hx => ?_
 conv => cbv
 refine st_makeK hr sIV rfl (m := n) (by omega) (by omega) (by omega) fun A1 w1 hx1 h10 => ?_
 have h1 := h10 _ (n1_ _)
 rw [show (Value.agg ⟨zV⟩).cells = ⟨vC v0⟩ from by rw [hv0]; rfl, made_fl (f := vC) v0 n 4 rfl (by omega)] at h1
 conv => cbv
 refine loop_rule hr (fun (s : Nat × Int × List VV) w' => s.1 ≤ n ∧ s.2.1 = (s.1 : Int) ∧ s.2.2.length = s.1 ∧ s.2.2.map (·.p) = pv.take s.1 ∧ Ext w w' ∧ Own w.heap.size 153 4 w' A1 n n ((s.2.2 ++ List.replicate (n - s.1) v0).flatMap vC) ∧
   (∀ v ∈ s.2.2, Own w1.heap.size 9 1 w' v.A v.m v.c (v.p.xs.map (.string)) ∧ v.p.tx.size ≤ 9223372036854775807 ∧ (∀ u ∈ v.p.xs, u.size ≤ 9223372036854775807)) ∧ w1.heap.size ≤ w'.heap.size ∧ DJ A1 (s.2.2.map (adr sbValue)))
  (fun s => [(0, .slice A n c), (3, .slice A1 n n), (4, .int .i64 s.2.1)]) (fun s => n - s.1) (0, 0, [])
  (by simp [Fits, lk]) ⟨by simp, by simp, rfl, by simp, hx1, by simpa using h1, by simp, n1_ _, ⟨by simp, by simp, by simp⟩⟩ ?_
 rintro I hI ⟨i, ii, ds⟩ w' ⟨hi, hii, hdl, hdp, hxw, ho, hds, hsz, hdj⟩
 simp only at hi hii hdl hdp ho hds hdj
 obtain ⟨ii', hii'⟩ : ∃ z, z = ii + 1 := ⟨_, rfl⟩
 conv => cbv
 refine st_len hE sLV fun x2 hx2 => ?_
 conv => cbv
 refine br (fun g2 => ?_) (fun g2 => ?_)
 ·have g2 : i < n := by
   have : ii < x2 := by simpa [hE.cmp, cmpR] using g2
   omega
  have ei : E.ar .add .i64 ii 1 = ii' := by rw [hE.ar, hii']; exact wrap_in (by omega) (by omega)
  obtain ⟨a, k, z, tx, xs, A0, m0, c0, hA, hg, hc, hst, htx⟩ := (h.ext hxw).get g2
  have hb_xs : m0 ≤ 1048576 := by rw [← hst.len]; exact hp _ (m1_ hg)
  obtain ⟨gb, rfl, _⟩ := ho.addr (by omega)
  conv => cbv
  refine st_idx hE sLV hA (by omega) (by omega) fun q hq => ?_
  rw [show ii.toNat = i by omega] at hq
  conv => cbv
  refine st_loadS hE tLV (vs := [.int .i64 k, .int .i64 z, .string tx, .slice A0 m0 c0]) rfl (by rw [hq]; exact hc) ?_
  conv => cbv
  refine st_f hr (toValue_f (k := k) (z := z) (tx := tx) hst hb_xs) fun u w2 hx3 ⟨B0, n0, d0, ev, o_xs⟩ => ?_
  subst ev
  have hdn : DJ (some ⟨gb, 0, none⟩) ((ds ++ [(⟨⟨k, z, tx, xs⟩, B0, n0, d0⟩ : VV)]).map (adr sbValue)) := by
   rw [List.map_append]
   refine hdj.snoc (fun a ha => ?_) ?_ (fun l hl b hb a ha => ?_)
   ·simp [adr, sbValue] at ha
    subst ha
    exact dj_new ho o_xs (n1_ _)
   ·simp [adr, sbValue]
   ·obtain ⟨v2, hv2, rfl⟩ := List.mem_map.1 hl
    obtain ⟨k0, _⟩ := hds v2 hv2
    simp [adr, sbValue] at ha hb
    subst ha; subst hb
    exact dj_new k0 o_xs (n1_ _)
  replace o_xs := o_xs.mono hsz
  have ap : ∀ {e m5 c5 ys A5}, Own w1.heap.size e 1 w2 A5 m5 c5 ys → Apart A5 (some ⟨gb, 0, none⟩) := fun h5 => (h1.apart h5 (n1_ _)).2
  replace ho := ho.bel hx3
  have hds2 : ∀ v ∈ ds, Own w1.heap.size 9 1 w2 v.A v.m v.c (v.p.xs.map (.string)) ∧ v.p.tx.size ≤ 9223372036854775807 ∧ (∀ u ∈ v.p.xs, u.size ≤ 9223372036854775807) := fun v hv => by
   obtain ⟨k0, k2, k3⟩ := hds v hv
   exact ⟨k0.bel hx3, k2, k3⟩
  replace hxw := hxw.trans hx3
  conv => cbv
  refine st_idx hE sIV rfl (by omega) (by omega) fun q1 hq1 => ?_
  rw [show ii.toNat = i by omega] at hq1
  conv => cbv
  obtain ⟨y, hy⟩ : ∃ y : VV, y = ⟨⟨k, z, tx, xs⟩, B0, n0, d0⟩ := ⟨_, rfl⟩
  refine st_putS hr (vs := [.int .i64 k, .int .i64 z, .string tx, .slice B0 n0 d0]) (by kernel_rfl) ho (j := i * 4) hq1 (by rw [fl_len vC_len]; simp; omega) (by simp [Value.oneCell']) fun w3 hw3 ho3 => ?_
  rw [show ([.int .i64 k, .int .i64 z, .string tx, .slice B0 n0 d0] : List Value) = vC y by rw [hy]; rfl, fl_put vC_len _ i y (by simp; omega)] at ho3
  have hset : (ds ++ List.replicate (n - i) v0).set i y = (ds ++ [y]) ++ List.replicate (n - (i + 1)) v0 := by
   rw [List.set_append_right _ _ (by omega), hdl, Nat.sub_self, show n - i = (n - (i + 1)) + 1 by omega, List.replicate_succ, b4_, List.append_assoc]; rfl
  rw [hset] at ho3
  conv => cbv
  simp only [ei]
  refine ⟨(i + 1, ii', ds ++ [y]), by simp [Fits, lk], hI _ _ ⟨by simp only; omega, by simp only; omega, by simp [hdl], ?_, hxw.then (hw3.bel ho hxw.size), ho3, ?_, ?_, by simp only; rw [hy]; exact hdn⟩, by simp only; omega⟩
  ·simp only
   rw [List.map_append, hdp, g4_, hg, hy]; rfl
  ·intro v2 hv
   rcases List.mem_append.1 hv with hv | hv
   ·obtain ⟨k0, k2, k3⟩ := hds2 v2 hv
    exact ⟨k0.wr hw3 (ap k0), k2, k3⟩
   ·simp at hv; subst hv; rw [hy]
    exact ⟨o_xs.wr hw3 (ap o_xs), htx, hst.small⟩
  ·have := hw3.size; have := hx3.size; omega
 ·have g2 : i = n := by
   have : ¬ ii < x2 := by simpa [hE.cmp, cmpR] using g2
   omega
  rw [g2] at hdp ho
  rw [g3_ (by omega)] at hdp
  rw [Nat.sub_self, List.replicate_zero, a7_] at ho
  conv => cbv
  rw [hR]
  refine ⟨hxw, A1, n, ds, rfl, hdp, ⟨ho, fun v hv s hs => ?_, hdj⟩, fun v hv => (hds v hv).2⟩
  simp [sbValue] at hs
  subst hs
  exact (hds v hv).1.mono hx1.size
theorem toCodeO_f {w : World} {A A2 : Option Addr} {n c n2 c2 : Nat} {sl : Int} {pv : List PV} {is : List (Int × Int)} (h : CodeR w A n A2 n2 pv is) (hn : n ≤ 1048576) (hn2 : n2 ≤ 1048576) (hp : ∀ p ∈ pv, p.xs.length ≤ 1048576) :
  FC Tryz.prog 9 [codeV A n c sl A2 n2 c2] w fun v w' => ∃ A1 c1 A3 c3 vs, v = codeV A1 n c1 sl A3 n2 c3 ∧ vs.map (·.p) = pv ∧ CO w.heap.size w' A1 n c1 A3 n2 c3 vs is ∧ ∀ v ∈ vs, v.p.tx.size ≤ 9223372036854775807 ∧ ∀ u ∈ v.p.xs, u.size ≤ 9223372036854775807 := by
 refine FC.intro (cs := []) Tryz.func9 (by kernel_rfl) fun E R hE hr hR => ?_
 conv => cbv
 refine st_box hr fun a w1 hx hb0 => ?_
 have hb := hb0 _ (n1_ _)
 conv => cbv
 refine st_alloc hr tIC rfl fun o w2 hx2 ho0 => ?_
 have ho := ho0 _ hx.size
 have hb := hb.bel hx2
 have hx := hx.trans hx2
 conv => cbv
 refine st_alloc hr tIC rfl fun q w3 hx3 hq0 => ?_
 have hq := hq0 _ hx.size
 have aq := (hb.apart (hq0 _ (n1_ _)) (n1_ _)).1
 have oq := (ho.apart (hq0 _ (n1_ _)) (n1_ _)).1
 have hb := hb.bel hx3
 have ho := ho.bel hx3
 have hx := hx.trans hx3
 clear hb0 ho0 hq0
 have lq : ∀ g, blk (some q) = some g → g < w3.heap.size := fun g hg => (own_blk hq g hg).2
 have lo : ∀ g, blk (some o) = some g → g < w3.heap.size := fun g hg => (own_blk ho g hg).2
 have s3 := hx.size
 conv => cbv
 (refine st_fld hE fLC0 fun p hp => ?_; (conv => cbv); refine st_load hE cLVs (by rw [hp]; exact (hb).at _ _ rfl) ?_; clear hp; (conv => cbv))
 refine st_f hr (toValueSO_f (h.pool.ext hx) hn hp) fun v w4 hx4 ⟨A4, c4, vs, ev, hvs, hRO, hsm⟩ => ?_
 subst ev
 have hs4 := hx4.size
 replace hb := hb.bel hx4
 replace ho := ho.bel hx4
 replace hq := hq.bel hx4
 replace hx := hx.trans hx4
 have dR : ∀ {X : Option Addr}, (∀ g, blk X = some g → g < w3.heap.size) → ∀ r ∈ roA sbValue A4 vs, Dj X r := fun hX r hr g h1 h2 => by have := hX g h1; have := (hRO.lo r hr g h2).1; omega
 conv => cbv
 (refine st_fld hE fIC0 fun p hp => ?_; (conv => cbv); refine st_put hr zIVs hq hp (by simp) rfl fun wn hw hq2 => ?_; replace hx := hx.then (hw.bel hq hx.size); (try clear hq); (have hq := hq2); clear hq2; (simp only [b4_, b5_] at hq); clear hp)
 replace hb := hb.wr hw aq
 replace ho := ho.wr hw oq
 have hRO5 := hRO.wr hw (dR lq)
 have k5 := hw.size
 conv => cbv
 (refine st_fld hE fLC1 fun p hp => ?_; (conv => cbv); refine st_load hE cInt (by rw [hp]; exact (hb).at _ _ rfl) ?_; clear hp; (conv => cbv))
 refine st_fld hE fIC1 fun p hp => ?_
 conv => cbv
 refine st_put hr zInt hq hp (by simp) rfl fun wm hwm hq2 => ?_
 replace hx := hx.then (hwm.bel hq hx.size)
 simp only [b4_, b5_] at hq2
 replace hq := hq2
 replace hb := hb.wr hwm aq
 replace ho := ho.wr hwm oq
 have hRO6 := hRO5.wr hwm (dR lq)
 have k6 := hwm.size
 conv => cbv
 (refine st_fld hE fLC2 fun p hp => ?_; (conv => cbv); refine st_load hE cLIs (by rw [hp]; exact (hb).at _ _ rfl) ?_; clear hp; (conv => cbv))
 refine st_f hr (toInsSO_f (h.ins.ext hx) hn2) fun v w6 hx6 ⟨A6, c6, ev, hI⟩ => ?_
 subst ev
 replace ho := ho.bel hx6
 replace hq := hq.bel hx6
 replace hx := hx.trans hx6
 have hRO7 := hRO6.ext hx6
 have dRI : ∀ r ∈ roA sbValue A4 vs, Dj r A6 := fun r hr g h1 h2 => by have := (hRO6.lo r hr g h1).2; have := (own_blk hI g h2).1; omega
 have dI : ∀ {X : Option Addr}, (∀ g, blk X = some g → g < w3.heap.size) → Dj A6 X := fun hX g h1 h2 => by have := hX g h2; have := (own_blk hI g h1).1; omega
 conv => cbv
 refine st_fld hE fIC2 fun p2 hp2 => ?_
 conv => cbv
 refine st_put hr zIIs hq hp2 (by simp) rfl fun w7 hw7 hq3 => ?_
 replace hx := hx.then (hw7.bel hq hx.size)
 replace ho := ho.wr hw7 oq
 have hRO8 := hRO7.wr hw7 (dR lq)
 have hI8 := hI.wr hw7 (dj_apart hI (dI lq))
 simp only [b4_, b5_] at hq3
 conv => cbv
 refine st_loadS hE tIC rfl hq3.at ?_
 conv => cbv
 refine st_putS hr (by kernel_rfl) ho (add_zero _).symm (by simp) (by simp [Value.oneCell']) fun w8 hw8 ho8 => ?_
 simp only [a1_, a2_, a3_, a4_, a5_, a6_, a7_] at ho8
 conv => cbv
 refine st_cell hr tIC rfl ho8.at ?_
 rw [hR]
 exact ⟨hx.then (hw8.bel ho hx.size), A4, c4, A6, c6, vs, rfl, hvs, ⟨(hRO8.wr hw8 (dR lo)).low s3, ro_ins ((hI8.wr hw8 (dj_apart hI8 (dI lo))).mono (by omega)), dRI⟩, hsm⟩
theorem ctL_bd4 {α : Type} {ct : α → Nat} {C : Nat} : ∀ (l : List α), (∀ v ∈ l, ct v ≤ C) → ctL ct l ≤ l.length * C
 | [], _ => by simp [ctL]
 | v :: l, h => by
  have h1 := h v (List.mem_cons_self ..)
  have h2 := ctL_bd4 l fun u hu => h u (List.mem_cons_of_mem _ hu)
  rw [ctL, a3_, Nat.add_mul]
  omega
theorem CO.cdK_bd4 {B : Nat} {w : World} {P : Option Addr} {pn pc : Nat} {I : Option Addr} {n ic : Nat} {vs : List VV} {is : List (Int × Int)} (h : CO B w P pn pc I n ic vs is) (h1 : pn ≤ 1048576) (h2 : n ≤ 1048576) (h3 : ∀ p ∈ vs.map (·.p), p.xs.length ≤ 1048576) : cdK vs is ≤ 1000000000000000 := by
 have l1 := h.pl.len vC_len (by omega)
 have l2 := h.is.len iC_len (by omega)
 have c1 := ctL_bd4 (ct := ctValue) (C := 2000000) vs fun v hv => by
  have hm := (h.pl.sub v hv ⟨v.A, v.m, v.c, 9, v.p.xs.map .string⟩ (by simp [sbValue])).len
  simp only [List.length_map] at hm
  have := h3 v.p (List.mem_map.2 ⟨v, hv, rfl⟩)
  unfold ctValue; omega
 have c2 := ctL_bd4 (ct := ctIns) (C := 4) is fun v hv => by unfold ctIns; omega
 have : vs.length * 2000000 ≤ 1048576 * 2000000 := Nat.mul_le_mul_right _ (by omega)
 unfold cdK; omega
end Go.Proofs.YtkedmcebngachaaGreatDoor
namespace Go.Eng
set_option linter.unusedVariables false
set_option linter.unusedSimpArgs false
def one2 (E : Sym) (S : World → Prop) (all : List Oper) (x : Nat) (F : Fr) (w : World) (K : Fr → World → Prop) : Prop := match all[x]? with
 | none => False
 | some o => eOps E all [o] F w fun F w => S w ∧ K F w
def ePhC (E : Sym) (S : World → Prop) (all : List Oper) (y : Nat) (l : List (Nat × Bool)) : List Nat → Fr → World → (Fr → World → Prop) → Prop
 | [], F, w, K => one2 E S all y F w fun F w => ePh2 E S all l F w K
 | x :: xs, F, w, K => (one2 E S all x F w fun F w => ePhC E S all y l xs F w K) ∧ (one2 E S all y F w fun F w => ePh2 E S all ((x :: xs).map (·, false) ++ l) F w K)
def planC2 (ops : Array Oper) (y : Nat) (l : List (Nat × Bool)) : List Nat → Array Bool → Bool
 | [], listed => Region.ready .any ops listed == [y] && planB2 ops l (listed.setIfInBounds y true)
 | x :: xs, listed => (Region.ready .any ops listed == [x, y] || Region.ready .any ops listed == [y, x]) && planC2 ops y l xs (listed.setIfInBounds x true) && planB2 ops ((x :: xs).map (·, false) ++ l) (listed.setIfInBounds y true)
def planC1 (ops : Array Oper) (y : Nat) (l2 : List (Nat × Bool)) (xs : List Nat) : List Nat → Array Bool → Bool
 | [], listed => planC2 ops y l2 xs listed
 | k :: l, listed => Region.free .any ops listed k && (Region.ready .any ops listed).contains k && planC1 ops y l2 xs l (listed.setIfInBounds k true)
def planC (ops : Array Oper) (l1 : List Nat) (xs : List Nat) (y : Nat) (l2 : List (Nat × Bool)) : Bool :=
 Region.noSelect ops && Nat.beq (l1.length + (xs.length + 1 + l2.length)) ops.size && planC1 ops y l2 xs l1 (Array.replicate ops.size false)
section
variable {P : Program} {Pn : List PanicEntry → World → Prop} {n : Nat}
theorem one2_op {S : World → Prop} {all : List Oper} {x : Nat} (hd : ∀ o ∈ all, ∀ t, o.dst = some t → t < n) {K : Exit → Fr → World → Prop} {F : Fr} {a : Act} {w : World} (hk : Kn n F a) {K1 : Fr → World → Prop} (h : one2 (real P Pn n) S all x F w K1) {K' : Act → World → Prop} (hKK : ∀ F' a' w', Kn n F' a' → S w' → K1 F' w' → K' a' w') : wpOp P all.toArray (QK Pn n K) x (fun a' w' => S w' ∧ K' a' w') a w := by
 unfold one2 at h
 split at h
 ·exact h.elim
 ·rename_i o ho
  exact step_op (Pn := Pn) ho (hd o (m1_ ho)) hk (fun c w h => ⟨hk.defers, h⟩) (fun F' a' w' hk' ⟨h1, h2⟩ => ⟨h1, hKK F' a' w' hk' h1 h2⟩) h
theorem ePhC_sound {S : World → Prop} {all : List Oper} (hs : Region.noSelect all.toArray = true) (hd : ∀ o ∈ all, ∀ t, o.dst = some t → t < n) {K : Exit → Fr → World → Prop} {y : Nat} {l : List (Nat × Bool)} : ∀ (xs : List Nat) (listed : Array Bool) (F : Fr) (a : Act) (w : World), S w → Kn n F a → planC2 all.toArray y l xs listed = true → ePhC (real P Pn n) S all y l xs F w (K .normal) → wpAnyH P .any all.toArray (QK Pn n K) S (xs.length + 1 + l.length) listed a w
 | [], listed, F, a, w, hS, hk, hB, h => by
  simp only [planC2, Bool.and_eq_true, beq_iff_eq] at hB
  obtain ⟨r0, b1⟩ := hB
  simp only [ePhC] at h
  rw [show ([] : List Nat).length + 1 + l.length = l.length + 1 by simp; omega]
  refine wpAnyH_all r0 (by simp) fun i hi => ?_
  obtain rfl : i = y := by simpa using hi
  exact one2_op hd hk h fun F' a' w' hk' h1 h2 => ePh2_sound hs hd l _ F' a' w' h1 hk' b1 h2
 | x :: xs, listed, F, a, w, hS, hk, hB, h => by
  simp only [planC2, Bool.and_eq_true, Bool.or_eq_true, beq_iff_eq] at hB
  obtain ⟨⟨r0, b1⟩, b2⟩ := hB
  simp only [ePhC] at h
  have hx : wpOp P all.toArray (QK Pn n K) x (fun a' w' => S w' ∧ wpAnyH P .any all.toArray (QK Pn n K) S (xs.length + 1 + l.length) (listed.setIfInBounds x true) a' w') a w :=
   one2_op hd hk h.1 fun F' a' w' hk' h1 h2 => ePhC_sound hs hd xs _ F' a' w' h1 hk' b1 h2
  have hy : wpOp P all.toArray (QK Pn n K) y (fun a' w' => S w' ∧ wpAnyH P .any all.toArray (QK Pn n K) S (xs.length + 1 + l.length) (listed.setIfInBounds y true) a' w') a w :=
   one2_op hd hk h.2 fun F' a' w' hk' h1 h2 => by
    have := ePh2_sound (Pn := Pn) (K := K) hs hd _ _ F' a' w' h1 hk' b2 h2
    rw [List.length_append, List.length_map, a3_] at this
    exact this
  rw [show (x :: xs).length + 1 + l.length = (xs.length + 1 + l.length) + 1 by simp only [a3_]; omega]
  rcases r0 with r0 | r0
  ·refine wpAnyH_all r0 (by simp) fun i hi => ?_
   simp only [List.mem_cons, List.not_mem_nil, or_false] at hi
   rcases hi with rfl | rfl
   ·exact hx
   ·exact hy
  ·refine wpAnyH_all r0 (by simp) fun i hi => ?_
   simp only [List.mem_cons, List.not_mem_nil, or_false] at hi
   rcases hi with rfl | rfl
   ·exact hy
   ·exact hx
theorem ePh1_soundC {S : World → Prop} {w : World} {all : List Oper} (hs : Region.noSelect all.toArray = true) (hd : ∀ o ∈ all, ∀ t, o.dst = some t → t < n) {K : Exit → Fr → World → Prop} {w0 : World} (hS : S w0) (xs : List Nat) (y : Nat) (l2 : List (Nat × Bool)) (K1 : Fr → World → Prop) : ∀ (l : List Nat) (listed : Array Bool) (F : Fr) (a : Act), Kn n F a → planC1 all.toArray y l2 xs l listed = true → ePh1 (wreal S P) all l F w K1 →
  (∀ F a listed, Kn n F a → planC2 all.toArray y l2 xs listed = true → K1 F w → wpAnyH P .any all.toArray (QK Pn n K) S (xs.length + 1 + l2.length) listed a w0) → wpAnyH P .any all.toArray (QK Pn n K) S (l.length + (xs.length + 1 + l2.length)) listed a w0
 | [], listed, F, a, hk, hB, h, h2 => by
  rw [a4_, Nat.zero_add]
  exact h2 F a listed hk hB h
 | k :: l, listed, F, a, hk, hB, h, h2 => by
  simp only [planC1, Bool.and_eq_true] at hB
  obtain ⟨⟨hf, hr⟩, hB⟩ := hB
  simp only [ePh1] at h
  split at h
  ·exact h.elim
  ·rename_i o ho
   obtain ⟨v, F', hy, hk', h⟩ := step_yields (P := P) (n := n) (S := S) (E' := wreal S P) (fun _ _ => rfl) (fun _ _ _ ⟨v, h1, h2⟩ => ⟨v, fun w1 hw1 => h1 w1 hw1, h2⟩) (hd o (m1_ ho)) hk h
   have := wpAnyH_take (by simpa using ho) hs hf hr panic_put hy hS (ePh1_soundC hs hd hS xs y l2 K1 l _ F' _ hk' hB h h2)
   rw [show (k :: l).length + (xs.length + 1 + l2.length) = l.length + (xs.length + 1 + l2.length) + 1 by simp only [a3_]; omega]
   exact this
theorem draw_y0 (S : World → Prop) (l1 xs : List Nat) (y : Nat) (l2 : List (Nat × Bool)) {E : Sym} (hE : E = real P Pn n) {id : Nat} {ops : Array Oper} {F : Fr} {w : World} {K : Exit → Fr → World → Prop} (hm : P.follows .mixedOrders = true) (hB : planC ops l1 xs y l2 = true) (hS : ∀ w0, Same w w0 → S w0)
  (h : ∀ E', EngW S P E' → ∀ w0, Same w w0 → ePh1 E' ops.toList l1 F w0 (fun F' w' => ePhC E S ops.toList y l2 xs F' w' (K .normal))) : E.draw id ops F w K := by
 subst hE
 intro hd a hk
 simp only [planC, Bool.and_eq_true, Nat.beq_eq] at hB
 obtain ⟨⟨hs, hl⟩, hB⟩ := hB
 have hs' : Region.noSelect ops.toList.toArray = true := by simpa using hs
 have h0 : S { w with drawn := w.drawn + 1 } := hS _ (Same.drew w)
 refine wp_region_held (S := S) hm ?_
 have := ePh1_soundC (Pn := Pn) (K := K) (n := n) (S := S) (w := { w with drawn := w.drawn + 1 }) hs' (okDst_ops hd) h0 xs y l2 _ l1 (Array.replicate ops.size false) F a hk (by simpa using hB) (h (wreal S P) ⟨fun {_ _ _ v _} h hk => ⟨v, h, hk⟩⟩ _ (Same.drew w))
  (fun F a listed hk hB h => ePhC_sound hs' (okDst_ops hd) xs listed F a _ h0 hk hB h)
 rw [hl] at this
 simpa using this
theorem draw_y (S : World → Prop) (l1 xs : List Nat) (y : Nat) (l2 : List (Nat × Bool)) {E : Sym} (hE : E = real P Pn n) {id : Nat} {ops : Array Oper} {F : Fr} {w : World} {K : Exit → Fr → World → Prop} {St : Type} (I : St → World → Prop) (G : St → Fr) (hm : P.follows .mixedOrders = true) (hB : planC ops l1 xs y l2 = true) (hS : ∀ w0, Same w w0 → S w0)
  (h : ∀ I' : St → World → Prop, (∀ s w, I s w → I' s w) → ∀ E', EngW S P E' → ∀ w0, Same w w0 → ePh1 E' ops.toList l1 F w0 (fun F' w' => ePhC E S ops.toList y l2 xs F' w' (fun F'' w'' => ∃ s, Fits (G s) F'' ∧ I' s w'')))
  (hk : ∀ s w', I s w' → K .normal (G s) w') : E.draw id ops F w K := by
 have h1 : E.draw id ops F w (fun e F' w' => match e with
   | .normal => ∃ s, Fits (G s) F' ∧ I s w'
   | e => K e F' w') := draw_y0 S l1 xs y l2 hE hm hB hS (h I fun _ _ h => h)
 subst hE
 intro hd a hka
 refine Code.wp_mono (fun e a' w' hq => ?_) (h1 hd a hka)
 cases e with
 | normal => obtain ⟨F', hk', s, hf, hi⟩ := hq; exact ⟨G s, hk'.sub hf, hk s w' hi⟩
 | panic c => exact hq
 | outgrown => exact hq.elim
 | exit id => exact hq
 | goto l => exact hq
 | ret => exact hq
end
end Go.Eng
namespace Go.Proofs.YtkedmcebngachaaGreatDoor
open Go.Eng
set_option linter.unusedVariables false
set_option linter.unusedSimpArgs false
theorem dj_bd2 {lo hi : Nat} {r X : Option Addr} (h1 : ∀ g, blk r = some g → lo ≤ g ∧ g < hi) (h2 : ∀ g, blk X = some g → g < lo ∨ hi ≤ g) : Dj r X := fun g hg e => by
 have := h1 g hg
 have := h2 g e
 omega
theorem apart_bd {B : Nat} {e : TypeId} {k : Nat} {w : World} {X C : Option Addr} {m c lo hi : Nat} {xs : List Value} (h : Own B e k w X m c xs) (hC : ∀ g, blk C = some g → lo ≤ g ∧ g < hi) (hX : ∀ g, blk X = some g → g < lo ∨ hi ≤ g) : Apart X C := by
 obtain rfl | ⟨g, rfl, _⟩ := h.blk
 ·exact .inl rfl
 ·refine .inr ?_
  intro e
  have h1 := hC g e.symm
  have h2 := hX g rfl
  omega
theorem at_blk {q : Addr} (h : blk (some q) = some q.block) {p : Nat → Prop} (hp : p q.block) : ∀ g, blk (some q) = some g → p g := fun g hg => by rw [h] at hg; cases hg; exact hp
theorem lawRun {A A2 : Option Addr} {n c n2 c2 : Nat} {sl : Int} {pv : List PV} {is : List (Int × Int)} {cl us : ByteArray} {lv nw : Int} {Q Q2 : Option Addr} {m d m2 d2 : Nat} {xs ys : List ByteArray} {z o v : Addr} (w : World) (hT : Tab w 4 constF ∧ Tab w 3 opF ∧ Tab w 5 calcF ∧ Errs w z o v) (h : CodeR w A n A2 n2 pv is) (hn : n ≤ 9223372036854775807) (hn2 : n2 ≤ 9223372036854775807) (hf : ∀ p ∈ pv, fits p.n)
  (hcl : cl.size ≤ 9223372036854775807) (hus : us.size ≤ 9223372036854775807) (hs : Strs w Q m d xs) (hs2 : Strs w Q2 m2 d2 ys) (fl : fits lv) (fn : fits nw) :
  Law Tryz.prog 3 [codeV A n c sl A2 n2 c2, reqV cl us lv nw Q m d Q2 m2 d2] w := by
 refine FC.intro (cs := []) Tryz.func3 (by kernel_rfl) fun E R hE hr hR => ?_
 have en : ∀ z : Int, ¬ E.cmp .neq z z = true := fun z => by rw [hE.cmp]; simp [cmpR]
 conv => cbv
 refine st_box hr fun a0 w1 hx hb0 => ?_
 have hb := hb0 _ (n1_ _)
 have bA := own_blk hb
 clear hb0
 conv => cbv
 refine st_box hr fun a1 w2 hx2 hb0 => ?_
 have hc := hb0 w.heap.size hx.size
 clear hb0
 replace hb := hb.bel hx2
 replace hx := hx.trans hx2
 clear hx2
 conv => cbv
 refine st_loadS hE tLC rfl hb.at ?_
 conv => cbv
 refine st_f hr (szCode2_f (c := c) (c2 := c2) (h.ext hx) hn hn2) fun v w3 hx3 ⟨r, ev, hr1, hsz⟩ => ?_
 subst ev
 replace hb := hb.bel hx3
 replace hc := hc.bel hx3
 replace hx := hx.trans hx3
 clear hx3
 conv => cbv
 refine br (fun g => ?_) (fun g => ?_)
 ·conv => cbv
  rw [hR]; exact ⟨hx, rfl⟩
 have g : 0 ≤ r := by simpa [hE.cmp, cmpR] using g
 obtain ⟨hwt, hwt2, hwt3⟩ := hsz g
 conv => cbv
 refine st_loadS hE tLReq rfl hc.at ?_
 conv => cbv
 refine st_f hr (szRequest2_f g hr1 hcl hus (hs.ext hx) (hs2.ext hx)) fun v w4 hx4 ⟨z1, ev, hz1⟩ => ?_
 subst ev
 replace hb := hb.bel hx4
 replace hc := hc.bel hx4
 replace hx := hx.trans hx4
 clear hx4
 conv => cbv
 refine br (fun g => ?_) (fun g => ?_)
 ·conv => cbv
  rw [hR]; exact ⟨hx, rfl⟩
 obtain ⟨hm1, hm2⟩ := hz1 (by simpa [hE.cmp, cmpR] using g)
 conv => cbv
 refine draw_y (Ext w4) [0, 2] [1, 3, 4] 5 [(6, false)] hr (St := Addr × Int × Int × Option Addr × Nat × Nat × List ByteArray × Int × Int) (fun s w' => Ext w4 w' ∧ Box w4.heap.size 34 5 w' s.1 [.int .i64 s.2.1, .int .i64 s.2.2.1, .slice s.2.2.2.1 s.2.2.2.2.1 s.2.2.2.2.2.1, .int .i64 s.2.2.2.2.2.2.2.1, .int .i64 s.2.2.2.2.2.2.2.2] ∧ Own w4.heap.size 9 1 w' s.2.2.2.1 s.2.2.2.2.1 s.2.2.2.2.2.1 (s.2.2.2.2.2.2.1.map .string) ∧ (∀ x ∈ s.2.2.2.2.2.2.1, x.size ≤ 9223372036854775807) ∧ s.2.2.2.2.2.2.1.length ≤ 64 ∧ Apart s.2.2.2.1 (some s.1) ∧ Apart (some s.1) s.2.2.2.1 ∧ RunP pv sl is cl us lv nw xs ys (s.2.1, s.2.2.1, s.2.2.2.2.2.2.1, s.2.2.2.2.2.2.2.1, s.2.2.2.2.2.2.2.2)) (fun s => [(2, .pointer (some a0)), (3, .pointer (some a1)), (6, .pointer (some s.1))]) fol (by kernel_rfl) (fun w0 hs => hs.ext) (fun I hI E' hE' v0 hs0 => ?_) ?_
 ·have hxv := hs0.ext
  have s0 := hxv.size
  conv => cbv
  refine sw_loadS hE' tLC (vs := [.slice A n c, .int .i64 sl, .slice A2 n2 c2]) rfl (fun w1 h1 j v hv => h1.cell (hb.at j v hv)) ?_
  conv => cbv
  refine sw_loadS hE' tLReq (vs := [.string cl, .string us, .int .i64 lv, .int .i64 nw, .slice Q m d, .slice Q2 m2 d2]) rfl (fun w1 h1 j v hv => h1.cell (hc.at j v hv)) ?_
  conv => cbv
  refine ⟨?_, ?_⟩
  ·skip
   refine st_f hr (toCode_f (c := c) (c2 := c2) (sl := sl) (h.ext (hx.trans hxv)) hwt hwt2 hwt3) fun r v1 hy ⟨B1, d1, B4, d4, ev, hty⟩ => ?_
   subst ev
   replace hxv := hxv.trans hy
   refine ⟨hxv, ?_⟩
   clear hy
   conv => cbv
   refine ⟨?_, ?_⟩
   ·skip
    refine st_f hr (toRequest_f (cl := cl) (us := us) (lv := lv) (nw := nw) (hs.ext (hx.trans hxv)) (hs2.ext (hx.trans hxv)) hm1 hm2) fun r v2 hy ⟨C1, e1, f1, C2, e2, f2, ev, hq1, hq2⟩ => ?_
    subst ev
    replace hty := hty.ext hy
    replace hxv := hxv.trans hy
    refine ⟨hxv, ?_⟩
    clear hy
    conv => cbv
    refine ⟨?_, ?_⟩
    ·skip
     refine st_f hr (specRun_f (sl := sl) (c := d1) (c2 := d4)  hty hn hn2 hf hcl hus hq1 hq2 fl fn) fun r v3 hy ⟨⟨k, cd, zs, sp, pp⟩, hDP, N, nm, nc, ev, ho, ho1, ho2⟩ => ?_
     subst ev
     have szD := hxv.size
     replace hxv := hxv.trans hy
     refine ⟨hxv, ?_⟩
     clear hy
     conv => cbv
     refine st_alloc hr tTr rfl fun q v4 hy hq0 => ?_
     have szA := hxv.size
     have hq := hq0 w4.heap.size szA
     have ap : Apart N (some q) ∧ Apart (some q) N := (ho.apart (hq0 _ (n1_ _)) (n1_ _))
     replace ho := (ho.mono szD).bel hy
     replace hxv := hxv.trans hy
     refine ⟨hxv, ?_⟩
     clear hy
     conv => cbv
     refine st_putS hr (by kernel_rfl) hq (add_zero _).symm (by simp [zTrc]) (by simp [Value.oneCell']) fun v5 hw hq9 => ?_
     simp only [zTrc, a1_, a2_, a3_, a4_, a5_, a6_, a7_] at hq9
     have hxw := hxv.then (hw.bel hq hxv.size)
     refine ⟨hxw, (q, k, cd, N, nm, nc, zs, sp, pp), by simp [Fits, lk, put], hI _ _ ⟨hxw, hq9, ho.wr hw ap.1, ho1, ho2, ap.1, ap.2, hDP⟩⟩
    ·skip
     refine st_alloc hr tTr rfl fun q v3 hy hq0 => ?_
     have szA := hxv.size
     have hq := hq0 w4.heap.size szA
     replace hty := hty.ext hy
     replace hq1 := hq1.ext hy
     replace hq2 := hq2.ext hy
     replace hxv := hxv.trans hy
     refine ⟨hxv, ?_⟩
     clear hy
     conv => cbv
     refine st_f hr (specRun_f (sl := sl) (c := d1) (c2 := d4)  hty hn hn2 hf hcl hus hq1 hq2 fl fn) fun r v4 hy ⟨⟨k, cd, zs, sp, pp⟩, hDP, N, nm, nc, ev, ho, ho1, ho2⟩ => ?_
     subst ev
     have szD := hxv.size
     have ap := own_low ho (bx_form hq).2.1 (bx_form hq).2.2
     replace ho := ho.mono szD
     replace hq := hq.bel hy
     replace hxv := hxv.trans hy
     refine ⟨hxv, ?_⟩
     clear hy
     conv => cbv
     refine st_putS hr (by kernel_rfl) hq (add_zero _).symm (by simp [zTrc]) (by simp [Value.oneCell']) fun v5 hw hq9 => ?_
     simp only [zTrc, a1_, a2_, a3_, a4_, a5_, a6_, a7_] at hq9
     have hxw := hxv.then (hw.bel hq hxv.size)
     refine ⟨hxw, (q, k, cd, N, nm, nc, zs, sp, pp), by simp [Fits, lk, put], hI _ _ ⟨hxw, hq9, ho.wr hw ap.1, ho1, ho2, ap.1, ap.2, hDP⟩⟩
   ·skip
    refine st_alloc hr tTr rfl fun q v2 hy hq0 => ?_
    have szA := hxv.size
    have hq := hq0 w4.heap.size szA
    replace hty := hty.ext hy
    replace hxv := hxv.trans hy
    refine ⟨hxv, ?_⟩
    clear hy
    conv => cbv
    refine st_f hr (toRequest_f (cl := cl) (us := us) (lv := lv) (nw := nw) (hs.ext (hx.trans hxv)) (hs2.ext (hx.trans hxv)) hm1 hm2) fun r v3 hy ⟨C1, e1, f1, C2, e2, f2, ev, hq1, hq2⟩ => ?_
    subst ev
    replace hty := hty.ext hy
    replace hq := hq.bel hy
    replace hxv := hxv.trans hy
    refine ⟨hxv, ?_⟩
    clear hy
    conv => cbv
    refine st_f hr (specRun_f (sl := sl) (c := d1) (c2 := d4)  hty hn hn2 hf hcl hus hq1 hq2 fl fn) fun r v4 hy ⟨⟨k, cd, zs, sp, pp⟩, hDP, N, nm, nc, ev, ho, ho1, ho2⟩ => ?_
    subst ev
    have szD := hxv.size
    have ap := own_low ho (bx_form hq).2.1 (bx_form hq).2.2
    replace ho := ho.mono szD
    replace hq := hq.bel hy
    replace hxv := hxv.trans hy
    refine ⟨hxv, ?_⟩
    clear hy
    conv => cbv
    refine st_putS hr (by kernel_rfl) hq (add_zero _).symm (by simp [zTrc]) (by simp [Value.oneCell']) fun v5 hw hq9 => ?_
    simp only [zTrc, a1_, a2_, a3_, a4_, a5_, a6_, a7_] at hq9
    have hxw := hxv.then (hw.bel hq hxv.size)
    refine ⟨hxw, (q, k, cd, N, nm, nc, zs, sp, pp), by simp [Fits, lk, put], hI _ _ ⟨hxw, hq9, ho.wr hw ap.1, ho1, ho2, ap.1, ap.2, hDP⟩⟩
  ·skip
   refine st_alloc hr tTr rfl fun q v1 hy hq0 => ?_
   have szA := hxv.size
   have hq := hq0 w4.heap.size szA
   replace hxv := hxv.trans hy
   refine ⟨hxv, ?_⟩
   clear hy
   conv => cbv
   refine st_f hr (toCode_f (c := c) (c2 := c2) (sl := sl) (h.ext (hx.trans hxv)) hwt hwt2 hwt3) fun r v2 hy ⟨B1, d1, B4, d4, ev, hty⟩ => ?_
   subst ev
   replace hq := hq.bel hy
   replace hxv := hxv.trans hy
   refine ⟨hxv, ?_⟩
   clear hy
   conv => cbv
   refine st_f hr (toRequest_f (cl := cl) (us := us) (lv := lv) (nw := nw) (hs.ext (hx.trans hxv)) (hs2.ext (hx.trans hxv)) hm1 hm2) fun r v3 hy ⟨C1, e1, f1, C2, e2, f2, ev, hq1, hq2⟩ => ?_
   subst ev
   replace hty := hty.ext hy
   replace hq := hq.bel hy
   replace hxv := hxv.trans hy
   refine ⟨hxv, ?_⟩
   clear hy
   conv => cbv
   refine st_f hr (specRun_f (sl := sl) (c := d1) (c2 := d4)  hty hn hn2 hf hcl hus hq1 hq2 fl fn) fun r v4 hy ⟨⟨k, cd, zs, sp, pp⟩, hDP, N, nm, nc, ev, ho, ho1, ho2⟩ => ?_
   subst ev
   have szD := hxv.size
   have ap := own_low ho (bx_form hq).2.1 (bx_form hq).2.2
   replace ho := ho.mono szD
   replace hq := hq.bel hy
   replace hxv := hxv.trans hy
   refine ⟨hxv, ?_⟩
   clear hy
   conv => cbv
   refine st_putS hr (by kernel_rfl) hq (add_zero _).symm (by simp [zTrc]) (by simp [Value.oneCell']) fun v5 hw hq9 => ?_
   simp only [zTrc, a1_, a2_, a3_, a4_, a5_, a6_, a7_] at hq9
   have hxw := hxv.then (hw.bel hq hxv.size)
   refine ⟨hxw, (q, k, cd, N, nm, nc, zs, sp, pp), by simp [Fits, lk, put], hI _ _ ⟨hxw, hq9, ho.wr hw ap.1, ho1, ho2, ap.1, ap.2, hDP⟩⟩
 rintro ⟨q6, k, cd, N, nm, nc, zs, sp, pp⟩ w5 ⟨hxJ, hJ, hoJ, hz1J, hz2J, ap1J, ap2J, hDPJ⟩
 simp only at hJ hoJ hz1J hz2J ap1J ap2J hDPJ
 have h6 := hJ
 have f6 := bx_form hJ
 have b6 := own_blk hJ
 have bW := own_blk hoJ
 have hoW := hoJ
 have s45 := hxJ.size
 replace hb := hb.bel hxJ
 replace hc := hc.bel hxJ
 replace hx := hx.trans hxJ
 have sw5 := hx.size
 have bA1 : a0.block < w5.heap.size ∧ a1.block < w5.heap.size := ⟨(bx_form hb).2.1, (bx_form hc).2.1⟩
 have fa0 := bx_form hb
 have fa1 := bx_form hc
 clear hJ hoJ
 conv => cbv
 refine st_loadS hE tLC rfl hb.at ?_
 conv => cbv
 refine st_f hr (toCodeO_f (c := c) (c2 := c2) (sl := sl) (h.ext hx) hwt hwt2 hwt3) fun v w6 hx6 ⟨A7, c7, A8, c8, us1, ev, hus1, hot, hsm1⟩ => ?_
 subst ev
 have h5 : CodeR w6 A7 n A8 n2 pv is := by rw [← hus1]; exact hot.codeR hsm1
 have bO := hot.lo
 have s56 := hx6.size
 replace hb := hb.bel hx6
 replace hc := hc.bel hx6
 replace h6 := h6.bel hx6
 replace hoW := hoW.bel hx6
 replace hx := hx.trans hx6
 conv => cbv
 refine st_alloc hr tIC rfl fun q7 w7 hx7 hq0 => ?_
 have h7 := hq0 w.heap.size hx.size
 have f7 := bx_form (hq0 _ (n1_ _))
 have hqb := hq0 _ (n1_ _)
 clear hq0
 conv => cbv
 refine st_putS hr (by kernel_rfl) h7 (add_zero _).symm (by simp) (by simp [Value.oneCell']) fun w8 hw hq9 => ?_
 simp only [a1_, a2_, a3_, a4_, a5_, a6_, a7_] at hq9
 have hx68 : Ext w6 w8 := hx7.then (hw.bel hqb hx7.size)
 replace h7 := hq9
 clear hw hqb hq9 hx7
 have s68 := hx68.size
 replace hb := hb.bel hx68
 replace hc := hc.bel hx68
 replace h6 := h6.bel hx68
 replace hoW := hoW.bel hx68
 replace hot := hot.ext hx68
 replace h5 := h5.ext hx68
 replace hx := hx.trans hx68
 conv => cbv
 refine st_loadS hE tLReq rfl hc.at ?_
 conv => cbv
 refine st_f hr (toRequestO_f (cl := cl) (us := us) (lv := lv) (nw := nw) (hs.ext hx) (hs2.ext hx) hm1 hm2) fun v w9 hx9 ⟨C1, e1, f1, C2, e2, f2, ev, hq1, hq2, ho1, ho2, apC1, apC2⟩ => ?_
 subst ev
 have bC1 := own_blk ho1
 have bC2 := own_blk ho2
 have s89 := hx9.size
 replace hb := hb.bel hx9
 replace hc := hc.bel hx9
 replace h6 := h6.bel hx9
 replace hoW := hoW.bel hx9
 replace h7 := h7.bel hx9
 replace hot := hot.ext hx9
 replace h5 := h5.ext hx9
 replace hx := hx.trans hx9
 conv => cbv
 refine st_alloc hr tIReq rfl fun q8 w10 hx10 hq0 => ?_
 have h8 := hq0 w.heap.size hx.size
 have f8 := bx_form (hq0 _ (n1_ _))
 have hqb := hq0 _ (n1_ _)
 clear hq0
 conv => cbv
 refine st_putS hr (by kernel_rfl) h8 (add_zero _).symm (by simp) (by simp [Value.oneCell']) fun w11 hw hq9 => ?_
 simp only [a1_, a2_, a3_, a4_, a5_, a6_, a7_] at hq9
 have hx911 : Ext w9 w11 := hx10.then (hw.bel hqb hx10.size)
 replace h8 := hq9
 clear hw hqb hq9 hx10
 have s911 := hx911.size
 replace hb := hb.bel hx911
 replace hc := hc.bel hx911
 replace h6 := h6.bel hx911
 replace hoW := hoW.bel hx911
 replace h7 := h7.bel hx911
 replace hot := hot.ext hx911
 replace h5 := h5.ext hx911
 replace hq1 := hq1.ext hx911
 replace hq2 := hq2.ext hx911
 replace ho1 := ho1.bel hx911
 replace ho2 := ho2.bel hx911
 replace hx := hx.trans hx911
 conv => cbv
 refine st_loadS hE tIC rfl h7.at ?_
 conv => cbv
 refine st_loadS hE tIReq rfl h8.at ?_
 conv => cbv
 refine st_f hr (implRun_f (sl := sl) (c := c7) (c2 := c8) (hT.1.ext hx) (hT.2.1.ext hx) (hT.2.2.1.ext hx) (hT.2.2.2.ext hx) h5 hn hn2 hf hcl hus hq1 hq2 fl fn) fun v w12 hx12 ⟨⟨k1, cd1, zs1, sp1, pp1⟩, hDP1, N1, nm1, nc1, ev, hoG, hg1, hg2⟩ => ?_
 subst ev
 obtain ⟨rfl, rfl, rfl, rfl, rfl⟩ : k1 = k ∧ cd1 = cd ∧ zs1 = zs ∧ sp1 = sp ∧ pp1 = pp := by simpa using hDP1.unique hDPJ
 have bG := own_blk hoG
 have s1112 := hx12.size
 replace hb := hb.bel hx12
 replace hc := hc.bel hx12
 replace h6 := h6.bel hx12
 replace hoW := hoW.bel hx12
 replace h7 := h7.bel hx12
 replace hot := hot.ext hx12
 replace h5 := h5.ext hx12
 replace hq1 := hq1.ext hx12
 replace hq2 := hq2.ext hx12
 replace ho1 := ho1.bel hx12
 replace ho2 := ho2.bel hx12
 replace h8 := h8.bel hx12
 replace hx := hx.trans hx12
 conv => cbv
 refine st_alloc hr tTr rfl fun q9 w13 hx13 hq0 => ?_
 have h9 := hq0 w.heap.size hx.size
 have f9 := bx_form (hq0 _ (n1_ _))
 have hqb := hq0 _ (n1_ _)
 clear hq0
 conv => cbv
 refine st_putS hr (by kernel_rfl) h9 (add_zero _).symm (by simp [zTrc]) (by simp [Value.oneCell']) fun w14 hw hq9 => ?_
 simp only [a1_, a2_, a3_, a4_, a5_, a6_, a7_, zTrc] at hq9
 have hx1214 : Ext w12 w14 := hx13.then (hw.bel hqb hx13.size)
 replace h9 := hq9
 clear hw hqb hq9 hx13
 have s1214 := hx1214.size
 replace hb := hb.bel hx1214
 replace hc := hc.bel hx1214
 replace h6 := h6.bel hx1214
 replace hoW := hoW.bel hx1214
 replace h7 := h7.bel hx1214
 replace hot := hot.ext hx1214
 replace h5 := h5.ext hx1214
 replace hq1 := hq1.ext hx1214
 replace hq2 := hq2.ext hx1214
 replace ho1 := ho1.bel hx1214
 replace ho2 := ho2.bel hx1214
 replace h8 := h8.bel hx1214
 replace hoG := hoG.bel hx1214
 replace hx := hx.trans hx1214
 conv => cbv
 refine st_loadS hE tTr rfl h9.at ?_
 conv => cbv
 refine st_loadS hE tTr rfl h6.at ?_
 conv => cbv
 refine st_f hr (eqTrace_f (hoG.strs hg1) (hoW.strs hz1J)) fun v w15 hx15 ev => ?_
 subst ev
 replace hb := hb.bel hx15
 replace hc := hc.bel hx15
 replace h6 := h6.bel hx15
 replace hoW := hoW.bel hx15
 replace h7 := h7.bel hx15
 replace hot := hot.ext hx15
 replace h5 := h5.ext hx15
 replace hq1 := hq1.ext hx15
 replace hq2 := hq2.ext hx15
 replace ho1 := ho1.bel hx15
 replace ho2 := ho2.bel hx15
 replace h8 := h8.bel hx15
 replace hoG := hoG.bel hx15
 replace h9 := h9.bel hx15
 replace hx := hx.trans hx15
 conv => cbv
 refine draw_h [0, 1] [(2, false), (3, false), (4, true)] hr fol (by kernel_rfl) fun E' hE' w16 hs16 S hS => ?_
 have hx16 := hs16.ext
 replace hb := hb.bel hx16
 replace hc := hc.bel hx16
 replace h6 := h6.bel hx16
 replace hoW := hoW.bel hx16
 replace h7 := h7.bel hx16
 replace hot := hot.ext hx16
 replace h5 := h5.ext hx16
 replace hq1 := hq1.ext hx16
 replace hq2 := hq2.ext hx16
 replace ho1 := ho1.bel hx16
 replace ho2 := ho2.bel hx16
 replace h8 := h8.bel hx16
 replace hoG := hoG.bel hx16
 replace h9 := h9.bel hx16
 replace hx := hx.trans hx16
 conv => cbv
 refine st_loadS hE' tIC rfl h7.at ?_
 conv => cbv
 refine st_loadS hE' tLC rfl hb.at ?_
 conv => cbv
 refine st_f hr (toCode_f (c := c) (c2 := c2) (sl := sl) (h.ext hx) hwt hwt2 hwt3) fun v w17 hx17 ⟨B7, d7, B8, d8, ev, hty⟩ => ?_
 subst ev
 refine ⟨hS _ hx17, ?_⟩
 conv => cbv
 refine st_f hr (eqCode_f (c := c7) (c2 := c8) (c3 := d7) (c4 := d8) (sl := sl) (h5.ext hx17) hty hn hn2) fun v w18 hx18 ev => ?_
 subst ev
 have x18 := hx17.trans hx18
 refine ⟨hS _ x18, ?_⟩
 replace hb := hb.bel x18
 replace hc := hc.bel x18
 replace h6 := h6.bel x18
 replace hoW := hoW.bel x18
 replace h7 := h7.bel x18
 replace hot := hot.ext x18
 replace h5 := h5.ext x18
 replace hq1 := hq1.ext x18
 replace hq2 := hq2.ext x18
 replace ho1 := ho1.bel x18
 replace ho2 := ho2.bel x18
 replace h8 := h8.bel x18
 replace hoG := hoG.bel x18
 replace h9 := h9.bel x18
 replace hx := hx.trans x18
 conv => cbv
 refine draw_h [0, 1] [(2, false), (3, false), (4, true)] hr fol (by kernel_rfl) fun E'' hE'' w19 hs19 S2 hS2 => ?_
 have hx19 := hs19.ext
 replace hb := hb.bel hx19
 replace hc := hc.bel hx19
 replace h6 := h6.bel hx19
 replace hoW := hoW.bel hx19
 replace h7 := h7.bel hx19
 replace hot := hot.ext hx19
 replace h5 := h5.ext hx19
 replace hq1 := hq1.ext hx19
 replace hq2 := hq2.ext hx19
 replace ho1 := ho1.bel hx19
 replace ho2 := ho2.bel hx19
 replace h8 := h8.bel hx19
 replace hoG := hoG.bel hx19
 replace h9 := h9.bel hx19
 replace hx := hx.trans hx19
 conv => cbv
 refine st_loadS hE'' tIReq rfl h8.at ?_
 conv => cbv
 refine st_loadS hE'' tLReq rfl hc.at ?_
 conv => cbv
 refine st_f hr (toRequest_f (cl := cl) (us := us) (lv := lv) (nw := nw) (hs.ext hx) (hs2.ext hx) hm1 hm2) fun v w20 hx20 ⟨C3, e3, f3, C4, e4, f4, ev, hq3, hq4⟩ => ?_
 subst ev
 refine ⟨hS2 _ hx20, ?_⟩
 conv => cbv
 refine st_f hr (eqRequest_f (hq1.ext hx20) (hq2.ext hx20) hq3 hq4) fun v w21 hx21 ev => ?_
 have ev := ev ⟨rfl, rfl, rfl, rfl, rfl, rfl⟩
 subst ev
 have x21 := hx20.trans hx21
 refine ⟨hS2 _ x21, ?_⟩
 replace hb := hb.bel x21
 replace hc := hc.bel x21
 replace h6 := h6.bel x21
 replace hoW := hoW.bel x21
 replace h7 := h7.bel x21
 replace hot := hot.ext x21
 replace h5 := h5.ext x21
 replace hq1 := hq1.ext x21
 replace hq2 := hq2.ext x21
 replace ho1 := ho1.bel x21
 replace ho2 := ho2.bel x21
 replace h8 := h8.bel x21
 replace hoG := hoG.bel x21
 replace h9 := h9.bel x21
 replace hx := hx.trans x21
 conv => cbv
 refine st_loadS hE tIC rfl h7.at ?_
 have kb := hot.cdK_bd4 hwt hwt2 (by rw [hus1]; exact hwt3)
 have mt := markCode_g hot sl 1 (by omega) (by omega)
 obtain ⟨kk, hkk⟩ : ∃ z : Int, z = 1 + cdK us1 is := ⟨_, rfl⟩
 rw [← hkk] at mt
 conv => cbv
 refine st_g hr mt fun v w22 ⟨ev, _, hC⟩ => ?_
 subst ev
 have s21 := hx.size
 have b65 := b6
 have dO : ∀ {X : Option Addr}, (∀ g, blk X = some g → g < w5.heap.size ∨ w6.heap.size ≤ g) → ∀ r ∈ cdA A7 A8 us1, Dj r X := fun h2 r hr => dj_bd2 (bO r hr) h2
 have f65 : q6.block < w5.heap.size := (b6 _ f6.2.2).2
 replace hb := (hC.own hb (dO (at_blk fa0.2.2 (p := fun g => g < w5.heap.size ∨ w6.heap.size ≤ g) (by omega)))).1
 replace hc := (hC.own hc (dO (at_blk fa1.2.2 (p := fun g => g < w5.heap.size ∨ w6.heap.size ≤ g) (by omega)))).1
 replace h6 := (hC.own h6 (dO (at_blk f6.2.2 (p := fun g => g < w5.heap.size ∨ w6.heap.size ≤ g) (by omega)))).1
 replace hoW := (hC.own hoW (dO (fun g hg => by have := bW g hg; omega))).1
 replace ho1 := (hC.own ho1 (dO (fun g hg => by have := bC1 g hg; omega))).1
 replace ho2 := (hC.own ho2 (dO (fun g hg => by have := bC2 g hg; omega))).1
 replace h8 := (hC.own h8 (dO (at_blk f8.2.2 (p := fun g => g < w5.heap.size ∨ w6.heap.size ≤ g) (by omega)))).1
 replace hoG := (hC.own hoG (dO (fun g hg => by have := bG g hg; omega))).1
 replace h9 := (hC.own h9 (dO (at_blk f9.2.2 (p := fun g => g < w5.heap.size ∨ w6.heap.size ≤ g) (by omega)))).1
 replace hx := hC.ext0 hx fun r hr g hg => by have := bO r hr g hg; omega
 have s22 := hx.size
 clear h7 hot h5 hC mt
 have l1 := hq1.len
 have l2 := hq2.len
 have l3 := hs.len
 have l4 := hs2.len
 conv => cbv
 refine st_loadS hE tIReq rfl h8.at ?_
 conv => cbv
 have mr := markRequest_g (cl := cl) (us := us) (lv := lv) (nw := nw) ho1 ho2 ⟨apC1, apC2⟩ kk (by omega) (by omega)
 obtain ⟨kq, hkq⟩ : ∃ z : Int, z = kk + (e1 : Int) + (e2 : Int) := ⟨_, rfl⟩
 rw [← hkq] at mr
 refine st_g hr mr fun v w24 ⟨ev, w23, hM1, hM2⟩ => ?_
 subst ev
 have s23 := hM1.size
 have s24 := hM2.size
 replace hb := (hb.wr hM1 (apart_bd hb bC1 (at_blk fa0.2.2 (p := fun g => g < w8.heap.size ∨ w9.heap.size ≤ g) (by omega))))
 replace hb := (hb.wr hM2 (apart_bd hb bC2 (at_blk fa0.2.2 (p := fun g => g < w8.heap.size ∨ w9.heap.size ≤ g) (by omega))))
 replace hc := (hc.wr hM1 (apart_bd hc bC1 (at_blk fa1.2.2 (p := fun g => g < w8.heap.size ∨ w9.heap.size ≤ g) (by omega))))
 replace hc := (hc.wr hM2 (apart_bd hc bC2 (at_blk fa1.2.2 (p := fun g => g < w8.heap.size ∨ w9.heap.size ≤ g) (by omega))))
 replace h6 := (h6.wr hM1 (apart_bd h6 bC1 (at_blk f6.2.2 (p := fun g => g < w8.heap.size ∨ w9.heap.size ≤ g) (by omega))))
 replace h6 := (h6.wr hM2 (apart_bd h6 bC2 (at_blk f6.2.2 (p := fun g => g < w8.heap.size ∨ w9.heap.size ≤ g) (by omega))))
 replace hoW := (hoW.wr hM1 (apart_bd hoW bC1 (fun g hg => by have := bW g hg; omega)))
 replace hoW := (hoW.wr hM2 (apart_bd hoW bC2 (fun g hg => by have := bW g hg; omega)))
 replace hoG := (hoG.wr hM1 (apart_bd hoG bC1 (fun g hg => by have := bG g hg; omega)))
 replace hoG := (hoG.wr hM2 (apart_bd hoG bC2 (fun g hg => by have := bG g hg; omega)))
 replace h9 := (h9.wr hM1 (apart_bd h9 bC1 (at_blk f9.2.2 (p := fun g => g < w8.heap.size ∨ w9.heap.size ≤ g) (by omega))))
 replace h9 := (h9.wr hM2 (apart_bd h9 bC2 (at_blk f9.2.2 (p := fun g => g < w8.heap.size ∨ w9.heap.size ≤ g) (by omega))))
 replace hx := (hx.then (hM1.bel (ho1.mono (B' := w.heap.size) (by omega)) (by omega))).then (hM2.bel (ho2.mono (B' := w.heap.size) (by omega)) (by omega))
 clear hM1 hM2 ho1 ho2 h8 mr
 conv => cbv
 refine br (fun g => absurd (show kq < 0 by simpa [hE.cmp, cmpR] using g) (by omega)) (fun _ => ?_)
 conv => cbv
 refine st_loadS hE tTr rfl h9.at ?_
 conv => cbv
 refine st_loadS hE tTr rfl h6.at ?_
 conv => cbv
 refine st_f hr (eqTrace_f (hoG.strs hg1) (hoW.strs hz1J)) fun v w25 hx25 ev => ?_
 subst ev
 replace hb := hb.bel hx25
 replace hc := hc.bel hx25
 replace h6 := h6.bel hx25
 replace hoW := hoW.bel hx25
 replace hoG := hoG.bel hx25
 replace h9 := h9.bel hx25
 replace hx := hx.trans hx25
 have s25 := hx.size
 have lG := (hoG.strs hg1).len
 conv => cbv
 refine st_loadS hE tTr rfl h9.at ?_
 conv => cbv
 obtain ⟨mm, hmm⟩ : ∃ z : Int, z = 1 + (nm1 : Int) := ⟨_, rfl⟩
 refine st_g hr (markTrace_g hoG 1 (by omega) (by omega)) fun v w26 ⟨ev, hoM, hwM⟩ => ?_
 subst ev
 rw [← hmm]
 have s26 := hwM.size
 replace hb := (hb.wr hwM (apart_bd hb bG (at_blk fa0.2.2 (p := fun g => g < w11.heap.size ∨ w12.heap.size ≤ g) (by omega))))
 replace hc := (hc.wr hwM (apart_bd hc bG (at_blk fa1.2.2 (p := fun g => g < w11.heap.size ∨ w12.heap.size ≤ g) (by omega))))
 replace h6 := (h6.wr hwM (apart_bd h6 bG (at_blk f6.2.2 (p := fun g => g < w11.heap.size ∨ w12.heap.size ≤ g) (by omega))))
 replace hoW := (hoW.wr hwM (apart_bd hoW bG (fun g hg => by have := bW g hg; omega)))
 replace h9 := (h9.wr hwM (apart_bd h9 bG (at_blk f9.2.2 (p := fun g => g < w11.heap.size ∨ w12.heap.size ≤ g) (by omega))))
 replace hx := hx.then (hwM.bel (hoG.mono (B' := w.heap.size) (by omega)) (by omega))
 clear hwM hoG
 conv => cbv
 refine st_loadS hE tTr rfl h9.at ?_
 conv => cbv
 have hd := heldTrace_f (k := k1) (cd := cd1) (s := sp1) (m := pp1) (hoM.strs (marks_small (by omega))) (by omega) (by omega)
 rw [← hmm] at hd
 refine st_f hr hd fun v w27 hx27 ev => ?_
 subst ev
 clear hd
 replace hb := hb.bel hx27
 replace hc := hc.bel hx27
 replace h6 := h6.bel hx27
 replace hoW := hoW.bel hx27
 replace hoM := hoM.bel hx27
 replace h9 := h9.bel hx27
 replace hx := hx.trans hx27
 conv => cbv
 refine br (fun g => absurd (show mm < 0 by simpa [hE.cmp, cmpR] using g) (by omega)) (fun _ => ?_)
 conv => cbv
 refine br (fun q => absurd q (en _)) (fun _ => ?_)
 conv => cbv
 refine draw_y (Ext w27) [0, 2] [1, 3, 4] 5 [(6, false)] hr (St := Addr × Int × Int × Option Addr × Nat × Nat × List ByteArray × Int × Int) (fun s w' => Ext w27 w' ∧ Box w27.heap.size 34 5 w' s.1 [.int .i64 s.2.1, .int .i64 s.2.2.1, .slice s.2.2.2.1 s.2.2.2.2.1 s.2.2.2.2.2.1, .int .i64 s.2.2.2.2.2.2.2.1, .int .i64 s.2.2.2.2.2.2.2.2] ∧ Own w27.heap.size 9 1 w' s.2.2.2.1 s.2.2.2.2.1 s.2.2.2.2.2.1 (s.2.2.2.2.2.2.1.map .string) ∧ (∀ x ∈ s.2.2.2.2.2.2.1, x.size ≤ 9223372036854775807) ∧ s.2.2.2.2.2.2.1.length ≤ 64 ∧ Apart s.2.2.2.1 (some s.1) ∧ Apart (some s.1) s.2.2.2.1 ∧ RunP pv sl is cl us lv nw xs ys (s.2.1, s.2.2.1, s.2.2.2.2.2.2.1, s.2.2.2.2.2.2.2.1, s.2.2.2.2.2.2.2.2)) (fun s => [(6, .pointer (some q6)), (9, .pointer (some q9)), (11, .int .i64 mm), (13, .pointer (some s.1))]) fol (by kernel_rfl) (fun w0 hs => hs.ext) (fun I hI E' hE' v0 hs0 => ?_) ?_
 ·have hxv := hs0.ext
  have s0 := hxv.size
  conv => cbv
  refine sw_loadS hE' tLC (vs := [.slice A n c, .int .i64 sl, .slice A2 n2 c2]) rfl (fun w1 h1 j v hv => h1.cell (hb.at j v hv)) ?_
  conv => cbv
  refine sw_loadS hE' tLReq (vs := [.string cl, .string us, .int .i64 lv, .int .i64 nw, .slice Q m d, .slice Q2 m2 d2]) rfl (fun w1 h1 j v hv => h1.cell (hc.at j v hv)) ?_
  conv => cbv
  refine ⟨?_, ?_⟩
  ·skip
   refine st_f hr (toCode_f (c := c) (c2 := c2) (sl := sl) (h.ext (hx.trans hxv)) hwt hwt2 hwt3) fun r v1 hy ⟨B1, d1, B4, d4, ev, hty⟩ => ?_
   subst ev
   replace hxv := hxv.trans hy
   refine ⟨hxv, ?_⟩
   clear hy
   conv => cbv
   refine ⟨?_, ?_⟩
   ·skip
    refine st_f hr (toRequest_f (cl := cl) (us := us) (lv := lv) (nw := nw) (hs.ext (hx.trans hxv)) (hs2.ext (hx.trans hxv)) hm1 hm2) fun r v2 hy ⟨C1, e1, f1, C2, e2, f2, ev, hq1, hq2⟩ => ?_
    subst ev
    replace hty := hty.ext hy
    replace hxv := hxv.trans hy
    refine ⟨hxv, ?_⟩
    clear hy
    conv => cbv
    refine ⟨?_, ?_⟩
    ·skip
     refine st_f hr (implRun_f (sl := sl) (c := d1) (c2 := d4) (hT.1.ext (hx.trans hxv)) (hT.2.1.ext (hx.trans hxv)) (hT.2.2.1.ext (hx.trans hxv)) (hT.2.2.2.ext (hx.trans hxv)) hty hn hn2 hf hcl hus hq1 hq2 fl fn) fun r v3 hy ⟨⟨k, cd, zs, sp, pp⟩, hDP, N, nm, nc, ev, ho, ho1, ho2⟩ => ?_
     subst ev
     have szD := hxv.size
     replace hxv := hxv.trans hy
     refine ⟨hxv, ?_⟩
     clear hy
     conv => cbv
     refine st_alloc hr tTr rfl fun q v4 hy hq0 => ?_
     have szA := hxv.size
     have hq := hq0 w27.heap.size szA
     have ap : Apart N (some q) ∧ Apart (some q) N := (ho.apart (hq0 _ (n1_ _)) (n1_ _))
     replace ho := (ho.mono szD).bel hy
     replace hxv := hxv.trans hy
     refine ⟨hxv, ?_⟩
     clear hy
     conv => cbv
     refine st_putS hr (by kernel_rfl) hq (add_zero _).symm (by simp [zTrc]) (by simp [Value.oneCell']) fun v5 hw hq9 => ?_
     simp only [zTrc, a1_, a2_, a3_, a4_, a5_, a6_, a7_] at hq9
     have hxw := hxv.then (hw.bel hq hxv.size)
     refine ⟨hxw, (q, k, cd, N, nm, nc, zs, sp, pp), by simp [Fits, lk, put], hI _ _ ⟨hxw, hq9, ho.wr hw ap.1, ho1, ho2, ap.1, ap.2, hDP⟩⟩
    ·skip
     refine st_alloc hr tTr rfl fun q v3 hy hq0 => ?_
     have szA := hxv.size
     have hq := hq0 w27.heap.size szA
     replace hty := hty.ext hy
     replace hq1 := hq1.ext hy
     replace hq2 := hq2.ext hy
     replace hxv := hxv.trans hy
     refine ⟨hxv, ?_⟩
     clear hy
     conv => cbv
     refine st_f hr (implRun_f (sl := sl) (c := d1) (c2 := d4) (hT.1.ext (hx.trans hxv)) (hT.2.1.ext (hx.trans hxv)) (hT.2.2.1.ext (hx.trans hxv)) (hT.2.2.2.ext (hx.trans hxv)) hty hn hn2 hf hcl hus hq1 hq2 fl fn) fun r v4 hy ⟨⟨k, cd, zs, sp, pp⟩, hDP, N, nm, nc, ev, ho, ho1, ho2⟩ => ?_
     subst ev
     have szD := hxv.size
     have ap := own_low ho (bx_form hq).2.1 (bx_form hq).2.2
     replace ho := ho.mono szD
     replace hq := hq.bel hy
     replace hxv := hxv.trans hy
     refine ⟨hxv, ?_⟩
     clear hy
     conv => cbv
     refine st_putS hr (by kernel_rfl) hq (add_zero _).symm (by simp [zTrc]) (by simp [Value.oneCell']) fun v5 hw hq9 => ?_
     simp only [zTrc, a1_, a2_, a3_, a4_, a5_, a6_, a7_] at hq9
     have hxw := hxv.then (hw.bel hq hxv.size)
     refine ⟨hxw, (q, k, cd, N, nm, nc, zs, sp, pp), by simp [Fits, lk, put], hI _ _ ⟨hxw, hq9, ho.wr hw ap.1, ho1, ho2, ap.1, ap.2, hDP⟩⟩
   ·skip
    refine st_alloc hr tTr rfl fun q v2 hy hq0 => ?_
    have szA := hxv.size
    have hq := hq0 w27.heap.size szA
    replace hty := hty.ext hy
    replace hxv := hxv.trans hy
    refine ⟨hxv, ?_⟩
    clear hy
    conv => cbv
    refine st_f hr (toRequest_f (cl := cl) (us := us) (lv := lv) (nw := nw) (hs.ext (hx.trans hxv)) (hs2.ext (hx.trans hxv)) hm1 hm2) fun r v3 hy ⟨C1, e1, f1, C2, e2, f2, ev, hq1, hq2⟩ => ?_
    subst ev
    replace hty := hty.ext hy
    replace hq := hq.bel hy
    replace hxv := hxv.trans hy
    refine ⟨hxv, ?_⟩
    clear hy
    conv => cbv
    refine st_f hr (implRun_f (sl := sl) (c := d1) (c2 := d4) (hT.1.ext (hx.trans hxv)) (hT.2.1.ext (hx.trans hxv)) (hT.2.2.1.ext (hx.trans hxv)) (hT.2.2.2.ext (hx.trans hxv)) hty hn hn2 hf hcl hus hq1 hq2 fl fn) fun r v4 hy ⟨⟨k, cd, zs, sp, pp⟩, hDP, N, nm, nc, ev, ho, ho1, ho2⟩ => ?_
    subst ev
    have szD := hxv.size
    have ap := own_low ho (bx_form hq).2.1 (bx_form hq).2.2
    replace ho := ho.mono szD
    replace hq := hq.bel hy
    replace hxv := hxv.trans hy
    refine ⟨hxv, ?_⟩
    clear hy
    conv => cbv
    refine st_putS hr (by kernel_rfl) hq (add_zero _).symm (by simp [zTrc]) (by simp [Value.oneCell']) fun v5 hw hq9 => ?_
    simp only [zTrc, a1_, a2_, a3_, a4_, a5_, a6_, a7_] at hq9
    have hxw := hxv.then (hw.bel hq hxv.size)
    refine ⟨hxw, (q, k, cd, N, nm, nc, zs, sp, pp), by simp [Fits, lk, put], hI _ _ ⟨hxw, hq9, ho.wr hw ap.1, ho1, ho2, ap.1, ap.2, hDP⟩⟩
  ·skip
   refine st_alloc hr tTr rfl fun q v1 hy hq0 => ?_
   have szA := hxv.size
   have hq := hq0 w27.heap.size szA
   replace hxv := hxv.trans hy
   refine ⟨hxv, ?_⟩
   clear hy
   conv => cbv
   refine st_f hr (toCode_f (c := c) (c2 := c2) (sl := sl) (h.ext (hx.trans hxv)) hwt hwt2 hwt3) fun r v2 hy ⟨B1, d1, B4, d4, ev, hty⟩ => ?_
   subst ev
   replace hq := hq.bel hy
   replace hxv := hxv.trans hy
   refine ⟨hxv, ?_⟩
   clear hy
   conv => cbv
   refine st_f hr (toRequest_f (cl := cl) (us := us) (lv := lv) (nw := nw) (hs.ext (hx.trans hxv)) (hs2.ext (hx.trans hxv)) hm1 hm2) fun r v3 hy ⟨C1, e1, f1, C2, e2, f2, ev, hq1, hq2⟩ => ?_
   subst ev
   replace hty := hty.ext hy
   replace hq := hq.bel hy
   replace hxv := hxv.trans hy
   refine ⟨hxv, ?_⟩
   clear hy
   conv => cbv
   refine st_f hr (implRun_f (sl := sl) (c := d1) (c2 := d4) (hT.1.ext (hx.trans hxv)) (hT.2.1.ext (hx.trans hxv)) (hT.2.2.1.ext (hx.trans hxv)) (hT.2.2.2.ext (hx.trans hxv)) hty hn hn2 hf hcl hus hq1 hq2 fl fn) fun r v4 hy ⟨⟨k, cd, zs, sp, pp⟩, hDP, N, nm, nc, ev, ho, ho1, ho2⟩ => ?_
   subst ev
   have szD := hxv.size
   have ap := own_low ho (bx_form hq).2.1 (bx_form hq).2.2
   replace ho := ho.mono szD
   replace hq := hq.bel hy
   replace hxv := hxv.trans hy
   refine ⟨hxv, ?_⟩
   clear hy
   conv => cbv
   refine st_putS hr (by kernel_rfl) hq (add_zero _).symm (by simp [zTrc]) (by simp [Value.oneCell']) fun v5 hw hq9 => ?_
   simp only [zTrc, a1_, a2_, a3_, a4_, a5_, a6_, a7_] at hq9
   have hxw := hxv.then (hw.bel hq hxv.size)
   refine ⟨hxw, (q, k, cd, N, nm, nc, zs, sp, pp), by simp [Fits, lk, put], hI _ _ ⟨hxw, hq9, ho.wr hw ap.1, ho1, ho2, ap.1, ap.2, hDP⟩⟩
 rintro ⟨q13, k2, cd2, N2, nm2, nc2, zs2, sp2, pp2⟩ w28 ⟨hxJ, hJ, hoJ, hz1J, hz2J, ap1J, ap2J, hDPJ⟩
 simp only at hJ hoJ hz1J hz2J ap1J ap2J hDPJ
 have eqq := hDP1.unique hDPJ
 simp only [Prod.mk.injEq] at eqq
 obtain ⟨rfl, rfl, rfl, rfl, rfl⟩ := eqq
 replace h6 := h6.bel hxJ
 replace hoW := hoW.bel hxJ
 replace hoM := hoM.bel hxJ
 replace h9 := h9.bel hxJ
 replace hx := hx.trans hxJ
 conv => cbv
 refine st_loadS hE tTr rfl hJ.at ?_
 conv => cbv
 refine st_loadS hE tTr rfl h6.at ?_
 conv => cbv
 refine st_f hr (eqTrace_f (hoJ.strs hz1J) (hoW.strs hz1J)) fun v w29 hx29 ev => ?_
 subst ev
 replace hoM := hoM.bel hx29
 replace h9 := h9.bel hx29
 replace hx := hx.trans hx29
 conv => cbv
 refine st_loadS hE tTr rfl h9.at ?_
 conv => cbv
 have hd := heldTrace_f (k := k1) (cd := cd1) (s := sp1) (m := pp1) (hoM.strs (marks_small (by omega))) (by omega) (by omega)
 rw [← hmm] at hd
 refine st_f hr hd fun v w30 hx30 ev => ?_
 subst ev
 clear hd
 conv => cbv
 refine br (fun g => absurd (show mm < 0 by simpa [hE.cmp, cmpR] using g) (by omega)) (fun _ => ?_)
 conv => cbv
 refine br (fun q => absurd q (en _)) (fun _ => ?_)
 conv => cbv
 rw [hR]; exact ⟨hx.trans hx30, rfl⟩
end Go.Proofs.YtkedmcebngachaaGreatDoor
