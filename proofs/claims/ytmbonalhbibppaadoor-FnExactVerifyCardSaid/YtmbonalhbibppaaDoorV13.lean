/- The reference's Verify walked. -/
import Derived.Test.YtmbonalhbibppaaDoorV12
namespace Go.Proofs.YtmbonalhbibppaaDoor
open Go.Eng
set_option linter.unusedVariables false
set_option linter.unusedSimpArgs false
theorem run_bLS2 (b : Bool) (A : Option Addr) (m c : Nat) (w : World) : (Instr.build 85 #[(0, .bool b), (2, .slice A m c)]).run Tryd.prog w = .ok (.agg #[.bool b, .slice none 0 0, .slice A m c]) w := by kernel_rfl
theorem st_bLS2 {E : Sym} {w : World} {K : Value → World → Prop} {d : Option Tmp} {ty : TypeId} {pos : String} {aft : Array Edge} {g : Option (Nat × Bool)} {bq : Bool} (hE : EngB bq Tryd.prog E) {b : Bool} {A : Option Addr} {m c : Nat} {x y : Operand} (hk : K (.agg ⟨[.bool b, .slice none 0 0, .slice A m c]⟩) w) : E.stop ⟨d, .build 85 ⟨[(0, x), (2, y)]⟩, ty, pos, aft, g⟩ [.bool b, .slice A m c] w K := by
  refine hE.det (v := .agg ⟨[.bool b, .slice none 0 0, .slice A m c]⟩) (fun w1 _ ρ hρ => ?_) hk
  simp only [opnds, List.map_cons, List.map_nil, List.cons.injEq, and_true] at hρ
  have := run_bLS2 b A m c w1
  simp [execOp, hρ, this]
theorem run_bLS0 (w : World) : (Instr.build 85 #[]).run Tryd.prog w = .ok (.agg #[.bool false, .slice none 0 0, .slice none 0 0]) w := by kernel_rfl
theorem st_bLS0 {E : Sym} {w : World} {K : Value → World → Prop} {d : Option Tmp} {ty : TypeId} {pos : String} {aft : Array Edge} {g : Option (Nat × Bool)} {bq : Bool} (hE : EngB bq Tryd.prog E) (hk : K (.agg ⟨[.bool false, .slice none 0 0, .slice none 0 0]⟩) w) : E.stop ⟨d, .build 85 ⟨[]⟩, ty, pos, aft, g⟩ [] w K := by
  refine hE.det (v := .agg ⟨[.bool false, .slice none 0 0, .slice none 0 0]⟩) (fun w1 _ ρ hρ => ?_) hk
  have := run_bLS0 w1
  simp [execOp, this]
/-! ### States in a row -/
structure okS (sl : Int) (s : St) : Prop where
  pos : ∀ x ∈ s.1, 0 < x
  nn : ∀ x ∈ s.2, 0 ≤ x
  hgt : s.1.length ≤ 100
  len : (s.2.length : Int) = sl
structure SS where
  kn : Bool
  A : Option Addr
  n : Nat
  c : Nat
  A2 : Option Addr
  n2 : Nat
  c2 : Nat
def sC (s : SS) : List Value := [.bool s.kn, .slice s.A s.n s.c, .slice s.A2 s.n2 s.c2]
theorem sC_len (s : SS) : (sC s).length = 3 := rfl
def s0 : SS := ⟨false, none, 0, 0, none, 0, 0⟩
/-- Two rows of whole numbers hold a state. -/
structure RepS (B : Nat) (w : World) (A : Option Addr) (n c : Nat) (A2 : Option Addr) (n2 c2 : Nat) (st : St) : Prop where
  a : Own B 3 1 w A n c (st.1.map (.int .i64))
  b : Own B 3 1 w A2 n2 c2 (st.2.map (.int .i64))
theorem RepS.ext {B : Nat} {w w' : World} {A A2 : Option Addr} {n c n2 c2 : Nat} {st : St} (h : RepS B w A n c A2 n2 c2 st) (hx : Ext w w') : RepS B w' A n c A2 n2 c2 st := ⟨h.a.bel hx, h.b.bel hx⟩
theorem RepS.above {B : Nat} {w w' : World} {A A2 : Option Addr} {n c n2 c2 : Nat} {st : St} (h : RepS B w A n c A2 n2 c2 st) (hx : Above B w w') : RepS B w' A n c A2 n2 c2 st := ⟨h.a.above hx, h.b.above hx⟩
def Rep (B : Nat) (w : World) (sl : Int) (ss : List SS) (a : Nat) (f : Sts) : Prop :=
  ∀ k s, a ≤ k → ss[k]? = some s → (s.kn = false → f k = none) ∧ (s.kn = true → ∃ st, f k = some st ∧ okS sl st ∧ RepS B w s.A s.n s.c s.A2 s.n2 s.c2 st)
theorem Rep.ext {B : Nat} {w w' : World} {sl : Int} {ss : List SS} {a : Nat} {f : Sts} (h : Rep B w sl ss a f) (hx : Ext w w') : Rep B w' sl ss a f := fun k s hk hs =>
  ⟨(h k s hk hs).1, fun e => by obtain ⟨st, h1, h2, h3⟩ := (h k s hk hs).2 e; exact ⟨st, h1, h2, h3.ext hx⟩⟩
theorem Rep.above {B : Nat} {w w' : World} {sl : Int} {ss : List SS} {a : Nat} {f : Sts} (h : Rep B w sl ss a f) (hx : Above B w w') : Rep B w' sl ss a f := fun k s hk hs =>
  ⟨(h k s hk hs).1, fun e => by obtain ⟨st, h1, h2, h3⟩ := (h k s hk hs).2 e; exact ⟨st, h1, h2, h3.above hx⟩⟩
theorem Rep.set {B : Nat} {w : World} {sl : Int} {ss : List SS} {a k : Nat} {f : Sts} (h : Rep B w sl ss a f) {s : SS} {t : St} (hs : s.kn = true) (hok : okS sl t) (hr : RepS B w s.A s.n s.c s.A2 s.n2 s.c2 t) : Rep B w sl (ss.set k s) a (fun j => if j = k then some t else f j) := by
  intro j s' hj hs'
  rw [List.getElem?_set] at hs'
  by_cases e : k = j
  · subst e
    rw [if_pos rfl] at hs'
    split at hs'
    · cases hs'
      exact ⟨fun q => (by rw [hs] at q; cases q), fun _ => ⟨t, if_pos rfl, hok, hr⟩⟩
    · cases hs'
  · rw [if_neg e] at hs'
    obtain ⟨h1, h2⟩ := h j s' hj hs'
    refine ⟨fun q => by simp only; rw [if_neg (Ne.symm e)]; exact h1 q, fun q => ?_⟩
    obtain ⟨st, h3, h4⟩ := h2 q
    exact ⟨st, by simp only; rw [if_neg (Ne.symm e)]; exact h3, h4⟩
theorem Rep.step {B : Nat} {w : World} {sl : Int} {ss : List SS} {a : Nat} {f : Sts} (h : Rep B w sl ss a f) (s : SS) : Rep B w sl (ss.set a s) (a + 1) f := by
  intro j s' hj hs'
  rw [List.getElem?_set] at hs'
  rw [if_neg (by omega)] at hs'
  exact h j s' (by omega) hs'
/-! ### Plain facts -/
theorem know_at {f : Sts} {k : Nat} {t : St} (h : f k = some t) : (fun j => if j = k then some t else f j) = f := by
  funext j
  by_cases e : j = k
  · subst e; rw [if_pos rfl, h]
  · rw [if_neg e]
theorem step_ok {pv : List PV} {sl : Int} {ni a : Nat} {o g : Int} {s : St} (hk : ∀ p ∈ pv, 0 < p.k) (hs : okS sl s) (h : (stepF pv sl ni a o g s).1 = 0) : okS sl (stepF pv sl ni a o g s).2 := by
  unfold stepF at h ⊢
  split
  · exact hs
  split
  · exact hs
  split
  · exact hs
  split
  · exact hs
  split
  · exact hs
  rename_i h1 h2 h3 h4 h5
  have hp := push_nn (o := o) (g := g) hk hs.nn
  refine ⟨fun x hx => ?_, fun x hx => ?_, by simp only; omega, ?_⟩
  · simp only [nextS, List.mem_append] at hx
    rcases hx with hx | hx
    · exact hs.pos x (List.mem_of_mem_take hx)
    · split at hx
      · simp at hx
      · simp at hx; subst hx; omega
  · simp only [nextS] at hx
    split at hx
    · rcases List.mem_or_eq_of_mem_set hx with hx | hx
      · exact hs.nn x hx
      · subst hx
        cases hq : s.1[s.1.length - (wantF o).length]? with
        | none => simp
        | some y => have := hs.pos y (List.mem_of_getElem? hq); simp; omega
    · exact hs.nn x hx
  · simp only [nextS]
    split
    · rw [List.length_set]; exact hs.len
    · exact hs.len
theorem step_rng {pv : List PV} {sl : Int} {ni a : Nat} {o g : Int} {s : St} (h : (stepF pv sl ni a o g s).1 = 0) : rangeF pv.length sl ni a o g := by
  unfold stepF at h
  split at h
  · simp at h
  · rename_i h1; simpa using h1
/-- Where it goes on is ahead; only behind the last instruction it may leave the code. -/
theorem nexts_in {np ni a : Nat} {sl o g : Int} (h : rangeF np sl ni a o g) (h1 : 1 ≤ o) (h2 : o ≤ 25) (ha : a < ni) : (∀ k ∈ nexts a o g, (a : Int) < k) ∧ ((∀ k ∈ nexts a o g, k < ni) ↔ ¬ (goesF o ∧ a + 1 = ni)) := by
  obtain ⟨_, _, _, r4⟩ := h
  unfold nexts goesF
  split
  · rename_i e; refine ⟨by simp, by simp; omega⟩
  split
  · rename_i e; have := r4 (.inl e); simp; omega
  split
  · rename_i e; have := r4 (.inr e); simp; omega
  · rename_i e1 e2 e3; simp; omega
theorem start_rep {B : Nat} {w : World} {sl : Int} {n : Nat} {A : Option Addr} {m c : Nat} (h0 : 0 ≤ sl) (hb : Own B 3 1 w A m c ((List.replicate sl.toNat (0 : Int)).map (.int .i64))) : Rep B w sl ((List.replicate n s0).set 0 ⟨true, none, 0, 0, A, m, c⟩) 0 (start sl) := by
  intro k s _ hs
  rw [List.getElem?_set] at hs
  by_cases e : 0 = k
  · subst e
    rw [if_pos rfl] at hs
    split at hs
    · cases hs
      exact ⟨fun q => (by cases q), fun _ => ⟨_, rfl, ⟨by simp, by simp, by simp, by simp; omega⟩, ⟨Own.nil, hb⟩⟩⟩
    · cases hs
  · rw [if_neg e] at hs
    have : s = s0 := by
      have := List.mem_of_getElem? hs
      exact (List.mem_replicate.1 this).2
    subst this
    exact ⟨fun _ => by unfold start; rw [if_neg (Ne.symm e)], fun q => by cases q⟩
theorem shape_k {pv : List PV} {sl : Int} {is : List (Int × Int)} (h : shapeP pv sl is) : ∀ p ∈ pv, 0 < p.k := by
  intro p hp
  rcases h.2.2.2.2.1 p hp with h | h | h | h <;> omega
/-! ### The walk -/
set_option maxHeartbeats 8000000 in
theorem specVerify_f {w : World} {A A2 : Option Addr} {n c n2 c2 : Nat} {sl : Int} {pv : List PV} {is : List (Int × Int)} (h : CodeR w A n A2 n2 pv is) (hn : n ≤ 9223372036854775807) (hn2 : n2 ≤ 9223372036854775807) :
    FC Tryd.prog 14 [codeV A n c sl A2 n2 c2] w fun v _ => v = .tuple ⟨[.int .i64 (verF pv sl is).1, .int .i64 (verF pv sl is).2]⟩ := by
  refine FC.intro (cs := []) Tryd.func14 (by kernel_rfl) fun E R hE hr hR => ?_
  have hpl := h.pool.len
  have hil := h.ins.len
  conv => cbv
  refine st_box hr fun a0 w1 hx hb0 => ?_
  have hb := hb0 _ (Nat.le_refl _)
  clear hb0
  conv => cbv
  refine st_loadS hE tIC rfl hb.at ?_
  conv => cbv
  refine st_f hr (l5shape_f (c := c) (c2 := c2) (sl := sl) (h.ext hx) hn hn2) fun v w2 hx2 ⟨b, ev, hsh⟩ => ?_
  subst ev
  replace hb := hb.bel hx2
  replace hx := hx.trans hx2
  clear hx2
  cases b with
  | false =>
    have hsh : ¬ shapeP pv sl is := fun q => absurd (hsh.2 q) (by simp)
    conv => cbv
    rw [hR]; exact ⟨hx, by unfold verF; rw [if_pos hsh]; rfl⟩
  | true =>
  have hsh := hsh.1 rfl
  have hpk := shape_k hsh
  obtain ⟨q1, q2, q3, q4, q5, q6⟩ := id hsh
  conv => cbv
  (refine st_fld hE fIC2 fun p hp => ?_; (conv => cbv); refine st_load hE cIIs (by rw [hp]; exact (hb).at _ _ rfl) ?_; clear hp; (conv => cbv))
  refine st_len hE sII fun x1 hx1 => ?_
  conv => cbv
  refine br (fun g => ?_) (fun g => ?_)
  · have g : x1 = 0 := by simpa [hE.cmp, cmpR] using g
    conv => cbv
    rw [hR]; exact ⟨hx, by unfold verF; rw [if_neg (fun q => q hsh), if_pos (List.eq_nil_of_length_eq_zero (by omega))]; rfl⟩
  have g : x1 ≠ 0 := by simpa [hE.cmp, cmpR] using g
  have hne : is ≠ [] := fun q => by rw [q] at hil; simp at hil; omega
  obtain ⟨V, hV0⟩ : ∃ V, V = verL pv sl is.length is 0 (start sl) 0 := ⟨_, rfl⟩
  have hVe : verF pv sl is = V := by unfold verF; rw [if_neg (fun q => q hsh), if_neg hne, hV0]
  rw [hVe] at hR
  conv => cbv
  (refine st_fld hE fIC2 fun p hp => ?_; (conv => cbv); refine st_load hE cIIs (by rw [hp]; exact (hb).at _ _ rfl) ?_; clear hp; (conv => cbv))
  refine st_len hE sII fun x2 hx2 => ?_
  conv => cbv
  refine st_makeK hr sLS rfl (m := n2) (by omega) (by omega) (by omega) fun A1 w3 hx3 h10 => ?_
  have h1 := h10 _ hx.size
  rw [show (Value.agg ⟨zLS⟩).cells = ⟨sC s0⟩ from rfl, made_fl (f := sC) s0 n2 3 rfl (by omega)] at h1
  obtain ⟨gb, rfl, _⟩ := h1.addr (by omega)
  obtain ⟨B1, hB1⟩ : ∃ B1, B1 = w3.heap.size := ⟨_, rfl⟩
  have abv : ∀ {wa wb : World}, Wr (some ⟨gb, 0, none⟩) wa wb → Above B1 wa wb := fun hw => hw.above h1 (Nat.le_of_eq hB1.symm)
  have apb := (hb.apart (h10 _ (Nat.le_refl _)) (Nat.le_refl _))
  replace hb := hb.bel hx3
  replace hx := hx.trans hx3
  clear h10 hx3
  conv => cbv
  (refine st_fld hE fIC1 fun p hp => ?_; (conv => cbv); refine st_load hE cInt (by rw [hp]; exact (hb).at _ _ rfl) ?_; clear hp; (conv => cbv))
  obtain ⟨sn, hsn⟩ : ∃ sn : Nat, sl = sn := ⟨sl.toNat, by omega⟩
  refine st_make hr tInts rfl (m := sn) hsn (by omega) (by omega) fun A3 w4 hx4 h30 => ?_
  have h3 := h30 B1 (by omega)
  replace hb := hb.bel hx4
  replace h1 := h1.bel hx4
  replace hx := hx.trans hx4
  have hB4 : B1 ≤ w4.heap.size := by have := hx4.size; omega
  clear h30 hx4
  conv => cbv
  refine st_bLS2 hE ?_
  conv => cbv
  refine st_idx hE sLS rfl (by omega) (by omega) fun p hp => ?_
  conv => cbv
  obtain ⟨y, hy⟩ : ∃ y : SS, y = ⟨true, none, 0, 0, A3, sn, sn⟩ := ⟨_, rfl⟩
  refine st_putS hr (vs := [.bool true, .slice none 0 0, .slice A3 sn sn]) (by kernel_rfl) h1 (j := 0 * 3) hp (by rw [fl_len sC_len]; simp; omega) (by simp [Value.oneCell']) fun w5 hw5 h12 => ?_
  rw [show [Value.bool true, .slice none 0 0, .slice A3 sn sn] = sC y by rw [hy]; rfl, fl_put sC_len _ 0 y (by simp; omega)] at h12
  have hrep : Rep B1 w5 sl ((List.replicate n2 s0).set 0 y) 0 (start sl) := by
    rw [hy]
    refine start_rep (by omega) ?_
    have := h3.above (abv hw5)
    rw [show sl.toNat = sn by omega, List.map_replicate]; exact this
  replace hx := hx.then (hw5.bel h1 hx.size)
  replace hb := hb.wr hw5 apb.1
  have hB5 : B1 ≤ w5.heap.size := by have := hw5.size; omega
  clear h1 hw5 h3 hp
  conv => cbv
  (refine st_fld hE fIC2 fun p hp => ?_; (conv => cbv); refine st_load hE cIIs (by rw [hp]; exact (hb).at _ _ rfl) ?_; clear hp; (conv => cbv))
  refine st_len hE sII fun x3 hx3 => ?_
  conv => cbv
  refine loop_rule hr (fun (s : Nat × Int × List SS × Sts × Int) w' => s.1 ≤ n2 ∧ s.2.1 = (s.1 : Int) ∧ s.2.2.1.length = n2 ∧ Ext w w' ∧ Box w.heap.size 45 3 w' a0 [.slice A n c, .int .i64 sl, .slice A2 n2 c2] ∧
      Own w.heap.size 85 3 w' (some ⟨gb, 0, none⟩) n2 n2 (s.2.2.1.flatMap sC) ∧ B1 ≤ w'.heap.size ∧ Rep B1 w' sl s.2.2.1 s.1 s.2.2.2.1 ∧ verL pv sl is.length (is.drop s.1) s.1 s.2.2.2.1 s.2.2.2.2 = V)
    (fun s => [(1, .pointer (some a0)), (4, .slice (some ⟨gb, 0, none⟩) n2 n2), (5, .int .i64 s.2.2.2.2), (36, .int .i64 x3), (37, .int .i64 s.2.1)]) (fun s => n2 - s.1) (0, 0, (List.replicate n2 s0).set 0 y, start sl, 0)
    (by simp [Fits, lk]) ⟨by simp, by simp, by simp, hx, hb, h12, hB5, hrep, by simpa using hV0.symm⟩ ?_
  clear hb h12 hx hrep hB5 hB4 hV0 hy y
  rintro I hI ⟨i, ii, ss, f, m⟩ w' ⟨hi, hii, hsl, hx, hb, ho, hB, hrep, hV⟩
  simp only at hi hii hsl hb ho hrep hV
  obtain ⟨ij, hij⟩ : ∃ z, z = ii + 1 := ⟨_, rfl⟩
  conv => cbv
  refine br (fun g2 => ?_) (fun g2 => ?_)
  · have g2 : i < n2 := by
      have : ii < x3 := by simpa [hE.cmp, cmpR] using g2
      omega
    have ei : E.ar .add .i64 ii 1 = ij := by rw [hE.ar, hij]; exact wrap_in (by omega) (by omega)
    obtain ⟨⟨kn, A3, n3, c3, A4, n4, c4⟩, hgi⟩ : ∃ s, ss[i]? = some s := ⟨_, List.getElem?_eq_getElem (by omega)⟩
    obtain ⟨⟨o, gg⟩, hio⟩ : ∃ x, is[i]? = some x := ⟨_, List.getElem?_eq_getElem (by omega)⟩
    obtain ⟨o1, o2, g0, _⟩ := q6 _ (List.mem_of_getElem? hio)
    simp only at o1 o2 g0
    have hdr : is.drop i = (o, gg) :: is.drop (i + 1) := by
      obtain ⟨z1, z2⟩ := List.getElem?_eq_some_iff.1 hio
      rw [List.drop_eq_getElem_cons z1, z2]
    rw [hdr] at hV
    obtain ⟨r1, r2⟩ := hrep i _ (Nat.le_refl _) hgi
    simp only at r1 r2
    conv => cbv
    refine st_idx hE sLS rfl (by omega) (by omega) fun p hp => ?_
    rw [show ii.toNat = i by omega] at hp
    conv => cbv
    obtain ⟨_, e0, hcs⟩ := fl_at sC_len ho.cells (by omega) hgi
    cases e0
    refine st_loadS hE tLS (vs := [.bool kn, .slice A3 n3 c3, .slice A4 n4 c4]) rfl (by rw [hp]; exact hcs) ?_
    conv => cbv
    refine st_alloc hr tLS rfl fun a7 w7 hx7 h70 => ?_
    have h7 := h70 B1 hB
    conv => cbv
    refine st_putS hr (by kernel_rfl) h7 (add_zero _).symm (by simp) (by simp [Value.oneCell']) fun w8 hw8 h72 => ?_
    simp only [List.take_zero, List.nil_append, List.length_cons, List.length_nil, List.drop_succ_cons, List.drop_nil, List.append_nil] at h72
    have hx8 : Ext w' w8 := hx7.then (hw8.bel (h70 _ (Nat.le_refl _)) (hx7.size))
    have ap7 : ∀ {w9 : World}, w8.heap.size ≤ w9.heap.size → True := fun _ => trivial
    replace hb := hb.bel hx8
    replace ho := ho.bel hx8
    replace hx := hx.trans hx8
    replace hrep := hrep.ext hx8
    have hap7 := ho.apart h72
    clear h70 h7 hw8 hx7 hcs hp ap7
    have hB8 : B1 ≤ w8.heap.size := by have := hx8.size; omega
    conv => cbv
    (refine st_fld hE fLS0 fun p hp => ?_; (conv => cbv); refine st_load hE cBool (by rw [hp]; exact (h72).at _ _ rfl) ?_; clear hp; (conv => cbv))
    cases kn with
    | false =>
      rw [verL, r1 rfl] at hV
      conv => cbv
      rw [hR]; exact ⟨hx, by rw [← hV]; rfl⟩
    | true =>
    obtain ⟨st, hf, hok, hrs⟩ := r2 rfl
    replace hrs := hrs.ext hx8
    rw [verL, hf] at hV
    simp only at hV
    have hl3 := hrs.a.len
    have hl4 := hrs.b.len
    rw [List.length_map, Nat.mul_one] at hl3 hl4
    have hh := hok.hgt
    have hsl4 := hok.len
    conv => cbv
    refine st_loadS hE tIC rfl hb.at ?_
    conv => cbv
    refine st_loadS hE tLS rfl h72.at ?_
    conv => cbv
    obtain ⟨st1, st2⟩ := st
    simp only at hl3 hl4 hh hsl4
    refine st_f hr (l5step_f (sl := sl) (c := c) (c2 := c2) (kn := true) (h.ext hx) hn hn2 hii g2 hio o1 o2 g0 hrs.a.ints hrs.b.ints (by omega) hok.pos hok.nn hpk (by omega) (by omega)) fun v w9 hx9 ⟨kn', A5, n5, c5, A6, n6, c6, cd, ev, hcd, hok2⟩ => ?_
    subst ev
    replace h72 := h72.bel hx9
    replace hb := hb.bel hx9
    replace ho := ho.bel hx9
    replace hx := hx.trans hx9
    replace hrep := hrep.ext hx9
    have hB9 : B1 ≤ w9.heap.size := by have := hx9.size; omega
    rw [hil] at hV
    rw [← hcd] at hV
    obtain ⟨t, ht⟩ : ∃ t, t = (stepF pv sl n2 i o gg (st1, st2)).2 := ⟨_, rfl⟩
    rw [← ht] at hV hok2
    conv => cbv
    refine st_alloc hr tLS rfl fun a8 w10 hx10 h80 => ?_
    have h8 := h80 B1 hB9
    conv => cbv
    refine st_putS hr (by kernel_rfl) h8 (add_zero _).symm (by simp) (by simp [Value.oneCell']) fun w11 hw11 h82 => ?_
    simp only [List.take_zero, List.nil_append, List.length_cons, List.length_nil, List.drop_succ_cons, List.drop_nil, List.append_nil] at h82
    have hx11 : Ext w9 w11 := hx10.then (hw11.bel (h80 _ (Nat.le_refl _)) (hx10.size))
    replace h72 := h72.bel hx11
    replace hb := hb.bel hx11
    replace ho := ho.bel hx11
    replace hx := hx.trans hx11
    replace hrep := hrep.ext hx11
    clear h80 h8 hw11 hx10
    have hB11 : B1 ≤ w11.heap.size := by have := hx11.size; omega
    conv => cbv
    refine br (fun g3 => ?_) (fun g3 => ?_)
    · have g3 : cd ≠ 0 := by simpa [hE.cmp, cmpR] using g3
      rw [if_pos g3] at hV
      conv => cbv
      rw [hR]; exact ⟨hx, by rw [← hV]; rfl⟩
    have g3 : cd = 0 := by simpa [hE.cmp, cmpR] using g3
    rw [if_neg (by simp [g3])] at hV
    obtain ⟨hkn, o5, o6⟩ := hok2 g3
    subst hkn
    replace o5 := (o5.mono (by omega : B1 ≤ w8.heap.size)).bel hx11
    replace o6 := (o6.mono (by omega : B1 ≤ w8.heap.size)).bel hx11
    have htk : okS sl t := by rw [ht]; exact step_ok hpk hok (by rw [← hcd]; exact g3)
    have hrg := step_rng (by rw [← hcd]; exact g3)
    have hl5 := o5.len
    rw [List.length_map, Nat.mul_one] at hl5
    conv => cbv
    (refine st_fld hE fLS1 fun p hp => ?_; (conv => cbv); refine st_load hE cInts (by rw [hp]; exact (h72).at _ _ rfl) ?_; clear hp; (conv => cbv))
    refine st_len hE tInts fun x5 hx5 => ?_
    conv => cbv
    (refine st_fld hE fLS1 fun p hp => ?_; (conv => cbv); refine st_load hE cInts (by rw [hp]; exact (h82).at _ _ rfl) ?_; clear hp; (conv => cbv))
    refine st_len hE tInts fun x6 hx6 => ?_
    conv => cbv
    refine st_lits hr tInts rfl (vs := [.int .i64 x5, .int .i64 x6]) (m := 2) rfl (by omega) (by omega) rfl (by simp [Value.cells]) fun A9 w12 hx12 ho9 => ?_
    have o9 := Own.ints (zs := [x5, x6]) (ho9 _ (Nat.le_refl _))
    replace h72 := h72.bel hx12
    replace h82 := h82.bel hx12
    replace hb := hb.bel hx12
    replace ho := ho.bel hx12
    replace hx := hx.trans hx12
    replace hrep := hrep.ext hx12
    replace o5 := o5.bel hx12
    replace o6 := o6.bel hx12
    have hB12 : B1 ≤ w12.heap.size := by have := hx12.size; omega
    conv => cbv
    refine st_len hE tInts fun x7 hx7 => ?_
    conv => cbv
    obtain ⟨m2, hm2⟩ : ∃ z, z = max (max m x5) x6 := ⟨_, rfl⟩
    have hm2' : max (max m (st1.length : Int)) (t.1.length : Int) = m2 := by rw [hm2, show (st1.length : Int) = x5 by omega, show (t.1.length : Int) = x6 by omega]
    rw [hm2'] at hV
    refine loop_rule hr (fun (s : Nat × Int × Int) w' => s.1 ≤ 2 ∧ s.2.1 = (s.1 : Int) ∧ w' = w12 ∧ max (max s.2.2 (if s.1 = 0 then x5 else s.2.2)) (if s.1 ≤ 1 then x6 else s.2.2) = m2)
      (fun s => [(1, .pointer (some a0)), (4, .slice (some ⟨gb, 0, none⟩) n2 n2), (5, .int .i64 s.2.2), (6, .int .i64 ii), (7, .pointer (some a7)), (8, .pointer (some a8)), (36, .int .i64 x3), (37, .int .i64 ii), (63, .slice A9 2 2), (64, .int .i64 x7), (65, .int .i64 s.2.1)]) (fun s => 2 - s.1) (0, 0, m)
      (by simp [Fits, lk]) ⟨by simp, by simp, rfl, by simp [hm2]⟩ ?_
    rintro I2 hI2 ⟨j, jj, mm⟩ wz ⟨hj, hjj, hwz, hmm⟩
    simp only at hj hjj hwz hmm
    subst hwz
    obtain ⟨jk, hjk⟩ : ∃ z, z = jj + 1 := ⟨_, rfl⟩
    have ej : j < 2 → E.ar .add .i64 jj 1 = jk := fun _ => by rw [hE.ar, hjk]; exact wrap_in (by omega) (by omega)
    conv => cbv
    refine br (fun g4 => ?_) (fun g4 => ?_)
    · have g4 : j < 2 := by
        have : jj < x7 := by simpa [hE.cmp, cmpR] using g4
        omega
      conv => cbv
      refine st_int hE tInts o9 (k := j) (by omega) g4 fun p u hu hp => ?_
      conv => cbv
      refine st_load hE cInt hp ?_
      conv => cbv
      have hu2 : u = if j = 0 then x5 else x6 := by
        have : j = 0 ∨ j = 1 := by omega
        rcases this with rfl | rfl <;> simp at hu <;> simp [hu]
      refine br (fun g5 => ?_) (fun g5 => ?_)
      · have g5 : mm < u := by simpa [hE.cmp, cmpR] using g5
        conv => cbv
        simp only [ej g4]
        refine ⟨(j + 1, jk, u), by simp [Fits, lk], hI2 _ _ ⟨by simp only; omega, by simp only; omega, rfl, ?_⟩, by simp only; omega⟩
        simp only
        have : j = 0 ∨ j = 1 := by omega
        rcases this with rfl | rfl <;> simp at hmm hu2 ⊢ <;> omega
      · have g5 : ¬ mm < u := by simpa [hE.cmp, cmpR] using g5
        conv => cbv
        simp only [ej g4]
        refine ⟨(j + 1, jk, mm), by simp [Fits, lk], hI2 _ _ ⟨by simp only; omega, by simp only; omega, rfl, ?_⟩, by simp only; omega⟩
        simp only
        have : j = 0 ∨ j = 1 := by omega
        rcases this with rfl | rfl <;> simp at hmm hu2 ⊢ <;> omega
    have g4 : j = 2 := by
      have : ¬ jj < x7 := by simpa [hE.cmp, cmpR] using g4
      omega
    subst g4
    have hmm : mm = m2 := by simp at hmm; omega
    subst hmm
    conv => cbv
    clear hI2 I2 hm2' ej hjk jk
    refine st_bLS0 hE ?_
    conv => cbv
    refine st_idx hE sLS rfl (by omega) (by omega) fun p hp => ?_
    rw [show ii.toNat = i by omega] at hp
    conv => cbv
    refine st_putS hr (vs := [.bool false, .slice none 0 0, .slice none 0 0]) (by kernel_rfl) ho (j := i * 3) hp (by rw [fl_len sC_len]; simp; omega) (by simp [Value.oneCell']) fun w13 hw13 ho13 => ?_
    rw [show [Value.bool false, .slice none 0 0, .slice none 0 0] = sC s0 from rfl, fl_put sC_len _ i s0 (by omega)] at ho13
    replace hrep := (hrep.above (abv hw13)).step s0
    replace o5 := o5.above (abv hw13)
    replace o6 := o6.above (abv hw13)
    replace h72 := h72.above (abv hw13)
    replace h82 := h82.above (abv hw13)
    replace hx := hx.then (hw13.bel ho hx.size)
    replace hb := hb.wr hw13 apb.1
    have hB13 : B1 ≤ w13.heap.size := by have := hw13.size; omega
    replace ho := ho13
    clear hw13 ho13 hp
    conv => cbv
    refine st_loadS hE tIC rfl hb.at ?_
    conv => cbv
    refine st_f hr (l5next_f (c := c) (c2 := c2) (sl := sl) (h.ext hx) hn hn2 hii g2 hio g0 (by omega)) fun v w14 hx14 ⟨A10, n10, c10, ev, hnx⟩ => ?_
    subst ev
    replace h82 := h82.bel hx14
    replace hb := hb.bel hx14
    replace ho := ho.bel hx14
    replace hx := hx.trans hx14
    replace hrep := hrep.ext hx14
    replace o5 := o5.bel hx14
    replace o6 := o6.bel hx14
    have hB14 : B1 ≤ w14.heap.size := by have := hx14.size; omega
    obtain ⟨hn1, hn2'⟩ := nexts_in hrg o1 o2 g2
    obtain ⟨nx, hnx0⟩ : ∃ nx, nx = nexts i o gg := ⟨_, rfl⟩
    rw [← hnx0] at hnx hn1 hn2' hV
    have hnl := hnx.len
    rw [List.length_map, Nat.mul_one] at hnl
    have hnle := hnx.le
    replace hnx := hnx.mono (by have := hB13; omega : B1 ≤ w13.heap.size)
    have hnlb : nx.length ≤ 2 := by rw [hnx0]; unfold nexts; (repeat' split) <;> simp
    conv => cbv
    refine st_len hE tInts fun x8 hx8 => ?_
    conv => cbv
    refine loop_rule hr (fun (s : Nat × Int) wz => s.1 ≤ n10 ∧ s.2 = (s.1 : Int) ∧ wz = w14 ∧ ∀ k ∈ nx.take s.1, k < (n2 : Int))
      (fun s => [(1, .pointer (some a0)), (4, .slice (some ⟨gb, 0, none⟩) n2 n2), (5, .int .i64 mm), (8, .pointer (some a8)), (12, .slice A10 n10 c10), (36, .int .i64 x3), (37, .int .i64 ii), (81, .slice A10 n10 c10), (82, .int .i64 x8), (83, .int .i64 s.2)]) (fun s => n10 - s.1) (0, 0)
      (by simp [Fits, lk]) ⟨by simp, by simp, rfl, by simp⟩ ?_
    rintro I2 hI2 ⟨j, jj⟩ wz ⟨hj, hjj, hwz, hall⟩
    simp only at hj hjj hwz hall
    subst hwz
    obtain ⟨jk, hjk⟩ : ∃ z, z = jj + 1 := ⟨_, rfl⟩
    conv => cbv
    refine br (fun g4 => ?_) (fun g4 => ?_)
    · have g4 : j < n10 := by
        have : jj < x8 := by simpa [hE.cmp, cmpR] using g4
        omega
      have ej : E.ar .add .i64 jj 1 = jk := by rw [hE.ar, hjk]; exact wrap_in (by omega) (by omega)
      conv => cbv
      refine st_int hE tInts hnx.ints (k := j) (by omega) g4 fun p u hu hp => ?_
      conv => cbv
      refine st_load hE cInt hp ?_
      conv => cbv
      (refine st_fld hE fIC2 fun p hp => ?_; (conv => cbv); refine st_load hE cIIs (by rw [hp]; exact (hb).at _ _ rfl) ?_; clear hp; (conv => cbv))
      refine st_len hE sII fun x9 hx9 => ?_
      conv => cbv
      refine br (fun g5 => ?_) (fun g5 => ?_)
      · have g5 : x9 ≤ u := by simpa [hE.cmp, cmpR] using g5
        have hgo : goesF o ∧ i + 1 = n2 := by
          refine Classical.byContradiction fun q => ?_
          have := hn2'.2 q u (List.mem_of_getElem? hu)
          omega
        rw [if_pos hgo] at hV
        conv => cbv
        rw [hR]; exact ⟨hx, by rw [← hV]; rfl⟩
      · have g5 : u < x9 := by simpa [hE.cmp, cmpR] using g5
        conv => cbv
        simp only [ej]
        refine ⟨(j + 1, jk), by simp [Fits, lk], hI2 _ _ ⟨by simp only; omega, by simp only; omega, rfl, fun k hk => ?_⟩, by simp only; omega⟩
        simp only at hk
        rw [List.take_add_one, hu] at hk
        rcases List.mem_append.1 hk with hk | hk
        · exact hall k hk
        · simp at hk; omega
    have g4 : j = n10 := by
      have : ¬ jj < x8 := by simpa [hE.cmp, cmpR] using g4
      omega
    rw [List.take_of_length_le (by omega)] at hall
    rw [if_neg (hn2'.1 hall)] at hV
    conv => cbv
    clear hI2 I2 hjk jk g4 hj hjj
    refine st_len hE tInts fun x10 hx10 => ?_
    conv => cbv
    obtain ⟨M, hM0⟩ : ∃ M, M = merge t nx f := ⟨_, rfl⟩
    rw [← hM0] at hV
    refine loop_rule hr (fun (s : Nat × Int × List SS × Sts) wz => s.1 ≤ n10 ∧ s.2.1 = (s.1 : Int) ∧ s.2.2.1.length = n2 ∧ Ext w wz ∧ Box w.heap.size 45 3 wz a0 [.slice A n c, .int .i64 sl, .slice A2 n2 c2] ∧
        Own w.heap.size 85 3 wz (some ⟨gb, 0, none⟩) n2 n2 (s.2.2.1.flatMap sC) ∧ B1 ≤ wz.heap.size ∧ Rep B1 wz sl s.2.2.1 (i + 1) s.2.2.2 ∧ Box B1 85 3 wz a8 [.bool true, .slice A5 n5 c5, .slice A6 n6 c6] ∧ RepS B1 wz A5 n5 c5 A6 n6 c6 t ∧ Own B1 3 1 wz A10 n10 c10 (nx.map (.int .i64)) ∧ merge t (nx.drop s.1) s.2.2.2 = M)
      (fun s => [(1, .pointer (some a0)), (4, .slice (some ⟨gb, 0, none⟩) n2 n2), (5, .int .i64 mm), (8, .pointer (some a8)), (36, .int .i64 x3), (37, .int .i64 ii), (93, .slice A10 n10 c10), (94, .int .i64 x10), (95, .int .i64 s.2.1)]) (fun s => n10 - s.1) (0, 0, ss.set i s0, f)
      (by simp [Fits, lk]) ⟨by simp, by simp, by simpa using hsl, hx, hb, ho, hB14, hrep, h82, ⟨o5, o6⟩, hnx, by simpa using hM0.symm⟩ ?_
    clear hb ho hrep h82 o5 o6 hnx hx hM0
    rintro I2 hI2 ⟨j, jj, ss2, f2⟩ wz ⟨hj, hjj, hsl2, hx, hb, ho, hBz, hrep, h82, hrt, hnx, hM⟩
    simp only at hj hjj hsl2 hb ho hrep hM
    obtain ⟨jk, hjk⟩ : ∃ z, z = jj + 1 := ⟨_, rfl⟩
    conv => cbv
    refine br (fun g4 => ?_) (fun g4 => ?_)
    · have g4 : j < n10 := by
        have : jj < x10 := by simpa [hE.cmp, cmpR] using g4
        omega
      have ej : E.ar .add .i64 jj 1 = jk := by rw [hE.ar, hjk]; exact wrap_in (by omega) (by omega)
      conv => cbv
      refine st_int hE tInts hnx.ints (k := j) (by omega) g4 fun p u hu hp => ?_
      conv => cbv
      refine st_load hE cInt hp ?_
      clear hp
      have hu1 := hn1 u (List.mem_of_getElem? hu)
      have hu2 := hall u (List.mem_of_getElem? hu)
      obtain ⟨ku, hku⟩ : ∃ ku : Nat, u = ku := ⟨u.toNat, by omega⟩
      have hdn : nx.drop j = u :: nx.drop (j + 1) := by
        obtain ⟨z1, z2⟩ := List.getElem?_eq_some_iff.1 hu
        rw [List.drop_eq_getElem_cons z1, z2]
      rw [hdn, merge, show u.toNat = ku by omega] at hM
      obtain ⟨⟨kn2, A11, n11, c11, A12, n12, c12⟩, hgk⟩ : ∃ s, ss2[ku]? = some s := ⟨_, List.getElem?_eq_getElem (by omega)⟩
      obtain ⟨r1, r2⟩ := hrep ku _ (by omega) hgk
      simp only at r1 r2
      obtain ⟨_, e0, hcs⟩ := fl_at sC_len ho.cells (by omega) hgk
      cases e0
      -- what is done where the state may stand there
      have fin : ∀ f3, know f2 ku t = some f3 → (fun j => if j = ku then some t else f2 j) = f3 → ∀ wy, Same wz wy → ∀ F : Fr, lk F 1 = some (.pointer (some a0)) → True := fun _ _ _ _ _ _ _ => trivial
      clear fin
      conv => cbv
      refine draw_q hr fol (by kernel_rfl) fun E' hE' => ?_
      conv => cbv
      refine st_idx hE' sLS rfl (by omega) (by omega) fun p hp => ?_
      rw [show u.toNat = ku by omega] at hp
      conv => cbv
      refine st_fld hE' fLS0 fun p2 hp2 => ?_
      conv => cbv
      refine st_load hE' cBool (v := .bool kn2) (by rw [hp2, hp]; exact hcs 0 _ rfl) ?_
      clear hp hp2
      conv => cbv
      cases kn2 with
      | false =>
        have hfn := r1 rfl
        rw [know, hfn] at hM
        simp only at hM
        conv => cbv
        intro wy hsy
        replace hb := hb.bel hsy.ext
        replace ho := ho.bel hsy.ext
        replace hx := hx.trans hsy.ext
        replace hrep := hrep.ext hsy.ext
        replace h82 := h82.bel hsy.ext
        replace hrt := hrt.ext hsy.ext
        replace hnx := hnx.bel hsy.ext
        have hBy : B1 ≤ wy.heap.size := by have := hsy.ext.size; omega
        clear hsy
        conv => cbv
        refine st_loadS hE tLS rfl h82.at ?_
        conv => cbv
        refine st_idx hE sLS rfl (by omega) (by omega) fun p hp => ?_
        rw [show u.toNat = ku by omega] at hp
        conv => cbv
        obtain ⟨y, hy⟩ : ∃ y : SS, y = ⟨true, A5, n5, c5, A6, n6, c6⟩ := ⟨_, rfl⟩
        refine st_putS hr (vs := [.bool true, .slice A5 n5 c5, .slice A6 n6 c6]) (by kernel_rfl) ho (j := ku * 3) hp (by rw [fl_len sC_len]; simp; omega) (by simp [Value.oneCell']) fun wx hwx hox => ?_
        rw [show [Value.bool true, .slice A5 n5 c5, .slice A6 n6 c6] = sC y by rw [hy]; rfl, fl_put sC_len _ ku y (by omega)] at hox
        conv => cbv
        simp only [ej]
        have hrt2 := hrt.above (abv hwx)
        refine ⟨(j + 1, jk, ss2.set ku y, fun j => if j = ku then some t else f2 j), by simp [Fits, lk], hI2 _ _ ⟨by simp only; omega, by simp only; omega, by simpa using hsl2, hx.then (hwx.bel ho hx.size), hb.wr hwx apb.1, hox, by have := hwx.size; omega, ?_, h82.above (abv hwx), hrt2, (hnx.above (abv hwx)), hM⟩, by simp only; omega⟩
        exact (hrep.above (abv hwx)).set (by rw [hy]) htk (by rw [hy]; exact hrt2)
      | true =>
        obtain ⟨u2, hfn, hok2, hru⟩ := r2 rfl
        rw [know, hfn] at hM
        simp only at hM
        conv => cbv
        refine st_idx hE' sLS rfl (by omega) (by omega) fun p hp => ?_
        rw [show u.toNat = ku by omega] at hp
        conv => cbv
        refine st_fld hE' fLS1 fun p2 hp2 => ?_
        conv => cbv
        refine st_load hE' cInts (v := .slice A11 n11 c11) (by rw [hp2, hp]; exact hcs 1 _ rfl) ?_
        clear hp hp2
        conv => cbv
        (refine st_fld hE' fLS1 fun p hp => ?_; (conv => cbv); refine st_load hE' cInts (by rw [hp]; exact (h82).at _ _ rfl) ?_; clear hp; (conv => cbv))
        refine st_qb hE' (l5sameInts_q hru.a.ints hrt.a.ints) fun b hb1 w20 hs20 => ?_
        conv => cbv
        have bad : ∀ wy, Same wz wy → u2 ≠ t → Ext w wy ∧ (Value.tuple ⟨[.int .i64 0, .int .i64 9]⟩ : Value) = .tuple ⟨[.int .i64 V.1, .int .i64 V.2]⟩ := fun wy hsy hne => by
          rw [if_neg hne] at hM
          simp only at hM
          have e1 : M = none := hM.symm
          rw [e1] at hV
          exact ⟨hx.trans hsy.ext, by rw [← hV]⟩
        cases b with
        | false =>
          have hne : u2 ≠ t := fun q => by rw [q] at hb1; exact absurd (hb1.2 rfl) (by simp)
          conv => cbv
          intro wy hsy
          conv => cbv
          rw [hR]; exact bad wy hsy hne
        | true =>
          have he1 := hb1.1 rfl
          conv => cbv
          refine st_idx hE' sLS rfl (by omega) (by omega) fun p hp => ?_
          rw [show u.toNat = ku by omega] at hp
          conv => cbv
          refine st_fld hE' fLS2 fun p2 hp2 => ?_
          conv => cbv
          refine st_load hE' cInts (v := .slice A12 n12 c12) (by rw [hp2, hp]; exact hs20.ext.cell (hcs 2 _ rfl)) ?_
          clear hp hp2
          conv => cbv
          refine st_fld hE' fLS2 fun p hp => ?_
          conv => cbv
          refine st_load hE' cInts (by rw [hp]; exact hs20.ext.cell (h82.at _ _ rfl)) ?_
          clear hp
          conv => cbv
          refine st_qb hE' (l5sameInts_q (hru.b.ints.ext hs20.ext) (hrt.b.ints.ext hs20.ext)) fun b hb2 w21 hs21 => ?_
          conv => cbv
          cases b with
          | false =>
            have hne : u2 ≠ t := fun q => by rw [q] at hb2; exact absurd (hb2.2 rfl) (by simp)
            conv => cbv
            intro wy hsy
            conv => cbv
            rw [hR]; exact bad wy hsy hne
          | true =>
            have he2 : u2 = t := by
              have := hb2.1 rfl
              exact Prod.ext he1 this
            rw [if_pos he2] at hM
            simp only at hM
            rw [he2] at hfn
            conv => cbv
            intro wy hsy
            replace hb := hb.bel hsy.ext
            replace ho := ho.bel hsy.ext
            replace hx := hx.trans hsy.ext
            replace hrep := hrep.ext hsy.ext
            replace h82 := h82.bel hsy.ext
            replace hrt := hrt.ext hsy.ext
            replace hnx := hnx.bel hsy.ext
            have hBy : B1 ≤ wy.heap.size := by have := hsy.ext.size; omega
            clear hsy
            conv => cbv
            refine st_loadS hE tLS rfl h82.at ?_
            conv => cbv
            refine st_idx hE sLS rfl (by omega) (by omega) fun p hp => ?_
            rw [show u.toNat = ku by omega] at hp
            conv => cbv
            obtain ⟨y, hy⟩ : ∃ y : SS, y = ⟨true, A5, n5, c5, A6, n6, c6⟩ := ⟨_, rfl⟩
            refine st_putS hr (vs := [.bool true, .slice A5 n5 c5, .slice A6 n6 c6]) (by kernel_rfl) ho (j := ku * 3) hp (by rw [fl_len sC_len]; simp; omega) (by simp [Value.oneCell']) fun wx hwx hox => ?_
            rw [show [Value.bool true, .slice A5 n5 c5, .slice A6 n6 c6] = sC y by rw [hy]; rfl, fl_put sC_len _ ku y (by omega)] at hox
            conv => cbv
            simp only [ej]
            have hrt2 := hrt.above (abv hwx)
            refine ⟨(j + 1, jk, ss2.set ku y, f2), by simp [Fits, lk], hI2 _ _ ⟨by simp only; omega, by simp only; omega, by simpa using hsl2, hx.then (hwx.bel ho hx.size), hb.wr hwx apb.1, hox, by have := hwx.size; omega, ?_, h82.above (abv hwx), hrt2, (hnx.above (abv hwx)), hM⟩, by simp only; omega⟩
            have := (hrep.above (abv hwx)).set (k := ku) (s := y) (t := t) (by rw [hy]) htk (by rw [hy]; exact hrt2)
            rwa [know_at hfn] at this
    · have g4 : j = n10 := by
        have : ¬ jj < x10 := by simpa [hE.cmp, cmpR] using g4
        omega
      subst g4
      rw [List.drop_of_length_le (by omega), merge] at hM
      rw [← hM] at hV
      simp only at hV
      conv => cbv
      simp only [ei]
      exact ⟨(i + 1, ij, ss2, f2, mm), by simp [Fits, lk], hI _ _ ⟨by simp only; omega, by simp only; omega, hsl2, hx, hb, ho, hBz, hrep, by rw [hil]; exact hV⟩, by simp only; omega⟩
  · have g2 : i = n2 := by
      have : ¬ ii < x3 := by simpa [hE.cmp, cmpR] using g2
      omega
    rw [List.drop_of_length_le (by omega), verL] at hV
    conv => cbv
    rw [hR]; exact ⟨hx, by rw [← hV]; rfl⟩
end Go.Proofs.YtmbonalhbibppaaDoor
