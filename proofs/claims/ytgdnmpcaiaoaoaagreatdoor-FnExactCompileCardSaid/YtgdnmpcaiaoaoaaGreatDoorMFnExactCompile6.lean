/- Texts that the law FnExactCompile leans on, part 6 of 7: contracts of the functions that it reaches and plain lemmas. Each holds under the conditions that it states. -/
import Derived.Test.YtgdnmpcaiaoaoaaGreatDoorMFnExactCompile5
/- The program's compiler: expr and operator walked. -/
namespace Go.Proofs.YtgdnmpcaiaoaoaaGreatDoor
open Go.Eng
set_option linter.unusedVariables false
set_option linter.unusedSimpArgs false
/-- The compiler in memory, with what it has written. -/
structure CMs (w0s : Nat) (w : World) (q : Addr) (P : Option Addr) (pn pc : Nat) (sl : Int) (I : Option Addr) (ic : Nat) (vs : List VV) (s : CS) : Prop where
  cm : CM w0s w q P pn pc sl I s.ins.length ic vs s.ins
  eq : vs.map (·.p) = s.pool
section
variable {w0s : Nat} {w w' : World} {q : Addr} {P : Option Addr} {pn pc : Nat} {sl : Int} {I : Option Addr} {ic : Nat} {vs : List VV} {s : CS}
theorem CMs.pl (h : CMs w0s w q P pn pc sl I ic vs s) : s.pool.length = pn := by
  have := h.cm.lens.1
  rw [← h.eq, List.length_map, this]
theorem CMs.st (h : CMs w0s w q P pn pc sl I ic vs s) : (⟨vs.map (·.p), s.ins⟩ : CS) = s := by rw [h.eq]
theorem CMs.ext (h : CMs w0s w q P pn pc sl I ic vs s) (hx : Ext w w') : CMs w0s w' q P pn pc sl I ic vs s := ⟨h.cm.ext hx, h.eq⟩
theorem CR.ms {s : CS} (h : CR w0s w q P sl I s w') : ∃ P' pn' pc' I' ic' vs', CMs w0s w' q P' pn' pc' sl I' ic' vs' s ∧ CSt w (rws q P I) w' (rws q P' I') := by
  obtain ⟨P', pn', pc', I', ic', vs', h1, h2, h3⟩ := h
  exact ⟨P', pn', pc', I', ic', vs', ⟨h1, h2⟩, h3⟩
theorem put_s (hb : CB w0s q) (h : CMs w0s w q P pn pc sl I ic vs s) (hn : s.ins.length ≤ 100000) (o a : Int) {f : Int} (hf : f = (s.ins.length : Int)) :
    GC Tryz.prog 189 [.pointer (some q), .int .i64 o, .int .i64 a] w fun r w' => r = .int .i64 f ∧ CR w0s w q P sl I (putP o a s) w' := by
  have := put_c hb h.cm hn o a
  refine ⟨this.1, this.2.mono fun e w' ⟨r, he, hr, I', ic', hM, hC⟩ => ⟨r, he, by rw [hf]; exact hr, P, pn, pc, I', ic', vs, ?_, h.eq, hC⟩⟩
  have e2 : (putP o a s).ins.length = s.ins.length + 1 := by simp [putP]
  rw [e2]
  exact hM
theorem mark_s (hb : CB w0s q) (h : CMs w0s w q P pn pc sl I ic vs s) (hn : s.ins.length ≤ 100000) {f : Nat} {fz : Int} (hf : fz = (f : Int)) (hfn : f < s.ins.length) :
    GC Tryz.prog 191 [.pointer (some q), .int .i64 fz] w fun _ w' => CR w0s w q P sl I (markP f s) w' := by
  have := mark_c hb h.cm hf hfn hn
  refine ⟨this.1, this.2.mono fun e w' ⟨r, he, hM, hC⟩ => ⟨r, he, P, pn, pc, I, ic, vs, ?_, h.eq, hC⟩⟩
  have e2 : (markP f s).ins.length = s.ins.length := by simp [markP]
  rw [e2]
  exact hM
theorem push_s (hb : CB w0s q) (h : CMs w0s w q P pn pc sl I ic vs s) (hn : s.ins.length ≤ 100000) (hp : s.pool.length ≤ 100000) {v : VV} (hv : ValM w v) (hvm : v.m ≤ 100000) :
    GC Tryz.prog 266 [.pointer (some q), .agg ⟨vC v⟩] w fun _ w' => CR w0s w q P sl I (pushP v.p s) w' := by
  have := push_c hb h.cm hn (by rw [← h.pl]; exact hp) hv hvm
  rw [h.st] at this
  exact this
end
mutual
/-- The constants' names are few. -/
def fewT : Tr → Prop
  | .con _ _ _ xs _ => xs.length ≤ 100000
  | .op _ kids _ => fewTs kids
  | _ => True
def fewTs : List Tr → Prop
  | [] => True
  | t :: l => fewT t ∧ fewTs l
end
theorem poolR_len : ∀ (l : List RI) (p : List PV), (poolR l p).length ≤ p.length + l.length
  | [], p => by simp [poolR]
  | .ins o a :: l, p => by simp only [poolR, List.length_cons]; have := poolR_len l p; omega
  | .push v :: l, p => by
    simp only [poolR, List.length_cons]
    cases posV p v with
    | some i => simp only; have := poolR_len l p; omega
    | none => simp only; have := poolR_len l (p ++ [v]); rw [List.length_append] at this; simp only [List.length_cons, List.length_nil] at this; omega
theorem exP_len {t : Tr} (h : okT t) (s : CS) : (exP t s).ins.length = s.ins.length + szT t ∧ (exP t s).pool.length ≤ s.pool.length + szT t := by
  rw [exP_eq t s h]
  refine ⟨by rw [passR_len, refT_len t _ h], ?_⟩
  have := poolR_len (refT t s.ins.length) s.pool
  rw [refT_len t _ h] at this
  exact this
theorem putP_len (o a : Int) (s : CS) : (putP o a s).ins.length = s.ins.length + 1 ∧ (putP o a s).pool = s.pool := ⟨by simp [putP], rfl⟩
theorem markP_len (f : Nat) (s : CS) : (markP f s).ins.length = s.ins.length ∧ (markP f s).pool = s.pool := ⟨by simp [markP], rfl⟩
theorem pushP_len (v : PV) (s : CS) : (pushP v s).ins.length = s.ins.length + 1 ∧ (pushP v s).pool.length ≤ s.pool.length + 1 := by
  rw [pushP_eq]
  exact ⟨by rw [passR_len]; rfl, by have := poolR_len [.push v] s.pool; simpa [passR] using this⟩
/-- What expr gives, of trees this deep. -/
def ExC (w0 : World) (q : Addr) (n : Nat) : Prop := ∀ (t : Tr) (v : Value), dep t ≤ n → TreeV (fun b => b < w0.heap.size) w0 t v → okT t → fewT t → ∀ (w : World) (P : Option Addr) (pn pc : Nat) (sl : Int) (I : Option Addr) (ic : Nat) (vs : List VV) (s : CS), Ext w0 w → CMs w0.heap.size w q P pn pc sl I ic vs s → s.ins.length + szT t ≤ 60000 → s.pool.length + szT t ≤ 60000 →
  GC Tryz.prog 188 [.pointer (some q), v] w fun _ w' => CR w0.heap.size w q P sl I (exP t s) w'
theorem CR.ext0 {w0 w w' : World} {q : Addr} {P : Option Addr} {pn pc : Nat} {sl : Int} {I : Option Addr} {ic : Nat} {vs : List VV} {s : CS} {P' I' : Option Addr} (hb : CB w0.heap.size q) (h : CMs w0.heap.size w q P pn pc sl I ic vs s) (hc : CSt w (rws q P I) w' (rws q P' I')) (h0 : Ext w0 w) : Ext w0 w' := hc.ext0 h0 (h.cm.low hb)
theorem okTs_at : ∀ {l : List Tr} {j : Nat} {t : Tr}, okTs l → l[j]? = some t → okT t
  | u :: l, 0, t, h, e => by simp at e; subst e; simp only [okTs] at h; exact h.1
  | u :: l, j + 1, t, h, e => by simp only [okTs] at h; exact okTs_at h.2 (by simpa using e)
theorem fewTs_at : ∀ {l : List Tr} {j : Nat} {t : Tr}, fewTs l → l[j]? = some t → fewT t
  | u :: l, 0, t, h, e => by simp at e; subst e; simp only [fewTs] at h; exact h.1
  | u :: l, j + 1, t, h, e => by simp only [fewTs] at h; exact fewTs_at h.2 (by simpa using e)
theorem szTs_drop : ∀ {l : List Tr} {j : Nat} {t : Tr}, l[j]? = some t → szTs (l.drop j) = szT t + szTs (l.drop (j + 1)) := fun h => by rw [drop_cons h, szTs]
def exK : List Tr → CS → CS
  | [], s => s
  | t :: l, s => exK l (exP t s)
theorem szTs_at : ∀ {l : List Tr} {j : Nat} {t : Tr}, l[j]? = some t → szT t ≤ szTs l
  | u :: l, 0, t, e => by simp at e; subst e; rw [szTs]; omega
  | u :: l, j + 1, t, e => by rw [szTs]; have := szTs_at (l := l) (by simpa using e); omega
set_option maxHeartbeats 16000000 in
theorem operator_g {w0 : World} (hT : Tab w0 5 opF) {q : Addr} (hb : CB w0.heap.size q) {n : Nat} (ih : ExC w0 q n) {o at_ : Int} {kids : List Tr} (hd : deps kids ≤ n) {A : Option Addr} {m c : Nat} {xs : List Value} (hvl : xs.length = m) (hm : m ≤ c) (hcl : Cells w0 A xs) (hts : TreesV (fun b => b < w0.heap.size) w0 kids xs) (hok : okT (.op o kids at_)) (hfew : fewTs kids)
    {w : World} {P : Option Addr} {pn pc : Nat} {sl : Int} {I : Option Addr} {ic : Nat} {vs : List VV} {s : CS} (h0 : Ext w0 w) (h : CMs w0.heap.size w q P pn pc sl I ic vs s) (hs1 : s.ins.length + szT (.op o kids at_) ≤ 60000) (hs2 : s.pool.length + szT (.op o kids at_) ≤ 60000) :
    GC Tryz.prog 267 [.pointer (some q), .agg ⟨[.int .i64 o, .slice A m c, .int .i64 at_]⟩] w fun _ w' => CR w0.heap.size w q P sl I (exP (.op o kids at_) s) w' := by
  refine GC.intro (cs := []) Tryz.func267 (by kernel_rfl) fun E R hE hr hR => ?_
  have hkl := hts.len
  have hok' := hok
  simp only [okT] at hok'
  obtain ⟨hk1, hk2, hk3⟩ := hok'
  have hk4 := kids_le hk1
  obtain ⟨t0, ht0⟩ : ∃ t0, kids[0]? = some t0 := ⟨_, List.getElem?_eq_getElem (by omega)⟩
  obtain ⟨v0, hv0⟩ : ∃ v0, xs[0]? = some v0 := ⟨_, List.getElem?_eq_getElem (by omega)⟩
  have hsz : szT (.op o kids at_) = 1 + szTs kids + (if o = 25 ∨ o = 26 then 2 else if o = 27 then 1 else 0) := by rw [szT]
  -- a kid compiled
  have kid : ∀ {w : World} {P : Option Addr} {pn pc : Nat} {I : Option Addr} {ic : Nat} {vs : List VV} {s : CS} (j : Nat) (t : Tr) (v : Value), kids[j]? = some t → xs[j]? = some v → Ext w0 w → CMs w0.heap.size w q P pn pc sl I ic vs s → s.ins.length + szT t ≤ 60000 → s.pool.length + szT t ≤ 60000 →
      GC Tryz.prog 188 [.pointer (some q), v] w fun _ w' => CR w0.heap.size w q P sl I (exP t s) w' := fun j t v h1 h2 hx hM b1 b2 =>
    ih t v (Nat.le_trans (deps_mem (List.mem_of_getElem? h1)) hd) (hts.get j t v h1 h2) (okTs_at hk3 h1) (fewTs_at hfew h1) _ _ _ _ _ _ _ _ _ hx hM b1 b2
  conv => cbv
  refine st_box hr fun q3 w1 hx1 h30 => ?_
  have h3 := h30 _ (Nat.le_refl _)
  clear h30
  have hM1 := h.ext hx1
  have h01 := h0.trans hx1
  have d3 : ∀ r ∈ rws q P I, Dj r (some q3) := fun r hr2 => by
    simp only [rws, List.mem_cons, List.not_mem_nil, or_false] at hr2
    rcases hr2 with rfl | rfl | rfl
    · exact dj_new h.cm.box h3 (Nat.le_refl _)
    · exact dj_new h.cm.rP h3 (Nat.le_refl _)
    · exact dj_new h.cm.rI h3 (Nat.le_refl _)
  conv => cbv
  (refine st_fld hE fOp1 fun p hp => ?_; (conv => cbv); refine st_load hE cTrs (by rw [hp]; exact (h3).at _ _ rfl) ?_; clear hp; (conv => cbv))
  refine st_elem hE sTrs (hcl.ext h01) hvl.symm (by omega) (by omega) fun p v hv hp => ?_
  rw [show (0 : Int).toNat = 0 from rfl, hv0] at hv
  cases hv
  conv => cbv
  refine st_load hE cTr hp ?_
  have z0 := szTs_at ht0
  refine st_g hr (kid 0 t0 v0 ht0 hv0 h01 hM1 (by omega) (by omega)) fun _ w2 hcr => ?_
  obtain ⟨P2, pn2, pc2, I2, ic2, vs2, hM2, hC2⟩ := hcr.ms
  obtain ⟨h32, d32⟩ := hC2.own h3 d3
  have h02 := CR.ext0 hb hM1 hC2 h01
  have hok0 := okTs_at hk3 ht0
  obtain ⟨s2, es2⟩ : ∃ x, x = exP t0 s := ⟨_, rfl⟩
  rw [← es2] at hM2
  have l2 : s2.ins.length = s.ins.length + szT t0 ∧ s2.pool.length ≤ s.pool.length + szT t0 := by rw [es2]; exact exP_len hok0 s
  have cst2 : CSt w (rws q P I) w2 (rws q P2 I2) := (CSt.of_ext hx1 _).trans hC2
  clear hcr hM1 hx1 h3 d3 hC2 hp
  conv => cbv
  (refine st_fld hE fOp0 fun p hp => ?_; (conv => cbv); refine st_load hE cInt (by rw [hp]; exact (h32).at _ _ rfl) ?_; clear hp; (conv => cbv))
  -- BRANCHES
  by_cases o25 : o = 25
  · refine br (fun _ => ?_) (fun q => absurd o25 (by simpa [hE.cmp, cmpR] using q))
    conv => cbv
    refine br (fun _ => ?_) (fun q => absurd o25 (by simpa [hE.cmp, cmpR] using q))
    have hk2' : kids.length = 2 := by subst o25; have e : kidsF 25 = 2 := by decide
                                      omega
    obtain ⟨t1, rfl⟩ : ∃ t1, kids = [t0, t1] := by
      match kids, hk2', ht0 with
      | [a, b], _, h => simp at h; subst h; exact ⟨b, rfl⟩
    have ht1 : [t0, t1][1]? = some t1 := rfl
    obtain ⟨v1, hv1⟩ : ∃ v1, xs[1]? = some v1 := ⟨_, List.getElem?_eq_getElem (by simp at hkl; omega)⟩
    have hs0 : szTs [t0, t1] = szT t0 + szT t1 := by simp [szTs]
    simp only [List.length_cons, List.length_nil] at hkl
    rw [if_pos (.inl o25)] at hsz
    conv => cbv
    obtain ⟨f, hf⟩ : ∃ z : Int, z = (s2.ins.length : Int) := ⟨_, rfl⟩
    refine st_g hr (put_s hb hM2 (by omega) 23 0 hf) fun _ w3 ⟨ev, hcr⟩ => ?_
    subst ev
    obtain ⟨P3, pn3, pc3, I3, ic3, vs3, hM3, hC3⟩ := hcr.ms
    obtain ⟨h33, d33⟩ := hC3.own h32 d32
    have h03 := CR.ext0 hb hM2 hC3 h02
    have cst3 := cst2.trans hC3
    obtain ⟨s3, es3⟩ : ∃ x, x = putP 23 0 s2 := ⟨_, rfl⟩
    rw [← es3] at hM3
    have l3 : s3.ins.length = s2.ins.length + 1 ∧ s3.pool = s2.pool := by rw [es3]; exact putP_len _ _ _
    clear hcr hM2 hC3 h32 d32 cst2
    have l3p : s3.pool.length = s2.pool.length := by rw [l3.2]
    conv => cbv
    (refine st_fld hE fOp0 fun p hp => ?_; (conv => cbv); refine st_load hE cInt (by rw [hp]; exact (h33).at _ _ rfl) ?_; clear hp; (conv => cbv))
    refine br (fun q => absurd o25 (by have : o = 26 := by simpa [hE.cmp, cmpR] using q
                                       omega)) (fun _ => ?_)
    conv => cbv
    (refine st_fld hE fOp1 fun p hp => ?_; (conv => cbv); refine st_load hE cTrs (by rw [hp]; exact (h33).at _ _ rfl) ?_; clear hp; (conv => cbv))
    refine st_elem hE sTrs (hcl.ext h03) hvl.symm (by omega) (by omega) fun p v hv hp => ?_
    rw [show (1 : Int).toNat = 1 from rfl, hv1] at hv
    cases hv
    conv => cbv
    refine st_load hE cTr hp ?_
    refine st_g hr (kid 1 t1 v1 ht1 hv1 h03 hM3 (by omega) (by omega)) fun _ w4 hcr => ?_
    clear hp
    obtain ⟨P4, pn4, pc4, I4, ic4, vs4, hM4, hC4⟩ := hcr.ms
    obtain ⟨h34, d34⟩ := hC4.own h33 d33
    have h04 := CR.ext0 hb hM3 hC4 h03
    have cst4 := cst3.trans hC4
    obtain ⟨s4, es4⟩ : ∃ x, x = exP t1 s3 := ⟨_, rfl⟩
    rw [← es4] at hM4
    have l4 : s4.ins.length = s3.ins.length + szT t1 ∧ s4.pool.length ≤ s3.pool.length + szT t1 := by rw [es4]; exact exP_len (okTs_at hk3 ht1) s3
    clear hcr hM3 hC4 h33 d33 cst3
    conv => cbv
    obtain ⟨e, he⟩ : ∃ z : Int, z = (s4.ins.length : Int) := ⟨_, rfl⟩
    refine st_g hr (put_s hb hM4 (by omega) 22 0 he) fun _ w5 ⟨ev, hcr⟩ => ?_
    subst ev
    obtain ⟨P5, pn5, pc5, I5, ic5, vs5, hM5, hC5⟩ := hcr.ms
    obtain ⟨h35, d35⟩ := hC5.own h34 d34
    have h05 := CR.ext0 hb hM4 hC5 h04
    have cst5 := cst4.trans hC5
    obtain ⟨s5, es5⟩ : ∃ x, x = putP 22 0 s4 := ⟨_, rfl⟩
    rw [← es5] at hM5
    have l5 : s5.ins.length = s4.ins.length + 1 ∧ s5.pool = s4.pool := by rw [es5]; exact putP_len _ _ _
    clear hcr hM4 hC5 h34 d34 cst4
    have l5p : s5.pool.length = s4.pool.length := by rw [l5.2]
    conv => cbv
    refine st_g hr (mark_s hb hM5 (by omega) hf (by omega)) fun _ w6 hcr => ?_
    obtain ⟨P6, pn6, pc6, I6, ic6, vs6, hM6, hC6⟩ := hcr.ms
    obtain ⟨h36, d36⟩ := hC6.own h35 d35
    have h06 := CR.ext0 hb hM5 hC6 h05
    have cst6 := cst5.trans hC6
    obtain ⟨s6, es6⟩ : ∃ x, x = markP s2.ins.length s5 := ⟨_, rfl⟩
    rw [← es6] at hM6
    have l6 : s6.ins.length = s5.ins.length ∧ s6.pool = s5.pool := by rw [es6]; exact markP_len _ _
    clear hcr hM5 hC6 h35 d35 cst5
    have l6p : s6.pool.length = s5.pool.length := by rw [l6.2]
    conv => cbv
    (refine st_fld hE fOp0 fun p hp => ?_; (conv => cbv); refine st_load hE cInt (by rw [hp]; exact (h36).at _ _ rfl) ?_; clear hp; (conv => cbv))
    refine br (fun _ => ?_) (fun q => absurd o25 (by simpa [hE.cmp, cmpR] using q))
    conv => cbv
    refine st_f hr (truth_f false) fun ut wt hxt ev => ?_
    subst ev
    have hMt := hM6.ext hxt
    conv => cbv
    refine st_g hr (push_s hb hMt (by omega) (by omega) (trV_m false _) (by simp [trV])) fun _ w7 hcr => ?_
    rw [show (trV false).p = boolP 0 from rfl] at hcr
    replace h36 := h36.bel hxt
    replace h06 := h06.trans hxt
    replace cst6 := cst6.trans (CSt.of_ext hxt _)
    replace hM6 := hMt
    clear hMt
    obtain ⟨P7, pn7, pc7, I7, ic7, vs7, hM7, hC7⟩ := hcr.ms
    obtain ⟨h37, d37⟩ := hC7.own h36 d36
    have h07 := CR.ext0 hb hM6 hC7 h06
    have cst7 := cst6.trans hC7
    obtain ⟨s7, es7⟩ : ∃ x, x = pushP (boolP 0) s6 := ⟨_, rfl⟩
    rw [← es7] at hM7
    have l7 : s7.ins.length = s6.ins.length + 1 ∧ s7.pool.length ≤ s6.pool.length + 1 := by rw [es7]; exact pushP_len _ _
    clear hcr hM6 hC7 h36 d36 cst6
    conv => cbv
    refine st_g hr (mark_s hb hM7 (by omega) he (by omega)) fun _ w8 hcr => ?_
    obtain ⟨P8, pn8, pc8, I8, ic8, vs8, hM8, hC8⟩ := hcr.ms
    obtain ⟨h38, d38⟩ := hC8.own h37 d37
    have h08 := CR.ext0 hb hM7 hC8 h07
    have cst8 := cst7.trans hC8
    obtain ⟨s8, es8⟩ : ∃ x, x = markP s4.ins.length s7 := ⟨_, rfl⟩
    rw [← es8] at hM8
    have l8 : s8.ins.length = s7.ins.length ∧ s8.pool = s7.pool := by rw [es8]; exact markP_len _ _
    clear hcr hM7 hC8 h37 d37 cst7
    have l8p : s8.pool.length = s7.pool.length := by rw [l8.2]
    conv => cbv
    rw [hR]
    have fin : exP (.op o [t0, t1] at_) s = s8 := by rw [exP]; rw [if_pos o25]; rw [es8, es7, es6, es5, es4, es3, es2]
    rw [fin]
    exact ⟨P8, pn8, pc8, I8, ic8, vs8, hM8.cm, hM8.eq, cst8⟩
  refine br (fun q => absurd (by simpa [hE.cmp, cmpR] using q) o25) (fun _ => ?_)
  conv => cbv
  by_cases o26 : o = 26
  · refine br (fun _ => ?_) (fun q => absurd o26 (by simpa [hE.cmp, cmpR] using q))
    conv => cbv
    refine br (fun _ => ?_) (fun q => absurd o26 (by simpa [hE.cmp, cmpR] using q))
    have hk2' : kids.length = 2 := by subst o26; have e : kidsF 26 = 2 := by decide
                                      omega
    obtain ⟨t1, rfl⟩ : ∃ t1, kids = [t0, t1] := by
      match kids, hk2', ht0 with
      | [a, b], _, h => simp at h; subst h; exact ⟨b, rfl⟩
    have ht1 : [t0, t1][1]? = some t1 := rfl
    obtain ⟨v1, hv1⟩ : ∃ v1, xs[1]? = some v1 := ⟨_, List.getElem?_eq_getElem (by simp at hkl; omega)⟩
    have hs0 : szTs [t0, t1] = szT t0 + szT t1 := by simp [szTs]
    simp only [List.length_cons, List.length_nil] at hkl
    rw [if_pos (.inr o26)] at hsz
    conv => cbv
    obtain ⟨f, hf⟩ : ∃ z : Int, z = (s2.ins.length : Int) := ⟨_, rfl⟩
    refine st_g hr (put_s hb hM2 (by omega) 23 0 hf) fun _ w3 ⟨ev, hcr⟩ => ?_
    subst ev
    obtain ⟨P3, pn3, pc3, I3, ic3, vs3, hM3, hC3⟩ := hcr.ms
    obtain ⟨h33, d33⟩ := hC3.own h32 d32
    have h03 := CR.ext0 hb hM2 hC3 h02
    have cst3 := cst2.trans hC3
    obtain ⟨s3, es3⟩ : ∃ x, x = putP 23 0 s2 := ⟨_, rfl⟩
    rw [← es3] at hM3
    have l3 : s3.ins.length = s2.ins.length + 1 ∧ s3.pool = s2.pool := by rw [es3]; exact putP_len _ _ _
    clear hcr hM2 hC3 h32 d32 cst2
    have l3p : s3.pool.length = s2.pool.length := by rw [l3.2]
    conv => cbv
    (refine st_fld hE fOp0 fun p hp => ?_; (conv => cbv); refine st_load hE cInt (by rw [hp]; exact (h33).at _ _ rfl) ?_; clear hp; (conv => cbv))
    refine br (fun _ => ?_) (fun q => absurd o26 (by simpa [hE.cmp, cmpR] using q))
    conv => cbv
    refine st_f hr (truth_f true) fun ut wt hxt ev => ?_
    subst ev
    have hMt := hM3.ext hxt
    conv => cbv
    refine st_g hr (push_s hb hMt (by omega) (by omega) (trV_m true _) (by simp [trV])) fun _ w4 hcr => ?_
    rw [show (trV true).p = boolP 1 from rfl] at hcr
    replace h33 := h33.bel hxt
    replace h03 := h03.trans hxt
    replace cst3 := cst3.trans (CSt.of_ext hxt _)
    replace hM3 := hMt
    clear hMt
    obtain ⟨P4, pn4, pc4, I4, ic4, vs4, hM4, hC4⟩ := hcr.ms
    obtain ⟨h34, d34⟩ := hC4.own h33 d33
    have h04 := CR.ext0 hb hM3 hC4 h03
    have cst4 := cst3.trans hC4
    obtain ⟨s4, es4⟩ : ∃ x, x = pushP (boolP 1) s3 := ⟨_, rfl⟩
    rw [← es4] at hM4
    have l4 : s4.ins.length = s3.ins.length + 1 ∧ s4.pool.length ≤ s3.pool.length + 1 := by rw [es4]; exact pushP_len _ _
    clear hcr hM3 hC4 h33 d33 cst3
    conv => cbv
    obtain ⟨e, he⟩ : ∃ z : Int, z = (s4.ins.length : Int) := ⟨_, rfl⟩
    refine st_g hr (put_s hb hM4 (by omega) 22 0 he) fun _ w5 ⟨ev, hcr⟩ => ?_
    subst ev
    obtain ⟨P5, pn5, pc5, I5, ic5, vs5, hM5, hC5⟩ := hcr.ms
    obtain ⟨h35, d35⟩ := hC5.own h34 d34
    have h05 := CR.ext0 hb hM4 hC5 h04
    have cst5 := cst4.trans hC5
    obtain ⟨s5, es5⟩ : ∃ x, x = putP 22 0 s4 := ⟨_, rfl⟩
    rw [← es5] at hM5
    have l5 : s5.ins.length = s4.ins.length + 1 ∧ s5.pool = s4.pool := by rw [es5]; exact putP_len _ _ _
    clear hcr hM4 hC5 h34 d34 cst4
    have l5p : s5.pool.length = s4.pool.length := by rw [l5.2]
    conv => cbv
    refine st_g hr (mark_s hb hM5 (by omega) hf (by omega)) fun _ w6 hcr => ?_
    obtain ⟨P6, pn6, pc6, I6, ic6, vs6, hM6, hC6⟩ := hcr.ms
    obtain ⟨h36, d36⟩ := hC6.own h35 d35
    have h06 := CR.ext0 hb hM5 hC6 h05
    have cst6 := cst5.trans hC6
    obtain ⟨s6, es6⟩ : ∃ x, x = markP s2.ins.length s5 := ⟨_, rfl⟩
    rw [← es6] at hM6
    have l6 : s6.ins.length = s5.ins.length ∧ s6.pool = s5.pool := by rw [es6]; exact markP_len _ _
    clear hcr hM5 hC6 h35 d35 cst5
    have l6p : s6.pool.length = s5.pool.length := by rw [l6.2]
    conv => cbv
    (refine st_fld hE fOp0 fun p hp => ?_; (conv => cbv); refine st_load hE cInt (by rw [hp]; exact (h36).at _ _ rfl) ?_; clear hp; (conv => cbv))
    refine br (fun q => absurd o26 (by have : o = 25 := by simpa [hE.cmp, cmpR] using q
                                       omega)) (fun _ => ?_)
    conv => cbv
    (refine st_fld hE fOp1 fun p hp => ?_; (conv => cbv); refine st_load hE cTrs (by rw [hp]; exact (h36).at _ _ rfl) ?_; clear hp; (conv => cbv))
    (refine st_fld hE fOp1 fun p hp => ?_; (conv => cbv); refine st_load hE cTrs (by rw [hp]; exact (h36).at _ _ rfl) ?_; clear hp; (conv => cbv))
    refine st_len hE sTrs fun xl hxl => ?_
    obtain ⟨il, hil⟩ : ∃ il : Int, il = 1 := ⟨_, rfl⟩
    have exl : E.ar .sub .i64 xl 1 = il := by rw [hE.ar, show arR .sub .i64 xl 1 = IntKind.i64.wrap (xl - 1) from rfl, wrap_in (by omega) (by omega)]; omega
    conv => cbv
    simp only [exl]
    refine st_elem hE sTrs (hcl.ext h06) hvl.symm (by omega) (by omega) fun p v hv hp => ?_
    rw [show il.toNat = 1 by omega, hv1] at hv
    cases hv
    conv => cbv
    refine st_load hE cTr hp ?_
    refine st_g hr (kid 1 t1 v1 ht1 hv1 h06 hM6 (by omega) (by omega)) fun _ w7 hcr => ?_
    clear hp
    obtain ⟨P7, pn7, pc7, I7, ic7, vs7, hM7, hC7⟩ := hcr.ms
    obtain ⟨h37, d37⟩ := hC7.own h36 d36
    have h07 := CR.ext0 hb hM6 hC7 h06
    have cst7 := cst6.trans hC7
    obtain ⟨s7, es7⟩ : ∃ x, x = exP t1 s6 := ⟨_, rfl⟩
    rw [← es7] at hM7
    have l7 : s7.ins.length = s6.ins.length + szT t1 ∧ s7.pool.length ≤ s6.pool.length + szT t1 := by rw [es7]; exact exP_len (okTs_at hk3 ht1) s6
    clear hcr hM6 hC7 h36 d36 cst6
    conv => cbv
    refine st_g hr (mark_s hb hM7 (by omega) he (by omega)) fun _ w8 hcr => ?_
    obtain ⟨P8, pn8, pc8, I8, ic8, vs8, hM8, hC8⟩ := hcr.ms
    obtain ⟨h38, d38⟩ := hC8.own h37 d37
    have h08 := CR.ext0 hb hM7 hC8 h07
    have cst8 := cst7.trans hC8
    obtain ⟨s8, es8⟩ : ∃ x, x = markP s4.ins.length s7 := ⟨_, rfl⟩
    rw [← es8] at hM8
    have l8 : s8.ins.length = s7.ins.length ∧ s8.pool = s7.pool := by rw [es8]; exact markP_len _ _
    clear hcr hM7 hC8 h37 d37 cst7
    have l8p : s8.pool.length = s7.pool.length := by rw [l8.2]
    conv => cbv
    rw [hR]
    have fin : exP (.op o [t0, t1] at_) s = s8 := by rw [exP]; rw [if_neg (by omega), if_pos o26]; rw [es8, es7, es6, es5, es4, es3, es2]
    rw [fin]
    exact ⟨P8, pn8, pc8, I8, ic8, vs8, hM8.cm, hM8.eq, cst8⟩
  refine br (fun q => absurd (by simpa [hE.cmp, cmpR] using q) o26) (fun _ => ?_)
  conv => cbv
  by_cases o27 : o = 27
  · refine br (fun _ => ?_) (fun q => absurd o27 (by simpa [hE.cmp, cmpR] using q))
    have hk2' : kids.length = 3 := by subst o27; have e : kidsF 27 = 3 := by decide
                                      omega
    obtain ⟨t1, t2, rfl⟩ : ∃ t1 t2, kids = [t0, t1, t2] := by
      match kids, hk2', ht0 with
      | [a, b, c], _, h => simp at h; subst h; exact ⟨b, c, rfl⟩
    have ht1 : [t0, t1, t2][1]? = some t1 := rfl
    have ht2 : [t0, t1, t2][2]? = some t2 := rfl
    obtain ⟨v1, hv1⟩ : ∃ v1, xs[1]? = some v1 := ⟨_, List.getElem?_eq_getElem (by simp at hkl; omega)⟩
    obtain ⟨v2, hv2⟩ : ∃ v2, xs[2]? = some v2 := ⟨_, List.getElem?_eq_getElem (by simp at hkl; omega)⟩
    have hs0 : szTs [t0, t1, t2] = szT t0 + szT t1 + szT t2 := by simp [szTs]; omega
    simp only [List.length_cons, List.length_nil] at hkl
    rw [if_neg (by omega), if_pos o27] at hsz
    conv => cbv
    obtain ⟨f, hf⟩ : ∃ z : Int, z = (s2.ins.length : Int) := ⟨_, rfl⟩
    refine st_g hr (put_s hb hM2 (by omega) 23 0 hf) fun _ w3 ⟨ev, hcr⟩ => ?_
    subst ev
    obtain ⟨P3, pn3, pc3, I3, ic3, vs3, hM3, hC3⟩ := hcr.ms
    obtain ⟨h33, d33⟩ := hC3.own h32 d32
    have h03 := CR.ext0 hb hM2 hC3 h02
    have cst3 := cst2.trans hC3
    obtain ⟨s3, es3⟩ : ∃ x, x = putP 23 0 s2 := ⟨_, rfl⟩
    rw [← es3] at hM3
    have l3 : s3.ins.length = s2.ins.length + 1 ∧ s3.pool = s2.pool := by rw [es3]; exact putP_len _ _ _
    clear hcr hM2 hC3 h32 d32 cst2
    have l3p : s3.pool.length = s2.pool.length := by rw [l3.2]
    conv => cbv
    (refine st_fld hE fOp0 fun p hp => ?_; (conv => cbv); refine st_load hE cInt (by rw [hp]; exact (h33).at _ _ rfl) ?_; clear hp; (conv => cbv))
    refine br (fun q => absurd o27 (by have : o = 26 := by simpa [hE.cmp, cmpR] using q
                                       omega)) (fun _ => ?_)
    conv => cbv
    (refine st_fld hE fOp1 fun p hp => ?_; (conv => cbv); refine st_load hE cTrs (by rw [hp]; exact (h33).at _ _ rfl) ?_; clear hp; (conv => cbv))
    refine st_elem hE sTrs (hcl.ext h03) hvl.symm (by omega) (by omega) fun p v hv hp => ?_
    rw [show (1 : Int).toNat = 1 from rfl, hv1] at hv
    cases hv
    conv => cbv
    refine st_load hE cTr hp ?_
    refine st_g hr (kid 1 t1 v1 ht1 hv1 h03 hM3 (by omega) (by omega)) fun _ w4 hcr => ?_
    clear hp
    obtain ⟨P4, pn4, pc4, I4, ic4, vs4, hM4, hC4⟩ := hcr.ms
    obtain ⟨h34, d34⟩ := hC4.own h33 d33
    have h04 := CR.ext0 hb hM3 hC4 h03
    have cst4 := cst3.trans hC4
    obtain ⟨s4, es4⟩ : ∃ x, x = exP t1 s3 := ⟨_, rfl⟩
    rw [← es4] at hM4
    have l4 : s4.ins.length = s3.ins.length + szT t1 ∧ s4.pool.length ≤ s3.pool.length + szT t1 := by rw [es4]; exact exP_len (okTs_at hk3 ht1) s3
    clear hcr hM3 hC4 h33 d33 cst3
    conv => cbv
    obtain ⟨e, he⟩ : ∃ z : Int, z = (s4.ins.length : Int) := ⟨_, rfl⟩
    refine st_g hr (put_s hb hM4 (by omega) 22 0 he) fun _ w5 ⟨ev, hcr⟩ => ?_
    subst ev
    obtain ⟨P5, pn5, pc5, I5, ic5, vs5, hM5, hC5⟩ := hcr.ms
    obtain ⟨h35, d35⟩ := hC5.own h34 d34
    have h05 := CR.ext0 hb hM4 hC5 h04
    have cst5 := cst4.trans hC5
    obtain ⟨s5, es5⟩ : ∃ x, x = putP 22 0 s4 := ⟨_, rfl⟩
    rw [← es5] at hM5
    have l5 : s5.ins.length = s4.ins.length + 1 ∧ s5.pool = s4.pool := by rw [es5]; exact putP_len _ _ _
    clear hcr hM4 hC5 h34 d34 cst4
    have l5p : s5.pool.length = s4.pool.length := by rw [l5.2]
    conv => cbv
    refine st_g hr (mark_s hb hM5 (by omega) hf (by omega)) fun _ w6 hcr => ?_
    obtain ⟨P6, pn6, pc6, I6, ic6, vs6, hM6, hC6⟩ := hcr.ms
    obtain ⟨h36, d36⟩ := hC6.own h35 d35
    have h06 := CR.ext0 hb hM5 hC6 h05
    have cst6 := cst5.trans hC6
    obtain ⟨s6, es6⟩ : ∃ x, x = markP s2.ins.length s5 := ⟨_, rfl⟩
    rw [← es6] at hM6
    have l6 : s6.ins.length = s5.ins.length ∧ s6.pool = s5.pool := by rw [es6]; exact markP_len _ _
    clear hcr hM5 hC6 h35 d35 cst5
    have l6p : s6.pool.length = s5.pool.length := by rw [l6.2]
    conv => cbv
    (refine st_fld hE fOp0 fun p hp => ?_; (conv => cbv); refine st_load hE cInt (by rw [hp]; exact (h36).at _ _ rfl) ?_; clear hp; (conv => cbv))
    refine br (fun q => absurd o27 (by have : o = 25 := by simpa [hE.cmp, cmpR] using q
                                       omega)) (fun _ => ?_)
    conv => cbv
    (refine st_fld hE fOp1 fun p hp => ?_; (conv => cbv); refine st_load hE cTrs (by rw [hp]; exact (h36).at _ _ rfl) ?_; clear hp; (conv => cbv))
    (refine st_fld hE fOp1 fun p hp => ?_; (conv => cbv); refine st_load hE cTrs (by rw [hp]; exact (h36).at _ _ rfl) ?_; clear hp; (conv => cbv))
    refine st_len hE sTrs fun xl hxl => ?_
    obtain ⟨il, hil⟩ : ∃ il : Int, il = 2 := ⟨_, rfl⟩
    have exl : E.ar .sub .i64 xl 1 = il := by rw [hE.ar, show arR .sub .i64 xl 1 = IntKind.i64.wrap (xl - 1) from rfl, wrap_in (by omega) (by omega)]; omega
    conv => cbv
    simp only [exl]
    refine st_elem hE sTrs (hcl.ext h06) hvl.symm (by omega) (by omega) fun p v hv hp => ?_
    rw [show il.toNat = 2 by omega, hv2] at hv
    cases hv
    conv => cbv
    refine st_load hE cTr hp ?_
    refine st_g hr (kid 2 t2 v2 ht2 hv2 h06 hM6 (by omega) (by omega)) fun _ w7 hcr => ?_
    clear hp
    obtain ⟨P7, pn7, pc7, I7, ic7, vs7, hM7, hC7⟩ := hcr.ms
    obtain ⟨h37, d37⟩ := hC7.own h36 d36
    have h07 := CR.ext0 hb hM6 hC7 h06
    have cst7 := cst6.trans hC7
    obtain ⟨s7, es7⟩ : ∃ x, x = exP t2 s6 := ⟨_, rfl⟩
    rw [← es7] at hM7
    have l7 : s7.ins.length = s6.ins.length + szT t2 ∧ s7.pool.length ≤ s6.pool.length + szT t2 := by rw [es7]; exact exP_len (okTs_at hk3 ht2) s6
    clear hcr hM6 hC7 h36 d36 cst6
    conv => cbv
    refine st_g hr (mark_s hb hM7 (by omega) he (by omega)) fun _ w8 hcr => ?_
    obtain ⟨P8, pn8, pc8, I8, ic8, vs8, hM8, hC8⟩ := hcr.ms
    obtain ⟨h38, d38⟩ := hC8.own h37 d37
    have h08 := CR.ext0 hb hM7 hC8 h07
    have cst8 := cst7.trans hC8
    obtain ⟨s8, es8⟩ : ∃ x, x = markP s4.ins.length s7 := ⟨_, rfl⟩
    rw [← es8] at hM8
    have l8 : s8.ins.length = s7.ins.length ∧ s8.pool = s7.pool := by rw [es8]; exact markP_len _ _
    clear hcr hM7 hC8 h37 d37 cst7
    have l8p : s8.pool.length = s7.pool.length := by rw [l8.2]
    conv => cbv
    rw [hR]
    have fin : exP (.op o [t0, t1, t2] at_) s = s8 := by rw [exP]; skip; rw [es8, es7, es6, es5, es4, es3, es2]
    rw [fin]
    exact ⟨P8, pn8, pc8, I8, ic8, vs8, hM8.cm, hM8.eq, cst8⟩
  refine br (fun q => absurd (by simpa [hE.cmp, cmpR] using q) o27) (fun _ => ?_)
  -- DEFAULT
  have ho8 : 8 ≤ o ∧ o ≤ 24 := by unfold kidsF at hk1; (repeat' split at hk1) <;> omega
  have hk12 : kids.length = 1 ∨ kids.length = 2 := by unfold kidsF at hk1; (repeat' split at hk1) <;> omega
  have hdef : exP (.op o kids at_) s = putP (opcO o) 0 (exK (kids.drop 1) s2) := by
    match kids, hk12, ht0 with
    | [a], _, ht0 => simp at ht0; subst ht0; rw [exP, es2]; rfl
    | [a, b], _, ht0 => simp at ht0; subst ht0; rw [exP, if_neg o25, if_neg o26, es2]; rfl
  have hs0 : szTs kids = szT t0 + szTs (kids.drop 1) := by
    have := szTs_drop ht0
    rwa [List.drop_zero] at this
  rw [if_neg (by omega), if_neg o27] at hsz
  conv => cbv
  (refine st_fld hE fOp1 fun p hp => ?_; (conv => cbv); refine st_load hE cTrs (by rw [hp]; exact (h32).at _ _ rfl) ?_; clear hp; (conv => cbv))
  refine st_from hE sTrs hcl (by omega) hm (lo := 1) rfl (by omega) fun A5 c5 hcl5 hc5 => ?_
  rw [Nat.mul_one] at hcl5
  obtain ⟨m5, hm5⟩ : ∃ m5, m5 = m - 1 := ⟨_, rfl⟩
  rw [← hm5]
  conv => cbv
  refine st_len hE sTrs fun x5 hx5 => ?_
  conv => cbv
  obtain ⟨FIN, hFIN⟩ : ∃ F, F = exK (kids.drop 1) s2 := ⟨_, rfl⟩
  rw [← hFIN] at hdef
  refine loop_rule hr (fun (st : Nat × Int × Option Addr × Nat × Nat × Option Addr × Nat × List VV × CS) w' => st.1 ≤ m5 ∧ st.2.1 = (st.1 : Int) ∧ Ext w0 w' ∧ CMs w0.heap.size w' q st.2.2.1 st.2.2.2.1 st.2.2.2.2.1 sl st.2.2.2.2.2.1 st.2.2.2.2.2.2.1 st.2.2.2.2.2.2.2.1 st.2.2.2.2.2.2.2.2 ∧ Box w.heap.size 336 3 w' q3 [.int .i64 o, .slice A m c, .int .i64 at_] ∧ (∀ r ∈ rws q st.2.2.1 st.2.2.2.2.2.1, Dj r (some q3)) ∧
      CSt w (rws q P I) w' (rws q st.2.2.1 st.2.2.2.2.2.1) ∧ exK (kids.drop (1 + st.1)) st.2.2.2.2.2.2.2.2 = FIN ∧ st.2.2.2.2.2.2.2.2.ins.length + szTs (kids.drop (1 + st.1)) ≤ 59999 ∧ st.2.2.2.2.2.2.2.2.pool.length + szTs (kids.drop (1 + st.1)) ≤ 59999)
    (fun st => [(0, .pointer (some q)), (3, .pointer (some q3)), (60, .slice A5 m5 c5), (61, .int .i64 x5), (62, .int .i64 st.2.1)]) (fun st => m5 - st.1) (0, 0, P2, pn2, pc2, I2, ic2, vs2, s2)
    (by simp [Fits, lk]) ⟨by simp, by simp, h02, hM2, h32, d32, cst2, by simpa using hFIN.symm, by simp only; have := l2.1; rw [show 1 + 0 = 1 from rfl]; omega, by simp only; have := l2.2; rw [show 1 + 0 = 1 from rfl]; omega⟩ ?_
  clear hM2 h32 d32 cst2 h02
  rintro I0 hI0 ⟨j, jj, P3, pn3, pc3, I3, ic3, vs3, s3⟩ w' ⟨hj, hjj, h03, hM3, h33, d33, cst3, hF3, b1, b2⟩
  simp only at hj hjj hM3 d33 cst3 hF3 b1 b2
  obtain ⟨jk, hjk⟩ : ∃ z, z = jj + 1 := ⟨_, rfl⟩
  conv => cbv
  refine br (fun g => ?_) (fun g => ?_)
  · have g : j < m5 := by
      have : jj < x5 := by simpa [hE.cmp, cmpR] using g
      omega
    have ej : E.ar .add .i64 jj 1 = jk := by rw [hE.ar, hjk]; exact wrap_in (by omega) (by omega)
    obtain ⟨tj, htj⟩ : ∃ t, kids[1 + j]? = some t := ⟨_, List.getElem?_eq_getElem (by omega)⟩
    obtain ⟨vj, hvj⟩ : ∃ v, xs[1 + j]? = some v := ⟨_, List.getElem?_eq_getElem (by omega)⟩
    rw [drop_cons htj, exK] at hF3
    rw [szTs_drop htj] at b1 b2
    conv => cbv
    refine st_elem hE sTrs (hcl5.ext h03) (by rw [List.length_drop]; omega) (by omega) (by omega) fun p v hv hp => ?_
    rw [show jj.toNat = j by omega, List.getElem?_drop, hvj] at hv
    cases hv
    conv => cbv
    refine st_load hE cTr hp ?_
    conv => cbv
    refine st_g hr (kid (1 + j) tj vj htj hvj h03 hM3 (by omega) (by omega)) fun _ w4 hcr => ?_
    obtain ⟨P4, pn4, pc4, I4, ic4, vs4, hM4, hC4⟩ := hcr.ms
    obtain ⟨h34, d34⟩ := hC4.own h33 d33
    have h04 := CR.ext0 hb hM3 hC4 h03
    obtain ⟨l4, l4p⟩ := exP_len (okTs_at hk3 htj) s3
    conv => cbv
    simp only [ej]
    exact ⟨(j + 1, jk, P4, pn4, pc4, I4, ic4, vs4, exP tj s3), by simp [Fits, lk], hI0 _ _ ⟨by simp only; omega, by simp only; omega, h04, hM4, h34, d34, cst3.trans hC4, hF3, by simp only; rw [l4, show 1 + (j + 1) = 1 + j + 1 by omega]; omega, by simp only; rw [show 1 + (j + 1) = 1 + j + 1 by omega]; omega⟩, by simp only; omega⟩
  · have g : j = m5 := by
      have : ¬ jj < x5 := by simpa [hE.cmp, cmpR] using g
      omega
    rw [List.drop_eq_nil_of_le (by omega), exK] at hF3
    obtain ⟨bm, es, clock, t1, t2, t3, t4, _⟩ := (hT.ext h03).ex
    conv => cbv
    refine st_load hE cMap t1 ?_
    conv => cbv
    (refine st_fld hE fOp0 fun p hp => ?_; (conv => cbv); refine st_load hE cInt (by rw [hp]; exact (h33).at _ _ rfl) ?_; clear hp; (conv => cbv))
    refine st_tab hE Tryz.underlying332 uInt (by kernel_rfl) t2 t3 t4 fun z hz => ?_
    have hzo : z = opcO o := by
      have hin : (o, o - 3) ∈ opF := (opF_iff o (o - 3)).2 ⟨by omega, by omega, by omega⟩
      unfold opcO
      rcases hz with hz | ⟨_, hz⟩
      · have := (opF_iff o z).1 hz; omega
      · exact absurd hin (hz _)
    obtain ⟨f, hf⟩ : ∃ f : Int, f = (s3.ins.length : Int) := ⟨_, rfl⟩
    conv => cbv
    refine st_g hr (put_s hb hM3 (by omega) z 0 hf) fun _ w4 ⟨_, hcr⟩ => ?_
    obtain ⟨P4, pn4, pc4, I4, ic4, vs4, hM4, hC4⟩ := hcr.ms
    conv => cbv
    rw [hR, hdef, ← hF3, ← hzo]
    exact ⟨P4, pn4, pc4, I4, ic4, vs4, hM4.cm, hM4.eq, cst3.trans hC4⟩
set_option maxHeartbeats 4000000 in
theorem expr_g {w0 : World} (hT : Tab w0 5 opF) {q : Addr} (hb : CB w0.heap.size q) : ∀ n, ExC w0 q n := by
  intro n
  induction n with
  | zero => intro t v h; cases t <;> simp [dep] at h
  | succ n ih =>
    intro t v hd ht hok hfew w P pn pc sl I ic vs s h0 hM b1 b2
    refine GC.intro (cs := []) Tryz.func188 (by kernel_rfl) fun E R hE hr hR => ?_
    have fin : ∀ {w1 w2 : World}, Ext w w1 → CR w0.heap.size w1 q P sl I (exP t s) w2 → CR w0.heap.size w q P sl I (exP t s) w2 := fun hx ⟨P', pn', pc', I', ic', vs', k1, k2, k3⟩ => ⟨P', pn', pc', I', ic', vs', k1, k2, (CSt.of_ext hx _).trans k3⟩
    cases t with
    | con k z tx xs at_ =>
      simp only [TreeV] at ht
      obtain ⟨A, m, c, rfl, hst, hin, htx⟩ := ht
      simp only [fewT] at hfew
      have hml := hst.len
      simp only [szT] at b1 b2
      conv => cbv
      refine st_ta hE (taCoCo k z at_ tx A m c) ?_
      conv => cbv
      refine st_alloc hr tCoT rfl fun q4 w1 hx1 hq0 => ?_
      conv => cbv
      refine st_putS hr (by kernel_rfl) (hq0 _ (Nat.le_refl _)) (add_zero _).symm (by simp) (by simp [Value.oneCell']) fun w2 hw2 hq4 => ?_
      simp only [List.take_zero, List.nil_append, List.length_cons, List.length_nil, List.drop_succ_cons, List.drop_nil, List.append_nil] at hq4
      have hx := hx1.then (hw2.bel (hq0 _ (Nat.le_refl _)) hx1.size)
      clear hq0 hw2 hx1
      conv => cbv
      refine st_fld hE fCoT0 fun p hp => ?_
      conv => cbv
      refine st_loadS hE tIV (vs := [.int .i64 k, .int .i64 z, .string tx, .slice A m c]) rfl (fun j u hu => by
        rw [hp, add_add, Nat.zero_add]
        refine hq4.at j u ?_
        have hj := (List.getElem?_eq_some_iff.1 hu).1
        rw [show ([.int .i64 k, .int .i64 z, .string tx, .slice A m c, .int .i64 at_] : List Value) = [.int .i64 k, .int .i64 z, .string tx, .slice A m c] ++ [.int .i64 at_] from rfl, List.getElem?_append_left hj]
        exact hu) ?_
      conv => cbv
      refine st_g hr (push_s hb (hM.ext hx) (by omega) (by omega) (v := ⟨⟨k, z, tx, xs⟩, A, m, c⟩) ⟨(hst.ext h0).ext hx, htx⟩ (by simp only; omega)) fun _ w3 hcr => ?_
      conv => cbv
      rw [hR]
      exact fin hx (by rw [exP]; exact hcr)
    | nam tx at_ => simp only [okT] at hok
    | att z =>
      simp only [TreeV] at ht
      subst ht
      simp only [szT] at b1 b2
      conv => cbv
      refine st_ta hE (taAtCo z) ?_
      conv => cbv
      refine st_ta hE (taAtAt z) ?_
      conv => cbv
      refine st_alloc hr tAtT rfl fun q4 w1 hx1 hq0 => ?_
      conv => cbv
      refine st_putS hr (by kernel_rfl) (hq0 _ (Nat.le_refl _)) (add_zero _).symm (by simp) (by simp [Value.oneCell']) fun w2 hw2 hq4 => ?_
      simp only [List.take_zero, List.nil_append, List.length_cons, List.length_nil, List.drop_succ_cons, List.drop_nil, List.append_nil] at hq4
      have hx := hx1.then (hw2.bel (hq0 _ (Nat.le_refl _)) hx1.size)
      clear hq0 hw2 hx1
      conv => cbv
      (refine st_fld hE fAtT0 fun p hp => ?_; (conv => cbv); refine st_load hE cInt (by rw [hp]; exact (hq4).at _ _ rfl) ?_; clear hp; (conv => cbv))
      obtain ⟨f, hf⟩ : ∃ f : Int, f = (s.ins.length : Int) := ⟨_, rfl⟩
      refine st_g hr (put_s hb (hM.ext hx) (by omega) 2 z hf) fun _ w3 ⟨_, hcr⟩ => ?_
      conv => cbv
      rw [hR]
      exact fin hx (by rw [exP]; exact hcr)
    | lt z =>
      simp only [TreeV] at ht
      subst ht
      simp only [szT] at b1 b2
      conv => cbv
      refine st_ta hE (taLtCo z) ?_
      conv => cbv
      refine st_ta hE (taLtAt z) ?_
      conv => cbv
      refine st_ta hE (taLtLt z) ?_
      conv => cbv
      refine st_alloc hr tLtT rfl fun q4 w1 hx1 hq0 => ?_
      conv => cbv
      refine st_putS hr (by kernel_rfl) (hq0 _ (Nat.le_refl _)) (add_zero _).symm (by simp) (by simp [Value.oneCell']) fun w2 hw2 hq4 => ?_
      simp only [List.take_zero, List.nil_append, List.length_cons, List.length_nil, List.drop_succ_cons, List.drop_nil, List.append_nil] at hq4
      have hx := hx1.then (hw2.bel (hq0 _ (Nat.le_refl _)) hx1.size)
      clear hq0 hw2 hx1
      conv => cbv
      (refine st_fld hE fLtT0 fun p hp => ?_; (conv => cbv); refine st_load hE cInt (by rw [hp]; exact (hq4).at _ _ rfl) ?_; clear hp; (conv => cbv))
      obtain ⟨f, hf⟩ : ∃ f : Int, f = (s.ins.length : Int) := ⟨_, rfl⟩
      refine st_g hr (put_s hb (hM.ext hx) (by omega) 3 z hf) fun _ w3 ⟨_, hcr⟩ => ?_
      conv => cbv
      rw [hR]
      exact fin hx (by rw [exP]; exact hcr)
    | op o kids at_ =>
      simp only [TreeV] at ht
      obtain ⟨A, m, c, xs, rfl, h1, h2, h3, h4, h5, h6⟩ := ht
      simp only [fewT] at hfew
      simp only [dep] at hd
      conv => cbv
      refine st_ta hE (taOpCo o at_ A m c) ?_
      conv => cbv
      refine st_ta hE (taOpAt o at_ A m c) ?_
      conv => cbv
      refine st_ta hE (taOpLt o at_ A m c) ?_
      conv => cbv
      refine st_ta hE (taOpOp o at_ A m c) ?_
      conv => cbv
      refine st_alloc hr tOpT rfl fun q4 w1 hx1 hq0 => ?_
      conv => cbv
      refine st_putS hr (by kernel_rfl) (hq0 _ (Nat.le_refl _)) (add_zero _).symm (by simp) (by simp [Value.oneCell']) fun w2 hw2 hq4 => ?_
      simp only [List.take_zero, List.nil_append, List.length_cons, List.length_nil, List.drop_succ_cons, List.drop_nil, List.append_nil] at hq4
      have hx := hx1.then (hw2.bel (hq0 _ (Nat.le_refl _)) hx1.size)
      clear hq0 hw2 hx1
      conv => cbv
      refine st_loadS hE tOpT rfl hq4.at ?_
      conv => cbv
      refine st_g hr (operator_g hT hb ih (by omega) h1 h2 h4 h6 hok hfew (h0.trans hx) (hM.ext hx) b1 b2) fun _ w3 hcr => ?_
      conv => cbv
      rw [hR]
      exact fin hx hcr
end Go.Proofs.YtgdnmpcaiaoaoaaGreatDoor
/- The reference's trees (spec.l4tree) in memory; spec.l4of walked. -/
namespace Go.Proofs.YtgdnmpcaiaoaoaaGreatDoor
open Go.Eng
set_option linter.unusedVariables false
set_option linter.unusedSimpArgs false
/-- Five cells. -/
structure C5 where
  a : Value
  b : Value
  c : Value
  d : Value
  e : Value
def c5 (v : C5) : List Value := [v.a, v.b, v.c, v.d, v.e]
theorem c5_len (v : C5) : (c5 v).length = 5 := rfl
/-- The operator of a constant by its type. -/
def opK (k : Int) : Int := if k = 2 then 1 else if k = 3 then 2 else if k = 1 then 3 else 4
mutual
/-- The reference's tree: operator, number, text, names, kids. -/
def L4V (D : Nat → Prop) (w : World) : Tr → C5 → Prop
  | .con k n tx xs _, v => ∃ A m c B d, v = ⟨.int .i64 (opK k), .int .i64 n, .string tx, .slice A m c, .slice B 0 d⟩ ∧ Strs w A m c xs ∧ InD D A m ∧ tx.size ≤ 9223372036854775807
  | .att n, v => ∃ A c B d, v = ⟨.int .i64 6, .int .i64 n, .string ⟨#[]⟩, .slice A 0 c, .slice B 0 d⟩
  | .lt n, v => ∃ A c B d, v = ⟨.int .i64 7, .int .i64 n, .string ⟨#[]⟩, .slice A 0 c, .slice B 0 d⟩
  | .op o kids _, v => ∃ A c B m d vs, v = ⟨.int .i64 o, .int .i64 0, .string ⟨#[]⟩, .slice A 0 c, .slice B m d⟩ ∧ vs.length = m ∧ m ≤ d ∧ m ≤ 3 ∧ Cells w B (vs.flatMap c5) ∧ InD D B m ∧ L4Vs D w kids vs
  | .nam _ _, _ => False
def L4Vs (D : Nat → Prop) (w : World) : List Tr → List C5 → Prop
  | [], [] => True
  | t :: ts, v :: vs => L4V D w t v ∧ L4Vs D w ts vs
  | _, _ => False
end
theorem L4Vs.len {D : Nat → Prop} {w : World} : ∀ {ts : List Tr} {vs : List C5}, L4Vs D w ts vs → ts.length = vs.length
  | [], [], _ => rfl
  | t :: ts, v :: vs, h => by simp only [L4Vs] at h; simp [L4Vs.len h.2]
  | [], _ :: _, h => by simp only [L4Vs] at h
  | _ :: _, [], h => by simp only [L4Vs] at h
theorem L4Vs.get {D : Nat → Prop} {w : World} : ∀ {ts : List Tr} {vs : List C5}, L4Vs D w ts vs → ∀ (i : Nat) (t : Tr) (v : C5), ts[i]? = some t → vs[i]? = some v → L4V D w t v
  | t :: ts, v :: vs, h, 0, t', v', h1, h2 => by simp at h1 h2; subst h1; subst h2; simp only [L4Vs] at h; exact h.1
  | t :: ts, v :: vs, h, i + 1, t', v', h1, h2 => by simp only [L4Vs] at h; exact L4Vs.get h.2 i t' v' (by simpa using h1) (by simpa using h2)
  | [], [], _, i, t, v, h1, _ => by simp at h1
  | [], _ :: _, h, _, _, _, _, _ => by simp only [L4Vs] at h
  | _ :: _, [], h, _, _, _, _, _ => by simp only [L4Vs] at h
theorem L4Vs.of_get {D : Nat → Prop} {w : World} : ∀ {ts : List Tr} {vs : List C5}, ts.length = vs.length → (∀ (i : Nat) (t : Tr) (v : C5), ts[i]? = some t → vs[i]? = some v → L4V D w t v) → L4Vs D w ts vs
  | [], [], _, _ => by simp only [L4Vs]
  | t :: ts, v :: vs, h, hq => by
    simp only [L4Vs]
    exact ⟨hq 0 t v rfl rfl, L4Vs.of_get (by simpa using h) fun i t v h1 h2 => hq (i + 1) t v (by simpa using h1) (by simpa using h2)⟩
  | [], _ :: _, h, _ => by simp at h
  | _ :: _, [], h, _ => by simp at h
theorem L4Vs.snoc {D : Nat → Prop} {w : World} : ∀ {ts : List Tr} {vs : List C5} {t : Tr} {v : C5}, L4Vs D w ts vs → L4V D w t v → L4Vs D w (ts ++ [t]) (vs ++ [v])
  | [], [], t, v, _, h => by simp only [List.nil_append, L4Vs]; exact ⟨h, trivial⟩
  | u :: ts, x :: vs, t, v, h, h2 => by simp only [List.cons_append, L4Vs] at h ⊢; exact ⟨h.1, L4Vs.snoc h.2 h2⟩
  | [], _ :: _, _, _, h, _ => by simp only [L4Vs] at h
  | _ :: _, [], _, _, h, _ => by simp only [L4Vs] at h
theorem L4V.one {D : Nat → Prop} {w : World} {t : Tr} {v : C5} (h : L4V D w t v) : ∀ x ∈ c5 v, x.oneCell' = true := by
  cases t <;> simp only [L4V] at h
  · obtain ⟨A, m, c, B, d, rfl, _⟩ := h; simp [c5, Value.oneCell']
  · obtain ⟨A, c, B, d, rfl⟩ := h; simp [c5, Value.oneCell']
  · obtain ⟨A, c, B, d, rfl⟩ := h; simp [c5, Value.oneCell']
  · obtain ⟨A, c, B, m, d, vs, rfl, _⟩ := h; simp [c5, Value.oneCell']
mutual
theorem L4V.keep {D D' : Nat → Prop} {w w' : World} (hk : Keeps D w w') (hD : ∀ b, D b → D' b) : ∀ (t : Tr) (v : C5), L4V D w t v → L4V D' w' t v
  | .con k n tx xs at_, v, h => by
    simp only [L4V] at h ⊢
    obtain ⟨A, m, c, B, d, e, h1, h2, h3⟩ := h
    exact ⟨A, m, c, B, d, e, strs_keep h1 h2 hk, fun a ha hm => hD _ (h2 a ha hm), h3⟩
  | .nam tx at_, v, h => by simp only [L4V] at h
  | .att n, v, h => by simp only [L4V] at h ⊢; exact h
  | .lt n, v, h => by simp only [L4V] at h ⊢; exact h
  | .op o kids at_, v, h => by
    simp only [L4V] at h ⊢
    obtain ⟨A, c, B, m, d, vs, e, h1, h2, h3, h4, h5, h6⟩ := h
    refine ⟨A, c, B, m, d, vs, e, h1, h2, h3, cells_keep h4 (fun a ha hm => h5 a ha ?_) hk, fun a ha hm => hD _ (h5 a ha hm), L4Vs.keep hk hD kids vs h6⟩
    rw [fl_len c5_len] at hm; omega
theorem L4Vs.keep {D D' : Nat → Prop} {w w' : World} (hk : Keeps D w w') (hD : ∀ b, D b → D' b) : ∀ (ts : List Tr) (vs : List C5), L4Vs D w ts vs → L4Vs D' w' ts vs
  | [], [], _ => by simp only [L4Vs]
  | t :: ts, v :: vs, h => by simp only [L4Vs] at h ⊢; exact ⟨L4V.keep hk hD t v h.1, L4Vs.keep hk hD ts vs h.2⟩
  | [], _ :: _, h => by simp only [L4Vs] at h
  | _ :: _, [], h => by simp only [L4Vs] at h
end
theorem L4V.ext {D : Nat → Prop} {w w' : World} {t : Tr} {v : C5} (h : L4V D w t v) (hD : ∀ b, D b → b < w.heap.size) (hx : Ext w w') : L4V D w' t v := h.keep (fun b hb => hx.block b (hD b hb)) (fun _ h => h)
theorem knd_opK {o : Int} (h : 1 ≤ o ∧ o ≤ 4) : opK (knd o) = o := by
  have : o = 1 ∨ o = 2 ∨ o = 3 ∨ o = 4 := by omega
  rcases this with rfl | rfl | rfl | rfl <;> rfl
def zL4 : List Value := [.int .i64 0, .int .i64 0, .string ⟨#[]⟩, .slice none 0 0, .slice none 0 0]
theorem tL4 : Stc Tryz.prog 121 5 zL4 := ⟨by kernel_rfl, by kernel_rfl⟩
theorem sL4 : Slc Tryz.prog 119 121 (.agg ⟨zL4⟩) 5 80 := ⟨Tryz.underlying119, by kernel_rfl⟩
theorem fL40 : Fld Tryz.prog 121 0 0 := ⟨by kernel_rfl⟩
theorem fL41 : Fld Tryz.prog 121 1 1 := ⟨by kernel_rfl⟩
theorem fL42 : Fld Tryz.prog 121 2 2 := ⟨by kernel_rfl⟩
theorem fL43 : Fld Tryz.prog 121 3 3 := ⟨by kernel_rfl⟩
theorem fL44 : Fld Tryz.prog 121 4 4 := ⟨by kernel_rfl⟩
theorem cL4s : Cel Tryz.prog 119 := ⟨_, Tryz.underlying119, by simp, by simp⟩
theorem zL4s : (Tryz.prog.info? 119).map (·.size) = some 1 := by kernel_rfl
section
variable {E : Sym} {w : World} {K : Value → World → Prop} {d : Option Tmp} {ty : TypeId} {pos : String} {aft : Array Edge} {g : Option (Nat × Bool)} {bq : Bool}
theorem run_bL4 (o z : Int) (s : ByteArray) (A : Option Addr) (m c : Nat) (w : World) : (Instr.build 121 #[(0, .int .i64 o), (1, .int .i64 z), (2, .string s), (3, .slice A m c)]).run Tryz.prog w = .ok (.agg #[.int .i64 o, .int .i64 z, .string s, .slice A m c, .slice none 0 0]) w := by kernel_rfl
theorem st_bL4 (hE : EngB bq Tryz.prog E) {o z : Int} {s : ByteArray} {A : Option Addr} {m c : Nat} {x1 x2 x3 x4 : Operand} (hk : K (.agg ⟨[.int .i64 o, .int .i64 z, .string s, .slice A m c, .slice none 0 0]⟩) w) : E.stop ⟨d, .build 121 ⟨[(0, x1), (1, x2), (2, x3), (3, x4)]⟩, ty, pos, aft, g⟩ [.int .i64 o, .int .i64 z, .string s, .slice A m c] w K := by
  refine hE.det (v := .agg ⟨[.int .i64 o, .int .i64 z, .string s, .slice A m c, .slice none 0 0]⟩) (fun w1 _ ρ hρ => ?_) hk
  simp only [opnds, List.map_cons, List.map_nil, List.cons.injEq, and_true] at hρ
  have := run_bL4 o z s A m c w1
  simp [execOp, hρ, this]
end
/-- Old blocks, and those that have come since. -/
def DB (w0s ws : Nat) (w : World) (b : Nat) : Prop := b < w0s ∨ (ws ≤ b ∧ b < w.heap.size)
theorem db_lt {w0s ws : Nat} {w : World} (h : w0s ≤ w.heap.size) {b : Nat} (hb : DB w0s ws w b) : b < w.heap.size := by rcases hb with hb | hb <;> omega
set_option maxHeartbeats 8000000 in
theorem l4of_f {w0 : World} {AN : Option Addr} {N cN' : Nat} {nv : List PN} (hN : RNs w0 AN N nv) (hNb : N ≤ 4000) (hF : ∀ p ∈ nv, fieldsP true p) : ∀ (k : Nat) (a b : Nat) (t : Tr), IsTs nv a b [(k : Int)] [t] → ∀ (w : World), Ext w0 w →
    FC Tryz.prog 68 [.slice AN N cN', .int .i64 (k : Int)] w fun v w' => ∃ cv, v = .agg ⟨c5 cv⟩ ∧ L4V (DB w0.heap.size w.heap.size w') w' t cv := by
  intro k
  induction k using Nat.strongRecOn with
  | _ k ih =>
    intro a b t ht w hx0
    refine FC.intro (cs := []) Tryz.func68 (by kernel_rfl) fun E R hE hr hR => ?_
    have hNl := hN.len
    obtain ⟨_, p, kids, hkn, _, hpk, hpl, hks, et⟩ := ht.one
    have hkn : k = _ := Int.ofNat.inj hkn
    subst hkn
    have et : t = mkT p k kids := by simpa using et
    have hkl := (List.getElem?_eq_some_iff.1 hpk).1
    have hfp := (hF p (List.mem_of_getElem? hpk)).2
    obtain ⟨aN, v, hA, hg, hc, hok⟩ := hN.get (i := k) (by omega)
    rw [hpk] at hg
    have hg : p = v.p := Option.some.inj hg
    obtain ⟨⟨o, z, tx, xs, ks⟩, A0, m0, c0, A1, m1, c1⟩ := v
    simp only at hg
    subst hg
    obtain ⟨kk, hkk⟩ : ∃ kk : Int, kk = k := ⟨_, rfl⟩
    rw [← hkk]
    have r_ks := hok.r_ks
    have r_xs := hok.r_xs
    have s_tx := hok.s_tx
    simp only at r_ks r_xs s_tx hpl hks hfp
    have hksl := r_ks.len
    have hxsl := r_xs.len
    have hkdl := hks.len
    have h0s := hx0.size
    have hm3 : m1 ≤ 3 := by have := kidsF_le o; omega
    conv => cbv
    refine st_alloc hr tL4 rfl fun q4 w1 hx1 hq0 => ?_
    have hq4 := hq0 _ (Nat.le_refl _)
    have f4 := bx_form hq4
    clear hq0
    conv => cbv
    refine st_idx hE sINd hA (by omega) (by omega) fun q hq => ?_
    rw [show kk.toNat = k by omega] at hq
    conv => cbv
    refine st_loadS hE tINd (vs := [.int .i64 o, .int .i64 z, .string tx, .slice A0 m0 c0, .slice A1 m1 c1]) rfl (by rw [hq]; exact fun j u hu => hx1.cell (hx0.cell (hc j u hu))) ?_
    conv => cbv
    refine st_alloc hr tINd rfl fun q5 w2 hx2 hq0 => ?_
    conv => cbv
    refine st_putS hr (by kernel_rfl) (hq0 _ (Nat.le_refl _)) (add_zero _).symm (by simp) (by simp [Value.oneCell']) fun w3 hw3 hq5 => ?_
    simp only [List.take_zero, List.nil_append, List.length_cons, List.length_nil, List.drop_succ_cons, List.drop_nil, List.append_nil] at hq5
    have hx3 := hx2.then (hw3.bel (hq0 _ (Nat.le_refl _)) hx2.size)
    have f5 := bx_form hq5
    have hq4 := hq4.bel hx3
    have hx := hx1.trans hx3
    clear hq0 hw3 hx2 hq hc hA
    conv => cbv
    (refine st_fld hE fINd0 fun p hp => ?_; (conv => cbv); refine st_load hE cInt (by rw [hp]; exact (hq5).at _ _ rfl) ?_; clear hp; (conv => cbv))
    (refine st_fld hE fINd1 fun p hp => ?_; (conv => cbv); refine st_load hE cI64 (by rw [hp]; exact (hq5).at _ _ rfl) ?_; clear hp; (conv => cbv))
    (refine st_fld hE fINd2 fun p hp => ?_; (conv => cbv); refine st_load hE cStr (by rw [hp]; exact (hq5).at _ _ rfl) ?_; clear hp; (conv => cbv))
    (refine st_fld hE fINd3 fun p hp => ?_; (conv => cbv); refine st_load hE cStrs (by rw [hp]; exact (hq5).at _ _ rfl) ?_; clear hp; (conv => cbv))
    refine st_bL4 hE ?_
    conv => cbv
    refine st_alloc hr tL4 rfl fun q6 w4 hx4 hq0 => ?_
    conv => cbv
    refine st_putS hr (by kernel_rfl) (hq0 _ (Nat.le_refl _)) (add_zero _).symm (by simp [zL4]) (by simp [Value.oneCell']) fun w5 hw5 hq6 => ?_
    simp only [zL4, List.take_zero, List.nil_append, List.length_cons, List.length_nil, List.drop_succ_cons, List.drop_nil, List.append_nil] at hq6
    have hx5 := hx4.then (hw5.bel (hq0 _ (Nat.le_refl _)) hx4.size)
    have f6 := bx_form hq6
    replace hq4 := hq4.bel hx5
    replace hq5 := hq5.bel hx5
    have s1 := hx1.size
    have s3 := hx3.size
    replace hx := hx.trans hx5
    have s5 := hx5.size
    have s4 := hx4.size
    clear hq0 hw5 hx4
    conv => cbv
    (refine st_fld hE fINd4 fun p hp => ?_; (conv => cbv); refine st_load hE cInts (by rw [hp]; exact (hq5).at _ _ rfl) ?_; clear hp; (conv => cbv))
    refine st_len hE tInts fun x5 hx5' => ?_
    conv => cbv
    have e6 := f6.2.2
    have hw5s : w0.heap.size ≤ w5.heap.size := by omega
    refine loop_rulec [] hr (fun (s : Nat × Int × Option Addr × Nat × List C5) w' => s.1 ≤ m1 ∧ s.2.1 = (s.1 : Int) ∧ (Ext w w' ∧ w5.heap.size ≤ w'.heap.size ∧ Box w.heap.size 121 5 w' q4 zL4) ∧ Box w3.heap.size 121 5 w' q6 [.int .i64 o, .int .i64 z, .string tx, .slice A0 m0 c0, .slice s.2.2.1 s.1 s.2.2.2.1] ∧
        Own w5.heap.size 121 5 w' s.2.2.1 s.1 s.2.2.2.1 (s.2.2.2.2.flatMap c5) ∧ L4Vs (fun b => DB w0.heap.size w5.heap.size w' b ∧ blk s.2.2.1 ≠ some b) w' (kids.take s.1) s.2.2.2.2)
      (fun s => [(0, .slice AN N cN'), (4, .pointer (some q4)), (5, .pointer (some q5)), (6, .pointer (some q6)), (23, .slice A1 m1 c1), (24, .int .i64 x5), (25, .int .i64 s.2.1)]) (fun s => m1 - s.1) (0, 0, none, 0, [])
      (by simp [Fits, lk]) ⟨by simp, by simp, ⟨hx, Nat.le_refl _, hq4⟩, hq6, Own.nil, by simp only [List.take_zero, L4Vs]⟩ ?_
    clear hq4 hq5 hq6 hx
    rintro I hI ⟨j, jj, B, d, css⟩ w' ⟨hj, hjj, ⟨hxw, hs', hq4⟩, hb6, ho, hcs⟩
    simp only at hj hjj hb6 ho hcs
    obtain ⟨jk, hjk⟩ : ∃ z, z = jj + 1 := ⟨_, rfl⟩
    have hol := ho.len
    rw [fl_len c5_len] at hol
    have hx' := hx0.trans hxw
    have e4 := f4.2.2
    conv => cbv
    refine br (fun g4 => ?_) (fun g4 => ?_)
    · have g4 : j < m1 := by
        have : jj < x5 := by simpa [hE.cmp, cmpR] using g4
        omega
      have ej : E.ar .add .i64 jj 1 = jk := by rw [hE.ar, hjk]; exact wrap_in (by omega) (by omega)
      conv => cbv
      refine st_int hE tInts (r_ks.ext hx') (k := j) hjj g4 fun p1 u hu hp1 => ?_
      conv => cbv
      refine st_load hE cInt hp1 ?_
      conv => cbv
      refine draw_t [0, 1, 2, 3] [(4, true), (5, true), (6, false), (7, false), (8, false)] hr fol (by kernel_rfl) fun E' hE' w6 hs6 S hS => ?_
      have hb66 := hb6.bel hs6.ext
      have ho6 := ho.bel hs6.ext
      conv => cbv
      (refine st_fld hE' fL44 fun p hp => ?_; (conv => cbv); refine st_load hE' cL4s (by rw [hp]; exact (hb66).at _ _ rfl) ?_; clear hp; (conv => cbv))
      obtain ⟨t', a', b', ht', hI'⟩ := hks.at hu
      have hur := hks.roots u (List.mem_of_getElem? hu)
      obtain ⟨un, hun⟩ : ∃ un : Nat, u = (un : Int) := ⟨u.toNat, by omega⟩
      have hrec := ih un (by omega) a' b' t' (by rw [← hun]; exact hI') w6 (hx'.trans hs6.ext)
      rw [← hun] at hrec
      refine st_f hr hrec fun v w7 hx7 ⟨cv, ev, hcv⟩ => ?_
      subst ev
      have hone := hcv.one
      obtain ⟨va, vb, vc, vd, ve⟩ := cv
      refine ⟨hS _ hx7, ?_⟩
      conv => cbv
      refine st_oneS hr sL4 rfl (by omega) (by omega) rfl fun A7 w8 hx8 hc8 => ?_
      refine ⟨hS _ (hx7.trans hx8), ?_⟩
      have hx68 := hx7.trans hx8
      have ho8 := ho6.bel hx68
      have hb8 := hb66.bel hx68
      have s6 := hs6.ext.size
      have s7 := hx7.size
      have s8 := hx8.size
      have hx08 := (hx'.trans hs6.ext).trans hx68
      conv => cbv
      refine st_appsKG hr sL4 rfl (by omega) ho8 hc8 rfl (by omega) hone (by omega) (by omega) (by omega) fun A8 c8 m8 w9 hm8 hw9 ho9 hbk => ?_
      subst hm8
      have hgro : Gro w8 B w9 A8 := ⟨hw9, hbk.imp id fun e => ⟨_, e, Nat.le_refl _⟩⟩
      have hb9 := hb8.wr hw9 (own_low ho8 (by omega) e6).2
      have s9 := hw9.size
      conv => cbv
      refine st_fld hE fL44 fun p3 hp3 => ?_
      conv => cbv
      refine st_put hr zL4s hb9 hp3 (by simp) rfl fun w10 hw10 hb10 => ?_
      simp only [List.set_cons_zero, List.set_cons_succ] at hb10
      have s10 := hw10.size
      have hq49 := (((hq4.bel hs6.ext).bel hx68).wr hw9 (own_low ho8 (by omega) e4).2).wr hw10 (bx_apart e4 e6 (by omega))
      have hx9 : Ext w w9 := ((hxw.trans hs6.ext).trans hx68).then (RowKit.Below.mono (hw9.bel ho8 (by omega)) (by omega))
      have hx10 : Ext w w10 := hx9.then ⟨hw10.os, hw10.tape, hw10.output, hw10.size, fun i h1 => hw10.block i (by omega) (by rw [e6]; intro q; cases q; omega)⟩
      conv => cbv
      simp only [ej]
      have kpB : ∀ b, b < w8.heap.size → blk B ≠ some b → b ≠ q6.block → w10.heap[b]? = w8.heap[b]? := fun b h1 h2 h3 => by
        rw [hw10.block b (by omega) (by rw [e6]; intro q; cases q; exact h3 rfl), hw9.block b h1 (Ne.symm h2)]
      have hA8 : ∀ b, b < w8.heap.size → blk B ≠ some b → blk A8 ≠ some b := fun b hb1 hb2 q1 => by
        rcases hgro.at_ with q2 | ⟨b', q2, q3⟩
        · exact hb2 (by rw [← q2, q1])
        · rw [q2] at q1; cases q1; omega
      have hB8 : ∀ b, blk B = some b → w5.heap.size ≤ b ∧ b < w6.heap.size := fun b hb1 => own_blk ho6 b hb1
      refine ⟨(j + 1, jk, A8, c8, css ++ [⟨va, vb, vc, vd, ve⟩]), by simp [Fits, lk], hI _ _ ⟨by simp only; omega, by simp only; omega, ⟨hx10, by omega, hq49⟩, hb10, ?_, ?_⟩, by simp only; omega⟩
      · simp only
        rw [List.flatMap_append]
        exact ho9.wr hw10 (own_low ho9 (by omega) e6).1
      · simp only
        have htk : kids.take (j + 1) = kids.take j ++ [t'] := by rw [List.take_add_one, ht']; rfl
        rw [htk]
        refine (L4Vs.keep (fun b hb1 => ?_) (fun b hb1 => ?_) _ _ hcs).snoc (L4V.keep (fun b hb1 => ?_) (fun b hb1 => ?_) _ _ hcv)
        · have hlt := db_lt (by omega) hb1.1
          rw [kpB b (by omega) hb1.2 (by rcases hb1.1 with q | q <;> omega), hx68.block b (by omega), hs6.ext.block b hlt]
        · have hlt := db_lt (by omega) hb1.1
          refine ⟨?_, hA8 b (by omega) hb1.2⟩
          rcases hb1.1 with q | q
          · exact .inl q
          · exact .inr ⟨q.1, by omega⟩
        · have hlt := db_lt (by omega) hb1
          have hn : blk B ≠ some b := fun q => by
            have := hB8 b q
            rcases hb1 with q | q <;> omega
          rw [kpB b (by omega) hn (by rcases hb1 with q | q <;> omega), hx8.block b hlt]
        · have hlt := db_lt (by omega) hb1
          have hn : blk B ≠ some b := fun q => by
            have := hB8 b q
            rcases hb1 with q | q <;> omega
          refine ⟨?_, hA8 b (by omega) hn⟩
          rcases hb1 with q | q
          · exact .inl q
          · exact .inr ⟨by omega, by omega⟩
    · have g4 : j = m1 := by
        have : ¬ jj < x5 := by simpa [hE.cmp, cmpR] using g4
        omega
      subst g4
      rw [List.take_of_length_le (by omega)] at hcs
      have hcl := hcs.len
      conv => cbv
      refine st_loadS hE tL4 rfl hb6.at ?_
      conv => cbv
      refine st_putS hr (by kernel_rfl) hq4 (add_zero _).symm (by simp [zL4]) (by simp [Value.oneCell']) fun w6 hw6 hq6 => ?_
      simp only [zL4, List.take_zero, List.nil_append, List.length_cons, List.length_nil, List.drop_succ_cons, List.drop_nil, List.append_nil] at hq6
      conv => cbv
      refine st_cell hr tL4 rfl hq6.at ?_
      have s6 := hw6.size
      have hx6 : Ext w w6 := hxw.then (hw6.bel hq4 (by omega))
      rw [hR]
      refine ⟨hx6, ⟨.int .i64 o, .int .i64 z, .string tx, .slice A0 m0 c0, .slice B j d⟩, rfl, ?_⟩
      have hD0 : ∀ b, b < w0.heap.size → DB w0.heap.size w.heap.size w6 b := fun b hb1 => .inl hb1
      have r_xs6 : Strs w6 A0 m0 c0 xs := (r_xs.ext hx0).ext hx6
      have hin : InD (DB w0.heap.size w.heap.size w6) A0 m0 := fun a ha hm => hD0 _ (strs_low r_xs (D := fun b => b < w0.heap.size) (fun b h => h) a ha hm)
      rw [et]
      unfold mkT
      simp only
      by_cases h0 : kidsF o = 0
      · have ho7 : 1 ≤ o ∧ o ≤ 7 := by unfold kidsF at h0; (repeat' split at h0) <;> omega
        have hj0 : j = 0 := by omega
        subst hj0
        rw [if_pos h0]
        unfold leafF
        simp only
        by_cases h5 : o = 5
        · rw [if_neg (by omega), if_neg (by omega), if_neg (by omega), if_pos h5] at hfp
          exact absurd hfp.1 (by simp)
        · rw [if_neg h5]
          by_cases h6 : o = 6
          · rw [if_pos h6]
            rw [if_neg (by omega), if_neg (by omega), if_neg (by omega), if_neg (by omega), if_neg (by omega), if_pos h6] at hfp
            obtain ⟨_, _, _, rfl, rfl⟩ := hfp
            simp at hxsl
            subst hxsl; subst h6
            simp only [L4V]
            exact ⟨_, _, _, _, rfl⟩
          · rw [if_neg h6]
            by_cases h7 : o = 7
            · rw [if_pos h7]
              rw [if_neg (by omega), if_neg (by omega), if_neg (by omega), if_neg (by omega), if_neg (by omega), if_neg (by omega), if_pos h7] at hfp
              obtain ⟨_, _, _, rfl, rfl⟩ := hfp
              simp at hxsl
              subst hxsl; subst h7
              simp only [L4V]
              exact ⟨_, _, _, _, rfl⟩
            · rw [if_neg h7]
              simp only [L4V]
              exact ⟨A0, m0, c0, B, d, by rw [knd_opK (by omega)], r_xs6, hin, s_tx⟩
      · rw [if_neg h0]
        have ho8 : ¬ (1 ≤ o ∧ o ≤ 7) := fun q => h0 (by unfold kidsF; rw [if_pos q])
        rw [if_neg (by omega), if_neg (by omega), if_neg (by omega), if_neg (by omega), if_neg (by omega), if_neg (by omega), if_neg (by omega)] at hfp
        obtain ⟨rfl, rfl, rfl⟩ := hfp
        simp at hxsl
        subst hxsl
        simp only [L4V]
        have hDj : ∀ b, DB w0.heap.size w5.heap.size w' b → w6.heap[b]? = w'.heap[b]? := fun b hb1 => by
          have hlt := db_lt (by omega) hb1
          exact hw6.block b hlt (by rw [e4]; intro q; cases q; rcases hb1 with q | q <;> omega)
        refine ⟨A0, c0, B, j, d, css, rfl, by omega, ho.cap, by omega, ?_, fun a ha hm => ?_, L4Vs.keep (fun b hb1 => hDj b hb1.1) (fun b hb1 => ?_) _ _ hcs⟩
        · exact (ho.wr hw6 (own_low ho (by omega) e4).1).cells
        · obtain rfl | ⟨g, rfl, k1, k2⟩ := ho.blk
          · cases ha
          · cases ha; exact .inr ⟨by simp only; omega, by simp only; omega⟩
        · rcases hb1.1 with q | q
          · exact .inl q
          · exact .inr ⟨by omega, by omega⟩
end Go.Proofs.YtgdnmpcaiaoaoaaGreatDoor
/- Safe: the program's and the reference's walks over trees; the program's treesOf. -/
namespace Go.Proofs.YtgdnmpcaiaoaoaaGreatDoor
open Go.Eng
set_option linter.unusedVariables false
set_option linter.unusedSimpArgs false
/-- Operators that may go wrong. -/
def riskO (o : Int) : Prop := o = 8 ∨ (11 ≤ o ∧ o ≤ 16)
instance (o : Int) : Decidable (riskO o) := inferInstanceAs (Decidable (o = 8 ∨ (11 ≤ o ∧ o ≤ 16)))
mutual
def safeT : Tr → Bool
  | .op o kids _ => if riskO o then false else safeTs kids
  | _ => true
def safeTs : List Tr → Bool
  | [] => true
  | t :: l => safeT t && safeTs l
end
/-! ### The reference's safe -/
/-- The cells of a reference's tree. -/
theorem L4V.view {D : Nat → Prop} {w : World} {t : Tr} {v : C5} (h : L4V D w t v) : ∃ (o z : Int) (tx : ByteArray) (A : Option Addr) (m c : Nat) (B : Option Addr) (k d : Nat) (kids : List Tr) (vs : List C5), v = ⟨.int .i64 o, .int .i64 z, .string tx, .slice A m c, .slice B k d⟩ ∧ vs.length = k ∧ k ≤ 3 ∧ Cells w B (vs.flatMap c5) ∧ InD D B k ∧ L4Vs D w kids vs ∧ ((∃ at_, t = .op o kids at_) ∨ (kids = [] ∧ k = 0 ∧ 1 ≤ o ∧ o ≤ 7 ∧ ∀ o' kids' at_, t ≠ .op o' kids' at_)) := by
  have nil : ∀ {B : Option Addr}, Cells w B (([] : List C5).flatMap c5) ∧ InD D B 0 ∧ L4Vs D w [] [] := fun {B} => ⟨⟨by simp, by simp⟩, (fun a ha hm => by omega), by simp only [L4Vs]⟩
  cases t <;> simp only [L4V] at h
  · obtain ⟨A, m, c, B, d, rfl, _⟩ := h
    exact ⟨_, _, _, A, m, c, B, 0, d, [], [], rfl, rfl, by omega, (nil (B := B)).1, (nil (B := B)).2.1, (nil (B := B)).2.2, .inr ⟨rfl, rfl, by unfold opK; (repeat' split) <;> omega, by unfold opK; (repeat' split) <;> omega, by simp⟩⟩
  · obtain ⟨A, c, B, d, rfl⟩ := h
    exact ⟨_, _, _, A, 0, c, B, 0, d, [], [], rfl, rfl, by omega, (nil (B := B)).1, (nil (B := B)).2.1, (nil (B := B)).2.2, .inr ⟨rfl, rfl, by omega, by omega, by simp⟩⟩
  · obtain ⟨A, c, B, d, rfl⟩ := h
    exact ⟨_, _, _, A, 0, c, B, 0, d, [], [], rfl, rfl, by omega, (nil (B := B)).1, (nil (B := B)).2.1, (nil (B := B)).2.2, .inr ⟨rfl, rfl, by omega, by omega, by simp⟩⟩
  · rename_i o kids at_
    obtain ⟨A, c, B, m, d, vs, rfl, h1, h2, h3, h4, h5, h6⟩ := h
    exact ⟨o, 0, _, A, 0, c, B, m, d, kids, vs, rfl, h1, h3, h4, h5, h6, .inl ⟨at_, rfl⟩⟩
end Go.Proofs.YtgdnmpcaiaoaoaaGreatDoor
/- The program's treesOf walked: the trees of all nodes, in their order. -/
namespace Go.Proofs.YtgdnmpcaiaoaoaaGreatDoor
open Go.Eng
set_option linter.unusedVariables false
set_option linter.unusedSimpArgs false
section
variable {P : Program} {E : Sym} {w : World} {K : Value → World → Prop} {d : Option Tmp} {ty : TypeId} {pos : String} {aft : Array Edge} {g : Option (Nat × Bool)}
theorem st_eqNil {bq : Bool} (hE : EngB bq P E) {t t' : TypeId} {ms : Array (String × TypeId)} (ht : P.underlying t = some (.interface ms)) {x : Operand} {c : Value} (hk : K (.bool true) w) : E.stop ⟨d, .binOp .eql t x (.const c) t', ty, pos, aft, g⟩ [.nilIface, .nilIface] w K := by
  refine hE.det (v := .bool true) (fun w1 _ ρ hρ => ?_) hk
  simp only [opnds, List.map_cons, List.map_nil, List.cons.injEq, and_true] at hρ
  have h1 : (Op.equal t .nilIface .nilIface).run P w1 = .ok true w1 := run_nil_ne ht w1 9999
  simp only [execOp, hρ.1, hρ.2, eqGuard, binOp, Sem.run_bind]
  simp [h1]
theorem st_eqSome {bq : Bool} (hE : EngB bq P E) {t t' u : TypeId} {v : Value} {ms : Array (String × TypeId)} (ht : P.underlying t = some (.interface ms)) {x : Operand} {c : Value} (hk : K (.bool false) w) : E.stop ⟨d, .binOp .eql t x (.const c) t', ty, pos, aft, g⟩ [.iface u v, .nilIface] w K := by
  refine hE.det (v := .bool false) (fun w1 _ ρ hρ => ?_) hk
  simp only [opnds, List.map_cons, List.map_nil, List.cons.injEq, and_true] at hρ
  have h1 : (Op.equal t (.iface u v) .nilIface).run P w1 = .ok false w1 := run_some_ne ht w1 9999
  simp only [execOp, hρ.1, hρ.2, eqGuard, binOp, Sem.run_bind]
  simp [h1]
end
def kidsT : Tr → List Tr
  | .op _ kids _ => kids
  | _ => []
theorem TreesV.append {D : Nat → Prop} {w : World} : ∀ {ts us : List Tr} {vs xs : List Value}, TreesV D w ts vs → TreesV D w us xs → TreesV D w (ts ++ us) (vs ++ xs)
  | [], us, [], xs, _, h => h
  | t :: ts, us, v :: vs, xs, h, h2 => by simp only [List.cons_append, TreesV] at h ⊢; exact ⟨h.1, TreesV.append h.2 h2⟩
  | [], _, _ :: _, _, h, _ => by simp only [TreesV] at h
  | _ :: _, _, [], _, h, _ => by simp only [TreesV] at h
/-- What treesOf holds: its list, its walk. -/
structure TOB (w0s : Nat) (q3 q4 : Addr) : Prop where
  h3 : w0s ≤ q3.block
  h4 : w0s ≤ q4.block
  e3 : blk (some q3) = some q3.block
  e4 : blk (some q4) = some q4.block
  ne : q3.block ≠ q4.block
section
variable {w0s : Nat} {w w' : World} {q3 q4 : Addr} {B : Option Addr} {n d : Nat} {vs : List Value}
end
theorem optV.cases {D : Nat → Prop} {w : World} {o : Option Tr} {v : Value} (h : optV D w o v) : (o = none ∧ v = .nilIface) ∨ ∃ t, o = some t ∧ TreeV D w t v := by
  cases o with
  | none => exact .inl ⟨rfl, h⟩
  | some t => exact .inr ⟨t, rfl, h⟩
end Go.Proofs.YtgdnmpcaiaoaoaaGreatDoor
/- The program's compiler: decision, stmt, compiled and Compile walked. -/
namespace Go.Proofs.YtgdnmpcaiaoaoaaGreatDoor
open Go.Eng
set_option linter.unusedVariables false
set_option linter.unusedSimpArgs false
/-! ### Typed trees can be compiled -/
theorem ists_ok {ns : List PN} {L a b : Nat} {ks : List Int} {ts : List Tr} (h : IsTs ns a b ks ts) : (∀ q p, a ≤ q → q < b → ns[q]? = some p → nodeOK (leafT L) p) → okTs ts ∧ fewTs ts := by
  induction h with
  | nil a => intro _; exact ⟨by simp only [okTs], by simp only [fewTs]⟩
  | @cons a b k p ks kids ts hp hk h1 h2 i1 i2 =>
    intro hok
    have e1 := h1.le
    have e2 := h2.le
    obtain ⟨g1, g2⟩ := i1 fun q p h1 h2 => hok q p h1 (by omega)
    obtain ⟨g3, g4⟩ := i2 fun q p h1 h2 => hok q p (by omega) h2
    have hn := hok k p e1 (by omega) hp
    have hkl := h1.len
    have hT : okT (mkT p k kids) ∧ fewT (mkT p k kids) := by
      unfold mkT
      split
      · rename_i h0
        have hl := hn.1 h0
        unfold leafT at hl
        unfold leafF
        split
        · rename_i h5
          rw [if_neg (by omega), if_neg (by omega)] at hl
          have := cOK_o hl
          omega
        · split
          · simp only [okT, fewT]; exact ⟨trivial, trivial⟩
          · split
            · simp only [okT, fewT]; exact ⟨trivial, trivial⟩
            · rename_i h5 h6 h7
              rw [if_neg h6, if_neg h7] at hl
              simp only [okT, fewT]
              refine ⟨trivial, ?_⟩
              unfold cOK at hl
              rcases hl with h | h | h | h
              · rw [h.2.2]; simp
              · rw [h.2.2.2]; simp
              · rw [h.2.2.2]; simp
              · have := h.2.2.2.2.2; omega
      · rename_i h0
        simp only [okT, fewT]
        have := kidsF_le p.o
        exact ⟨⟨by omega, by omega, g1⟩, g2⟩
    exact ⟨by simp only [okTs]; exact ⟨hT.1, g3⟩, by simp only [fewTs]; exact ⟨hT.2, g4⟩⟩
theorem okTs_mem : ∀ {l : List Tr} {t : Tr}, okTs l → t ∈ l → okT t
  | u :: l, t, h, e => by
    simp only [okTs] at h
    rcases List.mem_cons.1 e with rfl | e
    · exact h.1
    · exact okTs_mem h.2 e
theorem fewTs_mem : ∀ {l : List Tr} {t : Tr}, fewTs l → t ∈ l → fewT t
  | u :: l, t, h, e => by
    simp only [fewTs] at h
    rcases List.mem_cons.1 e with rfl | e
    · exact h.1
    · exact fewTs_mem h.2 e
mutual
theorem szT_po : ∀ t : Tr, szT t ≤ 3 * (po t).length
  | .con .. => by simp [szT, po]
  | .att n => by simp [szT, po]
  | .lt n => by simp [szT, po]
  | .nam .. => by simp [szT, po]
  | .op o kids at_ => by
    have := szTs_pos kids
    simp only [szT, po, List.length_append, List.length_cons, List.length_nil]
    (repeat' split) <;> omega
theorem szTs_pos : ∀ l : List Tr, szTs l ≤ 3 * (pos l).length
  | [] => by simp [szTs, pos]
  | t :: l => by
    have h1 := szT_po t
    have h2 := szTs_pos l
    simp only [szTs, pos, List.length_append]
    omega
end
/-- A statement of which the compiler can speak. -/
structure StOK (s : PS) (p : PT) : Prop where
  k : s.k = 1 ∨ s.k = 2 ∨ s.k = 3
  c : s.k = 3 ↔ p.c = none
  ok : ∀ t ∈ trs p, okT t ∧ fewT t
theorem good_ok : ∀ {l : List (PS × PT)} {L : Nat}, GoodS L l → (∀ q ∈ l, ∀ t ∈ trs q.2, okT t ∧ fewT t) → ∀ q ∈ l, StOK q.1 q.2
  | (s, p) :: l, L, h, h2, q, hq => by
    rw [GoodS] at h
    obtain ⟨g1, ⟨g2, _⟩, _, g4⟩ := h
    rcases List.mem_cons.1 hq with rfl | hq
    · unfold stmtP at g1
      refine ⟨?_, ?_, h2 _ (List.mem_cons_self ..)⟩
      · simp only
        split at g1
        · exact .inl (by assumption)
        · split at g1
          · exact .inr (.inl (by assumption))
          · split at g1
            · exact .inr (.inr (by assumption))
            · exact g1.elim
      · simp only
        have e : p.c = none ↔ ¬ 0 ≤ s.c := by rw [← g2]; cases p.c <;> simp
        rw [e]
        split at g1
        · omega
        · split at g1
          · omega
          · split at g1
            · omega
            · exact g1.elim
    · exact good_ok g4 (fun q hq => h2 q (List.mem_cons_of_mem _ hq)) q hq
theorem okS_of {l : List (PS × PT)} (h : ∀ q ∈ l, StOK q.1 q.2) : okS l := fun q hq => ⟨fun t ht => ((h q hq).ok t (by simp [trs, ht])).1, fun t ht => ((h q hq).ok t (by simp [trs, ht])).1⟩
/-! ### One statement -/
def stepP (p : PS) (pt : PT) (sl : Int) (s : CS) : Int × CS :=
  let s1 := match pt.c with
    | none => s
    | some t => exP t s
  if p.k = 1 then (sl + 1, putP 4 sl s1)
  else if p.k = 2 then (sl, markP s1.ins.length (decP pt.g (putP 23 0 s1)))
  else (sl, decP pt.g s1)
theorem cmpP_cons (p : PS) (pt : PT) (l : List (PS × PT)) (sl : Int) (s : CS) : cmpP ((p, pt) :: l) sl s = cmpP l (stepP p pt sl s).1 (stepP p pt sl s).2 := by
  obtain ⟨c, g⟩ := pt
  simp only [cmpP, stepP]
  split
  · rfl
  · split <;> rfl
def szO (g : Option Tr) : Nat := match g with
  | none => 1
  | some t => szT t + 1
theorem decP_len {g : Option Tr} (h : ∀ t, g = some t → okT t) (s : CS) : (decP g s).ins.length = s.ins.length + szO g ∧ (decP g s).pool.length ≤ s.pool.length + szO g := by
  cases g with
  | none => simp only [decP, szO]; have := putP_len 24 0 s; rw [this.1, this.2]; omega
  | some t =>
    simp only [decP, szO]
    have h1 := putP_len 25 0 (exP t s)
    have h2 := exP_len (h t rfl) s
    rw [h1.1, h1.2]; omega
theorem step_len {p : PS} {pt : PT} (h : StOK p pt) (sl : Int) (s : CS) : (stepP p pt sl s).2.ins.length ≤ s.ins.length + szTs (trs pt) + 2 ∧ (stepP p pt sl s).2.pool.length ≤ s.pool.length + szTs (trs pt) + 2 := by
  obtain ⟨c, g⟩ := pt
  have hok := h.ok
  simp only [trs] at hok
  have hg : ∀ t, g = some t → okT t := fun t ht => (hok t (by simp [ht])).1
  have e : szTs (trs ⟨c, g⟩) = szTs c.toList + szTs g.toList := by cases c <;> cases g <;> simp [trs, szTs]
  rw [e]
  obtain ⟨s1, h1⟩ : ∃ s1, s1 = (match c with | none => s | some t => exP t s) := ⟨_, rfl⟩
  have l1 : s1.ins.length = s.ins.length + szTs c.toList ∧ s1.pool.length ≤ s.pool.length + szTs c.toList := by
    rw [h1]
    cases c with
    | none => simp [szTs]
    | some t => have := exP_len (hok t (by simp)).1 s; simpa [szTs] using this
  have eg : szO g = szTs g.toList + 1 := by cases g <;> simp [szO, szTs]
  simp only [stepP]
  rw [← h1]
  split
  · have := putP_len 4 sl s1
    simp only [this.1, this.2]; omega
  · split
    · have a1 := putP_len 23 0 s1
      have a2 := decP_len hg (putP 23 0 s1)
      have a3 := markP_len s1.ins.length (decP g (putP 23 0 s1))
      simp only [a3.1, a3.2]
      rw [a1.1, a1.2] at a2
      omega
    · have a2 := decP_len hg s1
      simp only
      omega
section
variable {w0 : World} {q : Addr}
set_option maxHeartbeats 1000000 in
theorem decision_g (hT : Tab w0 5 opF) (hb : CB w0.heap.size q) {g : Option Tr} {v : Value} (ht : optV (fun b => b < w0.heap.size) w0 g v) (hok : ∀ t, g = some t → okT t ∧ fewT t)
    {w : World} {P : Option Addr} {pn pc : Nat} {sl : Int} {I : Option Addr} {ic : Nat} {vs : List VV} {s : CS} (h0 : Ext w0 w) (hM : CMs w0.heap.size w q P pn pc sl I ic vs s) (b1 : s.ins.length + szO g ≤ 60000) (b2 : s.pool.length + szO g ≤ 60000) :
    GC Tryz.prog 190 [.pointer (some q), v] w fun _ w' => CR w0.heap.size w q P sl I (decP g s) w' := by
  refine GC.intro (cs := []) Tryz.func190 (by kernel_rfl) fun E R hE hr hR => ?_
  obtain ⟨f, hf⟩ : ∃ f : Int, f = (s.ins.length : Int) := ⟨_, rfl⟩
  rcases ht.cases with ⟨rfl, rfl⟩ | ⟨t, rfl, ht⟩
  · conv => cbv
    refine st_eqNil hE Tryz.underlying190 ?_
    conv => cbv
    refine st_g hr (put_s hb hM (by omega) 24 0 hf) fun _ w2 ⟨_, hcr⟩ => ?_
    conv => cbv
    rw [hR]; exact hcr
  · obtain ⟨ty1, u1, ev1⟩ := TreeV.form ht
    subst ev1
    simp only [szO] at b1 b2
    conv => cbv
    refine st_eqSome hE Tryz.underlying190 ?_
    conv => cbv
    obtain ⟨s2, es2⟩ : ∃ x, x = exP t s := ⟨_, rfl⟩
    have l2 : s2.ins.length = s.ins.length + szT t ∧ s2.pool.length ≤ s.pool.length + szT t := by rw [es2]; exact exP_len (hok t rfl).1 s
    have hex := expr_g hT hb (dep t) t _ (Nat.le_refl _) ht (hok t rfl).1 (hok t rfl).2 w P pn pc sl I ic vs s h0 hM (by omega) (by omega)
    rw [← es2] at hex
    refine st_g hr hex fun _ w2 hcr => ?_
    obtain ⟨P2, pn2, pc2, I2, ic2, vs2, hM2, hC2⟩ := hcr.ms
    conv => cbv
    obtain ⟨f2, hf2⟩ : ∃ f2 : Int, f2 = (s2.ins.length : Int) := ⟨_, rfl⟩
    refine st_g hr (put_s hb hM2 (by omega) 25 0 hf2) fun _ w3 ⟨_, hcr3⟩ => ?_
    obtain ⟨P3, pn3, pc3, I3, ic3, vs3, hM3, hC3⟩ := hcr3.ms
    conv => cbv
    rw [hR]
    simp only [decP]
    rw [← es2]
    exact ⟨P3, pn3, pc3, I3, ic3, vs3, hM3.cm, hM3.eq, hC2.trans hC3⟩
end
end Go.Proofs.YtgdnmpcaiaoaoaaGreatDoor
/- The program's compiler: stmt, compiled and Compile walked. -/
namespace Go.Proofs.YtgdnmpcaiaoaoaaGreatDoor
open Go.Eng
set_option linter.unusedVariables false
set_option linter.unusedSimpArgs false
section
variable {E : Sym} {w : World} {K : Value → World → Prop} {d : Option Tmp} {ty : TypeId} {pos : String} {aft : Array Edge} {g : Option (Nat × Bool)} {bq : Bool}
theorem run_bIC (w : World) : (Instr.build 51 #[]).run Tryz.prog w = .ok (.agg #[.slice none 0 0, .int .i64 0, .slice none 0 0]) w := by kernel_rfl
theorem st_bIC (hE : EngB bq Tryz.prog E) (hk : K (.agg ⟨[.slice none 0 0, .int .i64 0, .slice none 0 0]⟩) w) : E.stop ⟨d, .build 51 ⟨[]⟩, ty, pos, aft, g⟩ [] w K := by
  refine hE.det (v := .agg ⟨[.slice none 0 0, .int .i64 0, .slice none 0 0]⟩) (fun w1 _ ρ hρ => ?_) hk
  have := run_bIC w1
  simp [execOp, this]
end
set_option maxHeartbeats 4000000 in
theorem stmtC_g {w0 : World} {q : Addr} (hT : Tab w0 5 opF) (hb : CB w0.heap.size q) {e : SV} (hst : StOK e.s e.p) (ht : optV (fun b => b < w0.heap.size) w0 e.p.c e.cv ∧ optV (fun b => b < w0.heap.size) w0 e.p.g e.gv)
    {w : World} {P : Option Addr} {pn pc : Nat} {sl : Int} {I : Option Addr} {ic : Nat} {vs : List VV} {s : CS} (hsl : 0 ≤ sl ∧ sl ≤ 1000) (h0 : Ext w0 w) (hM : CMs w0.heap.size w q P pn pc sl I ic vs s) (b1 : s.ins.length + szTs (trs e.p) + 2 ≤ 60000) (b2 : s.pool.length + szTs (trs e.p) + 2 ≤ 60000) :
    GC Tryz.prog 132 [.pointer (some q), .agg ⟨fV e⟩] w fun _ w' => CR w0.heap.size w q P (stepP e.s e.p sl s).1 I (stepP e.s e.p sl s).2 w' := by
  refine GC.intro (cs := []) Tryz.func132 (by kernel_rfl) fun E R hE hr hR => ?_
  obtain ⟨⟨k, nm, cc, gg⟩, ⟨pcc, pg⟩, cv, gv, ei⟩ := e
  simp only at ht hst b1 b2 hR
  have o1 := ht.1.one
  have o2 := ht.2.one
  have hok := hst.ok
  have hkk := hst.k
  have hcc := hst.c
  simp only [trs] at hok hkk hcc
  have hg2 : ∀ t, pg = some t → okT t ∧ fewT t := fun t ht => hok t (by simp [ht])
  obtain ⟨F1, F2, hF⟩ : ∃ F1 F2, stepP ⟨k, nm, cc, gg⟩ ⟨pcc, pg⟩ sl s = (F1, F2) := ⟨_, _, rfl⟩
  rw [hF] at hR
  have ez : szTs (trs ⟨pcc, pg⟩) = szTs pcc.toList + szTs pg.toList := by cases pcc <;> cases pg <;> simp [trs, szTs]
  have eg : szO pg = szTs pg.toList + 1 := by cases pg <;> simp [szO, szTs]
  rw [ez] at b1 b2
  have d3 : ∀ {w' : World} {q3 : Addr} {zs : List Value} {t : TypeId} {n : Nat}, Box w.heap.size t n w' q3 zs → ∀ r ∈ rws q P I, Dj r (some q3) := fun h3 r hr2 => by
    simp only [rws, List.mem_cons, List.not_mem_nil, or_false] at hr2
    rcases hr2 with rfl | rfl | rfl
    · exact dj_new hM.cm.box h3 (Nat.le_refl _)
    · exact dj_new hM.cm.rP h3 (Nat.le_refl _)
    · exact dj_new hM.cm.rI h3 (Nat.le_refl _)
  conv => cbv
  refine st_box hr fun q3 w1 hx1 h30 => ?_
  have h3 := h30 _ (Nat.le_refl _)
  clear h30
  have hM1 := hM.ext hx1
  have h01 := h0.trans hx1
  have dd := d3 h3
  conv => cbv
  (refine st_fld hE fSt0 fun p hp => ?_; (conv => cbv); refine st_load hE cInt (by rw [hp]; exact (h3).at _ _ rfl) ?_; clear hp; (conv => cbv))
  -- the condition compiled
  have cond : ∀ t, pcc = some t → GC Tryz.prog 188 [.pointer (some q), cv] w1 fun _ w' => CR w0.heap.size w1 q P sl I (exP t s) w' := fun t e => by
    subst e
    have hz : szTs (some t).toList = szT t := by simp [szTs]
    exact expr_g hT hb (dep t) t cv (Nat.le_refl _) ht.1 (hok t (by simp)).1 (hok t (by simp)).2 w1 P pn pc sl I ic vs s h01 hM1 (by omega) (by omega)
  by_cases k1 : k = 1
  · obtain ⟨t, rfl⟩ : ∃ t, pcc = some t := by
      cases pcc with
      | none => exact absurd (hcc.2 rfl) (by omega)
      | some t => exact ⟨t, rfl⟩
    refine br (fun _ => ?_) (fun q => absurd k1 (by simpa [hE.cmp, cmpR] using q))
    conv => cbv
    (refine st_fld hE fSt2 fun p hp => ?_; (conv => cbv); refine st_load hE cTr (by rw [hp]; exact (h3).at _ _ rfl) ?_; clear hp; (conv => cbv))
    have hF' : F1 = sl + 1 ∧ F2 = putP 4 sl (exP t s) := by
      have := hF; simp only [stepP, if_pos k1] at this; cases this; exact ⟨rfl, rfl⟩
    obtain ⟨rfl, rfl⟩ := hF'
    obtain ⟨s2, es2⟩ : ∃ x, x = exP t s := ⟨_, rfl⟩
    have l2 : s2.ins.length = s.ins.length + szT t ∧ s2.pool.length ≤ s.pool.length + szT t := by rw [es2]; exact exP_len (hok t (by simp)).1 s
    have hz : szTs (some t).toList = szT t := by simp [szTs]
    refine st_g hr (cond t rfl) fun _ w2 hcr => ?_
    rw [← es2] at hcr hR
    obtain ⟨P2, pn2, pc2, I2, ic2, vs2, hM2, hC2⟩ := hcr.ms
    conv => cbv
    (refine st_nil hE ?_; (conv => cbv); refine st_fld hE fCp0 fun p1 hp1 => ?_; (conv => cbv); refine st_fld hE fIC1 fun p hp => ?_; (conv => cbv); refine st_load hE cInt (by rw [hp, hp1, add_add]; exact (hM2.cm.box).at 1 _ rfl) ?_; clear hp hp1; (conv => cbv))
    obtain ⟨f, hf⟩ : ∃ f : Int, f = (s2.ins.length : Int) := ⟨_, rfl⟩
    refine st_g hr (put_s hb hM2 (by omega) 4 sl hf) fun _ w3 ⟨_, hcr3⟩ => ?_
    obtain ⟨P3, pn3, pc3, I3, ic3, vs3, hM3, hC3⟩ := hcr3.ms
    conv => cbv
    (refine st_nil hE ?_; (conv => cbv); refine st_fld hE fCp0 fun p1 hp1 => ?_; (conv => cbv); refine st_fld hE fIC1 fun p hp => ?_; (conv => cbv); refine st_load hE cInt (by rw [hp, hp1, add_add]; exact (hM3.cm.box).at 1 _ rfl) ?_; clear hp hp1; (conv => cbv))
    obtain ⟨sk, hsk⟩ : ∃ z, z = sl + 1 := ⟨_, rfl⟩
    have ej : E.ar .add .i64 sl 1 = sk := by rw [hE.ar, hsk]; exact wrap_in (by omega) (by omega)
    rw [← hsk] at hR
    conv => cbv
    refine st_nil hE ?_
    conv => cbv
    refine st_fld hE fCp0 fun p1 hp1 => ?_
    conv => cbv
    refine st_fld hE fIC1 fun p2 hp2 => ?_
    conv => cbv
    simp only [ej]
    refine st_put hr zInt hM3.cm.box (p := p2) (j := 1) (by rw [hp2, hp1, add_add]) (by simp) rfl fun w4 hw4 hb4 => ?_
    simp only [List.set_cons_zero, List.set_cons_succ] at hb4
    conv => cbv
    rw [hR]
    have hm := hM3.cm
    have hC4 : CSt w3 (rws q P3 I3) w4 (rws q P3 I3) := CSt.of_wr hw4 (by simp [rws])
    refine ⟨P3, pn3, pc3, I3, ic3, vs3, ⟨hb4, hm.rP.wr hw4 (dj_apart hm.rP hm.qP.symm), hm.rI.wr hw4 (dj_apart hm.rI hm.qI.symm), fun v hv => ?_, hm.qP, hm.qI, hm.PI, hm.qn, hm.Pn, hm.In, hm.nn, Nat.le_trans hm.le hw4.size⟩, hM3.eq, (((CSt.of_ext hx1 _).trans hC2).trans hC3).trans hC4⟩
    have o1 := (hm.nam v hv).1
    have o2 := o1.wr hw4 (dj_apart o1 (hm.qn v hv).symm)
    exact ⟨o2, valm_keep o2 (hm.nam v hv).2⟩
  · refine br (fun q => absurd (by simpa [hE.cmp, cmpR] using q) k1) (fun _ => ?_)
    conv => cbv
    by_cases k2 : k = 2
    · obtain ⟨t, rfl⟩ : ∃ t, pcc = some t := by
        cases pcc with
        | none => exact absurd (hcc.2 rfl) (by omega)
        | some t => exact ⟨t, rfl⟩
      refine br (fun _ => ?_) (fun q => absurd k2 (by simpa [hE.cmp, cmpR] using q))
      conv => cbv
      (refine st_fld hE fSt2 fun p hp => ?_; (conv => cbv); refine st_load hE cTr (by rw [hp]; exact (h3).at _ _ rfl) ?_; clear hp; (conv => cbv))
      have hz : szTs (some t).toList = szT t := by simp [szTs]
      have hF' : F1 = sl ∧ F2 = markP (exP t s).ins.length (decP pg (putP 23 0 (exP t s))) := by
        have := hF; simp only [stepP, if_neg k1, if_pos k2] at this; cases this; exact ⟨rfl, rfl⟩
      obtain ⟨rfl, rfl⟩ := hF'
      obtain ⟨s2, es2⟩ : ∃ x, x = exP t s := ⟨_, rfl⟩
      have l2 : s2.ins.length = s.ins.length + szT t ∧ s2.pool.length ≤ s.pool.length + szT t := by rw [es2]; exact exP_len (hok t (by simp)).1 s
      refine st_g hr (cond t rfl) fun _ w2 hcr => ?_
      rw [← es2] at hcr hR
      obtain ⟨P2, pn2, pc2, I2, ic2, vs2, hM2, hC2⟩ := hcr.ms
      obtain ⟨h32, dd2⟩ := hC2.own h3 dd
      have h02 := CR.ext0 hb hM1 hC2 h01
      conv => cbv
      obtain ⟨f, hf⟩ : ∃ f : Int, f = (s2.ins.length : Int) := ⟨_, rfl⟩
      obtain ⟨s3, es3⟩ : ∃ x, x = putP 23 0 s2 := ⟨_, rfl⟩
      have l3 : s3.ins.length = s2.ins.length + 1 ∧ s3.pool = s2.pool := by rw [es3]; exact putP_len 23 0 s2
      refine st_g hr (put_s hb hM2 (by omega) 23 0 hf) fun r w3 ⟨hr3, hcr3⟩ => ?_
      subst hr3
      rw [← es3] at hcr3 hR
      obtain ⟨P3, pn3, pc3, I3, ic3, vs3, hM3, hC3⟩ := hcr3.ms
      obtain ⟨h33, dd3⟩ := hC3.own h32 dd2
      have h03 := CR.ext0 hb hM2 hC3 h02
      conv => cbv
      (refine st_fld hE fSt3 fun p hp => ?_; (conv => cbv); refine st_load hE cTr (by rw [hp]; exact (h33).at _ _ rfl) ?_; clear hp; (conv => cbv))
      obtain ⟨s4, es4⟩ : ∃ x, x = decP pg s3 := ⟨_, rfl⟩
      have l4 : s4.ins.length = s3.ins.length + szO pg ∧ s4.pool.length ≤ s3.pool.length + szO pg := by rw [es4]; exact decP_len (fun t ht => (hg2 t ht).1) s3
      have p3 := congrArg List.length l3.2
      refine st_g hr (decision_g hT hb ht.2 hg2 h03 hM3 (by omega) (by omega)) fun _ w4 hcr4 => ?_
      rw [← es4] at hcr4 hR
      obtain ⟨P4, pn4, pc4, I4, ic4, vs4, hM4, hC4⟩ := hcr4.ms
      conv => cbv
      refine st_g hr (mark_s hb hM4 (by omega) hf (by omega)) fun _ w5 hcr5 => ?_
      obtain ⟨P5, pn5, pc5, I5, ic5, vs5, hM5, hC5⟩ := hcr5.ms
      conv => cbv
      rw [hR]
      exact ⟨P5, pn5, pc5, I5, ic5, vs5, hM5.cm, hM5.eq, ((((CSt.of_ext hx1 _).trans hC2).trans hC3).trans hC4).trans hC5⟩
    · refine br (fun q => absurd (by simpa [hE.cmp, cmpR] using q) k2) (fun _ => ?_)
      conv => cbv
      have k3 : k = 3 := by omega
      refine br (fun _ => ?_) (fun q => absurd k3 (by simpa [hE.cmp, cmpR] using q))
      conv => cbv
      (refine st_fld hE fSt3 fun p hp => ?_; (conv => cbv); refine st_load hE cTr (by rw [hp]; exact (h3).at _ _ rfl) ?_; clear hp; (conv => cbv))
      have hp := hcc.1 k3
      subst hp
      have hF' : F1 = sl ∧ F2 = decP pg s := by
        have := hF; simp only [stepP, if_neg k1, if_neg k2] at this; cases this; exact ⟨rfl, rfl⟩
      obtain ⟨rfl, rfl⟩ := hF'
      obtain ⟨s4, es4⟩ : ∃ x, x = decP pg s := ⟨_, rfl⟩
      refine st_g hr (decision_g hT hb ht.2 hg2 h01 hM1 (by omega) (by omega)) fun _ w4 hcr4 => ?_
      rw [← es4] at hcr4 hR
      obtain ⟨P4, pn4, pc4, I4, ic4, vs4, hM4, hC4⟩ := hcr4.ms
      conv => cbv
      rw [hR]
      exact ⟨P4, pn4, pc4, I4, ic4, vs4, hM4.cm, hM4.eq, (CSt.of_ext hx1 _).trans hC4⟩
/-! ### Code of one's own -/
structure CdO (B : Nat) (w : World) (P : Option Addr) (pn pc : Nat) (I : Option Addr) (n ic : Nat) (vs : List VV) (is : List (Int × Int)) : Prop where
  rP : Own B 124 4 w P pn pc (vs.flatMap vC)
  rI : Own B 129 2 w I n ic (is.flatMap iC)
  nam : ∀ v ∈ vs, Own B 9 1 w v.A v.m v.c (v.p.xs.map .string) ∧ ValM w v
  PI : Dj P I
  Pn : ∀ v ∈ vs, Dj P v.A
  In : ∀ v ∈ vs, Dj I v.A
  nn : vs.Pairwise fun u v => Dj u.A v.A
theorem CdO.ext {B : Nat} {w w' : World} {P : Option Addr} {pn pc : Nat} {I : Option Addr} {n ic : Nat} {vs : List VV} {is : List (Int × Int)} (h : CdO B w P pn pc I n ic vs is) (hx : Ext w w') : CdO B w' P pn pc I n ic vs is :=
  ⟨h.rP.bel hx, h.rI.bel hx, fun v hv => ⟨(h.nam v hv).1.bel hx, (h.nam v hv).2.ext hx⟩, h.PI, h.Pn, h.In, h.nn⟩
theorem CdO.nil {B : Nat} {w : World} : CdO B w none 0 0 none 0 0 [] [] := ⟨Own.nil, Own.nil, (by simp), (by intro g q; cases q), (by simp), (by simp), (by simp)⟩
abbrev codV (P : Option Addr) (pn pc : Nat) (sl : Int) (I : Option Addr) (n ic : Nat) : Value := .agg ⟨[.slice P pn pc, .int .i64 sl, .slice I n ic]⟩
/-- Code: its slots and what is written, of one's own. -/
def CodO (B : Nat) (w : World) (v : Value) (x : Int × CS) : Prop := ∃ P pn pc I n ic vs, v = codV P pn pc x.1 I n ic ∧ CdO B w P pn pc I n ic vs x.2.ins ∧ vs.map (·.p) = x.2.pool
theorem szTs_append : ∀ (l r : List Tr), szTs (l ++ r) = szTs l + szTs r
  | [], r => by simp [szTs]
  | t :: l, r => by rw [List.cons_append, szTs, szTs, szTs_append l r]; omega
theorem szTs_take {es : List SV} {j : Nat} {e : SV} (h : es[j]? = some e) : szTs ((es.take (j + 1)).flatMap fun e => trs e.p) = szTs ((es.take j).flatMap fun e => trs e.p) + szTs (trs e.p) := by
  rw [List.take_add_one, h, List.flatMap_append, szTs_append]; simp
theorem szTs_le (es : List SV) (j : Nat) : szTs ((es.take j).flatMap fun e => trs e.p) ≤ 3 * poS es := by
  refine Nat.le_trans ?_ (szTs_pos _)
  have e3 : es = es.take j ++ es.drop j := (List.take_append_drop _ _).symm
  conv => rhs; rw [e3, List.flatMap_append, szTs_append]
  omega
theorem step_sl (p : PS) (pt : PT) (sl : Int) (s : CS) : (stepP p pt sl s).1 = sl ∨ (stepP p pt sl s).1 = sl + 1 := by
  unfold stepP
  simp only
  split
  · exact .inr rfl
  · split <;> exact .inl rfl
theorem CdO.mono {B B' : Nat} {w : World} {P : Option Addr} {pn pc : Nat} {I : Option Addr} {n ic : Nat} {vs : List VV} {is : List (Int × Int)} (h : CdO B w P pn pc I n ic vs is) (hB : B' ≤ B) : CdO B' w P pn pc I n ic vs is :=
  ⟨h.rP.mono hB, h.rI.mono hB, fun v hv => ⟨(h.nam v hv).1.mono hB, (h.nam v hv).2⟩, h.PI, h.Pn, h.In, h.nn⟩
set_option maxHeartbeats 4000000 in
theorem compiled_f {w : World} (hT : Tab w 5 opF) {A : Option Addr} {m c : Nat} {es : List SV} (h : SVs w A m c es) (hm : m ≤ 600) (hp : poS es ≤ 4000) (hok : ∀ q ∈ spOf es, StOK q.1 q.2) :
    FC Tryz.prog 72 [.slice A m c] w fun v w' => CodO w.heap.size w' v (cmpP (spOf es) 0 ⟨[], []⟩) := by
  refine FC.intro (cs := []) Tryz.func72 (by kernel_rfl) fun E R hE hr hR => ?_
  have hlen := h.len
  obtain ⟨F, hF⟩ : ∃ F, F = cmpP (spOf es) 0 ⟨[], []⟩ := ⟨_, rfl⟩
  rw [← hF] at hR
  conv => cbv
  refine st_alloc hr tIC rfl fun q2 w1 hx1 hq0 => ?_
  have hq2 := hq0 _ (Nat.le_refl _)
  clear hq0
  replace h := h.ext hx1
  replace hT := hT.ext hx1
  conv => cbv
  refine st_bCp hE ?_
  conv => cbv
  refine st_box hr fun q w2 hx2 hb0 => ?_
  have hbx := hb0 w1.heap.size (Nat.le_refl _)
  have f0 := bx_form (hb0 _ (Nat.le_refl _))
  clear hb0
  have hb : CB w1.heap.size q := ⟨f0.1, f0.2.2⟩
  have hM0 : CMs w1.heap.size w2 q none 0 0 0 none 0 [] ⟨[], []⟩ := ⟨⟨hbx, Own.nil, Own.nil, by simp, (by intro g _ q; cases q), (by intro g _ q; cases q), (by intro g q; cases q), by simp, by simp, by simp, by simp, hx2.size⟩, rfl⟩
  clear hbx f0
  conv => cbv
  refine st_len hE sSt fun x1 hx1' => ?_
  conv => cbv
  refine loop_rule hr (fun (s : Nat × Int × Option Addr × Nat × Nat × Int × Option Addr × Nat × List VV × CS) w' => s.1 ≤ m ∧ s.2.1 = (s.1 : Int) ∧ Ext w1 w' ∧ CMs w1.heap.size w' q s.2.2.1 s.2.2.2.1 s.2.2.2.2.1 s.2.2.2.2.2.1 s.2.2.2.2.2.2.1 s.2.2.2.2.2.2.2.1 s.2.2.2.2.2.2.2.2.1 s.2.2.2.2.2.2.2.2.2 ∧
      cmpP (spOf (es.drop s.1)) s.2.2.2.2.2.1 s.2.2.2.2.2.2.2.2.2 = F ∧ 0 ≤ s.2.2.2.2.2.1 ∧ s.2.2.2.2.2.1 ≤ s.1 ∧
      s.2.2.2.2.2.2.2.2.2.ins.length ≤ szTs ((es.take s.1).flatMap fun e => trs e.p) + 2 * s.1 ∧ s.2.2.2.2.2.2.2.2.2.pool.length ≤ szTs ((es.take s.1).flatMap fun e => trs e.p) + 2 * s.1)
    (fun s => [(2, .pointer (some q2)), (3, .pointer (some q)), (8, .slice A m c), (9, .int .i64 x1), (10, .int .i64 s.2.1)]) (fun s => m - s.1) (0, 0, none, 0, 0, 0, none, 0, [], ⟨[], []⟩)
    (by simp [Fits, lk]) ⟨by simp, by simp, hx2, hM0, by simp [hF], by simp, by simp, by simp, by simp⟩ ?_
  clear hx2 hM0
  rintro J hJ ⟨j, jj, P, pn, pc, sl, I, ic, vs, s⟩ w' ⟨hj, hjj, hx, hM, hcm, hs0, hs1, hi, hpo⟩
  simp only at hj hjj hM hcm hs0 hs1 hi hpo
  obtain ⟨jk, hjk⟩ : ∃ z, z = jj + 1 := ⟨_, rfl⟩
  conv => cbv
  refine br (fun g => ?_) (fun g => ?_)
  · have g : j < m := by
      have : jj < x1 := by simpa [hE.cmp, cmpR] using g
      omega
    have ej : E.ar .add .i64 jj 1 = jk := by rw [hE.ar, hjk]; exact wrap_in (by omega) (by omega)
    obtain ⟨e, he⟩ : ∃ e, es[j]? = some e := ⟨_, List.getElem?_eq_getElem (by omega)⟩
    obtain ⟨aA0, hA0, hcell⟩ := fl_at fV_len (h.cells.ext hx) (by omega) he
    have htr := h.trees e (List.mem_of_getElem? he)
    have o1 := htr.1.one
    have o2 := htr.2.one
    have hst := hok (e.s, e.p) (by unfold spOf; exact List.mem_map.2 ⟨e, List.mem_of_getElem? he, rfl⟩)
    simp only at hst
    have hz := szTs_take he
    have hzl := szTs_le es (j + 1)
    rw [spOf_drop he, cmpP_cons] at hcm
    obtain ⟨cs, hcs⟩ : ∃ cs, cs = fV e := ⟨_, rfl⟩
    have hcl : cs.length = 5 := by rw [hcs]; rfl
    have hc1 : ∀ y ∈ cs, y.oneCell' = true := by
      rw [hcs]
      intro y hy
      simp only [fV, List.mem_cons, List.not_mem_nil, or_false] at hy
      rcases hy with rfl | rfl | rfl | rfl | rfl <;> first | rfl | assumption
    rw [← hcs] at hcell
    conv => cbv
    refine st_idx hE sSt hA0 (by omega) (by omega) fun p hp => ?_
    rw [show jj.toNat = j by omega] at hp
    conv => cbv
    refine st_loadS hE tSt hcl (by rw [hp]; exact hcell) ?_
    conv => cbv
    refine st_alloc hr tSt rfl fun q6 w3 hx3 hq0 => ?_
    conv => cbv
    refine st_putS hr (by rw [hcl]; kernel_rfl) (hq0 _ (Nat.le_refl _)) (add_zero _).symm (by simp [zSt, hcl]) hc1 fun w4 hw4 h6 => ?_
    have e5 : zSt.take 0 ++ cs ++ zSt.drop (0 + cs.length) = cs := by rw [hcl]; simp [zSt]
    rw [e5] at h6
    have hx4 := hx3.then (hw4.bel (hq0 _ (Nat.le_refl _)) hx3.size)
    clear hx3 hq0 hw4 hp hcell
    conv => cbv
    refine st_loadS hE tSt hcl h6.at ?_
    conv => cbv
    rw [hcs]
    have l1 := step_len hst sl s
    have l2 := step_sl e.s e.p sl s
    refine st_g hr (stmtC_g hT hb hst htr ⟨hs0, by omega⟩ (hx.trans hx4) (hM.ext hx4) (by omega) (by omega)) fun _ w5 hcr => ?_
    obtain ⟨⟨sl2, s2⟩, hs2⟩ : ∃ x, x = stepP e.s e.p sl s := ⟨_, rfl⟩
    rw [← hs2] at l1 l2 hcr hcm
    simp only at l1 l2 hcm
    obtain ⟨P2, pn2, pc2, I2, ic2, vs2, hM2, hC2⟩ := hcr.ms
    conv => cbv
    simp only [ej]
    refine ⟨(j + 1, jk, P2, pn2, pc2, sl2, I2, ic2, vs2, s2), by simp [Fits, lk], hJ _ _ ?_, by simp only; omega⟩
    exact ⟨by simp only; omega, by simp only; omega, CR.ext0 hb (hM.ext hx4) hC2 (hx.trans hx4), hM2, hcm, by simp only; omega, by simp only; omega, by simp only; rw [hz]; omega, by simp only; rw [hz]; omega⟩
  · have g : j = m := by
      have : ¬ jj < x1 := by simpa [hE.cmp, cmpR] using g
      omega
    have hF2 : F = (sl, s) := by
      rw [← hcm, List.drop_eq_nil_of_le (by omega)]; rfl
    obtain ⟨nn, hnn⟩ : ∃ nn, nn = s.ins.length := ⟨_, rfl⟩
    have hm := hM.cm
    rw [← hnn] at hm
    conv => cbv
    refine st_nil hE ?_
    conv => cbv
    refine st_fld hE fCp0 fun p1 hp1 => ?_
    conv => cbv
    refine st_loadS hE tIC (vs := [.slice P pn pc, .int .i64 sl, .slice I nn ic]) rfl (by rw [hp1]; rw [add_zero]; exact hm.box.at) ?_
    conv => cbv
    refine st_putS hr (by kernel_rfl) (hq2.bel hx) (add_zero _).symm (by simp) (by simp [Value.oneCell']) fun w3 hw3 hq3 => ?_
    simp only [List.take_zero, List.nil_append, List.length_cons, List.length_nil, List.drop_succ_cons, List.drop_nil, List.append_nil] at hq3
    conv => cbv
    refine st_cell hr tIC rfl hq3.at ?_
    rw [hR, hF2]
    have nw : ∀ {e : TypeId} {k : Nat} {X : Option Addr} {m c : Nat} {xs : List Value}, Own w1.heap.size e k w' X m c xs → Dj X (some q2) := fun hX => (dj_new hq2 hX (Nat.le_refl _)).symm
    have hs1 := hx1.size
    refine ⟨(hx1.trans hx).then (hw3.bel (hq2.bel hx) (Nat.le_trans hx1.size hx.size)), P, pn, pc, I, nn, ic, vs, rfl, CdO.mono ⟨hm.rP.wr hw3 (dj_apart hm.rP (nw hm.rP)), hm.rI.wr hw3 (dj_apart hm.rI (nw hm.rI)), fun v hv => ?_, hm.PI, hm.Pn, hm.In, hm.nn⟩ hs1, hM.eq⟩
    have o1 := (hm.nam v hv).1
    have o2 := o1.wr hw3 (dj_apart o1 (nw o1))
    exact ⟨o2, valm_keep o2 (hm.nam v hv).2⟩
/-- What Compile answers. -/
def CodeP (nv : List PN) (sv : List PS) (tyl : List Int) (x : Int × CS) : Prop := (¬ wellP nv sv tyl ∧ x = (0, ⟨[], []⟩)) ∨ (wellP nv sv tyl ∧ ∃ acc y, TypedP nv sv tyl acc y ∧ x = cmpP (sv.zip acc) 0 ⟨[], []⟩)
theorem CodeP.unique {nv : List PN} {sv : List PS} {tyl : List Int} {x y : Int × CS} (h : CodeP nv sv tyl x) (k : CodeP nv sv tyl y) : x = y := by
  rcases h with ⟨h1, rfl⟩ | ⟨h1, acc, a, ha, rfl⟩ <;> rcases k with ⟨k1, rfl⟩ | ⟨k1, acc2, b, hb, rfl⟩
  · rfl
  · exact absurd k1 h1
  · exact absurd h1 k1
  · have := ha.2.1.symm.trans hb.2.1
    cases this; rfl
theorem typed_ok {nv : List PN} {sv : List PS} {tyl : List Int} (hw : wellP nv sv tyl) {acc : List PT} {y : CK} (h : TypedP nv sv tyl acc y) : (∀ q ∈ sv.zip acc, StOK q.1 q.2) ∧ (pos (acc.flatMap trs)).length = nv.length ∧ acc.length = sv.length ∧ IsTs nv 0 nv.length (roots sv) (acc.flatMap trs) := by
  obtain ⟨⟨p1, p2, p3, p4, p5, _⟩, _⟩ := hw
  obtain ⟨pts, q1, q2, q3, q4, q5⟩ := runS_full leafT_6 leafT_7 sv h.2.1
  rw [List.nil_append] at q1
  subst q1
  have hok := ists_ok (L := 600) q3 fun q p _ _ hq => (fieldsT_iff (p4 p (List.mem_of_getElem? hq)).1).1 (p4 p (List.mem_of_getElem? hq))
  have hall : ∀ q ∈ sv.zip acc, ∀ t ∈ trs q.2, okT t ∧ fewT t := fun q hq t ht => by
    have : t ∈ acc.flatMap trs := List.mem_flatMap.2 ⟨q.2, (List.of_mem_zip hq).2, ht⟩
    exact ⟨okTs_mem hok.1 this, fewTs_mem hok.2 this⟩
  refine ⟨good_ok q5 hall, ?_, q2.1, q3⟩
  have := q3.pos.1
  omega
set_option maxHeartbeats 4000000 in
theorem implCompile_f {w : World} (hT : Tab w 6 constF) (hR0 : STab w 4 words) (hT2 : Tab w 5 opF) {A A2 A3 : Option Addr} {n c n2 c2 n3 c3 : Nat} {nv : List PN} {sv : List PS} {tyl : List Int} (h : TypR w A n A2 n2 A3 n3 c3 nv sv tyl) (hn : n ≤ 9223372036854775807) (hn2 : n2 ≤ 9223372036854775807) :
    FC Tryz.prog 21 [typV A n c A2 n2 c2 A3 n3 c3] w fun v w' => ∃ x, CodO w.heap.size w' v x ∧ CodeP nv sv tyl x := by
  refine FC.intro (cs := []) Tryz.func21 (by kernel_rfl) fun E R hE hr hR => ?_
  conv => cbv
  refine st_box hr fun a w1 hx hb0 => ?_
  have hb := hb0 _ (Nat.le_refl _)
  clear hb0
  conv => cbv
  refine st_alloc hr tIC rfl fun q2 w2 hx2 hq0 => ?_
  have hq2 := hq0 _ hx.size
  clear hq0
  replace hb := hb.bel hx2
  replace hx := hx.trans hx2
  clear hx2
  conv => cbv
  refine st_loadS hE tITyp rfl hb.at ?_
  conv => cbv
  refine st_f hr (typedTrees_f (c := c) (c2 := c2) (hT.ext hx) (hR0.ext hx) (h.ext hx) hn hn2) fun v w3 hx3 ⟨B, m, d, b, ev, h1, h2⟩ => ?_
  subst ev
  replace hq2 := hq2.bel hx3
  replace hx := hx.trans hx3
  clear hx3
  cases b with
  | false =>
    conv => cbv
    refine st_bIC hE ?_
    conv => cbv
    refine st_putS hr (by kernel_rfl) hq2 (add_zero _).symm (by simp) (by simp [Value.oneCell']) fun w4 hw4 hq4 => ?_
    simp only [List.take_zero, List.nil_append, List.length_cons, List.length_nil, List.drop_succ_cons, List.drop_nil, List.append_nil] at hq4
    conv => cbv
    refine st_cell hr tIC rfl hq4.at ?_
    rw [hR]
    exact ⟨hx.then (hw4.bel hq2 hx.size), (0, ⟨[], []⟩), ⟨none, 0, 0, none, 0, 0, [], rfl, CdO.nil, rfl⟩, .inl ⟨fun q => absurd (h1.2 q) Bool.false_ne_true, rfl⟩⟩
  | true =>
  have hw := h1.1 rfl
  obtain ⟨acc, x, hTy, hLS⟩ := h2 rfl
  obtain ⟨k1, k2, k3, _⟩ := typed_ok hw hTy
  have hb6 := hTy.1
  obtain ⟨es, hes, hz, hpm, hsm⟩ := hLS.svs
  have hfl : (es.flatMap fun e => trs e.p) = acc.flatMap trs := by rw [← hpm, List.flatMap_map]
  have hpo : poS es = nv.length := by unfold poS; rw [hfl, k2]
  have hm6 : m ≤ 600 := by
    have := hes.len
    have e2 : (es.map (·.s)).length = sv.length := by rw [hsm]
    rw [List.length_map] at e2
    omega
  clear h1 h2
  conv => cbv
  refine st_f hr (compiled_f (hT2.ext hx) hes hm6 (by omega) (by rw [hz]; exact k1)) fun v w4 hx4 ⟨P, pn, pc, I, ni, ic, vs, ev, hcd, hpl⟩ => ?_
  subst ev
  rw [hz] at hcd hpl ⊢
  have hcp : CodeP nv sv tyl (cmpP (sv.zip acc) 0 ⟨[], []⟩) := .inr ⟨hw, acc, x, hTy, rfl⟩
  obtain ⟨⟨sl, s⟩, hs⟩ : ∃ z, z = cmpP (sv.zip acc) 0 ⟨[], []⟩ := ⟨_, rfl⟩
  rw [← hs] at hcd hpl hcp ⊢
  simp only at hcd hpl ⊢
  have nw : ∀ {e : TypeId} {k : Nat} {X : Option Addr} {m c : Nat} {xs : List Value}, Own w3.heap.size e k w4 X m c xs → Dj X (some q2) := fun hX => (dj_new hq2 hX (Nat.le_refl _)).symm
  conv => cbv
  refine st_putS hr (by kernel_rfl) (hq2.bel hx4) (add_zero _).symm (by simp) (by simp [Value.oneCell']) fun w5 hw5 hq5 => ?_
  simp only [List.take_zero, List.nil_append, List.length_cons, List.length_nil, List.drop_succ_cons, List.drop_nil, List.append_nil] at hq5
  conv => cbv
  refine st_cell hr tIC rfl hq5.at ?_
  rw [hR]
  have hx0 := hx.trans hx4
  refine ⟨hx0.then (hw5.bel (hq2.bel hx4) hx0.size), (sl, s), ⟨P, pn, pc, I, ni, ic, vs, rfl, CdO.mono ⟨hcd.rP.wr hw5 (dj_apart hcd.rP (nw hcd.rP)), hcd.rI.wr hw5 (dj_apart hcd.rI (nw hcd.rI)), fun v hv => ?_, hcd.PI, hcd.Pn, hcd.In, hcd.nn⟩ hx.size, hpl⟩, hcp⟩
  have o1 := (hcd.nam v hv).1
  have o2 := o1.wr hw5 (dj_apart o1 (nw o1))
  exact ⟨o2, valm_keep o2 (hcd.nam v hv).2⟩
end Go.Proofs.YtgdnmpcaiaoaoaaGreatDoor
/- The reference's compiler: its small functions walked. -/
namespace Go.Proofs.YtgdnmpcaiaoaoaaGreatDoor
open Go.Eng
set_option linter.unusedVariables false
set_option linter.unusedSimpArgs false
def z5I : List Value := [.int .i64 0, .int .i64 0, .int .i64 0, .int .i64 0, .string ⟨#[]⟩, .slice none 0 0]
theorem t5I : Stc Tryz.prog 126 6 z5I := ⟨by kernel_rfl, by kernel_rfl⟩
theorem s5I : Slc Tryz.prog 115 126 (.agg ⟨z5I⟩) 6 72 := ⟨Tryz.underlying115, by kernel_rfl⟩
theorem f5I0 : Fld Tryz.prog 126 0 0 := ⟨by kernel_rfl⟩
theorem f5I1 : Fld Tryz.prog 126 1 1 := ⟨by kernel_rfl⟩
theorem f5I2 : Fld Tryz.prog 126 2 2 := ⟨by kernel_rfl⟩
theorem f3V1 : Fld Tryz.prog 223 1 1 := ⟨by kernel_rfl⟩
theorem f3V2 : Fld Tryz.prog 223 2 2 := ⟨by kernel_rfl⟩
theorem f3V3 : Fld Tryz.prog 223 3 3 := ⟨by kernel_rfl⟩
/-- An instruction in memory, its constant with it. -/
structure VI where
  o : Int
  a : Int
  v : VV
def iV (x : VI) : List Value := [.int .i64 x.o, .int .i64 x.a, .int .i64 x.v.p.k, .int .i64 x.v.p.n, .string x.v.p.tx, .slice x.v.A x.v.m x.v.c]
theorem iV_len (x : VI) : (iV x).length = 6 := rfl
def v0V : VV := ⟨⟨0, 0, ⟨#[]⟩, []⟩, none, 0, 0⟩
/-- The reference's instruction, as it lies in memory; its names lie in D. -/
def RIM (D : Nat → Prop) (w : World) : RI → VI → Prop
  | .push p, x => x.o = 1 ∧ x.v.p = p ∧ ValM w x.v ∧ InD D x.v.A x.v.m ∧ x.v.m ≤ 100000
  | .ins o a, x => x.o = o ∧ x.a = a ∧ o ≠ 1
theorem RIM.keep {D D' : Nat → Prop} {w w' : World} {r : RI} {x : VI} (h : RIM D w r x) (hk : Keeps D w w') (hD : ∀ b, D b → D' b) : RIM D' w' r x := by
  cases r with
  | push p =>
    obtain ⟨h1, h2, h3, h4, h5⟩ := h
    exact ⟨h1, h2, ⟨strs_keep h3.1 h4 hk, h3.2⟩, fun a ha hm => hD _ (h4 a ha hm), h5⟩
  | ins o a => exact h
def RIMs (D : Nat → Prop) (w : World) : List RI → List VI → Prop
  | [], [] => True
  | r :: l, x :: xs => RIM D w r x ∧ RIMs D w l xs
  | _, _ => False
theorem RIMs.keep {D D' : Nat → Prop} {w w' : World} (hk : Keeps D w w') (hD : ∀ b, D b → D' b) : ∀ {l : List RI} {xs : List VI}, RIMs D w l xs → RIMs D' w' l xs
  | [], [], _ => trivial
  | r :: l, x :: xs, h => ⟨h.1.keep hk hD, RIMs.keep hk hD h.2⟩
theorem RIMs.append {D : Nat → Prop} {w : World} : ∀ {l l2 : List RI} {xs ys : List VI}, RIMs D w l xs → RIMs D w l2 ys → RIMs D w (l ++ l2) (xs ++ ys)
  | [], l2, [], ys, _, h => h
  | r :: l, l2, x :: xs, ys, h, h2 => ⟨h.1, RIMs.append h.2 h2⟩
theorem RIMs.len {D : Nat → Prop} {w : World} : ∀ {l : List RI} {xs : List VI}, RIMs D w l xs → l.length = xs.length
  | [], [], _ => rfl
  | r :: l, x :: xs, h => by simp [RIMs.len h.2]
theorem RIMs.get {D : Nat → Prop} {w : World} : ∀ {l : List RI} {xs : List VI}, RIMs D w l xs → ∀ (i : Nat) (r : RI) (x : VI), l[i]? = some r → xs[i]? = some x → RIM D w r x
  | r :: l, x :: xs, h, 0, r', x', h1, h2 => by simp at h1 h2; subst h1; subst h2; exact h.1
  | r :: l, x :: xs, h, i + 1, r', x', h1, h2 => RIMs.get h.2 i r' x' (by simpa using h1) (by simpa using h2)
  | [], [], _, i, _, _, h1, _ => by simp at h1
theorem rim_ins {D : Nat → Prop} {w : World} {o a : Int} (h : o ≠ 1) : RIM D w (.ins o a) ⟨o, a, v0V⟩ := ⟨rfl, rfl, h⟩
section
variable {E : Sym} {w : World} {K : Value → World → Prop} {d : Option Tmp} {ty : TypeId} {pos : String} {aft : Array Edge} {g : Option (Nat × Bool)} {bq : Bool}
theorem run_bLI2 (o a : Int) (w : World) : (Instr.build 126 #[(0, .int .i64 o), (1, .int .i64 a)]).run Tryz.prog w = .ok (.agg #[.int .i64 o, .int .i64 a, .int .i64 0, .int .i64 0, .string ⟨#[]⟩, .slice none 0 0]) w := by kernel_rfl
theorem st_bLI2 (hE : EngB bq Tryz.prog E) {o a : Int} {x y : Operand} (hk : K (.agg ⟨[.int .i64 o, .int .i64 a, .int .i64 0, .int .i64 0, .string ⟨#[]⟩, .slice none 0 0]⟩) w) : E.stop ⟨d, .build 126 ⟨[(0, x), (1, y)]⟩, ty, pos, aft, g⟩ [.int .i64 o, .int .i64 a] w K := by
  refine hE.det (v := .agg ⟨[.int .i64 o, .int .i64 a, .int .i64 0, .int .i64 0, .string ⟨#[]⟩, .slice none 0 0]⟩) (fun w1 _ ρ hρ => ?_) hk
  simp only [opnds, List.map_cons, List.map_nil, List.cons.injEq, and_true] at hρ
  have := run_bLI2 o a w1
  simp [execOp, hρ, this]
theorem run_bLI1 (o : Int) (w : World) : (Instr.build 126 #[(0, .int .i64 o)]).run Tryz.prog w = .ok (.agg #[.int .i64 o, .int .i64 0, .int .i64 0, .int .i64 0, .string ⟨#[]⟩, .slice none 0 0]) w := by kernel_rfl
theorem st_bLI1 (hE : EngB bq Tryz.prog E) {o : Int} {x : Operand} (hk : K (.agg ⟨[.int .i64 o, .int .i64 0, .int .i64 0, .int .i64 0, .string ⟨#[]⟩, .slice none 0 0]⟩) w) : E.stop ⟨d, .build 126 ⟨[(0, x)]⟩, ty, pos, aft, g⟩ [.int .i64 o] w K := by
  refine hE.det (v := .agg ⟨[.int .i64 o, .int .i64 0, .int .i64 0, .int .i64 0, .string ⟨#[]⟩, .slice none 0 0]⟩) (fun w1 _ ρ hρ => ?_) hk
  simp only [opnds, List.map_cons, List.map_nil, List.cons.injEq, and_true] at hρ
  have := run_bLI1 o w1
  simp [execOp, hρ, this]
theorem run_bLIv (o k n : Int) (tx : ByteArray) (A : Option Addr) (m c : Nat) (w : World) : (Instr.build 126 #[(0, .int .i64 o), (2, .agg ⟨[.int .i64 k, .int .i64 n, .string tx, .slice A m c]⟩)]).run Tryz.prog w = .ok (.agg #[.int .i64 o, .int .i64 0, .int .i64 k, .int .i64 n, .string tx, .slice A m c]) w := by kernel_rfl
theorem st_bLIv (hE : EngB bq Tryz.prog E) {o k n : Int} {tx : ByteArray} {A : Option Addr} {m c : Nat} {x y : Operand} (hk : K (.agg ⟨[.int .i64 o, .int .i64 0, .int .i64 k, .int .i64 n, .string tx, .slice A m c]⟩) w) : E.stop ⟨d, .build 126 ⟨[(0, x), (2, y)]⟩, ty, pos, aft, g⟩ [.int .i64 o, .agg ⟨[.int .i64 k, .int .i64 n, .string tx, .slice A m c]⟩] w K := by
  refine hE.det (v := .agg ⟨[.int .i64 o, .int .i64 0, .int .i64 k, .int .i64 n, .string tx, .slice A m c]⟩) (fun w1 _ ρ hρ => ?_) hk
  simp only [opnds, List.map_cons, List.map_nil, List.cons.injEq, and_true] at hρ
  have := run_bLIv o k n tx A m c w1
  simp [execOp, hρ, this]
theorem run_b3V (n : Int) (tx : ByteArray) (A : Option Addr) (m c : Nat) (w : World) : (Instr.build 223 #[(1, .int .i64 n), (2, .string tx), (3, .slice A m c)]).run Tryz.prog w = .ok (.agg #[.int .i64 0, .int .i64 n, .string tx, .slice A m c]) w := by kernel_rfl
theorem st_b3V (hE : EngB bq Tryz.prog E) {n : Int} {tx : ByteArray} {A : Option Addr} {m c : Nat} {x y z : Operand} (hk : K (.agg ⟨[.int .i64 0, .int .i64 n, .string tx, .slice A m c]⟩) w) : E.stop ⟨d, .build 223 ⟨[(1, x), (2, y), (3, z)]⟩, ty, pos, aft, g⟩ [.int .i64 n, .string tx, .slice A m c] w K := by
  refine hE.det (v := .agg ⟨[.int .i64 0, .int .i64 n, .string tx, .slice A m c]⟩) (fun w1 _ ρ hρ => ?_) hk
  simp only [opnds, List.map_cons, List.map_nil, List.cons.injEq, and_true] at hρ
  have := run_b3V n tx A m c w1
  simp [execOp, hρ, this]
theorem run_bVn (k n : Int) (tx : ByteArray) (A : Option Addr) (m c : Nat) (w : World) : (Instr.build 124 #[(0, .int .i64 k), (1, .int .i64 n), (2, .string tx), (3, .slice A m c)]).run Tryz.prog w = .ok (.agg #[.int .i64 k, .int .i64 n, .string tx, .slice A m c]) w := by kernel_rfl
theorem st_bVn (hE : EngB bq Tryz.prog E) {k n : Int} {tx : ByteArray} {A : Option Addr} {m c : Nat} {x y z u : Operand} (hk : K (.agg ⟨[.int .i64 k, .int .i64 n, .string tx, .slice A m c]⟩) w) : E.stop ⟨d, .build 124 ⟨[(0, x), (1, y), (2, z), (3, u)]⟩, ty, pos, aft, g⟩ [.int .i64 k, .int .i64 n, .string tx, .slice A m c] w K := by
  refine hE.det (v := .agg ⟨[.int .i64 k, .int .i64 n, .string tx, .slice A m c]⟩) (fun w1 _ ρ hρ => ?_) hk
  simp only [opnds, List.map_cons, List.map_nil, List.cons.injEq, and_true] at hρ
  have := run_bVn k n tx A m c w1
  simp [execOp, hρ, this]
end
/-! ### Which type, which operation -/
theorem l5typeOf_f {w : World} {k : Int} (hk : 1 ≤ k ∧ k ≤ 4) : FC Tryz.prog 125 [.int .i64 (opK k)] w fun v _ => v = .int .i64 k := by
  refine FC.intro (cs := []) Tryz.func125 (by kernel_rfl) fun E R hE hr hR => ?_
  obtain ⟨o, ho⟩ : ∃ o, o = opK k := ⟨_, rfl⟩
  rw [← ho]
  have hv : (o = 1 ∧ k = 2) ∨ (o = 2 ∧ k = 3) ∨ (o = 3 ∧ k = 1) ∨ (o = 4 ∧ k = 4) := by
    unfold opK at ho
    split at ho
    · omega
    · split at ho
      · omega
      · split at ho <;> omega
  conv => cbv
  refine br (fun g => ?_) (fun g => ?_)
  · have g : o = 1 := by simpa [hE.cmp, cmpR] using g
    conv => cbv
    rw [hR]; refine ⟨Ext.refl _, ?_⟩
    rw [show k = 2 by omega]; rfl
  have g1 : o ≠ 1 := by simpa [hE.cmp, cmpR] using g
  conv => cbv
  refine br (fun g => ?_) (fun g => ?_)
  · have g : o = 2 := by simpa [hE.cmp, cmpR] using g
    conv => cbv
    rw [hR]; refine ⟨Ext.refl _, ?_⟩
    rw [show k = 3 by omega]; rfl
  have g2 : o ≠ 2 := by simpa [hE.cmp, cmpR] using g
  conv => cbv
  refine br (fun g => ?_) (fun g => ?_)
  · have g : o = 3 := by simpa [hE.cmp, cmpR] using g
    conv => cbv
    rw [hR]; refine ⟨Ext.refl _, ?_⟩
    rw [show k = 1 by omega]; rfl
  have g3 : o ≠ 3 := by simpa [hE.cmp, cmpR] using g
  conv => cbv
  rw [hR]; refine ⟨Ext.refl _, ?_⟩
  rw [show k = 4 by omega]; rfl
theorem l5op_f {w : World} {o : Int} (h : 8 ≤ o ∧ o ≤ 27) : FC Tryz.prog 128 [.int .i64 o] w fun v _ => v = .int .i64 (opcO o) := by
  refine FC.intro (cs := []) Tryz.func128 (by kernel_rfl) fun E R hE hr hR => ?_
  obtain ⟨z, hz⟩ : ∃ z, z = opcO o := ⟨_, rfl⟩
  rw [← hz] at hR
  unfold opcO at hz
  obtain ⟨a, ha⟩ : ∃ a, a = 5 + o := ⟨_, rfl⟩
  obtain ⟨b, hb⟩ : ∃ b, b = 8 + o := ⟨_, rfl⟩
  have e1 : E.ar .add .i64 5 o = a := by rw [hE.ar, ha]; exact wrap_in (by omega) (by omega)
  have e2 : E.ar .sub .i64 a 8 = z := by rw [hE.ar, show arR .sub .i64 a 8 = IntKind.i64.wrap (a - 8) from rfl, wrap_in (by omega) (by omega)]; omega
  have e3 : E.ar .add .i64 8 o = b := by rw [hE.ar, hb]; exact wrap_in (by omega) (by omega)
  have e4 : E.ar .sub .i64 b 11 = z := by rw [hE.ar, show arR .sub .i64 b 11 = IntKind.i64.wrap (b - 11) from rfl, wrap_in (by omega) (by omega)]; omega
  conv => cbv
  refine br (fun g => ?_) (fun g => ?_)
  · conv => cbv
    simp only [e1, e2]
    rw [hR]; exact ⟨Ext.refl _, rfl⟩
  · conv => cbv
    simp only [e3, e4]
    rw [hR]; exact ⟨Ext.refl _, rfl⟩
/-! ### Whether two constants are the same -/
set_option maxHeartbeats 1000000 in
theorem l3same_f {w : World} {c1 c2 n1 n2 : Int} {t1 t2 : ByteArray} {A1 A2 : Option Addr} {m1 m2 d1 d2 : Nat} {xs ys : List ByteArray} (h1 : Strs w A1 m1 d1 xs) (h2 : Strs w A2 m2 d2 ys) :
    FC Tryz.prog 129 [.agg ⟨[.int .i64 c1, .int .i64 n1, .string t1, .slice A1 m1 d1]⟩, .agg ⟨[.int .i64 c2, .int .i64 n2, .string t2, .slice A2 m2 d2]⟩] w fun v _ => ∃ b : Bool, v = .bool b ∧ (b = true ↔ n1 = n2 ∧ t1 = t2 ∧ xs = ys) := by
  refine FC.intro (cs := []) Tryz.func129 (by kernel_rfl) fun E R hE hr hR => ?_
  have hl1 := h1.len
  have hl2 := h2.len
  have hle := h1.le
  have no : ∀ {w'}, Ext w w' → ¬ (n1 = n2 ∧ t1 = t2 ∧ xs = ys) → R (.bool false) w' := fun hx q => by
    rw [hR]; exact ⟨hx, false, rfl, (fun z => by cases z), fun z => absurd z q⟩
  conv => cbv
  refine st_box hr fun a w1 hx h10 => ?_
  have ha := h10 _ (Nat.le_refl _)
  conv => cbv
  refine st_box hr fun b w2 hx2 h20 => ?_
  have hb := h20 _ hx.size
  replace ha := ha.bel hx2
  replace hx := hx.trans hx2
  clear h10 h20 hx2
  conv => cbv
  (refine st_fld hE f3V1 fun p hp => ?_; (conv => cbv); refine st_load hE cI64 (by rw [hp]; exact (ha).at _ _ rfl) ?_; clear hp; (conv => cbv))
  (refine st_fld hE f3V1 fun p hp => ?_; (conv => cbv); refine st_load hE cI64 (by rw [hp]; exact (hb).at _ _ rfl) ?_; clear hp; (conv => cbv))
  refine br (fun g => ?_) (fun g => ?_)
  · have g : n1 ≠ n2 := by simpa [hE.cmp, cmpR] using g
    conv => cbv
    exact no hx (fun q => g q.1)
  have g1 : n1 = n2 := by simpa [hE.cmp, cmpR] using g
  conv => cbv
  (refine st_fld hE f3V2 fun p hp => ?_; (conv => cbv); refine st_load hE cStr (by rw [hp]; exact (ha).at _ _ rfl) ?_; clear hp; (conv => cbv))
  (refine st_fld hE f3V2 fun p hp => ?_; (conv => cbv); refine st_load hE cStr (by rw [hp]; exact (hb).at _ _ rfl) ?_; clear hp; (conv => cbv))
  refine br (fun g => ?_) (fun g => ?_)
  · have g : t1 ≠ t2 := by have g3 : E.scmp .neq t1 t2 = true := g; rw [hE.scmp, scmp_neq] at g3; exact g3
    conv => cbv
    exact no hx (fun q => g q.2.1)
  have g2 : t1 = t2 := by
    have g3 : ¬ E.scmp .neq t1 t2 = true := g
    rw [hE.scmp, scmp_neq] at g3
    exact Classical.byContradiction g3
  conv => cbv
  (refine st_fld hE f3V3 fun p hp => ?_; (conv => cbv); refine st_load hE cStrs (by rw [hp]; exact (ha).at _ _ rfl) ?_; clear hp; (conv => cbv))
  refine st_len hE tStrs fun x1 hx1 => ?_
  conv => cbv
  (refine st_fld hE f3V3 fun p hp => ?_; (conv => cbv); refine st_load hE cStrs (by rw [hp]; exact (hb).at _ _ rfl) ?_; clear hp; (conv => cbv))
  refine st_len hE tStrs fun x2 hx2 => ?_
  conv => cbv
  refine br (fun g => ?_) (fun g => ?_)
  · have g : x1 ≠ x2 := by simpa [hE.cmp, cmpR] using g
    conv => cbv
    exact no hx (fun q => g (by rw [q.2.2] at hl1; omega))
  have g3 : m1 = m2 := by
    have : x1 = x2 := by simpa [hE.cmp, cmpR] using g
    omega
  subst g3
  conv => cbv
  (refine st_fld hE f3V3 fun p hp => ?_; (conv => cbv); refine st_load hE cStrs (by rw [hp]; exact (ha).at _ _ rfl) ?_; clear hp; (conv => cbv))
  refine st_len hE tStrs fun x3 hx3 => ?_
  conv => cbv
  refine loop_rule hr (fun (s : Nat × Int) w' => s.1 ≤ m1 ∧ s.2 = (s.1 : Int) ∧ Ext w w' ∧ Box w.heap.size 223 4 w' b [.int .i64 c2, .int .i64 n2, .string t2, .slice A2 m1 d2] ∧ xs.take s.1 = ys.take s.1)
    (fun s => [(2, .pointer (some a)), (3, .pointer (some b)), (4, .bool false), (29, .slice A1 m1 d1), (30, .int .i64 x3), (31, .int .i64 s.2)]) (fun s => m1 - s.1) (0, 0)
    (by simp [Fits, lk]) ⟨by simp, by simp, hx, hb, by simp⟩ ?_
  clear hx ha hb
  rintro I hI ⟨i, ii⟩ w' ⟨hi, hii, hx, hb, hall⟩
  simp only at hi hii hall
  obtain ⟨ii', hii'⟩ : ∃ z, z = ii + 1 := ⟨_, rfl⟩
  conv => cbv
  refine br (fun g => ?_) (fun g => ?_)
  · have g : i < m1 := by
      have : ii < x3 := by simpa [hE.cmp, cmpR] using g
      omega
    have e1 : E.ar .add .i64 ii 1 = ii' := by rw [hE.ar, hii']; exact wrap_in (by omega) (by omega)
    conv => cbv
    refine st_str hE tStrs (h1.ext hx) (k := i) (by omega) g fun p u hu _ hp => ?_
    conv => cbv
    refine st_load hE cStr hp ?_
    conv => cbv
    (refine st_fld hE f3V3 fun p hp => ?_; (conv => cbv); refine st_load hE cStrs (by rw [hp]; exact (hb).at _ _ rfl) ?_; clear hp; (conv => cbv))
    refine st_str hE tStrs (h2.ext hx) (k := i) (by omega) g fun p2 y hy _ hp2 => ?_
    conv => cbv
    refine st_load hE cStr hp2 ?_
    conv => cbv
    refine br (fun g2 => ?_) (fun g2 => ?_)
    · have g2 : y ≠ u := by have g3 : E.scmp .neq y u = true := g2; rw [hE.scmp, scmp_neq] at g3; exact g3
      conv => cbv
      exact no hx (fun q => g2 (by rw [q.2.2, hy] at hu; cases hu; rfl))
    have g2 : y = u := by
      have g3 : ¬ E.scmp .neq y u = true := g2
      rw [hE.scmp, scmp_neq] at g3
      exact Classical.byContradiction g3
    conv => cbv
    simp only [e1]
    exact ⟨(i + 1, ii'), by simp [Fits, lk], hI _ _ ⟨by simp only; omega, by simp only; omega, hx, hb, by simp only; rw [List.take_add_one, List.take_add_one, hall, hu, hy, g2]⟩, by simp only; omega⟩
  · have g : i = m1 := by
      have : ¬ ii < x3 := by simpa [hE.cmp, cmpR] using g
      omega
    rw [List.take_of_length_le (by omega), List.take_of_length_le (by omega)] at hall
    conv => cbv
    rw [hR]; exact ⟨hx, true, rfl, fun _ => ⟨g1, g2, hall⟩, fun _ => rfl⟩
set_option maxHeartbeats 1000000 in
theorem l5sameValue_f {w : World} {a b : VV} (ha : ValM w a) (hb : ValM w b) : FC Tryz.prog 69 [.agg ⟨vC a⟩, .agg ⟨vC b⟩] w fun v _ => ∃ r : Bool, v = .bool r ∧ (r = true ↔ a.p = b.p) := by
  refine FC.intro (cs := []) Tryz.func69 (by kernel_rfl) fun E R hE hr hR => ?_
  obtain ⟨⟨k, n, tx, xs⟩, A, m, c⟩ := a
  obtain ⟨⟨k', n', tx', xs'⟩, A', m', c'⟩ := b
  obtain ⟨ha, _⟩ := ha
  obtain ⟨hb, _⟩ := hb
  simp only at ha hb
  conv => cbv
  refine st_box hr fun a w1 hx h10 => ?_
  have h1 := h10 _ (Nat.le_refl _)
  conv => cbv
  refine st_box hr fun b w2 hx2 h20 => ?_
  have h2 := h20 _ hx.size
  replace h1 := h1.bel hx2
  replace hx := hx.trans hx2
  clear h10 h20 hx2
  conv => cbv
  (refine st_fld hE fIV0 fun p hp => ?_; (conv => cbv); refine st_load hE cInt (by rw [hp]; exact (h1).at _ _ rfl) ?_; clear hp; (conv => cbv))
  (refine st_fld hE fIV0 fun p hp => ?_; (conv => cbv); refine st_load hE cInt (by rw [hp]; exact (h2).at _ _ rfl) ?_; clear hp; (conv => cbv))
  refine br (fun g => ?_) (fun g => ?_)
  rotate_left
  · have g : k ≠ k' := by simpa [hE.cmp, cmpR] using g
    conv => cbv
    rw [hR]; exact ⟨hx, false, rfl, (fun z => by cases z), fun z => absurd (by cases z; rfl) g⟩
  have g1 : k = k' := by simpa [hE.cmp, cmpR] using g
  conv => cbv
  (refine st_fld hE fIV1 fun p hp => ?_; (conv => cbv); refine st_load hE cI64 (by rw [hp]; exact (h1).at _ _ rfl) ?_; clear hp; (conv => cbv))
  (refine st_fld hE fIV2 fun p hp => ?_; (conv => cbv); refine st_load hE cStr (by rw [hp]; exact (h1).at _ _ rfl) ?_; clear hp; (conv => cbv))
  (refine st_fld hE fIV3 fun p hp => ?_; (conv => cbv); refine st_load hE cStrs (by rw [hp]; exact (h1).at _ _ rfl) ?_; clear hp; (conv => cbv))
  refine st_b3V hE ?_
  conv => cbv
  (refine st_fld hE fIV1 fun p hp => ?_; (conv => cbv); refine st_load hE cI64 (by rw [hp]; exact (h2).at _ _ rfl) ?_; clear hp; (conv => cbv))
  (refine st_fld hE fIV2 fun p hp => ?_; (conv => cbv); refine st_load hE cStr (by rw [hp]; exact (h2).at _ _ rfl) ?_; clear hp; (conv => cbv))
  (refine st_fld hE fIV3 fun p hp => ?_; (conv => cbv); refine st_load hE cStrs (by rw [hp]; exact (h2).at _ _ rfl) ?_; clear hp; (conv => cbv))
  refine st_b3V hE ?_
  conv => cbv
  refine st_f hr (l3same_f (n1 := n) (n2 := n') (t1 := tx) (t2 := tx') (ha.ext hx) (hb.ext hx)) fun v w3 hx3 ⟨r, ev, hrr⟩ => ?_
  subst ev
  conv => cbv
  rw [hR]
  refine ⟨hx.trans hx3, r, rfl, ?_⟩
  rw [hrr, g1]
  simp
end Go.Proofs.YtgdnmpcaiaoaoaaGreatDoor
/- The reference's compiler: l5push, l5bool, l5size walked; rows of its instructions. -/
namespace Go.Proofs.YtgdnmpcaiaoaoaaGreatDoor
open Go.Eng
set_option linter.unusedVariables false
set_option linter.unusedSimpArgs false
theorem l5push_f {w : World} {k n : Int} {tx : ByteArray} {A : Option Addr} {m c : Nat} : FC Tryz.prog 124 [.agg ⟨[.int .i64 k, .int .i64 n, .string tx, .slice A m c]⟩] w fun v _ => v = .agg ⟨[.int .i64 1, .int .i64 0, .int .i64 k, .int .i64 n, .string tx, .slice A m c]⟩ := by
  refine FC.intro (cs := []) Tryz.func124 (by kernel_rfl) fun E R hE hr hR => ?_
  conv => cbv
  refine st_box hr fun a w1 hx h10 => ?_
  have h1 := h10 _ (Nat.le_refl _)
  conv => cbv
  refine st_alloc hr t5I rfl fun q w2 hx2 hq0 => ?_
  conv => cbv
  refine st_loadS hE tIV rfl (h1.bel hx2).at ?_
  conv => cbv
  refine st_bLIv hE ?_
  conv => cbv
  refine st_putS hr (by kernel_rfl) (hq0 _ (Nat.le_refl _)) (add_zero _).symm (by simp [z5I]) (by simp [Value.oneCell']) fun w3 hw3 hq3 => ?_
  simp only [z5I, List.take_zero, List.nil_append, List.length_cons, List.length_nil, List.drop_succ_cons, List.drop_nil, List.append_nil] at hq3
  conv => cbv
  refine st_cell hr t5I rfl hq3.at ?_
  rw [hR]
  exact ⟨hx.trans (hx2.then (hw3.bel (hq0 _ (Nat.le_refl _)) hx2.size)), rfl⟩
theorem l5bool_f {w : World} {n : Int} : FC Tryz.prog 127 [.int .i64 n] w fun v _ => v = .agg ⟨[.int .i64 1, .int .i64 0, .int .i64 1, .int .i64 n, .string ⟨#[]⟩, .slice none 0 0]⟩ := by
  refine FC.intro (cs := []) Tryz.func127 (by kernel_rfl) fun E R hE hr hR => ?_
  conv => cbv
  refine st_alloc hr t5I rfl fun q w2 hx2 hq0 => ?_
  conv => cbv
  refine st_bVt hE ?_
  conv => cbv
  refine st_f hr l5push_f fun v w3 hx3 ev => ?_
  subst ev
  conv => cbv
  refine st_putS hr (by kernel_rfl) ((hq0 _ (Nat.le_refl _)).bel hx3) (add_zero _).symm (by simp [z5I]) (by simp [Value.oneCell']) fun w4 hw3 hq3 => ?_
  simp only [z5I, List.take_zero, List.nil_append, List.length_cons, List.length_nil, List.drop_succ_cons, List.drop_nil, List.append_nil] at hq3
  conv => cbv
  refine st_cell hr t5I rfl hq3.at ?_
  rw [hR]
  exact ⟨(hx2.trans hx3).then (hw3.bel ((hq0 _ (Nat.le_refl _)).bel hx3) (Nat.le_trans hx2.size hx3.size)), rfl⟩
theorem szT_leaf {t : Tr} (h : ∀ o kids at_, t ≠ .op o kids at_) : szT t = 1 := by
  cases t with
  | op o kids at_ => exact absurd rfl (h o kids at_)
  | _ => simp [szT]
set_option maxHeartbeats 4000000 in
theorem l5size_f : ∀ (n : Nat) (t : Tr) (cv : C5) (w : World) (D : Nat → Prop), dep t ≤ n → L4V D w t cv → (∀ b, D b → b < w.heap.size) → szT t ≤ 100000 →
    FC Tryz.prog 126 [.agg ⟨c5 cv⟩] w fun r _ => r = .int .i64 (szT t) := by
  intro n
  induction n with
  | zero => intro t v w D h; cases t <;> simp [dep] at h
  | succ n ih =>
    intro t cv w D hn ht hD hsz
    refine FC.intro (cs := []) Tryz.func126 (by kernel_rfl) fun E R hE hr hR => ?_
    obtain ⟨F, hF⟩ : ∃ F : Nat, F = szT t := ⟨_, rfl⟩
    rw [← hF] at hR hsz
    obtain ⟨o, z, tx, A, m, c, BK, k, d, kids, vs, rfl, hvl, hk3, hcl, hin, hts, hor⟩ := ht.view
    have hkl := hts.len
    have hkd : ∀ t' ∈ kids, dep t' ≤ n := fun t' ht' => by
      rcases hor with ⟨at_, rfl⟩ | ⟨e, _⟩
      · simp only [dep] at hn; have := deps_mem ht'; omega
      · rw [e] at ht'; cases ht'
    have hFs : F = 1 + szTs kids + (if o = 25 ∨ o = 26 then 2 else if o = 27 then 1 else 0) := by
      rw [hF]
      rcases hor with ⟨at_, rfl⟩ | ⟨e, _, h1, h2, h3⟩
      · rw [szT]
      · rw [szT_leaf h3, e, if_neg (by omega), if_neg (by omega)]; simp [szTs]
    conv => cbv
    refine st_box hr fun a w1 hx hb0 => ?_
    have hb := hb0 _ (Nat.le_refl _)
    clear hb0
    conv => cbv
    (refine st_fld hE fL44 fun p hp => ?_; (conv => cbv); refine st_load hE cL4s (by rw [hp]; exact (hb).at _ _ rfl) ?_; clear hp; (conv => cbv))
    refine st_len hE sL4 fun x hx' => ?_
    conv => cbv
    refine loop_rule hr (fun (s : Nat × Int × Int) w' => s.1 ≤ k ∧ s.2.1 = (s.1 : Int) ∧ Ext w w' ∧ Box w.heap.size 121 5 w' a [.int .i64 o, .int .i64 z, .string tx, .slice A m c, .slice BK k d] ∧ s.2.2 + szTs (kids.drop s.1) = 1 + szTs kids ∧ 0 ≤ s.2.2) (fun s => [(1, .pointer (some a)), (3, .int .i64 s.2.2), (7, .slice BK k d), (8, .int .i64 x), (9, .int .i64 s.2.1)]) (fun s => k - s.1) (0, 0, 1)
      (by simp [Fits, lk]) ⟨by simp, by simp, hx, hb, by simp, by simp⟩ ?_
    clear hx hb
    rintro I hI ⟨j, jj, y⟩ w' ⟨hj, hjj, hx, hb, hd, hy0⟩
    simp only at hj hjj hd hy0
    obtain ⟨jk, hjk⟩ : ∃ z, z = jj + 1 := ⟨_, rfl⟩
    conv => cbv
    refine br (fun g => ?_) (fun g => ?_)
    · have g : j < k := by
        have : jj < x := by simpa [hE.cmp, cmpR] using g
        omega
      have ej : E.ar .add .i64 jj 1 = jk := by rw [hE.ar, hjk]; exact wrap_in (by omega) (by omega)
      obtain ⟨u, hu⟩ : ∃ u, vs[j]? = some u := ⟨_, List.getElem?_eq_getElem (by omega)⟩
      obtain ⟨t', ht'⟩ : ∃ t', kids[j]? = some t' := ⟨_, List.getElem?_eq_getElem (by omega)⟩
      have hdr := szTs_drop ht'
      have htu := (hts.get j t' u ht' hu).ext hD hx
      obtain ⟨aK, hBK, hcell⟩ := fl_at c5_len (hcl.ext hx) (by omega) hu
      have hone := htu.one
      obtain ⟨ua, ub, uc, ud, ue⟩ := u
      conv => cbv
      refine st_idx hE sL4 hBK (by omega) (by omega) fun p hp => ?_
      rw [show jj.toNat = j by omega] at hp
      conv => cbv
      refine st_loadS hE tL4 (vs := [ua, ub, uc, ud, ue]) rfl (by rw [hp]; exact hcell) ?_
      conv => cbv
      refine st_alloc hr tL4 rfl fun q4 w3 hx3 hq0 => ?_
      conv => cbv
      refine st_putS hr (by kernel_rfl) (hq0 _ (Nat.le_refl _)) (add_zero _).symm (by simp [zL4]) (by simpa [c5] using hone) fun w4 hw4 hq4 => ?_
      simp only [zL4, List.take_zero, List.nil_append, List.length_cons, List.length_nil, List.drop_succ_cons, List.drop_nil, List.append_nil] at hq4
      have hx34 := hx3.then (hw4.bel (hq0 _ (Nat.le_refl _)) hx3.size)
      have hx4 := hx.trans hx34
      conv => cbv
      refine st_loadS hE tL4 rfl hq4.at ?_
      have hD' : ∀ b, D b → b < w'.heap.size := fun b hb => Nat.lt_of_lt_of_le (hD b hb) hx.size
      have hszk : szT t' ≤ 100000 := by omega
      have hrec := ih t' ⟨ua, ub, uc, ud, ue⟩ w4 D (hkd t' (List.mem_of_getElem? ht')) (htu.ext hD' hx34) (fun b hb => Nat.lt_of_lt_of_le (hD b hb) hx4.size) hszk
      obtain ⟨st, hst⟩ : ∃ st : Int, st = (szT t' : Int) := ⟨_, rfl⟩
      rw [← hst] at hrec
      conv => cbv
      refine st_f hr hrec fun r w5 hx5 ev => ?_
      subst ev
      obtain ⟨y2, hy2⟩ : ∃ z, z = y + st := ⟨_, rfl⟩
      have ey : E.ar .add .i64 y st = y2 := by rw [hE.ar, hy2]; exact wrap_in (by omega) (by omega)
      conv => cbv
      simp only [ej, ey]
      exact ⟨(j + 1, jk, y2), by simp [Fits, lk], hI _ _ ⟨by simp only; omega, by simp only; omega, hx4.trans hx5, hb.bel (hx34.trans hx5), by simp only; omega, by simp only; omega⟩, by simp only; omega⟩
    · have g : j = k := by
        have : ¬ jj < x := by simpa [hE.cmp, cmpR] using g
        omega
      rw [List.drop_eq_nil_of_le (by omega), szTs] at hd
      obtain ⟨y2, hy2⟩ : ∃ z, z = y + 2 := ⟨_, rfl⟩
      have e2 : E.ar .add .i64 y 2 = y2 := by rw [hE.ar, hy2]; exact wrap_in (by omega) (by omega)
      obtain ⟨y1, hy1⟩ : ∃ z, z = y + 1 := ⟨_, rfl⟩
      have e1 : E.ar .add .i64 y 1 = y1 := by rw [hE.ar, hy1]; exact wrap_in (by omega) (by omega)
      have fin : ∀ {y' : Int}, y' = F → R (.int .i64 y') w' := fun e => by rw [hR, e]; exact ⟨hx, rfl⟩
      conv => cbv
      (refine st_fld hE fL40 fun p hp => ?_; (conv => cbv); refine st_load hE cInt (by rw [hp]; exact (hb).at _ _ rfl) ?_; clear hp; (conv => cbv))
      refine br (fun g1 => ?_) (fun g1 => ?_)
      · have g1 : o = 25 := by simpa [hE.cmp, cmpR] using g1
        rw [if_pos (.inl g1)] at hFs
        conv => cbv
        refine br (fun _ => ?_) (fun q => absurd g1 (by simpa [hE.cmp, cmpR] using q))
        conv => cbv
        simp only [e2]
        exact fin (by omega)
      have g1 : o ≠ 25 := by simpa [hE.cmp, cmpR] using g1
      conv => cbv
      refine br (fun g2 => ?_) (fun g2 => ?_)
      · have g2 : o = 26 := by simpa [hE.cmp, cmpR] using g2
        rw [if_pos (.inr g2)] at hFs
        conv => cbv
        simp only [e2]
        exact fin (by omega)
      have g2 : o ≠ 26 := by simpa [hE.cmp, cmpR] using g2
      conv => cbv
      refine br (fun g3 => ?_) (fun g3 => ?_)
      · have g3 : o = 27 := by simpa [hE.cmp, cmpR] using g3
        rw [if_neg (by omega), if_pos g3] at hFs
        conv => cbv
        simp only [e1]
        exact fin (by omega)
      have g3 : o ≠ 27 := by simpa [hE.cmp, cmpR] using g3
      rw [if_neg (by omega), if_neg (by omega)] at hFs
      conv => cbv
      exact fin (by omega)
/-! ### Rows of instructions -/
def LR (w0 w : World) (D : Nat → Prop) (A : Option Addr) (m c : Nat) (l : List RI) : Prop := ∃ xs : List VI, Own w0.heap.size 126 6 w A m c (xs.flatMap iV) ∧ RIMs D w l xs
theorem LR.len {w0 w : World} {D : Nat → Prop} {A : Option Addr} {m c : Nat} {l : List RI} (h : LR w0 w D A m c l) : l.length = m := by
  obtain ⟨xs, h1, h2⟩ := h
  have := h1.len
  rw [fl_len iV_len] at this
  have := h2.len
  omega
theorem LR.keep {w0 w w' : World} {D : Nat → Prop} {A : Option Addr} {m c : Nat} {l : List RI} (h : LR w0 w D A m c l) (hD : ∀ b, D b → b < w.heap.size) (hx : Ext w w') : LR w0 w' D A m c l := by
  obtain ⟨xs, h1, h2⟩ := h
  exact ⟨xs, h1.bel hx, h2.keep (fun b hb => hx.block b (hD b hb)) (fun _ h => h)⟩
theorem iV_one (xs : List VI) : ∀ v ∈ xs.flatMap iV, v.oneCell' = true := by
  intro v hv
  obtain ⟨x, _, hx⟩ := List.mem_flatMap.1 hv
  simp only [iV, List.mem_cons, List.not_mem_nil, or_false] at hx
  rcases hx with rfl | rfl | rfl | rfl | rfl | rfl <;> rfl
section
variable {E : Sym} {w : World} {K : Value → World → Prop} {d : Option Tmp} {ty : TypeId} {pos : String} {aft : Array Edge} {g : Option (Nat × Bool)} {Pn : List PanicEntry → World → Prop} {nn : Nat}
theorem st_app5 (hE : E = real Tryz.prog Pn nn) {w0 : World} {D : Nat → Prop} (hD : ∀ b, D b → b < w0.heap.size) {A A1 : Option Addr} {m c m1 c1 : Nat} {l l2 : List RI} {ys : List VI} {ao : Array Operand} (h : LR w0 w D A m c l) (hx : Ext w0 w) (hn : Cells w A1 (ys.flatMap iV)) (hy : RIMs D w l2 ys) (hl : ys.length = m1) (h0 : 0 < m1) (hm : m + m1 ≤ 1000000)
    (hk : ∀ A' c' m' w', m' = m + m1 → Ext w0 w' → LR w0 w' D A' m' c' (l ++ l2) → K (.slice A' m' c') w') : E.stop ⟨d, .call ⟨.builtin .append, ao, #[115, 115]⟩, ty, pos, aft, g⟩ [.slice A m c, .slice A1 m1 c1] w K := by
  obtain ⟨xs, h1, h2⟩ := h
  refine st_appsK hE s5I rfl (by omega) h1 hn (by rw [fl_len iV_len]; omega) h0 (iV_one ys) hx.size (by omega) (by omega) fun A' c' m' w' hm' hw ho => ?_
  have hx' : Ext w0 w' := hx.then (hw.bel h1 hx.size)
  have hK : Keeps D w w' := fun b hb => hw.block b (Nat.lt_of_lt_of_le (hD b hb) hx.size) (fun e => by have := (own_blk h1 b e.symm).1; have := hD b hb; omega)
  exact hk A' c' m' w' hm' hx' ⟨xs ++ ys, by rw [List.flatMap_append]; exact ho, (h2.keep hK fun _ h => h).append (hy.keep hK fun _ h => h)⟩
end
mutual
/-- The constants are of one of the four types. -/
def conT : Tr → Prop
  | .con k _ _ _ _ => 1 ≤ k ∧ k ≤ 4
  | .op _ kids _ => conTs kids
  | _ => True
def conTs : List Tr → Prop
  | [] => True
  | t :: l => conT t ∧ conTs l
end
theorem conTs_mem : ∀ {l : List Tr} {t : Tr}, conTs l → t ∈ l → conT t
  | u :: l, t, h, e => by
    simp only [conTs] at h
    rcases List.mem_cons.1 e with rfl | e
    · exact h.1
    · exact conTs_mem h.2 e
theorem ists_con {ns : List PN} {a b : Nat} {ks : List Int} {ts : List Tr} (h : IsTs ns a b ks ts) : conTs ts := by
  induction h with
  | nil a => simp only [conTs]
  | @cons a b k p ks kids ts hp hk h1 h2 i1 i2 =>
    simp only [conTs]
    refine ⟨?_, i2⟩
    unfold mkT
    split
    · unfold leafF
      split
      · simp only [conT]
      · split
        · simp only [conT]
        · split
          · simp only [conT]
          · simp only [conT]; unfold knd; (repeat' split) <;> omega
    · simp only [conT]; exact i1
end Go.Proofs.YtgdnmpcaiaoaoaaGreatDoor
/- The reference's compiler: l5tree walked. Printed by gen_g10.py. -/
namespace Go.Proofs.YtgdnmpcaiaoaoaaGreatDoor
open Go.Eng
set_option linter.unusedVariables false
set_option linter.unusedSimpArgs false
theorem LR.low {w0 w1 w : World} {D : Nat → Prop} {A : Option Addr} {m c : Nat} {l : List RI} (h : LR w1 w D A m c l) (hs : w0.heap.size ≤ w1.heap.size) : LR w0 w D A m c l := by
  obtain ⟨xs, h1, h2⟩ := h
  exact ⟨xs, h1.mono hs, h2⟩
/-- What l5tree gives, of trees this deep. -/
def L5C (n : Nat) : Prop := ∀ (t : Tr) (cv : C5) (w : World) (D : Nat → Prop), dep t ≤ n → L4V D w t cv → (∀ b, D b → b < w.heap.size) → okT t → conT t → fewT t → ∀ (z : Int) (at_ : Nat), z = (at_ : Int) → at_ + szT t ≤ 100000 →
  FC Tryz.prog 67 [.agg ⟨c5 cv⟩, .int .i64 z] w fun r w' => ∃ A n c, r = .slice A n c ∧ LR w w' D A n c (refT t at_)
theorem one5 {D : Nat → Prop} {w : World} {r : RI} {x : VI} (h : RIM D w r x) : RIMs D w [r] [x] := ⟨h, trivial⟩
theorem rim_bool {D : Nat → Prop} {w : World} (n : Int) : RIM D w (.push (boolP n)) ⟨1, 0, ⟨⟨1, n, ⟨#[]⟩, []⟩, none, 0, 0⟩⟩ := ⟨rfl, rfl, ⟨⟨rfl, by simp, by simp, ⟨by simp, by simp⟩, by simp⟩, by simp [ByteArray.size]⟩, (fun a ha hm => by cases ha), by simp⟩
theorem szT_ge (t : Tr) : 1 ≤ szT t := by cases t <;> simp [szT] <;> omega
set_option maxHeartbeats 16000000 in
theorem l5tree_f : ∀ n, L5C n := by
  intro n
  induction n with
  | zero => intro t cv w D h; cases t <;> simp [dep] at h
  | succ n ih =>
    intro t cv w D hn ht hD hok hcon hfew z at_ hz hsz
    refine FC.intro (cs := []) Tryz.func67 (by kernel_rfl) fun E R hE hr hR => ?_
    cases t with
    | nam tx at_ => simp only [okT] at hok
    | att nu =>
      simp only [L4V] at ht
      obtain ⟨A, c, B, d, rfl⟩ := ht
      conv => cbv
      refine st_box hr fun a w1 hx1 hb0 => ?_
      have hb := hb0 _ (Nat.le_refl _)
      clear hb0
      conv => cbv
      (refine st_fld hE fL40 fun p hp => ?_; (conv => cbv); refine st_load hE cInt (by rw [hp]; exact (hb).at _ _ rfl) ?_; clear hp; (conv => cbv))
      refine br (fun _ => ?_) (fun q => absurd (by simp [hE.cmp, cmpR]) q)
      conv => cbv
      (refine st_fld hE fL41 fun p hp => ?_; (conv => cbv); refine st_load hE cI64 (by rw [hp]; exact (hb).at _ _ rfl) ?_; clear hp; (conv => cbv))
      refine st_bLI2 hE ?_
      conv => cbv
      refine st_litsK hr s5I rfl (by omega) (m := 1) rfl (by omega) (by omega) rfl (by simp [Value.cells]) (cs := iV ⟨2, nu, v0V⟩) (by simp [Value.cells, iV, v0V]) fun A1 w2 hx2 ho => ?_
      conv => cbv
      rw [hR]
      refine ⟨hx1.trans hx2, A1, 1, 1, rfl, [⟨2, nu, v0V⟩], by simpa using ho _ hx1.size, ?_⟩
      simp only [refT]
      exact one5 (rim_ins (by omega))
    | lt nu =>
      simp only [L4V] at ht
      obtain ⟨A, c, B, d, rfl⟩ := ht
      conv => cbv
      refine st_box hr fun a w1 hx1 hb0 => ?_
      have hb := hb0 _ (Nat.le_refl _)
      clear hb0
      conv => cbv
      (refine st_fld hE fL40 fun p hp => ?_; (conv => cbv); refine st_load hE cInt (by rw [hp]; exact (hb).at _ _ rfl) ?_; clear hp; (conv => cbv))
      refine br (fun q => absurd q (by simp [hE.cmp, cmpR])) (fun _ => ?_)
      conv => cbv
      refine br (fun _ => ?_) (fun q => absurd (by simp [hE.cmp, cmpR]) q)
      conv => cbv
      (refine st_fld hE fL41 fun p hp => ?_; (conv => cbv); refine st_load hE cI64 (by rw [hp]; exact (hb).at _ _ rfl) ?_; clear hp; (conv => cbv))
      refine st_bLI2 hE ?_
      conv => cbv
      refine st_litsK hr s5I rfl (by omega) (m := 1) rfl (by omega) (by omega) rfl (by simp [Value.cells]) (cs := iV ⟨3, nu, v0V⟩) (by simp [Value.cells, iV, v0V]) fun A1 w2 hx2 ho => ?_
      conv => cbv
      rw [hR]
      refine ⟨hx1.trans hx2, A1, 1, 1, rfl, [⟨3, nu, v0V⟩], by simpa using ho _ hx1.size, ?_⟩
      simp only [refT]
      exact one5 (rim_ins (by omega))
    | con k nu tx xs at2 =>
      simp only [L4V] at ht
      obtain ⟨A, m, c, B, d, rfl, hst, hin, htx⟩ := ht
      simp only [conT] at hcon
      simp only [fewT] at hfew
      have hstl := hst.len
      obtain ⟨ok, hok2⟩ : ∃ o, o = opK k := ⟨_, rfl⟩
      have hok3 : 1 ≤ ok ∧ ok ≤ 4 := by rw [hok2]; unfold opK; (repeat' split) <;> omega
      have hty := fun w => l5typeOf_f (w := w) hcon
      rw [← hok2] at hty
      show eBody E [] _ [.agg ⟨c5 ⟨.int .i64 (opK k), .int .i64 nu, .string tx, .slice A m c, .slice B 0 d⟩⟩, .int .i64 z] w R
      rw [← hok2]
      conv => cbv
      refine st_box hr fun a w1 hx1 hb0 => ?_
      have hb := hb0 _ (Nat.le_refl _)
      clear hb0
      conv => cbv
      (refine st_fld hE fL40 fun p hp => ?_; (conv => cbv); refine st_load hE cInt (by rw [hp]; exact (hb).at _ _ rfl) ?_; clear hp; (conv => cbv))
      refine br (fun q => absurd (show ok = 6 by simpa [hE.cmp, cmpR] using q) (by omega)) (fun _ => ?_)
      conv => cbv
      refine br (fun q => absurd (show ok = 7 by simpa [hE.cmp, cmpR] using q) (by omega)) (fun _ => ?_)
      conv => cbv
      (refine st_fld hE fL44 fun p hp => ?_; (conv => cbv); refine st_load hE cL4s (by rw [hp]; exact (hb).at _ _ rfl) ?_; clear hp; (conv => cbv))
      refine st_len hE sL4 fun x hx' => ?_
      conv => cbv
      refine br (fun _ => ?_) (fun q => absurd (show x = 0 by omega) (by simpa [hE.cmp, cmpR] using q))
      conv => cbv
      refine draw_v [0, 1, 3, 4, 5, 6, 7, 8] [(2, false), (9, true), (10, false), (11, false), (12, true)] hr fol (by kernel_rfl) fun E' hE' w2 hs2 S hS => ?_
      replace hb := hb.bel hs2.ext
      replace hx1 := hx1.trans hs2.ext
      conv => cbv
      refine st_fld hE' fL40 fun p hp => ?_
      conv => cbv
      refine st_load hE' cInt (by rw [hp]; exact hb.at _ _ rfl) ?_
      conv => cbv
      refine st_fld hE' fL41 fun p hp => ?_
      conv => cbv
      refine st_load hE' cI64 (by rw [hp]; exact hb.at _ _ rfl) ?_
      conv => cbv
      refine st_fld hE' fL42 fun p hp => ?_
      conv => cbv
      refine st_load hE' cStr (by rw [hp]; exact hb.at _ _ rfl) ?_
      conv => cbv
      refine st_fld hE' fL43 fun p hp => ?_
      conv => cbv
      refine st_load hE' cStrs (by rw [hp]; exact hb.at _ _ rfl) ?_
      conv => cbv
      refine st_f hr (hty _) fun r w3 hx3 ev => ?_
      subst ev
      refine ⟨hS _ hx3, ?_⟩
      conv => cbv
      refine st_bVn hE' ?_
      conv => cbv
      refine st_f hr l5push_f fun r w4 hx4 ev => ?_
      subst ev
      refine ⟨hS _ (hx3.trans hx4), ?_⟩
      conv => cbv
      refine st_litsK hr s5I rfl (by omega) (m := 1) rfl (by omega) (by omega) rfl (by simp [Value.cells]) (cs := iV ⟨1, 0, ⟨⟨k, nu, tx, xs⟩, A, m, c⟩⟩) (by simp [Value.cells, iV]) fun A1 w5 hx5 ho => ?_
      refine ⟨hS _ ((hx3.trans hx4).trans hx5), ?_⟩
      conv => cbv
      rw [hR]
      have hx04 := (hx1.trans hx3).trans hx4
      have hx05 := hx04.trans hx5
      refine ⟨hx05, A1, 1, 1, rfl, [⟨1, 0, ⟨⟨k, nu, tx, xs⟩, A, m, c⟩⟩], by simpa using ho _ hx04.size, ?_⟩
      simp only [refT]
      exact one5 ⟨rfl, rfl, ⟨hst.ext hx05, htx⟩, hin, by simp only; omega⟩
    | op o kids at2 =>
      simp only [L4V] at ht
      obtain ⟨A, c, B, m, d, vs, rfl, hvl, hmd, hm3, hcl, hin, hts⟩ := ht
      have hkl := hts.len
      have hok' := hok
      simp only [okT] at hok'
      obtain ⟨hk1, hk2, hk3⟩ := hok'
      have hk4 := kids_le hk1
      simp only [conT] at hcon
      simp only [fewT] at hfew
      simp only [dep] at hn
      obtain ⟨F, hF⟩ : ∃ F, F = refT (.op o kids at2) at_ := ⟨_, rfl⟩
      rw [← hF] at hR
      have hsz2 : szT (.op o kids at2) = 1 + szTs kids + (if o = 25 ∨ o = 26 then 2 else if o = 27 then 1 else 0) := by rw [szT]
      have ho8 : 8 ≤ o ∧ o ≤ 27 := by unfold kidsF at hk1; (repeat' split at hk1) <;> omega
      conv => cbv
      refine st_box hr fun a w1 hx1 hb0 => ?_
      have hb := hb0 _ (Nat.le_refl _)
      clear hb0
      have hD1 : ∀ b, D b → b < w1.heap.size := fun b hb => Nat.lt_of_lt_of_le (hD b hb) hx1.size
      have kidc : ∀ {w' : World}, Ext w1 w' → ∀ (j : Nat) (u : C5), vs[j]? = some u → ∃ aK, B = some aK ∧ ∀ i v, (c5 u)[i]? = some v → w'.cell? ((aK.add (j * 5)).add i) = some v := fun hx j u hu => fl_at c5_len (hcl.ext (hx1.trans hx)) (by omega) hu
      have recT : ∀ {w' : World}, Ext w1 w' → ∀ (j : Nat) (t' : Tr) (u : C5), kids[j]? = some t' → vs[j]? = some u → ∀ (z' : Int) (at' : Nat), z' = (at' : Int) → at' + szT t' ≤ 100000 →
          FC Tryz.prog 67 [.agg ⟨c5 u⟩, .int .i64 z'] w' fun r w'' => ∃ A n c, r = .slice A n c ∧ LR w' w'' D A n c (refT t' at') := fun hx j t' u h1 h2 z' at' hz' hs' =>
        ih t' u _ D (Nat.le_trans (deps_mem (List.mem_of_getElem? h1)) (by omega)) ((hts.get j t' u h1 h2).ext hD (hx1.trans hx)) (fun b hb => Nat.lt_of_lt_of_le (hD1 b hb) hx.size) (okTs_at hk3 h1) (conTs_mem hcon (List.mem_of_getElem? h1)) (fewTs_at hfew h1) z' at' hz' hs'
      have siz : ∀ {w' : World}, Ext w1 w' → ∀ (j : Nat) (t' : Tr) (u : C5), kids[j]? = some t' → vs[j]? = some u → szT t' ≤ 100000 → FC Tryz.prog 126 [.agg ⟨c5 u⟩] w' fun r _ => r = .int .i64 (szT t') := fun hx j t' u h1 h2 hs' =>
        l5size_f (dep t') t' u _ D (Nat.le_refl _) ((hts.get j t' u h1 h2).ext hD (hx1.trans hx)) (fun b hb => Nat.lt_of_lt_of_le (hD1 b hb) hx.size) hs'
      obtain ⟨t0, ht0⟩ : ∃ t0, kids[0]? = some t0 := ⟨_, List.getElem?_eq_getElem (by omega)⟩
      obtain ⟨u0, hu0⟩ : ∃ u0, vs[0]? = some u0 := ⟨_, List.getElem?_eq_getElem (by omega)⟩
      have z0 := szTs_at ht0
      have hok0 := okTs_at hk3 ht0
      have kc0 := @recT w1 (Ext.refl _) 0 t0 u0 ht0 hu0 z at_ hz (by omega)
      conv => cbv
      (refine st_fld hE fL40 fun p hp => ?_; (conv => cbv); refine st_load hE cInt (by rw [hp]; exact (hb).at _ _ rfl) ?_; clear hp; (conv => cbv))
      refine br (fun q => absurd (show o = 6 by simpa [hE.cmp, cmpR] using q) (by omega)) (fun _ => ?_)
      conv => cbv
      refine br (fun q => absurd (show o = 7 by simpa [hE.cmp, cmpR] using q) (by omega)) (fun _ => ?_)
      conv => cbv
      (refine st_fld hE fL44 fun p hp => ?_; (conv => cbv); refine st_load hE cL4s (by rw [hp]; exact (hb).at _ _ rfl) ?_; clear hp; (conv => cbv))
      refine st_len hE sL4 fun xk hxk => ?_
      conv => cbv
      refine br (fun q => absurd (show xk = 0 by simpa [hE.cmp, cmpR] using q) (by omega)) (fun _ => ?_)
      conv => cbv
      obtain ⟨ua0, ub0, uc0, ud0, ue0⟩ := u0
      (refine st_fld hE fL44 fun p hp => ?_; (conv => cbv); refine st_load hE cL4s (by rw [hp]; exact (hb).at _ _ rfl) ?_; clear hp; (conv => cbv))
      obtain ⟨aK, hBK, hcell⟩ := kidc (Ext.refl w1) 0 ⟨ua0, ub0, uc0, ud0, ue0⟩ hu0
      refine st_idx hE sL4 hBK (by omega) (by omega) fun p hp => ?_
      rw [show (0 : Int).toNat = 0 from rfl] at hp
      conv => cbv
      refine st_loadS hE tL4 (vs := [ua0, ub0, uc0, ud0, ue0]) rfl (by rw [hp]; exact hcell) ?_
      conv => cbv
      clear hp hcell hBK
      refine st_f hr kc0 fun r w2 hx2 ⟨A0, n0, c0, ev, hL0⟩ => ?_
      subst ev
      have ln0 := hL0.len
      rw [refT_len t0 _ hok0] at ln0
      conv => cbv
      refine st_len hE s5I fun x hx => ?_
      have hb2 := hb.bel hx2
      conv => cbv
      (refine st_fld hE fL40 fun p hp => ?_; (conv => cbv); refine st_load hE cInt (by rw [hp]; exact (hb2).at _ _ rfl) ?_; clear hp; (conv => cbv))
      by_cases o25 : o = 25
      · refine br (fun _ => ?_) (fun q => absurd o25 (by simpa [hE.cmp, cmpR] using q))
        conv => cbv
        have hs3 := hsz2
        rw [if_pos (.inl o25)] at hs3
        have hk2' : kids.length = 2 := by unfold kidsF at hk1; (repeat' split at hk1) <;> omega
        obtain ⟨t1, ht1⟩ : ∃ t, kids[1]? = some t := ⟨_, List.getElem?_eq_getElem (by omega)⟩
        obtain ⟨⟨ua1, ub1, uc1, ud1, ue1⟩, hu1⟩ : ∃ u, vs[1]? = some u := ⟨_, List.getElem?_eq_getElem (by omega)⟩
        have hok1 := okTs_at hk3 ht1
        have hkk : kids = [t0, t1] := by
          apply List.ext_getElem?
          intro i
          match i with
          | 0 => exact ht0
          | 1 => exact ht1
          | i + 2 => rw [List.getElem?_eq_none (by omega), List.getElem?_eq_none (by simp)]
        have hs0 : szTs kids = szT t0 + szT t1 := by rw [hkk]; simp [szTs]
        have hbk := hb.bel hx2
        (refine st_fld hE fL44 fun p hp => ?_; (conv => cbv); refine st_load hE cL4s (by rw [hp]; exact (hbk).at _ _ rfl) ?_; clear hp; (conv => cbv))
        obtain ⟨aK, hBK, hcell⟩ := kidc hx2 1 ⟨ua1, ub1, uc1, ud1, ue1⟩ hu1
        refine st_idx hE sL4 hBK (by omega) (by omega) fun p hp => ?_
        rw [show (1 : Int).toNat = 1 from rfl] at hp
        conv => cbv
        refine st_loadS hE tL4 (vs := [ua1, ub1, uc1, ud1, ue1]) rfl (by rw [hp]; exact hcell) ?_
        conv => cbv
        clear hp hcell hBK
        obtain ⟨y, hy⟩ : ∃ y : Int, y = (szT t1 : Int) := ⟨_, rfl⟩
        have sz2 := siz hx2 1 t1 _ ht1 hu1 (by omega)
        rw [← hy] at sz2
        refine st_f hr sz2 fun r ws2 hxs2 ev => ?_
        subst ev
        have hL2 := hL0.keep (fun b hb => Nat.lt_of_lt_of_le (hD1 b hb) (hx2).size) hxs2
        have hx2 := (hx2).trans hxs2
        conv => cbv
        obtain ⟨z1, hz1⟩ : ∃ zq : Int, zq = z + x := ⟨_, rfl⟩
        have ez1 : E.ar .add .i64 z x = z1 := by rw [hE.ar, hz1]; exact wrap_in (by omega) (by omega)
        obtain ⟨z2, hz2⟩ : ∃ zq : Int, zq = z1 + y := ⟨_, rfl⟩
        have ez2 : E.ar .add .i64 z1 y = z2 := by rw [hE.ar, hz2]; exact wrap_in (by omega) (by omega)
        obtain ⟨z3, hz3⟩ : ∃ zq : Int, zq = z2 + 2 := ⟨_, rfl⟩
        have ez3 : E.ar .add .i64 z2 2 = z3 := by rw [hE.ar, hz3]; exact wrap_in (by omega) (by omega)
        obtain ⟨z4, hz4⟩ : ∃ zq : Int, zq = z1 + 1 := ⟨_, rfl⟩
        have ez4 : E.ar .add .i64 z1 1 = z4 := by rw [hE.ar, hz4]; exact wrap_in (by omega) (by omega)
        obtain ⟨z5, hz5⟩ : ∃ zq : Int, zq = z2 + 3 := ⟨_, rfl⟩
        have ez5 : E.ar .add .i64 z2 3 = z5 := by rw [hE.ar, hz5]; exact wrap_in (by omega) (by omega)
        simp only [ez1, ez2, ez3]
        refine st_bLI2 hE ?_
        conv => cbv
        refine st_oneS hr s5I rfl (by omega) (by omega) rfl fun Aa3 wa3 hxa3 hca3 => ?_
        conv => cbv
        refine st_app5 hr hD1 (hL2.keep (fun b hb => Nat.lt_of_lt_of_le (hD1 b hb) (hx2).size) hxa3) ((hx2).trans hxa3) (ys := [⟨23, z3, v0V⟩]) (l2 := [.ins 23 z3]) (by simpa [iV, v0V] using hca3) (one5 (rim_ins (by omega))) rfl (by omega) (by omega) fun AA3 cc3 mm3 ww3 hmm3 hx3 hL3 => ?_
        conv => cbv
        have hbk := hb.bel hx3
        (refine st_fld hE fL44 fun p hp => ?_; (conv => cbv); refine st_load hE cL4s (by rw [hp]; exact (hbk).at _ _ rfl) ?_; clear hp; (conv => cbv))
        obtain ⟨aK, hBK, hcell⟩ := kidc hx3 1 ⟨ua1, ub1, uc1, ud1, ue1⟩ hu1
        refine st_idx hE sL4 hBK (by omega) (by omega) fun p hp => ?_
        rw [show (1 : Int).toNat = 1 from rfl] at hp
        conv => cbv
        refine st_loadS hE tL4 (vs := [ua1, ub1, uc1, ud1, ue1]) rfl (by rw [hp]; exact hcell) ?_
        conv => cbv
        clear hp hcell hBK
        simp only [ez1, ez4]
        refine st_f hr (recT hx3 1 t1 _ ht1 hu1 z4 (at_ + szT t0 + 1) (by omega) (by omega)) fun r wt5 hxt5 ⟨At5, nt5, ct5, ev, xst5, hot5, hrt5⟩ => ?_
        subst ev
        have ln5 := (show LR ww3 wt5 D At5 nt5 ct5 (refT t1 (at_ + szT t0 + 1)) from ⟨xst5, hot5, hrt5⟩).len
        rw [refT_len t1 _ hok1] at ln5
        have gt5 := szT_ge t1
        have xl5 := hot5.len
        rw [fl_len iV_len] at xl5
        conv => cbv
        refine st_app5 hr hD1 (hL3.keep (fun b hb => Nat.lt_of_lt_of_le (hD1 b hb) (hx3).size) hxt5) ((hx3).trans hxt5) (ys := xst5) hot5.cells hrt5 (by omega) (by omega) (by omega) fun AA5 cc5 mm5 ww5 hmm5 hx5 hL5 => ?_
        conv => cbv
        simp only [ez1, ez2, ez5]
        refine st_bLI2 hE ?_
        conv => cbv
        refine st_oneS hr s5I rfl (by omega) (by omega) rfl fun Aa6 wa6 hxa6 hca6 => ?_
        conv => cbv
        refine st_app5 hr hD1 (hL5.keep (fun b hb => Nat.lt_of_lt_of_le (hD1 b hb) (hx5).size) hxa6) ((hx5).trans hxa6) (ys := [⟨22, z5, v0V⟩]) (l2 := [.ins 22 z5]) (by simpa [iV, v0V] using hca6) (one5 (rim_ins (by omega))) rfl (by omega) (by omega) fun AA6 cc6 mm6 ww6 hmm6 hx6 hL6 => ?_
        conv => cbv
        refine st_f hr l5bool_f fun r wb7 hxb7 ev => ?_
        subst ev
        conv => cbv
        refine st_oneS hr s5I rfl (by omega) (by omega) rfl fun Aa7 wa7 hxa7 hca7 => ?_
        conv => cbv
        refine st_app5 hr hD1 (hL6.keep (fun b hb => Nat.lt_of_lt_of_le (hD1 b hb) (hx6).size) (hxb7.trans hxa7)) ((hx6).trans (hxb7.trans hxa7)) (ys := [⟨1, 0, ⟨⟨1, 0, ⟨#[]⟩, []⟩, none, 0, 0⟩⟩]) (l2 := [.push (boolP 0)]) (by simpa [iV] using hca7) (one5 (rim_bool 0)) rfl (by omega) (by omega) fun AA7 cc7 mm7 ww7 hmm7 hx7 hL7 => ?_
        conv => cbv
        rw [hR]
        refine ⟨hx1.trans hx7, AA7, mm7, cc7, rfl, ?_⟩
        have hLf := hL7.low (w0 := w) hx1.size
        rw [hF]
        rw [hkk, refT, if_pos o25]
        have q1 : z3 = ((at_ + szT t0 + szT t1 + 2 : Nat) : Int) := by omega
        have q2 : z5 = ((at_ + szT t0 + szT t1 + 3 : Nat) : Int) := by omega
        rw [q1, q2] at hLf
        exact hLf
      · refine br (fun q => absurd (show o = 25 by simpa [hE.cmp, cmpR] using q) o25) (fun _ => ?_)
        conv => cbv
        by_cases o26 : o = 26
        · refine br (fun _ => ?_) (fun q => absurd o26 (by simpa [hE.cmp, cmpR] using q))
          conv => cbv
          have hs3 := hsz2
          rw [if_pos (.inr o26)] at hs3
          have hk2' : kids.length = 2 := by unfold kidsF at hk1; (repeat' split at hk1) <;> omega
          obtain ⟨t1, ht1⟩ : ∃ t, kids[1]? = some t := ⟨_, List.getElem?_eq_getElem (by omega)⟩
          obtain ⟨⟨ua1, ub1, uc1, ud1, ue1⟩, hu1⟩ : ∃ u, vs[1]? = some u := ⟨_, List.getElem?_eq_getElem (by omega)⟩
          have hok1 := okTs_at hk3 ht1
          have hkk : kids = [t0, t1] := by
            apply List.ext_getElem?
            intro i
            match i with
            | 0 => exact ht0
            | 1 => exact ht1
            | i + 2 => rw [List.getElem?_eq_none (by omega), List.getElem?_eq_none (by simp)]
          have hs0 : szTs kids = szT t0 + szT t1 := by rw [hkk]; simp [szTs]
          obtain ⟨z1, hz1⟩ : ∃ zq : Int, zq = z + x := ⟨_, rfl⟩
          have ez1 : E.ar .add .i64 z x = z1 := by rw [hE.ar, hz1]; exact wrap_in (by omega) (by omega)
          obtain ⟨z2, hz2⟩ : ∃ zq : Int, zq = z1 + 3 := ⟨_, rfl⟩
          have ez2 : E.ar .add .i64 z1 3 = z2 := by rw [hE.ar, hz2]; exact wrap_in (by omega) (by omega)
          simp only [ez1, ez2]
          refine st_bLI2 hE ?_
          conv => cbv
          refine st_f hr l5bool_f fun r wb hxb ev => ?_
          subst ev
          conv => cbv
          refine st_litsK hr s5I rfl (by omega) (m := 2) rfl (by omega) (by omega) rfl (by simp [Value.cells]) (cs := [⟨23, z2, v0V⟩, ⟨1, 0, ⟨⟨1, 1, ⟨#[]⟩, []⟩, none, 0, 0⟩⟩].flatMap iV) (by simp [Value.cells, iV, v0V]) fun Aa wa hxa hoa0 => ?_
          have hoa := hoa0 _ (Nat.le_refl _)
          clear hoa0
          conv => cbv
          refine st_app5 hr hD1 (hL0.keep (fun b hb => Nat.lt_of_lt_of_le (hD1 b hb) hx2.size) (hxb.trans hxa)) (hx2.trans (hxb.trans hxa)) (ys := [⟨23, z2, v0V⟩, ⟨1, 0, ⟨⟨1, 1, ⟨#[]⟩, []⟩, none, 0, 0⟩⟩]) (l2 := [.ins 23 z2, .push (boolP 1)]) hoa.cells ⟨rim_ins (by omega), rim_bool 1, trivial⟩ rfl (by omega) (by omega) fun AAo cco mmo wwo hmmo hxo hLo => ?_
          conv => cbv
          have hbk := hb.bel hxo
          (refine st_fld hE fL44 fun p hp => ?_; (conv => cbv); refine st_load hE cL4s (by rw [hp]; exact (hbk).at _ _ rfl) ?_; clear hp; (conv => cbv))
          obtain ⟨aK, hBK, hcell⟩ := kidc hxo 1 ⟨ua1, ub1, uc1, ud1, ue1⟩ hu1
          refine st_idx hE sL4 hBK (by omega) (by omega) fun p hp => ?_
          rw [show (1 : Int).toNat = 1 from rfl] at hp
          conv => cbv
          refine st_loadS hE tL4 (vs := [ua1, ub1, uc1, ud1, ue1]) rfl (by rw [hp]; exact hcell) ?_
          conv => cbv
          clear hp hcell hBK
          obtain ⟨y, hy⟩ : ∃ y : Int, y = (szT t1 : Int) := ⟨_, rfl⟩
          have sz9 := siz hxo 1 t1 _ ht1 hu1 (by omega)
          rw [← hy] at sz9
          refine st_f hr sz9 fun r ws9 hxs9 ev => ?_
          subst ev
          have hL9 := hLo.keep (fun b hb => Nat.lt_of_lt_of_le (hD1 b hb) (hxo).size) hxs9
          have hx9 := (hxo).trans hxs9
          conv => cbv
          obtain ⟨z3, hz3⟩ : ∃ zq : Int, zq = z2 + y := ⟨_, rfl⟩
          have ez3 : E.ar .add .i64 z2 y = z3 := by rw [hE.ar, hz3]; exact wrap_in (by omega) (by omega)
          simp only [ez1, ez2, ez3]
          refine st_bLI2 hE ?_
          conv => cbv
          refine st_oneS hr s5I rfl (by omega) (by omega) rfl fun Aa10 wa10 hxa10 hca10 => ?_
          conv => cbv
          refine st_app5 hr hD1 (hL9.keep (fun b hb => Nat.lt_of_lt_of_le (hD1 b hb) (hx9).size) hxa10) ((hx9).trans hxa10) (ys := [⟨22, z3, v0V⟩]) (l2 := [.ins 22 z3]) (by simpa [iV, v0V] using hca10) (one5 (rim_ins (by omega))) rfl (by omega) (by omega) fun AA10 cc10 mm10 ww10 hmm10 hx10 hL10 => ?_
          conv => cbv
          have hbk := hb.bel hx10
          (refine st_fld hE fL44 fun p hp => ?_; (conv => cbv); refine st_load hE cL4s (by rw [hp]; exact (hbk).at _ _ rfl) ?_; clear hp; (conv => cbv))
          obtain ⟨aK, hBK, hcell⟩ := kidc hx10 1 ⟨ua1, ub1, uc1, ud1, ue1⟩ hu1
          refine st_idx hE sL4 hBK (by omega) (by omega) fun p hp => ?_
          rw [show (1 : Int).toNat = 1 from rfl] at hp
          conv => cbv
          refine st_loadS hE tL4 (vs := [ua1, ub1, uc1, ud1, ue1]) rfl (by rw [hp]; exact hcell) ?_
          conv => cbv
          clear hp hcell hBK
          simp only [ez1, ez2]
          refine st_f hr (recT hx10 1 t1 _ ht1 hu1 z2 (at_ + szT t0 + 3) (by omega) (by omega)) fun r wt12 hxt12 ⟨At12, nt12, ct12, ev, xst12, hot12, hrt12⟩ => ?_
          subst ev
          have ln12 := (show LR ww10 wt12 D At12 nt12 ct12 (refT t1 (at_ + szT t0 + 3)) from ⟨xst12, hot12, hrt12⟩).len
          rw [refT_len t1 _ hok1] at ln12
          have gt12 := szT_ge t1
          have xl12 := hot12.len
          rw [fl_len iV_len] at xl12
          conv => cbv
          refine st_app5 hr hD1 (hL10.keep (fun b hb => Nat.lt_of_lt_of_le (hD1 b hb) (hx10).size) hxt12) ((hx10).trans hxt12) (ys := xst12) hot12.cells hrt12 (by omega) (by omega) (by omega) fun AA12 cc12 mm12 ww12 hmm12 hx12 hL12 => ?_
          conv => cbv
          rw [hR]
          refine ⟨hx1.trans hx12, AA12, mm12, cc12, rfl, ?_⟩
          have hLf := hL12.low (w0 := w) hx1.size
          rw [hF]
          rw [hkk, refT, if_neg o25, if_pos o26]
          have q1 : z2 = ((at_ + szT t0 + 3 : Nat) : Int) := by omega
          have q2 : z3 = ((at_ + szT t0 + 3 + szT t1 : Nat) : Int) := by omega
          rw [q1, q2] at hLf
          exact hLf
        · refine br (fun q => absurd (show o = 26 by simpa [hE.cmp, cmpR] using q) o26) (fun _ => ?_)
          conv => cbv
          by_cases o27 : o = 27
          · refine br (fun _ => ?_) (fun q => absurd o27 (by simpa [hE.cmp, cmpR] using q))
            conv => cbv
            have hs3 := hsz2
            rw [if_neg (by omega), if_pos o27] at hs3
            have hk2' : kids.length = 3 := by unfold kidsF at hk1; (repeat' split at hk1) <;> omega
            obtain ⟨t1, ht1⟩ : ∃ t, kids[1]? = some t := ⟨_, List.getElem?_eq_getElem (by omega)⟩
            obtain ⟨⟨ua1, ub1, uc1, ud1, ue1⟩, hu1⟩ : ∃ u, vs[1]? = some u := ⟨_, List.getElem?_eq_getElem (by omega)⟩
            have hok1 := okTs_at hk3 ht1
            obtain ⟨t2, ht2⟩ : ∃ t, kids[2]? = some t := ⟨_, List.getElem?_eq_getElem (by omega)⟩
            obtain ⟨⟨ua2, ub2, uc2, ud2, ue2⟩, hu2⟩ : ∃ u, vs[2]? = some u := ⟨_, List.getElem?_eq_getElem (by omega)⟩
            have hok2 := okTs_at hk3 ht2
            have hkk : kids = [t0, t1, t2] := by
              apply List.ext_getElem?
              intro i
              match i with
              | 0 => exact ht0
              | 1 => exact ht1
              | 2 => exact ht2
              | i + 3 => rw [List.getElem?_eq_none (by omega), List.getElem?_eq_none (by simp)]
            have hs0 : szTs kids = szT t0 + szT t1 + szT t2 := by rw [hkk]; simp [szTs, Nat.add_assoc]
            have hbk := hb.bel hx2
            (refine st_fld hE fL44 fun p hp => ?_; (conv => cbv); refine st_load hE cL4s (by rw [hp]; exact (hbk).at _ _ rfl) ?_; clear hp; (conv => cbv))
            obtain ⟨aK, hBK, hcell⟩ := kidc hx2 1 ⟨ua1, ub1, uc1, ud1, ue1⟩ hu1
            refine st_idx hE sL4 hBK (by omega) (by omega) fun p hp => ?_
            rw [show (1 : Int).toNat = 1 from rfl] at hp
            conv => cbv
            refine st_loadS hE tL4 (vs := [ua1, ub1, uc1, ud1, ue1]) rfl (by rw [hp]; exact hcell) ?_
            conv => cbv
            clear hp hcell hBK
            obtain ⟨y, hy⟩ : ∃ y : Int, y = (szT t1 : Int) := ⟨_, rfl⟩
            have sz14 := siz hx2 1 t1 _ ht1 hu1 (by omega)
            rw [← hy] at sz14
            refine st_f hr sz14 fun r ws14 hxs14 ev => ?_
            subst ev
            have hL14 := hL0.keep (fun b hb => Nat.lt_of_lt_of_le (hD1 b hb) (hx2).size) hxs14
            have hx14 := (hx2).trans hxs14
            conv => cbv
            obtain ⟨z1, hz1⟩ : ∃ zq : Int, zq = z + x := ⟨_, rfl⟩
            have ez1 : E.ar .add .i64 z x = z1 := by rw [hE.ar, hz1]; exact wrap_in (by omega) (by omega)
            obtain ⟨z2, hz2⟩ : ∃ zq : Int, zq = z1 + y := ⟨_, rfl⟩
            have ez2 : E.ar .add .i64 z1 y = z2 := by rw [hE.ar, hz2]; exact wrap_in (by omega) (by omega)
            obtain ⟨z3, hz3⟩ : ∃ zq : Int, zq = z2 + 2 := ⟨_, rfl⟩
            have ez3 : E.ar .add .i64 z2 2 = z3 := by rw [hE.ar, hz3]; exact wrap_in (by omega) (by omega)
            obtain ⟨z4, hz4⟩ : ∃ zq : Int, zq = z1 + 1 := ⟨_, rfl⟩
            have ez4 : E.ar .add .i64 z1 1 = z4 := by rw [hE.ar, hz4]; exact wrap_in (by omega) (by omega)
            simp only [ez1, ez2, ez3]
            refine st_bLI2 hE ?_
            conv => cbv
            refine st_oneS hr s5I rfl (by omega) (by omega) rfl fun Aa15 wa15 hxa15 hca15 => ?_
            conv => cbv
            refine st_app5 hr hD1 (hL14.keep (fun b hb => Nat.lt_of_lt_of_le (hD1 b hb) (hx14).size) hxa15) ((hx14).trans hxa15) (ys := [⟨23, z3, v0V⟩]) (l2 := [.ins 23 z3]) (by simpa [iV, v0V] using hca15) (one5 (rim_ins (by omega))) rfl (by omega) (by omega) fun AA15 cc15 mm15 ww15 hmm15 hx15 hL15 => ?_
            conv => cbv
            have hbk := hb.bel hx15
            (refine st_fld hE fL44 fun p hp => ?_; (conv => cbv); refine st_load hE cL4s (by rw [hp]; exact (hbk).at _ _ rfl) ?_; clear hp; (conv => cbv))
            obtain ⟨aK, hBK, hcell⟩ := kidc hx15 1 ⟨ua1, ub1, uc1, ud1, ue1⟩ hu1
            refine st_idx hE sL4 hBK (by omega) (by omega) fun p hp => ?_
            rw [show (1 : Int).toNat = 1 from rfl] at hp
            conv => cbv
            refine st_loadS hE tL4 (vs := [ua1, ub1, uc1, ud1, ue1]) rfl (by rw [hp]; exact hcell) ?_
            conv => cbv
            clear hp hcell hBK
            simp only [ez1, ez4]
            refine st_f hr (recT hx15 1 t1 _ ht1 hu1 z4 (at_ + szT t0 + 1) (by omega) (by omega)) fun r wt17 hxt17 ⟨At17, nt17, ct17, ev, xst17, hot17, hrt17⟩ => ?_
            subst ev
            have ln17 := (show LR ww15 wt17 D At17 nt17 ct17 (refT t1 (at_ + szT t0 + 1)) from ⟨xst17, hot17, hrt17⟩).len
            rw [refT_len t1 _ hok1] at ln17
            have gt17 := szT_ge t1
            have xl17 := hot17.len
            rw [fl_len iV_len] at xl17
            conv => cbv
            refine st_app5 hr hD1 (hL15.keep (fun b hb => Nat.lt_of_lt_of_le (hD1 b hb) (hx15).size) hxt17) ((hx15).trans hxt17) (ys := xst17) hot17.cells hrt17 (by omega) (by omega) (by omega) fun AA17 cc17 mm17 ww17 hmm17 hx17 hL17 => ?_
            conv => cbv
            have hbk := hb.bel hx17
            (refine st_fld hE fL44 fun p hp => ?_; (conv => cbv); refine st_load hE cL4s (by rw [hp]; exact (hbk).at _ _ rfl) ?_; clear hp; (conv => cbv))
            obtain ⟨aK, hBK, hcell⟩ := kidc hx17 2 ⟨ua2, ub2, uc2, ud2, ue2⟩ hu2
            refine st_idx hE sL4 hBK (by omega) (by omega) fun p hp => ?_
            rw [show (2 : Int).toNat = 2 from rfl] at hp
            conv => cbv
            refine st_loadS hE tL4 (vs := [ua2, ub2, uc2, ud2, ue2]) rfl (by rw [hp]; exact hcell) ?_
            conv => cbv
            clear hp hcell hBK
            obtain ⟨v, hv⟩ : ∃ y : Int, y = (szT t2 : Int) := ⟨_, rfl⟩
            have sz19 := siz hx17 2 t2 _ ht2 hu2 (by omega)
            rw [← hv] at sz19
            refine st_f hr sz19 fun r ws19 hxs19 ev => ?_
            subst ev
            have hL19 := hL17.keep (fun b hb => Nat.lt_of_lt_of_le (hD1 b hb) (hx17).size) hxs19
            have hx19 := (hx17).trans hxs19
            conv => cbv
            obtain ⟨z5, hz5⟩ : ∃ zq : Int, zq = z3 + v := ⟨_, rfl⟩
            have ez5 : E.ar .add .i64 z3 v = z5 := by rw [hE.ar, hz5]; exact wrap_in (by omega) (by omega)
            simp only [ez1, ez2, ez3, ez5]
            refine st_bLI2 hE ?_
            conv => cbv
            refine st_oneS hr s5I rfl (by omega) (by omega) rfl fun Aa20 wa20 hxa20 hca20 => ?_
            conv => cbv
            refine st_app5 hr hD1 (hL19.keep (fun b hb => Nat.lt_of_lt_of_le (hD1 b hb) (hx19).size) hxa20) ((hx19).trans hxa20) (ys := [⟨22, z5, v0V⟩]) (l2 := [.ins 22 z5]) (by simpa [iV, v0V] using hca20) (one5 (rim_ins (by omega))) rfl (by omega) (by omega) fun AA20 cc20 mm20 ww20 hmm20 hx20 hL20 => ?_
            conv => cbv
            have hbk := hb.bel hx20
            (refine st_fld hE fL44 fun p hp => ?_; (conv => cbv); refine st_load hE cL4s (by rw [hp]; exact (hbk).at _ _ rfl) ?_; clear hp; (conv => cbv))
            obtain ⟨aK, hBK, hcell⟩ := kidc hx20 2 ⟨ua2, ub2, uc2, ud2, ue2⟩ hu2
            refine st_idx hE sL4 hBK (by omega) (by omega) fun p hp => ?_
            rw [show (2 : Int).toNat = 2 from rfl] at hp
            conv => cbv
            refine st_loadS hE tL4 (vs := [ua2, ub2, uc2, ud2, ue2]) rfl (by rw [hp]; exact hcell) ?_
            conv => cbv
            clear hp hcell hBK
            simp only [ez1, ez2, ez3]
            refine st_f hr (recT hx20 2 t2 _ ht2 hu2 z3 (at_ + szT t0 + szT t1 + 2) (by omega) (by omega)) fun r wt22 hxt22 ⟨At22, nt22, ct22, ev, xst22, hot22, hrt22⟩ => ?_
            subst ev
            have ln22 := (show LR ww20 wt22 D At22 nt22 ct22 (refT t2 (at_ + szT t0 + szT t1 + 2)) from ⟨xst22, hot22, hrt22⟩).len
            rw [refT_len t2 _ hok2] at ln22
            have gt22 := szT_ge t2
            have xl22 := hot22.len
            rw [fl_len iV_len] at xl22
            conv => cbv
            refine st_app5 hr hD1 (hL20.keep (fun b hb => Nat.lt_of_lt_of_le (hD1 b hb) (hx20).size) hxt22) ((hx20).trans hxt22) (ys := xst22) hot22.cells hrt22 (by omega) (by omega) (by omega) fun AA22 cc22 mm22 ww22 hmm22 hx22 hL22 => ?_
            conv => cbv
            rw [hR]
            refine ⟨hx1.trans hx22, AA22, mm22, cc22, rfl, ?_⟩
            have hLf := hL22.low (w0 := w) hx1.size
            rw [hF]
            rw [hkk, refT]
            have q1 : z3 = ((at_ + szT t0 + szT t1 + 2 : Nat) : Int) := by omega
            have q2 : z5 = ((at_ + szT t0 + szT t1 + 2 + szT t2 : Nat) : Int) := by omega
            rw [q1, q2] at hLf
            exact hLf
          · refine br (fun q => absurd (show o = 27 by simpa [hE.cmp, cmpR] using q) o27) (fun _ => ?_)
            conv => cbv
            have hs3 := hsz2
            rw [if_neg (by omega), if_neg (by omega)] at hs3
            obtain ⟨zo, hzo⟩ : ∃ z, z = opcO o := ⟨_, rfl⟩
            have hop := fun w => l5op_f (w := w) ho8
            rw [← hzo] at hop
            have hzo1 : zo ≠ 1 := by unfold opcO at hzo; omega
            (refine st_fld hE fL44 fun p hp => ?_; (conv => cbv); refine st_load hE cL4s (by rw [hp]; exact (hb2).at _ _ rfl) ?_; clear hp; (conv => cbv))
            refine st_len hE sL4 fun x2 hx2' => ?_
            conv => cbv
            by_cases k2 : kids.length = 2
            · refine br (fun _ => ?_) (fun q => absurd (show x2 = 2 by omega) (by simpa [hE.cmp, cmpR] using q))
              conv => cbv
              have hk2' : kids.length = 2 := k2
              obtain ⟨t1, ht1⟩ : ∃ t, kids[1]? = some t := ⟨_, List.getElem?_eq_getElem (by omega)⟩
              obtain ⟨⟨ua1, ub1, uc1, ud1, ue1⟩, hu1⟩ : ∃ u, vs[1]? = some u := ⟨_, List.getElem?_eq_getElem (by omega)⟩
              have hok1 := okTs_at hk3 ht1
              have hkk : kids = [t0, t1] := by
                apply List.ext_getElem?
                intro i
                match i with
                | 0 => exact ht0
                | 1 => exact ht1
                | i + 2 => rw [List.getElem?_eq_none (by omega), List.getElem?_eq_none (by simp)]
              have hs0 : szTs kids = szT t0 + szT t1 := by rw [hkk]; simp [szTs]
              obtain ⟨z1, hz1⟩ : ∃ zq : Int, zq = z + x := ⟨_, rfl⟩
              have ez1 : E.ar .add .i64 z x = z1 := by rw [hE.ar, hz1]; exact wrap_in (by omega) (by omega)
              have hbk := hb.bel hx2
              (refine st_fld hE fL44 fun p hp => ?_; (conv => cbv); refine st_load hE cL4s (by rw [hp]; exact (hbk).at _ _ rfl) ?_; clear hp; (conv => cbv))
              obtain ⟨aK, hBK, hcell⟩ := kidc hx2 1 ⟨ua1, ub1, uc1, ud1, ue1⟩ hu1
              refine st_idx hE sL4 hBK (by omega) (by omega) fun p hp => ?_
              rw [show (1 : Int).toNat = 1 from rfl] at hp
              conv => cbv
              refine st_loadS hE tL4 (vs := [ua1, ub1, uc1, ud1, ue1]) rfl (by rw [hp]; exact hcell) ?_
              conv => cbv
              clear hp hcell hBK
              simp only [ez1]
              refine st_f hr (recT hx2 1 t1 _ ht1 hu1 z1 (at_ + szT t0) (by omega) (by omega)) fun r wt24 hxt24 ⟨At24, nt24, ct24, ev, xst24, hot24, hrt24⟩ => ?_
              subst ev
              have ln24 := (show LR w2 wt24 D At24 nt24 ct24 (refT t1 (at_ + szT t0)) from ⟨xst24, hot24, hrt24⟩).len
              rw [refT_len t1 _ hok1] at ln24
              have gt24 := szT_ge t1
              have xl24 := hot24.len
              rw [fl_len iV_len] at xl24
              conv => cbv
              refine st_app5 hr hD1 (hL0.keep (fun b hb => Nat.lt_of_lt_of_le (hD1 b hb) (hx2).size) hxt24) ((hx2).trans hxt24) (ys := xst24) hot24.cells hrt24 (by omega) (by omega) (by omega) fun AA24 cc24 mm24 ww24 hmm24 hx24 hL24 => ?_
              conv => cbv
              have hbl := hb.bel hx24
              (refine st_fld hE fL40 fun p hp => ?_; (conv => cbv); refine st_load hE cInt (by rw [hp]; exact (hbl).at _ _ rfl) ?_; clear hp; (conv => cbv))
              refine st_f hr (hop _) fun r wo hxo ev => ?_
              subst ev
              conv => cbv
              refine st_bLI1 hE ?_
              conv => cbv
              refine st_oneS hr s5I rfl (by omega) (by omega) rfl fun Aa25 wa25 hxa25 hca25 => ?_
              conv => cbv
              refine st_app5 hr hD1 (hL24.keep (fun b hb => Nat.lt_of_lt_of_le (hD1 b hb) (hx24).size) (hxo.trans hxa25)) ((hx24).trans (hxo.trans hxa25)) (ys := [⟨zo, 0, v0V⟩]) (l2 := [.ins zo 0]) (by simpa [iV, v0V] using hca25) (one5 (rim_ins hzo1)) rfl (by omega) (by omega) fun AA25 cc25 mm25 ww25 hmm25 hx25 hL25 => ?_
              conv => cbv
              rw [hR]
              refine ⟨hx1.trans hx25, AA25, mm25, cc25, rfl, ?_⟩
              have hLf := hL25.low (w0 := w) hx1.size
              rw [hF]
              rw [hkk, refT, if_neg o25, if_neg o26, ← hzo]
              exact hLf
            · refine br (fun q => absurd (show x2 = 2 by simpa [hE.cmp, cmpR] using q) (by omega)) (fun _ => ?_)
              conv => cbv
              have hk1' : kids.length = 1 := by unfold kidsF at hk1; (repeat' split at hk1) <;> omega
              have hkk : kids = [t0] := by
                apply List.ext_getElem?
                intro i
                match i with
                | 0 => exact ht0
                | i + 1 => rw [List.getElem?_eq_none (by omega), List.getElem?_eq_none (by simp)]
              have hs0 : szTs kids = szT t0 := by rw [hkk]; simp [szTs]
              have hbl := hb.bel hx2
              (refine st_fld hE fL40 fun p hp => ?_; (conv => cbv); refine st_load hE cInt (by rw [hp]; exact (hbl).at _ _ rfl) ?_; clear hp; (conv => cbv))
              refine st_f hr (hop _) fun r wo hxo ev => ?_
              subst ev
              conv => cbv
              refine st_bLI1 hE ?_
              conv => cbv
              refine st_oneS hr s5I rfl (by omega) (by omega) rfl fun Aa26 wa26 hxa26 hca26 => ?_
              conv => cbv
              refine st_app5 hr hD1 (hL0.keep (fun b hb => Nat.lt_of_lt_of_le (hD1 b hb) (hx2).size) (hxo.trans hxa26)) ((hx2).trans (hxo.trans hxa26)) (ys := [⟨zo, 0, v0V⟩]) (l2 := [.ins zo 0]) (by simpa [iV, v0V] using hca26) (one5 (rim_ins hzo1)) rfl (by omega) (by omega) fun AA26 cc26 mm26 ww26 hmm26 hx26 hL26 => ?_
              conv => cbv
              rw [hR]
              refine ⟨hx1.trans hx26, AA26, mm26, cc26, rfl, ?_⟩
              have hLf := hL26.low (w0 := w) hx1.size
              rw [hF]
              rw [hkk, refT, ← hzo]
              exact hLf
end Go.Proofs.YtgdnmpcaiaoaoaaGreatDoor
/- The reference's Compile: the trees of a statement, its instructions in memory. -/
namespace Go.Proofs.YtgdnmpcaiaoaoaaGreatDoor
open Go.Eng
set_option linter.unusedVariables false
set_option linter.unusedSimpArgs false
theorem one_form {nv : List PN} {a b : Nat} {z : Int} {t : Tr} (h : IsTs nv a b [z] [t]) : ∃ k : Nat, z = (k : Int) ∧ IsTs nv a (k + 1) [(k : Int)] [t] := by
  obtain ⟨kn, p, kids, e, e2, _⟩ := h.one
  subst e; subst e2
  exact ⟨kn, rfl, h⟩
theorem tree_opt {nv : List PN} {a N : Nat} {top : Int} {o : Option Tr} {rs : List Int} {ts : List Tr} (hm : o.isSome = true ↔ 0 ≤ top) (h : IsTs nv a N (rootO top ++ rs) (o.toList ++ ts)) : (∀ t, o = some t → ∃ k a', top = ((k : Nat) : Int) ∧ IsTs nv a' (k + 1) [(k : Int)] [t]) ∧ ∃ b, IsTs nv b N rs ts := by
  cases o with
  | none =>
    have : ¬ 0 ≤ top := fun q => by simpa using hm.2 q
    unfold rootO at h
    rw [if_neg this] at h
    exact ⟨(by simp), a, by simpa using h⟩
  | some t =>
    have : 0 ≤ top := hm.1 rfl
    unfold rootO at h
    rw [if_pos this] at h
    obtain ⟨e, ts1, ts2, he, h1, h2⟩ := h.split
    have hl := h1.len
    match ts1, hl with
    | [t1], _ =>
      simp at he
      obtain ⟨rfl, rfl⟩ := he
      obtain ⟨k, e1, e2⟩ := one_form h1
      exact ⟨fun t' ht' => by cases ht'; exact ⟨k, a, e1, e2⟩, e, h2⟩
theorem tree_at {nv : List PN} {N : Nat} : ∀ {sv : List PS} {pts : List PT} {a : Nat}, Match sv pts → IsTs nv a N (roots sv) (pts.flatMap trs) → ∀ (j : Nat) (s : PS) (p : PT), sv[j]? = some s → pts[j]? = some p →
    (∀ t, p.c = some t → ∃ k a', s.c = ((k : Nat) : Int) ∧ IsTs nv a' (k + 1) [(k : Int)] [t]) ∧ ∀ t, p.g = some t → ∃ k a', s.g = ((k : Nat) : Int) ∧ IsTs nv a' (k + 1) [(k : Int)] [t]
  | s :: sv, ⟨c, g⟩ :: pts, a, hm, h, j, s', p', h1, h2 => by
    have hm1 := match_cons.1 hm
    obtain ⟨⟨m1, m2⟩, m3⟩ := hm1
    have h' : IsTs nv a N (rootO s.c ++ (rootO s.g ++ roots sv)) (c.toList ++ (g.toList ++ pts.flatMap trs)) := by
      rw [roots_cons, rootS_eq, List.flatMap_cons] at h; simpa [trs] using h
    obtain ⟨k1, b, h3⟩ := tree_opt m1 h'
    obtain ⟨k2, b2, h4⟩ := tree_opt m2 h3
    cases j with
    | zero => simp at h1 h2; subst h1; subst h2; exact ⟨k1, k2⟩
    | succ j => exact tree_at m3 h4 j s' p' (by simpa using h1) (by simpa using h2)
  | [], _, _, _, _, j, s, p, h1, _ => by simp at h1
  | _ :: _, [], _, hm, _, _, _, _, _, _ => by have := hm.1; simp at this
/-! ### All instructions so far -/
def LD (q : Addr) (w : World) (A : Option Addr) (b : Nat) : Prop := b < w.heap.size ∧ blk A ≠ some b ∧ b ≠ q.block
def LA (ws : Nat) (q : Addr) (w : World) (A : Option Addr) (m c : Nat) (l : List RI) : Prop := ∃ xs : List VI, Own ws 126 6 w A m c (xs.flatMap iV) ∧ RIMs (LD q w A) w l xs
theorem LA.len {ws : Nat} {q : Addr} {w : World} {A : Option Addr} {m c : Nat} {l : List RI} (h : LA ws q w A m c l) : l.length = m := by
  obtain ⟨xs, h1, h2⟩ := h
  have := h1.len
  rw [fl_len iV_len] at this
  have := h2.len
  omega
theorem LA.ext {ws : Nat} {q : Addr} {w w' : World} {A : Option Addr} {m c : Nat} {l : List RI} (h : LA ws q w A m c l) (hx : Ext w w') : LA ws q w' A m c l := by
  obtain ⟨xs, h1, h2⟩ := h
  exact ⟨xs, h1.bel hx, h2.keep (fun b hb => hx.block b hb.1) (fun b hb => ⟨Nat.lt_of_lt_of_le hb.1 hx.size, hb.2⟩)⟩
theorem LA.wrq {ws : Nat} {q : Addr} (hq : blk (some q) = some q.block) (hlt : q.block < ws) {w w' : World} {A : Option Addr} {m c : Nat} {l : List RI} (h : LA ws q w A m c l) (hw : Wr (some q) w w') : LA ws q w' A m c l := by
  obtain ⟨xs, h1, h2⟩ := h
  refine ⟨xs, h1.wr hw (dj_apart h1 fun g hg e => ?_), h2.keep (fun b hb => hw.block b hb.1 ?_) (fun b hb => ⟨Nat.lt_of_lt_of_le hb.1 hw.size, hb.2⟩)⟩
  · rw [hq] at e; cases e
    have := (own_blk h1 _ hg).1
    omega
  · rw [hq]; intro e; cases e; exact hb.2.2 rfl
theorem LA.dj {ws : Nat} {q : Addr} {w : World} {A : Option Addr} {m c : Nat} {l : List RI} (h : LA ws q w A m c l) {X : Option Addr} (hX : ∀ g, blk X = some g → g < ws) : Dj X A := by
  obtain ⟨xs, h1, h2⟩ := h
  intro g hg e
  have := (own_blk h1 g e).1
  have := hX g hg
  omega
theorem LA.dn {ws : Nat} {q : Addr} {w w' : World} {A : Option Addr} {m c : Nat} {l : List RI} (h : LA ws q w A m c l) {B k m' c' : Nat} {e : TypeId} {X : Option Addr} {ys : List Value} (hX : Own B e k w' X m' c' ys) (hs : w.heap.size ≤ B) : Dj X A := by
  obtain ⟨xs, h1, h2⟩ := h
  exact (dj_new h1 hX hs).symm
/-- Instructions made behind l4of. -/
theorem LA.lr {ws : Nat} {q : Addr} (hlt : q.block < ws) {w0 wj wk w : World} (h0 : w0.heap.size ≤ q.block) {A : Option Addr} {m c : Nat} {l l2 : List RI} {ys : List VI} (h : LA ws q wj A m c l) (hj : ws ≤ wj.heap.size) (hx : Ext wk w) (hs : w0.heap.size ≤ wk.heap.size) (hy : RIMs (DB w0.heap.size wj.heap.size wk) w l2 ys) : RIMs (LD q w A) w l2 ys := by
  obtain ⟨xs, h1, h2⟩ := h
  refine hy.keep (fun b hb => rfl) (fun b hb => ⟨?_, fun e => ?_, ?_⟩)
  · exact Nat.lt_of_lt_of_le (db_lt hs hb) hx.size
  · have := own_blk h1 b e
    rcases hb with hb | hb <;> omega
  · rcases hb with hb | hb <;> omega
section
variable {E : Sym} {w : World} {K : Value → World → Prop} {d : Option Tmp} {ty : TypeId} {pos : String} {aft : Array Edge} {g : Option (Nat × Bool)} {Pn : List PanicEntry → World → Prop} {nn : Nat}
theorem st_appA (hE : E = real Tryz.prog Pn nn) {ws : Nat} {w0 : World} {q : Addr} {A A1 : Option Addr} {m c m1 c1 : Nat} {l l2 : List RI} {ys : List VI} {ao : Array Operand} (h : LA ws q w A m c l) (hx : Ext w0 w) (hs0 : w0.heap.size ≤ ws) (hs : ws ≤ w.heap.size) (hn : Cells w A1 (ys.flatMap iV)) (hy : RIMs (LD q w A) w l2 ys) (hl : ys.length = m1) (h0 : 0 < m1) (hm : m + m1 ≤ 1000000)
    (hk : ∀ A' c' m' w', m' = m + m1 → Ext w0 w' → Wr A w w' → (∀ X, Dj X A → (∀ g, blk X = some g → g < w.heap.size) → Dj X A') → LA ws q w' A' m' c' (l ++ l2) → K (.slice A' m' c') w') : E.stop ⟨d, .call ⟨.builtin .append, ao, #[115, 115]⟩, ty, pos, aft, g⟩ [.slice A m c, .slice A1 m1 c1] w K := by
  obtain ⟨xs, h1, h2⟩ := h
  refine st_appsKG hE s5I rfl (by omega) h1 hn (by rw [fl_len iV_len]; omega) h0 (iV_one ys) hs (by omega) (by omega) fun A' c' m' w' hm' hw ho hbk => ?_
  have hx' : Ext w0 w' := hx.then ⟨hw.os, hw.tape, hw.output, hw.size, fun i hi => hw.block i (Nat.lt_of_lt_of_le hi hx.size) (fun e => by have := (own_blk h1 i e.symm).1; omega)⟩
  have hK : Keeps (LD q w A) w w' := fun b hb => hw.block b hb.1 (fun e => hb.2.1 e.symm)
  have hD : ∀ b, LD q w A b → LD q w' A' b := fun b hb => ⟨Nat.lt_of_lt_of_le hb.1 hw.size, fun e => by
    rcases hbk with e2 | e2
    · rw [e2] at e; exact hb.2.1 e
    · rw [e2] at e; cases e; exact absurd hb.1 (Nat.lt_irrefl _), hb.2.2⟩
  have hdj : ∀ X, Dj X A → (∀ g, blk X = some g → g < w.heap.size) → Dj X A' := fun X hX hl g hg e => by
    rcases hbk with e2 | e2
    · rw [e2] at e; exact hX g hg e
    · rw [e2] at e; cases e; exact absurd (hl _ hg) (Nat.lt_irrefl _)
  exact hk A' c' m' w' hm' hx' hw hdj ⟨xs ++ ys, by rw [List.flatMap_append]; exact ho, (h2.keep hK hD).append (hy.keep hK hD)⟩
end
end Go.Proofs.YtgdnmpcaiaoaoaaGreatDoor
/- The reference's Compile: its pool and instructions in memory. -/
namespace Go.Proofs.YtgdnmpcaiaoaoaaGreatDoor
open Go.Eng
set_option linter.unusedVariables false
set_option linter.unusedSimpArgs false
/-- Code of one's own, its header in a box. -/
structure C2 (B0 B : Nat) (w : World) (q : Addr) (P : Option Addr) (pn pc : Nat) (sl : Int) (I : Option Addr) (n ic : Nat) (vs : List VV) (is : List (Int × Int)) : Prop where
  box : Box B0 51 3 w q [.slice P pn pc, .int .i64 sl, .slice I n ic]
  cd : CdO B w P pn pc I n ic vs is
  lo : q.block < B
  eq : blk (some q) = some q.block
  le : B ≤ w.heap.size
section
variable {B0 B : Nat} {w w' : World} {q : Addr} {P : Option Addr} {pn pc : Nat} {sl : Int} {I : Option Addr} {n ic : Nat} {vs : List VV} {is : List (Int × Int)}
theorem C2.ext (h : C2 B0 B w q P pn pc sl I n ic vs is) (hx : Ext w w') : C2 B0 B w' q P pn pc sl I n ic vs is := ⟨h.box.bel hx, h.cd.ext hx, h.lo, h.eq, Nat.le_trans h.le hx.size⟩
theorem C2.dq (h : C2 B0 B w q P pn pc sl I n ic vs is) {e : TypeId} {k m c : Nat} {w1 : World} {X : Option Addr} {xs : List Value} (hX : Own B e k w1 X m c xs) : Dj (some q) X := fun g hg e2 => by
  rw [h.eq] at hg; cases hg
  have := (own_blk hX _ e2).1
  have := h.lo
  omega
theorem C2.putI (h : C2 B0 B w q P pn pc sl I n ic vs is) {w2 w3 : World} {I' : Option Addr} {ic' : Nat} {x : Int × Int} (hw2 : Wr I w w2) (hk2 : blk I' = blk I ∨ blk I' = some w.heap.size) (ho2 : Own B 129 2 w2 I' (n + 1) ic' (is.flatMap iC ++ iC x)) (hw3 : Wr (some q) w2 w3) (hb3 : Box B0 51 3 w3 q [.slice P pn pc, .int .i64 sl, .slice I' (n + 1) ic']) : C2 B0 B w3 q P pn pc sl I' (n + 1) ic' vs (is ++ [x]) := by
  have dI' : ∀ X, Dj I X → (∀ g, blk X = some g → g < w.heap.size) → Dj I' X := fun X hd hX g hg e => by
    rcases hk2 with q1 | q1
    · exact hd g (by rw [← q1, hg]) e
    · rw [q1] at hg; cases hg; have := hX _ e; omega
  have lt1 : ∀ {B e k X m c xs}, Own B e k w X m c xs → ∀ g, blk X = some g → g < w.heap.size := fun hX g hg => (own_blk hX g hg).2
  have hc := h.cd
  refine ⟨hb3, ⟨?_, ?_, fun v hv => ?_, (dI' _ hc.PI.symm (lt1 hc.rP)).symm, hc.Pn, fun v hv => dI' _ (hc.In v hv) (lt1 (hc.nam v hv).1), hc.nn⟩, h.lo, h.eq, Nat.le_trans h.le (Nat.le_trans hw2.size hw3.size)⟩
  · exact (hc.rP.wr hw2 (dj_apart hc.rP hc.PI)).wr hw3 (dj_apart hc.rP (h.dq hc.rP).symm)
  · rw [List.flatMap_append]
    simpa using ho2.wr hw3 (dj_apart ho2 (h.dq ho2).symm)
  · have o1 := (hc.nam v hv).1
    have o2 := (o1.wr hw2 (dj_apart o1 (hc.In v hv).symm)).wr hw3 (dj_apart o1 (h.dq o1).symm)
    exact ⟨o2, valm_keep o2 (hc.nam v hv).2⟩
theorem C2.putP (h : C2 B0 B w q P pn pc sl I n ic vs is) {w2 w3 : World} {P' : Option Addr} {pc' : Nat} {v : VV} (hoN : Own B 9 1 w v.A v.m v.c (v.p.xs.map .string)) (hv : ValM w v) (dP : Dj P v.A) (dI : Dj I v.A) (dn : ∀ u ∈ vs, Dj u.A v.A)
    (hw2 : Wr P w w2) (hk2 : blk P' = blk P ∨ blk P' = some w.heap.size) (ho2 : Own B 124 4 w2 P' (pn + 1) pc' (vs.flatMap vC ++ vC v)) (hw3 : Wr (some q) w2 w3) (hb3 : Box B0 51 3 w3 q [.slice P' (pn + 1) pc', .int .i64 sl, .slice I n ic]) : C2 B0 B w3 q P' (pn + 1) pc' sl I n ic (vs ++ [v]) is := by
  have dP' : ∀ X, Dj P X → (∀ g, blk X = some g → g < w.heap.size) → Dj P' X := fun X hd hX g hg e => by
    rcases hk2 with q1 | q1
    · exact hd g (by rw [← q1, hg]) e
    · rw [q1] at hg; cases hg; have := hX _ e; omega
  have lt1 : ∀ {B e k X m c xs}, Own B e k w X m c xs → ∀ g, blk X = some g → g < w.heap.size := fun hX g hg => (own_blk hX g hg).2
  have hc := h.cd
  have keepN : ∀ u : VV, Own B 9 1 w u.A u.m u.c (u.p.xs.map .string) → ValM w u → Dj P u.A → Own B 9 1 w3 u.A u.m u.c (u.p.xs.map .string) ∧ ValM w3 u := fun u o1 hv d => by
    have o2 := (o1.wr hw2 (dj_apart o1 d.symm)).wr hw3 (dj_apart o1 (h.dq o1).symm)
    exact ⟨o2, valm_keep o2 hv⟩
  refine ⟨hb3, ⟨?_, ?_, fun u hu => ?_, dP' _ hc.PI (lt1 hc.rI), fun u hu => ?_, fun u hu => ?_, ?_⟩, h.lo, h.eq, Nat.le_trans h.le (Nat.le_trans hw2.size hw3.size)⟩
  · rw [List.flatMap_append]
    simpa using ho2.wr hw3 (dj_apart ho2 (h.dq ho2).symm)
  · exact (hc.rI.wr hw2 (dj_apart hc.rI hc.PI.symm)).wr hw3 (dj_apart hc.rI (h.dq hc.rI).symm)
  · rcases List.mem_append.1 hu with hu | hu
    · exact keepN u (hc.nam u hu).1 (hc.nam u hu).2 (hc.Pn u hu)
    · simp at hu; subst hu; exact keepN u hoN hv dP
  · rcases List.mem_append.1 hu with hu | hu
    · exact dP' _ (hc.Pn u hu) (lt1 (hc.nam u hu).1)
    · simp at hu; subst hu; exact dP' _ dP (lt1 hoN)
  · rcases List.mem_append.1 hu with hu | hu
    · exact hc.In u hu
    · simp at hu; subst hu; exact dI
  · refine List.pairwise_append.2 ⟨hc.nn, by simp, fun u hu b hb2 => ?_⟩
    simp at hb2; subst hb2
    exact dn u hu
end
end Go.Proofs.YtgdnmpcaiaoaoaaGreatDoor
/- The laws' helpers over typed policies: size, copy, equality; the law FnExactWellTyped walked. -/
namespace Go.Proofs.YtgdnmpcaiaoaoaaGreatDoor
open Go.Eng
set_option linter.unusedVariables false
set_option linter.unusedSimpArgs false
theorem tLTyp : Stc Tryz.prog 46 3 zTyp := ⟨by kernel_rfl, by kernel_rfl⟩
theorem fLTyp0 : Fld Tryz.prog 46 0 0 := ⟨by kernel_rfl⟩
theorem fLTyp1 : Fld Tryz.prog 46 1 1 := ⟨by kernel_rfl⟩
theorem fLTyp2 : Fld Tryz.prog 46 2 2 := ⟨by kernel_rfl⟩
theorem szTyped_f {w : World} {A A2 A3 : Option Addr} {n c n2 c2 n3 c3 : Nat} {nv : List PN} {sv : List PS} {tyl : List Int} (h : TypR w A n A2 n2 A3 n3 c3 nv sv tyl) (hn : n ≤ 9223372036854775807) (hn2 : n2 ≤ 9223372036854775807) :
    FC Tryz.prog 18 [typV A n c A2 n2 c2 A3 n3 c3, .int .i64 1048576] w fun v _ => ∃ r : Int, v = .int .i64 r ∧ r ≤ 1048576 ∧ (0 ≤ r → wtNs nv + wtSs sv ≤ 1048576 ∧ tyl.length ≤ 1048576) := by
  refine FC.intro (cs := []) Tryz.func18 (by kernel_rfl) fun E R hE hr hR => ?_
  have hl3 := h.tys.len
  conv => cbv
  refine st_box hr fun a w1 hx hb0 => ?_
  have hb := hb0 _ (Nat.le_refl _)
  conv => cbv
  (refine st_fld hE fLTyp0 fun p hp => ?_; (conv => cbv); refine st_load hE cLNs (by rw [hp]; exact (hb).at _ _ rfl) ?_; clear hp; (conv => cbv))
  refine st_f hr (szNodeS_f (h.pol.nodes.ext hx) hn 1048576 (by omega) (by omega)) fun v w2 hx2 ⟨r, ev, hr1, hr2⟩ => ?_
  subst ev
  replace hb := hb.bel hx2
  replace hx := hx.trans hx2
  conv => cbv
  refine br (fun _ => ?_) (fun g1 => ?_)
  · conv => cbv
    rw [hR]; exact ⟨hx, -1, rfl, by omega, fun h => by omega⟩
  have g1 : 0 ≤ r := by simpa [hE.cmp, cmpR] using g1
  have hr2 := hr2 g1
  conv => cbv
  (refine st_fld hE fLTyp1 fun p hp => ?_; (conv => cbv); refine st_load hE cLSs (by rw [hp]; exact (hb).at _ _ rfl) ?_; clear hp; (conv => cbv))
  refine st_f hr (szStmtS_f (h.pol.stmts.ext hx) hn2 r g1 hr1) fun v w3 hx3 ⟨r', ev, hr3, hr4⟩ => ?_
  subst ev
  replace hb := hb.bel hx3
  replace hx := hx.trans hx3
  conv => cbv
  refine br (fun _ => ?_) (fun g2 => ?_)
  · conv => cbv
    rw [hR]; exact ⟨hx, -1, rfl, by omega, fun h => by omega⟩
  have g2 : 0 ≤ r' := by simpa [hE.cmp, cmpR] using g2
  have hr4 := hr4 g2
  conv => cbv
  (refine st_fld hE fLTyp2 fun p hp => ?_; (conv => cbv); refine st_load hE cInts (by rw [hp]; exact (hb).at _ _ rfl) ?_; clear hp; (conv => cbv))
  refine st_f hr (szIntS_f (h.tys.ext hx) r' g2 (by omega)) fun v w4 hx4 ⟨r5, ev, hr5, hr6⟩ => ?_
  subst ev
  replace hx := hx.trans hx4
  conv => cbv
  refine br (fun _ => ?_) (fun g3 => ?_)
  · conv => cbv
    rw [hR]; exact ⟨hx, -1, rfl, by omega, fun h => by omega⟩
  have g3 : 0 ≤ r5 := by simpa [hE.cmp, cmpR] using g3
  have hr6 := hr6 g3
  conv => cbv
  rw [hR]; exact ⟨hx, r5, rfl, by omega, fun _ => ⟨by omega, by omega⟩⟩
set_option maxHeartbeats 1000000 in
theorem toTyped_f {w : World} {A A2 A3 : Option Addr} {n c n2 c2 n3 c3 : Nat} {nv : List PN} {sv : List PS} {tyl : List Int} (h : TypR w A n A2 n2 A3 n3 c3 nv sv tyl) (hw : wtNs nv + wtSs sv ≤ 1048576) (hw3 : tyl.length ≤ 1048576) :
    FC Tryz.prog 20 [typV A n c A2 n2 c2 A3 n3 c3] w fun v w' => ∃ A1 c1 A4 c4 A5 c5, v = typV A1 n c1 A4 n2 c4 A5 n3 c5 ∧ TypR w' A1 n A4 n2 A5 n3 c5 nv sv tyl := by
  refine FC.intro (cs := []) Tryz.func20 (by kernel_rfl) fun E R hE hr hR => ?_
  obtain ⟨b1, b2, b3⟩ := wt_b (nv := nv) (by omega)
  have b4 := wtSs_len sv
  have hl1 := h.pol.nodes.len
  have hl2 := h.pol.stmts.len
  have hl3 := h.tys.len
  conv => cbv
  refine st_box hr fun a w1 hx hb0 => ?_
  have hb := hb0 _ (Nat.le_refl _)
  conv => cbv
  refine st_alloc hr tITyp rfl fun o w2 hx2 ho0 => ?_
  have ho := ho0 _ hx.size
  have hb := hb.bel hx2
  have hx := hx.trans hx2
  conv => cbv
  refine st_alloc hr tITyp rfl fun q w3 hx3 hq0 => ?_
  have hq := hq0 _ hx.size
  have aq := (hb.apart (hq0 _ (Nat.le_refl _)) (Nat.le_refl _)).1
  have oq := (ho.apart (hq0 _ (Nat.le_refl _)) (Nat.le_refl _)).1
  have o0 := ho
  have hso := hx3.size
  have hb := hb.bel hx3
  have ho := ho.bel hx3
  have hx := hx.trans hx3
  clear hb0 ho0 hq0
  conv => cbv
  (refine st_fld hE fLTyp0 fun p hp => ?_; (conv => cbv); refine st_load hE cLNs (by rw [hp]; exact (hb).at _ _ rfl) ?_; clear hp; (conv => cbv))
  refine st_f hr (toNodeS_f (h.pol.nodes.ext hx) (by omega) b2 b3) fun v w4 hx4 ⟨A4, c4, ev, h4⟩ => ?_
  subst ev
  have hs4 := hx4.size
  have q0 := hq
  replace hb := hb.bel hx4
  replace ho := ho.bel hx4
  replace hq := hq.bel hx4
  replace hx := hx.trans hx4
  conv => cbv
  refine st_fld hE fITyp0 fun p hp => ?_
  conv => cbv
  refine st_put hr zINs hq hp (by simp) rfl fun wm hwm hq2 => ?_
  replace hx := hx.then (hwm.bel hq hx.size)
  have y4 : Above w3.heap.size w4 wm := hwm.above q0 (Nat.le_refl _)
  simp only [List.set_cons_zero, List.set_cons_succ] at hq2
  replace hq := hq2
  replace hb := hb.wr hwm aq
  replace ho := ho.wr hwm oq
  have hsz : w3.heap.size ≤ wm.heap.size := Nat.le_trans hs4 y4.size
  conv => cbv
  (refine st_fld hE fLTyp1 fun p hp => ?_; (conv => cbv); refine st_load hE cLSs (by rw [hp]; exact (hb).at _ _ rfl) ?_; clear hp; (conv => cbv))
  refine st_f hr (toStmtS_f (h.pol.stmts.ext hx) (by omega)) fun v w6 hx6 ⟨A6, c6, ev, h6⟩ => ?_
  subst ev
  replace hb := hb.bel hx6
  replace ho := ho.bel hx6
  replace hq := hq.bel hx6
  replace hx := hx.trans hx6
  replace y4 := y4.trans (hx6.above _)
  conv => cbv
  refine st_fld hE fITyp1 fun p2 hp2 => ?_
  conv => cbv
  refine st_put hr zISs hq hp2 (by simp) rfl fun w7 hw7 hq3 => ?_
  have y7 : Above w3.heap.size w6 w7 := hw7.above q0 (Nat.le_refl _)
  replace hx := hx.then (hw7.bel hq hx.size)
  replace hb := hb.wr hw7 aq
  replace ho := ho.wr hw7 oq
  simp only [List.set_cons_zero, List.set_cons_succ] at hq3
  replace y4 := y4.trans y7
  have hsz7 : w3.heap.size ≤ w7.heap.size := Nat.le_trans hsz (Nat.le_trans hx6.size y7.size)
  conv => cbv
  (refine st_fld hE fLTyp2 fun p hp => ?_; (conv => cbv); refine st_load hE cInts (by rw [hp]; exact (hb).at _ _ rfl) ?_; clear hp; (conv => cbv))
  refine st_f hr (toIntS_f (h.tys.ext hx) (by omega)) fun v w10 hx10 ⟨A10, c10, ev, h10⟩ => ?_
  subst ev
  replace hq3 := hq3.bel hx10
  replace ho := ho.bel hx10
  replace hx := hx.trans hx10
  replace y7 := y7.trans (hx10.above _)
  replace y4 := y4.trans (hx10.above _)
  conv => cbv
  refine st_fld hE fITyp2 fun p3 hp3 => ?_
  conv => cbv
  refine st_put hr zInts2 hq3 hp3 (by simp) rfl fun w11 hw11 hq4 => ?_
  have y11 : Above w3.heap.size w10 w11 := hw11.above q0 (Nat.le_refl _)
  replace hx := hx.then (hw11.bel hq3 hx.size)
  replace ho := ho.wr hw11 oq
  simp only [List.set_cons_zero, List.set_cons_succ] at hq4
  replace y4 := y4.trans y11
  replace y7 := y7.trans y11
  conv => cbv
  refine st_loadS hE tITyp rfl hq4.at ?_
  conv => cbv
  refine st_putS hr (by kernel_rfl) ho (add_zero _).symm (by simp) (by simp [Value.oneCell']) fun w8 hw8 ho8 => ?_
  simp only [List.take_zero, List.nil_append, List.length_cons, List.length_nil, List.drop_succ_cons, List.drop_nil, List.append_nil] at ho8
  have y8 : Above w3.heap.size w11 w8 := hw8.above o0 hso
  conv => cbv
  refine st_cell hr tITyp rfl ho8.at ?_
  rw [hR]; exact ⟨hx.then (hw8.bel ho hx.size), A4, c4, A6, c6, A10, c10, rfl, ⟨⟨h4 _ (y4.trans y8), h6 _ ((y7.trans y8).mono hsz)⟩, Own.ints (h10.above ((y11.trans y8).mono hsz7))⟩⟩
theorem eqTyped_f {w : World} {A A2 A3 B B2 B3 : Option Addr} {n c n2 c2 n3 c3 d d2 d3 : Nat} {nv : List PN} {sv : List PS} {tyl : List Int} (h : TypR w A n A2 n2 A3 n3 c3 nv sv tyl) (h' : TypR w B n B2 n2 B3 n3 d3 nv sv tyl) (hn : n ≤ 9223372036854775807) (hn2 : n2 ≤ 9223372036854775807) :
    FC Tryz.prog 12 [typV A n c A2 n2 c2 A3 n3 c3, typV B n d B2 n2 d2 B3 n3 d3] w fun v _ => v = .bool true := by
  refine FC.intro (cs := []) Tryz.func12 (by kernel_rfl) fun E R hE hr hR => ?_
  conv => cbv
  refine st_box hr fun a w1 hx ha0 => ?_
  have ha := ha0 _ (Nat.le_refl _)
  conv => cbv
  refine st_box hr fun b w2 hx2 hb0 => ?_
  have hb := hb0 _ hx.size
  replace ha := ha.bel hx2
  replace hx := hx.trans hx2
  clear ha0 hb0
  conv => cbv
  (refine st_fld hE fITyp0 fun p hp => ?_; (conv => cbv); refine st_load hE cINs (by rw [hp]; exact (ha).at _ _ rfl) ?_; clear hp; (conv => cbv))
  (refine st_fld hE fITyp0 fun p hp => ?_; (conv => cbv); refine st_load hE cINs (by rw [hp]; exact (hb).at _ _ rfl) ?_; clear hp; (conv => cbv))
  refine st_f hr (eqNodeS_f (h.pol.nodes.ext hx) (h'.pol.nodes.ext hx) hn) fun v w3 hx3 ev => ?_
  subst ev
  replace ha := ha.bel hx3
  replace hb := hb.bel hx3
  replace hx := hx.trans hx3
  conv => cbv
  (refine st_fld hE fITyp1 fun p hp => ?_; (conv => cbv); refine st_load hE cISs (by rw [hp]; exact (ha).at _ _ rfl) ?_; clear hp; (conv => cbv))
  (refine st_fld hE fITyp1 fun p hp => ?_; (conv => cbv); refine st_load hE cISs (by rw [hp]; exact (hb).at _ _ rfl) ?_; clear hp; (conv => cbv))
  refine st_f hr (eqStmtS_f (h.pol.stmts.ext hx) (h'.pol.stmts.ext hx) hn2) fun v w4 hx4 ev => ?_
  subst ev
  replace ha := ha.bel hx4
  replace hb := hb.bel hx4
  replace hx := hx.trans hx4
  conv => cbv
  (refine st_fld hE fITyp2 fun p hp => ?_; (conv => cbv); refine st_load hE cInts (by rw [hp]; exact (ha).at _ _ rfl) ?_; clear hp; (conv => cbv))
  (refine st_fld hE fITyp2 fun p hp => ?_; (conv => cbv); refine st_load hE cInts (by rw [hp]; exact (hb).at _ _ rfl) ?_; clear hp; (conv => cbv))
  refine st_qb hE (eqIntS_q (h.tys.ext hx) (h'.tys.ext hx)) fun b hb2 w5 hs5 => ?_
  obtain rfl : b = true := hb2.2 rfl
  conv => cbv
  rw [hR]; exact ⟨hx.trans hs5.ext, rfl⟩
end Go.Proofs.YtgdnmpcaiaoaoaaGreatDoor
/- Safe of the program and of the reference walked; the law FnExactSafe. -/
namespace Go.Proofs.YtgdnmpcaiaoaoaaGreatDoor
open Go.Eng
set_option linter.unusedVariables false
set_option linter.unusedSimpArgs false
/-- The node's tree is safe, in a well-typed policy. -/
def SafeP (nv : List PN) (sv : List PS) (tyl : List Int) (node : Int) : Prop := wellP nv sv tyl ∧ ∃ (k a : Nat) (u : Tr), node = (k : Int) ∧ IsTs nv a (k + 1) [(k : Int)] [u] ∧ safeT u = true
theorem SafeP.lt {nv : List PN} {sv : List PS} {tyl : List Int} {node : Int} (h : SafeP nv sv tyl node) : 0 ≤ node ∧ node < nv.length := by
  obtain ⟨_, k, a, u, e, hI, _⟩ := h
  obtain ⟨kn, p, _, e1, _, hp, _⟩ := hI.one
  have := (List.getElem?_eq_some_iff.1 hp).1
  have : k = kn := Int.ofNat.inj e1
  omega
theorem SafeP.at {nv : List PN} {sv : List PS} {tyl : List Int} {node : Int} {k a : Nat} {u : Tr} (hw : wellP nv sv tyl) (e : node = (k : Int)) (hI : IsTs nv a (k + 1) [(k : Int)] [u]) : SafeP nv sv tyl node ↔ safeT u = true := by
  constructor
  · rintro ⟨_, k', a', u', e', hI', hs⟩
    have : k' = k := by omega
    subst this
    have := hI.uniqT hI'
    cases this
    exact hs
  · intro hs
    exact ⟨hw, k, a, u, e, hI, hs⟩
end Go.Proofs.YtgdnmpcaiaoaoaaGreatDoor
