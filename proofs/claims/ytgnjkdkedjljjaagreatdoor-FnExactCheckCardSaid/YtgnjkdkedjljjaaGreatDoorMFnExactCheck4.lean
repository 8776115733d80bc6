/- Texts that the law FnExactCheck leans on, part 4 of 7: contracts of the functions that it reaches and plain lemmas. Each holds under the conditions that it states. -/
import Derived.Test.YtgnjkdkedjljjaaGreatDoorMFnExactCheck3
set_option maxHeartbeats 16000000
set_option linter.unusedVariables false
set_option linter.unusedSimpArgs false
namespace Go.Proofs.YtgnjkdkedjljjaaGreatDoor
open Go.Eng
set_option linter.unusedVariables false
set_option linter.unusedSimpArgs false
theorem tPl : Stc Tryz.prog 350 2 [.nilIface, .int .i64 0] := ⟨by kernel_rfl, by kernel_rfl⟩
theorem sPl : Slc Tryz.prog 347 350 (.agg ⟨[.nilIface, .int .i64 0]⟩) 2 24 := ⟨Tryz.underlying347, by kernel_rfl⟩
theorem fPl0 : Fld Tryz.prog 350 0 0 := ⟨by kernel_rfl⟩
theorem fPl1 : Fld Tryz.prog 350 1 1 := ⟨by kernel_rfl⟩
theorem fWk0 : Fld Tryz.prog 267 0 0 := ⟨by kernel_rfl⟩
theorem fWk1 : Fld Tryz.prog 267 1 1 := ⟨by kernel_rfl⟩
theorem fWk2 : Fld Tryz.prog 267 2 2 := ⟨by kernel_rfl⟩
theorem cFn : Cel Tryz.prog 173 := ⟨_, Tryz.underlying173, by simp, by simp⟩
section
variable {E : Sym} {w : World} {K : Value → World → Prop} {d : Option Tmp} {ty : TypeId} {pos : String} {aft : Array Edge} {g : Option (Nat × Bool)} {bq : Bool}
theorem run_bPl (t : TypeId) (u : Value) (i : Int) (w : World) : (Instr.build 350 #[(0, .iface t u), (1, .int .i64 i)]).run Tryz.prog w = .ok (.agg #[.iface t u, .int .i64 i]) w := by kernel_rfl
theorem st_bPl (hE : EngB bq Tryz.prog E) {t : TypeId} {u : Value} {i : Int} {x y : Operand} (hk : K (.agg ⟨[.iface t u, .int .i64 i]⟩) w) : E.stop ⟨d, .build 350 ⟨[(0, x), (1, y)]⟩, ty, pos, aft, g⟩ [.iface t u, .int .i64 i] w K := by
 refine hE.det (v := .agg ⟨[.iface t u, .int .i64 i]⟩) (fun w1 _ ρ hρ => ?_) hk
 simp only [opnds, b2_, b3_, b1_, and_true] at hρ
 have := run_bPl t u i w1
 simp [execOp, hρ, this]
theorem run_bOp (o i : Int) (w : World) : (Instr.build 320 #[(0, .int .i64 o), (2, .int .i64 i)]).run Tryz.prog w = .ok (.agg #[.int .i64 o, .slice none 0 0, .int .i64 i]) w := by kernel_rfl
theorem st_bOp (hE : EngB bq Tryz.prog E) {o i : Int} {x y : Operand} (hk : K (.agg ⟨[.int .i64 o, .slice none 0 0, .int .i64 i]⟩) w) : E.stop ⟨d, .build 320 ⟨[(0, x), (2, y)]⟩, ty, pos, aft, g⟩ [.int .i64 o, .int .i64 i] w K := by
 refine hE.det (v := .agg ⟨[.int .i64 o, .slice none 0 0, .int .i64 i]⟩) (fun w1 _ ρ hρ => ?_) hk
 simp only [opnds, b2_, b3_, b1_, and_true] at hρ
 have := run_bOp o i w1
 simp [execOp, hρ, this]
end
structure SE where
 t : Tr
 pl : Int
 ty : TypeId
 u : Value
def fE (e : SE) : List Value := [.iface e.ty e.u, .int .i64 e.pl]
theorem fE_len (e : SE) : (fE e).length = 2 := rfl
def stOf (es : List SE) : List (Tr × Int) := es.map fun e => (e.t, e.pl)
def Foot (w0s ws : Nat) (w : World) (A : Option Addr) (b : Nat) : Prop := b < w0s ∨ (ws ≤ b ∧ b < w.heap.size ∧ blk A ≠ some b)
def SOK (w0s ws : Nat) (w : World) (A : Option Addr) (es : List SE) : Prop := ∀ e ∈ es, TreeV (Foot w0s ws w A) w e.t (.iface e.ty e.u) ∧ dep e.t ≤ 64
theorem foot_lt {w0s ws : Nat} {w : World} {A : Option Addr} (h : w0s ≤ w.heap.size) {b : Nat} (hb : Foot w0s ws w A b) : b < w.heap.size := by
 rcases hb with hb | hb
 ·omega
 ·exact hb.2.1
theorem foot_ext {w0s ws : Nat} {w w' : World} {A : Option Addr} (hx : w.heap.size ≤ w'.heap.size) {b : Nat} (hb : Foot w0s ws w A b) : Foot w0s ws w' A b := by
 rcases hb with hb | ⟨h1, h2, h3⟩
 ·exact .inl hb
 ·exact .inr ⟨h1, by omega, h3⟩
theorem tree_ext {w0s ws : Nat} {w w' : World} {A : Option Addr} (h0 : w0s ≤ w.heap.size) (hx : Ext w w') {t : Tr} {v : Value} (h : TreeV (Foot w0s ws w A) w t v) : TreeV (Foot w0s ws w' A) w' t v :=
 h.keep (fun b hb => hx.block b (foot_lt h0 hb)) (fun b hb => foot_ext hx.size hb)
theorem SOK.ext {w0s ws : Nat} {w w' : World} {A : Option Addr} {es : List SE} (h : SOK w0s ws w A es) (h0 : w0s ≤ w.heap.size) (hx : Ext w w') : SOK w0s ws w' A es := fun e he => ⟨tree_ext h0 hx (h e he).1, (h e he).2⟩
theorem tree_wr {w0s ws : Nat} {w w' : World} {A : Option Addr} {a : Addr} (h0 : w0s ≤ w.heap.size) (ha : w0s ≤ a.block ∧ a.block < ws) (ha0 : blk (some a) = some a.block) (hw : Wr (some a) w w') {t : Tr} {v : Value} (h : TreeV (Foot w0s ws w A) w t v) : TreeV (Foot w0s ws w' A) w' t v :=
 h.keep (fun b hb => hw.block b (foot_lt h0 hb) (by
  intro e
  rw [ha0] at e
  cases e
  rcases hb with hb | hb <;> omega)) (fun b hb => foot_ext hw.size hb)
theorem tree_gro {w0s ws : Nat} {w w' : World} {A A' : Option Addr} (h0 : w0s ≤ w.heap.size) (hA : A = none ∨ ∃ g, blk A = some g ∧ w0s ≤ g) (hg : Gro w A w' A') {t : Tr} {v : Value} (h : TreeV (Foot w0s ws w A) w t v) : TreeV (Foot w0s ws w' A') w' t v :=
 h.keep (fun b hb => hg.wr.block b (foot_lt h0 hb) (by
  intro e
  rcases hb with hb | hb
  ·rcases hA with rfl | ⟨g, e2, hg2⟩
   ·simp [Eng.blk, Value.ownBlock] at e
   ·rw [e2] at e; cases e; omega
  ·exact hb.2.2 e.symm)) (fun b hb => by
  rcases hb with hb | ⟨h1, h2, h3⟩
  ·exact .inl hb
  ·refine .inr ⟨h1, n3_ h2 hg.wr.size, ?_⟩
   rcases hg.at_ with e | ⟨g, e, hg2⟩
   ·rw [e]; exact h3
   ·rw [e]; intro q; cases q; omega)
theorem SOK.gro {w0s ws : Nat} {w w' : World} {A A' : Option Addr} {es : List SE} (h : SOK w0s ws w A es) (h0 : w0s ≤ w.heap.size) (hA : A = none ∨ ∃ g, blk A = some g ∧ w0s ≤ g) (hg : Gro w A w' A') : SOK w0s ws w' A' es := fun e he => ⟨tree_gro h0 hA hg (h e he).1, (h e he).2⟩
def LeafC (w : World) (a : Addr) (f : FuncId) (fst cap : Array Value) (leafP : PN → Prop) : Prop :=
 ∀ w', Wr (some a) w w' → ∀ v : VN, OKN w' v → FC Tryz.prog f (fst.toList ++ [.agg ⟨cN v⟩] ++ cap.toList) w' fun r _ => ∃ b : Bool, r = .bool b ∧ (b = true ↔ leafP v.p)
theorem TreeV.form {D : Nat → Prop} {w : World} {t : Tr} {v : Value} (h : TreeV D w t v) : ∃ ty u, v = .iface ty u := by
 cases t <;> simp only [TreeV] at h
 ·obtain ⟨A, m, c, rfl, _⟩ := h; exact ⟨_, _, rfl⟩
 ·rw [h.1]; exact ⟨_, _, rfl⟩
 ·rw [h]; exact ⟨_, _, rfl⟩
 ·rw [h]; exact ⟨_, _, rfl⟩
 ·obtain ⟨A, m, c, vs, rfl, _⟩ := h; exact ⟨_, _, rfl⟩
theorem own_low {B : Nat} {e : TypeId} {k : Nat} {w : World} {A : Option Addr} {m c : Nat} {xs : List Value} {a : Addr} (h : Own B e k w A m c xs) (ha : a.block < B) (ha0 : blk (some a) = some a.block) : Apart A (some a) ∧ Apart (some a) A := by
 obtain rfl | ⟨g, rfl, hg, _⟩ := h.blk
 ·exact ⟨.inl rfl, .inr (by rw [ha0]; simp [Eng.blk, Value.ownBlock])⟩
 ·have e1 : blk (some (⟨g, 0, none⟩ : Addr)) = some g := rfl
  exact ⟨.inr (by rw [ha0, e1]; intro q; cases q; omega), .inr (by rw [ha0, e1]; intro q; cases q; omega)⟩
theorem own_row {B B' : Nat} {e : TypeId} {k : Nat} {w : World} {A : Option Addr} {m c : Nat} {xs : List Value} (h : Own B e k w A m c xs) (hB : B' ≤ B) : A = none ∨ ∃ g, blk A = some g ∧ B' ≤ g := by
 obtain rfl | ⟨g, rfl, hg, _⟩ := h.blk
 ·exact .inl rfl
 ·exact .inr ⟨g, rfl, by omega⟩
theorem strs_low {w : World} {A : Option Addr} {m c : Nat} {xs : List ByteArray} (h : Strs w A m c xs) {D : Nat → Prop} (hD : ∀ b, b < w.heap.size → D b) : InD D A m := fun a ha hm => by
 have hl := h.len
 obtain ⟨a', e, hc⟩ := h.cells.at (i := 0) (by simp; omega)
 rw [ha] at e
 cases e
 have := World.block_lt_of_cell? w _ hc
 rw [add_block] at this
 exact hD _ this
theorem tree_g {w0 w : World} (hT : Tab w0 6 constF) {AN : Option Addr} {N cN' : Nat} {nv : List PN} (hN : RNs w0 AN N nv) (hNb : N ≤ 4000) {a : Addr} {f : FuncId} {fst cap : Array Value} {i0 : Nat} {ii0 : Int} (hii0 : ii0 = (i0 : Int)) (hi0 : i0 ≤ N)
  (hb : Box w0.heap.size 267 3 w a [.slice AN N cN', .int .i64 ii0, .func (.func f) fst cap]) (hx : Ext w0 w) {leafP : PN → Prop} (hleaf : LeafC w a f fst cap leafP) (top : Int) :
  GC Tryz.prog 155 [.pointer (some a), .int .i64 top] w fun r w' => ∃ (v : Value) (b : Bool), r = .tuple ⟨[v, .bool b]⟩ ∧ v.oneCell' = true ∧ Wr (some a) w w' ∧ (b = false → treeM nv leafP i0 top = none) ∧
   (b = true → ∃ t ty u, v = .iface ty u ∧ treeM nv leafP i0 top = some t ∧ TreeV (fun b => b < w0.heap.size ∨ (w.heap.size ≤ b ∧ b < w'.heap.size)) w' t v ∧ Box w0.heap.size 267 3 w' a [.slice AN N cN', .int .i64 (top + 1), .func (.func f) fst cap]) := by
 refine GC.intro (cs := []) Tryz.func155 (by kernel_rfl) fun E R hE hr hR => ?_
 have hNl := hN.len
 obtain ⟨TM, hTM0⟩ : ∃ TM, TM = treeM nv leafP i0 top := ⟨_, rfl⟩
 rw [← hTM0] at hR
 have hTM := hTM0
 unfold treeM at hTM
 obtain ⟨ga, hga, hga1, hga2⟩ := hb.form
 have hab : a.block = ga := by rw [hga]
 have ha0 : blk (some a) = some a.block := by rw [hga]; rfl
 have har : w0.heap.size ≤ a.block ∧ a.block < w.heap.size := by omega
 have h0s := hx.size
 have bad : TM = none → ∀ w2, Wr (some a) w w2 → R (.tuple ⟨[.nilIface, .bool false]⟩) w2 := fun h w2 h2 => by
  rw [hR]; exact ⟨.nilIface, false, rfl, rfl, h2, fun _ => h, fun q => by cases q⟩
 conv => cbv
 (refine st_nil hE ?_; (conv => cbv); refine st_fld hE fWk1 fun p hp => ?_; (conv => cbv); refine st_load hE cInt (by rw [hp]; exact (hb).at _ _ rfl) ?_; (conv => cbv))
 refine br (fun g => ?_) (fun g => ?_)
 ·have g : top < ii0 := by simpa [hE.cmp, cmpR] using g
  rw [if_pos (.inl (by omega))] at hTM
  conv => cbv
  exact bad hTM _ (Wr.refl _ _)
 have g : ¬ top < ii0 := by simpa [hE.cmp, cmpR] using g
 conv => cbv
 (refine st_nil hE ?_; (conv => cbv); refine st_fld hE fWk0 fun p hp => ?_; (conv => cbv); refine st_load hE cINs (by rw [hp]; exact (hb).at _ _ rfl) ?_; (conv => cbv))
 refine st_len hE sINd fun x1 hx1 => ?_
 conv => cbv
 refine br (fun g1 => ?_) (fun g1 => ?_)
 ·have g1 : x1 ≤ top := by simpa [hE.cmp, cmpR] using g1
  rw [if_pos (.inr (by omega))] at hTM
  conv => cbv
  exact bad hTM _ (Wr.refl _ _)
 have g1 : ¬ x1 ≤ top := by simpa [hE.cmp, cmpR] using g1
 rw [if_neg (by omega)] at hTM
 obtain ⟨tn, htn⟩ : ∃ tn : Nat, top = tn := ⟨top.toNat, by omega⟩
 rw [show top.toNat = tn by omega] at hTM
 obtain ⟨V, hV0⟩ : ∃ V, V = runM leafP (seg nv i0 (tn + 1)) i0 [] := ⟨_, rfl⟩
 rw [← hV0] at hTM
 conv => cbv
 refine st_none hr sPl fun A1 w1 hx1' h10 => ?_
 have h1 := h10 w.heap.size (n1_ _)
 conv => cbv
 refine loop_rulec [28] hr (fun (s : Nat × Int × Option Addr × Nat × Nat × List SE) w' => i0 ≤ s.1 ∧ s.1 ≤ tn + 1 ∧ s.2.1 = (s.1 : Int) ∧ Wr (some a) w w' ∧ Box w0.heap.size 267 3 w' a [.slice AN N cN', .int .i64 s.2.1, .func (.func f) fst cap] ∧
   Own w.heap.size 350 2 w' s.2.2.1 s.2.2.2.1 s.2.2.2.2.1 (s.2.2.2.2.2.flatMap fE) ∧ SOK w0.heap.size w.heap.size w' s.2.2.1 s.2.2.2.2.2 ∧ runM leafP (seg nv s.1 (tn + 1)) s.1 (stOf s.2.2.2.2.2) = V ∧ s.2.2.2.1 ≤ s.1)
  (fun s => [(0, .pointer (some a)), (1, .int .i64 top), (6, .slice s.2.2.1 s.2.2.2.1 s.2.2.2.2.1)]) (fun s => tn + 1 - s.1) (i0, ii0, A1, 0, 0, [])
  (by simp [Fits, lk]) ⟨n1_ _, by simp only; omega, hii0, hx1'.wr _, hb.bel hx1', by simpa using h1, (fun e he => by cases he), hV0.symm, by simp⟩ ?_
 clear hb h1 h10 hV0
 rintro I hI ⟨i, ii, A, m, c, es⟩ w' ⟨hi1, hi2, hii, hwr, hb, ho, hso, hV, hmi⟩
 simp only at hi1 hi2 hii hb ho hso hV hmi
 obtain ⟨ij, hij⟩ : ∃ z, z = ii + 1 := ⟨_, rfl⟩
 have hol := ho.len
 rw [fl_len fE_len] at hol
 have hx' : Ext w0 w' := hx.then (hwr.bel (show Own w0.heap.size _ _ w' (some a) 1 1 _ from hb) hx.size)
 have h0s' := hx'.size
 have hws' := hwr.size
 conv => cbv
 (refine st_nil hE ?_; (conv => cbv); refine st_fld hE fWk1 fun p hp => ?_; (conv => cbv); refine st_load hE cInt (by rw [hp]; exact (hb).at _ _ rfl) ?_; (conv => cbv))
 refine br (fun g2 => ?_) (fun g2 => ?_)
 ·have g2 : i ≤ tn := by
   have : ii ≤ top := by simpa [hE.cmp, cmpR] using g2
   omega
  have ei : E.ar .add .i64 ii 1 = ij := by rw [hE.ar, hij]; exact wrap_in (by omega) (by omega)
  obtain ⟨ad, v, hA, hg, hc, hok⟩ := hN.get (i := i) (by omega)
  obtain ⟨⟨o, z, tx, xs, ks⟩, A0, m0, c0, A2, m2, c2⟩ := v
  simp only at hg
  rw [seg_cat (b := i + 1) (by omega) (by omega), seg_one hg, List.cons_append, a2_, runM] at hV
  have r_ks := hok.r_ks
  simp only at r_ks
  have hkl := r_ks.len
  obtain ⟨SM, hSM0⟩ : ∃ SM, SM = stepM leafP ⟨o, z, tx, xs, ks⟩ i (stOf es) := ⟨_, rfl⟩
  rw [← hSM0] at hV
  have hSM := hSM0
  unfold stepM at hSM
  have hstl : (stOf es).length = m := by unfold stOf; simp; omega
  simp only [hstl] at hSM
  have bad2 : SM = none → ∀ w2, Wr (some a) w w2 → R (.tuple ⟨[.nilIface, .bool false]⟩) w2 := fun h => by
   rw [h] at hV
   simp only at hV
   rw [← hV] at hTM
   exact bad hTM
  conv => cbv
  refine draw_h [0, 1, 2, 3, 4, 5, 6, 7, 8, 9] [(10, false), (11, false)] hr fol (by kernel_rfl) fun E' hE' w2 hs2 S hS => ?_
  replace hb := hb.bel hs2.ext
  replace ho := ho.bel hs2.ext
  replace hso := hso.ext h0s' hs2.ext
  replace hx' := hx'.trans hs2.ext
  replace hwr := hwr.trans (hs2.ext.wr _)
  conv => cbv
  (refine st_nil hE' ?_; (conv => cbv); refine st_fld hE' fWk0 fun p hp => ?_; (conv => cbv); refine st_load hE' cINs (by rw [hp]; exact (hb).at _ _ rfl) ?_; (conv => cbv))
  (refine st_nil hE' ?_; (conv => cbv); refine st_fld hE' fWk1 fun p hp => ?_; (conv => cbv); refine st_load hE' cInt (by rw [hp]; exact (hb).at _ _ rfl) ?_; (conv => cbv))
  refine st_idx hE' sINd hA (by omega) (by omega) fun q hq => ?_
  rw [show ii.toNat = i by omega] at hq
  conv => cbv
  refine st_loadS hE' tINd (vs := [.int .i64 o, .int .i64 z, .string tx, .slice A0 m0 c0, .slice A2 m2 c2]) rfl (fun j u hu => by rw [hq]; exact hx'.cell (hc j u hu)) ?_
  conv => cbv
  refine st_alloc hr tINd rfl fun q7 w3 hx3 hq0 => ?_
  refine ⟨hS _ hx3, ?_⟩
  conv => cbv
  refine st_putS hr (by kernel_rfl) (hq0 _ (n1_ _)) (add_zero _).symm (by simp) (by simp [Value.oneCell']) fun w4 hw4 hq7 => ?_
  simp only [a1_, a2_, a3_, a4_, a5_, a6_, a7_] at hq7
  have hxy := hx3.then (hw4.bel (hq0 _ (n1_ _)) hx3.size)
  refine ⟨hS _ hxy, ?_⟩
  have h0s2 := hx'.size
  replace hb := hb.bel hxy
  replace ho := ho.bel hxy
  replace hso := hso.ext h0s2 hxy
  replace hx' := hx'.trans hxy
  replace hwr := hwr.trans (hxy.wr _)
  clear hq0 hw4 hx3 hq hc hxy hs2 hS h0s2
  conv => cbv
  (refine st_fld hE fINd0 fun p hp => ?_; (conv => cbv); refine st_load hE cInt (by rw [hp]; exact (hq7).at _ _ rfl) ?_; (conv => cbv))
  refine st_f hr (kidsOf_f o) fun r w5 hx5 ev => ?_
  subst ev
  obtain ⟨kf, hkf⟩ : ∃ kf, kf = kidsF o := ⟨_, rfl⟩
  have hkf3 := kidsF_le o
  rw [← hkf]
  rw [← hkf] at hSM
  have h0s3 := hx'.size
  replace hb := hb.bel hx5
  replace ho := ho.bel hx5
  replace hso := hso.ext h0s3 hx5
  replace hq7 := hq7.bel hx5
  replace hx' := hx'.trans hx5
  replace hwr := hwr.trans (hx5.wr _)
  clear hx5 h0s3
  conv => cbv
  refine br (fun g3 => ?_) (fun g3 => ?_)
  ·have g3 : kf < 0 := by simpa [hE.cmp, cmpR] using g3
   rw [if_pos (.inl g3)] at hSM
   conv => cbv
   exact bad2 hSM _ hwr
  have g3 : ¬ kf < 0 := by simpa [hE.cmp, cmpR] using g3
  conv => cbv
  (refine st_fld hE fINd4 fun p hp => ?_; (conv => cbv); refine st_load hE cInts (by rw [hp]; exact (hq7).at _ _ rfl) ?_; (conv => cbv))
  refine st_len hE tInts fun x3 hx3 => ?_
  conv => cbv
  refine br (fun g4 => ?_) (fun g4 => ?_)
  ·have g4 : x3 ≠ kf := by simpa [hE.cmp, cmpR] using g4
   rw [if_pos (.inr (.inl (by omega)))] at hSM
   conv => cbv
   exact bad2 hSM _ hwr
  have g4 : x3 = kf := by simpa [hE.cmp, cmpR] using g4
  conv => cbv
  refine st_len hE sPl fun x4 hx4 => ?_
  conv => cbv
  refine br (fun g5 => ?_) (fun g5 => ?_)
  ·have g5 : x4 < kf := by simpa [hE.cmp, cmpR] using g5
   rw [if_pos (.inr (.inr (by omega)))] at hSM
   conv => cbv
   exact bad2 hSM _ hwr
  have g5 : ¬ x4 < kf := by simpa [hE.cmp, cmpR] using g5
  rw [if_neg (by omega)] at hSM
  rw [← hii] at hSM
  conv => cbv
  refine cut_rule [] [] hr (fun (s : Tr × TypeId × Value) w9 => Wr (some a) w w9 ∧ Ext w0 w9 ∧ Box w0.heap.size 267 3 w9 a [.slice AN N cN', .int .i64 ii, .func (.func f) fst cap] ∧ Own w.heap.size 350 2 w9 A m c (es.flatMap fE) ∧ SOK w0.heap.size w.heap.size w9 A es ∧
    TreeV (Foot w0.heap.size w.heap.size w9 A) w9 s.1 (.iface s.2.1 s.2.2) ∧ dep s.1 ≤ 64 ∧ SM = some ((stOf es).take (m - ks.length) ++ [(s.1, ii)]))
   (fun s => [(0, .pointer (some a)), (1, .int .i64 top), (6, .slice A m c), (8, .int .i64 kf), (9, .iface s.2.1 s.2.2)]) (fun J hJ => ?_) ?_
  ·conv => cbv
   refine br (fun g6 => ?_) (fun g6 => ?_)
   ·have g6 : kf = 0 := by simpa [hE.cmp, cmpR] using g6
    rw [if_pos g6] at hSM
    have hop : 1 ≤ o ∧ o ≤ 7 := by rw [hkf] at g6; unfold kidsF at g6; (repeat' split at g6) <;> omega
    conv => cbv
    refine draw_h [0, 1, 2, 3, 4] [(5, false), (6, true)] hr fol (by kernel_rfl) fun E' hE' w6 hs6 S hS => ?_
    conv => cbv
    (refine st_nil hE' ?_; (conv => cbv); refine st_fld hE' fWk2 fun p hp => ?_; (conv => cbv); refine st_load hE' cFn (by rw [hp]; exact ((hb.bel hs6.ext)).at _ _ rfl) ?_; (conv => cbv))
    refine st_loadS hE' tINd rfl (hq7.bel hs6.ext).at ?_
    conv => cbv
    refine st_f hr (hleaf w6 (hwr.trans (hs6.ext.wr _)) ⟨⟨o, z, tx, xs, ks⟩, A0, m0, c0, A2, m2, c2⟩ (hok.ext (hx'.trans hs6.ext))) fun r w7 hx7 ⟨b, ev, hbl⟩ => ?_
    subst ev
    refine ⟨hS _ hx7, ?_⟩
    have hxz := hs6.ext.trans hx7
    have h0s3 := hx'.size
    replace hb := hb.bel hxz
    replace ho := ho.bel hxz
    replace hso := hso.ext h0s3 hxz
    replace hq7 := hq7.bel hxz
    replace hx' := hx'.trans hxz
    replace hwr := hwr.trans (hxz.wr _)
    clear hxz hx7 hs6 hS h0s3
    conv => cbv
    cases b with
    | false =>
     rw [if_neg (fun q => absurd (hbl.2 q) (by simp))] at hSM
     conv => cbv
     exact bad2 hSM _ hwr
    | true =>
     rw [if_pos (hbl.1 rfl)] at hSM
     conv => cbv
     refine draw_h [0, 1, 2, 3, 4] [(5, false), (6, true)] hr fol (by kernel_rfl) fun E' hE' w6 hs6 S hS => ?_
     conv => cbv
     refine st_loadS hE' tINd rfl (hq7.bel hs6.ext).at ?_
     conv => cbv
     (refine st_nil hE' ?_; (conv => cbv); refine st_fld hE' fWk1 fun p hp => ?_; (conv => cbv); refine st_load hE' cInt (by rw [hp]; exact ((hb.bel hs6.ext)).at _ _ rfl) ?_; (conv => cbv))
     have hx6 := hx'.trans hs6.ext
     refine st_f hr (leafTree_f (D := Foot w0.heap.size w.heap.size w6 A) (hT.ext hx6) ⟨⟨o, z, tx, xs, ks⟩, A0, m0, c0, A2, m2, c2⟩ (hok.ext hx6) hop (strs_low hok.r_xs fun b hb => .inl hb) ii) fun r w7 hx7 ht => ?_
     obtain ⟨ty9, u9, rfl⟩ := ht.form
     refine ⟨hS _ hx7, ?_⟩
     have hxz := hs6.ext.trans hx7
     have h0s3 := hx'.size
     have ht2 : TreeV (Foot w0.heap.size w.heap.size w7 A) w7 (leafF ⟨o, z, tx, xs, ks⟩ ii) (.iface ty9 u9) := ht.keep (fun b _ => rfl) (fun b hb => foot_ext hx7.size hb)
     conv => cbv
     refine ⟨(leafF ⟨o, z, tx, xs, ks⟩ ii, ty9, u9), by simp [Fits, lk], hJ _ _ ⟨hwr.trans (hxz.wr _), hx'.trans hxz, hb.bel hxz, ho.bel hxz, hso.ext h0s3 hxz, ht2, by simp only; rw [dep_leaf]; omega, ?_⟩⟩
     simp only
     rw [hSM, g3_ (by rw [hstl]; omega)]
   ·have g6 : kf ≠ 0 := by simpa [hE.cmp, cmpR] using g6
    rw [if_neg g6] at hSM
    obtain ⟨lo, hlo⟩ : ∃ lo, lo = m - ks.length := ⟨_, rfl⟩
    obtain ⟨kn, hkn⟩ : ∃ kn, kn = m - lo := ⟨_, rfl⟩
    have hkn2 : kn = ks.length := by omega
    have hd1 : ((stOf es).drop (m - ks.length)).map (·.2) = (es.drop lo).map (·.pl) := by rw [← hlo]; unfold stOf; rw [← List.map_drop, List.map_map]; rfl
    have hd2 : ((stOf es).drop (m - ks.length)).map (·.1) = (es.drop lo).map (·.t) := by rw [← hlo]; unfold stOf; rw [← List.map_drop, List.map_map]; rfl
    rw [hd1, hd2] at hSM
    have hdl : (es.drop lo).length = kn := by rw [List.length_drop]; omega
    conv => cbv
    refine draw_h [0, 1, 2, 3, 4, 5, 6] [(7, false), (8, false)] hr fol (by kernel_rfl) fun E' hE' w6 hs6 S hS => ?_
    have h0s3 := hx'.size
    replace hb := hb.bel hs6.ext
    replace ho := ho.bel hs6.ext
    replace hso := hso.ext h0s3 hs6.ext
    replace hq7 := hq7.bel hs6.ext
    replace hx' := hx'.trans hs6.ext
    replace hwr := hwr.trans (hs6.ext.wr _)
    conv => cbv
    (refine st_fld hE' fINd0 fun p hp => ?_; (conv => cbv); refine st_load hE' cInt (by rw [hp]; exact (hq7).at _ _ rfl) ?_; (conv => cbv))
    (refine st_nil hE' ?_; (conv => cbv); refine st_fld hE' fWk1 fun p hp => ?_; (conv => cbv); refine st_load hE' cInt (by rw [hp]; exact (hb).at _ _ rfl) ?_; (conv => cbv))
    refine st_bOp hE' ?_
    conv => cbv
    refine st_alloc hr tOp rfl fun q10 w7 hx7 hq0 => ?_
    refine ⟨hS _ hx7, ?_⟩
    conv => cbv
    refine st_putS hr (by kernel_rfl) (hq0 _ (n1_ _)) (add_zero _).symm (by simp) (by simp [Value.oneCell']) fun w8 hw8 hq10 => ?_
    simp only [a1_, a2_, a3_, a4_, a5_, a6_, a7_] at hq10
    have hy := hx7.then (hw8.bel (hq0 _ (n1_ _)) hx7.size)
    refine ⟨hS _ hy, ?_⟩
    clear hq0 hw8 hx7 hs6 hS h0s3
    conv => cbv
    refine st_loadS hE tINd rfl (hq7.bel hy).at ?_
    conv => cbv
    refine st_f hr (bare_f (w := w8) (o := o) (z := z) (tx := tx) hok.r_xs.len false false false) fun r w9 hx9 ⟨b, ev, hbb⟩ => ?_
    subst ev
    replace hq10 := hq10.bel hx9
    replace hy := hy.trans hx9
    clear hx9
    simp only [Bool.false_eq_true, false_or] at hbb
    cases b with
    | false =>
     rw [if_pos (fun q => absurd (hbb.2 q) (by simp))] at hSM
     conv => cbv
     exact bad2 hSM _ (hwr.trans (hy.wr _))
    | true =>
    rw [if_neg (fun q => q (hbb.1 rfl))] at hSM
    conv => cbv
    refine st_len hE sPl fun x5 hx5 => ?_
    obtain ⟨lz, hlz⟩ : ∃ lz : Int, lz = lo := ⟨_, rfl⟩
    have el : E.ar .sub .i64 x5 kf = lz := by rw [hE.ar, show arR .sub .i64 x5 kf = IntKind.i64.wrap (x5 - kf) from rfl, wrap_in (by omega) (by omega)]; omega
    conv => cbv
    simp only [el]
    refine st_from hE sPl ho.cells (by rw [fl_len fE_len]; omega) ho.cap hlz (by omega) fun A6 c6 hc6 hm6 => ?_
    rw [fl_drop fE_len] at hc6
    rw [← hkn] at hm6 ⊢
    conv => cbv
    refine st_len hE sPl fun x6 hx6 => ?_
    conv => cbv
    refine loop_rule hr (fun (s : Nat × Int × Option Addr × Nat) wz => s.1 ≤ kn ∧ s.2.1 = (s.1 : Int) ∧ Ext w6 wz ∧ Own w6.heap.size 320 3 wz (some q10) 1 1 [.int .i64 o, .slice s.2.2.1 s.1 s.2.2.2, .int .i64 ii] ∧
      Own w6.heap.size 178 1 wz s.2.2.1 s.1 s.2.2.2 (((es.drop lo).take s.1).map fun e => Value.iface e.ty e.u) ∧ (Apart s.2.2.1 (some q10) ∧ Apart (some q10) s.2.2.1) ∧ ks.take s.1 = ((es.drop lo).take s.1).map (·.pl))
     (fun s => [(0, .pointer (some a)), (1, .int .i64 top), (6, .slice A m c), (7, .pointer (some q7)), (8, .int .i64 kf), (10, .pointer (some q10)), (100, .slice A6 kn c6), (101, .int .i64 x6), (102, .int .i64 s.2.1)]) (fun s => kn - s.1) (0, 0, none, 0)
     (by simp [Fits, lk]) ⟨by simp, by simp, hy, hq10, Own.nil, ⟨.inl rfl, .inr (by obtain ⟨gq, rfl, _⟩ := hq10.form; simp [Eng.blk, Value.ownBlock])⟩, by simp⟩ ?_
    clear hq10 hy
    rintro I2 hI2 ⟨j, jj, Ak, ck⟩ wz ⟨hj, hjj, hy, hq10, hok', hap, htk⟩
    simp only at hj hjj hq10 hok' hap htk
    obtain ⟨jk, hjk⟩ : ∃ z, z = jj + 1 := ⟨_, rfl⟩
    conv => cbv
    refine br (fun g7 => ?_) (fun g7 => ?_)
    ·have g7 : j < kn := by
      have : jj < x6 := by simpa [hE.cmp, cmpR] using g7
      omega
     have ej : E.ar .add .i64 jj 1 = jk := by rw [hE.ar, hjk]; exact wrap_in (by omega) (by omega)
     obtain ⟨e, he⟩ : ∃ e, (es.drop lo)[j]? = some e := ⟨_, g2_ (by omega)⟩
     obtain ⟨te, ple, tye, ue⟩ := e
     obtain ⟨a6, ha6, hc6'⟩ := fl_at fE_len (hc6.ext hy) (by omega) he
     conv => cbv
     refine st_idx hE sPl ha6 (by omega) (by omega) fun q hq => ?_
     rw [show jj.toNat = j by omega] at hq
     conv => cbv
     refine st_loadS hE tPl (vs := [.iface tye ue, .int .i64 ple]) rfl (by rw [hq]; exact hc6') ?_
     conv => cbv
     refine st_alloc hr tPl rfl fun q12 wy hx12 hq0 => ?_
     conv => cbv
     refine st_putS hr (by kernel_rfl) (hq0 _ (n1_ _)) (add_zero _).symm (by simp) (by simp [Value.oneCell']) fun wx hw12 hq12 => ?_
     simp only [a1_, a2_, a3_, a4_, a5_, a6_, a7_] at hq12
     have hx13 := hx12.then (hw12.bel (hq0 _ (n1_ _)) hx12.size)
     replace hq10 := hq10.bel hx13
     replace hok' := hok'.bel hx13
     replace hy := hy.trans hx13
     clear hq0 hw12 hx12 hx13 hq hc6'
     conv => cbv
     refine draw_q hr fol (by kernel_rfl) fun E' hE' => ?_
     conv => cbv
     (refine st_fld hE' fINd4 fun p hp => ?_; (conv => cbv); refine st_load hE' cInts (by rw [hp]; exact ((hq7.bel hy)).at _ _ rfl) ?_; (conv => cbv))
     refine st_int hE' tInts ((r_ks.ext hx').ext hy) (k := j) (by omega) (by omega) fun p u hu hp => ?_
     conv => cbv
     refine st_load hE' cInt hp ?_
     conv => cbv
     (refine st_fld hE' fPl1 fun p hp => ?_; (conv => cbv); refine st_load hE' cInt (by rw [hp]; exact (hq12).at _ _ rfl) ?_; (conv => cbv))
     obtain ⟨q4, hq4⟩ : ∃ q4, q4 = E'.cmp .neq u ple := ⟨_, rfl⟩
     have hq5 : q4 = true ↔ u ≠ ple := by rw [hq4, hE'.cmp]; simp [cmpR]
     simp only [← hq4]
     intro wv hsv
     replace hq10 := hq10.bel hsv.ext
     replace hok' := hok'.bel hsv.ext
     replace hq12 := hq12.bel hsv.ext
     replace hy := hy.trans hsv.ext
     clear hsv hq4
     conv => cbv
     refine br (fun g8 => ?_) (fun g8 => ?_)
     ·have g8 := hq5.1 g8
      rw [if_pos (fun q => g8 (by
       have h1 : ((es.drop lo).map (·.pl))[j]? = some ple := by rw [List.getElem?_map, he]; rfl
       rw [← q, hu] at h1
       exact Option.some.inj h1))] at hSM
      conv => cbv
      exact bad2 hSM _ (hwr.trans (hy.wr _))
     have g8 : u = ple := Classical.byContradiction fun q => g8 (hq5.2 q)
     conv => cbv
     (refine st_fld hE fOp1 fun p hp => ?_; (conv => cbv); refine st_load hE cTrs (by rw [hp]; exact (hq10).at _ _ rfl) ?_; (conv => cbv))
     (refine st_fld hE fPl0 fun p hp => ?_; (conv => cbv); refine st_load hE cTr (by rw [hp]; exact (hq12).at _ _ rfl) ?_; (conv => cbv))
     refine st_one hr sTrs rfl rfl fun A13 w13 hx13 hc13 => ?_
     replace hq10 := hq10.bel hx13
     replace hok' := hok'.bel hx13
     replace hy := hy.trans hx13
     conv => cbv
     refine st_appsG hr sTrs rfl hok' hc13 rfl (by simp [Value.oneCell']) hy.size (by omega) (by omega) fun A14 c14 m14 w14 hm14 hw14 ho14 hbk => ?_
     subst hm14
     have ap14 := (Gro.mk hw14 (hbk.imp id fun e => ⟨_, e, n1_ _⟩)).apart hq10 hap
     replace hq10 := hq10.wr hw14 hap.2
     replace hy := hy.then (hw14.bel hok' hy.size)
     clear hbk hw14 hok' hc13 hx13
     conv => cbv
     refine st_fld hE fOp1 fun p hp => ?_
     conv => cbv
     refine st_put hr zTrs hq10 hp (by simp) rfl fun w15 hw15 hq15 => ?_
     simp only [b4_, b5_] at hq15
     conv => cbv
     simp only [ej]
     refine ⟨(j + 1, jk, A14, c14), by simp [Fits, lk], hI2 _ _ ⟨by simp only; omega, by simp only; omega, hy.then (hw15.bel hq10 hy.size), hq15, ?_, ap14, ?_⟩, by simp only; omega⟩
     ·simp only
      have := ho14.wr hw15 ap14.1
      rw [g4_, he, List.map_append]
      exact this
     ·simp only
      rw [g4_, g4_, hu, he, htk, g8]; simp
    have g7 : j = kn := by
     have : ¬ jj < x6 := by simpa [hE.cmp, cmpR] using g7
     omega
    subst g7
    rw [g3_ (by omega)] at hok'
    rw [g3_ (by omega), g3_ (by omega)] at htk
    rw [if_neg (fun q => q htk)] at hSM
    conv => cbv
    clear hI2 I2 hjk jk
    refine st_loadS hE tOp rfl hq10.at ?_
    conv => cbv
    refine st_mk hE uOpT ?_
    obtain ⟨T, hTd⟩ : ∃ T, T = Tr.op o ((es.drop lo).map (·.t)) ii := ⟨_, rfl⟩
    rw [← hTd] at hSM
    have h0s6 := hx'.size
    replace hso := hso.ext h0s6 hy
    have hwsz : w.heap.size ≤ w6.heap.size := hwr.size
    have htv : TreeV (Foot w0.heap.size w.heap.size wz A) wz T (.iface 320 (.agg ⟨[.int .i64 o, .slice Ak j ck, .int .i64 ii]⟩)) := by
     rw [hTd]
     simp only [TreeV]
     refine ⟨Ak, j, ck, _, rfl, by simp; omega, hok'.cap, hok'.le, hok'.cells, fun a' ha' hj0 => ?_, ?_⟩
     ·obtain ⟨g, hg1, hg2, hg3⟩ := hok'.addr hj0
      rw [ha'] at hg1
      cases hg1
      refine .inr ⟨by simp only; omega, hg3, fun q => ?_⟩
      obtain rfl | ⟨g', rfl, _, hg4⟩ := ho.blk
      ·simp [Eng.blk, Value.ownBlock] at q
      ·simp [Eng.blk, Value.ownBlock] at q; omega
     ·refine TreesV.of_get (by simp) fun q t v h1 h2 => ?_
      rw [List.getElem?_map] at h1 h2
      obtain ⟨e, he, rfl⟩ := Option.map_eq_some_iff.1 h1
      rw [he] at h2
      simp at h2
      subst h2
      exact (hso e (List.mem_of_mem_drop (m1_ he))).1
    have hdT : dep T ≤ 65 := by
     rw [hTd, dep]
     have := deps_le (l := (es.drop lo).map (·.t)) (n := 64) fun t ht => by
      obtain ⟨e, he, rfl⟩ := List.mem_map.1 ht
      exact (hso e (List.mem_of_mem_drop he)).2
     omega
    have hxz' := hx'.trans hy
    obtain ⟨fd, ld, hcm, hfd⟩ := dep_f 65 T _ wz _ hdT (by omega) htv (fun b hb => foot_lt hxz'.size hb)
    obtain ⟨dT, hdT2⟩ : ∃ dT : Int, dT = (dep T : Int) := ⟨_, rfl⟩
    rw [← hdT2] at hfd
    conv => cbv
    refine st_if hr (args := []) (l := [ld]) hcm hfd fun r w16 hx16 ev => ?_
    subst ev
    have hyz := hy.trans hx16
    conv => cbv
    refine br (fun g8 => ?_) (fun g8 => ?_)
    ·have g8 : 64 < dT := by simpa [hE.cmp, cmpR] using g8
     rw [if_pos (by omega)] at hSM
     conv => cbv
     exact bad2 hSM _ (hwr.trans (hyz.wr _))
    have g8 : ¬ 64 < dT := by simpa [hE.cmp, cmpR] using g8
    rw [if_neg (by omega)] at hSM
    conv => cbv
    exact ⟨(T, _, _), by simp [Fits, lk], hJ _ _ ⟨hwr.trans (hyz.wr _), hx'.trans hyz, hb.bel hyz, ho.bel hyz, hso.ext hxz'.size hx16, tree_ext hxz'.size hx16 htv, by simp only; omega, hSM⟩⟩
  ·clear hwr hx' hb ho hso hq7
   rintro ⟨t9, ty9, u9⟩ w9 ⟨hwr, hx', hb, ho, hso, ht9, hd9, hSM2⟩
   simp only at ht9 hd9 hSM2
   rw [hSM2] at hV
   simp only at hV
   obtain ⟨lo, hlo⟩ : ∃ lo, lo = m - ks.length := ⟨_, rfl⟩
   rw [← hlo] at hV
   obtain ⟨lz, hlz⟩ : ∃ lz : Int, lz = lo := ⟨_, rfl⟩
   conv => cbv
   refine draw_t [0, 1, 2, 3, 4, 5, 6, 7, 8, 9, 10, 11] [(12, true), (13, false), (14, false)] hr fol (by kernel_rfl) fun E' hE' wA hsA S hS => ?_
   have h0s3 := hx'.size
   replace hb := hb.bel hsA.ext
   replace ho := ho.bel hsA.ext
   replace hso := hso.ext h0s3 hsA.ext
   replace ht9 := tree_ext h0s3 hsA.ext ht9
   replace hx' := hx'.trans hsA.ext
   replace hwr := hwr.trans (hsA.ext.wr _)
   clear hsA h0s3
   conv => cbv
   refine st_len hE' sPl fun x5 hx5 => ?_
   have el : E'.ar .sub .i64 x5 kf = lz := by rw [hE'.ar, show arR .sub .i64 x5 kf = IntKind.i64.wrap (x5 - kf) from rfl, wrap_in (by omega) (by omega)]; omega
   conv => cbv
   simp only [el]
   refine st_upto hE' sPl ho hlz (by omega) fun ho2 => ?_
   rw [fl_take fE_len] at ho2
   conv => cbv
   (refine st_nil hE' ?_; (conv => cbv); refine st_fld hE' fWk1 fun p hp => ?_; (conv => cbv); refine st_load hE' cInt (by rw [hp]; exact (hb).at _ _ rfl) ?_; (conv => cbv))
   refine st_bPl hE' ?_
   refine st_oneS hr sPl rfl (by omega) (by omega) rfl fun A7 w7 hx7 hc7 => ?_
   refine ⟨hS _ hx7, ?_⟩
   have h0s3 := hx'.size
   replace hb := hb.bel hx7
   replace hso := hso.ext h0s3 hx7
   replace ht9 := tree_ext h0s3 hx7 ht9
   replace ho2 := ho2.bel hx7
   replace hx' := hx'.trans hx7
   replace hwr := hwr.trans (hx7.wr _)
   clear hx7 h0s3 hS
   have hwsz := hwr.size
   conv => cbv
   refine st_appsKG hr sPl rfl (by omega) ho2 hc7 rfl (by omega) (by simp [Value.oneCell']) hwsz (by omega) (by omega) fun A8 c8 m8 w8 hm8 hw8 ho8 hbk => ?_
   subst hm8
   have hgro : Gro _ A w8 A8 := ⟨hw8, hbk.imp id fun e => ⟨_, e, n1_ _⟩⟩
   have hrow := own_row ho2 h0s
   have h0s3 := hx'.size
   have apA := own_low ho2 har.2 ha0
   have apA8 := own_low ho8 har.2 ha0
   have h0w := hw8.bel (ho2.mono h0s) h0s3
   replace hb := hb.wr hw8 apA.2
   replace hso := hso.gro h0s3 hrow hgro
   replace ht9 := tree_gro h0s3 hrow hgro ht9
   replace hx' := hx'.then h0w
   replace hwr : Wr (some a) w w8 := by
    refine ⟨hw8.os.trans hwr.os, hw8.tape.trans hwr.tape, hw8.output.trans hwr.output, n2_ hwr.size hw8.size, fun b hb1 hb2 => ?_⟩
    rw [hw8.block b (n3_ hb1 hwr.size) ?_, hwr.block b hb1 hb2]
    obtain rfl | ⟨g, rfl, hg, _⟩ := ho2.blk
    ·simp [Eng.blk, Value.ownBlock]
    ·have e1 : blk (some (⟨g, 0, none⟩ : Addr)) = some g := rfl
     rw [e1]; intro q; cases q; omega
   clear hgro hbk hw8 ho2 hc7 h0w hrow h0s3
   conv => cbv
   (refine st_nil hE ?_; (conv => cbv); refine st_fld hE fWk1 fun p hp => ?_; (conv => cbv); refine st_load hE cInt (by rw [hp]; exact (hb).at _ _ rfl) ?_; (conv => cbv))
   simp only [ei]
   refine st_nil hE ?_
   conv => cbv
   refine st_fld hE fWk1 fun p hp => ?_
   conv => cbv
   refine st_put hr zInt hb hp (by simp) rfl fun wf hwf hbf => ?_
   simp only [b4_, b5_] at hbf
   have h0s3 := hx'.size
   conv => cbv
   refine ⟨(i + 1, ij, A8, lo + 1, c8, es.take lo ++ [⟨t9, ii, ty9, u9⟩]), by simp [Fits, lk], hI _ _ ⟨by simp only; omega, by simp only; omega, by simp only; omega, hwr.trans hwf, hbf, ?_, ?_, ?_, by simp only; omega⟩, by simp only; omega⟩
   ·simp only
    rw [List.flatMap_append]
    exact ho8.wr hwf apA8.1
   ·simp only
    intro e he
    rcases List.mem_append.1 he with he | he
    ·exact ⟨tree_wr h0s3 har ha0 hwf (hso e (List.mem_of_mem_take he)).1, (hso e (List.mem_of_mem_take he)).2⟩
    ·simp at he
     subst he
     exact ⟨tree_wr h0s3 har ha0 hwf ht9, hd9⟩
   ·simp only
    rw [← hV]
    unfold stOf
    rw [List.map_append, List.map_take]; rfl
 ·have g2 : i = tn + 1 := by
   have : ¬ ii ≤ top := by simpa [hE.cmp, cmpR] using g2
   omega
  subst g2
  rw [seg_nil, runM] at hV
  conv => cbv
  refine st_len hE sPl fun x5 hx5 => ?_
  conv => cbv
  refine br (fun g3 => ?_) (fun g3 => ?_)
  ·have g3 : x5 ≠ 1 := by simpa [hE.cmp, cmpR] using g3
   conv => cbv
   refine bad ?_ _ hwr
   rw [hTM, ← hV]
   match es, hol with
   | [], _ => rfl
   | [e], h => simp at h; omega
   | e :: e' :: l, _ => rfl
  ·have g3 : x5 = 1 := by simpa [hE.cmp, cmpR] using g3
   obtain ⟨e, rfl⟩ : ∃ e, es = [e] := List.length_eq_one_iff.1 (by omega)
   obtain ⟨te, ple, tye, ue⟩ := e
   obtain ⟨gs, hgs, _⟩ := ho.addr (by omega)
   have hst := (hso ⟨te, ple, tye, ue⟩ (by simp)).1
   conv => cbv
   refine st_idx hE sPl hgs (by omega) (by omega) fun p hp => ?_
   conv => cbv
   refine st_fld hE fPl0 fun p2 hp2 => ?_
   conv => cbv
   refine st_load hE cTr (v := .iface tye ue) (by rw [hp2, hp]; subst hgs; simp only [add_add]; exact ho.at 0 _ rfl) ?_
   conv => cbv
   rw [hR]
   refine ⟨.iface tye ue, true, rfl, rfl, hwr, (fun q => by cases q), fun _ => ⟨te, tye, ue, rfl, by rw [hTM, ← hV]; rfl, ?_, ?_⟩⟩
   ·exact hst.keep (fun b _ => rfl) fun b hb => by
     rcases hb with hb | hb
     ·exact .inl hb
     ·exact .inr ⟨hb.1, hb.2.1⟩
   ·have : top + 1 = ii := by omega
    rw [this]; exact hb
def cOK (p : PN) : Prop := (p.o = 1 ∧ p.tx = ⟨#[]⟩ ∧ p.xs = []) ∨ (p.o = 2 ∧ p.z = 0 ∧ nameBytes p.tx ∧ p.xs = []) ∨ (p.o = 3 ∧ (p.z = 0 ∨ p.z = 1) ∧ p.tx = ⟨#[]⟩ ∧ p.xs = []) ∨ (p.o = 4 ∧ p.z = 0 ∧ p.tx = ⟨#[]⟩ ∧ isSet p.xs)
def leafU (p : PN) : Prop := if p.o = 5 then p.z = 0 ∧ ident p.tx ∧ p.xs = [] else cOK p ∧ (p.o ≠ 1 ∨ 0 ≤ p.z)
theorem leafU_f {w : World} (hT : STab w 4 words) (v : VN) (h : OKN w v) (l : Int) :
  FC Tryz.prog 100 [.int .i64 l, .agg ⟨cN v⟩] w fun r _ => ∃ b : Bool, r = .bool b ∧ (b = true ↔ leafU v.p) := by
 refine FC.intro (cs := []) Tryz.func100 (by kernel_rfl) fun E R hE hr hR => ?_
 obtain ⟨⟨o, z, tx, xs, ks⟩, A0, m0, c0, A1, m1, c1⟩ := v
 have s_tx := h.s_tx
 have r_xs := h.r_xs
 simp only at s_tx r_xs
 obtain ⟨FP, hFP0⟩ : ∃ FP, FP = leafU ⟨o, z, tx, xs, ks⟩ := ⟨_, rfl⟩
 simp only [← hFP0] at hR
 have hFP := hFP0
 unfold leafU at hFP
 simp only at hFP
 conv => cbv
 refine st_box hr fun a w1 hx hb0 => ?_
 have hb := hb0 _ (n1_ _)
 clear hb0
 conv => cbv
 (refine st_fld hE fINd0 fun p hp => ?_; (conv => cbv); refine st_load hE cInt (by rw [hp]; exact (hb).at _ _ rfl) ?_; (conv => cbv))
 refine br (fun g => ?_) (fun g => ?_)
 ·have g : o = 5 := by simpa [hE.cmp, cmpR] using g
  rw [if_pos g] at hFP
  conv => cbv
  refine st_loadS hE tINd rfl hb.at ?_
  conv => cbv
  refine st_f hr (bare_f (o := o) (z := z) (tx := tx) (r_xs.ext hx).len false true false) fun r w2 hx2 ⟨b, ev, hbb⟩ => ?_
  subst ev
  simp only [Bool.false_eq_true, false_or, true_or, true_and] at hbb
  replace hb := hb.bel hx2
  replace hx := hx.trans hx2
  cases b with
  | false =>
   conv => cbv
   rw [hR]; exact ⟨hx, false, rfl, by rw [hFP]; exact ⟨(fun q => nomatch q), fun q => hbb.2 ⟨q.1, q.2.2⟩⟩⟩
  | true =>
   have hbb := hbb.1 rfl
   conv => cbv
   (refine st_fld hE fINd2 fun p hp => ?_; (conv => cbv); refine st_load hE cStr (by rw [hp]; exact (hb).at _ _ rfl) ?_; (conv => cbv))
   refine st_qb hE (isNameToken_f (hT.ext hx) tx s_tx) fun b hb2 w3 hs3 => ?_
   conv => cbv
   rw [hR]; exact ⟨hx.trans hs3.ext, b, rfl, by rw [hFP, hb2]; simp [hbb]⟩
 ·have g : o ≠ 5 := by simpa [hE.cmp, cmpR] using g
  rw [if_neg g] at hFP
  conv => cbv
  refine st_loadS hE tINd rfl hb.at ?_
  conv => cbv
  refine st_f hr (validConst_f (o := o) (z := z) (tx := tx) (r_xs.ext hx) s_tx) fun r w2 hx2 ⟨b, ev, hbb⟩ => ?_
  subst ev
  have hbb : b = true ↔ cOK ⟨o, z, tx, xs, ks⟩ := hbb
  replace hb := hb.bel hx2
  replace hx := hx.trans hx2
  cases b with
  | false =>
   conv => cbv
   rw [hR]; exact ⟨hx, false, rfl, by rw [hFP]; exact ⟨(fun q => nomatch q), fun q => hbb.2 q.1⟩⟩
  | true =>
   have hbb := hbb.1 rfl
   conv => cbv
   (refine st_fld hE fINd0 fun p hp => ?_; (conv => cbv); refine st_load hE cInt (by rw [hp]; exact (hb).at _ _ rfl) ?_; (conv => cbv))
   refine br (fun g2 => ?_) (fun g2 => ?_)
   ·have g2 : o ≠ 1 := by simpa [hE.cmp, cmpR] using g2
    conv => cbv
    rw [hR]; exact ⟨hx, true, rfl, by rw [hFP]; simp [hbb, g2]⟩
   ·have g2 : o = 1 := by simpa [hE.cmp, cmpR] using g2
    conv => cbv
    (refine st_fld hE fINd1 fun p hp => ?_; (conv => cbv); refine st_load hE cI64 (by rw [hp]; exact (hb).at _ _ rfl) ?_; (conv => cbv))
    obtain ⟨q4, hq4⟩ : ∃ q4, q4 = E.cmp .geq z 0 := ⟨_, rfl⟩
    have hq5 : q4 = true ↔ 0 ≤ z := by rw [hq4, hE.cmp]; simp [cmpR]
    simp only [← hq4]
    rw [hR]; exact ⟨hx, q4, rfl, by rw [hFP, hq5]; exact ⟨fun q => ⟨hbb, .inr q⟩, fun q => q.2.resolve_left fun r => r g2⟩⟩
def LeafA (w0 : World) (f0 : FuncId) (lp : Nat → PN → Prop) : Prop :=
 ∀ w', Ext w0 w' → ∀ (l : Nat), l ≤ 600 → ∀ (ll : Int), ll = (l : Int) → ∀ v : VN, OKN w' v → FC Tryz.prog f0 [.int .i64 ll, .agg ⟨cN v⟩] w' fun r _ => ∃ b : Bool, r = .bool b ∧ (b = true ↔ lp l v.p)
theorem leafU_a {w0 : World} (hT : STab w0 4 words) : LeafA w0 100 (fun _ => leafU) :=
 fun w' hx l _ ll _ v hv => leafU_f (hT.ext hx) v hv ll
theorem cF2 : Cel Tryz.prog 174 := ⟨_, Tryz.underlying174, by simp, by simp⟩
theorem trees1_f {w0 w : World} {f0 : FuncId} {lp : Nat → PN → Prop} (hf : LeafA w0 f0 lp) (hx0 : Ext w0 w) {q5 q8 : Addr} {l : Nat} (hl : l ≤ 600) {ll : Int} (hll : ll = (l : Int)) (h5 : w.cell? q5 = some (.func (.func f0) #[] #[])) (h8 : w.cell? q8 = some (.int .i64 ll)) (v : VN) (h : OKN w v) :
  FC Tryz.prog 154 [.agg ⟨cN v⟩, .pointer (some q5), .pointer (some q8)] w fun r _ => ∃ b : Bool, r = .bool b ∧ (b = true ↔ lp l v.p) := by
 refine FC.intro (cs := []) Tryz.func154 (by kernel_rfl) fun E R hE hr hR => ?_
 obtain ⟨cv, hcv⟩ : ∃ cv, cv = cN v := ⟨_, rfl⟩
 have hcl : cv.length = 5 := by rw [hcv]; rfl
 rw [← hcv]
 conv => cbv
 refine st_box hr fun a w1 hx hb0 => ?_
 have hb : Box w.heap.size 90 5 w1 a cv := by have := hb0 _ (n1_ _); rwa [hcl] at this
 clear hb0
 conv => cbv
 refine st_load hE cF2 (hx.cell h5) ?_
 conv => cbv
 refine st_load hE cInt (hx.cell h8) ?_
 conv => cbv
 refine st_loadS hE tINd hcl hb.at ?_
 conv => cbv
 rw [hcv]
 refine st_f hr (hf w1 (hx0.trans hx) l hl ll hll v (h.ext hx)) fun r w2 hx2 ⟨b, ev, hbb⟩ => ?_
 subst ev
 conv => cbv
 rw [hR]; exact ⟨hx.trans hx2, b, rfl, hbb⟩
theorem trees1_a {w0 w : World} {f0 : FuncId} {lp : Nat → PN → Prop} (hf : LeafA w0 f0 lp) (hx0 : Ext w0 w) {a q5 q8 : Addr} (ha : w0.heap.size ≤ a.block ∧ a.block < w.heap.size) (ha0 : blk (some a) = some a.block) {B : Nat} {e5 e8 : TypeId} {l : Nat} (hl : l ≤ 600) {ll : Int} (hll : ll = (l : Int)) (h5 : Box B e5 1 w q5 [.func (.func f0) #[] #[]]) (h8 : Box B e8 1 w q8 [.int .i64 ll]) (a5 : Apart (some q5) (some a)) (a8 : Apart (some q8) (some a)) :
  LeafC w a 154 #[] #[.pointer (some q5), .pointer (some q8)] (lp l) := fun w' hw v hv => by
 have h5 := (h5.wr hw a5).at 0 _ rfl
 have h8 := (h8.wr hw a8).at 0 _ rfl
 rw [add_zero] at h5 h8
 have hxw : Ext w0 w' := hx0.then ⟨hw.os, hw.tape, hw.output, hw.size, fun i h1 => hw.block i (by omega) (by rw [ha0]; intro q; cases q; omega)⟩
 exact trees1_f hf hxw hl hll (h5) (h8) v hv
def guardP (last : Bool) (s : PS) : Prop := (1 ≤ s.k ∧ s.k ≤ 3) ∧ (s.k = 3 ↔ last = true) ∧ (s.k = 3 ↔ s.c = -1) ∧ (s.k = 1 → s.g = -1) ∧ (s.k ≠ 1 → s.nm = ⟨#[]⟩) ∧ (s.k = 1 → ident s.nm)
structure PT where
 c : Option Tr
 g : Option Tr
def trs (p : PT) : List Tr := p.c.toList ++ p.g.toList
noncomputable def optM (ns : List PN) (lf : PN → Prop) (i : Nat) (top : Int) : Option (Option Tr × Nat) :=
 if top = -1 then some (none, i) else match treeM ns lf i top with
  | none => none
  | some t => some (some t, top.toNat + 1)
open Classical in
noncomputable def stmtM (ns : List PN) (lf : PN → Prop) (last : Bool) (i : Nat) (s : PS) : Option (PT × Nat) :=
 if guardP last s then match optM ns lf i s.c with
  | none => none
  | some (c, j) => match optM ns lf j s.g with
   | none => none
   | some (g, k) => some (⟨c, g⟩, k)
 else none
noncomputable def runS (ns : List PN) (lp : Nat → PN → Prop) : List PS → Nat → Nat → List PT → Option (List PT × Nat)
 | [], i, _, acc => some (acc, i)
 | s :: l, i, lets, acc => match stmtM ns (lp lets) l.isEmpty i s with
  | none => none
  | some (p, j) => runS ns lp l j (if s.k = 1 then lets + 1 else lets) (acc ++ [p])
def rootO (top : Int) : List Int := if 0 ≤ top then [top] else []
theorem IsTs.node {ns : List PN} {a b : Nat} {ks : List Int} {ts : List Tr} (h : IsTs ns a b ks ts) : ∀ q p, a ≤ q → q < b → ns[q]? = some p → (p.ks.length : Int) = kidsF p.o := by
 induction h with
 | nil a => intro q p h1 h2; omega
 | @cons a b k p ks kids ts hp hk h1 h2 i1 i2 =>
  intro q u hq1 hq2 hu
  rcases Nat.lt_trichotomy q k with e | e | e
  ·exact i1 q u hq1 e hu
  ·subst e; rw [hp] at hu; cases hu; exact hk
  ·exact i2 q u e hq2 hu
theorem optM_iff {ns : List PN} {lf : PN → Prop} {i : Nat} {top : Int} {o : Option Tr} {j : Nat} : optM ns lf i top = some (o, j) ↔
  -1 ≤ top ∧ IsTs ns i j (rootO top) o.toList ∧ (∀ t ∈ o.toList, dep t ≤ 64) ∧ ∀ q p, i ≤ q → q < j → ns[q]? = some p → nodeOK lf p := by
 unfold optM rootO
 constructor
 ·intro h
  split at h
  ·rename_i e
   cases h
   subst e
   exact ⟨by omega, .nil _, by simp, fun q p h1 h2 => by omega⟩
  ·cases hm : treeM ns lf i top with
   | none => rw [hm] at h; cases h
   | some t =>
    rw [hm] at h
    cases h
    obtain ⟨k, rfl, h1, h2, h3, h4, h5⟩ := treeM_iff.1 hm
    rw [if_pos (by omega)]
    exact ⟨by omega, by simpa using h3, by simpa using h4, fun q p q1 q2 => h5 q p q1 (by omega)⟩
 ·rintro ⟨h0, h1, h2, h3⟩
  by_cases e : top = -1
  ·rw [if_pos e]
   rw [if_neg (by omega)] at h1
   have hl := h1.len
   cases o with
   | none => cases h1; rfl
   | some t => simp at hl
  ·rw [if_neg e]
   rw [if_pos (by omega)] at h1
   obtain ⟨kn, p, kids, rfl, rfl, hp, hk, _, e2⟩ := h1.one
   have hb := (List.getElem?_eq_some_iff.1 hp).1
   cases o with
   | none => cases e2
   | some t =>
    have hm : treeM ns lf i kn = some t := treeM_iff.2 ⟨kn, rfl, by have := (h1.roots kn (by simp)).1; omega, hb, h1, h2 t (by simp), h3⟩
    rw [hm]; rfl
theorem rootS_eq (s : PS) : rootS s = rootO s.c ++ rootO s.g := rfl
theorem stmtP_iff {last : Bool} {s : PS} : stmtP last s ↔ guardP last s ∧ -1 ≤ s.c ∧ -1 ≤ s.g := by
 unfold stmtP guardP
 obtain ⟨k, nm, c, g⟩ := s
 simp only
 by_cases h1 : k = 1
 ·subst h1
  rw [if_pos rfl]
  constructor
  ·rintro ⟨rfl, a, b, rfl⟩
   exact ⟨⟨⟨by omega, by omega⟩, by simp, ⟨fun q => by omega, fun q => by omega⟩, fun _ => rfl, fun q => absurd rfl q, fun _ => a⟩, by omega, by omega⟩
  ·rintro ⟨⟨_, a, b, c1, _, d⟩, e, f⟩
   refine ⟨?_, d rfl, ?_, c1 rfl⟩
   ·cases last
    ·rfl
    ·have := a.2 rfl; omega
   ·have : c ≠ -1 := fun q => by have := b.2 q; omega
    omega
 ·rw [if_neg h1]
  by_cases h2 : k = 2
  ·subst h2
   rw [if_pos rfl]
   constructor
   ·rintro ⟨rfl, rfl, b, d⟩
    exact ⟨⟨⟨by omega, by omega⟩, by simp, ⟨fun q => by omega, fun q => by omega⟩, fun q => absurd q h1, fun _ => rfl, fun q => absurd q h1⟩, by omega, d⟩
   ·rintro ⟨⟨_, a, b, _, d, _⟩, e, f⟩
    refine ⟨?_, d h1, ?_, f⟩
    ·cases last
     ·rfl
     ·have := a.2 rfl; omega
    ·have : c ≠ -1 := fun q => by have := b.2 q; omega
     omega
  ·rw [if_neg h2]
   by_cases h3 : k = 3
   ·subst h3
    rw [if_pos rfl]
    constructor
    ·rintro ⟨rfl, rfl, rfl, d⟩
     exact ⟨⟨⟨by omega, by omega⟩, by simp, by simp, fun q => absurd q h1, fun _ => rfl, fun q => absurd q h1⟩, by omega, d⟩
    ·rintro ⟨⟨_, a, b, _, d, _⟩, e, f⟩
     exact ⟨a.1 rfl, d h1, b.1 rfl, f⟩
   ·rw [if_neg h3]
    exact ⟨False.elim, fun q => by have := q.1.1; omega⟩
theorem stmtM_iff {ns : List PN} {lf : PN → Prop} {last : Bool} {i : Nat} {s : PS} {p : PT} {j : Nat} : stmtM ns lf last i s = some (p, j) ↔
  stmtP last s ∧ (p.c.isSome = true ↔ 0 ≤ s.c) ∧ IsTs ns i j (rootS s) (trs p) ∧ (∀ t ∈ trs p, dep t ≤ 64) ∧ ∀ q pn, i ≤ q → q < j → ns[q]? = some pn → nodeOK lf pn := by
 unfold stmtM
 rw [stmtP_iff]
 obtain ⟨c, g⟩ := p
 constructor
 ·intro h
  split at h
  ·rename_i hg
   cases h1 : optM ns lf i s.c with
   | none => rw [h1] at h; cases h
   | some x =>
    obtain ⟨c', m⟩ := x
    rw [h1] at h
    simp only at h
    cases h2 : optM ns lf m s.g with
    | none => rw [h2] at h; cases h
    | some x =>
     obtain ⟨g', k⟩ := x
     rw [h2] at h
     cases h
     obtain ⟨a1, a2, a3, a4⟩ := optM_iff.1 h1
     obtain ⟨b1, b2, b3, b4⟩ := optM_iff.1 h2
     have e1 := a2.le
     have e2 := b2.le
     refine ⟨⟨hg, a1, b1⟩, ?_, a2.append b2, fun t ht => ?_, fun q pn q1 q2 hq => ?_⟩
     ·have := a2.len
      unfold rootO at this
      cases c with
      | none => simp; split at this <;> simp at this; omega
      | some t => simp; split at this <;> simp at this; omega
     ·rcases List.mem_append.1 ht with ht | ht
      ·exact a3 t ht
      ·exact b3 t ht
     ·rcases Nat.lt_or_ge q m with e | e
      ·exact a4 q pn q1 e hq
      ·exact b4 q pn e q2 hq
  ·cases h
 ·rintro ⟨⟨hg, hc, hgg⟩, hs, h1, h2, h3⟩
  rw [if_pos hg]
  rw [rootS_eq] at h1
  obtain ⟨m, ts1, ts2, e, k1, k2⟩ := h1.split
  have hl := k1.len
  obtain ⟨e1, e2⟩ := List.append_inj (show c.toList ++ g.toList = ts1 ++ ts2 from e) (by
   rw [hl]
   unfold rootO
   cases c with
   | none => rw [if_neg (fun q => by simpa using hs.2 q)]; rfl
   | some t => rw [if_pos (hs.1 rfl)]; rfl)
  rw [← e1] at k1
  rw [← e2] at k2
  have l1 := k1.le
  have l2 := k2.le
  rw [optM_iff.2 ⟨hc, k1, fun t ht => h2 t (List.mem_append_left _ ht), fun q p q1 q2 => h3 q p q1 (by omega)⟩]
  simp only
  rw [optM_iff.2 ⟨hgg, k2, fun t ht => h2 t (List.mem_append_right _ ht), fun q p q1 q2 => h3 q p (by omega) q2⟩]
theorem roots_cons (s : PS) (l : List PS) : roots (s :: l) = rootS s ++ roots l := by simp [roots]
theorem runS_iff {ns : List PN} {lf : PN → Prop} : ∀ (l : List PS) {i j lets : Nat} {acc : List PT}, (∃ acc', runS ns (fun _ => lf) l i lets acc = some (acc', j)) ↔
  stmtsP l ∧ ∃ ts, IsTs ns i j (roots l) ts ∧ (∀ t ∈ ts, dep t ≤ 64) ∧ ∀ q p, i ≤ q → q < j → ns[q]? = some p → nodeOK lf p
 | [], i, j, lets, acc => by
  unfold stmtsP
  simp only [runS, roots, List.flatMap_nil]
  constructor
  ·rintro ⟨acc', h⟩
   cases h
   exact ⟨by simp, [], .nil _, by simp, fun q p h1 h2 => by omega⟩
  ·rintro ⟨_, ts, h, _⟩
   cases h
   exact ⟨acc, rfl⟩
 | s :: l, i, j, lets, acc => by
  rw [runS, roots_cons]
  have hst : stmtsP (s :: l) ↔ stmtP l.isEmpty s ∧ stmtsP l := by
   have e : decide (0 + 1 = (s :: l).length) = l.isEmpty := by cases l <;> simp
   constructor
   ·intro h
    refine ⟨by have := h 0 s rfl; rwa [e] at this, fun k t ht => ?_⟩
    have := h (k + 1) t (by simpa using ht)
    simpa using this
   ·rintro ⟨h1, h2⟩ k t ht
    cases k with
    | zero => simp at ht; subst ht; rw [e]; exact h1
    | succ k => have := h2 k t (by simpa using ht); simpa using this
  rw [hst]
  constructor
  ·rintro ⟨acc', h⟩
   cases hm : stmtM ns lf l.isEmpty i s with
   | none => rw [hm] at h; cases h
   | some x =>
    obtain ⟨p, m⟩ := x
    rw [hm] at h
    obtain ⟨a1, _, a2, a3, a4⟩ := stmtM_iff.1 hm
    obtain ⟨b1, ts, b2, b3, b4⟩ := (runS_iff l).1 ⟨acc', h⟩
    refine ⟨⟨a1, b1⟩, _, a2.append b2, fun t ht => ?_, fun q pn q1 q2 hq => ?_⟩
    ·rcases List.mem_append.1 ht with ht | ht
     ·exact a3 t ht
     ·exact b3 t ht
    ·rcases Nat.lt_or_ge q m with e | e
     ·exact a4 q pn q1 e hq
     ·exact b4 q pn e q2 hq
  ·rintro ⟨⟨h1, h2⟩, ts, h3, h4, h5⟩
   obtain ⟨m, ts1, ts2, rfl, k1, k2⟩ := h3.split
   have l1 := k1.le
   have l2 := k2.le
   obtain ⟨p, hp1, hp2⟩ : ∃ p : PT, trs p = ts1 ∧ (p.c.isSome = true ↔ 0 ≤ s.c) := by
    have hl := k1.len
    rw [rootS_eq] at hl
    unfold rootO at hl
    by_cases e1 : 0 ≤ s.c
    ·by_cases e2 : 0 ≤ s.g
     ·rw [if_pos e1, if_pos e2] at hl
      match ts1, hl with
      | [a, b], _ => exact ⟨⟨some a, some b⟩, rfl, by simp [e1]⟩
     ·rw [if_pos e1, if_neg e2] at hl
      match ts1, hl with
      | [a], _ => exact ⟨⟨some a, none⟩, rfl, by simp [e1]⟩
    ·by_cases e2 : 0 ≤ s.g
     ·rw [if_neg e1, if_pos e2] at hl
      match ts1, hl with
      | [a], _ => exact ⟨⟨none, some a⟩, rfl, by simp; omega⟩
     ·rw [if_neg e1, if_neg e2] at hl
      match ts1, hl with
      | [], _ => exact ⟨⟨none, none⟩, rfl, by simp; omega⟩
   have hm : stmtM ns lf l.isEmpty i s = some (p, m) := stmtM_iff.2 ⟨h1, hp2, by rw [hp1]; exact k1, fun t ht => h4 t (List.mem_append_left _ (by rw [← hp1]; exact ht)), fun q pn q1 q2 => h5 q pn q1 (by omega)⟩
   rw [hm]
   exact (runS_iff l).2 ⟨h2, ts2, k2, fun t ht => h4 t (List.mem_append_right _ ht), fun q pn q1 q2 => h5 q pn (by omega) q2⟩
theorem fieldsU_iff {p : PN} (hk : (p.ks.length : Int) = kidsF p.o) : fieldsP false p ↔ nodeOK leafU p := by
 obtain ⟨o, z, tx, xs, ks⟩ := p
 unfold fieldsP nodeOK leafU cOK
 simp only at hk ⊢
 have h0 : kidsF o = 0 ↔ 1 ≤ o ∧ o ≤ 7 := by unfold kidsF; (repeat' split) <;> omega
 have h1 : 0 ≤ kidsF o := by omega
 by_cases e : 1 ≤ o ∧ o ≤ 7
 ·have hz := h0.2 e
  have : o = 1 ∨ o = 2 ∨ o = 3 ∨ o = 4 ∨ o = 5 ∨ o = 6 ∨ o = 7 := by omega
  rcases this with rfl | rfl | rfl | rfl | rfl | rfl | rfl <;> simp [hk, hz]
  ·constructor
   ·rintro ⟨a, b, c⟩; exact ⟨⟨b, c⟩, a⟩
   ·rintro ⟨⟨b, c⟩, a⟩; exact ⟨a, b, c⟩
  ·constructor
   ·rintro ⟨a, b, c⟩; exact ⟨b, a, c⟩
   ·rintro ⟨b, a, c⟩; exact ⟨a, b, c⟩
 ·have h2 : kidsF o ≠ 0 := fun q => e (h0.1 q)
  have h3 : 1 ≤ kidsF o := by omega
  rw [if_neg (by omega), if_neg (by omega), if_neg (by omega), if_neg (by omega), if_neg (by omega), if_neg (by omega), if_neg (by omega)]
  exact ⟨fun h => ⟨fun q => absurd q h2, fun _ => h.2⟩, fun h => ⟨hk, h.2 h3⟩⟩
theorem policyU_iff {nv : List PN} {sv : List PS} : policyP false nv sv ↔ nv.length ≤ 4000 ∧ 1 ≤ sv.length ∧ sv.length ≤ 600 ∧ ∃ acc, runS nv (fun _ => leafU) sv 0 0 [] = some (acc, nv.length) := by
 unfold policyP
 rw [runS_iff]
 constructor
 ·rintro ⟨h1, h2, h3, h4, h5, ts, h6, h7⟩
  exact ⟨h1, h2, h3, h5, ts, h6, h7, fun q p _ _ hq => (fieldsU_iff (h4 p (m1_ hq)).1).1 (h4 p (m1_ hq))⟩
 ·rintro ⟨h1, h2, h3, h5, ts, h6, h7, h8⟩
  refine ⟨h1, h2, h3, fun p hp => ?_, h5, ts, h6, h7⟩
  obtain ⟨q, hq⟩ := List.mem_iff_getElem?.1 hp
  have hl := (List.getElem?_eq_some_iff.1 hq).1
  exact (fieldsU_iff (h6.node q p (by omega) hl hq)).2 (h8 q p (by omega) hl hq)
def zSt : List Value := [.int .i64 0, .string ⟨#[]⟩, .nilIface, .nilIface, .int .i64 0]
theorem tSt : Stc Tryz.prog 180 5 zSt := ⟨by kernel_rfl, by kernel_rfl⟩
theorem sSt : Slc Tryz.prog 95 180 (.agg ⟨zSt⟩) 5 64 := ⟨Tryz.underlying95, by kernel_rfl⟩
theorem fSt2 : Fld Tryz.prog 180 2 2 := ⟨by kernel_rfl⟩
theorem fSt3 : Fld Tryz.prog 180 3 3 := ⟨by kernel_rfl⟩
section
variable {E : Sym} {w : World} {K : Value → World → Prop} {d : Option Tmp} {ty : TypeId} {pos : String} {aft : Array Edge} {g : Option (Nat × Bool)} {bq : Bool}
theorem run_bWk (A : Option Addr) (m c : Nat) (f : FuncId) (fst cap : Array Value) (w : World) : (Instr.build 267 #[(0, .slice A m c), (2, .func (.func f) fst cap)]).run Tryz.prog w = .ok (.agg #[.slice A m c, .int .i64 0, .func (.func f) fst cap]) w := by kernel_rfl
theorem st_bWk (hE : EngB bq Tryz.prog E) {A : Option Addr} {m c : Nat} {f : FuncId} {fst cap : Array Value} {x y : Operand} (hk : K (.agg ⟨[.slice A m c, .int .i64 0, .func (.func f) fst cap]⟩) w) : E.stop ⟨d, .build 267 ⟨[(0, x), (2, y)]⟩, ty, pos, aft, g⟩ [.slice A m c, .func (.func f) fst cap] w K := by
 refine hE.det (v := .agg ⟨[.slice A m c, .int .i64 0, .func (.func f) fst cap]⟩) (fun w1 _ ρ hρ => ?_) hk
 simp only [opnds, b2_, b3_, b1_, and_true] at hρ
 have := run_bWk A m c f fst cap w1
 simp [execOp, hρ, this]
theorem run_bSt (k i : Int) (s : ByteArray) (w : World) : (Instr.build 180 #[(0, .int .i64 k), (1, .string s), (4, .int .i64 i)]).run Tryz.prog w = .ok (.agg #[.int .i64 k, .string s, .nilIface, .nilIface, .int .i64 i]) w := by kernel_rfl
theorem st_bSt (hE : EngB bq Tryz.prog E) {k i : Int} {s : ByteArray} {x y z : Operand} (hk : K (.agg ⟨[.int .i64 k, .string s, .nilIface, .nilIface, .int .i64 i]⟩) w) : E.stop ⟨d, .build 180 ⟨[(0, x), (1, y), (4, z)]⟩, ty, pos, aft, g⟩ [.int .i64 k, .string s, .int .i64 i] w K := by
 refine hE.det (v := .agg ⟨[.int .i64 k, .string s, .nilIface, .nilIface, .int .i64 i]⟩) (fun w1 _ ρ hρ => ?_) hk
 simp only [opnds, b2_, b3_, b1_, and_true] at hρ
 have := run_bSt k i s w1
 simp [execOp, hρ, this]
end
theorem size_nil {s : ByteArray} (h : s.size = 0) : s = ⟨#[]⟩ := by
 cases s with | mk d => cases d with | mk l => cases l with
  | nil => rfl
  | cons a l => simp [ByteArray.size] at h
theorem wr_new {w w' w'' : World} {R A : Option Addr} (h : Wr R w w') (hw : Wr A w' w'') {e k m c : Nat} {xs : List Value} (ho : Own w.heap.size e k w' A m c xs) : Wr R w w'' := by
 have hb := hw.bel ho h.size
 exact ⟨hb.os.trans h.os, hb.tape.trans h.tape, hb.output.trans h.output, n2_ h.size hb.size, fun k hk hn => (hb.block k hk).trans (h.block k hk hn)⟩
def optV (D : Nat → Prop) (w : World) : Option Tr → Value → Prop
 | none, v => v = .nilIface
 | some t, v => TreeV D w t v
theorem optV.keep {D D' : Nat → Prop} {w w' : World} {o : Option Tr} {v : Value} (h : optV D w o v) (hk : Keeps D w w') (hD : ∀ b, D b → D' b) : optV D' w' o v := by
 cases o with
 | none => exact h
 | some t => exact TreeV.keep hk hD t v h
theorem optV.one {D : Nat → Prop} {w : World} {o : Option Tr} {v : Value} (h : optV D w o v) : v.oneCell' = true := by
 cases o with
 | none => rw [show v = .nilIface from h]; rfl
 | some t => exact (TreeV.one h).1
structure SV where
 s : PS
 p : PT
 cv : Value
 gv : Value
 i : Int
def fV (e : SV) : List Value := [.int .i64 e.s.k, .string e.s.nm, e.cv, e.gv, .int .i64 e.i]
theorem fV_len (e : SV) : (fV e).length = 5 := rfl
def ES (D : Nat → Prop) (w : World) (es : List SV) : Prop := ∀ e ∈ es, optV D w e.p.c e.cv ∧ optV D w e.p.g e.gv
theorem ES.keep {D D' : Nat → Prop} {w w' : World} {es : List SV} (h : ES D w es) (hk : Keeps D w w') (hD : ∀ b, D b → D' b) : ES D' w' es := fun e he => ⟨(h e he).1.keep hk hD, (h e he).2.keep hk hD⟩
def Nums (sv : List PS) (es : List SV) : Prop := ∀ (j : Nat) (e : SV), es[j]? = some e → e.i = (j : Int) ∧ sv[j]? = some e.s
def LaidS (w : World) (A : Option Addr) (m c : Nat) (sv : List PS) (acc : List PT) : Prop := ∃ es : List SV, es.length = m ∧ m = sv.length ∧ m ≤ c ∧ es.map (·.p) = acc ∧ Cells w A (es.flatMap fV) ∧ Nums sv es ∧ ES (fun b => b < w.heap.size) w es
theorem foot_keep {w0s ws : Nat} {w w' : World} {A : Option Addr} {a : Addr} (h0 : w0s ≤ w.heap.size) (ha : w0s ≤ a.block ∧ a.block < ws) (ha0 : blk (some a) = some a.block) (hw : Wr (some a) w w') : Keeps (Foot w0s ws w A) w w' := fun b hb => hw.block b (foot_lt h0 hb) (by
  intro e
  rw [ha0] at e
  cases e
  rcases hb with hb | hb <;> omega)
theorem bx_form {B : Nat} {e : TypeId} {k : Nat} {w : World} {a : Addr} {m c : Nat} {xs : List Value} (h : Own B e k w (some a) m c xs) : B ≤ a.block ∧ a.block < w.heap.size ∧ blk (some a) = some a.block := by
 obtain ⟨g, rfl, h1, h2⟩ := h.form
 exact ⟨h1, h2, rfl⟩
theorem bx_apart {a b : Addr} (ha : blk (some a) = some a.block) (hb : blk (some b) = some b.block) (h : a.block ≠ b.block) : Apart (some a) (some b) := .inr (by rw [ha, hb]; intro q; exact h (Option.some.inj q))
theorem drop_cons {α : Type} {l : List α} {j : Nat} {x : α} (h : l[j]? = some x) : l.drop j = x :: l.drop (j + 1) := by
 have := (List.getElem?_eq_some_iff.1 h)
 rw [List.drop_eq_getElem_cons this.1, this.2]
theorem trees_f {w0 : World} (hT : Tab w0 6 constF) (hR0 : STab w0 4 words) {AN A2 : Option Addr} {N cN' n2 c2 : Nat} {nv : List PN} {sv : List PS} (h : PolR w0 AN N A2 n2 nv sv) (hN : N ≤ 9223372036854775807) (hn2 : n2 ≤ 9223372036854775807) {f0 : FuncId} {lp : Nat → PN → Prop} (hf : LeafA w0 f0 lp) :
  FC Tryz.prog 99 [.slice AN N cN', .slice A2 n2 c2, .func (.func f0) #[] #[]] w0 fun v w' => ∃ (A : Option Addr) (m c : Nat) (b : Bool), v = .tuple ⟨[.slice A m c, .bool b]⟩ ∧
   (b = true ↔ nv.length ≤ 4000 ∧ 1 ≤ sv.length ∧ sv.length ≤ 600 ∧ ∃ acc, runS nv lp sv 0 0 [] = some (acc, nv.length)) ∧
   (b = true → ∃ acc, runS nv lp sv 0 0 [] = some (acc, nv.length) ∧ LaidS w' A m c sv acc) := by
 refine FC.intro (cs := []) Tryz.func99 (by kernel_rfl) fun E R hE hr hR => ?_
 have hl := h.nodes.len
 have hl2 := h.stmts.len
 obtain ⟨V, hV0⟩ : ∃ V, V = runS nv lp sv 0 0 [] := ⟨_, rfl⟩
 rw [← hV0] at hR
 have no : ¬ (nv.length ≤ 4000 ∧ 1 ≤ sv.length ∧ sv.length ≤ 600 ∧ ∃ acc, V = some (acc, nv.length)) → ∀ A m c w', Ext w0 w' → R (.tuple ⟨[.slice A m c, .bool false]⟩) w' := fun h A m c w' hx => by
  rw [hR]; exact ⟨hx, A, m, c, false, rfl, ⟨(fun q => absurd q Bool.false_ne_true), fun q => absurd q h⟩, fun q => absurd q Bool.false_ne_true⟩
 conv => cbv
 refine st_box1 hr rfl fun q5 w1 hx1 hb50 => ?_
 have hb5 := hb50 _ (n1_ _)
 have f5 := bx_form hb5
 clear hb50
 conv => cbv
 refine st_len hE sINd fun x1 hx1' => ?_
 conv => cbv
 refine br (fun g => ?_) (fun g => ?_)
 ·have g : 4000 < x1 := by simpa [hE.cmp, cmpR] using g
  conv => cbv
  exact no (fun q => by have := q.1; omega) _ _ _ _ hx1
 have g1 : N ≤ 4000 := by simp [hE.cmp, cmpR] at g; omega
 clear g
 conv => cbv
 refine st_len hE sISd fun x2 hx2' => ?_
 conv => cbv
 refine br (fun g => ?_) (fun g => ?_)
 ·have g : x2 < 1 := by simpa [hE.cmp, cmpR] using g
  conv => cbv
  exact no (fun q => by have := q.2.1; omega) _ _ _ _ hx1
 have g2 : 1 ≤ n2 := by simp [hE.cmp, cmpR] at g; omega
 clear g
 conv => cbv
 refine st_len hE sISd fun x3 hx3' => ?_
 conv => cbv
 refine br (fun g => ?_) (fun g => ?_)
 ·have g : 600 < x3 := by simpa [hE.cmp, cmpR] using g
  conv => cbv
  exact no (fun q => by have := q.2.2.1; omega) _ _ _ _ hx1
 have g3 : n2 ≤ 600 := by simp [hE.cmp, cmpR] at g; omega
 clear g
 have bad : (∀ acc, V ≠ some (acc, N)) → ∀ A m c w', Ext w0 w' → R (.tuple ⟨[.slice A m c, .bool false]⟩) w' := fun h => no fun q => by
  obtain ⟨acc, e⟩ := q.2.2.2
  exact h acc (by rw [e, hl])
 conv => cbv
 refine st_new hr (z := .int .i64 0) (by kernel_rfl) rfl fun q8 w2 hx2 hb80 => ?_
 have hb8 := hb80 _ (n1_ _)
 have f8 := bx_form hb8
 clear hb80
 conv => cbv
 refine st_put hr zInt hb8 (add_zero _).symm (by simp) rfl fun w3 hw3 hb8' => ?_
 simp only [b4_] at hb8'
 have hxa := hx2.then (hw3.bel hb8 hx2.size)
 clear hb8
 have hw3s := hw3.size
 replace hb5 := hb5.bel hxa
 have hxb := hx1.trans hxa
 have hb8 : Box w0.heap.size 3 1 w3 q8 [.int .i64 0] := hb8'.mono hx1.size
 clear hb8' hw3
 conv => cbv
 refine st_bWk hE ?_
 conv => cbv
 refine st_box hr fun q9 w4 hx4 hb90 => ?_
 have hb9 := hb90 _ (n1_ _)
 have f9 := bx_form hb9
 replace hb9 := hb9.mono hxb.size
 clear hb90
 replace hb5 := hb5.bel hx4
 replace hb8 := hb8.bel hx4
 have hx := hxb.trans hx4
 have s1 := hx1.size
 have s2 := hx2.size
 have s4 := hx4.size
 have a58 := bx_apart f5.2.2 f8.2.2 (by omega)
 have a59 := bx_apart f5.2.2 f9.2.2 (by omega)
 have a89 := bx_apart f8.2.2 f9.2.2 (by omega)
 have a98 := bx_apart f9.2.2 f8.2.2 (by omega)
 have r5 : w0.heap.size ≤ q5.block ∧ q5.block < w4.heap.size := by omega
 have r8 : w0.heap.size ≤ q8.block ∧ q8.block < w4.heap.size := by omega
 have r9 : w0.heap.size ≤ q9.block ∧ q9.block < w4.heap.size := by omega
 have hs04 : w0.heap.size ≤ w4.heap.size := hx.size
 have e5 := f5.2.2
 have e8 := f8.2.2
 have e9 := f9.2.2
 clear f5 f8 f9 hxa hxb hx1 hx2 hx4 s1 s2 s4 hw3s
 conv => cbv
 refine st_none hr sSt fun AA w5 hx5 ho0 => ?_
 have ho := ho0 w4.heap.size (n1_ _)
 clear ho0
 replace hb5 := hb5.bel hx5
 replace hb8 := hb8.bel hx5
 replace hb9 := hb9.bel hx5
 replace hx := hx.trans hx5
 have hs45 := hx5.size
 clear hx5
 conv => cbv
 refine st_len hE sISd fun x4 hx4 => ?_
 conv => cbv
 refine loop_rulec [13, 16, 18, 22] hr (fun (s : Nat × Int × Nat × Int × Nat × Int × Option Addr × Nat × List SV) w' => s.1 ≤ n2 ∧ s.2.1 = (s.1 : Int) ∧ s.2.2.1 ≤ N ∧ s.2.2.2.1 = (s.2.2.1 : Int) ∧ s.2.2.2.2.1 ≤ s.1 ∧ s.2.2.2.2.2.1 = (s.2.2.2.2.1 : Int) ∧ Ext w0 w' ∧ w4.heap.size ≤ w'.heap.size ∧
   Box w0.heap.size 174 1 w' q5 [.func (.func f0) #[] #[]] ∧ Box w0.heap.size 3 1 w' q8 [.int .i64 s.2.2.2.2.2.1] ∧ Box w0.heap.size 267 3 w' q9 [.slice AN N cN', .int .i64 s.2.2.2.1, .func (.func 154) #[] #[.pointer (some q5), .pointer (some q8)]] ∧
   Own w4.heap.size 180 5 w' s.2.2.2.2.2.2.1 s.1 s.2.2.2.2.2.2.2.1 (s.2.2.2.2.2.2.2.2.flatMap fV) ∧ ES (Foot w0.heap.size w4.heap.size w' s.2.2.2.2.2.2.1) w' s.2.2.2.2.2.2.2.2 ∧ Nums sv s.2.2.2.2.2.2.2.2 ∧
   runS nv lp (sv.drop s.1) s.2.2.1 s.2.2.2.2.1 (s.2.2.2.2.2.2.2.2.map (·.p)) = V)
  (fun s => [(0, .slice AN N cN'), (1, .slice A2 n2 c2), (8, .pointer (some q8)), (9, .pointer (some q9)), (10, .slice s.2.2.2.2.2.2.1 s.1 s.2.2.2.2.2.2.2.1), (34, .slice A2 n2 c2), (35, .int .i64 x4), (36, .int .i64 s.2.1)]) (fun s => n2 - s.1) (0, 0, 0, 0, 0, 0, AA, 0, [])
  (by simp [Fits, lk]) ⟨by simp, by simp, by simp, by simp, by simp, by simp, hx, hs45, hb5, hb8, hb9, by simpa using ho, (fun e he => by cases he), (fun j e he => by simp at he), hV0.symm⟩ ?_
 clear hb5 hb8 hb9 ho hx hs45 hV0
 rintro I hI ⟨j, jj, i, ii, le, ll, A, c, es⟩ w' ⟨hj, hjj, hi, hii, hle, hll, hx, hs4, hb5, hb8, hb9, ho, hes, hnu, hV⟩
 simp only at hj hjj hi hii hle hll hb5 hb8 hb9 ho hes hnu hV
 obtain ⟨jk, hjk⟩ : ∃ z, z = jj + 1 := ⟨_, rfl⟩
 obtain ⟨lk1, hlk⟩ : ∃ z, z = ll + 1 := ⟨_, rfl⟩
 obtain ⟨im, him⟩ : ∃ z : Int, z = n2 - 1 := ⟨_, rfl⟩
 have hol := ho.len
 rw [fl_len fV_len] at hol
 have h0s := hx.size
 conv => cbv
 refine br (fun g => ?_) (fun g => ?_)
 ·have g : j < n2 := by
   have : jj < x4 := by simpa [hE.cmp, cmpR] using g
   omega
  have ej : E.ar .add .i64 jj 1 = jk := by rw [hE.ar, hjk]; exact wrap_in (by omega) (by omega)
  have el : E.ar .add .i64 ll 1 = lk1 := by rw [hE.ar, hlk]; exact wrap_in (by omega) (by omega)
  obtain ⟨a, v, hA, hg, hc, hok⟩ := (h.stmts.ext hx).get g
  obtain ⟨k, nm, cc, gg⟩ := v
  have s_nm := hok.s_nm
  simp only at s_nm
  rw [drop_cons hg, runS] at hV
  obtain ⟨la, hla⟩ : ∃ la, la = E.cmp .eql jj im := ⟨_, rfl⟩
  have hla2 : la = (sv.drop (j + 1)).isEmpty := by rw [hla, hE.cmp, Bool.eq_iff_iff]; simp [cmpR]; omega
  rw [← hla2] at hV
  obtain ⟨SM, hSM0⟩ : ∃ SM, SM = stmtM nv (lp le) la i ⟨k, nm, cc, gg⟩ := ⟨_, rfl⟩
  rw [← hSM0] at hV
  have hSM := hSM0
  unfold stmtM at hSM
  simp only at hSM
  have bad2 : SM = none → ∀ w2, Ext w0 w2 → R (.tuple ⟨[.slice none 0 0, .bool false]⟩) w2 := fun h => by
   rw [h] at hV
   simp only at hV
   exact bad (fun acc q => by rw [← hV] at q; cases q) _ _ _
  conv => cbv
  refine st_idx hE sISd hA (by omega) (by omega) fun q hq => ?_
  rw [show jj.toNat = j by omega] at hq
  conv => cbv
  refine st_loadS hE tISd (vs := [.int .i64 k, .string nm, .int .i64 cc, .int .i64 gg]) rfl (by rw [hq]; exact hc) ?_
  conv => cbv
  refine st_alloc hr tISd rfl fun q12 w6 hx6 hq0 => ?_
  conv => cbv
  refine st_putS hr (by kernel_rfl) (hq0 _ (n1_ _)) (add_zero _).symm (by simp) (by simp [Value.oneCell']) fun w7 hw7 hq12 => ?_
  simp only [a1_, a2_, a3_, a4_, a5_, a6_, a7_] at hq12
  have hy := hx6.then (hw7.bel (hq0 _ (n1_ _)) hx6.size)
  have f12 := bx_form hq12
  clear hq0 hw7 hx6 hq hc
  conv => cbv
  (refine st_fld hE fISd0 fun p hp => ?_; (conv => cbv); refine st_load hE cInt (by rw [hp]; exact (hq12).at _ _ rfl) ?_; (conv => cbv))
  (refine st_fld hE fISd1 fun p hp => ?_; (conv => cbv); refine st_load hE cStr (by rw [hp]; exact (hq12).at _ _ rfl) ?_; (conv => cbv))
  refine st_bSt hE ?_
  conv => cbv
  refine st_alloc hr tSt rfl fun q13 w8 hx8 hq0 => ?_
  conv => cbv
  refine st_putS hr (by kernel_rfl) (hq0 _ (n1_ _)) (add_zero _).symm (by simp [zSt]) (by simp [Value.oneCell']) fun w9 hw9 hq13 => ?_
  simp only [zSt, a1_, a2_, a3_, a4_, a5_, a6_, a7_] at hq13
  have hy2 := hx8.then (hw9.bel (hq0 _ (n1_ _)) hx8.size)
  replace hq12 := hq12.bel hy2
  have f1312 := (bx_form hq13).1
  replace hq13 := hq13.mono hy.size
  have f13 := (bx_form hq13)
  replace hy := hy.trans hy2
  clear hq0 hw9 hx8 hy2
  conv => cbv
  refine st_len hE sISd fun x6 hx6 => ?_
  have em : E.ar .sub .i64 x6 1 = im := by rw [hE.ar, show arR .sub .i64 x6 1 = IntKind.i64.wrap (x6 - 1) from rfl, wrap_in (by omega) (by omega)]; omega
  conv => cbv
  simp only [em, ← hla]
  have hxz := hx.trans hy
  refine cut_rule [] [16, 18, 22] hr (fun (s : Unit) wz => guardP la ⟨k, nm, cc, gg⟩ ∧ Ext w9 wz) (fun s => [(0, .slice AN N cN'), (1, .slice A2 n2 c2), (8, .pointer (some q8)), (9, .pointer (some q9)), (10, .slice A j c), (11, .int .i64 jj), (12, .pointer (some q12)), (13, .pointer (some q13)), (34, .slice A2 n2 c2), (35, .int .i64 x4), (36, .int .i64 jj)]) (fun J hJ => ?_) ?_
  ·have bad3 : ¬ guardP la ⟨k, nm, cc, gg⟩ → ∀ wz, Ext w9 wz → R (.tuple ⟨[.slice none 0 0, .bool false]⟩) wz := fun q wz h => bad2 (by rw [hSM, if_neg q]) _ (hxz.trans h)
   conv => cbv
   (refine st_fld hE fISd0 fun p hp => ?_; (conv => cbv); refine st_load hE cInt (by rw [hp]; exact (hq12).at _ _ rfl) ?_; (conv => cbv))
   refine br (fun b1 => ?_) (fun b1 => ?_)
   ·have b1 : k < 1 := by simpa [hE.cmp, cmpR] using b1
    conv => cbv
    exact bad3 (fun q => by have := q.1; simp only at this; omega) _ (Ext.refl _)
   have b1 : ¬ k < 1 := by simpa [hE.cmp, cmpR] using b1
   conv => cbv
   (refine st_fld hE fISd0 fun p hp => ?_; (conv => cbv); refine st_load hE cInt (by rw [hp]; exact (hq12).at _ _ rfl) ?_; (conv => cbv))
   refine br (fun b2 => ?_) (fun b2 => ?_)
   ·have b2 : 3 < k := by simpa [hE.cmp, cmpR] using b2
    conv => cbv
    exact bad3 (fun q => by have := q.1; simp only at this; omega) _ (Ext.refl _)
   have b2 : ¬ 3 < k := by simpa [hE.cmp, cmpR] using b2
   conv => cbv
   (refine st_fld hE fISd0 fun p hp => ?_; (conv => cbv); refine st_load hE cInt (by rw [hp]; exact (hq12).at _ _ rfl) ?_; (conv => cbv))
   refine st_bne hE uBool fun v1 hv1 => ?_
   cases v1 with
   | true =>
    have hv1 := hv1.1 rfl
    conv => cbv
    exact bad3 (fun q => hv1 (by rw [← q.2.1]; simp [hE.cmp, cmpR])) _ (Ext.refl _)
   | false =>
   have hv1 : k = 3 ↔ la = true := by
    have := Classical.byContradiction fun q => absurd (hv1.2 q) Bool.false_ne_true
    rw [← this]; simp [hE.cmp, cmpR]
   conv => cbv
   (refine st_fld hE fISd0 fun p hp => ?_; (conv => cbv); refine st_load hE cInt (by rw [hp]; exact (hq12).at _ _ rfl) ?_; (conv => cbv))
   (refine st_fld hE fISd2 fun p hp => ?_; (conv => cbv); refine st_load hE cInt (by rw [hp]; exact (hq12).at _ _ rfl) ?_; (conv => cbv))
   refine st_bne hE uBool fun v2 hv2 => ?_
   cases v2 with
   | true =>
    have hv2 := hv2.1 rfl
    conv => cbv
    exact bad3 (fun q => hv2 (by have := q.2.2.1; simpa [hE.cmp, cmpR] using this)) _ (Ext.refl _)
   | false =>
   have hv2 : k = 3 ↔ cc = -1 := by
    have := Classical.byContradiction fun q => absurd (hv2.2 q) Bool.false_ne_true
    simpa [hE.cmp, cmpR] using this
   conv => cbv
   (refine st_fld hE fISd0 fun p hp => ?_; (conv => cbv); refine st_load hE cInt (by rw [hp]; exact (hq12).at _ _ rfl) ?_; (conv => cbv))
   refine br (fun b5 => ?_) (fun b5 => ?_)
   ·have b5 : k = 1 := by simpa [hE.cmp, cmpR] using b5
    conv => cbv
    (refine st_fld hE fISd3 fun p hp => ?_; (conv => cbv); refine st_load hE cInt (by rw [hp]; exact (hq12).at _ _ rfl) ?_; (conv => cbv))
    refine br (fun b6 => ?_) (fun b6 => ?_)
    ·have b6 : gg ≠ -1 := by simpa [hE.cmp, cmpR] using b6
     conv => cbv
     exact bad3 (fun q => b6 (q.2.2.2.1 b5)) _ (Ext.refl _)
    have b6 : gg = -1 := by simpa [hE.cmp, cmpR] using b6
    conv => cbv
    (refine st_fld hE fISd0 fun p hp => ?_; (conv => cbv); refine st_load hE cInt (by rw [hp]; exact (hq12).at _ _ rfl) ?_; (conv => cbv))
    refine br (fun b7 => ?_) (fun b7 => ?_)
    ·have b7 : k ≠ 1 := by simpa [hE.cmp, cmpR] using b7
     exact absurd b5 b7
    conv => cbv
    (refine st_fld hE fISd0 fun p hp => ?_; (conv => cbv); refine st_load hE cInt (by rw [hp]; exact (hq12).at _ _ rfl) ?_; (conv => cbv))
    refine br (fun b8 => ?_) (fun b8 => ?_)
    rotate_left
    ·have b8 : k ≠ 1 := by simpa [hE.cmp, cmpR] using b8
     exact absurd b5 b8
    conv => cbv
    (refine st_fld hE fISd1 fun p hp => ?_; (conv => cbv); refine st_load hE cStr (by rw [hp]; exact (hq12).at _ _ rfl) ?_; (conv => cbv))
    refine st_qb hE (isNameToken_f (hR0.ext hxz) nm s_nm) fun b hb2 wz hsz => ?_
    cases b with
    | false =>
     conv => cbv
     exact bad3 (fun q => absurd (hb2.2 (q.2.2.2.2.2 b5)) Bool.false_ne_true) _ hsz.ext
    | true =>
     conv => cbv
     exact ⟨(), by simp [Fits, lk], hJ _ _ ⟨⟨by simp only; omega, hv1, hv2, fun _ => b6, fun q => absurd b5 q, fun _ => hb2.1 rfl⟩, hsz.ext⟩⟩
   ·have b5 : k ≠ 1 := by simpa [hE.cmp, cmpR] using b5
    conv => cbv
    (refine st_fld hE fISd0 fun p hp => ?_; (conv => cbv); refine st_load hE cInt (by rw [hp]; exact (hq12).at _ _ rfl) ?_; (conv => cbv))
    refine br (fun b7 => ?_) (fun b7 => ?_)
    rotate_left
    ·have b7 : k = 1 := by simpa [hE.cmp, cmpR] using b7
     exact absurd b7 b5
    conv => cbv
    (refine st_fld hE fISd1 fun p hp => ?_; (conv => cbv); refine st_load hE cStr (by rw [hp]; exact (hq12).at _ _ rfl) ?_; (conv => cbv))
    refine br (fun b6 => ?_) (fun b6 => ?_)
    ·have b6 := (scn hE _).1 b6
     conv => cbv
     exact bad3 (fun q => b6 (by rw [show nm = _ from q.2.2.2.2.1 b5]; rfl)) _ (Ext.refl _)
    have b6 : nm = ⟨#[]⟩ := Classical.byContradiction fun q => b6 ((scn hE _).2 fun z => q (size_nil z))
    conv => cbv
    (refine st_fld hE fISd0 fun p hp => ?_; (conv => cbv); refine st_load hE cInt (by rw [hp]; exact (hq12).at _ _ rfl) ?_; (conv => cbv))
    refine br (fun b8 => ?_) (fun b8 => ?_)
    ·have b8 : k = 1 := by simpa [hE.cmp, cmpR] using b8
     exact absurd b8 b5
    conv => cbv
    exact ⟨(), by simp [Fits, lk], hJ _ _ ⟨⟨by simp only; omega, hv1, hv2, fun q => absurd q b5, fun _ => b6, fun q => absurd q b5⟩, Ext.refl _⟩⟩
  ·rintro _ wz ⟨hgd, hwz⟩
   rw [if_pos hgd] at hSM
   replace hq12 := hq12.bel hwz
   replace hq13 := hq13.bel hwz
   replace hy := hy.trans hwz
   have h9z := hwz.size
   clear hxz hwz
   have xw : ∀ wz, Wr (some q9) w' wz → Ext w0 wz := fun wz hz => hx.then (hz.bel hb9 hx.size)
   have e13 := f13.2.2
   have b13 : w'.heap.size ≤ q13.block ∧ q13.block < w9.heap.size := ⟨f13.1, f13.2.1⟩
   have a139 := bx_apart e13 e9 (by omega)
   have a129 := bx_apart f12.2.2 e9 (by omega)
   have a1213 := bx_apart f12.2.2 e13 (by omega)
   have hleaf : ∀ wy, Wr (some q9) w' wy → LeafC wy q9 154 #[] #[.pointer (some q5), .pointer (some q8)] (lp le) := fun wy hz => trees1_a hf (xw _ hz) ⟨r9.1, by have := hz.size; omega⟩ e9 (by omega) hll (hb5.wr hz a59) (hb8.wr hz a89) a59 a89
   conv => cbv
   refine cut_rule [] [18, 22] hr (fun (s : Option (Option Tr × Value × Nat × Int)) wy => match s with
     | none => SM = none ∧ Ext w0 wy
     | some (co, cv, i1, ii1) => optM nv (lp le) i cc = some (co, i1) ∧ ii1 = (i1 : Int) ∧ i1 ≤ N ∧ Wr (some q9) w' wy ∧ w9.heap.size ≤ wy.heap.size ∧ Box w0.heap.size 267 3 wy q9 [.slice AN N cN', .int .i64 ii1, .func (.func 154) #[] #[.pointer (some q5), .pointer (some q8)]] ∧
       Box w'.heap.size 155 4 wy q12 [.int .i64 k, .string nm, .int .i64 cc, .int .i64 gg] ∧ Box w'.heap.size 180 5 wy q13 [.int .i64 k, .string nm, cv, .nilIface, .int .i64 jj] ∧ optV (fun b => b < w0.heap.size ∨ (w9.heap.size ≤ b ∧ b < wy.heap.size)) wy co cv)
    (fun s => match s with
     | none => [(15, .bool false)]
     | some _ => [(0, .slice AN N cN'), (1, .slice A2 n2 c2), (8, .pointer (some q8)), (9, .pointer (some q9)), (10, .slice A j c), (12, .pointer (some q12)), (13, .pointer (some q13)), (15, .bool true), (34, .slice A2 n2 c2), (35, .int .i64 x4), (36, .int .i64 jj)]) (fun J hJ => ?_) ?_
   ·(refine st_fld hE fISd2 fun p hp => ?_; (conv => cbv); refine st_load hE cInt (by rw [hp]; exact (hq12).at _ _ rfl) ?_; (conv => cbv))
    refine br (fun t1 => ?_) (fun t1 => ?_)
    rotate_left
    ·have t1 : cc = -1 := by simpa [hE.cmp, cmpR] using t1
     conv => cbv
     exact ⟨some (none, .nilIface, i, ii), by simp [Fits, lk], hJ _ _ ⟨by unfold optM; rw [if_pos t1], hii, hi, hy.wr _, h9z, hb9.bel hy, hq12, hq13, rfl⟩⟩
    ·have t1 : cc ≠ -1 := by simpa [hE.cmp, cmpR] using t1
     conv => cbv
     (refine st_fld hE fISd2 fun p hp => ?_; (conv => cbv); refine st_load hE cInt (by rw [hp]; exact (hq12).at _ _ rfl) ?_; (conv => cbv))
     refine st_g hr (tree_g hT h.nodes g1 hii hi (hb9.bel hy) (hx.trans hy) (hleaf _ (hy.wr _)) cc) fun u w10 ⟨v, b, ev, hv1, hw10, hbf, hbt⟩ => ?_
     subst ev
     conv => cbv
     have hwr10 := (hy.wr (some q9)).trans hw10
     replace hq12 := hq12.wr hw10 a129
     replace hq13 := hq13.wr hw10 a139
     refine st_fld hE fSt2 fun p hp => ?_
     conv => cbv
     refine st_put hr zTr hq13 hp (by simp) hv1 fun w11 hw11 hq13' => ?_
     simp only [b4_, b5_] at hq13'
     have hwr11 := wr_new hwr10 hw11 hq13
     have s10 := hw10.size
     have s11 := hw11.size
     replace hq12 := hq12.wr hw11 a1213
     conv => cbv
     cases b with
     | false =>
      exact ⟨none, by simp [Fits, lk], hJ _ _ ⟨by rw [hSM]; unfold optM; rw [if_neg t1, hbf rfl], xw _ hwr11⟩⟩
     | true =>
      obtain ⟨t, ty, u, rfl, ht, htv, hb9'⟩ := hbt rfl
      obtain ⟨kn, hkn, hk1, hk2, _⟩ := treeM_iff.1 ht
      exact ⟨some (some t, .iface ty u, cc.toNat + 1, cc + 1), by simp [Fits, lk], hJ _ _ ⟨by unfold optM; rw [if_neg t1, ht], by omega, by omega, hwr11, by omega, hb9'.wr hw11 (bx_apart e9 e13 (by omega)), hq12, hq13', by
       refine TreeV.keep (fun b hb => hw11.block b ?_ ?_) (fun b hb => ?_) t _ htv
       ·rcases hb with hb | hb <;> omega
       ·rw [e13]; intro q; cases q; rcases hb with hb | hb <;> omega
       ·rcases hb with hb | hb
        ·exact .inl hb
        ·exact .inr ⟨by omega, by omega⟩⟩⟩
   ·clear hq12 hq13 hy h9z
    rintro (_ | ⟨co, cv, i1, ii1⟩) wy hI2
    ·obtain ⟨hS1, hS2⟩ := hI2
     conv => cbv
     refine cut_rule [] [] hr (fun (s : Unit) wy => Ext w0 wy) (fun s => [(15, .bool false)]) (fun J hJ => ?_) ?_
     ·conv => cbv
      exact ⟨(), by simp [Fits, lk], hJ _ _ hS2⟩
     ·rintro _ wy hS2
      conv => cbv
      exact bad2 hS1 _ hS2
    obtain ⟨hc1, hii1, hi1, hwr, h9z, hb9y, hq12, hq13, hcv⟩ := hI2
    rw [hc1] at hSM
    simp only at hSM
    conv => cbv
    refine cut_rule [] [22] hr (fun (s : Option (Option Tr × Value × Option Tr × Value × Nat × Int)) wy => match s with
      | none => SM = none ∧ Ext w0 wy
      | some (co, cv, go, gv, i2, ii2) => SM = some (⟨co, go⟩, i2) ∧ ii2 = (i2 : Int) ∧ i2 ≤ N ∧ Wr (some q9) w' wy ∧ w9.heap.size ≤ wy.heap.size ∧ Box w0.heap.size 267 3 wy q9 [.slice AN N cN', .int .i64 ii2, .func (.func 154) #[] #[.pointer (some q5), .pointer (some q8)]] ∧
        Box w'.heap.size 155 4 wy q12 [.int .i64 k, .string nm, .int .i64 cc, .int .i64 gg] ∧ Box w'.heap.size 180 5 wy q13 [.int .i64 k, .string nm, cv, gv, .int .i64 jj] ∧ optV (fun b => b < w0.heap.size ∨ (w9.heap.size ≤ b ∧ b < wy.heap.size)) wy co cv ∧ optV (fun b => b < w0.heap.size ∨ (w9.heap.size ≤ b ∧ b < wy.heap.size)) wy go gv)
     (fun s => match s with
      | none => [(15, .bool false)]
      | some _ => [(0, .slice AN N cN'), (1, .slice A2 n2 c2), (8, .pointer (some q8)), (9, .pointer (some q9)), (10, .slice A j c), (12, .pointer (some q12)), (13, .pointer (some q13)), (15, .bool true), (34, .slice A2 n2 c2), (35, .int .i64 x4), (36, .int .i64 jj)]) (fun J hJ => ?_) ?_
    ·(refine st_fld hE fISd3 fun p hp => ?_; (conv => cbv); refine st_load hE cInt (by rw [hp]; exact (hq12).at _ _ rfl) ?_; (conv => cbv))
     refine br (fun t1 => ?_) (fun t1 => ?_)
     rotate_left
     ·have t1 : gg = -1 := by simpa [hE.cmp, cmpR] using t1
      conv => cbv
      exact ⟨some (co, cv, none, .nilIface, i1, ii1), by simp [Fits, lk], hJ _ _ ⟨by rw [hSM]; unfold optM; rw [if_pos t1], hii1, hi1, hwr, h9z, hb9y, hq12, hq13, hcv, rfl⟩⟩
     ·have t1 : gg ≠ -1 := by simpa [hE.cmp, cmpR] using t1
      conv => cbv
      (refine st_fld hE fISd3 fun p hp => ?_; (conv => cbv); refine st_load hE cInt (by rw [hp]; exact (hq12).at _ _ rfl) ?_; (conv => cbv))
      refine st_g hr (tree_g hT h.nodes g1 hii1 hi1 hb9y (xw _ hwr) (hleaf _ hwr) gg) fun u w10 ⟨v, b, ev, hv1, hw10, hbf, hbt⟩ => ?_
      subst ev
      conv => cbv
      have hwr10 := hwr.trans hw10
      replace hq12 := hq12.wr hw10 a129
      replace hq13 := hq13.wr hw10 a139
      refine st_fld hE fSt3 fun p hp => ?_
      conv => cbv
      refine st_put hr zTr hq13 hp (by simp) hv1 fun w11 hw11 hq13' => ?_
      simp only [b4_, b5_] at hq13'
      have hwr11 := wr_new hwr10 hw11 hq13
      have s10 := hw10.size
      have s11 := hw11.size
      replace hq12 := hq12.wr hw11 a1213
      conv => cbv
      cases b with
      | false =>
       exact ⟨none, by simp [Fits, lk], hJ _ _ ⟨by rw [hSM]; unfold optM; rw [if_neg t1, hbf rfl], xw _ hwr11⟩⟩
      | true =>
       obtain ⟨t, ty, u, rfl, ht, htv, hb9'⟩ := hbt rfl
       obtain ⟨kn, hkn, hk1, hk2, _⟩ := treeM_iff.1 ht
       have keepD : ∀ (b : Nat), b < w0.heap.size ∨ (w9.heap.size ≤ b ∧ b < w10.heap.size) → w11.heap[b]? = w10.heap[b]? := fun b hb => hw11.block b (by rcases hb with hb | hb <;> omega) (by rw [e13]; intro q; cases q; rcases hb with hb | hb <;> omega)
       exact ⟨some (co, cv, some t, .iface ty u, gg.toNat + 1, gg + 1), by simp [Fits, lk], hJ _ _ ⟨by rw [hSM]; unfold optM; rw [if_neg t1, ht], by omega, by omega, hwr11, by omega, hb9'.wr hw11 (bx_apart e9 e13 (by omega)), hq12, hq13', by
        refine (hcv.keep (fun b hb => hw10.block b ?_ ?_) (fun b hb => ?_)).keep (D := fun b => b < w0.heap.size ∨ (w9.heap.size ≤ b ∧ b < w10.heap.size)) keepD (fun b hb => ?_)
        ·rcases hb with hb | hb <;> omega
        ·rw [e9]; intro q; cases q; rcases hb with hb | hb <;> omega
        ·rcases hb with hb | hb
         ·exact .inl hb
         ·exact .inr ⟨by omega, by omega⟩
        ·rcases hb with hb | hb
         ·exact .inl hb
         ·exact .inr ⟨by omega, by omega⟩, by
        refine TreeV.keep (fun b hb => keepD b ?_) (fun b hb => ?_) t _ htv
        ·rcases hb with hb | hb
         ·exact .inl hb
         ·exact .inr ⟨by omega, by omega⟩
        ·rcases hb with hb | hb
         ·exact .inl hb
         ·exact .inr ⟨by omega, by omega⟩⟩⟩
    ·clear hq12 hq13 hwr h9z hb9y hcv hSM hc1
     rintro (_ | ⟨co', cv', go, gv, i2, ii2⟩) wy hI2
     ·obtain ⟨hS1, hS2⟩ := hI2
      conv => cbv
      exact bad2 hS1 _ hS2
     obtain ⟨hS1, hii2, hi2, hwr, h9z, hb9y, hq12, hq13, hcv, hgv⟩ := hI2
     rw [hS1] at hV
     simp only at hV
     have hw8 := hs4
     have hsy := hwr.size
     replace hb5 := hb5.wr hwr a59
     replace hb8 := hb8.wr hwr a89
     have apA := own_low ho r9.2 e9
     have hblA : ∀ b, w9.heap.size ≤ b → blk A ≠ some b := fun b hb q => by
      obtain rfl | ⟨g, rfl, _, hg⟩ := ho.blk
      ·simp [Eng.blk, Value.ownBlock] at q
      ·have e1 : blk (some (⟨g, 0, none⟩ : Addr)) = some g := rfl
       rw [e1] at q; cases q; omega
     replace ho := ho.wr hwr apA.1
     replace hes : ES (Foot w0.heap.size w4.heap.size wy A) wy es := hes.keep (foot_keep h0s ⟨r9.1, r9.2⟩ e9 hwr) fun b hb => foot_ext hsy hb
     have toF : ∀ b, b < w0.heap.size ∨ (w9.heap.size ≤ b ∧ b < wy.heap.size) → Foot w0.heap.size w4.heap.size wy A b := fun b hb => by
      rcases hb with hb | hb
      ·exact .inl hb
      ·exact .inr ⟨by omega, hb.2, hblA b hb.1⟩
     replace hcv : optV (Foot w0.heap.size w4.heap.size wy A) wy co' cv' := hcv.keep (fun b _ => rfl) toF
     replace hgv : optV (Foot w0.heap.size w4.heap.size wy A) wy go gv := hgv.keep (fun b _ => rfl) toF
     have hxy := xw _ hwr
     have h0y := hxy.size
     conv => cbv
     refine cut_rule [] [] hr (fun (s : Nat × Int) wv => s.1 = (if k = 1 then le + 1 else le) ∧ s.2 = (s.1 : Int) ∧ Ext w0 wv ∧ w4.heap.size ≤ wv.heap.size ∧ Box w0.heap.size 174 1 wv q5 [.func (.func f0) #[] #[]] ∧ Box w0.heap.size 3 1 wv q8 [.int .i64 s.2] ∧
       Box w0.heap.size 267 3 wv q9 [.slice AN N cN', .int .i64 ii2, .func (.func 154) #[] #[.pointer (some q5), .pointer (some q8)]] ∧ Box w'.heap.size 180 5 wv q13 [.int .i64 k, .string nm, cv', gv, .int .i64 jj] ∧ Own w4.heap.size 180 5 wv A j c (es.flatMap fV) ∧
       ES (Foot w0.heap.size w4.heap.size wv A) wv es ∧ optV (Foot w0.heap.size w4.heap.size wv A) wv co' cv' ∧ optV (Foot w0.heap.size w4.heap.size wv A) wv go gv)
      (fun s => [(0, .slice AN N cN'), (1, .slice A2 n2 c2), (8, .pointer (some q8)), (9, .pointer (some q9)), (10, .slice A j c), (13, .pointer (some q13)), (34, .slice A2 n2 c2), (35, .int .i64 x4), (36, .int .i64 jj)]) (fun J hJ => ?_) ?_
     ·(refine st_fld hE fISd0 fun p hp => ?_; (conv => cbv); refine st_load hE cInt (by rw [hp]; exact (hq12).at _ _ rfl) ?_; (conv => cbv))
      refine br (fun t1 => ?_) (fun t1 => ?_)
      rotate_left
      ·have t1 : k ≠ 1 := by simpa [hE.cmp, cmpR] using t1
       conv => cbv
       exact ⟨(le, ll), by simp [Fits, lk], hJ _ _ ⟨by rw [if_neg t1], hll, hxy, by omega, hb5, hb8, hb9y, hq13, ho, hes, hcv, hgv⟩⟩
      ·have t1 : k = 1 := by simpa [hE.cmp, cmpR] using t1
       conv => cbv
       refine st_load hE cInt (by have := hb8.at 0 _ rfl; rwa [add_zero] at this) ?_
       conv => cbv
       simp only [el]
       refine st_put hr zInt hb8 (add_zero _).symm (by simp) rfl fun wv hwv hb8' => ?_
       simp only [b4_] at hb8'
       have apA8 := own_low ho r8.2 e8
       have hvs := hwv.size
       have kp : ∀ b, Foot w0.heap.size w4.heap.size wy A b → wv.heap[b]? = wy.heap[b]? := foot_keep h0y ⟨r8.1, r8.2⟩ e8 hwv
       have kf : ∀ b, Foot w0.heap.size w4.heap.size wy A b → Foot w0.heap.size w4.heap.size wv A b := fun b hb => foot_ext hvs hb
       conv => cbv
       exact ⟨(le + 1, lk1), by simp [Fits, lk], hJ _ _ ⟨by rw [if_pos t1], by simp only; omega, hxy.then (hwv.bel hb8 h0y), by omega, hb5.wr hwv a58, hb8', hb9y.wr hwv a98, hq13.wr hwv (bx_apart e13 e8 (by omega)), ho.wr hwv apA8.1, hes.keep kp kf, hcv.keep kp kf, hgv.keep kp kf⟩⟩
     ·clear hb5 hb8 hb9 hb9y hq13 hq12 ho hes hcv hgv hxy h0y apA
      rintro ⟨le', ll'⟩ wv ⟨hle', hll', hxy, hs4v, hb5, hb8, hb9, hq13, ho, hes, hcv, hgv⟩
      simp only at hle' hll' hb8
      rw [← hle'] at hV
      conv => cbv
      refine st_loadS hE tSt rfl hq13.at ?_
      conv => cbv
      have h0y := hxy.size
      refine st_oneS hr sSt rfl (by omega) (by omega) rfl fun A7 w7 hx7 hc7 => ?_
      have kp7 : ∀ b, Foot w0.heap.size w4.heap.size wv A b → w7.heap[b]? = wv.heap[b]? := fun b hb => hx7.block b (foot_lt h0y hb)
      have kf7 : ∀ b, Foot w0.heap.size w4.heap.size wv A b → Foot w0.heap.size w4.heap.size w7 A b := fun b hb => foot_ext hx7.size hb
      replace hb5 := hb5.bel hx7
      replace hb8 := hb8.bel hx7
      replace hb9 := hb9.bel hx7
      replace ho := ho.bel hx7
      replace hes := hes.keep kp7 kf7
      replace hcv := hcv.keep kp7 kf7
      replace hgv := hgv.keep kp7 kf7
      replace hxy := hxy.trans hx7
      have hs47 := hx7.size
      have oc := hcv.one
      have og := hgv.one
      clear kp7 kf7 hx7 h0y
      have h0y := hxy.size
      conv => cbv
      refine st_appsKG hr sSt rfl (by omega) ho hc7 rfl (by omega) (by
       intro v hv
       simp only [List.mem_cons, List.not_mem_nil, or_false] at hv
       rcases hv with rfl | rfl | rfl | rfl | rfl <;> first | rfl | assumption) (by omega) (by omega) (by omega) fun A8 c8 m8 w8 hm8 hw8 ho8 hbk => ?_
      subst hm8
      have hgro : Gro _ A w8 A8 := ⟨hw8, hbk.imp id fun e => ⟨_, e, n1_ _⟩⟩
      have hrow := own_row ho hs04
      have apA := own_low ho r5.2 e5
      have apB := own_low ho r8.2 e8
      have apC := own_low ho r9.2 e9
      have kp8 : ∀ b, Foot w0.heap.size w4.heap.size w7 A b → w8.heap[b]? = w7.heap[b]? := fun b hb => hw8.block b (foot_lt h0y hb) (by
       intro e
       rcases hb with hb | hb
       ·rcases hrow with rfl | ⟨g, e2, hg2⟩
        ·simp [Eng.blk, Value.ownBlock] at e
        ·rw [e2] at e; cases e; omega
       ·exact hb.2.2 e.symm)
      have kf8 : ∀ b, Foot w0.heap.size w4.heap.size w7 A b → Foot w0.heap.size w4.heap.size w8 A8 b := fun b hb => by
       rcases hb with hb | ⟨h1, h2, h3⟩
       ·exact .inl hb
       ·refine .inr ⟨h1, n3_ h2 hgro.wr.size, ?_⟩
        rcases hgro.at_ with e | ⟨g, e, hg2⟩
        ·rw [e]; exact h3
        ·rw [e]; intro q; cases q; omega
      conv => cbv
      simp only [ej]
      have hs8 := hw8.size
      refine ⟨(j + 1, jk, i2, ii2, le', ll', A8, c8, es ++ [⟨⟨k, nm, cc, gg⟩, ⟨co', go⟩, cv', gv, jj⟩]), by simp [Fits, lk], hI _ _ ⟨by simp only; omega, by simp only; omega, hi2, hii2, ?_, hll', hxy.then (hw8.bel (ho.mono hs04) h0y), by omega, hb5.wr hw8 apA.2, hb8.wr hw8 apB.2, hb9.wr hw8 apC.2, ?_, ?_, ?_, ?_⟩, by simp only; omega⟩
      ·simp only
       split at hle' <;> omega
      ·simp only
       rw [List.flatMap_append]
       exact ho8
      ·simp only
       intro e he
       rcases List.mem_append.1 he with he | he
       ·exact (hes.keep kp8 kf8) e he
       ·simp at he
        subst he
        exact ⟨hcv.keep kp8 kf8, hgv.keep kp8 kf8⟩
      ·simp only
       intro q e hq
       rcases Nat.lt_or_ge q es.length with r | r
       ·rw [List.getElem?_append_left r] at hq; exact hnu q e hq
       ·rw [List.getElem?_append_right r] at hq
        have : q = j := by
         have := (List.getElem?_eq_some_iff.1 hq).1
         simp at this; omega
        subst this
        rw [show q - es.length = 0 by omega] at hq
        simp at hq
        subst hq
        exact ⟨hjj, hg⟩
      ·simp only
       rw [List.map_append]
       exact hV
 ·have g : j = n2 := by
   have : ¬ jj < x4 := by simpa [hE.cmp, cmpR] using g
   omega
  subst g
  rw [List.drop_eq_nil_of_le (by omega), runS] at hV
  conv => cbv
  refine draw_q hr fol (by kernel_rfl) fun E' hE' => ?_
  conv => cbv
  (refine st_nil hE' ?_; (conv => cbv); refine st_fld hE' fWk1 fun p hp => ?_; (conv => cbv); refine st_load hE' cInt (by rw [hp]; exact (hb9).at _ _ rfl) ?_; (conv => cbv))
  refine st_len hE' sINd fun x5 hx5 => ?_
  conv => cbv
  obtain ⟨q4, hq4⟩ : ∃ q4, q4 = E'.cmp .eql ii x5 := ⟨_, rfl⟩
  have hq5 : q4 = true ↔ i = N := by rw [hq4, hE'.cmp]; simp [cmpR]; omega
  simp only [← hq4]
  intro wv hsv
  conv => cbv
  rw [hR]
  have hx2 := hx.trans hsv.ext
  refine ⟨hx2, A, j, c, q4, rfl, ?_, fun hq => ?_⟩
  ·rw [hq5]
   constructor
   ·intro e
    exact ⟨by omega, by omega, by omega, _, by rw [← hV, e, hl]⟩
   ·rintro ⟨_, _, _, acc, e⟩
    rw [← hV] at e
    simp at e
    omega
  ·have e := hq5.1 hq
   refine ⟨es.map (·.p), by rw [← hV, e, hl], es, by omega, by omega, ho.cap, rfl, ho.cells.ext hsv.ext, hnu, hes.keep (fun b hb => hsv.ext.block b (foot_lt h0s hb)) fun b hb => ?_⟩
   exact foot_lt hx2.size (foot_ext hsv.ext.size hb)
structure CK where
 acc : List Int
 names : List ByteArray
 tys : List Int
def ckC (s : PS) (x : CK) : Option Tr → (Int × Int) ⊕ CK
 | none => .inr x
 | some t =>
  if (walkL x.names x.tys (po t) x.acc).2 ≠ 0 then .inl ((walkL x.names x.tys (po t) x.acc).2, ((walkL x.names x.tys (po t) x.acc).1.length : Int))
  else if s.k = 1 then (if (resN x.names s.nm).isSome = true then .inl (8, ((walkL x.names x.tys (po t) x.acc).1.length : Int) - 1) else .inr ⟨(walkL x.names x.tys (po t) x.acc).1, x.names ++ [s.nm], x.tys ++ [(tyT x.names x.tys t).1]⟩)
  else if (tyT x.names x.tys t).1 ≠ 1 then .inl (9, ((walkL x.names x.tys (po t) x.acc).1.length : Int) - 1) else .inr ⟨(walkL x.names x.tys (po t) x.acc).1, x.names, x.tys⟩
def ckG (x : CK) : Option Tr → (Int × Int) ⊕ CK
 | none => .inr x
 | some t =>
  if (walkL x.names x.tys (po t) x.acc).2 ≠ 0 then .inl ((walkL x.names x.tys (po t) x.acc).2, ((walkL x.names x.tys (po t) x.acc).1.length : Int))
  else if (tyT x.names x.tys t).1 ≠ 4 then .inl (9, ((walkL x.names x.tys (po t) x.acc).1.length : Int) - 1) else .inr ⟨(walkL x.names x.tys (po t) x.acc).1, x.names, x.tys⟩
def ckS : List (PS × PT) → CK → (Int × Int) ⊕ CK
 | [], x => .inr x
 | q :: l, x => match ckC q.1 x q.2.c with
  | .inl f => .inl f
  | .inr y => match ckG y q.2.g with
   | .inl f => .inl f
   | .inr z => ckS l z
theorem walkL_len (names : List ByteArray) (tys : List Int) : ∀ (l : List Tr) (acc : List Int), acc.length ≤ (walkL names tys l acc).1.length ∧ (walkL names tys l acc).1.length ≤ acc.length + l.length ∧ ((walkL names tys l acc).2 = 0 → (walkL names tys l acc).1.length = acc.length + l.length) ∧ ((walkL names tys l acc).2 ≠ 0 → (walkL names tys l acc).1.length < acc.length + l.length)
 | [], acc => by simp [walkL]
 | u :: l, acc => by
  rw [walkL]
  split
  ·rename_i h; simp only [a3_]; exact ⟨by omega, by omega, fun q => absurd q h, fun _ => by omega⟩
  ·obtain ⟨h1, h2, h3, h4⟩ := walkL_len names tys l (acc ++ [(tyT names tys u).1])
   rw [List.length_append, List.length_singleton] at h1 h2 h3 h4
   simp only [a3_]
   exact ⟨by omega, by omega, fun q => by have := h3 q; omega, fun q => by have := h4 q; omega⟩
theorem po_last : ∀ t : Tr, ∃ l, po t = l ++ [t]
 | .con .. => ⟨[], rfl⟩
 | .nam .. => ⟨[], rfl⟩
 | .att .. => ⟨[], rfl⟩
 | .lt .. => ⟨[], rfl⟩
 | .op o kids at_ => ⟨pos kids, by rw [po]⟩
theorem walkL_last {names : List ByteArray} {tys : List Int} {t : Tr} {acc : List Int} (h : (walkL names tys (po t) acc).2 = 0) : (tyT names tys t).2 = 0 ∧ (walkL names tys (po t) acc).1[(walkL names tys (po t) acc).1.length - 1]? = some (tyT names tys t).1 := by
 obtain ⟨l, hl⟩ := po_last t
 rw [hl] at h ⊢
 rw [walkL_append] at h ⊢
 split at h
 ·rename_i q; exact absurd h q
 ·rename_i q
  rw [if_neg q]
  rw [walkL] at h ⊢
  split at h
  ·rename_i q2; exact absurd h q2
  ·rename_i q2
   rw [if_neg q2, walkL]
   exact ⟨Classical.byContradiction q2, by simp⟩
theorem tFt : Stc Tryz.prog 33 2 [.int .i64 0, .int .i64 0] := ⟨by kernel_rfl, by kernel_rfl⟩
theorem fFt0 : Fld Tryz.prog 33 0 0 := ⟨by kernel_rfl⟩
theorem fFt1 : Fld Tryz.prog 33 1 1 := ⟨by kernel_rfl⟩
section
variable {E : Sym} {w : World} {K : Value → World → Prop} {d : Option Tmp} {ty : TypeId} {pos : String} {aft : Array Edge} {g : Option (Nat × Bool)} {bq : Bool}
theorem run_bFt (c a : Int) (w : World) : (Instr.build 33 #[(0, .int .i64 c), (1, .int .i64 a)]).run Tryz.prog w = .ok (.agg #[.int .i64 c, .int .i64 a]) w := by kernel_rfl
theorem st_bFt (hE : EngB bq Tryz.prog E) {c a : Int} {x y : Operand} (hk : K (.agg ⟨[.int .i64 c, .int .i64 a]⟩) w) : E.stop ⟨d, .build 33 ⟨[(0, x), (1, y)]⟩, ty, pos, aft, g⟩ [.int .i64 c, .int .i64 a] w K := by
 refine hE.det (v := .agg ⟨[.int .i64 c, .int .i64 a]⟩) (fun w1 _ ρ hρ => ?_) hk
 simp only [opnds, b2_, b3_, b1_, and_true] at hρ
 have := run_bFt c a w1
 simp [execOp, hρ, this]
theorem run_bFt0 (w : World) : (Instr.build 33 #[]).run Tryz.prog w = .ok (.agg #[.int .i64 0, .int .i64 0]) w := by kernel_rfl
theorem st_bFt0 (hE : EngB bq Tryz.prog E) (hk : K (.agg ⟨[.int .i64 0, .int .i64 0]⟩) w) : E.stop ⟨d, .build 33 ⟨[]⟩, ty, pos, aft, g⟩ [] w K := by
 refine hE.det (v := .agg ⟨[.int .i64 0, .int .i64 0]⟩) (fun w1 _ ρ hρ => ?_) hk
 have := run_bFt0 w1
 simp [execOp, this]
end
theorem l3tree_g {w0 : World} {AN : Option Addr} {N cN' : Nat} {nv : List PN} (hN : RNs w0 AN N nv) (hNb : N ≤ 4000) (hz : ∀ p ∈ nv, p.o = 7 → 0 ≤ p.z) {names : List ByteArray} {tys : List Int} {a k : Nat} {t : Tr} (ht : IsTs nv a (k + 1) [(k : Int)] [t])
  {w : World} (hx : Ext w0 w) {A : Option Addr} {c : Nat} {acc : List Int} (ha : acc.length = a) (ho : Own w0.heap.size 3 1 w A a c (acc.map (.int .i64))) {pl : Addr} (hL : ∀ A' w', Gro w A w' A' → LetsR w' pl names tys) {az ka : Int} (haz : az = (a : Int)) (hka : ka = (k : Int)) :
  GC Tryz.prog 96 [.slice AN N cN', .int .i64 az, .int .i64 ka, .pointer (some pl), .slice A a c] w fun v w' => ∃ (A' : Option Addr) (c' : Nat) (at_ : Int), v = .tuple ⟨[.slice A' (walkL names tys (po t) acc).1.length c', .agg ⟨[.int .i64 (walkL names tys (po t) acc).2, .int .i64 at_]⟩]⟩ ∧ Gro w A w' A' ∧
   Own w0.heap.size 3 1 w' A' (walkL names tys (po t) acc).1.length c' ((walkL names tys (po t) acc).1.map (.int .i64)) ∧ ((walkL names tys (po t) acc).2 ≠ 0 → at_ = ((walkL names tys (po t) acc).1.length : Int)) := by
 refine GC.intro (cs := []) Tryz.func96 (by kernel_rfl) fun E R hE hr hR => ?_
 have hNl := hN.len
 obtain ⟨_, _, _, hkn, _, hpk, _⟩ := ht.one
 have hkn : k = _ := Int.ofNat.inj hkn
 subst hkn
 have hkl := (List.getElem?_eq_some_iff.1 hpk).1
 have hak := (ht.roots k (by simp)).1
 obtain ⟨hpl, hpt⟩ := ht.pos
 rw [show Proofs.YtgnjkdkedjljjaaGreatDoor.pos [t] = po t by simp [Proofs.YtgnjkdkedjljjaaGreatDoor.pos]] at hpl hpt
 obtain ⟨V, hV0⟩ : ∃ V, V = walkL names tys (po t) acc := ⟨_, rfl⟩
 rw [← hV0] at hR
 have hwb := hx.size
 conv => cbv
 refine st_alloc hr tFt rfl fun q11 w1 hx1 hq0 => ?_
 have hq11 := hq0 _ (n1_ _)
 have ap := ho.apart (hq0 _ (n1_ _)) (n1_ _)
 clear hq0
 conv => cbv
 refine loop_rulec [] hr (fun (s : Nat × Int × Option Addr × Nat × List Int) w' => a ≤ s.1 ∧ s.1 ≤ k + 1 ∧ s.2.1 = (s.1 : Int) ∧ Gro w A w' s.2.2.1 ∧ Ext w0 w' ∧ w1.heap.size ≤ w'.heap.size ∧ Own w0.heap.size 3 1 w' s.2.2.1 s.1 s.2.2.2.1 (s.2.2.2.2.map (.int .i64)) ∧ Box w.heap.size 33 2 w' q11 [.int .i64 0, .int .i64 0] ∧ (Apart s.2.2.1 (some q11) ∧ Apart (some q11) s.2.2.1) ∧ walkL names tys ((po t).drop (s.1 - a)) s.2.2.2.2 = V)
  (fun s => [(0, .slice AN N cN'), (2, .int .i64 ka), (3, .pointer (some pl)), (4, .slice s.2.2.1 s.1 s.2.2.2.1), (11, .pointer (some q11)), (12, .int .i64 s.2.1)]) (fun s => k + 1 - s.1) (a, az, A, c, acc)
  (by simp [Fits, lk]) ⟨by simp, by simp only; omega, haz, ⟨hx1.wr _, .inl rfl⟩, hx.trans hx1, n1_ _, ho.bel hx1, hq11, ap, by simp only; rw [Nat.sub_self, List.drop_zero, hV0]⟩ ?_
 clear hV0 hq11 ap
 rintro I hI ⟨j, jj, A', c', acc'⟩ w' ⟨hj1, hj2, hjj, hG, hx', hs1, ho', hq11, hap, hV⟩
 simp only at hj1 hj2 hjj hG ho' hap hV
 obtain ⟨jk, hjk⟩ : ∃ z, z = jj + 1 := ⟨_, rfl⟩
 have hol := ho'.len
 rw [List.length_map, Nat.mul_one] at hol
 have hwb' := hx'.size
 conv => cbv
 refine br (fun g => ?_) (fun g => ?_)
 ·have g : j ≤ k := by
   have : jj ≤ ka := by simpa [hE.cmp, cmpR] using g
   omega
  have ej : E.ar .add .i64 jj 1 = jk := by rw [hE.ar, hjk]; exact wrap_in (by omega) (by omega)
  obtain ⟨u, a', hu, hu2⟩ := hpt (j - a) (by omega)
  rw [show a + (j - a) = j by omega] at hu2
  rw [drop_cons hu, walkL] at hV
  obtain ⟨ty, hty⟩ : ∃ ty, ty = (tyT names tys u).1 := ⟨_, rfl⟩
  obtain ⟨co, hco⟩ : ∃ co, co = (tyT names tys u).2 := ⟨_, rfl⟩
  have hi := l3node_f (cN' := cN') hN hNb hz j a' _ u hu2 w' pl hx' (hL _ _ hG)
  rw [← hty, ← hco] at hV hi
  rw [← hjj] at hi
  conv => cbv
  refine st_f hr hi fun v w5 hx5 ev => ?_
  subst ev
  conv => cbv
  refine br (fun g5 => ?_) (fun g5 => ?_)
  ·have g5 : co ≠ 0 := by simpa [hE.cmp, cmpR] using g5
   rw [if_pos g5] at hV
   conv => cbv
   refine st_bFt hE ?_
   conv => cbv
   refine st_putS hr (by kernel_rfl) (hq11.bel hx5) (add_zero _).symm (by simp) (by simp [Value.oneCell']) fun w6 hw6 hq6 => ?_
   simp only [a1_, a2_, a3_, a4_, a5_, a6_, a7_] at hq6
   conv => cbv
   refine st_cell hr tFt rfl hq6.at ?_
   rw [hR, ← hV]
   refine ⟨A', c', jj, by simp only; rw [hol]; rfl, ?_, ?_, fun _ => by simp only; omega⟩
   ·have hG5 := hG.trans ⟨hx5.wr _, .inl rfl⟩
    refine ⟨?_, hG5.at_⟩
    exact wr_new hG5.wr hw6 (hq11.bel hx5)
   ·simp only
    rw [hol]
    exact (ho'.bel hx5).wr hw6 hap.1
  ·have g5 : co = 0 := by simpa [hE.cmp, cmpR] using g5
   rw [if_neg (by simpa using g5)] at hV
   conv => cbv
   refine st_one hr tInts rfl rfl fun A1' w6 hx6 hc6 => ?_
   conv => cbv
   refine st_appsG hr tInts rfl ((ho'.bel hx5).bel hx6) hc6 rfl (by simp [Value.oneCell']) (n2_ hwb' (n2_ hx5.size hx6.size)) (by omega) (by omega) fun A2 c2 m2 w7 hm2 hw7 ho2 hk2 => ?_
   subst hm2
   have h7 := hw7.bel ((ho'.bel hx5).bel hx6) (n2_ hwb' (n2_ hx5.size hx6.size))
   have hg2 : Gro w' A' w7 A2 := Gro.app (hx5.trans hx6) hw7 hk2
   conv => cbv
   simp only [ej]
   refine ⟨(j + 1, jk, A2, c2, acc' ++ [ty]), by simp [Fits, lk], hI _ _ ⟨by simp only; omega, by simp only; omega, by simp only; omega, hG.trans hg2, (hx'.trans (hx5.trans hx6)).then h7, n2_ hs1 (n2_ hx5.size (n2_ hx6.size hw7.size)), ?_, ((hq11.bel hx5).bel hx6).wr hw7 hap.2, hg2.apart hq11 hap, ?_⟩, by simp only; omega⟩
   ·simp only; rw [List.map_append]; exact ho2
   ·simp only; rw [show j + 1 - a = j - a + 1 by omega]; exact hV
 ·have g : j = k + 1 := by
   have : ¬ jj ≤ ka := by simpa [hE.cmp, cmpR] using g
   omega
  rw [List.drop_eq_nil_of_le (by omega), walkL] at hV
  conv => cbv
  refine st_bFt0 hE ?_
  conv => cbv
  refine st_putS hr (by kernel_rfl) hq11 (add_zero _).symm (by simp) (by simp [Value.oneCell']) fun w6 hw6 hq6 => ?_
  simp only [a1_, a2_, a3_, a4_, a5_, a6_, a7_] at hq6
  conv => cbv
  refine st_cell hr tFt rfl hq6.at ?_
  rw [hR, ← hV]
  refine ⟨A', c', 0, by simp only; rw [hol]; rfl, ⟨?_, hG.at_⟩, ?_, fun q => absurd rfl q⟩
  ·exact wr_new hG.wr hw6 hq11
  ·simp only
   rw [hol]
   exact ho'.wr hw6 hap.1
theorem own_raise {B B' : Nat} {e : TypeId} {k : Nat} {w : World} {A : Option Addr} {m c : Nat} {xs : List Value} (h : Own B e k w A m c xs) (hb : ∀ g, blk A = some g → B' ≤ g) : Own B' e k w A m c xs := by
 refine ⟨h.1, ?_⟩
 rcases h.2 with h1 | ⟨g, cap, cur, h1, h2, h3⟩
 ·exact .inl h1
 ·refine .inr ⟨g, cap, cur, h1, ?_, h3⟩
  simp only [Value.slice.injEq] at h1
  exact hb g (by rw [h1.1]; rfl)
theorem gro_own {B ws : Nat} {e : TypeId} {k : Nat} {w w' : World} {A A' : Option Addr} {m c m' c' : Nat} {xs xs' : List Value} (h : Own ws e k w A m c xs) (hg : Gro w A w' A') (h' : Own B e k w' A' m' c' xs') (hw : ws ≤ w.heap.size) : Own ws e k w' A' m' c' xs' :=
 own_raise h' fun g hgb => by
  rcases hg.at_ with e1 | ⟨b, e1, e2⟩
  ·rw [e1] at hgb
   obtain rfl | ⟨g', rfl, h1, _⟩ := h.blk
   ·simp [Eng.blk, Value.ownBlock] at hgb
   ·simp [Eng.blk, Value.ownBlock] at hgb; omega
  ·rw [e1] at hgb; cases hgb; omega
theorem gro_apart {B B' B2 : Nat} {e e' : TypeId} {k k' : Nat} {w w' : World} {A C X : Option Addr} {m c m2 c2 mx cx : Nat} {xs ys zs : List Value} (hX : Own B' e' k' w X mx cx zs) (ha : Apart A X ∧ Apart X A) (hg : Gro w A w' C) (hC : Own B2 e k w' C m2 c2 ys) : Apart C X ∧ Apart X C := by
 obtain rfl | ⟨gc, rfl, _, _⟩ := hC.blk
 ·refine ⟨.inl rfl, ?_⟩
  obtain rfl | ⟨gx, rfl, _, _⟩ := hX.blk
  ·exact .inl rfl
  ·exact .inr (by simp [Eng.blk, Value.ownBlock])
 ·obtain rfl | ⟨gx, rfl, _, hx2⟩ := hX.blk
  ·exact ⟨.inr (by simp [Eng.blk, Value.ownBlock]), .inl rfl⟩
  ·have : gc ≠ gx := by
    rcases hg.at_ with e1 | ⟨b, e1, e2⟩
    ·rcases ha.2 with h | h
     ·cases h
     ·rw [← e1] at h
      intro q; apply h; rw [q]
    ·simp [Eng.blk, Value.ownBlock] at e1; omega
   exact ⟨.inr (by simp [Eng.blk, Value.ownBlock]; exact this), .inr (by simp [Eng.blk, Value.ownBlock]; exact Ne.symm this)⟩
theorem own_blk {B : Nat} {e : TypeId} {k : Nat} {w : World} {A : Option Addr} {m c : Nat} {xs : List Value} (h : Own B e k w A m c xs) : ∀ g, blk A = some g → B ≤ g ∧ g < w.heap.size := fun g hg => by
 obtain rfl | ⟨g', rfl, h1, h2⟩ := h.blk
 ·simp [Eng.blk, Value.ownBlock] at hg
 ·simp [Eng.blk, Value.ownBlock] at hg; omega
structure LB (w0s ws : Nat) (pl q9 q6 : Addr) : Prop where
 p : w0s ≤ pl.block ∧ pl.block < ws
 f : w0s ≤ q9.block ∧ q9.block < ws
 r : w0s ≤ q6.block ∧ q6.block < ws
 ep : blk (some pl) = some pl.block
 ef : blk (some q9) = some q9.block
 er : blk (some q6) = some q6.block
 pf : pl.block ≠ q9.block
 pr : pl.block ≠ q6.block
 fr : q9.block ≠ q6.block
structure LC (w0s ws : Nat) (w : World) (pl q9 q6 : Addr) (bx fx : List Value) (x : CK) (A NA TA : Option Addr) (c nc tc : Nat) : Prop where
 box : Box w0s 165 2 w pl bx
 flt : Box w0s 33 2 w q9 fx
 res : Box w0s 33 2 w q6 [.int .i64 0, .int .i64 0]
 rA : Own ws 3 1 w A x.acc.length c (x.acc.map (.int .i64))
 rN : Own ws 9 1 w NA x.names.length nc (x.names.map .string)
 rT : Own ws 3 1 w TA x.tys.length tc (x.tys.map (.int .i64))
 aAN : Apart A NA ∧ Apart NA A
 aAT : Apart A TA ∧ Apart TA A
 aNT : Apart NA TA ∧ Apart TA NA
section
variable {w0s ws : Nat} {w w' : World} {pl q9 q6 : Addr} {bx fx : List Value} {x : CK} {A NA TA : Option Addr} {c nc tc : Nat}
theorem LC.ext (h : LC w0s ws w pl q9 q6 bx fx x A NA TA c nc tc) (hx : Ext w w') : LC w0s ws w' pl q9 q6 bx fx x A NA TA c nc tc :=
 ⟨h.box.bel hx, h.flt.bel hx, h.res.bel hx, h.rA.bel hx, h.rN.bel hx, h.rT.bel hx, h.aAN, h.aAT, h.aNT⟩
theorem LC.growA (hb : LB w0s ws pl q9 q6) (h : LC w0s ws w pl q9 q6 bx fx x A NA TA c nc tc) (hs : ws ≤ w.heap.size) {A' : Option Addr} {c' : Nat} {acc' : List Int} (hg : Gro w A w' A') (ho : Own w0s 3 1 w' A' acc'.length c' (acc'.map (.int .i64))) :
  LC w0s ws w' pl q9 q6 bx fx { x with acc := acc' } A' NA TA c' nc tc :=
 ⟨h.box.wr hg.wr (own_low h.rA hb.p.2 hb.ep).2, h.flt.wr hg.wr (own_low h.rA hb.f.2 hb.ef).2, h.res.wr hg.wr (own_low h.rA hb.r.2 hb.er).2, gro_own h.rA hg ho hs, h.rN.wr hg.wr h.aAN.2, h.rT.wr hg.wr h.aAT.2, gro_apart (B := w0s) (m := 0) (c := 0) (xs := []) h.rN h.aAN hg ho, gro_apart (B := w0s) (m := 0) (c := 0) (xs := []) h.rT h.aAT hg ho, h.aNT⟩
theorem LC.growN (hb : LB w0s ws pl q9 q6) (h : LC w0s ws w pl q9 q6 bx fx x A NA TA c nc tc) (hs : ws ≤ w.heap.size) {N' : Option Addr} {c' : Nat} {names' : List ByteArray} (hg : Gro w NA w' N') (ho : Own w0s 9 1 w' N' names'.length c' (names'.map .string)) :
  LC w0s ws w' pl q9 q6 bx fx { x with names := names' } A N' TA c c' tc :=
 ⟨h.box.wr hg.wr (own_low h.rN hb.p.2 hb.ep).2, h.flt.wr hg.wr (own_low h.rN hb.f.2 hb.ef).2, h.res.wr hg.wr (own_low h.rN hb.r.2 hb.er).2, h.rA.wr hg.wr h.aAN.1, gro_own h.rN hg ho hs, h.rT.wr hg.wr h.aNT.2, (gro_apart (B := w0s) (m := 0) (c := 0) (xs := []) h.rA h.aAN.symm hg ho).symm, h.aAT, gro_apart (B := w0s) (m := 0) (c := 0) (xs := []) h.rT h.aNT hg ho⟩
theorem LC.growT (hb : LB w0s ws pl q9 q6) (h : LC w0s ws w pl q9 q6 bx fx x A NA TA c nc tc) (hs : ws ≤ w.heap.size) {T' : Option Addr} {c' : Nat} {tys' : List Int} (hg : Gro w TA w' T') (ho : Own w0s 3 1 w' T' tys'.length c' (tys'.map (.int .i64))) :
  LC w0s ws w' pl q9 q6 bx fx { x with tys := tys' } A NA T' c nc c' :=
 ⟨h.box.wr hg.wr (own_low h.rT hb.p.2 hb.ep).2, h.flt.wr hg.wr (own_low h.rT hb.f.2 hb.ef).2, h.res.wr hg.wr (own_low h.rT hb.r.2 hb.er).2, h.rA.wr hg.wr h.aAT.1, h.rN.wr hg.wr h.aNT.1, gro_own h.rT hg ho hs, h.aAN, (gro_apart (B := w0s) (m := 0) (c := 0) (xs := []) h.rA h.aAT.symm hg ho).symm, (gro_apart (B := w0s) (m := 0) (c := 0) (xs := []) h.rN h.aNT.symm hg ho).symm⟩
theorem LC.putB (hb : LB w0s ws pl q9 q6) (h : LC w0s ws w pl q9 q6 bx fx x A NA TA c nc tc) {bx' : List Value} (hw : Wr (some pl) w w') (ho : Box w0s 165 2 w' pl bx') : LC w0s ws w' pl q9 q6 bx' fx x A NA TA c nc tc :=
 ⟨ho, h.flt.wr hw (bx_apart hb.ef hb.ep hb.pf.symm), h.res.wr hw (bx_apart hb.er hb.ep hb.pr.symm), h.rA.wr hw (own_low h.rA hb.p.2 hb.ep).1, h.rN.wr hw (own_low h.rN hb.p.2 hb.ep).1, h.rT.wr hw (own_low h.rT hb.p.2 hb.ep).1, h.aAN, h.aAT, h.aNT⟩
theorem LC.putF (hb : LB w0s ws pl q9 q6) (h : LC w0s ws w pl q9 q6 bx fx x A NA TA c nc tc) {fx' : List Value} (hw : Wr (some q9) w w') (ho : Box w0s 33 2 w' q9 fx') : LC w0s ws w' pl q9 q6 bx fx' x A NA TA c nc tc :=
 ⟨h.box.wr hw (bx_apart hb.ep hb.ef hb.pf), ho, h.res.wr hw (bx_apart hb.er hb.ef hb.fr.symm), h.rA.wr hw (own_low h.rA hb.f.2 hb.ef).1, h.rN.wr hw (own_low h.rN hb.f.2 hb.ef).1, h.rT.wr hw (own_low h.rT hb.f.2 hb.ef).1, h.aAN, h.aAT, h.aNT⟩
structure XK (x : CK) : Prop where
 eq : x.names.length = x.tys.length
 le : x.tys.length ≤ 600
 nz : ∀ y ∈ x.tys, y ≠ 0
 ss : ∀ s ∈ x.names, s.size ≤ 9223372036854775807
theorem LC.lets (h : LC w0s ws w pl q9 q6 bx fx x A NA TA c nc tc) (hX : XK x) (hbx : bx = [.slice NA x.names.length nc, .slice TA x.tys.length tc]) : LetsR w pl x.names x.tys :=
 ⟨⟨NA, x.names.length, nc, TA, x.tys.length, tc, h.box.at 0 _ (by rw [hbx]; rfl), h.box.at 1 _ (by rw [hbx]; rfl), Own.strs h.rN hX.ss, Own.ints h.rT⟩, hX.eq, hX.le, hX.nz⟩
theorem LC.letsG (hb : LB w0s ws pl q9 q6) (h : LC w0s ws w pl q9 q6 bx fx x A NA TA c nc tc) (hX : XK x) (hbx : bx = [.slice NA x.names.length nc, .slice TA x.tys.length tc]) : ∀ A' w', Gro w A w' A' → LetsR w' pl x.names x.tys := fun A' w' hg => by
 have h1 := h.box.wr hg.wr (own_low h.rA hb.p.2 hb.ep).2
 exact ⟨⟨NA, x.names.length, nc, TA, x.tys.length, tc, h1.at 0 _ (by rw [hbx]; rfl), h1.at 1 _ (by rw [hbx]; rfl), Own.strs (h.rN.wr hg.wr h.aAN.2) hX.ss, Own.ints (h.rT.wr hg.wr h.aAT.2)⟩, hX.eq, hX.le, hX.nz⟩
end
end Go.Proofs.YtgnjkdkedjljjaaGreatDoor
namespace Go.Eng
set_option linter.unusedVariables false
set_option linter.unusedSimpArgs false
def wpAnyU (P : Program) (md : Region.Mode) (ops : Array Oper) (Q : Exit → Act → World → Prop) (S : World → Prop) (l : List Nat) : Nat → Array Bool → Act → World → Prop
 | 0, listed, a, w => Region.ready md ops listed = [] ∧ Q .normal a w
 | fuel + 1, listed, a, w => (Region.ready md ops listed = [] → Q .normal a w) ∧
  ∀ i ∈ Region.ready md ops listed, wpOp P ops Q i (fun a' w' => (needS md ops l i = true → S w → S w') ∧ wpAnyU P md ops Q S l fuel (listed.setIfInBounds i true) a' w') a w
section
variable {P : Program} {ops : Array Oper} {Q : Exit → Act → World → Prop} {md : Region.Mode} {S : World → Prop} {l : List Nat}
theorem wpAny_of_U : ∀ (fuel : Nat) (listed : Array Bool) (a : Act) (w : World), wpAnyU P md ops Q S l fuel listed a w → wpAny P md ops Q fuel listed a w
 | 0, _, _, _, h => h
 | fuel + 1, _, _, _, h => ⟨h.1, fun i hi => wpOp_mono (fun a' w' h' => wpAny_of_U fuel _ a' w' h'.2) (h.2 i hi)⟩
theorem wpAnyU_first {i : Nat} {oi : Oper} {v : Value} (hi : ops[i]? = some oi) (hil : i ∈ l) (hsel : ∀ (j : Nat) (o : Oper) cs b, ops[j]? = some o → o.op ≠ .select cs b)
  (hQ : ∀ c a w, Q (.panic c) (a.put oi.dst v) w → Q (.panic c) a w) : ∀ (fuel : Nat) (listed : Array Bool) (a : Act) (w : World),
   (∀ j oj, ops[j]? = some oj → j ≠ i → listed.getD j true = false → (∀ e ∈ oj.after, Region.binds md e = true → e.on ≠ i) → oi.apart ops oj = true) →
   i ∈ Region.ready md ops listed → Closed md ops listed → YieldsIf P ops S oi v a → S w →
   wpAnyU P md ops Q S l fuel (listed.setIfInBounds i true) (a.put oi.dst v) w → wpAnyU P md ops Q S l (fuel + 1) listed a w := by
 intro fuel
 induction fuel with
 | zero =>
  intro listed a w _ hr hcl hy hS H
  refine ⟨fun h => (by rw [h] at hr; cases hr), fun j hj => ?_⟩
  by_cases hji : j = i
  ·subst hji; exact hy.wpOp hi hS ⟨fun _ _ => hS, H⟩
  ·have h0 := ready_mono hj hji
   rw [H.1] at h0
   cases h0
 | succ fuel ih =>
  intro listed a w hfree hr hcl hy hS H
  refine ⟨fun h => (by rw [h] at hr; cases hr), fun j hj => ?_⟩
  by_cases hji : j = i
  ·subst hji; exact hy.wpOp hi hS ⟨fun _ _ => hS, H⟩
  ·have h1 := H.2 j (ready_mono hj hji)
   obtain ⟨hjun, oj, hoj, hall⟩ := mem_ready.1 hj
   have hnot : ∀ e ∈ oj.after, Region.binds md e = true → e.on ≠ i := fun e he hb heq => by
    have a1 := hall e he hb
    have a0 := (mem_ready.1 hr).1
    rw [heq] at a1
    rcases Nat.lt_or_ge i listed.size with h' | h'
    ·simp [h'] at a0 a1; rw [a0] at a1; cases a1
    ·simp [Array.getElem?_eq_none h'] at a1
   have hneed : needS md ops l j = true := by
    unfold needS
    rw [List.any_eq_true]
    refine ⟨i, hil, ?_⟩
    rw [Bool.not_eq_true']
    refine Bool.eq_false_iff.2 fun hre => ?_
    have hi1 := reach_listed hcl (i := i) ops.size j (fun o ho => by rw [hoj] at ho; cases ho; exact hall) hre
    have hi0 := (mem_ready.1 hr).1
    rcases Nat.lt_or_ge i listed.size with h' | h'
    ·simp [h'] at hi0 hi1; rw [hi0] at hi1; cases hi1
    ·simp [Array.getElem?_eq_none h'] at hi1
   have hcl' : Closed md ops (listed.setIfInBounds j true) := fun k o ho hk e he hb => by
    have key : listed.getD e.on false = true := by
     by_cases hkj : j = k
     ·subst hkj; rw [hoj] at ho; cases ho; exact hall e he hb
     ·rw [getD_set_ne false hkj] at hk; exact hcl k o ho hk e he hb
    by_cases hje : j = e.on
    ·subst hje
     rcases Nat.lt_or_ge e.on listed.size with h' | h'
     ·simp [h']
     ·simp [Array.getElem?_eq_none h'] at key
    ·rw [getD_set_ne false hje]; exact key
   have h2 := wpOp_putIf hoj (hfree j oj hoj hji hjun hnot) (fun cs b => hsel i oi cs b hi) (fun cs b => hsel j oj cs b hoj) hQ hy h1
   have hfree' : ∀ k ok, ops[k]? = some ok → k ≠ i → (listed.setIfInBounds j true).getD k true = false →
     (∀ e ∈ ok.after, Region.binds md e = true → e.on ≠ i) → oi.apart ops ok = true := fun k ok hk hki hun hno => by
    refine hfree k ok hk hki ?_ hno
    by_cases hjk : j = k
    ·subst hjk; exact hjun
    ·rw [getD_set_ne true hjk] at hun; exact hun
   refine wpOp_mono (fun a' w' h3 => ⟨fun _ => h3.2.1 hneed, ih (listed.setIfInBounds j true) a' w' hfree' (ready_mono hr (Ne.symm hji)) hcl' h3.1 (h3.2.1 hneed hS) ?_⟩) h2
   rw [Array.setIfInBounds_comm _ _ hji]
   exact h3.2.2
theorem wpAnyU_take {i : Nat} {oi : Oper} {v : Value} {fuel : Nat} {listed : Array Bool} {a : Act} {w : World} (hi : ops[i]? = some oi) (hil : i ∈ l)
  (hs : Region.noSelect ops = true) (hf : Region.free md ops listed i = true) (hr : (Region.ready md ops listed).contains i = true) (hcl : Closed md ops listed)
  (hQ : ∀ c a w, Q (.panic c) (a.put oi.dst v) w → Q (.panic c) a w) (hy : YieldsIf P ops S oi v a) (hS : S w)
  (h : wpAnyU P md ops Q S l fuel (listed.setIfInBounds i true) (a.put oi.dst v) w) : wpAnyU P md ops Q S l (fuel + 1) listed a w :=
 wpAnyU_first hi hil (Region.noSelect_spec hs) hQ fuel listed a w (Region.free_spec hi hf) (by simpa using hr) hcl hy hS h
theorem wpAnyU_firstP {i : Nat} {oi : Oper} {v : Value} (hi : ops[i]? = some oi) (hsel : ∀ (j : Nat) (o : Oper) cs b, ops[j]? = some o → o.op ≠ .select cs b)
  (hQ : ∀ c a w, Q (.panic c) (a.put oi.dst v) w → Q (.panic c) a w) : ∀ (fuel : Nat) (listed : Array Bool) (a : Act) (w : World),
   (∀ j oj, ops[j]? = some oj → j ≠ i → listed.getD j true = false → (∀ e ∈ oj.after, Region.binds md e = true → e.on ≠ i) → oi.apart ops oj = true) →
   i ∈ Region.ready md ops listed → YieldsIf P ops (fun _ => True) oi v a →
   wpAnyU P md ops Q S l fuel (listed.setIfInBounds i true) (a.put oi.dst v) w → wpAnyU P md ops Q S l (fuel + 1) listed a w := by
 intro fuel
 induction fuel with
 | zero =>
  intro listed a w _ hr hy H
  refine ⟨fun h => (by rw [h] at hr; cases hr), fun j hj => ?_⟩
  by_cases hji : j = i
  ·subst hji; exact hy.wpOp hi trivial ⟨fun _ h => h, H⟩
  ·have h0 := ready_mono hj hji
   rw [H.1] at h0
   cases h0
 | succ fuel ih =>
  intro listed a w hfree hr hy H
  refine ⟨fun h => (by rw [h] at hr; cases hr), fun j hj => ?_⟩
  by_cases hji : j = i
  ·subst hji; exact hy.wpOp hi trivial ⟨fun _ h => h, H⟩
  ·have h1 := H.2 j (ready_mono hj hji)
   obtain ⟨hjun, oj, hoj, hall⟩ := mem_ready.1 hj
   have hnot : ∀ e ∈ oj.after, Region.binds md e = true → e.on ≠ i := fun e he hb heq => by
    have a1 := hall e he hb
    have a0 := (mem_ready.1 hr).1
    rw [heq] at a1
    rcases Nat.lt_or_ge i listed.size with h' | h'
    ·simp [h'] at a0 a1; rw [a0] at a1; cases a1
    ·simp [Array.getElem?_eq_none h'] at a1
   have h2 := wpOp_putIf hoj (hfree j oj hoj hji hjun hnot) (fun cs b => hsel i oi cs b hi) (fun cs b => hsel j oj cs b hoj) hQ hy h1
   have hfree' : ∀ k ok, ops[k]? = some ok → k ≠ i → (listed.setIfInBounds j true).getD k true = false →
     (∀ e ∈ ok.after, Region.binds md e = true → e.on ≠ i) → oi.apart ops ok = true := fun k ok hk hki hun hno => by
    refine hfree k ok hk hki ?_ hno
    by_cases hjk : j = k
    ·subst hjk; exact hjun
    ·rw [getD_set_ne true hjk] at hun; exact hun
   refine wpOp_mono (fun a' w' h3 => ⟨h3.2.1, ih (listed.setIfInBounds j true) a' w' hfree' (ready_mono hr (Ne.symm hji)) h3.1 ?_⟩) h2
   rw [Array.setIfInBounds_comm _ _ hji]
   exact h3.2.2
theorem wpAnyU_takeP {i : Nat} {oi : Oper} {v : Value} {fuel : Nat} {listed : Array Bool} {a : Act} {w : World} (hi : ops[i]? = some oi)
  (hs : Region.noSelect ops = true) (hf : Region.free md ops listed i = true) (hr : (Region.ready md ops listed).contains i = true)
  (hQ : ∀ c a w, Q (.panic c) (a.put oi.dst v) w → Q (.panic c) a w) (hy : YieldsIf P ops (fun _ => True) oi v a)
  (h : wpAnyU P md ops Q S l fuel (listed.setIfInBounds i true) (a.put oi.dst v) w) : wpAnyU P md ops Q S l (fuel + 1) listed a w :=
 wpAnyU_firstP hi (Region.noSelect_spec hs) hQ fuel listed a w (Region.free_spec hi hf) (by simpa using hr) hy h
theorem eOp_calm {E E' : Sym} {o : Oper} {x : Operand} (ho : o.op = .move x) {F : Fr} {w : World} {K : Value → World → Prop} (h : eOp E o F w K) : eOp E' o F w K := by
 unfold eOp at h ⊢
 rw [ho] at h ⊢
 simp only [pure1] at h ⊢
 cases hx : ev F x with
 | some v => rw [hx] at h; exact h
 | none => rw [hx] at h; simp [opnds, evs, hx] at h
theorem eOps_calm {E E' : Sym} {all : List Oper} {o : Oper} {x : Operand} (ho : o.op = .move x) {F : Fr} {w : World} {K : Fr → World → Prop} (h : eOps E all [o] F w K) : eOps E' all [o] F w K := by
 simp only [eOps] at h ⊢
 cases hg : o.guard with
 | none => rw [hg] at h; exact eOp_calm ho h
 | some jw =>
  obtain ⟨j, want⟩ := jw
  rw [hg] at h
  simp only at h ⊢
  cases hd : dstOf all j with
  | none => rw [hd] at h; exact h
  | some s =>
   rw [hd] at h
   simp only at h ⊢
   cases hl : lk F s with
   | none => rw [hl] at h; exact h
   | some v =>
    rw [hl] at h
    cases v with
    | bool b =>
     cases b <;> cases want <;> simp only [Bool.false_eq_true, if_false, if_true] at h ⊢ <;> first | exact h | exact eOp_calm ho h
    | _ => exact h
theorem wpAnyU_done {listed : Array Bool} {a : Act} {w : World} (hr : Region.ready md ops listed = []) (h : Q .normal a w) : ∀ fuel, wpAnyU P md ops Q S l fuel listed a w
 | 0 => ⟨hr, h⟩
 | _ + 1 => ⟨fun _ => h, by rw [hr]; simp⟩
end
def calmAt (ops : Array Oper) (i : Nat) : Bool := match ops[i]? with
 | some o => match o.op with
  | .move _ => true
  | _ => false
 | none => false
def planU1 (ops : Array Oper) (l0 : List Nat) : List Nat → List (Nat × Bool) → Array Bool → Bool
 | [], l2, listed => planT2 ops l0 l2 listed
 | k :: l, l2, listed => (l0.contains k || calmAt ops k) && Region.free .any ops listed k && (Region.ready .any ops listed).contains k && planU1 ops l0 l l2 (listed.setIfInBounds k true)
def planU (ops : Array Oper) (l0 l1 : List Nat) (l2 : List (Nat × Bool)) : Bool :=
 Region.noSelect ops && Nat.beq (l1.length + l2.length) ops.size && planU1 ops l0 l1 l2 (Array.replicate ops.size false)
section
variable {P : Program} {Pn : List PanicEntry → World → Prop} {n : Nat}
theorem ePh2U_sound {S : World → Prop} {all : List Oper} {l0 : List Nat} (hd : ∀ o ∈ all, ∀ t, o.dst = some t → t < n) {K : Exit → Fr → World → Prop} : ∀ (l : List (Nat × Bool)) (listed : Array Bool) (F : Fr) (a : Act) (w : World), Kn n F a → planT2 all.toArray l0 l listed = true → ePh2T (real P Pn n) S all l F w (K .normal) → wpAnyU P .any all.toArray (QK Pn n K) S l0 l.length listed a w
 | [], listed, F, a, w, hk, hB, h => by
  have hr : Region.ready .any all.toArray listed = [] := by simpa [planT2] using hB
  exact wpAnyU_done hr ⟨F, hk, h⟩ _
 | (k, true) :: l, listed, F, a, w, hk, hB, h => by
  simp only [planT2, Bool.and_eq_true] at hB
  obtain ⟨⟨hr, _⟩, hB⟩ := hB
  have hr : Region.ready .any all.toArray listed = [k] := by simpa using hr
  simp only [ePh2T] at h
  split at h
  ·exact h.elim
  ·rename_i o ho
   refine ⟨fun q => (by rw [hr] at q; cases q), fun i hi => ?_⟩
   obtain rfl : i = k := by rw [hr] at hi; simpa using hi
   exact step_op (Pn := Pn) ho (hd o (m1_ ho)) hk (fun c w h => ⟨hk.defers, h⟩) (fun F' a' w' hk' ⟨h1, h2⟩ => ⟨fun _ _ => h1, ePh2U_sound hd l _ F' a' w' hk' hB h2⟩) h
 | (k, false) :: l, listed, F, a, w, hk, hB, h => by
  simp only [planT2, Bool.and_eq_true, Bool.false_or, Bool.not_eq_true'] at hB
  obtain ⟨⟨hr, hn⟩, hB⟩ := hB
  have hr : Region.ready .any all.toArray listed = [k] := by simpa using hr
  simp only [ePh2T] at h
  split at h
  ·exact h.elim
  ·rename_i o ho
   refine ⟨fun q => (by rw [hr] at q; cases q), fun i hi => ?_⟩
   obtain rfl : i = k := by rw [hr] at hi; simpa using hi
   exact step_op (Pn := Pn) ho (hd o (m1_ ho)) hk (fun c w h => ⟨hk.defers, h⟩) (fun F' a' w' hk' h2 => ⟨fun q => (by rw [hn] at q; cases q), ePh2U_sound hd l _ F' a' w' hk' hB h2⟩) h
theorem ePh1U_sound {S : World → Prop} {w : World} (hSE : ∀ w1, S w1 → Ext w w1) {all : List Oper} {l0 : List Nat} (hs : Region.noSelect all.toArray = true) (hd : ∀ o ∈ all, ∀ t, o.dst = some t → t < n) {K : Exit → Fr → World → Prop} {w0 : World} (hS : S w0) (l2 : List (Nat × Bool)) (K1 : Fr → World → Prop) : ∀ (l : List Nat) (listed : Array Bool) (F : Fr) (a : Act), Kn n F a → Closed .any all.toArray listed → planU1 all.toArray l0 l l2 listed = true → ePh1 (hreal P) all l F w K1 →
  (∀ F a listed, Kn n F a → planT2 all.toArray l0 l2 listed = true → K1 F w → wpAnyU P .any all.toArray (QK Pn n K) S l0 l2.length listed a w0) → wpAnyU P .any all.toArray (QK Pn n K) S l0 (l.length + l2.length) listed a w0
 | [], listed, F, a, hk, hcl, hB, h, h2 => by simpa using h2 F a listed hk hB h
 | k :: l, listed, F, a, hk, hcl, hB, h, h2 => by
  simp only [planU1, Bool.and_eq_true] at hB
  obtain ⟨⟨⟨hl, hf⟩, hr⟩, hB⟩ := hB
  simp only [ePh1] at h
  split at h
  ·exact h.elim
  ·rename_i o ho
   by_cases hl0 : l0.contains k = true
   ·obtain ⟨v, F', hy, hk', h⟩ := step_yields (P := P) (n := n) (S := S) (E' := hreal P) (fun _ _ => rfl) (fun _ _ _ ⟨v, h1, h2⟩ => ⟨v, fun w1 hw1 => h1 w1 (hSE w1 hw1), h2⟩) (hd o (m1_ ho)) hk h
    have := wpAnyU_take (l := l0) (by simpa using ho) (by simpa using hl0) hs hf hr hcl panic_put hy hS (ePh1U_sound hSE hs hd hS l2 K1 l _ F' _ hk' (closed_set hcl hr) hB h h2)
    simpa [Nat.add_right_comm] using this
   ·have hc : calmAt all.toArray k = true := by
     rcases Bool.or_eq_true_iff.1 hl with q | q
     ·exact absurd q hl0
     ·exact q
    obtain ⟨x, hx⟩ : ∃ x, o.op = .move x := by
     unfold calmAt at hc
     rw [show all.toArray[k]? = some o by simpa using ho] at hc
     simp only at hc
     split at hc
     ·rename_i x hx; exact ⟨x, hx⟩
     ·cases hc
    obtain ⟨v, F', hy, hk', h⟩ := step_yields (P := P) (n := n) (S := fun _ => True) (E' := (hreal P).dull) (fun _ _ => rfl) (fun _ _ _ h => h.elim) (hd o (m1_ ho)) hk (eOps_calm hx h)
    have := wpAnyU_takeP (S := S) (l := l0) (by simpa using ho) hs hf hr panic_put hy (ePh1U_sound hSE hs hd hS l2 K1 l _ F' _ hk' (closed_set hcl hr) hB h h2)
    simpa [Nat.add_right_comm] using this
theorem draw_u (l0 l1 : List Nat) (l2 : List (Nat × Bool)) {E : Sym} (hE : E = real P Pn n) {id : Nat} {ops : Array Oper} {F : Fr} {w : World} {K : Exit → Fr → World → Prop} (hm : P.follows .mixedOrders = true) (hB : planU ops l0 l1 l2 = true)
  (h : ∀ E', EngB false P E' → ∀ w0, Same w w0 → ∀ S : World → Prop, (∀ w', Ext w0 w' → S w') → ePh1 E' ops.toList l1 F w0 (fun F' w' => ePh2T E S ops.toList l2 F' w' (K .normal))) : E.draw id ops F w K := by
 subst hE
 intro hd a hk
 simp only [planU, Bool.and_eq_true, Nat.beq_eq] at hB
 obtain ⟨⟨hs, hl⟩, hB⟩ := hB
 have hs' : Region.noSelect ops.toList.toArray = true := by simpa using hs
 have := ePh1U_sound (Pn := Pn) (K := K) (n := n) (l0 := l0) (S := Ext { w with drawn := w.drawn + 1 }) (w := { w with drawn := w.drawn + 1 }) (fun _ h => h) hs' (okDst_ops hd) (Ext.refl _) l2 _ l1 (Array.replicate ops.size false) F a hk (fun k o _ h => by simp only [Array.getD_eq_getD_getElem?, Array.getElem?_replicate] at h; split at h <;> simp at h) (by simpa using hB) (h (hreal P) (Eng.h P) _ (Same.drew w) _ (fun _ h => h))
  (fun F a listed hk hB h => ePh2U_sound (okDst_ops hd) l2 listed F a _ hk hB h)
 rw [hl] at this
 exact wp_region_any hm (wpAny_of_U _ _ _ _ (by simpa using this))
end
end Go.Eng
namespace Go.Proofs.YtgnjkdkedjljjaaGreatDoor
open Go.Eng
set_option linter.unusedVariables false
set_option linter.unusedSimpArgs false
theorem zInts2 : (Tryz.prog.info? 29).map (·.size) = some 1 := by kernel_rfl
section
variable {E : Sym} {w : World} {K : Value → World → Prop} {d : Option Tmp} {ty : TypeId} {pos : String} {aft : Array Edge} {g : Option (Nat × Bool)} {bq : Bool}
theorem run_bLs (w : World) : (Instr.build 165 #[]).run Tryz.prog w = .ok (.agg #[.slice none 0 0, .slice none 0 0]) w := by kernel_rfl
theorem st_bLs (hE : EngB bq Tryz.prog E) (hk : K (.agg ⟨[.slice none 0 0, .slice none 0 0]⟩) w) : E.stop ⟨d, .build 165 ⟨[]⟩, ty, pos, aft, g⟩ [] w K := by
 refine hE.det (v := .agg ⟨[.slice none 0 0, .slice none 0 0]⟩) (fun w1 _ ρ hρ => ?_) hk
 have := run_bLs w1
 simp [execOp, this]
end
def Match (sv : List PS) (pts : List PT) : Prop := pts.length = sv.length ∧ ∀ (j : Nat) (s : PS) (p : PT), sv[j]? = some s → pts[j]? = some p → (p.c.isSome = true ↔ 0 ≤ s.c) ∧ (p.g.isSome = true ↔ 0 ≤ s.g)
theorem resN_iff {names : List ByteArray} {tx : ByteArray} : (resN names tx).isSome = true ↔ 0 ≤ posI attrs tx ∨ 0 ≤ posI names tx := by
 rw [posI_ge, posI_ge]
 unfold resN
 cases posF attrs tx with
 | some i => simp
 | none => cases posF names tx <;> simp
theorem l3check_f {w : World} {AN A2 : Option Addr} {N cN' n2 c2 : Nat} {nv : List PN} {sv : List PS} (h : PolR w AN N A2 n2 nv sv) (hNb : N ≤ 4000) (hn2 : n2 ≤ 600) (hz : ∀ p ∈ nv, p.o = 7 → 0 ≤ p.z) (hst : stmtsP sv) {pts : List PT} (hm : Match sv pts) (hts : IsTs nv 0 N (roots sv) (pts.flatMap trs)) :
  FC Tryz.prog 42 [.slice AN N cN', .slice A2 n2 c2] w fun v w' => match ckS (sv.zip pts) ⟨[], [], []⟩ with
   | .inl f => v = .tuple ⟨[.slice none 0 0, .pointer none, .agg ⟨[.int .i64 f.1, .int .i64 f.2]⟩]⟩ ∧ f.1 ≠ 0
   | .inr x => ∃ A c pl, v = .tuple ⟨[.slice A x.acc.length c, .pointer (some pl), .agg ⟨[.int .i64 0, .int .i64 0]⟩]⟩ ∧ Ints w' A x.acc.length c x.acc ∧ LetsR w' pl x.names x.tys := by
 refine FC.intro (cs := []) Tryz.func42 (by kernel_rfl) fun E R hE hr hR => ?_
 have hNl := h.nodes.len
 have hl2 := h.stmts.len
 obtain ⟨hml, hmt⟩ := hm
 obtain ⟨V, hV0⟩ : ∃ V, V = ckS (sv.zip pts) ⟨[], [], []⟩ := ⟨_, rfl⟩
 rw [← hV0] at hR
 have fin : ∀ c a : Int, V = .inl (c, a) → c ≠ 0 → ∀ w', Ext w w' → R (.tuple ⟨[.slice none 0 0, .pointer none, .agg ⟨[.int .i64 c, .int .i64 a]⟩]⟩) w' := fun c a e hc w' hx => by
  rw [hR, e]; exact ⟨hx, rfl, hc⟩
 conv => cbv
 refine st_alloc hr tFt rfl fun q6 w1 hx1 hq0 => ?_
 have hq6 := hq0 _ (n1_ _)
 have f6 := bx_form hq6
 clear hq0
 conv => cbv
 refine st_bLs hE ?_
 conv => cbv
 refine st_box hr fun pl w2 hx2 hq0 => ?_
 have hpl := hq0 _ (n1_ _)
 have fp := bx_form hpl
 replace hpl := hpl.mono hx1.size
 clear hq0
 replace hq6 := hq6.bel hx2
 conv => cbv
 refine st_alloc hr tFt rfl fun q9 w3 hx3 hq0 => ?_
 have hq9 := hq0 _ (n1_ _)
 have f9 := bx_form hq9
 replace hq9 := hq9.mono (n2_ hx1.size hx2.size)
 clear hq0
 replace hq6 := hq6.bel hx3
 replace hpl := hpl.bel hx3
 have hx : Ext w w3 := (hx1.trans hx2).trans hx3
 have s1 := hx1.size
 have s2 := hx2.size
 have s3 := hx3.size
 have hb : LB w.heap.size w3.heap.size pl q9 q6 := ⟨by omega, by omega, by omega, fp.2.2, f9.2.2, f6.2.2, by omega, by omega, by omega⟩
 clear fp f9 f6 hx1 hx2 hx3 s1 s2 s3
 have hsw := hx.size
 have hC0 : LC w.heap.size w3.heap.size w3 pl q9 q6 [.slice none 0 0, .slice none 0 0] [.int .i64 0, .int .i64 0] ⟨[], [], []⟩ none none none 0 0 0 :=
  ⟨hpl, hq9, hq6, Own.nil, Own.nil, Own.nil, ⟨.inl rfl, .inl rfl⟩, ⟨.inl rfl, .inl rfl⟩, ⟨.inl rfl, .inl rfl⟩⟩
 clear hpl hq9 hq6
 conv => cbv
 refine st_len hE sISd fun x16 hx16 => ?_
 conv => cbv
 refine loop_rulec [19, 25] hr (fun (s : Nat × Int × CK × Nat × (Option Addr × Option Addr × Option Addr) × (Nat × Nat × Nat) × (Int × Int)) w' => s.1 ≤ n2 ∧ s.2.1 = (s.1 : Int) ∧ XK s.2.2.1 ∧ s.2.2.1.tys.length ≤ s.1 ∧ s.2.2.2.1 ≤ N ∧ s.2.2.2.1 = s.2.2.1.acc.length ∧ Ext w w' ∧ w3.heap.size ≤ w'.heap.size ∧
   LC w.heap.size w3.heap.size w' pl q9 q6 [.slice s.2.2.2.2.1.2.1 s.2.2.1.names.length s.2.2.2.2.2.1.2.1, .slice s.2.2.2.2.1.2.2 s.2.2.1.tys.length s.2.2.2.2.2.1.2.2] [.int .i64 s.2.2.2.2.2.2.1, .int .i64 s.2.2.2.2.2.2.2] s.2.2.1 s.2.2.2.2.1.1 s.2.2.2.2.1.2.1 s.2.2.2.2.1.2.2 s.2.2.2.2.2.1.1 s.2.2.2.2.2.1.2.1 s.2.2.2.2.2.1.2.2 ∧
   IsTs nv s.2.2.2.1 N (roots (sv.drop s.1)) ((pts.drop s.1).flatMap trs) ∧ ckS ((sv.zip pts).drop s.1) s.2.2.1 = V)
  (fun s => [(0, .slice AN N cN'), (6, .pointer (some q6)), (7, .pointer (some pl)), (8, .slice s.2.2.2.2.1.1 s.2.2.2.1 s.2.2.2.2.2.1.1), (9, .pointer (some q9)), (15, .slice A2 n2 c2), (16, .int .i64 x16), (17, .int .i64 s.2.1)]) (fun s => n2 - s.1) (0, 0, ⟨[], [], []⟩, 0, (none, none, none), (0, 0, 0), (0, 0))
  (by simp [Fits, lk]) ⟨by simp, by simp, ⟨rfl, by simp, by simp, by simp⟩, by simp, by simp, rfl, hx, n1_ _, hC0, by simpa using hts, by simpa using hV0.symm⟩ ?_
 clear hx hC0 hV0
 rintro I hI ⟨j, jj, x, na, ⟨A, NA, TA⟩, ⟨c, nc, tc⟩, ⟨f0, f1⟩⟩ w' ⟨hj, hjj, hX, htl, hal, hna, hx, hs3, hC, hT, hV⟩
 simp only at hj hjj hX htl hal hna hC hT hV
 obtain ⟨nn, hnn⟩ : ∃ n, n = x.names.length := ⟨_, rfl⟩
 obtain ⟨tn, htn⟩ : ∃ n, n = x.tys.length := ⟨_, rfl⟩
 rw [← hnn, ← htn] at hC
 obtain ⟨jk, hjk⟩ : ∃ z, z = jj + 1 := ⟨_, rfl⟩
 conv => cbv
 refine br (fun g => ?_) (fun g => ?_)
 ·have g : j < n2 := by
   have : jj < x16 := by simpa [hE.cmp, cmpR] using g
   omega
  have ej : E.ar .add .i64 jj 1 = jk := by rw [hE.ar, hjk]; exact wrap_in (by omega) (by omega)
  obtain ⟨ad, v, hA, hg, hc, hok⟩ := (h.stmts.ext hx).get g
  obtain ⟨k, nm, cc, gg⟩ := v
  have s_nm := hok.s_nm
  simp only at s_nm
  obtain ⟨pt, hpt⟩ : ∃ pt, pts[j]? = some pt := ⟨_, g2_ (by omega)⟩
  obtain ⟨mc, mg⟩ := hmt j _ _ hg hpt
  simp only at mc mg
  have hsp := hst j _ hg
  rw [show (sv.zip pts).drop j = (⟨k, nm, cc, gg⟩, pt) :: (sv.zip pts).drop (j + 1) from drop_cons (by simp [List.getElem?_zip_eq_some, hg, hpt]), ckS] at hV
  simp only at hV
  rw [drop_cons hg, drop_cons hpt, roots_cons, List.flatMap_cons, rootS_eq] at hT
  simp only at hT
  obtain ⟨ptc, ptg⟩ := pt
  simp only at mc mg hV
  have hjn : jj.toNat = j := by omega
  conv => cbv
  refine cut_rule [19] [] hr (fun (s : CK × Nat × (Option Addr × Option Addr × Option Addr) × (Nat × Nat × Nat) × (Int × Int)) wy => XK s.1 ∧ s.1.tys.length ≤ j + 1 ∧ s.2.1 ≤ N ∧ s.2.1 = s.1.acc.length ∧ Ext w wy ∧ w3.heap.size ≤ wy.heap.size ∧
    LC w.heap.size w3.heap.size wy pl q9 q6 [.slice s.2.2.1.2.1 s.1.names.length s.2.2.2.1.2.1, .slice s.2.2.1.2.2 s.1.tys.length s.2.2.2.1.2.2] [.int .i64 s.2.2.2.2.1, .int .i64 s.2.2.2.2.2] s.1 s.2.2.1.1 s.2.2.1.2.1 s.2.2.1.2.2 s.2.2.2.1.1 s.2.2.2.1.2.1 s.2.2.2.1.2.2 ∧
    IsTs nv s.2.1 N (roots (sv.drop (j + 1))) ((pts.drop (j + 1)).flatMap trs) ∧ ckS ((sv.zip pts).drop (j + 1)) s.1 = V)
   (fun s => [(0, .slice AN N cN'), (6, .pointer (some q6)), (7, .pointer (some pl)), (8, .slice s.2.2.1.1 s.2.1 s.2.2.2.1.1), (9, .pointer (some q9)), (15, .slice A2 n2 c2), (16, .int .i64 x16), (17, .int .i64 jj)]) (fun J hJ => ?_) ?_
  rotate_left
  ·rintro ⟨x', na', ⟨A', NA', TA'⟩, ⟨c', nc', tc'⟩, ⟨f0', f1'⟩⟩ wy ⟨hX', htl', hal', hna', hx', hs3', hC', hT', hV'⟩
   conv => cbv
   simp only [ej]
   exact ⟨(j + 1, jk, x', na', ⟨A', NA', TA'⟩, ⟨c', nc', tc'⟩, ⟨f0', f1'⟩), by simp [Fits, lk], hI _ _ ⟨by simp only; omega, by simp only; omega, hX', htl', hal', hna', hx', hs3', hC', hT', hV'⟩, by simp only; omega⟩
  conv => cbv
  refine st_idx hE sISd hA (by omega) (by omega) fun q hq => ?_
  rw [hjn] at hq
  conv => cbv
  refine st_loadS hE tISd (vs := [.int .i64 k, .string nm, .int .i64 cc, .int .i64 gg]) rfl (by rw [hq]; exact hc) ?_
  conv => cbv
  refine st_alloc hr tISd rfl fun q11 w5 hx5 hq0 => ?_
  conv => cbv
  refine st_putS hr (by kernel_rfl) (hq0 _ (n1_ _)) (add_zero _).symm (by simp) (by simp [Value.oneCell']) fun w6 hw6 hq11 => ?_
  simp only [a1_, a2_, a3_, a4_, a5_, a6_, a7_] at hq11
  have hy := hx5.then (hw6.bel (hq0 _ (n1_ _)) hx5.size)
  have apq := hC.rA.apart (hq0 _ (n1_ _)) (n1_ _)
  have apn := hC.rN.apart (hq0 _ (n1_ _)) (n1_ _)
  have apt := hC.rT.apart (hq0 _ (n1_ _)) (n1_ _)
  have f11 := bx_form hq11
  have b11 : w'.heap.size ≤ q11.block := f11.1
  have e11 := f11.2.2
  have q11lt := f11.2.1
  have hs0 : w3.heap.size ≤ q11.block := by omega
  replace hq11 := hq11.mono hs3
  clear hq0 hw6 hx5 hq hc f11
  replace hC := hC.ext hy
  replace hx := hx.trans hy
  replace hs3 := n2_ hs3 hy.size
  clear hy
  conv => cbv
  refine cut_rule [] [] hr (fun (s : CK × Nat × (Option Addr × Option Addr × Option Addr) × (Nat × Nat × Nat) × (Int × Int)) wy => ckC ⟨k, nm, cc, gg⟩ x ptc = .inr s.1 ∧ XK s.1 ∧ s.1.tys.length ≤ j + 1 ∧ s.2.1 ≤ N ∧ s.2.1 = s.1.acc.length ∧ Ext w wy ∧ w3.heap.size ≤ wy.heap.size ∧
    LC w.heap.size w3.heap.size wy pl q9 q6 [.slice s.2.2.1.2.1 s.1.names.length s.2.2.2.1.2.1, .slice s.2.2.1.2.2 s.1.tys.length s.2.2.2.1.2.2] [.int .i64 s.2.2.2.2.1, .int .i64 s.2.2.2.2.2] s.1 s.2.2.1.1 s.2.2.1.2.1 s.2.2.1.2.2 s.2.2.2.1.1 s.2.2.2.1.2.1 s.2.2.2.1.2.2 ∧
    Box w3.heap.size 155 4 wy q11 [.int .i64 k, .string nm, .int .i64 cc, .int .i64 gg] ∧ (Apart s.2.2.1.1 (some q11) ∧ Apart (some q11) s.2.2.1.1) ∧
    IsTs nv s.2.1 N (rootO gg ++ roots (sv.drop (j + 1))) (ptg.toList ++ (pts.drop (j + 1)).flatMap trs))
   (fun s => [(0, .slice AN N cN'), (6, .pointer (some q6)), (7, .pointer (some pl)), (8, .slice s.2.2.1.1 s.2.1 s.2.2.2.1.1), (9, .pointer (some q9)), (11, .pointer (some q11)), (15, .slice A2 n2 c2), (16, .int .i64 x16), (17, .int .i64 jj)]) (fun J hJ => ?_) ?_
  ·(refine st_fld hE fISd2 fun p hp => ?_; (conv => cbv); refine st_load hE cInt (by rw [hp]; exact (hq11).at _ _ rfl) ?_; (conv => cbv))
   refine br (fun g1 => ?_) (fun g1 => ?_)
   rotate_left
   ·have g1 : ¬ 0 ≤ cc := by simpa [hE.cmp, cmpR] using g1
    have hpc : ptc = none := by
     cases ptc with
     | none => rfl
     | some t => exact absurd (mc.1 rfl) g1
    have hro : rootO cc = [] := by unfold rootO; rw [if_neg g1]
    rw [hpc] at hT
    rw [hro] at hT
    conv => cbv
    exact ⟨(x, na, ⟨A, NA, TA⟩, ⟨c, nc, tc⟩, ⟨f0, f1⟩), by simp [Fits, lk], hJ _ _ ⟨by rw [hpc]; rfl, hX, by simp only; omega, hal, hna, hx, hs3, by rw [← hnn, ← htn]; exact hC, hq11, apq, by simpa [trs] using hT⟩⟩
   ·have g1 : 0 ≤ cc := by simpa [hE.cmp, cmpR] using g1
    obtain ⟨t, ht⟩ : ∃ t, ptc = some t := Option.isSome_iff_exists.1 (mc.2 g1)
    subst ht
    have hro : rootO cc = [cc] := by unfold rootO; rw [if_pos g1]
    rw [hro] at hT
    obtain ⟨e, ts1, ts2, he1, hT1, hT2⟩ := (show IsTs nv na N ([cc] ++ (rootO gg ++ roots (sv.drop (j + 1)))) ([t] ++ (ptg.toList ++ (pts.drop (j + 1)).flatMap trs)) by simpa [trs] using hT).split
    have hl1 := hT1.len
    obtain ⟨e1, e2⟩ := List.append_inj he1 (by rw [hl1]; rfl)
    subst e1
    subst e2
    obtain ⟨kn, _, _, hkn, hek, _⟩ := hT1.one
    subst hek
    have hT1' := hT1
    rw [hkn] at hT1
    have hle2 := hT2.le
    have hkl := (hT1.roots _ (List.mem_singleton.2 rfl)).1
    have hbn := hT1.bound (by omega)
    obtain ⟨hpl, _⟩ := hT1.pos
    rw [show Proofs.YtgnjkdkedjljjaaGreatDoor.pos [t] = po t by simp [Proofs.YtgnjkdkedjljjaaGreatDoor.pos]] at hpl
    have hwl := walkL_len x.names x.tys (po t) x.acc
    have hwla := @walkL_last x.names x.tys t x.acc
    obtain ⟨W1, hW1⟩ : ∃ W, W = (walkL x.names x.tys (po t) x.acc).1 := ⟨_, rfl⟩
    obtain ⟨W2, hW2⟩ : ∃ W, W = (walkL x.names x.tys (po t) x.acc).2 := ⟨_, rfl⟩
    obtain ⟨ty, hty⟩ : ∃ y, y = (tyT x.names x.tys t).1 := ⟨_, rfl⟩
    have hck : ckC ⟨k, nm, cc, gg⟩ x (some t) = if W2 ≠ 0 then .inl (W2, (W1.length : Int)) else if k = 1 then (if (resN x.names nm).isSome = true then .inl (8, (W1.length : Int) - 1) else .inr ⟨W1, x.names ++ [nm], x.tys ++ [ty]⟩) else if ty ≠ 1 then .inl (9, (W1.length : Int) - 1) else .inr ⟨W1, x.names, x.tys⟩ := by rw [hW1, hW2, hty]; rfl
    have htree := l3tree_g (cN' := cN') (c := c) h.nodes hNb hz hT1 hx hna.symm (by rw [hna]; exact hC.rA.mono hsw) (hC.letsG hb hX (by rw [← hnn, ← htn])) (az := na) (ka := cc) rfl hkn
    rw [← hW1, ← hW2] at htree hwl hwla
    obtain ⟨nW, hnW⟩ : ∃ n, n = W1.length := ⟨_, rfl⟩
    rw [← hnW] at htree hck hwl hwla
    have tynz : W2 = 0 → ty ≠ 0 := fun q => by rw [hty]; exact tyT_nz hz hX.eq hX.nz hT1 (hwla q).1
    conv => cbv
    refine st_len hE tInts fun x27 hx27 => ?_
    conv => cbv
    (refine st_fld hE fISd2 fun p hp => ?_; (conv => cbv); refine st_load hE cInt (by rw [hp]; exact (hq11).at _ _ rfl) ?_; (conv => cbv))
    rw [hx27]
    refine st_g hr htree fun u w7 ⟨A', c', at_, ev, hgro, ho', hat⟩ => ?_
    subst ev
    have hC1 := hC.growA hb hs3 hgro (acc' := W1) (by rw [← hnW]; exact ho')
    have hx7 := hx.then (hgro.wr.bel (hC.rA.mono hsw) hx.size)
    have hs7 := n2_ hs3 hgro.wr.size
    have apq7 := hgro.apart hq11 apq
    replace hq11 := hq11.wr hgro.wr apq.2
    conv => cbv
    refine st_putS hr (by kernel_rfl) hC1.flt (add_zero _).symm (by simp) (by simp [Value.oneCell']) fun w8 hw8 hq9 => ?_
    simp only [a1_, a2_, a3_, a4_, a5_, a6_, a7_] at hq9
    have hx8 := hx7.then (hw8.bel hC1.flt hx7.size)
    have hs8 := n2_ hs7 hw8.size
    have hC2 := hC1.putF hb hw8 hq9
    replace hq11 := hq11.wr hw8 (bx_apart e11 hb.ef (by have := hb.f; omega))
    clear hC hC1 hx7 hs7 hw8 hq9 hgro ho'
    conv => cbv
    (refine st_fld hE fFt0 fun p hp => ?_; (conv => cbv); refine st_load hE cInt (by rw [hp]; exact (hC2.flt).at _ _ rfl) ?_; (conv => cbv))
    refine br (fun g2 => ?_) (fun g2 => ?_)
    ·have g2 : W2 ≠ 0 := by simpa [hE.cmp, cmpR] using g2
     rw [if_pos g2] at hck
     rw [hck] at hV
     simp only at hV
     conv => cbv
     refine draw_t [0, 1, 2] [(3, false)] hr fol (by kernel_rfl) fun E' hE' w9 hs9 S hS => ?_
     conv => cbv
     refine st_loadS hE' tFt rfl (hC2.flt.bel hs9.ext).at ?_
     conv => cbv
     refine st_putS hr (by kernel_rfl) (hC2.res.bel hs9.ext) (add_zero _).symm (by simp) (by simp [Value.oneCell']) fun w10 hw10 hq6 => ?_
     simp only [a1_, a2_, a3_, a4_, a5_, a6_, a7_] at hq6
     conv => cbv
     refine st_cell hr tFt rfl hq6.at ?_
     have hx9 := hx8.trans hs9.ext
     exact fin W2 at_ (by rw [← hV, hat g2]) g2 _ (hx9.then (hw10.bel (hC2.res.bel hs9.ext) hx9.size))
    have g2 : W2 = 0 := by simpa [hE.cmp, cmpR] using g2
    rw [if_neg (by simpa using g2)] at hck
    obtain ⟨_, _, hwl3, _⟩ := hwl
    have hnk : nW = kn + 1 := by have := hwl3 g2; omega
    have tyn := tynz g2
    have hlast := (hwla g2).2
    rw [← hty, hnk, Nat.add_sub_cancel] at hlast
    have rIn : Ints w8 A' nW c' W1 := by have := Own.ints hC2.rA; rw [hnW]; exact this
    conv => cbv
    (refine st_fld hE fISd2 fun p hp => ?_; (conv => cbv); refine st_load hE cInt (by rw [hp]; exact (hq11).at _ _ rfl) ?_; (conv => cbv))
    refine st_int hE tInts rIn (k := kn) hkn (by omega) fun p u hu hp => ?_
    rw [hlast] at hu
    cases hu
    conv => cbv
    refine st_load hE cInt hp ?_
    conv => cbv
    (refine st_fld hE fISd0 fun p hp => ?_; (conv => cbv); refine st_load hE cInt (by rw [hp]; exact (hq11).at _ _ rfl) ?_; (conv => cbv))
    refine br (fun g3 => ?_) (fun g3 => ?_)
    ·have g3 : k = 1 := by simpa [hE.cmp, cmpR] using g3
     rw [if_pos g3] at hck
     conv => cbv
     have hL8 := hC2.lets ⟨hX.eq, hX.le, hX.nz, hX.ss⟩ (by rw [← hnn, ← htn])
     simp only at hL8
     have bad : ¬ (posI attrs nm < 0 ∧ posI x.names nm < 0) → ∀ wa, Ext w8 wa → ∀ wb, Wr (some q6) wa wb → R (.tuple ⟨[.slice none 0 0, .pointer none, .agg ⟨[.int .i64 8, .int .i64 cc]⟩]⟩) wb := fun q wa hwa wb hwb => by
      rw [if_pos (resN_iff.2 (by omega))] at hck
      rw [hck] at hV
      simp only at hV
      have hx9 := hx8.trans hwa
      exact fin 8 cc (by rw [← hV]; congr 2; omega) (by omega) _ (hx9.then (hwb.bel (hC2.res.bel hwa) hx9.size))
     conv => cbv
     (refine st_fld hE fISd1 fun p hp => ?_; (conv => cbv); refine st_load hE cStr (by rw [hp]; exact (hq11).at _ _ rfl) ?_; (conv => cbv))
     refine st_f hr (l3attr_f nm _) fun v w9 hx9 ev => ?_
     subst ev
     obtain ⟨pa, hpa⟩ : ∃ pa, pa = posI attrs nm := ⟨_, rfl⟩
     rw [← hpa] at bad ⊢
     have q9' := hq11.bel hx9
     conv => cbv
     have ret : (0 ≤ pa ∨ 0 ≤ posI x.names nm) → ∀ wa, Ext w8 wa → ∀ wb, Wr (some q6) wa wb → R (.tuple ⟨[.slice none 0 0, .pointer none, .agg ⟨[.int .i64 8, .int .i64 cc]⟩]⟩) wb := fun q => bad (by omega)
     refine br (fun g4 => ?_) (fun g4 => ?_)
     ·have g4 : 0 ≤ pa := by simpa [hE.cmp, cmpR] using g4
      conv => cbv
      refine draw_t [0, 1, 2, 3, 4] [(5, false)] hr fol (by kernel_rfl) fun E' hE' w10 hs10 S hS => ?_
      conv => cbv
      (refine st_fld hE' fISd2 fun p hp => ?_; (conv => cbv); refine st_load hE' cInt (by rw [hp]; exact ((q9'.bel hs10.ext)).at _ _ rfl) ?_; (conv => cbv))
      refine st_bFt hE' ?_
      conv => cbv
      refine st_putS hr (by kernel_rfl) ((hC2.res.bel hx9).bel hs10.ext) (add_zero _).symm (by simp) (by simp [Value.oneCell']) fun w11 hw11 hq6 => ?_
      simp only [a1_, a2_, a3_, a4_, a5_, a6_, a7_] at hq6
      conv => cbv
      refine st_cell hr tFt rfl hq6.at ?_
      exact ret (.inl g4) _ (hx9.trans hs10.ext) _ hw11
     have g4 : ¬ 0 ≤ pa := by simpa [hE.cmp, cmpR] using g4
     conv => cbv
     (refine st_fld hE fISd1 fun p hp => ?_; (conv => cbv); refine st_load hE cStr (by rw [hp]; exact (q9').at _ _ rfl) ?_; (conv => cbv))
     refine st_f hr (find_f (hL8.ext hx9) nm) fun v w10 hx10 ev => ?_
     subst ev
     obtain ⟨pn, hpn⟩ : ∃ pn, pn = posI x.names nm := ⟨_, rfl⟩
     rw [← hpn] at ret ⊢
     replace q9' := q9'.bel hx10
     have hx0 := hx9.trans hx10
     conv => cbv
     refine br (fun g5 => ?_) (fun g5 => ?_)
     ·have g5 : 0 ≤ pn := by simpa [hE.cmp, cmpR] using g5
      conv => cbv
      refine draw_t [0, 1, 2, 3, 4] [(5, false)] hr fol (by kernel_rfl) fun E' hE' w11 hs11 S hS => ?_
      conv => cbv
      (refine st_fld hE' fISd2 fun p hp => ?_; (conv => cbv); refine st_load hE' cInt (by rw [hp]; exact ((q9'.bel hs11.ext)).at _ _ rfl) ?_; (conv => cbv))
      refine st_bFt hE' ?_
      conv => cbv
      refine st_putS hr (by kernel_rfl) ((hC2.res.bel hx0).bel hs11.ext) (add_zero _).symm (by simp) (by simp [Value.oneCell']) fun w12 hw12 hq6 => ?_
      simp only [a1_, a2_, a3_, a4_, a5_, a6_, a7_] at hq6
      conv => cbv
      refine st_cell hr tFt rfl hq6.at ?_
      exact ret (.inr g5) _ (hx0.trans hs11.ext) _ hw12
     have g5 : ¬ 0 ≤ pn := by simpa [hE.cmp, cmpR] using g5
     rw [if_neg (fun q => by have := resN_iff.1 q; omega)] at hck
     conv => cbv
     refine draw_u [1, 2, 3, 4, 5, 6] [0, 1, 2, 3, 4, 5, 6] [(7, true), (8, false), (9, false), (10, false), (11, false)] hr fol (by kernel_rfl) fun E' hE' w11 hs11 S hS => ?_
     have hC3 := hC2.ext (hx0.trans hs11.ext)
     have hx3 := hx8.trans (hx0.trans hs11.ext)
     have hs3' := n2_ hs8 (hx0.trans hs11.ext).size
     replace q9' := q9'.bel hs11.ext
     conv => cbv
     refine st_nil hE' ?_
     conv => cbv
     refine st_fld hE' fL30 fun p0 hp0 => ?_
     conv => cbv
     refine st_load hE' cStrs (by rw [hp0]; exact hC3.box.at 0 _ rfl) ?_
     conv => cbv
     (refine st_fld hE' fISd1 fun p hp => ?_; (conv => cbv); refine st_load hE' cStr (by rw [hp]; exact (q9').at _ _ rfl) ?_; (conv => cbv))
     refine st_one hr tStrs rfl rfl fun A7 w12 hx12 hc12 => ?_
     refine ⟨hS _ hx12, ?_⟩
     conv => cbv
     have hC4 := hC3.ext hx12
     have hx4 := hx3.trans hx12
     have hs4 := n2_ hs3' hx12.size
     have q10 := q9'.bel hx12
     have rN := hC4.rN
     simp only at rN
     rw [← hnn] at rN
     refine st_appsG hr tStrs rfl rN hc12 rfl (by simp [Value.oneCell']) hs4 (by have := hX.eq; have := hX.le; omega) (by have := hX.eq; have := hX.le; omega) fun A8 c8 m8 w13 hm8 hw13 ho13 hbk => ?_
     have hnl : (x.names ++ [nm]).length = nn + 1 := by simp [hnn]
     have hg13 : Gro w12 NA w13 A8 := Gro.app (Ext.refl _) hw13 hbk
     have hC5 := hC4.growN hb hs4 hg13 (names' := x.names ++ [nm]) (by rw [hnl, List.map_append, ← hm8]; exact ho13.mono hsw)
     have hx5 := hx4.then (hw13.bel (rN.mono hsw) hx4.size)
     have hs5 := n2_ hs4 hw13.size
     replace q10 := q10.wr hw13 apn.2
     clear hC3 hC4 rN hx3 hx4 hs3' hs4
     conv => cbv
     refine st_nil hE ?_
     conv => cbv
     refine st_fld hE fL30 fun p1 hp1 => ?_
     conv => cbv
     refine st_put hr zStrs hC5.box hp1 (by simp) rfl fun w14 hw14 hb14 => ?_
     simp only [b4_, b5_] at hb14
     have hC6 := hC5.putB hb hw14 hb14
     have hx6 := hx5.then (hw14.bel hC5.box hx5.size)
     have hs6 := n2_ hs5 hw14.size
     replace q10 := q10.wr hw14 (bx_apart e11 hb.ep (by have := hb.p; omega))
     clear hC5 hx5 hs5 hb14
     conv => cbv
     refine st_nil hE ?_
     conv => cbv
     refine st_fld hE fL31 fun p2 hp2 => ?_
     conv => cbv
     refine st_load hE cInts (by rw [hp2]; exact hC6.box.at 1 _ rfl) ?_
     conv => cbv
     refine st_one hr tInts rfl rfl fun A9 w15 hx15 hc15 => ?_
     conv => cbv
     have hC7 := hC6.ext hx15
     have hx7 := hx6.trans hx15
     have hs7 := n2_ hs6 hx15.size
     replace q10 := q10.bel hx15
     have rT := hC7.rT
     simp only at rT
     rw [← htn] at rT
     refine st_appsG hr tInts rfl rT hc15 rfl (by simp [Value.oneCell']) hs7 (by have := hX.le; omega) (by have := hX.le; omega) fun A10 c10 m10 w16 hm10 hw16 ho16 hbk2 => ?_
     have htl2 : (x.tys ++ [ty]).length = tn + 1 := by simp [htn]
     have hg16 : Gro w15 TA w16 A10 := Gro.app (Ext.refl _) hw16 hbk2
     have hC8 := hC7.growT hb hs7 hg16 (tys' := x.tys ++ [ty]) (by rw [htl2, List.map_append, ← hm10]; exact ho16.mono hsw)
     have hx8' := hx7.then (hw16.bel (rT.mono hsw) hx7.size)
     have hs8' := n2_ hs7 hw16.size
     replace q10 := q10.wr hw16 apt.2
     clear hC6 hC7 rT hx6 hx7 hs6 hs7
     conv => cbv
     refine st_nil hE ?_
     conv => cbv
     refine st_fld hE fL31 fun p3 hp3 => ?_
     conv => cbv
     refine st_put hr zInts2 hC8.box hp3 (by simp) rfl fun w17 hw17 hb17 => ?_
     simp only [b4_, b5_] at hb17
     have hC9 := hC8.putB hb hw17 hb17
     have hx9' := hx8'.then (hw17.bel hC8.box hx8'.size)
     have hs9 := n2_ hs8' hw17.size
     replace q10 := q10.wr hw17 (bx_apart e11 hb.ep (by have := hb.p; omega))
     conv => cbv
     refine ⟨(⟨W1, x.names ++ [nm], x.tys ++ [ty]⟩, nW, ⟨A', A8, A10⟩, ⟨c', c8, c10⟩, ⟨W2, at_⟩), by simp [Fits, lk], hJ _ _ ⟨hck, ⟨by rw [hnl, htl2, hnn, htn, hX.eq], by rw [htl2]; omega, fun y hy => ?_, fun y hy => ?_⟩, by simp only; rw [htl2]; omega, by simp only; omega, hnW, hx9', hs9, ?_, q10, apq7, by simp only; rw [hnk]; exact hT2⟩⟩
     ·rcases List.mem_append.1 hy with hy | hy
      ·exact hX.nz y hy
      ·simp at hy; rw [hy]; exact tyn
     ·rcases List.mem_append.1 hy with hy | hy
      ·exact hX.ss y hy
      ·simp at hy; rw [hy]; exact s_nm
     ·simp only
      rw [hnl, htl2, ← hm8, ← hm10]
      exact hC9
    ·have g3 : k ≠ 1 := by simpa [hE.cmp, cmpR] using g3
     rw [if_neg g3] at hck
     conv => cbv
     refine br (fun g4 => ?_) (fun g4 => ?_)
     ·have g4 : ty ≠ 1 := by simpa [hE.cmp, cmpR] using g4
      rw [if_pos g4] at hck
      rw [hck] at hV
      simp only at hV
      conv => cbv
      refine draw_t [0, 1, 2, 3, 4] [(5, false)] hr fol (by kernel_rfl) fun E' hE' w9 hs9 S hS => ?_
      conv => cbv
      (refine st_fld hE' fISd2 fun p hp => ?_; (conv => cbv); refine st_load hE' cInt (by rw [hp]; exact ((hq11.bel hs9.ext)).at _ _ rfl) ?_; (conv => cbv))
      refine st_bFt hE' ?_
      conv => cbv
      refine st_putS hr (by kernel_rfl) (hC2.res.bel hs9.ext) (add_zero _).symm (by simp) (by simp [Value.oneCell']) fun w10 hw10 hq6 => ?_
      simp only [a1_, a2_, a3_, a4_, a5_, a6_, a7_] at hq6
      conv => cbv
      refine st_cell hr tFt rfl hq6.at ?_
      have hx9 := hx8.trans hs9.ext
      exact fin 9 cc (by rw [← hV]; congr 2; omega) (by omega) _ (hx9.then (hw10.bel (hC2.res.bel hs9.ext) hx9.size))
     ·have g4 : ¬ ty ≠ 1 := by simpa [hE.cmp, cmpR] using g4
      rw [if_neg g4] at hck
      conv => cbv
      exact ⟨(⟨W1, x.names, x.tys⟩, nW, ⟨A', NA, TA⟩, ⟨c', nc, tc⟩, ⟨W2, at_⟩), by simp [Fits, lk], hJ _ _ ⟨hck, ⟨hX.eq, hX.le, hX.nz, hX.ss⟩, by simp only; omega, by simp only; omega, hnW, hx8, hs8, by simp only; rw [← hnn, ← htn]; exact hC2, hq11, apq7, by simp only; rw [hnk]; exact hT2⟩⟩
  ·clear hq11 apq hC hx hs3 hX htl hal hna hT hnn htn apn apt q11lt
   rintro ⟨y, ny, ⟨A', NA', TA'⟩, ⟨c', nc', tc'⟩, ⟨f0', f1'⟩⟩ wy ⟨hcC, hX, htl, hal, hna, hx, hs3, hC, hq11, apq, hT⟩
   simp only at hcC hX htl hal hna hC apq hT
   rw [hcC] at hV
   simp only at hV
   obtain ⟨n2', hnn⟩ : ∃ n, n = y.names.length := ⟨_, rfl⟩
   obtain ⟨t2', htn⟩ : ∃ n, n = y.tys.length := ⟨_, rfl⟩
   rw [← hnn, ← htn] at hC
   conv => cbv
   (refine st_fld hE fISd3 fun p hp => ?_; (conv => cbv); refine st_load hE cInt (by rw [hp]; exact (hq11).at _ _ rfl) ?_; (conv => cbv))
   refine br (fun g1 => ?_) (fun g1 => ?_)
   rotate_left
   ·have g1 : ¬ 0 ≤ gg := by simpa [hE.cmp, cmpR] using g1
    have hpg : ptg = none := by
     cases ptg with
     | none => rfl
     | some t => exact absurd (mg.1 rfl) g1
    have hro : rootO gg = [] := by unfold rootO; rw [if_neg g1]
    rw [hpg] at hT hV
    rw [hro] at hT
    simp only [ckG] at hV
    conv => cbv
    exact ⟨(y, ny, ⟨A', NA', TA'⟩, ⟨c', nc', tc'⟩, ⟨f0', f1'⟩), by simp [Fits, lk], hJ _ _ ⟨hX, htl, hal, hna, hx, hs3, by rw [← hnn, ← htn]; exact hC, by simpa using hT, hV⟩⟩
   ·have g1 : 0 ≤ gg := by simpa [hE.cmp, cmpR] using g1
    obtain ⟨t, ht⟩ : ∃ t, ptg = some t := Option.isSome_iff_exists.1 (mg.2 g1)
    subst ht
    have hro : rootO gg = [gg] := by unfold rootO; rw [if_pos g1]
    rw [hro] at hT
    obtain ⟨e, ts1, ts2, he1, hT1, hT2⟩ := (show IsTs nv ny N ([gg] ++ roots (sv.drop (j + 1))) ([t] ++ (pts.drop (j + 1)).flatMap trs) by simpa using hT).split
    have hl1 := hT1.len
    obtain ⟨e1, e2⟩ := List.append_inj he1 (by rw [hl1]; rfl)
    subst e1
    subst e2
    obtain ⟨kn, _, _, hkn, hek, _⟩ := hT1.one
    subst hek
    rw [hkn] at hT1
    have hle2 := hT2.le
    have hkl := (hT1.roots _ (List.mem_singleton.2 rfl)).1
    have hbn := hT1.bound (by omega)
    obtain ⟨hpl, _⟩ := hT1.pos
    rw [show Proofs.YtgnjkdkedjljjaaGreatDoor.pos [t] = po t by simp [Proofs.YtgnjkdkedjljjaaGreatDoor.pos]] at hpl
    have hwl := walkL_len y.names y.tys (po t) y.acc
    have hwla := @walkL_last y.names y.tys t y.acc
    obtain ⟨W1, hW1⟩ : ∃ W, W = (walkL y.names y.tys (po t) y.acc).1 := ⟨_, rfl⟩
    obtain ⟨W2, hW2⟩ : ∃ W, W = (walkL y.names y.tys (po t) y.acc).2 := ⟨_, rfl⟩
    obtain ⟨ty, hty⟩ : ∃ z, z = (tyT y.names y.tys t).1 := ⟨_, rfl⟩
    have hck : ckG y (some t) = if W2 ≠ 0 then .inl (W2, (W1.length : Int)) else if ty ≠ 4 then .inl (9, (W1.length : Int) - 1) else .inr ⟨W1, y.names, y.tys⟩ := by rw [hW1, hW2, hty]; rfl
    have htree := l3tree_g (cN' := cN') (c := c') h.nodes hNb hz hT1 hx hna.symm (by rw [hna]; exact hC.rA.mono hsw) (hC.letsG hb hX (by rw [← hnn, ← htn])) (az := ny) (ka := gg) rfl hkn
    rw [← hW1, ← hW2] at htree hwl hwla
    obtain ⟨nW, hnW⟩ : ∃ n, n = W1.length := ⟨_, rfl⟩
    rw [← hnW] at htree hck hwl hwla
    conv => cbv
    refine st_len hE tInts fun x27 hx27 => ?_
    conv => cbv
    (refine st_fld hE fISd3 fun p hp => ?_; (conv => cbv); refine st_load hE cInt (by rw [hp]; exact (hq11).at _ _ rfl) ?_; (conv => cbv))
    rw [hx27]
    refine st_g hr htree fun u w7 ⟨A2', c2', at_, ev, hgro, ho', hat⟩ => ?_
    subst ev
    have hC1 := hC.growA hb hs3 hgro (acc' := W1) (by rw [← hnW]; exact ho')
    have hx7 := hx.then (hgro.wr.bel (hC.rA.mono hsw) hx.size)
    have hs7 := n2_ hs3 hgro.wr.size
    have apq7 := hgro.apart hq11 apq
    replace hq11 := hq11.wr hgro.wr apq.2
    conv => cbv
    refine st_putS hr (by kernel_rfl) hC1.flt (add_zero _).symm (by simp) (by simp [Value.oneCell']) fun w8 hw8 hq9 => ?_
    simp only [a1_, a2_, a3_, a4_, a5_, a6_, a7_] at hq9
    have hx8 := hx7.then (hw8.bel hC1.flt hx7.size)
    have hs8 := n2_ hs7 hw8.size
    have hC2 := hC1.putF hb hw8 hq9
    replace hq11 := hq11.wr hw8 (bx_apart e11 hb.ef (by have := hb.f; omega))
    clear hC hC1 hx7 hs7 hw8 hq9 hgro ho'
    conv => cbv
    (refine st_fld hE fFt0 fun p hp => ?_; (conv => cbv); refine st_load hE cInt (by rw [hp]; exact (hC2.flt).at _ _ rfl) ?_; (conv => cbv))
    refine br (fun g2 => ?_) (fun g2 => ?_)
    ·have g2 : W2 ≠ 0 := by simpa [hE.cmp, cmpR] using g2
     rw [if_pos g2] at hck
     rw [hck] at hV
     simp only at hV
     conv => cbv
     refine draw_t [0, 1, 2] [(3, false)] hr fol (by kernel_rfl) fun E' hE' w9 hs9 S hS => ?_
     conv => cbv
     refine st_loadS hE' tFt rfl (hC2.flt.bel hs9.ext).at ?_
     conv => cbv
     refine st_putS hr (by kernel_rfl) (hC2.res.bel hs9.ext) (add_zero _).symm (by simp) (by simp [Value.oneCell']) fun w10 hw10 hq6 => ?_
     simp only [a1_, a2_, a3_, a4_, a5_, a6_, a7_] at hq6
     conv => cbv
     refine st_cell hr tFt rfl hq6.at ?_
     have hx9 := hx8.trans hs9.ext
     exact fin W2 at_ (by rw [← hV, hat g2]) g2 _ (hx9.then (hw10.bel (hC2.res.bel hs9.ext) hx9.size))
    have g2 : W2 = 0 := by simpa [hE.cmp, cmpR] using g2
    rw [if_neg (by simpa using g2)] at hck
    obtain ⟨_, _, hwl3, _⟩ := hwl
    have hnk : nW = kn + 1 := by have := hwl3 g2; omega
    have hlast := (hwla g2).2
    rw [← hty, hnk, Nat.add_sub_cancel] at hlast
    have rIn : Ints w8 A2' nW c2' W1 := by have := Own.ints hC2.rA; rw [hnW]; exact this
    conv => cbv
    (refine st_fld hE fISd3 fun p hp => ?_; (conv => cbv); refine st_load hE cInt (by rw [hp]; exact (hq11).at _ _ rfl) ?_; (conv => cbv))
    refine st_int hE tInts rIn (k := kn) hkn (by omega) fun p u hu hp => ?_
    rw [hlast] at hu
    cases hu
    conv => cbv
    refine st_load hE cInt hp ?_
    conv => cbv
    refine br (fun g4 => ?_) (fun g4 => ?_)
    ·have g4 : ty ≠ 4 := by simpa [hE.cmp, cmpR] using g4
     rw [if_pos g4] at hck
     rw [hck] at hV
     simp only at hV
     conv => cbv
     refine draw_t [0, 1, 2, 3, 4] [(5, false)] hr fol (by kernel_rfl) fun E' hE' w9 hs9 S hS => ?_
     conv => cbv
     (refine st_fld hE' fISd3 fun p hp => ?_; (conv => cbv); refine st_load hE' cInt (by rw [hp]; exact ((hq11.bel hs9.ext)).at _ _ rfl) ?_; (conv => cbv))
     refine st_bFt hE' ?_
     conv => cbv
     refine st_putS hr (by kernel_rfl) (hC2.res.bel hs9.ext) (add_zero _).symm (by simp) (by simp [Value.oneCell']) fun w10 hw10 hq6 => ?_
     simp only [a1_, a2_, a3_, a4_, a5_, a6_, a7_] at hq6
     conv => cbv
     refine st_cell hr tFt rfl hq6.at ?_
     have hx9 := hx8.trans hs9.ext
     exact fin 9 gg (by rw [← hV]; congr 2; omega) (by omega) _ (hx9.then (hw10.bel (hC2.res.bel hs9.ext) hx9.size))
    ·have g4 : ¬ ty ≠ 4 := by simpa [hE.cmp, cmpR] using g4
     rw [if_neg g4] at hck
     rw [hck] at hV
     simp only at hV
     conv => cbv
     exact ⟨(⟨W1, y.names, y.tys⟩, nW, ⟨A2', NA', TA'⟩, ⟨c2', nc', tc'⟩, ⟨W2, at_⟩), by simp [Fits, lk], hJ _ _ ⟨⟨hX.eq, hX.le, hX.nz, hX.ss⟩, htl, by simp only; omega, hnW, hx8, hs8, by simp only; rw [← hnn, ← htn]; exact hC2, by simp only; rw [hnk]; exact hT2, hV⟩⟩
 ·have g : j = n2 := by
   have : ¬ jj < x16 := by simpa [hE.cmp, cmpR] using g
   omega
  rw [List.drop_eq_nil_of_le (by simp; omega), ckS] at hV
  conv => cbv
  refine st_bFt0 hE ?_
  conv => cbv
  refine st_putS hr (by kernel_rfl) hC.res (add_zero _).symm (by simp) (by simp [Value.oneCell']) fun w6 hw6 hq6 => ?_
  simp only [a1_, a2_, a3_, a4_, a5_, a6_, a7_] at hq6
  conv => cbv
  refine st_cell hr tFt rfl hq6.at ?_
  rw [hR, ← hV]
  have h1 := hC.box.wr hw6 (bx_apart hb.ep hb.er hb.pr)
  have h2 := hC.rA.wr hw6 (own_low hC.rA hb.r.2 hb.er).1
  have h3 := hC.rN.wr hw6 (own_low hC.rN hb.r.2 hb.er).1
  have h4 := hC.rT.wr hw6 (own_low hC.rT hb.r.2 hb.er).1
  refine ⟨hx.then (hw6.bel hC.res hx.size), A, c, pl, by rw [← hna]; rfl, Own.ints h2, ⟨⟨NA, _, nc, TA, _, tc, h1.at 0 _ rfl, h1.at 1 _ rfl, Own.strs (by rw [hnn]; exact h3) hX.ss, Own.ints (by rw [htn]; exact h4)⟩, hX.eq, hX.le, hX.nz⟩⟩
def ptsOf : List PS → List Tr → List PT
 | [], _ => []
 | s :: l, ts =>
  let c := if 0 ≤ s.c then ts.head? else none
  let t1 := if 0 ≤ s.c then ts.tail else ts
  let g := if 0 ≤ s.g then t1.head? else none
  let t2 := if 0 ≤ s.g then t1.tail else t1
  ⟨c, g⟩ :: ptsOf l t2
theorem match_cons {s : PS} {sv : List PS} {p : PT} {pts : List PT} : Match (s :: sv) (p :: pts) ↔ ((p.c.isSome = true ↔ 0 ≤ s.c) ∧ (p.g.isSome = true ↔ 0 ≤ s.g)) ∧ Match sv pts := by
 unfold Match
 constructor
 ·rintro ⟨h1, h2⟩
  exact ⟨h2 0 s p rfl rfl, by simpa using h1, fun j t q h3 h4 => h2 (j + 1) t q (by simpa using h3) (by simpa using h4)⟩
 ·rintro ⟨h1, h2, h3⟩
  refine ⟨by simp [h2], fun j t q h4 h5 => ?_⟩
  cases j with
  | zero => simp at h4 h5; subst h4; subst h5; exact h1
  | succ j => exact h3 j t q (by simpa using h4) (by simpa using h5)
theorem ptsOf_match : ∀ {sv : List PS} {pts : List PT}, Match sv pts → ∀ r, ptsOf sv (pts.flatMap trs ++ r) = pts
 | [], [], h, r => rfl
 | [], p :: pts, h, r => by have := h.1; simp at this
 | s :: sv, [], h, r => by have := h.1; simp at this
 | s :: sv, ⟨c, g⟩ :: pts, h, r => by
  obtain ⟨⟨h1, h2⟩, h3⟩ := match_cons.1 h
  have ih := ptsOf_match h3 r
  simp only at h1 h2
  rw [ptsOf]
  cases c with
  | none =>
   have e1 : ¬ 0 ≤ s.c := fun q => by simpa using h1.2 q
   cases g with
   | none =>
    have e2 : ¬ 0 ≤ s.g := fun q => by simpa using h2.2 q
    simp [e1, e2, trs, ih]
   | some b =>
    have e2 : 0 ≤ s.g := h2.1 rfl
    simp [e1, e2, trs, ih]
  | some a =>
   have e1 : 0 ≤ s.c := h1.1 rfl
   cases g with
   | none =>
    have e2 : ¬ 0 ≤ s.g := fun q => by simpa using h2.2 q
    simp [e1, e2, trs, ih]
   | some b =>
    have e2 : 0 ≤ s.g := h2.1 rfl
    simp [e1, e2, trs, ih]
theorem pts_uniq {nv : List PN} {sv : List PS} {pts pts' : List PT} {a N : Nat} (hm : Match sv pts) (hm' : Match sv pts') (h : IsTs nv a N (roots sv) (pts.flatMap trs)) (h' : IsTs nv a N (roots sv) (pts'.flatMap trs)) : pts = pts' := by
 have e := (h.uniq h').2
 have h1 := ptsOf_match hm []
 have h2 := ptsOf_match hm' []
 rw [a7_] at h1 h2
 rw [← h1, ← h2, e]
theorem ckO_len {nv : List PN} {x : CK} {a b : Nat} {k : Int} {t : Tr} (hx : x.acc.length = a) (h : IsTs nv a b [k] [t]) (hc : (walkL x.names x.tys (po t) x.acc).2 = 0) : (walkL x.names x.tys (po t) x.acc).1.length = b := by
 obtain ⟨hp, _⟩ := h.pos
 rw [show Proofs.YtgnjkdkedjljjaaGreatDoor.pos [t] = po t by simp [Proofs.YtgnjkdkedjljjaaGreatDoor.pos]] at hp
 have := (walkL_len x.names x.tys (po t) x.acc).2.2.1 hc
 have := h.le
 omega
theorem rootO_some {top : Int} {o : Option Tr} (h : o.isSome = true ↔ 0 ≤ top) : (o = none ∧ rootO top = []) ∨ ∃ t, o = some t ∧ rootO top = [top] := by
 unfold rootO
 cases o with
 | none => rw [if_neg (fun q => by simpa using h.2 q)]; exact .inl ⟨rfl, rfl⟩
 | some t => rw [if_pos (h.1 rfl)]; exact .inr ⟨t, rfl, rfl⟩
theorem ck_len {nv : List PN} : ∀ {sv : List PS} {pts : List PT} {x y : CK} {a N : Nat}, Match sv pts → IsTs nv a N (roots sv) (pts.flatMap trs) → x.acc.length = a → ckS (sv.zip pts) x = .inr y → y.acc.length = N
 | [], [], x, y, a, N, hm, h, hx, hy => by
  simp [roots] at h
  cases h
  simp [ckS] at hy
  subst hy; exact hx
 | [], p :: pts, x, y, a, N, hm, h, hx, hy => by have := hm.1; simp at this
 | s :: sv, [], x, y, a, N, hm, h, hx, hy => by have := hm.1; simp at this
 | s :: sv, ⟨c, g⟩ :: pts, x, y, a, N, hm, h, hx, hy => by
  obtain ⟨⟨h1, h2⟩, h3⟩ := match_cons.1 hm
  simp only at h1 h2
  rw [roots_cons, rootS_eq, List.flatMap_cons] at h
  simp only [List.zip_cons_cons, ckS] at hy
  have step : ∀ {x : CK} {a : Nat} {rs : List Int} {ts : List Tr} {top : Int} {o : Option Tr}, x.acc.length = a → (o.isSome = true ↔ 0 ≤ top) → IsTs nv a N (rootO top ++ rs) (o.toList ++ ts) → (∀ t, o = some t → ∃ b, IsTs nv a b [top] [t] ∧ IsTs nv b N rs ts) ∧ (o = none → IsTs nv a N rs ts) := fun {x a rs ts top o} hx ho h => by
   rcases rootO_some ho with ⟨rfl, e⟩ | ⟨t, rfl, e⟩
   ·rw [e] at h; exact ⟨(fun t q => by cases q), fun _ => by simpa using h⟩
   ·rw [e] at h
    refine ⟨fun t' q => ?_, fun q => by cases q⟩
    cases q
    obtain ⟨b, ts1, ts2, e1, k1, k2⟩ := h.split
    have hl := k1.len
    obtain ⟨q1, q2⟩ := List.append_inj e1 (by rw [hl]; rfl)
    subst q1; subst q2
    exact ⟨b, k1, k2⟩
  have h' : IsTs nv a N (rootO s.c ++ (rootO s.g ++ roots sv)) (c.toList ++ (g.toList ++ pts.flatMap trs)) := by simpa [trs] using h
  have hc : ∃ z b, ckC s x c = .inr z ∧ z.acc.length = b ∧ IsTs nv b N (rootO s.g ++ roots sv) (g.toList ++ pts.flatMap trs) := by
   obtain ⟨k1, k2⟩ := step hx h1 h'
   cases c with
   | none => exact ⟨x, a, rfl, hx, k2 rfl⟩
   | some t =>
    obtain ⟨b, k3, k4⟩ := k1 t rfl
    cases hq : ckC s x (some t) with
    | inl f => rw [hq] at hy; cases hy
    | inr z =>
     refine ⟨z, b, rfl, ?_, k4⟩
     simp only [ckC] at hq
     split at hq
     ·cases hq
     ·rename_i q0
      have hl := ckO_len hx k3 (Classical.byContradiction q0)
      split at hq
      ·split at hq
       ·cases hq
       ·cases hq; exact hl
      ·split at hq
       ·cases hq
       ·cases hq; exact hl
  obtain ⟨z, b, e1, hz, hT⟩ := hc
  rw [e1] at hy
  simp only at hy
  obtain ⟨k1, k2⟩ := step hz h2 hT
  cases g with
  | none =>
   simp only [ckG] at hy
   exact ck_len h3 (k2 rfl) hz hy
  | some t =>
   obtain ⟨b2, k3, k4⟩ := k1 t rfl
   cases hq : ckG z (some t) with
   | inl f => rw [hq] at hy; cases hy
   | inr z2 =>
    rw [hq] at hy
    simp only at hy
    refine ck_len h3 k4 ?_ hy
    simp only [ckG] at hq
    split at hq
    ·cases hq
    ·rename_i q0
     have hl := ckO_len hz k3 (Classical.byContradiction q0)
     split at hq
     ·cases hq
     ·cases hq; exact hl
def wellP (nv : List PN) (sv : List PS) (tyl : List Int) : Prop := policyP true nv sv ∧ ∃ pts x, Match sv pts ∧ IsTs nv 0 nv.length (roots sv) (pts.flatMap trs) ∧ ckS (sv.zip pts) ⟨[], [], []⟩ = .inr x ∧ x.acc = tyl
end Go.Proofs.YtgnjkdkedjljjaaGreatDoor
namespace Go.Eng
set_option linter.unusedVariables false
set_option linter.unusedSimpArgs false
structure IMap (B : Nat) (w : World) (bm : Nat) (f : List (ByteArray × Value)) : Prop where
 lo : B ≤ bm
 ex : ∃ es clock, w.heap[bm]? = some (.map es clock) ∧ es.toList.map (fun e => (e.key, e.val)) = f.map (fun q => (Value.string q.1, q.2))
def mget : List (ByteArray × Value) → ByteArray → Option Value
 | [], _ => none
 | q :: f, k => if q.1 = k then some q.2 else mget f k
abbrev mb (bm : Nat) : Option Addr := some ⟨bm, 0, none⟩
theorem mb_blk (bm : Nat) : blk (mb bm) = some bm := rfl
theorem IMap.hi {B : Nat} {w : World} {bm : Nat} {f : List (ByteArray × Value)} (h : IMap B w bm f) : bm < w.heap.size := by
 obtain ⟨es, clock, h1, _⟩ := h.ex
 exact (Array.getElem?_eq_some_iff.1 h1).1
theorem IMap.bel {B : Nat} {w w' : World} {bm : Nat} {f : List (ByteArray × Value)} (h : IMap B w bm f) (hx : Ext w w') : IMap B w' bm f := by
 obtain ⟨es, clock, h1, h2⟩ := h.ex
 exact ⟨h.lo, es, clock, hx.getMap h1, h2⟩
theorem IMap.mono {B B' : Nat} {w : World} {bm : Nat} {f : List (ByteArray × Value)} (h : IMap B w bm f) (hB : B' ≤ B) : IMap B' w bm f := ⟨n2_ hB h.lo, h.ex⟩
theorem IMap.wr {B : Nat} {w w' : World} {bm : Nat} {f : List (ByteArray × Value)} {A : Option Addr} (h : IMap B w bm f) (hw : Wr A w w') (ha : blk A ≠ some bm) : IMap B w' bm f := by
 obtain ⟨es, clock, h1, h2⟩ := h.ex
 exact ⟨h.lo, es, clock, (hw.block bm h.hi (Ne.symm ha)).trans h1, h2⟩
theorem find_im (k : ByteArray) : ∀ (es : List MapEntry) (f : List (ByteArray × Value)) (i : Nat), es.map (fun e => (e.key, e.val)) = f.map (fun q => (Value.string q.1, q.2)) → ∃ r, Instr.findNow .string (.string k) es i = some r ∧ r.map (·.2) = mget f k
 | [], [], i, _ => ⟨none, rfl, rfl⟩
 | e :: es, [], i, h => by cases h
 | [], q :: f, i, h => by cases h
 | e :: es, q :: f, i, h => by
  simp only [b2_, b1_, Prod.mk.injEq] at h
  obtain ⟨⟨h1, h2⟩, h3⟩ := h
  by_cases hq : k = q.1
  ·refine ⟨some (i, e.val), by simp [Instr.findNow, Instr.sameNow, h1, (MapKept.bytes_beq k q.1).2 hq], ?_⟩
   simp [mget, hq, h2]
  ·obtain ⟨r, hr, hr2⟩ := find_im k es f (i + 1) h3
   have hb : (k == q.1) = false := by rw [Bool.eq_false_iff]; exact fun h => hq ((MapKept.bytes_beq k q.1).1 h)
   exact ⟨r, by simp [Instr.findNow, Instr.sameNow, h1, hb, hr], by rw [hr2, mget, if_neg (fun z => hq z.symm)]⟩
theorem mget_append {f g : List (ByteArray × Value)} {k : ByteArray} : mget (f ++ g) k = match mget f k with | some v => some v | none => mget g k := by
 induction f with
 | nil => rfl
 | cons q f ih => rw [List.cons_append, mget, mget]; split; rfl; exact ih
section
variable {P : Program} {E : Sym} {n : Nat} {Pn : List PanicEntry → World → Prop} {w : World} {K : Value → World → Prop} {d : Option Tmp} {ty : TypeId} {pos : String} {aft : Array Edge} {g : Option (Nat × Bool)}
theorem st_imget {bq : Bool} (hE : EngB bq P E) {t kt et : TypeId} (ht : P.underlying t = some (.map kt et)) (hkt : P.underlying kt = some .string) (hz : (P.info? et).map (·.zero) = some (some .nilIface)) {B bm : Nat} {f : List (ByteArray × Value)} (h : IMap B w bm f) {k : ByteArray} {x y : Operand}
  (hk : K ((mget f k).getD .nilIface) w) : E.stop ⟨d, .lookup t x y false, ty, pos, aft, g⟩ [.map (some bm), .string k] w K := by
 obtain ⟨i0, hi, hz⟩ := Option.map_eq_some_iff.1 hz
 obtain ⟨es, clock, hb, hes⟩ := h.ex
 obtain ⟨r, hr, hr2⟩ := find_im k es.toList f 0 hes
 have hck0 : ∀ (q : Nat) (w1 : World), (Instr.checkKey es.isEmpty (q + 1) kt (.string k)).run P w1 = .ok () w1 := fun q w1 => by simp [Instr.checkKey, run_underlying hkt]
 have hck : ∀ w1 : World, (Instr.checkKey es.isEmpty 10000 kt (.string k)).run P w1 = .ok () w1 := hck0 9999
 refine hE.det (v := (mget f k).getD .nilIface) (fun w1 hx ρ hρ => ?_) hk
 simp only [opnds, b2_, b3_, b1_, and_true] at hρ
 have hb1 : w1.heap[bm]? = some (.map es clock) := hx.getMap hb
 have hg := MapKept.run_getObj_map (P := P) hb1
 rw [← hr2]
 cases r with
 | none => simp [execOp, hρ.1, hρ.2, Instr.lookup, run_underlying ht, hg, hck, Instr.findKey, run_underlying hkt, hr, zeroValue, typeInfo, hi, hz]
 | some r => simp [execOp, hρ.1, hρ.2, Instr.lookup, run_underlying ht, hg, hck, Instr.findKey, run_underlying hkt, hr]
theorem st_imgot {bq : Bool} (hE : EngB bq P E) {t kt et : TypeId} (ht : P.underlying t = some (.map kt et)) (hkt : P.underlying kt = some .string) (hz : (P.info? et).map (·.zero) = some (some .nilIface)) {B bm : Nat} {f : List (ByteArray × Value)} (h : IMap B w bm f) {k : ByteArray} {x y : Operand}
  (hk : K (.tuple ⟨[(mget f k).getD .nilIface, .bool (mget f k).isSome]⟩) w) : E.stop ⟨d, .lookup t x y true, ty, pos, aft, g⟩ [.map (some bm), .string k] w K := by
 obtain ⟨i0, hi, hz⟩ := Option.map_eq_some_iff.1 hz
 obtain ⟨es, clock, hb, hes⟩ := h.ex
 obtain ⟨r, hr, hr2⟩ := find_im k es.toList f 0 hes
 have hck0 : ∀ (q : Nat) (w1 : World), (Instr.checkKey es.isEmpty (q + 1) kt (.string k)).run P w1 = .ok () w1 := fun q w1 => by simp [Instr.checkKey, run_underlying hkt]
 have hck : ∀ w1 : World, (Instr.checkKey es.isEmpty 10000 kt (.string k)).run P w1 = .ok () w1 := hck0 9999
 refine hE.det (v := .tuple ⟨[(mget f k).getD .nilIface, .bool (mget f k).isSome]⟩) (fun w1 hx ρ hρ => ?_) hk
 simp only [opnds, b2_, b3_, b1_, and_true] at hρ
 have hb1 : w1.heap[bm]? = some (.map es clock) := hx.getMap hb
 have hg := MapKept.run_getObj_map (P := P) hb1
 rw [← hr2]
 cases r with
 | none => simp [execOp, hρ.1, hρ.2, Instr.lookup, run_underlying ht, hg, hck, Instr.findKey, run_underlying hkt, hr, zeroValue, typeInfo, hi, hz]
 | some r => simp [execOp, hρ.1, hρ.2, Instr.lookup, run_underlying ht, hg, hck, Instr.findKey, run_underlying hkt, hr]
theorem st_immk (hE : E = real P Pn n) {t : TypeId} (hk : ∀ bm w', bm = w.heap.size → Ext w w' → (∀ B, B ≤ w.heap.size → IMap B w' bm []) → K (.map (some bm)) w') : E.stop ⟨d, .makeMap t none, ty, pos, aft, g⟩ [] w K := by
 refine st_run hE (v := .map (some w.heap.size)) (w' := w.alloc (.map #[] 0)) (fun ρ hρ => ?_) (hk _ _ rfl ((Ext.refl w).alloc (n1_ _) _) fun B hB => ?_)
 ·simp [execOp, Instr.makeMap]
 ·exact ⟨hB, #[], 0, (MapKept.heap_alloc w _).1, rfl⟩
theorem st_imput (hE : E = real P Pn n) {t kt et : TypeId} (ht : P.underlying t = some (.map kt et)) (hkt : P.underlying kt = some .string) {B bm : Nat} {f : List (ByteArray × Value)} (h : IMap B w bm f) {k : ByteArray} (hno : mget f k = none) {v : Value} {x y z : Operand}
  (hk : ∀ w', Wr (mb bm) w w' → IMap B w' bm (f ++ [(k, v)]) → K undef w') : E.stop ⟨d, .mapUpdate t x y z, ty, pos, aft, g⟩ [.map (some bm), .string k, v] w K := by
 obtain ⟨es, clock, hb, hes⟩ := h.ex
 obtain ⟨r, hr, hr2⟩ := find_im k es.toList f 0 hes
 rw [hno] at hr2
 have hr3 : r = none := by cases r with
  | none => rfl
  | some _ => cases hr2
 subst hr3
 have hck0 : ∀ (q : Nat) (w1 : World), (Instr.checkKey false (q + 1) kt (.string k)).run P w1 = .ok () w1 := fun q w1 => by simp [Instr.checkKey, run_underlying hkt]
 have hck : ∀ w1 : World, (Instr.checkKey false 10000 kt (.string k)).run P w1 = .ok () w1 := hck0 9999
 refine st_runu hE (w' := { w with heap := w.heap.setIfInBounds bm (.map (es.push ⟨.string k, v, clock⟩) (clock + 1)) }) (fun ρ hρ => ?_) (hk _ ?_ ⟨h.lo, _, _, (MapKept.heap_set hb).1, by simp [hes]⟩)
 ·simp only [opnds, b2_, b3_, b1_, and_true] at hρ
  have hg := MapKept.run_getObj_map (P := P) hb
  simp [execOp, hρ.1, hρ.2.1, hρ.2.2, Instr.mapUpdate, run_underlying ht, hg, hck, Instr.findKey, run_underlying hkt, hr, MapKept.run_setObj_map _ hb]
 ·exact ⟨rfl, rfl, rfl, by simp, fun i hi hne => (MapKept.heap_set hb).2 i fun e => hne (by rw [e]; rfl)⟩
theorem st_ta {bq : Bool} (hE : EngB bq P E) {xt t : TypeId} {x : Operand} {v r : Value} (hr : ∀ w, (Instr.typeAssert v xt t true).run P w = .ok r w) (hk : K r w) : E.stop ⟨d, .typeAssert x xt t true, ty, pos, aft, g⟩ [v] w K := by
 refine hE.det (v := r) (fun w1 _ ρ hρ => ?_) hk
 simp only [opnds, b2_, b3_, b1_, and_true] at hρ
 simp [execOp, hρ, hr w1]
end
end Go.Eng
namespace Go.Proofs.YtgnjkdkedjljjaaGreatDoor
open Go.Eng
set_option linter.unusedVariables false
set_option linter.unusedSimpArgs false
theorem typeOfB_f {w : World} {A : Option Addr} {n c : Nat} {ts : List Int} (h : Ints w A n c ts) (op : Int) (h1 : 25 ≤ op) (h2 : op ≤ 27) (hk : (n : Int) = kidsF op) :
  FC Tryz.prog 246 [.int .i64 op, .slice A n c] w fun v _ => v = .int .i64 (typG op ts) := by
 refine FC.intro (cs := []) Tryz.func246 (by kernel_rfl) fun E R hE hr hR => ?_
 have hl := h.len
 have no : ∀ z : Int, z ≤ 24 → ¬ E.cmp .eql op z = true := fun z hz => by rw [hE.cmp]; simp [cmpR]; omega
 conv => cbv
 refine st_box1 hr rfl fun a w1 hx hb0 => ?_
 have hb := hb0 _ (n1_ _)
 have hl0 : w1.cell? a = some (.slice A n c) := by have := hb.at 0 _ rfl; rwa [add_zero] at this
 conv => cbv
 iterate 7 (refine br (fun g => absurd g (no _ (by omega))) (fun _ => ?_); (conv => cbv))
 refine br (fun g => ?_) (fun g => ?_)
 ·have g0 := g
  have g : op = 25 := by simpa [hE.cmp, cmpR] using g
  conv => cbv
  refine br (fun _ => ?_) (fun q => absurd g0 q)
  conv => cbv
  refine st_f hr (same_f hb (h.ext hx) 1) fun v w2 hx2 ev => ?_
  subst ev
  obtain ⟨q, hq⟩ : ∃ q, q = allT 1 ts := ⟨_, rfl⟩
  rw [← hq]
  conv => cbv
  refine st_f hr (fit_f q 1) fun v w3 hx3 ev => ?_
  subst ev
  obtain ⟨z, hz⟩ : ∃ z : Int, z = if q = true then 1 else 0 := ⟨_, rfl⟩
  rw [← hz]
  conv => cbv
  rw [hR]; exact ⟨(hx.trans hx2).trans hx3, by rw [hz, hq]; simp [one, typG, g]⟩
 have g25 : op ≠ 25 := by simpa [hE.cmp, cmpR] using g
 clear g
 conv => cbv
 refine br (fun g => ?_) (fun g => ?_)
 ·have g0 := g
  have g : op = 26 := by simpa [hE.cmp, cmpR] using g
  conv => cbv
  refine st_f hr (same_f hb (h.ext hx) 1) fun v w2 hx2 ev => ?_
  subst ev
  obtain ⟨q, hq⟩ : ∃ q, q = allT 1 ts := ⟨_, rfl⟩
  rw [← hq]
  conv => cbv
  refine st_f hr (fit_f q 1) fun v w3 hx3 ev => ?_
  subst ev
  obtain ⟨z, hz⟩ : ∃ z : Int, z = if q = true then 1 else 0 := ⟨_, rfl⟩
  rw [← hz]
  conv => cbv
  rw [hR]; exact ⟨(hx.trans hx2).trans hx3, by rw [hz, hq]; simp [one, typG, g]⟩
 have g26 : op ≠ 26 := by simpa [hE.cmp, cmpR] using g
 clear g
 have g : op = 27 := by omega
 have hn : n = 3 := by
  have : kidsF op = 3 := by rw [g]; decide
  omega
 conv => cbv
 iterate 10 (refine br (fun g => absurd g (no _ (by omega))) (fun _ => ?_); (conv => cbv))
 refine br (fun g0 => ?_) (fun g0 => absurd g (by simpa [hE.cmp, cmpR] using g0))
 conv => cbv
 refine draw_h [0, 1, 2, 3, 4, 5, 6, 7, 8, 9, 10, 11, 12, 13, 14, 15, 16] [(17, false), (18, true)] hr fol (by kernel_rfl) fun E' hE' w4 hs4 S hS => ?_
 have hl4 : w4.cell? a = some (.slice A n c) := hs4.ext.cell hl0
 have h4 := (h.ext hx).ext hs4.ext
 conv => cbv
 refine st_load hE' cInts hl4 ?_
 conv => cbv
 refine st_int hE' tInts h4 (k := 0) rfl (by omega) fun p u hu hp => ?_
 conv => cbv
 refine st_load hE' cInt hp ?_
 have fin : ∀ (q : Bool) (u1 : Int), ts[1]? = some u1 → (q = true ↔ ts[0]? = some 1 ∧ ts[1]? = ts[2]?) → (if q = true then u1 else 0) = typG op ts := fun q u1 hu1 hq => by
  have e : typG op ts = if ts[0]? = some 1 ∧ ts[1]? = ts[2]? then ts.getD 1 0 else 0 := by unfold typG; rw [if_neg (by omega), if_pos g]
  rw [e]
  cases q with
  | true => rw [if_pos rfl, if_pos (hq.1 rfl), List.getD_eq_getElem?_getD, hu1]; rfl
  | false => rw [if_neg (by simp), if_neg (fun z => absurd (hq.2 z) (by simp))]
 conv => cbv
 refine br (fun g3 => ?_) (fun g3 => ?_)
 ·have g3 : u = 1 := by simpa [hE'.cmp, cmpR] using g3
  conv => cbv
  refine st_load hE' cInts hl4 ?_
  conv => cbv
  refine st_int hE' tInts h4 (k := 1) rfl (by omega) fun p2 u2 hu2 hp2 => ?_
  conv => cbv
  refine st_load hE' cInt hp2 ?_
  conv => cbv
  refine st_load hE' cInts hl4 ?_
  conv => cbv
  refine st_int hE' tInts h4 (k := 2) rfl (by omega) fun p3 u3 hu3 hp3 => ?_
  conv => cbv
  refine st_load hE' cInt hp3 ?_
  obtain ⟨q, hq⟩ : ∃ q, q = E'.cmp .eql u2 u3 := ⟨_, rfl⟩
  have hq' : q = true ↔ u2 = u3 := by rw [hq, hE'.cmp]; simp [cmpR]
  conv => cbv
  simp only [← hq]
  refine st_load hE' cInts hl4 ?_
  conv => cbv
  refine st_int hE' tInts h4 (k := 1) rfl (by omega) fun p4 u4 hu4 hp4 => ?_
  rw [hu2] at hu4
  cases hu4
  conv => cbv
  refine st_load hE' cInt hp4 ?_
  conv => cbv
  refine st_f hr (fit_f q u2) fun v w3 hx3 ev => ?_
  subst ev
  obtain ⟨z, hz⟩ : ∃ z : Int, z = if q = true then u2 else 0 := ⟨_, rfl⟩
  rw [← hz]
  refine ⟨hS _ hx3, ?_⟩
  conv => cbv
  rw [hR]; exact ⟨(hx.trans hs4.ext).trans hx3, by rw [hz, fin q u2 hu2 (by rw [hq', hu, hu2, hu3]; simp [g3])]; rfl⟩
 ·have g3 : u ≠ 1 := by simpa [hE'.cmp, cmpR] using g3
  conv => cbv
  refine st_load hE' cInts hl4 ?_
  conv => cbv
  refine st_int hE' tInts h4 (k := 1) rfl (by omega) fun p4 u2 hu2 hp4 => ?_
  conv => cbv
  refine st_load hE' cInt hp4 ?_
  conv => cbv
  refine st_f hr (fit_f false u2) fun v w3 hx3 ev => ?_
  subst ev
  refine ⟨hS _ hx3, ?_⟩
  conv => cbv
  rw [hR]; exact ⟨(hx.trans hs4.ext).trans hx3, by rw [← fin false u2 hu2 (by simp [hu, g3])]; rfl⟩
theorem typeOfG_f {w : World} {A : Option Addr} {n c : Nat} {ts : List Int} (h : Ints w A n c ts) (op : Int) (hk : (n : Int) = kidsF op) (h1 : 1 ≤ n) :
  FC Tryz.prog 246 [.int .i64 op, .slice A n c] w fun v _ => v = .int .i64 (typG op ts) := by
 have hr : 8 ≤ op ∧ op ≤ 27 := by
  have h1 : 1 ≤ kidsF op := by omega
  unfold kidsF at h1; (repeat' split at h1) <;> omega
 by_cases g : op ≤ 24
 ·have := typeOf_f h op hr.1 g hk
  have e : typG op ts = typF op ts := by unfold typG; rw [if_neg (by omega), if_neg (by omega)]
  rw [e]; exact this
 ·exact typeOfB_f h op (by omega) hr.2 hk
theorem fCk0 : Fld Tryz.prog 185 0 0 := ⟨by kernel_rfl⟩
theorem fCk1 : Fld Tryz.prog 185 1 1 := ⟨by kernel_rfl⟩
theorem fCk2 : Fld Tryz.prog 185 2 2 := ⟨by kernel_rfl⟩
theorem cMp : Cel Tryz.prog 183 := ⟨_, Tryz.underlying183, by simp, by simp⟩
theorem uMp : Tryz.prog.underlying 183 = some (.map 9 178) := Tryz.underlying183
theorem uMis : ∃ u, Tryz.prog.underlying 103 = some u ∧ ∀ ms, u ≠ .interface ms := ⟨_, Tryz.underlying103, by simp⟩
structure Gr2 (w : World) (q : Addr) (A : Option Addr) (w' : World) (A' : Option Addr) : Prop where
 os : w'.os = w.os
 tape : w'.tape = w.tape
 output : w'.output = w.output
 size : w.heap.size ≤ w'.heap.size
 block : ∀ k, k < w.heap.size → k ≠ q.block → some k ≠ blk A → w'.heap[k]? = w.heap[k]?
 at_ : blk A' = blk A ∨ ∃ b, blk A' = some b ∧ w.heap.size ≤ b
theorem Gr2.refl (w : World) (q : Addr) (A : Option Addr) : Gr2 w q A w A := ⟨rfl, rfl, rfl, n1_ _, fun _ _ _ _ => rfl, .inl rfl⟩
theorem Gr2.trans {a b c : World} {q : Addr} {A B C : Option Addr} (h : Gr2 a q A b B) (k : Gr2 b q B c C) : Gr2 a q A c C := by
 refine ⟨k.os.trans h.os, k.tape.trans h.tape, k.output.trans h.output, n2_ h.size k.size, fun i hi hq hn => ?_, ?_⟩
 ·rw [k.block i (n3_ hi h.size) hq (by
   rcases h.at_ with e | ⟨b0, e, hb⟩
   ·rw [e]; exact hn
   ·rw [e]; intro q; cases q; omega), h.block i hi hq hn]
 ·rcases k.at_ with e | ⟨b0, e, hb⟩
  ·rw [e]; exact h.at_
  ·exact .inr ⟨b0, e, n2_ h.size hb⟩
theorem ext_gr2 {w w' : World} (h : Ext w w') (q : Addr) (A : Option Addr) : Gr2 w q A w' A := ⟨h.os, h.tape, h.output, h.size, fun k hk _ _ => h.block k hk, .inl rfl⟩
theorem Gr2.of_gro {w w' : World} {q : Addr} {A A' : Option Addr} (h : Gro w A w' A') : Gr2 w q A w' A' := ⟨h.wr.os, h.wr.tape, h.wr.output, h.wr.size, fun k hk _ hn => h.wr.block k hk hn, h.at_⟩
theorem Gr2.of_wr {w w' : World} {q : Addr} (hq : blk (some q) = some q.block) {A : Option Addr} (h : Wr (some q) w w') : Gr2 w q A w' A := ⟨h.os, h.tape, h.output, h.size, fun k hk hn _ => h.block k hk (by rw [hq]; intro e; cases e; exact hn rfl), .inl rfl⟩
theorem Gr2.bel {w0 w w' : World} {q : Addr} {A A' : Option Addr} {ws m c : Nat} {xs : List Value} (h : Gr2 w q A w' A') (hx : Ext w0 w) (hq : w0.heap.size ≤ q.block) (hA : Own ws 3 1 w A m c xs) (hw : w0.heap.size ≤ ws) : Ext w0 w' :=
 hx.then ⟨h.os, h.tape, h.output, h.size, fun k hk => h.block k (by have := hx.size; omega) (by omega) (fun e => by
  have := own_blk hA k e.symm
  omega)⟩
theorem own_keep {B : Nat} {e : TypeId} {k : Nat} {w w' : World} {A : Option Addr} {m c : Nat} {xs : List Value} (h : Own B e k w A m c xs) (hk : ∀ g, blk A = some g → w'.heap[g]? = w.heap[g]?) : Own B e k w' A m c xs := by
 refine ⟨h.1, ?_⟩
 rcases h.2 with h1 | ⟨g, cap, cur, h1, h2, h3, h4⟩
 ·exact .inl h1
 ·refine .inr ⟨g, cap, cur, h1, h2, ?_, h4⟩
  simp only [Value.slice.injEq] at h1
  rw [hk g (by rw [h1.1]; rfl)]
  exact h3
theorem Gr2.own {w w' : World} {q : Addr} {A A' X : Option Addr} (h : Gr2 w q A w' A') {B k m c : Nat} {e : TypeId} {xs : List Value} (hx : Own B e k w X m c xs) (hq : blk X ≠ some q.block) (ha : Apart X A) : Own B e k w' X m c xs :=
 own_keep hx fun g hg => h.block g (own_blk hx g hg).2 (fun e => hq (by rw [hg, e])) (fun e => by
  rcases ha with rfl | ha
  ·simp [Eng.blk, Value.ownBlock] at hg
  ·exact ha (by rw [hg]; exact e))
structure KB (w0s ws : Nat) (q : Addr) (bm : Nat) : Prop where
 hq : w0s ≤ q.block ∧ q.block < ws
 eq : blk (some q) = some q.block
 m : w0s ≤ bm ∧ bm < ws
 qm : bm ≠ q.block
 le : w0s ≤ ws
structure KC (w0s ws : Nat) (w : World) (q : Addr) (bm : Nat) (f : List (ByteArray × Value)) (tys acc : List Int) (TA A : Option Addr) (tn tc na c : Nat) : Prop where
 box : Box w0s 185 3 w q [.slice TA tn tc, .map (some bm), .slice A na c]
 map : IMap w0s w bm f
 rT : Own ws 3 1 w TA tn tc (tys.map (.int .i64))
 rA : Own ws 3 1 w A na c (acc.map (.int .i64))
 aTA : Apart TA A ∧ Apart A TA
 hs : ws ≤ w.heap.size
section
variable {w0s ws : Nat} {w w' : World} {q : Addr} {bm : Nat} {f : List (ByteArray × Value)} {tys acc : List Int} {TA A : Option Addr} {tn tc na c : Nat}
theorem KC.len (h : KC w0s ws w q bm f tys acc TA A tn tc na c) : tys.length = tn ∧ acc.length = na := by
 have h1 := h.rT.len
 have h2 := h.rA.len
 rw [List.length_map] at h1 h2
 omega
theorem KC.ext (h : KC w0s ws w q bm f tys acc TA A tn tc na c) (hx : Ext w w') : KC w0s ws w' q bm f tys acc TA A tn tc na c :=
 ⟨h.box.bel hx, h.map.bel hx, h.rT.bel hx, h.rA.bel hx, h.aTA, n2_ h.hs hx.size⟩
theorem KC.low (hb : KB w0s ws q bm) (h : KC w0s ws w q bm f tys acc TA A tn tc na c) : (Apart A (some q) ∧ Apart (some q) A) ∧ blk A ≠ some bm ∧ blk TA ≠ some q.block := by
 refine ⟨own_low h.rA hb.hq.2 hb.eq, fun e => ?_, fun e => ?_⟩
 ·have := (own_blk h.rA _ e).1; have := hb.m; omega
 ·have := (own_blk h.rT _ e).1; have := hb.hq; omega
theorem put_g (hb : KB w0s ws q bm) (h : KC w0s ws w q bm f tys acc TA A tn tc na c) (hna : na ≤ 4000) (ty : Int) :
  GC Tryz.prog 244 [.pointer (some q), .int .i64 ty] w fun v w' => v = .int .i64 ty ∧ ∃ A' c', Gr2 w q A w' A' ∧ KC w0s ws w' q bm f tys (acc ++ [ty]) TA A' tn tc (na + 1) c' := by
 refine GC.intro (cs := []) Tryz.func244 (by kernel_rfl) fun E R hE hr hR => ?_
 have hlow := h.low hb
 conv => cbv
 refine st_nil hE ?_
 conv => cbv
 refine st_fld hE fCk2 fun p hp => ?_
 conv => cbv
 refine st_load hE cInts (by rw [hp]; exact h.box.at 2 _ rfl) ?_
 conv => cbv
 refine st_one hr tInts rfl rfl fun A1 w1 hx1 hc1 => ?_
 have h1 := h.ext hx1
 conv => cbv
 refine st_appsG hr tInts rfl h1.rA hc1 rfl (by simp [Value.oneCell']) h1.hs (by omega) (by omega) fun A2 c2 m2 w2 hm2 hw2 ho2 hk2 => ?_
 subst hm2
 have hg : Gro w1 A w2 A2 := Gro.app (Ext.refl _) hw2 hk2
 have hg2 := (ext_gr2 hx1 q A).trans (Gr2.of_gro hg)
 conv => cbv
 refine st_nil hE ?_
 conv => cbv
 refine st_fld hE fCk2 fun p2 hp2 => ?_
 conv => cbv
 refine st_put hr zInts2 (h1.box.wr hw2 hlow.1.2) hp2 (by simp) rfl fun w3 hw3 hb3 => ?_
 simp only [b4_, b5_] at hb3
 have hg3 := hg2.trans (Gr2.of_wr hb.eq (A := A2) hw3)
 conv => cbv
 rw [hR]
 have ap2 := gro_apart (B := 0) (m := 0) (c := 0) (xs := []) h1.rT h1.aTA.symm hg ho2
 refine ⟨rfl, A2, c2, hg3, hb3, (h1.map.wr hw2 hlow.2.1).wr hw3 (by rw [hb.eq]; intro e; cases e; exact hb.qm rfl), (h1.rT.wr hw2 h1.aTA.1).wr hw3 (own_low h1.rT hb.hq.2 hb.eq).1, ?_, ap2.symm, n2_ h1.hs (n2_ hw2.size hw3.size)⟩
 rw [List.map_append]
 exact ho2.wr hw3 (own_low ho2 hb.hq.2 hb.eq).1
section
variable {E : Sym} {K : Value → World → Prop} {d : Option Tmp} {ty : TypeId} {pos : String} {aft : Array Edge} {g : Option (Nat × Bool)} {bq : Bool}
theorem run_bMis (c a : Int) (w : World) : (Instr.build 103 #[(0, .int .i64 c), (1, .int .i64 a)]).run Tryz.prog w = .ok (.agg #[.int .i64 c, .int .i64 a]) w := by kernel_rfl
theorem st_bMis (hE : EngB bq Tryz.prog E) {c a : Int} {x y : Operand} (hk : K (.agg ⟨[.int .i64 c, .int .i64 a]⟩) w) : E.stop ⟨d, .build 103 ⟨[(0, x), (1, y)]⟩, ty, pos, aft, g⟩ [.int .i64 c, .int .i64 a] w K := by
 refine hE.det (v := .agg ⟨[.int .i64 c, .int .i64 a]⟩) (fun w1 _ ρ hρ => ?_) hk
 simp only [opnds, b2_, b3_, b1_, and_true] at hρ
 have := run_bMis c a w1
 simp [execOp, hρ, this]
end
def misV (c a : Int) : Value := .iface 103 (.agg ⟨[.int .i64 c, .int .i64 a]⟩)
theorem wrong_f (h : KC w0s ws w q bm f tys acc TA A tn tc na c) (co : Int) : FC Tryz.prog 245 [.pointer (some q), .int .i64 co] w fun v _ => v = misV co na := by
 refine FC.intro (cs := []) Tryz.func245 (by kernel_rfl) fun E R hE hr hR => ?_
 conv => cbv
 refine st_nil hE ?_
 conv => cbv
 refine st_fld hE fCk2 fun p hp => ?_
 conv => cbv
 refine st_load hE cInts (by rw [hp]; exact h.box.at 2 _ rfl) ?_
 conv => cbv
 refine st_len hE tInts fun x hx => ?_
 conv => cbv
 refine st_bMis hE ?_
 conv => cbv
 refine st_mk hE uMis ?_
 conv => cbv
 rw [hR]; exact ⟨Ext.refl _, by rw [hx]; rfl⟩
theorem top_f (h : KC w0s ws w q bm f tys acc TA A tn tc na c) (hna : na ≤ 4001) (co : Int) : FC Tryz.prog 161 [.pointer (some q), .int .i64 co] w fun v _ => v = misV co ((na : Int) - 1) := by
 refine FC.intro (cs := []) Tryz.func161 (by kernel_rfl) fun E R hE hr hR => ?_
 conv => cbv
 refine st_nil hE ?_
 conv => cbv
 refine st_fld hE fCk2 fun p hp => ?_
 conv => cbv
 refine st_load hE cInts (by rw [hp]; exact h.box.at 2 _ rfl) ?_
 conv => cbv
 refine st_len hE tInts fun x hx => ?_
 obtain ⟨y, hy⟩ : ∃ y : Int, y = (na : Int) - 1 := ⟨_, rfl⟩
 have ex : E.ar .sub .i64 x 1 = y := by rw [hE.ar, show arR .sub .i64 x 1 = IntKind.i64.wrap (x - 1) from rfl, wrap_in (by omega) (by omega)]; omega
 conv => cbv
 simp only [ex]
 refine st_bMis hE ?_
 conv => cbv
 refine st_mk hE uMis ?_
 conv => cbv
 rw [hR]; exact ⟨Ext.refl _, by rw [hy]; rfl⟩
end
def atV (i : Int) : Value := .iface 274 (.agg ⟨[.int .i64 i]⟩)
def ltV (i : Int) : Value := .iface 277 (.agg ⟨[.int .i64 i]⟩)
def lsL (v : Int → Value) : List ByteArray → Nat → List (ByteArray × Value)
 | [], _ => []
 | s :: l, i => (s, v i) :: lsL v l (i + 1)
def fN (names : List ByteArray) : List (ByteArray × Value) := lsL atV attrs 0 ++ lsL ltV names 0
theorem lsL_get (v : Int → Value) (s : ByteArray) : ∀ (l : List ByteArray) (i : Nat), mget (lsL v l i) s = (posF l s).map fun k => v ((i + k : Nat) : Int)
 | [], i => rfl
 | x :: l, i => by
  rw [lsL, mget, posF]
  by_cases h : x = s
  ·rw [if_pos h, if_pos h]; rfl
  ·rw [if_neg h, if_neg h, lsL_get v s l (i + 1)]
   cases posF l s with
   | none => rfl
   | some k => simp only [Option.map_some]; rw [show i + 1 + k = i + (k + 1) by omega]
theorem fN_get (names : List ByteArray) (s : ByteArray) : mget (fN names) s = match posF attrs s with | some k => some (atV k) | none => (posF names s).map fun k : Nat => ltV (k : Int) := by
 unfold fN
 rw [mget_append, lsL_get, lsL_get]
 cases posF attrs s with
 | none => simp only [Option.map_none, Nat.zero_add]
 | some k => simp
theorem lsL_app (v : Int → Value) : ∀ (l r : List ByteArray) (i : Nat), lsL v (l ++ r) i = lsL v l i ++ lsL v r (i + l.length)
 | [], r, i => by simp [lsL]
 | x :: l, r, i => by rw [List.cons_append, lsL, lsL, lsL_app v l r (i + 1), a3_, show i + 1 + l.length = i + (l.length + 1) by omega]; rfl
theorem fN_app (names : List ByteArray) (s : ByteArray) : fN (names ++ [s]) = fN names ++ [(s, ltV names.length)] := by
 unfold fN; rw [lsL_app, List.append_assoc, Nat.zero_add]; rfl
theorem tAr : Stc Tryz.prog 240 3 [.string ⟨#[]⟩, .int .i64 0, .nilFunc] := ⟨by kernel_rfl, by kernel_rfl⟩
theorem sAr : Slc Tryz.prog 241 240 (.agg ⟨[.string ⟨#[]⟩, .int .i64 0, .nilFunc]⟩) 3 32 := ⟨Tryz.underlying241, by kernel_rfl⟩
theorem fAr0 : Fld Tryz.prog 240 0 0 := ⟨by kernel_rfl⟩
theorem fAr1 : Fld Tryz.prog 240 1 1 := ⟨by kernel_rfl⟩
def arT : List (ByteArray × Int × FuncId) := [(⟨⟨[99, 108, 105, 101, 110, 116]⟩⟩, 3, 187), (⟨⟨[117, 115, 101, 114]⟩⟩, 3, 188), (⟨⟨[108, 101, 118, 101, 108]⟩⟩, 2, 189), (⟨⟨[110, 111, 119]⟩⟩, 2, 190), (⟨⟨[97, 115, 107, 101, 100]⟩⟩, 4, 191), (⟨⟨[97, 103, 114, 101, 101, 100]⟩⟩, 4, 192)]
def aC (x : ByteArray × Int × FuncId) : List Value := [.string x.1, .int .i64 x.2.1, .func (.func x.2.2) #[] #[]]
theorem aC_len (x : ByteArray × Int × FuncId) : (aC x).length = 3 := rfl
theorem arT_at {i : Nat} (hi : i < 6) : ∃ f, arT[i]? = some (attrs.getD i ⟨#[]⟩, attrF i, f) := by
 have : i = 0 ∨ i = 1 ∨ i = 2 ∨ i = 3 ∨ i = 4 ∨ i = 5 := by omega
 rcases this with rfl | rfl | rfl | rfl | rfl | rfl <;> exact ⟨_, rfl⟩
theorem attrs_at {i : Nat} (hi : i < 6) : attrs[i]? = some (attrs.getD i ⟨#[]⟩) := by
 rw [List.getD_eq_getElem?_getD, g2_ (show i < attrs.length from hi)]; rfl
section
variable {E : Sym} {w : World} {K : Value → World → Prop} {d : Option Tmp} {ty : TypeId} {pos : String} {aft : Array Edge} {g : Option (Nat × Bool)} {bq : Bool}
theorem run_bAr (s : ByteArray) (t : Int) (f : FuncId) (w : World) : (Instr.build 240 #[(0, .string s), (1, .int .i64 t), (2, .func (.func f) #[] #[])]).run Tryz.prog w = .ok (.agg #[.string s, .int .i64 t, .func (.func f) #[] #[]]) w := by kernel_rfl
theorem st_bAr (hE : EngB bq Tryz.prog E) {s : ByteArray} {t : Int} {f : FuncId} {x y z : Operand} (hk : K (.agg ⟨[.string s, .int .i64 t, .func (.func f) #[] #[]]⟩) w) : E.stop ⟨d, .build 240 ⟨[(0, x), (1, y), (2, z)]⟩, ty, pos, aft, g⟩ [.string s, .int .i64 t, .func (.func f) #[] #[]] w K := by
 refine hE.det (v := .agg ⟨[.string s, .int .i64 t, .func (.func f) #[] #[]]⟩) (fun w1 _ ρ hρ => ?_) hk
 simp only [opnds, b2_, b3_, b1_, and_true] at hρ
 have := run_bAr s t f w1
 simp [execOp, hρ, this]
theorem run_bCk (m : Nat) (w : World) : (Instr.build 185 #[(1, .map (some m))]).run Tryz.prog w = .ok (.agg #[.slice none 0 0, .map (some m), .slice none 0 0]) w := by kernel_rfl
theorem st_bCk (hE : EngB bq Tryz.prog E) {m : Nat} {x : Operand} (hk : K (.agg ⟨[.slice none 0 0, .map (some m), .slice none 0 0]⟩) w) : E.stop ⟨d, .build 185 ⟨[(1, x)]⟩, ty, pos, aft, g⟩ [.map (some m)] w K := by
 refine hE.det (v := .agg ⟨[.slice none 0 0, .map (some m), .slice none 0 0]⟩) (fun w1 _ ρ hρ => ?_) hk
 simp only [opnds, b2_, b3_, b1_, and_true] at hρ
 have := run_bCk m w1
 simp [execOp, hρ, this]
end
theorem attributes_f (w : World) : FC Tryz.prog 132 [] w fun v w' => ∃ a, v = .slice (some a) 6 6 ∧ Own w.heap.size 240 3 w' (some a) 6 6 (arT.flatMap aC) := by
 refine FC.intro (cs := []) Tryz.func132 (by kernel_rfl) fun E R hE hr hR => ?_
 conv => cbv
 iterate 6 (refine st_bAr hE ?_; (conv => cbv))
 refine st_litsK hr sAr rfl (by omega) (vs := arT.map fun l => .agg ⟨aC l⟩) (m := 6) rfl (by omega) (by omega) rfl (by simp [arT, aC, Value.cells]) (cs := arT.flatMap aC) rfl fun A w1 hx ho => ?_
 have ho := ho _ (n1_ _)
 obtain ⟨g, hg, _⟩ := ho.addr (by omega)
 conv => cbv
 rw [hR]
 refine ⟨hx, ⟨g, 0, none⟩, by rw [hg]; rfl, by rw [← hg]; exact ho⟩
theorem newChecker_f (w : World) : FC Tryz.prog 104 [] w fun v w' => ∃ q bm ws, v = .pointer (some q) ∧ KB w.heap.size ws q bm ∧ KC w.heap.size ws w' q bm (fN []) [] [] none none 0 0 0 0 := by
 refine FC.intro (cs := []) Tryz.func104 (by kernel_rfl) fun E R hE hr hR => ?_
 conv => cbv
 refine st_immk hr fun bm w1 hbm hx1 hm0 => ?_
 have hm := hm0 _ (n1_ _)
 have hmh := hm.hi
 clear hm0
 conv => cbv
 refine st_bCk hE ?_
 conv => cbv
 refine st_box hr fun q w2 hx2 hb0 => ?_
 have hb := hb0 _ (n1_ _)
 have fq := bx_form hb
 replace hb := hb.mono hx1.size
 clear hb0
 have hKB : KB w.heap.size w2.heap.size q bm := ⟨⟨by have := hx1.size; omega, fq.2.1⟩, fq.2.2, ⟨by omega, by have := hx2.size; omega⟩, by omega, by have := hx1.size; have := hx2.size; omega⟩
 replace hm := hm.bel hx2
 have hx := hx1.trans hx2
 conv => cbv
 refine st_f hr (attributes_f w2) fun v w3 hx3 ⟨a, ev, hA⟩ => ?_
 subst ev
 replace hm := hm.bel hx3
 replace hb := hb.bel hx3
 replace hx := hx.trans hx3
 have hs3 := hx3.size
 conv => cbv
 refine st_len hE sAr fun x hx' => ?_
 conv => cbv
 have fa := bx_form hA
 have ca : blk (some a) ≠ some bm := by rw [fa.2.2]; intro e; cases e; have := hx2.size; have := hKB.m; omega
 refine loop_rule hr (fun (s : Nat × Int) w' => s.1 ≤ 6 ∧ s.2 = (s.1 : Int) ∧ Ext w w' ∧ w2.heap.size ≤ w'.heap.size ∧ Own w2.heap.size 240 3 w' (some a) 6 6 (arT.flatMap aC) ∧ IMap w.heap.size w' bm (lsL atV (attrs.take s.1) 0) ∧ Box w.heap.size 185 3 w' q [.slice none 0 0, .map (some bm), .slice none 0 0]) (fun s => [(1, .pointer (some q)), (7, .slice (some a) 6 6), (8, .int .i64 x), (9, .int .i64 s.2)]) (fun s => 6 - s.1) (0, 0)
  (by simp [Fits, lk]) ⟨by simp, by simp, hx, hs3, hA, by simpa [lsL] using hm, hb⟩ ?_
 clear hx hs3 hA hm hb
 rintro I hI ⟨i, ii⟩ w' ⟨hi, hii, hx, hs, hA, hm, hb⟩
 simp only at hi hii hm
 obtain ⟨ij, hij⟩ : ∃ z, z = ii + 1 := ⟨_, rfl⟩
 conv => cbv
 refine br (fun g => ?_) (fun g => ?_)
 ·have g : i < 6 := by
   have : ii < x := by simpa [hE.cmp, cmpR] using g
   omega
  have ei : E.ar .add .i64 ii 1 = ij := by rw [hE.ar, hij]; exact wrap_in (by omega) (by omega)
  have hin : ii.toNat = i := by omega
  obtain ⟨f, hf⟩ := arT_at g
  obtain ⟨sn, hsn⟩ : ∃ s, s = attrs.getD i ⟨#[]⟩ := ⟨_, rfl⟩
  have hat := attrs_at g
  rw [← hsn] at hf hat
  obtain ⟨a', ha', hcell⟩ := fl_at aC_len hA.cells (by omega) hf
  cases ha'
  obtain ⟨at1, hat1⟩ : ∃ t, t = attrF i := ⟨_, rfl⟩
  rw [← hat1] at hcell
  conv => cbv
  refine st_idx hE sAr rfl (by omega) (by omega) fun p hp => ?_
  rw [hin] at hp
  conv => cbv
  refine st_loadS hE tAr (vs := [.string sn, .int .i64 at1, .func (.func f) #[] #[]]) rfl (by rw [hp]; exact hcell) ?_
  conv => cbv
  refine st_alloc hr tAr rfl fun q3 w4 hx4 hq0 => ?_
  conv => cbv
  refine st_putS hr (by kernel_rfl) (hq0 _ (n1_ _)) (add_zero _).symm (by simp) (by simp [Value.oneCell']) fun w5 hw5 hq3 => ?_
  simp only [a1_, a2_, a3_, a4_, a5_, a6_, a7_] at hq3
  have hxy := hx4.then (hw5.bel (hq0 _ (n1_ _)) hx4.size)
  clear hq0 hw5 hx4
  conv => cbv
  refine draw_t [0, 1, 2, 3, 4, 5, 6, 7, 8] [(9, false)] hr fol (by kernel_rfl) fun E' hE' w6 hs6 S hS => ?_
  have hx6 := hxy.trans hs6.ext
  replace hm := hm.bel hx6
  replace hb := hb.bel hx6
  replace hA := hA.bel hx6
  replace hx := hx.trans hx6
  replace hs := n2_ hs hx6.size
  replace hq3 := hq3.bel hs6.ext
  conv => cbv
  refine st_nil hE' ?_
  conv => cbv
  refine st_fld hE' fCk1 fun p1 hp1 => ?_
  conv => cbv
  refine st_load hE' cMp (by rw [hp1]; exact hb.at 1 _ rfl) ?_
  conv => cbv
  refine st_fld hE' fAr0 fun p2 hp2 => ?_
  conv => cbv
  refine st_load hE' cStr (by rw [hp2]; exact hq3.at 0 _ rfl) ?_
  conv => cbv
  refine st_bAtt hE' ?_
  conv => cbv
  refine st_mk hE' uAtT ?_
  conv => cbv
  refine st_imput hr uMp uStr hm ?_ fun w7 hw7 hm7 => ?_
  ·rw [lsL_get, posF_none]
   ·rfl
   ·have : ∀ j, j < 6 → attrs.getD j ⟨#[]⟩ ∉ attrs.take j := by decide +kernel
    rw [hsn]; exact this i g
  conv => cbv
  simp only [ei]
  have hqm := hKB.qm
  refine ⟨(i + 1, ij), by simp [Fits, lk], hI _ _ ⟨by simp only; omega, by simp only; omega, hx.then ⟨hw7.os, hw7.tape, hw7.output, hw7.size, fun k hk => hw7.block k (by have := hx.size; omega) (by rw [mb_blk]; intro e; cases e; have := hKB.m; omega)⟩, n2_ hs hw7.size, hA.wr hw7 (.inr (by rw [mb_blk]; exact ca)), ?_, hb.wr hw7 (.inr (by rw [mb_blk, hKB.eq]; intro e; cases e; exact hqm rfl))⟩, by simp only; omega⟩
  simp only
  rw [g4_, hat, lsL_app]
  have : (attrs.take i).length = i := by rw [List.length_take]; have : attrs.length = 6 := rfl; omega
  rw [this, Nat.zero_add, hii] at *
  exact hm7
 ·have g : i = 6 := by
   have : ¬ ii < x := by simpa [hE.cmp, cmpR] using g
   omega
  subst g
  rw [g3_ (by decide)] at hm
  conv => cbv
  rw [hR]
  exact ⟨hx, q, bm, w2.heap.size, rfl, hKB, hb, by unfold fN; simpa [lsL] using hm, Own.nil, Own.nil, ⟨.inl rfl, .inl rfl⟩, hs⟩
end Go.Proofs.YtgnjkdkedjljjaaGreatDoor
namespace Go.Eng
set_option linter.unusedVariables false
def wreal (S : World → Prop) (P : Program) : Sym where
 ar := arR
 cmp := cmpR
 scmp := scmpR
 nat := Int.ofNat
 len := ByteArray.size
 stop o vals w K := ∃ v, (∀ w1, S w1 → ∀ ρ : Operand → Value, (opnds o.op).map ρ = vals → (execOp ρ o).run P w1 = .ok (.value v) w1) ∧ K v w
 loop _ _ _ _ := False
 draw _ _ _ _ _ := False
 cut _ _ _ _ _ := False
 cell _ _ _ _ := False
structure EngW (S : World → Prop) (P : Program) (E : Sym) : Prop where
 det : ∀ {o vals w v K}, (∀ w1, S w1 → ∀ ρ : Operand → Value, (opnds o.op).map ρ = vals → (execOp ρ o).run P w1 = .ok (.value v) w1) → K v w → E.stop o vals w K
section
variable {P : Program} {Pn : List PanicEntry → World → Prop} {n : Nat}
theorem ePh1_soundW {S : World → Prop} {w : World} {all : List Oper} (hs : Region.noSelect all.toArray = true) (hd : ∀ o ∈ all, ∀ t, o.dst = some t → t < n) {K : Exit → Fr → World → Prop} {w0 : World} (hS : S w0) (l2 : List (Nat × Bool)) (K1 : Fr → World → Prop) : ∀ (l : List Nat) (listed : Array Bool) (F : Fr) (a : Act), Kn n F a → planB1 all.toArray l l2 listed = true → ePh1 (wreal S P) all l F w K1 →
  (∀ F a listed, Kn n F a → planB2 all.toArray l2 listed = true → K1 F w → wpAnyH P .any all.toArray (QK Pn n K) S l2.length listed a w0) → wpAnyH P .any all.toArray (QK Pn n K) S (l.length + l2.length) listed a w0
 | [], listed, F, a, hk, hB, h, h2 => by simpa using h2 F a listed hk hB h
 | k :: l, listed, F, a, hk, hB, h, h2 => by
  simp only [planB1, Bool.and_eq_true] at hB
  obtain ⟨⟨hf, hr⟩, hB⟩ := hB
  simp only [ePh1] at h
  split at h
  ·exact h.elim
  ·rename_i o ho
   obtain ⟨v, F', hy, hk', h⟩ := step_yields (P := P) (n := n) (S := S) (E' := wreal S P) (fun _ _ => rfl) (fun _ _ _ ⟨v, h1, h2⟩ => ⟨v, fun w1 hw1 => h1 w1 hw1, h2⟩) (hd o (m1_ ho)) hk h
   have := wpAnyH_take (by simpa using ho) hs hf hr panic_put hy hS (ePh1_soundW hs hd hS l2 K1 l _ F' _ hk' hB h h2)
   simpa [Nat.add_right_comm] using this
section
variable {S : World → Prop} {E : Sym} {w : World} {K : Value → World → Prop} {d : Option Tmp} {ty : TypeId} {pos : String} {aft : Array Edge} {g : Option (Nat × Bool)}
theorem sw_fld (hE : EngW S P E) {t : TypeId} {i off : Nat} (ht : Fld P t i off) {a : Addr} {x : Operand} (hk : ∀ p, p = a.add off → K (.pointer (some p)) w) : E.stop ⟨d, .fieldAddr t x i, ty, pos, aft, g⟩ [.pointer (some a)] w K := by
 obtain ⟨dd, h1, h2⟩ := Option.bind_eq_some_iff.1 ht.e
 split at h2
 ·rename_i fs
  obtain ⟨f, h3, h4⟩ := Option.bind_eq_some_iff.1 h2
  obtain ⟨j, h5, h6⟩ := Option.map_eq_some_iff.1 h4
  simp only [Prod.mk.injEq] at h6
  obtain ⟨rfl, h7⟩ := h6
  have h7 : ¬ j.size = 0 := by intro e; rw [e] at h7; simp at h7
  refine hE.det (v := .pointer (some (a.add f.offset))) (fun w1 _ ρ hρ => ?_) (hk _ rfl)
  simp only [opnds, b2_, b3_, b1_, and_true] at hρ
  simp [execOp, hρ, Instr.fieldAt, underlying, h1, h3, Instr.sureAddr, fieldPlace, sizeOf, typeInfo, h5, h7]
 ·cases h2
theorem sw_load (hE : EngW S P E) {t : TypeId} (ht : Cel P t) {p : Addr} {v : Value} {x : Operand} (hc : ∀ w1, S w1 → w1.cell? p = some v) (hk : K v w) : E.stop ⟨d, .load t x, ty, pos, aft, g⟩ [.pointer (some p)] w K := by
 obtain ⟨d0, hu, h1, h2⟩ := ht.a
 refine hE.det (v := v) (fun w1 hs ρ hρ => ?_) hk
 simp only [opnds, b2_, b3_, b1_, and_true] at hρ
 have hc' : w1.cell? p = some v := hc w1 hs
 have : (isAgg t).run P w1 = .ok false w1 := by
  simp only [isAgg, underlying, Sem.run_bind, run_program, Result.andThen_ok, hu, Sem.run_pure]
 simp [execOp, hρ, Instr.loadAt, Instr.sureAddr, loadVar, this, hc']
end
end
set_option linter.unusedSimpArgs false
section
variable {P : Program} {Pn : List PanicEntry → World → Prop} {n : Nat}
theorem draw_s (S : World → Prop) (l1 : List Nat) (l2 : List (Nat × Bool)) {E : Sym} (hE : E = real P Pn n) {id : Nat} {ops : Array Oper} {F : Fr} {w : World} {K : Exit → Fr → World → Prop} (hm : P.follows .mixedOrders = true) (hB : planB ops l1 l2 = true) (hS : ∀ w0, Same w w0 → S w0)
  (h : ∀ E', EngW S P E' → ∀ w0, Same w w0 → ePh1 E' ops.toList l1 F w0 (fun F' w' => ePh2 E S ops.toList l2 F' w' (K .normal))) : E.draw id ops F w K := by
 subst hE
 intro hd a hk
 simp only [planB, Bool.and_eq_true, Nat.beq_eq] at hB
 obtain ⟨⟨hs, hl⟩, hB⟩ := hB
 have hs' : Region.noSelect ops.toList.toArray = true := by simpa using hs
 have h0 : S { w with drawn := w.drawn + 1 } := hS _ (Same.drew w)
 refine wp_region_held (S := S) hm ?_
 have := ePh1_soundW (Pn := Pn) (K := K) (n := n) (S := S) (w := { w with drawn := w.drawn + 1 }) hs' (okDst_ops hd) h0 l2 _ l1 (Array.replicate ops.size false) F a hk (by simpa using hB) (h (wreal S P) ⟨fun {_ _ _ v _} h hk => ⟨v, h, hk⟩⟩ _ (Same.drew w))
  (fun F a listed hk hB h => ePh2_sound hs' (okDst_ops hd) l2 listed F a _ h0 hk hB h)
 rw [hl] at this
 simpa using this
variable {S : World → Prop} {E : Sym} {w : World} {K : Value → World → Prop} {d : Option Tmp} {ty : TypeId} {pos : String} {aft : Array Edge} {g : Option (Nat × Bool)}
theorem sw_loadS (hE : EngW S P E) {t : TypeId} {k : Nat} {zs vs : List Value} (ht : Stc P t k zs) (hl : vs.length = k) {p : Addr} {x : Operand} (hc : ∀ w1, S w1 → ∀ j v, vs[j]? = some v → w1.cell? (p.add j) = some v) (hk : K (.agg ⟨vs⟩) w) : E.stop ⟨d, .load t x, ty, pos, aft, g⟩ [.pointer (some p)] w K := by
 refine hE.det (v := .agg ⟨vs⟩) (fun w1 hs ρ hρ => ?_) hk
 simp only [opnds, b2_, b3_, b1_, and_true] at hρ
 have := run_loadVar_agg ht hl (p := p) (w := w1) fun j v hv => hc w1 hs j v hv
 simp [execOp, hρ, Instr.loadAt, Instr.sureAddr, this]
theorem sw_mk (hE : EngW S P E) {t : TypeId} (ht : ∃ u, P.underlying t = some u ∧ ∀ ms, u ≠ .interface ms) {x : Operand} {v : Value} (hk : K (.iface t v) w) : E.stop ⟨d, .makeInterface t x, ty, pos, aft, g⟩ [v] w K := by
 obtain ⟨u, hu, hn⟩ := ht
 refine hE.det (v := .iface t v) (fun w1 _ ρ hρ => ?_) hk
 simp only [opnds, b2_, b3_, b1_, and_true] at hρ
 cases u <;> simp [execOp, hρ, Instr.makeInterface, run_underlying hu] <;> exact absurd rfl (hn _)
end
end Go.Eng
namespace Go.Proofs.YtgnjkdkedjljjaaGreatDoor
open Go.Eng
set_option linter.unusedVariables false
set_option linter.unusedSimpArgs false
theorem tCoT : Stc Tryz.prog 318 5 [.int .i64 0, .int .i64 0, .string ⟨#[]⟩, .slice none 0 0, .int .i64 0] := ⟨by kernel_rfl, by kernel_rfl⟩
theorem taCoCo (k n at_ : Int) (tx : ByteArray) (A : Option Addr) (m c : Nat) (w : World) : (Instr.typeAssert (.iface 318 (.agg ⟨[.int .i64 k, .int .i64 n, .string tx, .slice A m c, .int .i64 at_]⟩)) 178 318 true).run Tryz.prog w = .ok (.tuple ⟨[.agg ⟨[.int .i64 k, .int .i64 n, .string tx, .slice A m c, .int .i64 at_]⟩, .bool true]⟩) w := by kernel_rfl
theorem tNaT : Stc Tryz.prog 353 2 [.string ⟨#[]⟩, .int .i64 0] := ⟨by kernel_rfl, by kernel_rfl⟩
theorem taNaCo (tx : ByteArray) (at_ : Int) (w : World) : (Instr.typeAssert (.iface 353 (.agg ⟨[.string tx, .int .i64 at_]⟩)) 178 318 true).run Tryz.prog w = .ok (.tuple ⟨[.agg ⟨[.int .i64 0, .int .i64 0, .string ⟨#[]⟩, .slice none 0 0, .int .i64 0]⟩, .bool false]⟩) w := by kernel_rfl
theorem taNaNa (tx : ByteArray) (at_ : Int) (w : World) : (Instr.typeAssert (.iface 353 (.agg ⟨[.string tx, .int .i64 at_]⟩)) 178 353 true).run Tryz.prog w = .ok (.tuple ⟨[.agg ⟨[.string tx, .int .i64 at_]⟩, .bool true]⟩) w := by kernel_rfl
theorem tAtT : Stc Tryz.prog 274 1 [.int .i64 0] := ⟨by kernel_rfl, by kernel_rfl⟩
theorem taAtCo (n : Int) (w : World) : (Instr.typeAssert (.iface 274 (.agg ⟨[.int .i64 n]⟩)) 178 318 true).run Tryz.prog w = .ok (.tuple ⟨[.agg ⟨[.int .i64 0, .int .i64 0, .string ⟨#[]⟩, .slice none 0 0, .int .i64 0]⟩, .bool false]⟩) w := by kernel_rfl
theorem taAtNa (n : Int) (w : World) : (Instr.typeAssert (.iface 274 (.agg ⟨[.int .i64 n]⟩)) 178 353 true).run Tryz.prog w = .ok (.tuple ⟨[.agg ⟨[.string ⟨#[]⟩, .int .i64 0]⟩, .bool false]⟩) w := by kernel_rfl
theorem taAtAt (n : Int) (w : World) : (Instr.typeAssert (.iface 274 (.agg ⟨[.int .i64 n]⟩)) 178 274 true).run Tryz.prog w = .ok (.tuple ⟨[.agg ⟨[.int .i64 n]⟩, .bool true]⟩) w := by kernel_rfl
theorem tLtT : Stc Tryz.prog 277 1 [.int .i64 0] := ⟨by kernel_rfl, by kernel_rfl⟩
theorem taLtCo (n : Int) (w : World) : (Instr.typeAssert (.iface 277 (.agg ⟨[.int .i64 n]⟩)) 178 318 true).run Tryz.prog w = .ok (.tuple ⟨[.agg ⟨[.int .i64 0, .int .i64 0, .string ⟨#[]⟩, .slice none 0 0, .int .i64 0]⟩, .bool false]⟩) w := by kernel_rfl
theorem taLtNa (n : Int) (w : World) : (Instr.typeAssert (.iface 277 (.agg ⟨[.int .i64 n]⟩)) 178 353 true).run Tryz.prog w = .ok (.tuple ⟨[.agg ⟨[.string ⟨#[]⟩, .int .i64 0]⟩, .bool false]⟩) w := by kernel_rfl
theorem taLtAt (n : Int) (w : World) : (Instr.typeAssert (.iface 277 (.agg ⟨[.int .i64 n]⟩)) 178 274 true).run Tryz.prog w = .ok (.tuple ⟨[.agg ⟨[.int .i64 0]⟩, .bool false]⟩) w := by kernel_rfl
theorem taLtLt (n : Int) (w : World) : (Instr.typeAssert (.iface 277 (.agg ⟨[.int .i64 n]⟩)) 178 277 true).run Tryz.prog w = .ok (.tuple ⟨[.agg ⟨[.int .i64 n]⟩, .bool true]⟩) w := by kernel_rfl
theorem tOpT : Stc Tryz.prog 320 3 [.int .i64 0, .slice none 0 0, .int .i64 0] := ⟨by kernel_rfl, by kernel_rfl⟩
theorem taOpCo (o at_ : Int) (A : Option Addr) (m c : Nat) (w : World) : (Instr.typeAssert (.iface 320 (.agg ⟨[.int .i64 o, .slice A m c, .int .i64 at_]⟩)) 178 318 true).run Tryz.prog w = .ok (.tuple ⟨[.agg ⟨[.int .i64 0, .int .i64 0, .string ⟨#[]⟩, .slice none 0 0, .int .i64 0]⟩, .bool false]⟩) w := by kernel_rfl
theorem taOpNa (o at_ : Int) (A : Option Addr) (m c : Nat) (w : World) : (Instr.typeAssert (.iface 320 (.agg ⟨[.int .i64 o, .slice A m c, .int .i64 at_]⟩)) 178 353 true).run Tryz.prog w = .ok (.tuple ⟨[.agg ⟨[.string ⟨#[]⟩, .int .i64 0]⟩, .bool false]⟩) w := by kernel_rfl
theorem taOpAt (o at_ : Int) (A : Option Addr) (m c : Nat) (w : World) : (Instr.typeAssert (.iface 320 (.agg ⟨[.int .i64 o, .slice A m c, .int .i64 at_]⟩)) 178 274 true).run Tryz.prog w = .ok (.tuple ⟨[.agg ⟨[.int .i64 0]⟩, .bool false]⟩) w := by kernel_rfl
theorem taOpLt (o at_ : Int) (A : Option Addr) (m c : Nat) (w : World) : (Instr.typeAssert (.iface 320 (.agg ⟨[.int .i64 o, .slice A m c, .int .i64 at_]⟩)) 178 277 true).run Tryz.prog w = .ok (.tuple ⟨[.agg ⟨[.int .i64 0]⟩, .bool false]⟩) w := by kernel_rfl
theorem taOpOp (o at_ : Int) (A : Option Addr) (m c : Nat) (w : World) : (Instr.typeAssert (.iface 320 (.agg ⟨[.int .i64 o, .slice A m c, .int .i64 at_]⟩)) 178 320 true).run Tryz.prog w = .ok (.tuple ⟨[.agg ⟨[.int .i64 o, .slice A m c, .int .i64 at_]⟩, .bool true]⟩) w := by kernel_rfl
theorem fAtT0 : Fld Tryz.prog 274 0 0 := ⟨by kernel_rfl⟩
theorem fLtT0 : Fld Tryz.prog 277 0 0 := ⟨by kernel_rfl⟩
theorem fNaT0 : Fld Tryz.prog 353 0 0 := ⟨by kernel_rfl⟩
theorem fCoT0 : Fld Tryz.prog 318 0 0 := ⟨by kernel_rfl⟩
end Go.Proofs.YtgnjkdkedjljjaaGreatDoor
