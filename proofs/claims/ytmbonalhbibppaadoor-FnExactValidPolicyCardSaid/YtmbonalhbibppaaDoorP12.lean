/- The program's walk.tree walked. -/
import Derived.Test.YtmbonalhbibppaaDoorP11
namespace Go.Proofs.YtmbonalhbibppaaDoor
open Go.Eng
set_option linter.unusedVariables false
set_option linter.unusedSimpArgs false
theorem tPl : Stc Tryd.prog 247 2 [.nilIface, .int .i64 0] := ⟨by kernel_rfl, by kernel_rfl⟩
theorem sPl : Slc Tryd.prog 244 247 (.agg ⟨[.nilIface, .int .i64 0]⟩) 2 24 := ⟨Tryd.underlying244, by kernel_rfl⟩
theorem fPl0 : Fld Tryd.prog 247 0 0 := ⟨by kernel_rfl⟩
theorem fPl1 : Fld Tryd.prog 247 1 1 := ⟨by kernel_rfl⟩
theorem fWk0 : Fld Tryd.prog 201 0 0 := ⟨by kernel_rfl⟩
theorem fWk1 : Fld Tryd.prog 201 1 1 := ⟨by kernel_rfl⟩
theorem fWk2 : Fld Tryd.prog 201 2 2 := ⟨by kernel_rfl⟩
theorem cFn : Cel Tryd.prog 146 := ⟨_, Tryd.underlying146, by simp, by simp⟩
section
variable {E : Sym} {w : World} {K : Value → World → Prop} {d : Option Tmp} {ty : TypeId} {pos : String} {aft : Array Edge} {g : Option (Nat × Bool)} {bq : Bool}
theorem run_bPl (t : TypeId) (u : Value) (i : Int) (w : World) : (Instr.build 247 #[(0, .iface t u), (1, .int .i64 i)]).run Tryd.prog w = .ok (.agg #[.iface t u, .int .i64 i]) w := by kernel_rfl
theorem st_bPl (hE : EngB bq Tryd.prog E) {t : TypeId} {u : Value} {i : Int} {x y : Operand} (hk : K (.agg ⟨[.iface t u, .int .i64 i]⟩) w) : E.stop ⟨d, .build 247 ⟨[(0, x), (1, y)]⟩, ty, pos, aft, g⟩ [.iface t u, .int .i64 i] w K := by
  refine hE.det (v := .agg ⟨[.iface t u, .int .i64 i]⟩) (fun w1 _ ρ hρ => ?_) hk
  simp only [opnds, List.map_cons, List.map_nil, List.cons.injEq, and_true] at hρ
  have := run_bPl t u i w1
  simp [execOp, hρ, this]
theorem run_bOp (o i : Int) (w : World) : (Instr.build 191 #[(0, .int .i64 o), (2, .int .i64 i)]).run Tryd.prog w = .ok (.agg #[.int .i64 o, .slice none 0 0, .int .i64 i]) w := by kernel_rfl
theorem st_bOp (hE : EngB bq Tryd.prog E) {o i : Int} {x y : Operand} (hk : K (.agg ⟨[.int .i64 o, .slice none 0 0, .int .i64 i]⟩) w) : E.stop ⟨d, .build 191 ⟨[(0, x), (2, y)]⟩, ty, pos, aft, g⟩ [.int .i64 o, .int .i64 i] w K := by
  refine hE.det (v := .agg ⟨[.int .i64 o, .slice none 0 0, .int .i64 i]⟩) (fun w1 _ ρ hρ => ?_) hk
  simp only [opnds, List.map_cons, List.map_nil, List.cons.injEq, and_true] at hρ
  have := run_bOp o i w1
  simp [execOp, hρ, this]
end
/-! ### The stack -/
structure SE where
  t : Tr
  pl : Int
  ty : TypeId
  u : Value
def fE (e : SE) : List Value := [.iface e.ty e.u, .int .i64 e.pl]
theorem fE_len (e : SE) : (fE e).length = 2 := rfl
def stOf (es : List SE) : List (Tr × Int) := es.map fun e => (e.t, e.pl)
/-- Blocks in which trees may lie: what there was at first, and what has come since, but not the stack. -/
def Foot (w0s ws : Nat) (w : World) (A : Option Addr) (b : Nat) : Prop := b < w0s ∨ (ws ≤ b ∧ b < w.heap.size ∧ blk A ≠ some b)
def SOK (w0s ws : Nat) (w : World) (A : Option Addr) (es : List SE) : Prop := ∀ e ∈ es, TreeV (Foot w0s ws w A) w e.t (.iface e.ty e.u) ∧ dep e.t ≤ 64
theorem foot_lt {w0s ws : Nat} {w : World} {A : Option Addr} (h : w0s ≤ w.heap.size) {b : Nat} (hb : Foot w0s ws w A b) : b < w.heap.size := by
  rcases hb with hb | hb
  · omega
  · exact hb.2.1
theorem foot_ext {w0s ws : Nat} {w w' : World} {A : Option Addr} (hx : w.heap.size ≤ w'.heap.size) {b : Nat} (hb : Foot w0s ws w A b) : Foot w0s ws w' A b := by
  rcases hb with hb | ⟨h1, h2, h3⟩
  · exact .inl hb
  · exact .inr ⟨h1, by omega, h3⟩
theorem tree_ext {w0s ws : Nat} {w w' : World} {A : Option Addr} (h0 : w0s ≤ w.heap.size) (hx : Ext w w') {t : Tr} {v : Value} (h : TreeV (Foot w0s ws w A) w t v) : TreeV (Foot w0s ws w' A) w' t v :=
  h.keep (fun b hb => hx.block b (foot_lt h0 hb)) (fun b hb => foot_ext hx.size hb)
theorem SOK.ext {w0s ws : Nat} {w w' : World} {A : Option Addr} {es : List SE} (h : SOK w0s ws w A es) (h0 : w0s ≤ w.heap.size) (hx : Ext w w') : SOK w0s ws w' A es := fun e he => ⟨tree_ext h0 hx (h e he).1, (h e he).2⟩
theorem tree_wr {w0s ws : Nat} {w w' : World} {A : Option Addr} {a : Addr} (h0 : w0s ≤ w.heap.size) (ha : w0s ≤ a.block ∧ a.block < ws) (ha0 : blk (some a) = some a.block) (hw : Wr (some a) w w') {t : Tr} {v : Value} (h : TreeV (Foot w0s ws w A) w t v) : TreeV (Foot w0s ws w' A) w' t v :=
  h.keep (fun b hb => hw.block b (foot_lt h0 hb) (by
    intro e
    rw [ha0] at e
    cases e
    rcases hb with hb | hb <;> omega)) (fun b hb => foot_ext hw.size hb)
theorem SOK.wr {w0s ws : Nat} {w w' : World} {A : Option Addr} {a : Addr} {es : List SE} (h : SOK w0s ws w A es) (h0 : w0s ≤ w.heap.size) (ha : w0s ≤ a.block ∧ a.block < ws) (ha0 : blk (some a) = some a.block) (hw : Wr (some a) w w') : SOK w0s ws w' A es := fun e he => ⟨tree_wr h0 ha ha0 hw (h e he).1, (h e he).2⟩
theorem tree_gro {w0s ws : Nat} {w w' : World} {A A' : Option Addr} (h0 : w0s ≤ w.heap.size) (hA : A = none ∨ ∃ g, blk A = some g ∧ w0s ≤ g) (hg : Gro w A w' A') {t : Tr} {v : Value} (h : TreeV (Foot w0s ws w A) w t v) : TreeV (Foot w0s ws w' A') w' t v :=
  h.keep (fun b hb => hg.wr.block b (foot_lt h0 hb) (by
    intro e
    rcases hb with hb | hb
    · rcases hA with rfl | ⟨g, e2, hg2⟩
      · simp [Eng.blk, Value.ownBlock] at e
      · rw [e2] at e; cases e; omega
    · exact hb.2.2 e.symm)) (fun b hb => by
    rcases hb with hb | ⟨h1, h2, h3⟩
    · exact .inl hb
    · refine .inr ⟨h1, Nat.lt_of_lt_of_le h2 hg.wr.size, ?_⟩
      rcases hg.at_ with e | ⟨g, e, hg2⟩
      · rw [e]; exact h3
      · rw [e]; intro q; cases q; omega)
theorem SOK.gro {w0s ws : Nat} {w w' : World} {A A' : Option Addr} {es : List SE} (h : SOK w0s ws w A es) (h0 : w0s ≤ w.heap.size) (hA : A = none ∨ ∃ g, blk A = some g ∧ w0s ≤ g) (hg : Gro w A w' A') : SOK w0s ws w' A' es := fun e he => ⟨tree_gro h0 hA hg (h e he).1, (h e he).2⟩
/-- What the walk's function 'leaf' does. -/
def LeafC (w : World) (a : Addr) (f : FuncId) (fst cap : Array Value) (leafP : PN → Prop) : Prop :=
  ∀ w', Wr (some a) w w' → ∀ v : VN, OKN w' v → FC Tryd.prog f (fst.toList ++ [.agg ⟨cN v⟩] ++ cap.toList) w' fun r _ => ∃ b : Bool, r = .bool b ∧ (b = true ↔ leafP v.p)
theorem TreeV.form {D : Nat → Prop} {w : World} {t : Tr} {v : Value} (h : TreeV D w t v) : ∃ ty u, v = .iface ty u := by
  cases t <;> simp only [TreeV] at h
  · obtain ⟨A, m, c, rfl, _⟩ := h; exact ⟨_, _, rfl⟩
  · rw [h.1]; exact ⟨_, _, rfl⟩
  · rw [h]; exact ⟨_, _, rfl⟩
  · rw [h]; exact ⟨_, _, rfl⟩
  · obtain ⟨A, m, c, vs, rfl, _⟩ := h; exact ⟨_, _, rfl⟩
theorem own_low {B : Nat} {e : TypeId} {k : Nat} {w : World} {A : Option Addr} {m c : Nat} {xs : List Value} {a : Addr} (h : Own B e k w A m c xs) (ha : a.block < B) (ha0 : blk (some a) = some a.block) : Apart A (some a) ∧ Apart (some a) A := by
  obtain rfl | ⟨g, rfl, hg, _⟩ := h.blk
  · exact ⟨.inl rfl, .inr (by rw [ha0]; simp [Eng.blk, Value.ownBlock])⟩
  · have e1 : blk (some (⟨g, 0, none⟩ : Addr)) = some g := rfl
    exact ⟨.inr (by rw [ha0, e1]; intro q; cases q; omega), .inr (by rw [ha0, e1]; intro q; cases q; omega)⟩
theorem own_row {B B' : Nat} {e : TypeId} {k : Nat} {w : World} {A : Option Addr} {m c : Nat} {xs : List Value} (h : Own B e k w A m c xs) (hB : B' ≤ B) : A = none ∨ ∃ g, blk A = some g ∧ B' ≤ g := by
  obtain rfl | ⟨g, rfl, hg, _⟩ := h.blk
  · exact .inl rfl
  · exact .inr ⟨g, rfl, by omega⟩
theorem strs_low {w : World} {A : Option Addr} {m c : Nat} {xs : List ByteArray} (h : Strs w A m c xs) {D : Nat → Prop} (hD : ∀ b, b < w.heap.size → D b) : InD D A m := fun a ha hm => by
  have hl := h.len
  obtain ⟨a', e, hc⟩ := h.cells.at (i := 0) (by simp; omega)
  rw [ha] at e
  cases e
  have := World.block_lt_of_cell? w _ hc
  rw [add_block] at this
  exact hD _ this
set_option maxHeartbeats 8000000 in
theorem tree_g {w0 w : World} (hT : Tab w0 6 constF) {AN : Option Addr} {N cN' : Nat} {nv : List PN} (hN : RNs w0 AN N nv) (hNb : N ≤ 4000) {a : Addr} {f : FuncId} {fst cap : Array Value} {i0 : Nat} {ii0 : Int} (hii0 : ii0 = (i0 : Int)) (hi0 : i0 ≤ N)
    (hb : Box w0.heap.size 201 3 w a [.slice AN N cN', .int .i64 ii0, .func (.func f) fst cap]) (hx : Ext w0 w) {leafP : PN → Prop} (hleaf : LeafC w a f fst cap leafP) (top : Int) :
    GC Tryd.prog 119 [.pointer (some a), .int .i64 top] w fun r w' => ∃ (v : Value) (b : Bool), r = .tuple ⟨[v, .bool b]⟩ ∧ v.oneCell' = true ∧ Wr (some a) w w' ∧ (b = false → treeM nv leafP i0 top = none) ∧
      (b = true → ∃ t ty u, v = .iface ty u ∧ treeM nv leafP i0 top = some t ∧ TreeV (fun b => b < w0.heap.size ∨ (w.heap.size ≤ b ∧ b < w'.heap.size)) w' t v ∧ Box w0.heap.size 201 3 w' a [.slice AN N cN', .int .i64 (top + 1), .func (.func f) fst cap]) := by
  refine GC.intro (cs := []) Tryd.func119 (by kernel_rfl) fun E R hE hr hR => ?_
  have hNl := hN.len
  obtain ⟨TM, hTM0⟩ : ∃ TM, TM = treeM nv leafP i0 top := ⟨_, rfl⟩
  rw [← hTM0] at hR
  have hTM := hTM0
  unfold treeM at hTM
  obtain ⟨ga, hga, hga1, hga2⟩ := hb.form
  have hab : a.block = ga := by rw [hga]
  have ha0 : blk (some a) = some a.block := by rw [hga]; rfl
  have har : w0.heap.size ≤ a.block ∧ a.block < w.heap.size := by omega
  have h0s := hx.size
  have bad : TM = none → ∀ w2, Wr (some a) w w2 → R (.tuple ⟨[.nilIface, .bool false]⟩) w2 := fun h w2 h2 => by
    rw [hR]; exact ⟨.nilIface, false, rfl, rfl, h2, fun _ => h, fun q => by cases q⟩
  conv => cbv
  (refine st_nil hE ?_; (conv => cbv); refine st_fld hE fWk1 fun p hp => ?_; (conv => cbv); refine st_load hE cInt (by rw [hp]; exact (hb).at _ _ rfl) ?_; clear hp; (conv => cbv))
  refine br (fun g => ?_) (fun g => ?_)
  · have g : top < ii0 := by simpa [hE.cmp, cmpR] using g
    rw [if_pos (.inl (by omega))] at hTM
    conv => cbv
    exact bad hTM _ (Wr.refl _ _)
  have g : ¬ top < ii0 := by simpa [hE.cmp, cmpR] using g
  conv => cbv
  (refine st_nil hE ?_; (conv => cbv); refine st_fld hE fWk0 fun p hp => ?_; (conv => cbv); refine st_load hE cINs (by rw [hp]; exact (hb).at _ _ rfl) ?_; clear hp; (conv => cbv))
  refine st_len hE sINd fun x1 hx1 => ?_
  conv => cbv
  refine br (fun g1 => ?_) (fun g1 => ?_)
  · have g1 : x1 ≤ top := by simpa [hE.cmp, cmpR] using g1
    rw [if_pos (.inr (by omega))] at hTM
    conv => cbv
    exact bad hTM _ (Wr.refl _ _)
  have g1 : ¬ x1 ≤ top := by simpa [hE.cmp, cmpR] using g1
  rw [if_neg (by omega)] at hTM
  obtain ⟨tn, htn⟩ : ∃ tn : Nat, top = tn := ⟨top.toNat, by omega⟩
  rw [show top.toNat = tn by omega] at hTM
  obtain ⟨V, hV0⟩ : ∃ V, V = runM leafP (seg nv i0 (tn + 1)) i0 [] := ⟨_, rfl⟩
  rw [← hV0] at hTM
  conv => cbv
  refine st_none hr sPl fun A1 w1 hx1' h10 => ?_
  have h1 := h10 w.heap.size (Nat.le_refl _)
  conv => cbv
  refine loop_rulec [28] hr (fun (s : Nat × Int × Option Addr × Nat × Nat × List SE) w' => i0 ≤ s.1 ∧ s.1 ≤ tn + 1 ∧ s.2.1 = (s.1 : Int) ∧ Wr (some a) w w' ∧ Box w0.heap.size 201 3 w' a [.slice AN N cN', .int .i64 s.2.1, .func (.func f) fst cap] ∧
      Own w.heap.size 247 2 w' s.2.2.1 s.2.2.2.1 s.2.2.2.2.1 (s.2.2.2.2.2.flatMap fE) ∧ SOK w0.heap.size w.heap.size w' s.2.2.1 s.2.2.2.2.2 ∧ runM leafP (seg nv s.1 (tn + 1)) s.1 (stOf s.2.2.2.2.2) = V ∧ s.2.2.2.1 ≤ s.1)
    (fun s => [(0, .pointer (some a)), (1, .int .i64 top), (6, .slice s.2.2.1 s.2.2.2.1 s.2.2.2.2.1)]) (fun s => tn + 1 - s.1) (i0, ii0, A1, 0, 0, [])
    (by simp [Fits, lk]) ⟨Nat.le_refl _, by simp only; omega, hii0, hx1'.wr _, hb.bel hx1', by simpa using h1, (fun e he => by cases he), hV0.symm, by simp⟩ ?_
  clear hb h1 h10 hV0
  rintro I hI ⟨i, ii, A, m, c, es⟩ w' ⟨hi1, hi2, hii, hwr, hb, ho, hso, hV, hmi⟩
  simp only at hi1 hi2 hii hb ho hso hV hmi
  obtain ⟨ij, hij⟩ : ∃ z, z = ii + 1 := ⟨_, rfl⟩
  have hol := ho.len
  rw [fl_len fE_len] at hol
  have hx' : Ext w0 w' := hx.then (hwr.bel (show Own w0.heap.size _ _ w' (some a) 1 1 _ from hb) hx.size)
  have h0s' := hx'.size
  have hws' := hwr.size
  conv => cbv
  (refine st_nil hE ?_; (conv => cbv); refine st_fld hE fWk1 fun p hp => ?_; (conv => cbv); refine st_load hE cInt (by rw [hp]; exact (hb).at _ _ rfl) ?_; clear hp; (conv => cbv))
  refine br (fun g2 => ?_) (fun g2 => ?_)
  · have g2 : i ≤ tn := by
      have : ii ≤ top := by simpa [hE.cmp, cmpR] using g2
      omega
    have ei : E.ar .add .i64 ii 1 = ij := by rw [hE.ar, hij]; exact wrap_in (by omega) (by omega)
    obtain ⟨ad, v, hA, hg, hc, hok⟩ := hN.get (i := i) (by omega)
    obtain ⟨⟨o, z, tx, xs, ks⟩, A0, m0, c0, A2, m2, c2⟩ := v
    simp only at hg
    rw [seg_cat (b := i + 1) (by omega) (by omega), seg_one hg, List.cons_append, List.nil_append, runM] at hV
    have r_ks := hok.r_ks
    simp only at r_ks
    have hkl := r_ks.len
    obtain ⟨SM, hSM0⟩ : ∃ SM, SM = stepM leafP ⟨o, z, tx, xs, ks⟩ i (stOf es) := ⟨_, rfl⟩
    rw [← hSM0] at hV
    have hSM := hSM0
    unfold stepM at hSM
    have hstl : (stOf es).length = m := by unfold stOf; simp; omega
    simp only [hstl] at hSM
    have bad2 : SM = none → ∀ w2, Wr (some a) w w2 → R (.tuple ⟨[.nilIface, .bool false]⟩) w2 := fun h => by
      rw [h] at hV
      simp only at hV
      rw [← hV] at hTM
      exact bad hTM
    conv => cbv
    refine draw_h [0, 1, 2, 3, 4, 5, 6, 7, 8, 9] [(10, false), (11, false)] hr fol (by kernel_rfl) fun E' hE' w2 hs2 S hS => ?_
    replace hb := hb.bel hs2.ext
    replace ho := ho.bel hs2.ext
    replace hso := hso.ext h0s' hs2.ext
    replace hx' := hx'.trans hs2.ext
    replace hwr := hwr.trans (hs2.ext.wr _)
    conv => cbv
    (refine st_nil hE' ?_; (conv => cbv); refine st_fld hE' fWk0 fun p hp => ?_; (conv => cbv); refine st_load hE' cINs (by rw [hp]; exact (hb).at _ _ rfl) ?_; clear hp; (conv => cbv))
    (refine st_nil hE' ?_; (conv => cbv); refine st_fld hE' fWk1 fun p hp => ?_; (conv => cbv); refine st_load hE' cInt (by rw [hp]; exact (hb).at _ _ rfl) ?_; clear hp; (conv => cbv))
    refine st_idx hE' sINd hA (by omega) (by omega) fun q hq => ?_
    rw [show ii.toNat = i by omega] at hq
    conv => cbv
    refine st_loadS hE' tINd (vs := [.int .i64 o, .int .i64 z, .string tx, .slice A0 m0 c0, .slice A2 m2 c2]) rfl (fun j u hu => by rw [hq]; exact hx'.cell (hc j u hu)) ?_
    conv => cbv
    refine st_alloc hr tINd rfl fun q7 w3 hx3 hq0 => ?_
    refine ⟨hS _ hx3, ?_⟩
    conv => cbv
    refine st_putS hr (by kernel_rfl) (hq0 _ (Nat.le_refl _)) (add_zero _).symm (by simp) (by simp [Value.oneCell']) fun w4 hw4 hq7 => ?_
    simp only [List.take_zero, List.nil_append, List.length_cons, List.length_nil, List.drop_succ_cons, List.drop_nil, List.append_nil] at hq7
    have hxy := hx3.then (hw4.bel (hq0 _ (Nat.le_refl _)) hx3.size)
    refine ⟨hS _ hxy, ?_⟩
    have h0s2 := hx'.size
    replace hb := hb.bel hxy
    replace ho := ho.bel hxy
    replace hso := hso.ext h0s2 hxy
    replace hx' := hx'.trans hxy
    replace hwr := hwr.trans (hxy.wr _)
    clear hq0 hw4 hx3 hq hc hxy hs2 hS h0s2
    conv => cbv
    (refine st_fld hE fINd0 fun p hp => ?_; (conv => cbv); refine st_load hE cInt (by rw [hp]; exact (hq7).at _ _ rfl) ?_; clear hp; (conv => cbv))
    refine st_f hr (kidsOf_f o) fun r w5 hx5 ev => ?_
    subst ev
    obtain ⟨kf, hkf⟩ : ∃ kf, kf = kidsF o := ⟨_, rfl⟩
    have hkf3 := kidsF_le o
    rw [← hkf]
    rw [← hkf] at hSM
    have h0s3 := hx'.size
    replace hb := hb.bel hx5
    replace ho := ho.bel hx5
    replace hso := hso.ext h0s3 hx5
    replace hq7 := hq7.bel hx5
    replace hx' := hx'.trans hx5
    replace hwr := hwr.trans (hx5.wr _)
    clear hx5 h0s3
    conv => cbv
    refine br (fun g3 => ?_) (fun g3 => ?_)
    · have g3 : kf < 0 := by simpa [hE.cmp, cmpR] using g3
      rw [if_pos (.inl g3)] at hSM
      conv => cbv
      exact bad2 hSM _ hwr
    have g3 : ¬ kf < 0 := by simpa [hE.cmp, cmpR] using g3
    conv => cbv
    (refine st_fld hE fINd4 fun p hp => ?_; (conv => cbv); refine st_load hE cInts (by rw [hp]; exact (hq7).at _ _ rfl) ?_; clear hp; (conv => cbv))
    refine st_len hE tInts fun x3 hx3 => ?_
    conv => cbv
    refine br (fun g4 => ?_) (fun g4 => ?_)
    · have g4 : x3 ≠ kf := by simpa [hE.cmp, cmpR] using g4
      rw [if_pos (.inr (.inl (by omega)))] at hSM
      conv => cbv
      exact bad2 hSM _ hwr
    have g4 : x3 = kf := by simpa [hE.cmp, cmpR] using g4
    conv => cbv
    refine st_len hE sPl fun x4 hx4 => ?_
    conv => cbv
    refine br (fun g5 => ?_) (fun g5 => ?_)
    · have g5 : x4 < kf := by simpa [hE.cmp, cmpR] using g5
      rw [if_pos (.inr (.inr (by omega)))] at hSM
      conv => cbv
      exact bad2 hSM _ hwr
    have g5 : ¬ x4 < kf := by simpa [hE.cmp, cmpR] using g5
    rw [if_neg (by omega)] at hSM
    rw [← hii] at hSM
    conv => cbv
    refine cut_rule [] [] hr (fun (s : Tr × TypeId × Value) w9 => Wr (some a) w w9 ∧ Ext w0 w9 ∧ Box w0.heap.size 201 3 w9 a [.slice AN N cN', .int .i64 ii, .func (.func f) fst cap] ∧ Own w.heap.size 247 2 w9 A m c (es.flatMap fE) ∧ SOK w0.heap.size w.heap.size w9 A es ∧
        TreeV (Foot w0.heap.size w.heap.size w9 A) w9 s.1 (.iface s.2.1 s.2.2) ∧ dep s.1 ≤ 64 ∧ SM = some ((stOf es).take (m - ks.length) ++ [(s.1, ii)]))
      (fun s => [(0, .pointer (some a)), (1, .int .i64 top), (6, .slice A m c), (8, .int .i64 kf), (9, .iface s.2.1 s.2.2)]) (fun J hJ => ?_) ?_
    · conv => cbv
      refine br (fun g6 => ?_) (fun g6 => ?_)
      · have g6 : kf = 0 := by simpa [hE.cmp, cmpR] using g6
        rw [if_pos g6] at hSM
        have hop : 1 ≤ o ∧ o ≤ 7 := by rw [hkf] at g6; unfold kidsF at g6; (repeat' split at g6) <;> omega
        conv => cbv
        refine draw_h [0, 1, 2, 3, 4] [(5, false), (6, true)] hr fol (by kernel_rfl) fun E' hE' w6 hs6 S hS => ?_
        conv => cbv
        (refine st_nil hE' ?_; (conv => cbv); refine st_fld hE' fWk2 fun p hp => ?_; (conv => cbv); refine st_load hE' cFn (by rw [hp]; exact ((hb.bel hs6.ext)).at _ _ rfl) ?_; clear hp; (conv => cbv))
        refine st_loadS hE' tINd rfl (hq7.bel hs6.ext).at ?_
        conv => cbv
        refine st_f hr (hleaf w6 (hwr.trans (hs6.ext.wr _)) ⟨⟨o, z, tx, xs, ks⟩, A0, m0, c0, A2, m2, c2⟩ (hok.ext (hx'.trans hs6.ext))) fun r w7 hx7 ⟨b, ev, hbl⟩ => ?_
        subst ev
        refine ⟨hS _ hx7, ?_⟩
        have hxz := hs6.ext.trans hx7
        have h0s3 := hx'.size
        replace hb := hb.bel hxz
        replace ho := ho.bel hxz
        replace hso := hso.ext h0s3 hxz
        replace hq7 := hq7.bel hxz
        replace hx' := hx'.trans hxz
        replace hwr := hwr.trans (hxz.wr _)
        clear hxz hx7 hs6 hS h0s3
        conv => cbv
        cases b with
        | false =>
          rw [if_neg (fun q => absurd (hbl.2 q) (by simp))] at hSM
          conv => cbv
          exact bad2 hSM _ hwr
        | true =>
          rw [if_pos (hbl.1 rfl)] at hSM
          conv => cbv
          refine draw_h [0, 1, 2, 3, 4] [(5, false), (6, true)] hr fol (by kernel_rfl) fun E' hE' w6 hs6 S hS => ?_
          conv => cbv
          refine st_loadS hE' tINd rfl (hq7.bel hs6.ext).at ?_
          conv => cbv
          (refine st_nil hE' ?_; (conv => cbv); refine st_fld hE' fWk1 fun p hp => ?_; (conv => cbv); refine st_load hE' cInt (by rw [hp]; exact ((hb.bel hs6.ext)).at _ _ rfl) ?_; clear hp; (conv => cbv))
          have hx6 := hx'.trans hs6.ext
          refine st_f hr (leafTree_f (D := Foot w0.heap.size w.heap.size w6 A) (hT.ext hx6) ⟨⟨o, z, tx, xs, ks⟩, A0, m0, c0, A2, m2, c2⟩ (hok.ext hx6) hop (strs_low hok.r_xs fun b hb => .inl hb) ii) fun r w7 hx7 ht => ?_
          obtain ⟨ty9, u9, rfl⟩ := ht.form
          refine ⟨hS _ hx7, ?_⟩
          have hxz := hs6.ext.trans hx7
          have h0s3 := hx'.size
          have ht2 : TreeV (Foot w0.heap.size w.heap.size w7 A) w7 (leafF ⟨o, z, tx, xs, ks⟩ ii) (.iface ty9 u9) := ht.keep (fun b _ => rfl) (fun b hb => foot_ext hx7.size hb)
          conv => cbv
          refine ⟨(leafF ⟨o, z, tx, xs, ks⟩ ii, ty9, u9), by simp [Fits, lk], hJ _ _ ⟨hwr.trans (hxz.wr _), hx'.trans hxz, hb.bel hxz, ho.bel hxz, hso.ext h0s3 hxz, ht2, by simp only; rw [dep_leaf]; omega, ?_⟩⟩
          simp only
          rw [hSM, List.take_of_length_le (by rw [hstl]; omega)]
      · have g6 : kf ≠ 0 := by simpa [hE.cmp, cmpR] using g6
        rw [if_neg g6] at hSM
        obtain ⟨lo, hlo⟩ : ∃ lo, lo = m - ks.length := ⟨_, rfl⟩
        obtain ⟨kn, hkn⟩ : ∃ kn, kn = m - lo := ⟨_, rfl⟩
        have hkn2 : kn = ks.length := by omega
        have hd1 : ((stOf es).drop (m - ks.length)).map (·.2) = (es.drop lo).map (·.pl) := by rw [← hlo]; unfold stOf; rw [← List.map_drop, List.map_map]; rfl
        have hd2 : ((stOf es).drop (m - ks.length)).map (·.1) = (es.drop lo).map (·.t) := by rw [← hlo]; unfold stOf; rw [← List.map_drop, List.map_map]; rfl
        rw [hd1, hd2] at hSM
        have hdl : (es.drop lo).length = kn := by rw [List.length_drop]; omega
        conv => cbv
        refine draw_h [0, 1, 2, 3, 4, 5, 6] [(7, false), (8, false)] hr fol (by kernel_rfl) fun E' hE' w6 hs6 S hS => ?_
        have h0s3 := hx'.size
        replace hb := hb.bel hs6.ext
        replace ho := ho.bel hs6.ext
        replace hso := hso.ext h0s3 hs6.ext
        replace hq7 := hq7.bel hs6.ext
        replace hx' := hx'.trans hs6.ext
        replace hwr := hwr.trans (hs6.ext.wr _)
        conv => cbv
        (refine st_fld hE' fINd0 fun p hp => ?_; (conv => cbv); refine st_load hE' cInt (by rw [hp]; exact (hq7).at _ _ rfl) ?_; clear hp; (conv => cbv))
        (refine st_nil hE' ?_; (conv => cbv); refine st_fld hE' fWk1 fun p hp => ?_; (conv => cbv); refine st_load hE' cInt (by rw [hp]; exact (hb).at _ _ rfl) ?_; clear hp; (conv => cbv))
        refine st_bOp hE' ?_
        conv => cbv
        refine st_alloc hr tOp rfl fun q10 w7 hx7 hq0 => ?_
        refine ⟨hS _ hx7, ?_⟩
        conv => cbv
        refine st_putS hr (by kernel_rfl) (hq0 _ (Nat.le_refl _)) (add_zero _).symm (by simp) (by simp [Value.oneCell']) fun w8 hw8 hq10 => ?_
        simp only [List.take_zero, List.nil_append, List.length_cons, List.length_nil, List.drop_succ_cons, List.drop_nil, List.append_nil] at hq10
        have hy := hx7.then (hw8.bel (hq0 _ (Nat.le_refl _)) hx7.size)
        refine ⟨hS _ hy, ?_⟩
        clear hq0 hw8 hx7 hs6 hS h0s3
        conv => cbv
        refine st_loadS hE tINd rfl (hq7.bel hy).at ?_
        conv => cbv
        refine st_f hr (bare_f (w := w8) (o := o) (z := z) (tx := tx) hok.r_xs.len false false false) fun r w9 hx9 ⟨b, ev, hbb⟩ => ?_
        subst ev
        replace hq10 := hq10.bel hx9
        replace hy := hy.trans hx9
        clear hx9
        simp only [Bool.false_eq_true, false_or] at hbb
        cases b with
        | false =>
          rw [if_pos (fun q => absurd (hbb.2 q) (by simp))] at hSM
          conv => cbv
          exact bad2 hSM _ (hwr.trans (hy.wr _))
        | true =>
        rw [if_neg (fun q => q (hbb.1 rfl))] at hSM
        conv => cbv
        refine st_len hE sPl fun x5 hx5 => ?_
        obtain ⟨lz, hlz⟩ : ∃ lz : Int, lz = lo := ⟨_, rfl⟩
        have el : E.ar .sub .i64 x5 kf = lz := by rw [hE.ar, show arR .sub .i64 x5 kf = IntKind.i64.wrap (x5 - kf) from rfl, wrap_in (by omega) (by omega)]; omega
        conv => cbv
        simp only [el]
        refine st_from hE sPl ho.cells (by rw [fl_len fE_len]; omega) ho.cap hlz (by omega) fun A6 c6 hc6 hm6 => ?_
        rw [fl_drop fE_len] at hc6
        rw [← hkn] at hm6 ⊢
        conv => cbv
        refine st_len hE sPl fun x6 hx6 => ?_
        conv => cbv
        refine loop_rule hr (fun (s : Nat × Int × Option Addr × Nat) wz => s.1 ≤ kn ∧ s.2.1 = (s.1 : Int) ∧ Ext w6 wz ∧ Own w6.heap.size 191 3 wz (some q10) 1 1 [.int .i64 o, .slice s.2.2.1 s.1 s.2.2.2, .int .i64 ii] ∧
            Own w6.heap.size 128 1 wz s.2.2.1 s.1 s.2.2.2 (((es.drop lo).take s.1).map fun e => Value.iface e.ty e.u) ∧ (Apart s.2.2.1 (some q10) ∧ Apart (some q10) s.2.2.1) ∧ ks.take s.1 = ((es.drop lo).take s.1).map (·.pl))
          (fun s => [(0, .pointer (some a)), (1, .int .i64 top), (6, .slice A m c), (7, .pointer (some q7)), (8, .int .i64 kf), (10, .pointer (some q10)), (100, .slice A6 kn c6), (101, .int .i64 x6), (102, .int .i64 s.2.1)]) (fun s => kn - s.1) (0, 0, none, 0)
          (by simp [Fits, lk]) ⟨by simp, by simp, hy, hq10, Own.nil, ⟨.inl rfl, .inr (by obtain ⟨gq, rfl, _⟩ := hq10.form; simp [Eng.blk, Value.ownBlock])⟩, by simp⟩ ?_
        clear hq10 hy
        rintro I2 hI2 ⟨j, jj, Ak, ck⟩ wz ⟨hj, hjj, hy, hq10, hok', hap, htk⟩
        simp only at hj hjj hq10 hok' hap htk
        obtain ⟨jk, hjk⟩ : ∃ z, z = jj + 1 := ⟨_, rfl⟩
        conv => cbv
        refine br (fun g7 => ?_) (fun g7 => ?_)
        · have g7 : j < kn := by
            have : jj < x6 := by simpa [hE.cmp, cmpR] using g7
            omega
          have ej : E.ar .add .i64 jj 1 = jk := by rw [hE.ar, hjk]; exact wrap_in (by omega) (by omega)
          obtain ⟨e, he⟩ : ∃ e, (es.drop lo)[j]? = some e := ⟨_, List.getElem?_eq_getElem (by omega)⟩
          obtain ⟨te, ple, tye, ue⟩ := e
          obtain ⟨a6, ha6, hc6'⟩ := fl_at fE_len (hc6.ext hy) (by omega) he
          conv => cbv
          refine st_idx hE sPl ha6 (by omega) (by omega) fun q hq => ?_
          rw [show jj.toNat = j by omega] at hq
          conv => cbv
          refine st_loadS hE tPl (vs := [.iface tye ue, .int .i64 ple]) rfl (by rw [hq]; exact hc6') ?_
          conv => cbv
          refine st_alloc hr tPl rfl fun q12 wy hx12 hq0 => ?_
          conv => cbv
          refine st_putS hr (by kernel_rfl) (hq0 _ (Nat.le_refl _)) (add_zero _).symm (by simp) (by simp [Value.oneCell']) fun wx hw12 hq12 => ?_
          simp only [List.take_zero, List.nil_append, List.length_cons, List.length_nil, List.drop_succ_cons, List.drop_nil, List.append_nil] at hq12
          have hx13 := hx12.then (hw12.bel (hq0 _ (Nat.le_refl _)) hx12.size)
          replace hq10 := hq10.bel hx13
          replace hok' := hok'.bel hx13
          replace hy := hy.trans hx13
          clear hq0 hw12 hx12 hx13 hq hc6'
          conv => cbv
          refine draw_q hr fol (by kernel_rfl) fun E' hE' => ?_
          conv => cbv
          (refine st_fld hE' fINd4 fun p hp => ?_; (conv => cbv); refine st_load hE' cInts (by rw [hp]; exact ((hq7.bel hy)).at _ _ rfl) ?_; clear hp; (conv => cbv))
          refine st_int hE' tInts ((r_ks.ext hx').ext hy) (k := j) (by omega) (by omega) fun p u hu hp => ?_
          conv => cbv
          refine st_load hE' cInt hp ?_
          conv => cbv
          (refine st_fld hE' fPl1 fun p hp => ?_; (conv => cbv); refine st_load hE' cInt (by rw [hp]; exact (hq12).at _ _ rfl) ?_; clear hp; (conv => cbv))
          obtain ⟨q4, hq4⟩ : ∃ q4, q4 = E'.cmp .neq u ple := ⟨_, rfl⟩
          have hq5 : q4 = true ↔ u ≠ ple := by rw [hq4, hE'.cmp]; simp [cmpR]
          simp only [← hq4]
          intro wv hsv
          replace hq10 := hq10.bel hsv.ext
          replace hok' := hok'.bel hsv.ext
          replace hq12 := hq12.bel hsv.ext
          replace hy := hy.trans hsv.ext
          clear hsv hq4
          conv => cbv
          refine br (fun g8 => ?_) (fun g8 => ?_)
          · have g8 := hq5.1 g8
            rw [if_pos (fun q => g8 (by
              have h1 : ((es.drop lo).map (·.pl))[j]? = some ple := by rw [List.getElem?_map, he]; rfl
              rw [← q, hu] at h1
              exact Option.some.inj h1))] at hSM
            conv => cbv
            exact bad2 hSM _ (hwr.trans (hy.wr _))
          have g8 : u = ple := Classical.byContradiction fun q => g8 (hq5.2 q)
          conv => cbv
          (refine st_fld hE fOp1 fun p hp => ?_; (conv => cbv); refine st_load hE cTrs (by rw [hp]; exact (hq10).at _ _ rfl) ?_; clear hp; (conv => cbv))
          (refine st_fld hE fPl0 fun p hp => ?_; (conv => cbv); refine st_load hE cTr (by rw [hp]; exact (hq12).at _ _ rfl) ?_; clear hp; (conv => cbv))
          refine st_one hr sTrs rfl rfl fun A13 w13 hx13 hc13 => ?_
          replace hq10 := hq10.bel hx13
          replace hok' := hok'.bel hx13
          replace hy := hy.trans hx13
          conv => cbv
          refine st_appsG hr sTrs rfl hok' hc13 rfl (by simp [Value.oneCell']) hy.size (by omega) (by omega) fun A14 c14 m14 w14 hm14 hw14 ho14 hbk => ?_
          subst hm14
          have ap14 := (Gro.mk hw14 (hbk.imp id fun e => ⟨_, e, Nat.le_refl _⟩)).apart hq10 hap
          replace hq10 := hq10.wr hw14 hap.2
          replace hy := hy.then (hw14.bel hok' hy.size)
          clear hbk hw14 hok' hc13 hx13
          conv => cbv
          refine st_fld hE fOp1 fun p hp => ?_
          conv => cbv
          refine st_put hr zTrs hq10 hp (by simp) rfl fun w15 hw15 hq15 => ?_
          simp only [List.set_cons_zero, List.set_cons_succ] at hq15
          conv => cbv
          simp only [ej]
          refine ⟨(j + 1, jk, A14, c14), by simp [Fits, lk], hI2 _ _ ⟨by simp only; omega, by simp only; omega, hy.then (hw15.bel hq10 hy.size), hq15, ?_, ap14, ?_⟩, by simp only; omega⟩
          · simp only
            have := ho14.wr hw15 ap14.1
            rw [List.take_add_one, he, List.map_append]
            exact this
          · simp only
            rw [List.take_add_one, List.take_add_one, hu, he, htk, g8]; simp
        have g7 : j = kn := by
          have : ¬ jj < x6 := by simpa [hE.cmp, cmpR] using g7
          omega
        subst g7
        rw [List.take_of_length_le (by omega)] at hok'
        rw [List.take_of_length_le (by omega), List.take_of_length_le (by omega)] at htk
        rw [if_neg (fun q => q htk)] at hSM
        conv => cbv
        clear hI2 I2 hjk jk
        refine st_loadS hE tOp rfl hq10.at ?_
        conv => cbv
        refine st_mk hE uOpT ?_
        obtain ⟨T, hTd⟩ : ∃ T, T = Tr.op o ((es.drop lo).map (·.t)) ii := ⟨_, rfl⟩
        rw [← hTd] at hSM
        have h0s6 := hx'.size
        replace hso := hso.ext h0s6 hy
        have hwsz : w.heap.size ≤ w6.heap.size := hwr.size
        have htv : TreeV (Foot w0.heap.size w.heap.size wz A) wz T (.iface 191 (.agg ⟨[.int .i64 o, .slice Ak j ck, .int .i64 ii]⟩)) := by
          rw [hTd]
          simp only [TreeV]
          refine ⟨Ak, j, ck, _, rfl, by simp; omega, hok'.cap, hok'.le, hok'.cells, fun a' ha' hj0 => ?_, ?_⟩
          · obtain ⟨g, hg1, hg2, hg3⟩ := hok'.addr hj0
            rw [ha'] at hg1
            cases hg1
            refine .inr ⟨by simp only; omega, hg3, fun q => ?_⟩
            obtain rfl | ⟨g', rfl, _, hg4⟩ := ho.blk
            · simp [Eng.blk, Value.ownBlock] at q
            · simp [Eng.blk, Value.ownBlock] at q; omega
          · refine TreesV.of_get (by simp) fun q t v h1 h2 => ?_
            rw [List.getElem?_map] at h1 h2
            obtain ⟨e, he, rfl⟩ := Option.map_eq_some_iff.1 h1
            rw [he] at h2
            simp at h2
            subst h2
            exact (hso e (List.mem_of_mem_drop (List.mem_of_getElem? he))).1
        have hdT : dep T ≤ 65 := by
          rw [hTd, dep]
          have := deps_le (l := (es.drop lo).map (·.t)) (n := 64) fun t ht => by
            obtain ⟨e, he, rfl⟩ := List.mem_map.1 ht
            exact (hso e (List.mem_of_mem_drop he)).2
          omega
        have hxz' := hx'.trans hy
        obtain ⟨fd, ld, hcm, hfd⟩ := dep_f 65 T _ wz _ hdT (by omega) htv (fun b hb => foot_lt hxz'.size hb)
        obtain ⟨dT, hdT2⟩ : ∃ dT : Int, dT = (dep T : Int) := ⟨_, rfl⟩
        rw [← hdT2] at hfd
        conv => cbv
        refine st_if hr (args := []) (l := [ld]) hcm hfd fun r w16 hx16 ev => ?_
        subst ev
        have hyz := hy.trans hx16
        conv => cbv
        refine br (fun g8 => ?_) (fun g8 => ?_)
        · have g8 : 64 < dT := by simpa [hE.cmp, cmpR] using g8
          rw [if_pos (by omega)] at hSM
          conv => cbv
          exact bad2 hSM _ (hwr.trans (hyz.wr _))
        have g8 : ¬ 64 < dT := by simpa [hE.cmp, cmpR] using g8
        rw [if_neg (by omega)] at hSM
        conv => cbv
        exact ⟨(T, _, _), by simp [Fits, lk], hJ _ _ ⟨hwr.trans (hyz.wr _), hx'.trans hyz, hb.bel hyz, ho.bel hyz, hso.ext hxz'.size hx16, tree_ext hxz'.size hx16 htv, by simp only; omega, hSM⟩⟩
    · clear hwr hx' hb ho hso hq7
      rintro ⟨t9, ty9, u9⟩ w9 ⟨hwr, hx', hb, ho, hso, ht9, hd9, hSM2⟩
      simp only at ht9 hd9 hSM2
      rw [hSM2] at hV
      simp only at hV
      obtain ⟨lo, hlo⟩ : ∃ lo, lo = m - ks.length := ⟨_, rfl⟩
      rw [← hlo] at hV
      obtain ⟨lz, hlz⟩ : ∃ lz : Int, lz = lo := ⟨_, rfl⟩
      conv => cbv
      refine draw_t [0, 1, 2, 3, 4, 5, 6, 7, 8, 9, 10, 11] [(12, true), (13, false), (14, false)] hr fol (by kernel_rfl) fun E' hE' wA hsA S hS => ?_
      have h0s3 := hx'.size
      replace hb := hb.bel hsA.ext
      replace ho := ho.bel hsA.ext
      replace hso := hso.ext h0s3 hsA.ext
      replace ht9 := tree_ext h0s3 hsA.ext ht9
      replace hx' := hx'.trans hsA.ext
      replace hwr := hwr.trans (hsA.ext.wr _)
      clear hsA h0s3
      conv => cbv
      refine st_len hE' sPl fun x5 hx5 => ?_
      have el : E'.ar .sub .i64 x5 kf = lz := by rw [hE'.ar, show arR .sub .i64 x5 kf = IntKind.i64.wrap (x5 - kf) from rfl, wrap_in (by omega) (by omega)]; omega
      conv => cbv
      simp only [el]
      refine st_upto hE' sPl ho hlz (by omega) fun ho2 => ?_
      rw [fl_take fE_len] at ho2
      conv => cbv
      (refine st_nil hE' ?_; (conv => cbv); refine st_fld hE' fWk1 fun p hp => ?_; (conv => cbv); refine st_load hE' cInt (by rw [hp]; exact (hb).at _ _ rfl) ?_; clear hp; (conv => cbv))
      refine st_bPl hE' ?_
      refine st_oneS hr sPl rfl (by omega) (by omega) rfl fun A7 w7 hx7 hc7 => ?_
      refine ⟨hS _ hx7, ?_⟩
      have h0s3 := hx'.size
      replace hb := hb.bel hx7
      replace hso := hso.ext h0s3 hx7
      replace ht9 := tree_ext h0s3 hx7 ht9
      replace ho2 := ho2.bel hx7
      replace hx' := hx'.trans hx7
      replace hwr := hwr.trans (hx7.wr _)
      clear hx7 h0s3 hS
      have hwsz := hwr.size
      conv => cbv
      refine st_appsKG hr sPl rfl (by omega) ho2 hc7 rfl (by omega) (by simp [Value.oneCell']) hwsz (by omega) (by omega) fun A8 c8 m8 w8 hm8 hw8 ho8 hbk => ?_
      subst hm8
      have hgro : Gro _ A w8 A8 := ⟨hw8, hbk.imp id fun e => ⟨_, e, Nat.le_refl _⟩⟩
      have hrow := own_row ho2 h0s
      have h0s3 := hx'.size
      have apA := own_low ho2 har.2 ha0
      have apA8 := own_low ho8 har.2 ha0
      have h0w := hw8.bel (ho2.mono h0s) h0s3
      replace hb := hb.wr hw8 apA.2
      replace hso := hso.gro h0s3 hrow hgro
      replace ht9 := tree_gro h0s3 hrow hgro ht9
      replace hx' := hx'.then h0w
      replace hwr : Wr (some a) w w8 := by
        refine ⟨hw8.os.trans hwr.os, hw8.tape.trans hwr.tape, hw8.output.trans hwr.output, Nat.le_trans hwr.size hw8.size, fun b hb1 hb2 => ?_⟩
        rw [hw8.block b (Nat.lt_of_lt_of_le hb1 hwr.size) ?_, hwr.block b hb1 hb2]
        obtain rfl | ⟨g, rfl, hg, _⟩ := ho2.blk
        · simp [Eng.blk, Value.ownBlock]
        · have e1 : blk (some (⟨g, 0, none⟩ : Addr)) = some g := rfl
          rw [e1]; intro q; cases q; omega
      clear hgro hbk hw8 ho2 hc7 h0w hrow h0s3
      conv => cbv
      (refine st_nil hE ?_; (conv => cbv); refine st_fld hE fWk1 fun p hp => ?_; (conv => cbv); refine st_load hE cInt (by rw [hp]; exact (hb).at _ _ rfl) ?_; clear hp; (conv => cbv))
      simp only [ei]
      refine st_nil hE ?_
      conv => cbv
      refine st_fld hE fWk1 fun p hp => ?_
      conv => cbv
      refine st_put hr zInt hb hp (by simp) rfl fun wf hwf hbf => ?_
      simp only [List.set_cons_zero, List.set_cons_succ] at hbf
      have h0s3 := hx'.size
      conv => cbv
      refine ⟨(i + 1, ij, A8, lo + 1, c8, es.take lo ++ [⟨t9, ii, ty9, u9⟩]), by simp [Fits, lk], hI _ _ ⟨by simp only; omega, by simp only; omega, by simp only; omega, hwr.trans hwf, hbf, ?_, ?_, ?_, by simp only; omega⟩, by simp only; omega⟩
      · simp only
        rw [List.flatMap_append]
        exact ho8.wr hwf apA8.1
      · simp only
        intro e he
        rcases List.mem_append.1 he with he | he
        · exact ⟨tree_wr h0s3 har ha0 hwf (hso e (List.mem_of_mem_take he)).1, (hso e (List.mem_of_mem_take he)).2⟩
        · simp at he
          subst he
          exact ⟨tree_wr h0s3 har ha0 hwf ht9, hd9⟩
      · simp only
        rw [← hV]
        unfold stOf
        rw [List.map_append, List.map_take]; rfl
  · have g2 : i = tn + 1 := by
      have : ¬ ii ≤ top := by simpa [hE.cmp, cmpR] using g2
      omega
    subst g2
    rw [seg_nil, runM] at hV
    conv => cbv
    refine st_len hE sPl fun x5 hx5 => ?_
    conv => cbv
    refine br (fun g3 => ?_) (fun g3 => ?_)
    · have g3 : x5 ≠ 1 := by simpa [hE.cmp, cmpR] using g3
      conv => cbv
      refine bad ?_ _ hwr
      rw [hTM, ← hV]
      match es, hol with
      | [], _ => rfl
      | [e], h => simp at h; omega
      | e :: e' :: l, _ => rfl
    · have g3 : x5 = 1 := by simpa [hE.cmp, cmpR] using g3
      obtain ⟨e, rfl⟩ : ∃ e, es = [e] := List.length_eq_one_iff.1 (by omega)
      obtain ⟨te, ple, tye, ue⟩ := e
      obtain ⟨gs, hgs, _⟩ := ho.addr (by omega)
      have hst := (hso ⟨te, ple, tye, ue⟩ (by simp)).1
      conv => cbv
      refine st_idx hE sPl hgs (by omega) (by omega) fun p hp => ?_
      conv => cbv
      refine st_fld hE fPl0 fun p2 hp2 => ?_
      conv => cbv
      refine st_load hE cTr (v := .iface tye ue) (by rw [hp2, hp]; subst hgs; simp only [add_add]; exact ho.at 0 _ rfl) ?_
      conv => cbv
      rw [hR]
      refine ⟨.iface tye ue, true, rfl, rfl, hwr, (fun q => by cases q), fun _ => ⟨te, tye, ue, rfl, by rw [hTM, ← hV]; rfl, ?_, ?_⟩⟩
      · exact hst.keep (fun b _ => rfl) fun b hb => by
          rcases hb with hb | hb
          · exact .inl hb
          · exact .inr ⟨hb.1, hb.2.1⟩
      · have : top + 1 = ii := by omega
        rw [this]; exact hb
end Go.Proofs.YtmbonalhbibppaaDoor
