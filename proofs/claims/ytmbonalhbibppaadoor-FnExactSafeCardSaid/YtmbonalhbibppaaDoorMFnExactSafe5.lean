/- Texts that the law FnExactSafe leans on, part 5 of 5: contracts of the functions that it reaches and plain lemmas. Each holds under the conditions that it states. -/
import Derived.Test.YtmbonalhbibppaaDoorMFnExactSafe4
/- What the checker's work on statements leaves as it was. -/
namespace Go.Proofs.YtmbonalhbibppaaDoor
open Go.Eng
set_option linter.unusedVariables false
set_option linter.unusedSimpArgs false
/-- Blocks that stand while the checker works: what there was before it, and what has come since but for its rows. -/
def DT (w0s ws : Nat) (w : World) (A TA : Option Addr) (b : Nat) : Prop := b < w0s ∨ (ws ≤ b ∧ b < w.heap.size ∧ blk A ≠ some b ∧ blk TA ≠ some b)
/-- A step of the checker. -/
structure Stp (w0 : World) (ws : Nat) (w : World) (A TA : Option Addr) (w' : World) (A' TA' : Option Addr) : Prop where
  ext : Ext w0 w'
  keep : ∀ b, DT w0.heap.size ws w A TA b → w'.heap[b]? = w.heap[b]? ∧ DT w0.heap.size ws w' A' TA' b
  size : w.heap.size ≤ w'.heap.size
theorem Stp.trans {w0 a b c : World} {ws : Nat} {A TA B TB C TC : Option Addr} (h : Stp w0 ws a A TA b B TB) (k : Stp w0 ws b B TB c C TC) : Stp w0 ws a A TA c C TC :=
  ⟨k.ext, fun x hx => by
    obtain ⟨h1, h2⟩ := h.keep x hx
    obtain ⟨k1, k2⟩ := k.keep x h2
    exact ⟨k1.trans h1, k2⟩, Nat.le_trans h.size k.size⟩
theorem stp_ext {w0 w w' : World} {ws : Nat} {A TA : Option Addr} (h0 : Ext w0 w) (hx : Ext w w') : Stp w0 ws w A TA w' A TA :=
  ⟨h0.trans hx, fun b hb => by
    have := h0.size
    rcases hb with hb | ⟨b1, b2, b3⟩
    · exact ⟨hx.block b (by omega), .inl hb⟩
    · exact ⟨hx.block b b2, .inr ⟨b1, Nat.lt_of_lt_of_le b2 hx.size, b3⟩⟩, hx.size⟩
section
variable {w0 w w' : World} {ws : Nat} {q : Addr} {bm : Nat} {f : List (ByteArray × Value)} {tys acc : List Int} {TA A A' : Option Addr} {tn tc na c : Nat}
theorem stp_gr2 (hb : KB w0.heap.size ws q bm) (hK : KC w0.heap.size ws w q bm f tys acc TA A tn tc na c) (h0 : Ext w0 w) (hg : Gr2 w q A w' A') : Stp w0 ws w A TA w' A' TA := by
  refine ⟨hg.bel h0 hb.hq.1 hK.rA hb.le, fun b hb1 => ?_, hg.size⟩
  have hs := h0.size
  have hq := hb.hq
  have hle := hb.le
  rcases hb1 with hb1 | ⟨b1, b2, b3, b4⟩
  · exact ⟨hg.block b (by omega) (by omega) (fun e => by have := own_blk hK.rA b e.symm; omega), .inl hb1⟩
  · refine ⟨hg.block b b2 (by omega) (Ne.symm b3), .inr ⟨b1, Nat.lt_of_lt_of_le b2 hg.size, fun e => ?_, b4⟩⟩
    rcases hg.at_ with e1 | ⟨b0, e1, e2⟩
    · rw [e1] at e; exact b3 e
    · rw [e1] at e; cases e; omega
/-- The map is written. -/
theorem stp_map (hb : KB w0.heap.size ws q bm) (h0 : Ext w0 w) (hw : Wr (mb bm) w w') : Stp w0 ws w A TA w' A TA := by
  have hm := hb.m
  have hs := h0.size
  refine ⟨h0.then ⟨hw.os, hw.tape, hw.output, hw.size, fun k hk => hw.block k (by omega) (by rw [mb_blk]; intro e; cases e; omega)⟩, fun b hb1 => ?_, hw.size⟩
  rcases hb1 with hb1 | ⟨b1, b2, b3⟩
  · exact ⟨hw.block b (by omega) (by rw [mb_blk]; intro e; cases e; omega), .inl hb1⟩
  · exact ⟨hw.block b b2 (by rw [mb_blk]; intro e; cases e; omega), .inr ⟨b1, Nat.lt_of_lt_of_le b2 hw.size, b3⟩⟩
/-- The box is written. -/
theorem stp_box (hb : KB w0.heap.size ws q bm) (h0 : Ext w0 w) (hw : Wr (some q) w w') : Stp w0 ws w A TA w' A TA := by
  have hm := hb.hq
  have hs := h0.size
  refine ⟨h0.then ⟨hw.os, hw.tape, hw.output, hw.size, fun k hk => hw.block k (by omega) (by rw [hb.eq]; intro e; cases e; omega)⟩, fun b hb1 => ?_, hw.size⟩
  rcases hb1 with hb1 | ⟨b1, b2, b3⟩
  · exact ⟨hw.block b (by omega) (by rw [hb.eq]; intro e; cases e; omega), .inl hb1⟩
  · exact ⟨hw.block b b2 (by rw [hb.eq]; intro e; cases e; omega), .inr ⟨b1, Nat.lt_of_lt_of_le b2 hw.size, b3⟩⟩
/-- The row of the lets' types has grown. -/
theorem stp_lets (hb : KB w0.heap.size ws q bm) (h0 : Ext w0 w) {TA' : Option Addr} (hT : Own ws 3 1 w TA tn tc (tys.map (.int .i64))) (hg : Gro w TA w' TA') : Stp w0 ws w A TA w' A TA' := by
  have hle := hb.le
  have hs := h0.size
  refine ⟨h0.then ⟨hg.wr.os, hg.wr.tape, hg.wr.output, hg.wr.size, fun k hk => hg.wr.block k (by omega) (fun e => by have := own_blk hT k e.symm; omega)⟩, fun b hb1 => ?_, hg.wr.size⟩
  rcases hb1 with hb1 | ⟨b1, b2, b3, b4⟩
  · exact ⟨hg.wr.block b (by omega) (fun e => by have := own_blk hT b e.symm; omega), .inl hb1⟩
  · refine ⟨hg.wr.block b b2 (Ne.symm b4), .inr ⟨b1, Nat.lt_of_lt_of_le b2 hg.wr.size, b3, fun e => ?_⟩⟩
    rcases hg.at_ with e1 | ⟨b0, e1, e2⟩
    · rw [e1] at e; exact b4 e
    · rw [e1] at e; cases e; omega
end
end Go.Proofs.YtmbonalhbibppaaDoor
/- The program's checker.stmt walked. -/
namespace Go.Proofs.YtmbonalhbibppaaDoor
open Go.Eng
set_option linter.unusedVariables false
set_option linter.unusedSimpArgs false
theorem fSt0 : Fld Tryd.prog 195 0 0 := ⟨by kernel_rfl⟩
theorem fSt1 : Fld Tryd.prog 195 1 1 := ⟨by kernel_rfl⟩
/-- A statement checked. -/
def ckP (s : PS) (x : CK) (p : PT) : (Int × Int) ⊕ CK := match ckC s x p.c with
  | .inl f => .inl f
  | .inr y => ckG y p.g
theorem ckS_cons (s : PS) (p : PT) (l : List (PS × PT)) (x : CK) : ckS ((s, p) :: l) x = match ckP s x p with | .inl f => .inl f | .inr z => ckS l z := by
  rw [ckS, ckP]
  cases ckC s x p.c with
  | inl f => rfl
  | inr y => rfl
def CKs (w0s ws : Nat) (w : World) (q : Addr) (bm : Nat) (x : CK) (A TA : Option Addr) : Prop := ∃ tn tc na c, KC w0s ws w q bm (fN x.names) x.tys x.acc TA A tn tc na c
/-- What stmt gives. -/
def StR (w0 : World) (ws : Nat) (w : World) (q : Addr) (bm : Nat) (x : CK) (A TA : Option Addr) (e : SV) (r : Value) (w' : World) : Prop :=
  ∃ cv gv er, r = .tuple ⟨[.agg ⟨[.int .i64 e.s.k, .string e.s.nm, cv, gv, .int .i64 e.i]⟩, er]⟩ ∧ cv.oneCell' = true ∧ gv.oneCell' = true ∧ Ext w0 w' ∧ match ckP e.s x e.p with
    | .inl f => er = misV f.1 f.2 ∧ f.1 ≠ 0
    | .inr y => er = .nilIface ∧ ∃ A' TA', Stp w0 ws w A TA w' A' TA' ∧ CKs w0.heap.size ws w' q bm y A' TA' ∧ XK y ∧ optV (DT w0.heap.size w.heap.size w' A' TA') w' (e.p.c.map (resT x.names)) cv ∧ optV (DT w0.heap.size w.heap.size w' A' TA') w' (e.p.g.map (resT y.names)) gv
/-- A tree checked, in the words of walkL. -/
theorem check_w {w0 : World} {ws : Nat} {w : World} {q : Addr} {bm : Nat} (hb : KB w0.heap.size ws q bm) (h0 : Ext w0 w) {x : CK} (hX : XK x) {TA A : Option Addr} {tn tc na c : Nat} (hK : KC w0.heap.size ws w q bm (fN x.names) x.tys x.acc TA A tn tc na c) {t : Tr} {v : Value} (ht : TreeV (fun b => b < w0.heap.size) w t v) (hgd : goodT x.tys.length t) (hn : na + (po t).length ≤ 4000) :
    GC Tryd.prog 159 [.pointer (some q), v] w fun r w' => ∃ A' na' c' v' e ty, r = .tuple ⟨[v', .int .i64 ty, e]⟩ ∧ v'.oneCell' = true ∧ Stp w0 ws w A TA w' A' TA ∧ Gr2 w q A w' A' ∧ KC w0.heap.size ws w' q bm (fN x.names) x.tys (walkL x.names x.tys (po t) x.acc).1 TA A' tn tc na' c' ∧ na' = (walkL x.names x.tys (po t) x.acc).1.length ∧
      ((walkL x.names x.tys (po t) x.acc).2 = 0 → e = .nilIface ∧ ty = (tyT x.names x.tys t).1 ∧ TreeV (DN (fun b => b < w0.heap.size) w w' A') w' (resT x.names t) v') ∧ ((walkL x.names x.tys (po t) x.acc).2 ≠ 0 → e = misV (walkL x.names x.tys (po t) x.acc).2 na') := by
  have hs := h0.size
  have hq := hb.hq
  have hle := hb.le
  have h1 := check_g hb hX.eq (dep t) t (Nat.le_refl _) hgd v w (fun b => b < w0.heap.size) x.acc A na c hK hn ht (fun b hb1 => ⟨by omega, by omega, fun e => by have := own_blk hK.rA b e; omega⟩)
  refine ⟨h1.1, h1.2.mono fun e w' he => ?_⟩
  obtain ⟨r, rfl, A', na', c', v', er, ev, hg, hK', hc0, hc1⟩ := he
  obtain ⟨k1, k2, k3⟩ := chk_walk x.names x.tys t x.acc
  rw [k1] at hK'
  rw [k2] at hc0 hc1
  have hst := stp_gr2 hb hK h0 hg
  have hvo : v'.oneCell' = true := by
    by_cases hz : (walkL x.names x.tys (po t) x.acc).2 = 0
    · exact (TreeV.one (hc0 hz).2).1
    · rw [(hc1 hz).2]; rfl
  refine ⟨r, rfl, A', na', c', v', er, _, ev, hvo, hst, hg, hK', hK'.len.2.symm, fun hz => ⟨(hc0 hz).1, (k3 hz).2, (hc0 hz).2⟩, fun hz => (hc1 hz).1⟩
/-- A row or a box that has come since w is written. -/
theorem stp_new {w0 w w' w2 : World} {ws : Nat} {A TA A' TA' : Option Addr} (h : Stp w0 ws w A TA w' A' TA') (h0 : Ext w0 w) {X : Option Addr} (hw : Wr X w' w2) {e : TypeId} {k m cc : Nat} {xs : List Value} (hX : Own w.heap.size e k w' X m cc xs) : Stp w0 ws w A TA w2 A' TA' := by
  have h0s := h0.size
  have hbel := hw.bel hX h.size
  refine ⟨h.ext.then (RowKit.Below.mono hbel h0s), fun b hb => ?_, Nat.le_trans h.size hw.size⟩
  have hbl : b < w.heap.size := by rcases hb with hb | hb <;> omega
  obtain ⟨h1, h2⟩ := h.keep b hb
  refine ⟨(hbel.block b hbl).trans h1, ?_⟩
  rcases h2 with h2 | ⟨b1, b2, b3⟩
  · exact .inl h2
  · exact .inr ⟨b1, Nat.lt_of_lt_of_le b2 hw.size, b3⟩
end Go.Proofs.YtmbonalhbibppaaDoor
/- The program's checker.stmt walked. -/
namespace Go.Proofs.YtmbonalhbibppaaDoor
open Go.Eng
set_option linter.unusedVariables false
set_option linter.unusedSimpArgs false
theorem mget_res (names : List ByteArray) (s : ByteArray) : (mget (fN names) s = none ∧ resN names s = none) ∨ ∃ ty u, mget (fN names) s = some (.iface ty u) ∧ (resN names s).isSome = true := by
  rw [fN_get]
  unfold resN
  cases posF attrs s with
  | some k => exact .inr ⟨_, _, rfl, rfl⟩
  | none => cases posF names s with
    | some k => exact .inr ⟨_, _, rfl, rfl⟩
    | none => exact .inl ⟨rfl, rfl⟩
theorem kc_new2 {w0s ws : Nat} {w w' w2 : World} {q : Addr} {bm : Nat} {f : List (ByteArray × Value)} {tys acc : List Int} {TA At : Option Addr} {tn tc na c : Nat} (hb : KB w0s ws q bm) (h0 : ws ≤ w.heap.size) (h : KC w0s ws w' q bm f tys acc TA At tn tc na c) {X : Option Addr} (hw : Wr X w' w2) {e : TypeId} {k m cc : Nat} {xs : List Value} (hX : Own w.heap.size e k w' X m cc xs) (hA : Apart At X) (hT : Apart TA X) : KC w0s ws w2 q bm f tys acc TA At tn tc na c := by
  have hX1 : ∀ g, g < w.heap.size → blk X ≠ some g := fun g hg e => by have := (own_blk hX _ e).1; omega
  exact ⟨h.box.wr hw (.inr (by rw [hb.eq]; exact (hX1 _ (by have := hb.hq; omega)).symm)), h.map.wr hw (hX1 _ (by have := hb.m; omega)), h.rT.wr hw hT, h.rA.wr hw hA, h.aTA, Nat.le_trans h.hs hw.size⟩
def poO : Option Tr → Nat
  | some t => (po t).length
  | none => 0
set_option maxHeartbeats 16000000 in
theorem stmt_g {w0 : World} {ws : Nat} {q : Addr} {bm : Nat} (hb : KB w0.heap.size ws q bm) {w : World} (h0 : Ext w0 w) {x : CK} {A TA : Option Addr} {tn tc na c : Nat} (hK : KC w0.heap.size ws w q bm (fN x.names) x.tys x.acc TA A tn tc na c) (hX : XK x) (hlt : x.tys.length < 600) {e : SV} {last : Bool} (hs : stmtP last e.s) (snm : e.s.nm.size ≤ 9223372036854775807)
    (hmc : e.p.c.isSome = true ↔ 0 ≤ e.s.c) (hmg : e.p.g.isSome = true ↔ 0 ≤ e.s.g) (hc : optV (fun b => b < w0.heap.size) w e.p.c e.cv) (hg : optV (fun b => b < w0.heap.size) w e.p.g e.gv) (hgc : ∀ t, e.p.c = some t → goodT x.tys.length t) (hgg : ∀ t, e.p.g = some t → goodT x.tys.length t) (hcnt : na + (pos (trs e.p)).length ≤ 4000) (htn : ∀ t, e.p.c = some t → (tyT x.names x.tys t).2 = 0 → (tyT x.names x.tys t).1 ≠ 0) :
    GC Tryd.prog 140 [.pointer (some q), .agg ⟨fV e⟩] w (StR w0 ws w q bm x A TA e) := by
  refine GC.intro (cs := [7, 14]) Tryd.func140 (by kernel_rfl) fun E R hE hr hR => ?_
  obtain ⟨⟨k, nm, cc, gg⟩, ⟨pc, pg⟩, cv, gv, ei⟩ := e
  simp only at hs snm hmc hmg hc hg hgc hgg htn
  have hpos : na + poO pc + poO pg ≤ 4000 := by
    unfold trs at hcnt
    cases pc <;> cases pg <;> simp [pos, poO] at hcnt ⊢ <;> omega
  have hcv := hc.one
  have hgv := hg.one
  unfold fV
  simp only
  conv => cbv
  refine st_box hr fun q3 w1 hx1 hb30 => ?_
  have h3 := hb30 _ (Nat.le_refl _)
  have f3 := bx_form h3
  clear hb30
  conv => cbv
  refine st_alloc hr tSt rfl fun q4 w2 hx2 hb40 => ?_
  have h4 := hb40 _ (Nat.le_refl _)
  have f4 := bx_form h4
  replace h4 := h4.mono hx1.size
  clear hb40
  replace h3 := h3.bel hx2
  have hx := hx1.trans hx2
  have hK2 := hK.ext hx
  have h02 := h0.trans hx
  have s12 := hx1.size
  have s22 := hx2.size
  have hws := hK.hs
  have n34 : q3.block ≠ q4.block := by omega
  conv => cbv
  have e3 := f3.2.2
  have e4 := f4.2.2
  -- the boxes stand while the checker writes
  have bx2 : ∀ {wa wb : World} {Aa Ab : Option Addr} {X : Addr} {ty : TypeId} {xs : List Value}, Gr2 wa q Aa wb Ab → Apart (some X) Aa → Box w.heap.size ty 5 wa X xs → Box w.heap.size ty 5 wb X xs := fun hg ha hX => hg.own hX (fun e => by have := (own_blk hX _ e).1; have := hb.hq; omega) ha
  refine cut_rule [] [14] hr (fun (s : Option Addr × Nat × Nat × List Int × Value × Int) wy => Stp w0 ws w A TA wy s.1 TA ∧ KC w0.heap.size ws wy q bm (fN x.names) x.tys s.2.2.2.1 TA s.1 tn tc s.2.1 s.2.2.1 ∧ s.2.1 + poO pg ≤ 4000 ∧
      Box w.heap.size 195 5 wy q3 [.int .i64 k, .string nm, s.2.2.2.2.1, gv, .int .i64 ei] ∧ Box w.heap.size 195 5 wy q4 zSt ∧ ((Apart s.1 (some q3) ∧ Apart (some q3) s.1) ∧ Apart s.1 (some q4) ∧ Apart (some q4) s.1) ∧ s.2.2.2.2.1.oneCell' = true ∧ optV (DX (fun b => b < w0.heap.size) w wy [blk s.1, blk TA, some q3.block, some q4.block]) wy (pc.map (resT x.names)) s.2.2.2.2.1 ∧ optV (fun b => b < w0.heap.size) wy pg gv ∧
      ((pc = none ∧ s.2.2.2.1 = x.acc) ∨ ∃ t, pc = some t ∧ (walkL x.names x.tys (po t) x.acc).2 = 0 ∧ s.2.2.2.1 = (walkL x.names x.tys (po t) x.acc).1 ∧ s.2.2.2.2.2 = (tyT x.names x.tys t).1))
    (fun s => [(0, .pointer (some q)), (3, .pointer (some q3)), (4, .pointer (some q4)), (7, .int .i64 s.2.2.2.2.2)]) (fun J hJ => ?_) ?_
  · (refine st_fld hE fSt2 fun p hp => ?_; (conv => cbv); refine st_load hE cTr (by rw [hp]; exact (h3).at _ _ rfl) ?_; clear hp; (conv => cbv))
    have a3 := hK.rA.apart h3 (Nat.le_refl _)
    have a4 := hK.rA.apart h4 (Nat.le_refl _)
    cases pc with
    | none =>
      rw [show cv = .nilIface from hc] at h3 ⊢
      refine st_neNil hE Tryd.underlying128 ?_
      conv => cbv
      exact ⟨(A, na, c, x.acc, .nilIface, 0), by simp [Fits, lk], hJ _ _ ⟨stp_ext h0 hx, hK2, by simpa [poO] using hpos, h3, h4, ⟨a3, a4⟩, rfl, rfl, hg.keep (fun b hb1 => hx.block b (by have := h0.size; omega)) (fun b h => h), .inl ⟨rfl, rfl⟩⟩⟩
    | some t =>
      obtain ⟨ty1, u1, rfl⟩ := TreeV.form hc
      refine st_neSome hE Tryd.underlying128 ?_
      conv => cbv
      (refine st_fld hE fSt2 fun p hp => ?_; (conv => cbv); refine st_load hE cTr (by rw [hp]; exact (h3).at _ _ rfl) ?_; clear hp; (conv => cbv))
      have hc2 : TreeV (fun b => b < w0.heap.size) w2 t (.iface ty1 u1) := TreeV.keep (fun b hb1 => hx.block b (by have := h0.size; omega)) (fun b h => h) _ _ hc
      refine st_g hr (check_w hb h02 hX hK2 hc2 (hgc t rfl) (by simp only [poO] at hpos; omega)) fun r w3 ⟨A', na', c', v', er, ty, ev, hvo, hst, hg2, hK', hna', hc0, hc1⟩ => ?_
      subst ev
      have hst0 := (stp_ext h0 hx).trans hst
      obtain ⟨W2, hW2⟩ : ∃ W, W = (walkL x.names x.tys (po t) x.acc).2 := ⟨_, rfl⟩
      rw [← hW2] at hc0 hc1
      have h3' := bx2 hg2 a3.2 h3
      have h4' := bx2 hg2 a4.2 h4
      conv => cbv
      refine st_fld hE fSt2 fun p hp => ?_
      conv => cbv
      refine st_put hr zTr h3' hp (by simp) hvo fun w4 hw4 h3w => ?_
      simp only [List.set_cons_zero, List.set_cons_succ] at h3w
      have b3 := at_apart h3 a3 hg2.at_ hK'.rA
      have b4 := at_apart h4 a4 hg2.at_ hK'.rA
      have hst4 := stp_new hst0 h0 hw4 h3'
      have hK4 := kc_new hb hK hK' hw4 h3' b3.1
      have h4w := h4'.wr hw4 (bx_apart e4 e3 (Ne.symm n34))
      have s23 := hg2.size
      have s34 := hw4.size
      conv => cbv
      by_cases hz : W2 = 0
      · obtain ⟨rfl, hty, htv⟩ := hc0 hz
        refine st_neNil hE Tryd.underlying114 ?_
        conv => cbv
        refine ⟨(A', na', c', (walkL x.names x.tys (po t) x.acc).1, v', ty), by simp [Fits, lk], hJ _ _ ⟨hst4, hK4, ?_, h3w, h4w, ⟨b3, b4⟩, hvo, ?_, ?_, .inr ⟨t, rfl, by rw [← hW2]; exact hz, rfl, hty⟩⟩⟩
        · have := (walkL_len x.names x.tys (po t) x.acc).2.1
          have := hK.len.2
          have e1 : poO (some t) = (po t).length := rfl
          rw [e1] at hpos
          simp only
          omega
        · refine optV.keep (o := some (resT x.names t)) (D := DN (fun b => b < w0.heap.size) w2 w3 A') htv (fun b hb1 => ?_) (fun b hb1 => ?_)
          · rcases hb1 with hb1 | ⟨d1, d2, d3⟩
            · exact hw4.block b (by have := h02.size; omega) (by rw [e3]; intro e; cases e; have := h0.size; omega)
            · exact hw4.block b d2 (by rw [e3]; intro e; cases e; omega)
          · rcases hb1 with hb1 | ⟨d1, d2, d3⟩
            · exact .inl hb1
            · refine .inr ⟨by omega, by omega, ?_⟩
              simp only [List.mem_cons, List.not_mem_nil, or_false, not_or]
              refine ⟨Ne.symm d3, fun e => ?_, fun e => ?_, fun e => ?_⟩
              · have := (own_blk hK2.rT b e.symm).2; omega
              · cases e; omega
              · cases e; omega
        · refine hg.keep (fun b hb1 => ?_) (fun b h => h)
          have hdt : DT w0.heap.size ws w A TA b := .inl hb1
          exact (hst4.keep b hdt).1
      · have her := hc1 hz
        have hck : ckP ⟨k, nm, cc, gg⟩ x ⟨some t, pg⟩ = .inl (W2, (na' : Int)) := by
          unfold ckP
          simp only [ckC]
          rw [if_pos (by rw [← hW2]; exact hz)]
          simp only
          rw [hW2, hna']
        rw [her]
        unfold misV
        refine st_neSome hE Tryd.underlying114 ?_
        conv => cbv
        refine st_loadS hE tSt rfl h3w.at ?_
        conv => cbv
        refine st_putS hr (by kernel_rfl) h4w (add_zero _).symm (by simp [zSt]) (by
          intro y hy
          simp only [List.mem_cons, List.not_mem_nil, or_false] at hy
          rcases hy with rfl | rfl | rfl | rfl | rfl <;> first | rfl | assumption) fun w5 hw5 h5 => ?_
        simp only [zSt, List.take_zero, List.nil_append, List.length_cons, List.length_nil, List.drop_succ_cons, List.drop_nil, List.append_nil] at h5
        conv => cbv
        refine st_cell hr tSt rfl h5.at ?_
        rw [hR]
        refine ⟨v', gv, _, rfl, hvo, hgv, (stp_new hst4 h0 hw5 h4w).ext, ?_⟩
        simp only
        rw [hck]
        exact ⟨rfl, hz⟩
  · clear h3 h4 hK2 h02
    rintro ⟨A1, na1, c1, acc1, cv1, ty1⟩ w3 ⟨hst, hK1, hn1, h3, h4, ⟨b3, b4⟩, hvo, hcv1, hgv1, hor⟩
    simp only at hst hK1 hn1 h3 h4 b3 b4 hvo hcv1 hgv1 hor
    conv => cbv
    refine cut_rule [] [] hr (fun (s : CK × (Option Addr × Option Addr) × (Nat × Nat × Nat × Nat)) wy => ckC ⟨k, nm, cc, gg⟩ x pc = .inr s.1 ∧ XK s.1 ∧ (∀ t, pg = some t → s.1.tys = x.tys) ∧ Stp w0 ws w A TA wy s.2.1.1 s.2.1.2 ∧ KC w0.heap.size ws wy q bm (fN s.1.names) s.1.tys s.1.acc s.2.1.2 s.2.1.1 s.2.2.1 s.2.2.2.1 s.2.2.2.2.1 s.2.2.2.2.2 ∧ s.2.2.2.2.1 + poO pg ≤ 4000 ∧
        Box w.heap.size 195 5 wy q3 [.int .i64 k, .string nm, cv1, gv, .int .i64 ei] ∧ Box w.heap.size 195 5 wy q4 zSt ∧ ((Apart s.2.1.1 (some q3) ∧ Apart (some q3) s.2.1.1) ∧ Apart s.2.1.1 (some q4) ∧ Apart (some q4) s.2.1.1) ∧ (Apart s.2.1.2 (some q3) ∧ Apart s.2.1.2 (some q4)) ∧ optV (DX (fun b => b < w0.heap.size) w wy [blk s.2.1.1, blk s.2.1.2, some q3.block, some q4.block]) wy (pc.map (resT x.names)) cv1 ∧ optV (fun b => b < w0.heap.size) wy pg gv)
      (fun s => [(0, .pointer (some q)), (3, .pointer (some q3)), (4, .pointer (some q4))]) (fun J hJ => ?_) ?_
    · have hk1 : k = 1 → ∃ t, pc = some t ∧ (walkL x.names x.tys (po t) x.acc).2 = 0 ∧ acc1 = (walkL x.names x.tys (po t) x.acc).1 ∧ ty1 = (tyT x.names x.tys t).1 := fun hk => by
        rcases hor with ⟨h1, _⟩ | h1
        · have : 0 ≤ cc := by unfold stmtP at hs; rw [if_pos hk] at hs; exact hs.2.2.1
          have := hmc.2 this
          rw [h1] at this; simp at this
        · exact h1
      conv => cbv
      refine draw_q hr fol (by kernel_rfl) fun E' hE' => ?_
      conv => cbv
      (refine st_fld hE' fSt0 fun p hp => ?_; (conv => cbv); refine st_load hE' cInt (by rw [hp]; exact (h3).at _ _ rfl) ?_; clear hp; (conv => cbv))
      refine br (fun g => ?_) (fun g => ?_)
      · have g : k = 1 := by simpa [hE'.cmp, cmpR] using g
        conv => cbv
        refine st_nil hE' ?_
        conv => cbv
        refine st_fld hE' fCk1 fun p hp => ?_
        conv => cbv
        refine st_load hE' cMp (by rw [hp]; exact hK1.box.at 1 _ rfl) ?_
        conv => cbv
        (refine st_fld hE' fSt1 fun p hp => ?_; (conv => cbv); refine st_load hE' cStr (by rw [hp]; exact (h3).at _ _ rfl) ?_; clear hp; (conv => cbv))
        refine st_imget hE' uMp uStr (by kernel_rfl) hK1.map ?_
        rcases mget_res x.names nm with ⟨m1, m2⟩ | ⟨mt, mu, m1, m2⟩
        · rw [m1]
          conv => cbv
          refine st_neNil hE' Tryd.underlying128 ?_
          conv => cbv
          intro w4 hs4
          have hK4 := hK1.ext hs4.ext
          have h34 := h3.bel hs4.ext
          have h44 := h4.bel hs4.ext
          have hst4 := hst.trans (stp_ext hst.ext hs4.ext)
          conv => cbv
          (refine st_fld hE fSt0 fun p hp => ?_; (conv => cbv); refine st_load hE cInt (by rw [hp]; exact (h34).at _ _ rfl) ?_; clear hp; (conv => cbv))
          refine br (fun g2 => absurd g (by have : k = 2 := by simpa [hE.cmp, cmpR] using g2
                                            omega)) (fun _ => ?_)
          conv => cbv
          (refine st_fld hE fSt0 fun p hp => ?_; (conv => cbv); refine st_load hE cInt (by rw [hp]; exact (h34).at _ _ rfl) ?_; clear hp; (conv => cbv))
          refine br (fun _ => ?_) (fun g2 => absurd g (by simpa [hE.cmp, cmpR] using g2))
          conv => cbv
          refine draw_t [0, 1, 2, 3, 4, 5, 6, 7, 8, 9, 10, 11, 12] [(13, false)] hr fol (by kernel_rfl) fun E'' hE'' w5 hs5 S hS => ?_
          have hK5 := hK4.ext hs5.ext
          have h35 := h34.bel hs5.ext
          have h45 := h44.bel hs5.ext
          have hst5 := hst4.trans (stp_ext hst4.ext hs5.ext)
          conv => cbv
          refine st_nil hE'' ?_
          conv => cbv
          refine st_fld hE'' fCk1 fun p1 hp1 => ?_
          conv => cbv
          refine st_load hE'' cMp (by rw [hp1]; exact hK5.box.at 1 _ rfl) ?_
          conv => cbv
          refine st_fld hE'' fSt1 fun p2 hp2 => ?_
          conv => cbv
          refine st_load hE'' cStr (by rw [hp2]; exact h35.at 1 _ rfl) ?_
          conv => cbv
          refine st_nil hE'' ?_
          conv => cbv
          refine st_fld hE'' fCk0 fun p3 hp3 => ?_
          conv => cbv
          refine st_load hE'' cInts (by rw [hp3]; exact hK5.box.at 0 _ rfl) ?_
          conv => cbv
          refine st_len hE'' tInts fun xl hxl => ?_
          conv => cbv
          refine st_bLt hE'' ?_
          conv => cbv
          refine st_mk hE'' uLtT ?_
          conv => cbv
          refine st_imput hr uMp uStr hK5.map m1 fun w6 hw6 hm6 => ?_
          obtain ⟨t, rfl, hz0, hac, hty⟩ := hk1 g
          have hlen := hK5.len
          have hXe := hX.eq
          have hm6' : IMap w0.heap.size w6 bm (fN (x.names ++ [nm])) := by
            rw [fN_app, show ((x.names.length : Nat) : Int) = xl by omega]; exact hm6
          have hst6 := hst5.trans (stp_map hb hst5.ext hw6)
          have hbm := hb.m
          have hbq := hb.hq
          have nX : ∀ {X : Option Addr} {ty : TypeId} {kk mm cc' : Nat} {xs : List Value} {wz : World}, Own ws ty kk wz X mm cc' xs → Apart X (mb bm) := fun hX => .inr (fun e => by rw [mb_blk] at e; have := (own_blk hX _ e).1; omega)
          have n3 : Apart (some q3) (mb bm) := .inr (by rw [e3, mb_blk]; intro e; cases e; omega)
          have n4 : Apart (some q4) (mb bm) := .inr (by rw [e4, mb_blk]; intro e; cases e; omega)
          have h36 := h35.wr hw6 n3
          have h46 := h45.wr hw6 n4
          have hK6 : KC w0.heap.size ws w6 q bm (fN (x.names ++ [nm])) x.tys acc1 TA A1 tn tc na1 c1 := ⟨hK5.box.wr hw6 (.inr (by rw [hb.eq, mb_blk]; intro e; exact hb.qm (Option.some.inj e).symm)), hm6', hK5.rT.wr hw6 (nX hK5.rT), hK5.rA.wr hw6 (nX hK5.rA), hK5.aTA, Nat.le_trans hK5.hs hw6.size⟩
          conv => cbv
          refine st_nil hE ?_
          conv => cbv
          refine st_fld hE fCk0 fun p4 hp4 => ?_
          conv => cbv
          refine st_load hE cInts (by rw [hp4]; exact hK6.box.at 0 _ rfl) ?_
          conv => cbv
          refine st_one hr tInts rfl rfl fun A7 w7 hx7 hc7 => ?_
          conv => cbv
          have hK7 := hK6.ext hx7
          have hst7 := hst6.trans (stp_ext hst6.ext hx7)
          refine st_appsG hr tInts rfl hK7.rT hc7 rfl (by simp [Value.oneCell']) hK7.hs (by omega) (by omega) fun A8 c8 m8 w8 hm8 hw8 ho8 hk8 => ?_
          subst hm8
          have gT : Gro w7 TA w8 A8 := Gro.app (Ext.refl _) hw8 hk8
          have hst8 := hst7.trans (stp_lets (A := A1) hb hst7.ext hK7.rT gT)
          have bq8 := hK7.box.wr hw8 (own_low hK7.rT hb.hq.2 hb.eq).2
          conv => cbv
          refine st_nil hE ?_
          conv => cbv
          refine st_fld hE fCk0 fun p5 hp5 => ?_
          conv => cbv
          refine st_put hr zInts2 bq8 hp5 (by simp) rfl fun w9 hw9 bq9 => ?_
          simp only [List.set_cons_zero, List.set_cons_succ] at bq9
          have hst9 := hst8.trans (stp_box (A := A1) (TA := A8) hb hst8.ext hw9)
          have h03 := hst.ext
          have stp39 : Stp w0 ws w3 A1 TA w9 A1 A8 := (((((stp_ext h03 hs4.ext).trans (stp_ext hst4.ext hs5.ext)).trans (stp_map hb hst5.ext hw6)).trans (stp_ext hst6.ext hx7)).trans (stp_lets (A := A1) hb hst7.ext hK7.rT gT)).trans (stp_box (A := A1) (TA := A8) hb hst8.ext hw9)
          have ap9 := gro_apart (B := 0) (m := 0) (c := 0) (xs := []) hK7.rA hK7.aTA gT ho8
          have nT : ∀ {X : Addr}, w.heap.size ≤ X.block → blk (some X) = some X.block → Apart (some X) TA := fun hX he => .inr (fun e => by rw [he] at e; have := (own_blk hK.rT _ e.symm).2; omega)
          have hK9 : KC w0.heap.size ws w9 q bm (fN (x.names ++ [nm])) (x.tys ++ [ty1]) acc1 A8 A1 (tn + 1) c8 na1 c1 := ⟨bq9, (hK7.map.wr hw8 (fun e => by have := (own_blk hK7.rT _ e).1; omega)).wr hw9 (by rw [hb.eq]; intro e; exact hb.qm (Option.some.inj e).symm), by rw [List.map_append]; exact ho8.wr hw9 (own_low ho8 hb.hq.2 hb.eq).1, (hK7.rA.wr hw8 hK7.aTA.2).wr hw9 (own_low hK7.rA hb.hq.2 hb.eq).1, ap9, Nat.le_trans hK7.hs (Nat.le_trans hw8.size hw9.size)⟩
          have g3b : w.heap.size ≤ q3.block := (bx_form h36).1
          have g4b : w.heap.size ≤ q4.block := (bx_form h46).1
          have h39 := ((h36.bel hx7).wr hw8 (nT g3b e3)).wr hw9 (bx_apart e3 hb.eq (by omega))
          have h49 := ((h46.bel hx7).wr hw8 (nT g4b e4)).wr hw9 (bx_apart e4 hb.eq (by omega))
          have hdx : ∀ b, DX (fun b => b < w0.heap.size) w w3 [blk A1, blk TA, some q3.block, some q4.block] b → w9.heap[b]? = w3.heap[b]? ∧ DX (fun b => b < w0.heap.size) w w9 [blk A1, blk A8, some q3.block, some q4.block] b := fun b hb1 => by
            rcases hb1 with hb1 | ⟨d1, d2, d3⟩
            · exact ⟨(stp39.keep b (.inl hb1)).1, .inl hb1⟩
            · simp only [List.mem_cons, List.not_mem_nil, or_false, not_or] at d3
              obtain ⟨k1, k2⟩ := stp39.keep b (.inr ⟨by omega, d2, Ne.symm d3.1, Ne.symm d3.2.1⟩)
              refine ⟨k1, .inr ⟨d1, Nat.lt_of_lt_of_le d2 stp39.size, ?_⟩⟩
              simp only [List.mem_cons, List.not_mem_nil, or_false, not_or]
              rcases k2 with k2 | ⟨_, _, k3, k4⟩
              · have := h0.size; omega
              · exact ⟨d3.1, Ne.symm k4, d3.2.2⟩
          have hgn : pg = none := by
            unfold stmtP at hs
            rw [if_pos g] at hs
            cases pg with
            | none => rfl
            | some t2 => have := hmg.1 rfl; simp only at hs; have := hs.2.2.2; omega
          conv => cbv
          exact ⟨(⟨acc1, x.names ++ [nm], x.tys ++ [ty1]⟩, (A1, A8), (tn + 1, c8, na1, c1)), by simp [Fits, lk], hJ _ _ ⟨by
            simp only [ckC]
            rw [if_neg (by simpa using hz0), if_pos g, if_neg (by rw [m2]; simp), hac, hty], ⟨by simp [hX.eq], by simp; omega, fun y hy => by
              rcases List.mem_append.1 hy with hy | hy
              · exact hX.nz y hy
              · simp at hy; rw [hy, hty]; exact htn t rfl (walkL_last hz0).1, fun y hy => by
              rcases List.mem_append.1 hy with hy | hy
              · exact hX.ss y hy
              · simp at hy; rw [hy]; exact snm⟩, fun t2 ht2 => (by rw [hgn] at ht2; cases ht2), hst9, hK9, hn1, h39, h49, ⟨b3, b4⟩, ⟨(gro_apart (B := 0) (m := 0) (c := 0) (xs := []) (h36.bel hx7) (hK.rT.apart h36 (Nat.le_refl _)) gT ho8).1, (gro_apart (B := 0) (m := 0) (c := 0) (xs := []) (h46.bel hx7) (hK.rT.apart h46 (Nat.le_refl _)) gT ho8).1⟩, hcv1.keep (fun b h => (hdx b h).1) (fun b h => (hdx b h).2), hgv1.keep (fun b h => (stp39.keep b (.inl h)).1) (fun b h => h)⟩⟩
        · rw [m1]
          conv => cbv
          refine st_neSome hE' Tryd.underlying128 ?_
          conv => cbv
          intro w4 hs4
          have hK4 := hK1.ext hs4.ext
          have h34 := h3.bel hs4.ext
          have h44 := h4.bel hs4.ext
          have hst4 := hst.trans (stp_ext hst.ext hs4.ext)
          conv => cbv
          refine draw_t [0, 1] [(2, true), (3, false), (4, false)] hr fol (by kernel_rfl) fun E'' hE'' w5 hs5 S hS => ?_
          conv => cbv
          refine st_loadS hE'' tSt rfl (h34.bel hs5.ext).at ?_
          conv => cbv
          obtain ⟨zt, hzt⟩ : ∃ zt : Int, zt = (na1 : Int) - 1 := ⟨_, rfl⟩
          have htop := top_f (hK4.ext hs5.ext) (by omega) 8
          rw [← hzt] at htop
          refine st_f hr htop fun z w6 hx6 ev => ?_
          subst ev
          refine ⟨hS _ hx6, ?_⟩
          conv => cbv
          refine st_putS hr (by kernel_rfl) ((h44.bel hs5.ext).bel hx6) (add_zero _).symm (by simp [zSt]) (by
            intro y hy
            simp only [List.mem_cons, List.not_mem_nil, or_false] at hy
            rcases hy with rfl | rfl | rfl | rfl | rfl <;> first | rfl | assumption) fun w7 hw7 h7 => ?_
          simp only [zSt, List.take_zero, List.nil_append, List.length_cons, List.length_nil, List.drop_succ_cons, List.drop_nil, List.append_nil] at h7
          conv => cbv
          refine st_cell hr tSt rfl h7.at ?_
          obtain ⟨t, rfl, hz0, hac, hty⟩ := hk1 g
          have hck : ckP ⟨k, nm, cc, gg⟩ x ⟨some t, pg⟩ = .inl (8, (na1 : Int) - 1) := by
            unfold ckP
            simp only [ckC]
            rw [if_neg (by simpa using hz0), if_pos g, if_pos m2]
            simp only
            rw [← hac, hK1.len.2]
          rw [hR]
          refine ⟨cv1, gv, misV 8 zt, rfl, hvo, hgv, (stp_new (hst4.trans (stp_ext hst4.ext (hs5.ext.trans hx6))) h0 hw7 ((h44.bel hs5.ext).bel hx6)).ext, ?_⟩
          simp only
          rw [hck, hzt]
          exact ⟨rfl, by simp⟩
      · have g : k ≠ 1 := by simpa [hE'.cmp, cmpR] using g
        conv => cbv
        intro w4 hs4
        have hK4 := hK1.ext hs4.ext
        have h34 := h3.bel hs4.ext
        have h44 := h4.bel hs4.ext
        have stp34 : Stp w0 ws w3 A1 TA w4 A1 TA := stp_ext hst.ext hs4.ext
        have hst4 := hst.trans stp34
        have hdx : ∀ b, DX (fun b => b < w0.heap.size) w w3 [blk A1, blk TA, some q3.block, some q4.block] b → w4.heap[b]? = w3.heap[b]? ∧ DX (fun b => b < w0.heap.size) w w4 [blk A1, blk TA, some q3.block, some q4.block] b := fun b hb1 => by
          rcases hb1 with hb1 | ⟨d1, d2, d3⟩
          · exact ⟨(stp34.keep b (.inl hb1)).1, .inl hb1⟩
          · exact ⟨hs4.ext.block b d2, .inr ⟨d1, Nat.lt_of_lt_of_le d2 hs4.ext.size, d3⟩⟩
        have good : ckC ⟨k, nm, cc, gg⟩ x pc = .inr ⟨acc1, x.names, x.tys⟩ → _ := fun hck => hJ (⟨acc1, x.names, x.tys⟩, (A1, TA), (tn, tc, na1, c1)) w4 ⟨hck, ⟨hX.eq, hX.le, hX.nz, hX.ss⟩, fun _ _ => rfl, hst4, hK4, hn1, h34, h44, ⟨b3, b4⟩, ⟨(hK.rT.apart h34 (Nat.le_refl _)).1, (hK.rT.apart h44 (Nat.le_refl _)).1⟩, hcv1.keep (fun b h => (hdx b h).1) (fun b h => (hdx b h).2), hgv1.keep (fun b h => (stp34.keep b (.inl h)).1) (fun b h => h)⟩
        conv => cbv
        (refine st_fld hE fSt0 fun p hp => ?_; (conv => cbv); refine st_load hE cInt (by rw [hp]; exact (h34).at _ _ rfl) ?_; clear hp; (conv => cbv))
        refine br (fun g2 => ?_) (fun g2 => ?_)
        · have g2 : k = 2 := by simpa [hE.cmp, cmpR] using g2
          have hc0 : 0 ≤ cc := by unfold stmtP at hs; rw [if_neg g, if_pos g2] at hs; exact hs.2.2.1
          obtain ⟨t, rfl, hz0, hac, hty⟩ : ∃ t, pc = some t ∧ (walkL x.names x.tys (po t) x.acc).2 = 0 ∧ acc1 = (walkL x.names x.tys (po t) x.acc).1 ∧ ty1 = (tyT x.names x.tys t).1 := by
            rcases hor with ⟨h1, _⟩ | h1
            · have := hmc.2 hc0
              rw [h1] at this; simp at this
            · exact h1
          conv => cbv
          refine br (fun g3 => ?_) (fun g3 => ?_)
          · have g3 : ty1 ≠ 1 := by simpa [hE.cmp, cmpR] using g3
            conv => cbv
            refine draw_t [0, 1] [(2, true), (3, false), (4, false)] hr fol (by kernel_rfl) fun E'' hE'' w5 hs5 S hS => ?_
            conv => cbv
            refine st_loadS hE'' tSt rfl (h34.bel hs5.ext).at ?_
            conv => cbv
            obtain ⟨zt, hzt⟩ : ∃ zt : Int, zt = (na1 : Int) - 1 := ⟨_, rfl⟩
            have htop := top_f (hK4.ext hs5.ext) (by omega) 9
            rw [← hzt] at htop
            refine st_f hr htop fun z w6 hx6 ev => ?_
            subst ev
            refine ⟨hS _ hx6, ?_⟩
            conv => cbv
            refine st_putS hr (by kernel_rfl) ((h44.bel hs5.ext).bel hx6) (add_zero _).symm (by simp [zSt]) (by
              intro y hy
              simp only [List.mem_cons, List.not_mem_nil, or_false] at hy
              rcases hy with rfl | rfl | rfl | rfl | rfl <;> first | rfl | assumption) fun w7 hw7 h7 => ?_
            simp only [zSt, List.take_zero, List.nil_append, List.length_cons, List.length_nil, List.drop_succ_cons, List.drop_nil, List.append_nil] at h7
            conv => cbv
            refine st_cell hr tSt rfl h7.at ?_
            have hck : ckP ⟨k, nm, cc, gg⟩ x ⟨some t, pg⟩ = .inl (9, (na1 : Int) - 1) := by
              unfold ckP
              simp only [ckC]
              rw [if_neg (by simpa using hz0), if_neg g, if_pos (by rw [← hty]; exact g3)]
              simp only
              rw [← hac, hK1.len.2]
            rw [hR]
            refine ⟨cv1, gv, misV 9 zt, rfl, hvo, hgv, (stp_new (hst4.trans (stp_ext hst4.ext (hs5.ext.trans hx6))) h0 hw7 ((h44.bel hs5.ext).bel hx6)).ext, ?_⟩
            simp only
            rw [hck, hzt]
            exact ⟨rfl, by simp⟩
          · have g3 : ¬ ty1 ≠ 1 := by simpa [hE.cmp, cmpR] using g3
            conv => cbv
            (refine st_fld hE fSt0 fun p hp => ?_; (conv => cbv); refine st_load hE cInt (by rw [hp]; exact (h34).at _ _ rfl) ?_; clear hp; (conv => cbv))
            refine br (fun g4 => absurd (by simpa [hE.cmp, cmpR] using g4) g) (fun _ => ?_)
            conv => cbv
            exact ⟨_, by simp [Fits, lk], good (by simp only [ckC]; rw [if_neg (by simpa using hz0), if_neg g, if_neg (by rw [← hty]; exact g3), hac])⟩
        · have g2 : k ≠ 2 := by simpa [hE.cmp, cmpR] using g2
          conv => cbv
          (refine st_fld hE fSt0 fun p hp => ?_; (conv => cbv); refine st_load hE cInt (by rw [hp]; exact (h34).at _ _ rfl) ?_; clear hp; (conv => cbv))
          refine br (fun g4 => absurd (by simpa [hE.cmp, cmpR] using g4) g) (fun _ => ?_)
          conv => cbv
          have hpn : pc = none ∧ acc1 = x.acc := by
            rcases hor with h1 | ⟨t, h1, _⟩
            · exact h1
            · have : 0 ≤ cc := hmc.1 (by rw [h1]; rfl)
              unfold stmtP at hs
              rw [if_neg g, if_neg g2] at hs
              split at hs
              · have h5 : cc = -1 := hs.2.2.1
                omega
              · exact hs.elim
          exact ⟨_, by simp [Fits, lk], good (by rw [hpn.1]; simp only [ckC]; rw [hpn.2])⟩
    · clear hst hK1 h3 h4 b3 b4 hcv1 hgv1 hor hn1
      rintro ⟨y, ⟨A2, TA2⟩, ⟨tn2, tc2, na2, c2⟩⟩ w5 ⟨hck, hY, hty2, hst, hK5, hn2, h3, h4, ⟨b3, b4⟩, ⟨d3, d4⟩, hcv2, hgv2⟩
      simp only at hck hY hty2 hst hK5 hn2 h3 h4 b3 b4 d3 d4 hcv2 hgv2
      conv => cbv
      (refine st_fld hE fSt3 fun p hp => ?_; (conv => cbv); refine st_load hE cTr (by rw [hp]; exact (h3).at _ _ rfl) ?_; clear hp; (conv => cbv))
      cases pg with
      | none =>
        have hgn : gv = .nilIface := hgv2
        rw [hgn] at h3 ⊢
        refine st_neNil hE Tryd.underlying128 ?_
        conv => cbv
        refine st_loadS hE tSt rfl h3.at ?_
        conv => cbv
        refine st_putS hr (by kernel_rfl) h4 (add_zero _).symm (by simp [zSt]) (by
          intro y hy
          simp only [List.mem_cons, List.not_mem_nil, or_false] at hy
          rcases hy with rfl | rfl | rfl | rfl | rfl <;> first | rfl | assumption) fun w7 hw7 h7 => ?_
        simp only [zSt, List.take_zero, List.nil_append, List.length_cons, List.length_nil, List.drop_succ_cons, List.drop_nil, List.append_nil] at h7
        conv => cbv
        refine st_cell hr tSt rfl h7.at ?_
        have hst7 := stp_new hst h0 hw7 h4
        have hck2 : ckP ⟨k, nm, cc, gg⟩ x ⟨pc, none⟩ = .inr y := by unfold ckP; simp only; rw [hck]; rfl
        rw [hR]
        refine ⟨cv1, .nilIface, .nilIface, rfl, hvo, rfl, hst7.ext, ?_⟩
        simp only
        rw [hck2]
        refine ⟨trivial, A2, TA2, hst7, ⟨_, _, _, _, kc_new2 hb hws hK5 hw7 h4 b4.1 d4⟩, hY, hcv2.keep (fun b hb1 => ?_) (fun b hb1 => ?_), rfl⟩
        · rcases hb1 with hb1 | ⟨d1, d2, d3⟩
          · exact hw7.block b (by have := hst.ext.size; omega) (by rw [e4]; intro e; cases e; have := h0.size; omega)
          · simp only [List.mem_cons, List.not_mem_nil, or_false, not_or] at d3
            exact hw7.block b d2 (by rw [e4]; exact d3.2.2.2)
        · rcases hb1 with hb1 | ⟨d1, d2, d3⟩
          · exact .inl hb1
          · simp only [List.mem_cons, List.not_mem_nil, or_false, not_or] at d3
            exact .inr ⟨by omega, Nat.lt_of_lt_of_le d2 hw7.size, Ne.symm d3.1, Ne.symm d3.2.1⟩
      | some t =>
        obtain ⟨ty3, u3, rfl⟩ := TreeV.form hgv2
        refine st_neSome hE Tryd.underlying128 ?_
        conv => cbv
        (refine st_fld hE fSt3 fun p hp => ?_; (conv => cbv); refine st_load hE cTr (by rw [hp]; exact (h3).at _ _ rfl) ?_; clear hp; (conv => cbv))
        have e1 : poO (some t) = (po t).length := rfl
        rw [e1] at hn2
        refine st_g hr (check_w hb hst.ext hY hK5 hgv2 (by rw [hty2 t rfl]; exact hgg t rfl) hn2) fun r w6 ⟨A', na', c', v', er, ty, ev, hvo', hst', hg2, hK', hna', hc0, hc1⟩ => ?_
        subst ev
        have hst6 := hst.trans hst'
        obtain ⟨W2, hW2⟩ : ∃ W, W = (walkL y.names y.tys (po t) y.acc).2 := ⟨_, rfl⟩
        rw [← hW2] at hc0 hc1
        have h3' := bx2 hg2 b3.2 h3
        have h4' := bx2 hg2 b4.2 h4
        have b3' := at_apart h3 b3 hg2.at_ hK'.rA
        have b4' := at_apart h4 b4 hg2.at_ hK'.rA
        conv => cbv
        refine st_fld hE fSt3 fun p hp => ?_
        conv => cbv
        refine st_put hr zTr h3' hp (by simp) hvo' fun w7 hw7 h3w => ?_
        simp only [List.set_cons_zero, List.set_cons_succ] at h3w
        have hst7 := stp_new hst6 h0 hw7 h3'
        have hK7 := kc_new2 hb hws hK' hw7 h3' b3'.1 d3
        have h4w := h4'.wr hw7 (bx_apart e4 e3 (Ne.symm n34))
        have s56 := hg2.size
        have s67 := hw7.size
        have hckG : ckP ⟨k, nm, cc, gg⟩ x ⟨pc, some t⟩ = if W2 ≠ 0 then .inl (W2, (na' : Int)) else if (tyT y.names y.tys t).1 ≠ 4 then .inl (9, (na' : Int) - 1) else .inr ⟨(walkL y.names y.tys (po t) y.acc).1, y.names, y.tys⟩ := by
          unfold ckP; simp only; rw [hck]; simp only [ckG]; rw [← hW2, ← hna']
        conv => cbv
        by_cases hz : W2 = 0
        · obtain ⟨rfl, hty, htv⟩ := hc0 hz
          rw [if_neg (by simpa using hz)] at hckG
          refine st_neNil hE Tryd.underlying114 ?_
          conv => cbv
          refine br (fun g3 => ?_) (fun g3 => ?_)
          · have g3 : ty ≠ 4 := by simpa [hE.cmp, cmpR] using g3
            rw [if_pos (by rw [← hty]; exact g3)] at hckG
            conv => cbv
            refine draw_t [0, 1] [(2, true), (3, false), (4, false)] hr fol (by kernel_rfl) fun E'' hE'' w8 hs8 S hS => ?_
            conv => cbv
            refine st_loadS hE'' tSt rfl (h3w.bel hs8.ext).at ?_
            conv => cbv
            obtain ⟨zt, hzt⟩ : ∃ zt : Int, zt = (na' : Int) - 1 := ⟨_, rfl⟩
            have hnale : na' ≤ 4001 := by
              have := (walkL_len y.names y.tys (po t) y.acc).2.1
              have := hK5.len.2
              omega
            have htop := top_f (hK7.ext hs8.ext) hnale 9
            rw [← hzt] at htop
            refine st_f hr htop fun z w9 hx9 ev => ?_
            subst ev
            refine ⟨hS _ hx9, ?_⟩
            conv => cbv
            refine st_putS hr (by kernel_rfl) ((h4w.bel hs8.ext).bel hx9) (add_zero _).symm (by simp [zSt]) (by
              intro y hy
              simp only [List.mem_cons, List.not_mem_nil, or_false] at hy
              rcases hy with rfl | rfl | rfl | rfl | rfl <;> first | rfl | assumption) fun w10 hw10 h10 => ?_
            simp only [zSt, List.take_zero, List.nil_append, List.length_cons, List.length_nil, List.drop_succ_cons, List.drop_nil, List.append_nil] at h10
            conv => cbv
            refine st_cell hr tSt rfl h10.at ?_
            rw [hR]
            refine ⟨cv1, v', misV 9 zt, rfl, hvo, hvo', (stp_new (hst7.trans (stp_ext hst7.ext (hs8.ext.trans hx9))) h0 hw10 ((h4w.bel hs8.ext).bel hx9)).ext, ?_⟩
            simp only
            rw [hckG, hzt]
            exact ⟨rfl, by simp⟩
          · have g3 : ¬ ty ≠ 4 := by simpa [hE.cmp, cmpR] using g3
            rw [if_neg (by rw [← hty]; exact g3)] at hckG
            conv => cbv
            refine st_loadS hE tSt rfl h3w.at ?_
            conv => cbv
            refine st_putS hr (by kernel_rfl) h4w (add_zero _).symm (by simp [zSt]) (by
              intro y hy
              simp only [List.mem_cons, List.not_mem_nil, or_false] at hy
              rcases hy with rfl | rfl | rfl | rfl | rfl <;> first | rfl | assumption) fun w8 hw8 h8 => ?_
            simp only [zSt, List.take_zero, List.nil_append, List.length_cons, List.length_nil, List.drop_succ_cons, List.drop_nil, List.append_nil] at h8
            conv => cbv
            refine st_cell hr tSt rfl h8.at ?_
            have hst8 := stp_new hst7 h0 hw8 h4w
            rw [hR]
            refine ⟨cv1, v', .nilIface, rfl, hvo, hvo', hst8.ext, ?_⟩
            simp only
            rw [hckG]
            have s78 := hw8.size
            have hs05 := hst.ext.size
            have h0s := h0.size
            refine ⟨trivial, A', TA2, hst8, ⟨_, _, _, _, kc_new2 hb hws hK7 hw8 h4w b4'.1 d4⟩, ⟨hY.eq, hY.le, hY.nz, hY.ss⟩, hcv2.keep (fun b hb1 => ?_) (fun b hb1 => ?_), TreeV.keep (fun b hb1 => ?_) (fun b hb1 => ?_) _ _ htv⟩
            · have k1 : b < w5.heap.size ∧ b ≠ q3.block ∧ b ≠ q4.block ∧ DT w0.heap.size ws w5 A2 TA2 b := by
                rcases hb1 with hb1 | ⟨d1, d2, d5⟩
                · exact ⟨by omega, by omega, by omega, .inl hb1⟩
                · simp only [List.mem_cons, List.not_mem_nil, or_false, not_or] at d5
                  exact ⟨d2, fun e => d5.2.2.1 (by rw [e]), fun e => d5.2.2.2 (by rw [e]), .inr ⟨by omega, d2, Ne.symm d5.1, Ne.symm d5.2.1⟩⟩
              rw [hw8.block b (by omega) (by rw [e4]; intro e; cases e; exact k1.2.2.1 rfl), hw7.block b (by omega) (by rw [e3]; intro e; cases e; exact k1.2.1 rfl)]
              exact (hst'.keep b k1.2.2.2).1
            · rcases hb1 with hb1 | ⟨d1, d2, d5⟩
              · exact .inl hb1
              · simp only [List.mem_cons, List.not_mem_nil, or_false, not_or] at d5
                rcases (hst'.keep b (.inr ⟨by omega, d2, Ne.symm d5.1, Ne.symm d5.2.1⟩)).2 with k2 | ⟨k2, k3, k4⟩
                · exact .inl k2
                · exact .inr ⟨d1, by omega, k4⟩
            · rcases hb1 with hb1 | ⟨d1, d2, d5⟩
              · rw [hw8.block b (by omega) (by rw [e4]; intro e; cases e; omega), hw7.block b (by omega) (by rw [e3]; intro e; cases e; omega)]
              · have := hst.size
                have l3 := (bx_form h3).2.1
                have l4 := (bx_form h4).2.1
                rw [hw8.block b (by omega) (by rw [e4]; intro e; cases e; omega), hw7.block b (by omega) (by rw [e3]; intro e; cases e; omega)]
            · rcases hb1 with hb1 | ⟨d1, d2, d5⟩
              · exact .inl hb1
              · have := hst.size
                exact .inr ⟨by omega, by omega, d5, fun e => by have := (own_blk hK5.rT b e).2; omega⟩
        · have her := hc1 hz
          rw [if_pos hz] at hckG
          rw [her]
          unfold misV
          refine st_neSome hE Tryd.underlying114 ?_
          conv => cbv
          refine st_loadS hE tSt rfl h3w.at ?_
          conv => cbv
          refine st_putS hr (by kernel_rfl) h4w (add_zero _).symm (by simp [zSt]) (by
            intro y hy
            simp only [List.mem_cons, List.not_mem_nil, or_false] at hy
            rcases hy with rfl | rfl | rfl | rfl | rfl <;> first | rfl | assumption) fun w8 hw8 h8 => ?_
          simp only [zSt, List.take_zero, List.nil_append, List.length_cons, List.length_nil, List.drop_succ_cons, List.drop_nil, List.append_nil] at h8
          conv => cbv
          refine st_cell hr tSt rfl h8.at ?_
          rw [hR]
          refine ⟨cv1, v', _, rfl, hvo, hvo', (stp_new hst7 h0 hw8 h4w).ext, ?_⟩
          simp only
          rw [hckG]
          exact ⟨rfl, hz⟩
end Go.Proofs.YtmbonalhbibppaaDoor
/- Statements whose trees the program reads and checks, in plain words: the typed policy's leaves, and what makes a policy well-typed. -/
namespace Go.Proofs.YtmbonalhbibppaaDoor
open Go.Eng
set_option linter.unusedVariables false
set_option linter.unusedSimpArgs false
/-- The leaves that a typed policy may have behind l lets. -/
def leafT (l : Nat) (p : PN) : Prop := if p.o = 6 then p.tx = ⟨#[]⟩ ∧ p.xs = [] ∧ 0 ≤ p.z ∧ p.z < 6 else if p.o = 7 then p.tx = ⟨#[]⟩ ∧ p.xs = [] ∧ 0 ≤ p.z ∧ p.z < l else cOK p
theorem cOK_o {p : PN} (h : cOK p) : p.o = 1 ∨ p.o = 2 ∨ p.o = 3 ∨ p.o = 4 := by
  unfold cOK at h
  rcases h with h | h | h | h
  · exact .inl h.1
  · exact .inr (.inl h.1)
  · exact .inr (.inr (.inl h.1))
  · exact .inr (.inr (.inr h.1))
theorem leafT_mono {l m : Nat} (h : l ≤ m) {p : PN} (hp : leafT l p) : leafT m p := by
  unfold leafT at hp ⊢
  split at hp
  · rename_i g; rw [if_pos g]; exact hp
  · rename_i g
    rw [if_neg g]
    split at hp
    · rename_i g2; rw [if_pos g2]; exact ⟨hp.1, hp.2.1, hp.2.2.1, by have := hp.2.2.2; omega⟩
    · rename_i g2; rw [if_neg g2]; exact hp
theorem fieldsT_iff {p : PN} (hk : (p.ks.length : Int) = kidsF p.o) : fieldsP true p ↔ nodeOK (leafT 600) p := by
  obtain ⟨o, z, tx, xs, ks⟩ := p
  unfold fieldsP nodeOK leafT cOK
  simp only at hk ⊢
  have h0 : kidsF o = 0 ↔ 1 ≤ o ∧ o ≤ 7 := by unfold kidsF; (repeat' split) <;> omega
  have h1 : 0 ≤ kidsF o := by omega
  by_cases e : 1 ≤ o ∧ o ≤ 7
  · have hz := h0.2 e
    have : o = 1 ∨ o = 2 ∨ o = 3 ∨ o = 4 ∨ o = 5 ∨ o = 6 ∨ o = 7 := by omega
    rcases this with rfl | rfl | rfl | rfl | rfl | rfl | rfl <;> simp [hk, hz]
    · constructor
      · rintro ⟨a, b, c, d⟩; exact ⟨c, d, a, by omega⟩
      · rintro ⟨a, b, c, d⟩; exact ⟨c, by omega, a, b⟩
    · constructor
      · rintro ⟨a, b, c, d⟩; exact ⟨c, d, a, by omega⟩
      · rintro ⟨a, b, c, d⟩; exact ⟨c, by omega, a, b⟩
  · have h2 : kidsF o ≠ 0 := fun q => e (h0.1 q)
    have h3 : 1 ≤ kidsF o := by omega
    rw [if_neg (by omega), if_neg (by omega), if_neg (by omega), if_neg (by omega), if_neg (by omega), if_neg (by omega), if_neg (by omega)]
    exact ⟨fun h => ⟨fun q => absurd q h2, fun _ => h.2⟩, fun h => ⟨hk, h.2 h3⟩⟩
theorem nodeOK_mono {lf lf' : PN → Prop} (h : ∀ p, lf p → lf' p) {p : PN} (hp : nodeOK lf p) : nodeOK lf' p := ⟨fun q => h p (hp.1 q), hp.2⟩
theorem stmtM_mono {ns : List PN} {lf lf' : PN → Prop} (h : ∀ p, lf p → lf' p) {last : Bool} {i : Nat} {s : PS} {p : PT} {j : Nat} (hs : stmtM ns lf last i s = some (p, j)) : stmtM ns lf' last i s = some (p, j) := by
  obtain ⟨a, b, c, d, e⟩ := stmtM_iff.1 hs
  exact stmtM_iff.2 ⟨a, b, c, d, fun q pn h1 h2 h3 => nodeOK_mono h (e q pn h1 h2 h3)⟩
theorem runS_mono {ns : List PN} : ∀ (l : List PS) {i lets : Nat} {acc : List PT} {r : List PT × Nat}, lets + l.length ≤ 600 → runS ns leafT l i lets acc = some r → runS ns (fun _ => leafT 600) l i lets acc = some r
  | [], i, lets, acc, r, _, h => h
  | s :: l, i, lets, acc, r, hl, h => by
    rw [runS] at h ⊢
    cases hm : stmtM ns (leafT lets) l.isEmpty i s with
    | none => rw [hm] at h; cases h
    | some x =>
      obtain ⟨p, j⟩ := x
      rw [hm] at h
      simp only [List.length_cons] at hl
      rw [stmtM_mono (fun p => leafT_mono (by omega)) hm]
      simp only at h ⊢
      refine runS_mono l ?_ h
      split <;> omega
/-- The constants' kinds, and lets that are there. -/
def topK : Tr → Prop
  | .con k _ _ _ _ => k ≠ 0
  | .lt n => 0 ≤ n
  | _ => True
theorem topK_nz {names : List ByteArray} {tys : List Int} {t : Tr} (ht : topK t) (he : names.length = tys.length) (hn : ∀ y ∈ tys, y ≠ 0) (hc : (tyT names tys t).2 = 0) : (tyT names tys t).1 ≠ 0 := by
  have getnz : ∀ i : Nat, i < tys.length → tys.getD i 0 ≠ 0 := fun i hi => by
    rw [List.getD_eq_getElem?_getD, List.getElem?_eq_getElem hi]
    exact hn _ (List.getElem_mem hi)
  have ha : ∀ n : Int, attrF n ≠ 0 := fun n => by unfold attrF; (repeat' split) <;> omega
  cases t with
  | con k n tx xs at_ => exact ht
  | att n => exact ha n
  | lt n =>
    simp only [topK] at ht
    simp only [tyT, tyLt] at hc ⊢
    split at hc
    · cases hc
    · rename_i h8; rw [if_neg h8]; exact getnz _ (by omega)
  | nam tx at_ =>
    simp only [tyT, tyNam] at hc ⊢
    split at hc
    · exact ha _
    · rename_i hno
      split at hc
      · cases hc
      · rename_i i hi
        have := (List.getElem?_eq_some_iff.1 (posF_lt hi)).1
        exact getnz i (by omega)
  | op o kids at_ =>
    rw [tyT] at hc ⊢
    split at hc
    · rename_i h; exact absurd hc h
    · rename_i h
      rw [if_neg h]
      split at hc
      · cases hc
      · rename_i h2; rw [if_neg h2]; exact h2
theorem ists_good {ns : List PN} {lf : PN → Prop} {L : Nat} (h6 : ∀ p, lf p → p.o = 6 → 0 ≤ p.z ∧ p.z < 6) (h7 : ∀ p, lf p → p.o = 7 → 0 ≤ p.z ∧ p.z < L) {a b : Nat} {ks : List Int} {ts : List Tr} (h : IsTs ns a b ks ts) : (∀ q p, a ≤ q → q < b → ns[q]? = some p → nodeOK lf p) → goodTs L ts ∧ ∀ t ∈ ts, topK t := by
  induction h with
  | nil a => intro _; exact ⟨by simp only [goodTs], by simp⟩
  | @cons a b k p ks kids ts hp hk h1 h2 i1 i2 =>
    intro hok
    have e1 := h1.le
    have e2 := h2.le
    obtain ⟨g1, g2⟩ := i1 fun q p h1 h2 => hok q p h1 (by omega)
    obtain ⟨g3, g4⟩ := i2 fun q p h1 h2 => hok q p (by omega) h2
    have hn := hok k p e1 (by omega) hp
    have hkl := h1.len
    have hT : goodT L (mkT p k kids) ∧ topK (mkT p k kids) := by
      unfold mkT
      split
      · rename_i h0
        have hl := hn.1 h0
        unfold leafF
        split
        · simp only [goodT, topK]; trivial
        · split
          · rename_i h; simp only [goodT, topK]; exact ⟨h6 p hl h, trivial⟩
          · split
            · rename_i h; simp only [goodT, topK]; exact ⟨h7 p hl h, (h7 p hl h).1⟩
            · simp only [goodT, topK]
              refine ⟨trivial, ?_⟩
              unfold knd; (repeat' split) <;> omega
      · rename_i h0
        simp only [goodT, topK]
        exact ⟨⟨by omega, by omega, g1⟩, trivial⟩
    refine ⟨by simp only [goodTs]; exact ⟨hT.1, g3⟩, fun t ht => ?_⟩
    rcases List.mem_cons.1 ht with rfl | ht
    · exact hT.2
    · exact g4 t ht
/-- Statements with trees of which check can speak, behind L lets. -/
def GoodS (L : Nat) : List (PS × PT) → Prop
  | [] => True
  | (s, p) :: l => stmtP l.isEmpty s ∧ ((p.c.isSome = true ↔ 0 ≤ s.c) ∧ (p.g.isSome = true ↔ 0 ≤ s.g)) ∧ (∀ t ∈ trs p, goodT L t ∧ topK t) ∧ GoodS (if s.k = 1 then L + 1 else L) l
theorem stmtsP_cons {s : PS} {l : List PS} : stmtsP (s :: l) ↔ stmtP l.isEmpty s ∧ stmtsP l := by
  have e : decide (0 + 1 = (s :: l).length) = l.isEmpty := by cases l <;> simp
  constructor
  · intro h
    refine ⟨by have := h 0 s rfl; rwa [e] at this, fun k t ht => ?_⟩
    have := h (k + 1) t (by simpa using ht)
    simpa using this
  · rintro ⟨h1, h2⟩ k t ht
    cases k with
    | zero => simp at ht; subst ht; rw [e]; exact h1
    | succ k => have := h2 k t (by simpa using ht); simpa using this
theorem goodTs_mem {L : Nat} : ∀ {l : List Tr} {t : Tr}, goodTs L l → t ∈ l → goodT L t
  | u :: l, t, h, e => by
    simp only [goodTs] at h
    rcases List.mem_cons.1 e with rfl | e
    · exact h.1
    · exact goodTs_mem h.2 e
/-- Everything that trees has found. -/
theorem runS_full {ns : List PN} {lp : Nat → PN → Prop} (h6 : ∀ l p, lp l p → p.o = 6 → 0 ≤ p.z ∧ p.z < 6) (h7 : ∀ l p, lp l p → p.o = 7 → 0 ≤ p.z ∧ p.z < l) : ∀ (l : List PS) {i j lets : Nat} {acc acc' : List PT}, runS ns lp l i lets acc = some (acc', j) →
    ∃ pts, acc' = acc ++ pts ∧ Match l pts ∧ IsTs ns i j (roots l) (pts.flatMap trs) ∧ (∀ t ∈ pts.flatMap trs, dep t ≤ 64) ∧ GoodS lets (l.zip pts)
  | [], i, j, lets, acc, acc', h => by
    rw [runS] at h
    cases h
    exact ⟨[], by simp, ⟨rfl, by simp⟩, by simpa [roots] using IsTs.nil i, by simp, trivial⟩
  | s :: l, i, j, lets, acc, acc', h => by
    rw [runS] at h
    cases hm : stmtM ns (lp lets) l.isEmpty i s with
    | none => rw [hm] at h; cases h
    | some x =>
      obtain ⟨p, m⟩ := x
      rw [hm] at h
      simp only at h
      obtain ⟨a1, a2, a3, a4, a5⟩ := stmtM_iff.1 hm
      obtain ⟨pts, b1, b2, b3, b4, b5⟩ := runS_full h6 h7 l h
      obtain ⟨g1, g2⟩ := ists_good (h6 lets) (h7 lets) a3 a5
      have hg : p.g.isSome = true ↔ 0 ≤ s.g := by
        have hl := a3.len
        obtain ⟨c, g⟩ := p
        simp only at a2
        rw [rootS_eq, List.length_append] at hl
        unfold rootO at hl
        simp only [trs] at hl
        by_cases e : 0 ≤ s.c
        · rw [if_pos e] at hl
          cases c with
          | none => exact absurd (a2.2 e) (by simp)
          | some t =>
            by_cases e2 : 0 ≤ s.g
            · rw [if_pos e2] at hl
              cases g with
              | none => simp at hl
              | some t2 => simp [e2]
            · rw [if_neg e2] at hl
              cases g with
              | none => simp; omega
              | some t2 => simp at hl
        · rw [if_neg e] at hl
          cases c with
          | some t => exact absurd (a2.1 rfl) e
          | none =>
            by_cases e2 : 0 ≤ s.g
            · rw [if_pos e2] at hl
              cases g with
              | none => simp at hl
              | some t2 => simp [e2]
            · rw [if_neg e2] at hl
              cases g with
              | none => simp; omega
              | some t2 => simp at hl
      have ez : (l.zip pts).isEmpty = l.isEmpty := by
        have := b2.1
        cases l with
        | nil => rfl
        | cons x l => cases pts with
          | nil => simp at this
          | cons y pts => rfl
      refine ⟨p :: pts, by rw [b1]; simp, match_cons.2 ⟨⟨a2, hg⟩, b2⟩, ?_, ?_, ?_⟩
      · rw [roots_cons, List.flatMap_cons]; exact a3.append b3
      · intro t ht
        rw [List.flatMap_cons] at ht
        rcases List.mem_append.1 ht with ht | ht
        · exact a4 t ht
        · exact b4 t ht
      · rw [List.zip_cons_cons, GoodS]
        exact ⟨by rw [ez]; exact a1, ⟨a2, hg⟩, fun t ht => ⟨goodTs_mem g1 ht, g2 t ht⟩, b5⟩
theorem leafT_6 (l : Nat) (p : PN) (h : leafT l p) (h6 : p.o = 6) : 0 ≤ p.z ∧ p.z < 6 := by
  unfold leafT at h; rw [if_pos h6] at h; exact h.2.2
theorem leafT_7 (l : Nat) (p : PN) (h : leafT l p) (h7 : p.o = 7) : 0 ≤ p.z ∧ p.z < l := by
  unfold leafT at h; rw [if_neg (by omega), if_pos h7] at h; exact h.2.2
theorem leafU_6 (l : Nat) (p : PN) (h : leafU p) (h6 : p.o = 6) : 0 ≤ p.z ∧ p.z < 6 := by
  unfold leafU at h; rw [if_neg (by omega)] at h
  have := cOK_o h.1; omega
theorem leafU_7 (l : Nat) (p : PN) (h : leafU p) (h7 : p.o = 7) : 0 ≤ p.z ∧ p.z < l := by
  unfold leafU at h; rw [if_neg (by omega)] at h
  have := cOK_o h.1; omega
theorem walkL_all {names : List ByteArray} {tys : List Int} : ∀ {l : List Tr} {acc : List Int}, (walkL names tys l acc).2 = 0 → ∀ u ∈ l, (tyT names tys u).2 = 0
  | [], acc, _ => by simp
  | t :: l, acc, h => by
    rw [walkL] at h
    split at h
    · rename_i q; exact absurd h q
    · rename_i q
      intro u hu
      rcases List.mem_cons.1 hu with rfl | hu
      · exact Classical.byContradiction q
      · exact walkL_all h u hu
theorem walk_lt {nv : List PN} {a b : Nat} {k : Int} {t : Tr} (h : IsTs nv a b [k] [t]) {names : List ByteArray} {tys : List Int} {acc : List Int} (hc : (walkL names tys (po t) acc).2 = 0) {q : Nat} {p : PN} (h1 : a ≤ q) (h2 : q < b) (hp : nv[q]? = some p) (h7 : p.o = 7) : p.z < tys.length := by
  obtain ⟨_, g⟩ := h.pos
  obtain ⟨u, a', hu, hI⟩ := g (q - a) (by omega)
  rw [show Proofs.YtmbonalhbibppaaDoor.pos [t] = po t by simp [Proofs.YtmbonalhbibppaaDoor.pos]] at hu
  have hz := walkL_all hc u (List.mem_of_getElem? hu)
  rw [show a + (q - a) = q by omega] at hI
  obtain ⟨kn, p', kids, e1, _, hp', _, _, e⟩ := hI.one
  have e1 : q = kn := Int.ofNat.inj e1
  subst e1
  rw [hp] at hp'
  cases hp'
  have e : u = mkT p q kids := by simpa using e
  have hk : kidsF 7 = 0 := by decide
  rw [e, mkT, h7, if_pos hk, leafF, if_neg (by omega), if_neg (by omega), if_pos h7, tyT, tyLt] at hz
  split at hz
  · cases hz
  · omega
theorem nodeT_lt {p : PN} {l : Nat} (h : nodeOK (leafT 600) p) (hl : p.o = 7 → p.z < l) : nodeOK (leafT l) p := by
  refine ⟨fun q => ?_, h.2⟩
  have hp := h.1 q
  unfold leafT at hp ⊢
  split at hp
  · rename_i g; rw [if_pos g]; exact hp
  · rename_i g
    rw [if_neg g]
    split at hp
    · rename_i g2; rw [if_pos g2]; exact ⟨hp.1, hp.2.1, hp.2.2.1, hl g2⟩
    · rename_i g2; rw [if_neg g2]; exact hp
theorem ckC_some {s : PS} {x y : CK} {t : Tr} (h : ckC s x (some t) = .inr y) : (walkL x.names x.tys (po t) x.acc).2 = 0 ∧ (s.k ≠ 1 → y.tys = x.tys) ∧ y.tys.length = (if s.k = 1 then x.tys.length + 1 else x.tys.length) := by
  simp only [ckC] at h
  split at h
  · cases h
  · rename_i q
    refine ⟨Classical.byContradiction q, ?_⟩
    split at h
    · rename_i e
      split at h
      · cases h
      · cases h; exact ⟨fun z => absurd e z, by rw [if_pos e]; simp⟩
    · rename_i e
      split at h
      · cases h
      · cases h; exact ⟨fun _ => rfl, by rw [if_neg e]⟩
theorem ckG_some {x y : CK} {t : Tr} (h : ckG x (some t) = .inr y) : (walkL x.names x.tys (po t) x.acc).2 = 0 ∧ y.tys = x.tys := by
  simp only [ckG] at h
  split at h
  · cases h
  · rename_i q
    split at h
    · cases h
    · cases h; exact ⟨Classical.byContradiction q, rfl⟩
/-- What is checked without a fault, the program reads with its own leaves. -/
theorem run_of_ck {nv : List PN} {N : Nat} : ∀ {sv : List PS} {pts : List PT} {x y : CK} {i lets : Nat} {acc : List PT}, Match sv pts → stmtsP sv → IsTs nv i N (roots sv) (pts.flatMap trs) → (∀ t ∈ pts.flatMap trs, dep t ≤ 64) → (∀ q p, i ≤ q → q < N → nv[q]? = some p → nodeOK (leafT 600) p) → ckS (sv.zip pts) x = .inr y → x.tys.length = lets →
    runS nv leafT sv i lets acc = some (acc ++ pts, N)
  | [], [], x, y, i, lets, acc, hm, hs, h, hd, hok, hc, hx => by
    simp [roots] at h
    cases h
    rw [runS]; simp
  | [], p :: pts, x, y, i, lets, acc, hm, hs, h, hd, hok, hc, hx => by have := hm.1; simp at this
  | s :: sv, [], x, y, i, lets, acc, hm, hs, h, hd, hok, hc, hx => by have := hm.1; simp at this
  | s :: sv, ⟨c, g⟩ :: pts, x, y, i, lets, acc, hm, hs, h, hd, hok, hc, hx => by
    obtain ⟨⟨h1, h2⟩, h3⟩ := match_cons.1 hm
    simp only at h1 h2
    obtain ⟨s1, s2⟩ := stmtsP_cons.1 hs
    rw [roots_cons, List.flatMap_cons] at h
    obtain ⟨m, ts1, ts2, e, k1, k2⟩ := h.split
    have hl := k1.len
    have hlen : (trs ⟨c, g⟩).length = (rootS s).length := by
      rw [rootS_eq, List.length_append]
      rcases rootO_some h1 with ⟨r1, r2⟩ | ⟨t1, r1, r2⟩ <;> rcases rootO_some h2 with ⟨r3, r4⟩ | ⟨t2, r3, r4⟩ <;> rw [r2, r4] <;> subst r1 <;> subst r3 <;> rfl
    obtain ⟨e1, e2⟩ := List.append_inj e (by rw [hl, hlen])
    rw [← e1] at k1
    rw [← e2] at k2
    have l1 := k1.le
    have l2 := k2.le
    have hdd : ∀ t, t ∈ trs ⟨c, g⟩ ∨ t ∈ pts.flatMap trs → dep t ≤ 64 := fun t ht => hd t (by rw [List.flatMap_cons]; exact List.mem_append.2 ht)
    simp only [List.zip_cons_cons, ckS] at hc
    cases hq : ckC s x c with
    | inl f => rw [hq] at hc; cases hc
    | inr z =>
    rw [hq] at hc
    simp only at hc
    cases hq2 : ckG z g with
    | inl f => rw [hq2] at hc; cases hc
    | inr z2 =>
    rw [hq2] at hc
    simp only at hc
    have hz2 : z2.tys = z.tys := by
      cases g with
      | none => simp only [ckG] at hq2; cases hq2; rfl
      | some t => exact (ckG_some hq2).2
    have hkc : s.k = 1 → c ≠ none ∧ g = none := fun hk => by
      unfold stmtP at s1
      rw [if_pos hk] at s1
      refine ⟨fun q => ?_, ?_⟩
      · have := h1.2 s1.2.2.1; rw [q] at this; simp at this
      · cases g with
        | none => rfl
        | some t => have := h2.1 rfl; omega
    have hz : z.tys.length = (if s.k = 1 then x.tys.length + 1 else x.tys.length) ∧ (s.k ≠ 1 → z.tys = x.tys) := by
      cases c with
      | none =>
        simp only [ckC] at hq; cases hq
        exact ⟨by rw [if_neg (fun hk => (hkc hk).1 rfl)], fun _ => rfl⟩
      | some t => exact ⟨(ckC_some hq).2.2, (ckC_some hq).2.1⟩
    have hst : stmtM nv (leafT lets) sv.isEmpty i s = some (⟨c, g⟩, m) := by
      refine stmtM_iff.2 ⟨s1, h1, k1, fun t ht => hdd t (.inl ht), fun q p q1 q2 hp => nodeT_lt (hok q p q1 (by omega) hp) fun h7 => ?_⟩
      rw [rootS_eq] at k1
      obtain ⟨m2, u1, u2, e', j1, j2⟩ := k1.split
      have hl' := j1.len
      have hcl : c.toList.length = (rootO s.c).length := by rcases rootO_some h1 with ⟨r1, r2⟩ | ⟨t1, r1, r2⟩ <;> rw [r2] <;> subst r1 <;> rfl
      obtain ⟨e3, e4⟩ := List.append_inj (show c.toList ++ g.toList = u1 ++ u2 from e') (by rw [hl', hcl])
      rw [← e3] at j1
      rw [← e4] at j2
      rcases Nat.lt_or_ge q m2 with r | r
      · rcases rootO_some h1 with ⟨r1, r2⟩ | ⟨t1, r1, r2⟩
        · rw [r2] at j1; subst r1; have := j1.le; cases j1; omega
        · rw [r2] at j1; subst r1
          have := walk_lt j1 (ckC_some hq).1 q1 r hp h7
          omega
      · rcases rootO_some h2 with ⟨r1, r2⟩ | ⟨t1, r1, r2⟩
        · rw [r2] at j2; subst r1; have := j2.le; cases j2; omega
        · rw [r2] at j2; subst r1
          have := walk_lt j2 (ckG_some hq2).1 r q2 hp h7
          by_cases hk : s.k = 1
          · exact absurd (hkc hk).2 (by simp)
          · rw [hz.2 hk] at this; omega
    rw [runS, hst]
    simp only
    rw [run_of_ck (lets := if s.k = 1 then lets + 1 else lets) (acc := acc ++ [PT.mk c g]) h3 s2 k2 (fun t ht => hdd t (.inr ht)) (fun q p q1 q2 => hok q p (by omega) q2) hc (by rw [hz2, hz.1, hx])]
    simp
theorem wellP_iff {nv : List PN} {sv : List PS} {tyl : List Int} : wellP nv sv tyl ↔ (nv.length ≤ 4000 ∧ 1 ≤ sv.length ∧ sv.length ≤ 600 ∧ ∃ acc, runS nv leafT sv 0 0 [] = some (acc, nv.length)) ∧ ∀ acc, runS nv leafT sv 0 0 [] = some (acc, nv.length) → ∃ x, ckS (sv.zip acc) ⟨[], [], []⟩ = .inr x ∧ x.acc = tyl := by
  constructor
  · rintro ⟨⟨p1, p2, p3, p4, p5, ts, p6, p7⟩, pts, x, hm, hI, hc, e⟩
    have e2 := (p6.uniq hI).2
    subst e2
    have hr := run_of_ck (acc := []) (lets := 0) hm p5 hI p7 (fun q p q1 q2 hq => (fieldsT_iff (p4 p (List.mem_of_getElem? hq)).1).1 (p4 p (List.mem_of_getElem? hq))) hc rfl
    rw [List.nil_append] at hr
    refine ⟨⟨p1, p2, p3, _, hr⟩, fun acc ha => ?_⟩
    rw [hr] at ha
    cases ha
    exact ⟨x, hc, e⟩
  · rintro ⟨⟨p1, p2, p3, acc, hr⟩, hall⟩
    obtain ⟨x, hc, e⟩ := hall acc hr
    have hu := runS_mono sv (by omega) hr
    obtain ⟨q1, ts, q2, q3, q4⟩ := (runS_iff sv).1 ⟨acc, hu⟩
    obtain ⟨pts, b1, b2, b3, b4, b5⟩ := runS_full leafT_6 leafT_7 sv hr
    rw [List.nil_append] at b1
    subst b1
    refine ⟨⟨p1, p2, p3, fun p hp => ?_, q1, ts, q2, q3⟩, acc, x, b2, b3, hc, e⟩
    obtain ⟨q, hq⟩ := List.mem_iff_getElem?.1 hp
    have hl := (List.getElem?_eq_some_iff.1 hq).1
    exact (fieldsT_iff (q2.node q p (by omega) hl hq)).2 (q4 q p (by omega) hl hq)
end Go.Proofs.YtmbonalhbibppaaDoor
/- The program's checkAll walked. -/
namespace Go.Proofs.YtmbonalhbibppaaDoor
open Go.Eng
set_option linter.unusedVariables false
set_option linter.unusedSimpArgs false
/-- The statements' trees with their names put right. -/
def resS : List (PS × PT) → CK → List PT
  | [], _ => []
  | (s, p) :: l, x => match ckP s x p with
    | .inl _ => []
    | .inr y => ⟨p.c.map (resT x.names), p.g.map (resT y.names)⟩ :: resS l y
def spOf (es : List SV) : List (PS × PT) := es.map fun e => (e.s, e.p)
theorem spOf_drop {es : List SV} {j : Nat} {e : SV} (h : es[j]? = some e) : spOf (es.drop j) = (e.s, e.p) :: spOf (es.drop (j + 1)) := by
  rw [drop_cons h]; rfl
def poS (es : List SV) : Nat := (pos (es.flatMap fun e => trs e.p)).length
theorem pos_append : ∀ (l r : List Tr), pos (l ++ r) = pos l ++ pos r
  | [], r => rfl
  | t :: l, r => by rw [List.cons_append, pos, pos, pos_append l r, List.append_assoc]
theorem poS_drop {es : List SV} {j : Nat} {e : SV} (h : es[j]? = some e) : poS (es.drop j) = (pos (trs e.p)).length + poS (es.drop (j + 1)) := by
  rw [drop_cons h]; unfold poS; rw [List.flatMap_cons, pos_append, List.length_append]
/-- Statements with their trees, in memory. -/
structure SVs (w : World) (A : Option Addr) (m c : Nat) (es : List SV) : Prop where
  len : es.length = m
  cap : m ≤ c
  cells : Cells w A (es.flatMap fV)
  trees : ES (fun b => b < w.heap.size) w es
theorem SVs.ext {w w' : World} {A : Option Addr} {m c : Nat} {es : List SV} (h : SVs w A m c es) (hx : Ext w w') : SVs w' A m c es :=
  ⟨h.len, h.cap, h.cells.ext hx, h.trees.keep (fun b hb => hx.block b hb) (fun b hb => Nat.lt_of_lt_of_le hb hx.size)⟩
theorem LaidS.svs {w : World} {A : Option Addr} {m c : Nat} {sv : List PS} {acc : List PT} (h : LaidS w A m c sv acc) : ∃ es, SVs w A m c es ∧ spOf es = sv.zip acc ∧ es.map (·.p) = acc ∧ es.map (·.s) = sv := by
  obtain ⟨es, h1, h2, h3, h4, h5, h6, h7⟩ := h
  have hs : es.map (·.s) = sv := by
    apply List.ext_getElem?
    intro i
    rw [List.getElem?_map]
    cases hi : es[i]? with
    | none =>
      have := List.getElem?_eq_none_iff.1 hi
      rw [List.getElem?_eq_none (by omega)]; rfl
    | some e => rw [(h6 i e hi).2]; rfl
  refine ⟨es, ⟨h1, h3, h5, h7⟩, ?_, h4, hs⟩
  rw [← hs, ← h4]
  unfold spOf
  rw [List.zip_map']
theorem kc_wr {w0s ws : Nat} {w w2 : World} {q : Addr} {bm : Nat} {f : List (ByteArray × Value)} {tys acc : List Int} {TA At : Option Addr} {tn tc na c : Nat} (hb : KB w0s ws q bm) (h : KC w0s ws w q bm f tys acc TA At tn tc na c) {X : Option Addr} (hw : Wr X w w2) {e : TypeId} {k m cc : Nat} {xs : List Value} (hX : Own ws e k w X m cc xs) (hA : Apart At X) (hT : Apart TA X) : KC w0s ws w2 q bm f tys acc TA At tn tc na c := by
  have hX1 : ∀ g, g < ws → blk X ≠ some g := fun g hg e => by have := (own_blk hX _ e).1; omega
  exact ⟨h.box.wr hw (.inr (by rw [hb.eq]; exact (hX1 _ (by have := hb.hq; omega)).symm)), h.map.wr hw (hX1 _ (by have := hb.m; omega)), h.rT.wr hw hT, h.rA.wr hw hA, h.aTA, Nat.le_trans h.hs hw.size⟩
theorem apart_of {ws : Nat} {e e' : TypeId} {k k' : Nat} {w w' : World} {A X : Option Addr} {m c mx cx : Nat} {xs ys : List Value} (hA : Own ws e k w A m c xs) (hX : Own ws e' k' w' X mx cx ys) (h : ∀ b, blk X = some b → blk A ≠ some b) : Apart A X ∧ Apart X A := by
  obtain rfl | ⟨g, rfl, _, _⟩ := hA.blk
  · refine ⟨.inl rfl, ?_⟩
    obtain rfl | ⟨gx, rfl, _, _⟩ := hX.blk
    · exact .inl rfl
    · exact .inr (by simp [Eng.blk, Value.ownBlock])
  · obtain rfl | ⟨gx, rfl, _, _⟩ := hX.blk
    · exact ⟨.inr (by simp [Eng.blk, Value.ownBlock]), .inl rfl⟩
    · have := h gx rfl
      exact ⟨.inr (by intro q; exact this q), .inr (by intro q; exact this q.symm)⟩
theorem own_nap {ws : Nat} {e : TypeId} {k : Nat} {w : World} {A X : Option Addr} {m c : Nat} {xs : List Value} (hA : Own ws e k w A m c xs) (h : Apart X A) {b : Nat} (hb : blk X = some b) : blk A ≠ some b := by
  rcases h with rfl | h
  · simp [Eng.blk, Value.ownBlock] at hb
  · intro e; exact h (by rw [hb, e])
/-- A step of the checker leaves a row of ours. -/
theorem stp_row {w0 : World} {ws : Nat} {w w' : World} {A TA A' TA' B : Option Addr} {e : TypeId} {k m c : Nat} {xs : List Value} (hst : Stp w0 ws w A TA w' A' TA') (ho : Own ws e k w B m c xs) {na ca nt ct na' ca' nt' ct' : Nat} {la lt la' lt' : List Value} {ea et ea' et' : TypeId}
    (hA : Own ws ea 1 w A na ca la) (hT : Own ws et 1 w TA nt ct lt) (hA' : Own ws ea' 1 w' A' na' ca' la') (hT' : Own ws et' 1 w' TA' nt' ct' lt') (h0 : w0.heap.size ≤ ws) (a1 : Apart A B ∧ Apart B A) (a2 : Apart TA B ∧ Apart B TA) :
    Own ws e k w' B m c xs ∧ (Apart A' B ∧ Apart B A') ∧ (Apart TA' B ∧ Apart B TA') ∧ ∀ b, blk B = some b → b < w.heap.size := by
  have key : ∀ g, blk B = some g → DT w0.heap.size ws w A TA g := fun g hg => by
    obtain ⟨g1, g2⟩ := own_blk ho g hg
    exact .inr ⟨g1, g2, own_nap hA a1.2 hg, own_nap hT a2.2 hg⟩
  have key2 : ∀ g, blk B = some g → blk A' ≠ some g ∧ blk TA' ≠ some g := fun g hg => by
    obtain ⟨g1, g2⟩ := own_blk ho g hg
    rcases (hst.keep g (key g hg)).2 with h | ⟨_, _, h1, h2⟩
    · omega
    · exact ⟨h1, h2⟩
  have ho' : Own ws e k w' B m c xs := own_keep ho fun g hg => (hst.keep g (key g hg)).1
  exact ⟨ho', apart_of hA' ho' (fun b hb => (key2 b hb).1), apart_of hT' ho' (fun b hb => (key2 b hb).2), fun b hb => (own_blk ho b hb).2⟩
theorem stmtP_nm {last : Bool} {s : PS} (h : stmtP last s) : s.nm.size ≤ 9223372036854775807 := by
  unfold stmtP at h
  split at h
  · have := h.2.1.2.1; omega
  · split at h
    · rw [h.2.1]; simp [ByteArray.size]
    · split at h
      · rw [h.2.1]; simp [ByteArray.size]
      · exact h.elim
/-- Blocks where the trees of the new list may lie. -/
def DO (w0s ws : Nat) (w : World) (A TA B : Option Addr) (b : Nat) : Prop := b < w0s ∨ (ws ≤ b ∧ b < w.heap.size ∧ blk A ≠ some b ∧ blk TA ≠ some b ∧ blk B ≠ some b)
theorem do_dt {w0s ws : Nat} {w : World} {A TA B : Option Addr} {b : Nat} (h : DO w0s ws w A TA B b) : DT w0s ws w A TA b := by
  rcases h with h | ⟨h1, h2, h3, h4, _⟩
  · exact .inl h
  · exact .inr ⟨h1, h2, h3, h4⟩
theorem do_lt {w0s ws : Nat} {w : World} {A TA B : Option Addr} (h0 : w0s ≤ w.heap.size) {b : Nat} (h : DO w0s ws w A TA B b) : b < w.heap.size := by
  rcases h with h | ⟨_, h, _⟩ <;> omega
theorem do_ext {w0s ws : Nat} {w w' : World} (hs : w.heap.size ≤ w'.heap.size) {A TA B : Option Addr} {b : Nat} (h : DO w0s ws w A TA B b) : DO w0s ws w' A TA B b := by
  rcases h with h | ⟨h1, h2, h3⟩
  · exact .inl h
  · exact .inr ⟨h1, Nat.lt_of_lt_of_le h2 hs, h3⟩
set_option maxHeartbeats 16000000 in
theorem checkAll_f {w : World} {A : Option Addr} {m c : Nat} {es : List SV} (h : SVs w A m c es) (hm : m ≤ 600) (hg : GoodS 0 (spOf es)) (hp : poS es ≤ 4000) :
    FC Tryd.prog 103 [.slice A m c] w fun v w' => match ckS (spOf es) ⟨[], [], []⟩ with
      | .inl f => v = .tuple ⟨[.slice none 0 0, .slice none 0 0, misV f.1 f.2]⟩ ∧ f.1 ≠ 0
      | .inr x => ∃ B d TA n' c' es2, v = .tuple ⟨[.slice B m d, .slice TA n' c', .nilIface]⟩ ∧ SVs w' B m d es2 ∧ Own w.heap.size 3 1 w' TA n' c' (x.acc.map (.int .i64)) ∧ es2.map (·.p) = resS (spOf es) ⟨[], [], []⟩ ∧ es2.map (·.s) = es.map (·.s) ∧ es2.map (·.i) = es.map (·.i) := by
  refine FC.intro (cs := []) Tryd.func103 (by kernel_rfl) fun E R hE hr hR => ?_
  have hlen := h.len
  obtain ⟨V, hV0⟩ : ∃ V, V = ckS (spOf es) ⟨[], [], []⟩ := ⟨_, rfl⟩
  obtain ⟨W, hW0⟩ : ∃ W, W = resS (spOf es) ⟨[], [], []⟩ := ⟨_, rfl⟩
  rw [← hV0, ← hW0] at hR
  conv => cbv
  refine st_f hr (newChecker_f w) fun v w1 hx1 ⟨q, bm, ws, ev, hb, hK⟩ => ?_
  subst ev
  have hle := hb.le
  have hws := hK.hs
  conv => cbv
  refine st_none hr sSt fun B0 w2 hx2 ho0 => ?_
  have ho := ho0 w1.heap.size (Nat.le_refl _)
  have aA := (Own.nil (B := ws) (e := 3) (k := 1) (w := w1)).apart ho (Nat.le_refl _)
  replace ho := ho.mono hws
  clear ho0
  have hK2 := hK.ext hx2
  have hxx := hx1.trans hx2
  clear hK hx1 hx2 hws
  conv => cbv
  refine st_len hE sSt fun x1 hx1' => ?_
  conv => cbv
  refine loop_rulec [] hr (fun (s : Nat × Int × CK × (Option Addr × Option Addr × Option Addr × Nat) × List SV) w' => s.1 ≤ m ∧ s.2.1 = (s.1 : Int) ∧ Ext w w' ∧ CKs w.heap.size ws w' q bm s.2.2.1 s.2.2.2.1.1 s.2.2.2.1.2.1 ∧ XK s.2.2.1 ∧
      Own ws 195 5 w' s.2.2.2.1.2.2.1 s.1 s.2.2.2.1.2.2.2 (s.2.2.2.2.flatMap fV) ∧ (Apart s.2.2.2.1.1 s.2.2.2.1.2.2.1 ∧ Apart s.2.2.2.1.2.2.1 s.2.2.2.1.1) ∧ (Apart s.2.2.2.1.2.1 s.2.2.2.1.2.2.1 ∧ Apart s.2.2.2.1.2.2.1 s.2.2.2.1.2.1) ∧
      ES (DO w.heap.size ws w' s.2.2.2.1.1 s.2.2.2.1.2.1 s.2.2.2.1.2.2.1) w' s.2.2.2.2 ∧ GoodS s.2.2.1.tys.length (spOf (es.drop s.1)) ∧ s.2.2.1.acc.length + poS (es.drop s.1) ≤ 4000 ∧ s.2.2.1.tys.length + (m - s.1) ≤ 600 ∧
      ckS (spOf (es.drop s.1)) s.2.2.1 = V ∧ s.2.2.2.2.map (·.p) ++ resS (spOf (es.drop s.1)) s.2.2.1 = W ∧ s.2.2.2.2.map (·.s) = (es.take s.1).map (·.s) ∧ s.2.2.2.2.map (·.i) = (es.take s.1).map (·.i))
    (fun s => [(5, .pointer (some q)), (6, .slice s.2.2.2.1.2.2.1 s.1 s.2.2.2.1.2.2.2), (13, .slice A m c), (14, .int .i64 x1), (15, .int .i64 s.2.1)]) (fun s => m - s.1) (0, 0, ⟨[], [], []⟩, (none, none, B0, 0), [])
    (by simp [Fits, lk]) ⟨by simp, by simp, hxx, ⟨0, 0, 0, 0, hK2⟩, ⟨rfl, by simp, by simp, by simp⟩, by simpa using ho, aA, aA, (fun e he => by cases he), by simpa using hg, by simpa using hp, by simp only [List.length_nil]; omega, by simpa using hV0.symm, by simpa using hW0.symm, by simp, by simp⟩ ?_
  clear hxx hK2 ho aA hV0 hW0
  rintro I hI ⟨j, jj, x, ⟨A1, TA1, B, d⟩, es2⟩ w' ⟨hj, hjj, hx, ⟨tn, tc, na, ca, hK⟩, hX, ho, aA, aT, hes, hgd, hcnt, hlt, hV, hW, hsS, hsI⟩
  simp only at hj hjj hX ho aA aT hes hgd hcnt hlt hV hW hsS hsI hK
  obtain ⟨jk, hjk⟩ : ∃ z, z = jj + 1 := ⟨_, rfl⟩
  have hol := ho.len
  rw [fl_len fV_len] at hol
  have h0s := hx.size
  conv => cbv
  refine br (fun g => ?_) (fun g => ?_)
  · have g : j < m := by
      have : jj < x1 := by simpa [hE.cmp, cmpR] using g
      omega
    have ej : E.ar .add .i64 jj 1 = jk := by rw [hE.ar, hjk]; exact wrap_in (by omega) (by omega)
    obtain ⟨e, he⟩ : ∃ e, es[j]? = some e := ⟨_, List.getElem?_eq_getElem (by omega)⟩
    obtain ⟨aA0, hA0, hcell⟩ := fl_at fV_len (h.cells.ext hx) (by omega) he
    have htr := h.trees e (List.mem_of_getElem? he)
    obtain ⟨ef, hef⟩ : ∃ ef, ef = fV e := ⟨_, rfl⟩
    have hefl : ef.length = 5 := by rw [hef]; rfl
    have hef1 : ∀ v ∈ ef, v.oneCell' = true := by
      rw [hef]
      intro v hv
      have o1 := htr.1.one
      have o2 := htr.2.one
      simp only [fV, List.mem_cons, List.not_mem_nil, or_false] at hv
      rcases hv with rfl | rfl | rfl | rfl | rfl <;> first | rfl | assumption
    rw [← hef] at hcell
    conv => cbv
    refine st_idx hE sSt hA0 (by omega) (by omega) fun p hp => ?_
    rw [show jj.toNat = j by omega] at hp
    conv => cbv
    refine st_loadS hE tSt hefl (by rw [hp]; exact hcell) ?_
    conv => cbv
    refine st_alloc hr tSt rfl fun q8 w3 hx3 hq0 => ?_
    conv => cbv
    refine st_putS hr (by rw [hefl]; kernel_rfl) (hq0 _ (Nat.le_refl _)) (add_zero _).symm (by simp [zSt, hefl]) hef1 fun w4 hw4 h8 => ?_
    have e8 : zSt.take 0 ++ ef ++ zSt.drop (0 + ef.length) = ef := by rw [hefl]; simp [zSt]
    rw [e8] at h8
    have hx4 := hx3.then (hw4.bel (hq0 _ (Nat.le_refl _)) hx3.size)
    clear hx3 hq0 hw4 hp hcell
    conv => cbv
    refine st_loadS hE tSt hefl h8.at ?_
    conv => cbv
    have hx04 := hx.trans hx4
    have hK4 := hK.ext hx4
    rw [spOf_drop he, GoodS] at hgd
    obtain ⟨hs1, ⟨hs2, hs3⟩, hs4, hs5⟩ := hgd
    rw [poS_drop he] at hcnt
    have k4 : ∀ b, b < w.heap.size → w4.heap[b]? = w.heap[b]? := fun b hb => hx04.block b hb
    have htc := htr.1.keep k4 (D' := fun b => b < w.heap.size) (fun b h => h)
    have htg := htr.2.keep k4 (D' := fun b => b < w.heap.size) (fun b h => h)
    have hmem : (∀ t, e.p.c = some t → t ∈ trs e.p) ∧ (∀ t, e.p.g = some t → t ∈ trs e.p) := ⟨fun t ht => by simp [trs, ht], fun t ht => by simp [trs, ht]⟩
    have hSt := stmt_g hb hx04 hK4 hX (by omega) hs1 (stmtP_nm hs1) hs2 hs3 htc htg (fun t ht => (hs4 t (hmem.1 t ht)).1) (fun t ht => (hs4 t (hmem.2 t ht)).1) (by have := hK4.len.2; omega) (fun t ht hz => topK_nz (hs4 t (hmem.1 t ht)).2 hX.eq hX.nz hz)
    rw [hef]
    refine st_g hr hSt fun r w5 ⟨cv, gv, er, ev, ocv, ogv, hx5, hres⟩ => ?_
    subst ev
    rw [spOf_drop he, ckS_cons] at hV
    rw [spOf_drop he, resS] at hW
    conv => cbv
    refine st_alloc hr tSt rfl fun q9 w6 hx6 hq0 => ?_
    conv => cbv
    refine st_putS hr (by kernel_rfl) (hq0 _ (Nat.le_refl _)) (add_zero _).symm (by simp [zSt]) (by
      intro y hy
      simp only [List.mem_cons, List.not_mem_nil, or_false] at hy
      rcases hy with rfl | rfl | rfl | rfl | rfl <;> first | rfl | assumption) fun w7 hw7 h9 => ?_
    simp only [zSt, List.take_zero, List.nil_append, List.length_cons, List.length_nil, List.drop_succ_cons, List.drop_nil, List.append_nil] at h9
    have hx57 := hx6.then (hw7.bel (hq0 _ (Nat.le_refl _)) hx6.size)
    have hx7 := hx5.trans hx57
    clear hx6 hq0 hw7
    cases hck : ckP e.s x e.p with
    | inl f =>
      rw [hck] at hres hV
      obtain ⟨rfl, hf⟩ := hres
      simp only at hV
      conv => cbv
      refine st_neSome hE Tryd.underlying114 ?_
      conv => cbv
      rw [hR]
      refine ⟨hx7, ?_⟩
      rw [← hV]
      exact ⟨rfl, hf⟩
    | inr y =>
      rw [hck] at hres hV hW
      simp only at hV hW
      obtain ⟨rfl, A2, TA2, hst, ⟨tn2, tc2, na2, ca2, hK5⟩, hY, hcv, hgv⟩ := hres
      conv => cbv
      refine st_neNil hE Tryd.underlying114 ?_
      conv => cbv
      refine st_loadS hE tSt rfl h9.at ?_
      conv => cbv
      refine st_oneS hr sSt rfl (by omega) (by omega) rfl fun A7 w8 hx8 hc8 => ?_
      conv => cbv
      -- what the step and the new blocks leave
      have ho4 := ho.bel hx4
      obtain ⟨ho5, aA5, aT5, hB4⟩ := stp_row hst ho4 hK4.rA hK4.rT hK5.rA hK5.rT hle aA aT
      have hx58 := hx57.trans hx8
      have hK8 := hK5.ext hx58
      have ho8 := ho5.bel hx58
      have s8 := hx58.size
      have s45 := hst.size
      have s4 := hx4.size
      have hx08 := hx5.trans hx58
      have hws8 := hK8.hs
      refine st_appsKG hr sSt rfl (by omega) ho8 hc8 rfl (by omega) (by
        intro v hv
        simp only [List.mem_cons, List.not_mem_nil, or_false] at hv
        rcases hv with rfl | rfl | rfl | rfl | rfl <;> first | rfl | assumption) (by omega) (by omega) (by omega) fun A8 c8 m8 w9 hm8 hw9 ho9 hbk => ?_
      subst hm8
      have hgro : Gro w8 B w9 A8 := ⟨hw9, hbk.imp id fun e => ⟨_, e, Nat.le_refl _⟩⟩
      have aA9 := gro_apart (B := 0) (m := 0) (c := 0) (xs := []) hK8.rA aA5.symm hgro ho9
      have aT9 := gro_apart (B := 0) (m := 0) (c := 0) (xs := []) hK8.rT aT5.symm hgro ho9
      have hK9 := kc_wr hb hK8 hw9 ho8 aA5.1 aT5.1
      have hx09 : Ext w w9 := hx08.then (hw9.bel ho8 (by omega) |> fun q => RowKit.Below.mono q hle)
      have s9 := hw9.size
      -- the old trees
      have hBn : ∀ b, blk B = some b → blk A8 = some b ∨ ∃ b', blk A8 = some b' ∧ w8.heap.size ≤ b' := fun b hb1 => by
        rcases hgro.at_ with q1 | q1
        · exact .inl (by rw [q1, hb1])
        · exact .inr q1
      have hA8 : ∀ b, b < w8.heap.size → blk B ≠ some b → blk A8 ≠ some b := fun b hb1 hb2 q1 => by
        rcases hgro.at_ with q2 | ⟨b', q2, q3⟩
        · exact hb2 (by rw [← q2, q1])
        · rw [q2] at q1; cases q1; omega
      have kp : ∀ b, b < w8.heap.size → blk B ≠ some b → w9.heap[b]? = w8.heap[b]? := fun b hb1 hb2 => hw9.block b hb1 (Ne.symm hb2)
      have hes9 : ES (DO w.heap.size ws w9 A2 TA2 A8) w9 es2 := by
        refine hes.keep (fun b hb1 => ?_) (fun b hb1 => ?_)
        · have hb2 := do_lt h0s hb1
          have hbB : blk B ≠ some b := by
            rcases hb1 with hb1 | ⟨_, _, _, _, k⟩
            · intro q1; have := (own_blk ho b q1).1; omega
            · exact k
          have hd4 : DT w.heap.size ws w4 A1 TA1 b := by
            rcases do_dt hb1 with k | ⟨k1, k2, k3⟩
            · exact .inl k
            · exact .inr ⟨k1, by omega, k3⟩
          rw [kp b (by omega) hbB, hx58.block b (by omega), (hst.keep b hd4).1, hx4.block b hb2]
        · have hb2 := do_lt h0s hb1
          have hd4 : DT w.heap.size ws w4 A1 TA1 b := by
            rcases do_dt hb1 with k | ⟨k1, k2, k3⟩
            · exact .inl k
            · exact .inr ⟨k1, by omega, k3⟩
          rcases hb1 with hb1 | ⟨k1, k2, k3, k4, k5⟩
          · exact .inl hb1
          · rcases (hst.keep b hd4).2 with l | ⟨l1, l2, l3, l4⟩
            · exact .inl l
            · exact .inr ⟨k1, by omega, l3, l4, hA8 b (by omega) k5⟩
      have hnew : ∀ (o : Option Tr) (z : Value), optV (DT w.heap.size w4.heap.size w5 A2 TA2) w5 o z → optV (DO w.heap.size ws w9 A2 TA2 A8) w9 o z := fun o z hz => by
        have hB5 : ∀ b, DT w.heap.size w4.heap.size w5 A2 TA2 b → b < w5.heap.size ∧ blk B ≠ some b := fun b hb1 => by
          rcases hb1 with hb1 | ⟨k1, k2, _⟩
          · exact ⟨by omega, fun q1 => by have := (own_blk ho b q1).1; omega⟩
          · exact ⟨k2, fun q1 => by have := hB4 b q1; omega⟩
        refine hz.keep (fun b hb1 => ?_) (fun b hb1 => ?_)
        · obtain ⟨k1, k2⟩ := hB5 b hb1
          rw [kp b (by omega) k2, hx58.block b k1]
        · obtain ⟨k1, k2⟩ := hB5 b hb1
          rcases hb1 with hb1 | ⟨l1, l2, l3, l4⟩
          · exact .inl hb1
          · exact .inr ⟨by have := hK4.hs; omega, by omega, l3, l4, hA8 b (by omega) k2⟩
      have hty : y.tys.length = (if e.s.k = 1 then x.tys.length + 1 else x.tys.length) ∧ y.acc.length ≤ x.acc.length + (pos (trs e.p)).length := by
        have hkc : e.s.k = 1 → e.p.c ≠ none := fun hk q1 => by
          unfold stmtP at hs1
          rw [if_pos hk] at hs1
          have := hs2.2 hs1.2.2.1
          rw [q1] at this; simp at this
        unfold ckP at hck
        cases hq : ckC e.s x e.p.c with
        | inl f => rw [hq] at hck; cases hck
        | inr z =>
        rw [hq] at hck
        simp only at hck
        have e1 : y.tys = z.tys ∧ y.acc.length ≤ z.acc.length + (pos e.p.g.toList).length := by
          cases hgq : e.p.g with
          | none => rw [hgq] at hck; simp only [ckG] at hck; cases hck; simp
          | some t =>
            rw [hgq] at hck
            refine ⟨(ckG_some hck).2, ?_⟩
            simp only [ckG] at hck
            split at hck
            · cases hck
            · split at hck
              · cases hck
              · cases hck
                have := (walkL_len z.names z.tys (po t) z.acc).2.1
                simpa [pos] using this
        have e2 : z.tys.length = (if e.s.k = 1 then x.tys.length + 1 else x.tys.length) ∧ z.acc.length ≤ x.acc.length + (pos e.p.c.toList).length := by
          cases hcq : e.p.c with
          | none =>
            rw [hcq] at hq; simp only [ckC] at hq; cases hq
            exact ⟨by rw [if_neg (fun hk => hkc hk hcq)], by simp⟩
          | some t =>
            rw [hcq] at hq
            refine ⟨(ckC_some hq).2.2, ?_⟩
            have hl := (walkL_len x.names x.tys (po t) x.acc).2.1
            simp only [ckC] at hq
            split at hq
            · cases hq
            · split at hq
              · split at hq
                · cases hq
                · cases hq; simpa [pos] using hl
              · split at hq
                · cases hq
                · cases hq; simpa [pos] using hl
        refine ⟨by rw [e1.1]; exact e2.1, ?_⟩
        unfold trs
        rw [pos_append, List.length_append]
        omega
      conv => cbv
      simp only [ej]
      refine ⟨(j + 1, jk, y, (A2, TA2, A8, c8), es2 ++ [⟨e.s, ⟨e.p.c.map (resT x.names), e.p.g.map (resT y.names)⟩, cv, gv, e.i⟩]), by simp [Fits, lk], hI _ _ ⟨by simp only; omega, by simp only; omega, hx09, ⟨tn2, tc2, na2, ca2, hK9⟩, hY, ?_, aA9.symm, aT9.symm, ?_, ?_, ?_, ?_, ?_, ?_, ?_, ?_⟩, by simp only; omega⟩
      · simp only
        rw [List.flatMap_append]
        exact ho9
      · simp only
        intro z hz
        rcases List.mem_append.1 hz with hz | hz
        · exact hes9 z hz
        · simp at hz; subst hz; exact ⟨hnew _ _ hcv, hnew _ _ hgv⟩
      · simp only; rw [hty.1]; exact hs5
      · simp only; have := hty.2; omega
      · simp only; rw [hty.1]; split <;> omega
      · simp only; exact hV
      · simp only; rw [List.map_append, List.append_assoc]; exact hW
      · simp only; rw [List.map_append, hsS, List.take_add_one, he, List.map_append]; rfl
      · simp only; rw [List.map_append, hsI, List.take_add_one, he, List.map_append]; rfl
  · have g : j = m := by
      have : ¬ jj < x1 := by simpa [hE.cmp, cmpR] using g
      omega
    subst g
    rw [List.drop_eq_nil_of_le (by omega)] at hV hW
    simp only [spOf, List.map_nil, ckS, resS, List.append_nil] at hV hW
    rw [List.take_of_length_le (by omega)] at hsS hsI
    conv => cbv
    refine draw_q hr fol (by kernel_rfl) fun E' hE' => ?_
    conv => cbv
    (refine st_nil hE' ?_; (conv => cbv); refine st_fld hE' fCk2 fun p hp => ?_; (conv => cbv); refine st_load hE' cInts (by rw [hp]; exact (hK.box).at _ _ rfl) ?_; clear hp; (conv => cbv))
    intro w3 hs3
    conv => cbv
    rw [hR]
    refine ⟨hx.trans hs3.ext, ?_⟩
    rw [← hV]
    have hK3 := hK.ext hs3.ext
    refine ⟨B, d, A1, na, ca, es2, rfl, ⟨by omega, ho.cap, ho.cells.ext hs3.ext, hes.keep (fun b hb1 => hs3.ext.block b (do_lt h0s hb1)) fun b hb1 => Nat.lt_of_lt_of_le (do_lt h0s hb1) hs3.ext.size⟩, hK3.rA.mono hle, hW, hsS, hsI⟩
end Go.Proofs.YtmbonalhbibppaaDoor
/- The reference's WellTyped walked. -/
namespace Go.Proofs.YtmbonalhbibppaaDoor
open Go.Eng
set_option linter.unusedVariables false
set_option linter.unusedSimpArgs false
abbrev typV (A : Option Addr) (n c : Nat) (A2 : Option Addr) (n2 c2 : Nat) (A3 : Option Addr) (n3 c3 : Nat) : Value := .agg ⟨[.slice A n c, .slice A2 n2 c2, .slice A3 n3 c3]⟩
abbrev zTyp : List Value := [.slice none 0 0, .slice none 0 0, .slice none 0 0]
theorem tITyp : Stc Tryd.prog 55 3 zTyp := ⟨by kernel_rfl, by kernel_rfl⟩
theorem fITyp0 : Fld Tryd.prog 55 0 0 := ⟨by kernel_rfl⟩
theorem fITyp1 : Fld Tryd.prog 55 1 1 := ⟨by kernel_rfl⟩
theorem fITyp2 : Fld Tryd.prog 55 2 2 := ⟨by kernel_rfl⟩
structure TypR (w : World) (A : Option Addr) (n : Nat) (A2 : Option Addr) (n2 : Nat) (A3 : Option Addr) (n3 c3 : Nat) (nv : List PN) (sv : List PS) (tyl : List Int) : Prop where
  pol : PolR w A n A2 n2 nv sv
  tys : Ints w A3 n3 c3 tyl
theorem TypR.ext {w w' : World} {A A2 A3 : Option Addr} {n n2 n3 c3 : Nat} {nv : List PN} {sv : List PS} {tyl : List Int} (h : TypR w A n A2 n2 A3 n3 c3 nv sv tyl) (hx : Ext w w') : TypR w' A n A2 n2 A3 n3 c3 nv sv tyl := ⟨h.1.ext hx, h.2.ext hx⟩
theorem fieldsT_z {nv : List PN} (h : ∀ p ∈ nv, fieldsP true p) : ∀ p ∈ nv, p.o = 7 → 0 ≤ p.z := fun p hp h7 => by
  have := (h p hp).2
  rw [if_neg (by omega), if_neg (by omega), if_neg (by omega), if_neg (by omega), if_neg (by omega), if_neg (by omega), if_pos h7] at this
  exact this.2.1
set_option maxHeartbeats 8000000 in
theorem specWellTyped_f {w : World} {A A2 A3 : Option Addr} {n c n2 c2 n3 c3 : Nat} {nv : List PN} {sv : List PS} {tyl : List Int} (h : TypR w A n A2 n2 A3 n3 c3 nv sv tyl) (hn : n ≤ 9223372036854775807) (hn2 : n2 ≤ 9223372036854775807) :
    FC Tryd.prog 19 [typV A n c A2 n2 c2 A3 n3 c3] w fun v _ => ∃ b : Bool, v = .bool b ∧ (b = true ↔ wellP nv sv tyl) := by
  refine FC.intro (cs := []) Tryd.func19 (by kernel_rfl) fun E R hE hr hR => ?_
  have hl := h.pol.nodes.len
  have hl3 := h.tys.len
  have no : ¬ wellP nv sv tyl → ∀ w', Ext w w' → R (.bool false) w' := fun q w' hx => by rw [hR]; exact ⟨hx, false, rfl, (fun z => by cases z), fun z => absurd z q⟩
  conv => cbv
  refine st_box hr fun a w1 hx hb0 => ?_
  have hb := hb0 _ (Nat.le_refl _)
  clear hb0
  conv => cbv
  (refine st_fld hE fITyp0 fun p hp => ?_; (conv => cbv); refine st_load hE cINs (by rw [hp]; exact (hb).at _ _ rfl) ?_; clear hp; (conv => cbv))
  (refine st_fld hE fITyp1 fun p hp => ?_; (conv => cbv); refine st_load hE cISs (by rw [hp]; exact (hb).at _ _ rfl) ?_; clear hp; (conv => cbv))
  refine st_f hr (l2shape_f (c := c) (c2 := c2) (h.pol.ext hx) hn hn2 true) fun v w2 hx2 ⟨b, ev, hb2⟩ => ?_
  subst ev
  replace hb := hb.bel hx2
  replace hx := hx.trans hx2
  clear hx2
  cases b with
  | false =>
    conv => cbv
    exact no (fun q => absurd (hb2.2 q.1) Bool.false_ne_true) _ hx
  | true =>
  have hP := hb2.1 rfl
  clear hb2
  conv => cbv
  (refine st_fld hE fITyp2 fun p hp => ?_; (conv => cbv); refine st_load hE cInts (by rw [hp]; exact (hb).at _ _ rfl) ?_; clear hp; (conv => cbv))
  refine st_len hE tInts fun x1 hx1 => ?_
  conv => cbv
  (refine st_fld hE fITyp0 fun p hp => ?_; (conv => cbv); refine st_load hE cINs (by rw [hp]; exact (hb).at _ _ rfl) ?_; clear hp; (conv => cbv))
  refine st_len hE sINd fun x2 hx2 => ?_
  have lenP : wellP nv sv tyl → tyl.length = nv.length := fun ⟨_, pts, x, hm, ht, hc, e⟩ => by rw [← e]; exact ck_len hm ht rfl hc
  conv => cbv
  refine br (fun g => ?_) (fun g => ?_)
  · have g : x1 ≠ x2 := by simpa [hE.cmp, cmpR] using g
    conv => cbv
    exact no (fun q => g (by have := lenP q; omega)) _ hx
  have g : x1 = x2 := by simpa [hE.cmp, cmpR] using g
  obtain ⟨p1, p2, p3, p4, p5, ts, p6, p7⟩ := hP
  have hst := h.pol.stmts.len
  obtain ⟨pts, hm, rfl⟩ := match_ex p6.len
  conv => cbv
  (refine st_fld hE fITyp0 fun p hp => ?_; (conv => cbv); refine st_load hE cINs (by rw [hp]; exact (hb).at _ _ rfl) ?_; clear hp; (conv => cbv))
  (refine st_fld hE fITyp1 fun p hp => ?_; (conv => cbv); refine st_load hE cISs (by rw [hp]; exact (hb).at _ _ rfl) ?_; clear hp; (conv => cbv))
  refine st_f hr (l3check_f (cN' := c) (c2 := c2) (h.pol.ext hx) (by omega) (by omega) (fieldsT_z p4) p5 hm (by rw [← hl]; exact p6)) fun v w3 hx3 hv => ?_
  replace hb := hb.bel hx3
  replace hx := hx.trans hx3
  cases hck : ckS (sv.zip pts) ⟨[], [], []⟩ with
  | inl f =>
    rw [hck] at hv
    obtain ⟨rfl, hf⟩ := hv
    obtain ⟨f1, f2⟩ := f
    simp only at hf
    conv => cbv
    refine st_alloc hr tFt rfl fun q5 w4 hx4 hq0 => ?_
    conv => cbv
    refine st_putS hr (by kernel_rfl) (hq0 _ (Nat.le_refl _)) (add_zero _).symm (by simp) (by simp [Value.oneCell']) fun w5 hw5 hq5 => ?_
    simp only [List.take_zero, List.nil_append, List.length_cons, List.length_nil, List.drop_succ_cons, List.drop_nil, List.append_nil] at hq5
    have hxy := hx4.then (hw5.bel (hq0 _ (Nat.le_refl _)) hx4.size)
    conv => cbv
    (refine st_fld hE fFt0 fun p hp => ?_; (conv => cbv); refine st_load hE cInt (by rw [hp]; exact (hq5).at _ _ rfl) ?_; clear hp; (conv => cbv))
    refine br (fun g2 => ?_) (fun g2 => absurd (by simpa [hE.cmp, cmpR] using g2) hf)
    conv => cbv
    refine no (fun ⟨_, pts', x', hm', ht', hc', _⟩ => ?_) _ (hx.trans hxy)
    rw [← pts_uniq hm hm' p6 ht', hck] at hc'
    cases hc'
  | inr x =>
    rw [hck] at hv
    obtain ⟨B, d, pl, rfl, hI, _⟩ := hv
    have hxl : x.acc.length = nv.length := ck_len hm p6 rfl hck
    obtain ⟨m, hmx⟩ : ∃ m, m = x.acc.length := ⟨_, rfl⟩
    rw [← hmx] at hI hxl ⊢
    have fin : wellP nv sv tyl ↔ x.acc = tyl := ⟨fun ⟨_, pts', x', hm', ht', hc', e⟩ => by
      rw [← pts_uniq hm hm' p6 ht', hck] at hc'
      cases hc'; exact e, fun e => ⟨⟨p1, p2, p3, p4, p5, _, p6, p7⟩, pts, x, hm, p6, hck, e⟩⟩
    conv => cbv
    refine st_alloc hr tFt rfl fun q5 w4 hx4 hq0 => ?_
    conv => cbv
    refine st_putS hr (by kernel_rfl) (hq0 _ (Nat.le_refl _)) (add_zero _).symm (by simp) (by simp [Value.oneCell']) fun w5 hw5 hq5 => ?_
    simp only [List.take_zero, List.nil_append, List.length_cons, List.length_nil, List.drop_succ_cons, List.drop_nil, List.append_nil] at hq5
    have hxy := hx4.then (hw5.bel (hq0 _ (Nat.le_refl _)) hx4.size)
    conv => cbv
    (refine st_fld hE fFt0 fun p hp => ?_; (conv => cbv); refine st_load hE cInt (by rw [hp]; exact (hq5).at _ _ rfl) ?_; clear hp; (conv => cbv))
    refine br (fun g2 => absurd g2 (by simp [hE.cmp, cmpR])) (fun _ => ?_)
    replace hb := hb.bel hxy
    replace hx := hx.trans hxy
    replace hI := hI.ext hxy
    conv => cbv
    refine st_len hE tInts fun x5 hx5 => ?_
    conv => cbv
    refine loop_rule hr (fun (s : Nat × Int) w' => s.1 ≤ m ∧ s.2 = (s.1 : Int) ∧ Ext w5 w' ∧ x.acc.take s.1 = tyl.take s.1) (fun s => [(1, .pointer (some a)), (35, .slice B m d), (36, .int .i64 x5), (37, .int .i64 s.2)]) (fun s => m - s.1) (0, 0)
      (by simp [Fits, lk]) ⟨by simp, by simp, Ext.refl _, by simp⟩ ?_
    rintro I hI' ⟨i, ii⟩ w' ⟨hi, hii, hxw, htk⟩
    simp only at hi hii htk
    obtain ⟨ij, hij⟩ : ∃ z, z = ii + 1 := ⟨_, rfl⟩
    conv => cbv
    refine br (fun g2 => ?_) (fun g2 => ?_)
    · have g2 : i < m := by
        have : ii < x5 := by simpa [hE.cmp, cmpR] using g2
        omega
      have ei : E.ar .add .i64 ii 1 = ij := by rw [hE.ar, hij]; exact wrap_in (by omega) (by omega)
      conv => cbv
      refine st_int hE tInts (hI.ext hxw) (k := i) hii g2 fun p u hu hp => ?_
      conv => cbv
      refine st_load hE cInt hp ?_
      conv => cbv
      (refine st_fld hE fITyp2 fun p hp => ?_; (conv => cbv); refine st_load hE cInts (by rw [hp]; exact ((hb.bel hxw)).at _ _ rfl) ?_; clear hp; (conv => cbv))
      refine st_int hE tInts ((h.tys.ext hx).ext hxw) (k := i) hii (by omega) fun p2 u2 hu2 hp2 => ?_
      conv => cbv
      refine st_load hE cInt hp2 ?_
      conv => cbv
      refine br (fun g3 => ?_) (fun g3 => ?_)
      · have g3 : u ≠ u2 := by simpa [hE.cmp, cmpR] using g3
        conv => cbv
        refine no (fun q => g3 ?_) _ (hx.trans hxw)
        have := fin.1 q
        rw [this, hu2] at hu
        exact (Option.some.inj hu).symm
      · have g3 : u = u2 := by simpa [hE.cmp, cmpR] using g3
        conv => cbv
        simp only [ei]
        refine ⟨(i + 1, ij), by simp [Fits, lk], hI' _ _ ⟨by simp only; omega, by simp only; omega, hxw, ?_⟩, by simp only; omega⟩
        simp only
        rw [List.take_add_one, List.take_add_one, htk, hu, hu2, g3]
    · have g2 : i = m := by
        have : ¬ ii < x5 := by simpa [hE.cmp, cmpR] using g2
        omega
      rw [List.take_of_length_le (by omega), List.take_of_length_le (by omega)] at htk
      conv => cbv
      rw [hR]; exact ⟨hx.trans hxw, true, rfl, fun _ => fin.2 htk, fun _ => rfl⟩
end Go.Proofs.YtmbonalhbibppaaDoor
/- A region that draws its order: what reads may also be taken between the calls. No condition. -/
namespace Go.Eng
set_option linter.unusedVariables false
set_option linter.unusedSimpArgs false
/-- As ePh2; (k, true) may read what was there at the start. -/
def ePh2V (E E' : Sym) (w0 : World) (S : World → Prop) (all : List Oper) : List (Nat × Bool) → Fr → World → (Fr → World → Prop) → Prop
  | [], F, w, K => K F w
  | (k, true) :: l, F, w, K => match all[k]? with
    | none => False
    | some o => eOps E' all [o] F w0 fun F' _ => ePh2V E E' w0 S all l F' w K
  | (k, false) :: l, F, w, K => match all[k]? with
    | none => False
    | some o => eOps E all [o] F w fun F' w' => S w' ∧ ePh2V E E' w0 S all l F' w' K
section
variable {P : Program} {Pn : List PanicEntry → World → Prop} {n : Nat}
theorem ePh2V_sound {S : World → Prop} {w0 : World} (hSE : ∀ w1, S w1 → Ext w0 w1) {all : List Oper} (hs : Region.noSelect all.toArray = true) (hd : ∀ o ∈ all, ∀ t, o.dst = some t → t < n) {K : Exit → Fr → World → Prop} : ∀ (l : List (Nat × Bool)) (listed : Array Bool) (F : Fr) (a : Act) (w : World), S w → Kn n F a → planB2 all.toArray l listed = true → ePh2V (real P Pn n) (hreal P) w0 S all l F w (K .normal) → wpAnyH P .any all.toArray (QK Pn n K) S l.length listed a w
  | [], listed, F, a, w, _, hk, hB, h => by
    have hr : Region.ready .any all.toArray listed = [] := by simpa [planB2] using hB
    exact wpAnyH_done hr ⟨F, hk, h⟩ _
  | (k, true) :: l, listed, F, a, w, hS, hk, hB, h => by
    simp only [planB2, Bool.and_eq_true] at hB
    obtain ⟨⟨hf, hr⟩, hB⟩ := hB
    simp only [ePh2V] at h
    split at h
    · exact h.elim
    · rename_i o ho
      obtain ⟨v, F', hy, hk', h⟩ := step_yields (P := P) (n := n) (S := S) (E' := hreal P) (fun _ _ => rfl) (fun _ _ _ ⟨v, h1, h2⟩ => ⟨v, fun w1 hw1 => h1 w1 (hSE w1 hw1), h2⟩) (hd o (List.mem_of_getElem? ho)) hk h
      exact wpAnyH_take (by simpa using ho) hs hf hr panic_put hy hS (ePh2V_sound hSE hs hd l _ F' _ w hS hk' hB h)
  | (k, false) :: l, listed, F, a, w, hS, hk, hB, h => by
    simp only [planB2, Bool.and_eq_true] at hB
    obtain ⟨hr, hB⟩ := hB
    have hr : Region.ready .any all.toArray listed = [k] := by simpa using hr
    simp only [ePh2V] at h
    split at h
    · exact h.elim
    · rename_i o ho
      refine wpAnyH_all hr (by simp) fun i hi => ?_
      obtain rfl : i = k := by simpa using hi
      exact step_op (Pn := Pn) ho (hd o (List.mem_of_getElem? ho)) hk (fun c w h => ⟨hk.defers, h⟩) (fun F' a' w' hk' ⟨h1, h2⟩ => ⟨h1, ePh2V_sound hSE hs hd l _ F' a' w' h1 hk' hB h2⟩) h
/-- Everything in l1 only reads, and is taken first; of l2 each is the only one that may come up (false), or reckons or reads what was there at the start (true). -/
theorem draw_v (l1 : List Nat) (l2 : List (Nat × Bool)) {E : Sym} (hE : E = real P Pn n) {id : Nat} {ops : Array Oper} {F : Fr} {w : World} {K : Exit → Fr → World → Prop} (hm : P.follows .mixedOrders = true) (hB : planB ops l1 l2 = true)
    (h : ∀ E', EngB false P E' → ∀ w0, Same w w0 → ∀ S : World → Prop, (∀ w', Ext w0 w' → S w') → ePh1 E' ops.toList l1 F w0 (fun F' w' => ePh2V E E' w0 S ops.toList l2 F' w' (K .normal))) : E.draw id ops F w K := by
  subst hE
  intro hd a hk
  simp only [planB, Bool.and_eq_true, Nat.beq_eq] at hB
  obtain ⟨⟨hs, hl⟩, hB⟩ := hB
  have hs' : Region.noSelect ops.toList.toArray = true := by simpa using hs
  refine wp_region_held (S := Ext { w with drawn := w.drawn + 1 }) hm ?_
  have := ePh1_sound (Pn := Pn) (K := K) (n := n) (S := Ext { w with drawn := w.drawn + 1 }) (w := { w with drawn := w.drawn + 1 }) (fun _ h => h) hs' (okDst_ops hd) (Ext.refl _) l2 _ l1 (Array.replicate ops.size false) F a hk (by simpa using hB) (h (hreal P) (Eng.h P) _ (Same.drew w) _ (fun _ h => h))
    (fun F a listed hk hB h => ePh2V_sound (fun _ h => h) hs' (okDst_ops hd) l2 listed F a _ (Ext.refl _) hk hB h)
  rw [hl] at this
  simpa using this
end
end Go.Eng
/- The program's typedTrees and WellTyped walked. -/
namespace Go.Proofs.YtmbonalhbibppaaDoor
open Go.Eng
set_option linter.unusedVariables false
set_option linter.unusedSimpArgs false
theorem leafT_f {w : World} (v : VN) (h : OKN w v) {l : Nat} {ll : Int} (hll : ll = (l : Int)) :
    FC Tryd.prog 101 [.int .i64 ll, .agg ⟨cN v⟩] w fun r _ => ∃ b : Bool, r = .bool b ∧ (b = true ↔ leafT l v.p) := by
  refine FC.intro (cs := []) Tryd.func101 (by kernel_rfl) fun E R hE hr hR => ?_
  obtain ⟨⟨o, z, tx, xs, ks⟩, A0, m0, c0, A1, m1, c1⟩ := v
  have s_tx := h.s_tx
  have r_xs := h.r_xs
  simp only at s_tx r_xs
  obtain ⟨FP, hFP0⟩ : ∃ FP, FP = leafT l ⟨o, z, tx, xs, ks⟩ := ⟨_, rfl⟩
  simp only [← hFP0] at hR
  have hFP := hFP0
  unfold leafT at hFP
  simp only at hFP
  have bar : ∀ {b : Bool}, (b = true ↔ (true = true ∨ z = 0) ∧ (false = true ∨ tx = ⟨#[]⟩) ∧ (false = true ∨ xs = [])) → (b = true ↔ tx = ⟨#[]⟩ ∧ xs = []) := fun h => by simpa using h
  conv => cbv
  refine st_box hr fun a w1 hx hb0 => ?_
  have hb := hb0 _ (Nat.le_refl _)
  clear hb0
  conv => cbv
  (refine st_fld hE fINd0 fun p hp => ?_; (conv => cbv); refine st_load hE cInt (by rw [hp]; exact (hb).at _ _ rfl) ?_; clear hp; (conv => cbv))
  refine br (fun g => ?_) (fun g => ?_)
  · have g : o = 6 := by simpa [hE.cmp, cmpR] using g
    rw [if_pos g] at hFP
    conv => cbv
    refine draw_v [0] [(1, false), (2, true), (3, true), (4, true), (5, true), (6, true), (7, true), (8, true), (9, true), (10, false), (11, true), (12, true), (13, true), (14, true)] hr fol (by kernel_rfl) fun E' hE' w2 hs2 S hS => ?_
    replace hb := hb.bel hs2.ext
    replace hx := hx.trans hs2.ext
    conv => cbv
    refine st_loadS hE' tINd rfl hb.at ?_
    conv => cbv
    refine st_f hr (bare_f (o := o) (z := z) (tx := tx) (r_xs.ext hx).len true false false) fun r w3 hx3 ⟨b, ev, hbb⟩ => ?_
    subst ev
    have hbb := bar hbb
    refine ⟨hS _ hx3, ?_⟩
    cases b with
    | false =>
      conv => cbv
      refine ⟨hS _ hx3, ?_⟩
      conv => cbv
      rw [hR]; exact ⟨hx.trans hx3, false, rfl, by rw [hFP]; exact ⟨(fun q => nomatch q), fun q => hbb.2 ⟨q.1, q.2.1⟩⟩⟩
    | true =>
      have hbb := hbb.1 rfl
      conv => cbv
      refine st_fld hE' fINd1 fun p hp => ?_
      conv => cbv
      refine st_load hE' cI64 (by rw [hp]; exact hb.at _ _ rfl) ?_
      conv => cbv
      have hge : (E'.cmp .geq z 0 = true) ↔ 0 ≤ z := by rw [hE'.cmp]; simp [cmpR]
      refine br (fun g2 => ?_) (fun g2 => ?_)
      · have g2 := hge.1 g2
        conv => cbv
        refine st_fld hE' fINd1 fun p hp => ?_
        conv => cbv
        refine st_load hE' cI64 (by rw [hp]; exact hb.at _ _ rfl) ?_
        conv => cbv
        refine st_f hr (attributes_f w3) fun r w4 hx4 ⟨aa, ev, _⟩ => ?_
        subst ev
        refine ⟨hS _ (hx3.trans hx4), ?_⟩
        conv => cbv
        refine st_len hE' sAr fun x hx' => ?_
        conv => cbv
        obtain ⟨q4, hq4⟩ : ∃ q4, q4 = E'.cmp .lss z x := ⟨_, rfl⟩
        have hq5 : q4 = true ↔ z < 6 := by rw [hq4, hE'.cmp, hx']; simp [cmpR]
        simp only [← hq4]
        rw [hR]; exact ⟨(hx.trans hx3).trans hx4, q4, rfl, by rw [hFP, hq5]; exact ⟨fun q => ⟨hbb.1, hbb.2, g2, q⟩, fun q => q.2.2.2⟩⟩
      · have g2 : ¬ 0 ≤ z := fun q => g2 (hge.2 q)
        conv => cbv
        refine ⟨hS _ hx3, ?_⟩
        conv => cbv
        rw [hR]; exact ⟨hx.trans hx3, false, rfl, by rw [hFP]; exact ⟨(fun q => nomatch q), fun q => absurd q.2.2.1 g2⟩⟩
  · have g : o ≠ 6 := by simpa [hE.cmp, cmpR] using g
    rw [if_neg g] at hFP
    conv => cbv
    refine br (fun g1 => ?_) (fun g1 => ?_)
    · have g1 : o = 7 := by simpa [hE.cmp, cmpR] using g1
      rw [if_pos g1] at hFP
      conv => cbv
      refine st_loadS hE tINd rfl hb.at ?_
      conv => cbv
      refine st_f hr (bare_f (o := o) (z := z) (tx := tx) (r_xs.ext hx).len true false false) fun r w3 hx3 ⟨b, ev, hbb⟩ => ?_
      subst ev
      have hbb := bar hbb
      replace hb := hb.bel hx3
      replace hx := hx.trans hx3
      cases b with
      | false =>
        conv => cbv
        rw [hR]; exact ⟨hx, false, rfl, by rw [hFP]; exact ⟨(fun q => nomatch q), fun q => hbb.2 ⟨q.1, q.2.1⟩⟩⟩
      | true =>
        have hbb := hbb.1 rfl
        conv => cbv
        (refine st_fld hE fINd1 fun p hp => ?_; (conv => cbv); refine st_load hE cI64 (by rw [hp]; exact (hb).at _ _ rfl) ?_; clear hp; (conv => cbv))
        have hge : (E.cmp .geq z 0 = true) ↔ 0 ≤ z := by rw [hE.cmp]; simp [cmpR]
        refine br (fun g2 => ?_) (fun g2 => ?_)
        · have g2 := hge.1 g2
          conv => cbv
          (refine st_fld hE fINd1 fun p hp => ?_; (conv => cbv); refine st_load hE cI64 (by rw [hp]; exact (hb).at _ _ rfl) ?_; clear hp; (conv => cbv))
          obtain ⟨q4, hq4⟩ : ∃ q4, q4 = E.cmp .lss z ll := ⟨_, rfl⟩
          have hq5 : q4 = true ↔ z < l := by rw [hq4, hE.cmp, hll]; simp [cmpR]
          simp only [← hq4]
          rw [hR]; exact ⟨hx, q4, rfl, by rw [hFP, hq5]; exact ⟨fun q => ⟨hbb.1, hbb.2, g2, q⟩, fun q => q.2.2.2⟩⟩
        · have g2 : ¬ 0 ≤ z := fun q => g2 (hge.2 q)
          conv => cbv
          rw [hR]; exact ⟨hx, false, rfl, by rw [hFP]; exact ⟨(fun q => nomatch q), fun q => absurd q.2.2.1 g2⟩⟩
    · have g1 : o ≠ 7 := by simpa [hE.cmp, cmpR] using g1
      rw [if_neg g1] at hFP
      conv => cbv
      refine st_loadS hE tINd rfl hb.at ?_
      conv => cbv
      refine st_f hr (validConst_f (o := o) (z := z) (tx := tx) (r_xs.ext hx) s_tx) fun r w2 hx2 ⟨b, ev, hbb⟩ => ?_
      subst ev
      have hbb : b = true ↔ cOK ⟨o, z, tx, xs, ks⟩ := hbb
      conv => cbv
      rw [hR]; exact ⟨hx.trans hx2, b, rfl, by rw [hFP]; exact hbb⟩
theorem leafT_a {w0 : World} : LeafA w0 101 leafT := fun w' hx l _ ll hll v hv => leafT_f v hv hll
theorem LaidS.ext {w w' : World} {A : Option Addr} {m c : Nat} {sv : List PS} {acc : List PT} (h : LaidS w A m c sv acc) (hx : Ext w w') : LaidS w' A m c sv acc := by
  obtain ⟨es, h1, h2, h3, h4, h5, h6, h7⟩ := h
  exact ⟨es, h1, h2, h3, h4, h5.ext hx, h6, h7.keep (fun b hb => hx.block b hb) (fun b hb => Nat.lt_of_lt_of_le hb hx.size)⟩
/-- What typedTrees finds. -/
def TypedP (nv : List PN) (sv : List PS) (tyl : List Int) (acc : List PT) (x : CK) : Prop :=
  (nv.length ≤ 4000 ∧ 1 ≤ sv.length ∧ sv.length ≤ 600) ∧ runS nv leafT sv 0 0 [] = some (acc, nv.length) ∧ ckS (sv.zip acc) ⟨[], [], []⟩ = .inr x ∧ x.acc = tyl
set_option maxHeartbeats 4000000 in
theorem typedTrees_f {w : World} (hT : Tab w 6 constF) (hR0 : STab w 5 words) {A A2 A3 : Option Addr} {n c n2 c2 n3 c3 : Nat} {nv : List PN} {sv : List PS} {tyl : List Int} (h : TypR w A n A2 n2 A3 n3 c3 nv sv tyl) (hn : n ≤ 9223372036854775807) (hn2 : n2 ≤ 9223372036854775807) :
    FC Tryd.prog 54 [typV A n c A2 n2 c2 A3 n3 c3] w fun v w' => ∃ (B : Option Addr) (m d : Nat) (b : Bool), v = .tuple ⟨[.slice B m d, .bool b]⟩ ∧ (b = true ↔ wellP nv sv tyl) ∧
      (b = true → ∃ acc x, TypedP nv sv tyl acc x ∧ LaidS w' B m d sv acc) := by
  refine FC.intro (cs := []) Tryd.func54 (by kernel_rfl) fun E R hE hr hR => ?_
  have hl3 := h.tys.len
  have no : ¬ wellP nv sv tyl → ∀ w', Ext w w' → R (.tuple ⟨[.slice none 0 0, .bool false]⟩) w' := fun q w' hx => by rw [hR]; exact ⟨hx, none, 0, 0, false, rfl, ⟨(fun z => by cases z), fun z => absurd z q⟩, fun z => by cases z⟩
  conv => cbv
  refine st_box hr fun a w1 hx hb0 => ?_
  have hb := hb0 _ (Nat.le_refl _)
  clear hb0
  conv => cbv
  (refine st_fld hE fITyp0 fun p hp => ?_; (conv => cbv); refine st_load hE cINs (by rw [hp]; exact (hb).at _ _ rfl) ?_; clear hp; (conv => cbv))
  (refine st_fld hE fITyp1 fun p hp => ?_; (conv => cbv); refine st_load hE cISs (by rw [hp]; exact (hb).at _ _ rfl) ?_; clear hp; (conv => cbv))
  refine st_f hr (trees_f (cN' := c) (c2 := c2) (hT.ext hx) (hR0.ext hx) (h.pol.ext hx) hn hn2 leafT_a) fun v w2 hx2 ⟨B, m, d, b, ev, hb1, hb2⟩ => ?_
  subst ev
  replace hb := hb.bel hx2
  replace hx := hx.trans hx2
  clear hx2
  cases b with
  | false =>
    conv => cbv
    exact no (fun q => absurd (hb1.2 (wellP_iff.1 q).1) Bool.false_ne_true) _ hx
  | true =>
  have hP := hb1.1 rfl
  obtain ⟨acc, hrun, hLS⟩ := hb2 rfl
  clear hb1 hb2
  obtain ⟨pts, p1, p2, p3, p4, p5⟩ := runS_full leafT_6 leafT_7 sv hrun
  rw [List.nil_append] at p1
  subst p1
  obtain ⟨es, hes, hz, hpm, hsm⟩ := hLS.svs
  have hpo : poS es ≤ 4000 := by
    have := p3.pos.1
    unfold poS
    rw [show (es.flatMap fun e => trs e.p) = acc.flatMap trs by rw [← hpm, List.flatMap_map]]
    omega
  have hm6 : m ≤ 600 := by
    have := hes.len
    have e2 : (es.map (·.s)).length = sv.length := by rw [hsm]
    rw [List.length_map] at e2
    omega
  conv => cbv
  refine st_f hr (checkAll_f hes hm6 (by rw [hz]; exact p5) hpo) fun v w3 hx3 hv => ?_
  rw [hz] at hv
  have key : ∀ q : wellP nv sv tyl, ∃ x, ckS (sv.zip acc) ⟨[], [], []⟩ = .inr x ∧ x.acc = tyl := fun q => (wellP_iff.1 q).2 _ hrun
  replace hb := hb.bel hx3
  have hLS := hLS.ext hx3
  replace hx := hx.trans hx3
  cases hck : ckS (sv.zip acc) ⟨[], [], []⟩ with
  | inl f =>
    rw [hck] at hv
    obtain ⟨rfl, hf⟩ := hv
    have noK : ¬ wellP nv sv tyl := fun q => by
      obtain ⟨x, h1, _⟩ := key q
      rw [hck] at h1; cases h1
    conv => cbv
    refine st_neSome hE Tryd.underlying114 ?_
    conv => cbv
    exact no noK _ hx
  | inr x =>
    rw [hck] at hv
    obtain ⟨B2, d2, TA, n', c', es2, rfl, _, hI, _⟩ := hv
    have fin : wellP nv sv tyl ↔ x.acc = tyl := ⟨fun q => by
      obtain ⟨x', h1, h2⟩ := key q
      rw [hck] at h1; cases h1; exact h2, fun e => wellP_iff.2 ⟨hP, fun acc' ha => by
      rw [hrun] at ha; cases ha; exact ⟨x, hck, e⟩⟩⟩
    have hI : Ints w3 TA n' c' x.acc := Own.ints hI
    have hxl := hI.len
    have hxn : x.acc.length = nv.length := ck_len p2 p3 rfl hck
    conv => cbv
    refine st_neNil hE Tryd.underlying114 ?_
    conv => cbv
    refine st_len hE tInts fun x1 hx1 => ?_
    conv => cbv
    (refine st_fld hE fITyp2 fun p hp => ?_; (conv => cbv); refine st_load hE cInts (by rw [hp]; exact (hb).at _ _ rfl) ?_; clear hp; (conv => cbv))
    refine st_len hE tInts fun x2 hx2 => ?_
    conv => cbv
    refine br (fun g => ?_) (fun g => ?_)
    · have g : x1 ≠ x2 := by simpa [hE.cmp, cmpR] using g
      conv => cbv
      refine no (fun q => g ?_) _ hx
      have := fin.1 q
      rw [this] at hxl
      omega
    have g : x1 = x2 := by simpa [hE.cmp, cmpR] using g
    conv => cbv
    refine st_len hE tInts fun x5 hx5 => ?_
    conv => cbv
    refine loop_rule hr (fun (s : Nat × Int) w' => s.1 ≤ n' ∧ s.2 = (s.1 : Int) ∧ Ext w3 w' ∧ x.acc.take s.1 = tyl.take s.1) (fun s => [(1, .pointer (some a)), (4, .slice B m d), (37, .slice TA n' c'), (38, .int .i64 x5), (39, .int .i64 s.2)]) (fun s => n' - s.1) (0, 0)
      (by simp [Fits, lk]) ⟨by simp, by simp, Ext.refl _, by simp⟩ ?_
    rintro I hI' ⟨i, ii⟩ w' ⟨hi, hii, hxw, htk⟩
    simp only at hi hii htk
    obtain ⟨ij, hij⟩ : ∃ z, z = ii + 1 := ⟨_, rfl⟩
    conv => cbv
    refine br (fun g2 => ?_) (fun g2 => ?_)
    · have g2 : i < n' := by
        have : ii < x5 := by simpa [hE.cmp, cmpR] using g2
        omega
      have ei : E.ar .add .i64 ii 1 = ij := by rw [hE.ar, hij]; exact wrap_in (by omega) (by omega)
      conv => cbv
      refine st_int hE tInts (hI.ext hxw) (k := i) hii g2 fun p u hu hp => ?_
      conv => cbv
      refine st_load hE cInt hp ?_
      conv => cbv
      (refine st_fld hE fITyp2 fun p hp => ?_; (conv => cbv); refine st_load hE cInts (by rw [hp]; exact ((hb.bel hxw)).at _ _ rfl) ?_; clear hp; (conv => cbv))
      refine st_int hE tInts ((h.tys.ext hx).ext hxw) (k := i) hii (by omega) fun p2 u2 hu2 hp2 => ?_
      conv => cbv
      refine st_load hE cInt hp2 ?_
      conv => cbv
      refine br (fun g3 => ?_) (fun g3 => ?_)
      · have g3 : u2 ≠ u := by simpa [hE.cmp, cmpR] using g3
        conv => cbv
        refine no (fun q => g3 ?_) _ (hx.trans hxw)
        have := fin.1 q
        rw [this, hu2] at hu
        exact Option.some.inj hu
      · have g3 : u2 = u := by simpa [hE.cmp, cmpR] using g3
        conv => cbv
        simp only [ei]
        refine ⟨(i + 1, ij), by simp [Fits, lk], hI' _ _ ⟨by simp only; omega, by simp only; omega, hxw, ?_⟩, by simp only; omega⟩
        simp only
        rw [List.take_add_one, List.take_add_one, htk, hu, hu2, g3]
    · have g2 : i = n' := by
        have : ¬ ii < x5 := by simpa [hE.cmp, cmpR] using g2
        omega
      rw [List.take_of_length_le (by omega), List.take_of_length_le (by omega)] at htk
      conv => cbv
      rw [hR]; exact ⟨hx.trans hxw, B, m, d, true, rfl, ⟨fun _ => fin.2 htk, fun _ => rfl⟩, fun _ => ⟨acc, x, ⟨⟨hP.1, hP.2.1, hP.2.2.1⟩, hrun, hck, htk⟩, hLS.ext hxw⟩⟩
theorem implWellTyped_f {w : World} (hT : Tab w 6 constF) (hR0 : STab w 5 words) {A A2 A3 : Option Addr} {n c n2 c2 n3 c3 : Nat} {nv : List PN} {sv : List PS} {tyl : List Int} (h : TypR w A n A2 n2 A3 n3 c3 nv sv tyl) (hn : n ≤ 9223372036854775807) (hn2 : n2 ≤ 9223372036854775807) :
    FC Tryd.prog 21 [typV A n c A2 n2 c2 A3 n3 c3] w fun v w' => ∃ b : Bool, v = .bool b ∧ (b = true ↔ wellP nv sv tyl) := by
  refine FC.intro (cs := []) Tryd.func21 (by kernel_rfl) fun E R hE hr hR => ?_
  conv => cbv
  refine st_box hr fun a w1 hx hb0 => ?_
  have hb := hb0 _ (Nat.le_refl _)
  conv => cbv
  refine st_loadS hE tITyp rfl hb.at ?_
  conv => cbv
  refine st_f hr (typedTrees_f (c := c) (c2 := c2) (hT.ext hx) (hR0.ext hx) (h.ext hx) hn hn2) fun v w2 hx2 ⟨B, m, d, b, ev, h1, h2⟩ => ?_
  subst ev
  conv => cbv
  rw [hR]; exact ⟨hx.trans hx2, b, rfl, h1⟩
end Go.Proofs.YtmbonalhbibppaaDoor
/- The reference's trees (spec.l4tree) in memory; spec.l4of walked. -/
namespace Go.Proofs.YtmbonalhbibppaaDoor
open Go.Eng
set_option linter.unusedVariables false
set_option linter.unusedSimpArgs false
/-- Five cells. -/
structure C5 where
  a : Value
  b : Value
  c : Value
  d : Value
  e : Value
def c5 (v : C5) : List Value := [v.a, v.b, v.c, v.d, v.e]
theorem c5_len (v : C5) : (c5 v).length = 5 := rfl
/-- The operator of a constant by its type. -/
def opK (k : Int) : Int := if k = 2 then 1 else if k = 3 then 2 else if k = 1 then 3 else 4
mutual
/-- The reference's tree: operator, number, text, names, kids. -/
def L4V (D : Nat → Prop) (w : World) : Tr → C5 → Prop
  | .con k n tx xs _, v => ∃ A m c B d, v = ⟨.int .i64 (opK k), .int .i64 n, .string tx, .slice A m c, .slice B 0 d⟩ ∧ Strs w A m c xs ∧ InD D A m ∧ tx.size ≤ 9223372036854775807
  | .att n, v => ∃ A c B d, v = ⟨.int .i64 6, .int .i64 n, .string ⟨#[]⟩, .slice A 0 c, .slice B 0 d⟩
  | .lt n, v => ∃ A c B d, v = ⟨.int .i64 7, .int .i64 n, .string ⟨#[]⟩, .slice A 0 c, .slice B 0 d⟩
  | .op o kids _, v => ∃ A c B m d vs, v = ⟨.int .i64 o, .int .i64 0, .string ⟨#[]⟩, .slice A 0 c, .slice B m d⟩ ∧ vs.length = m ∧ m ≤ d ∧ m ≤ 3 ∧ Cells w B (vs.flatMap c5) ∧ InD D B m ∧ L4Vs D w kids vs
  | .nam _ _, _ => False
def L4Vs (D : Nat → Prop) (w : World) : List Tr → List C5 → Prop
  | [], [] => True
  | t :: ts, v :: vs => L4V D w t v ∧ L4Vs D w ts vs
  | _, _ => False
end
theorem L4Vs.len {D : Nat → Prop} {w : World} : ∀ {ts : List Tr} {vs : List C5}, L4Vs D w ts vs → ts.length = vs.length
  | [], [], _ => rfl
  | t :: ts, v :: vs, h => by simp only [L4Vs] at h; simp [L4Vs.len h.2]
  | [], _ :: _, h => by simp only [L4Vs] at h
  | _ :: _, [], h => by simp only [L4Vs] at h
theorem L4Vs.get {D : Nat → Prop} {w : World} : ∀ {ts : List Tr} {vs : List C5}, L4Vs D w ts vs → ∀ (i : Nat) (t : Tr) (v : C5), ts[i]? = some t → vs[i]? = some v → L4V D w t v
  | t :: ts, v :: vs, h, 0, t', v', h1, h2 => by simp at h1 h2; subst h1; subst h2; simp only [L4Vs] at h; exact h.1
  | t :: ts, v :: vs, h, i + 1, t', v', h1, h2 => by simp only [L4Vs] at h; exact L4Vs.get h.2 i t' v' (by simpa using h1) (by simpa using h2)
  | [], [], _, i, t, v, h1, _ => by simp at h1
  | [], _ :: _, h, _, _, _, _, _ => by simp only [L4Vs] at h
  | _ :: _, [], h, _, _, _, _, _ => by simp only [L4Vs] at h
theorem L4Vs.of_get {D : Nat → Prop} {w : World} : ∀ {ts : List Tr} {vs : List C5}, ts.length = vs.length → (∀ (i : Nat) (t : Tr) (v : C5), ts[i]? = some t → vs[i]? = some v → L4V D w t v) → L4Vs D w ts vs
  | [], [], _, _ => by simp only [L4Vs]
  | t :: ts, v :: vs, h, hq => by
    simp only [L4Vs]
    exact ⟨hq 0 t v rfl rfl, L4Vs.of_get (by simpa using h) fun i t v h1 h2 => hq (i + 1) t v (by simpa using h1) (by simpa using h2)⟩
  | [], _ :: _, h, _ => by simp at h
  | _ :: _, [], h, _ => by simp at h
theorem L4Vs.snoc {D : Nat → Prop} {w : World} : ∀ {ts : List Tr} {vs : List C5} {t : Tr} {v : C5}, L4Vs D w ts vs → L4V D w t v → L4Vs D w (ts ++ [t]) (vs ++ [v])
  | [], [], t, v, _, h => by simp only [List.nil_append, L4Vs]; exact ⟨h, trivial⟩
  | u :: ts, x :: vs, t, v, h, h2 => by simp only [List.cons_append, L4Vs] at h ⊢; exact ⟨h.1, L4Vs.snoc h.2 h2⟩
  | [], _ :: _, _, _, h, _ => by simp only [L4Vs] at h
  | _ :: _, [], _, _, h, _ => by simp only [L4Vs] at h
theorem L4V.one {D : Nat → Prop} {w : World} {t : Tr} {v : C5} (h : L4V D w t v) : ∀ x ∈ c5 v, x.oneCell' = true := by
  cases t <;> simp only [L4V] at h
  · obtain ⟨A, m, c, B, d, rfl, _⟩ := h; simp [c5, Value.oneCell']
  · obtain ⟨A, c, B, d, rfl⟩ := h; simp [c5, Value.oneCell']
  · obtain ⟨A, c, B, d, rfl⟩ := h; simp [c5, Value.oneCell']
  · obtain ⟨A, c, B, m, d, vs, rfl, _⟩ := h; simp [c5, Value.oneCell']
mutual
theorem L4V.keep {D D' : Nat → Prop} {w w' : World} (hk : Keeps D w w') (hD : ∀ b, D b → D' b) : ∀ (t : Tr) (v : C5), L4V D w t v → L4V D' w' t v
  | .con k n tx xs at_, v, h => by
    simp only [L4V] at h ⊢
    obtain ⟨A, m, c, B, d, e, h1, h2, h3⟩ := h
    exact ⟨A, m, c, B, d, e, strs_keep h1 h2 hk, fun a ha hm => hD _ (h2 a ha hm), h3⟩
  | .nam tx at_, v, h => by simp only [L4V] at h
  | .att n, v, h => by simp only [L4V] at h ⊢; exact h
  | .lt n, v, h => by simp only [L4V] at h ⊢; exact h
  | .op o kids at_, v, h => by
    simp only [L4V] at h ⊢
    obtain ⟨A, c, B, m, d, vs, e, h1, h2, h3, h4, h5, h6⟩ := h
    refine ⟨A, c, B, m, d, vs, e, h1, h2, h3, cells_keep h4 (fun a ha hm => h5 a ha ?_) hk, fun a ha hm => hD _ (h5 a ha hm), L4Vs.keep hk hD kids vs h6⟩
    rw [fl_len c5_len] at hm; omega
theorem L4Vs.keep {D D' : Nat → Prop} {w w' : World} (hk : Keeps D w w') (hD : ∀ b, D b → D' b) : ∀ (ts : List Tr) (vs : List C5), L4Vs D w ts vs → L4Vs D' w' ts vs
  | [], [], _ => by simp only [L4Vs]
  | t :: ts, v :: vs, h => by simp only [L4Vs] at h ⊢; exact ⟨L4V.keep hk hD t v h.1, L4Vs.keep hk hD ts vs h.2⟩
  | [], _ :: _, h => by simp only [L4Vs] at h
  | _ :: _, [], h => by simp only [L4Vs] at h
end
theorem L4V.ext {D : Nat → Prop} {w w' : World} {t : Tr} {v : C5} (h : L4V D w t v) (hD : ∀ b, D b → b < w.heap.size) (hx : Ext w w') : L4V D w' t v := h.keep (fun b hb => hx.block b (hD b hb)) (fun _ h => h)
theorem knd_opK {o : Int} (h : 1 ≤ o ∧ o ≤ 4) : opK (knd o) = o := by
  have : o = 1 ∨ o = 2 ∨ o = 3 ∨ o = 4 := by omega
  rcases this with rfl | rfl | rfl | rfl <;> rfl
def zL4 : List Value := [.int .i64 0, .int .i64 0, .string ⟨#[]⟩, .slice none 0 0, .slice none 0 0]
theorem tL4 : Stc Tryd.prog 123 5 zL4 := ⟨by kernel_rfl, by kernel_rfl⟩
theorem sL4 : Slc Tryd.prog 121 123 (.agg ⟨zL4⟩) 5 80 := ⟨Tryd.underlying121, by kernel_rfl⟩
theorem fL40 : Fld Tryd.prog 123 0 0 := ⟨by kernel_rfl⟩
theorem fL41 : Fld Tryd.prog 123 1 1 := ⟨by kernel_rfl⟩
theorem fL42 : Fld Tryd.prog 123 2 2 := ⟨by kernel_rfl⟩
theorem fL43 : Fld Tryd.prog 123 3 3 := ⟨by kernel_rfl⟩
theorem fL44 : Fld Tryd.prog 123 4 4 := ⟨by kernel_rfl⟩
theorem cL4s : Cel Tryd.prog 121 := ⟨_, Tryd.underlying121, by simp, by simp⟩
theorem zL4s : (Tryd.prog.info? 121).map (·.size) = some 1 := by kernel_rfl
section
variable {E : Sym} {w : World} {K : Value → World → Prop} {d : Option Tmp} {ty : TypeId} {pos : String} {aft : Array Edge} {g : Option (Nat × Bool)} {bq : Bool}
theorem run_bL4 (o z : Int) (s : ByteArray) (A : Option Addr) (m c : Nat) (w : World) : (Instr.build 123 #[(0, .int .i64 o), (1, .int .i64 z), (2, .string s), (3, .slice A m c)]).run Tryd.prog w = .ok (.agg #[.int .i64 o, .int .i64 z, .string s, .slice A m c, .slice none 0 0]) w := by kernel_rfl
theorem st_bL4 (hE : EngB bq Tryd.prog E) {o z : Int} {s : ByteArray} {A : Option Addr} {m c : Nat} {x1 x2 x3 x4 : Operand} (hk : K (.agg ⟨[.int .i64 o, .int .i64 z, .string s, .slice A m c, .slice none 0 0]⟩) w) : E.stop ⟨d, .build 123 ⟨[(0, x1), (1, x2), (2, x3), (3, x4)]⟩, ty, pos, aft, g⟩ [.int .i64 o, .int .i64 z, .string s, .slice A m c] w K := by
  refine hE.det (v := .agg ⟨[.int .i64 o, .int .i64 z, .string s, .slice A m c, .slice none 0 0]⟩) (fun w1 _ ρ hρ => ?_) hk
  simp only [opnds, List.map_cons, List.map_nil, List.cons.injEq, and_true] at hρ
  have := run_bL4 o z s A m c w1
  simp [execOp, hρ, this]
end
/-- Old blocks, and those that have come since. -/
def DB (w0s ws : Nat) (w : World) (b : Nat) : Prop := b < w0s ∨ (ws ≤ b ∧ b < w.heap.size)
theorem db_lt {w0s ws : Nat} {w : World} (h : w0s ≤ w.heap.size) {b : Nat} (hb : DB w0s ws w b) : b < w.heap.size := by rcases hb with hb | hb <;> omega
set_option maxHeartbeats 8000000 in
theorem l4of_f {w0 : World} {AN : Option Addr} {N cN' : Nat} {nv : List PN} (hN : RNs w0 AN N nv) (hNb : N ≤ 4000) (hF : ∀ p ∈ nv, fieldsP true p) : ∀ (k : Nat) (a b : Nat) (t : Tr), IsTs nv a b [(k : Int)] [t] → ∀ (w : World), Ext w0 w →
    FC Tryd.prog 62 [.slice AN N cN', .int .i64 (k : Int)] w fun v w' => ∃ cv, v = .agg ⟨c5 cv⟩ ∧ L4V (DB w0.heap.size w.heap.size w') w' t cv := by
  intro k
  induction k using Nat.strongRecOn with
  | _ k ih =>
    intro a b t ht w hx0
    refine FC.intro (cs := []) Tryd.func62 (by kernel_rfl) fun E R hE hr hR => ?_
    have hNl := hN.len
    obtain ⟨_, p, kids, hkn, _, hpk, hpl, hks, et⟩ := ht.one
    have hkn : k = _ := Int.ofNat.inj hkn
    subst hkn
    have et : t = mkT p k kids := by simpa using et
    have hkl := (List.getElem?_eq_some_iff.1 hpk).1
    have hfp := (hF p (List.mem_of_getElem? hpk)).2
    obtain ⟨aN, v, hA, hg, hc, hok⟩ := hN.get (i := k) (by omega)
    rw [hpk] at hg
    have hg : p = v.p := Option.some.inj hg
    obtain ⟨⟨o, z, tx, xs, ks⟩, A0, m0, c0, A1, m1, c1⟩ := v
    simp only at hg
    subst hg
    obtain ⟨kk, hkk⟩ : ∃ kk : Int, kk = k := ⟨_, rfl⟩
    rw [← hkk]
    have r_ks := hok.r_ks
    have r_xs := hok.r_xs
    have s_tx := hok.s_tx
    simp only at r_ks r_xs s_tx hpl hks hfp
    have hksl := r_ks.len
    have hxsl := r_xs.len
    have hkdl := hks.len
    have h0s := hx0.size
    have hm3 : m1 ≤ 3 := by have := kidsF_le o; omega
    conv => cbv
    refine st_alloc hr tL4 rfl fun q4 w1 hx1 hq0 => ?_
    have hq4 := hq0 _ (Nat.le_refl _)
    have f4 := bx_form hq4
    clear hq0
    conv => cbv
    refine st_idx hE sINd hA (by omega) (by omega) fun q hq => ?_
    rw [show kk.toNat = k by omega] at hq
    conv => cbv
    refine st_loadS hE tINd (vs := [.int .i64 o, .int .i64 z, .string tx, .slice A0 m0 c0, .slice A1 m1 c1]) rfl (by rw [hq]; exact fun j u hu => hx1.cell (hx0.cell (hc j u hu))) ?_
    conv => cbv
    refine st_alloc hr tINd rfl fun q5 w2 hx2 hq0 => ?_
    conv => cbv
    refine st_putS hr (by kernel_rfl) (hq0 _ (Nat.le_refl _)) (add_zero _).symm (by simp) (by simp [Value.oneCell']) fun w3 hw3 hq5 => ?_
    simp only [List.take_zero, List.nil_append, List.length_cons, List.length_nil, List.drop_succ_cons, List.drop_nil, List.append_nil] at hq5
    have hx3 := hx2.then (hw3.bel (hq0 _ (Nat.le_refl _)) hx2.size)
    have f5 := bx_form hq5
    have hq4 := hq4.bel hx3
    have hx := hx1.trans hx3
    clear hq0 hw3 hx2 hq hc hA
    conv => cbv
    (refine st_fld hE fINd0 fun p hp => ?_; (conv => cbv); refine st_load hE cInt (by rw [hp]; exact (hq5).at _ _ rfl) ?_; clear hp; (conv => cbv))
    (refine st_fld hE fINd1 fun p hp => ?_; (conv => cbv); refine st_load hE cI64 (by rw [hp]; exact (hq5).at _ _ rfl) ?_; clear hp; (conv => cbv))
    (refine st_fld hE fINd2 fun p hp => ?_; (conv => cbv); refine st_load hE cStr (by rw [hp]; exact (hq5).at _ _ rfl) ?_; clear hp; (conv => cbv))
    (refine st_fld hE fINd3 fun p hp => ?_; (conv => cbv); refine st_load hE cStrs (by rw [hp]; exact (hq5).at _ _ rfl) ?_; clear hp; (conv => cbv))
    refine st_bL4 hE ?_
    conv => cbv
    refine st_alloc hr tL4 rfl fun q6 w4 hx4 hq0 => ?_
    conv => cbv
    refine st_putS hr (by kernel_rfl) (hq0 _ (Nat.le_refl _)) (add_zero _).symm (by simp [zL4]) (by simp [Value.oneCell']) fun w5 hw5 hq6 => ?_
    simp only [zL4, List.take_zero, List.nil_append, List.length_cons, List.length_nil, List.drop_succ_cons, List.drop_nil, List.append_nil] at hq6
    have hx5 := hx4.then (hw5.bel (hq0 _ (Nat.le_refl _)) hx4.size)
    have f6 := bx_form hq6
    replace hq4 := hq4.bel hx5
    replace hq5 := hq5.bel hx5
    have s1 := hx1.size
    have s3 := hx3.size
    replace hx := hx.trans hx5
    have s5 := hx5.size
    have s4 := hx4.size
    clear hq0 hw5 hx4
    conv => cbv
    (refine st_fld hE fINd4 fun p hp => ?_; (conv => cbv); refine st_load hE cInts (by rw [hp]; exact (hq5).at _ _ rfl) ?_; clear hp; (conv => cbv))
    refine st_len hE tInts fun x5 hx5' => ?_
    conv => cbv
    have e6 := f6.2.2
    have hw5s : w0.heap.size ≤ w5.heap.size := by omega
    refine loop_rulec [] hr (fun (s : Nat × Int × Option Addr × Nat × List C5) w' => s.1 ≤ m1 ∧ s.2.1 = (s.1 : Int) ∧ (Ext w w' ∧ w5.heap.size ≤ w'.heap.size ∧ Box w.heap.size 123 5 w' q4 zL4) ∧ Box w3.heap.size 123 5 w' q6 [.int .i64 o, .int .i64 z, .string tx, .slice A0 m0 c0, .slice s.2.2.1 s.1 s.2.2.2.1] ∧
        Own w5.heap.size 123 5 w' s.2.2.1 s.1 s.2.2.2.1 (s.2.2.2.2.flatMap c5) ∧ L4Vs (fun b => DB w0.heap.size w5.heap.size w' b ∧ blk s.2.2.1 ≠ some b) w' (kids.take s.1) s.2.2.2.2)
      (fun s => [(0, .slice AN N cN'), (4, .pointer (some q4)), (5, .pointer (some q5)), (6, .pointer (some q6)), (23, .slice A1 m1 c1), (24, .int .i64 x5), (25, .int .i64 s.2.1)]) (fun s => m1 - s.1) (0, 0, none, 0, [])
      (by simp [Fits, lk]) ⟨by simp, by simp, ⟨hx, Nat.le_refl _, hq4⟩, hq6, Own.nil, by simp only [List.take_zero, L4Vs]⟩ ?_
    clear hq4 hq5 hq6 hx
    rintro I hI ⟨j, jj, B, d, css⟩ w' ⟨hj, hjj, ⟨hxw, hs', hq4⟩, hb6, ho, hcs⟩
    simp only at hj hjj hb6 ho hcs
    obtain ⟨jk, hjk⟩ : ∃ z, z = jj + 1 := ⟨_, rfl⟩
    have hol := ho.len
    rw [fl_len c5_len] at hol
    have hx' := hx0.trans hxw
    have e4 := f4.2.2
    conv => cbv
    refine br (fun g4 => ?_) (fun g4 => ?_)
    · have g4 : j < m1 := by
        have : jj < x5 := by simpa [hE.cmp, cmpR] using g4
        omega
      have ej : E.ar .add .i64 jj 1 = jk := by rw [hE.ar, hjk]; exact wrap_in (by omega) (by omega)
      conv => cbv
      refine st_int hE tInts (r_ks.ext hx') (k := j) hjj g4 fun p1 u hu hp1 => ?_
      conv => cbv
      refine st_load hE cInt hp1 ?_
      conv => cbv
      refine draw_t [0, 1, 2, 3] [(4, true), (5, true), (6, false), (7, false), (8, false)] hr fol (by kernel_rfl) fun E' hE' w6 hs6 S hS => ?_
      have hb66 := hb6.bel hs6.ext
      have ho6 := ho.bel hs6.ext
      conv => cbv
      (refine st_fld hE' fL44 fun p hp => ?_; (conv => cbv); refine st_load hE' cL4s (by rw [hp]; exact (hb66).at _ _ rfl) ?_; clear hp; (conv => cbv))
      obtain ⟨t', a', b', ht', hI'⟩ := hks.at hu
      have hur := hks.roots u (List.mem_of_getElem? hu)
      obtain ⟨un, hun⟩ : ∃ un : Nat, u = (un : Int) := ⟨u.toNat, by omega⟩
      have hrec := ih un (by omega) a' b' t' (by rw [← hun]; exact hI') w6 (hx'.trans hs6.ext)
      rw [← hun] at hrec
      refine st_f hr hrec fun v w7 hx7 ⟨cv, ev, hcv⟩ => ?_
      subst ev
      have hone := hcv.one
      obtain ⟨va, vb, vc, vd, ve⟩ := cv
      refine ⟨hS _ hx7, ?_⟩
      conv => cbv
      refine st_oneS hr sL4 rfl (by omega) (by omega) rfl fun A7 w8 hx8 hc8 => ?_
      refine ⟨hS _ (hx7.trans hx8), ?_⟩
      have hx68 := hx7.trans hx8
      have ho8 := ho6.bel hx68
      have hb8 := hb66.bel hx68
      have s6 := hs6.ext.size
      have s7 := hx7.size
      have s8 := hx8.size
      have hx08 := (hx'.trans hs6.ext).trans hx68
      conv => cbv
      refine st_appsKG hr sL4 rfl (by omega) ho8 hc8 rfl (by omega) hone (by omega) (by omega) (by omega) fun A8 c8 m8 w9 hm8 hw9 ho9 hbk => ?_
      subst hm8
      have hgro : Gro w8 B w9 A8 := ⟨hw9, hbk.imp id fun e => ⟨_, e, Nat.le_refl _⟩⟩
      have hb9 := hb8.wr hw9 (own_low ho8 (by omega) e6).2
      have s9 := hw9.size
      conv => cbv
      refine st_fld hE fL44 fun p3 hp3 => ?_
      conv => cbv
      refine st_put hr zL4s hb9 hp3 (by simp) rfl fun w10 hw10 hb10 => ?_
      simp only [List.set_cons_zero, List.set_cons_succ] at hb10
      have s10 := hw10.size
      have hq49 := (((hq4.bel hs6.ext).bel hx68).wr hw9 (own_low ho8 (by omega) e4).2).wr hw10 (bx_apart e4 e6 (by omega))
      have hx9 : Ext w w9 := ((hxw.trans hs6.ext).trans hx68).then (RowKit.Below.mono (hw9.bel ho8 (by omega)) (by omega))
      have hx10 : Ext w w10 := hx9.then ⟨hw10.os, hw10.tape, hw10.output, hw10.size, fun i h1 => hw10.block i (by omega) (by rw [e6]; intro q; cases q; omega)⟩
      conv => cbv
      simp only [ej]
      have kpB : ∀ b, b < w8.heap.size → blk B ≠ some b → b ≠ q6.block → w10.heap[b]? = w8.heap[b]? := fun b h1 h2 h3 => by
        rw [hw10.block b (by omega) (by rw [e6]; intro q; cases q; exact h3 rfl), hw9.block b h1 (Ne.symm h2)]
      have hA8 : ∀ b, b < w8.heap.size → blk B ≠ some b → blk A8 ≠ some b := fun b hb1 hb2 q1 => by
        rcases hgro.at_ with q2 | ⟨b', q2, q3⟩
        · exact hb2 (by rw [← q2, q1])
        · rw [q2] at q1; cases q1; omega
      have hB8 : ∀ b, blk B = some b → w5.heap.size ≤ b ∧ b < w6.heap.size := fun b hb1 => own_blk ho6 b hb1
      refine ⟨(j + 1, jk, A8, c8, css ++ [⟨va, vb, vc, vd, ve⟩]), by simp [Fits, lk], hI _ _ ⟨by simp only; omega, by simp only; omega, ⟨hx10, by omega, hq49⟩, hb10, ?_, ?_⟩, by simp only; omega⟩
      · simp only
        rw [List.flatMap_append]
        exact ho9.wr hw10 (own_low ho9 (by omega) e6).1
      · simp only
        have htk : kids.take (j + 1) = kids.take j ++ [t'] := by rw [List.take_add_one, ht']; rfl
        rw [htk]
        refine (L4Vs.keep (fun b hb1 => ?_) (fun b hb1 => ?_) _ _ hcs).snoc (L4V.keep (fun b hb1 => ?_) (fun b hb1 => ?_) _ _ hcv)
        · have hlt := db_lt (by omega) hb1.1
          rw [kpB b (by omega) hb1.2 (by rcases hb1.1 with q | q <;> omega), hx68.block b (by omega), hs6.ext.block b hlt]
        · have hlt := db_lt (by omega) hb1.1
          refine ⟨?_, hA8 b (by omega) hb1.2⟩
          rcases hb1.1 with q | q
          · exact .inl q
          · exact .inr ⟨q.1, by omega⟩
        · have hlt := db_lt (by omega) hb1
          have hn : blk B ≠ some b := fun q => by
            have := hB8 b q
            rcases hb1 with q | q <;> omega
          rw [kpB b (by omega) hn (by rcases hb1 with q | q <;> omega), hx8.block b hlt]
        · have hlt := db_lt (by omega) hb1
          have hn : blk B ≠ some b := fun q => by
            have := hB8 b q
            rcases hb1 with q | q <;> omega
          refine ⟨?_, hA8 b (by omega) hn⟩
          rcases hb1 with q | q
          · exact .inl q
          · exact .inr ⟨by omega, by omega⟩
    · have g4 : j = m1 := by
        have : ¬ jj < x5 := by simpa [hE.cmp, cmpR] using g4
        omega
      subst g4
      rw [List.take_of_length_le (by omega)] at hcs
      have hcl := hcs.len
      conv => cbv
      refine st_loadS hE tL4 rfl hb6.at ?_
      conv => cbv
      refine st_putS hr (by kernel_rfl) hq4 (add_zero _).symm (by simp [zL4]) (by simp [Value.oneCell']) fun w6 hw6 hq6 => ?_
      simp only [zL4, List.take_zero, List.nil_append, List.length_cons, List.length_nil, List.drop_succ_cons, List.drop_nil, List.append_nil] at hq6
      conv => cbv
      refine st_cell hr tL4 rfl hq6.at ?_
      have s6 := hw6.size
      have hx6 : Ext w w6 := hxw.then (hw6.bel hq4 (by omega))
      rw [hR]
      refine ⟨hx6, ⟨.int .i64 o, .int .i64 z, .string tx, .slice A0 m0 c0, .slice B j d⟩, rfl, ?_⟩
      have hD0 : ∀ b, b < w0.heap.size → DB w0.heap.size w.heap.size w6 b := fun b hb1 => .inl hb1
      have r_xs6 : Strs w6 A0 m0 c0 xs := (r_xs.ext hx0).ext hx6
      have hin : InD (DB w0.heap.size w.heap.size w6) A0 m0 := fun a ha hm => hD0 _ (strs_low r_xs (D := fun b => b < w0.heap.size) (fun b h => h) a ha hm)
      rw [et]
      unfold mkT
      simp only
      by_cases h0 : kidsF o = 0
      · have ho7 : 1 ≤ o ∧ o ≤ 7 := by unfold kidsF at h0; (repeat' split at h0) <;> omega
        have hj0 : j = 0 := by omega
        subst hj0
        rw [if_pos h0]
        unfold leafF
        simp only
        by_cases h5 : o = 5
        · rw [if_neg (by omega), if_neg (by omega), if_neg (by omega), if_pos h5] at hfp
          exact absurd hfp.1 (by simp)
        · rw [if_neg h5]
          by_cases h6 : o = 6
          · rw [if_pos h6]
            rw [if_neg (by omega), if_neg (by omega), if_neg (by omega), if_neg (by omega), if_neg (by omega), if_pos h6] at hfp
            obtain ⟨_, _, _, rfl, rfl⟩ := hfp
            simp at hxsl
            subst hxsl; subst h6
            simp only [L4V]
            exact ⟨_, _, _, _, rfl⟩
          · rw [if_neg h6]
            by_cases h7 : o = 7
            · rw [if_pos h7]
              rw [if_neg (by omega), if_neg (by omega), if_neg (by omega), if_neg (by omega), if_neg (by omega), if_neg (by omega), if_pos h7] at hfp
              obtain ⟨_, _, _, rfl, rfl⟩ := hfp
              simp at hxsl
              subst hxsl; subst h7
              simp only [L4V]
              exact ⟨_, _, _, _, rfl⟩
            · rw [if_neg h7]
              simp only [L4V]
              exact ⟨A0, m0, c0, B, d, by rw [knd_opK (by omega)], r_xs6, hin, s_tx⟩
      · rw [if_neg h0]
        have ho8 : ¬ (1 ≤ o ∧ o ≤ 7) := fun q => h0 (by unfold kidsF; rw [if_pos q])
        rw [if_neg (by omega), if_neg (by omega), if_neg (by omega), if_neg (by omega), if_neg (by omega), if_neg (by omega), if_neg (by omega)] at hfp
        obtain ⟨rfl, rfl, rfl⟩ := hfp
        simp at hxsl
        subst hxsl
        simp only [L4V]
        have hDj : ∀ b, DB w0.heap.size w5.heap.size w' b → w6.heap[b]? = w'.heap[b]? := fun b hb1 => by
          have hlt := db_lt (by omega) hb1
          exact hw6.block b hlt (by rw [e4]; intro q; cases q; rcases hb1 with q | q <;> omega)
        refine ⟨A0, c0, B, j, d, css, rfl, by omega, ho.cap, by omega, ?_, fun a ha hm => ?_, L4Vs.keep (fun b hb1 => hDj b hb1.1) (fun b hb1 => ?_) _ _ hcs⟩
        · exact (ho.wr hw6 (own_low ho (by omega) e4).1).cells
        · obtain rfl | ⟨g, rfl, k1, k2⟩ := ho.blk
          · cases ha
          · cases ha; exact .inr ⟨by simp only; omega, by simp only; omega⟩
        · rcases hb1.1 with q | q
          · exact .inl q
          · exact .inr ⟨by omega, by omega⟩
end Go.Proofs.YtmbonalhbibppaaDoor
/- Safe: the program's and the reference's walks over trees; the program's treesOf. -/
namespace Go.Proofs.YtmbonalhbibppaaDoor
open Go.Eng
set_option linter.unusedVariables false
set_option linter.unusedSimpArgs false
theorem taCoOp (k n at_ : Int) (tx : ByteArray) (A : Option Addr) (m c : Nat) (w : World) : (Instr.typeAssert (.iface 276 (.agg ⟨[.int .i64 k, .int .i64 n, .string tx, .slice A m c, .int .i64 at_]⟩)) 128 191 true).run Tryd.prog w = .ok (.tuple ⟨[.agg ⟨[.int .i64 0, .slice none 0 0, .int .i64 0]⟩, .bool false]⟩) w := by kernel_rfl
theorem taNaOp (tx : ByteArray) (at_ : Int) (w : World) : (Instr.typeAssert (.iface 274 (.agg ⟨[.string tx, .int .i64 at_]⟩)) 128 191 true).run Tryd.prog w = .ok (.tuple ⟨[.agg ⟨[.int .i64 0, .slice none 0 0, .int .i64 0]⟩, .bool false]⟩) w := by kernel_rfl
theorem taAtOp (n : Int) (w : World) : (Instr.typeAssert (.iface 251 (.agg ⟨[.int .i64 n]⟩)) 128 191 true).run Tryd.prog w = .ok (.tuple ⟨[.agg ⟨[.int .i64 0, .slice none 0 0, .int .i64 0]⟩, .bool false]⟩) w := by kernel_rfl
theorem taLtOp (n : Int) (w : World) : (Instr.typeAssert (.iface 255 (.agg ⟨[.int .i64 n]⟩)) 128 191 true).run Tryd.prog w = .ok (.tuple ⟨[.agg ⟨[.int .i64 0, .slice none 0 0, .int .i64 0]⟩, .bool false]⟩) w := by kernel_rfl
/-- What asserting an operator's tree gives: its cells, and whether it is one. -/
theorem ta_op {D : Nat → Prop} {w : World} {t : Tr} {v : Value} (h : TreeV D w t v) : (∃ o kids at_ A m c vs, t = .op o kids at_ ∧ v = .iface 191 (.agg ⟨[.int .i64 o, .slice A m c, .int .i64 at_]⟩) ∧ vs.length = m ∧ m ≤ c ∧ m ≤ 9223372036854775807 ∧ Cells w A vs ∧ InD D A m ∧ TreesV D w kids vs) ∨
    ((∀ o kids at_, t ≠ .op o kids at_) ∧ ∀ w, (Instr.typeAssert v 128 191 true).run Tryd.prog w = .ok (.tuple ⟨[.agg ⟨[.int .i64 0, .slice none 0 0, .int .i64 0]⟩, .bool false]⟩) w) := by
  cases t with
  | con k n tx xs at_ =>
    simp only [TreeV] at h
    obtain ⟨A, m, c, rfl, _⟩ := h
    exact .inr ⟨by simp, taCoOp k n at_ tx A m c⟩
  | nam tx at_ =>
    simp only [TreeV] at h
    obtain ⟨rfl, _⟩ := h
    exact .inr ⟨by simp, taNaOp tx at_⟩
  | att n =>
    simp only [TreeV] at h
    subst h
    exact .inr ⟨by simp, taAtOp n⟩
  | lt n =>
    simp only [TreeV] at h
    subst h
    exact .inr ⟨by simp, taLtOp n⟩
  | op o kids at_ =>
    simp only [TreeV] at h
    obtain ⟨A, m, c, vs, rfl, h1, h2, h3, h4, h5, h6⟩ := h
    exact .inl ⟨o, kids, at_, A, m, c, vs, rfl, rfl, h1, h2, h3, h4, h5, h6⟩
/-- Operators that may go wrong. -/
def riskO (o : Int) : Prop := o = 8 ∨ (11 ≤ o ∧ o ≤ 16)
instance (o : Int) : Decidable (riskO o) := inferInstanceAs (Decidable (o = 8 ∨ (11 ≤ o ∧ o ≤ 16)))
mutual
def safeT : Tr → Bool
  | .op o kids _ => if riskO o then false else safeTs kids
  | _ => true
def safeTs : List Tr → Bool
  | [] => true
  | t :: l => safeT t && safeTs l
end
theorem safeTs_drop {l : List Tr} {j : Nat} {t : Tr} (h : l[j]? = some t) : safeTs (l.drop j) = (safeT t && safeTs (l.drop (j + 1))) := by rw [drop_cons h, safeTs]
theorem safeT_leaf {t : Tr} (h : ∀ o kids at_, t ≠ .op o kids at_) : safeT t = true := by
  cases t with
  | op o kids at_ => exact absurd rfl (h o kids at_)
  | _ => rfl
set_option maxHeartbeats 4000000 in
theorem safe_f : ∀ (n : Nat) (t : Tr) (v : Value) (w : World) (D : Nat → Prop), dep t ≤ n → TreeV D w t v → (∀ b, D b → b < w.heap.size) →
    FC Tryd.prog 64 [v] w fun r _ => r = .bool (safeT t) := by
  intro n
  induction n with
  | zero => intro t v w D h; cases t <;> simp [dep] at h
  | succ n ih =>
    intro t v w D hn ht hD
    refine FC.intro (cs := []) Tryd.func64 (by kernel_rfl) fun E R hE hr hR => ?_
    obtain ⟨B, hB⟩ : ∃ B, B = safeT t := ⟨_, rfl⟩
    rw [← hB] at hR
    rcases ta_op ht with ⟨o, kids, at_, A, m, c, vs, rfl, rfl, hvl, hmc, hm, hcl, hin, hts⟩ | ⟨hno, hta⟩
    · simp only [dep] at hn
      have hkl := hts.len
      conv => cbv
      refine st_ta hE (taOpOp o at_ A m c) ?_
      conv => cbv
      refine st_alloc hr tOpT rfl fun q3 w1 hx1 hq0 => ?_
      conv => cbv
      refine st_putS hr (by kernel_rfl) (hq0 _ (Nat.le_refl _)) (add_zero _).symm (by simp) (by simp [Value.oneCell']) fun w2 hw2 hq3 => ?_
      simp only [List.take_zero, List.nil_append, List.length_cons, List.length_nil, List.drop_succ_cons, List.drop_nil, List.append_nil] at hq3
      have hx := hx1.then (hw2.bel (hq0 _ (Nat.le_refl _)) hx1.size)
      clear hq0 hw2 hx1
      conv => cbv
      (refine st_fld hE fOp0 fun p hp => ?_; (conv => cbv); refine st_load hE cInt (by rw [hp]; exact (hq3).at _ _ rfl) ?_; clear hp; (conv => cbv))
      have bad : riskO o → ∀ w', Ext w w' → R (.bool false) w' := fun q w' hx => by
        rw [hR, hB, safeT, if_pos q]; exact ⟨hx, rfl⟩
      refine br (fun g => ?_) (fun g1 => ?_)
      · conv => cbv
        refine br (fun _ => ?_) (fun h => absurd g h)
        conv => cbv
        exact bad (.inl (by simpa [hE.cmp, cmpR] using g)) _ hx
      conv => cbv
      refine br (fun g => ?_) (fun g2 => ?_)
      · conv => cbv
        refine br (fun _ => ?_) (fun h => absurd g h)
        conv => cbv
        exact bad (by have : o = 11 := by simpa [hE.cmp, cmpR] using g
                      unfold riskO; omega) _ hx
      conv => cbv
      refine br (fun g => ?_) (fun g3 => ?_)
      · conv => cbv
        refine br (fun _ => ?_) (fun h => absurd g h)
        conv => cbv
        exact bad (by have : o = 12 := by simpa [hE.cmp, cmpR] using g
                      unfold riskO; omega) _ hx
      conv => cbv
      refine br (fun g => ?_) (fun g4 => ?_)
      · conv => cbv
        refine br (fun _ => ?_) (fun h => absurd g h)
        conv => cbv
        exact bad (by have : o = 13 := by simpa [hE.cmp, cmpR] using g
                      unfold riskO; omega) _ hx
      conv => cbv
      refine br (fun g => ?_) (fun g5 => ?_)
      · conv => cbv
        refine br (fun _ => ?_) (fun h => absurd g h)
        conv => cbv
        exact bad (by have : o = 14 := by simpa [hE.cmp, cmpR] using g
                      unfold riskO; omega) _ hx
      conv => cbv
      refine br (fun g => ?_) (fun g6 => ?_)
      · conv => cbv
        refine br (fun _ => ?_) (fun h => absurd g h)
        conv => cbv
        exact bad (by have : o = 15 := by simpa [hE.cmp, cmpR] using g
                      unfold riskO; omega) _ hx
      conv => cbv
      refine br (fun g => ?_) (fun g7 => ?_)
      · conv => cbv
        exact bad (by have : o = 16 := by simpa [hE.cmp, cmpR] using g
                      unfold riskO; omega) _ hx
      have hs : ¬ riskO o := by
        have g1 : o ≠ 8 := by simpa [hE.cmp, cmpR] using g1
        have g2 : o ≠ 11 := by simpa [hE.cmp, cmpR] using g2
        have g3 : o ≠ 12 := by simpa [hE.cmp, cmpR] using g3
        have g4 : o ≠ 13 := by simpa [hE.cmp, cmpR] using g4
        have g5 : o ≠ 14 := by simpa [hE.cmp, cmpR] using g5
        have g6 : o ≠ 15 := by simpa [hE.cmp, cmpR] using g6
        have g7 : o ≠ 16 := by simpa [hE.cmp, cmpR] using g7
        unfold riskO; omega
      clear g1 g2 g3 g4 g5 g6 g7 bad
      have hB2 : B = safeTs kids := by rw [hB, safeT, if_neg hs]
      conv => cbv
      (refine st_fld hE fOp1 fun p hp => ?_; (conv => cbv); refine st_load hE cTrs (by rw [hp]; exact (hq3).at _ _ rfl) ?_; clear hp; (conv => cbv))
      refine st_len hE sTrs fun x hx' => ?_
      conv => cbv
      refine loop_rule hr (fun (s : Nat × Int) w' => s.1 ≤ m ∧ s.2 = (s.1 : Int) ∧ Ext w w' ∧ safeTs (kids.drop s.1) = B) (fun s => [(25, .slice A m c), (26, .int .i64 x), (27, .int .i64 s.2)]) (fun s => m - s.1) (0, 0)
        (by simp [Fits, lk]) ⟨by simp, by simp, hx, by simpa using hB2.symm⟩ ?_
      clear hx hq3
      rintro I hI ⟨j, jj⟩ w' ⟨hj, hjj, hx, hd⟩
      simp only at hj hjj hd
      obtain ⟨jk, hjk⟩ : ∃ z, z = jj + 1 := ⟨_, rfl⟩
      conv => cbv
      refine br (fun g => ?_) (fun g => ?_)
      · have g : j < m := by
          have : jj < x := by simpa [hE.cmp, cmpR] using g
          omega
        have ej : E.ar .add .i64 jj 1 = jk := by rw [hE.ar, hjk]; exact wrap_in (by omega) (by omega)
        obtain ⟨u, hu⟩ : ∃ u, vs[j]? = some u := ⟨_, List.getElem?_eq_getElem (by omega)⟩
        obtain ⟨t', ht'⟩ : ∃ t', kids[j]? = some t' := ⟨_, List.getElem?_eq_getElem (by omega)⟩
        have htu := (hts.get j t' u ht' hu).ext hD hx
        have hdt := deps_mem (List.mem_of_getElem? ht')
        conv => cbv
        refine st_elem hE sTrs (hcl.ext hx) hvl.symm (by omega) (by omega) fun p v hv hp => ?_
        rw [show jj.toNat = j by omega, hu] at hv
        cases hv
        conv => cbv
        refine st_load hE cTr hp ?_
        have hrec := ih t' u w' D (by omega) htu (fun b hb => Nat.lt_of_lt_of_le (hD b hb) hx.size)
        rw [safeTs_drop ht'] at hd
        obtain ⟨sb, hsb⟩ : ∃ sb, sb = safeT t' := ⟨_, rfl⟩
        rw [← hsb] at hrec hd
        conv => cbv
        refine st_f hr hrec fun r w2 hx2 ev => ?_
        subst ev
        cases sb with
        | false =>
          conv => cbv
          rw [hR]; exact ⟨hx.trans hx2, by rw [← hd]; rfl⟩
        | true =>
          conv => cbv
          simp only [ej]
          exact ⟨(j + 1, jk), by simp [Fits, lk], hI _ _ ⟨by simp only; omega, by simp only; omega, hx.trans hx2, by simpa using hd⟩, by simp only; omega⟩
      · have g : j = m := by
          have : ¬ jj < x := by simpa [hE.cmp, cmpR] using g
          omega
        rw [List.drop_eq_nil_of_le (by omega)] at hd
        conv => cbv
        rw [hR]; exact ⟨hx, by rw [← hd]; rfl⟩
    · conv => cbv
      refine st_ta hE hta ?_
      conv => cbv
      refine st_alloc hr tOpT rfl fun q3 w1 hx1 hq0 => ?_
      conv => cbv
      refine st_putS hr (by kernel_rfl) (hq0 _ (Nat.le_refl _)) (add_zero _).symm (by simp) (by simp [Value.oneCell']) fun w2 hw2 hq3 => ?_
      have hx := hx1.then (hw2.bel (hq0 _ (Nat.le_refl _)) hx1.size)
      conv => cbv
      rw [hR]; exact ⟨hx, by rw [hB, safeT_leaf hno]; rfl⟩
/-! ### The reference's safe -/
/-- The cells of a reference's tree. -/
theorem L4V.view {D : Nat → Prop} {w : World} {t : Tr} {v : C5} (h : L4V D w t v) : ∃ (o z : Int) (tx : ByteArray) (A : Option Addr) (m c : Nat) (B : Option Addr) (k d : Nat) (kids : List Tr) (vs : List C5), v = ⟨.int .i64 o, .int .i64 z, .string tx, .slice A m c, .slice B k d⟩ ∧ vs.length = k ∧ k ≤ 3 ∧ Cells w B (vs.flatMap c5) ∧ InD D B k ∧ L4Vs D w kids vs ∧ ((∃ at_, t = .op o kids at_) ∨ (kids = [] ∧ k = 0 ∧ 1 ≤ o ∧ o ≤ 7 ∧ ∀ o' kids' at_, t ≠ .op o' kids' at_)) := by
  have nil : ∀ {B : Option Addr}, Cells w B (([] : List C5).flatMap c5) ∧ InD D B 0 ∧ L4Vs D w [] [] := fun {B} => ⟨⟨by simp, by simp⟩, (fun a ha hm => by omega), by simp only [L4Vs]⟩
  cases t <;> simp only [L4V] at h
  · obtain ⟨A, m, c, B, d, rfl, _⟩ := h
    exact ⟨_, _, _, A, m, c, B, 0, d, [], [], rfl, rfl, by omega, (nil (B := B)).1, (nil (B := B)).2.1, (nil (B := B)).2.2, .inr ⟨rfl, rfl, by unfold opK; (repeat' split) <;> omega, by unfold opK; (repeat' split) <;> omega, by simp⟩⟩
  · obtain ⟨A, c, B, d, rfl⟩ := h
    exact ⟨_, _, _, A, 0, c, B, 0, d, [], [], rfl, rfl, by omega, (nil (B := B)).1, (nil (B := B)).2.1, (nil (B := B)).2.2, .inr ⟨rfl, rfl, by omega, by omega, by simp⟩⟩
  · obtain ⟨A, c, B, d, rfl⟩ := h
    exact ⟨_, _, _, A, 0, c, B, 0, d, [], [], rfl, rfl, by omega, (nil (B := B)).1, (nil (B := B)).2.1, (nil (B := B)).2.2, .inr ⟨rfl, rfl, by omega, by omega, by simp⟩⟩
  · rename_i o kids at_
    obtain ⟨A, c, B, m, d, vs, rfl, h1, h2, h3, h4, h5, h6⟩ := h
    exact ⟨o, 0, _, A, 0, c, B, m, d, kids, vs, rfl, h1, h3, h4, h5, h6, .inl ⟨at_, rfl⟩⟩
set_option maxHeartbeats 4000000 in
theorem safeL_f : ∀ (n : Nat) (t : Tr) (cv : C5) (w : World) (D : Nat → Prop), dep t ≤ n → L4V D w t cv → (∀ b, D b → b < w.heap.size) →
    FC Tryd.prog 63 [.agg ⟨c5 cv⟩] w fun r _ => r = .bool (safeT t) := by
  intro n
  induction n with
  | zero => intro t v w D h; cases t <;> simp [dep] at h
  | succ n ih =>
    intro t cv w D hn ht hD
    refine FC.intro (cs := [3]) Tryd.func63 (by kernel_rfl) fun E R hE hr hR => ?_
    obtain ⟨B, hB⟩ : ∃ B, B = safeT t := ⟨_, rfl⟩
    rw [← hB] at hR
    obtain ⟨o, z, tx, A, m, c, BK, k, d, kids, vs, rfl, hvl, hk3, hcl, hin, hts, hor⟩ := ht.view
    have hkl := hts.len
    have hkd : ∀ t' ∈ kids, dep t' ≤ n := fun t' ht' => by
      rcases hor with ⟨at_, rfl⟩ | ⟨e, _⟩
      · simp only [dep] at hn; have := deps_mem ht'; omega
      · rw [e] at ht'; cases ht'
    have bad : riskO o → ∀ w', Ext w w' → R (.bool false) w' := fun q w' hx => by
      rw [hR, hB]
      rcases hor with ⟨at_, rfl⟩ | ⟨_, _, h1, h2, _⟩
      · rw [safeT, if_pos q]; exact ⟨hx, rfl⟩
      · unfold riskO at q; omega
    have good : ¬ riskO o → B = safeTs kids := fun q => by
      rw [hB]
      rcases hor with ⟨at_, rfl⟩ | ⟨e, _, h1, h2, h3⟩
      · rw [safeT, if_neg q]
      · rw [safeT_leaf h3, e, safeTs]
    conv => cbv
    refine st_box hr fun a w1 hx hb0 => ?_
    have hb := hb0 _ (Nat.le_refl _)
    clear hb0
    conv => cbv
    refine cut_rule [] [] hr (fun (_ : Unit) w' => ¬ riskO o ∧ Ext w w' ∧ Box w.heap.size 123 5 w' a [.int .i64 o, .int .i64 z, .string tx, .slice A m c, .slice BK k d]) (fun _ => [(1, .pointer (some a))]) (fun J hJ => ?_) ?_
    · conv => cbv
      (refine st_fld hE fL40 fun p hp => ?_; (conv => cbv); refine st_load hE cInt (by rw [hp]; exact (hb).at _ _ rfl) ?_; clear hp; (conv => cbv))
      refine br (fun g => ?_) (fun g1 => ?_)
      · conv => cbv
        exact bad (.inl (by simpa [hE.cmp, cmpR] using g)) _ hx
      have g1 : o ≠ 8 := by simpa [hE.cmp, cmpR] using g1
      conv => cbv
      (refine st_fld hE fL40 fun p hp => ?_; (conv => cbv); refine st_load hE cInt (by rw [hp]; exact (hb).at _ _ rfl) ?_; clear hp; (conv => cbv))
      refine br (fun g2 => ?_) (fun g2 => ?_)
      · have g2 : 11 ≤ o := by simpa [hE.cmp, cmpR] using g2
        conv => cbv
        (refine st_fld hE fL40 fun p hp => ?_; (conv => cbv); refine st_load hE cInt (by rw [hp]; exact (hb).at _ _ rfl) ?_; clear hp; (conv => cbv))
        refine br (fun g3 => ?_) (fun g3 => ?_)
        · have g3 : o ≤ 16 := by simpa [hE.cmp, cmpR] using g3
          conv => cbv
          exact bad (.inr ⟨g2, g3⟩) _ hx
        · have g3 : ¬ o ≤ 16 := by simpa [hE.cmp, cmpR] using g3
          conv => cbv
          exact ⟨(), by simp [Fits, lk], hJ _ _ ⟨by unfold riskO; omega, hx, hb⟩⟩
      · have g2 : ¬ 11 ≤ o := by simpa [hE.cmp, cmpR] using g2
        conv => cbv
        exact ⟨(), by simp [Fits, lk], hJ _ _ ⟨by unfold riskO; omega, hx, hb⟩⟩
    clear hx hb
    rintro ⟨⟩ w2 ⟨hs, hx, hb⟩
    have hB2 := good hs
    conv => cbv
    (refine st_fld hE fL44 fun p hp => ?_; (conv => cbv); refine st_load hE cL4s (by rw [hp]; exact (hb).at _ _ rfl) ?_; clear hp; (conv => cbv))
    refine st_len hE sL4 fun x hx' => ?_
    conv => cbv
    refine loop_rule hr (fun (s : Nat × Int) w' => s.1 ≤ k ∧ s.2 = (s.1 : Int) ∧ Ext w w' ∧ safeTs (kids.drop s.1) = B) (fun s => [(19, .slice BK k d), (20, .int .i64 x), (21, .int .i64 s.2)]) (fun s => k - s.1) (0, 0)
      (by simp [Fits, lk]) ⟨by simp, by simp, hx, by simpa using hB2.symm⟩ ?_
    clear hx hb
    rintro I hI ⟨j, jj⟩ w' ⟨hj, hjj, hx, hd⟩
    simp only at hj hjj hd
    obtain ⟨jk, hjk⟩ : ∃ z, z = jj + 1 := ⟨_, rfl⟩
    conv => cbv
    refine br (fun g => ?_) (fun g => ?_)
    · have g : j < k := by
        have : jj < x := by simpa [hE.cmp, cmpR] using g
        omega
      have ej : E.ar .add .i64 jj 1 = jk := by rw [hE.ar, hjk]; exact wrap_in (by omega) (by omega)
      obtain ⟨u, hu⟩ : ∃ u, vs[j]? = some u := ⟨_, List.getElem?_eq_getElem (by omega)⟩
      obtain ⟨t', ht'⟩ : ∃ t', kids[j]? = some t' := ⟨_, List.getElem?_eq_getElem (by omega)⟩
      have htu := (hts.get j t' u ht' hu).ext hD hx
      obtain ⟨aK, hBK, hcell⟩ := fl_at c5_len (hcl.ext hx) (by omega) hu
      have hone := htu.one
      obtain ⟨ua, ub, uc, ud, ue⟩ := u
      conv => cbv
      refine st_idx hE sL4 hBK (by omega) (by omega) fun p hp => ?_
      rw [show jj.toNat = j by omega] at hp
      conv => cbv
      refine st_loadS hE tL4 (vs := [ua, ub, uc, ud, ue]) rfl (by rw [hp]; exact hcell) ?_
      conv => cbv
      refine st_alloc hr tL4 rfl fun q4 w3 hx3 hq0 => ?_
      conv => cbv
      refine st_putS hr (by kernel_rfl) (hq0 _ (Nat.le_refl _)) (add_zero _).symm (by simp [zL4]) (by simpa [c5] using hone) fun w4 hw4 hq4 => ?_
      simp only [zL4, List.take_zero, List.nil_append, List.length_cons, List.length_nil, List.drop_succ_cons, List.drop_nil, List.append_nil] at hq4
      have hx34 := hx3.then (hw4.bel (hq0 _ (Nat.le_refl _)) hx3.size)
      have hx4 := hx.trans hx34
      conv => cbv
      refine st_loadS hE tL4 rfl hq4.at ?_
      have hD' : ∀ b, D b → b < w'.heap.size := fun b hb => Nat.lt_of_lt_of_le (hD b hb) hx.size
      have hrec := ih t' ⟨ua, ub, uc, ud, ue⟩ w4 D (hkd t' (List.mem_of_getElem? ht')) (htu.ext hD' hx34) (fun b hb => Nat.lt_of_lt_of_le (hD b hb) hx4.size)
      rw [safeTs_drop ht'] at hd
      obtain ⟨sb, hsb⟩ : ∃ sb, sb = safeT t' := ⟨_, rfl⟩
      rw [← hsb] at hrec hd
      conv => cbv
      refine st_f hr hrec fun r w5 hx5 ev => ?_
      subst ev
      cases sb with
      | false =>
        conv => cbv
        rw [hR]; exact ⟨hx4.trans hx5, by rw [← hd]; rfl⟩
      | true =>
        conv => cbv
        simp only [ej]
        exact ⟨(j + 1, jk), by simp [Fits, lk], hI _ _ ⟨by simp only; omega, by simp only; omega, hx4.trans hx5, by simpa using hd⟩, by simp only; omega⟩
    · have g : j = k := by
        have : ¬ jj < x := by simpa [hE.cmp, cmpR] using g
        omega
      rw [List.drop_eq_nil_of_le (by omega)] at hd
      conv => cbv
      rw [hR]; exact ⟨hx, by rw [← hd]; rfl⟩
end Go.Proofs.YtmbonalhbibppaaDoor
/- The program's treesOf walked: the trees of all nodes, in their order. -/
namespace Go.Proofs.YtmbonalhbibppaaDoor
open Go.Eng
set_option linter.unusedVariables false
set_option linter.unusedSimpArgs false
section
variable {P : Program} {E : Sym} {w : World} {K : Value → World → Prop} {d : Option Tmp} {ty : TypeId} {pos : String} {aft : Array Edge} {g : Option (Nat × Bool)}
theorem st_eqNil {bq : Bool} (hE : EngB bq P E) {t t' : TypeId} {ms : Array (String × TypeId)} (ht : P.underlying t = some (.interface ms)) {x : Operand} {c : Value} (hk : K (.bool true) w) : E.stop ⟨d, .binOp .eql t x (.const c) t', ty, pos, aft, g⟩ [.nilIface, .nilIface] w K := by
  refine hE.det (v := .bool true) (fun w1 _ ρ hρ => ?_) hk
  simp only [opnds, List.map_cons, List.map_nil, List.cons.injEq, and_true] at hρ
  have h1 : (Op.equal t .nilIface .nilIface).run P w1 = .ok true w1 := run_nil_ne ht w1 9999
  simp only [execOp, hρ.1, hρ.2, eqGuard, binOp, Sem.run_bind]
  simp [h1]
theorem st_eqSome {bq : Bool} (hE : EngB bq P E) {t t' u : TypeId} {v : Value} {ms : Array (String × TypeId)} (ht : P.underlying t = some (.interface ms)) {x : Operand} {c : Value} (hk : K (.bool false) w) : E.stop ⟨d, .binOp .eql t x (.const c) t', ty, pos, aft, g⟩ [.iface u v, .nilIface] w K := by
  refine hE.det (v := .bool false) (fun w1 _ ρ hρ => ?_) hk
  simp only [opnds, List.map_cons, List.map_nil, List.cons.injEq, and_true] at hρ
  have h1 : (Op.equal t (.iface u v) .nilIface).run P w1 = .ok false w1 := run_some_ne ht w1 9999
  simp only [execOp, hρ.1, hρ.2, eqGuard, binOp, Sem.run_bind]
  simp [h1]
end
theorem cFt : Cel Tryd.prog 193 := ⟨_, Tryd.underlying193, by simp, by simp⟩
theorem zFt : (Tryd.prog.info? 193).map (·.size) = some 1 := by kernel_rfl
def kidsT : Tr → List Tr
  | .op _ kids _ => kids
  | _ => []
theorem po_kids (t : Tr) : po t = pos (kidsT t) ++ [t] := by cases t <;> simp [po, kidsT, pos]
theorem pos_take {l : List Tr} {j : Nat} {t : Tr} (h : l[j]? = some t) : pos (l.take (j + 1)) = pos (l.take j) ++ po t := by
  rw [List.take_add_one, h, pos_append]; simp [pos]
theorem pos_take_le (l : List Tr) (j : Nat) : (pos (l.take j)).length ≤ (pos l).length := by
  have : pos l = pos (l.take j) ++ pos (l.drop j) := by rw [← pos_append, List.take_append_drop]
  rw [this, List.length_append]; omega
theorem TreesV.append {D : Nat → Prop} {w : World} : ∀ {ts us : List Tr} {vs xs : List Value}, TreesV D w ts vs → TreesV D w us xs → TreesV D w (ts ++ us) (vs ++ xs)
  | [], us, [], xs, _, h => h
  | t :: ts, us, v :: vs, xs, h, h2 => by simp only [List.cons_append, TreesV] at h ⊢; exact ⟨h.1, TreesV.append h.2 h2⟩
  | [], _, _ :: _, _, h, _ => by simp only [TreesV] at h
  | _ :: _, _, [], _, h, _ => by simp only [TreesV] at h
abbrev wkV (q3 q4 : Addr) : Value := .func (.func 112) #[] #[.pointer (some q4), .pointer (some q3)]
/-- What treesOf holds: its list, its walk. -/
structure TOB (w0s : Nat) (q3 q4 : Addr) : Prop where
  h3 : w0s ≤ q3.block
  h4 : w0s ≤ q4.block
  e3 : blk (some q3) = some q3.block
  e4 : blk (some q4) = some q4.block
  ne : q3.block ≠ q4.block
structure TO (w0s : Nat) (w : World) (q3 q4 : Addr) (B : Option Addr) (n d : Nat) (vs : List Value) : Prop where
  box : Box w0s 129 1 w q3 [.slice B n d]
  fn : Box w0s 193 1 w q4 [wkV q3 q4]
  row : Own w0s 128 1 w B n d vs
  a3 : Apart B (some q3) ∧ Apart (some q3) B
  a4 : Apart B (some q4) ∧ Apart (some q4) B
  le : w0s ≤ w.heap.size
section
variable {w0s : Nat} {w w' : World} {q3 q4 : Addr} {B : Option Addr} {n d : Nat} {vs : List Value}
theorem TO.ext (h : TO w0s w q3 q4 B n d vs) (hx : Ext w w') : TO w0s w' q3 q4 B n d vs := ⟨h.box.bel hx, h.fn.bel hx, h.row.bel hx, h.a3, h.a4, Nat.le_trans h.le hx.size⟩
/-- One more tree. -/
theorem TO.put (hb : TOB w0s q3 q4) (h : TO w0s w q3 q4 B n d vs) {w2 w3 : World} {B' : Option Addr} {d' : Nat} {v : Value} (hg : Gro w B w2 B') (ho : Own w0s 128 1 w2 B' (n + 1) d' (vs ++ [v])) (hw3 : Wr (some q3) w2 w3) (hb3 : Box w0s 129 1 w3 q3 [.slice B' (n + 1) d']) : TO w0s w3 q3 q4 B' (n + 1) d' (vs ++ [v]) := by
  have k3 := gro_apart (B := 0) (m := 0) (c := 0) (xs := []) h.box h.a3 hg ho
  have k4 := gro_apart (B := 0) (m := 0) (c := 0) (xs := []) h.fn h.a4 hg ho
  exact ⟨hb3, (h.fn.wr hg.wr h.a4.2).wr hw3 (bx_apart hb.e4 hb.e3 hb.ne.symm), ho.wr hw3 k3.1, k3, k4, Nat.le_trans h.le (Nat.le_trans hg.wr.size hw3.size)⟩
end
/-- What asserting an operator's tree gives, in one. -/
theorem ta_opU {D : Nat → Prop} {w : World} {t : Tr} {v : Value} (h : TreeV D w t v) : ∃ (o at_ : Int) (A : Option Addr) (m c : Nat) (kids : List Tr) (vs : List Value) (ok : Bool), (∀ w, (Instr.typeAssert v 128 191 true).run Tryd.prog w = .ok (.tuple ⟨[.agg ⟨[.int .i64 o, .slice A m c, .int .i64 at_]⟩, .bool ok]⟩) w) ∧
    (ok = true → t = .op o kids at_ ∧ vs.length = m ∧ m ≤ c ∧ m ≤ 9223372036854775807 ∧ Cells w A vs ∧ InD D A m ∧ TreesV D w kids vs) ∧ (ok = false → ∀ o kids at_, t ≠ .op o kids at_) := by
  rcases ta_op h with ⟨o, kids, at_, A, m, c, vs, rfl, rfl, hvl, hmc, hm, hcl, hin, hts⟩ | ⟨hno, hta⟩
  · exact ⟨o, at_, A, m, c, kids, vs, true, taOpOp o at_ A m c, fun _ => ⟨rfl, hvl, hmc, hm, hcl, hin, hts⟩, fun q => by cases q⟩
  · exact ⟨0, 0, none, 0, 0, [], [], false, hta, (fun q => by cases q), fun _ => hno⟩
set_option maxHeartbeats 8000000 in
theorem walkT_g {w0 : World} {q3 q4 : Addr} (hb : TOB w0.heap.size q3 q4) : ∀ (n : Nat) (t : Tr) (v : Value), dep t ≤ n → TreeV (fun b => b < w0.heap.size) w0 t v → ∀ (w : World) (B : Option Addr) (m d : Nat) (vs : List Value), Ext w0 w → TO w0.heap.size w q3 q4 B m d vs → m + (po t).length ≤ 4000 →
    GC Tryd.prog 112 [v, .pointer (some q4), .pointer (some q3)] w fun r w' => ∃ B' d' vs', Gr2 w q3 B w' B' ∧ Ext w0 w' ∧ TO w0.heap.size w' q3 q4 B' (m + (po t).length) d' (vs ++ vs') ∧ TreesV (fun b => b < w0.heap.size) w0 (po t) vs' := by
  intro n
  induction n with
  | zero => intro t v h; cases t <;> simp [dep] at h
  | succ n ih =>
    intro t v hn ht w B m d vs h0 hO hcnt
    refine GC.intro (cs := [8]) Tryd.func112 (by kernel_rfl) fun E R hE hr hR => ?_
    have hone := (TreeV.one ht).1
    have hpk : (po t).length = (pos (kidsT t)).length + 1 := by rw [po_kids]; simp
    have hD : ∀ {w' : World}, Ext w0 w' → ∀ b, (fun b => b < w0.heap.size) b → b < w'.heap.size := fun hx b hb1 => Nat.lt_of_lt_of_le hb1 hx.size
    obtain ⟨o, at_, A, mk, c, kids, xs, ok, hta, hop, hno⟩ := ta_opU ht
    obtain ⟨ty1, u1, ev1⟩ := TreeV.form ht
    subst ev1
    conv => cbv
    refine st_eqSome hE Tryd.underlying128 ?_
    conv => cbv
    refine cut_rule [] [] hr (fun (s : Option Addr × Nat × Nat × List Value) w' => Gr2 w q3 B w' s.1 ∧ Ext w0 w' ∧ TO w0.heap.size w' q3 q4 s.1 s.2.1 s.2.2.1 (vs ++ s.2.2.2) ∧ s.2.1 = m + (pos (kidsT t)).length ∧ TreesV (fun b => b < w0.heap.size) w0 (pos (kidsT t)) s.2.2.2)
      (fun s => [(0, .iface ty1 u1), (1, .pointer (some q4)), (2, .pointer (some q3))]) (fun J hJ => ?_) ?_
    · refine st_ta hE hta ?_
      conv => cbv
      refine st_alloc hr tOpT rfl fun q5 w1 hx1 hq0 => ?_
      conv => cbv
      refine st_putS hr (by kernel_rfl) (hq0 _ (Nat.le_refl _)) (add_zero _).symm (by simp) (by simp [Value.oneCell']) fun w2 hw2 hq5 => ?_
      simp only [List.take_zero, List.nil_append, List.length_cons, List.length_nil, List.drop_succ_cons, List.drop_nil, List.append_nil] at hq5
      have hx := hx1.then (hw2.bel (hq0 _ (Nat.le_refl _)) hx1.size)
      clear hq0 hw2 hx1
      cases ok with
      | true =>
        obtain ⟨rfl, hvl, hmc, hm, hcl, hin, hts⟩ := hop rfl
        simp only [dep] at hn
        have hkl := hts.len
        simp only [kidsT] at hpk hJ
        conv => cbv
        (refine st_fld hE fOp1 fun p hp => ?_; (conv => cbv); refine st_load hE cTrs (by rw [hp]; exact (hq5).at _ _ rfl) ?_; clear hp; (conv => cbv))
        refine st_len hE sTrs fun x hx' => ?_
        conv => cbv
        refine loop_rule hr (fun (s : Nat × Int × Option Addr × Nat × Nat × List Value) w' => s.1 ≤ mk ∧ s.2.1 = (s.1 : Int) ∧ Gr2 w q3 B w' s.2.2.1 ∧ Ext w0 w' ∧ TO w0.heap.size w' q3 q4 s.2.2.1 s.2.2.2.1 s.2.2.2.2.1 (vs ++ s.2.2.2.2.2) ∧ s.2.2.2.1 = m + (pos (kids.take s.1)).length ∧ TreesV (fun b => b < w0.heap.size) w0 (pos (kids.take s.1)) s.2.2.2.2.2)
          (fun s => [(0, .iface ty1 u1), (1, .pointer (some q4)), (2, .pointer (some q3)), (17, .slice A mk c), (18, .int .i64 x), (19, .int .i64 s.2.1)]) (fun s => mk - s.1) (0, 0, B, m, d, [])
          (by simp [Fits, lk]) ⟨by simp, by simp, ext_gr2 hx _ _, h0.trans hx, by simpa using hO.ext hx, by simp [pos], by simp [pos, TreesV]⟩ ?_
        clear hx hq5 hO
        rintro I hI ⟨j, jj, B1, m1, d1, vs1⟩ w' ⟨hj, hjj, hgr, hx, hO, hm1, hts1⟩
        simp only at hj hjj hgr hO hm1 hts1
        obtain ⟨jk, hjk⟩ : ∃ z, z = jj + 1 := ⟨_, rfl⟩
        conv => cbv
        refine br (fun g => ?_) (fun g => ?_)
        · have g : j < mk := by
            have : jj < x := by simpa [hE.cmp, cmpR] using g
            omega
          have ej : E.ar .add .i64 jj 1 = jk := by rw [hE.ar, hjk]; exact wrap_in (by omega) (by omega)
          obtain ⟨u, hu⟩ : ∃ u, xs[j]? = some u := ⟨_, List.getElem?_eq_getElem (by omega)⟩
          obtain ⟨t', ht'⟩ : ∃ t', kids[j]? = some t' := ⟨_, List.getElem?_eq_getElem (by omega)⟩
          have hdt := deps_mem (List.mem_of_getElem? ht')
          have hpt := pos_take ht'
          have hpl := pos_take_le kids (j + 1)
          rw [hpt, List.length_append] at hpl
          conv => cbv
          refine st_elem hE sTrs (hcl.ext hx) hvl.symm (by omega) (by omega) fun p v hv hp => ?_
          rw [show jj.toNat = j by omega, hu] at hv
          cases hv
          conv => cbv
          refine st_load hE cTr hp ?_
          conv => cbv
          refine st_load hE cFt (by have := hO.fn.at 0 _ rfl; rwa [add_zero] at this) ?_
          conv => cbv
          refine st_g hr (ih t' u (by omega) (hts.get j t' u ht' hu) w' B1 m1 d1 (vs ++ vs1) hx hO (by omega)) fun r w2 ⟨B2, d2, vs2, hgr2, hx2, hO2, hts2⟩ => ?_
          conv => cbv
          simp only [ej]
          exact ⟨(j + 1, jk, B2, m1 + (po t').length, d2, vs1 ++ vs2), by simp [Fits, lk], hI _ _ ⟨by simp only; omega, by simp only; omega, hgr.trans hgr2, hx2, by simpa using hO2, by simp only; rw [hpt, List.length_append]; omega, by simp only; rw [hpt]; exact hts1.append hts2⟩, by simp only; omega⟩
        · have g : j = mk := by
            have : ¬ jj < x := by simpa [hE.cmp, cmpR] using g
            omega
          rw [List.take_of_length_le (by omega)] at hm1 hts1
          conv => cbv
          exact ⟨(B1, m1, d1, vs1), by simp [Fits, lk], hJ _ _ ⟨hgr, hx, hO, hm1, hts1⟩⟩
      | false =>
        have hk : kidsT t = [] := by cases t <;> first | rfl | exact absurd rfl (hno rfl _ _ _)
        rw [hk] at hJ
        conv => cbv
        exact ⟨(B, m, d, []), by simp [Fits, lk], hJ _ _ ⟨ext_gr2 hx _ _, h0.trans hx, by simpa using hO.ext hx, by simp [pos], by simp [pos, TreesV]⟩⟩
    · clear hO
      rintro ⟨B1, m1, d1, vs1⟩ w' ⟨hgr, hx, hO, hm1, hts1⟩
      simp only at hgr hO hm1 hts1
      conv => cbv
      refine st_load hE cTrs (by have := hO.box.at 0 _ rfl; rwa [add_zero] at this) ?_
      conv => cbv
      refine st_one hr sTrs rfl hone fun A2 w2 hx2 hc2 => ?_
      have hO2 := hO.ext hx2
      conv => cbv
      refine st_appsG hr sTrs rfl hO2.row hc2 rfl (by simpa using hone) hO2.le (by omega) (by omega) fun A3 c3 m3 w3 hm3 hw3 ho3 hbk => ?_
      subst hm3
      conv => cbv
      have hbx3 := hO2.box.wr hw3 hO2.a3.2
      refine st_put hr zTrs hbx3 (add_zero _).symm (by simp) rfl fun w4 hw4 hb4 => ?_
      simp only [List.set_cons_zero] at hb4
      have hg3 : Gro w2 B1 w3 A3 := ⟨hw3, hbk.imp id fun e => ⟨_, e, Nat.le_refl _⟩⟩
      have hO4 := TO.put hb hO2 hg3 ho3 hw4 hb4
      have hs0 := hx.size
      have hs2 := hx2.size
      have hs3 := hw3.size
      have hx4 : Ext w0 w4 := ((hx.trans hx2).then (hw3.bel hO2.row hO2.le)).then ⟨hw4.os, hw4.tape, hw4.output, hw4.size, fun i h1 => hw4.block i (by omega) (by rw [hb.e3]; intro q; cases q; have := hb.h3; omega)⟩
      conv => cbv
      rw [hR]
      refine ⟨A3, c3, vs1 ++ [.iface ty1 u1], ((hgr.trans (ext_gr2 hx2 _ _)).trans (Gr2.of_gro hg3)).trans (Gr2.of_wr hb.e3 hw4), hx4, ?_, ?_⟩
      · rw [show m + (po t).length = m1 + 1 by omega, ← List.append_assoc]; exact hO4
      · rw [po_kids]; exact hts1.append (by simp only [TreesV]; exact ⟨ht, trivial⟩)
theorem walkNil_g {q3 q4 : Addr} (w : World) : GC Tryd.prog 112 [.nilIface, .pointer (some q4), .pointer (some q3)] w fun r w' => w' = w := by
  refine GC.intro (cs := []) Tryd.func112 (by kernel_rfl) fun E R hE hr hR => ?_
  conv => cbv
  refine st_eqNil hE Tryd.underlying128 ?_
  conv => cbv
  rw [hR]
theorem optV.cases {D : Nat → Prop} {w : World} {o : Option Tr} {v : Value} (h : optV D w o v) : (o = none ∧ v = .nilIface) ∨ ∃ t, o = some t ∧ TreeV D w t v := by
  cases o with
  | none => exact .inl ⟨rfl, h⟩
  | some t => exact .inr ⟨t, rfl, h⟩
/-- The walk over a tree, or over none. -/
theorem walkO_g {w0 : World} {q3 q4 : Addr} (hb : TOB w0.heap.size q3 q4) {o : Option Tr} {v : Value} (ht : optV (fun b => b < w0.heap.size) w0 o v) (w : World) (B : Option Addr) (m d : Nat) (vs : List Value) (h0 : Ext w0 w) (hO : TO w0.heap.size w q3 q4 B m d vs) (hm : m + (pos o.toList).length ≤ 4000) :
    GC Tryd.prog 112 [v, .pointer (some q4), .pointer (some q3)] w fun r w' => ∃ B' d' vs', Gr2 w q3 B w' B' ∧ Ext w0 w' ∧ TO w0.heap.size w' q3 q4 B' (m + (pos o.toList).length) d' (vs ++ vs') ∧ TreesV (fun b => b < w0.heap.size) w0 (pos o.toList) vs' := by
  rcases ht.cases with ⟨rfl, rfl⟩ | ⟨t, rfl, ht⟩
  · have h := walkNil_g (q3 := q3) (q4 := q4) w
    exact ⟨h.1, h.2.mono fun e w' ⟨r, he, hw⟩ => ⟨r, he, by subst hw; exact ⟨B, d, [], Gr2.refl _ _ _, h0, by simpa [pos] using hO, by simp [pos, TreesV]⟩⟩⟩
  · have e : pos (some t).toList = po t := by simp [pos]
    rw [e] at hm ⊢
    exact walkT_g hb (dep t) t v (Nat.le_refl _) ht w B m d vs h0 hO hm
set_option maxHeartbeats 8000000 in
theorem treesOf_f {w : World} {A : Option Addr} {m c : Nat} {es : List SV} (h : SVs w A m c es) (hm : m ≤ 600) (hp : poS es ≤ 4000) :
    FC Tryd.prog 65 [.slice A m c] w fun v w' => ∃ B d vs, v = .slice B (poS es) d ∧ Own w.heap.size 128 1 w' B (poS es) d vs ∧ TreesV (fun b => b < w.heap.size) w (pos (es.flatMap fun e => trs e.p)) vs := by
  refine FC.intro (cs := []) Tryd.func65 (by kernel_rfl) fun E R hE hr hR => ?_
  have hlen := h.len
  conv => cbv
  refine st_none hr sTrs fun AA w1 hx1 ho0 => ?_
  have ho := ho0 w.heap.size (Nat.le_refl _)
  clear ho0
  conv => cbv
  refine st_new hr (z := .slice none 0 0) (by kernel_rfl) rfl fun q3 w2 hx2 hb0 => ?_
  have a3 := ho.apart (hb0 _ (Nat.le_refl _)) (Nat.le_refl _)
  have hb3 := hb0 _ hx1.size
  have f3 := bx_form (hb0 _ (Nat.le_refl _))
  clear hb0
  conv => cbv
  refine st_put hr zTrs hb3 (add_zero _).symm (by simp) rfl fun w3 hw3 hb3' => ?_
  simp only [List.set_cons_zero] at hb3'
  have hx := (hx1.trans hx2).then (hw3.bel hb3 (Nat.le_trans hx1.size hx2.size))
  replace ho := (ho.bel hx2).wr hw3 a3.1
  have s1 := hx1.size
  have s2 := hx2.size
  have s3 := hw3.size
  clear hb3 hw3 hx1 hx2
  conv => cbv
  refine st_new hr (z := .nilFunc) (by kernel_rfl) rfl fun q4 w4 hx4 hb0 => ?_
  have a4 := ho.apart (hb0 _ (Nat.le_refl _)) (Nat.le_refl _)
  have hb4 := hb0 _ hx.size
  have f4 := bx_form (hb0 _ (Nat.le_refl _))
  have hne : q3.block ≠ q4.block := by omega
  clear hb0
  replace ho := ho.bel hx4
  replace hb3' := hb3'.bel hx4
  replace hx := hx.trans hx4
  conv => cbv
  refine st_put hr zFt hb4 (add_zero _).symm (by simp) rfl fun w5 hw5 hb4' => ?_
  simp only [List.set_cons_zero] at hb4'
  have hO0 : TO w.heap.size w5 q3 q4 AA 0 0 [] := ⟨hb3'.wr hw5 (bx_apart f3.2.2 f4.2.2 hne), hb4', ho.wr hw5 a4.1, a3, a4, Nat.le_trans hx.size hw5.size⟩
  have hb : TOB w.heap.size q3 q4 := ⟨by omega, by have := hx.size; omega, f3.2.2, f4.2.2, hne⟩
  replace hx := hx.then (hw5.bel hb4 hx.size)
  clear hb4 hb4' hw5 hx4 ho hb3' a3 a4 f3 f4 hne s1 s2 s3
  conv => cbv
  refine st_len hE sSt fun x1 hx1' => ?_
  conv => cbv
  refine loop_rule hr (fun (s : Nat × Int × Option Addr × Nat × Nat × List Value) w' => s.1 ≤ m ∧ s.2.1 = (s.1 : Int) ∧ Ext w w' ∧ TO w.heap.size w' q3 q4 s.2.2.1 s.2.2.2.1 s.2.2.2.2.1 s.2.2.2.2.2 ∧ s.2.2.2.1 = (pos ((es.take s.1).flatMap fun e => trs e.p)).length ∧ TreesV (fun b => b < w.heap.size) w (pos ((es.take s.1).flatMap fun e => trs e.p)) s.2.2.2.2.2)
    (fun s => [(3, .pointer (some q3)), (4, .pointer (some q4)), (9, .slice A m c), (10, .int .i64 x1), (11, .int .i64 s.2.1)]) (fun s => m - s.1) (0, 0, AA, 0, 0, [])
    (by simp [Fits, lk]) ⟨by simp, by simp, hx, hO0, by simp [pos], by simp [pos, TreesV]⟩ ?_
  clear hx hO0
  rintro I hI ⟨j, jj, B, n1, d1, vs1⟩ w' ⟨hj, hjj, hx, hO, hn1, hts⟩
  simp only at hj hjj hO hn1 hts
  obtain ⟨jk, hjk⟩ : ∃ z, z = jj + 1 := ⟨_, rfl⟩
  conv => cbv
  refine br (fun g => ?_) (fun g => ?_)
  · have g : j < m := by
      have : jj < x1 := by simpa [hE.cmp, cmpR] using g
      omega
    have ej : E.ar .add .i64 jj 1 = jk := by rw [hE.ar, hjk]; exact wrap_in (by omega) (by omega)
    obtain ⟨e, he⟩ : ∃ e, es[j]? = some e := ⟨_, List.getElem?_eq_getElem (by omega)⟩
    obtain ⟨aA0, hA0, hcell⟩ := fl_at fV_len (h.cells.ext hx) (by omega) he
    have htr := h.trees e (List.mem_of_getElem? he)
    have o1 := htr.1.one
    have o2 := htr.2.one
    obtain ⟨⟨k, nm, cc, gg⟩, ⟨pc, pg⟩, cv, gv, ei⟩ := e
    simp only at htr o1 o2
    have htk : ((es.take (j + 1)).flatMap fun e => trs e.p) = ((es.take j).flatMap fun e => trs e.p) ++ (pc.toList ++ pg.toList) := by rw [List.take_add_one, he, List.flatMap_append]; simp [trs]
    have hpl : (pos ((es.take (j + 1)).flatMap fun e => trs e.p)).length ≤ poS es := by
      unfold poS
      have e3 : es = es.take (j + 1) ++ es.drop (j + 1) := (List.take_append_drop _ _).symm
      conv => rhs; rw [e3, List.flatMap_append, pos_append, List.length_append]
      omega
    rw [htk, pos_append, pos_append, List.length_append, List.length_append] at hpl
    conv => cbv
    refine st_idx hE sSt hA0 (by omega) (by omega) fun p hp => ?_
    rw [show jj.toNat = j by omega] at hp
    conv => cbv
    refine st_loadS hE tSt (vs := [.int .i64 k, .string nm, cv, gv, .int .i64 ei]) rfl (by rw [hp]; exact hcell) ?_
    conv => cbv
    refine st_alloc hr tSt rfl fun q6 w3 hx3 hq0 => ?_
    conv => cbv
    refine st_putS hr (by kernel_rfl) (hq0 _ (Nat.le_refl _)) (add_zero _).symm (by simp [zSt]) (by
      intro y hy
      simp only [List.mem_cons, List.not_mem_nil, or_false] at hy
      rcases hy with rfl | rfl | rfl | rfl | rfl <;> first | rfl | assumption) fun w4 hw4 h6 => ?_
    simp only [zSt, List.take_zero, List.nil_append, List.length_cons, List.length_nil, List.drop_succ_cons, List.drop_nil, List.append_nil] at h6
    have hx4 := hx3.then (hw4.bel (hq0 _ (Nat.le_refl _)) hx3.size)
    have f6 := bx_form h6
    clear hx3 hq0 hw4 hp hcell
    have hO4 := hO.ext hx4
    have hx04 := hx.trans hx4
    -- the box of the statement stands
    conv => cbv
    refine st_load hE cFt (by have := hO4.fn.at 0 _ rfl; rwa [add_zero] at this) ?_
    conv => cbv
    (refine st_fld hE fSt2 fun p hp => ?_; (conv => cbv); refine st_load hE cTr (by rw [hp]; exact (h6).at _ _ rfl) ?_; clear hp; (conv => cbv))
    have hv2 := hn1
    have aq6 : Apart (some q6) B := (hO.row.apart h6 (Nat.le_refl _)).2
    refine st_g hr (walkO_g hb htr.1 w4 B n1 d1 vs1 hx04 hO4 (by omega)) fun r w5 ⟨B2, d2, vs2, hgr, hx5, hO5, hts2⟩ => ?_
    have h65 := hgr.own h6 (by rw [f6.2.2]; intro q; have := Option.some.inj q; have := (bx_form hO.box).2.1; omega) aq6
    conv => cbv
    refine st_load hE cFt (by have := hO5.fn.at 0 _ rfl; rwa [add_zero] at this) ?_
    conv => cbv
    (refine st_fld hE fSt3 fun p hp => ?_; (conv => cbv); refine st_load hE cTr (by rw [hp]; exact (h65).at _ _ rfl) ?_; clear hp; (conv => cbv))
    refine st_g hr (walkO_g hb htr.2 w5 B2 _ d2 (vs1 ++ vs2) hx5 hO5 (by omega)) fun r w6 ⟨B3, d3, vs3, _, hx6, hO6, hts3⟩ => ?_
    conv => cbv
    simp only [ej]
    exact ⟨(j + 1, jk, B3, n1 + (pos pc.toList).length + (pos pg.toList).length, d3, vs1 ++ vs2 ++ vs3), by simp [Fits, lk], hI _ _ ⟨by simp only; omega, by simp only; omega, hx6, hO6, by simp only; rw [htk, pos_append, pos_append, List.length_append, List.length_append]; omega, by simp only; rw [htk, pos_append, pos_append, ← List.append_assoc]; exact (hts.append hts2).append hts3⟩, by simp only; omega⟩
  · have g : j = m := by
      have : ¬ jj < x1 := by simpa [hE.cmp, cmpR] using g
      omega
    rw [List.take_of_length_le (by omega)] at hn1 hts
    conv => cbv
    refine st_load hE cTrs (by have := hO.box.at 0 _ rfl; rwa [add_zero] at this) ?_
    conv => cbv
    rw [hR]
    refine ⟨hx, B, d1, vs1, by unfold poS; rw [hn1]; rfl, ?_, hts⟩
    have := hO.row
    rw [hn1] at this
    exact this
end Go.Proofs.YtmbonalhbibppaaDoor
/- The laws' helpers over typed policies: size, copy, equality; the law FnExactWellTyped walked. -/
namespace Go.Proofs.YtmbonalhbibppaaDoor
open Go.Eng
set_option linter.unusedVariables false
set_option linter.unusedSimpArgs false
theorem tLTyp : Stc Tryd.prog 51 3 zTyp := ⟨by kernel_rfl, by kernel_rfl⟩
theorem fLTyp0 : Fld Tryd.prog 51 0 0 := ⟨by kernel_rfl⟩
theorem fLTyp1 : Fld Tryd.prog 51 1 1 := ⟨by kernel_rfl⟩
theorem fLTyp2 : Fld Tryd.prog 51 2 2 := ⟨by kernel_rfl⟩
theorem szTyped_f {w : World} {A A2 A3 : Option Addr} {n c n2 c2 n3 c3 : Nat} {nv : List PN} {sv : List PS} {tyl : List Int} (h : TypR w A n A2 n2 A3 n3 c3 nv sv tyl) (hn : n ≤ 9223372036854775807) (hn2 : n2 ≤ 9223372036854775807) :
    FC Tryd.prog 18 [typV A n c A2 n2 c2 A3 n3 c3, .int .i64 1048576] w fun v _ => ∃ r : Int, v = .int .i64 r ∧ r ≤ 1048576 ∧ (0 ≤ r → wtNs nv + wtSs sv ≤ 1048576 ∧ tyl.length ≤ 1048576) := by
  refine FC.intro (cs := []) Tryd.func18 (by kernel_rfl) fun E R hE hr hR => ?_
  have hl3 := h.tys.len
  conv => cbv
  refine st_box hr fun a w1 hx hb0 => ?_
  have hb := hb0 _ (Nat.le_refl _)
  conv => cbv
  (refine st_fld hE fLTyp0 fun p hp => ?_; (conv => cbv); refine st_load hE cLNs (by rw [hp]; exact (hb).at _ _ rfl) ?_; clear hp; (conv => cbv))
  refine st_f hr (szNodeS_f (h.pol.nodes.ext hx) hn 1048576 (by omega) (by omega)) fun v w2 hx2 ⟨r, ev, hr1, hr2⟩ => ?_
  subst ev
  replace hb := hb.bel hx2
  replace hx := hx.trans hx2
  conv => cbv
  refine br (fun _ => ?_) (fun g1 => ?_)
  · conv => cbv
    rw [hR]; exact ⟨hx, -1, rfl, by omega, fun h => by omega⟩
  have g1 : 0 ≤ r := by simpa [hE.cmp, cmpR] using g1
  have hr2 := hr2 g1
  conv => cbv
  (refine st_fld hE fLTyp1 fun p hp => ?_; (conv => cbv); refine st_load hE cLSs (by rw [hp]; exact (hb).at _ _ rfl) ?_; clear hp; (conv => cbv))
  refine st_f hr (szStmtS_f (h.pol.stmts.ext hx) hn2 r g1 hr1) fun v w3 hx3 ⟨r', ev, hr3, hr4⟩ => ?_
  subst ev
  replace hb := hb.bel hx3
  replace hx := hx.trans hx3
  conv => cbv
  refine br (fun _ => ?_) (fun g2 => ?_)
  · conv => cbv
    rw [hR]; exact ⟨hx, -1, rfl, by omega, fun h => by omega⟩
  have g2 : 0 ≤ r' := by simpa [hE.cmp, cmpR] using g2
  have hr4 := hr4 g2
  conv => cbv
  (refine st_fld hE fLTyp2 fun p hp => ?_; (conv => cbv); refine st_load hE cInts (by rw [hp]; exact (hb).at _ _ rfl) ?_; clear hp; (conv => cbv))
  refine st_f hr (szIntS_f (h.tys.ext hx) r' g2 (by omega)) fun v w4 hx4 ⟨r5, ev, hr5, hr6⟩ => ?_
  subst ev
  replace hx := hx.trans hx4
  conv => cbv
  refine br (fun _ => ?_) (fun g3 => ?_)
  · conv => cbv
    rw [hR]; exact ⟨hx, -1, rfl, by omega, fun h => by omega⟩
  have g3 : 0 ≤ r5 := by simpa [hE.cmp, cmpR] using g3
  have hr6 := hr6 g3
  conv => cbv
  rw [hR]; exact ⟨hx, r5, rfl, by omega, fun _ => ⟨by omega, by omega⟩⟩
set_option maxHeartbeats 1000000 in
theorem toTyped_f {w : World} {A A2 A3 : Option Addr} {n c n2 c2 n3 c3 : Nat} {nv : List PN} {sv : List PS} {tyl : List Int} (h : TypR w A n A2 n2 A3 n3 c3 nv sv tyl) (hw : wtNs nv + wtSs sv ≤ 1048576) (hw3 : tyl.length ≤ 1048576) :
    FC Tryd.prog 20 [typV A n c A2 n2 c2 A3 n3 c3] w fun v w' => ∃ A1 c1 A4 c4 A5 c5, v = typV A1 n c1 A4 n2 c4 A5 n3 c5 ∧ TypR w' A1 n A4 n2 A5 n3 c5 nv sv tyl := by
  refine FC.intro (cs := []) Tryd.func20 (by kernel_rfl) fun E R hE hr hR => ?_
  obtain ⟨b1, b2, b3⟩ := wt_b (nv := nv) (by omega)
  have b4 := wtSs_len sv
  have hl1 := h.pol.nodes.len
  have hl2 := h.pol.stmts.len
  have hl3 := h.tys.len
  conv => cbv
  refine st_box hr fun a w1 hx hb0 => ?_
  have hb := hb0 _ (Nat.le_refl _)
  conv => cbv
  refine st_alloc hr tITyp rfl fun o w2 hx2 ho0 => ?_
  have ho := ho0 _ hx.size
  have hb := hb.bel hx2
  have hx := hx.trans hx2
  conv => cbv
  refine st_alloc hr tITyp rfl fun q w3 hx3 hq0 => ?_
  have hq := hq0 _ hx.size
  have aq := (hb.apart (hq0 _ (Nat.le_refl _)) (Nat.le_refl _)).1
  have oq := (ho.apart (hq0 _ (Nat.le_refl _)) (Nat.le_refl _)).1
  have o0 := ho
  have hso := hx3.size
  have hb := hb.bel hx3
  have ho := ho.bel hx3
  have hx := hx.trans hx3
  clear hb0 ho0 hq0
  conv => cbv
  (refine st_fld hE fLTyp0 fun p hp => ?_; (conv => cbv); refine st_load hE cLNs (by rw [hp]; exact (hb).at _ _ rfl) ?_; clear hp; (conv => cbv))
  refine st_f hr (toNodeS_f (h.pol.nodes.ext hx) (by omega) b2 b3) fun v w4 hx4 ⟨A4, c4, ev, h4⟩ => ?_
  subst ev
  have hs4 := hx4.size
  have q0 := hq
  replace hb := hb.bel hx4
  replace ho := ho.bel hx4
  replace hq := hq.bel hx4
  replace hx := hx.trans hx4
  conv => cbv
  refine st_fld hE fITyp0 fun p hp => ?_
  conv => cbv
  refine st_put hr zINs hq hp (by simp) rfl fun wm hwm hq2 => ?_
  replace hx := hx.then (hwm.bel hq hx.size)
  have y4 : Above w3.heap.size w4 wm := hwm.above q0 (Nat.le_refl _)
  simp only [List.set_cons_zero, List.set_cons_succ] at hq2
  replace hq := hq2
  replace hb := hb.wr hwm aq
  replace ho := ho.wr hwm oq
  have hsz : w3.heap.size ≤ wm.heap.size := Nat.le_trans hs4 y4.size
  conv => cbv
  (refine st_fld hE fLTyp1 fun p hp => ?_; (conv => cbv); refine st_load hE cLSs (by rw [hp]; exact (hb).at _ _ rfl) ?_; clear hp; (conv => cbv))
  refine st_f hr (toStmtS_f (h.pol.stmts.ext hx) (by omega)) fun v w6 hx6 ⟨A6, c6, ev, h6⟩ => ?_
  subst ev
  replace hb := hb.bel hx6
  replace ho := ho.bel hx6
  replace hq := hq.bel hx6
  replace hx := hx.trans hx6
  replace y4 := y4.trans (hx6.above _)
  conv => cbv
  refine st_fld hE fITyp1 fun p2 hp2 => ?_
  conv => cbv
  refine st_put hr zISs hq hp2 (by simp) rfl fun w7 hw7 hq3 => ?_
  have y7 : Above w3.heap.size w6 w7 := hw7.above q0 (Nat.le_refl _)
  replace hx := hx.then (hw7.bel hq hx.size)
  replace hb := hb.wr hw7 aq
  replace ho := ho.wr hw7 oq
  simp only [List.set_cons_zero, List.set_cons_succ] at hq3
  replace y4 := y4.trans y7
  have hsz7 : w3.heap.size ≤ w7.heap.size := Nat.le_trans hsz (Nat.le_trans hx6.size y7.size)
  conv => cbv
  (refine st_fld hE fLTyp2 fun p hp => ?_; (conv => cbv); refine st_load hE cInts (by rw [hp]; exact (hb).at _ _ rfl) ?_; clear hp; (conv => cbv))
  refine st_f hr (toIntS_f (h.tys.ext hx) (by omega)) fun v w10 hx10 ⟨A10, c10, ev, h10⟩ => ?_
  subst ev
  replace hq3 := hq3.bel hx10
  replace ho := ho.bel hx10
  replace hx := hx.trans hx10
  replace y7 := y7.trans (hx10.above _)
  replace y4 := y4.trans (hx10.above _)
  conv => cbv
  refine st_fld hE fITyp2 fun p3 hp3 => ?_
  conv => cbv
  refine st_put hr zInts2 hq3 hp3 (by simp) rfl fun w11 hw11 hq4 => ?_
  have y11 : Above w3.heap.size w10 w11 := hw11.above q0 (Nat.le_refl _)
  replace hx := hx.then (hw11.bel hq3 hx.size)
  replace ho := ho.wr hw11 oq
  simp only [List.set_cons_zero, List.set_cons_succ] at hq4
  replace y4 := y4.trans y11
  replace y7 := y7.trans y11
  conv => cbv
  refine st_loadS hE tITyp rfl hq4.at ?_
  conv => cbv
  refine st_putS hr (by kernel_rfl) ho (add_zero _).symm (by simp) (by simp [Value.oneCell']) fun w8 hw8 ho8 => ?_
  simp only [List.take_zero, List.nil_append, List.length_cons, List.length_nil, List.drop_succ_cons, List.drop_nil, List.append_nil] at ho8
  have y8 : Above w3.heap.size w11 w8 := hw8.above o0 hso
  conv => cbv
  refine st_cell hr tITyp rfl ho8.at ?_
  rw [hR]; exact ⟨hx.then (hw8.bel ho hx.size), A4, c4, A6, c6, A10, c10, rfl, ⟨⟨h4 _ (y4.trans y8), h6 _ ((y7.trans y8).mono hsz)⟩, Own.ints (h10.above ((y11.trans y8).mono hsz7))⟩⟩
theorem eqTyped_f {w : World} {A A2 A3 B B2 B3 : Option Addr} {n c n2 c2 n3 c3 d d2 d3 : Nat} {nv : List PN} {sv : List PS} {tyl : List Int} (h : TypR w A n A2 n2 A3 n3 c3 nv sv tyl) (h' : TypR w B n B2 n2 B3 n3 d3 nv sv tyl) (hn : n ≤ 9223372036854775807) (hn2 : n2 ≤ 9223372036854775807) :
    FC Tryd.prog 22 [typV A n c A2 n2 c2 A3 n3 c3, typV B n d B2 n2 d2 B3 n3 d3] w fun v _ => v = .bool true := by
  refine FC.intro (cs := []) Tryd.func22 (by kernel_rfl) fun E R hE hr hR => ?_
  conv => cbv
  refine st_box hr fun a w1 hx ha0 => ?_
  have ha := ha0 _ (Nat.le_refl _)
  conv => cbv
  refine st_box hr fun b w2 hx2 hb0 => ?_
  have hb := hb0 _ hx.size
  replace ha := ha.bel hx2
  replace hx := hx.trans hx2
  clear ha0 hb0
  conv => cbv
  (refine st_fld hE fITyp0 fun p hp => ?_; (conv => cbv); refine st_load hE cINs (by rw [hp]; exact (ha).at _ _ rfl) ?_; clear hp; (conv => cbv))
  (refine st_fld hE fITyp0 fun p hp => ?_; (conv => cbv); refine st_load hE cINs (by rw [hp]; exact (hb).at _ _ rfl) ?_; clear hp; (conv => cbv))
  refine st_f hr (eqNodeS_f (h.pol.nodes.ext hx) (h'.pol.nodes.ext hx) hn) fun v w3 hx3 ev => ?_
  subst ev
  replace ha := ha.bel hx3
  replace hb := hb.bel hx3
  replace hx := hx.trans hx3
  conv => cbv
  (refine st_fld hE fITyp1 fun p hp => ?_; (conv => cbv); refine st_load hE cISs (by rw [hp]; exact (ha).at _ _ rfl) ?_; clear hp; (conv => cbv))
  (refine st_fld hE fITyp1 fun p hp => ?_; (conv => cbv); refine st_load hE cISs (by rw [hp]; exact (hb).at _ _ rfl) ?_; clear hp; (conv => cbv))
  refine st_f hr (eqStmtS_f (h.pol.stmts.ext hx) (h'.pol.stmts.ext hx) hn2) fun v w4 hx4 ev => ?_
  subst ev
  replace ha := ha.bel hx4
  replace hb := hb.bel hx4
  replace hx := hx.trans hx4
  conv => cbv
  (refine st_fld hE fITyp2 fun p hp => ?_; (conv => cbv); refine st_load hE cInts (by rw [hp]; exact (ha).at _ _ rfl) ?_; clear hp; (conv => cbv))
  (refine st_fld hE fITyp2 fun p hp => ?_; (conv => cbv); refine st_load hE cInts (by rw [hp]; exact (hb).at _ _ rfl) ?_; clear hp; (conv => cbv))
  refine st_qb hE (eqIntS_q (h.tys.ext hx) (h'.tys.ext hx)) fun b hb2 w5 hs5 => ?_
  obtain rfl : b = true := hb2.2 rfl
  conv => cbv
  rw [hR]; exact ⟨hx.trans hs5.ext, rfl⟩
end Go.Proofs.YtmbonalhbibppaaDoor
/- Safe of the program and of the reference walked; the law FnExactSafe. -/
namespace Go.Proofs.YtmbonalhbibppaaDoor
open Go.Eng
set_option linter.unusedVariables false
set_option linter.unusedSimpArgs false
/-- The node's tree is safe, in a well-typed policy. -/
def SafeP (nv : List PN) (sv : List PS) (tyl : List Int) (node : Int) : Prop := wellP nv sv tyl ∧ ∃ (k a : Nat) (u : Tr), node = (k : Int) ∧ IsTs nv a (k + 1) [(k : Int)] [u] ∧ safeT u = true
theorem SafeP.lt {nv : List PN} {sv : List PS} {tyl : List Int} {node : Int} (h : SafeP nv sv tyl node) : 0 ≤ node ∧ node < nv.length := by
  obtain ⟨_, k, a, u, e, hI, _⟩ := h
  obtain ⟨kn, p, _, e1, _, hp, _⟩ := hI.one
  have := (List.getElem?_eq_some_iff.1 hp).1
  have : k = kn := Int.ofNat.inj e1
  omega
theorem SafeP.at {nv : List PN} {sv : List PS} {tyl : List Int} {node : Int} {k a : Nat} {u : Tr} (hw : wellP nv sv tyl) (e : node = (k : Int)) (hI : IsTs nv a (k + 1) [(k : Int)] [u]) : SafeP nv sv tyl node ↔ safeT u = true := by
  constructor
  · rintro ⟨_, k', a', u', e', hI', hs⟩
    have : k' = k := by omega
    subst this
    have := hI.uniqT hI'
    cases this
    exact hs
  · intro hs
    exact ⟨hw, k, a, u, e, hI, hs⟩
set_option maxHeartbeats 4000000 in
theorem implSafe_f {w : World} (hT : Tab w 6 constF) (hR0 : STab w 5 words) {A A2 A3 : Option Addr} {n c n2 c2 n3 c3 : Nat} {nv : List PN} {sv : List PS} {tyl : List Int} (h : TypR w A n A2 n2 A3 n3 c3 nv sv tyl) (hn : n ≤ 9223372036854775807) (hn2 : n2 ≤ 9223372036854775807) (node : Int) :
    FC Tryd.prog 30 [typV A n c A2 n2 c2 A3 n3 c3, .int .i64 node] w fun v w' => ∃ b : Bool, v = .bool b ∧ (b = true ↔ SafeP nv sv tyl node) := by
  refine FC.intro (cs := []) Tryd.func30 (by kernel_rfl) fun E R hE hr hR => ?_
  have hl := h.pol.nodes.len
  have no : ¬ SafeP nv sv tyl node → ∀ w', Ext w w' → R (.bool false) w' := fun q w' hx => by rw [hR]; exact ⟨hx, false, rfl, ⟨(fun z => by cases z), fun z => absurd z q⟩⟩
  conv => cbv
  refine st_box hr fun a w1 hx hb0 => ?_
  have hb := hb0 _ (Nat.le_refl _)
  clear hb0
  conv => cbv
  refine st_loadS hE tITyp rfl hb.at ?_
  conv => cbv
  refine st_f hr (typedTrees_f (c := c) (c2 := c2) (hT.ext hx) (hR0.ext hx) (h.ext hx) hn hn2) fun v w2 hx2 ⟨B, m, d, b, ev, h1, h2⟩ => ?_
  subst ev
  replace hb := hb.bel hx2
  replace hx := hx.trans hx2
  clear hx2
  cases b with
  | false =>
    conv => cbv
    exact no (fun q => absurd (h1.2 q.1) Bool.false_ne_true) _ hx
  | true =>
  have hw := h1.1 rfl
  obtain ⟨acc, x, ⟨⟨hp1, hp2, hp3⟩, hrun, hck, hacc⟩, hLS⟩ := h2 rfl
  obtain ⟨pts, p1, p2, p3, p4, p5⟩ := runS_full leafT_6 leafT_7 sv hrun
  rw [List.nil_append] at p1
  subst p1
  obtain ⟨es, hes, hz, hpm, hsm⟩ := hLS.svs
  have hfl : (es.flatMap fun e => trs e.p) = acc.flatMap trs := by rw [← hpm, List.flatMap_map]
  have hpo : poS es = nv.length := by
    have := p3.pos.1
    unfold poS
    rw [hfl]
    omega
  have hm6 : m ≤ 600 := by
    have := hes.len
    have e2 : (es.map (·.s)).length = sv.length := by rw [hsm]
    rw [List.length_map] at e2
    omega
  clear h1 h2
  conv => cbv
  refine br (fun g => ?_) (fun g => ?_)
  · have g : node < 0 := by simpa [hE.cmp, cmpR] using g
    conv => cbv
    exact no (fun q => by have := q.lt; omega) _ hx
  have g : 0 ≤ node := by simpa [hE.cmp, cmpR] using g
  conv => cbv
  (refine st_fld hE fITyp0 fun p hp => ?_; (conv => cbv); refine st_load hE cINs (by rw [hp]; exact (hb).at _ _ rfl) ?_; clear hp; (conv => cbv))
  refine st_len hE sINd fun x2 hx2 => ?_
  conv => cbv
  refine br (fun g2 => ?_) (fun g2 => ?_)
  · have g2 : x2 ≤ node := by simpa [hE.cmp, cmpR] using g2
    conv => cbv
    exact no (fun q => by have := q.lt; omega) _ hx
  have g2 : node < x2 := by simpa [hE.cmp, cmpR] using g2
  conv => cbv
  refine st_f hr (treesOf_f hes hm6 (by omega)) fun v w3 hx3 ⟨B3, d3, vs, ev, ho, hts⟩ => ?_
  subst ev
  rw [hfl] at hts
  obtain ⟨nn, hnn⟩ : ∃ nn, nn = poS es := ⟨_, rfl⟩
  rw [← hnn] at ho ⊢
  obtain ⟨k, hk⟩ : ∃ k : Nat, node = (k : Int) := ⟨node.toNat, by omega⟩
  obtain ⟨u, a', hu, hI⟩ := p3.pos.2 k (by omega)
  rw [show 0 + k = k by omega] at hI
  have hvl := hts.len
  obtain ⟨vu, hvu⟩ : ∃ vu, vs[k]? = some vu := ⟨_, List.getElem?_eq_getElem (by
    have := (List.getElem?_eq_some_iff.1 hu).1
    omega)⟩
  have hlen := ho.len
  conv => cbv
  refine st_elem hE sTrs ho.cells (by omega) (by omega) (by omega) fun p v hv hp => ?_
  rw [show node.toNat = k by omega, hvu] at hv
  cases hv
  conv => cbv
  refine st_load hE cTr hp ?_
  have htu := (hts.get k u vu hu hvu).ext (fun b hb => hb) hx3
  obtain ⟨sb, hsb⟩ : ∃ sb, sb = safeT u := ⟨_, rfl⟩
  have hsf := safe_f (dep u) u vu w3 _ (Nat.le_refl _) htu (fun b hb => Nat.lt_of_lt_of_le hb hx3.size)
  rw [← hsb] at hsf
  conv => cbv
  refine st_f hr hsf fun r w4 hx4 ev => ?_
  subst ev
  conv => cbv
  rw [hR]; exact ⟨(hx.trans hx3).trans hx4, sb, rfl, by rw [hsb]; exact (SafeP.at hw hk hI).symm⟩
set_option maxHeartbeats 4000000 in
theorem specSafe_f {w : World} {A A2 A3 : Option Addr} {n c n2 c2 n3 c3 : Nat} {nv : List PN} {sv : List PS} {tyl : List Int} (h : TypR w A n A2 n2 A3 n3 c3 nv sv tyl) (hn : n ≤ 9223372036854775807) (hn2 : n2 ≤ 9223372036854775807) (node : Int) :
    FC Tryd.prog 29 [typV A n c A2 n2 c2 A3 n3 c3, .int .i64 node] w fun v w' => ∃ b : Bool, v = .bool b ∧ (b = true ↔ SafeP nv sv tyl node) := by
  refine FC.intro (cs := []) Tryd.func29 (by kernel_rfl) fun E R hE hr hR => ?_
  have hl := h.pol.nodes.len
  have no : ¬ SafeP nv sv tyl node → ∀ w', Ext w w' → R (.bool false) w' := fun q w' hx => by rw [hR]; exact ⟨hx, false, rfl, ⟨(fun z => by cases z), fun z => absurd z q⟩⟩
  conv => cbv
  refine st_box hr fun a w1 hx hb0 => ?_
  have hb := hb0 _ (Nat.le_refl _)
  clear hb0
  conv => cbv
  refine st_loadS hE tITyp rfl hb.at ?_
  conv => cbv
  refine st_f hr (specWellTyped_f (c := c) (c2 := c2) (h.ext hx) hn hn2) fun v w2 hx2 ⟨b, ev, h1⟩ => ?_
  subst ev
  replace hb := hb.bel hx2
  replace hx := hx.trans hx2
  clear hx2
  cases b with
  | false =>
    conv => cbv
    exact no (fun q => absurd (h1.2 q.1) Bool.false_ne_true) _ hx
  | true =>
  have hw := h1.1 rfl
  clear h1
  obtain ⟨⟨q1, q2, q3, q4, q5, ts, q6, q7⟩, _⟩ := id hw
  conv => cbv
  refine br (fun g => ?_) (fun g => ?_)
  · have g : node < 0 := by simpa [hE.cmp, cmpR] using g
    conv => cbv
    exact no (fun q => by have := q.lt; omega) _ hx
  have g : 0 ≤ node := by simpa [hE.cmp, cmpR] using g
  conv => cbv
  (refine st_fld hE fITyp0 fun p hp => ?_; (conv => cbv); refine st_load hE cINs (by rw [hp]; exact (hb).at _ _ rfl) ?_; clear hp; (conv => cbv))
  refine st_len hE sINd fun x2 hx2 => ?_
  conv => cbv
  refine br (fun g2 => ?_) (fun g2 => ?_)
  · have g2 : x2 ≤ node := by simpa [hE.cmp, cmpR] using g2
    conv => cbv
    exact no (fun q => by have := q.lt; omega) _ hx
  have g2 : node < x2 := by simpa [hE.cmp, cmpR] using g2
  conv => cbv
  (refine st_fld hE fITyp0 fun p hp => ?_; (conv => cbv); refine st_load hE cINs (by rw [hp]; exact (hb).at _ _ rfl) ?_; clear hp; (conv => cbv))
  obtain ⟨k, hk⟩ : ∃ k : Nat, node = (k : Int) := ⟨node.toNat, by omega⟩
  obtain ⟨u, a', hu, hI⟩ := q6.pos.2 k (by omega)
  rw [show 0 + k = k by omega] at hI
  have hof := l4of_f (cN' := c) (h.pol.nodes.ext hx) (by omega) q4 k a' (k + 1) u hI w2 (Ext.refl _)
  rw [← hk] at hof
  refine st_f hr hof fun v w3 hx3 ⟨cv, ev, hcv⟩ => ?_
  subst ev
  obtain ⟨sb, hsb⟩ : ∃ sb, sb = safeT u := ⟨_, rfl⟩
  have hsf := safeL_f (dep u) u cv w3 _ (Nat.le_refl _) hcv (fun b hb => db_lt hx3.size hb)
  rw [← hsb] at hsf
  obtain ⟨va, vb, vc, vd, ve⟩ := cv
  conv => cbv
  refine st_f hr hsf fun r w4 hx4 ev => ?_
  subst ev
  conv => cbv
  rw [hR]; exact ⟨(hx.trans hx3).trans hx4, sb, rfl, by rw [hsb]; exact (SafeP.at hw hk hI).symm⟩
set_option maxHeartbeats 2000000 in
theorem lawSafe {A A2 A3 : Option Addr} {n c n2 c2 n3 c3 : Nat} {nv : List PN} {sv : List PS} {tyl : List Int} (w : World) (hT : STab w 5 words ∧ Tab w 6 constF) (h0 : PolR w A n A2 n2 nv sv ∧ Ints w A3 n3 c3 tyl) (hn : n ≤ 9223372036854775807) (hn2 : n2 ≤ 9223372036854775807) (node : Int) (hnode : True) :
    Law Tryd.prog 7 [typV A n c A2 n2 c2 A3 n3 c3, .int .i64 node] w := by
  have h : TypR w A n A2 n2 A3 n3 c3 nv sv tyl := ⟨h0.1, h0.2⟩
  clear h0
  refine FC.intro (cs := []) Tryd.func7 (by kernel_rfl) fun E R hE hr hR => ?_
  conv => cbv
  refine st_box hr fun a0 w1 hx hb0 => ?_
  have hb := hb0 _ (Nat.le_refl _)
  clear hb0
  conv => cbv
  refine st_loadS hE tLTyp rfl hb.at ?_
  conv => cbv
  refine st_f hr (szTyped_f (c := c) (c2 := c2) (h.ext hx) hn hn2) fun v w2 hx2 ⟨r, ev, _, hsz⟩ => ?_
  subst ev
  replace hb := hb.bel hx2
  replace hx := hx.trans hx2
  clear hx2
  conv => cbv
  refine br (fun g => ?_) (fun g => ?_)
  · conv => cbv
    rw [hR]; exact ⟨hx, rfl⟩
  have g : 0 ≤ r := by simpa [hE.cmp, cmpR] using g
  obtain ⟨hwt, hwt3⟩ := hsz g
  conv => cbv
  refine st_loadS hE tLTyp rfl hb.at ?_
  conv => cbv
  refine st_f hr (toTyped_f (c := c) (c2 := c2) (h.ext hx) hwt hwt3) fun v w3 hx3 ⟨A4, c4, A5, c5, A6, c6, ev, h3⟩ => ?_
  subst ev
  replace hb := hb.bel hx3
  replace hx := hx.trans hx3
  clear hx3
  conv => cbv
  refine st_f hr (specSafe_f (c := c4) (c2 := c5) h3 hn hn2 node) fun v w4 hx4 ⟨v0, ev, hv0⟩ => ?_
  subst ev
  replace hb := hb.bel hx4
  replace hx := hx.trans hx4
  clear hx4 h3
  conv => cbv
  refine st_loadS hE tLTyp rfl hb.at ?_
  conv => cbv
  refine st_f hr (toTyped_f (c := c) (c2 := c2) (h.ext hx) hwt hwt3) fun v w5 hx5 ⟨A7, c7, A8, c8, A9, c9, ev, h5⟩ => ?_
  subst ev
  replace hb := hb.bel hx5
  replace hx := hx.trans hx5
  clear hx5
  conv => cbv
  refine st_alloc hr tITyp rfl fun q w6 hx6 hq0 => ?_
  have hq := hq0 _ hx.size
  have hbq := (hb.apart (hq0 _ (Nat.le_refl _)) (Nat.le_refl _)).1
  conv => cbv
  refine st_putS hr (by kernel_rfl) hq (add_zero _).symm (by simp) (by simp [Value.oneCell']) fun w7 hw7 hq2 => ?_
  simp only [List.take_zero, List.nil_append, List.length_cons, List.length_nil, List.drop_succ_cons, List.drop_nil, List.append_nil] at hq2
  replace h5 := h5.ext (hx6.then (hw7.bel (hq0 _ (Nat.le_refl _)) hx6.size))
  replace hb := (hb.bel hx6).wr hw7 hbq
  replace hx := hx.trans (hx6.then (hw7.bel (hq0 _ (Nat.le_refl _)) hx6.size))
  clear hx6 hq0 hw7 hq
  conv => cbv
  refine st_loadS hE tITyp rfl hq2.at ?_
  conv => cbv
  refine st_f hr (implSafe_f (c := c7) (c2 := c8) (hT.2.ext hx) (hT.1.ext hx) h5 hn hn2 node) fun v w8 hx8 ⟨v1, ev, hv1⟩ => ?_
  subst ev
  obtain rfl : v1 = v0 := Bool.eq_iff_iff.2 (hv1.trans hv0.symm)
  replace hb := hb.bel hx8
  replace hq2 := hq2.bel hx8
  replace h5 := h5.ext hx8
  replace hx := hx.trans hx8
  clear hx8
  conv => cbv
  refine st_bne hE uBool fun v2 hv2 => ?_
  cases v2 with
  | true => exact absurd Iff.rfl (hv2.1 rfl)
  | false =>
  conv => cbv
  refine draw_h [0, 1] [(2, false), (3, false), (4, true)] hr fol (by kernel_rfl) fun E' hE' w9 hs9 S hS => ?_
  replace hb := hb.bel hs9.ext
  replace hq2 := hq2.bel hs9.ext
  replace h5 := h5.ext hs9.ext
  replace hx := hx.trans hs9.ext
  conv => cbv
  refine st_loadS hE' tITyp rfl hq2.at ?_
  conv => cbv
  refine st_loadS hE' tLTyp rfl hb.at ?_
  conv => cbv
  refine st_f hr (toTyped_f (c := c) (c2 := c2) (h.ext hx) hwt hwt3) fun v w10 hx10 ⟨B7, d7, B8, d8, B9, d9, ev, h7⟩ => ?_
  subst ev
  refine ⟨hS _ hx10, ?_⟩
  conv => cbv
  refine st_f hr (eqTyped_f (c := c7) (c2 := c8) (d := d7) (d2 := d8) (h5.ext hx10) h7 hn hn2) fun v w11 hx11 ev => ?_
  subst ev
  refine ⟨hS _ (hx10.trans hx11), ?_⟩
  conv => cbv
  rw [hR]; exact ⟨(hx.trans hx10).trans hx11, rfl⟩
end Go.Proofs.YtmbonalhbibppaaDoor
