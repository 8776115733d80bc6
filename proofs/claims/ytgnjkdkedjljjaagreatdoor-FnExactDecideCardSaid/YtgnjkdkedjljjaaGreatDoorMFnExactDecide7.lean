/- Texts that the law FnExactDecide leans on, part 7 of 8: contracts of the functions that it reaches and plain lemmas. Each holds under the conditions that it states. -/
import Derived.Test.YtgnjkdkedjljjaaGreatDoorMFnExactDecide6
set_option maxHeartbeats 16000000
namespace Go.Proofs.YtgnjkdkedjljjaaGreatDoor
open Go.Eng
set_option linter.unusedVariables false
set_option linter.unusedSimpArgs false
def zOc : List Value := [.int .i64 0, .int .i64 0, .slice none 0 0]
theorem tOc : Stc Tryz.prog 55 3 zOc := ⟨by kernel_rfl, by kernel_rfl⟩
theorem fOc2 : Fld Tryz.prog 55 2 2 := ⟨by kernel_rfl⟩
section
variable {E : Sym} {w : World} {K : Value → World → Prop} {d : Option Tmp} {ty : TypeId} {pos : String} {aft : Array Edge} {g : Option (Nat × Bool)} {bq : Bool}
theorem run_bO0 (w : World) : (Instr.build 55 #[]).run Tryz.prog w = .ok (.agg ⟨[.int .i64 0, .int .i64 0, .slice none 0 0]⟩) w := by kernel_rfl
theorem run_bO1 (k : Int) (w : World) : (Instr.build 55 #[(0, .int .i64 k)]).run Tryz.prog w = .ok (.agg ⟨[.int .i64 k, .int .i64 0, .slice none 0 0]⟩) w := by kernel_rfl
theorem run_bO2 (k : Int) (A : Option Addr) (m c : Nat) (w : World) : (Instr.build 55 #[(0, .int .i64 k), (2, .slice A m c)]).run Tryz.prog w = .ok (.agg ⟨[.int .i64 k, .int .i64 0, .slice A m c]⟩) w := by kernel_rfl
theorem run_bO3 (k z : Int) (w : World) : (Instr.build 55 #[(0, .int .i64 k), (1, .int .i64 z)]).run Tryz.prog w = .ok (.agg ⟨[.int .i64 k, .int .i64 z, .slice none 0 0]⟩) w := by kernel_rfl
theorem st_bO0 (hE : EngB bq Tryz.prog E) (hk : K (.agg ⟨[.int .i64 0, .int .i64 0, .slice none 0 0]⟩) w) : E.stop ⟨d, .build 55 ⟨[]⟩, ty, pos, aft, g⟩ [] w K := by
 refine hE.det (v := .agg ⟨[.int .i64 0, .int .i64 0, .slice none 0 0]⟩) (fun w1 _ ρ hρ => ?_) hk
 have := run_bO0 w1
 simp [execOp, this]
theorem st_bO1 (hE : EngB bq Tryz.prog E) {k : Int} {x : Operand} (hk : K (.agg ⟨[.int .i64 k, .int .i64 0, .slice none 0 0]⟩) w) : E.stop ⟨d, .build 55 ⟨[(0, x)]⟩, ty, pos, aft, g⟩ [.int .i64 k] w K := by
 refine hE.det (v := .agg ⟨[.int .i64 k, .int .i64 0, .slice none 0 0]⟩) (fun w1 _ ρ hρ => ?_) hk
 simp only [opnds, b2_, b3_, b1_, and_true] at hρ
 have := run_bO1 k w1
 simp [execOp, hρ, this]
theorem st_bO2 (hE : EngB bq Tryz.prog E) {k : Int} {A : Option Addr} {m c : Nat} {x y : Operand} (hk : K (.agg ⟨[.int .i64 k, .int .i64 0, .slice A m c]⟩) w) : E.stop ⟨d, .build 55 ⟨[(0, x), (2, y)]⟩, ty, pos, aft, g⟩ [.int .i64 k, .slice A m c] w K := by
 refine hE.det (v := .agg ⟨[.int .i64 k, .int .i64 0, .slice A m c]⟩) (fun w1 _ ρ hρ => ?_) hk
 simp only [opnds, b2_, b3_, b1_, and_true] at hρ
 have := run_bO2 k A m c w1
 simp [execOp, hρ, this]
theorem st_bO3 (hE : EngB bq Tryz.prog E) {k z : Int} {x y : Operand} (hk : K (.agg ⟨[.int .i64 k, .int .i64 z, .slice none 0 0]⟩) w) : E.stop ⟨d, .build 55 ⟨[(0, x), (1, y)]⟩, ty, pos, aft, g⟩ [.int .i64 k, .int .i64 z] w K := by
 refine hE.det (v := .agg ⟨[.int .i64 k, .int .i64 z, .slice none 0 0]⟩) (fun w1 _ ρ hρ => ?_) hk
 simp only [opnds, b2_, b3_, b1_, and_true] at hρ
 have := run_bO3 k z w1
 simp [execOp, hρ, this]
end
theorem st_eqlNil {P : Program} {E : Sym} {w : World} {K : Value → World → Prop} {d : Option Tmp} {ty : TypeId} {pos : String} {aft : Array Edge} {g : Option (Nat × Bool)} {bq : Bool} (hE : EngB bq P E) {t t' : TypeId} {ms : Array (String × TypeId)} (ht : P.underlying t = some (.interface ms)) {x : Operand} {c : Value} (hk : K (.bool true) w) : E.stop ⟨d, .binOp .eql t x (.const c) t', ty, pos, aft, g⟩ [.nilIface, .nilIface] w K := by
 refine hE.det (v := .bool true) (fun w1 _ ρ hρ => ?_) hk
 simp only [opnds, b2_, b3_, b1_, and_true] at hρ
 have h1 : (Op.equal t .nilIface .nilIface).run P w1 = .ok true w1 := run_nil_ne ht w1 9999
 simp [execOp, hρ, binOp, h1, eqGuard]
theorem TreeV.ifc2 {D : Nat → Prop} {w : World} {t : Tr} {v : Value} (h : TreeV D w t v) : ∃ u x, v = .iface u x := by
 cases t <;> simp only [TreeV] at h
 ·obtain ⟨A, m, c, rfl, _⟩ := h; exact ⟨_, _, rfl⟩
 ·exact ⟨_, _, h.1⟩
 ·exact ⟨_, _, h⟩
 ·exact ⟨_, _, h⟩
 ·obtain ⟨A, m, c, vs, rfl, _⟩ := h; exact ⟨_, _, rfl⟩
def OutM (z o v : Addr) (B : Nat) (w : World) (R : Out) (r : Value) : Prop := match R with
 | .deny => r = .tuple ⟨[.agg ⟨[.int .i64 1, .int .i64 0, .slice none 0 0]⟩, .nilIface]⟩
 | .grant xs => ∃ A m c, r = .tuple ⟨[.agg ⟨[.int .i64 2, .int .i64 0, .slice A m c]⟩, .nilIface]⟩ ∧ Own B 9 1 w A m c (xs.map .string) ∧ (∀ s ∈ xs, s.size ≤ 9223372036854775807) ∧ xs.length ≤ 64
 | .err c => (c = 1 ∨ c = 2 ∨ c = 3) ∧ ∃ op, r = .tuple ⟨[.agg ⟨[.int .i64 0, .int .i64 0, .slice none 0 0]⟩, wwV op (sentA z o v c)]⟩
def DL (w : World) (q : Addr) (LA : Option Addr) (b : Nat) : Prop := b < w.heap.size ∧ b ≠ q.block ∧ blk LA ≠ some b
theorem lets_snoc {tys : List Int} {lv : List PV} {ty : Int} {v : PV} (h : LetsV tys lv) (hv : valV ty v) : LetsV (tys ++ [ty]) (lv ++ [v]) := by
 refine ⟨by simp [h.len], fun i t x h1 h2 => ?_⟩
 rcases Nat.lt_or_ge i tys.length with hi | hi
 ·rw [List.getElem?_append_left hi] at h1
  rw [List.getElem?_append_left (by rw [h.len]; exact hi)] at h2
  exact h.val i t x h1 h2
 ·rw [List.getElem?_append_right hi] at h1
  rw [List.getElem?_append_right (by rw [h.len]; exact hi)] at h2
  have : i - tys.length = 0 := by
   rcases Nat.eq_zero_or_pos (i - tys.length) with h0 | h0
   ·exact h0
   ·rw [List.getElem?_eq_none (by simp; omega)] at h1; cases h1
  rw [this] at h1
  rw [show i - lv.length = 0 by rw [h.len]; exact this] at h2
  simp at h1 h2
  subst h1; subst h2; exact hv
def lastO (rq lets : List PV) : Option Tr → Out
 | none => .deny
 | some g => grantR (evT rq lets g)
theorem decR_cons (rq : List PV) (s : PS) (p : PT) (l : List (PS × PT)) (lets : List PV) : decR rq ((s, p) :: l) lets = match p.c with
  | none => lastO rq lets p.g
  | some c => match evT rq lets c with
   | .inl e => .err e
   | .inr v => if s.k = 1 then decR rq l (lets ++ [v]) else if v.n = 0 then decR rq l lets else lastO rq lets p.g := by
 rw [decR]
 cases p.g <;> rfl
theorem decide_g {wt w : World} (hxt : Ext wt w) {q ra : Addr} {rq : RQ} (hqb : wt.heap.size ≤ q.block) (hqf : blk (some q) = some q.block) (hbox : Own wt.heap.size 141 2 w (some q) 1 1 [.pointer (some ra), .slice none 0 0]) (hrq : RqR (fun b => b < wt.heap.size) w ra rq) (hra : ra.block < w.heap.size ∧ ra.block ≠ q.block) {A : Option Addr} {m c : Nat} {es : List SV} (hes : SVs wt A m c es) (hm6 : m ≤ 600) (hok : DecOK (spOf es) [] []) (hreq : ReqV (rqP rq)) {z o v : Addr} (he : Errs wt z o v) (hT : Tab wt 7 calcF) :
  GC Tryz.prog 84 [.pointer (some q), .slice A m c] w fun r w' => OutM z o v wt.heap.size w' (decR (rqP rq) (spOf es) []) r ∧ Ext wt w' := by
 refine GC.intro (cs := []) Tryz.func84 (by kernel_rfl) fun E R hE hr hR => ?_
 obtain ⟨ms, hu⟩ := uErr
 obtain ⟨OUT, hOUT⟩ : ∃ O, O = decR (rqP rq) (spOf es) [] := ⟨_, rfl⟩
 rw [← hOUT] at hR
 have hlen := hes.len
 have hst := hxt.size
 conv => cbv
 refine st_alloc hr tOc rfl fun q4 w0 hx0 h40 => ?_
 have h4 := h40 wt.heap.size hst
 have f4 := bx_form (h40 _ (n1_ _))
 have fq := bx_form hbox
 clear h40
 conv => cbv
 refine st_len hE sSt fun x1 hx1' => ?_
 conv => cbv
 have sr : ra.block < w0.heap.size := by have := hx0.size; omega
 refine loop_rulec [11] hr (fun (st : Nat × Int × Option Addr × Nat × Nat × List VV × List ByteArray × List Int) w' => st.1 ≤ m ∧ st.2.1 = (st.1 : Int) ∧ Ext wt w' ∧ w0.heap.size ≤ w'.heap.size ∧ Own wt.heap.size 141 2 w' (some q) 1 1 [.pointer (some ra), .slice st.2.2.1 st.2.2.2.1 st.2.2.2.2.1] ∧ Box wt.heap.size 55 3 w' q4 zOc ∧
   Own wt.heap.size 218 4 w' st.2.2.1 st.2.2.2.1 st.2.2.2.2.1 (st.2.2.2.2.2.1.flatMap vC) ∧ (∀ g, blk st.2.2.1 = some g → g ≠ q.block ∧ g ≠ q4.block ∧ g ≠ ra.block) ∧ (st.2.2.2.2.2.1.length = st.2.2.2.1 ∧ st.2.2.2.1 ≤ st.1) ∧ (∀ x ∈ st.2.2.2.2.2.1, ValM w' x ∧ InD (DL w' q st.2.2.1) x.A x.m) ∧ RqR (fun b => b < wt.heap.size) w' ra rq ∧
   DecOK ((spOf es).drop st.1) st.2.2.2.2.2.2.1 st.2.2.2.2.2.2.2 ∧ LetsV st.2.2.2.2.2.2.2 (st.2.2.2.2.2.1.map (·.p)) ∧ decR (rqP rq) ((spOf es).drop st.1) (st.2.2.2.2.2.1.map (·.p)) = OUT)
  (fun st => [(0, .pointer (some q)), (4, .pointer (some q4)), (12, .slice A m c), (13, .int .i64 x1), (14, .int .i64 st.2.1)]) (fun st => m - st.1) (0, 0, none, 0, 0, [], [], [])
  (by simp [Fits, lk]) ⟨by simp, by simp, hxt.trans hx0, n1_ _, hbox.bel hx0, h4, Own.nil, (by intro g q; cases q), ⟨by simp, by simp⟩, (by simp), hrq.ext hx0, by simpa using hok, ⟨by simp, by simp⟩, by simp [hOUT]⟩ ?_
 clear h4 hbox hrq
 rintro J hJ ⟨j, jj, LA, ln, lc, lv, names, tys⟩ w' ⟨hj, hjj, hx, hs0, hb, h4, hl, hla, ⟨hlvl, hlj⟩, hvals, hrq, hdk, hlets, hdr⟩
 simp only at hj hjj hb hl hla hlvl hlj hvals hdk hlets hdr
 obtain ⟨jk, hjk⟩ : ∃ z, z = jj + 1 := ⟨_, rfl⟩
 conv => cbv
 refine br (fun g => ?_) (fun g => ?_)
 rotate_left
 ·have g : j = m := by
   have : ¬ jj < x1 := by simpa [hE.cmp, cmpR] using g
   omega
  rw [List.drop_eq_nil_of_le (by unfold spOf; rw [List.length_map]; omega)] at hdk
  simp only [DecOK] at hdk
 have g : j < m := by
  have : jj < x1 := by simpa [hE.cmp, cmpR] using g
  omega
 have ej : E.ar .add .i64 jj 1 = jk := by rw [hE.ar, hjk]; exact wrap_in (by omega) (by omega)
 obtain ⟨e, he1⟩ : ∃ e, es[j]? = some e := ⟨_, g2_ (by omega)⟩
 obtain ⟨aA0, hA0, hcell⟩ := fl_at fV_len (hes.cells.ext hx) (by omega) he1
 have htr := hes.trees e (m1_ he1)
 have o1 := htr.1.one
 have o2 := htr.2.one
 have hz : (spOf es)[j]? = some (e.s, e.p) := by unfold spOf; rw [List.getElem?_map, he1]; rfl
 rw [drop_cons hz] at hdk hdr
 rw [decR_cons] at hdr
 simp only [DecOK] at hdk
 obtain ⟨⟨k, nm, sc, sg⟩, ⟨pc, pg⟩, cv, gv, ii⟩ := e
 simp only at hdk hdr htr o1 o2
 obtain ⟨hgr, hdk⟩ := hdk
 have wtq : ∀ {w1 : World} {X : Option Addr}, Ext wt w1 → (∀ g, blk X = some g → wt.heap.size ≤ g) → ∀ b, b < wt.heap.size → DL w1 q X b := fun hx1 hX b hb => ⟨by have := hx1.size; omega, by omega, fun e => by have := hX b e; omega⟩
 have laq : ∀ g, blk LA = some g → wt.heap.size ≤ g := fun g hg => (own_blk hl g hg).1
 have ask : ∀ (t : Tr) (tv : Value), TOK names tys t → TreeV (fun b => b < wt.heap.size) wt t tv → ∀ w1, Ext w' w1 →
   FC Tryz.prog 140 [.pointer (some q), tv] w1 fun r w2 => ResM z o v (fun b => DL w' q LA b ∨ DNew w1 w2 b) w2 (evT (rqP rq) (lv.map (·.p)) t) r := fun t tv hto htv w1 hx1 => by
  have hwt1 := hx.trans hx1
  refine value_all names tys 64 t tv hto.d hto.g hto.c hto.e w1 (DL w' q LA) (fun b hb => n3_ hb.1 hx1.size) ?_ q ra rq LA ln lc lv ?_ hlets hreq z o v (he.ext hwt1) (hT.ext hwt1)
  ·exact TreeV.keep (fun b hb => hwt1.block b hb) (fun b hb => wtq hx laq b hb) t tv htv
  ·have hrq1 := hrq.ext hx1
   exact ⟨fun j u hu => hx1.cell (hb.at j u hu), ⟨hrq1.cells, hrq1.s1, hrq1.s2, fun a ha hm => wtq hx laq _ (hrq1.d1 a ha hm), fun a ha hm => wtq hx laq _ (hrq1.d2 a ha hm), hrq1.t1, hrq1.t2⟩, hlvl, hl.cells.ext hx1, fun x hx' => ⟨(hvals x hx').1.ext hx1, (hvals x hx').2⟩⟩
 conv => cbv
 refine st_idx hE sSt hA0 (by omega) (by omega) fun p hp => ?_
 rw [show jj.toNat = j by omega] at hp
 conv => cbv
 refine st_loadS hE tSt (vs := [.int .i64 k, .string nm, cv, gv, .int .i64 ii]) rfl (by rw [hp]; exact hcell) ?_
 conv => cbv
 refine st_alloc hr tSt rfl fun q6 w3 hx3 hq0 => ?_
 have f6 := bx_form (hq0 _ (n1_ _))
 conv => cbv
 refine st_putS hr (by kernel_rfl) (hq0 _ (n1_ _)) (add_zero _).symm (by simp [zSt]) (by
  intro y hy
  simp only [List.mem_cons, List.not_mem_nil, or_false] at hy
  rcases hy with rfl | rfl | rfl | rfl | rfl <;> first | rfl | assumption) fun w4 hw4 h6 => ?_
 simp only [zSt, a1_, a2_, a3_, a4_, a5_, a6_, a7_] at h6
 have hx4 : Ext w' w4 := hx3.then (hw4.bel (hq0 _ (n1_ _)) hx3.size)
 have s3 := hx3.size
 have s4 := hx4.size
 clear hx3 hq0 hw4 hp hcell
 conv => cbv
 refine cut_rule [] [] hr (fun (_ : Unit) w5 => Ext w' w5 ∧ Box w'.heap.size 180 5 w5 q6 [.int .i64 k, .string nm, cv, gv, .int .i64 ii] ∧ OUT = lastO (rqP rq) (lv.map (·.p)) pg) (fun _ => [(0, .pointer (some q)), (4, .pointer (some q4)), (7, .pointer (some q6)), (12, .slice A m c), (13, .int .i64 x1), (14, .int .i64 jj)]) (fun J2 hJ2 => ?_) ?_
 rotate_left
 ·rintro ⟨⟩ w5 ⟨hx5, h6, hout⟩
  have h45 := h4.bel hx5
  have hwt5 := hx.trans hx5
  have s5 := hx5.size
  have f4b : wt.heap.size ≤ q4.block := by omega
  conv => cbv
  (refine st_fld hE fSt3 fun p hp => ?_; (conv => cbv); refine st_load hE cTr (by rw [hp]; exact (h6).at _ _ rfl) ?_; (conv => cbv))
  cases pg with
  | none =>
   have hgv : gv = .nilIface := htr.2
   subst hgv
   refine st_eqlNil hE Tryz.underlying178 ?_
   conv => cbv
   refine st_bO1 hE ?_
   conv => cbv
   refine st_putS hr (by kernel_rfl) h45 (add_zero _).symm (by simp [zOc]) (by simp [Value.oneCell']) fun w9 hw9 h49 => ?_
   simp only [zOc, a1_, a2_, a3_, a4_, a5_, a6_, a7_] at h49
   conv => cbv
   refine st_cell hr tOc rfl h49.at ?_
   conv => cbv
   rw [hR, hout]
   exact ⟨rfl, hwt5.then (hw9.bel h45 hwt5.size)⟩
  | some t =>
   have htv : TreeV _ _ t gv := htr.2
   obtain ⟨u, v2, rfl⟩ := htv.ifc2
   obtain ⟨hto, hty4⟩ := hgr t rfl
   refine st_eqlSome hE Tryz.underlying178 ?_
   conv => cbv
   (refine st_fld hE fSt3 fun p hp => ?_; (conv => cbv); refine st_load hE cTr (by rw [hp]; exact (h6).at _ _ rfl) ?_; (conv => cbv))
   have hev := ev_ok hreq hlets t hto.g hto.c hto.e
   refine st_f hr (ask t _ hto htv w5 hx5) fun r w6 hx6 hres => ?_
   obtain ⟨R0, hR0⟩ : ∃ R0, R0 = evT (rqP rq) (lv.map (·.p)) t := ⟨_, rfl⟩
   rw [← hR0] at hres hev
   have hout : OUT = grantR R0 := by rw [hout, hR0]; rfl
   have h46 := h45.bel hx6
   have hwt6 := hwt5.trans hx6
   have s6 := hx6.size
   cases R0 with
   | inl cc =>
    obtain ⟨hcc, ⟨⟨yk, yn, yt, yy⟩, yA, ym, yc⟩, op', rfl⟩ := hres
    conv => cbv
    refine st_alloc hr tIV rfl fun q7 w7 hx7 h70 => ?_
    have h7 := h70 _ (n1_ _)
    have f7 := bx_form h7
    conv => cbv
    refine st_putS hr (by kernel_rfl) h7 (add_zero _).symm (by simp [zV]) (by simp [Value.oneCell']) fun w8 hw8 h78 => ?_
    have h48 := (h46.bel hx7).wr hw8 (bx_apart f4.2.2 f7.2.2 (by omega))
    have hwt8 := (hwt6.trans hx7).then (hw8.bel h7 (by have := hx7.size; have := hwt6.size; omega) |>.mono (by have := hwt6.size; omega))
    conv => cbv
    refine st_neSome hE hu ?_
    conv => cbv
    refine st_bO0 hE ?_
    conv => cbv
    refine st_putS hr (by kernel_rfl) h48 (add_zero _).symm (by simp [zOc]) (by simp [Value.oneCell']) fun w9 hw9 h49 => ?_
    simp only [zOc, a1_, a2_, a3_, a4_, a5_, a6_, a7_] at h49
    conv => cbv
    refine st_cell hr tOc rfl h49.at ?_
    conv => cbv
    rw [hR, hout]
    exact ⟨⟨hcc, op', rfl⟩, hwt8.then (hw9.bel h48 hwt8.size)⟩
   | inr p1 =>
    obtain ⟨⟨⟨yk, yn, yt, yy⟩, yA, ym, yc⟩, rfl, rfl, hym, hyD⟩ := hres
    have hev4 : valV 4 ⟨yk, yn, yt, yy⟩ := by rw [hty4] at hev; exact hev
    have hset := (val4 hev4).2.2.2
    simp only at hset
    conv => cbv
    refine st_alloc hr tIV rfl fun q7 w7 hx7 h70 => ?_
    have h7 := h70 _ (n1_ _)
    have f7 := bx_form h7
    clear h70
    conv => cbv
    refine st_putS hr (by kernel_rfl) h7 (add_zero _).symm (by simp [zV]) (by simp [Value.oneCell']) fun w8 hw8 h78 => ?_
    simp only [zV, a1_, a2_, a3_, a4_, a5_, a6_, a7_] at h78
    have s7 := hx7.size
    have hx68 : Ext w6 w8 := hx7.then (hw8.bel h7 hx7.size |>.mono (n1_ _))
    have h48 := (h46.bel hx7).wr hw8 (bx_apart f4.2.2 f7.2.2 (by omega))
    have hwt8 := hwt6.trans hx68
    have hym8 := hym.ext hx68
    have s68 := hx68.size
    conv => cbv
    refine st_neNil hE hu ?_
    conv => cbv
    refine st_none hr tStrs fun AA w9 hx9 ho0 => ?_
    have ho := ho0 w8.heap.size (n1_ _)
    clear ho0
    have s9 := hx9.size
    have hyl := (hym8.1).len
    simp only at hyl
    have hs64 := hset.2.2
    conv => cbv
    (refine st_fld hE fIV3 fun p hp => ?_; (conv => cbv); refine st_load hE cStrs (by rw [hp]; exact ((h78.bel hx9)).at _ _ rfl) ?_; (conv => cbv))
    refine st_apps hr tStrs rfl ho ((hym8.ext hx9).1).cells (by rw [List.length_map]; exact hyl) (by simp [Value.oneCell']) hx9.size (by omega) (by omega) fun NA nc nm2 w10 hnm hw10 hoN => ?_
    rw [Nat.zero_add] at hnm
    subst hnm
    rw [a2_] at hoN
    have hx10 := hx9.then (hw10.bel ho hx9.size)
    have h410 := h48.bel hx10
    have hwt10 := hwt8.trans hx10
    have s10 := hx10.size
    conv => cbv
    refine st_bO2 hE ?_
    conv => cbv
    refine st_putS hr (by kernel_rfl) h410 (add_zero _).symm (by simp [zOc]) (by simp [Value.oneCell']) fun w11 hw11 h49 => ?_
    simp only [zOc, a1_, a2_, a3_, a4_, a5_, a6_, a7_] at h49
    have hoN11 := hoN.wr hw11 (own_low hoN (by omega) f4.2.2).1
    conv => cbv
    refine st_cell hr tOc rfl h49.at ?_
    conv => cbv
    rw [hR, hout]
    exact ⟨⟨NA, _, nc, rfl, hoN11.mono (by omega), hym.1.5, hs64⟩, hwt10.then (hw11.bel h410 hwt10.size)⟩
 conv => cbv
 (refine st_fld hE fSt2 fun p hp => ?_; (conv => cbv); refine st_load hE cTr (by rw [hp]; exact (h6).at _ _ rfl) ?_; (conv => cbv))
 rcases hdk with ⟨hk3, hpc⟩ | ⟨hk1, t, hpc, hto, hdk⟩ | ⟨hk2, t, hpc, hto, hty1, hdk⟩
 ·subst hpc
  have hcv : cv = .nilIface := htr.1
  subst hcv
  refine st_neNil hE Tryz.underlying178 ?_
  conv => cbv
  exact ⟨(), by simp [Fits, lk], hJ2 _ _ ⟨hx4, h6, hdr.symm⟩⟩
 ·subst hpc
  have htv : TreeV _ _ t cv := htr.1
  obtain ⟨u, v2, rfl⟩ := htv.ifc2
  refine st_neSome hE Tryz.underlying178 ?_
  conv => cbv
  (refine st_fld hE fSt2 fun p hp => ?_; (conv => cbv); refine st_load hE cTr (by rw [hp]; exact (h6).at _ _ rfl) ?_; (conv => cbv))
  have hev := ev_ok hreq hlets t hto.g hto.c hto.e
  refine st_f hr (ask t _ hto htv w4 hx4) fun r w5 hx5 hres => ?_
  obtain ⟨R0, hR0⟩ : ∃ R0, R0 = evT (rqP rq) (lv.map (·.p)) t := ⟨_, rfl⟩
  simp only [← hR0] at hdr
  rw [← hR0] at hres hev
  have hx45 := hx4.trans hx5
  have h45 := h4.bel hx45
  have hwt5 := hx.trans hx45
  have s5 := hx5.size
  have sw := hwt5.size
  cases R0 with
  | inl cc =>
   obtain ⟨hcc, ⟨⟨yk, yn, yt, yy⟩, yA, ym, yc⟩, op', rfl⟩ := hres
   conv => cbv
   refine st_alloc hr tIV rfl fun q7 w7 hx7 h70 => ?_
   have h7 := h70 _ (n1_ _)
   have f7 := bx_form h7
   conv => cbv
   refine st_putS hr (by kernel_rfl) h7 (add_zero _).symm (by simp [zV]) (by simp [Value.oneCell']) fun w8 hw8 h78 => ?_
   have s7 := hx7.size
   have h48 := (h45.bel hx7).wr hw8 (bx_apart f4.2.2 f7.2.2 (by omega))
   have hwt8 := (hwt5.trans hx7).then (hw8.bel h7 hx7.size |>.mono (by omega))
   conv => cbv
   refine st_neSome hE hu ?_
   conv => cbv
   refine st_bO0 hE ?_
   conv => cbv
   refine st_putS hr (by kernel_rfl) h48 (add_zero _).symm (by simp [zOc]) (by simp [Value.oneCell']) fun w9 hw9 h49 => ?_
   simp only [zOc, a1_, a2_, a3_, a4_, a5_, a6_, a7_] at h49
   conv => cbv
   refine st_cell hr tOc rfl h49.at ?_
   conv => cbv
   rw [hR, ← hdr]
   exact ⟨⟨hcc, op', rfl⟩, hwt8.then (hw9.bel h48 hwt8.size)⟩
  | inr p1 =>
   obtain ⟨⟨⟨yk, yn, yt, yy⟩, yA, ym, yc⟩, rfl, rfl, hym, hyD⟩ := hres
   simp only at hdr hev hyD
   conv => cbv
   refine st_alloc hr tIV rfl fun q7 w7 hx7 h70 => ?_
   have h7 := h70 _ (n1_ _)
   have f7 := bx_form h7
   clear h70
   conv => cbv
   refine st_putS hr (by kernel_rfl) h7 (add_zero _).symm (by simp [zV]) (by simp [Value.oneCell']) fun w8 hw8 h78 => ?_
   simp only [zV, a1_, a2_, a3_, a4_, a5_, a6_, a7_] at h78
   have s7 := hx7.size
   have hx58 : Ext w5 w8 := hx7.then (hw8.bel h7 hx7.size |>.mono (n1_ _))
   have h68 := (h6.bel hx5).bel hx58
   have hx48 := hx45.trans hx58
   have h48 := h4.bel hx48
   have hwt8 := hx.trans hx48
   have hym8 := hym.ext hx58
   have s58 := hx58.size
   conv => cbv
   refine st_neNil hE hu ?_
   conv => cbv
   (refine st_fld hE fSt0 fun p hp => ?_; (conv => cbv); refine st_load hE cInt (by rw [hp]; exact (h68).at _ _ rfl) ?_; (conv => cbv))
   refine br (fun _ => ?_) (fun q => absurd hk1 (by simpa [hE.cmp, cmpR] using q))
   rw [if_pos hk1] at hdr
   have hb8 := hb.bel hx48
   have hl8 := hl.bel hx48
   conv => cbv
   refine draw_z [2, 3, 4, 5] [0, 1, 2, 3, 4, 5] [(6, .c), (7, .w), (8, .w), (9, .w), (10, .w)] hr fol (by kernel_rfl) fun E' hE' w9 hs9 S hS => ?_
   have hb9 := hb8.bel hs9.ext
   have hl9 := hl8.bel hs9.ext
   conv => cbv
   refine st_nil hE' ?_
   conv => cbv
   (refine st_fld hE' fDc1 fun p hp => ?_; (conv => cbv); refine st_load hE' cIVs (by rw [hp]; exact (hb9).at _ _ rfl) ?_; (conv => cbv))
   refine st_loadS hE' tIV rfl (h78.bel hs9.ext).at ?_
   conv => cbv
   refine st_oneS hr sIV rfl (by omega) (by omega) rfl fun A7 w10 hx10 hc10 => ?_
   refine ⟨hS _ hx10, ?_⟩
   have s9 := hs9.ext.size
   have s10 := hx10.size
   have hx810 := hs9.ext.trans hx10
   have hx410 := hx48.trans hx810
   have hl10 := hl9.bel hx10
   have hb10 := hb9.bel hx10
   conv => cbv
   refine st_appsKG hr sIV rfl (by omega) hl10 hc10 rfl (by omega) (by simp [Value.oneCell']) (by omega) (by omega) (by omega) fun A8 c8 m8 w11 hm8 hw11 ho11 hbk => ?_
   subst hm8
   have qLA : Apart LA (some q) ∧ Apart (some q) LA := by
    constructor
    ·rcases hl10.blk with h | ⟨g, h, _⟩
     ·exact .inl h
     ·exact .inr (by rw [hqf]; intro e; exact (hla q.block e).1 rfl)
    ·exact .inr (by rw [hqf]; intro e; exact (hla q.block e.symm).1 rfl)
   have hb11 := hb10.wr hw11 qLA.2
   conv => cbv
   refine st_nil hE ?_
   conv => cbv
   refine st_fld hE fDc1 fun p hp => ?_
   conv => cbv
   refine st_put hr zIVs hb11 hp (by simp) rfl fun w12 hw12 hb12 => ?_
   simp only [b4_, b5_] at hb12
   have s11 := hw11.size
   have s12 := hw12.size
   have keep : ∀ b, b < w10.heap.size → b ≠ q.block → blk LA ≠ some b → w12.heap[b]? = w10.heap[b]? := fun b h1 h2 h3 => by
    rw [hw12.block b (by omega) (by rw [hqf]; intro e; cases e; exact h2 rfl), hw11.block b h1 (fun e => h3 e.symm)]
   have hblkA8 : ∀ g, blk A8 = some g → g ≠ q.block ∧ g ≠ q4.block ∧ g ≠ ra.block := fun g hg => by
    rcases hbk with h | h
    ·rw [h] at hg; exact hla g hg
    ·rw [h] at hg; cases hg; exact ⟨by have := fq.2.1; have := hx0.size; omega, by omega, by omega⟩
   have ho12 := ho11.wr hw12 (by
    rcases ho11.blk with h | ⟨g, h, _⟩
    ·exact .inl h
    ·exact .inr (by rw [hqf]; intro e; exact (hblkA8 q.block e).1 rfl))
   have h412 := ((h4.bel hx410).wr hw11 (by
    exact .inr (by rw [f4.2.2]; intro e; exact (hla q4.block e.symm).2.1 rfl))).wr hw12 (bx_apart f4.2.2 hqf (by have := fq.2.1; omega))
   have hwt12 : Ext wt w12 := by
    have h1 : Ext wt w11 := (hx.trans hx410).then (hw11.bel hl10 (by omega))
    exact h1.then (hw12.bel hb11 (by omega))
   have kv : ∀ x : VV, ValM w10 x → InD (fun b => DL w' q LA b ∨ (w'.heap.size ≤ b ∧ b < w10.heap.size)) x.A x.m → ValM w12 x ∧ InD (DL w12 q A8) x.A x.m := fun x h1 h2 => by
    have hb1 : ∀ b, DL w' q LA b ∨ (w'.heap.size ≤ b ∧ b < w10.heap.size) → b < w10.heap.size ∧ b ≠ q.block ∧ blk LA ≠ some b := fun b hb => by
     rcases hb with ⟨h1, h2, h3⟩ | ⟨h1, h2⟩
     ·exact ⟨by omega, h2, h3⟩
     ·exact ⟨h2, by have := fq.2.1; have := hx0.size; omega, fun e => by have := (own_blk hl b e).2; omega⟩
    refine ⟨⟨strs_keep h1.1 h2 (fun b hb => by obtain ⟨g1, g2, g3⟩ := hb1 b hb; exact keep b g1 g2 g3), h1.2⟩, fun a ha hm => ?_⟩
    obtain ⟨g1, g2, g3⟩ := hb1 _ (h2 a ha hm)
    refine ⟨by omega, g2, fun e => ?_⟩
    rcases hbk with h | h
    ·rw [h] at e; exact g3 e
    ·rw [h] at e; have e := Option.some.inj e; omega
   have hrq12 : RqR (fun b => b < wt.heap.size) w12 ra rq := by
    have h1 := hrq.ext hx410
    refine ⟨fun j u hu => ?_, strs_keep h1.s1 h1.d1 (fun b hb => keep b (by omega) (by omega) (fun e => by have := laq b e; omega)), strs_keep h1.s2 h1.d2 (fun b hb => keep b (by omega) (by omega) (fun e => by have := laq b e; omega)), h1.d1, h1.d2, h1.t1, h1.t2⟩
    rw [← h1.cells j u hu]
    have hrb : (ra.add j).block = ra.block := by unfold Addr.add; split <;> rfl
    unfold World.cell?
    rw [hrb, keep ra.block (by omega) hra.2 (fun e => (hla _ e).2.2 rfl)]
   conv => cbv
   simp only [ej]
   refine ⟨(j + 1, jk, A8, ln + 1, c8, lv ++ [⟨⟨yk, yn, yt, yy⟩, yA, ym, yc⟩], names ++ [nm], tys ++ [(tyT names tys t).1]), by simp [Fits, lk], hJ _ _ ?_, by simp only; omega⟩
   refine ⟨by simp only; omega, by simp only; omega, hwt12, by omega, hb12, h412, ?_, hblkA8, ⟨by simp only [List.length_append, a3_, a4_]; omega, by simp only; omega⟩, ?_, hrq12, hdk, ?_, ?_⟩
   ·simp only
    rw [List.flatMap_append]
    simpa [vC] using ho12
   ·intro x hx'
    rcases List.mem_append.1 hx' with hx' | hx'
    ·obtain ⟨g1, g2⟩ := hvals x hx'
     exact kv x (g1.ext hx410) fun a ha hm => .inl (g2 a ha hm)
    ·rw [List.mem_singleton.1 hx']
     refine kv _ (hym8.ext hx810) fun a ha hm => ?_
     rcases hyD a ha hm with hb' | ⟨b1, b2⟩
     ·exact .inl hb'
     ·exact .inr ⟨by omega, by omega⟩
   ·simp only
    rw [List.map_append]
    exact lets_snoc hlets hev
   ·simp only
    rw [List.map_append]
    exact hdr
 ·subst hpc
  have htv : TreeV _ _ t cv := htr.1
  obtain ⟨u, v2, rfl⟩ := htv.ifc2
  refine st_neSome hE Tryz.underlying178 ?_
  conv => cbv
  (refine st_fld hE fSt2 fun p hp => ?_; (conv => cbv); refine st_load hE cTr (by rw [hp]; exact (h6).at _ _ rfl) ?_; (conv => cbv))
  have hev := ev_ok hreq hlets t hto.g hto.c hto.e
  refine st_f hr (ask t _ hto htv w4 hx4) fun r w5 hx5 hres => ?_
  obtain ⟨R0, hR0⟩ : ∃ R0, R0 = evT (rqP rq) (lv.map (·.p)) t := ⟨_, rfl⟩
  simp only [← hR0] at hdr
  rw [← hR0] at hres hev
  have hx45 := hx4.trans hx5
  have h45 := h4.bel hx45
  have hwt5 := hx.trans hx45
  have s5 := hx5.size
  have sw := hwt5.size
  cases R0 with
  | inl cc =>
   obtain ⟨hcc, ⟨⟨yk, yn, yt, yy⟩, yA, ym, yc⟩, op', rfl⟩ := hres
   conv => cbv
   refine st_alloc hr tIV rfl fun q7 w7 hx7 h70 => ?_
   have h7 := h70 _ (n1_ _)
   have f7 := bx_form h7
   conv => cbv
   refine st_putS hr (by kernel_rfl) h7 (add_zero _).symm (by simp [zV]) (by simp [Value.oneCell']) fun w8 hw8 h78 => ?_
   have s7 := hx7.size
   have h48 := (h45.bel hx7).wr hw8 (bx_apart f4.2.2 f7.2.2 (by omega))
   have hwt8 := (hwt5.trans hx7).then (hw8.bel h7 hx7.size |>.mono (by omega))
   conv => cbv
   refine st_neSome hE hu ?_
   conv => cbv
   refine st_bO0 hE ?_
   conv => cbv
   refine st_putS hr (by kernel_rfl) h48 (add_zero _).symm (by simp [zOc]) (by simp [Value.oneCell']) fun w9 hw9 h49 => ?_
   simp only [zOc, a1_, a2_, a3_, a4_, a5_, a6_, a7_] at h49
   conv => cbv
   refine st_cell hr tOc rfl h49.at ?_
   conv => cbv
   rw [hR, ← hdr]
   exact ⟨⟨hcc, op', rfl⟩, hwt8.then (hw9.bel h48 hwt8.size)⟩
  | inr p1 =>
   obtain ⟨⟨⟨yk, yn, yt, yy⟩, yA, ym, yc⟩, rfl, rfl, hym, hyD⟩ := hres
   simp only at hdr hev hyD
   conv => cbv
   refine st_alloc hr tIV rfl fun q7 w7 hx7 h70 => ?_
   have h7 := h70 _ (n1_ _)
   have f7 := bx_form h7
   clear h70
   conv => cbv
   refine st_putS hr (by kernel_rfl) h7 (add_zero _).symm (by simp [zV]) (by simp [Value.oneCell']) fun w8 hw8 h78 => ?_
   simp only [zV, a1_, a2_, a3_, a4_, a5_, a6_, a7_] at h78
   have s7 := hx7.size
   have hx58 : Ext w5 w8 := hx7.then (hw8.bel h7 hx7.size |>.mono (n1_ _))
   have h68 := (h6.bel hx5).bel hx58
   have hx48 := hx45.trans hx58
   have h48 := h4.bel hx48
   have hwt8 := hx.trans hx48
   have hym8 := hym.ext hx58
   have s58 := hx58.size
   conv => cbv
   refine st_neNil hE hu ?_
   conv => cbv
   (refine st_fld hE fSt0 fun p hp => ?_; (conv => cbv); refine st_load hE cInt (by rw [hp]; exact (h68).at _ _ rfl) ?_; (conv => cbv))
   have hk1 : k ≠ 1 := by omega
   refine br (fun q => absurd (by simpa [hE.cmp, cmpR] using q) hk1) (fun _ => ?_)
   rw [if_neg hk1] at hdr
   conv => cbv
   (refine st_fld hE fIV1 fun p hp => ?_; (conv => cbv); refine st_load hE cI64 (by rw [hp]; exact (h78).at _ _ rfl) ?_; (conv => cbv))
   refine br (fun g2 => ?_) (fun g2 => ?_)
   ·have g2 : yn = 0 := by simpa [hE.cmp, cmpR] using g2
    rw [if_pos g2] at hdr
    conv => cbv
    simp only [ej]
    refine ⟨(j + 1, jk, LA, ln, lc, lv, names, tys), by simp [Fits, lk], hJ _ _ ⟨by simp only; omega, by simp only; omega, hwt8, by omega, hb.bel hx48, h48, hl.bel hx48, hla, ⟨hlvl, by simp only; omega⟩, fun x hx' => ?_, hrq.ext hx48, hdk, hlets, hdr⟩, by simp only; omega⟩
    obtain ⟨g1, g3⟩ := hvals x hx'
    exact ⟨g1.ext hx48, fun a ha hm => by obtain ⟨k1, k2, k3⟩ := g3 a ha hm; exact ⟨by omega, k2, k3⟩⟩
   ·have g2 : yn ≠ 0 := by simpa [hE.cmp, cmpR] using g2
    rw [if_neg g2] at hdr
    conv => cbv
    exact ⟨(), by simp [Fits, lk], hJ2 _ _ ⟨hx48, h68, hdr.symm⟩⟩
abbrev rqL (cl us : ByteArray) (lv nw : Int) (xs ys : List ByteArray) : List PV := [⟨3, 0, cl, []⟩, ⟨3, 0, us, []⟩, ⟨2, lv, noS, []⟩, ⟨2, nw, noS, []⟩, ⟨4, 0, noS, xs⟩, ⟨4, 0, noS, ys⟩]
abbrev reqV (cl us : ByteArray) (lv nw : Int) (A : Option Addr) (n c : Nat) (A2 : Option Addr) (n2 c2 : Nat) : Value := .agg ⟨[.string cl, .string us, .int .i64 lv, .int .i64 nw, .slice A n c, .slice A2 n2 c2]⟩
def ocOf : Out → Int × Int × List ByteArray
 | .deny => (1, 0, [])
 | .grant xs => (2, 0, xs)
 | .err c => (3, c, [])
def DecP (nv : List PN) (sv : List PS) (tyl : List Int) (cl us : ByteArray) (lv nw : Int) (xs ys : List ByteArray) (x : Int × Int × List ByteArray) : Prop :=
 (¬ (wellP nv sv tyl ∧ validReq cl us xs ys) ∧ x = (4, 0, [])) ∨ ((wellP nv sv tyl ∧ validReq cl us xs ys) ∧ ∃ acc y, TypedP nv sv tyl acc y ∧ x = ocOf (decR (rqL cl us lv nw xs ys) (sv.zip acc) []))
theorem DecP.unique {nv : List PN} {sv : List PS} {tyl : List Int} {cl us : ByteArray} {lv nw : Int} {xs ys : List ByteArray} {x y : Int × Int × List ByteArray} (h : DecP nv sv tyl cl us lv nw xs ys x) (k : DecP nv sv tyl cl us lv nw xs ys y) : x = y := by
 rcases h with ⟨h1, rfl⟩ | ⟨h1, acc, a, ha, rfl⟩ <;> rcases k with ⟨k1, rfl⟩ | ⟨k1, acc2, b, hb, rfl⟩
 ·rfl
 ·exact absurd k1 h1
 ·exact absurd h1 k1
 ·have := ha.2.1.symm.trans hb.2.1
  cases this; rfl
theorem req_val {cl us : ByteArray} {lv nw : Int} {xs ys : List ByteArray} (h : validReq cl us xs ys) (h1 : fits lv) (h2 : fits nw) : ReqV (rqL cl us lv nw xs ys) := by
 refine ⟨rfl, fun i v hv => ?_⟩
 obtain ⟨a, b, c, d⟩ := h
 have hi : i = 0 ∨ i = 1 ∨ i = 2 ∨ i = 3 ∨ i = 4 ∨ i = 5 := by
  have := (List.getElem?_eq_some_iff.1 hv).1
  simp at this; omega
 have sz : ∀ {s : ByteArray}, validName s → s.size ≤ 9223372036854775807 := fun h => by have := h.2.2; omega
 rcases hi with rfl | rfl | rfl | rfl | rfl | rfl <;> simp at hv <;> subst hv
 ·exact ⟨rfl, .inr (.inr (.inl ⟨rfl, rfl, rfl, sz a⟩))⟩
 ·exact ⟨rfl, .inr (.inr (.inl ⟨rfl, rfl, rfl, sz b⟩))⟩
 ·exact ⟨rfl, .inr (.inl ⟨rfl, h1, rfl, rfl⟩)⟩
 ·exact ⟨rfl, .inr (.inl ⟨rfl, h2, rfl, rfl⟩)⟩
 ·exact ⟨rfl, .inr (.inr (.inr ⟨rfl, rfl, rfl, c⟩))⟩
 ·exact ⟨rfl, .inr (.inr (.inr ⟨rfl, rfl, rfl, d⟩))⟩
theorem cells_in {w : World} {A : Option Addr} {vs : List Value} (h : Cells w A vs) : InD (fun b => b < w.heap.size) A vs.length := fun a ha hm => by
 subst ha
 obtain ⟨v, hv⟩ : ∃ v, vs[0]? = some v := ⟨_, g2_ hm⟩
 have := h.2 a rfl 0 v hv
 rw [add_zero] at this
 rcases Nat.lt_or_ge a.block w.heap.size with h | h
 ·exact h
 ·simp [World.cell?, Array.getElem?_eq_none h] at this
theorem strs_in {w : World} {A : Option Addr} {n c : Nat} {xs : List ByteArray} (h : Strs w A n c xs) : InD (fun b => b < w.heap.size) A n := by
 have := cells_in h.cells
 rw [List.length_map, h.len] at this
 exact this
section
variable {E : Sym} {w : World} {K : Value → World → Prop} {d : Option Tmp} {ty : TypeId} {pos : String} {aft : Array Edge} {g : Option (Nat × Bool)} {bq : Bool}
theorem run_bDc (a : Addr) (w : World) : (Instr.build 141 #[(0, .pointer (some a))]).run Tryz.prog w = .ok (.agg ⟨[.pointer (some a), .slice none 0 0]⟩) w := by kernel_rfl
theorem st_bDc (hE : EngB bq Tryz.prog E) {a : Addr} {x : Operand} (hk : K (.agg ⟨[.pointer (some a), .slice none 0 0]⟩) w) : E.stop ⟨d, .build 141 ⟨[(0, x)]⟩, ty, pos, aft, g⟩ [.pointer (some a)] w K := by
 refine hE.det (v := .agg ⟨[.pointer (some a), .slice none 0 0]⟩) (fun w1 _ ρ hρ => ?_) hk
 simp only [opnds, b2_, b3_, b1_, and_true] at hρ
 have := run_bDc a w1
 simp [execOp, hρ, this]
end
theorem implDecide_f {w : World} (hT : Tab w 6 constF) (hR0 : STab w 4 words) (hTc : Tab w 7 calcF) {z o v : Addr} (he : Errs w z o v) {A A2 A3 : Option Addr} {n c n2 c2 n3 c3 : Nat} {nv : List PN} {sv : List PS} {tyl : List Int} (h : TypR w A n A2 n2 A3 n3 c3 nv sv tyl) (hn : n ≤ 9223372036854775807) (hn2 : n2 ≤ 9223372036854775807) (hf : ∀ p ∈ nv, fits p.z)
  {cl us : ByteArray} {lv nw : Int} {Q Q2 : Option Addr} {m d m2 d2 : Nat} {xs ys : List ByteArray} (hc : cl.size ≤ 9223372036854775807) (hu : us.size ≤ 9223372036854775807) (hs : Strs w Q m d xs) (hs2 : Strs w Q2 m2 d2 ys) (fl : fits lv) (fn : fits nw) :
  FC Tryz.prog 33 [typV A n c A2 n2 c2 A3 n3 c3, reqV cl us lv nw Q m d Q2 m2 d2] w fun r w' => ∃ k cd N nm nc zs, r = .agg ⟨[.int .i64 k, .int .i64 cd, .slice N nm nc]⟩ ∧ Own w.heap.size 9 1 w' N nm nc (zs.map .string) ∧ (∀ s ∈ zs, s.size ≤ 9223372036854775807) ∧ zs.length ≤ 64 ∧ DecP nv sv tyl cl us lv nw xs ys (k, cd, zs) := by
 refine FC.intro (cs := []) Tryz.func33 (by kernel_rfl) fun E R hE hr hR => ?_
 obtain ⟨ms, hui⟩ := uErr
 conv => cbv
 refine st_box hr fun q2 w1 hx1 h20 => ?_
 have h2 := h20 _ (n1_ _)
 clear h20
 conv => cbv
 refine st_box hr fun q3 w2 hx2 h30 => ?_
 have h3 := h30 _ hx1.size
 replace h2 := h2.bel hx2
 clear h30
 conv => cbv
 refine st_alloc hr tOc rfl fun q4 w3 hx3 h40 => ?_
 have h4 := h40 _ (n2_ hx1.size hx2.size)
 have f4 := bx_form h4
 replace h2 := h2.bel hx3
 replace h3 := h3.bel hx3
 have hx := (hx1.trans hx2).trans hx3
 clear h40 hx1 hx2 hx3
 have no : ∀ (w5 w9 : World), Ext w w5 → Box w.heap.size 55 3 w5 q4 zOc → Wr (some q4) w5 w9 → ¬ (wellP nv sv tyl ∧ validReq cl us xs ys) → R (.agg ⟨[.int .i64 4, .int .i64 0, .slice none 0 0]⟩) w9 := fun w5 w9 hx5 hb hw hno => by
  rw [hR]; exact ⟨hx5.then (hw.bel hb hx5.size), 4, 0, none, 0, 0, [], rfl, Own.nil, by simp, by simp, .inl ⟨hno, rfl⟩⟩
 conv => cbv
 refine st_loadS hE tITyp rfl h2.at ?_
 conv => cbv
 refine st_f hr (typedTrees_f (c := c) (c2 := c2) (hT.ext hx) (hR0.ext hx) (h.ext hx) hn hn2) fun r w4 hx4 ⟨B, mm, dd, b, ev, hb1, hb2⟩ => ?_
 subst ev
 replace h3 := h3.bel hx4
 replace h4 := h4.bel hx4
 replace hx := hx.trans hx4
 clear h2
 cases b with
 | false =>
  conv => cbv
  refine st_bO1 hE ?_
  conv => cbv
  refine st_putS hr (by kernel_rfl) h4 (add_zero _).symm (by simp [zOc]) (by simp [Value.oneCell']) fun w9 hw9 h49 => ?_
  simp only [zOc, a1_, a2_, a3_, a4_, a5_, a6_, a7_] at h49
  conv => cbv
  refine st_cell hr tOc rfl h49.at ?_
  conv => cbv
  exact no w4 w9 hx h4 hw9 fun q => by simpa using hb1.2 q.1
 | true =>
 have hwell := hb1.1 rfl
 obtain ⟨acc, xk, htyp, hlaid⟩ := hb2 rfl
 conv => cbv
 refine st_loadS hE tIReq rfl h3.at ?_
 conv => cbv
 refine st_f hr (ValidRequest_f hc hu (hs.ext hx) (hs2.ext hx)) fun r w5 hx5 ⟨b2, ev, hbr⟩ => ?_
 subst ev
 replace h3 := h3.bel hx5
 replace h4 := h4.bel hx5
 replace hx := hx.trans hx5
 cases b2 with
 | false =>
  conv => cbv
  refine st_bO1 hE ?_
  conv => cbv
  refine st_putS hr (by kernel_rfl) h4 (add_zero _).symm (by simp [zOc]) (by simp [Value.oneCell']) fun w9 hw9 h49 => ?_
  simp only [zOc, a1_, a2_, a3_, a4_, a5_, a6_, a7_] at h49
  conv => cbv
  refine st_cell hr tOc rfl h49.at ?_
  conv => cbv
  exact no w5 w9 hx h4 hw9 fun q => by simpa using hbr.2 q.2
 | true =>
 have hreq := hbr.1 rfl
 obtain ⟨es, hes, hsp, hep, hesv⟩ := hlaid.svs
 have hm6 : mm ≤ 600 := by
  have h1 := hes.len
  have h2 := hwell.1.2.2.1
  rw [← hesv, List.length_map] at h2
  omega
 have hdk := typed_dec hf hwell htyp
 have f3 := bx_form h3
 have s5 := hx.size
 conv => cbv
 refine st_bDc hE ?_
 conv => cbv
 refine st_box hr fun q w6 hx6 hq0 => ?_
 have hq := hq0 _ (n1_ _)
 have fq := bx_form hq
 clear hq0
 have hxs := hs.ext hx
 have hys := hs2.ext hx
 have s6 := hx6.size
 conv => cbv
 have hq4a : q4.block < w5.heap.size := (bx_form h4).2.1
 refine st_g hr (decide_g (wt := w5) (w := w6) (ra := q3) (rq := ⟨cl, us, lv, nw, Q, m, d, xs, Q2, m2, d2, ys⟩) hx6 fq.1 fq.2.2 hq ⟨(h3.bel hx6).at, hxs.ext hx6, hys.ext hx6, strs_in hxs, strs_in hys, hc, hu⟩ ⟨by omega, by omega⟩ (hes.ext hx5) hm6 (by rw [hsp]; exact hdk) (req_val hreq fl fn) (he.ext hx) (hTc.ext hx)) fun r w7 ⟨hres, hx7⟩ => ?_
 rw [hsp] at hres
 obtain ⟨O, hO⟩ : ∃ O, O = decR (rqL cl us lv nw xs ys) (sv.zip acc) [] := ⟨_, rfl⟩
 replace hres : OutM z o v w5.heap.size w7 O r := by rw [hO]; exact hres
 have hDP : DecP nv sv tyl cl us lv nw xs ys (ocOf O) := .inr ⟨⟨hwell, hreq⟩, acc, xk, htyp, by rw [hO]⟩
 have h47 := h4.bel hx7
 have hxw7 := hx.trans hx7
 have s7 := hx7.size
 cases O with
 | deny =>
  have hres : r = _ := hres
  subst hres
  conv => cbv
  refine st_alloc hr tOc rfl fun q8 w8 hx8 h80 => ?_
  have h8 := h80 _ (n1_ _)
  have f8 := bx_form h8
  clear h80
  conv => cbv
  refine st_putS hr (by kernel_rfl) h8 (add_zero _).symm (by simp [zOc]) (by simp [Value.oneCell']) fun w9 hw9 h89 => ?_
  simp only [zOc, a1_, a2_, a3_, a4_, a5_, a6_, a7_] at h89
  have s8 := hx8.size
  have h49 := (h47.bel hx8).wr hw9 (bx_apart f4.2.2 f8.2.2 (by omega))
  have hxw9 := hxw7.trans (hx8.then (hw9.bel h8 hx8.size))
  conv => cbv
  refine st_neNil hE hui ?_
  conv => cbv
  refine st_loadS hE tOc rfl h89.at ?_
  conv => cbv
  refine st_putS hr (by kernel_rfl) h49 (add_zero _).symm (by simp [zOc]) (by simp [Value.oneCell']) fun w10 hw10 h410 => ?_
  simp only [zOc, a1_, a2_, a3_, a4_, a5_, a6_, a7_] at h410
  conv => cbv
  refine st_cell hr tOc rfl h410.at ?_
  conv => cbv
  rw [hR]
  exact ⟨hxw9.then (hw10.bel h49 hxw9.size), 1, 0, none, 0, 0, [], rfl, Own.nil, by simp, by simp, hDP⟩
 | grant zs =>
  obtain ⟨N, nm, nc, rfl, hoN, hzs, hz64⟩ := hres
  conv => cbv
  refine st_alloc hr tOc rfl fun q8 w8 hx8 h80 => ?_
  have h8 := h80 _ (n1_ _)
  have f8 := bx_form h8
  clear h80
  conv => cbv
  refine st_putS hr (by kernel_rfl) h8 (add_zero _).symm (by simp [zOc]) (by simp [Value.oneCell']) fun w9 hw9 h89 => ?_
  simp only [zOc, a1_, a2_, a3_, a4_, a5_, a6_, a7_] at h89
  have s8 := hx8.size
  have h49 := (h47.bel hx8).wr hw9 (bx_apart f4.2.2 f8.2.2 (by omega))
  have hx79 : Ext w7 w9 := hx8.then (hw9.bel h8 hx8.size)
  have hxw9 := hxw7.trans hx79
  conv => cbv
  refine st_neNil hE hui ?_
  conv => cbv
  refine st_loadS hE tOc rfl h89.at ?_
  conv => cbv
  refine st_putS hr (by kernel_rfl) h49 (add_zero _).symm (by simp [zOc]) (by simp [Value.oneCell']) fun w10 hw10 h410 => ?_
  simp only [zOc, a1_, a2_, a3_, a4_, a5_, a6_, a7_] at h410
  have ho10 := (hoN.bel hx79).wr hw10 (own_low (hoN.bel hx79) hq4a f4.2.2).1
  conv => cbv
  refine st_cell hr tOc rfl h410.at ?_
  conv => cbv
  rw [hR]
  exact ⟨hxw9.then (hw10.bel h49 hxw9.size), 2, 0, N, nm, nc, zs, rfl, ho10.mono s5, hzs, hz64, hDP⟩
 | err cc =>
  obtain ⟨hcc, op, rfl⟩ := hres
  conv => cbv
  refine st_alloc hr tOc rfl fun q8 w8 hx8 h80 => ?_
  have h8 := h80 _ (n1_ _)
  have f8 := bx_form h8
  clear h80
  conv => cbv
  refine st_putS hr (by kernel_rfl) h8 (add_zero _).symm (by simp [zOc]) (by simp [Value.oneCell']) fun w9 hw9 h89 => ?_
  simp only [zOc, a1_, a2_, a3_, a4_, a5_, a6_, a7_] at h89
  have s8 := hx8.size
  have h49 := (h47.bel hx8).wr hw9 (bx_apart f4.2.2 f8.2.2 (by omega))
  have hx79 : Ext w7 w9 := hx8.then (hw9.bel h8 hx8.size)
  have hxw9 := hxw7.trans hx79
  conv => cbv
  refine st_neSome hE hui ?_
  conv => cbv
  refine st_f hr (codeW_f (he.ext hxw9) hcc op) fun r w10 hx10 ev => ?_
  subst ev
  have h410 := h49.bel hx10
  have hxw10 := hxw9.trans hx10
  conv => cbv
  refine st_bO3 hE ?_
  conv => cbv
  refine st_putS hr (by kernel_rfl) h410 (add_zero _).symm (by simp [zOc]) (by simp [Value.oneCell']) fun w11 hw11 h411 => ?_
  simp only [zOc, a1_, a2_, a3_, a4_, a5_, a6_, a7_] at h411
  conv => cbv
  refine st_cell hr tOc rfl h411.at ?_
  conv => cbv
  rw [hR]
  exact ⟨hxw10.then (hw11.bel h410 hxw10.size), 3, cc, none, 0, 0, [], rfl, Own.nil, by simp, by simp, hDP⟩
def zL3 : List Value := [.int .i64 0, .int .i64 0, .string ⟨#[]⟩, .slice none 0 0]
theorem tL3 : Stc Tryz.prog 220 4 zL3 := ⟨by kernel_rfl, by kernel_rfl⟩
theorem sL3 : Slc Tryz.prog 120 220 (.agg ⟨zL3⟩) 4 56 := ⟨Tryz.underlying120, by kernel_rfl⟩
theorem fL3v0 : Fld Tryz.prog 220 0 0 := ⟨by kernel_rfl⟩
theorem fL3v1 : Fld Tryz.prog 220 1 1 := ⟨by kernel_rfl⟩
theorem fL3v2 : Fld Tryz.prog 220 2 2 := ⟨by kernel_rfl⟩
theorem fL3v3 : Fld Tryz.prog 220 3 3 := ⟨by kernel_rfl⟩
def lC (x : VV) : List Value := [.int .i64 0, .int .i64 x.p.n, .string x.p.tx, .slice x.A x.m x.c]
theorem lC_len (x : VV) : (lC x).length = 4 := rfl
def LRes (D : Nat → Prop) (w : World) (R : Int ⊕ PV) (r : Value) : Prop := match R with
 | .inl c => (c = 1 ∨ c = 2 ∨ c = 3) ∧ ∃ (n : Int) (tx : ByteArray) (A : Option Addr) (m cc : Nat), r = .agg ⟨[.int .i64 c, .int .i64 n, .string tx, .slice A m cc]⟩
 | .inr p => ∃ A m c, r = .agg ⟨lC ⟨p, A, m, c⟩⟩ ∧ ValM w ⟨p, A, m, c⟩ ∧ InD D A m
section
variable {E : Sym} {w : World} {K : Value → World → Prop} {d : Option Tmp} {ty : TypeId} {pos : String} {aft : Array Edge} {g : Option (Nat × Bool)} {bq : Bool}
theorem run_bL0  (w : World) : (Instr.build 220 #[]).run Tryz.prog w = .ok (.agg ⟨[.int .i64 0, .int .i64 0, .string ⟨#[]⟩, .slice none 0 0]⟩) w := by kernel_rfl
theorem st_bL0 (hE : EngB bq Tryz.prog E)   (hk : K (.agg ⟨[.int .i64 0, .int .i64 0, .string ⟨#[]⟩, .slice none 0 0]⟩) w) : E.stop ⟨d, .build 220 ⟨[]⟩, ty, pos, aft, g⟩ [] w K := by
 refine hE.det (v := .agg ⟨[.int .i64 0, .int .i64 0, .string ⟨#[]⟩, .slice none 0 0]⟩) (fun w1 _ ρ hρ => ?_) hk
 simp only [opnds, b2_, b3_, b1_, and_true] at hρ
 have := run_bL0  w1
 simp [execOp, hρ, this]
theorem run_bL01 (c : Int) (z : Int) (w : World) : (Instr.build 220 #[(0, .int .i64 c), (1, .int .i64 z)]).run Tryz.prog w = .ok (.agg ⟨[.int .i64 c, .int .i64 z, .string ⟨#[]⟩, .slice none 0 0]⟩) w := by kernel_rfl
theorem st_bL01 (hE : EngB bq Tryz.prog E) {c : Int} {z : Int} {x : Operand} {y : Operand} (hk : K (.agg ⟨[.int .i64 c, .int .i64 z, .string ⟨#[]⟩, .slice none 0 0]⟩) w) : E.stop ⟨d, .build 220 ⟨[(0, x), (1, y)]⟩, ty, pos, aft, g⟩ [.int .i64 c, .int .i64 z] w K := by
 refine hE.det (v := .agg ⟨[.int .i64 c, .int .i64 z, .string ⟨#[]⟩, .slice none 0 0]⟩) (fun w1 _ ρ hρ => ?_) hk
 simp only [opnds, b2_, b3_, b1_, and_true] at hρ
 have := run_bL01 c z w1
 simp [execOp, hρ, this]
theorem run_bL1 (z : Int) (w : World) : (Instr.build 220 #[(1, .int .i64 z)]).run Tryz.prog w = .ok (.agg ⟨[.int .i64 0, .int .i64 z, .string ⟨#[]⟩, .slice none 0 0]⟩) w := by kernel_rfl
theorem st_bL1 (hE : EngB bq Tryz.prog E) {z : Int} {x : Operand} (hk : K (.agg ⟨[.int .i64 0, .int .i64 z, .string ⟨#[]⟩, .slice none 0 0]⟩) w) : E.stop ⟨d, .build 220 ⟨[(1, x)]⟩, ty, pos, aft, g⟩ [.int .i64 z] w K := by
 refine hE.det (v := .agg ⟨[.int .i64 0, .int .i64 z, .string ⟨#[]⟩, .slice none 0 0]⟩) (fun w1 _ ρ hρ => ?_) hk
 simp only [opnds, b2_, b3_, b1_, and_true] at hρ
 have := run_bL1 z w1
 simp [execOp, hρ, this]
theorem run_bL2 (s : ByteArray) (w : World) : (Instr.build 220 #[(2, .string s)]).run Tryz.prog w = .ok (.agg ⟨[.int .i64 0, .int .i64 0, .string s, .slice none 0 0]⟩) w := by kernel_rfl
theorem st_bL2 (hE : EngB bq Tryz.prog E) {s : ByteArray} {x : Operand} (hk : K (.agg ⟨[.int .i64 0, .int .i64 0, .string s, .slice none 0 0]⟩) w) : E.stop ⟨d, .build 220 ⟨[(2, x)]⟩, ty, pos, aft, g⟩ [.string s] w K := by
 refine hE.det (v := .agg ⟨[.int .i64 0, .int .i64 0, .string s, .slice none 0 0]⟩) (fun w1 _ ρ hρ => ?_) hk
 simp only [opnds, b2_, b3_, b1_, and_true] at hρ
 have := run_bL2 s w1
 simp [execOp, hρ, this]
theorem run_bL3 (A : Option Addr) (m : Nat) (k : Nat) (w : World) : (Instr.build 220 #[(3, .slice A m k)]).run Tryz.prog w = .ok (.agg ⟨[.int .i64 0, .int .i64 0, .string ⟨#[]⟩, .slice A m k]⟩) w := by kernel_rfl
theorem st_bL3 (hE : EngB bq Tryz.prog E) {A : Option Addr} {m : Nat} {k : Nat} {x : Operand} (hk : K (.agg ⟨[.int .i64 0, .int .i64 0, .string ⟨#[]⟩, .slice A m k]⟩) w) : E.stop ⟨d, .build 220 ⟨[(3, x)]⟩, ty, pos, aft, g⟩ [.slice A m k] w K := by
 refine hE.det (v := .agg ⟨[.int .i64 0, .int .i64 0, .string ⟨#[]⟩, .slice A m k]⟩) (fun w1 _ ρ hρ => ?_) hk
 simp only [opnds, b2_, b3_, b1_, and_true] at hρ
 have := run_bL3 A m k w1
 simp [execOp, hρ, this]
theorem run_bL03 (c : Int) (A : Option Addr) (m : Nat) (k : Nat) (w : World) : (Instr.build 220 #[(0, .int .i64 c), (3, .slice A m k)]).run Tryz.prog w = .ok (.agg ⟨[.int .i64 c, .int .i64 0, .string ⟨#[]⟩, .slice A m k]⟩) w := by kernel_rfl
theorem st_bL03 (hE : EngB bq Tryz.prog E) {c : Int} {A : Option Addr} {m : Nat} {k : Nat} {x : Operand} {y : Operand} (hk : K (.agg ⟨[.int .i64 c, .int .i64 0, .string ⟨#[]⟩, .slice A m k]⟩) w) : E.stop ⟨d, .build 220 ⟨[(0, x), (3, y)]⟩, ty, pos, aft, g⟩ [.int .i64 c, .slice A m k] w K := by
 refine hE.det (v := .agg ⟨[.int .i64 c, .int .i64 0, .string ⟨#[]⟩, .slice A m k]⟩) (fun w1 _ ρ hρ => ?_) hk
 simp only [opnds, b2_, b3_, b1_, and_true] at hρ
 have := run_bL03 c A m k w1
 simp [execOp, hρ, this]
end
theorem l3truth_f {w : World} (b : Bool) : FC Tryz.prog 176 [.bool b] w fun r _ => r = .agg ⟨[.int .i64 0, .int .i64 (if b = true then 1 else 0), .string ⟨#[]⟩, .slice none 0 0]⟩ := by
 refine FC.intro (cs := []) Tryz.func176 (by kernel_rfl) fun E R hE hr hR => ?_
 cases b with
 | true =>
  conv => cbv
  refine st_alloc hr tL3 rfl fun q w1 hx1 hq0 => ?_
  have hq := hq0 _ (n1_ _)
  conv => cbv
  refine st_bL1 hE ?_
  conv => cbv
  refine st_putS hr (by kernel_rfl) hq (add_zero _).symm (by simp [zL3]) (by simp [Value.oneCell']) fun w2 hw2 hq2 => ?_
  simp only [zL3, a1_, a2_, a3_, a4_, a5_, a6_, a7_] at hq2
  conv => cbv
  refine st_cell hr tL3 rfl hq2.at ?_
  rw [hR]; exact ⟨hx1.then (hw2.bel hq hx1.size), rfl⟩
 | false =>
  conv => cbv
  refine st_alloc hr tL3 rfl fun q w1 hx1 hq0 => ?_
  have hq := hq0 _ (n1_ _)
  conv => cbv
  refine st_bL0 hE ?_
  conv => cbv
  refine st_putS hr (by kernel_rfl) hq (add_zero _).symm (by simp [zL3]) (by simp [Value.oneCell']) fun w2 hw2 hq2 => ?_
  simp only [zL3, a1_, a2_, a3_, a4_, a5_, a6_, a7_] at hq2
  conv => cbv
  refine st_cell hr tL3 rfl hq2.at ?_
  rw [hR]; exact ⟨hx1.then (hw2.bel hq hx1.size), rfl⟩
theorem l3same_f {w : World} {c c' nx ny : Int} {tx ty : ByteArray} {Ax Ay : Option Addr} {mx cx my cy : Nat} {xx xy : List ByteArray} (sx : Strs w Ax mx cx xx) (sy : Strs w Ay my cy xy) :
  FC Tryz.prog 177 [.agg ⟨[.int .i64 c, .int .i64 nx, .string tx, .slice Ax mx cx]⟩, .agg ⟨[.int .i64 c', .int .i64 ny, .string ty, .slice Ay my cy]⟩] w fun r _ => ∃ b : Bool, r = .bool b ∧ (b = true ↔ nx = ny ∧ tx = ty ∧ xx = xy) := by
 refine FC.intro (cs := []) Tryz.func177 (by kernel_rfl) fun E R hE hr hR => ?_
 have no : ∀ {w'}, Ext w w' → ¬ (nx = ny ∧ tx = ty ∧ xx = xy) → R (.bool false) w' := fun hx q => by
  rw [hR]; exact ⟨hx, false, rfl, (fun z => by cases z), fun z => absurd z q⟩
 have lx := sx.len
 have ly := sy.len
 have lxe := sx.le
 conv => cbv
 refine st_box hr fun q2 w1 hx h20 => ?_
 have h2 := h20 _ (n1_ _)
 clear h20
 conv => cbv
 refine st_box hr fun q3 w2 hx2 h30 => ?_
 have h3 := h30 _ hx.size
 replace h2 := h2.bel hx2
 replace hx := hx.trans hx2
 clear h30 hx2
 conv => cbv
 (refine st_fld hE fL3v1 fun p hp => ?_; (conv => cbv); refine st_load hE cI64 (by rw [hp]; exact (h2).at _ _ rfl) ?_; (conv => cbv))
 (refine st_fld hE fL3v1 fun p hp => ?_; (conv => cbv); refine st_load hE cI64 (by rw [hp]; exact (h3).at _ _ rfl) ?_; (conv => cbv))
 refine br (fun g => ?_) (fun g => ?_)
 ·have g : nx ≠ ny := by simpa [hE.cmp, cmpR] using g
  conv => cbv
  exact no hx (fun q => g q.1)
 have g1 : nx = ny := by simpa [hE.cmp, cmpR] using g
 clear g
 conv => cbv
 (refine st_fld hE fL3v2 fun p hp => ?_; (conv => cbv); refine st_load hE cStr (by rw [hp]; exact (h2).at _ _ rfl) ?_; (conv => cbv))
 (refine st_fld hE fL3v2 fun p hp => ?_; (conv => cbv); refine st_load hE cStr (by rw [hp]; exact (h3).at _ _ rfl) ?_; (conv => cbv))
 refine br (fun g => ?_) (fun g => ?_)
 ·have g : tx ≠ ty := by have g3 : E.scmp .neq tx ty = true := g; rw [hE.scmp, scmp_neq] at g3; exact g3
  conv => cbv
  exact no hx (fun q => g q.2.1)
 have g2 : tx = ty := by have g3 : ¬ E.scmp .neq tx ty = true := g; rw [hE.scmp, scmp_neq] at g3; exact Classical.byContradiction g3
 clear g
 conv => cbv
 (refine st_fld hE fL3v3 fun p hp => ?_; (conv => cbv); refine st_load hE cStrs (by rw [hp]; exact (h2).at _ _ rfl) ?_; (conv => cbv))
 refine st_len hE tStrs fun x hx1 => ?_
 conv => cbv
 (refine st_fld hE fL3v3 fun p hp => ?_; (conv => cbv); refine st_load hE cStrs (by rw [hp]; exact (h3).at _ _ rfl) ?_; (conv => cbv))
 refine st_len hE tStrs fun x2 hx2 => ?_
 conv => cbv
 refine br (fun g => ?_) (fun g => ?_)
 ·have g : x ≠ x2 := by simpa [hE.cmp, cmpR] using g
  conv => cbv
  exact no hx (fun q => g (by have := q.2.2; rw [this] at lx; omega))
 have g3 : mx = my := by
  have : x = x2 := by simpa [hE.cmp, cmpR] using g
  omega
 clear g
 conv => cbv
 (refine st_fld hE fL3v3 fun p hp => ?_; (conv => cbv); refine st_load hE cStrs (by rw [hp]; exact (h2).at _ _ rfl) ?_; (conv => cbv))
 refine st_len hE tStrs fun x4 hx4 => ?_
 conv => cbv
 refine loop_rule hr (fun (s : Nat × Int) w' => s.1 ≤ mx ∧ s.2 = (s.1 : Int) ∧ Ext w w' ∧ Box w.heap.size 220 4 w' q3 [.int .i64 c', .int .i64 ny, .string ty, .slice Ay my cy] ∧ xx.take s.1 = xy.take s.1) (fun s => [(2, .pointer (some q2)), (3, .pointer (some q3)), (29, .slice Ax mx cx), (30, .int .i64 x4), (31, .int .i64 s.2)]) (fun s => mx - s.1) (0, 0)
  (by simp [Fits, lk]) ⟨by simp, by simp, hx, h3, by simp⟩ ?_
 clear hx h3 h2
 rintro I hI ⟨i, ii⟩ w' ⟨hi, hii, hx, h3, hall⟩
 simp only at hi hii hall
 obtain ⟨ii', hii'⟩ : ∃ z, z = ii + 1 := ⟨_, rfl⟩
 conv => cbv
 refine br (fun g => ?_) (fun g => ?_)
 ·have g : i < mx := by
   have : ii < x4 := by simpa [hE.cmp, cmpR] using g
   omega
  have e1 : E.ar .add .i64 ii 1 = ii' := by rw [hE.ar, hii']; exact wrap_in (by omega) (by omega)
  conv => cbv
  refine st_str hE tStrs (sx.ext hx) (k := i) (by omega) g fun p u hu1 _ hp => ?_
  conv => cbv
  refine st_load hE cStr hp ?_
  clear hp
  conv => cbv
  (refine st_fld hE fL3v3 fun p hp => ?_; (conv => cbv); refine st_load hE cStrs (by rw [hp]; exact (h3).at _ _ rfl) ?_; (conv => cbv))
  refine st_str hE tStrs (sy.ext hx) (k := i) (by omega) (by omega) fun p2 y hy _ hp2 => ?_
  conv => cbv
  refine st_load hE cStr hp2 ?_
  conv => cbv
  refine br (fun g4 => ?_) (fun g4 => ?_)
  ·have g4 : y ≠ u := by have g5 : E.scmp .neq y u = true := g4; rw [hE.scmp, scmp_neq] at g5; exact g5
   conv => cbv
   exact no hx (fun q => g4 (by have := q.2.2; rw [this, hy] at hu1; exact Option.some.inj hu1))
  ·have g4 : y = u := by have g5 : ¬ E.scmp .neq y u = true := g4; rw [hE.scmp, scmp_neq] at g5; exact Classical.byContradiction g5
   conv => cbv
   simp only [e1]
   refine ⟨(i + 1, ii'), by simp [Fits, lk], hI _ _ ⟨by simp only; omega, by simp only; omega, hx, h3, ?_⟩, by simp only; omega⟩
   simp only
   rw [g4_, g4_, hall, hu1, hy, g4]
 ·have g : i = mx := by
   have : ¬ ii < x4 := by simpa [hE.cmp, cmpR] using g
   omega
  rw [g3_ (by omega), g3_ (by omega)] at hall
  conv => cbv
  rw [hR]; exact ⟨hx, true, rfl, by simp [g1, g2, hall]⟩
def opOK2 (op : Int) (a b : PV) : Prop := opOK op a b ∧ (op = 9 → a.n = 0 ∨ a.n = 1) ∧ (op = 19 ∨ op = 20 → a.k = b.k)
theorem sval_m {w : World} {A : Option Addr} {m c : Nat} {xs : List ByteArray} (h : Strs w A m c xs) : ValM w ⟨setV xs, A, m, c⟩ := ⟨h, by simp [setV, ByteArray.size]⟩
theorem nil_m {w : World} {p : PV} (h1 : p.xs = []) (h2 : p.tx.size ≤ 9223372036854775807) : ValM w ⟨p, none, 0, 0⟩ := ⟨by simp only; rw [h1]; exact snil w, h2⟩
theorem l3apply_f {w : World} {op : Int} (h8 : 8 ≤ op) (h24 : op ≤ 24) {A : Option Addr} {n c : Nat} {vs : List VV} (hcl : Cells w A (vs.flatMap lC)) (hn : vs.length = n) (hn3 : n ≤ 3) {x y : VV} (hvx : vs[0]? = some x) (hvy : vs[n - 1]? = some y) (hmx : ValM w x) (hmy : ValM w y) (hok : opOK2 op x.p y.p) :
  FC Tryz.prog 123 [.int .i64 op, .slice A n c] w fun r w' => LRes (DNew w w') w' (opR op x.p y.p) r := by
 refine FC.intro (cs := []) Tryz.func123 (by kernel_rfl) fun E R hE hr hR => ?_
 obtain ⟨aA, hA, hcx⟩ := fl_at lC_len hcl (by omega) hvx
 have hn1 : 1 ≤ n := by have := (List.getElem?_eq_some_iff.1 hvx).1; omega
 obtain ⟨a2, hA2, hcy⟩ := fl_at lC_len hcl (by omega) hvy
 rw [hA] at hA2; cases hA2
 obtain ⟨⟨kx, nx, tx, xx⟩, Ax, mx, cx⟩ := x
 obtain ⟨⟨ky, ny, ty, xy⟩, Ay, my, cy⟩ := y
 have sx := hmx.1
 have sy := hmy.1
 simp only at sx sy hok
 obtain ⟨⟨ok8, ok10, okA, okS⟩, ok9, okE⟩ := hok
 simp only at ok8 ok10 okA okS ok9 okE
 obtain ⟨T, hT0⟩ : ∃ T, T = opR op ⟨kx, nx, tx, xx⟩ ⟨ky, ny, ty, xy⟩ := ⟨_, rfl⟩
 replace hR : R = fun r w' => Ext w w' ∧ LRes (DNew w w') w' T r := by rw [hR, hT0]
 obtain ⟨nl, hnl⟩ : ∃ z : Int, z = (n : Int) - 1 := ⟨_, rfl⟩
 conv => cbv
 refine st_alloc hr tL3 rfl fun q4 w1 hx1 h40 => ?_
 have h4 := h40 _ (n1_ _)
 have f4 := bx_form h4
 clear h40
 conv => cbv
 refine st_idx hE sL3 hA (by omega) (by omega) fun p hp => ?_
 conv => cbv
 refine st_loadS hE tL3 (vs := [.int .i64 0, .int .i64 nx, .string tx, .slice Ax mx cx]) rfl (by rw [hp]; exact fun j u hu => hx1.cell (hcx j u hu)) ?_
 clear hp
 conv => cbv
 refine st_alloc hr tL3 rfl fun q5 w2 hx2 h50 => ?_
 have h5 := h50 w.heap.size hx1.size
 have f5 := bx_form (h50 _ (n1_ _))
 clear h50
 conv => cbv
 refine st_putS hr (by kernel_rfl) h5 (add_zero _).symm (by simp [zL3]) (by simp [Value.oneCell']) fun w3 hw3 h53 => ?_
 simp only [zL3, a1_, a2_, a3_, a4_, a5_, a6_, a7_] at h53
 have s2 := hx2.size
 have s1 := hx1.size
 have hx3 : Ext w w3 := (hx1.trans hx2).then (hw3.bel h5 (by omega))
 replace h4 := (h4.bel hx2).wr hw3 (bx_apart f4.2.2 f5.2.2 (by omega))
 have s3 := hw3.size
 conv => cbv
 refine st_len hE sL3 fun xl hxl => ?_
 have el : E.ar .sub .i64 xl 1 = nl := by rw [hE.ar, show arR .sub .i64 xl 1 = IntKind.i64.wrap (xl - 1) from rfl, wrap_in (by omega) (by omega)]; omega
 conv => cbv
 simp only [el]
 refine st_idx hE sL3 hA (by omega) (by omega) fun p hp => ?_
 rw [show nl.toNat = n - 1 by omega] at hp
 conv => cbv
 refine st_loadS hE tL3 (vs := [.int .i64 0, .int .i64 ny, .string ty, .slice Ay my cy]) rfl (by rw [hp]; exact fun j u hu => hx3.cell (hcy j u hu)) ?_
 clear hp
 conv => cbv
 refine st_alloc hr tL3 rfl fun q6 w4 hx4 h60 => ?_
 have h6 := h60 w.heap.size (by omega)
 have f6 := bx_form (h60 _ (n1_ _))
 clear h60
 conv => cbv
 refine st_putS hr (by kernel_rfl) h6 (add_zero _).symm (by simp [zL3]) (by simp [Value.oneCell']) fun w5 hw5 h65 => ?_
 simp only [zL3, a1_, a2_, a3_, a4_, a5_, a6_, a7_] at h65
 have s4 := hx4.size
 have hx : Ext w w5 := (hx3.trans hx4).then (hw5.bel h6 (by omega))
 replace h4 := (h4.bel hx4).wr hw5 (bx_apart f4.2.2 f6.2.2 (by omega))
 have h5 := (h53.bel hx4).wr hw5 (bx_apart f5.2.2 f6.2.2 (by omega))
 have h6 := h65
 have s5 := hx.size
 have f45 := (bx_form h4).2.1
 clear hx1 hx2 hx3 hx4 hw3 hw5 h53 h65 hxl el
 have finT : ∀ (b : Bool) (z : Int) (w' : World), Ext w w' → T = .inr (truthV b) → z = (if b = true then 1 else 0) → R (.agg ⟨[.int .i64 0, .int .i64 z, .string ⟨#[]⟩, .slice none 0 0]⟩) w' := fun b z w' hx e ez => by
  rw [hR, e, ez]; exact ⟨hx, none, 0, 0, rfl, nil_m rfl (by simp [truthV, ByteArray.size]), inD_none⟩
 have finN : ∀ (i : Int) (w' : World), Ext w w' → T = .inr (numV i) → R (.agg ⟨[.int .i64 0, .int .i64 i, .string ⟨#[]⟩, .slice none 0 0]⟩) w' := fun i w' hx e => by
  rw [hR, e]; exact ⟨hx, none, 0, 0, rfl, nil_m rfl (by simp [numV, ByteArray.size]), inD_none⟩
 have finS : ∀ (A : Option Addr) (m c : Nat) (xs : List ByteArray) (w6 w' : World) (B : Nat), Ext w w' → T = .inr (setV xs) → Strs w6 A m c xs → Own B 9 1 w6 A m c (xs.map .string) → Wr (some q4) w6 w' → w5.heap.size ≤ B → R (.agg ⟨[.int .i64 0, .int .i64 0, .string ⟨#[]⟩, .slice A m c]⟩) w' := fun A m c xs w6 w' B hx e hs ho hw hB => by
  have ho9 := ho.wr hw (own_low ho (by omega) f4.2.2).1
  rw [hR, e]; exact ⟨hx, A, m, c, rfl, sval_m (ho9.strs hs.5), inD_own ho9 fun b h1 h2 => ⟨by omega, h2⟩⟩
 have finE : ∀ (c n : Int) (tx : ByteArray) (A : Option Addr) (m k : Nat) (w' : World), Ext w w' → T = .inl c → (c = 1 ∨ c = 2 ∨ c = 3) → R (.agg ⟨[.int .i64 c, .int .i64 n, .string tx, .slice A m k]⟩) w' := fun c n tx A m k w' hx e hc => by
  rw [hR, e]; exact ⟨hx, hc, n, tx, A, m, k, rfl⟩
 conv => cbv
 refine br (fun g => ?_) (fun g => ?_)
 ·have g : op = 8 := by simpa [hE.cmp, cmpR] using g
  conv => cbv
  (refine st_fld hE fL3v1 fun p hp => ?_; (conv => cbv); refine st_load hE cI64 (by rw [hp]; exact (h5).at _ _ rfl) ?_; (conv => cbv))
  refine st_f hr (sCalc_f 2 0 nx (by unfold fits; omega) (ok8 g)) fun r w6 hx6 ⟨i, cc, ev, hco⟩ => ?_
  subst ev
  replace h4 := h4.bel hx6
  have hx67 := hx.trans hx6
  have s6 := hx67.size
  have hT8 : T = calcR 2 0 nx := by rw [hT0]; unfold opR; rw [if_pos g]
  conv => cbv
  refine st_bL01 hE ?_
  conv => cbv
  refine st_putS hr (by kernel_rfl) h4 (add_zero _).symm (by simp [zL3]) (by simp [Value.oneCell']) fun w9 hw9 h49 => ?_
  simp only [zL3, a1_, a2_, a3_, a4_, a5_, a6_, a7_] at h49
  have hx9 := hx67.then (hw9.bel h4 (by omega))
  conv => cbv
  refine st_cell hr tL3 rfl h49.at ?_
  conv => cbv
  rcases calc_R (by omega) (by omega) hco with ⟨e0, e⟩ | ⟨e0, e⟩
  ·rw [e0]; exact finN i w9 hx9 (by rw [hT8, e])
  ·exact finE cc i _ _ _ _ w9 hx9 (by rw [hT8, e]) (by omega)
 have g8 : op ≠ 8 := by simpa [hE.cmp, cmpR] using g
 clear g
 conv => cbv
 refine br (fun g => ?_) (fun g => ?_)
 ·have g : op = 9 := by simpa [hE.cmp, cmpR] using g
  conv => cbv
  (refine st_fld hE fL3v1 fun p hp => ?_; (conv => cbv); refine st_load hE cI64 (by rw [hp]; exact (h5).at _ _ rfl) ?_; (conv => cbv))
  obtain ⟨nz, hnz⟩ : ∃ z, z = 1 - nx := ⟨_, rfl⟩
  have ok9' := ok9 g
  have en : E.ar .sub .i64 1 nx = nz := by rw [hE.ar, show arR .sub .i64 1 nx = IntKind.i64.wrap (1 - nx) from rfl, wrap_in (by omega) (by omega)]; omega
  simp only [en]
  refine st_bL1 hE ?_
  conv => cbv
  refine st_putS hr (by kernel_rfl) h4 (add_zero _).symm (by simp [zL3]) (by simp [Value.oneCell']) fun w9 hw9 h49 => ?_
  simp only [zL3, a1_, a2_, a3_, a4_, a5_, a6_, a7_] at h49
  have hx9 := hx.then (hw9.bel h4 (by omega))
  conv => cbv
  refine st_cell hr tL3 rfl h49.at ?_
  conv => cbv
  exact finT (decide (nx = 0)) nz w9 hx9 (by rw [hT0]; unfold opR; rw [if_neg g8, if_pos g]) (by
   rcases ok9' with q | q
   ·rw [hnz, q]; rfl
   ·rw [hnz, q]; rfl)
 have g9 : op ≠ 9 := by simpa [hE.cmp, cmpR] using g
 clear g
 conv => cbv
 refine br (fun g => ?_) (fun g => ?_)
 ·have g : op = 10 := by simpa [hE.cmp, cmpR] using g
  conv => cbv
  (refine st_fld hE fL3v3 fun p hp => ?_; (conv => cbv); refine st_load hE cStrs (by rw [hp]; exact (h5).at _ _ rfl) ?_; (conv => cbv))
  refine st_len hE tStrs fun i hi => ?_
  conv => cbv
  refine st_bL1 hE ?_
  conv => cbv
  refine st_putS hr (by kernel_rfl) h4 (add_zero _).symm (by simp [zL3]) (by simp [Value.oneCell']) fun w9 hw9 h49 => ?_
  simp only [zL3, a1_, a2_, a3_, a4_, a5_, a6_, a7_] at h49
  have hx9 := hx.then (hw9.bel h4 (by omega))
  conv => cbv
  refine st_cell hr tL3 rfl h49.at ?_
  conv => cbv
  exact finN i w9 hx9 (by rw [hT0]; unfold opR; rw [if_neg g8, if_neg g9, if_pos g]; simp only; rw [hi, sx.len])
 have g10 : op ≠ 10 := by simpa [hE.cmp, cmpR] using g
 clear g
 conv => cbv
 refine br (fun g => ?_) (fun g => ?_)
 ·have g0 := g
  have g : op = 11 := by simpa [hE.cmp, cmpR] using g
  conv => cbv
  refine br (fun _ => ?_) (fun q => absurd g0 q)
  conv => cbv
  obtain ⟨o1, ho1⟩ : ∃ z, z = op - 11 := ⟨_, rfl⟩
  obtain ⟨o2, ho2⟩ : ∃ z, z = o1 + 1 := ⟨_, rfl⟩
  have e1 : E.ar .sub .i64 op 11 = o1 := by rw [hE.ar, show arR .sub .i64 op 11 = IntKind.i64.wrap (op - 11) from rfl, wrap_in (by omega) (by omega)]; omega
  have e2 : E.ar .add .i64 o1 1 = o2 := by rw [hE.ar, ho2]; exact wrap_in (by omega) (by omega)
  simp only [e1, e2]
  (refine st_fld hE fL3v1 fun p hp => ?_; (conv => cbv); refine st_load hE cI64 (by rw [hp]; exact (h5).at _ _ rfl) ?_; (conv => cbv))
  (refine st_fld hE fL3v1 fun p hp => ?_; (conv => cbv); refine st_load hE cI64 (by rw [hp]; exact (h6).at _ _ rfl) ?_; (conv => cbv))
  have okn := okA ⟨by omega, by omega⟩
  refine st_f hr (sCalc_f o2 nx ny okn.1 okn.2) fun r w6 hx6 ⟨i, cc, ev, hco⟩ => ?_
  subst ev
  replace h4 := h4.bel hx6
  have hx67 := hx.trans hx6
  have s6 := hx67.size
  have hT8 : T = calcR o2 nx ny := by rw [hT0, show o2 = op - 10 by omega]; unfold opR; rw [if_neg g8, if_neg g9, if_neg g10, if_pos ⟨by omega, by omega⟩]
  conv => cbv
  refine st_bL01 hE ?_
  conv => cbv
  refine st_putS hr (by kernel_rfl) h4 (add_zero _).symm (by simp [zL3]) (by simp [Value.oneCell']) fun w9 hw9 h49 => ?_
  simp only [zL3, a1_, a2_, a3_, a4_, a5_, a6_, a7_] at h49
  have hx9 := hx67.then (hw9.bel h4 (by omega))
  conv => cbv
  refine st_cell hr tL3 rfl h49.at ?_
  conv => cbv
  rcases calc_R (by omega) (by omega) hco with ⟨e0, e⟩ | ⟨e0, e⟩
  ·rw [e0]; exact finN i w9 hx9 (by rw [hT8, e])
  ·exact finE cc i _ _ _ _ w9 hx9 (by rw [hT8, e]) (by omega)
 have g11 : op ≠ 11 := by simpa [hE.cmp, cmpR] using g
 clear g
 conv => cbv
 refine br (fun g => ?_) (fun g => ?_)
 ·have g0 := g
  have g : op = 12 := by simpa [hE.cmp, cmpR] using g
  conv => cbv
  refine br (fun _ => ?_) (fun q => absurd g0 q)
  conv => cbv
  obtain ⟨o1, ho1⟩ : ∃ z, z = op - 11 := ⟨_, rfl⟩
  obtain ⟨o2, ho2⟩ : ∃ z, z = o1 + 1 := ⟨_, rfl⟩
  have e1 : E.ar .sub .i64 op 11 = o1 := by rw [hE.ar, show arR .sub .i64 op 11 = IntKind.i64.wrap (op - 11) from rfl, wrap_in (by omega) (by omega)]; omega
  have e2 : E.ar .add .i64 o1 1 = o2 := by rw [hE.ar, ho2]; exact wrap_in (by omega) (by omega)
  simp only [e1, e2]
  (refine st_fld hE fL3v1 fun p hp => ?_; (conv => cbv); refine st_load hE cI64 (by rw [hp]; exact (h5).at _ _ rfl) ?_; (conv => cbv))
  (refine st_fld hE fL3v1 fun p hp => ?_; (conv => cbv); refine st_load hE cI64 (by rw [hp]; exact (h6).at _ _ rfl) ?_; (conv => cbv))
  have okn := okA ⟨by omega, by omega⟩
  refine st_f hr (sCalc_f o2 nx ny okn.1 okn.2) fun r w6 hx6 ⟨i, cc, ev, hco⟩ => ?_
  subst ev
  replace h4 := h4.bel hx6
  have hx67 := hx.trans hx6
  have s6 := hx67.size
  have hT8 : T = calcR o2 nx ny := by rw [hT0, show o2 = op - 10 by omega]; unfold opR; rw [if_neg g8, if_neg g9, if_neg g10, if_pos ⟨by omega, by omega⟩]
  conv => cbv
  refine st_bL01 hE ?_
  conv => cbv
  refine st_putS hr (by kernel_rfl) h4 (add_zero _).symm (by simp [zL3]) (by simp [Value.oneCell']) fun w9 hw9 h49 => ?_
  simp only [zL3, a1_, a2_, a3_, a4_, a5_, a6_, a7_] at h49
  have hx9 := hx67.then (hw9.bel h4 (by omega))
  conv => cbv
  refine st_cell hr tL3 rfl h49.at ?_
  conv => cbv
  rcases calc_R (by omega) (by omega) hco with ⟨e0, e⟩ | ⟨e0, e⟩
  ·rw [e0]; exact finN i w9 hx9 (by rw [hT8, e])
  ·exact finE cc i _ _ _ _ w9 hx9 (by rw [hT8, e]) (by omega)
 have g12 : op ≠ 12 := by simpa [hE.cmp, cmpR] using g
 clear g
 conv => cbv
 refine br (fun g => ?_) (fun g => ?_)
 ·have g0 := g
  have g : op = 13 := by simpa [hE.cmp, cmpR] using g
  conv => cbv
  refine br (fun _ => ?_) (fun q => absurd g0 q)
  conv => cbv
  obtain ⟨o1, ho1⟩ : ∃ z, z = op - 11 := ⟨_, rfl⟩
  obtain ⟨o2, ho2⟩ : ∃ z, z = o1 + 1 := ⟨_, rfl⟩
  have e1 : E.ar .sub .i64 op 11 = o1 := by rw [hE.ar, show arR .sub .i64 op 11 = IntKind.i64.wrap (op - 11) from rfl, wrap_in (by omega) (by omega)]; omega
  have e2 : E.ar .add .i64 o1 1 = o2 := by rw [hE.ar, ho2]; exact wrap_in (by omega) (by omega)
  simp only [e1, e2]
  (refine st_fld hE fL3v1 fun p hp => ?_; (conv => cbv); refine st_load hE cI64 (by rw [hp]; exact (h5).at _ _ rfl) ?_; (conv => cbv))
  (refine st_fld hE fL3v1 fun p hp => ?_; (conv => cbv); refine st_load hE cI64 (by rw [hp]; exact (h6).at _ _ rfl) ?_; (conv => cbv))
  have okn := okA ⟨by omega, by omega⟩
  refine st_f hr (sCalc_f o2 nx ny okn.1 okn.2) fun r w6 hx6 ⟨i, cc, ev, hco⟩ => ?_
  subst ev
  replace h4 := h4.bel hx6
  have hx67 := hx.trans hx6
  have s6 := hx67.size
  have hT8 : T = calcR o2 nx ny := by rw [hT0, show o2 = op - 10 by omega]; unfold opR; rw [if_neg g8, if_neg g9, if_neg g10, if_pos ⟨by omega, by omega⟩]
  conv => cbv
  refine st_bL01 hE ?_
  conv => cbv
  refine st_putS hr (by kernel_rfl) h4 (add_zero _).symm (by simp [zL3]) (by simp [Value.oneCell']) fun w9 hw9 h49 => ?_
  simp only [zL3, a1_, a2_, a3_, a4_, a5_, a6_, a7_] at h49
  have hx9 := hx67.then (hw9.bel h4 (by omega))
  conv => cbv
  refine st_cell hr tL3 rfl h49.at ?_
  conv => cbv
  rcases calc_R (by omega) (by omega) hco with ⟨e0, e⟩ | ⟨e0, e⟩
  ·rw [e0]; exact finN i w9 hx9 (by rw [hT8, e])
  ·exact finE cc i _ _ _ _ w9 hx9 (by rw [hT8, e]) (by omega)
 have g13 : op ≠ 13 := by simpa [hE.cmp, cmpR] using g
 clear g
 conv => cbv
 refine br (fun g => ?_) (fun g => ?_)
 ·have g0 := g
  have g : op = 14 := by simpa [hE.cmp, cmpR] using g
  conv => cbv
  refine br (fun _ => ?_) (fun q => absurd g0 q)
  conv => cbv
  obtain ⟨o1, ho1⟩ : ∃ z, z = op - 11 := ⟨_, rfl⟩
  obtain ⟨o2, ho2⟩ : ∃ z, z = o1 + 1 := ⟨_, rfl⟩
  have e1 : E.ar .sub .i64 op 11 = o1 := by rw [hE.ar, show arR .sub .i64 op 11 = IntKind.i64.wrap (op - 11) from rfl, wrap_in (by omega) (by omega)]; omega
  have e2 : E.ar .add .i64 o1 1 = o2 := by rw [hE.ar, ho2]; exact wrap_in (by omega) (by omega)
  simp only [e1, e2]
  (refine st_fld hE fL3v1 fun p hp => ?_; (conv => cbv); refine st_load hE cI64 (by rw [hp]; exact (h5).at _ _ rfl) ?_; (conv => cbv))
  (refine st_fld hE fL3v1 fun p hp => ?_; (conv => cbv); refine st_load hE cI64 (by rw [hp]; exact (h6).at _ _ rfl) ?_; (conv => cbv))
  have okn := okA ⟨by omega, by omega⟩
  refine st_f hr (sCalc_f o2 nx ny okn.1 okn.2) fun r w6 hx6 ⟨i, cc, ev, hco⟩ => ?_
  subst ev
  replace h4 := h4.bel hx6
  have hx67 := hx.trans hx6
  have s6 := hx67.size
  have hT8 : T = calcR o2 nx ny := by rw [hT0, show o2 = op - 10 by omega]; unfold opR; rw [if_neg g8, if_neg g9, if_neg g10, if_pos ⟨by omega, by omega⟩]
  conv => cbv
  refine st_bL01 hE ?_
  conv => cbv
  refine st_putS hr (by kernel_rfl) h4 (add_zero _).symm (by simp [zL3]) (by simp [Value.oneCell']) fun w9 hw9 h49 => ?_
  simp only [zL3, a1_, a2_, a3_, a4_, a5_, a6_, a7_] at h49
  have hx9 := hx67.then (hw9.bel h4 (by omega))
  conv => cbv
  refine st_cell hr tL3 rfl h49.at ?_
  conv => cbv
  rcases calc_R (by omega) (by omega) hco with ⟨e0, e⟩ | ⟨e0, e⟩
  ·rw [e0]; exact finN i w9 hx9 (by rw [hT8, e])
  ·exact finE cc i _ _ _ _ w9 hx9 (by rw [hT8, e]) (by omega)
 have g14 : op ≠ 14 := by simpa [hE.cmp, cmpR] using g
 clear g
 conv => cbv
 refine br (fun g => ?_) (fun g => ?_)
 ·have g0 := g
  have g : op = 15 := by simpa [hE.cmp, cmpR] using g
  conv => cbv
  obtain ⟨o1, ho1⟩ : ∃ z, z = op - 11 := ⟨_, rfl⟩
  obtain ⟨o2, ho2⟩ : ∃ z, z = o1 + 1 := ⟨_, rfl⟩
  have e1 : E.ar .sub .i64 op 11 = o1 := by rw [hE.ar, show arR .sub .i64 op 11 = IntKind.i64.wrap (op - 11) from rfl, wrap_in (by omega) (by omega)]; omega
  have e2 : E.ar .add .i64 o1 1 = o2 := by rw [hE.ar, ho2]; exact wrap_in (by omega) (by omega)
  simp only [e1, e2]
  (refine st_fld hE fL3v1 fun p hp => ?_; (conv => cbv); refine st_load hE cI64 (by rw [hp]; exact (h5).at _ _ rfl) ?_; (conv => cbv))
  (refine st_fld hE fL3v1 fun p hp => ?_; (conv => cbv); refine st_load hE cI64 (by rw [hp]; exact (h6).at _ _ rfl) ?_; (conv => cbv))
  have okn := okA ⟨by omega, by omega⟩
  refine st_f hr (sCalc_f o2 nx ny okn.1 okn.2) fun r w6 hx6 ⟨i, cc, ev, hco⟩ => ?_
  subst ev
  replace h4 := h4.bel hx6
  have hx67 := hx.trans hx6
  have s6 := hx67.size
  have hT8 : T = calcR o2 nx ny := by rw [hT0, show o2 = op - 10 by omega]; unfold opR; rw [if_neg g8, if_neg g9, if_neg g10, if_pos ⟨by omega, by omega⟩]
  conv => cbv
  refine st_bL01 hE ?_
  conv => cbv
  refine st_putS hr (by kernel_rfl) h4 (add_zero _).symm (by simp [zL3]) (by simp [Value.oneCell']) fun w9 hw9 h49 => ?_
  simp only [zL3, a1_, a2_, a3_, a4_, a5_, a6_, a7_] at h49
  have hx9 := hx67.then (hw9.bel h4 (by omega))
  conv => cbv
  refine st_cell hr tL3 rfl h49.at ?_
  conv => cbv
  rcases calc_R (by omega) (by omega) hco with ⟨e0, e⟩ | ⟨e0, e⟩
  ·rw [e0]; exact finN i w9 hx9 (by rw [hT8, e])
  ·exact finE cc i _ _ _ _ w9 hx9 (by rw [hT8, e]) (by omega)
 have g15 : op ≠ 15 := by simpa [hE.cmp, cmpR] using g
 clear g
 conv => cbv
 refine br (fun g => ?_) (fun g => ?_)
 ·have g : op = 16 := by simpa [hE.cmp, cmpR] using g
  conv => cbv
  have oks := okS (.inl ⟨by omega, by omega⟩)
  have lx := sx.len
  have ly := sy.len
  have l1 := oks.1.2.2
  have l2 := oks.2.2.2
  (refine st_fld hE fL3v3 fun p hp => ?_; (conv => cbv); refine st_load hE cStrs (by rw [hp]; exact (h5).at _ _ rfl) ?_; (conv => cbv))
  (refine st_fld hE fL3v3 fun p hp => ?_; (conv => cbv); refine st_load hE cStrs (by rw [hp]; exact (h6).at _ _ rfl) ?_; (conv => cbv))
  refine st_f hr (sUnion_f (sx.ext hx) (sy.ext hx) (by omega) (by omega)) fun r w6 hx6 ⟨zs, kk, A1, n1, c1, ev, hun, hst, hown⟩ => ?_
  subst ev
  replace h4 := h4.bel hx6
  have hx67 := hx.trans hx6
  have s6 := hx67.size
  have hT8 : T = if 64 < (unionS xx xy).length then .inl 3 else .inr (setV (unionS xx xy)) := by
   rw [hT0]; unfold opR; rw [if_neg g8, if_neg g9, if_neg g10, if_neg (by omega), if_pos g]
  conv => cbv
  refine st_bL03 hE ?_
  conv => cbv
  refine st_putS hr (by kernel_rfl) h4 (add_zero _).symm (by simp [zL3]) (by simp [Value.oneCell']) fun w9 hw9 h49 => ?_
  simp only [zL3, a1_, a2_, a3_, a4_, a5_, a6_, a7_] at h49
  have hx9 := hx67.then (hw9.bel h4 (by omega))
  conv => cbv
  refine st_cell hr tL3 rfl h49.at ?_
  conv => cbv
  rcases hun with ⟨hno, _⟩ | ⟨_, _, qq, hso, hor⟩
  ·exact absurd oks hno
  ·have hqq := union_q oks.1 oks.2 hso
   rcases hor with ⟨hl, e1, e2⟩ | ⟨hl, e1, e2⟩
   ·exact finE kk _ _ _ _ _ w9 hx9 (by rw [hT8, if_pos (by rw [← hqq]; exact hl), e2]) (by omega)
   ·rw [e2]; exact finS A1 n1 c1 zs _ w9 _ hx9 (by rw [hT8, if_neg (by rw [← hqq]; omega), e1, hqq]) hst hown hw9 (n1_ _)
 have g16 : op ≠ 16 := by simpa [hE.cmp, cmpR] using g
 clear g
 conv => cbv
 refine br (fun g => ?_) (fun g => ?_)
 ·have g : op = 17 := by simpa [hE.cmp, cmpR] using g
  conv => cbv
  have oks := okS (.inl ⟨by omega, by omega⟩)
  have lx := sx.len
  have ly := sy.len
  have l1 := oks.1.2.2
  have l2 := oks.2.2.2
  (refine st_fld hE fL3v3 fun p hp => ?_; (conv => cbv); refine st_load hE cStrs (by rw [hp]; exact (h5).at _ _ rfl) ?_; (conv => cbv))
  (refine st_fld hE fL3v3 fun p hp => ?_; (conv => cbv); refine st_load hE cStrs (by rw [hp]; exact (h6).at _ _ rfl) ?_; (conv => cbv))
  refine st_f hr (sMeet_f (sx.ext hx) (sy.ext hx) (by omega) (by omega)) fun r w6 hx6 ⟨zs, hop, A1, n1, c1, ev, hst, hown⟩ => ?_
  subst ev
  replace h4 := h4.bel hx6
  have hx67 := hx.trans hx6
  have s6 := hx67.size
  have hzs : zs = picked xx xy true := by
   rcases hop with ⟨_, _, e⟩ | ⟨q, _⟩
   ·exact e
   ·exact absurd oks q
  conv => cbv
  refine st_bL3 hE ?_
  conv => cbv
  refine st_putS hr (by kernel_rfl) h4 (add_zero _).symm (by simp [zL3]) (by simp [Value.oneCell']) fun w9 hw9 h49 => ?_
  simp only [zL3, a1_, a2_, a3_, a4_, a5_, a6_, a7_] at h49
  have hx9 := hx67.then (hw9.bel h4 (by omega))
  conv => cbv
  refine st_cell hr tL3 rfl h49.at ?_
  conv => cbv
  exact finS A1 n1 c1 zs _ w9 _ hx9 (by rw [hT0, hzs]; unfold opR; rw [if_neg g8, if_neg g9, if_neg g10, if_neg (by omega), if_neg g16, if_pos g]) hst hown hw9 (n1_ _)
 have g17 : op ≠ 17 := by simpa [hE.cmp, cmpR] using g
 clear g
 conv => cbv
 refine br (fun g => ?_) (fun g => ?_)
 ·have g : op = 18 := by simpa [hE.cmp, cmpR] using g
  conv => cbv
  have oks := okS (.inl ⟨by omega, by omega⟩)
  have lx := sx.len
  have ly := sy.len
  have l1 := oks.1.2.2
  have l2 := oks.2.2.2
  (refine st_fld hE fL3v3 fun p hp => ?_; (conv => cbv); refine st_load hE cStrs (by rw [hp]; exact (h5).at _ _ rfl) ?_; (conv => cbv))
  (refine st_fld hE fL3v3 fun p hp => ?_; (conv => cbv); refine st_load hE cStrs (by rw [hp]; exact (h6).at _ _ rfl) ?_; (conv => cbv))
  refine st_f hr (sMinus_f (sx.ext hx) (sy.ext hx) (by omega) (by omega)) fun r w6 hx6 ⟨zs, hop, A1, n1, c1, ev, hst, hown⟩ => ?_
  subst ev
  replace h4 := h4.bel hx6
  have hx67 := hx.trans hx6
  have s6 := hx67.size
  have hzs : zs = picked xx xy false := by
   rcases hop with ⟨_, _, e⟩ | ⟨q, _⟩
   ·exact e
   ·exact absurd oks q
  conv => cbv
  refine st_bL3 hE ?_
  conv => cbv
  refine st_putS hr (by kernel_rfl) h4 (add_zero _).symm (by simp [zL3]) (by simp [Value.oneCell']) fun w9 hw9 h49 => ?_
  simp only [zL3, a1_, a2_, a3_, a4_, a5_, a6_, a7_] at h49
  have hx9 := hx67.then (hw9.bel h4 (by omega))
  conv => cbv
  refine st_cell hr tL3 rfl h49.at ?_
  conv => cbv
  exact finS A1 n1 c1 zs _ w9 _ hx9 (by rw [hT0, hzs]; unfold opR; rw [if_neg g8, if_neg g9, if_neg g10, if_neg (by omega), if_neg g16, if_neg g17, if_pos g]) hst hown hw9 (n1_ _)
 have g18 : op ≠ 18 := by simpa [hE.cmp, cmpR] using g
 clear g
 conv => cbv
 refine br (fun g => ?_) (fun g => ?_)
 ·have g : op = 19 := by simpa [hE.cmp, cmpR] using g
  conv => cbv
  refine st_loadS hE tL3 rfl h5.at ?_
  conv => cbv
  refine st_loadS hE tL3 rfl h6.at ?_
  conv => cbv
  refine st_f hr (l3same_f (c := 0) (c' := 0) (nx := nx) (ny := ny) (tx := tx) (ty := ty) (cx := cx) (cy := cy) (sx.ext hx) (sy.ext hx)) fun r w6 hx6 ⟨b, ev, hb2⟩ => ?_
  subst ev
  replace h4 := h4.bel hx6
  have hx67 := hx.trans hx6
  have heq : b = decide ((⟨kx, nx, tx, xx⟩ : PV) = ⟨ky, ny, ty, xy⟩) := Bool.eq_iff_iff.2 (by
   rw [hb2, decide_eq_true_iff]
   have hk := okE (by omega)
   constructor
   ·rintro ⟨e1, e2, e3⟩; rw [hk, e1, e2, e3]
   ·intro e; cases e; exact ⟨rfl, rfl, rfl⟩)
  conv => cbv
  obtain ⟨tz, htz⟩ : ∃ z : Int, z = (if b = true then 1 else 0) := ⟨_, rfl⟩
  have htr := l3truth_f (w := w6) b
  rw [← htz] at htr
  refine st_f hr htr fun r w7 hx7 ev => ?_
  subst ev
  replace h4 := h4.bel hx7
  have hx78 := hx67.trans hx7
  have s6 := hx78.size
  conv => cbv
  refine st_putS hr (by kernel_rfl) h4 (add_zero _).symm (by simp [zL3]) (by simp [Value.oneCell']) fun w9 hw9 h49 => ?_
  simp only [zL3, a1_, a2_, a3_, a4_, a5_, a6_, a7_] at h49
  have hx9 := hx78.then (hw9.bel h4 (by omega))
  conv => cbv
  refine st_cell hr tL3 rfl h49.at ?_
  conv => cbv
  exact finT b tz w9 hx9 (by rw [hT0, heq]; unfold opR; rw [if_neg g8, if_neg g9, if_neg g10, if_neg (by omega), if_neg g16, if_neg g17, if_neg g18, if_pos g]) htz
 have g19 : op ≠ 19 := by simpa [hE.cmp, cmpR] using g
 clear g
 conv => cbv
 refine br (fun g => ?_) (fun g => ?_)
 ·have g : op = 20 := by simpa [hE.cmp, cmpR] using g
  conv => cbv
  refine st_loadS hE tL3 rfl h5.at ?_
  conv => cbv
  refine st_loadS hE tL3 rfl h6.at ?_
  conv => cbv
  refine st_f hr (l3same_f (c := 0) (c' := 0) (nx := nx) (ny := ny) (tx := tx) (ty := ty) (cx := cx) (cy := cy) (sx.ext hx) (sy.ext hx)) fun r w6 hx6 ⟨b, ev, hb2⟩ => ?_
  subst ev
  replace h4 := h4.bel hx6
  have hx67 := hx.trans hx6
  have heq : b = decide ((⟨kx, nx, tx, xx⟩ : PV) = ⟨ky, ny, ty, xy⟩) := Bool.eq_iff_iff.2 (by
   rw [hb2, decide_eq_true_iff]
   have hk := okE (by omega)
   constructor
   ·rintro ⟨e1, e2, e3⟩; rw [hk, e1, e2, e3]
   ·intro e; cases e; exact ⟨rfl, rfl, rfl⟩)
  cases b with
  | true =>
   conv => cbv
   obtain ⟨tz, htz⟩ : ∃ z : Int, z = (if (false : Bool) = true then 1 else 0) := ⟨_, rfl⟩
   have htr := l3truth_f (w := w6) false
   rw [← htz] at htr
   refine st_f hr htr fun r w7 hx7 ev => ?_
   subst ev
   replace h4 := h4.bel hx7
   have hx78 := hx67.trans hx7
   have s6 := hx78.size
   conv => cbv
   refine st_putS hr (by kernel_rfl) h4 (add_zero _).symm (by simp [zL3]) (by simp [Value.oneCell']) fun w9 hw9 h49 => ?_
   simp only [zL3, a1_, a2_, a3_, a4_, a5_, a6_, a7_] at h49
   have hx9 := hx78.then (hw9.bel h4 (by omega))
   conv => cbv
   refine st_cell hr tL3 rfl h49.at ?_
   conv => cbv
   exact finT false tz w9 hx9 (by rw [hT0]; unfold opR; rw [if_neg g8, if_neg g9, if_neg g10, if_neg (by omega), if_neg g16, if_neg g17, if_neg g18, if_neg g19, if_pos g, ← heq]; rfl) htz
  | false =>
   conv => cbv
   obtain ⟨tz, htz⟩ : ∃ z : Int, z = (if (true : Bool) = true then 1 else 0) := ⟨_, rfl⟩
   have htr := l3truth_f (w := w6) true
   rw [← htz] at htr
   refine st_f hr htr fun r w7 hx7 ev => ?_
   subst ev
   replace h4 := h4.bel hx7
   have hx78 := hx67.trans hx7
   have s6 := hx78.size
   conv => cbv
   refine st_putS hr (by kernel_rfl) h4 (add_zero _).symm (by simp [zL3]) (by simp [Value.oneCell']) fun w9 hw9 h49 => ?_
   simp only [zL3, a1_, a2_, a3_, a4_, a5_, a6_, a7_] at h49
   have hx9 := hx78.then (hw9.bel h4 (by omega))
   conv => cbv
   refine st_cell hr tL3 rfl h49.at ?_
   conv => cbv
   exact finT true tz w9 hx9 (by rw [hT0]; unfold opR; rw [if_neg g8, if_neg g9, if_neg g10, if_neg (by omega), if_neg g16, if_neg g17, if_neg g18, if_neg g19, if_pos g, ← heq]; rfl) htz
 have g20 : op ≠ 20 := by simpa [hE.cmp, cmpR] using g
 clear g
 conv => cbv
 refine br (fun g => ?_) (fun g => ?_)
 ·have g : op = 21 := by simpa [hE.cmp, cmpR] using g
  conv => cbv
  (refine st_fld hE fL3v1 fun p hp => ?_; (conv => cbv); refine st_load hE cI64 (by rw [hp]; exact (h5).at _ _ rfl) ?_; (conv => cbv))
  (refine st_fld hE fL3v1 fun p hp => ?_; (conv => cbv); refine st_load hE cI64 (by rw [hp]; exact (h6).at _ _ rfl) ?_; (conv => cbv))
  have hb2 : E.cmp .lss nx ny = true ↔ nx < ny := by simp [hE.cmp, cmpR]
  have htr := l3truth_f (w := w5) (E.cmp .lss nx ny)
  obtain ⟨tz, htz⟩ : ∃ z : Int, z = (if E.cmp .lss nx ny = true then 1 else 0) := ⟨_, rfl⟩
  rw [← htz] at htr
  refine st_f hr htr fun r w7 hx7 ev => ?_
  subst ev
  replace h4 := h4.bel hx7
  have hx78 := hx.trans hx7
  have s6 := hx78.size
  conv => cbv
  refine st_putS hr (by kernel_rfl) h4 (add_zero _).symm (by simp [zL3]) (by simp [Value.oneCell']) fun w9 hw9 h49 => ?_
  simp only [zL3, a1_, a2_, a3_, a4_, a5_, a6_, a7_] at h49
  have hx9 := hx78.then (hw9.bel h4 (by omega))
  conv => cbv
  refine st_cell hr tL3 rfl h49.at ?_
  conv => cbv
  exact finT (decide (nx < ny)) tz w9 hx9 (by rw [hT0]; unfold opR; rw [if_neg g8, if_neg g9, if_neg g10, if_neg (by omega), if_neg g16, if_neg g17, if_neg g18, if_neg g19, if_neg g20, if_pos g]) (by rw [htz]; simp only [hb2, decide_eq_true_eq])
 have g21 : op ≠ 21 := by simpa [hE.cmp, cmpR] using g
 clear g
 conv => cbv
 refine br (fun g => ?_) (fun g => ?_)
 ·have g : op = 22 := by simpa [hE.cmp, cmpR] using g
  conv => cbv
  (refine st_fld hE fL3v1 fun p hp => ?_; (conv => cbv); refine st_load hE cI64 (by rw [hp]; exact (h5).at _ _ rfl) ?_; (conv => cbv))
  (refine st_fld hE fL3v1 fun p hp => ?_; (conv => cbv); refine st_load hE cI64 (by rw [hp]; exact (h6).at _ _ rfl) ?_; (conv => cbv))
  have hb2 : E.cmp .leq nx ny = true ↔ nx ≤ ny := by simp [hE.cmp, cmpR]
  have htr := l3truth_f (w := w5) (E.cmp .leq nx ny)
  obtain ⟨tz, htz⟩ : ∃ z : Int, z = (if E.cmp .leq nx ny = true then 1 else 0) := ⟨_, rfl⟩
  rw [← htz] at htr
  refine st_f hr htr fun r w7 hx7 ev => ?_
  subst ev
  replace h4 := h4.bel hx7
  have hx78 := hx.trans hx7
  have s6 := hx78.size
  conv => cbv
  refine st_putS hr (by kernel_rfl) h4 (add_zero _).symm (by simp [zL3]) (by simp [Value.oneCell']) fun w9 hw9 h49 => ?_
  simp only [zL3, a1_, a2_, a3_, a4_, a5_, a6_, a7_] at h49
  have hx9 := hx78.then (hw9.bel h4 (by omega))
  conv => cbv
  refine st_cell hr tL3 rfl h49.at ?_
  conv => cbv
  exact finT (decide (nx ≤ ny)) tz w9 hx9 (by rw [hT0]; unfold opR; rw [if_neg g8, if_neg g9, if_neg g10, if_neg (by omega), if_neg g16, if_neg g17, if_neg g18, if_neg g19, if_neg g20, if_neg g21, if_pos g]) (by rw [htz]; simp only [hb2, decide_eq_true_eq])
 have g22 : op ≠ 22 := by simpa [hE.cmp, cmpR] using g
 clear g
 conv => cbv
 refine br (fun g => ?_) (fun g => ?_)
 ·have g : op = 23 := by simpa [hE.cmp, cmpR] using g
  conv => cbv
  (refine st_fld hE fL3v3 fun p hp => ?_; (conv => cbv); refine st_load hE cStrs (by rw [hp]; exact (h6).at _ _ rfl) ?_; (conv => cbv))
  (refine st_fld hE fL3v2 fun p hp => ?_; (conv => cbv); refine st_load hE cStr (by rw [hp]; exact (h5).at _ _ rfl) ?_; (conv => cbv))
  refine st_qb hE (l1has_q (sy.ext hx) tx) fun b hb2 w6 hs6 => ?_
  replace h4 := h4.bel hs6.ext
  have hx67 := hx.trans hs6.ext
  conv => cbv
  obtain ⟨tz, htz⟩ : ∃ z : Int, z = (if b = true then 1 else 0) := ⟨_, rfl⟩
  have htr := l3truth_f (w := w6) b
  rw [← htz] at htr
  refine st_f hr htr fun r w7 hx7 ev => ?_
  subst ev
  replace h4 := h4.bel hx7
  have hx78 := hx67.trans hx7
  have s6 := hx78.size
  conv => cbv
  refine st_putS hr (by kernel_rfl) h4 (add_zero _).symm (by simp [zL3]) (by simp [Value.oneCell']) fun w9 hw9 h49 => ?_
  simp only [zL3, a1_, a2_, a3_, a4_, a5_, a6_, a7_] at h49
  have hx9 := hx78.then (hw9.bel h4 (by omega))
  conv => cbv
  refine st_cell hr tL3 rfl h49.at ?_
  conv => cbv
  exact finT b tz w9 hx9 (by rw [hT0]; unfold opR; rw [if_neg g8, if_neg g9, if_neg g10, if_neg (by omega), if_neg g16, if_neg g17, if_neg g18, if_neg g19, if_neg g20, if_neg g21, if_neg g22, if_pos g]; exact congrArg (fun b => Sum.inr (truthV b)) (Bool.eq_iff_iff.2 (by rw [hb2]; simp))) htz
 have g23 : op ≠ 23 := by simpa [hE.cmp, cmpR] using g
 clear g
 conv => cbv
 have g24 : op = 24 := by omega
 have oks := okS (.inr g24)
 have lx := sx.len
 have ly := sy.len
 have l1 := oks.1.2.2
 have l2 := oks.2.2.2
 (refine st_fld hE fL3v3 fun p hp => ?_; (conv => cbv); refine st_load hE cStrs (by rw [hp]; exact (h5).at _ _ rfl) ?_; (conv => cbv))
 (refine st_fld hE fL3v3 fun p hp => ?_; (conv => cbv); refine st_load hE cStrs (by rw [hp]; exact (h6).at _ _ rfl) ?_; (conv => cbv))
 refine st_f hr (sWithin_f (sx.ext hx) (sy.ext hx) (by omega) (by omega)) fun r w6 hx6 ⟨b, ev, hb2⟩ => ?_
 subst ev
 replace h4 := h4.bel hx6
 have hx67 := hx.trans hx6
 conv => cbv
 obtain ⟨tz, htz⟩ : ∃ z : Int, z = (if b = true then 1 else 0) := ⟨_, rfl⟩
 have htr := l3truth_f (w := w6) b
 rw [← htz] at htr
 refine st_f hr htr fun r w7 hx7 ev => ?_
 subst ev
 replace h4 := h4.bel hx7
 have hx78 := hx67.trans hx7
 have s6 := hx78.size
 conv => cbv
 refine st_putS hr (by kernel_rfl) h4 (add_zero _).symm (by simp [zL3]) (by simp [Value.oneCell']) fun w9 hw9 h49 => ?_
 simp only [zL3, a1_, a2_, a3_, a4_, a5_, a6_, a7_] at h49
 have hx9 := hx78.then (hw9.bel h4 (by omega))
 conv => cbv
 refine st_cell hr tL3 rfl h49.at ?_
 conv => cbv
 exact finT b tz w9 hx9 (by rw [hT0]; unfold opR; rw [if_neg g8, if_neg g9, if_neg g10, if_neg (by omega), if_neg g16, if_neg g17, if_neg g18, if_neg g19, if_neg g20, if_neg g21, if_neg g22, if_neg g23]; exact congrArg (fun b => Sum.inr (truthV b)) (Bool.eq_iff_iff.2 (by rw [hb2]; simp [oks.1, oks.2]))) htz
end Go.Proofs.YtgnjkdkedjljjaaGreatDoor
namespace Go.Eng
set_option linter.unusedVariables false
set_option linter.unusedSimpArgs false
def ePhP (E : Sym) (S : World → Prop) (all : List Oper) (x y : Nat) (l : List (Nat × Bool)) (F : Fr) (w : World) (K : Fr → World → Prop) : Prop := match all[x]? with
 | none => False
 | some ox => match all[y]? with
  | none => False
  | some oy => eOps E all [ox] F w (fun F w => S w ∧ eOps E all [oy] F w fun F w => S w ∧ ePh2 E S all l F w K) ∧
   eOps E all [oy] F w (fun F w => S w ∧ eOps E all [ox] F w fun F w => S w ∧ ePh2 E S all l F w K)
def planP2 (ops : Array Oper) (x y : Nat) (l : List (Nat × Bool)) (listed : Array Bool) : Bool :=
 Region.ready .any ops listed == [x, y] && Region.ready .any ops (listed.setIfInBounds x true) == [y] && Region.ready .any ops (listed.setIfInBounds y true) == [x] &&
  planB2 ops l ((listed.setIfInBounds x true).setIfInBounds y true) && planB2 ops l ((listed.setIfInBounds y true).setIfInBounds x true)
def planP1 (ops : Array Oper) (x y : Nat) (l2 : List (Nat × Bool)) : List Nat → Array Bool → Bool
 | [], listed => planP2 ops x y l2 listed
 | k :: l, listed => Region.free .any ops listed k && (Region.ready .any ops listed).contains k && planP1 ops x y l2 l (listed.setIfInBounds k true)
def planP (ops : Array Oper) (l1 : List Nat) (x y : Nat) (l2 : List (Nat × Bool)) : Bool :=
 Region.noSelect ops && Nat.beq (l1.length + (l2.length + 1 + 1)) ops.size && planP1 ops x y l2 l1 (Array.replicate ops.size false)
section
variable {P : Program} {Pn : List PanicEntry → World → Prop} {n : Nat}
theorem ePhP_sound {S : World → Prop} {all : List Oper} (hs : Region.noSelect all.toArray = true) (hd : ∀ o ∈ all, ∀ t, o.dst = some t → t < n) {K : Exit → Fr → World → Prop} {x y : Nat} {l : List (Nat × Bool)} {listed : Array Bool} {F : Fr} {a : Act} {w : World} (hS : S w) (hk : Kn n F a) (hB : planP2 all.toArray x y l listed = true) (h : ePhP (real P Pn n) S all x y l F w (K .normal)) : wpAnyH P .any all.toArray (QK Pn n K) S (l.length + 1 + 1) listed a w := by
 simp only [planP2, Bool.and_eq_true, beq_iff_eq] at hB
 obtain ⟨⟨⟨⟨r0, r1⟩, r2⟩, b1⟩, b2⟩ := hB
 unfold ePhP at h
 split at h
 ·exact h.elim
 ·rename_i ox hox
  split at h
  ·exact h.elim
  ·rename_i oy hoy
   refine wpAnyH_all r0 (by simp) fun i hi => ?_
   simp only [List.mem_cons, List.not_mem_nil, or_false] at hi
   rcases hi with rfl | rfl
   ·refine step_op (Pn := Pn) hox (hd ox (m1_ hox)) hk (fun c w h => ⟨hk.defers, h⟩) (fun F' a' w' hk' ⟨h1, h2⟩ => ⟨h1, ?_⟩) h.1
    refine wpAnyH_all r1 (by simp) fun j hj => ?_
    obtain rfl : j = y := by simpa using hj
    exact step_op (Pn := Pn) hoy (hd oy (m1_ hoy)) hk' (fun c w h => ⟨hk'.defers, h⟩) (fun F'' a'' w'' hk'' ⟨h3, h4⟩ => ⟨h3, ePh2_sound hs hd l _ F'' a'' w'' h3 hk'' b1 h4⟩) h2
   ·refine step_op (Pn := Pn) hoy (hd oy (m1_ hoy)) hk (fun c w h => ⟨hk.defers, h⟩) (fun F' a' w' hk' ⟨h1, h2⟩ => ⟨h1, ?_⟩) h.2
    refine wpAnyH_all r2 (by simp) fun j hj => ?_
    obtain rfl : j = x := by simpa using hj
    exact step_op (Pn := Pn) hox (hd ox (m1_ hox)) hk' (fun c w h => ⟨hk'.defers, h⟩) (fun F'' a'' w'' hk'' ⟨h3, h4⟩ => ⟨h3, ePh2_sound hs hd l _ F'' a'' w'' h3 hk'' b2 h4⟩) h2
theorem ePh1_soundP {S : World → Prop} {w : World} {all : List Oper} (hs : Region.noSelect all.toArray = true) (hd : ∀ o ∈ all, ∀ t, o.dst = some t → t < n) {K : Exit → Fr → World → Prop} {w0 : World} (hS : S w0) (x y : Nat) (l2 : List (Nat × Bool)) (K1 : Fr → World → Prop) : ∀ (l : List Nat) (listed : Array Bool) (F : Fr) (a : Act), Kn n F a → planP1 all.toArray x y l2 l listed = true → ePh1 (wreal S P) all l F w K1 →
  (∀ F a listed, Kn n F a → planP2 all.toArray x y l2 listed = true → K1 F w → wpAnyH P .any all.toArray (QK Pn n K) S (l2.length + 1 + 1) listed a w0) → wpAnyH P .any all.toArray (QK Pn n K) S (l.length + (l2.length + 1 + 1)) listed a w0
 | [], listed, F, a, hk, hB, h, h2 => by simpa using h2 F a listed hk hB h
 | k :: l, listed, F, a, hk, hB, h, h2 => by
  simp only [planP1, Bool.and_eq_true] at hB
  obtain ⟨⟨hf, hr⟩, hB⟩ := hB
  simp only [ePh1] at h
  split at h
  ·exact h.elim
  ·rename_i o ho
   obtain ⟨v, F', hy, hk', h⟩ := step_yields (P := P) (n := n) (S := S) (E' := wreal S P) (fun _ _ => rfl) (fun _ _ _ ⟨v, h1, h2⟩ => ⟨v, fun w1 hw1 => h1 w1 hw1, h2⟩) (hd o (m1_ ho)) hk h
   have := wpAnyH_take (by simpa using ho) hs hf hr panic_put hy hS (ePh1_soundP hs hd hS x y l2 K1 l _ F' _ hk' hB h h2)
   rw [show (k :: l).length + (l2.length + 1 + 1) = l.length + (l2.length + 1 + 1) + 1 by simp only [a3_]; omega]
   exact this
theorem draw_p0 (S : World → Prop) (l1 : List Nat) (x y : Nat) (l2 : List (Nat × Bool)) {E : Sym} (hE : E = real P Pn n) {id : Nat} {ops : Array Oper} {F : Fr} {w : World} {K : Exit → Fr → World → Prop} (hm : P.follows .mixedOrders = true) (hB : planP ops l1 x y l2 = true) (hS : ∀ w0, Same w w0 → S w0)
  (h : ∀ E', EngW S P E' → ∀ w0, Same w w0 → ePh1 E' ops.toList l1 F w0 (fun F' w' => ePhP E S ops.toList x y l2 F' w' (K .normal))) : E.draw id ops F w K := by
 subst hE
 intro hd a hk
 simp only [planP, Bool.and_eq_true, Nat.beq_eq] at hB
 obtain ⟨⟨hs, hl⟩, hB⟩ := hB
 have hs' : Region.noSelect ops.toList.toArray = true := by simpa using hs
 have h0 : S { w with drawn := w.drawn + 1 } := hS _ (Same.drew w)
 refine wp_region_held (S := S) hm ?_
 have := ePh1_soundP (Pn := Pn) (K := K) (n := n) (S := S) (w := { w with drawn := w.drawn + 1 }) hs' (okDst_ops hd) h0 x y l2 _ l1 (Array.replicate ops.size false) F a hk (by simpa using hB) (h (wreal S P) ⟨fun {_ _ _ v _} h hk => ⟨v, h, hk⟩⟩ _ (Same.drew w))
  (fun F a listed hk hB h => ePhP_sound hs' (okDst_ops hd) h0 hk hB h)
 rw [hl] at this
 simpa using this
theorem draw_p (S : World → Prop) (l1 : List Nat) (x y : Nat) (l2 : List (Nat × Bool)) {E : Sym} (hE : E = real P Pn n) {id : Nat} {ops : Array Oper} {F : Fr} {w : World} {K : Exit → Fr → World → Prop} {St : Type} (I : St → World → Prop) (G : St → Fr) (hm : P.follows .mixedOrders = true) (hB : planP ops l1 x y l2 = true) (hS : ∀ w0, Same w w0 → S w0)
  (h : ∀ I' : St → World → Prop, (∀ s w, I s w → I' s w) → ∀ E', EngW S P E' → ∀ w0, Same w w0 → ePh1 E' ops.toList l1 F w0 (fun F' w' => ePhP E S ops.toList x y l2 F' w' (fun F'' w'' => ∃ s, Fits (G s) F'' ∧ I' s w'')))
  (hk : ∀ s w', I s w' → K .normal (G s) w') : E.draw id ops F w K := by
 have h1 : E.draw id ops F w (fun e F' w' => match e with
   | .normal => ∃ s, Fits (G s) F' ∧ I s w'
   | e => K e F' w') := draw_p0 S l1 x y l2 hE hm hB hS (h I fun _ _ h => h)
 subst hE
 intro hd a hka
 refine Code.wp_mono (fun e a' w' hq => ?_) (h1 hd a hka)
 cases e with
 | normal => obtain ⟨F', hk', s, hf, hi⟩ := hq; exact ⟨G s, hk'.sub hf, hk s w' hi⟩
 | panic c => exact hq
 | outgrown => exact hq.elim
 | exit id => exact hq
 | goto l => exact hq
 | ret => exact hq
end
end Go.Eng
namespace Go.Proofs.YtgnjkdkedjljjaaGreatDoor
open Go.Eng
set_option linter.unusedVariables false
set_option linter.unusedSimpArgs false
theorem LRes.mono {D D' : Nat → Prop} {w : World} {R : Int ⊕ PV} {r : Value} (h : LRes D w R r) (hD : ∀ b, D b → D' b) : LRes D' w R r := by
 cases R with
 | inl c => exact h
 | inr p => obtain ⟨A, m, c, h1, h2, h3⟩ := h; exact ⟨A, m, c, h1, h2, fun a ha hm => hD _ (h3 a ha hm)⟩
theorem LRes.ext {D : Nat → Prop} {w w' : World} {R : Int ⊕ PV} {r : Value} (h : LRes D w R r) (hx : Ext w w') : LRes D w' R r := by
 cases R with
 | inl c => exact h
 | inr p => obtain ⟨A, m, c, h1, h2, h3⟩ := h; exact ⟨A, m, c, h1, h2.ext hx, h3⟩
theorem LRes.form {D : Nat → Prop} {w : World} {R : Int ⊕ PV} {r : Value} (h : LRes D w R r) : ∃ (c n : Int) (tx : ByteArray) (A : Option Addr) (m cc : Nat), r = .agg ⟨[.int .i64 c, .int .i64 n, .string tx, .slice A m cc]⟩ := by
 cases R with
 | inl c => obtain ⟨_, n, tx, A, m, cc, e⟩ := h; exact ⟨c, n, tx, A, m, cc, e⟩
 | inr p => obtain ⟨A, m, c, h1, h2, h3⟩ := h; exact ⟨0, p.n, p.tx, A, m, c, h1⟩
theorem LRes.wr {D : Nat → Prop} {w w' : World} {R : Int ⊕ PV} {r : Value} {q : Addr} (h : LRes D w R r) (hw : Wr (some q) w w') (hD : ∀ b, D b → b < w.heap.size ∧ b ≠ q.block) (hq : blk (some q) = some q.block) : LRes D w' R r := by
 cases R with
 | inl c => exact h
 | inr p =>
  obtain ⟨A, m, c, h1, h2, h3⟩ := h
  exact ⟨A, m, c, h1, ⟨strs_keep h2.1 h3 (fun b hb => hw.block b (hD b hb).1 (by rw [hq]; intro e; cases e; exact (hD _ hb).2 rfl)), h2.2⟩, h3⟩
structure LetM (D : Nat → Prop) (w : World) (LA : Option Addr) (ln : Nat) (lv : List VV) : Prop where
 len : lv.length = ln
 cells : Cells w LA (lv.flatMap lC)
 vals : ∀ x ∈ lv, ValM w x ∧ InD D x.A x.m
theorem LetM.ext {D : Nat → Prop} {w w' : World} {LA : Option Addr} {ln : Nat} {lv : List VV} (h : LetM D w LA ln lv) (hx : Ext w w') : LetM D w' LA ln lv := ⟨h.len, h.cells.ext hx, fun x hm => ⟨(h.vals x hm).1.ext hx, (h.vals x hm).2⟩⟩
theorem evTs_map (rq lets : List PV) : ∀ l : List Tr, evTs rq lets l = l.map (evT rq lets)
 | [] => rfl
 | t :: l => by rw [evTs, evTs_map rq lets l]; rfl
theorem list3 {α : Type} {l : List α} {x : α} (h : l[0]? = some x) (hl : l.length ≤ 3) : l = [x] ∨ (∃ b, l = [x, b]) ∨ ∃ b c, l = [x, b, c] := by
 match l, h, hl with
 | [], h, _ => simp at h
 | [y], h, _ => simp at h; subst h; exact .inl rfl
 | [y, b], h, _ => simp at h; subst h; exact .inr (.inl ⟨b, rfl⟩)
 | [y, b, c], h, _ => simp at h; subst h; exact .inr (.inr ⟨b, c, rfl⟩)
 | _ :: _ :: _ :: _ :: l, _, h => simp at h
theorem opOK2_of {o : Int} {ts : List Int} (hk : (ts.length : Int) = kidsF o) (h1 : 1 ≤ ts.length) (hz : typG o ts ≠ 0) {x y : PV} (hx : ∀ t, ts[0]? = some t → valV t x) (hy : ∀ t, ts[1]? = some t → valV t y) : opOK2 o x y := by
 refine ⟨opOK_of hk h1 hz hx hy, fun h9 => ?_, fun h19 => ?_⟩
 ·rcases typG_cases hk h1 hz with ⟨ho, e, ht⟩ | ⟨ho, e, ht⟩ | ⟨ho, e, ht⟩ | ⟨ho, e, ht⟩ | ⟨ho, e, ht⟩ | ⟨ho, ⟨a, e⟩, ht⟩ | ⟨ho, e, ht⟩ | ⟨ho, e, ht⟩ | ⟨ho, e, ht⟩ | ⟨ho, e, ht⟩ | ⟨ho, a, e, ht⟩ <;> first | omega | exact (val1 (hx 1 (by rw [e]; rfl))).2.1
 ·rcases typG_cases hk h1 hz with ⟨ho, e, ht⟩ | ⟨ho, e, ht⟩ | ⟨ho, e, ht⟩ | ⟨ho, e, ht⟩ | ⟨ho, e, ht⟩ | ⟨ho, ⟨a, e⟩, ht⟩ | ⟨ho, e, ht⟩ | ⟨ho, e, ht⟩ | ⟨ho, e, ht⟩ | ⟨ho, e, ht⟩ | ⟨ho, a, e, ht⟩ <;> first | omega | exact (val_ty (hx a (by rw [e]; rfl))).1.trans (val_ty (hy a (by rw [e]; rfl))).1.symm
def EvL (nv : List PN) (names : List ByteArray) (tys : List Int) (k : Nat) : Prop := ∀ (a b : Nat) (t : Tr), IsTs nv a b [(k : Int)] [t] → goodT tys.length t → conOK t → (tyT names tys t).2 = 0 → ∀ (wt w : World) (D : Nat → Prop), Ext wt w → (∀ b, b < wt.heap.size → D b) → (∀ b, D b → b < w.heap.size) → ∀ (A : Option Addr) (n c : Nat), RNs wt A n nv → n ≤ 9223372036854775807 →
 ∀ (cl us : ByteArray) (lvl nw : Int) (Q Q2 : Option Addr) (m d m2 d2 : Nat) (xs ys : List ByteArray), Strs wt Q m d xs → Strs wt Q2 m2 d2 ys → ReqV (rqL cl us lvl nw xs ys) → ∀ (LA : Option Addr) (ln lc : Nat) (lets : List VV), LetM D w LA ln lets → ln ≤ 600 → LetsV tys (lets.map (·.p)) →
 FC Tryz.prog 138 [.slice A n c, .int .i64 k, reqV cl us lvl nw Q m d Q2 m2 d2, .slice LA ln lc] w fun r w' => LRes (fun b => D b ∨ DNew w w' b) w' (evT (rqL cl us lvl nw xs ys) (lets.map (·.p)) t) r
theorem l3eval_all (nv : List PN) (names : List ByteArray) (tys : List Int) : ∀ k, EvL nv names tys k := by
 intro k
 induction k using Nat.strongRecOn with
 | _ k ih =>
 intro a b t ht hg hc hty wt w D hwt hDt hD A n c hN hn cl us lvl nw Q Q2 m d m2 d2 xs ys hs hs2 hreq LA ln lc lets hlet hln hlets
 refine FC.intro (cs := []) Tryz.func138 (by kernel_rfl) fun E R hE hr hR => ?_
 have hnl := hN.len
 obtain ⟨kn, p, kids, e1, e2, hp, hk, hks, et⟩ := ht.one
 have e1 : k = kn := by omega
 subst e1
 have et : t = mkT p k kids := by simpa using et
 have hkn := (List.getElem?_eq_some_iff.1 hp).1
 obtain ⟨ad, v, hA, hgv, hcN, hok⟩ := hN.get (i := k) (by omega)
 rw [hp] at hgv
 have hpv : p = v.p := Option.some.inj hgv
 subst hpv
 obtain ⟨⟨o, z, tx, ss, ks⟩, A0, m0, c0, A1, m1, c1⟩ := v
 simp only at hk hks hp
 obtain ⟨kk, hkk⟩ : ∃ kk : Int, kk = k := ⟨_, rfl⟩
 rw [← hkk]
 obtain ⟨T, hT0⟩ : ∃ T, T = evT (rqL cl us lvl nw xs ys) (lets.map (·.p)) t := ⟨_, rfl⟩
 rw [← hT0] at hR
 have r_ks := hok.r_ks
 have r_xs := hok.r_xs
 simp only at r_ks r_xs
 have hkl := r_ks.len
 have hsw := hwt.size
 have inw : ∀ {A : Option Addr} {m c : Nat} {xs : List ByteArray}, Strs wt A m c xs → InD D A m := fun h a ha hm => hDt _ (strs_in h a ha hm)
 conv => cbv
 refine st_box hr fun q6 w1 hx1 h60 => ?_
 have h6 := h60 _ (n1_ _)
 have f6 := bx_form h6
 clear h60
 conv => cbv
 refine st_alloc hr tL3 rfl fun q8 w2 hx2 h80 => ?_
 have h8 := h80 _ hx1.size
 have f8 := bx_form (h80 _ (n1_ _))
 clear h80
 replace h6 := h6.bel hx2
 have s1 := hx1.size
 have s2 := hx2.size
 conv => cbv
 refine st_idx hE sINd hA (by omega) (by omega) fun q hq => ?_
 rw [show kk.toNat = k by omega] at hq
 conv => cbv
 refine st_loadS hE tINd (vs := [.int .i64 o, .int .i64 z, .string tx, .slice A0 m0 c0, .slice A1 m1 c1]) rfl (by rw [hq]; exact fun j u hu => (hwt.trans (hx1.trans hx2)).cell (hcN j u hu)) ?_
 conv => cbv
 refine st_alloc hr tINd rfl fun q9 w3 hx3 h90 => ?_
 have h9 := h90 w.heap.size (by omega)
 have f9 := bx_form (h90 _ (n1_ _))
 clear h90
 conv => cbv
 refine st_putS hr (by kernel_rfl) h9 (add_zero _).symm (by simp) (by simp [Value.oneCell']) fun w4 hw4 h94 => ?_
 simp only [a1_, a2_, a3_, a4_, a5_, a6_, a7_] at h94
 have s3 := hx3.size
 have hx : Ext w w4 := ((hx1.trans hx2).trans hx3).then (hw4.bel h9 (by omega))
 replace h6 := (h6.bel hx3).wr hw4 (bx_apart f6.2.2 f9.2.2 (by omega))
 replace h8 := (h8.bel hx3).wr hw4 (bx_apart f8.2.2 f9.2.2 (by omega))
 replace h9 := h94
 have s4 := hx.size
 have f84 := (bx_form h8).2.1
 have f81 : w.heap.size ≤ q8.block := by omega
 clear hx1 hx2 hx3 hw4 h94 hq hcN
 have fin : ∀ (c n : Int) (tx : ByteArray) (A : Option Addr) (m cc : Nat) (w5 w9 : World), Ext w w5 → Box w.heap.size 220 4 w5 q8 zL3 → Wr (some q8) w5 w9 → LRes (fun b => D b ∨ (w.heap.size ≤ b ∧ b < w5.heap.size ∧ b ≠ q8.block)) w5 T (.agg ⟨[.int .i64 c, .int .i64 n, .string tx, .slice A m cc]⟩) → R (.agg ⟨[.int .i64 c, .int .i64 n, .string tx, .slice A m cc]⟩) w9 := fun c n tx A m cc w5 w9 hx5 hb hw h => by
  rw [hR]
  have s := hw.size
  have s5 := hx5.size
  refine ⟨hx5.then (hw.bel hb hx5.size), (h.wr hw (fun b hb => ?_) f8.2.2).mono fun b hb => ?_⟩
  ·rcases hb with hb | hb
   ·have := hD b hb; omega
   ·exact ⟨hb.2.1, hb.2.2⟩
  ·rcases hb with hb | hb
   ·exact .inl hb
   ·exact .inr ⟨hb.1, by omega⟩
 have leaf : ∀ (x : PV) (A : Option Addr) (m c : Nat) (w5 : World), T = .inr x → ValM w5 ⟨x, A, m, c⟩ → InD D A m → LRes (fun b => D b ∨ (w.heap.size ≤ b ∧ b < w5.heap.size ∧ b ≠ q8.block)) w5 T (.agg ⟨lC ⟨x, A, m, c⟩⟩) := fun x A m c w5 e hv hi => by
  rw [e]; exact ⟨A, m, c, rfl, hv, fun a ha hm => .inl (hi a ha hm)⟩
 have hcon : kidsF o = 0 → o ≠ 5 → o ≠ 6 → o ≠ 7 → valV (knd o) ⟨knd o, z, tx, ss⟩ ∧ T = .inr ⟨knd o, z, tx, ss⟩ := fun h0 h5 h6 h7 => by
  have e : t = .con (knd o) z tx ss k := by rw [et]; unfold mkT leafF; simp only; rw [if_pos h0, if_neg h5, if_neg h6, if_neg h7]
  rw [e] at hc
  simp only [conOK] at hc
  exact ⟨hc, by rw [hT0, e]; simp only [evT]⟩
 conv => cbv
 (refine st_fld hE fINd0 fun p hp => ?_; (conv => cbv); refine st_load hE cInt (by rw [hp]; exact (h9).at _ _ rfl) ?_; (conv => cbv))
 refine br (fun g => ?_) (fun g => ?_)
 ·have g0 := g
  have g : o = 1 := by simpa [hE.cmp, cmpR] using g
  conv => cbv
  refine br (fun _ => ?_) (fun q => absurd g0 q)
  conv => cbv
  obtain ⟨hv, hT⟩ := hcon (by rw [g]; decide) (by omega) (by omega) (by omega)
  rw [show knd o = 2 by rw [g]; rfl] at hv hT
  have hvv := val2 hv
  simp only at hvv
  rw [hvv.2.2.1, hvv.2.2.2] at hT
  (refine st_fld hE fINd1 fun p hp => ?_; (conv => cbv); refine st_load hE cI64 (by rw [hp]; exact (h9).at _ _ rfl) ?_; (conv => cbv))
  refine st_bL1 hE ?_
  conv => cbv
  refine st_putS hr (by kernel_rfl) h8 (add_zero _).symm (by simp [zL3]) (by simp [Value.oneCell']) fun w90 hw90 h890 => ?_
  simp only [zL3, a1_, a2_, a3_, a4_, a5_, a6_, a7_] at h890
  conv => cbv
  refine st_cell hr tL3 rfl h890.at ?_
  conv => cbv
  exact fin 0 z noS none 0 0 w4 w90 hx h8 hw90 (leaf _ none 0 0 w4 hT (nil_m rfl (by simp [ByteArray.size])) inD_none)
 have g1 : o ≠ 1 := by simpa [hE.cmp, cmpR] using g
 clear g
 conv => cbv
 refine br (fun g => ?_) (fun g => ?_)
 ·have g0 := g
  have g : o = 3 := by simpa [hE.cmp, cmpR] using g
  conv => cbv
  obtain ⟨hv, hT⟩ := hcon (by rw [g]; decide) (by omega) (by omega) (by omega)
  rw [show knd o = 1 by rw [g]; rfl] at hv hT
  have hvv := val1 hv
  simp only at hvv
  rw [hvv.2.2.1, hvv.2.2.2] at hT
  (refine st_fld hE fINd1 fun p hp => ?_; (conv => cbv); refine st_load hE cI64 (by rw [hp]; exact (h9).at _ _ rfl) ?_; (conv => cbv))
  refine st_bL1 hE ?_
  conv => cbv
  refine st_putS hr (by kernel_rfl) h8 (add_zero _).symm (by simp [zL3]) (by simp [Value.oneCell']) fun w90 hw90 h890 => ?_
  simp only [zL3, a1_, a2_, a3_, a4_, a5_, a6_, a7_] at h890
  conv => cbv
  refine st_cell hr tL3 rfl h890.at ?_
  conv => cbv
  exact fin 0 z noS none 0 0 w4 w90 hx h8 hw90 (leaf _ none 0 0 w4 hT (nil_m rfl (by simp [ByteArray.size])) inD_none)
 have g3 : o ≠ 3 := by simpa [hE.cmp, cmpR] using g
 clear g
 conv => cbv
 refine br (fun g => ?_) (fun g => ?_)
 ·have g0 := g
  have g : o = 2 := by simpa [hE.cmp, cmpR] using g
  conv => cbv
  obtain ⟨hv, hT⟩ := hcon (by rw [g]; decide) (by omega) (by omega) (by omega)
  rw [show knd o = 3 by rw [g]; rfl] at hv hT
  have hvv := val3 hv
  simp only at hvv
  rw [hvv.2.1, hvv.2.2.1] at hT
  (refine st_fld hE fINd2 fun p hp => ?_; (conv => cbv); refine st_load hE cStr (by rw [hp]; exact (h9).at _ _ rfl) ?_; (conv => cbv))
  refine st_bL2 hE ?_
  conv => cbv
  refine st_putS hr (by kernel_rfl) h8 (add_zero _).symm (by simp [zL3]) (by simp [Value.oneCell']) fun w90 hw90 h890 => ?_
  simp only [zL3, a1_, a2_, a3_, a4_, a5_, a6_, a7_] at h890
  conv => cbv
  refine st_cell hr tL3 rfl h890.at ?_
  conv => cbv
  exact fin 0 0 tx none 0 0 w4 w90 hx h8 hw90 (leaf _ none 0 0 w4 hT (nil_m rfl hvv.2.2.2) inD_none)
 have g2 : o ≠ 2 := by simpa [hE.cmp, cmpR] using g
 clear g
 conv => cbv
 refine br (fun g => ?_) (fun g => ?_)
 ·have g0 := g
  have g : o = 4 := by simpa [hE.cmp, cmpR] using g
  conv => cbv
  obtain ⟨hv, hT⟩ := hcon (by rw [g]; decide) (by omega) (by omega) (by omega)
  rw [show knd o = 4 by rw [g]; rfl] at hv hT
  have hvv := val4 hv
  simp only at hvv
  rw [hvv.2.1, hvv.2.2.1] at hT
  (refine st_fld hE fINd3 fun p hp => ?_; (conv => cbv); refine st_load hE cStrs (by rw [hp]; exact (h9).at _ _ rfl) ?_; (conv => cbv))
  refine st_bL3 hE ?_
  conv => cbv
  refine st_putS hr (by kernel_rfl) h8 (add_zero _).symm (by simp [zL3]) (by simp [Value.oneCell']) fun w90 hw90 h890 => ?_
  simp only [zL3, a1_, a2_, a3_, a4_, a5_, a6_, a7_] at h890
  conv => cbv
  refine st_cell hr tL3 rfl h890.at ?_
  conv => cbv
  exact fin 0 0 noS A0 m0 c0 w4 w90 hx h8 hw90 (leaf _ A0 m0 c0 w4 hT ⟨r_xs.ext (hwt.trans hx), by simp [ByteArray.size]⟩ (inw r_xs))
 have g4 : o ≠ 4 := by simpa [hE.cmp, cmpR] using g
 clear g
 conv => cbv
 refine br (fun g => ?_) (fun g => ?_)
 ·have g0 := g
  have g : o = 6 := by simpa [hE.cmp, cmpR] using g
  conv => cbv
  have e6 : t = .att z := by rw [et]; unfold mkT leafF; simp only; rw [if_pos (by rw [g]; decide), if_neg (by omega), if_pos g]
  rw [e6] at hg
  simp only [goodT] at hg
  obtain ⟨vv, hvv⟩ : ∃ vv : List VV, vv = [⟨⟨3, 0, cl, []⟩, none, 0, 0⟩, ⟨⟨3, 0, us, []⟩, none, 0, 0⟩, ⟨⟨2, lvl, noS, []⟩, none, 0, 0⟩, ⟨⟨2, nw, noS, []⟩, none, 0, 0⟩, ⟨⟨4, 0, noS, xs⟩, Q, m, d⟩, ⟨⟨4, 0, noS, ys⟩, Q2, m2, d2⟩] := ⟨_, rfl⟩
  have hvl : vv.length = 6 := by rw [hvv]; rfl
  have hvp : vv.map (·.p) = rqL cl us lvl nw xs ys := by rw [hvv]; rfl
  obtain ⟨x, hxv⟩ : ∃ x, vv[z.toNat]? = some x := ⟨_, g2_ (by omega)⟩
  have hxp : (rqL cl us lvl nw xs ys)[z.toNat]? = some x.p := by rw [← hvp, List.getElem?_map, hxv]; rfl
  have hT : T = .inr x.p := by rw [hT0, e6]; simp only [evT]; rw [List.getD_eq_getElem?_getD, hxp]; rfl
  have hsz := (val_sz (hreq.2 _ _ hxp)).1
  have hxm : ValM wt x ∧ InD D x.A x.m := by
   have hm := m1_ hxv
   rw [hvv] at hm
   simp only [List.mem_cons, List.not_mem_nil, or_false] at hm
   rcases hm with rfl | rfl | rfl | rfl | rfl | rfl
   ·exact ⟨nil_m rfl hsz, inD_none⟩
   ·exact ⟨nil_m rfl hsz, inD_none⟩
   ·exact ⟨nil_m rfl hsz, inD_none⟩
   ·exact ⟨nil_m rfl hsz, inD_none⟩
   ·exact ⟨⟨hs, hsz⟩, inw hs⟩
   ·exact ⟨⟨hs2, hsz⟩, inw hs2⟩
  (refine st_fld hE fI0 fun p hp => ?_; (conv => cbv); refine st_load hE cStr (by rw [hp]; exact (h6).at _ _ rfl) ?_; (conv => cbv))
  refine st_bL2 hE ?_
  conv => cbv
  (refine st_fld hE fI1 fun p hp => ?_; (conv => cbv); refine st_load hE cStr (by rw [hp]; exact (h6).at _ _ rfl) ?_; (conv => cbv))
  refine st_bL2 hE ?_
  conv => cbv
  (refine st_fld hE fI2 fun p hp => ?_; (conv => cbv); refine st_load hE cI64 (by rw [hp]; exact (h6).at _ _ rfl) ?_; (conv => cbv))
  refine st_bL1 hE ?_
  conv => cbv
  (refine st_fld hE fI3 fun p hp => ?_; (conv => cbv); refine st_load hE cI64 (by rw [hp]; exact (h6).at _ _ rfl) ?_; (conv => cbv))
  refine st_bL1 hE ?_
  conv => cbv
  (refine st_fld hE fI4 fun p hp => ?_; (conv => cbv); refine st_load hE cStrs (by rw [hp]; exact (h6).at _ _ rfl) ?_; (conv => cbv))
  refine st_bL3 hE ?_
  conv => cbv
  (refine st_fld hE fI5 fun p hp => ?_; (conv => cbv); refine st_load hE cStrs (by rw [hp]; exact (h6).at _ _ rfl) ?_; (conv => cbv))
  refine st_bL3 hE ?_
  conv => cbv
  refine st_litsK hr sL3 rfl (by omega) (m := 6) rfl (by omega) (by omega) rfl (by simp [Value.cells]) (cs := vv.flatMap lC) (by rw [hvv]; rfl) fun A7 w5 hx5 ho => ?_
  obtain ⟨aL, hA7, hcell⟩ := fl_at lC_len (ho _ (n1_ _)).cells (by omega) hxv
  replace h9 := h9.bel hx5
  replace h8 := h8.bel hx5
  replace hx := hx.trans hx5
  clear ho
  conv => cbv
  (refine st_fld hE fINd1 fun p hp => ?_; (conv => cbv); refine st_load hE cI64 (by rw [hp]; exact (h9).at _ _ rfl) ?_; (conv => cbv))
  refine st_idx hE sL3 hA7 (by omega) (by omega) fun p hp => ?_
  obtain ⟨⟨xk, xn, xt, xx⟩, xA, xm, xc⟩ := x
  conv => cbv
  refine st_loadS hE tL3 (vs := [.int .i64 0, .int .i64 xn, .string xt, .slice xA xm xc]) rfl (by rw [hp]; exact fun j u hu => hcell j u hu) ?_
  conv => cbv
  refine st_putS hr (by kernel_rfl) h8 (add_zero _).symm (by simp [zL3]) (by simp [Value.oneCell']) fun w90 hw90 h890 => ?_
  simp only [zL3, a1_, a2_, a3_, a4_, a5_, a6_, a7_] at h890
  conv => cbv
  refine st_cell hr tL3 rfl h890.at ?_
  conv => cbv
  exact fin 0 xn xt xA xm xc w5 w90 hx h8 hw90 (leaf _ xA xm xc w5 hT (hxm.1.ext (hwt.trans hx)) hxm.2)
 have g6 : o ≠ 6 := by simpa [hE.cmp, cmpR] using g
 clear g
 conv => cbv
 refine br (fun g => ?_) (fun g => ?_)
 ·have g0 := g
  have g : o = 7 := by simpa [hE.cmp, cmpR] using g
  conv => cbv
  have e7 : t = .lt z := by rw [et]; unfold mkT leafF; simp only; rw [if_pos (by rw [g]; decide), if_neg (by omega), if_neg (by omega), if_pos g]
  rw [e7] at hg
  simp only [goodT] at hg
  have hll := hlets.len
  rw [List.length_map] at hll
  have hl2 := hlet.len
  obtain ⟨x, hxv⟩ : ∃ x, lets[z.toNat]? = some x := ⟨_, g2_ (by omega)⟩
  have hxm := hlet.vals x (m1_ hxv)
  have hT : T = .inr x.p := by rw [hT0, e7]; simp only [evT]; rw [List.getD_eq_getElem?_getD, List.getElem?_map, hxv]; rfl
  obtain ⟨aL, hLA, hcell⟩ := fl_at lC_len (hlet.ext hx).cells (by omega) hxv
  obtain ⟨⟨xk, xn, xt, xx⟩, xA, xm, xc⟩ := x
  (refine st_fld hE fINd1 fun p hp => ?_; (conv => cbv); refine st_load hE cI64 (by rw [hp]; exact (h9).at _ _ rfl) ?_; (conv => cbv))
  refine st_idx hE sL3 hLA (by omega) (by omega) fun p hp => ?_
  conv => cbv
  refine st_loadS hE tL3 (vs := [.int .i64 0, .int .i64 xn, .string xt, .slice xA xm xc]) rfl (by rw [hp]; exact fun j u hu => hcell j u hu) ?_
  conv => cbv
  refine st_putS hr (by kernel_rfl) h8 (add_zero _).symm (by simp [zL3]) (by simp [Value.oneCell']) fun w90 hw90 h890 => ?_
  simp only [zL3, a1_, a2_, a3_, a4_, a5_, a6_, a7_] at h890
  conv => cbv
  refine st_cell hr tL3 rfl h890.at ?_
  conv => cbv
  exact fin 0 xn xt xA xm xc w4 w90 hx h8 hw90 (leaf _ xA xm xc w4 hT (hxm.1.ext hx) hxm.2)
 have g7 : o ≠ 7 := by simpa [hE.cmp, cmpR] using g
 clear g
 conv => cbv
 have h0 : kidsF o ≠ 0 := fun h => by
  have h17 : 1 ≤ o ∧ o ≤ 7 := by unfold kidsF at h; (repeat' split at h) <;> omega
  have h5 : o = 5 := by omega
  have e : t = .nam tx k := by rw [et]; unfold mkT leafF; simp only; rw [if_pos h, if_pos h5]
  rw [e] at hc
  simp only [conOK] at hc
 have ho1 : t = .op o kids k := by rw [et]; unfold mkT; simp only; rw [if_neg h0]
 rw [ho1] at hg hc hty
 simp only [goodT] at hg
 simp only [conOK] at hc
 obtain ⟨ty1, ty2⟩ : (tyTs names tys kids).1 = 0 ∧ typG o (tyTs names tys kids).2 ≠ 0 := by
  rw [tyT] at hty
  split at hty
  ·rename_i h; exact absurd hty h
  ·rename_i h
   split at hty
   ·cases hty
   ·rename_i h2; exact ⟨Classical.byContradiction h, h2⟩
 have hT1 : T = combR o (kids.map (evT (rqL cl us lvl nw xs ys) (lets.map (·.p)))) := by rw [hT0, ho1, evT, evTs_map]
 obtain ⟨v1, v2, v3⟩ := evs_ok (rq := rqL cl us lvl nw xs ys) hreq hlets kids hg.2.2 hc ty1
 have hk3 := kidsF_le o
 have hkl2 := hks.len
 have hk1 : 1 ≤ kids.length := hg.2.1
 have hko := hg.1
 have okk : ∀ {x y : PV}, (∀ t, (tyTs names tys kids).2[0]? = some t → valV t x) → (∀ t, (tyTs names tys kids).2[1]? = some t → valV t y) → opOK2 o x y := fun hx hy => opOK2_of (by rw [v1]; exact hko) (by rw [v1]; exact hk1) ty2 hx hy
 have okv : ∀ {j : Nat} {tj : Tr} {x : PV}, kids[j]? = some tj → evT (rqL cl us lvl nw xs ys) (lets.map (·.p)) tj = .inr x → ∀ t, (tyTs names tys kids).2[j]? = some t → valV t x := fun {j tj x} hj he t ht => by
  have := v3 j t (.inr x) ht (by rw [evTs_map, List.getElem?_map, hj, ← he]; rfl)
  exact this
 have call : ∀ (j : Nat) (tj : Tr), kids[j]? = some tj → ∃ kj : Nat, ks[j]? = some (kj : Int) ∧ ∀ {w9 : World}, Ext w w9 → FC Tryz.prog 138 [.slice A n c, .int .i64 kj, reqV cl us lvl nw Q m d Q2 m2 d2, .slice LA ln lc] w9 fun r w' => LRes (fun b => D b ∨ DNew w9 w' b) w' (evT (rqL cl us lvl nw xs ys) (lets.map (·.p)) tj) r := fun j tj hj => by
  have hlt : j < ks.length := by rw [← hkl2]; exact (List.getElem?_eq_some_iff.1 hj).1
  obtain ⟨t', a', b', h1, h2⟩ := hks.at (g2_ hlt)
  rw [hj] at h1
  cases h1
  have hrt := (hks.roots _ (List.getElem_mem hlt)).2
  obtain ⟨kj, pj, kds, q1, q2, _⟩ := h2.one
  have hm := m1_ hj
  rw [q1] at h2
  refine ⟨kj, by rw [g2_ hlt, q1], fun {w9} hx9 => ?_⟩
  exact ih kj (by omega) a' b' tj h2 (goodTs_at hg.2.2 hj) (conOKs_mem hc hm) (tyTs_all ty1 _ hm) wt w9 D (hwt.trans hx9) hDt (fun b hb => n3_ (hD b hb) hx9.size) A n c hN hn cl us lvl nw Q Q2 m d m2 d2 xs ys hs hs2 hreq LA ln lc lets (hlet.ext hx9) hln hlets
 obtain ⟨aK, hAK⟩ := r_ks.cells.1 (by rw [List.length_map]; omega)
 have hcK : ∀ {j : Nat} {kj : Int} {w1 : World}, ks[j]? = some kj → Ext wt w1 → w1.cell? (aK.add j) = some (.int .i64 kj) := fun {j kj w1} hj h1 => h1.cell (r_ks.cells.2 aK hAK j _ (by rw [List.getElem?_map, hj]; rfl))
 obtain ⟨t0, ht0⟩ : ∃ t0, kids[0]? = some t0 := ⟨_, g2_ (by omega)⟩
 have hform := list3 ht0 (by omega)
 obtain ⟨k0, hk0, call0⟩ := call 0 t0 ht0
 obtain ⟨R0, hR0⟩ : ∃ R0, R0 = evT (rqL cl us lvl nw xs ys) (lets.map (·.p)) t0 := ⟨_, rfl⟩
 rw [← hR0] at call0
 refine draw_p (Ext w4) [0, 1, 2, 3, 4, 5, 6] 7 8 [(9, false)] hr (St := Addr × Int × Int × ByteArray × Option Addr × Nat × Nat) (fun s w' => Ext w4 w' ∧ Box w4.heap.size 220 4 w' s.1 [.int .i64 s.2.1, .int .i64 s.2.2.1, .string s.2.2.2.1, .slice s.2.2.2.2.1 s.2.2.2.2.2.1 s.2.2.2.2.2.2] ∧ LRes (fun b => D b ∨ (w4.heap.size ≤ b ∧ b < w'.heap.size ∧ b ≠ s.1.block)) w' R0 (.agg ⟨[.int .i64 s.2.1, .int .i64 s.2.2.1, .string s.2.2.2.1, .slice s.2.2.2.2.1 s.2.2.2.2.2.1 s.2.2.2.2.2.2]⟩)) (fun s => [(0, .slice A n c), (3, .slice LA ln lc), (6, .pointer (some q6)), (8, .pointer (some q8)), (9, .pointer (some q9)), (10, .pointer (some s.1))]) fol (by kernel_rfl) (fun w0 hs => hs.ext) (fun I hI E' hE' v5 hs5 => ?_) ?_
 ·conv => cbv
  refine sw_fld hE' fINd4 fun p hp => ?_
  conv => cbv
  refine sw_load hE' cInts (v := .slice A1 m1 c1) (fun w1 h1 => by rw [hp]; exact h1.cell (h9.at _ _ rfl)) ?_
  conv => cbv
  refine sw_idx hE' tInts hAK (by omega) (by omega) fun p2 hp2 => ?_
  conv => cbv
  refine sw_load hE' cInt (v := .int .i64 k0) (fun w1 h1 => by rw [hp2]; exact hcK hk0 (hwt.trans (hx.trans h1))) ?_
  clear hp hp2
  conv => cbv
  refine sw_loadS hE' tIReq (vs := [.string cl, .string us, .int .i64 lvl, .int .i64 nw, .slice Q m d, .slice Q2 m2 d2]) rfl (fun w1 h1 j v hv => h1.cell (h6.at j v hv)) ?_
  have s5 := hs5.ext.size
  conv => cbv
  refine ⟨?_, ?_⟩
  ·refine st_f hr (call0 (hx.trans hs5.ext)) fun r v6 hx6 hres => ?_
   have hx56 := hs5.ext.trans hx6
   refine ⟨hx56, ?_⟩
   have s6 := hx6.size
   obtain ⟨cx, nx, tx0, xA, xm, xc, er⟩ := hres.form
   subst er
   conv => cbv
   refine st_alloc hr tL3 rfl fun q10 v7 hx7 hq0 => ?_
   have h10 := hq0 w4.heap.size (by omega)
   have f10 := bx_form (hq0 _ (n1_ _))
   have h10b := hq0 v6.heap.size (by omega)
   refine ⟨hx56.trans hx7, ?_⟩
   have s7 := hx7.size
   conv => cbv
   refine st_putS hr (by kernel_rfl) h10 (add_zero _).symm (by simp [zL3]) (by simp [Value.oneCell']) fun v8 hw8 h108 => ?_
   simp only [zL3, a1_, a2_, a3_, a4_, a5_, a6_, a7_] at h108
   have hx68 : Ext v6 v8 := hx7.then (hw8.bel h10b (by omega))
   have s8 := hx68.size
   refine ⟨hx56.trans hx68, ?_⟩
   refine ⟨(q10, cx, nx, tx0, xA, xm, xc), by simp [Fits, lk, put], hI _ _ ⟨hx56.trans hx68, h108, (hres.ext hx68).mono fun b hb => ?_⟩⟩
   rcases hb with hb | hb
   ·exact .inl hb
   ·exact .inr ⟨by have := hb.1; omega, by have := hb.2; omega, by have := hb.2; simp only; omega⟩
  ·refine st_alloc hr tL3 rfl fun q10 v6 hx6 hq0 => ?_
   have h10 := hq0 w4.heap.size (by omega)
   have f10 := bx_form (hq0 _ (n1_ _))
   clear hq0
   have hx56 := hs5.ext.trans hx6
   refine ⟨hx56, ?_⟩
   have s6 := hx6.size
   conv => cbv
   refine st_f hr (call0 (hx.trans hx56)) fun r v7 hx7 hres => ?_
   have hx57 := hx56.trans hx7
   refine ⟨hx57, ?_⟩
   have s7 := hx7.size
   obtain ⟨cx, nx, tx0, xA, xm, xc, er⟩ := hres.form
   subst er
   replace h10 := h10.bel hx7
   conv => cbv
   refine st_putS hr (by kernel_rfl) h10 (add_zero _).symm (by simp [zL3]) (by simp [Value.oneCell']) fun v8 hw8 h108 => ?_
   simp only [zL3, a1_, a2_, a3_, a4_, a5_, a6_, a7_] at h108
   have s8 := hw8.size
   have hx58 : Ext w4 v8 := hx57.then (hw8.bel h10 (by omega))
   refine ⟨hx58, ?_⟩
   refine ⟨(q10, cx, nx, tx0, xA, xm, xc), by simp [Fits, lk, put], hI _ _ ⟨hx58, h108, (hres.wr hw8 (fun b hb => ?_) f10.2.2).mono fun b hb => ?_⟩⟩
   ·rcases hb with hb | hb
    ·have := hD b hb; omega
    ·exact ⟨hb.2, by have := hb.1; omega⟩
   ·rcases hb with hb | hb
    ·exact .inl hb
    ·exact .inr ⟨by have := hb.1; omega, by have := hb.2; omega, by have := hb.1; simp only; omega⟩
 rintro ⟨q10, cx, nx, tx0, xA, xm, xc⟩ w8 ⟨hxJ, hJ, hresJ⟩
 simp only at hJ hresJ
 have hres8 := hresJ
 have h10 := hJ
 have f10 := bx_form h10
 replace h6 := h6.bel hxJ
 replace h8 := h8.bel hxJ
 replace h9 := h9.bel hxJ
 replace hx := hx.trans hxJ
 have s8 := hx.size
 have s48 := hxJ.size
 clear hJ hresJ
 conv => cbv
 (refine st_fld hE fL3v0 fun p hp => ?_; (conv => cbv); refine st_load hE cInt (by rw [hp]; exact (h10).at _ _ rfl) ?_; (conv => cbv))
 cases hR0c : R0 with
 | inl e =>
  rw [hR0c] at hres8
  obtain ⟨he, n1, tx1, A1', m1', c1', e1⟩ := hres8
  simp only [Value.agg.injEq, Array.mk.injEq, b1_, Value.int.injEq, true_and] at e1
  have e1 : cx = e := e1.1
  have hT : T = .inl e := by
   rw [hT1]
   rcases hform with q | ⟨b, q⟩ | ⟨b, cc, q⟩ <;> rw [q] <;> simp only [b2_, b3_] <;> rw [← hR0, hR0c] <;> rfl
  refine br (fun g => ?_) (fun g => absurd g (by simp [hE.cmp, cmpR]; omega))
  conv => cbv
  refine st_loadS hE tL3 rfl h10.at ?_
  conv => cbv
  refine st_putS hr (by kernel_rfl) h8 (add_zero _).symm (by simp [zL3]) (by simp [Value.oneCell']) fun w90 hw90 h890 => ?_
  simp only [zL3, a1_, a2_, a3_, a4_, a5_, a6_, a7_] at h890
  conv => cbv
  refine st_cell hr tL3 rfl h890.at ?_
  conv => cbv
  exact fin cx nx tx0 xA xm xc w8 w90 hx h8 hw90 (by rw [hT, e1]; exact ⟨he, nx, tx0, xA, xm, xc, rfl⟩)
 | inr x =>
  have hx0V := hR0.symm.trans hR0c
  rw [hR0c] at hres8
  obtain ⟨A1', m1', c1', e1, hxm, hxi⟩ := hres8
  obtain ⟨xk, xn, xt, xx⟩ := x
  simp only [lC, Value.agg.injEq, Array.mk.injEq, b1_, Value.int.injEq, Value.string.injEq, Value.slice.injEq, true_and, and_true] at e1
  obtain ⟨rfl, rfl, rfl, rfl, rfl, rfl⟩ := e1
  have hxt := okv ht0 hx0V
  refine br (fun g => absurd g (by simp [hE.cmp, cmpR])) (fun _ => ?_)
  conv => cbv
  (refine st_fld hE fINd0 fun p hp => ?_; (conv => cbv); refine st_load hE cInt (by rw [hp]; exact (h9).at _ _ rfl) ?_; (conv => cbv))
  refine br (fun g => ?_) (fun g => ?_)
  ·have g : o = 27 := by simpa [hE.cmp, cmpR] using g
   have hn1 : nx = 0 ∨ nx = 1 := by
    rcases typG_cases (by rw [v1]; exact hko) (by rw [v1]; exact hk1) ty2 with ⟨ho, e, _⟩ | ⟨ho, e, _⟩ | ⟨ho, e, _⟩ | ⟨ho, e, _⟩ | ⟨ho, e, _⟩ | ⟨ho, ⟨_, e⟩, _⟩ | ⟨ho, e, _⟩ | ⟨ho, e, _⟩ | ⟨ho, e, _⟩ | ⟨ho, e, _⟩ | ⟨ho, _, e, _⟩ <;> first | omega | exact (val1 (hxt 1 (by rw [e]; rfl))).2.1
   have hk27 : kids.length = 3 := by rw [g, show kidsF 27 = 3 from rfl] at hko; omega
   obtain ⟨t1, t2, q⟩ : ∃ t1 t2, kids = [t0, t1, t2] := by
    rcases hform with q | ⟨_, q⟩ | q
    ·rw [q] at hk27; simp at hk27
    ·rw [q] at hk27; simp at hk27
    ·exact q
   obtain ⟨jj, tj, hjj, hj, hTj⟩ : ∃ (jj : Nat) (tj : Tr), (jj : Int) = 2 - nx ∧ kids[jj]? = some tj ∧ T = evT (rqL cl us lvl nw xs ys) (lets.map (·.p)) tj := by
    rcases hn1 with h | h
    ·refine ⟨2, t2, by omega, by rw [q]; rfl, ?_⟩
     rw [hT1, q]
     simp only [b2_, b3_]
     rw [hx0V]
     simp only [combR]
     rw [if_neg (by omega)]
    ·refine ⟨1, t1, by omega, by rw [q]; rfl, ?_⟩
     rw [hT1, q]
     simp only [b2_, b3_]
     rw [hx0V]
     simp only [combR]
     rw [if_pos h]
   obtain ⟨kj, hkj, callj⟩ := call jj tj hj
   rw [← hTj] at callj
   conv => cbv
   refine draw_t [0, 1, 2, 3, 4, 5, 6, 7, 8, 9] [(10, true), (11, false)] hr fol (by kernel_rfl) fun E' hE' w9 hs9 S hS => ?_
   replace h6 := h6.bel hs9.ext
   replace h8 := h8.bel hs9.ext
   replace h9 := h9.bel hs9.ext
   replace h10 := h10.bel hs9.ext
   replace hx := hx.trans hs9.ext
   have s9 := hs9.ext.size
   obtain ⟨jz, hjz⟩ : ∃ z : Int, z = 2 - nx := ⟨_, rfl⟩
   have ej : E'.ar .sub .i64 2 nx = jz := by rw [hE'.ar, show arR .sub .i64 2 nx = IntKind.i64.wrap (2 - nx) from rfl, wrap_in (by omega) (by omega)]; omega
   conv => cbv
   (refine st_fld hE' fINd4 fun p hp => ?_; (conv => cbv); refine st_load hE' cInts (by rw [hp]; exact (h9).at _ _ rfl) ?_; (conv => cbv))
   (refine st_fld hE' fL3v1 fun p hp => ?_; (conv => cbv); refine st_load hE' cI64 (by rw [hp]; exact (h10).at _ _ rfl) ?_; (conv => cbv))
   simp only [ej]
   refine st_idx hE' tInts hAK (by omega) (by omega) fun p2 hp2 => ?_
   conv => cbv
   refine st_load hE' cInt (v := .int .i64 kj) (by rw [hp2, show jz.toNat * 1 = jj by omega]; exact hcK hkj (hwt.trans hx)) ?_
   clear hp2
   conv => cbv
   refine st_loadS hE' tIReq rfl h6.at ?_
   conv => cbv
   refine st_f hr (callj hx) fun r w10 hx10 hresj => ?_
   refine ⟨hS _ hx10, ?_⟩
   have s10 := hx10.size
   obtain ⟨cy, ny, tx1, yA, ym, yc, er⟩ := hresj.form
   subst er
   replace h8 := h8.bel hx10
   conv => cbv
   refine st_putS hr (by kernel_rfl) h8 (add_zero _).symm (by simp [zL3]) (by simp [Value.oneCell']) fun w90 hw90 h890 => ?_
   simp only [zL3, a1_, a2_, a3_, a4_, a5_, a6_, a7_] at h890
   conv => cbv
   refine st_cell hr tL3 rfl h890.at ?_
   conv => cbv
   exact fin cy ny tx1 yA ym yc w10 w90 (hx.trans hx10) h8 hw90 (hresj.mono fun b hb => by
    rcases hb with hb | hb
    ·exact .inl hb
    ·exact .inr ⟨by have := hb.1; omega, hb.2, by have := hb.1; omega⟩)
  have g27 : o ≠ 27 := by simpa [hE.cmp, cmpR] using g
  clear g
  conv => cbv
  (refine st_fld hE fINd0 fun p hp => ?_; (conv => cbv); refine st_load hE cInt (by rw [hp]; exact (h9).at _ _ rfl) ?_; (conv => cbv))
  refine br (fun g => ?_) (fun g => ?_)
  ·have g : o = 25 := by simpa [hE.cmp, cmpR] using g
   have hk2 : kids.length = 2 := by rw [g, show kidsF 25 = 2 from rfl] at hko; omega
   obtain ⟨t1, q⟩ : ∃ t1, kids = [t0, t1] := by
    rcases hform with q | q | ⟨_, _, q⟩
    ·rw [q] at hk2; simp at hk2
    ·exact q
    ·rw [q] at hk2; simp at hk2
   have ht1 : kids[1]? = some t1 := by rw [q]; rfl
   obtain ⟨k1, hk1', call1⟩ := call 1 t1 ht1
   obtain ⟨R1, hR1⟩ : ∃ R1, R1 = evT (rqL cl us lvl nw xs ys) (lets.map (·.p)) t1 := ⟨_, rfl⟩
   rw [← hR1] at call1
   have hT2 : T = combR o [.inr ⟨xk, nx, tx0, xx⟩, R1] := by rw [hT1, q]; simp only [b2_, b3_]; rw [hx0V, ← hR1]
   conv => cbv
   (refine st_fld hE fL3v1 fun p hp => ?_; (conv => cbv); refine st_load hE cI64 (by rw [hp]; exact (h10).at _ _ rfl) ?_; (conv => cbv))
   refine br (fun g2 => ?_) (fun g2 => ?_)
   ·have g2 : nx = 0 := by simpa [hE.cmp, cmpR] using g2
    have hT : T = .inr ⟨xk, nx, tx0, xx⟩ := by rw [hT2]; simp only [combR]; rw [if_pos (.inl ⟨g, g2⟩)]
    conv => cbv
    refine st_loadS hE tL3 rfl h10.at ?_
    conv => cbv
    refine st_putS hr (by kernel_rfl) h8 (add_zero _).symm (by simp [zL3]) (by simp [Value.oneCell']) fun w90 hw90 h890 => ?_
    simp only [zL3, a1_, a2_, a3_, a4_, a5_, a6_, a7_] at h890
    conv => cbv
    refine st_cell hr tL3 rfl h890.at ?_
    conv => cbv
    exact fin 0 nx tx0 xA xm xc w8 w90 hx h8 hw90 (by
     rw [hT]
     exact ⟨xA, xm, xc, rfl, hxm, fun a ha hm => by
      rcases hxi a ha hm with hb | hb
      ·exact .inl hb
      ·exact .inr ⟨by have := hb.1; omega, hb.2.1, by have := hb.1; omega⟩⟩)
   ·have g2 : nx ≠ 0 := by simpa [hE.cmp, cmpR] using g2
    conv => cbv
    (refine st_fld hE fINd0 fun p hp => ?_; (conv => cbv); refine st_load hE cInt (by rw [hp]; exact (h9).at _ _ rfl) ?_; (conv => cbv))
    refine br (fun g => absurd g (by simp [hE.cmp, cmpR]; omega)) (fun _ => ?_)
    have hTR : T = R1 := by rw [hT2]; simp only [combR]; rw [if_neg (by omega), if_pos (by omega)]
    conv => cbv
    (refine st_fld hE fINd4 fun p hp => ?_; (conv => cbv); refine st_load hE cInts (by rw [hp]; exact (h9).at _ _ rfl) ?_; (conv => cbv))
    refine st_len hE tInts fun x5 hx5 => ?_
    conv => cbv
    refine br (fun g => absurd g (by simp [hE.cmp, cmpR]; omega)) (fun _ => ?_)
    conv => cbv
    refine draw_p (Ext w8) [0, 1, 2, 3, 4, 5, 6] 7 8 [(9, false)] hr (St := Addr × Int × Int × ByteArray × Option Addr × Nat × Nat) (fun s w' => Ext w8 w' ∧ Box w8.heap.size 220 4 w' s.1 [.int .i64 s.2.1, .int .i64 s.2.2.1, .string s.2.2.2.1, .slice s.2.2.2.2.1 s.2.2.2.2.2.1 s.2.2.2.2.2.2] ∧ LRes (fun b => D b ∨ (w8.heap.size ≤ b ∧ b < w'.heap.size ∧ b ≠ s.1.block)) w' R1 (.agg ⟨[.int .i64 s.2.1, .int .i64 s.2.2.1, .string s.2.2.2.1, .slice s.2.2.2.2.1 s.2.2.2.2.2.1 s.2.2.2.2.2.2]⟩)) (fun s => [(0, .slice A n c), (3, .slice LA ln lc), (6, .pointer (some q6)), (8, .pointer (some q8)), (9, .pointer (some q9)), (10, .pointer (some q10)), (11, .pointer (some s.1))]) fol (by kernel_rfl) (fun w0 hs => hs.ext) (fun I hI E' hE' v5 hs5 => ?_) ?_
    ·conv => cbv
     refine sw_fld hE' fINd4 fun p hp => ?_
     conv => cbv
     refine sw_load hE' cInts (v := .slice A1 m1 c1) (fun w1 h1 => by rw [hp]; exact h1.cell (h9.at _ _ rfl)) ?_
     conv => cbv
     refine sw_idx hE' tInts hAK (by omega) (by omega) fun p2 hp2 => ?_
     conv => cbv
     refine sw_load hE' cInt (v := .int .i64 k1) (fun w1 h1 => by rw [hp2]; exact hcK hk1' (hwt.trans (hx.trans h1))) ?_
     clear hp hp2
     conv => cbv
     refine sw_loadS hE' tIReq (vs := [.string cl, .string us, .int .i64 lvl, .int .i64 nw, .slice Q m d, .slice Q2 m2 d2]) rfl (fun w1 h1 j v hv => h1.cell (h6.at j v hv)) ?_
     have s5 := hs5.ext.size
     conv => cbv
     refine ⟨?_, ?_⟩
     ·refine st_f hr (call1 (hx.trans hs5.ext)) fun r v6 hx6 hres => ?_
      have hx56 := hs5.ext.trans hx6
      refine ⟨hx56, ?_⟩
      have s6 := hx6.size
      obtain ⟨cx, nx, tx0, xA, xm, xc, er⟩ := hres.form
      subst er
      conv => cbv
      refine st_alloc hr tL3 rfl fun q10 v7 hx7 hq0 => ?_
      have h10 := hq0 w8.heap.size (by omega)
      have f10 := bx_form (hq0 _ (n1_ _))
      have h10b := hq0 v6.heap.size (by omega)
      refine ⟨hx56.trans hx7, ?_⟩
      have s7 := hx7.size
      conv => cbv
      refine st_putS hr (by kernel_rfl) h10 (add_zero _).symm (by simp [zL3]) (by simp [Value.oneCell']) fun v8 hw8 h108 => ?_
      simp only [zL3, a1_, a2_, a3_, a4_, a5_, a6_, a7_] at h108
      have hx68 : Ext v6 v8 := hx7.then (hw8.bel h10b (by omega))
      have s8 := hx68.size
      refine ⟨hx56.trans hx68, ?_⟩
      refine ⟨(q10, cx, nx, tx0, xA, xm, xc), by simp [Fits, lk, put], hI _ _ ⟨hx56.trans hx68, h108, (hres.ext hx68).mono fun b hb => ?_⟩⟩
      rcases hb with hb | hb
      ·exact .inl hb
      ·exact .inr ⟨by have := hb.1; omega, by have := hb.2; omega, by have := hb.2; simp only; omega⟩
     ·refine st_alloc hr tL3 rfl fun q10 v6 hx6 hq0 => ?_
      have h10 := hq0 w8.heap.size (by omega)
      have f10 := bx_form (hq0 _ (n1_ _))
      clear hq0
      have hx56 := hs5.ext.trans hx6
      refine ⟨hx56, ?_⟩
      have s6 := hx6.size
      conv => cbv
      refine st_f hr (call1 (hx.trans hx56)) fun r v7 hx7 hres => ?_
      have hx57 := hx56.trans hx7
      refine ⟨hx57, ?_⟩
      have s7 := hx7.size
      obtain ⟨cx, nx, tx0, xA, xm, xc, er⟩ := hres.form
      subst er
      replace h10 := h10.bel hx7
      conv => cbv
      refine st_putS hr (by kernel_rfl) h10 (add_zero _).symm (by simp [zL3]) (by simp [Value.oneCell']) fun v8 hw8 h108 => ?_
      simp only [zL3, a1_, a2_, a3_, a4_, a5_, a6_, a7_] at h108
      have s8 := hw8.size
      have hx58 : Ext w8 v8 := hx57.then (hw8.bel h10 (by omega))
      refine ⟨hx58, ?_⟩
      refine ⟨(q10, cx, nx, tx0, xA, xm, xc), by simp [Fits, lk, put], hI _ _ ⟨hx58, h108, (hres.wr hw8 (fun b hb => ?_) f10.2.2).mono fun b hb => ?_⟩⟩
      ·rcases hb with hb | hb
       ·have := hD b hb; omega
       ·exact ⟨hb.2, by have := hb.1; omega⟩
      ·rcases hb with hb | hb
       ·exact .inl hb
       ·exact .inr ⟨by have := hb.1; omega, by have := hb.2; omega, by have := hb.1; simp only; omega⟩
    rintro ⟨q11, cy, ny, tx1, yA, ym, yc⟩ w12 ⟨hxJ, hJ, hresJ⟩
    simp only at hJ hresJ
    have hres12 := hresJ
    have h11 := hJ
    have f11 := bx_form h11
    have hx812 := hxJ
    replace h8 := h8.bel hxJ
    replace h9 := h9.bel hxJ
    replace h10 := h10.bel hxJ
    replace hx := hx.trans hxJ
    have hxm12 := hxm.ext hx812
    have s12 := hx.size
    have s812 := hx812.size
    clear hJ hresJ
    conv => cbv
    (refine st_fld hE fL3v0 fun p hp => ?_; (conv => cbv); refine st_load hE cInt (by rw [hp]; exact (h11).at _ _ rfl) ?_; (conv => cbv))
    rw [← hTR] at hres12
    refine br (fun g => ?_) (fun g => ?_)
    ·clear g
     conv => cbv
     refine st_loadS hE tL3 rfl h11.at ?_
     conv => cbv
     refine st_putS hr (by kernel_rfl) h8 (add_zero _).symm (by simp [zL3]) (by simp [Value.oneCell']) fun w90 hw90 h890 => ?_
     simp only [zL3, a1_, a2_, a3_, a4_, a5_, a6_, a7_] at h890
     conv => cbv
     refine st_cell hr tL3 rfl h890.at ?_
     conv => cbv
     exact fin cy ny tx1 yA ym yc w12 w90 hx h8 hw90 (hres12.mono fun b hb => by
      rcases hb with hb | hb
      ·exact .inl hb
      ·exact .inr ⟨by have := hb.1; omega, hb.2.1, by have := hb.1; omega⟩)
    ·clear g
     conv => cbv
     (refine st_fld hE fINd0 fun p hp => ?_; (conv => cbv); refine st_load hE cInt (by rw [hp]; exact (h9).at _ _ rfl) ?_; (conv => cbv))
     refine br (fun _ => ?_) (fun g => absurd g (by simp [hE.cmp, cmpR]; omega))
     conv => cbv
     refine st_loadS hE tL3 rfl h11.at ?_
     conv => cbv
     refine st_putS hr (by kernel_rfl) h8 (add_zero _).symm (by simp [zL3]) (by simp [Value.oneCell']) fun w90 hw90 h890 => ?_
     simp only [zL3, a1_, a2_, a3_, a4_, a5_, a6_, a7_] at h890
     conv => cbv
     refine st_cell hr tL3 rfl h890.at ?_
     conv => cbv
     exact fin cy ny tx1 yA ym yc w12 w90 hx h8 hw90 (hres12.mono fun b hb => by
      rcases hb with hb | hb
      ·exact .inl hb
      ·exact .inr ⟨by have := hb.1; omega, hb.2.1, by have := hb.1; omega⟩)
  have g25 : o ≠ 25 := by simpa [hE.cmp, cmpR] using g
  clear g
  conv => cbv
  (refine st_fld hE fINd0 fun p hp => ?_; (conv => cbv); refine st_load hE cInt (by rw [hp]; exact (h9).at _ _ rfl) ?_; (conv => cbv))
  refine br (fun g => ?_) (fun g => ?_)
  ·have g : o = 26 := by simpa [hE.cmp, cmpR] using g
   have hk2 : kids.length = 2 := by rw [g, show kidsF 26 = 2 from rfl] at hko; omega
   obtain ⟨t1, q⟩ : ∃ t1, kids = [t0, t1] := by
    rcases hform with q | q | ⟨_, _, q⟩
    ·rw [q] at hk2; simp at hk2
    ·exact q
    ·rw [q] at hk2; simp at hk2
   have ht1 : kids[1]? = some t1 := by rw [q]; rfl
   obtain ⟨k1, hk1', call1⟩ := call 1 t1 ht1
   obtain ⟨R1, hR1⟩ : ∃ R1, R1 = evT (rqL cl us lvl nw xs ys) (lets.map (·.p)) t1 := ⟨_, rfl⟩
   rw [← hR1] at call1
   have hT2 : T = combR o [.inr ⟨xk, nx, tx0, xx⟩, R1] := by rw [hT1, q]; simp only [b2_, b3_]; rw [hx0V, ← hR1]
   conv => cbv
   (refine st_fld hE fL3v1 fun p hp => ?_; (conv => cbv); refine st_load hE cI64 (by rw [hp]; exact (h10).at _ _ rfl) ?_; (conv => cbv))
   refine br (fun g2 => ?_) (fun g2 => ?_)
   ·have g2 : nx = 1 := by simpa [hE.cmp, cmpR] using g2
    have hT : T = .inr ⟨xk, nx, tx0, xx⟩ := by rw [hT2]; simp only [combR]; rw [if_pos (.inr ⟨g, g2⟩)]
    conv => cbv
    refine st_loadS hE tL3 rfl h10.at ?_
    conv => cbv
    refine st_putS hr (by kernel_rfl) h8 (add_zero _).symm (by simp [zL3]) (by simp [Value.oneCell']) fun w90 hw90 h890 => ?_
    simp only [zL3, a1_, a2_, a3_, a4_, a5_, a6_, a7_] at h890
    conv => cbv
    refine st_cell hr tL3 rfl h890.at ?_
    conv => cbv
    exact fin 0 nx tx0 xA xm xc w8 w90 hx h8 hw90 (by
     rw [hT]
     exact ⟨xA, xm, xc, rfl, hxm, fun a ha hm => by
      rcases hxi a ha hm with hb | hb
      ·exact .inl hb
      ·exact .inr ⟨by have := hb.1; omega, hb.2.1, by have := hb.1; omega⟩⟩)
   ·have g2 : nx ≠ 1 := by simpa [hE.cmp, cmpR] using g2
    have hTR : T = R1 := by rw [hT2]; simp only [combR]; rw [if_neg (by omega), if_pos (by omega)]
    conv => cbv
    (refine st_fld hE fINd4 fun p hp => ?_; (conv => cbv); refine st_load hE cInts (by rw [hp]; exact (h9).at _ _ rfl) ?_; (conv => cbv))
    refine st_len hE tInts fun x5 hx5 => ?_
    conv => cbv
    refine br (fun g => absurd g (by simp [hE.cmp, cmpR]; omega)) (fun _ => ?_)
    conv => cbv
    refine draw_p (Ext w8) [0, 1, 2, 3, 4, 5, 6] 7 8 [(9, false)] hr (St := Addr × Int × Int × ByteArray × Option Addr × Nat × Nat) (fun s w' => Ext w8 w' ∧ Box w8.heap.size 220 4 w' s.1 [.int .i64 s.2.1, .int .i64 s.2.2.1, .string s.2.2.2.1, .slice s.2.2.2.2.1 s.2.2.2.2.2.1 s.2.2.2.2.2.2] ∧ LRes (fun b => D b ∨ (w8.heap.size ≤ b ∧ b < w'.heap.size ∧ b ≠ s.1.block)) w' R1 (.agg ⟨[.int .i64 s.2.1, .int .i64 s.2.2.1, .string s.2.2.2.1, .slice s.2.2.2.2.1 s.2.2.2.2.2.1 s.2.2.2.2.2.2]⟩)) (fun s => [(0, .slice A n c), (3, .slice LA ln lc), (6, .pointer (some q6)), (8, .pointer (some q8)), (9, .pointer (some q9)), (10, .pointer (some q10)), (11, .pointer (some s.1))]) fol (by kernel_rfl) (fun w0 hs => hs.ext) (fun I hI E' hE' v5 hs5 => ?_) ?_
    ·conv => cbv
     refine sw_fld hE' fINd4 fun p hp => ?_
     conv => cbv
     refine sw_load hE' cInts (v := .slice A1 m1 c1) (fun w1 h1 => by rw [hp]; exact h1.cell (h9.at _ _ rfl)) ?_
     conv => cbv
     refine sw_idx hE' tInts hAK (by omega) (by omega) fun p2 hp2 => ?_
     conv => cbv
     refine sw_load hE' cInt (v := .int .i64 k1) (fun w1 h1 => by rw [hp2]; exact hcK hk1' (hwt.trans (hx.trans h1))) ?_
     clear hp hp2
     conv => cbv
     refine sw_loadS hE' tIReq (vs := [.string cl, .string us, .int .i64 lvl, .int .i64 nw, .slice Q m d, .slice Q2 m2 d2]) rfl (fun w1 h1 j v hv => h1.cell (h6.at j v hv)) ?_
     have s5 := hs5.ext.size
     conv => cbv
     refine ⟨?_, ?_⟩
     ·refine st_f hr (call1 (hx.trans hs5.ext)) fun r v6 hx6 hres => ?_
      have hx56 := hs5.ext.trans hx6
      refine ⟨hx56, ?_⟩
      have s6 := hx6.size
      obtain ⟨cx, nx, tx0, xA, xm, xc, er⟩ := hres.form
      subst er
      conv => cbv
      refine st_alloc hr tL3 rfl fun q10 v7 hx7 hq0 => ?_
      have h10 := hq0 w8.heap.size (by omega)
      have f10 := bx_form (hq0 _ (n1_ _))
      have h10b := hq0 v6.heap.size (by omega)
      refine ⟨hx56.trans hx7, ?_⟩
      have s7 := hx7.size
      conv => cbv
      refine st_putS hr (by kernel_rfl) h10 (add_zero _).symm (by simp [zL3]) (by simp [Value.oneCell']) fun v8 hw8 h108 => ?_
      simp only [zL3, a1_, a2_, a3_, a4_, a5_, a6_, a7_] at h108
      have hx68 : Ext v6 v8 := hx7.then (hw8.bel h10b (by omega))
      have s8 := hx68.size
      refine ⟨hx56.trans hx68, ?_⟩
      refine ⟨(q10, cx, nx, tx0, xA, xm, xc), by simp [Fits, lk, put], hI _ _ ⟨hx56.trans hx68, h108, (hres.ext hx68).mono fun b hb => ?_⟩⟩
      rcases hb with hb | hb
      ·exact .inl hb
      ·exact .inr ⟨by have := hb.1; omega, by have := hb.2; omega, by have := hb.2; simp only; omega⟩
     ·refine st_alloc hr tL3 rfl fun q10 v6 hx6 hq0 => ?_
      have h10 := hq0 w8.heap.size (by omega)
      have f10 := bx_form (hq0 _ (n1_ _))
      clear hq0
      have hx56 := hs5.ext.trans hx6
      refine ⟨hx56, ?_⟩
      have s6 := hx6.size
      conv => cbv
      refine st_f hr (call1 (hx.trans hx56)) fun r v7 hx7 hres => ?_
      have hx57 := hx56.trans hx7
      refine ⟨hx57, ?_⟩
      have s7 := hx7.size
      obtain ⟨cx, nx, tx0, xA, xm, xc, er⟩ := hres.form
      subst er
      replace h10 := h10.bel hx7
      conv => cbv
      refine st_putS hr (by kernel_rfl) h10 (add_zero _).symm (by simp [zL3]) (by simp [Value.oneCell']) fun v8 hw8 h108 => ?_
      simp only [zL3, a1_, a2_, a3_, a4_, a5_, a6_, a7_] at h108
      have s8 := hw8.size
      have hx58 : Ext w8 v8 := hx57.then (hw8.bel h10 (by omega))
      refine ⟨hx58, ?_⟩
      refine ⟨(q10, cx, nx, tx0, xA, xm, xc), by simp [Fits, lk, put], hI _ _ ⟨hx58, h108, (hres.wr hw8 (fun b hb => ?_) f10.2.2).mono fun b hb => ?_⟩⟩
      ·rcases hb with hb | hb
       ·have := hD b hb; omega
       ·exact ⟨hb.2, by have := hb.1; omega⟩
      ·rcases hb with hb | hb
       ·exact .inl hb
       ·exact .inr ⟨by have := hb.1; omega, by have := hb.2; omega, by have := hb.1; simp only; omega⟩
    rintro ⟨q11, cy, ny, tx1, yA, ym, yc⟩ w12 ⟨hxJ, hJ, hresJ⟩
    simp only at hJ hresJ
    have hres12 := hresJ
    have h11 := hJ
    have f11 := bx_form h11
    have hx812 := hxJ
    replace h8 := h8.bel hxJ
    replace h9 := h9.bel hxJ
    replace h10 := h10.bel hxJ
    replace hx := hx.trans hxJ
    have hxm12 := hxm.ext hx812
    have s12 := hx.size
    have s812 := hx812.size
    clear hJ hresJ
    conv => cbv
    (refine st_fld hE fL3v0 fun p hp => ?_; (conv => cbv); refine st_load hE cInt (by rw [hp]; exact (h11).at _ _ rfl) ?_; (conv => cbv))
    rw [← hTR] at hres12
    refine br (fun g => ?_) (fun g => ?_)
    ·clear g
     conv => cbv
     refine st_loadS hE tL3 rfl h11.at ?_
     conv => cbv
     refine st_putS hr (by kernel_rfl) h8 (add_zero _).symm (by simp [zL3]) (by simp [Value.oneCell']) fun w90 hw90 h890 => ?_
     simp only [zL3, a1_, a2_, a3_, a4_, a5_, a6_, a7_] at h890
     conv => cbv
     refine st_cell hr tL3 rfl h890.at ?_
     conv => cbv
     exact fin cy ny tx1 yA ym yc w12 w90 hx h8 hw90 (hres12.mono fun b hb => by
      rcases hb with hb | hb
      ·exact .inl hb
      ·exact .inr ⟨by have := hb.1; omega, hb.2.1, by have := hb.1; omega⟩)
    ·clear g
     conv => cbv
     (refine st_fld hE fINd0 fun p hp => ?_; (conv => cbv); refine st_load hE cInt (by rw [hp]; exact (h9).at _ _ rfl) ?_; (conv => cbv))
     refine br (fun g => absurd g (by simp [hE.cmp, cmpR]; omega)) (fun _ => ?_)
     conv => cbv
     (refine st_fld hE fINd0 fun p hp => ?_; (conv => cbv); refine st_load hE cInt (by rw [hp]; exact (h9).at _ _ rfl) ?_; (conv => cbv))
     refine br (fun _ => ?_) (fun g => absurd g (by simp [hE.cmp, cmpR]; omega))
     conv => cbv
     refine st_loadS hE tL3 rfl h11.at ?_
     conv => cbv
     refine st_putS hr (by kernel_rfl) h8 (add_zero _).symm (by simp [zL3]) (by simp [Value.oneCell']) fun w90 hw90 h890 => ?_
     simp only [zL3, a1_, a2_, a3_, a4_, a5_, a6_, a7_] at h890
     conv => cbv
     refine st_cell hr tL3 rfl h890.at ?_
     conv => cbv
     exact fin cy ny tx1 yA ym yc w12 w90 hx h8 hw90 (hres12.mono fun b hb => by
      rcases hb with hb | hb
      ·exact .inl hb
      ·exact .inr ⟨by have := hb.1; omega, hb.2.1, by have := hb.1; omega⟩)
  have g26 : o ≠ 26 := by simpa [hE.cmp, cmpR] using g
  clear g
  have h824 : 8 ≤ o ∧ o ≤ 24 := by
   unfold kidsF at hko
   (repeat' split at hko) <;> omega
  conv => cbv
  (refine st_fld hE fINd4 fun p hp => ?_; (conv => cbv); refine st_load hE cInts (by rw [hp]; exact (h9).at _ _ rfl) ?_; (conv => cbv))
  refine st_len hE tInts fun x5 hx5 => ?_
  conv => cbv
  refine br (fun g => ?_) (fun g => ?_)
  ·have g : x5 = 1 := by simpa [hE.cmp, cmpR] using g
   have q : kids = [t0] := by
    rcases hform with q | ⟨_, q⟩ | ⟨_, _, q⟩
    ·exact q
    ·rw [q] at hkl2; simp at hkl2; omega
    ·rw [q] at hkl2; simp at hkl2; omega
   have hT2 : T = opR o ⟨xk, nx, tx0, xx⟩ ⟨xk, nx, tx0, xx⟩ := by rw [hT1, q]; simp only [b2_, b3_]; rw [hx0V]; rfl
   conv => cbv
   (refine st_fld hE fINd0 fun p hp => ?_; (conv => cbv); refine st_load hE cInt (by rw [hp]; exact (h9).at _ _ rfl) ?_; (conv => cbv))
   refine st_loadS hE tL3 rfl h10.at ?_
   conv => cbv
   refine st_oneS hr sL3 rfl (by omega) (by omega) rfl fun A7 w9 hx9 hc9 => ?_
   have s9 := hx9.size
   conv => cbv
   refine st_f hr (l3apply_f h824.1 h824.2 (n := 1) (vs := [⟨⟨xk, nx, tx0, xx⟩, xA, xm, xc⟩]) hc9 rfl (by omega) rfl rfl (hxm.ext hx9) (hxm.ext hx9) (okk hxt (fun t ht => by
    have := (List.getElem?_eq_some_iff.1 ht).1
    rw [v1, q] at this
    simp at this))) fun r w10 hx10 hres1 => ?_
   rw [← hT2] at hres1
   have s10 := hx10.size
   obtain ⟨cy, ny, tx1, yA, ym, yc, er⟩ := hres1.form
   subst er
   replace h8 := (h8.bel hx9).bel hx10
   conv => cbv
   refine st_putS hr (by kernel_rfl) h8 (add_zero _).symm (by simp [zL3]) (by simp [Value.oneCell']) fun w90 hw90 h890 => ?_
   simp only [zL3, a1_, a2_, a3_, a4_, a5_, a6_, a7_] at h890
   conv => cbv
   refine st_cell hr tL3 rfl h890.at ?_
   conv => cbv
   exact fin cy ny tx1 yA ym yc w10 w90 ((hx.trans hx9).trans hx10) h8 hw90 (hres1.mono fun b hb => .inr ⟨by have := hb.1; omega, hb.2, by have := hb.1; omega⟩)
  have g : x5 ≠ 1 := by simpa [hE.cmp, cmpR] using g
  have hk2 : kids.length = 2 := by
   unfold kidsF at hko
   (repeat' split at hko) <;> omega
  obtain ⟨t1, q⟩ : ∃ t1, kids = [t0, t1] := by
   rcases hform with q | q | ⟨_, _, q⟩
   ·rw [q] at hk2; simp at hk2
   ·exact q
   ·rw [q] at hk2; simp at hk2
  have ht1 : kids[1]? = some t1 := by rw [q]; rfl
  obtain ⟨k1, hk1', call1⟩ := call 1 t1 ht1
  obtain ⟨R1, hR1⟩ : ∃ R1, R1 = evT (rqL cl us lvl nw xs ys) (lets.map (·.p)) t1 := ⟨_, rfl⟩
  rw [← hR1] at call1
  have hT2 : T = combR o [.inr ⟨xk, nx, tx0, xx⟩, R1] := by rw [hT1, q]; simp only [b2_, b3_]; rw [hx0V, ← hR1]
  conv => cbv
  refine draw_p (Ext w8) [0, 1, 2, 3, 4, 5, 6] 7 8 [(9, false)] hr (St := Addr × Int × Int × ByteArray × Option Addr × Nat × Nat) (fun s w' => Ext w8 w' ∧ Box w8.heap.size 220 4 w' s.1 [.int .i64 s.2.1, .int .i64 s.2.2.1, .string s.2.2.2.1, .slice s.2.2.2.2.1 s.2.2.2.2.2.1 s.2.2.2.2.2.2] ∧ LRes (fun b => D b ∨ (w8.heap.size ≤ b ∧ b < w'.heap.size ∧ b ≠ s.1.block)) w' R1 (.agg ⟨[.int .i64 s.2.1, .int .i64 s.2.2.1, .string s.2.2.2.1, .slice s.2.2.2.2.1 s.2.2.2.2.2.1 s.2.2.2.2.2.2]⟩)) (fun s => [(0, .slice A n c), (3, .slice LA ln lc), (6, .pointer (some q6)), (8, .pointer (some q8)), (9, .pointer (some q9)), (10, .pointer (some q10)), (11, .pointer (some s.1))]) fol (by kernel_rfl) (fun w0 hs => hs.ext) (fun I hI E' hE' v5 hs5 => ?_) ?_
  ·conv => cbv
   refine sw_fld hE' fINd4 fun p hp => ?_
   conv => cbv
   refine sw_load hE' cInts (v := .slice A1 m1 c1) (fun w1 h1 => by rw [hp]; exact h1.cell (h9.at _ _ rfl)) ?_
   conv => cbv
   refine sw_idx hE' tInts hAK (by omega) (by omega) fun p2 hp2 => ?_
   conv => cbv
   refine sw_load hE' cInt (v := .int .i64 k1) (fun w1 h1 => by rw [hp2]; exact hcK hk1' (hwt.trans (hx.trans h1))) ?_
   clear hp hp2
   conv => cbv
   refine sw_loadS hE' tIReq (vs := [.string cl, .string us, .int .i64 lvl, .int .i64 nw, .slice Q m d, .slice Q2 m2 d2]) rfl (fun w1 h1 j v hv => h1.cell (h6.at j v hv)) ?_
   have s5 := hs5.ext.size
   conv => cbv
   refine ⟨?_, ?_⟩
   ·refine st_f hr (call1 (hx.trans hs5.ext)) fun r v6 hx6 hres => ?_
    have hx56 := hs5.ext.trans hx6
    refine ⟨hx56, ?_⟩
    have s6 := hx6.size
    obtain ⟨cx, nx, tx0, xA, xm, xc, er⟩ := hres.form
    subst er
    conv => cbv
    refine st_alloc hr tL3 rfl fun q10 v7 hx7 hq0 => ?_
    have h10 := hq0 w8.heap.size (by omega)
    have f10 := bx_form (hq0 _ (n1_ _))
    have h10b := hq0 v6.heap.size (by omega)
    refine ⟨hx56.trans hx7, ?_⟩
    have s7 := hx7.size
    conv => cbv
    refine st_putS hr (by kernel_rfl) h10 (add_zero _).symm (by simp [zL3]) (by simp [Value.oneCell']) fun v8 hw8 h108 => ?_
    simp only [zL3, a1_, a2_, a3_, a4_, a5_, a6_, a7_] at h108
    have hx68 : Ext v6 v8 := hx7.then (hw8.bel h10b (by omega))
    have s8 := hx68.size
    refine ⟨hx56.trans hx68, ?_⟩
    refine ⟨(q10, cx, nx, tx0, xA, xm, xc), by simp [Fits, lk, put], hI _ _ ⟨hx56.trans hx68, h108, (hres.ext hx68).mono fun b hb => ?_⟩⟩
    rcases hb with hb | hb
    ·exact .inl hb
    ·exact .inr ⟨by have := hb.1; omega, by have := hb.2; omega, by have := hb.2; simp only; omega⟩
   ·refine st_alloc hr tL3 rfl fun q10 v6 hx6 hq0 => ?_
    have h10 := hq0 w8.heap.size (by omega)
    have f10 := bx_form (hq0 _ (n1_ _))
    clear hq0
    have hx56 := hs5.ext.trans hx6
    refine ⟨hx56, ?_⟩
    have s6 := hx6.size
    conv => cbv
    refine st_f hr (call1 (hx.trans hx56)) fun r v7 hx7 hres => ?_
    have hx57 := hx56.trans hx7
    refine ⟨hx57, ?_⟩
    have s7 := hx7.size
    obtain ⟨cx, nx, tx0, xA, xm, xc, er⟩ := hres.form
    subst er
    replace h10 := h10.bel hx7
    conv => cbv
    refine st_putS hr (by kernel_rfl) h10 (add_zero _).symm (by simp [zL3]) (by simp [Value.oneCell']) fun v8 hw8 h108 => ?_
    simp only [zL3, a1_, a2_, a3_, a4_, a5_, a6_, a7_] at h108
    have s8 := hw8.size
    have hx58 : Ext w8 v8 := hx57.then (hw8.bel h10 (by omega))
    refine ⟨hx58, ?_⟩
    refine ⟨(q10, cx, nx, tx0, xA, xm, xc), by simp [Fits, lk, put], hI _ _ ⟨hx58, h108, (hres.wr hw8 (fun b hb => ?_) f10.2.2).mono fun b hb => ?_⟩⟩
    ·rcases hb with hb | hb
     ·have := hD b hb; omega
     ·exact ⟨hb.2, by have := hb.1; omega⟩
    ·rcases hb with hb | hb
     ·exact .inl hb
     ·exact .inr ⟨by have := hb.1; omega, by have := hb.2; omega, by have := hb.1; simp only; omega⟩
  rintro ⟨q11, cy, ny, tx1, yA, ym, yc⟩ w12 ⟨hxJ, hJ, hresJ⟩
  simp only at hJ hresJ
  have hres12 := hresJ
  have h11 := hJ
  have f11 := bx_form h11
  have hx812 := hxJ
  replace h8 := h8.bel hxJ
  replace h9 := h9.bel hxJ
  replace h10 := h10.bel hxJ
  replace hx := hx.trans hxJ
  have hxm12 := hxm.ext hx812
  have s12 := hx.size
  have s812 := hx812.size
  clear hJ hresJ
  conv => cbv
  (refine st_fld hE fL3v0 fun p hp => ?_; (conv => cbv); refine st_load hE cInt (by rw [hp]; exact (h11).at _ _ rfl) ?_; (conv => cbv))
  cases hR1c : R1 with
  | inl e =>
   rw [hR1c] at hres12 hT2
   have hT : T = .inl e := by rw [hT2]; simp only [combR]; rw [if_neg (by omega), if_neg (by omega)]
   obtain ⟨he, n1, tx2, A1', m1', c1', e1⟩ := hres12
   simp only [Value.agg.injEq, Array.mk.injEq, b1_, Value.int.injEq, true_and] at e1
   have e1 : cy = e := e1.1
   refine br (fun g => ?_) (fun g => absurd g (by simp [hE.cmp, cmpR]; omega))
   conv => cbv
   refine st_loadS hE tL3 rfl h11.at ?_
   conv => cbv
   refine st_putS hr (by kernel_rfl) h8 (add_zero _).symm (by simp [zL3]) (by simp [Value.oneCell']) fun w90 hw90 h890 => ?_
   simp only [zL3, a1_, a2_, a3_, a4_, a5_, a6_, a7_] at h890
   conv => cbv
   refine st_cell hr tL3 rfl h890.at ?_
   conv => cbv
   exact fin cy ny tx1 yA ym yc w12 w90 hx h8 hw90 (by rw [hT, e1]; exact ⟨he, ny, tx1, yA, ym, yc, rfl⟩)
  | inr y =>
   rw [hR1c] at hres12 hT2
   have hy1V := hR1.symm.trans hR1c
   have hyt := okv ht1 hy1V
   obtain ⟨yk, yn, yt, yy⟩ := y
   have hT3 : T = opR o ⟨xk, nx, tx0, xx⟩ ⟨yk, yn, yt, yy⟩ := by rw [hT2]; simp only [combR]; rw [if_neg (by omega), if_neg (by omega)]
   obtain ⟨A1', m1', c1', e1, hym, hyi⟩ := hres12
   simp only [lC, Value.agg.injEq, Array.mk.injEq, b1_, Value.int.injEq, Value.string.injEq, Value.slice.injEq, true_and, and_true] at e1
   obtain ⟨rfl, rfl, rfl, rfl, rfl, rfl⟩ := e1
   refine br (fun g => absurd g (by simp [hE.cmp, cmpR])) (fun _ => ?_)
   conv => cbv
   (refine st_fld hE fINd0 fun p hp => ?_; (conv => cbv); refine st_load hE cInt (by rw [hp]; exact (h9).at _ _ rfl) ?_; (conv => cbv))
   refine br (fun g => absurd g (by simp [hE.cmp, cmpR]; omega)) (fun _ => ?_)
   conv => cbv
   (refine st_fld hE fINd0 fun p hp => ?_; (conv => cbv); refine st_load hE cInt (by rw [hp]; exact (h9).at _ _ rfl) ?_; (conv => cbv))
   refine br (fun g => absurd g (by simp [hE.cmp, cmpR]; omega)) (fun _ => ?_)
   conv => cbv
   (refine st_fld hE fINd0 fun p hp => ?_; (conv => cbv); refine st_load hE cInt (by rw [hp]; exact (h9).at _ _ rfl) ?_; (conv => cbv))
   refine st_loadS hE tL3 rfl h10.at ?_
   conv => cbv
   refine st_loadS hE tL3 rfl h11.at ?_
   conv => cbv
   refine st_litsK hr sL3 rfl (by omega) (m := 2) rfl (by omega) (by omega) rfl (by simp [Value.cells]) (cs := ([⟨⟨xk, nx, tx0, xx⟩, xA, xm, xc⟩, ⟨⟨yk, ny, tx1, yy⟩, yA, ym, yc⟩] : List VV).flatMap lC) rfl fun A7 w13 hx13 ho => ?_
   have s13 := hx13.size
   have hc13 := (ho _ (n1_ _)).cells
   conv => cbv
   refine st_f hr (l3apply_f h824.1 h824.2 (n := 2) (vs := [⟨⟨xk, nx, tx0, xx⟩, xA, xm, xc⟩, ⟨⟨yk, ny, tx1, yy⟩, yA, ym, yc⟩]) hc13 rfl (by omega) rfl rfl (hxm12.ext hx13) (hym.ext hx13) (okk hxt hyt)) fun r w14 hx14 hresA => ?_
   rw [← hT3] at hresA
   have s14 := hx14.size
   obtain ⟨ca, na, txa, aA, am, ac, er⟩ := hresA.form
   subst er
   replace h8 := (h8.bel hx13).bel hx14
   conv => cbv
   refine st_putS hr (by kernel_rfl) h8 (add_zero _).symm (by simp [zL3]) (by simp [Value.oneCell']) fun w90 hw90 h890 => ?_
   simp only [zL3, a1_, a2_, a3_, a4_, a5_, a6_, a7_] at h890
   conv => cbv
   refine st_cell hr tL3 rfl h890.at ?_
   conv => cbv
   exact fin ca na txa aA am ac w14 w90 ((hx.trans hx13).trans hx14) h8 hw90 (hresA.mono fun b hb => .inr ⟨by have := hb.1; omega, hb.2, by have := hb.1; omega⟩)
def OutL (B : Nat) (w : World) (R : Out) (r : Value) : Prop := ∃ N nm nc, r = .agg ⟨[.int .i64 (ocOf R).1, .int .i64 (ocOf R).2.1, .slice N nm nc]⟩ ∧ Own B 9 1 w N nm nc ((ocOf R).2.2.map .string) ∧ (∀ s ∈ (ocOf R).2.2, s.size ≤ 9223372036854775807) ∧ (ocOf R).2.2.length ≤ 64
def DL2 (w : World) (LA : Option Addr) (b : Nat) : Prop := b < w.heap.size ∧ blk LA ≠ some b
theorem wr_of {A B : Option Addr} {w w1 w2 : World} (h1 : Wr A w w1) (h2 : Wr B w1 w2) (hb : ∀ i, i < w.heap.size → some i ≠ blk A → some i ≠ blk B) : Wr A w w2 :=
 ⟨h2.os.trans h1.os, h2.tape.trans h1.tape, h2.output.trans h1.output, n2_ h1.size h2.size, fun i hi hn => (h2.block i (n3_ hi h1.size) (hb i hi hn)).trans (h1.block i hi hn)⟩
theorem stm_trees {nv : List PN} : ∀ {sv : List PS} {pts : List PT} {a b : Nat}, Match sv pts → IsTs nv a b (roots sv) (pts.flatMap trs) → ∀ {j : Nat} {s : PS} {p : PT}, sv[j]? = some s → pts[j]? = some p → (∀ t, p.c = some t → ∃ a b, IsTs nv a b [s.c] [t]) ∧ (∀ t, p.g = some t → ∃ a b, IsTs nv a b [s.g] [t])
 | [], pts, a, b, hm, h, j, s, p, hs, hp => by simp at hs
 | s0 :: sv, [], a, b, hm, h, j, s, p, hs, hp => by simp at hp
 | s0 :: sv, p0 :: pts, a, b, hm, h, j, s, p, hs, hp => by
  have h0 := hm.2 0 s0 p0 rfl rfl
  have hm' : Match sv pts := ⟨by have := hm.1; simpa using this, fun j s p h1 h2 => hm.2 (j + 1) s p (by simpa using h1) (by simpa using h2)⟩
  rw [roots_cons, List.flatMap_cons, rootS_eq] at h
  obtain ⟨pc, pg⟩ := p0
  obtain ⟨c, ts1, ts2, e, i1, i2⟩ := h.split
  have l1 := i1.len
  have lt : (trs ⟨pc, pg⟩).length = (rootO s0.c ++ rootO s0.g).length := by
   rw [List.length_append]
   unfold trs rootO
   simp only at h0
   cases pc <;> cases pg <;> simp at h0 ⊢ <;> (repeat' split) <;> first | omega | simp <;> omega
  have e1 : trs ⟨pc, pg⟩ = ts1 ∧ pts.flatMap trs = ts2 := List.append_inj e (by rw [lt, l1])
  cases j with
  | succ j =>
   rw [← e1.2] at i2
   exact stm_trees hm' i2 (by simpa using hs) (by simpa using hp)
  | zero =>
   simp at hs hp
   subst hs; subst hp
   rw [← e1.1] at i1
   simp only [trs] at i1
   simp only at h0
   constructor
   ·intro t ht
    subst ht
    have hc : 0 ≤ s0.c := h0.1.1 rfl
    rw [show rootO s0.c = [s0.c] by unfold rootO; rw [if_pos hc]] at i1
    obtain ⟨x, u1, u2, e2, k1, k2⟩ := i1.split
    have l2 := k1.len
    match u1, l2 with
    | [u], _ =>
     simp at e2
     rw [← e2.1] at k1
     exact ⟨_, _, k1⟩
   ·intro t ht
    subst ht
    have hg : 0 ≤ s0.g := h0.2.1 rfl
    rw [show rootO s0.g = [s0.g] by unfold rootO; rw [if_pos hg]] at i1
    obtain ⟨x, u1, u2, e2, k1, k2⟩ := i1.split
    have l2 := k2.len
    match u2, l2 with
    | [u], _ =>
     have e3 : pc.toList = u1 ∧ [t] = [u] := List.append_inj' e2 rfl
     rw [← e3.2] at k2
     exact ⟨_, _, k2⟩
theorem l3decide_all {wt : World} {A A2 A3 : Option Addr} {n c n2 c2 n3 c3 : Nat} {nv : List PN} {sv : List PS} {tyl : List Int} (h : TypR wt A n A2 n2 A3 n3 c3 nv sv tyl) (hn : n ≤ 9223372036854775807) (hn2 : n2 ≤ 600) {pts : List PT} (hm : Match sv pts) (hts : IsTs nv 0 nv.length (roots sv) (pts.flatMap trs))
  {cl us : ByteArray} {lvl nw : Int} {Q Q2 : Option Addr} {m d m2 d2 : Nat} {xs ys : List ByteArray} (hs : Strs wt Q m d xs) (hs2 : Strs wt Q2 m2 d2 ys) (hreq : ReqV (rqL cl us lvl nw xs ys)) : ∀ (rem j : Nat), j + rem = n2 → ∀ (w : World) (LA : Option Addr) (ln lc : Nat) (lv : List VV) (names : List ByteArray) (tys : List Int), Ext wt w → Own wt.heap.size 220 4 w LA ln lc (lv.flatMap lC) → lv.length = ln → ln ≤ j → (∀ x ∈ lv, ValM w x ∧ InD (DL2 w LA) x.A x.m) → DecOK ((sv.zip pts).drop j) names tys → LetsV tys (lv.map (·.p)) →
  GC Tryz.prog 81 [typV A n c A2 n2 c2 A3 n3 c3, .int .i64 j, reqV cl us lvl nw Q m d Q2 m2 d2, .slice LA ln lc] w fun r w' => OutL w.heap.size w' (decR (rqL cl us lvl nw xs ys) ((sv.zip pts).drop j) (lv.map (·.p))) r ∧ Wr LA w w' := by
 intro rem
 have hzl : (sv.zip pts).length = n2 := by rw [List.length_zip, hm.1, Nat.min_self]; exact h.pol.stmts.len
 induction rem with
 | zero =>
  intro j hj w LA ln lc lv names tys hx0 hl hlvl hlj hvals hdk hlets
  rw [List.drop_eq_nil_of_le (by omega)] at hdk
  simp only [DecOK] at hdk
 | succ rem ih =>
 intro j hj w LA ln lc lv names tys hx0 hl hlvl hlj hvals hdk hlets
 refine GC.intro (cs := [10]) Tryz.func81 (by kernel_rfl) fun E R hE hr hR => ?_
 obtain ⟨OUT, hOUT⟩ : ∃ O, O = decR (rqL cl us lvl nw xs ys) ((sv.zip pts).drop j) (lv.map (·.p)) := ⟨_, rfl⟩
 rw [← hOUT] at hR
 obtain ⟨⟨s, pt⟩, hz⟩ : ∃ x, (sv.zip pts)[j]? = some x := ⟨_, g2_ (by omega)⟩
 rw [drop_cons hz] at hdk hOUT
 rw [decR_cons] at hOUT
 simp only [DecOK] at hdk
 obtain ⟨hzs, hzp⟩ := List.getElem?_zip_eq_some.1 hz
 have htr := stm_trees hm hts hzs hzp
 obtain ⟨aS, v, hA2, hgv, hcS, hok⟩ := h.pol.stmts.get (i := j) (by omega)
 rw [hzs] at hgv
 have hsv : s = v := Option.some.inj hgv
 subst hsv
 have hmj := hm.2 j s pt hzs hzp
 obtain ⟨k, nm, sc, sg⟩ := s
 obtain ⟨pc, pg⟩ := pt
 simp only at hdk hOUT htr hmj
 obtain ⟨hgr, hdk⟩ := hdk
 obtain ⟨jj, hjj⟩ : ∃ jj : Int, jj = j := ⟨_, rfl⟩
 obtain ⟨jk, hjk⟩ : ∃ z, z = jj + 1 := ⟨_, rfl⟩
 have ej : E.ar .add .i64 jj 1 = jk := by rw [hE.ar, hjk]; exact wrap_in (by omega) (by omega)
 rw [← hjj]
 have hst := hx0.size
 have laq := own_blk hl
 have hN := h.pol.nodes
 conv => cbv
 refine st_box hr fun q4 w1 hx1 h40 => ?_
 have h4 := h40 _ (n1_ _)
 have f4 := bx_form h4
 clear h40
 conv => cbv
 refine st_box hr fun q6 w2 hx2 h60 => ?_
 have h6 := h60 w.heap.size hx1.size
 have f6 := bx_form (h60 _ (n1_ _))
 clear h60
 replace h4 := h4.bel hx2
 have s1 := hx1.size
 have s2 := hx2.size
 conv => cbv
 refine st_alloc hr tOc rfl fun q8 w3 hx3 h80 => ?_
 have h8 := h80 w.heap.size (by omega)
 have f8 := bx_form (h80 _ (n1_ _))
 clear h80
 replace h4 := h4.bel hx3
 replace h6 := h6.bel hx3
 have s3 := hx3.size
 have hx := (hx1.trans hx2).trans hx3
 clear hx1 hx2 hx3
 have f81 : w.heap.size ≤ q8.block := by omega
 have fin : ∀ (B : Nat) (kd cd : Int) (N : Option Addr) (nm nc : Nat) (w5 w9 : World), Wr LA w w5 → Box w.heap.size 55 3 w5 q8 zOc → Wr (some q8) w5 w9 → q8.block < B → OutL B w5 OUT (.agg ⟨[.int .i64 kd, .int .i64 cd, .slice N nm nc]⟩) → R (.agg ⟨[.int .i64 kd, .int .i64 cd, .slice N nm nc]⟩) w9 := fun B kd cd N nm nc w5 w9 hw5 hb hw hB ⟨N', nm', nc', e, ho, h1, h2⟩ => by
  rw [hR]
  exact ⟨⟨N', nm', nc', e, (ho.wr hw (own_low ho hB f8.2.2).1).mono (by omega), h1, h2⟩, wr_of hw5 hw fun i hi _ => by rw [f8.2.2]; intro e; cases e; omega⟩
 conv => cbv
 (refine st_fld hE fITyp1 fun p hp => ?_; (conv => cbv); refine st_load hE cISs (by rw [hp]; exact (h4).at _ _ rfl) ?_; (conv => cbv))
 refine st_idx hE sISd hA2 (by omega) (by omega) fun q hq => ?_
 rw [show jj.toNat = j by omega] at hq
 conv => cbv
 refine st_loadS hE tISd (vs := [.int .i64 k, .string nm, .int .i64 sc, .int .i64 sg]) rfl (by rw [hq]; exact fun j u hu => (hx0.trans hx).cell (hcS j u hu)) ?_
 conv => cbv
 refine st_alloc hr tISd rfl fun q9 w4 hx4 h90 => ?_
 have h9 := h90 w.heap.size (by omega)
 have f9 := bx_form (h90 _ (n1_ _))
 clear h90
 conv => cbv
 refine st_putS hr (by kernel_rfl) h9 (add_zero _).symm (by simp [zSd]) (by simp [Value.oneCell']) fun w5 hw5 h95 => ?_
 simp only [zSd, a1_, a2_, a3_, a4_, a5_, a6_, a7_] at h95
 have s4 := hx4.size
 have s45 := hw5.size
 replace hx : Ext w w5 := (hx.trans hx4).then (hw5.bel h9 (by omega))
 replace h4 := (h4.bel hx4).wr hw5 (bx_apart f4.2.2 f9.2.2 (by omega))
 replace h6 := (h6.bel hx4).wr hw5 (bx_apart f6.2.2 f9.2.2 (by omega))
 replace h8 := (h8.bel hx4).wr hw5 (bx_apart f8.2.2 f9.2.2 (by omega))
 replace h9 := h95
 have s5 := hx.size
 have f85 := (bx_form h8).2.1
 clear hx4 hw5 h95 hq hcS
 have ask : ∀ (t : Tr) (top : Int), TOK names tys t → (∃ a b, IsTs nv a b [top] [t]) → ∀ w1, Ext w w1 →
   FC Tryz.prog 138 [.slice A n c, .int .i64 top, reqV cl us lvl nw Q m d Q2 m2 d2, .slice LA ln lc] w1 fun r w2 => LRes (fun b => DL2 w LA b ∨ DNew w1 w2 b) w2 (evT (rqL cl us lvl nw xs ys) (lv.map (·.p)) t) r := fun t top hto ⟨a, b, hti⟩ w1 hx1 => by
  obtain ⟨kn, p, kids, e, _⟩ := hti.one
  subst e
  exact l3eval_all nv names tys kn a b t hti hto.g hto.c hto.e wt w1 (DL2 w LA) (hx0.trans hx1) (fun b hb => ⟨by omega, fun e => by have := (laq b e).1; omega⟩) (fun b hb => n3_ hb.1 hx1.size) A n c hN hn cl us lvl nw Q Q2 m d m2 d2 xs ys hs hs2 hreq LA ln lc lv ⟨hlvl, hl.cells.ext hx1, fun x hx' => ⟨(hvals x hx').1.ext hx1, (hvals x hx').2⟩⟩ (by omega) hlets
 conv => cbv
 refine cut_rule [] [] hr (fun (_ : Unit) w6 => Ext w5 w6 ∧ OUT = lastO (rqL cl us lvl nw xs ys) (lv.map (·.p)) pg) (fun _ => [(1, .int .i64 jj), (3, .slice LA ln lc), (4, .pointer (some q4)), (6, .pointer (some q6)), (8, .pointer (some q8)), (9, .pointer (some q9))]) (fun J2 hJ2 => ?_) ?_
 rotate_left
 ·rintro ⟨⟩ w6 ⟨hx6, hout⟩
  replace h4 := h4.bel hx6
  replace h6 := h6.bel hx6
  replace h8 := h8.bel hx6
  replace h9 := h9.bel hx6
  replace hx := hx.trans hx6
  have s6 := hx6.size
  conv => cbv
  (refine st_fld hE fISd3 fun p hp => ?_; (conv => cbv); refine st_load hE cInt (by rw [hp]; exact (h9).at _ _ rfl) ?_; (conv => cbv))
  refine br (fun g => ?_) (fun g => ?_)
  ·have g : sg < 0 := by simpa [hE.cmp, cmpR] using g
   have hpg : pg = none := by
    cases hpg : pg with
    | none => rfl
    | some t => have := hmj.2.1 (by rw [hpg]; rfl); omega
   rw [hpg] at hout
   conv => cbv
   refine st_bO1 hE ?_
   conv => cbv
   refine st_putS hr (by kernel_rfl) h8 (add_zero _).symm (by simp [zOc]) (by simp [Value.oneCell']) fun w9 hw9 h89 => ?_
   simp only [zOc, a1_, a2_, a3_, a4_, a5_, a6_, a7_] at h89
   conv => cbv
   refine st_cell hr tOc rfl h89.at ?_
   conv => cbv
   exact fin w6.heap.size 1 0 none 0 0 w6 w9 (hx.wr _) h8 hw9 (by omega) (by rw [hout]; exact ⟨none, 0, 0, rfl, Own.nil, by simp [ocOf, lastO], by simp [ocOf, lastO]⟩)
  have g : ¬ sg < 0 := by simpa [hE.cmp, cmpR] using g
  obtain ⟨t, hpg⟩ : ∃ t, pg = some t := Option.isSome_iff_exists.1 (hmj.2.2 (by omega))
  rw [hpg] at hout
  obtain ⟨hto, hty4⟩ := hgr t hpg
  have hev := ev_ok hreq hlets t hto.g hto.c hto.e
  have hask := ask t sg hto (htr.2 t hpg) w6 hx
  obtain ⟨R0, hR0⟩ : ∃ R0, R0 = evT (rqL cl us lvl nw xs ys) (lv.map (·.p)) t := ⟨_, rfl⟩
  rw [← hR0] at hask hev
  have hout : OUT = grantR R0 := by rw [hout, hR0]; rfl
  conv => cbv
  (refine st_fld hE fITyp0 fun p hp => ?_; (conv => cbv); refine st_load hE cINs (by rw [hp]; exact (h4).at _ _ rfl) ?_; (conv => cbv))
  (refine st_fld hE fISd3 fun p hp => ?_; (conv => cbv); refine st_load hE cInt (by rw [hp]; exact (h9).at _ _ rfl) ?_; (conv => cbv))
  refine st_loadS hE tIReq rfl h6.at ?_
  conv => cbv
  refine st_f hr hask fun r w7 hx7 hres => ?_
  have s7 := hx7.size
  obtain ⟨cy, ny, ty1, yA, ym, yc, er⟩ := hres.form
  subst er
  conv => cbv
  refine st_alloc hr tL3 rfl fun q11 w8 hx8 hq0 => ?_
  have h11 := hq0 w.heap.size (by omega)
  have f11 := bx_form (hq0 _ (n1_ _))
  have h11b := hq0 w7.heap.size (n1_ _)
  clear hq0
  conv => cbv
  refine st_putS hr (by kernel_rfl) h11 (add_zero _).symm (by simp [zL3]) (by simp [Value.oneCell']) fun w9 hw9 h119 => ?_
  simp only [zL3, a1_, a2_, a3_, a4_, a5_, a6_, a7_] at h119
  have s8 := hx8.size
  have hx79 : Ext w7 w9 := hx8.then (hw9.bel h11b (by omega))
  have hx69 := hx7.trans hx79
  replace h8 := ((h8.bel hx7).bel hx8).wr hw9 (bx_apart f8.2.2 f11.2.2 (by omega))
  replace hx := hx.trans hx69
  have s9 := hx79.size
  have f119 := (bx_form h119).2.1
  have hres9 := hres.ext hx79
  clear hw9 h11 h11b
  conv => cbv
  (refine st_fld hE fL3v0 fun p hp => ?_; (conv => cbv); refine st_load hE cInt (by rw [hp]; exact (h119).at _ _ rfl) ?_; (conv => cbv))
  cases hR0c : R0 with
  | inl e =>
   rw [hR0c] at hres9 hout
   obtain ⟨he, n1, tx1, A1', m1', c1', e1⟩ := hres9
   simp only [Value.agg.injEq, Array.mk.injEq, b1_, Value.int.injEq, true_and] at e1
   have e1 : cy = e := e1.1
   subst e1
   refine br (fun g => ?_) (fun g => absurd g (by simp [hE.cmp, cmpR]; omega))
   conv => cbv
   (refine st_fld hE fL3v0 fun p hp => ?_; (conv => cbv); refine st_load hE cInt (by rw [hp]; exact (h119).at _ _ rfl) ?_; (conv => cbv))
   refine st_bO3 hE ?_
   conv => cbv
   refine st_putS hr (by kernel_rfl) h8 (add_zero _).symm (by simp [zOc]) (by simp [Value.oneCell']) fun w10 hw10 h810 => ?_
   simp only [zOc, a1_, a2_, a3_, a4_, a5_, a6_, a7_] at h810
   conv => cbv
   refine st_cell hr tOc rfl h810.at ?_
   conv => cbv
   exact fin w9.heap.size 3 cy none 0 0 w9 w10 (hx.wr _) h8 hw10 (by omega) (by rw [hout]; exact ⟨none, 0, 0, rfl, Own.nil, by simp [ocOf, grantR], by simp [ocOf, grantR]⟩)
  | inr x =>
   rw [hR0c] at hres9 hout hev
   obtain ⟨A1', m1', c1', e1, hxm, hxi⟩ := hres9
   obtain ⟨xk, xn, xt, xx⟩ := x
   simp only [lC, Value.agg.injEq, Array.mk.injEq, b1_, Value.int.injEq, Value.string.injEq, Value.slice.injEq, true_and, and_true] at e1
   obtain ⟨rfl, rfl, rfl, rfl, rfl, rfl⟩ := e1
   have hset := (val4 (show valV 4 _ by rw [← hty4]; exact hev)).2.2.2
   have hyl := hxm.1.len
   simp only at hyl hset
   have hs64 := hset.2.2
   refine br (fun g => absurd g (by simp [hE.cmp, cmpR])) (fun _ => ?_)
   conv => cbv
   refine st_bO1 hE ?_
   conv => cbv
   refine st_alloc hr tOc rfl fun q12 w10 hx10 hq0 => ?_
   have h12 := hq0 w.heap.size (by omega)
   have f12 := bx_form (hq0 _ (n1_ _))
   have h12b := hq0 w9.heap.size (n1_ _)
   clear hq0
   have s10 := hx10.size
   conv => cbv
   refine st_putS hr (by kernel_rfl) h12 (add_zero _).symm (by simp [zOc]) (by simp [Value.oneCell']) fun w11 hw11 h1211 => ?_
   simp only [zOc, a1_, a2_, a3_, a4_, a5_, a6_, a7_] at h1211
   have hx911 : Ext w9 w11 := hx10.then (hw11.bel h12b (by omega))
   have s11 := hx911.size
   have f1211 := (bx_form h1211).2.1
   replace h8 := ((h8.bel hx10).wr hw11 (bx_apart f8.2.2 f12.2.2 (by omega)))
   have h1111 := h119.bel hx911
   have hxm11 := hxm.ext hx911
   conv => cbv
   (refine st_fld hE fOc2 fun p hp => ?_; (conv => cbv); refine st_load hE cStrs (by rw [hp]; exact (h1211).at _ _ rfl) ?_; (conv => cbv))
   (refine st_fld hE fL3v3 fun p hp => ?_; (conv => cbv); refine st_load hE cStrs (by rw [hp]; exact (h1111).at _ _ rfl) ?_; (conv => cbv))
   refine st_apps hr tStrs rfl (B := w11.heap.size) Own.nil hxm11.1.cells (by rw [List.length_map]; exact hyl) (by simp [Value.oneCell']) (n1_ _) (by omega) (by omega) fun NA nc nm2 w12 hnm hw12 hoN => ?_
   rw [Nat.zero_add] at hnm
   subst hnm
   rw [a2_] at hoN
   have hx1112 : Ext w11 w12 := ⟨hw12.os, hw12.tape, hw12.output, hw12.size, fun i hi => hw12.block i hi (by intro e; cases e)⟩
   have h1212 := h1211.bel hx1112
   replace h8 := h8.bel hx1112
   have s12 := hx1112.size
   conv => cbv
   refine st_fld hE fOc2 fun p hp => ?_
   conv => cbv
   refine st_put hr (by kernel_rfl) h1212 hp (by simp) rfl fun w13 hw13 h1213 => ?_
   simp only [b4_, b5_] at h1213
   replace h8 := h8.wr hw13 (bx_apart f8.2.2 f12.2.2 (by omega))
   have hoN13 := hoN.wr hw13 (own_low hoN (by omega) f12.2.2).1
   have s13 := hw13.size
   conv => cbv
   refine st_loadS hE tOc rfl h1213.at ?_
   conv => cbv
   refine st_putS hr (by kernel_rfl) h8 (add_zero _).symm (by simp [zOc]) (by simp [Value.oneCell']) fun w14 hw14 h814 => ?_
   simp only [zOc, a1_, a2_, a3_, a4_, a5_, a6_, a7_] at h814
   conv => cbv
   refine st_cell hr tOc rfl h814.at ?_
   conv => cbv
   have hw13' : Wr LA w w13 := wr_of ((hx.trans (hx911.trans hx1112)).wr LA) hw13 fun i hi _ => by rw [f12.2.2]; intro e; cases e; omega
   exact fin w11.heap.size 2 0 NA _ nc w13 w14 hw13' h8 hw14 (by omega) (by rw [hout]; exact ⟨NA, _, nc, rfl, hoN13, hxm.1.5, hs64⟩)
 conv => cbv
 (refine st_fld hE fISd0 fun p hp => ?_; (conv => cbv); refine st_load hE cInt (by rw [hp]; exact (h9).at _ _ rfl) ?_; (conv => cbv))
 rcases hdk with ⟨hk3, hpc⟩ | hdk
 ·refine br (fun g => absurd g (by simp [hE.cmp, cmpR]; omega)) (fun _ => ?_)
  conv => cbv
  rw [hpc] at hOUT
  exact ⟨(), by simp [Fits, lk], hJ2 _ _ ⟨Ext.refl _, hOUT⟩⟩
 obtain ⟨t, hpc, hto, hdk⟩ : ∃ t, pc = some t ∧ TOK names tys t ∧ ((k = 1 ∧ DecOK ((sv.zip pts).drop (j + 1)) (names ++ [nm]) (tys ++ [(tyT names tys t).1])) ∨ (k = 2 ∧ (tyT names tys t).1 = 1 ∧ DecOK ((sv.zip pts).drop (j + 1)) names tys)) := by
  rcases hdk with ⟨h1, t, h2, h3, h4⟩ | ⟨h1, t, h2, h3, h4, h5⟩
  ·exact ⟨t, h2, h3, .inl ⟨h1, h4⟩⟩
  ·exact ⟨t, h2, h3, .inr ⟨h1, h4, h5⟩⟩
 have ejk : jk = ((j + 1 : Nat) : Int) := by omega
 refine br (fun _ => ?_) (fun g => absurd g (by simp [hE.cmp, cmpR]; omega))
 have hev := ev_ok hreq hlets t hto.g hto.c hto.e
 have hask := ask t sc hto (htr.1 t hpc) w5 hx
 obtain ⟨R0, hR0⟩ : ∃ R0, R0 = evT (rqL cl us lvl nw xs ys) (lv.map (·.p)) t := ⟨_, rfl⟩
 rw [← hR0] at hask hev
 rw [hpc] at hOUT
 simp only at hOUT
 rw [← hR0] at hOUT
 conv => cbv
 (refine st_fld hE fITyp0 fun p hp => ?_; (conv => cbv); refine st_load hE cINs (by rw [hp]; exact (h4).at _ _ rfl) ?_; (conv => cbv))
 (refine st_fld hE fISd2 fun p hp => ?_; (conv => cbv); refine st_load hE cInt (by rw [hp]; exact (h9).at _ _ rfl) ?_; (conv => cbv))
 refine st_loadS hE tIReq rfl h6.at ?_
 conv => cbv
 refine st_f hr hask fun r w6 hx6 hres => ?_
 have s6 := hx6.size
 obtain ⟨cx, nx, tx0, xA, xm, xc, er⟩ := hres.form
 subst er
 conv => cbv
 refine st_alloc hr tL3 rfl fun q10 w7 hx7 hq0 => ?_
 have h10 := hq0 w.heap.size (by omega)
 have f10 := bx_form (hq0 _ (n1_ _))
 have h10b := hq0 w6.heap.size (n1_ _)
 clear hq0
 conv => cbv
 refine st_putS hr (by kernel_rfl) h10 (add_zero _).symm (by simp [zL3]) (by simp [Value.oneCell']) fun w8 hw8 h108 => ?_
 simp only [zL3, a1_, a2_, a3_, a4_, a5_, a6_, a7_] at h108
 have s7 := hx7.size
 have hx68 : Ext w6 w8 := hx7.then (hw8.bel h10b (by omega))
 have hx58 := hx6.trans hx68
 replace h4 := ((h4.bel hx6).bel hx7).wr hw8 (bx_apart f4.2.2 f10.2.2 (by omega))
 replace h6 := ((h6.bel hx6).bel hx7).wr hw8 (bx_apart f6.2.2 f10.2.2 (by omega))
 replace h8 := ((h8.bel hx6).bel hx7).wr hw8 (bx_apart f8.2.2 f10.2.2 (by omega))
 replace h9 := ((h9.bel hx6).bel hx7).wr hw8 (bx_apart f9.2.2 f10.2.2 (by omega))
 replace h10 := h108
 replace hx := hx.trans hx58
 have s8 := hx68.size
 have f108 := (bx_form h10).2.1
 have hres8 := hres.ext hx68
 clear hw8 h10b h108
 conv => cbv
 (refine st_fld hE fL3v0 fun p hp => ?_; (conv => cbv); refine st_load hE cInt (by rw [hp]; exact (h10).at _ _ rfl) ?_; (conv => cbv))
 cases hR0c : R0 with
 | inl e =>
  rw [hR0c] at hres8 hOUT
  simp only at hOUT
  obtain ⟨he, n1, tx1, A1', m1', c1', e1⟩ := hres8
  simp only [Value.agg.injEq, Array.mk.injEq, b1_, Value.int.injEq, true_and] at e1
  have e1 : cx = e := e1.1
  subst e1
  refine br (fun g => ?_) (fun g => absurd g (by simp [hE.cmp, cmpR]; omega))
  conv => cbv
  (refine st_fld hE fL3v0 fun p hp => ?_; (conv => cbv); refine st_load hE cInt (by rw [hp]; exact (h10).at _ _ rfl) ?_; (conv => cbv))
  refine st_bO3 hE ?_
  conv => cbv
  refine st_putS hr (by kernel_rfl) h8 (add_zero _).symm (by simp [zOc]) (by simp [Value.oneCell']) fun w10 hw10 h810 => ?_
  simp only [zOc, a1_, a2_, a3_, a4_, a5_, a6_, a7_] at h810
  conv => cbv
  refine st_cell hr tOc rfl h810.at ?_
  conv => cbv
  exact fin w8.heap.size 3 cx none 0 0 w8 w10 (hx.wr _) h8 hw10 (by omega) (by rw [hOUT]; exact ⟨none, 0, 0, rfl, Own.nil, by simp [ocOf], by simp [ocOf]⟩)
 | inr x =>
  rw [hR0c] at hres8 hOUT hev
  simp only at hOUT
  obtain ⟨A1', m1', c1', e1, hxm, hxi⟩ := hres8
  obtain ⟨xk, xn, xt, xx⟩ := x
  simp only [lC, Value.agg.injEq, Array.mk.injEq, b1_, Value.int.injEq, Value.string.injEq, Value.slice.injEq, true_and, and_true] at e1
  obtain ⟨rfl, rfl, rfl, rfl, rfl, rfl⟩ := e1
  have hev : valV (tyT names tys t).1 ⟨xk, nx, tx0, xx⟩ := hev
  refine br (fun g => absurd g (by simp [hE.cmp, cmpR])) (fun _ => ?_)
  conv => cbv
  (refine st_fld hE fISd0 fun p hp => ?_; (conv => cbv); refine st_load hE cInt (by rw [hp]; exact (h9).at _ _ rfl) ?_; (conv => cbv))
  have kv : ∀ x : VV, ValM w8 x → InD (fun b => DL2 w LA b ∨ DNew w5 w6 b) x.A x.m → ∀ w1 (B : Option Addr), (∀ b, b < w8.heap.size → blk LA ≠ some b → w1.heap[b]? = w8.heap[b]?) → w8.heap.size ≤ w1.heap.size → (blk B = blk LA ∨ blk B = none ∨ ∃ g, blk B = some g ∧ w8.heap.size ≤ g) → ValM w1 x ∧ InD (DL2 w1 B) x.A x.m := fun x h1 h2 w1 B hk hsz hB => by
   have hb1 : ∀ b, DL2 w LA b ∨ DNew w5 w6 b → b < w8.heap.size ∧ blk LA ≠ some b := fun b hb => by
    rcases hb with ⟨g1, g2⟩ | ⟨g1, g2⟩
    ·exact ⟨by omega, g2⟩
    ·exact ⟨by omega, fun e => by have := (laq b e).2; omega⟩
   refine ⟨⟨strs_keep h1.1 h2 (fun b hb => hk b (hb1 b hb).1 (hb1 b hb).2), h1.2⟩, fun a ha hm => ?_⟩
   obtain ⟨g1, g2⟩ := hb1 _ (h2 a ha hm)
   refine ⟨by omega, fun e => ?_⟩
   rcases hB with q | q | ⟨g, q, hg⟩
   ·rw [q] at e; exact g2 e
   ·rw [q] at e; cases e
   ·rw [q] at e; cases e; omega
  have qla : ∀ {q : Addr}, blk (some q) = some q.block → w.heap.size ≤ q.block → Apart (some q) LA := fun {q} hq hl => .inr (by rw [hq]; intro e; have := (laq _ e.symm).2; omega)
  rcases hdk with ⟨hk1, hdk⟩ | ⟨hk2, hty1, hdk⟩
  ·rw [if_pos hk1] at hOUT
   refine br (fun _ => ?_) (fun g => absurd g (by simp [hE.cmp, cmpR]; omega))
   conv => cbv
   refine st_loadS hE tL3 rfl h10.at ?_
   conv => cbv
   refine st_oneS hr sL3 rfl (by omega) (by omega) rfl fun A7 w10 hx10 hc10 => ?_
   have s10 := hx10.size
   have hl10 := hl.bel (hx.trans hx10)
   conv => cbv
   refine st_appsKG hr sL3 rfl (by omega) hl10 hc10 rfl (by omega) (by simp [Value.oneCell']) (by omega) (by omega) (by omega) fun A8 c8 m8 w11 hm8 hw11 ho11 hbk => ?_
   subst hm8
   have s11 := hw11.size
   replace h4 := (h4.bel hx10).wr hw11 (qla f4.2.2 (by omega))
   replace h6 := (h6.bel hx10).wr hw11 (qla f6.2.2 (by omega))
   replace h8 := (h8.bel hx10).wr hw11 (qla f8.2.2 (by omega))
   replace h9 := (h9.bel hx10).wr hw11 (qla f9.2.2 (by omega))
   have hwt11 : Ext wt w11 := (hx0.trans (hx.trans hx10)).then (hw11.bel hl10 (by omega))
   have keep : ∀ b, b < w8.heap.size → blk LA ≠ some b → w11.heap[b]? = w8.heap[b]? := fun b h1 h2 => by
    rw [hw11.block b (by omega) (fun e => h2 e.symm), hx10.block b h1]
   have hB8 : blk A8 = blk LA ∨ blk A8 = none ∨ ∃ g, blk A8 = some g ∧ w8.heap.size ≤ g := by
    rcases hbk with q | q
    ·exact .inl q
    ·exact .inr (.inr ⟨_, q, by omega⟩)
   have apq : Apart (some q8) A8 := .inr (by
    rw [f8.2.2]
    intro e
    rcases hbk with q | q
    ·rw [q] at e; have := (laq _ e.symm).2; omega
    ·rw [q] at e; have e := Option.some.inj e; omega)
   conv => cbv
   (refine st_fld hE fISd0 fun p hp => ?_; (conv => cbv); refine st_load hE cInt (by rw [hp]; exact (h9).at _ _ rfl) ?_; (conv => cbv))
   refine br (fun _ => ?_) (fun g => absurd g (by simp [hE.cmp, cmpR]; omega))
   have hmp : (lv ++ [⟨⟨xk, nx, tx0, xx⟩, xA, xm, xc⟩] : List VV).map (·.p) = lv.map (·.p) ++ [⟨xk, nx, tx0, xx⟩] := by simp
   rw [← hmp] at hOUT
   conv => cbv
   refine st_loadS hE tITyp rfl h4.at ?_
   conv => cbv
   simp only [ej]
   refine st_loadS hE tIReq rfl h6.at ?_
   conv => cbv
   have hih := ih (j + 1) (by omega) w11 A8 (ln + 1) c8 (lv ++ [⟨⟨xk, nx, tx0, xx⟩, xA, xm, xc⟩]) (names ++ [nm]) (tys ++ [(tyT names tys t).1]) hwt11 (by rw [List.flatMap_append]; simpa [lC] using ho11) (by simp; omega) (by omega) (fun x hx' => by
    rcases List.mem_append.1 hx' with hx' | hx'
    ·obtain ⟨g1, g2⟩ := hvals x hx'
     exact kv x (g1.ext hx) (fun a ha hm => .inl (g2 a ha hm)) w11 A8 keep (by omega) hB8
    ·rw [List.mem_singleton.1 hx']
     exact kv _ hxm hxi w11 A8 keep (by omega) hB8) hdk (by rw [hmp]; exact lets_snoc hlets hev)
   rw [← ejk] at hih
   refine st_g hr hih fun r w20 ⟨hres, hwg⟩ => ?_
   rw [← hOUT] at hres
   obtain ⟨N, nmN, nc, er, ho, ho1, ho2⟩ := hres
   subst er
   have h820 := h8.wr hwg apq
   conv => cbv
   refine st_putS hr (by kernel_rfl) h820 (add_zero _).symm (by simp [zOc]) (by simp [Value.oneCell']) fun w21 hw21 h821 => ?_
   simp only [zOc, a1_, a2_, a3_, a4_, a5_, a6_, a7_] at h821
   conv => cbv
   refine st_cell hr tOc rfl h821.at ?_
   conv => cbv
   exact fin w11.heap.size _ _ N nmN nc w20 w21 (wr_of (wr_of ((hx.trans hx10).wr LA) hw11 fun i _ hi => hi) hwg fun i hi hn e => by
    rcases hbk with q | q
    ·rw [q] at e; exact hn e
    ·rw [q] at e; have e := Option.some.inj e; omega) h820 hw21 (by omega) ⟨N, nmN, nc, rfl, ho, ho1, ho2⟩
  ·rw [if_neg (by omega)] at hOUT
   have hn01 := (val1 (show valV 1 _ by rw [← hty1]; exact hev)).2.1
   refine br (fun g => absurd g (by simp [hE.cmp, cmpR]; omega)) (fun _ => ?_)
   conv => cbv
   (refine st_fld hE fISd0 fun p hp => ?_; (conv => cbv); refine st_load hE cInt (by rw [hp]; exact (h9).at _ _ rfl) ?_; (conv => cbv))
   refine br (fun g => absurd g (by simp [hE.cmp, cmpR]; omega)) (fun _ => ?_)
   conv => cbv
   (refine st_fld hE fL3v1 fun p hp => ?_; (conv => cbv); refine st_load hE cI64 (by rw [hp]; exact (h10).at _ _ rfl) ?_; (conv => cbv))
   refine br (fun g => ?_) (fun g => ?_)
   ·have g : nx = 0 := by simpa [hE.cmp, cmpR] using g
    rw [if_pos g] at hOUT
    conv => cbv
    refine st_loadS hE tITyp rfl h4.at ?_
    conv => cbv
    simp only [ej]
    refine st_loadS hE tIReq rfl h6.at ?_
    conv => cbv
    have hih := ih (j + 1) (by omega) w8 LA ln lc lv names tys (hx0.trans hx) (hl.bel hx) hlvl (by omega) (fun x hx' => by
     obtain ⟨g1, g2⟩ := hvals x hx'
     exact kv x (g1.ext hx) (fun a ha hm => .inl (g2 a ha hm)) w8 LA (fun _ _ _ => rfl) (n1_ _) (.inl rfl)) hdk hlets
    rw [← ejk] at hih
    refine st_g hr hih fun r w20 ⟨hres, hwg⟩ => ?_
    rw [← hOUT] at hres
    obtain ⟨N, nmN, nc, er, ho, ho1, ho2⟩ := hres
    subst er
    have h820 := h8.wr hwg (qla f8.2.2 (by omega))
    conv => cbv
    refine st_putS hr (by kernel_rfl) h820 (add_zero _).symm (by simp [zOc]) (by simp [Value.oneCell']) fun w21 hw21 h821 => ?_
    simp only [zOc, a1_, a2_, a3_, a4_, a5_, a6_, a7_] at h821
    conv => cbv
    refine st_cell hr tOc rfl h821.at ?_
    conv => cbv
    exact fin w8.heap.size _ _ N nmN nc w20 w21 (wr_of (hx.wr LA) hwg fun i _ hi => hi) h820 hw21 (by omega) ⟨N, nmN, nc, rfl, ho, ho1, ho2⟩
   ·have g : nx ≠ 0 := by simpa [hE.cmp, cmpR] using g
    rw [if_neg g] at hOUT
    conv => cbv
    exact ⟨(), by simp [Fits, lk], hJ2 _ _ ⟨hx58, hOUT⟩⟩
def posV : List PV → PV → Option Nat
 | [], _ => none
 | x :: l, v => if x = v then some 0 else (posV l v).map (· + 1)
structure CS where
 pool : List PV
 ins : List (Int × Int)
def pushP (v : PV) (s : CS) : CS := match posV s.pool v with
 | some i => ⟨s.pool, s.ins ++ [(1, (i : Int))]⟩
 | none => ⟨s.pool ++ [v], s.ins ++ [(1, (s.pool.length : Int))]⟩
def putP (o a : Int) (s : CS) : CS := ⟨s.pool, s.ins ++ [(o, a)]⟩
def markP (f : Nat) (s : CS) : CS := ⟨s.pool, s.ins.set f ((s.ins.getD f (0, 0)).1, (s.ins.length : Int))⟩
def boolP (b : Int) : PV := ⟨1, b, ⟨#[]⟩, []⟩
def opcO (o : Int) : Int := o - 3
def exP : Tr → CS → CS
 | .con k n tx xs _, s => pushP ⟨k, n, tx, xs⟩ s
 | .att n, s => putP 2 n s
 | .lt n, s => putP 3 n s
 | .nam _ _, s => s
 | .op o [a] _, s => putP (opcO o) 0 (exP a s)
 | .op o [a, b] _, s =>
  if o = 25 then markP (exP b (putP 23 0 (exP a s))).ins.length (pushP (boolP 0) (markP (exP a s).ins.length (putP 22 0 (exP b (putP 23 0 (exP a s))))))
  else if o = 26 then markP (pushP (boolP 1) (putP 23 0 (exP a s))).ins.length (exP b (markP (exP a s).ins.length (putP 22 0 (pushP (boolP 1) (putP 23 0 (exP a s))))))
  else putP (opcO o) 0 (exP b (exP a s))
 | .op _ [a, b, c] _, s => markP (exP b (putP 23 0 (exP a s))).ins.length (exP c (markP (exP a s).ins.length (putP 22 0 (exP b (putP 23 0 (exP a s))))))
 | .op _ _ _, s => s
inductive RI where
 | push (v : PV)
 | ins (o a : Int)
mutual
def szT : Tr → Nat
 | .op o kids _ => 1 + szTs kids + (if o = 25 ∨ o = 26 then 2 else if o = 27 then 1 else 0)
 | _ => 1
def szTs : List Tr → Nat
 | [] => 0
 | t :: l => szT t + szTs l
end
def refT : Tr → Nat → List RI
 | .con k n tx xs _, _ => [.push ⟨k, n, tx, xs⟩]
 | .att n, _ => [.ins 2 n]
 | .lt n, _ => [.ins 3 n]
 | .nam _ _, _ => []
 | .op o [a] _, at_ => refT a at_ ++ [.ins (opcO o) 0]
 | .op o [a, b] _, at_ =>
  if o = 25 then refT a at_ ++ [.ins 23 ((at_ + szT a + szT b + 2 : Nat) : Int)] ++ refT b (at_ + szT a + 1) ++ [.ins 22 ((at_ + szT a + szT b + 3 : Nat) : Int)] ++ [.push (boolP 0)]
  else if o = 26 then refT a at_ ++ [.ins 23 ((at_ + szT a + 3 : Nat) : Int), .push (boolP 1)] ++ [.ins 22 ((at_ + szT a + 3 + szT b : Nat) : Int)] ++ refT b (at_ + szT a + 3)
  else refT a at_ ++ refT b (at_ + szT a) ++ [.ins (opcO o) 0]
 | .op _ [a, b, c] _, at_ => refT a at_ ++ [.ins 23 ((at_ + szT a + szT b + 2 : Nat) : Int)] ++ refT b (at_ + szT a + 1) ++ [.ins 22 ((at_ + szT a + szT b + 2 + szT c : Nat) : Int)] ++ refT c (at_ + szT a + szT b + 2)
 | .op _ _ _, _ => []
def poolR : List RI → List PV → List PV
 | [], p => p
 | .push v :: l, p => match posV p v with
  | some _ => poolR l p
  | none => poolR l (p ++ [v])
 | .ins _ _ :: l, p => poolR l p
def insR : List RI → List PV → List (Int × Int)
 | [], _ => []
 | .push v :: l, p => match posV p v with
  | some i => (1, (i : Int)) :: insR l p
  | none => (1, (p.length : Int)) :: insR l (p ++ [v])
 | .ins o a :: l, p => (o, a) :: insR l p
def passR (l : List RI) (s : CS) : CS := ⟨poolR l s.pool, s.ins ++ insR l s.pool⟩
mutual
def okT : Tr → Prop
 | .op o kids _ => (kids.length : Int) = kidsF o ∧ 1 ≤ kids.length ∧ okTs kids
 | .nam _ _ => False
 | _ => True
def okTs : List Tr → Prop
 | [] => True
 | t :: l => okT t ∧ okTs l
end
def decP (g : Option Tr) (s : CS) : CS := match g with
 | none => putP 24 0 s
 | some t => putP 25 0 (exP t s)
def cmpP : List (PS × PT) → Int → CS → Int × CS
 | [], sl, s => (sl, s)
 | (p, ⟨c, g⟩) :: l, sl, s =>
  let s1 := match c with
   | none => s
   | some t => exP t s
  if p.k = 1 then cmpP l (sl + 1) (putP 4 sl s1)
  else if p.k = 2 then cmpP l sl (markP s1.ins.length (decP g (putP 23 0 s1)))
  else cmpP l sl (decP g s1)
def decL (g : Option Tr) (at_ : Nat) : List RI := match g with
 | none => [.ins 24 0]
 | some t => refT t at_ ++ [.ins 25 0]
def cmpL : List (PS × PT) → Int → List RI → Int × List RI
 | [], sl, all => (sl, all)
 | (p, ⟨c, g⟩) :: l, sl, all =>
  let a1 := match c with
   | none => all
   | some t => all ++ refT t all.length
  if p.k = 1 then cmpL l (sl + 1) (a1 ++ [.ins 4 sl])
  else if p.k = 2 then cmpL l sl (a1 ++ [.ins 23 ((a1.length + 1 + (decL g (a1.length + 1)).length : Nat) : Int)] ++ decL g (a1.length + 1))
  else cmpL l sl (a1 ++ decL g a1.length)
def okS (l : List (PS × PT)) : Prop := ∀ q ∈ l, (∀ t, q.2.c = some t → okT t) ∧ ∀ t, q.2.g = some t → okT t
section
variable {E : Sym} {w : World} {K : Value → World → Prop} {d : Option Tmp} {ty : TypeId} {pos : String} {aft : Array Edge} {g : Option (Nat × Bool)} {bq : Bool}
end
def Dj (a b : Option Addr) : Prop := ∀ g, blk a = some g → blk b ≠ some g
theorem Dj.symm {a b : Option Addr} (h : Dj a b) : Dj b a := fun g h1 h2 => h g h2 h1
theorem dj_apart {B : Nat} {e : TypeId} {k : Nat} {w : World} {A X : Option Addr} {m c : Nat} {xs : List Value} (hA : Own B e k w A m c xs) (h : Dj A X) : Apart A X := by
 obtain rfl | ⟨g, rfl, _, _⟩ := hA.blk
 ·exact .inl rfl
 ·exact .inr fun q => h g rfl (by rw [← q]; rfl)
theorem dj_new {B B' : Nat} {e e' : TypeId} {k k' : Nat} {w w' : World} {A X : Option Addr} {m c m' c' : Nat} {xs ys : List Value} (hA : Own B e k w A m c xs) (hX : Own B' e' k' w' X m' c' ys) (h : w.heap.size ≤ B') : Dj A X := fun g h1 h2 => by
 have := (own_blk hA g h1).2
 have := (own_blk hX g h2).1
 omega
structure CSt (w : World) (R : List (Option Addr)) (w' : World) (R' : List (Option Addr)) : Prop where
 os : w'.os = w.os
 tape : w'.tape = w.tape
 output : w'.output = w.output
 size : w.heap.size ≤ w'.heap.size
 keep : ∀ b, b < w.heap.size → (∀ x ∈ R, blk x ≠ some b) → w'.heap[b]? = w.heap[b]?
 new : ∀ x ∈ R', ∀ g, blk x = some g → (∃ y ∈ R, blk y = some g) ∨ w.heap.size ≤ g
theorem CSt.refl (w : World) (R : List (Option Addr)) : CSt w R w R := ⟨rfl, rfl, rfl, n1_ _, fun _ _ _ => rfl, fun x hx g hg => .inl ⟨x, hx, hg⟩⟩
theorem CSt.trans {a b c : World} {R S T : List (Option Addr)} (h : CSt a R b S) (k : CSt b S c T) : CSt a R c T := by
 refine ⟨k.os.trans h.os, k.tape.trans h.tape, k.output.trans h.output, n2_ h.size k.size, fun i hi hn => ?_, fun x hx g hg => ?_⟩
 ·rw [k.keep i (n3_ hi h.size) (fun x hx e => by
   rcases h.new x hx i e with ⟨y, hy, e2⟩ | q
   ·exact hn y hy e2
   ·omega), h.keep i hi hn]
 ·rcases k.new x hx g hg with ⟨y, hy, e⟩ | q
  ·exact h.new y hy g e
  ·exact .inr (n2_ h.size q)
theorem CSt.of_ext {w w' : World} (h : Ext w w') (R : List (Option Addr)) : CSt w R w' R := ⟨h.os, h.tape, h.output, h.size, fun b hb _ => h.block b hb, fun x hx g hg => .inl ⟨x, hx, hg⟩⟩
theorem CSt.of_wr {w w' : World} {x : Option Addr} {R : List (Option Addr)} (h : Wr x w w') (hx : x ∈ R) : CSt w R w' R :=
 ⟨h.os, h.tape, h.output, h.size, fun b hb hn => h.block b hb (fun e => hn x hx e.symm), fun x hx g hg => .inl ⟨x, hx, hg⟩⟩
theorem CSt.own {w w' : World} {R R' : List (Option Addr)} (h : CSt w R w' R') {B k m c : Nat} {e : TypeId} {X : Option Addr} {xs : List Value} (hX : Own B e k w X m c xs) (hd : ∀ r ∈ R, Dj r X) : Own B e k w' X m c xs ∧ ∀ r ∈ R', Dj r X := by
 refine ⟨own_keep hX fun g hg => h.keep g (own_blk hX g hg).2 (fun x hx e => hd x hx g e hg), fun r hr g hg e => ?_⟩
 rcases h.new r hr g hg with ⟨y, hy, q⟩ | q
 ·exact hd y hy g q e
 ·have := (own_blk hX g e).2; omega
theorem CSt.ext0 {w0 w w' : World} {R R' : List (Option Addr)} (h : CSt w R w' R') (h0 : Ext w0 w) (hR : ∀ r ∈ R, ∀ g, blk r = some g → w0.heap.size ≤ g) : Ext w0 w' :=
 h0.then ⟨h.os, h.tape, h.output, h.size, fun i hi => h.keep i (n3_ hi h0.size) (fun x hx e => by have := hR x hx i e; omega)⟩
structure CB (w0s : Nat) (q : Addr) : Prop where
 lo : w0s ≤ q.block
 eq : blk (some q) = some q.block
def rws (q : Addr) (P I : Option Addr) : List (Option Addr) := [some q, P, I]
section
variable {w0s : Nat} {w w' : World} {q : Addr} {P : Option Addr} {pn pc : Nat} {sl : Int} {I : Option Addr} {n ic : Nat} {vs : List VV} {is : List (Int × Int)}
end
structure Sub where
 A : Option Addr
 m : Nat
 c : Nat
 e : TypeId
 xs : List Value
theorem pw_get {β : Type} {R : β → β → Prop} (hs : ∀ a b, R a b → R b a) {l : List β} (h : l.Pairwise R) {i j : Nat} {a b : β} (hi : l[i]? = some a) (hj : l[j]? = some b) (hne : i ≠ j) : R a b := by
 obtain ⟨h1, e1⟩ := List.getElem?_eq_some_iff.1 hi
 obtain ⟨h2, e2⟩ := List.getElem?_eq_some_iff.1 hj
 subst e1; subst e2
 rcases Nat.lt_or_gt_of_ne hne with q | q
 ·exact List.pairwise_iff_getElem.1 h i j h1 h2 q
 ·exact hs _ _ (List.pairwise_iff_getElem.1 h j i h2 h1 q)
structure DJ (A : Option Addr) (ls : List (List (Option Addr))) : Prop where
 rowd : ∀ l ∈ ls, ∀ a ∈ l, Dj A a
 own : ∀ l ∈ ls, l.Pairwise Dj
 pw : ls.Pairwise fun la lb => ∀ a ∈ la, ∀ b ∈ lb, Dj a b
def adr {α : Type} (sb : α → List Sub) (v : α) : List (Option Addr) := (sb v).map (·.A)
structure RO {α : Type} (e : TypeId) (k : Nat) (f : α → List Value) (sb : α → List Sub) (B : Nat) (w : World) (A : Option Addr) (n c : Nat) (vs : List α) : Prop where
 row : Own B e k w A n c (vs.flatMap f)
 sub : ∀ v ∈ vs, ∀ s ∈ sb v, Own B s.e 1 w s.A s.m s.c s.xs
 dj : DJ A (vs.map (adr sb))
def roA {α : Type} (sb : α → List Sub) (A : Option Addr) (vs : List α) : List (Option Addr) := A :: vs.flatMap (adr sb)
section
variable {α : Type} {e : TypeId} {k : Nat} {f : α → List Value} {sb : α → List Sub} {B : Nat} {w w' : World} {A : Option Addr} {n c : Nat} {vs : List α}
theorem RO.ext (h : RO e k f sb B w A n c vs) (hx : Ext w w') : RO e k f sb B w' A n c vs := ⟨h.row.bel hx, fun v hv s hs => (h.sub v hv s hs).bel hx, h.dj⟩
theorem RO.low {B' : Nat} (h : RO e k f sb B w A n c vs) (hB : B' ≤ B) : RO e k f sb B' w A n c vs := ⟨h.row.mono hB, fun v hv s hs => (h.sub v hv s hs).mono hB, h.dj⟩
theorem fset {α : Type} {f : α → List Value} {k : Nat} (hf : ∀ v, (f v).length = k) : ∀ (xs : List α) (i : Nat) (x y : α) (j : Nat) (v : Value), xs[i]? = some x → j < k → f y = (f x).set j v → (xs.flatMap f).set (i * k + j) v = (xs.set i y).flatMap f
 | [], i, x, y, j, v, h, _, _ => by simp at h
 | z :: zs, 0, x, y, j, v, h, hj, he => by
  simp at h; subst h
  rw [List.flatMap_cons, List.set_append_left _ _ (by rw [hf]; omega), b4_, List.flatMap_cons, he]; simp
 | z :: zs, i + 1, x, y, j, v, h, hj, he => by
  simp only [List.getElem?_cons_succ] at h
  rw [List.flatMap_cons, List.set_append_right _ _ (by rw [hf, Nat.add_mul]; omega), b5_, List.flatMap_cons, ← fset hf zs i x y j v h hj he]
  congr 2
  rw [hf, Nat.add_mul]; omega
theorem fset0 {α : Type} {f : α → List Value} : ∀ (xs : List α) (i : Nat) (x y : α), xs[i]? = some x → f y = f x → (xs.set i y).flatMap f = xs.flatMap f
 | [], i, x, y, h, _ => by simp at h
 | z :: zs, 0, x, y, h, he => by simp at h; subst h; simp [he]
 | z :: zs, i + 1, x, y, h, he => by
  simp only [List.getElem?_cons_succ] at h
  rw [b5_, List.flatMap_cons, List.flatMap_cons, fset0 zs i x y h he]
theorem map_set {α β : Type} {g : α → β} {xs : List α} {i : Nat} {x y : α} (h : xs[i]? = some x) (he : g y = g x) : (xs.set i y).map g = xs.map g := by
 apply List.ext_getElem?
 intro j
 rw [List.getElem?_map, List.getElem?_map]
 by_cases hij : i = j
 ·subst hij
  rw [List.getElem?_set_self ((List.getElem?_eq_some_iff.1 h).1), h]
  simp [he]
 ·rw [List.getElem?_set_ne hij]
theorem RO.put (hf : ∀ v, (f v).length = k) (h : RO e k f sb B w A n c vs) {i j : Nat} {x y : α} {v : Value} (hi : vs[i]? = some x) (hj : j < k) (hy : f y = (f x).set j v) (hs : sb y = sb x) (hw : Wr A w w') (ho : Own B e k w' A n c ((vs.flatMap f).set (i * k + j) v)) : RO e k f sb B w' A n c (vs.set i y) := by
 rw [fset hf vs i x y j v hi hj hy] at ho
 have hk := map_set (g := adr sb) hi (y := y) (by unfold adr; rw [hs])
 have old : ∀ u ∈ vs, ∀ s ∈ sb u, Own B s.e 1 w' s.A s.m s.c s.xs := fun u hu s hsu =>
  (h.sub u hu s hsu).wr hw (dj_apart (h.sub u hu s hsu) (h.dj.rowd _ (List.mem_map.2 ⟨u, hu, rfl⟩) _ (List.mem_map.2 ⟨s, hsu, rfl⟩)).symm)
 refine ⟨ho, fun u hu s hsu => ?_, by rw [hk]; exact h.dj⟩
 rcases List.mem_or_eq_of_mem_set hu with hu | rfl
 ·exact old u hu s hsu
 ·exact old x (m1_ hi) s (hs ▸ hsu)
theorem RO.putS (h : RO e k f sb B w A n c vs) {i q : Nat} {x y : α} {s s' : Sub} (hi : vs[i]? = some x) (hy : f y = f x) (hq : (sb x)[q]? = some s) (hs : sb y = (sb x).set q s') (hA : s'.A = s.A) (hw : Wr s.A w w') (ho : Own B s'.e 1 w' s'.A s'.m s'.c s'.xs) : RO e k f sb B w' A n c (vs.set i y) := by
 have hadr : adr sb y = adr sb x := by unfold adr; rw [hs]; exact map_set hq hA
 have hk := map_set (g := adr sb) hi (y := y) hadr
 have hsA : s.A ∈ adr sb x := List.mem_map.2 ⟨s, m1_ hq, rfl⟩
 have hxm : adr sb x ∈ vs.map (adr sb) := List.mem_map.2 ⟨x, m1_ hi, rfl⟩
 have hd := h.dj.rowd _ hxm _ hsA
 refine ⟨?_, fun u hu t ht => ?_, by rw [hk]; exact h.dj⟩
 ·rw [fset0 vs i x y hi hy]
  exact h.row.wr hw (dj_apart h.row hd)
 ·obtain ⟨j, hj⟩ := List.mem_iff_getElem?.1 hu
  by_cases hij : i = j
  ·subst hij
   rw [List.getElem?_set_self ((List.getElem?_eq_some_iff.1 hi).1)] at hj
   cases hj
   rw [hs] at ht
   obtain ⟨r, hr⟩ := List.mem_iff_getElem?.1 ht
   by_cases hrq : q = r
   ·subst hrq
    rw [List.getElem?_set_self ((List.getElem?_eq_some_iff.1 hq).1)] at hr
    cases hr; exact ho
   ·rw [List.getElem?_set_ne hrq] at hr
    have o1 := h.sub x (m1_ hi) t (m1_ hr)
    have d1 : Dj t.A s.A := pw_get (fun _ _ h => h.symm) (h.dj.own _ hxm) (i := r) (j := q) (by unfold adr; rw [List.getElem?_map, hr]; rfl) (by unfold adr; rw [List.getElem?_map, hq]; rfl) (fun e => hrq e.symm)
    exact o1.wr hw (dj_apart o1 d1)
  ·rw [List.getElem?_set_ne hij] at hj
   have o1 := h.sub u (m1_ hj) t ht
   have d1 := pw_get (R := fun la lb => ∀ a ∈ la, ∀ b ∈ lb, Dj a b) (fun _ _ h a ha b hb => (h b hb a ha).symm) h.dj.pw (i := j) (j := i) (by rw [List.getElem?_map, hj]; rfl) (by rw [List.getElem?_map, hi]; rfl) (fun e => hij e.symm) t.A (List.mem_map.2 ⟨t, ht, rfl⟩) s.A hsA
   exact o1.wr hw (dj_apart o1 d1)
theorem RO.lo (h : RO e k f sb B w A n c vs) : ∀ r ∈ roA sb A vs, ∀ g, blk r = some g → B ≤ g ∧ g < w.heap.size := fun r hr g hg => by
 rcases List.mem_cons.1 hr with rfl | hr
 ·exact own_blk h.row g hg
 ·obtain ⟨v, hv, hr⟩ := List.mem_flatMap.1 hr
  obtain ⟨s, hs, rfl⟩ := List.mem_map.1 hr
  exact own_blk (h.sub v hv s hs) g hg
theorem RO.len (hf : ∀ v, (f v).length = k) (hk : 0 < k) (h : RO e k f sb B w A n c vs) : vs.length = n := by
 have := h.row.len
 rw [fl_len hf] at this
 exact Nat.eq_of_mul_eq_mul_right hk this
theorem RO.keepR (h : RO e k f sb B w A n c vs) {R : List (Option Addr)} (hc : CSt w R w' R) (hd : ∀ r ∈ R, ∀ a ∈ roA sb A vs, Dj r a) : RO e k f sb B w' A n c vs :=
 ⟨(hc.own h.row fun r hr => hd r hr _ (List.mem_cons_self ..)).1, fun v hv s hs => (hc.own (h.sub v hv s hs) fun r hr => hd r hr _ (List.mem_cons_of_mem _ (List.mem_flatMap.2 ⟨v, hv, List.mem_map.2 ⟨s, hs, rfl⟩⟩))).1, h.dj⟩
end
section
variable {α : Type} (mk : α → Int → α) (ct : α → Nat)
def mkL : List α → Int → List α
 | [], _ => []
 | v :: l, z => mk v z :: mkL l (z + ct v)
def ctL : List α → Nat
 | [] => 0
 | v :: l => ct v + ctL l
variable {mk ct}
theorem mkL_len : ∀ (l : List α) (z : Int), (mkL mk ct l z).length = l.length
 | [], _ => rfl
 | v :: l, z => by simp [mkL, mkL_len l]
theorem ctL_append : ∀ (l m : List α), ctL ct (l ++ m) = ctL ct l + ctL ct m
 | [], m => by simp [ctL]
 | v :: l, m => by rw [List.cons_append, ctL, ctL, ctL_append l m]; omega
theorem mkL_append : ∀ (l m : List α) (z : Int), mkL mk ct (l ++ m) z = mkL mk ct l z ++ mkL mk ct m (z + ctL ct l)
 | [], m, z => by simp [mkL, ctL]
 | v :: l, m, z => by rw [List.cons_append, mkL, mkL, mkL_append l m, List.cons_append, ctL]; congr 3; push_cast; omega
theorem ctL_take {l : List α} {i : Nat} {x : α} (h : l[i]? = some x) : ctL ct (l.take (i + 1)) = ctL ct (l.take i) + ct x := by
 rw [g4_, h, ctL_append]; simp [ctL]
theorem ctL_le (l : List α) (i : Nat) : ctL ct (l.take i) ≤ ctL ct l := by
 have e : ctL ct l = ctL ct (l.take i) + ctL ct (l.drop i) := by rw [← ctL_append, List.take_append_drop]
 omega
theorem mkL_mid {l : List α} {i : Nat} {x : α} (z : Int) (h : l[i]? = some x) : (mkL mk ct (l.take i) z ++ l.drop i)[i]? = some x := by
 have := (List.getElem?_eq_some_iff.1 h).1
 rw [List.getElem?_append_right (by rw [mkL_len, List.length_take]; omega), mkL_len, List.length_take, Nat.min_eq_left (by omega), Nat.sub_self, List.getElem?_drop]
 simpa using h
theorem mkL_set {l : List α} {i : Nat} {x : α} (z : Int) (h : l[i]? = some x) : (mkL mk ct (l.take i) z ++ l.drop i).set i (mk x (z + ctL ct (l.take i))) = mkL mk ct (l.take (i + 1)) z ++ l.drop (i + 1) := by
 have hl := (List.getElem?_eq_some_iff.1 h).1
 rw [List.set_append_right _ _ (by rw [mkL_len, List.length_take]; omega), mkL_len, List.length_take, Nat.min_eq_left (by omega), Nat.sub_self, drop_cons h, b4_, g4_, h, mkL_append]
 simp [mkL]
end
theorem cInts1 : Cel Tryz.prog 29 := ⟨_, Tryz.underlying29, by simp, by simp⟩
def imarks (k : Int) (n : Nat) : List Int := (List.range n).map fun (i : Nat) => k + i
theorem imarks_len (k : Int) (n : Nat) : (imarks k n).length = n := by simp [imarks]
theorem markIntS_g {w : World} {B : Nat} {A : Option Addr} {n c : Nat} {xs : List Int} (h : Own B 3 1 w A n c (xs.map (.int .i64))) (k : Int) (hk : 0 ≤ k) (hkn : k + n < 9223372036854775807) :
  GC Tryz.prog 57 [.slice A n c, .int .i64 k] w fun v w' => v = .int .i64 (k + n) ∧ Own B 3 1 w' A n c ((imarks k n).map (.int .i64)) ∧ Wr A w w' := by
 refine GC.intro (cs := []) Tryz.func57 (by kernel_rfl) fun E R hE hr hR => ?_
 have hl := h.len
 rw [List.length_map, Nat.mul_one] at hl
 conv => cbv
 refine loop_rule hr (fun (s : Nat × Int × Int) w' => s.1 ≤ n ∧ s.2.1 = k + s.1 ∧ s.2.2 = s.1 ∧ Wr A w w' ∧ Own B 3 1 w' A n c ((imarks k s.1 ++ xs.drop s.1).map (.int .i64))) (fun s => [(0, .slice A n c), (1, .int .i64 s.2.1), (5, .int .i64 s.2.2)]) (fun s => n - s.1) (0, k, 0)
  (by simp [Fits, lk]) ⟨by simp, by simp, by simp, Wr.refl _ _, by simpa [imarks] using h⟩ ?_
 rintro I hI ⟨i, z, ii⟩ w' ⟨hi, hz, hii, hw, ho⟩
 simp only at hi hz hii ho
 obtain ⟨ii', hii'⟩ : ∃ z, z = ii + 1 := ⟨_, rfl⟩
 conv => cbv
 refine st_len hE tInts fun x hx => ?_
 conv => cbv
 refine br (fun h1 => ?_) (fun h1 => ?_)
 ·have h1 : i < n := by have : ii < x := by simpa [hE.cmp, cmpR] using h1
                        omega
  have ei : E.ar .add .i64 ii 1 = ii' := by rw [hii']; exact inc' hE (by omega) (by omega)
  obtain ⟨g, hg, _⟩ := ho.addr (by omega)
  conv => cbv
  refine st_idx hE tInts hg (by omega) (by omega) fun q hq => ?_
  rw [show ii.toNat = i by omega] at hq
  conv => cbv
  refine st_set hr tInts ho hg h1 hq rfl fun w3 _ hw3 ho3 => ?_
  have hw := hw.trans hw3
  obtain ⟨z', hz'⟩ : ∃ z', z' = z + 1 := ⟨_, rfl⟩
  have e1 : E.ar .add .i64 z 1 = z' := by rw [hz']; exact inc' hE (by omega) (by omega)
  conv => cbv
  simp only [e1, ei]
  refine ⟨(i + 1, z', ii'), by simp [Fits, lk], hI _ _ ⟨by simp only; omega, by simp only; omega, by simp only; omega, hw, ?_⟩, by simp only; omega⟩
  have e : (imarks k (i + 1) ++ xs.drop (i + 1)).map (Value.int .i64) = ((imarks k i ++ xs.drop i).map (Value.int .i64)).set i (.int .i64 z) := by
   rw [← List.map_set, List.set_append_right _ _ (by rw [imarks_len]; omega), imarks_len, Nat.sub_self, List.drop_eq_getElem_cons (show i < xs.length by omega)]
   simp only [b4_, imarks, List.range_succ, List.map_append, b2_, b3_, List.append_assoc, List.cons_append, a2_]
   rw [hz]
  simp only; rw [e]; exact ho3
 ·have h1 : i = n := by
   have : ¬ ii < x := by simpa [hE.cmp, cmpR] using h1
   omega
  subst h1
  rw [List.drop_of_length_le (by omega), a7_] at ho
  conv => cbv
  rw [hR]; exact ⟨by rw [hz]; rfl, ho, hw⟩
end Go.Proofs.YtgnjkdkedjljjaaGreatDoor
