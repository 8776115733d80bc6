/- Texts that the law FnExactDecide leans on, part 5 of 8: contracts of the functions that it reaches and plain lemmas. Each holds under the conditions that it states. -/
import Derived.Test.YtgnjkdkedjljjaaGreatDoorMFnExactDecide4
set_option maxHeartbeats 16000000
namespace Go.Proofs.YtgnjkdkedjljjaaGreatDoor
open Go.Eng
set_option linter.unusedVariables false
set_option linter.unusedSimpArgs false
theorem fCk0 : Fld Tryz.prog 185 0 0 := ⟨by kernel_rfl⟩
theorem fCk1 : Fld Tryz.prog 185 1 1 := ⟨by kernel_rfl⟩
theorem fCk2 : Fld Tryz.prog 185 2 2 := ⟨by kernel_rfl⟩
theorem cMp : Cel Tryz.prog 183 := ⟨_, Tryz.underlying183, by simp, by simp⟩
theorem uMp : Tryz.prog.underlying 183 = some (.map 9 178) := Tryz.underlying183
theorem uMis : ∃ u, Tryz.prog.underlying 103 = some u ∧ ∀ ms, u ≠ .interface ms := ⟨_, Tryz.underlying103, by simp⟩
structure Gr2 (w : World) (q : Addr) (A : Option Addr) (w' : World) (A' : Option Addr) : Prop where
 os : w'.os = w.os
 tape : w'.tape = w.tape
 output : w'.output = w.output
 size : w.heap.size ≤ w'.heap.size
 block : ∀ k, k < w.heap.size → k ≠ q.block → some k ≠ blk A → w'.heap[k]? = w.heap[k]?
 at_ : blk A' = blk A ∨ ∃ b, blk A' = some b ∧ w.heap.size ≤ b
theorem Gr2.refl (w : World) (q : Addr) (A : Option Addr) : Gr2 w q A w A := ⟨rfl, rfl, rfl, n1_ _, fun _ _ _ _ => rfl, .inl rfl⟩
theorem Gr2.trans {a b c : World} {q : Addr} {A B C : Option Addr} (h : Gr2 a q A b B) (k : Gr2 b q B c C) : Gr2 a q A c C := by
 refine ⟨k.os.trans h.os, k.tape.trans h.tape, k.output.trans h.output, n2_ h.size k.size, fun i hi hq hn => ?_, ?_⟩
 ·rw [k.block i (n3_ hi h.size) hq (by
   rcases h.at_ with e | ⟨b0, e, hb⟩
   ·rw [e]; exact hn
   ·rw [e]; intro q; cases q; omega), h.block i hi hq hn]
 ·rcases k.at_ with e | ⟨b0, e, hb⟩
  ·rw [e]; exact h.at_
  ·exact .inr ⟨b0, e, n2_ h.size hb⟩
theorem ext_gr2 {w w' : World} (h : Ext w w') (q : Addr) (A : Option Addr) : Gr2 w q A w' A := ⟨h.os, h.tape, h.output, h.size, fun k hk _ _ => h.block k hk, .inl rfl⟩
theorem Gr2.of_gro {w w' : World} {q : Addr} {A A' : Option Addr} (h : Gro w A w' A') : Gr2 w q A w' A' := ⟨h.wr.os, h.wr.tape, h.wr.output, h.wr.size, fun k hk _ hn => h.wr.block k hk hn, h.at_⟩
theorem Gr2.of_wr {w w' : World} {q : Addr} (hq : blk (some q) = some q.block) {A : Option Addr} (h : Wr (some q) w w') : Gr2 w q A w' A := ⟨h.os, h.tape, h.output, h.size, fun k hk hn _ => h.block k hk (by rw [hq]; intro e; cases e; exact hn rfl), .inl rfl⟩
theorem Gr2.bel {w0 w w' : World} {q : Addr} {A A' : Option Addr} {ws m c : Nat} {xs : List Value} (h : Gr2 w q A w' A') (hx : Ext w0 w) (hq : w0.heap.size ≤ q.block) (hA : Own ws 3 1 w A m c xs) (hw : w0.heap.size ≤ ws) : Ext w0 w' :=
 hx.then ⟨h.os, h.tape, h.output, h.size, fun k hk => h.block k (by have := hx.size; omega) (by omega) (fun e => by
  have := own_blk hA k e.symm
  omega)⟩
theorem own_keep {B : Nat} {e : TypeId} {k : Nat} {w w' : World} {A : Option Addr} {m c : Nat} {xs : List Value} (h : Own B e k w A m c xs) (hk : ∀ g, blk A = some g → w'.heap[g]? = w.heap[g]?) : Own B e k w' A m c xs := by
 refine ⟨h.1, ?_⟩
 rcases h.2 with h1 | ⟨g, cap, cur, h1, h2, h3, h4⟩
 ·exact .inl h1
 ·refine .inr ⟨g, cap, cur, h1, h2, ?_, h4⟩
  simp only [Value.slice.injEq] at h1
  rw [hk g (by rw [h1.1]; rfl)]
  exact h3
theorem Gr2.own {w w' : World} {q : Addr} {A A' X : Option Addr} (h : Gr2 w q A w' A') {B k m c : Nat} {e : TypeId} {xs : List Value} (hx : Own B e k w X m c xs) (hq : blk X ≠ some q.block) (ha : Apart X A) : Own B e k w' X m c xs :=
 own_keep hx fun g hg => h.block g (own_blk hx g hg).2 (fun e => hq (by rw [hg, e])) (fun e => by
  rcases ha with rfl | ha
  ·simp [Eng.blk, Value.ownBlock] at hg
  ·exact ha (by rw [hg]; exact e))
structure KB (w0s ws : Nat) (q : Addr) (bm : Nat) : Prop where
 hq : w0s ≤ q.block ∧ q.block < ws
 eq : blk (some q) = some q.block
 m : w0s ≤ bm ∧ bm < ws
 qm : bm ≠ q.block
 le : w0s ≤ ws
structure KC (w0s ws : Nat) (w : World) (q : Addr) (bm : Nat) (f : List (ByteArray × Value)) (tys acc : List Int) (TA A : Option Addr) (tn tc na c : Nat) : Prop where
 box : Box w0s 185 3 w q [.slice TA tn tc, .map (some bm), .slice A na c]
 map : IMap w0s w bm f
 rT : Own ws 3 1 w TA tn tc (tys.map (.int .i64))
 rA : Own ws 3 1 w A na c (acc.map (.int .i64))
 aTA : Apart TA A ∧ Apart A TA
 hs : ws ≤ w.heap.size
section
variable {w0s ws : Nat} {w w' : World} {q : Addr} {bm : Nat} {f : List (ByteArray × Value)} {tys acc : List Int} {TA A : Option Addr} {tn tc na c : Nat}
theorem KC.len (h : KC w0s ws w q bm f tys acc TA A tn tc na c) : tys.length = tn ∧ acc.length = na := by
 have h1 := h.rT.len
 have h2 := h.rA.len
 rw [List.length_map] at h1 h2
 omega
theorem KC.ext (h : KC w0s ws w q bm f tys acc TA A tn tc na c) (hx : Ext w w') : KC w0s ws w' q bm f tys acc TA A tn tc na c :=
 ⟨h.box.bel hx, h.map.bel hx, h.rT.bel hx, h.rA.bel hx, h.aTA, n2_ h.hs hx.size⟩
theorem KC.low (hb : KB w0s ws q bm) (h : KC w0s ws w q bm f tys acc TA A tn tc na c) : (Apart A (some q) ∧ Apart (some q) A) ∧ blk A ≠ some bm ∧ blk TA ≠ some q.block := by
 refine ⟨own_low h.rA hb.hq.2 hb.eq, fun e => ?_, fun e => ?_⟩
 ·have := (own_blk h.rA _ e).1; have := hb.m; omega
 ·have := (own_blk h.rT _ e).1; have := hb.hq; omega
theorem put_g (hb : KB w0s ws q bm) (h : KC w0s ws w q bm f tys acc TA A tn tc na c) (hna : na ≤ 4000) (ty : Int) :
  GC Tryz.prog 244 [.pointer (some q), .int .i64 ty] w fun v w' => v = .int .i64 ty ∧ ∃ A' c', Gr2 w q A w' A' ∧ KC w0s ws w' q bm f tys (acc ++ [ty]) TA A' tn tc (na + 1) c' := by
 refine GC.intro (cs := []) Tryz.func244 (by kernel_rfl) fun E R hE hr hR => ?_
 have hlow := h.low hb
 conv => cbv
 refine st_nil hE ?_
 conv => cbv
 refine st_fld hE fCk2 fun p hp => ?_
 conv => cbv
 refine st_load hE cInts (by rw [hp]; exact h.box.at 2 _ rfl) ?_
 conv => cbv
 refine st_one hr tInts rfl rfl fun A1 w1 hx1 hc1 => ?_
 have h1 := h.ext hx1
 conv => cbv
 refine st_appsG hr tInts rfl h1.rA hc1 rfl (by simp [Value.oneCell']) h1.hs (by omega) (by omega) fun A2 c2 m2 w2 hm2 hw2 ho2 hk2 => ?_
 subst hm2
 have hg : Gro w1 A w2 A2 := Gro.app (Ext.refl _) hw2 hk2
 have hg2 := (ext_gr2 hx1 q A).trans (Gr2.of_gro hg)
 conv => cbv
 refine st_nil hE ?_
 conv => cbv
 refine st_fld hE fCk2 fun p2 hp2 => ?_
 conv => cbv
 refine st_put hr zInts2 (h1.box.wr hw2 hlow.1.2) hp2 (by simp) rfl fun w3 hw3 hb3 => ?_
 simp only [b4_, b5_] at hb3
 have hg3 := hg2.trans (Gr2.of_wr hb.eq (A := A2) hw3)
 conv => cbv
 rw [hR]
 have ap2 := gro_apart (B := 0) (m := 0) (c := 0) (xs := []) h1.rT h1.aTA.symm hg ho2
 refine ⟨rfl, A2, c2, hg3, hb3, (h1.map.wr hw2 hlow.2.1).wr hw3 (by rw [hb.eq]; intro e; cases e; exact hb.qm rfl), (h1.rT.wr hw2 h1.aTA.1).wr hw3 (own_low h1.rT hb.hq.2 hb.eq).1, ?_, ap2.symm, n2_ h1.hs (n2_ hw2.size hw3.size)⟩
 rw [List.map_append]
 exact ho2.wr hw3 (own_low ho2 hb.hq.2 hb.eq).1
section
variable {E : Sym} {K : Value → World → Prop} {d : Option Tmp} {ty : TypeId} {pos : String} {aft : Array Edge} {g : Option (Nat × Bool)} {bq : Bool}
theorem run_bMis (c a : Int) (w : World) : (Instr.build 103 #[(0, .int .i64 c), (1, .int .i64 a)]).run Tryz.prog w = .ok (.agg #[.int .i64 c, .int .i64 a]) w := by kernel_rfl
theorem st_bMis (hE : EngB bq Tryz.prog E) {c a : Int} {x y : Operand} (hk : K (.agg ⟨[.int .i64 c, .int .i64 a]⟩) w) : E.stop ⟨d, .build 103 ⟨[(0, x), (1, y)]⟩, ty, pos, aft, g⟩ [.int .i64 c, .int .i64 a] w K := by
 refine hE.det (v := .agg ⟨[.int .i64 c, .int .i64 a]⟩) (fun w1 _ ρ hρ => ?_) hk
 simp only [opnds, b2_, b3_, b1_, and_true] at hρ
 have := run_bMis c a w1
 simp [execOp, hρ, this]
end
def misV (c a : Int) : Value := .iface 103 (.agg ⟨[.int .i64 c, .int .i64 a]⟩)
theorem wrong_f (h : KC w0s ws w q bm f tys acc TA A tn tc na c) (co : Int) : FC Tryz.prog 245 [.pointer (some q), .int .i64 co] w fun v _ => v = misV co na := by
 refine FC.intro (cs := []) Tryz.func245 (by kernel_rfl) fun E R hE hr hR => ?_
 conv => cbv
 refine st_nil hE ?_
 conv => cbv
 refine st_fld hE fCk2 fun p hp => ?_
 conv => cbv
 refine st_load hE cInts (by rw [hp]; exact h.box.at 2 _ rfl) ?_
 conv => cbv
 refine st_len hE tInts fun x hx => ?_
 conv => cbv
 refine st_bMis hE ?_
 conv => cbv
 refine st_mk hE uMis ?_
 conv => cbv
 rw [hR]; exact ⟨Ext.refl _, by rw [hx]; rfl⟩
theorem top_f (h : KC w0s ws w q bm f tys acc TA A tn tc na c) (hna : na ≤ 4001) (co : Int) : FC Tryz.prog 161 [.pointer (some q), .int .i64 co] w fun v _ => v = misV co ((na : Int) - 1) := by
 refine FC.intro (cs := []) Tryz.func161 (by kernel_rfl) fun E R hE hr hR => ?_
 conv => cbv
 refine st_nil hE ?_
 conv => cbv
 refine st_fld hE fCk2 fun p hp => ?_
 conv => cbv
 refine st_load hE cInts (by rw [hp]; exact h.box.at 2 _ rfl) ?_
 conv => cbv
 refine st_len hE tInts fun x hx => ?_
 obtain ⟨y, hy⟩ : ∃ y : Int, y = (na : Int) - 1 := ⟨_, rfl⟩
 have ex : E.ar .sub .i64 x 1 = y := by rw [hE.ar, show arR .sub .i64 x 1 = IntKind.i64.wrap (x - 1) from rfl, wrap_in (by omega) (by omega)]; omega
 conv => cbv
 simp only [ex]
 refine st_bMis hE ?_
 conv => cbv
 refine st_mk hE uMis ?_
 conv => cbv
 rw [hR]; exact ⟨Ext.refl _, by rw [hy]; rfl⟩
end
def atV (i : Int) : Value := .iface 274 (.agg ⟨[.int .i64 i]⟩)
def ltV (i : Int) : Value := .iface 277 (.agg ⟨[.int .i64 i]⟩)
def lsL (v : Int → Value) : List ByteArray → Nat → List (ByteArray × Value)
 | [], _ => []
 | s :: l, i => (s, v i) :: lsL v l (i + 1)
def fN (names : List ByteArray) : List (ByteArray × Value) := lsL atV attrs 0 ++ lsL ltV names 0
theorem lsL_get (v : Int → Value) (s : ByteArray) : ∀ (l : List ByteArray) (i : Nat), mget (lsL v l i) s = (posF l s).map fun k => v ((i + k : Nat) : Int)
 | [], i => rfl
 | x :: l, i => by
  rw [lsL, mget, posF]
  by_cases h : x = s
  ·rw [if_pos h, if_pos h]; rfl
  ·rw [if_neg h, if_neg h, lsL_get v s l (i + 1)]
   cases posF l s with
   | none => rfl
   | some k => simp only [Option.map_some]; rw [show i + 1 + k = i + (k + 1) by omega]
theorem fN_get (names : List ByteArray) (s : ByteArray) : mget (fN names) s = match posF attrs s with | some k => some (atV k) | none => (posF names s).map fun k : Nat => ltV (k : Int) := by
 unfold fN
 rw [mget_append, lsL_get, lsL_get]
 cases posF attrs s with
 | none => simp only [Option.map_none, Nat.zero_add]
 | some k => simp
theorem lsL_app (v : Int → Value) : ∀ (l r : List ByteArray) (i : Nat), lsL v (l ++ r) i = lsL v l i ++ lsL v r (i + l.length)
 | [], r, i => by simp [lsL]
 | x :: l, r, i => by rw [List.cons_append, lsL, lsL, lsL_app v l r (i + 1), a3_, show i + 1 + l.length = i + (l.length + 1) by omega]; rfl
theorem fN_app (names : List ByteArray) (s : ByteArray) : fN (names ++ [s]) = fN names ++ [(s, ltV names.length)] := by
 unfold fN; rw [lsL_app, List.append_assoc, Nat.zero_add]; rfl
theorem tAr : Stc Tryz.prog 240 3 [.string ⟨#[]⟩, .int .i64 0, .nilFunc] := ⟨by kernel_rfl, by kernel_rfl⟩
theorem sAr : Slc Tryz.prog 241 240 (.agg ⟨[.string ⟨#[]⟩, .int .i64 0, .nilFunc]⟩) 3 32 := ⟨Tryz.underlying241, by kernel_rfl⟩
theorem fAr0 : Fld Tryz.prog 240 0 0 := ⟨by kernel_rfl⟩
theorem fAr1 : Fld Tryz.prog 240 1 1 := ⟨by kernel_rfl⟩
def arT : List (ByteArray × Int × FuncId) := [(⟨⟨[99, 108, 105, 101, 110, 116]⟩⟩, 3, 187), (⟨⟨[117, 115, 101, 114]⟩⟩, 3, 188), (⟨⟨[108, 101, 118, 101, 108]⟩⟩, 2, 189), (⟨⟨[110, 111, 119]⟩⟩, 2, 190), (⟨⟨[97, 115, 107, 101, 100]⟩⟩, 4, 191), (⟨⟨[97, 103, 114, 101, 101, 100]⟩⟩, 4, 192)]
def aC (x : ByteArray × Int × FuncId) : List Value := [.string x.1, .int .i64 x.2.1, .func (.func x.2.2) #[] #[]]
theorem aC_len (x : ByteArray × Int × FuncId) : (aC x).length = 3 := rfl
theorem arT_at {i : Nat} (hi : i < 6) : ∃ f, arT[i]? = some (attrs.getD i ⟨#[]⟩, attrF i, f) := by
 have : i = 0 ∨ i = 1 ∨ i = 2 ∨ i = 3 ∨ i = 4 ∨ i = 5 := by omega
 rcases this with rfl | rfl | rfl | rfl | rfl | rfl <;> exact ⟨_, rfl⟩
theorem attrs_at {i : Nat} (hi : i < 6) : attrs[i]? = some (attrs.getD i ⟨#[]⟩) := by
 rw [List.getD_eq_getElem?_getD, g2_ (show i < attrs.length from hi)]; rfl
section
variable {E : Sym} {w : World} {K : Value → World → Prop} {d : Option Tmp} {ty : TypeId} {pos : String} {aft : Array Edge} {g : Option (Nat × Bool)} {bq : Bool}
theorem run_bAr (s : ByteArray) (t : Int) (f : FuncId) (w : World) : (Instr.build 240 #[(0, .string s), (1, .int .i64 t), (2, .func (.func f) #[] #[])]).run Tryz.prog w = .ok (.agg #[.string s, .int .i64 t, .func (.func f) #[] #[]]) w := by kernel_rfl
theorem st_bAr (hE : EngB bq Tryz.prog E) {s : ByteArray} {t : Int} {f : FuncId} {x y z : Operand} (hk : K (.agg ⟨[.string s, .int .i64 t, .func (.func f) #[] #[]]⟩) w) : E.stop ⟨d, .build 240 ⟨[(0, x), (1, y), (2, z)]⟩, ty, pos, aft, g⟩ [.string s, .int .i64 t, .func (.func f) #[] #[]] w K := by
 refine hE.det (v := .agg ⟨[.string s, .int .i64 t, .func (.func f) #[] #[]]⟩) (fun w1 _ ρ hρ => ?_) hk
 simp only [opnds, b2_, b3_, b1_, and_true] at hρ
 have := run_bAr s t f w1
 simp [execOp, hρ, this]
theorem run_bCk (m : Nat) (w : World) : (Instr.build 185 #[(1, .map (some m))]).run Tryz.prog w = .ok (.agg #[.slice none 0 0, .map (some m), .slice none 0 0]) w := by kernel_rfl
theorem st_bCk (hE : EngB bq Tryz.prog E) {m : Nat} {x : Operand} (hk : K (.agg ⟨[.slice none 0 0, .map (some m), .slice none 0 0]⟩) w) : E.stop ⟨d, .build 185 ⟨[(1, x)]⟩, ty, pos, aft, g⟩ [.map (some m)] w K := by
 refine hE.det (v := .agg ⟨[.slice none 0 0, .map (some m), .slice none 0 0]⟩) (fun w1 _ ρ hρ => ?_) hk
 simp only [opnds, b2_, b3_, b1_, and_true] at hρ
 have := run_bCk m w1
 simp [execOp, hρ, this]
end
theorem attributes_f (w : World) : FC Tryz.prog 132 [] w fun v w' => ∃ a, v = .slice (some a) 6 6 ∧ Own w.heap.size 240 3 w' (some a) 6 6 (arT.flatMap aC) := by
 refine FC.intro (cs := []) Tryz.func132 (by kernel_rfl) fun E R hE hr hR => ?_
 conv => cbv
 iterate 6 (refine st_bAr hE ?_; (conv => cbv))
 refine st_litsK hr sAr rfl (by omega) (vs := arT.map fun l => .agg ⟨aC l⟩) (m := 6) rfl (by omega) (by omega) rfl (by simp [arT, aC, Value.cells]) (cs := arT.flatMap aC) rfl fun A w1 hx ho => ?_
 have ho := ho _ (n1_ _)
 obtain ⟨g, hg, _⟩ := ho.addr (by omega)
 conv => cbv
 rw [hR]
 refine ⟨hx, ⟨g, 0, none⟩, by rw [hg]; rfl, by rw [← hg]; exact ho⟩
theorem newChecker_f (w : World) : FC Tryz.prog 104 [] w fun v w' => ∃ q bm ws, v = .pointer (some q) ∧ KB w.heap.size ws q bm ∧ KC w.heap.size ws w' q bm (fN []) [] [] none none 0 0 0 0 := by
 refine FC.intro (cs := []) Tryz.func104 (by kernel_rfl) fun E R hE hr hR => ?_
 conv => cbv
 refine st_immk hr fun bm w1 hbm hx1 hm0 => ?_
 have hm := hm0 _ (n1_ _)
 have hmh := hm.hi
 clear hm0
 conv => cbv
 refine st_bCk hE ?_
 conv => cbv
 refine st_box hr fun q w2 hx2 hb0 => ?_
 have hb := hb0 _ (n1_ _)
 have fq := bx_form hb
 replace hb := hb.mono hx1.size
 clear hb0
 have hKB : KB w.heap.size w2.heap.size q bm := ⟨⟨by have := hx1.size; omega, fq.2.1⟩, fq.2.2, ⟨by omega, by have := hx2.size; omega⟩, by omega, by have := hx1.size; have := hx2.size; omega⟩
 replace hm := hm.bel hx2
 have hx := hx1.trans hx2
 conv => cbv
 refine st_f hr (attributes_f w2) fun v w3 hx3 ⟨a, ev, hA⟩ => ?_
 subst ev
 replace hm := hm.bel hx3
 replace hb := hb.bel hx3
 replace hx := hx.trans hx3
 have hs3 := hx3.size
 conv => cbv
 refine st_len hE sAr fun x hx' => ?_
 conv => cbv
 have fa := bx_form hA
 have ca : blk (some a) ≠ some bm := by rw [fa.2.2]; intro e; cases e; have := hx2.size; have := hKB.m; omega
 refine loop_rule hr (fun (s : Nat × Int) w' => s.1 ≤ 6 ∧ s.2 = (s.1 : Int) ∧ Ext w w' ∧ w2.heap.size ≤ w'.heap.size ∧ Own w2.heap.size 240 3 w' (some a) 6 6 (arT.flatMap aC) ∧ IMap w.heap.size w' bm (lsL atV (attrs.take s.1) 0) ∧ Box w.heap.size 185 3 w' q [.slice none 0 0, .map (some bm), .slice none 0 0]) (fun s => [(1, .pointer (some q)), (7, .slice (some a) 6 6), (8, .int .i64 x), (9, .int .i64 s.2)]) (fun s => 6 - s.1) (0, 0)
  (by simp [Fits, lk]) ⟨by simp, by simp, hx, hs3, hA, by simpa [lsL] using hm, hb⟩ ?_
 clear hx hs3 hA hm hb
 rintro I hI ⟨i, ii⟩ w' ⟨hi, hii, hx, hs, hA, hm, hb⟩
 simp only at hi hii hm
 obtain ⟨ij, hij⟩ : ∃ z, z = ii + 1 := ⟨_, rfl⟩
 conv => cbv
 refine br (fun g => ?_) (fun g => ?_)
 ·have g : i < 6 := by
   have : ii < x := by simpa [hE.cmp, cmpR] using g
   omega
  have ei : E.ar .add .i64 ii 1 = ij := by rw [hE.ar, hij]; exact wrap_in (by omega) (by omega)
  have hin : ii.toNat = i := by omega
  obtain ⟨f, hf⟩ := arT_at g
  obtain ⟨sn, hsn⟩ : ∃ s, s = attrs.getD i ⟨#[]⟩ := ⟨_, rfl⟩
  have hat := attrs_at g
  rw [← hsn] at hf hat
  obtain ⟨a', ha', hcell⟩ := fl_at aC_len hA.cells (by omega) hf
  cases ha'
  obtain ⟨at1, hat1⟩ : ∃ t, t = attrF i := ⟨_, rfl⟩
  rw [← hat1] at hcell
  conv => cbv
  refine st_idx hE sAr rfl (by omega) (by omega) fun p hp => ?_
  rw [hin] at hp
  conv => cbv
  refine st_loadS hE tAr (vs := [.string sn, .int .i64 at1, .func (.func f) #[] #[]]) rfl (by rw [hp]; exact hcell) ?_
  conv => cbv
  refine st_alloc hr tAr rfl fun q3 w4 hx4 hq0 => ?_
  conv => cbv
  refine st_putS hr (by kernel_rfl) (hq0 _ (n1_ _)) (add_zero _).symm (by simp) (by simp [Value.oneCell']) fun w5 hw5 hq3 => ?_
  simp only [a1_, a2_, a3_, a4_, a5_, a6_, a7_] at hq3
  have hxy := hx4.then (hw5.bel (hq0 _ (n1_ _)) hx4.size)
  clear hq0 hw5 hx4
  conv => cbv
  refine draw_t [0, 1, 2, 3, 4, 5, 6, 7, 8] [(9, false)] hr fol (by kernel_rfl) fun E' hE' w6 hs6 S hS => ?_
  have hx6 := hxy.trans hs6.ext
  replace hm := hm.bel hx6
  replace hb := hb.bel hx6
  replace hA := hA.bel hx6
  replace hx := hx.trans hx6
  replace hs := n2_ hs hx6.size
  replace hq3 := hq3.bel hs6.ext
  conv => cbv
  refine st_nil hE' ?_
  conv => cbv
  refine st_fld hE' fCk1 fun p1 hp1 => ?_
  conv => cbv
  refine st_load hE' cMp (by rw [hp1]; exact hb.at 1 _ rfl) ?_
  conv => cbv
  refine st_fld hE' fAr0 fun p2 hp2 => ?_
  conv => cbv
  refine st_load hE' cStr (by rw [hp2]; exact hq3.at 0 _ rfl) ?_
  conv => cbv
  refine st_bAtt hE' ?_
  conv => cbv
  refine st_mk hE' uAtT ?_
  conv => cbv
  refine st_imput hr uMp uStr hm ?_ fun w7 hw7 hm7 => ?_
  ·rw [lsL_get, posF_none]
   ·rfl
   ·have : ∀ j, j < 6 → attrs.getD j ⟨#[]⟩ ∉ attrs.take j := by decide +kernel
    rw [hsn]; exact this i g
  conv => cbv
  simp only [ei]
  have hqm := hKB.qm
  refine ⟨(i + 1, ij), by simp [Fits, lk], hI _ _ ⟨by simp only; omega, by simp only; omega, hx.then ⟨hw7.os, hw7.tape, hw7.output, hw7.size, fun k hk => hw7.block k (by have := hx.size; omega) (by rw [mb_blk]; intro e; cases e; have := hKB.m; omega)⟩, n2_ hs hw7.size, hA.wr hw7 (.inr (by rw [mb_blk]; exact ca)), ?_, hb.wr hw7 (.inr (by rw [mb_blk, hKB.eq]; intro e; cases e; exact hqm rfl))⟩, by simp only; omega⟩
  simp only
  rw [g4_, hat, lsL_app]
  have : (attrs.take i).length = i := by rw [List.length_take]; have : attrs.length = 6 := rfl; omega
  rw [this, Nat.zero_add, hii] at *
  exact hm7
 ·have g : i = 6 := by
   have : ¬ ii < x := by simpa [hE.cmp, cmpR] using g
   omega
  subst g
  rw [g3_ (by decide)] at hm
  conv => cbv
  rw [hR]
  exact ⟨hx, q, bm, w2.heap.size, rfl, hKB, hb, by unfold fN; simpa [lsL] using hm, Own.nil, Own.nil, ⟨.inl rfl, .inl rfl⟩, hs⟩
end Go.Proofs.YtgnjkdkedjljjaaGreatDoor
namespace Go.Eng
set_option linter.unusedVariables false
def wreal (S : World → Prop) (P : Program) : Sym where
 ar := arR
 cmp := cmpR
 scmp := scmpR
 nat := Int.ofNat
 len := ByteArray.size
 stop o vals w K := ∃ v, (∀ w1, S w1 → ∀ ρ : Operand → Value, (opnds o.op).map ρ = vals → (execOp ρ o).run P w1 = .ok (.value v) w1) ∧ K v w
 loop _ _ _ _ := False
 draw _ _ _ _ _ := False
 cut _ _ _ _ _ := False
 cell _ _ _ _ := False
structure EngW (S : World → Prop) (P : Program) (E : Sym) : Prop where
 det : ∀ {o vals w v K}, (∀ w1, S w1 → ∀ ρ : Operand → Value, (opnds o.op).map ρ = vals → (execOp ρ o).run P w1 = .ok (.value v) w1) → K v w → E.stop o vals w K
section
variable {P : Program} {Pn : List PanicEntry → World → Prop} {n : Nat}
theorem ePh1_soundW {S : World → Prop} {w : World} {all : List Oper} (hs : Region.noSelect all.toArray = true) (hd : ∀ o ∈ all, ∀ t, o.dst = some t → t < n) {K : Exit → Fr → World → Prop} {w0 : World} (hS : S w0) (l2 : List (Nat × Bool)) (K1 : Fr → World → Prop) : ∀ (l : List Nat) (listed : Array Bool) (F : Fr) (a : Act), Kn n F a → planB1 all.toArray l l2 listed = true → ePh1 (wreal S P) all l F w K1 →
  (∀ F a listed, Kn n F a → planB2 all.toArray l2 listed = true → K1 F w → wpAnyH P .any all.toArray (QK Pn n K) S l2.length listed a w0) → wpAnyH P .any all.toArray (QK Pn n K) S (l.length + l2.length) listed a w0
 | [], listed, F, a, hk, hB, h, h2 => by simpa using h2 F a listed hk hB h
 | k :: l, listed, F, a, hk, hB, h, h2 => by
  simp only [planB1, Bool.and_eq_true] at hB
  obtain ⟨⟨hf, hr⟩, hB⟩ := hB
  simp only [ePh1] at h
  split at h
  ·exact h.elim
  ·rename_i o ho
   obtain ⟨v, F', hy, hk', h⟩ := step_yields (P := P) (n := n) (S := S) (E' := wreal S P) (fun _ _ => rfl) (fun _ _ _ ⟨v, h1, h2⟩ => ⟨v, fun w1 hw1 => h1 w1 hw1, h2⟩) (hd o (m1_ ho)) hk h
   have := wpAnyH_take (by simpa using ho) hs hf hr panic_put hy hS (ePh1_soundW hs hd hS l2 K1 l _ F' _ hk' hB h h2)
   simpa [Nat.add_right_comm] using this
section
variable {S : World → Prop} {E : Sym} {w : World} {K : Value → World → Prop} {d : Option Tmp} {ty : TypeId} {pos : String} {aft : Array Edge} {g : Option (Nat × Bool)}
theorem sw_fld (hE : EngW S P E) {t : TypeId} {i off : Nat} (ht : Fld P t i off) {a : Addr} {x : Operand} (hk : ∀ p, p = a.add off → K (.pointer (some p)) w) : E.stop ⟨d, .fieldAddr t x i, ty, pos, aft, g⟩ [.pointer (some a)] w K := by
 obtain ⟨dd, h1, h2⟩ := Option.bind_eq_some_iff.1 ht.e
 split at h2
 ·rename_i fs
  obtain ⟨f, h3, h4⟩ := Option.bind_eq_some_iff.1 h2
  obtain ⟨j, h5, h6⟩ := Option.map_eq_some_iff.1 h4
  simp only [Prod.mk.injEq] at h6
  obtain ⟨rfl, h7⟩ := h6
  have h7 : ¬ j.size = 0 := by intro e; rw [e] at h7; simp at h7
  refine hE.det (v := .pointer (some (a.add f.offset))) (fun w1 _ ρ hρ => ?_) (hk _ rfl)
  simp only [opnds, b2_, b3_, b1_, and_true] at hρ
  simp [execOp, hρ, Instr.fieldAt, underlying, h1, h3, Instr.sureAddr, fieldPlace, sizeOf, typeInfo, h5, h7]
 ·cases h2
theorem sw_load (hE : EngW S P E) {t : TypeId} (ht : Cel P t) {p : Addr} {v : Value} {x : Operand} (hc : ∀ w1, S w1 → w1.cell? p = some v) (hk : K v w) : E.stop ⟨d, .load t x, ty, pos, aft, g⟩ [.pointer (some p)] w K := by
 obtain ⟨d0, hu, h1, h2⟩ := ht.a
 refine hE.det (v := v) (fun w1 hs ρ hρ => ?_) hk
 simp only [opnds, b2_, b3_, b1_, and_true] at hρ
 have hc' : w1.cell? p = some v := hc w1 hs
 have : (isAgg t).run P w1 = .ok false w1 := by
  simp only [isAgg, underlying, Sem.run_bind, run_program, Result.andThen_ok, hu, Sem.run_pure]
 simp [execOp, hρ, Instr.loadAt, Instr.sureAddr, loadVar, this, hc']
theorem sw_idx (hE : EngW S P E) {t e : TypeId} {z : Value} {k b : Nat} (ht : Slc P t e z k b) {a : Addr} {A : Option Addr} {m c : Nat} {ik : IntKind} {i : Int} {x y : Operand}
  (hA : A = some a) (h0 : 0 ≤ i) (h1 : i < m) (hk : ∀ p, p = a.add (i.toNat * k) → K (.pointer (some p)) w) : E.stop ⟨d, .indexAddr t x y, ty, pos, aft, g⟩ [.slice A m c, .int ik i] w K := by
 obtain ⟨i0, hi, _, hs, _⟩ := ht.info
 refine hE.det (v := .pointer (some (a.add (i.toNat * k)))) (fun w1 _ ρ hρ => ?_) (hk _ rfl)
 simp only [opnds, b2_, b3_, b1_, and_true] at hρ
 subst hA
 simp [execOp, hρ.1, hρ.2, Instr.indexAt, asIntOf, underlying, ht.u, h0, h1, sizeOf, typeInfo, hi, hs]
end
end
set_option linter.unusedSimpArgs false
section
variable {P : Program} {Pn : List PanicEntry → World → Prop} {n : Nat}
theorem draw_s (S : World → Prop) (l1 : List Nat) (l2 : List (Nat × Bool)) {E : Sym} (hE : E = real P Pn n) {id : Nat} {ops : Array Oper} {F : Fr} {w : World} {K : Exit → Fr → World → Prop} (hm : P.follows .mixedOrders = true) (hB : planB ops l1 l2 = true) (hS : ∀ w0, Same w w0 → S w0)
  (h : ∀ E', EngW S P E' → ∀ w0, Same w w0 → ePh1 E' ops.toList l1 F w0 (fun F' w' => ePh2 E S ops.toList l2 F' w' (K .normal))) : E.draw id ops F w K := by
 subst hE
 intro hd a hk
 simp only [planB, Bool.and_eq_true, Nat.beq_eq] at hB
 obtain ⟨⟨hs, hl⟩, hB⟩ := hB
 have hs' : Region.noSelect ops.toList.toArray = true := by simpa using hs
 have h0 : S { w with drawn := w.drawn + 1 } := hS _ (Same.drew w)
 refine wp_region_held (S := S) hm ?_
 have := ePh1_soundW (Pn := Pn) (K := K) (n := n) (S := S) (w := { w with drawn := w.drawn + 1 }) hs' (okDst_ops hd) h0 l2 _ l1 (Array.replicate ops.size false) F a hk (by simpa using hB) (h (wreal S P) ⟨fun {_ _ _ v _} h hk => ⟨v, h, hk⟩⟩ _ (Same.drew w))
  (fun F a listed hk hB h => ePh2_sound hs' (okDst_ops hd) l2 listed F a _ h0 hk hB h)
 rw [hl] at this
 simpa using this
variable {S : World → Prop} {E : Sym} {w : World} {K : Value → World → Prop} {d : Option Tmp} {ty : TypeId} {pos : String} {aft : Array Edge} {g : Option (Nat × Bool)}
theorem sw_loadS (hE : EngW S P E) {t : TypeId} {k : Nat} {zs vs : List Value} (ht : Stc P t k zs) (hl : vs.length = k) {p : Addr} {x : Operand} (hc : ∀ w1, S w1 → ∀ j v, vs[j]? = some v → w1.cell? (p.add j) = some v) (hk : K (.agg ⟨vs⟩) w) : E.stop ⟨d, .load t x, ty, pos, aft, g⟩ [.pointer (some p)] w K := by
 refine hE.det (v := .agg ⟨vs⟩) (fun w1 hs ρ hρ => ?_) hk
 simp only [opnds, b2_, b3_, b1_, and_true] at hρ
 have := run_loadVar_agg ht hl (p := p) (w := w1) fun j v hv => hc w1 hs j v hv
 simp [execOp, hρ, Instr.loadAt, Instr.sureAddr, this]
theorem sw_mk (hE : EngW S P E) {t : TypeId} (ht : ∃ u, P.underlying t = some u ∧ ∀ ms, u ≠ .interface ms) {x : Operand} {v : Value} (hk : K (.iface t v) w) : E.stop ⟨d, .makeInterface t x, ty, pos, aft, g⟩ [v] w K := by
 obtain ⟨u, hu, hn⟩ := ht
 refine hE.det (v := .iface t v) (fun w1 _ ρ hρ => ?_) hk
 simp only [opnds, b2_, b3_, b1_, and_true] at hρ
 cases u <;> simp [execOp, hρ, Instr.makeInterface, run_underlying hu] <;> exact absurd rfl (hn _)
end
end Go.Eng
namespace Go.Proofs.YtgnjkdkedjljjaaGreatDoor
open Go.Eng
set_option linter.unusedVariables false
set_option linter.unusedSimpArgs false
theorem tCoT : Stc Tryz.prog 318 5 [.int .i64 0, .int .i64 0, .string ⟨#[]⟩, .slice none 0 0, .int .i64 0] := ⟨by kernel_rfl, by kernel_rfl⟩
theorem taCoCo (k n at_ : Int) (tx : ByteArray) (A : Option Addr) (m c : Nat) (w : World) : (Instr.typeAssert (.iface 318 (.agg ⟨[.int .i64 k, .int .i64 n, .string tx, .slice A m c, .int .i64 at_]⟩)) 178 318 true).run Tryz.prog w = .ok (.tuple ⟨[.agg ⟨[.int .i64 k, .int .i64 n, .string tx, .slice A m c, .int .i64 at_]⟩, .bool true]⟩) w := by kernel_rfl
theorem tNaT : Stc Tryz.prog 353 2 [.string ⟨#[]⟩, .int .i64 0] := ⟨by kernel_rfl, by kernel_rfl⟩
theorem taNaCo (tx : ByteArray) (at_ : Int) (w : World) : (Instr.typeAssert (.iface 353 (.agg ⟨[.string tx, .int .i64 at_]⟩)) 178 318 true).run Tryz.prog w = .ok (.tuple ⟨[.agg ⟨[.int .i64 0, .int .i64 0, .string ⟨#[]⟩, .slice none 0 0, .int .i64 0]⟩, .bool false]⟩) w := by kernel_rfl
theorem taNaNa (tx : ByteArray) (at_ : Int) (w : World) : (Instr.typeAssert (.iface 353 (.agg ⟨[.string tx, .int .i64 at_]⟩)) 178 353 true).run Tryz.prog w = .ok (.tuple ⟨[.agg ⟨[.string tx, .int .i64 at_]⟩, .bool true]⟩) w := by kernel_rfl
theorem tAtT : Stc Tryz.prog 274 1 [.int .i64 0] := ⟨by kernel_rfl, by kernel_rfl⟩
theorem taAtCo (n : Int) (w : World) : (Instr.typeAssert (.iface 274 (.agg ⟨[.int .i64 n]⟩)) 178 318 true).run Tryz.prog w = .ok (.tuple ⟨[.agg ⟨[.int .i64 0, .int .i64 0, .string ⟨#[]⟩, .slice none 0 0, .int .i64 0]⟩, .bool false]⟩) w := by kernel_rfl
theorem taAtNa (n : Int) (w : World) : (Instr.typeAssert (.iface 274 (.agg ⟨[.int .i64 n]⟩)) 178 353 true).run Tryz.prog w = .ok (.tuple ⟨[.agg ⟨[.string ⟨#[]⟩, .int .i64 0]⟩, .bool false]⟩) w := by kernel_rfl
theorem taAtAt (n : Int) (w : World) : (Instr.typeAssert (.iface 274 (.agg ⟨[.int .i64 n]⟩)) 178 274 true).run Tryz.prog w = .ok (.tuple ⟨[.agg ⟨[.int .i64 n]⟩, .bool true]⟩) w := by kernel_rfl
theorem tLtT : Stc Tryz.prog 277 1 [.int .i64 0] := ⟨by kernel_rfl, by kernel_rfl⟩
theorem taLtCo (n : Int) (w : World) : (Instr.typeAssert (.iface 277 (.agg ⟨[.int .i64 n]⟩)) 178 318 true).run Tryz.prog w = .ok (.tuple ⟨[.agg ⟨[.int .i64 0, .int .i64 0, .string ⟨#[]⟩, .slice none 0 0, .int .i64 0]⟩, .bool false]⟩) w := by kernel_rfl
theorem taLtNa (n : Int) (w : World) : (Instr.typeAssert (.iface 277 (.agg ⟨[.int .i64 n]⟩)) 178 353 true).run Tryz.prog w = .ok (.tuple ⟨[.agg ⟨[.string ⟨#[]⟩, .int .i64 0]⟩, .bool false]⟩) w := by kernel_rfl
theorem taLtAt (n : Int) (w : World) : (Instr.typeAssert (.iface 277 (.agg ⟨[.int .i64 n]⟩)) 178 274 true).run Tryz.prog w = .ok (.tuple ⟨[.agg ⟨[.int .i64 0]⟩, .bool false]⟩) w := by kernel_rfl
theorem taLtLt (n : Int) (w : World) : (Instr.typeAssert (.iface 277 (.agg ⟨[.int .i64 n]⟩)) 178 277 true).run Tryz.prog w = .ok (.tuple ⟨[.agg ⟨[.int .i64 n]⟩, .bool true]⟩) w := by kernel_rfl
theorem tOpT : Stc Tryz.prog 320 3 [.int .i64 0, .slice none 0 0, .int .i64 0] := ⟨by kernel_rfl, by kernel_rfl⟩
theorem taOpCo (o at_ : Int) (A : Option Addr) (m c : Nat) (w : World) : (Instr.typeAssert (.iface 320 (.agg ⟨[.int .i64 o, .slice A m c, .int .i64 at_]⟩)) 178 318 true).run Tryz.prog w = .ok (.tuple ⟨[.agg ⟨[.int .i64 0, .int .i64 0, .string ⟨#[]⟩, .slice none 0 0, .int .i64 0]⟩, .bool false]⟩) w := by kernel_rfl
theorem taOpNa (o at_ : Int) (A : Option Addr) (m c : Nat) (w : World) : (Instr.typeAssert (.iface 320 (.agg ⟨[.int .i64 o, .slice A m c, .int .i64 at_]⟩)) 178 353 true).run Tryz.prog w = .ok (.tuple ⟨[.agg ⟨[.string ⟨#[]⟩, .int .i64 0]⟩, .bool false]⟩) w := by kernel_rfl
theorem taOpAt (o at_ : Int) (A : Option Addr) (m c : Nat) (w : World) : (Instr.typeAssert (.iface 320 (.agg ⟨[.int .i64 o, .slice A m c, .int .i64 at_]⟩)) 178 274 true).run Tryz.prog w = .ok (.tuple ⟨[.agg ⟨[.int .i64 0]⟩, .bool false]⟩) w := by kernel_rfl
theorem taOpLt (o at_ : Int) (A : Option Addr) (m c : Nat) (w : World) : (Instr.typeAssert (.iface 320 (.agg ⟨[.int .i64 o, .slice A m c, .int .i64 at_]⟩)) 178 277 true).run Tryz.prog w = .ok (.tuple ⟨[.agg ⟨[.int .i64 0]⟩, .bool false]⟩) w := by kernel_rfl
theorem taOpOp (o at_ : Int) (A : Option Addr) (m c : Nat) (w : World) : (Instr.typeAssert (.iface 320 (.agg ⟨[.int .i64 o, .slice A m c, .int .i64 at_]⟩)) 178 320 true).run Tryz.prog w = .ok (.tuple ⟨[.agg ⟨[.int .i64 o, .slice A m c, .int .i64 at_]⟩, .bool true]⟩) w := by kernel_rfl
theorem fAtT0 : Fld Tryz.prog 274 0 0 := ⟨by kernel_rfl⟩
theorem fLtT0 : Fld Tryz.prog 277 0 0 := ⟨by kernel_rfl⟩
theorem fNaT0 : Fld Tryz.prog 353 0 0 := ⟨by kernel_rfl⟩
theorem fCoT0 : Fld Tryz.prog 318 0 0 := ⟨by kernel_rfl⟩
theorem fVal0 : Fld Tryz.prog 218 0 0 := ⟨by kernel_rfl⟩
theorem sw_nil {P : Program} {S : World → Prop} {E : Sym} {w : World} {K : Value → World → Prop} {d : Option Tmp} {ty : TypeId} {pos : String} {aft : Array Edge} {g : Option (Nat × Bool)} (hE : EngW S P E) {a : Addr} {x : Operand} (hk : K (.pointer (some a)) w) : E.stop ⟨d, .nilCheck x, ty, pos, aft, g⟩ [.pointer (some a)] w K := by
 refine hE.det (v := .pointer (some a)) (fun w1 _ ρ hρ => ?_) hk
 simp only [opnds, b2_, b3_, b1_, and_true] at hρ
 simp [execOp, hρ]
def DN (D : Nat → Prop) (w w' : World) (A' : Option Addr) (b : Nat) : Prop := D b ∨ (w.heap.size ≤ b ∧ b < w'.heap.size ∧ blk A' ≠ some b)
def CkR (w0s ws : Nat) (q : Addr) (bm : Nat) (names : List ByteArray) (tys : List Int) (TA : Option Addr) (tn tc : Nat) (w : World) (A : Option Addr) (D : Nat → Prop) (acc' : List Int) (code ty : Int) (t' : Tr) (r : Value) (w' : World) : Prop :=
 ∃ A' na' c' v' e, r = .tuple ⟨[v', .int .i64 ty, e]⟩ ∧ Gr2 w q A w' A' ∧ KC w0s ws w' q bm (fN names) tys acc' TA A' tn tc na' c' ∧ (code = 0 → e = .nilIface ∧ TreeV (DN D w w' A') w' t' v') ∧ (code ≠ 0 → e = misV code na' ∧ v' = .nilIface)
section
variable {w0s ws : Nat} {w : World} {q : Addr} {bm : Nat} {names : List ByteArray} {tys acc : List Int} {TA A : Option Addr} {tn tc na c : Nat}
theorem fresh_at (hb : KB w0s ws q bm) {f : List (ByteArray × Value)} (hK : KC w0s ws w q bm f tys acc TA A tn tc na c) {w2 : World} {x : Addr} {e : TypeId} {k : Nat} {xs : List Value} (hx : Box w.heap.size e k w2 x xs) : ∀ w1, (∃ A1, Gr2 w2 q A w1 A1) → ∀ j v, xs[j]? = some v → w1.cell? (x.add j) = some v := fun w1 ⟨A1, hg⟩ => by
 have fx := bx_form hx
 refine (hg.own hx (by rw [fx.2.2]; intro e; have := Option.some.inj e; have := hb.hq; have := hK.hs; omega) (.inr ?_)).at
 rw [fx.2.2]
 intro e
 have := (own_blk hK.rA _ e.symm).2
 omega
theorem check_att (hb : KB w0s ws q bm) (hK : KC w0s ws w q bm (fN names) tys acc TA A tn tc na c) (hna : na ≤ 4000) {n : Int} (hn : 0 ≤ n ∧ n < 6) (D : Nat → Prop) :
  GC Tryz.prog 160 [.pointer (some q), atV n] w (CkR w0s ws q bm names tys TA tn tc w A D (acc ++ [attrF n]) 0 (attrF n) (.att n)) := by
 refine GC.intro (cs := []) Tryz.func160 (by kernel_rfl) fun E R hE hr hR => ?_
 obtain ⟨k, hk⟩ : ∃ k : Nat, k = n.toNat := ⟨_, rfl⟩
 conv => cbv
 refine st_ta hE (taAtCo n) ?_
 conv => cbv
 refine st_ta hE (taAtNa n) ?_
 conv => cbv
 refine st_ta hE (taAtAt n) ?_
 conv => cbv
 refine st_alloc hr tAtT rfl fun q11 w1 hx1 hq0 => ?_
 conv => cbv
 refine st_putS hr (by kernel_rfl) (hq0 _ (n1_ _)) (add_zero _).symm (by simp) (by simp [Value.oneCell']) fun w2 hw2 hq11 => ?_
 simp only [a1_, a2_, a3_, a4_, a5_, a6_, a7_] at hq11
 have hx2 := hx1.then (hw2.bel (hq0 _ (n1_ _)) hx1.size)
 clear hq0 hw2 hx1
 have hst := fresh_at hb hK hq11
 conv => cbv
 refine draw_s (fun w1 => ∃ A1, Gr2 w2 q A w1 A1) [0, 1, 2, 4, 5] [(3, false), (6, false), (7, false), (8, false), (9, false), (10, true), (11, true), (12, true)] hr fol (by kernel_rfl) (fun w0 h => ⟨A, ext_gr2 h.ext _ _⟩) fun E' hE' w3 hs3 => ?_
 have g3 := ext_gr2 hs3.ext q A
 conv => cbv
 refine sw_loadS hE' tAtT rfl hst ?_
 conv => cbv
 refine sw_mk hE' uAtT ?_
 conv => cbv
 (refine sw_fld hE' fAtT0 fun p hp => ?_; (conv => cbv); refine sw_load hE' cInt (fun w1 hw1 => by rw [hp]; exact hst w1 hw1 _ _ rfl) ?_; (conv => cbv))
 refine st_f hr (attributes_f w3) fun v w4 hx4 ⟨a, ev, hA⟩ => ?_
 subst ev
 have g4 := g3.trans (ext_gr2 hx4 q A)
 refine ⟨⟨A, g4⟩, ?_⟩
 obtain ⟨f, hf⟩ := arT_at (i := k) (by omega)
 obtain ⟨a', ha', hcell⟩ := fl_at aC_len hA.cells (by omega) hf
 cases ha'
 obtain ⟨af, haf⟩ : ∃ af, af = attrF n := ⟨_, rfl⟩
 rw [show ((k : Nat) : Int) = n by omega, ← haf] at hcell
 conv => cbv
 refine st_idx hE sAr rfl (by omega) (by omega) fun p hp => ?_
 rw [← hk] at hp
 refine ⟨⟨A, g4⟩, ?_⟩
 conv => cbv
 refine st_fld hE fAr1 fun p2 hp2 => ?_
 refine ⟨⟨A, g4⟩, ?_⟩
 conv => cbv
 refine st_load hE cInt (by rw [hp2, hp]; exact hcell 1 _ rfl) ?_
 refine ⟨⟨A, g4⟩, ?_⟩
 have hK4 := ((hK.ext hx2).ext hs3.ext).ext hx4
 conv => cbv
 refine st_g hr (put_g hb hK4 hna af) fun u w5 ⟨ev, A', c', hg5, hK5⟩ => ?_
 subst ev
 refine ⟨⟨A', g4.trans hg5⟩, ?_⟩
 conv => cbv
 rw [hR, ← haf]
 refine ⟨A', na + 1, c', atV n, .nilIface, rfl, ((ext_gr2 hx2 q A).trans g4).trans hg5, hK5, fun _ => ⟨rfl, ?_⟩, fun q => absurd rfl q⟩
 simp only [TreeV]; rfl
theorem check_lt (hb : KB w0s ws q bm) (hK : KC w0s ws w q bm (fN names) tys acc TA A tn tc na c) (hna : na ≤ 4000) {n : Int} (hn : 0 ≤ n ∧ n < tys.length) (D : Nat → Prop) :
  GC Tryz.prog 160 [.pointer (some q), ltV n] w (CkR w0s ws q bm names tys TA tn tc w A D (acc ++ [tys.getD n.toNat 0]) 0 (tys.getD n.toNat 0) (.lt n)) := by
 refine GC.intro (cs := []) Tryz.func160 (by kernel_rfl) fun E R hE hr hR => ?_
 obtain ⟨k, hk⟩ : ∃ k : Nat, k = n.toNat := ⟨_, rfl⟩
 obtain ⟨hl1, _⟩ := hK.len
 obtain ⟨af, haf⟩ : ∃ af, af = tys.getD n.toNat 0 := ⟨_, rfl⟩
 rw [← haf] at hR
 conv => cbv
 refine st_ta hE (taLtCo n) ?_
 conv => cbv
 refine st_ta hE (taLtNa n) ?_
 conv => cbv
 refine st_ta hE (taLtAt n) ?_
 conv => cbv
 refine st_ta hE (taLtLt n) ?_
 conv => cbv
 refine st_alloc hr tLtT rfl fun q11 w1 hx1 hq0 => ?_
 conv => cbv
 refine st_putS hr (by kernel_rfl) (hq0 _ (n1_ _)) (add_zero _).symm (by simp) (by simp [Value.oneCell']) fun w2 hw2 hq11 => ?_
 simp only [a1_, a2_, a3_, a4_, a5_, a6_, a7_] at hq11
 have hx2 := hx1.then (hw2.bel (hq0 _ (n1_ _)) hx1.size)
 clear hq0 hw2 hx1
 have hst := fresh_at hb hK hq11
 conv => cbv
 refine draw_s (fun w1 => ∃ A1, Gr2 w2 q A w1 A1) [0, 1, 2, 3, 4, 7, 8] [(5, false), (6, false), (9, false), (10, false), (11, false), (12, true), (13, true), (14, true)] hr fol (by kernel_rfl) (fun w0 h => ⟨A, ext_gr2 h.ext _ _⟩) fun E' hE' w3 hs3 => ?_
 have g3 := ext_gr2 hs3.ext q A
 have hK3 := (hK.ext hx2).ext hs3.ext
 conv => cbv
 refine sw_loadS hE' tLtT rfl hst ?_
 conv => cbv
 refine sw_mk hE' uLtT ?_
 conv => cbv
 refine sw_nil hE' ?_
 conv => cbv
 (refine sw_fld hE' fLtT0 fun p hp => ?_; (conv => cbv); refine sw_load hE' cInt (fun w1 hw1 => by rw [hp]; exact hst w1 hw1 _ _ rfl) ?_; (conv => cbv))
 refine st_fld hE fCk0 fun p hp => ?_
 refine ⟨⟨A, g3⟩, ?_⟩
 conv => cbv
 refine st_load hE cInts (by rw [hp]; exact hK3.box.at 0 _ rfl) ?_
 refine ⟨⟨A, g3⟩, ?_⟩
 conv => cbv
 refine st_int hE tInts (Own.ints hK3.rT) (k := k) (by omega) (by omega) fun p2 u hu hp2 => ?_
 have hua : u = af := by rw [haf, ← hk, List.getD_eq_getElem?_getD, hu]; rfl
 subst hua
 refine ⟨⟨A, g3⟩, ?_⟩
 conv => cbv
 refine st_load hE cInt hp2 ?_
 refine ⟨⟨A, g3⟩, ?_⟩
 conv => cbv
 refine st_g hr (put_g hb hK3 hna u) fun z w5 ⟨ev, A', c', hg5, hK5⟩ => ?_
 subst ev
 refine ⟨⟨A', g3.trans hg5⟩, ?_⟩
 conv => cbv
 rw [hR]
 refine ⟨A', na + 1, c', ltV n, .nilIface, rfl, ((ext_gr2 hx2 q A).trans g3).trans hg5, hK5, fun _ => ⟨rfl, ?_⟩, fun q => absurd rfl q⟩
 simp only [TreeV]; rfl
theorem check_con (hb : KB w0s ws q bm) (hK : KC w0s ws w q bm (fN names) tys acc TA A tn tc na c) (hna : na ≤ 4000) {k n at_ : Int} {tx : ByteArray} {xs : List ByteArray} {v : Value} {D : Nat → Prop} (hv : TreeV D w (.con k n tx xs at_) v) (hD : ∀ b, D b → b < w.heap.size ∧ b ≠ q.block ∧ blk A ≠ some b) :
  GC Tryz.prog 160 [.pointer (some q), v] w (CkR w0s ws q bm names tys TA tn tc w A D (acc ++ [k]) 0 k (.con k n tx xs at_)) := by
 refine GC.intro (cs := []) Tryz.func160 (by kernel_rfl) fun E R hE hr hR => ?_
 have hv0 := hv
 simp only [TreeV] at hv
 obtain ⟨A0, m0, c0, rfl, _⟩ := hv
 conv => cbv
 refine st_ta hE (taCoCo k n at_ tx A0 m0 c0) ?_
 conv => cbv
 refine st_alloc hr tCoT rfl fun q11 w1 hx1 hq0 => ?_
 conv => cbv
 refine st_putS hr (by kernel_rfl) (hq0 _ (n1_ _)) (add_zero _).symm (by simp) (by simp [Value.oneCell']) fun w2 hw2 hq11 => ?_
 simp only [a1_, a2_, a3_, a4_, a5_, a6_, a7_] at hq11
 have hx2 := hx1.then (hw2.bel (hq0 _ (n1_ _)) hx1.size)
 clear hq0 hw2 hx1
 have hst := fresh_at hb hK hq11
 conv => cbv
 refine draw_s (fun w1 => ∃ A1, Gr2 w2 q A w1 A1) [0, 1, 2, 3, 4, 5] [(6, false), (7, true), (8, true), (9, true)] hr fol (by kernel_rfl) (fun w0 h => ⟨A, ext_gr2 h.ext _ _⟩) fun E' hE' w3 hs3 => ?_
 have g3 := ext_gr2 hs3.ext q A
 have hK3 := (hK.ext hx2).ext hs3.ext
 conv => cbv
 refine sw_loadS hE' tCoT rfl hst ?_
 conv => cbv
 refine sw_mk hE' uCoT ?_
 conv => cbv
 refine sw_fld hE' fCoT0 fun p hp => ?_
 conv => cbv
 refine sw_fld hE' fVal0 fun p2 hp2 => ?_
 conv => cbv
 refine sw_load hE' cInt (fun w1 hw1 => by rw [hp2, hp, add_add]; exact hst w1 hw1 _ _ rfl) ?_
 conv => cbv
 refine st_g hr (put_g hb hK3 hna k) fun z w5 ⟨ev, A', c', hg5, hK5⟩ => ?_
 subst ev
 refine ⟨⟨A', g3.trans hg5⟩, ?_⟩
 conv => cbv
 rw [hR]
 have hg := ((ext_gr2 hx2 q A).trans g3).trans hg5
 refine ⟨A', na + 1, c', _, .nilIface, rfl, hg, hK5, fun _ => ⟨rfl, ?_⟩, fun q => absurd rfl q⟩
 exact TreeV.keep (fun b hb => hg.block b (hD b hb).1 (hD b hb).2.1 (Ne.symm (hD b hb).2.2)) (fun b hb => .inl hb) _ _ hv0
theorem check_nam (hb : KB w0s ws q bm) (hK : KC w0s ws w q bm (fN names) tys acc TA A tn tc na c) (hnt : names.length = tys.length) (hna : na ≤ 4000) {at_ : Int} {tx : ByteArray} (D : Nat → Prop) :
  GC Tryz.prog 160 [.pointer (some q), .iface 353 (.agg ⟨[.string tx, .int .i64 at_]⟩)] w (CkR w0s ws q bm names tys TA tn tc w A D (chk names tys (.nam tx at_) acc).1 (chk names tys (.nam tx at_) acc).2.1 (chk names tys (.nam tx at_) acc).2.2 (resT names (.nam tx at_))) := by
 refine GC.intro (cs := []) Tryz.func160 (by kernel_rfl) fun E R hE hr hR => ?_
 obtain ⟨W, hW⟩ : ∃ W, W = chk names tys (.nam tx at_) acc := ⟨_, rfl⟩
 rw [← hW] at hR
 rw [chk, tyNam] at hW
 have hget := fN_get names tx
 conv => cbv
 refine st_ta hE (taNaCo tx at_) ?_
 conv => cbv
 refine st_ta hE (taNaNa tx at_) ?_
 conv => cbv
 refine st_alloc hr tNaT rfl fun q11 w1 hx1 hq0 => ?_
 conv => cbv
 refine st_putS hr (by kernel_rfl) (hq0 _ (n1_ _)) (add_zero _).symm (by simp) (by simp [Value.oneCell']) fun w2 hw2 hq11 => ?_
 simp only [a1_, a2_, a3_, a4_, a5_, a6_, a7_] at hq11
 have hx2 := hx1.then (hw2.bel (hq0 _ (n1_ _)) hx1.size)
 have hK2 := hK.ext hx2
 clear hq0 hw2 hx1
 obtain ⟨G, hG⟩ : ∃ G, G = mget (fN names) tx := ⟨_, rfl⟩
 conv => cbv
 refine draw_q hr fol (by kernel_rfl) fun E' hE' => ?_
 conv => cbv
 refine st_nil hE' ?_
 conv => cbv
 refine st_fld hE' fCk1 fun p hp => ?_
 conv => cbv
 refine st_load hE' cMp (by rw [hp]; exact hK2.box.at 1 _ rfl) ?_
 conv => cbv
 refine st_fld hE' fNaT0 fun p2 hp2 => ?_
 conv => cbv
 refine st_load hE' cStr (by rw [hp2]; exact hq11.at 0 _ rfl) ?_
 conv => cbv
 refine st_imgot hE' uMp uStr (by kernel_rfl) hK2.map ?_
 rw [← hG]
 rw [← hG] at hget
 have up : ∀ {w3 w' : World} {A' : Option Addr} {t : Tr} {v : Value}, w.heap.size ≤ w3.heap.size → TreeV (DN D w3 w' A') w' t v → TreeV (DN D w w' A') w' t v := fun h ht => TreeV.keep (fun b _ => rfl) (fun b hb => by
  rcases hb with hb | hb
  ·exact .inl hb
  ·exact .inr ⟨by omega, hb.2⟩) _ _ ht
 have hres : resT names (.nam tx at_) = (resN names tx).getD (.nam tx at_) := by rw [resT]
 cases ha : posF attrs tx with
 | some k =>
  rw [ha] at hget hW
  simp only at hget hW
  have hk := (List.getElem?_eq_some_iff.1 (posF_lt ha)).1
  have hk6 : k < 6 := hk
  obtain ⟨kz, hkz⟩ : ∃ kz : Int, kz = (k : Int) := ⟨_, rfl⟩
  rw [← hkz] at hget hW
  subst hget
  have hW : W = (acc ++ [attrF kz], 0, attrF kz) := by rw [hW]; simp
  rw [hW] at hR
  simp only at hR
  have hr2 : resT names (.nam tx at_) = .att kz := by rw [hres, resN, ha, hkz]; rfl
  rw [hr2] at hR
  conv => cbv
  intro w3 hs3
  conv => cbv
  have h23 := hx2.trans hs3.ext
  refine st_g hr (check_att hb (hK.ext h23) hna (n := kz) (by omega) D) fun z w4 ⟨A', na', c', v', e, ev, hg, hK', hc0, hc1⟩ => ?_
  obtain ⟨tk, htk⟩ : ∃ tk, tk = attrF kz := ⟨_, rfl⟩
  rw [← htk] at ev hK' hR
  subst ev
  conv => cbv
  rw [hR]
  exact ⟨A', na', c', v', e, rfl, (ext_gr2 h23 q A).trans hg, hK', fun _ => ⟨(hc0 rfl).1, up h23.size (hc0 rfl).2⟩, fun q => absurd rfl q⟩
 | none =>
  rw [ha] at hget hW
  simp only at hget hW
  cases hn : posF names tx with
  | some k =>
   rw [hn] at hget hW
   simp only [Option.map_some] at hget hW
   have hk := (List.getElem?_eq_some_iff.1 (posF_lt hn)).1
   obtain ⟨kz, hkz⟩ : ∃ kz : Int, kz = (k : Int) := ⟨_, rfl⟩
   rw [← hkz] at hget
   subst hget
   have hW : W = (acc ++ [tys.getD k 0], 0, tys.getD k 0) := by rw [hW]; simp
   rw [hW] at hR
   simp only at hR
   have hr2 : resT names (.nam tx at_) = .lt kz := by rw [hres, resN, ha, hkz]; simp only; rw [hn]; rfl
   rw [hr2] at hR
   conv => cbv
   intro w3 hs3
   conv => cbv
   have h23 := hx2.trans hs3.ext
   have hcl := check_lt hb (hK.ext h23) hna (n := kz) (by omega) D
   rw [show kz.toNat = k by omega] at hcl
   refine st_g hr hcl fun z w4 ⟨A', na', c', v', e, ev, hg, hK', hc0, hc1⟩ => ?_
   obtain ⟨tk, htk⟩ : ∃ tk, tk = tys.getD k 0 := ⟨_, rfl⟩
   rw [← htk] at ev hK' hR
   subst ev
   conv => cbv
   rw [hR]
   exact ⟨A', na', c', v', e, rfl, (ext_gr2 h23 q A).trans hg, hK', fun _ => ⟨(hc0 rfl).1, up h23.size (hc0 rfl).2⟩, fun q => absurd rfl q⟩
  | none =>
   rw [hn] at hget hW
   simp only [Option.map_none] at hget hW
   subst hget
   have hW : W = (acc, 7, 0) := by rw [hW]; simp
   rw [hW] at hR
   simp only at hR
   conv => cbv
   intro w3 hs3
   conv => cbv
   have h23 := hx2.trans hs3.ext
   refine st_f hr (wrong_f (hK.ext h23) 7) fun z w4 hx4 ev => ?_
   subst ev
   conv => cbv
   rw [hR]
   exact ⟨A, na, c, .nilIface, _, rfl, ext_gr2 (h23.trans hx4) q A, hK.ext (h23.trans hx4), (fun q => absurd q (by omega)), fun _ => ⟨rfl, rfl⟩⟩
end
mutual
def goodT (L : Nat) : Tr → Prop
 | .att n => 0 ≤ n ∧ n < 6
 | .lt n => 0 ≤ n ∧ n < L
 | .op o kids _ => (kids.length : Int) = kidsF o ∧ 1 ≤ kids.length ∧ goodTs L kids
 | _ => True
def goodTs (L : Nat) : List Tr → Prop
 | [] => True
 | t :: l => goodT L t ∧ goodTs L l
end
theorem goodTs_at {L : Nat} : ∀ {l : List Tr} {j : Nat} {t : Tr}, goodTs L l → l[j]? = some t → goodT L t
 | u :: l, 0, t, h, e => by simp at e; subst e; simp only [goodTs] at h; exact h.1
 | u :: l, j + 1, t, h, e => by simp only [goodTs] at h; exact goodTs_at h.2 (by simpa using e)
def DX (D : Nat → Prop) (w0 w : World) (ex : List (Option Nat)) (b : Nat) : Prop := D b ∨ (w0.heap.size ≤ b ∧ b < w.heap.size ∧ some b ∉ ex)
theorem dx_keep {D : Nat → Prop} {w0 w w' : World} {ex ex' : List (Option Nat)} {ts : List Tr} {vs : List Value} (h : TreesV (DX D w0 w ex) w ts vs) (hk : ∀ b, DX D w0 w ex b → w'.heap[b]? = w.heap[b]?) (hs : w.heap.size ≤ w'.heap.size) (hx : ∀ b, b < w.heap.size → some b ∉ ex → some b ∉ ex') : TreesV (DX D w0 w' ex') w' ts vs :=
 TreesV.of_get h.len fun i t v h1 h2 => TreeV.keep (fun b hb => hk b hb) (fun b hb => by
  rcases hb with hb | ⟨b1, b2, b3⟩
  ·exact .inl hb
  ·exact .inr ⟨b1, by omega, hx b b2 b3⟩) _ _ (h.get i t v h1 h2)
theorem resTs_len (names : List ByteArray) : ∀ l : List Tr, (resTs names l).length = l.length
 | [] => rfl
 | t :: l => by rw [resTs, a3_, resTs_len names l]; rfl
theorem resTs_at (names : List ByteArray) : ∀ {l : List Tr} {j : Nat} {t : Tr}, l[j]? = some t → (resTs names l)[j]? = some (resT names t)
 | u :: l, 0, t, h => by simp at h; subst h; rw [resTs]; rfl
 | u :: l, j + 1, t, h => by rw [resTs]; simpa using resTs_at names (l := l) (by simpa using h)
theorem pos_drop : ∀ {l : List Tr} {j : Nat} {t : Tr}, l[j]? = some t → (pos (l.drop j)).length = (po t).length + (pos (l.drop (j + 1))).length
 | l, j, t, h => by rw [drop_cons h, pos, List.length_append]
theorem chk_len (names : List ByteArray) (tys : List Int) (t : Tr) (acc : List Int) : (chk names tys t acc).1.length ≤ acc.length + (po t).length ∧ ((chk names tys t acc).2.1 = 0 → (chk names tys t acc).1.length = acc.length + (po t).length) := by
 obtain ⟨h1, h2, _⟩ := chk_walk names tys t acc
 obtain ⟨_, k2, k3, _⟩ := walkL_len names tys (po t) acc
 rw [h1, h2]
 exact ⟨k2, k3⟩
theorem at_apart {B' B2 : Nat} {e e' : TypeId} {k k' : Nat} {w w' : World} {A C X : Option Addr} {m2 c2 mx cx : Nat} {ys zs : List Value} (hX : Own B' e' k' w X mx cx zs) (ha : Apart A X ∧ Apart X A) (hat : blk C = blk A ∨ ∃ b, blk C = some b ∧ w.heap.size ≤ b) (hC : Own B2 e k w' C m2 c2 ys) : Apart C X ∧ Apart X C := by
 obtain rfl | ⟨gc, rfl, _, _⟩ := hC.blk
 ·refine ⟨.inl rfl, ?_⟩
  obtain rfl | ⟨gx, rfl, _, _⟩ := hX.blk
  ·exact .inl rfl
  ·exact .inr (by simp [Eng.blk, Value.ownBlock])
 ·obtain rfl | ⟨gx, rfl, _, hx2⟩ := hX.blk
  ·exact ⟨.inr (by simp [Eng.blk, Value.ownBlock]), .inl rfl⟩
  ·have : gc ≠ gx := by
    rcases hat with e1 | ⟨b, e1, e2⟩
    ·rcases ha.2 with h | h
     ·cases h
     ·rw [← e1] at h
      intro q; apply h; rw [q]
    ·simp [Eng.blk, Value.ownBlock] at e1; omega
   exact ⟨.inr (by simp [Eng.blk, Value.ownBlock]; exact this), .inr (by simp [Eng.blk, Value.ownBlock]; exact Ne.symm this)⟩
structure OI (w0s ws : Nat) (w : World) (q : Addr) (bm : Nat) (names : List ByteArray) (tys acc0 : List Int) (TA A : Option Addr) (tn tc : Nat) (D : Nat → Prop) (o at_ : Int) (kids : List Tr) (A0 : Option Addr) (m c0 : Nat) (q13 q14 : Addr)
  (j : Nat) (w' : World) (At : Option Addr) (na c : Nat) (acc : List Int) (Ad : Option Addr) (cd : Nat) (ks : List Int) (Ak : Option Addr) (ck : Nat) (vs : List Value) : Prop where
 gr : Gr2 w q A w' At
 kc : KC w0s ws w' q bm (fN names) tys acc TA At tn tc na c
 b13 : Box w.heap.size 320 3 w' q13 [.int .i64 o, .slice A0 m c0, .int .i64 at_]
 b14 : Box w.heap.size 320 3 w' q14 [.int .i64 o, .slice Ak j ck, .int .i64 at_]
 rD : Own w.heap.size 3 1 w' Ad j cd (ks.map (.int .i64))
 rK : Own w.heap.size 178 1 w' Ak j ck vs
 q134 : q13.block ≠ q14.block
 aDK : Apart Ad Ak ∧ Apart Ak Ad
 aD3 : Apart Ad (some q13) ∧ Apart (some q13) Ad
 aD4 : Apart Ad (some q14) ∧ Apart (some q14) Ad
 aK3 : Apart Ak (some q13) ∧ Apart (some q13) Ak
 aK4 : Apart Ak (some q14) ∧ Apart (some q14) Ak
 aA3 : Apart At (some q13) ∧ Apart (some q13) At
 aA4 : Apart At (some q14) ∧ Apart (some q14) At
 aAD : Apart At Ad ∧ Apart Ad At
 aAK : Apart At Ak ∧ Apart Ak At
 trs : TreesV (DX D w w' [blk At, some q13.block, some q14.block, blk Ak, blk Ad]) w' ((resTs names kids).take j) vs
 eqn : chks names tys kids acc0 = ((chks names tys (kids.drop j) acc).1, (chks names tys (kids.drop j) acc).2.1, ks ++ (chks names tys (kids.drop j) acc).2.2)
 cnt : na + (pos (kids.drop j)).length + 1 ≤ 4000
section
variable {w0s ws : Nat} {w : World} {q : Addr} {bm : Nat} {names : List ByteArray} {tys acc0 : List Int} {TA A : Option Addr} {tn tc : Nat} {D : Nat → Prop} {o at_ : Int} {kids : List Tr} {A0 : Option Addr} {m c0 : Nat} {q13 q14 : Addr} {j : Nat} {w' w2 : World} {At : Option Addr} {na c : Nat} {acc : List Int} {Ad : Option Addr} {cd : Nat} {ks : List Int} {Ak : Option Addr} {ck : Nat} {vs : List Value}
theorem OI.newq (hb : KB w0s ws q bm) (hw : ws ≤ w.heap.size) {B e k mm cc : Nat} {X : Option Addr} {xs : List Value} (hX : Own w.heap.size e k w' X mm cc xs) : blk X ≠ some q.block := fun e => by
 have := (own_blk hX _ e).1
 have := hb.hq
 omega
theorem OI.kid (hb : KB w0s ws q bm) (hw : ws ≤ w.heap.size) (hD : ∀ b, D b → b < w.heap.size ∧ b ≠ q.block ∧ blk A ≠ some b) (h : OI w0s ws w q bm names tys acc0 TA A tn tc D o at_ kids A0 m c0 q13 q14 j w' At na c acc Ad cd ks Ak ck vs)
  {A2 : Option Addr} {na2 c2 : Nat} {acc2 : List Int} (hg : Gr2 w' q At w2 A2) (hK : KC w0s ws w2 q bm (fN names) tys acc2 TA A2 tn tc na2 c2) :
  Gr2 w q A w2 A2 ∧ Box w.heap.size 320 3 w2 q13 [.int .i64 o, .slice A0 m c0, .int .i64 at_] ∧ Box w.heap.size 320 3 w2 q14 [.int .i64 o, .slice Ak j ck, .int .i64 at_] ∧ Own w.heap.size 3 1 w2 Ad j cd (ks.map (.int .i64)) ∧ Own w.heap.size 178 1 w2 Ak j ck vs ∧
   (Apart A2 (some q13) ∧ Apart (some q13) A2) ∧ (Apart A2 (some q14) ∧ Apart (some q14) A2) ∧ (Apart A2 Ad ∧ Apart Ad A2) ∧ (Apart A2 Ak ∧ Apart Ak A2) ∧ TreesV (DX D w w2 [blk A2, some q13.block, some q14.block, blk Ak, blk Ad]) w2 ((resTs names kids).take j) vs := by
 refine ⟨h.gr.trans hg, hg.own h.b13 (OI.newq (B := 0) hb hw h.b13) h.aA3.2, hg.own h.b14 (OI.newq (B := 0) hb hw h.b14) h.aA4.2, hg.own h.rD (OI.newq (B := 0) hb hw h.rD) h.aAD.2, hg.own h.rK (OI.newq (B := 0) hb hw h.rK) h.aAK.2,
  at_apart h.b13 h.aA3 hg.at_ hK.rA, at_apart h.b14 h.aA4 hg.at_ hK.rA, at_apart h.rD h.aAD hg.at_ hK.rA, at_apart h.rK h.aAK hg.at_ hK.rA, dx_keep h.trs (fun b hb1 => ?_) hg.size fun b h1 h2 => ?_⟩
 ·rcases hb1 with hb1 | ⟨b1, b2, b3⟩
  ·obtain ⟨d1, d2, d3⟩ := hD b hb1
   refine hg.block b (n3_ d1 h.gr.size) d2 fun e => ?_
   rcases h.gr.at_ with e1 | ⟨b0, e1, e2⟩
   ·rw [e1] at e; exact d3 e.symm
   ·rw [e1] at e; cases e; omega
  ·refine hg.block b b2 (fun e => by have := hb.hq; omega) fun e => b3 (by simp [e])
 ·simp only [List.mem_cons, List.not_mem_nil, or_false, not_or] at h2 ⊢
  refine ⟨?_, h2.2⟩
  rcases hg.at_ with e1 | ⟨b0, e1, e2⟩
  ·rw [e1]; exact h2.1
  ·rw [e1]; intro e; cases e; omega
end
theorem trs_app {D : Nat → Prop} {w : World} {ts : List Tr} {vs : List Value} {t : Tr} {v : Value} (h : TreesV D w ts vs) (ht : TreeV D w t v) : TreesV D w (ts ++ [t]) (vs ++ [v]) :=
 TreesV.of_get (by simp [h.len]) fun i u x h1 h2 => by
  have hl := h.len
  rcases Nat.lt_or_ge i ts.length with q | q
  ·rw [List.getElem?_append_left q] at h1
   rw [List.getElem?_append_left (by omega)] at h2
   exact h.get i u x h1 h2
  ·rw [List.getElem?_append_right q] at h1
   rw [List.getElem?_append_right (by omega)] at h2
   have : i - ts.length = 0 := by
    have := (List.getElem?_eq_some_iff.1 h1).1
    simp at this; omega
   rw [this] at h1
   rw [show i - vs.length = 0 by omega] at h2
   simp at h1 h2
   subst h1; subst h2
   exact ht
theorem kc_new {w0s ws : Nat} {w w' w2 : World} {q : Addr} {bm : Nat} {f : List (ByteArray × Value)} {tys acc acc0 : List Int} {TA A At : Option Addr} {tn tc na c na0 c0 : Nat} (hb : KB w0s ws q bm) (hK0 : KC w0s ws w q bm f tys acc0 TA A tn tc na0 c0) (h : KC w0s ws w' q bm f tys acc TA At tn tc na c) {X : Option Addr} (hw : Wr X w' w2) {e : TypeId} {k m cc : Nat} {xs : List Value} (hX : Own w.heap.size e k w' X m cc xs) (hA : Apart At X) : KC w0s ws w2 q bm f tys acc TA At tn tc na c := by
 have h0 := hK0.hs
 have hX1 : ∀ g, g < w.heap.size → blk X ≠ some g := fun g hg e => by have := (own_blk hX _ e).1; omega
 refine ⟨h.box.wr hw (.inr (by rw [hb.eq]; exact (hX1 _ (by have := hb.hq; omega)).symm)), h.map.wr hw (hX1 _ (by have := hb.m; omega)), h.rT.wr hw ?_, h.rA.wr hw hA, h.aTA, n2_ h.hs hw.size⟩
 obtain rfl | ⟨g, rfl, _, hg⟩ := hK0.rT.blk
 ·exact .inl rfl
 ·exact .inr (hX1 g hg).symm
theorem gr2_new {w w' w2 : World} {q : Addr} {A At : Option Addr} (h : Gr2 w q A w' At) (hx : Bel w.heap.size w' w2) : Gr2 w q A w2 At :=
 ⟨hx.os.trans h.os, hx.tape.trans h.tape, hx.output.trans h.output, n2_ h.size hx.size, fun k hk h1 h2 => (hx.block k hk).trans (h.block k hk h1 h2), h.at_⟩
theorem check_g {w0s ws : Nat} {q : Addr} {bm : Nat} {names : List ByteArray} {tys : List Int} {TA : Option Addr} {tn tc : Nat} (hb : KB w0s ws q bm) (hnt : names.length = tys.length) : ∀ (n : Nat) (t : Tr), dep t ≤ n → goodT tys.length t → ∀ (v : Value) (w : World) (D : Nat → Prop) (acc0 : List Int) (A : Option Addr) (na0 c0' : Nat), KC w0s ws w q bm (fN names) tys acc0 TA A tn tc na0 c0' → na0 + (po t).length ≤ 4000 → TreeV D w t v → (∀ b, D b → b < w.heap.size ∧ b ≠ q.block ∧ blk A ≠ some b) →
  GC Tryz.prog 160 [.pointer (some q), v] w (CkR w0s ws q bm names tys TA tn tc w A D (chk names tys t acc0).1 (chk names tys t acc0).2.1 (chk names tys t acc0).2.2 (resT names t)) := by
 intro n
 induction n with
 | zero => intro t h; cases t <;> simp [dep] at h
 | succ n ih =>
  intro t hd hgd v w D acc0 A na0 c0' hK hpo hv hD
  cases t with
  | con k z tx xs at_ =>
   have := check_con hb hK (by simp [po] at hpo; omega) hv hD
   simpa [chk, resT] using this
  | att z =>
   simp only [goodT] at hgd
   simp only [TreeV] at hv
   subst hv
   have := check_att hb hK (by simp [po] at hpo; omega) hgd D
   simpa [chk, resT, atV] using this
  | lt z =>
   simp only [goodT] at hgd
   simp only [TreeV] at hv
   subst hv
   have := check_lt hb hK (by simp [po] at hpo; omega) hgd D
   have e : tyLt tys z = (tys.getD z.toNat 0, 0) := by unfold tyLt; rw [if_neg (by omega)]
   simpa [chk, resT, e, ltV] using this
  | nam tx at_ =>
   simp only [TreeV] at hv
   obtain ⟨rfl, _⟩ := hv
   exact check_nam hb hK hnt (by simp [po] at hpo; omega) D
  | op o kids at_ =>
   simp only [goodT] at hgd
   obtain ⟨hk, hk1, hgk⟩ := hgd
   simp only [TreeV] at hv
   obtain ⟨A0, m, c0, vs, rfl, hvl, hmc, hmm, hcl, hin, hts⟩ := hv
   have hkl := hts.len
   rw [po, List.length_append, List.length_singleton] at hpo
   rw [dep] at hd
   have hw := hK.hs
   have hm3 : m ≤ 3 := by have := kidsF_le o; omega
   refine GC.intro (cs := []) Tryz.func160 (by kernel_rfl) fun E R hE hr hR => ?_
   obtain ⟨CH, hCH⟩ : ∃ CH, CH = chk names tys (.op o kids at_) acc0 := ⟨_, rfl⟩
   obtain ⟨RT, hRT⟩ : ∃ RT, RT = resT names (.op o kids at_) := ⟨_, rfl⟩
   rw [← hCH, ← hRT] at hR
   rw [chk] at hCH
   rw [resT] at hRT
   conv => cbv
   refine st_ta hE (taOpCo o at_ A0 m c0) ?_
   conv => cbv
   refine st_ta hE (taOpNa o at_ A0 m c0) ?_
   conv => cbv
   refine st_ta hE (taOpAt o at_ A0 m c0) ?_
   conv => cbv
   refine st_ta hE (taOpLt o at_ A0 m c0) ?_
   conv => cbv
   refine st_ta hE (taOpOp o at_ A0 m c0) ?_
   conv => cbv
   refine st_alloc hr tOp rfl fun q13 w1 hx1 hq0 => ?_
   conv => cbv
   refine st_putS hr (by kernel_rfl) (hq0 _ (n1_ _)) (add_zero _).symm (by simp) (by simp [Value.oneCell']) fun w2 hw2 h13 => ?_
   simp only [a1_, a2_, a3_, a4_, a5_, a6_, a7_] at h13
   have hx2 := hx1.then (hw2.bel (hq0 _ (n1_ _)) hx1.size)
   have f13 := bx_form h13
   clear hq0 hw2 hx1
   conv => cbv
   (refine st_fld hE fOp0 fun p hp => ?_; (conv => cbv); refine st_load hE cInt (by rw [hp]; exact (h13).at _ _ rfl) ?_; (conv => cbv))
   (refine st_fld hE fOp2 fun p hp => ?_; (conv => cbv); refine st_load hE cInt (by rw [hp]; exact (h13).at _ _ rfl) ?_; (conv => cbv))
   refine st_bOp hE ?_
   conv => cbv
   refine st_alloc hr tOp rfl fun q14 w3 hx3 hq0 => ?_
   conv => cbv
   refine st_putS hr (by kernel_rfl) (hq0 _ (n1_ _)) (add_zero _).symm (by simp) (by simp [Value.oneCell']) fun w4 hw4 h14 => ?_
   simp only [a1_, a2_, a3_, a4_, a5_, a6_, a7_] at h14
   have hx4 := hx3.then (hw4.bel (hq0 _ (n1_ _)) hx3.size)
   have f14 := bx_form h14
   clear hq0 hw4 hx3
   replace h13 := h13.bel hx4
   replace h14 := h14.mono hx2.size
   have hx := hx2.trans hx4
   have hne : q13.block ≠ q14.block := by omega
   have s2 := hx2.size
   conv => cbv
   refine st_none hr tInts fun Ad w5 hx5 hd0 => ?_
   have hAd := hd0 _ (n1_ _)
   have aD3 := (h13.apart hAd (n1_ _)).symm
   have aD4 := (h14.apart hAd (n1_ _)).symm
   have aAD := (hK.ext hx).rA.apart hAd (n1_ _)
   replace hAd := hAd.mono hx.size
   clear hd0
   replace h13 := h13.bel hx5
   replace h14 := h14.bel hx5
   replace hx := hx.trans hx5
   have aA3 : Apart A (some q13) ∧ Apart (some q13) A := hK.rA.apart h13 (n1_ _)
   have aA4 : Apart A (some q14) ∧ Apart (some q14) A := hK.rA.apart h14 (n1_ _)
   conv => cbv
   (refine st_fld hE fOp1 fun p hp => ?_; (conv => cbv); refine st_load hE cTrs (by rw [hp]; exact (h13).at _ _ rfl) ?_; (conv => cbv))
   refine st_len hE sTrs fun x95 hx95 => ?_
   conv => cbv
   have apN : ∀ {X : Option Addr}, (∀ g, blk X = some g → True) → (X = none ∨ blk X ≠ none) → Apart none X ∧ Apart X none := fun _ h => ⟨.inl rfl, h.imp id fun h => by simpa [Eng.blk, Value.ownBlock] using h⟩
   have e13 := f13.2.2
   have e14 := f14.2.2
   refine loop_rulec [] hr (fun (s : Nat × Int × (Option Addr × Nat × Nat × List Int) × (Option Addr × Nat × List Int) × (Option Addr × Nat × List Value)) w' => s.1 ≤ m ∧ s.2.1 = (s.1 : Int) ∧ OI w0s ws w q bm names tys acc0 TA A tn tc D o at_ kids A0 m c0 q13 q14 s.1 w' s.2.2.1.1 s.2.2.1.2.1 s.2.2.1.2.2.1 s.2.2.1.2.2.2 s.2.2.2.1.1 s.2.2.2.1.2.1 s.2.2.2.1.2.2 s.2.2.2.2.1 s.2.2.2.2.2.1 s.2.2.2.2.2.2)
    (fun s => [(0, .pointer (some q)), (13, .pointer (some q13)), (14, .pointer (some q14)), (15, .slice s.2.2.2.1.1 s.1 s.2.2.2.1.2.1), (94, .slice A0 m c0), (95, .int .i64 x95), (96, .int .i64 s.2.1)]) (fun s => m - s.1) (0, 0, (A, na0, c0', acc0), (Ad, 0, []), (none, 0, []))
    (by simp [Fits, lk]) ⟨by simp, by simp, ⟨ext_gr2 hx q A, hK.ext hx, h13, h14, hAd, Own.nil, hne, ⟨?_, .inl rfl⟩, aD3, aD4, ⟨.inl rfl, .inr (by rw [e13]; simp [Eng.blk, Value.ownBlock])⟩, ⟨.inl rfl, .inr (by rw [e14]; simp [Eng.blk, Value.ownBlock])⟩, aA3, aA4, aAD, ⟨?_, .inl rfl⟩, by simp [TreesV], by simp, by simp only [List.drop_zero]; omega⟩⟩ ?_
   ·obtain rfl | ⟨g, rfl, _⟩ := hAd.blk
    ·exact .inl rfl
    ·exact .inr (by simp [Eng.blk, Value.ownBlock])
   ·obtain rfl | ⟨g, rfl, _⟩ := hK.rA.blk
    ·exact .inl rfl
    ·exact .inr (by simp [Eng.blk, Value.ownBlock])
   clear h13 h14 hAd aD3 aD4 aAD aA3 aA4 hx hx5 hx4 hx2
   rintro I hI ⟨j, jj, ⟨At, na, c, acc⟩, ⟨Ad, cd, ks⟩, ⟨Ak, ck, vk⟩⟩ w' ⟨hj, hjj, hO⟩
   simp only at hj hjj hO
   obtain ⟨jk, hjk⟩ : ∃ z, z = jj + 1 := ⟨_, rfl⟩
   conv => cbv
   refine br (fun g => ?_) (fun g => ?_)
   ·have g : j < m := by
     have : jj < x95 := by simpa [hE.cmp, cmpR] using g
     omega
    have ej : E.ar .add .i64 jj 1 = jk := by rw [hE.ar, hjk]; exact wrap_in (by omega) (by omega)
    obtain ⟨u, hu⟩ : ∃ u, vs[j]? = some u := ⟨_, g2_ (by omega)⟩
    obtain ⟨t', ht'⟩ : ∃ t', kids[j]? = some t' := ⟨_, g2_ (by omega)⟩
    have kpD : ∀ b, D b → w'.heap[b]? = w.heap[b]? := fun b hb1 => by
     obtain ⟨d1, d2, d3⟩ := hD b hb1
     exact hO.gr.block b d1 d2 (Ne.symm d3)
    have hcl' : Cells w' A0 vs := cells_keep hcl (by rw [hvl]; exact hin) kpD
    have htu : TreeV D w' t' u := TreeV.keep kpD (fun b h => h) _ _ (hts.get j t' u ht' hu)
    have hD' : ∀ b, D b → b < w'.heap.size ∧ b ≠ q.block ∧ blk At ≠ some b := fun b hb1 => by
     obtain ⟨d1, d2, d3⟩ := hD b hb1
     refine ⟨n3_ d1 hO.gr.size, d2, fun e => ?_⟩
     rcases hO.gr.at_ with e1 | ⟨b0, e1, e2⟩
     ·rw [e1] at e; exact d3 e
     ·rw [e1] at e; cases e; omega
    have hdt := deps_mem (m1_ ht')
    have hpd := pos_drop ht'
    have hcnt := hO.cnt
    have hcl2 := chk_len names tys t' acc
    have heqn := hO.eqn
    rw [drop_cons ht', chks] at heqn
    have hih := ih t' (by omega) (goodTs_at hgk ht') u w' D acc At na c hO.kc (by omega) htu hD'
    obtain ⟨a2, ha2⟩ : ∃ a, a = (chk names tys t' acc).1 := ⟨_, rfl⟩
    obtain ⟨co, hco⟩ : ∃ a, a = (chk names tys t' acc).2.1 := ⟨_, rfl⟩
    obtain ⟨ty, hty⟩ : ∃ a, a = (chk names tys t' acc).2.2 := ⟨_, rfl⟩
    rw [← ha2, ← hco, ← hty] at hih heqn
    rw [← ha2, ← hco] at hcl2
    conv => cbv
    refine st_elem hE sTrs hcl' hvl.symm (by omega) (by omega) fun p v hv hp => ?_
    rw [show jj.toNat = j by omega, hu] at hv
    cases hv
    conv => cbv
    refine st_load hE cTr hp ?_
    conv => cbv
    refine st_g hr hih fun r w6 ⟨A2, na2, c2, v', e, ev, hg, hK2, hc0, hc1⟩ => ?_
    subst ev
    obtain ⟨k1, k2, k3, k4, k5, k6, k7, k8, k9, k10⟩ := hO.kid hb hw hD hg hK2
    conv => cbv
    by_cases hcz : co = 0
    ·obtain ⟨rfl, htv⟩ := hc0 hcz
     rw [if_neg (by simpa using hcz)] at heqn
     refine st_neNil hE Tryz.underlying99 ?_
     conv => cbv
     have hvo := (TreeV.one htv).1
     have hna2 := hK2.len.2
     have hnal := hO.kc.len.2
     have hlen2 := hcl2.2 hcz
     have hsz := hO.gr.size
     have hsz6 := hg.size
     have bl : ∀ g, w'.heap.size ≤ g → blk Ak ≠ some g ∧ blk Ad ≠ some g := fun g hg1 => ⟨fun e => by have := (own_blk hO.rK _ e).2; omega, fun e => by have := (own_blk hO.rD _ e).2; omega⟩
     have f13' := bx_form hO.b13
     have f14' := bx_form hO.b14
     have htr : TreesV (DX D w w6 [blk A2, some q13.block, some q14.block, blk Ak, blk Ad]) w6 ((resTs names kids).take (j + 1)) (vk ++ [v']) := by
      rw [g4_, resTs_at names ht']
      refine trs_app k10 (TreeV.keep (fun b _ => rfl) (fun b hb1 => ?_) _ _ htv)
      rcases hb1 with hb1 | ⟨b1, b2, b3⟩
      ·exact .inl hb1
      ·refine .inr ⟨by omega, b2, ?_⟩
       simp only [List.mem_cons, List.not_mem_nil, or_false, not_or]
       have := bl b b1
       refine ⟨Ne.symm b3, fun e => ?_, fun e => ?_, Ne.symm this.1, Ne.symm this.2⟩
       ·cases e; omega
       ·cases e; omega
     (refine st_fld hE fOp1 fun p hp => ?_; (conv => cbv); refine st_load hE cTrs (by rw [hp]; exact (k3).at _ _ rfl) ?_; (conv => cbv))
     refine st_one hr sTrs rfl hvo fun A7 w7 hx7 hc7 => ?_
     conv => cbv
     refine st_appsG hr sTrs rfl (k5.bel hx7) hc7 rfl (by intro y hy; simp only [List.mem_cons, List.not_mem_nil, or_false] at hy; rw [hy]; exact hvo) (by have := hx7.size; omega) (by omega) (by omega) fun A8 c8 m8 w8 hm8 hw8 ho8 hk8 => ?_
     subst hm8
     have s7 := hx7.size
     have gK : Gro w7 Ak w8 A8 := Gro.app (Ext.refl _) hw8 hk8
     have bl8 : Bel w.heap.size w6 w8 := RowKit.Below.trans (RowKit.Below.mono hx7 (by omega)) (hw8.bel (k5.bel hx7) (by omega))
     have c8' := kc_new hb hK (hK2.ext hx7) hw8 (k5.bel hx7) k9.1
     have b13 := (k2.bel hx7).wr hw8 hO.aK3.2
     have b14 := (k3.bel hx7).wr hw8 hO.aK4.2
     have rD8 := (k4.bel hx7).wr hw8 hO.aDK.1
     have aDK8 := (gro_apart (B := 0) (m := 0) (c := 0) (xs := []) (k4.bel hx7) hO.aDK.symm gK ho8).symm
     have aK38 := gro_apart (B := 0) (m := 0) (c := 0) (xs := []) (k2.bel hx7) hO.aK3 gK ho8
     have aK48 := gro_apart (B := 0) (m := 0) (c := 0) (xs := []) (k3.bel hx7) hO.aK4 gK ho8
     have aAK8 := (gro_apart (B := 0) (m := 0) (c := 0) (xs := []) (hK2.ext hx7).rA k9.symm gK ho8).symm
     have s8 := hw8.size
     conv => cbv
     refine st_fld hE fOp1 fun p3 hp3 => ?_
     conv => cbv
     refine st_put hr zTrs b14 hp3 (by simp) rfl fun w9 hw9 b14' => ?_
     simp only [b4_, b5_] at b14'
     have s9 := hw9.size
     have bl9 : Bel w.heap.size w6 w9 := RowKit.Below.trans bl8 (hw9.bel b14 (by omega))
     have c9' := kc_new hb hK c8' hw9 b14 k7.1
     have b139 := b13.wr hw9 (bx_apart e13 e14 hne)
     have rD9 := rD8.wr hw9 hO.aD4.1
     have rK9 := ho8.wr hw9 aK48.1
     conv => cbv
     refine st_one hr tInts rfl rfl fun A10 w10 hx10 hc10 => ?_
     have s10 := hx10.size
     conv => cbv
     refine st_appsG hr tInts rfl (rD9.bel hx10) hc10 rfl (by simp [Value.oneCell']) (by omega) (by omega) (by omega) fun A11 c11 m11 w11 hm11 hw11 ho11 hk11 => ?_
     subst hm11
     have gD : Gro w10 Ad w11 A11 := Gro.app (Ext.refl _) hw11 hk11
     have bl11 : Bel w.heap.size w6 w11 := RowKit.Below.trans bl9 (RowKit.Below.trans (RowKit.Below.mono hx10 (by omega)) (hw11.bel (rD9.bel hx10) (by omega)))
     have s11 := hw11.size
     conv => cbv
     simp only [ej]
     refine ⟨(j + 1, jk, (A2, na2, c2, a2), (A11, c11, ks ++ [ty]), (A8, c8, vk ++ [v'])), by simp [Fits, lk], hI _ _ ⟨by simp only; omega, by simp only; omega, ⟨gr2_new k1 bl11, kc_new hb hK (c9'.ext hx10) hw11 (rD9.bel hx10) k8.1, (b139.bel hx10).wr hw11 hO.aD3.2, (b14'.bel hx10).wr hw11 hO.aD4.2, by rw [List.map_append]; exact ho11, (rK9.bel hx10).wr hw11 aDK8.2, hne,
      gro_apart (B := 0) (m := 0) (c := 0) (xs := []) (rK9.bel hx10) aDK8 gD ho11, gro_apart (B := 0) (m := 0) (c := 0) (xs := []) (b139.bel hx10) hO.aD3 gD ho11, gro_apart (B := 0) (m := 0) (c := 0) (xs := []) (b14'.bel hx10) hO.aD4 gD ho11, aK38, aK48, k6, k7, (gro_apart (B := 0) (m := 0) (c := 0) (xs := []) (c9'.ext hx10).rA k8.symm gD ho11).symm, aAK8, ?_, ?_, ?_⟩⟩, by simp only; omega⟩
     ·refine dx_keep htr (fun b hb1 => ?_) bl11.size fun b h1 h2 => ?_
      ·rcases hb1 with hb1 | ⟨b1, b2, b3⟩
       ·exact bl11.block b (hD b hb1).1
       ·simp only [List.mem_cons, List.not_mem_nil, or_false, not_or] at b3
        rw [hw11.block b (by omega) b3.2.2.2.2, hx10.block b (by omega), hw9.block b (by omega) (by rw [e14]; exact b3.2.2.1), hw8.block b (by omega) b3.2.2.2.1, hx7.block b b2]
      ·simp only [List.mem_cons, List.not_mem_nil, or_false, not_or] at h2 ⊢
       refine ⟨h2.1, h2.2.1, h2.2.2.1, ?_, ?_⟩
       ·rcases gK.at_ with e1 | ⟨b0, e1, e2⟩
        ·rw [e1]; exact h2.2.2.2.1
        ·rw [e1]; intro e; cases e; omega
       ·rcases gD.at_ with e1 | ⟨b0, e1, e2⟩
        ·rw [e1]; exact h2.2.2.2.2
        ·rw [e1]; intro e; cases e; omega
     ·simp only
      rw [heqn]; simp
     ·simp only
      omega
    ·obtain ⟨rfl, rfl⟩ := hc1 hcz
     rw [if_pos hcz] at heqn
     unfold misV
     refine st_neSome hE Tryz.underlying99 ?_
     conv => cbv
     rw [hR, hCH, heqn]
     simp only
     rw [if_pos hcz]
     exact ⟨A2, na2, c2, .nilIface, _, rfl, k1, hK2, fun z => absurd z hcz, fun _ => ⟨rfl, rfl⟩⟩
   ·have g : j = m := by
     have : ¬ jj < x95 := by simpa [hE.cmp, cmpR] using g
     omega
    have hdr : kids.drop j = [] := List.drop_eq_nil_of_le (by omega)
    have heqn := hO.eqn
    rw [hdr, chks] at heqn
    simp only [a7_] at heqn
    rw [heqn] at hCH
    simp only [ne_eq, not_true_eq_false, if_false] at hCH
    have hna := hO.cnt
    have htr := hO.trs
    rw [g3_ (by rw [resTs_len]; omega)] at htr
    conv => cbv
    (refine st_fld hE fOp0 fun p hp => ?_; (conv => cbv); refine st_load hE cInt (by rw [hp]; exact (hO.b13).at _ _ rfl) ?_; (conv => cbv))
    refine st_f hr (typeOfG_f (Own.ints hO.rD) o (by omega) (by omega)) fun r w6 hx6 ev => ?_
    obtain ⟨tz, htz⟩ : ∃ tz, tz = typG o ks := ⟨_, rfl⟩
    rw [← htz] at ev hCH
    subst ev
    have g6 := hO.gr.trans (ext_gr2 hx6 q At)
    have k6 := hO.kc.ext hx6
    conv => cbv
    refine br (fun g2 => ?_) (fun g2 => ?_)
    ·have g2 : tz = 0 := by simpa [hE.cmp, cmpR] using g2
     rw [if_pos g2] at hCH
     conv => cbv
     refine st_f hr (wrong_f k6 9) fun z w7 hx7 ev => ?_
     subst ev
     conv => cbv
     rw [hR, hCH]
     exact ⟨At, na, c, .nilIface, _, rfl, g6.trans (ext_gr2 hx7 q At), k6.ext hx7, (fun q => absurd q (by simp)), fun _ => ⟨rfl, rfl⟩⟩
    ·have g2 : tz ≠ 0 := by simpa [hE.cmp, cmpR] using g2
     rw [if_neg g2] at hCH
     conv => cbv
     have hb14 := hO.b14.bel hx6
     have hst : ∀ w1, (∃ A1, Gr2 w6 q At w1 A1) → ∀ j' u, ([.int .i64 o, .slice Ak j ck, .int .i64 at_] : List Value)[j']? = some u → w1.cell? (q14.add j') = some u := fun w1 ⟨A1, hg⟩ => (hg.own hb14 (OI.newq (B := 0) hb hw hb14) hO.aA4.2).at
     refine draw_s (fun w1 => ∃ A1, Gr2 w6 q At w1 A1) [0, 1, 2, 3] [(4, false), (5, true), (6, true), (7, true)] hr fol (by kernel_rfl) (fun w0 h => ⟨At, ext_gr2 h.ext _ _⟩) fun E' hE' w7 hs7 => ?_
     have g7 := ext_gr2 hs7.ext q At
     conv => cbv
     refine sw_loadS hE' tOp rfl hst ?_
     conv => cbv
     refine sw_mk hE' uOpT ?_
     conv => cbv
     refine st_g hr (put_g hb (k6.ext hs7.ext) (by omega) tz) fun z w8 ⟨ev, A', c', hg8, hK8⟩ => ?_
     subst ev
     refine ⟨⟨A', g7.trans hg8⟩, ?_⟩
     conv => cbv
     rw [hR, hCH, hRT]
     have g68 := (ext_gr2 hx6 q At).trans (g7.trans hg8)
     have rK8 := g68.own hO.rK (OI.newq (B := 0) hb hw hO.rK) hO.aAK.2
     have hsz := hO.gr.size
     have nb : ∀ b, b < w'.heap.size → blk At ≠ some b → blk A' ≠ some b := fun b b1 b2 e => by
      rcases g68.at_ with e1 | ⟨b0, e1, e2⟩
      ·rw [e1] at e; exact b2 e
      ·rw [e1] at e; cases e; omega
     refine ⟨A', na + 1, c', _, .nilIface, rfl, hO.gr.trans g68, hK8, fun _ => ⟨rfl, ?_⟩, fun q => absurd rfl q⟩
     simp only [TreeV]
     have hvk := hO.rK.len
     refine ⟨Ak, j, ck, vk, rfl, by omega, hO.rK.cap, hO.rK.le, rK8.cells, fun a' ha' hj0 => ?_, ?_⟩
     ·obtain ⟨g, hg1, hg2, hg3⟩ := hO.rK.addr hj0
      rw [ha'] at hg1
      cases hg1
      refine .inr ⟨hg2, n3_ hg3 g68.size, ?_⟩
      refine nb g hg3 fun e => ?_
      rcases hO.aAK.2 with e1 | e1
      ·rw [e1] at ha'; cases ha'
      ·exact e1 (by rw [ha']; exact e.symm)
     ·refine TreesV.keep (fun b hb1 => ?_) (fun b hb1 => ?_) _ _ htr
      ·rcases hb1 with hb1 | ⟨b1, b2, b3⟩
       ·obtain ⟨d1, d2, d3⟩ := hD b hb1
        refine g68.block b (by omega) d2 fun e => ?_
        rcases hO.gr.at_ with e1 | ⟨b0, e1, e2⟩
        ·rw [e1] at e; exact d3 e.symm
        ·rw [e1] at e; cases e; omega
       ·simp only [List.mem_cons, List.not_mem_nil, or_false, not_or] at b3
        exact g68.block b b2 (fun e => by have := hb.hq; omega) b3.1
      ·rcases hb1 with hb1 | ⟨b1, b2, b3⟩
       ·exact .inl hb1
       ·simp only [List.mem_cons, List.not_mem_nil, or_false, not_or] at b3
        exact .inr ⟨b1, n3_ b2 g68.size, nb b b2 (Ne.symm b3.1)⟩
def DT (w0s ws : Nat) (w : World) (A TA : Option Addr) (b : Nat) : Prop := b < w0s ∨ (ws ≤ b ∧ b < w.heap.size ∧ blk A ≠ some b ∧ blk TA ≠ some b)
structure Stp (w0 : World) (ws : Nat) (w : World) (A TA : Option Addr) (w' : World) (A' TA' : Option Addr) : Prop where
 ext : Ext w0 w'
 keep : ∀ b, DT w0.heap.size ws w A TA b → w'.heap[b]? = w.heap[b]? ∧ DT w0.heap.size ws w' A' TA' b
 size : w.heap.size ≤ w'.heap.size
theorem Stp.trans {w0 a b c : World} {ws : Nat} {A TA B TB C TC : Option Addr} (h : Stp w0 ws a A TA b B TB) (k : Stp w0 ws b B TB c C TC) : Stp w0 ws a A TA c C TC :=
 ⟨k.ext, fun x hx => by
  obtain ⟨h1, h2⟩ := h.keep x hx
  obtain ⟨k1, k2⟩ := k.keep x h2
  exact ⟨k1.trans h1, k2⟩, n2_ h.size k.size⟩
theorem stp_ext {w0 w w' : World} {ws : Nat} {A TA : Option Addr} (h0 : Ext w0 w) (hx : Ext w w') : Stp w0 ws w A TA w' A TA :=
 ⟨h0.trans hx, fun b hb => by
  have := h0.size
  rcases hb with hb | ⟨b1, b2, b3⟩
  ·exact ⟨hx.block b (by omega), .inl hb⟩
  ·exact ⟨hx.block b b2, .inr ⟨b1, n3_ b2 hx.size, b3⟩⟩, hx.size⟩
section
variable {w0 w w' : World} {ws : Nat} {q : Addr} {bm : Nat} {f : List (ByteArray × Value)} {tys acc : List Int} {TA A A' : Option Addr} {tn tc na c : Nat}
theorem stp_gr2 (hb : KB w0.heap.size ws q bm) (hK : KC w0.heap.size ws w q bm f tys acc TA A tn tc na c) (h0 : Ext w0 w) (hg : Gr2 w q A w' A') : Stp w0 ws w A TA w' A' TA := by
 refine ⟨hg.bel h0 hb.hq.1 hK.rA hb.le, fun b hb1 => ?_, hg.size⟩
 have hs := h0.size
 have hq := hb.hq
 have hle := hb.le
 rcases hb1 with hb1 | ⟨b1, b2, b3, b4⟩
 ·exact ⟨hg.block b (by omega) (by omega) (fun e => by have := own_blk hK.rA b e.symm; omega), .inl hb1⟩
 ·refine ⟨hg.block b b2 (by omega) (Ne.symm b3), .inr ⟨b1, n3_ b2 hg.size, fun e => ?_, b4⟩⟩
  rcases hg.at_ with e1 | ⟨b0, e1, e2⟩
  ·rw [e1] at e; exact b3 e
  ·rw [e1] at e; cases e; omega
theorem stp_map (hb : KB w0.heap.size ws q bm) (h0 : Ext w0 w) (hw : Wr (mb bm) w w') : Stp w0 ws w A TA w' A TA := by
 have hm := hb.m
 have hs := h0.size
 refine ⟨h0.then ⟨hw.os, hw.tape, hw.output, hw.size, fun k hk => hw.block k (by omega) (by rw [mb_blk]; intro e; cases e; omega)⟩, fun b hb1 => ?_, hw.size⟩
 rcases hb1 with hb1 | ⟨b1, b2, b3⟩
 ·exact ⟨hw.block b (by omega) (by rw [mb_blk]; intro e; cases e; omega), .inl hb1⟩
 ·exact ⟨hw.block b b2 (by rw [mb_blk]; intro e; cases e; omega), .inr ⟨b1, n3_ b2 hw.size, b3⟩⟩
theorem stp_box (hb : KB w0.heap.size ws q bm) (h0 : Ext w0 w) (hw : Wr (some q) w w') : Stp w0 ws w A TA w' A TA := by
 have hm := hb.hq
 have hs := h0.size
 refine ⟨h0.then ⟨hw.os, hw.tape, hw.output, hw.size, fun k hk => hw.block k (by omega) (by rw [hb.eq]; intro e; cases e; omega)⟩, fun b hb1 => ?_, hw.size⟩
 rcases hb1 with hb1 | ⟨b1, b2, b3⟩
 ·exact ⟨hw.block b (by omega) (by rw [hb.eq]; intro e; cases e; omega), .inl hb1⟩
 ·exact ⟨hw.block b b2 (by rw [hb.eq]; intro e; cases e; omega), .inr ⟨b1, n3_ b2 hw.size, b3⟩⟩
theorem stp_lets (hb : KB w0.heap.size ws q bm) (h0 : Ext w0 w) {TA' : Option Addr} (hT : Own ws 3 1 w TA tn tc (tys.map (.int .i64))) (hg : Gro w TA w' TA') : Stp w0 ws w A TA w' A TA' := by
 have hle := hb.le
 have hs := h0.size
 refine ⟨h0.then ⟨hg.wr.os, hg.wr.tape, hg.wr.output, hg.wr.size, fun k hk => hg.wr.block k (by omega) (fun e => by have := own_blk hT k e.symm; omega)⟩, fun b hb1 => ?_, hg.wr.size⟩
 rcases hb1 with hb1 | ⟨b1, b2, b3, b4⟩
 ·exact ⟨hg.wr.block b (by omega) (fun e => by have := own_blk hT b e.symm; omega), .inl hb1⟩
 ·refine ⟨hg.wr.block b b2 (Ne.symm b4), .inr ⟨b1, n3_ b2 hg.wr.size, b3, fun e => ?_⟩⟩
  rcases hg.at_ with e1 | ⟨b0, e1, e2⟩
  ·rw [e1] at e; exact b4 e
  ·rw [e1] at e; cases e; omega
end
theorem fSt0 : Fld Tryz.prog 180 0 0 := ⟨by kernel_rfl⟩
theorem fSt1 : Fld Tryz.prog 180 1 1 := ⟨by kernel_rfl⟩
def ckP (s : PS) (x : CK) (p : PT) : (Int × Int) ⊕ CK := match ckC s x p.c with
 | .inl f => .inl f
 | .inr y => ckG y p.g
theorem ckS_cons (s : PS) (p : PT) (l : List (PS × PT)) (x : CK) : ckS ((s, p) :: l) x = match ckP s x p with | .inl f => .inl f | .inr z => ckS l z := by
 rw [ckS, ckP]
 cases ckC s x p.c with
 | inl f => rfl
 | inr y => rfl
def CKs (w0s ws : Nat) (w : World) (q : Addr) (bm : Nat) (x : CK) (A TA : Option Addr) : Prop := ∃ tn tc na c, KC w0s ws w q bm (fN x.names) x.tys x.acc TA A tn tc na c
def StR (w0 : World) (ws : Nat) (w : World) (q : Addr) (bm : Nat) (x : CK) (A TA : Option Addr) (e : SV) (r : Value) (w' : World) : Prop :=
 ∃ cv gv er, r = .tuple ⟨[.agg ⟨[.int .i64 e.s.k, .string e.s.nm, cv, gv, .int .i64 e.i]⟩, er]⟩ ∧ cv.oneCell' = true ∧ gv.oneCell' = true ∧ Ext w0 w' ∧ match ckP e.s x e.p with
  | .inl f => er = misV f.1 f.2 ∧ f.1 ≠ 0
  | .inr y => er = .nilIface ∧ ∃ A' TA', Stp w0 ws w A TA w' A' TA' ∧ CKs w0.heap.size ws w' q bm y A' TA' ∧ XK y ∧ optV (DT w0.heap.size w.heap.size w' A' TA') w' (e.p.c.map (resT x.names)) cv ∧ optV (DT w0.heap.size w.heap.size w' A' TA') w' (e.p.g.map (resT y.names)) gv
theorem check_w {w0 : World} {ws : Nat} {w : World} {q : Addr} {bm : Nat} (hb : KB w0.heap.size ws q bm) (h0 : Ext w0 w) {x : CK} (hX : XK x) {TA A : Option Addr} {tn tc na c : Nat} (hK : KC w0.heap.size ws w q bm (fN x.names) x.tys x.acc TA A tn tc na c) {t : Tr} {v : Value} (ht : TreeV (fun b => b < w0.heap.size) w t v) (hgd : goodT x.tys.length t) (hn : na + (po t).length ≤ 4000) :
  GC Tryz.prog 160 [.pointer (some q), v] w fun r w' => ∃ A' na' c' v' e ty, r = .tuple ⟨[v', .int .i64 ty, e]⟩ ∧ v'.oneCell' = true ∧ Stp w0 ws w A TA w' A' TA ∧ Gr2 w q A w' A' ∧ KC w0.heap.size ws w' q bm (fN x.names) x.tys (walkL x.names x.tys (po t) x.acc).1 TA A' tn tc na' c' ∧ na' = (walkL x.names x.tys (po t) x.acc).1.length ∧
   ((walkL x.names x.tys (po t) x.acc).2 = 0 → e = .nilIface ∧ ty = (tyT x.names x.tys t).1 ∧ TreeV (DN (fun b => b < w0.heap.size) w w' A') w' (resT x.names t) v') ∧ ((walkL x.names x.tys (po t) x.acc).2 ≠ 0 → e = misV (walkL x.names x.tys (po t) x.acc).2 na') := by
 have hs := h0.size
 have hq := hb.hq
 have hle := hb.le
 have h1 := check_g hb hX.eq (dep t) t (n1_ _) hgd v w (fun b => b < w0.heap.size) x.acc A na c hK hn ht (fun b hb1 => ⟨by omega, by omega, fun e => by have := own_blk hK.rA b e; omega⟩)
 refine ⟨h1.1, h1.2.mono fun e w' he => ?_⟩
 obtain ⟨r, rfl, A', na', c', v', er, ev, hg, hK', hc0, hc1⟩ := he
 obtain ⟨k1, k2, k3⟩ := chk_walk x.names x.tys t x.acc
 rw [k1] at hK'
 rw [k2] at hc0 hc1
 have hst := stp_gr2 hb hK h0 hg
 have hvo : v'.oneCell' = true := by
  by_cases hz : (walkL x.names x.tys (po t) x.acc).2 = 0
  ·exact (TreeV.one (hc0 hz).2).1
  ·rw [(hc1 hz).2]; rfl
 refine ⟨r, rfl, A', na', c', v', er, _, ev, hvo, hst, hg, hK', hK'.len.2.symm, fun hz => ⟨(hc0 hz).1, (k3 hz).2, (hc0 hz).2⟩, fun hz => (hc1 hz).1⟩
theorem stp_new {w0 w w' w2 : World} {ws : Nat} {A TA A' TA' : Option Addr} (h : Stp w0 ws w A TA w' A' TA') (h0 : Ext w0 w) {X : Option Addr} (hw : Wr X w' w2) {e : TypeId} {k m cc : Nat} {xs : List Value} (hX : Own w.heap.size e k w' X m cc xs) : Stp w0 ws w A TA w2 A' TA' := by
 have h0s := h0.size
 have hbel := hw.bel hX h.size
 refine ⟨h.ext.then (RowKit.Below.mono hbel h0s), fun b hb => ?_, n2_ h.size hw.size⟩
 have hbl : b < w.heap.size := by rcases hb with hb | hb <;> omega
 obtain ⟨h1, h2⟩ := h.keep b hb
 refine ⟨(hbel.block b hbl).trans h1, ?_⟩
 rcases h2 with h2 | ⟨b1, b2, b3⟩
 ·exact .inl h2
 ·exact .inr ⟨b1, n3_ b2 hw.size, b3⟩
theorem mget_res (names : List ByteArray) (s : ByteArray) : (mget (fN names) s = none ∧ resN names s = none) ∨ ∃ ty u, mget (fN names) s = some (.iface ty u) ∧ (resN names s).isSome = true := by
 rw [fN_get]
 unfold resN
 cases posF attrs s with
 | some k => exact .inr ⟨_, _, rfl, rfl⟩
 | none => cases posF names s with
  | some k => exact .inr ⟨_, _, rfl, rfl⟩
  | none => exact .inl ⟨rfl, rfl⟩
theorem kc_new2 {w0s ws : Nat} {w w' w2 : World} {q : Addr} {bm : Nat} {f : List (ByteArray × Value)} {tys acc : List Int} {TA At : Option Addr} {tn tc na c : Nat} (hb : KB w0s ws q bm) (h0 : ws ≤ w.heap.size) (h : KC w0s ws w' q bm f tys acc TA At tn tc na c) {X : Option Addr} (hw : Wr X w' w2) {e : TypeId} {k m cc : Nat} {xs : List Value} (hX : Own w.heap.size e k w' X m cc xs) (hA : Apart At X) (hT : Apart TA X) : KC w0s ws w2 q bm f tys acc TA At tn tc na c := by
 have hX1 : ∀ g, g < w.heap.size → blk X ≠ some g := fun g hg e => by have := (own_blk hX _ e).1; omega
 exact ⟨h.box.wr hw (.inr (by rw [hb.eq]; exact (hX1 _ (by have := hb.hq; omega)).symm)), h.map.wr hw (hX1 _ (by have := hb.m; omega)), h.rT.wr hw hT, h.rA.wr hw hA, h.aTA, n2_ h.hs hw.size⟩
def poO : Option Tr → Nat
 | some t => (po t).length
 | none => 0
theorem stmt_g {w0 : World} {ws : Nat} {q : Addr} {bm : Nat} (hb : KB w0.heap.size ws q bm) {w : World} (h0 : Ext w0 w) {x : CK} {A TA : Option Addr} {tn tc na c : Nat} (hK : KC w0.heap.size ws w q bm (fN x.names) x.tys x.acc TA A tn tc na c) (hX : XK x) (hlt : x.tys.length < 600) {e : SV} {last : Bool} (hs : stmtP last e.s) (snm : e.s.nm.size ≤ 9223372036854775807)
  (hmc : e.p.c.isSome = true ↔ 0 ≤ e.s.c) (hmg : e.p.g.isSome = true ↔ 0 ≤ e.s.g) (hc : optV (fun b => b < w0.heap.size) w e.p.c e.cv) (hg : optV (fun b => b < w0.heap.size) w e.p.g e.gv) (hgc : ∀ t, e.p.c = some t → goodT x.tys.length t) (hgg : ∀ t, e.p.g = some t → goodT x.tys.length t) (hcnt : na + (pos (trs e.p)).length ≤ 4000) (htn : ∀ t, e.p.c = some t → (tyT x.names x.tys t).2 = 0 → (tyT x.names x.tys t).1 ≠ 0) :
  GC Tryz.prog 105 [.pointer (some q), .agg ⟨fV e⟩] w (StR w0 ws w q bm x A TA e) := by
 refine GC.intro (cs := [7, 14]) Tryz.func105 (by kernel_rfl) fun E R hE hr hR => ?_
 obtain ⟨⟨k, nm, cc, gg⟩, ⟨pc, pg⟩, cv, gv, ei⟩ := e
 simp only at hs snm hmc hmg hc hg hgc hgg htn
 have hpos : na + poO pc + poO pg ≤ 4000 := by
  unfold trs at hcnt
  cases pc <;> cases pg <;> simp [pos, poO] at hcnt ⊢ <;> omega
 have hcv := hc.one
 have hgv := hg.one
 unfold fV
 simp only
 conv => cbv
 refine st_box hr fun q3 w1 hx1 hb30 => ?_
 have h3 := hb30 _ (n1_ _)
 have f3 := bx_form h3
 clear hb30
 conv => cbv
 refine st_alloc hr tSt rfl fun q4 w2 hx2 hb40 => ?_
 have h4 := hb40 _ (n1_ _)
 have f4 := bx_form h4
 replace h4 := h4.mono hx1.size
 clear hb40
 replace h3 := h3.bel hx2
 have hx := hx1.trans hx2
 have hK2 := hK.ext hx
 have h02 := h0.trans hx
 have s12 := hx1.size
 have s22 := hx2.size
 have hws := hK.hs
 have n34 : q3.block ≠ q4.block := by omega
 conv => cbv
 have e3 := f3.2.2
 have e4 := f4.2.2
 have bx2 : ∀ {wa wb : World} {Aa Ab : Option Addr} {X : Addr} {ty : TypeId} {xs : List Value}, Gr2 wa q Aa wb Ab → Apart (some X) Aa → Box w.heap.size ty 5 wa X xs → Box w.heap.size ty 5 wb X xs := fun hg ha hX => hg.own hX (fun e => by have := (own_blk hX _ e).1; have := hb.hq; omega) ha
 refine cut_rule [] [14] hr (fun (s : Option Addr × Nat × Nat × List Int × Value × Int) wy => Stp w0 ws w A TA wy s.1 TA ∧ KC w0.heap.size ws wy q bm (fN x.names) x.tys s.2.2.2.1 TA s.1 tn tc s.2.1 s.2.2.1 ∧ s.2.1 + poO pg ≤ 4000 ∧
   Box w.heap.size 180 5 wy q3 [.int .i64 k, .string nm, s.2.2.2.2.1, gv, .int .i64 ei] ∧ Box w.heap.size 180 5 wy q4 zSt ∧ ((Apart s.1 (some q3) ∧ Apart (some q3) s.1) ∧ Apart s.1 (some q4) ∧ Apart (some q4) s.1) ∧ s.2.2.2.2.1.oneCell' = true ∧ optV (DX (fun b => b < w0.heap.size) w wy [blk s.1, blk TA, some q3.block, some q4.block]) wy (pc.map (resT x.names)) s.2.2.2.2.1 ∧ optV (fun b => b < w0.heap.size) wy pg gv ∧
   ((pc = none ∧ s.2.2.2.1 = x.acc) ∨ ∃ t, pc = some t ∧ (walkL x.names x.tys (po t) x.acc).2 = 0 ∧ s.2.2.2.1 = (walkL x.names x.tys (po t) x.acc).1 ∧ s.2.2.2.2.2 = (tyT x.names x.tys t).1))
  (fun s => [(0, .pointer (some q)), (3, .pointer (some q3)), (4, .pointer (some q4)), (7, .int .i64 s.2.2.2.2.2)]) (fun J hJ => ?_) ?_
 ·(refine st_fld hE fSt2 fun p hp => ?_; (conv => cbv); refine st_load hE cTr (by rw [hp]; exact (h3).at _ _ rfl) ?_; (conv => cbv))
  have a3 := hK.rA.apart h3 (n1_ _)
  have a4 := hK.rA.apart h4 (n1_ _)
  cases pc with
  | none =>
   rw [show cv = .nilIface from hc] at h3 ⊢
   refine st_neNil hE Tryz.underlying178 ?_
   conv => cbv
   exact ⟨(A, na, c, x.acc, .nilIface, 0), by simp [Fits, lk], hJ _ _ ⟨stp_ext h0 hx, hK2, by simpa [poO] using hpos, h3, h4, ⟨a3, a4⟩, rfl, rfl, hg.keep (fun b hb1 => hx.block b (by have := h0.size; omega)) (fun b h => h), .inl ⟨rfl, rfl⟩⟩⟩
  | some t =>
   obtain ⟨ty1, u1, rfl⟩ := TreeV.form hc
   refine st_neSome hE Tryz.underlying178 ?_
   conv => cbv
   (refine st_fld hE fSt2 fun p hp => ?_; (conv => cbv); refine st_load hE cTr (by rw [hp]; exact (h3).at _ _ rfl) ?_; (conv => cbv))
   have hc2 : TreeV (fun b => b < w0.heap.size) w2 t (.iface ty1 u1) := TreeV.keep (fun b hb1 => hx.block b (by have := h0.size; omega)) (fun b h => h) _ _ hc
   refine st_g hr (check_w hb h02 hX hK2 hc2 (hgc t rfl) (by simp only [poO] at hpos; omega)) fun r w3 ⟨A', na', c', v', er, ty, ev, hvo, hst, hg2, hK', hna', hc0, hc1⟩ => ?_
   subst ev
   have hst0 := (stp_ext h0 hx).trans hst
   obtain ⟨W2, hW2⟩ : ∃ W, W = (walkL x.names x.tys (po t) x.acc).2 := ⟨_, rfl⟩
   rw [← hW2] at hc0 hc1
   have h3' := bx2 hg2 a3.2 h3
   have h4' := bx2 hg2 a4.2 h4
   conv => cbv
   refine st_fld hE fSt2 fun p hp => ?_
   conv => cbv
   refine st_put hr zTr h3' hp (by simp) hvo fun w4 hw4 h3w => ?_
   simp only [b4_, b5_] at h3w
   have b3 := at_apart h3 a3 hg2.at_ hK'.rA
   have b4 := at_apart h4 a4 hg2.at_ hK'.rA
   have hst4 := stp_new hst0 h0 hw4 h3'
   have hK4 := kc_new hb hK hK' hw4 h3' b3.1
   have h4w := h4'.wr hw4 (bx_apart e4 e3 (Ne.symm n34))
   have s23 := hg2.size
   have s34 := hw4.size
   conv => cbv
   by_cases hz : W2 = 0
   ·obtain ⟨rfl, hty, htv⟩ := hc0 hz
    refine st_neNil hE Tryz.underlying99 ?_
    conv => cbv
    refine ⟨(A', na', c', (walkL x.names x.tys (po t) x.acc).1, v', ty), by simp [Fits, lk], hJ _ _ ⟨hst4, hK4, ?_, h3w, h4w, ⟨b3, b4⟩, hvo, ?_, ?_, .inr ⟨t, rfl, by rw [← hW2]; exact hz, rfl, hty⟩⟩⟩
    ·have := (walkL_len x.names x.tys (po t) x.acc).2.1
     have := hK.len.2
     have e1 : poO (some t) = (po t).length := rfl
     rw [e1] at hpos
     simp only
     omega
    ·refine optV.keep (o := some (resT x.names t)) (D := DN (fun b => b < w0.heap.size) w2 w3 A') htv (fun b hb1 => ?_) (fun b hb1 => ?_)
     ·rcases hb1 with hb1 | ⟨d1, d2, d3⟩
      ·exact hw4.block b (by have := h02.size; omega) (by rw [e3]; intro e; cases e; have := h0.size; omega)
      ·exact hw4.block b d2 (by rw [e3]; intro e; cases e; omega)
     ·rcases hb1 with hb1 | ⟨d1, d2, d3⟩
      ·exact .inl hb1
      ·refine .inr ⟨by omega, by omega, ?_⟩
       simp only [List.mem_cons, List.not_mem_nil, or_false, not_or]
       refine ⟨Ne.symm d3, fun e => ?_, fun e => ?_, fun e => ?_⟩
       ·have := (own_blk hK2.rT b e.symm).2; omega
       ·cases e; omega
       ·cases e; omega
    ·refine hg.keep (fun b hb1 => ?_) (fun b h => h)
     have hdt : DT w0.heap.size ws w A TA b := .inl hb1
     exact (hst4.keep b hdt).1
   ·have her := hc1 hz
    have hck : ckP ⟨k, nm, cc, gg⟩ x ⟨some t, pg⟩ = .inl (W2, (na' : Int)) := by
     unfold ckP
     simp only [ckC]
     rw [if_pos (by rw [← hW2]; exact hz)]
     simp only
     rw [hW2, hna']
    rw [her]
    unfold misV
    refine st_neSome hE Tryz.underlying99 ?_
    conv => cbv
    refine st_loadS hE tSt rfl h3w.at ?_
    conv => cbv
    refine st_putS hr (by kernel_rfl) h4w (add_zero _).symm (by simp [zSt]) (by
     intro y hy
     simp only [List.mem_cons, List.not_mem_nil, or_false] at hy
     rcases hy with rfl | rfl | rfl | rfl | rfl <;> first | rfl | assumption) fun w5 hw5 h5 => ?_
    simp only [zSt, a1_, a2_, a3_, a4_, a5_, a6_, a7_] at h5
    conv => cbv
    refine st_cell hr tSt rfl h5.at ?_
    rw [hR]
    refine ⟨v', gv, _, rfl, hvo, hgv, (stp_new hst4 h0 hw5 h4w).ext, ?_⟩
    simp only
    rw [hck]
    exact ⟨rfl, hz⟩
 ·clear h3 h4 hK2 h02
  rintro ⟨A1, na1, c1, acc1, cv1, ty1⟩ w3 ⟨hst, hK1, hn1, h3, h4, ⟨b3, b4⟩, hvo, hcv1, hgv1, hor⟩
  simp only at hst hK1 hn1 h3 h4 b3 b4 hvo hcv1 hgv1 hor
  conv => cbv
  refine cut_rule [] [] hr (fun (s : CK × (Option Addr × Option Addr) × (Nat × Nat × Nat × Nat)) wy => ckC ⟨k, nm, cc, gg⟩ x pc = .inr s.1 ∧ XK s.1 ∧ (∀ t, pg = some t → s.1.tys = x.tys) ∧ Stp w0 ws w A TA wy s.2.1.1 s.2.1.2 ∧ KC w0.heap.size ws wy q bm (fN s.1.names) s.1.tys s.1.acc s.2.1.2 s.2.1.1 s.2.2.1 s.2.2.2.1 s.2.2.2.2.1 s.2.2.2.2.2 ∧ s.2.2.2.2.1 + poO pg ≤ 4000 ∧
    Box w.heap.size 180 5 wy q3 [.int .i64 k, .string nm, cv1, gv, .int .i64 ei] ∧ Box w.heap.size 180 5 wy q4 zSt ∧ ((Apart s.2.1.1 (some q3) ∧ Apart (some q3) s.2.1.1) ∧ Apart s.2.1.1 (some q4) ∧ Apart (some q4) s.2.1.1) ∧ (Apart s.2.1.2 (some q3) ∧ Apart s.2.1.2 (some q4)) ∧ optV (DX (fun b => b < w0.heap.size) w wy [blk s.2.1.1, blk s.2.1.2, some q3.block, some q4.block]) wy (pc.map (resT x.names)) cv1 ∧ optV (fun b => b < w0.heap.size) wy pg gv)
   (fun s => [(0, .pointer (some q)), (3, .pointer (some q3)), (4, .pointer (some q4))]) (fun J hJ => ?_) ?_
  ·have hk1 : k = 1 → ∃ t, pc = some t ∧ (walkL x.names x.tys (po t) x.acc).2 = 0 ∧ acc1 = (walkL x.names x.tys (po t) x.acc).1 ∧ ty1 = (tyT x.names x.tys t).1 := fun hk => by
    rcases hor with ⟨h1, _⟩ | h1
    ·have : 0 ≤ cc := by unfold stmtP at hs; rw [if_pos hk] at hs; exact hs.2.2.1
     have := hmc.2 this
     rw [h1] at this; simp at this
    ·exact h1
   conv => cbv
   refine draw_q hr fol (by kernel_rfl) fun E' hE' => ?_
   conv => cbv
   (refine st_fld hE' fSt0 fun p hp => ?_; (conv => cbv); refine st_load hE' cInt (by rw [hp]; exact (h3).at _ _ rfl) ?_; (conv => cbv))
   refine br (fun g => ?_) (fun g => ?_)
   ·have g : k = 1 := by simpa [hE'.cmp, cmpR] using g
    conv => cbv
    refine st_nil hE' ?_
    conv => cbv
    refine st_fld hE' fCk1 fun p hp => ?_
    conv => cbv
    refine st_load hE' cMp (by rw [hp]; exact hK1.box.at 1 _ rfl) ?_
    conv => cbv
    (refine st_fld hE' fSt1 fun p hp => ?_; (conv => cbv); refine st_load hE' cStr (by rw [hp]; exact (h3).at _ _ rfl) ?_; (conv => cbv))
    refine st_imget hE' uMp uStr (by kernel_rfl) hK1.map ?_
    rcases mget_res x.names nm with ⟨m1, m2⟩ | ⟨mt, mu, m1, m2⟩
    ·rw [m1]
     conv => cbv
     refine st_neNil hE' Tryz.underlying178 ?_
     conv => cbv
     intro w4 hs4
     have hK4 := hK1.ext hs4.ext
     have h34 := h3.bel hs4.ext
     have h44 := h4.bel hs4.ext
     have hst4 := hst.trans (stp_ext hst.ext hs4.ext)
     conv => cbv
     (refine st_fld hE fSt0 fun p hp => ?_; (conv => cbv); refine st_load hE cInt (by rw [hp]; exact (h34).at _ _ rfl) ?_; (conv => cbv))
     refine br (fun g2 => absurd g (by have : k = 2 := by simpa [hE.cmp, cmpR] using g2
                                       omega)) (fun _ => ?_)
     conv => cbv
     (refine st_fld hE fSt0 fun p hp => ?_; (conv => cbv); refine st_load hE cInt (by rw [hp]; exact (h34).at _ _ rfl) ?_; (conv => cbv))
     refine br (fun _ => ?_) (fun g2 => absurd g (by simpa [hE.cmp, cmpR] using g2))
     conv => cbv
     refine draw_t [0, 1, 2, 3, 4, 5, 6, 7, 8, 9, 10, 11, 12] [(13, false)] hr fol (by kernel_rfl) fun E'' hE'' w5 hs5 S hS => ?_
     have hK5 := hK4.ext hs5.ext
     have h35 := h34.bel hs5.ext
     have h45 := h44.bel hs5.ext
     have hst5 := hst4.trans (stp_ext hst4.ext hs5.ext)
     conv => cbv
     refine st_nil hE'' ?_
     conv => cbv
     refine st_fld hE'' fCk1 fun p1 hp1 => ?_
     conv => cbv
     refine st_load hE'' cMp (by rw [hp1]; exact hK5.box.at 1 _ rfl) ?_
     conv => cbv
     refine st_fld hE'' fSt1 fun p2 hp2 => ?_
     conv => cbv
     refine st_load hE'' cStr (by rw [hp2]; exact h35.at 1 _ rfl) ?_
     conv => cbv
     refine st_nil hE'' ?_
     conv => cbv
     refine st_fld hE'' fCk0 fun p3 hp3 => ?_
     conv => cbv
     refine st_load hE'' cInts (by rw [hp3]; exact hK5.box.at 0 _ rfl) ?_
     conv => cbv
     refine st_len hE'' tInts fun xl hxl => ?_
     conv => cbv
     refine st_bLt hE'' ?_
     conv => cbv
     refine st_mk hE'' uLtT ?_
     conv => cbv
     refine st_imput hr uMp uStr hK5.map m1 fun w6 hw6 hm6 => ?_
     obtain ⟨t, rfl, hz0, hac, hty⟩ := hk1 g
     have hlen := hK5.len
     have hXe := hX.eq
     have hm6' : IMap w0.heap.size w6 bm (fN (x.names ++ [nm])) := by
      rw [fN_app, show ((x.names.length : Nat) : Int) = xl by omega]; exact hm6
     have hst6 := hst5.trans (stp_map hb hst5.ext hw6)
     have hbm := hb.m
     have hbq := hb.hq
     have nX : ∀ {X : Option Addr} {ty : TypeId} {kk mm cc' : Nat} {xs : List Value} {wz : World}, Own ws ty kk wz X mm cc' xs → Apart X (mb bm) := fun hX => .inr (fun e => by rw [mb_blk] at e; have := (own_blk hX _ e).1; omega)
     have n3 : Apart (some q3) (mb bm) := .inr (by rw [e3, mb_blk]; intro e; cases e; omega)
     have n4 : Apart (some q4) (mb bm) := .inr (by rw [e4, mb_blk]; intro e; cases e; omega)
     have h36 := h35.wr hw6 n3
     have h46 := h45.wr hw6 n4
     have hK6 : KC w0.heap.size ws w6 q bm (fN (x.names ++ [nm])) x.tys acc1 TA A1 tn tc na1 c1 := ⟨hK5.box.wr hw6 (.inr (by rw [hb.eq, mb_blk]; intro e; exact hb.qm (Option.some.inj e).symm)), hm6', hK5.rT.wr hw6 (nX hK5.rT), hK5.rA.wr hw6 (nX hK5.rA), hK5.aTA, n2_ hK5.hs hw6.size⟩
     conv => cbv
     refine st_nil hE ?_
     conv => cbv
     refine st_fld hE fCk0 fun p4 hp4 => ?_
     conv => cbv
     refine st_load hE cInts (by rw [hp4]; exact hK6.box.at 0 _ rfl) ?_
     conv => cbv
     refine st_one hr tInts rfl rfl fun A7 w7 hx7 hc7 => ?_
     conv => cbv
     have hK7 := hK6.ext hx7
     have hst7 := hst6.trans (stp_ext hst6.ext hx7)
     refine st_appsG hr tInts rfl hK7.rT hc7 rfl (by simp [Value.oneCell']) hK7.hs (by omega) (by omega) fun A8 c8 m8 w8 hm8 hw8 ho8 hk8 => ?_
     subst hm8
     have gT : Gro w7 TA w8 A8 := Gro.app (Ext.refl _) hw8 hk8
     have hst8 := hst7.trans (stp_lets (A := A1) hb hst7.ext hK7.rT gT)
     have bq8 := hK7.box.wr hw8 (own_low hK7.rT hb.hq.2 hb.eq).2
     conv => cbv
     refine st_nil hE ?_
     conv => cbv
     refine st_fld hE fCk0 fun p5 hp5 => ?_
     conv => cbv
     refine st_put hr zInts2 bq8 hp5 (by simp) rfl fun w9 hw9 bq9 => ?_
     simp only [b4_, b5_] at bq9
     have hst9 := hst8.trans (stp_box (A := A1) (TA := A8) hb hst8.ext hw9)
     have h03 := hst.ext
     have stp39 : Stp w0 ws w3 A1 TA w9 A1 A8 := (((((stp_ext h03 hs4.ext).trans (stp_ext hst4.ext hs5.ext)).trans (stp_map hb hst5.ext hw6)).trans (stp_ext hst6.ext hx7)).trans (stp_lets (A := A1) hb hst7.ext hK7.rT gT)).trans (stp_box (A := A1) (TA := A8) hb hst8.ext hw9)
     have ap9 := gro_apart (B := 0) (m := 0) (c := 0) (xs := []) hK7.rA hK7.aTA gT ho8
     have nT : ∀ {X : Addr}, w.heap.size ≤ X.block → blk (some X) = some X.block → Apart (some X) TA := fun hX he => .inr (fun e => by rw [he] at e; have := (own_blk hK.rT _ e.symm).2; omega)
     have hK9 : KC w0.heap.size ws w9 q bm (fN (x.names ++ [nm])) (x.tys ++ [ty1]) acc1 A8 A1 (tn + 1) c8 na1 c1 := ⟨bq9, (hK7.map.wr hw8 (fun e => by have := (own_blk hK7.rT _ e).1; omega)).wr hw9 (by rw [hb.eq]; intro e; exact hb.qm (Option.some.inj e).symm), by rw [List.map_append]; exact ho8.wr hw9 (own_low ho8 hb.hq.2 hb.eq).1, (hK7.rA.wr hw8 hK7.aTA.2).wr hw9 (own_low hK7.rA hb.hq.2 hb.eq).1, ap9, n2_ hK7.hs (n2_ hw8.size hw9.size)⟩
     have g3b : w.heap.size ≤ q3.block := (bx_form h36).1
     have g4b : w.heap.size ≤ q4.block := (bx_form h46).1
     have h39 := ((h36.bel hx7).wr hw8 (nT g3b e3)).wr hw9 (bx_apart e3 hb.eq (by omega))
     have h49 := ((h46.bel hx7).wr hw8 (nT g4b e4)).wr hw9 (bx_apart e4 hb.eq (by omega))
     have hdx : ∀ b, DX (fun b => b < w0.heap.size) w w3 [blk A1, blk TA, some q3.block, some q4.block] b → w9.heap[b]? = w3.heap[b]? ∧ DX (fun b => b < w0.heap.size) w w9 [blk A1, blk A8, some q3.block, some q4.block] b := fun b hb1 => by
      rcases hb1 with hb1 | ⟨d1, d2, d3⟩
      ·exact ⟨(stp39.keep b (.inl hb1)).1, .inl hb1⟩
      ·simp only [List.mem_cons, List.not_mem_nil, or_false, not_or] at d3
       obtain ⟨k1, k2⟩ := stp39.keep b (.inr ⟨by omega, d2, Ne.symm d3.1, Ne.symm d3.2.1⟩)
       refine ⟨k1, .inr ⟨d1, n3_ d2 stp39.size, ?_⟩⟩
       simp only [List.mem_cons, List.not_mem_nil, or_false, not_or]
       rcases k2 with k2 | ⟨_, _, k3, k4⟩
       ·have := h0.size; omega
       ·exact ⟨d3.1, Ne.symm k4, d3.2.2⟩
     have hgn : pg = none := by
      unfold stmtP at hs
      rw [if_pos g] at hs
      cases pg with
      | none => rfl
      | some t2 => have := hmg.1 rfl; simp only at hs; have := hs.2.2.2; omega
     conv => cbv
     exact ⟨(⟨acc1, x.names ++ [nm], x.tys ++ [ty1]⟩, (A1, A8), (tn + 1, c8, na1, c1)), by simp [Fits, lk], hJ _ _ ⟨by
      simp only [ckC]
      rw [if_neg (by simpa using hz0), if_pos g, if_neg (by rw [m2]; simp), hac, hty], ⟨by simp [hX.eq], by simp; omega, fun y hy => by
       rcases List.mem_append.1 hy with hy | hy
       ·exact hX.nz y hy
       ·simp at hy; rw [hy, hty]; exact htn t rfl (walkL_last hz0).1, fun y hy => by
       rcases List.mem_append.1 hy with hy | hy
       ·exact hX.ss y hy
       ·simp at hy; rw [hy]; exact snm⟩, fun t2 ht2 => (by rw [hgn] at ht2; cases ht2), hst9, hK9, hn1, h39, h49, ⟨b3, b4⟩, ⟨(gro_apart (B := 0) (m := 0) (c := 0) (xs := []) (h36.bel hx7) (hK.rT.apart h36 (n1_ _)) gT ho8).1, (gro_apart (B := 0) (m := 0) (c := 0) (xs := []) (h46.bel hx7) (hK.rT.apart h46 (n1_ _)) gT ho8).1⟩, hcv1.keep (fun b h => (hdx b h).1) (fun b h => (hdx b h).2), hgv1.keep (fun b h => (stp39.keep b (.inl h)).1) (fun b h => h)⟩⟩
    ·rw [m1]
     conv => cbv
     refine st_neSome hE' Tryz.underlying178 ?_
     conv => cbv
     intro w4 hs4
     have hK4 := hK1.ext hs4.ext
     have h34 := h3.bel hs4.ext
     have h44 := h4.bel hs4.ext
     have hst4 := hst.trans (stp_ext hst.ext hs4.ext)
     conv => cbv
     refine draw_t [0, 1] [(2, true), (3, false), (4, false)] hr fol (by kernel_rfl) fun E'' hE'' w5 hs5 S hS => ?_
     conv => cbv
     refine st_loadS hE'' tSt rfl (h34.bel hs5.ext).at ?_
     conv => cbv
     obtain ⟨zt, hzt⟩ : ∃ zt : Int, zt = (na1 : Int) - 1 := ⟨_, rfl⟩
     have htop := top_f (hK4.ext hs5.ext) (by omega) 8
     rw [← hzt] at htop
     refine st_f hr htop fun z w6 hx6 ev => ?_
     subst ev
     refine ⟨hS _ hx6, ?_⟩
     conv => cbv
     refine st_putS hr (by kernel_rfl) ((h44.bel hs5.ext).bel hx6) (add_zero _).symm (by simp [zSt]) (by
      intro y hy
      simp only [List.mem_cons, List.not_mem_nil, or_false] at hy
      rcases hy with rfl | rfl | rfl | rfl | rfl <;> first | rfl | assumption) fun w7 hw7 h7 => ?_
     simp only [zSt, a1_, a2_, a3_, a4_, a5_, a6_, a7_] at h7
     conv => cbv
     refine st_cell hr tSt rfl h7.at ?_
     obtain ⟨t, rfl, hz0, hac, hty⟩ := hk1 g
     have hck : ckP ⟨k, nm, cc, gg⟩ x ⟨some t, pg⟩ = .inl (8, (na1 : Int) - 1) := by
      unfold ckP
      simp only [ckC]
      rw [if_neg (by simpa using hz0), if_pos g, if_pos m2]
      simp only
      rw [← hac, hK1.len.2]
     rw [hR]
     refine ⟨cv1, gv, misV 8 zt, rfl, hvo, hgv, (stp_new (hst4.trans (stp_ext hst4.ext (hs5.ext.trans hx6))) h0 hw7 ((h44.bel hs5.ext).bel hx6)).ext, ?_⟩
     simp only
     rw [hck, hzt]
     exact ⟨rfl, by simp⟩
   ·have g : k ≠ 1 := by simpa [hE'.cmp, cmpR] using g
    conv => cbv
    intro w4 hs4
    have hK4 := hK1.ext hs4.ext
    have h34 := h3.bel hs4.ext
    have h44 := h4.bel hs4.ext
    have stp34 : Stp w0 ws w3 A1 TA w4 A1 TA := stp_ext hst.ext hs4.ext
    have hst4 := hst.trans stp34
    have hdx : ∀ b, DX (fun b => b < w0.heap.size) w w3 [blk A1, blk TA, some q3.block, some q4.block] b → w4.heap[b]? = w3.heap[b]? ∧ DX (fun b => b < w0.heap.size) w w4 [blk A1, blk TA, some q3.block, some q4.block] b := fun b hb1 => by
     rcases hb1 with hb1 | ⟨d1, d2, d3⟩
     ·exact ⟨(stp34.keep b (.inl hb1)).1, .inl hb1⟩
     ·exact ⟨hs4.ext.block b d2, .inr ⟨d1, n3_ d2 hs4.ext.size, d3⟩⟩
    have good : ckC ⟨k, nm, cc, gg⟩ x pc = .inr ⟨acc1, x.names, x.tys⟩ → _ := fun hck => hJ (⟨acc1, x.names, x.tys⟩, (A1, TA), (tn, tc, na1, c1)) w4 ⟨hck, ⟨hX.eq, hX.le, hX.nz, hX.ss⟩, fun _ _ => rfl, hst4, hK4, hn1, h34, h44, ⟨b3, b4⟩, ⟨(hK.rT.apart h34 (n1_ _)).1, (hK.rT.apart h44 (n1_ _)).1⟩, hcv1.keep (fun b h => (hdx b h).1) (fun b h => (hdx b h).2), hgv1.keep (fun b h => (stp34.keep b (.inl h)).1) (fun b h => h)⟩
    conv => cbv
    (refine st_fld hE fSt0 fun p hp => ?_; (conv => cbv); refine st_load hE cInt (by rw [hp]; exact (h34).at _ _ rfl) ?_; (conv => cbv))
    refine br (fun g2 => ?_) (fun g2 => ?_)
    ·have g2 : k = 2 := by simpa [hE.cmp, cmpR] using g2
     have hc0 : 0 ≤ cc := by unfold stmtP at hs; rw [if_neg g, if_pos g2] at hs; exact hs.2.2.1
     obtain ⟨t, rfl, hz0, hac, hty⟩ : ∃ t, pc = some t ∧ (walkL x.names x.tys (po t) x.acc).2 = 0 ∧ acc1 = (walkL x.names x.tys (po t) x.acc).1 ∧ ty1 = (tyT x.names x.tys t).1 := by
      rcases hor with ⟨h1, _⟩ | h1
      ·have := hmc.2 hc0
       rw [h1] at this; simp at this
      ·exact h1
     conv => cbv
     refine br (fun g3 => ?_) (fun g3 => ?_)
     ·have g3 : ty1 ≠ 1 := by simpa [hE.cmp, cmpR] using g3
      conv => cbv
      refine draw_t [0, 1] [(2, true), (3, false), (4, false)] hr fol (by kernel_rfl) fun E'' hE'' w5 hs5 S hS => ?_
      conv => cbv
      refine st_loadS hE'' tSt rfl (h34.bel hs5.ext).at ?_
      conv => cbv
      obtain ⟨zt, hzt⟩ : ∃ zt : Int, zt = (na1 : Int) - 1 := ⟨_, rfl⟩
      have htop := top_f (hK4.ext hs5.ext) (by omega) 9
      rw [← hzt] at htop
      refine st_f hr htop fun z w6 hx6 ev => ?_
      subst ev
      refine ⟨hS _ hx6, ?_⟩
      conv => cbv
      refine st_putS hr (by kernel_rfl) ((h44.bel hs5.ext).bel hx6) (add_zero _).symm (by simp [zSt]) (by
       intro y hy
       simp only [List.mem_cons, List.not_mem_nil, or_false] at hy
       rcases hy with rfl | rfl | rfl | rfl | rfl <;> first | rfl | assumption) fun w7 hw7 h7 => ?_
      simp only [zSt, a1_, a2_, a3_, a4_, a5_, a6_, a7_] at h7
      conv => cbv
      refine st_cell hr tSt rfl h7.at ?_
      have hck : ckP ⟨k, nm, cc, gg⟩ x ⟨some t, pg⟩ = .inl (9, (na1 : Int) - 1) := by
       unfold ckP
       simp only [ckC]
       rw [if_neg (by simpa using hz0), if_neg g, if_pos (by rw [← hty]; exact g3)]
       simp only
       rw [← hac, hK1.len.2]
      rw [hR]
      refine ⟨cv1, gv, misV 9 zt, rfl, hvo, hgv, (stp_new (hst4.trans (stp_ext hst4.ext (hs5.ext.trans hx6))) h0 hw7 ((h44.bel hs5.ext).bel hx6)).ext, ?_⟩
      simp only
      rw [hck, hzt]
      exact ⟨rfl, by simp⟩
     ·have g3 : ¬ ty1 ≠ 1 := by simpa [hE.cmp, cmpR] using g3
      conv => cbv
      (refine st_fld hE fSt0 fun p hp => ?_; (conv => cbv); refine st_load hE cInt (by rw [hp]; exact (h34).at _ _ rfl) ?_; (conv => cbv))
      refine br (fun g4 => absurd (by simpa [hE.cmp, cmpR] using g4) g) (fun _ => ?_)
      conv => cbv
      exact ⟨_, by simp [Fits, lk], good (by simp only [ckC]; rw [if_neg (by simpa using hz0), if_neg g, if_neg (by rw [← hty]; exact g3), hac])⟩
    ·have g2 : k ≠ 2 := by simpa [hE.cmp, cmpR] using g2
     conv => cbv
     (refine st_fld hE fSt0 fun p hp => ?_; (conv => cbv); refine st_load hE cInt (by rw [hp]; exact (h34).at _ _ rfl) ?_; (conv => cbv))
     refine br (fun g4 => absurd (by simpa [hE.cmp, cmpR] using g4) g) (fun _ => ?_)
     conv => cbv
     have hpn : pc = none ∧ acc1 = x.acc := by
      rcases hor with h1 | ⟨t, h1, _⟩
      ·exact h1
      ·have : 0 ≤ cc := hmc.1 (by rw [h1]; rfl)
       unfold stmtP at hs
       rw [if_neg g, if_neg g2] at hs
       split at hs
       ·have h5 : cc = -1 := hs.2.2.1
        omega
       ·exact hs.elim
     exact ⟨_, by simp [Fits, lk], good (by rw [hpn.1]; simp only [ckC]; rw [hpn.2])⟩
  ·clear hst hK1 h3 h4 b3 b4 hcv1 hgv1 hor hn1
   rintro ⟨y, ⟨A2, TA2⟩, ⟨tn2, tc2, na2, c2⟩⟩ w5 ⟨hck, hY, hty2, hst, hK5, hn2, h3, h4, ⟨b3, b4⟩, ⟨d3, d4⟩, hcv2, hgv2⟩
   simp only at hck hY hty2 hst hK5 hn2 h3 h4 b3 b4 d3 d4 hcv2 hgv2
   conv => cbv
   (refine st_fld hE fSt3 fun p hp => ?_; (conv => cbv); refine st_load hE cTr (by rw [hp]; exact (h3).at _ _ rfl) ?_; (conv => cbv))
   cases pg with
   | none =>
    have hgn : gv = .nilIface := hgv2
    rw [hgn] at h3 ⊢
    refine st_neNil hE Tryz.underlying178 ?_
    conv => cbv
    refine st_loadS hE tSt rfl h3.at ?_
    conv => cbv
    refine st_putS hr (by kernel_rfl) h4 (add_zero _).symm (by simp [zSt]) (by
     intro y hy
     simp only [List.mem_cons, List.not_mem_nil, or_false] at hy
     rcases hy with rfl | rfl | rfl | rfl | rfl <;> first | rfl | assumption) fun w7 hw7 h7 => ?_
    simp only [zSt, a1_, a2_, a3_, a4_, a5_, a6_, a7_] at h7
    conv => cbv
    refine st_cell hr tSt rfl h7.at ?_
    have hst7 := stp_new hst h0 hw7 h4
    have hck2 : ckP ⟨k, nm, cc, gg⟩ x ⟨pc, none⟩ = .inr y := by unfold ckP; simp only; rw [hck]; rfl
    rw [hR]
    refine ⟨cv1, .nilIface, .nilIface, rfl, hvo, rfl, hst7.ext, ?_⟩
    simp only
    rw [hck2]
    refine ⟨trivial, A2, TA2, hst7, ⟨_, _, _, _, kc_new2 hb hws hK5 hw7 h4 b4.1 d4⟩, hY, hcv2.keep (fun b hb1 => ?_) (fun b hb1 => ?_), rfl⟩
    ·rcases hb1 with hb1 | ⟨d1, d2, d3⟩
     ·exact hw7.block b (by have := hst.ext.size; omega) (by rw [e4]; intro e; cases e; have := h0.size; omega)
     ·simp only [List.mem_cons, List.not_mem_nil, or_false, not_or] at d3
      exact hw7.block b d2 (by rw [e4]; exact d3.2.2.2)
    ·rcases hb1 with hb1 | ⟨d1, d2, d3⟩
     ·exact .inl hb1
     ·simp only [List.mem_cons, List.not_mem_nil, or_false, not_or] at d3
      exact .inr ⟨by omega, n3_ d2 hw7.size, Ne.symm d3.1, Ne.symm d3.2.1⟩
   | some t =>
    obtain ⟨ty3, u3, rfl⟩ := TreeV.form hgv2
    refine st_neSome hE Tryz.underlying178 ?_
    conv => cbv
    (refine st_fld hE fSt3 fun p hp => ?_; (conv => cbv); refine st_load hE cTr (by rw [hp]; exact (h3).at _ _ rfl) ?_; (conv => cbv))
    have e1 : poO (some t) = (po t).length := rfl
    rw [e1] at hn2
    refine st_g hr (check_w hb hst.ext hY hK5 hgv2 (by rw [hty2 t rfl]; exact hgg t rfl) hn2) fun r w6 ⟨A', na', c', v', er, ty, ev, hvo', hst', hg2, hK', hna', hc0, hc1⟩ => ?_
    subst ev
    have hst6 := hst.trans hst'
    obtain ⟨W2, hW2⟩ : ∃ W, W = (walkL y.names y.tys (po t) y.acc).2 := ⟨_, rfl⟩
    rw [← hW2] at hc0 hc1
    have h3' := bx2 hg2 b3.2 h3
    have h4' := bx2 hg2 b4.2 h4
    have b3' := at_apart h3 b3 hg2.at_ hK'.rA
    have b4' := at_apart h4 b4 hg2.at_ hK'.rA
    conv => cbv
    refine st_fld hE fSt3 fun p hp => ?_
    conv => cbv
    refine st_put hr zTr h3' hp (by simp) hvo' fun w7 hw7 h3w => ?_
    simp only [b4_, b5_] at h3w
    have hst7 := stp_new hst6 h0 hw7 h3'
    have hK7 := kc_new2 hb hws hK' hw7 h3' b3'.1 d3
    have h4w := h4'.wr hw7 (bx_apart e4 e3 (Ne.symm n34))
    have s56 := hg2.size
    have s67 := hw7.size
    have hckG : ckP ⟨k, nm, cc, gg⟩ x ⟨pc, some t⟩ = if W2 ≠ 0 then .inl (W2, (na' : Int)) else if (tyT y.names y.tys t).1 ≠ 4 then .inl (9, (na' : Int) - 1) else .inr ⟨(walkL y.names y.tys (po t) y.acc).1, y.names, y.tys⟩ := by
     unfold ckP; simp only; rw [hck]; simp only [ckG]; rw [← hW2, ← hna']
    conv => cbv
    by_cases hz : W2 = 0
    ·obtain ⟨rfl, hty, htv⟩ := hc0 hz
     rw [if_neg (by simpa using hz)] at hckG
     refine st_neNil hE Tryz.underlying99 ?_
     conv => cbv
     refine br (fun g3 => ?_) (fun g3 => ?_)
     ·have g3 : ty ≠ 4 := by simpa [hE.cmp, cmpR] using g3
      rw [if_pos (by rw [← hty]; exact g3)] at hckG
      conv => cbv
      refine draw_t [0, 1] [(2, true), (3, false), (4, false)] hr fol (by kernel_rfl) fun E'' hE'' w8 hs8 S hS => ?_
      conv => cbv
      refine st_loadS hE'' tSt rfl (h3w.bel hs8.ext).at ?_
      conv => cbv
      obtain ⟨zt, hzt⟩ : ∃ zt : Int, zt = (na' : Int) - 1 := ⟨_, rfl⟩
      have hnale : na' ≤ 4001 := by
       have := (walkL_len y.names y.tys (po t) y.acc).2.1
       have := hK5.len.2
       omega
      have htop := top_f (hK7.ext hs8.ext) hnale 9
      rw [← hzt] at htop
      refine st_f hr htop fun z w9 hx9 ev => ?_
      subst ev
      refine ⟨hS _ hx9, ?_⟩
      conv => cbv
      refine st_putS hr (by kernel_rfl) ((h4w.bel hs8.ext).bel hx9) (add_zero _).symm (by simp [zSt]) (by
       intro y hy
       simp only [List.mem_cons, List.not_mem_nil, or_false] at hy
       rcases hy with rfl | rfl | rfl | rfl | rfl <;> first | rfl | assumption) fun w10 hw10 h10 => ?_
      simp only [zSt, a1_, a2_, a3_, a4_, a5_, a6_, a7_] at h10
      conv => cbv
      refine st_cell hr tSt rfl h10.at ?_
      rw [hR]
      refine ⟨cv1, v', misV 9 zt, rfl, hvo, hvo', (stp_new (hst7.trans (stp_ext hst7.ext (hs8.ext.trans hx9))) h0 hw10 ((h4w.bel hs8.ext).bel hx9)).ext, ?_⟩
      simp only
      rw [hckG, hzt]
      exact ⟨rfl, by simp⟩
     ·have g3 : ¬ ty ≠ 4 := by simpa [hE.cmp, cmpR] using g3
      rw [if_neg (by rw [← hty]; exact g3)] at hckG
      conv => cbv
      refine st_loadS hE tSt rfl h3w.at ?_
      conv => cbv
      refine st_putS hr (by kernel_rfl) h4w (add_zero _).symm (by simp [zSt]) (by
       intro y hy
       simp only [List.mem_cons, List.not_mem_nil, or_false] at hy
       rcases hy with rfl | rfl | rfl | rfl | rfl <;> first | rfl | assumption) fun w8 hw8 h8 => ?_
      simp only [zSt, a1_, a2_, a3_, a4_, a5_, a6_, a7_] at h8
      conv => cbv
      refine st_cell hr tSt rfl h8.at ?_
      have hst8 := stp_new hst7 h0 hw8 h4w
      rw [hR]
      refine ⟨cv1, v', .nilIface, rfl, hvo, hvo', hst8.ext, ?_⟩
      simp only
      rw [hckG]
      have s78 := hw8.size
      have hs05 := hst.ext.size
      have h0s := h0.size
      refine ⟨trivial, A', TA2, hst8, ⟨_, _, _, _, kc_new2 hb hws hK7 hw8 h4w b4'.1 d4⟩, ⟨hY.eq, hY.le, hY.nz, hY.ss⟩, hcv2.keep (fun b hb1 => ?_) (fun b hb1 => ?_), TreeV.keep (fun b hb1 => ?_) (fun b hb1 => ?_) _ _ htv⟩
      ·have k1 : b < w5.heap.size ∧ b ≠ q3.block ∧ b ≠ q4.block ∧ DT w0.heap.size ws w5 A2 TA2 b := by
        rcases hb1 with hb1 | ⟨d1, d2, d5⟩
        ·exact ⟨by omega, by omega, by omega, .inl hb1⟩
        ·simp only [List.mem_cons, List.not_mem_nil, or_false, not_or] at d5
         exact ⟨d2, fun e => d5.2.2.1 (by rw [e]), fun e => d5.2.2.2 (by rw [e]), .inr ⟨by omega, d2, Ne.symm d5.1, Ne.symm d5.2.1⟩⟩
       rw [hw8.block b (by omega) (by rw [e4]; intro e; cases e; exact k1.2.2.1 rfl), hw7.block b (by omega) (by rw [e3]; intro e; cases e; exact k1.2.1 rfl)]
       exact (hst'.keep b k1.2.2.2).1
      ·rcases hb1 with hb1 | ⟨d1, d2, d5⟩
       ·exact .inl hb1
       ·simp only [List.mem_cons, List.not_mem_nil, or_false, not_or] at d5
        rcases (hst'.keep b (.inr ⟨by omega, d2, Ne.symm d5.1, Ne.symm d5.2.1⟩)).2 with k2 | ⟨k2, k3, k4⟩
        ·exact .inl k2
        ·exact .inr ⟨d1, by omega, k4⟩
      ·rcases hb1 with hb1 | ⟨d1, d2, d5⟩
       ·rw [hw8.block b (by omega) (by rw [e4]; intro e; cases e; omega), hw7.block b (by omega) (by rw [e3]; intro e; cases e; omega)]
       ·have := hst.size
        have l3 := (bx_form h3).2.1
        have l4 := (bx_form h4).2.1
        rw [hw8.block b (by omega) (by rw [e4]; intro e; cases e; omega), hw7.block b (by omega) (by rw [e3]; intro e; cases e; omega)]
      ·rcases hb1 with hb1 | ⟨d1, d2, d5⟩
       ·exact .inl hb1
       ·have := hst.size
        exact .inr ⟨by omega, by omega, d5, fun e => by have := (own_blk hK5.rT b e).2; omega⟩
    ·have her := hc1 hz
     rw [if_pos hz] at hckG
     rw [her]
     unfold misV
     refine st_neSome hE Tryz.underlying99 ?_
     conv => cbv
     refine st_loadS hE tSt rfl h3w.at ?_
     conv => cbv
     refine st_putS hr (by kernel_rfl) h4w (add_zero _).symm (by simp [zSt]) (by
      intro y hy
      simp only [List.mem_cons, List.not_mem_nil, or_false] at hy
      rcases hy with rfl | rfl | rfl | rfl | rfl <;> first | rfl | assumption) fun w8 hw8 h8 => ?_
     simp only [zSt, a1_, a2_, a3_, a4_, a5_, a6_, a7_] at h8
     conv => cbv
     refine st_cell hr tSt rfl h8.at ?_
     rw [hR]
     refine ⟨cv1, v', _, rfl, hvo, hvo', (stp_new hst7 h0 hw8 h4w).ext, ?_⟩
     simp only
     rw [hckG]
     exact ⟨rfl, hz⟩
def leafT (l : Nat) (p : PN) : Prop := if p.o = 6 then p.tx = ⟨#[]⟩ ∧ p.xs = [] ∧ 0 ≤ p.z ∧ p.z < 6 else if p.o = 7 then p.tx = ⟨#[]⟩ ∧ p.xs = [] ∧ 0 ≤ p.z ∧ p.z < l else cOK p
theorem cOK_o {p : PN} (h : cOK p) : p.o = 1 ∨ p.o = 2 ∨ p.o = 3 ∨ p.o = 4 := by
 unfold cOK at h
 rcases h with h | h | h | h
 ·exact .inl h.1
 ·exact .inr (.inl h.1)
 ·exact .inr (.inr (.inl h.1))
 ·exact .inr (.inr (.inr h.1))
theorem leafT_mono {l m : Nat} (h : l ≤ m) {p : PN} (hp : leafT l p) : leafT m p := by
 unfold leafT at hp ⊢
 split at hp
 ·rename_i g; rw [if_pos g]; exact hp
 ·rename_i g
  rw [if_neg g]
  split at hp
  ·rename_i g2; rw [if_pos g2]; exact ⟨hp.1, hp.2.1, hp.2.2.1, by have := hp.2.2.2; omega⟩
  ·rename_i g2; rw [if_neg g2]; exact hp
theorem fieldsT_iff {p : PN} (hk : (p.ks.length : Int) = kidsF p.o) : fieldsP true p ↔ nodeOK (leafT 600) p := by
 obtain ⟨o, z, tx, xs, ks⟩ := p
 unfold fieldsP nodeOK leafT cOK
 simp only at hk ⊢
 have h0 : kidsF o = 0 ↔ 1 ≤ o ∧ o ≤ 7 := by unfold kidsF; (repeat' split) <;> omega
 have h1 : 0 ≤ kidsF o := by omega
 by_cases e : 1 ≤ o ∧ o ≤ 7
 ·have hz := h0.2 e
  have : o = 1 ∨ o = 2 ∨ o = 3 ∨ o = 4 ∨ o = 5 ∨ o = 6 ∨ o = 7 := by omega
  rcases this with rfl | rfl | rfl | rfl | rfl | rfl | rfl <;> simp [hk, hz]
  ·constructor
   ·rintro ⟨a, b, c, d⟩; exact ⟨c, d, a, by omega⟩
   ·rintro ⟨a, b, c, d⟩; exact ⟨c, by omega, a, b⟩
  ·constructor
   ·rintro ⟨a, b, c, d⟩; exact ⟨c, d, a, by omega⟩
   ·rintro ⟨a, b, c, d⟩; exact ⟨c, by omega, a, b⟩
 ·have h2 : kidsF o ≠ 0 := fun q => e (h0.1 q)
  have h3 : 1 ≤ kidsF o := by omega
  rw [if_neg (by omega), if_neg (by omega), if_neg (by omega), if_neg (by omega), if_neg (by omega), if_neg (by omega), if_neg (by omega)]
  exact ⟨fun h => ⟨fun q => absurd q h2, fun _ => h.2⟩, fun h => ⟨hk, h.2 h3⟩⟩
theorem nodeOK_mono {lf lf' : PN → Prop} (h : ∀ p, lf p → lf' p) {p : PN} (hp : nodeOK lf p) : nodeOK lf' p := ⟨fun q => h p (hp.1 q), hp.2⟩
theorem stmtM_mono {ns : List PN} {lf lf' : PN → Prop} (h : ∀ p, lf p → lf' p) {last : Bool} {i : Nat} {s : PS} {p : PT} {j : Nat} (hs : stmtM ns lf last i s = some (p, j)) : stmtM ns lf' last i s = some (p, j) := by
 obtain ⟨a, b, c, d, e⟩ := stmtM_iff.1 hs
 exact stmtM_iff.2 ⟨a, b, c, d, fun q pn h1 h2 h3 => nodeOK_mono h (e q pn h1 h2 h3)⟩
theorem runS_mono {ns : List PN} : ∀ (l : List PS) {i lets : Nat} {acc : List PT} {r : List PT × Nat}, lets + l.length ≤ 600 → runS ns leafT l i lets acc = some r → runS ns (fun _ => leafT 600) l i lets acc = some r
 | [], i, lets, acc, r, _, h => h
 | s :: l, i, lets, acc, r, hl, h => by
  rw [runS] at h ⊢
  cases hm : stmtM ns (leafT lets) l.isEmpty i s with
  | none => rw [hm] at h; cases h
  | some x =>
   obtain ⟨p, j⟩ := x
   rw [hm] at h
   simp only [a3_] at hl
   rw [stmtM_mono (fun p => leafT_mono (by omega)) hm]
   simp only at h ⊢
   refine runS_mono l ?_ h
   split <;> omega
def topK : Tr → Prop
 | .con k _ _ _ _ => k ≠ 0
 | .lt n => 0 ≤ n
 | _ => True
theorem topK_nz {names : List ByteArray} {tys : List Int} {t : Tr} (ht : topK t) (he : names.length = tys.length) (hn : ∀ y ∈ tys, y ≠ 0) (hc : (tyT names tys t).2 = 0) : (tyT names tys t).1 ≠ 0 := by
 have getnz : ∀ i : Nat, i < tys.length → tys.getD i 0 ≠ 0 := fun i hi => by
  rw [List.getD_eq_getElem?_getD, g2_ hi]
  exact hn _ (List.getElem_mem hi)
 have ha : ∀ n : Int, attrF n ≠ 0 := fun n => by unfold attrF; (repeat' split) <;> omega
 cases t with
 | con k n tx xs at_ => exact ht
 | att n => exact ha n
 | lt n =>
  simp only [topK] at ht
  simp only [tyT, tyLt] at hc ⊢
  split at hc
  ·cases hc
  ·rename_i h8; rw [if_neg h8]; exact getnz _ (by omega)
 | nam tx at_ =>
  simp only [tyT, tyNam] at hc ⊢
  split at hc
  ·exact ha _
  ·rename_i hno
   split at hc
   ·cases hc
   ·rename_i i hi
    have := (List.getElem?_eq_some_iff.1 (posF_lt hi)).1
    exact getnz i (by omega)
 | op o kids at_ =>
  rw [tyT] at hc ⊢
  split at hc
  ·rename_i h; exact absurd hc h
  ·rename_i h
   rw [if_neg h]
   split at hc
   ·cases hc
   ·rename_i h2; rw [if_neg h2]; exact h2
theorem ists_good {ns : List PN} {lf : PN → Prop} {L : Nat} (h6 : ∀ p, lf p → p.o = 6 → 0 ≤ p.z ∧ p.z < 6) (h7 : ∀ p, lf p → p.o = 7 → 0 ≤ p.z ∧ p.z < L) {a b : Nat} {ks : List Int} {ts : List Tr} (h : IsTs ns a b ks ts) : (∀ q p, a ≤ q → q < b → ns[q]? = some p → nodeOK lf p) → goodTs L ts ∧ ∀ t ∈ ts, topK t := by
 induction h with
 | nil a => intro _; exact ⟨by simp only [goodTs], by simp⟩
 | @cons a b k p ks kids ts hp hk h1 h2 i1 i2 =>
  intro hok
  have e1 := h1.le
  have e2 := h2.le
  obtain ⟨g1, g2⟩ := i1 fun q p h1 h2 => hok q p h1 (by omega)
  obtain ⟨g3, g4⟩ := i2 fun q p h1 h2 => hok q p (by omega) h2
  have hn := hok k p e1 (by omega) hp
  have hkl := h1.len
  have hT : goodT L (mkT p k kids) ∧ topK (mkT p k kids) := by
   unfold mkT
   split
   ·rename_i h0
    have hl := hn.1 h0
    unfold leafF
    split
    ·simp only [goodT, topK]; trivial
    ·split
     ·rename_i h; simp only [goodT, topK]; exact ⟨h6 p hl h, trivial⟩
     ·split
      ·rename_i h; simp only [goodT, topK]; exact ⟨h7 p hl h, (h7 p hl h).1⟩
      ·simp only [goodT, topK]
       refine ⟨trivial, ?_⟩
       unfold knd; (repeat' split) <;> omega
   ·rename_i h0
    simp only [goodT, topK]
    exact ⟨⟨by omega, by omega, g1⟩, trivial⟩
  refine ⟨by simp only [goodTs]; exact ⟨hT.1, g3⟩, fun t ht => ?_⟩
  rcases List.mem_cons.1 ht with rfl | ht
  ·exact hT.2
  ·exact g4 t ht
def GoodS (L : Nat) : List (PS × PT) → Prop
 | [] => True
 | (s, p) :: l => stmtP l.isEmpty s ∧ ((p.c.isSome = true ↔ 0 ≤ s.c) ∧ (p.g.isSome = true ↔ 0 ≤ s.g)) ∧ (∀ t ∈ trs p, goodT L t ∧ topK t) ∧ GoodS (if s.k = 1 then L + 1 else L) l
theorem stmtsP_cons {s : PS} {l : List PS} : stmtsP (s :: l) ↔ stmtP l.isEmpty s ∧ stmtsP l := by
 have e : decide (0 + 1 = (s :: l).length) = l.isEmpty := by cases l <;> simp
 constructor
 ·intro h
  refine ⟨by have := h 0 s rfl; rwa [e] at this, fun k t ht => ?_⟩
  have := h (k + 1) t (by simpa using ht)
  simpa using this
 ·rintro ⟨h1, h2⟩ k t ht
  cases k with
  | zero => simp at ht; subst ht; rw [e]; exact h1
  | succ k => have := h2 k t (by simpa using ht); simpa using this
theorem goodTs_mem {L : Nat} : ∀ {l : List Tr} {t : Tr}, goodTs L l → t ∈ l → goodT L t
 | u :: l, t, h, e => by
  simp only [goodTs] at h
  rcases List.mem_cons.1 e with rfl | e
  ·exact h.1
  ·exact goodTs_mem h.2 e
theorem runS_full {ns : List PN} {lp : Nat → PN → Prop} (h6 : ∀ l p, lp l p → p.o = 6 → 0 ≤ p.z ∧ p.z < 6) (h7 : ∀ l p, lp l p → p.o = 7 → 0 ≤ p.z ∧ p.z < l) : ∀ (l : List PS) {i j lets : Nat} {acc acc' : List PT}, runS ns lp l i lets acc = some (acc', j) →
  ∃ pts, acc' = acc ++ pts ∧ Match l pts ∧ IsTs ns i j (roots l) (pts.flatMap trs) ∧ (∀ t ∈ pts.flatMap trs, dep t ≤ 64) ∧ GoodS lets (l.zip pts)
 | [], i, j, lets, acc, acc', h => by
  rw [runS] at h
  cases h
  exact ⟨[], by simp, ⟨rfl, by simp⟩, by simpa [roots] using IsTs.nil i, by simp, trivial⟩
 | s :: l, i, j, lets, acc, acc', h => by
  rw [runS] at h
  cases hm : stmtM ns (lp lets) l.isEmpty i s with
  | none => rw [hm] at h; cases h
  | some x =>
   obtain ⟨p, m⟩ := x
   rw [hm] at h
   simp only at h
   obtain ⟨a1, a2, a3, a4, a5⟩ := stmtM_iff.1 hm
   obtain ⟨pts, b1, b2, b3, b4, b5⟩ := runS_full h6 h7 l h
   obtain ⟨g1, g2⟩ := ists_good (h6 lets) (h7 lets) a3 a5
   have hg : p.g.isSome = true ↔ 0 ≤ s.g := by
    have hl := a3.len
    obtain ⟨c, g⟩ := p
    simp only at a2
    rw [rootS_eq, List.length_append] at hl
    unfold rootO at hl
    simp only [trs] at hl
    by_cases e : 0 ≤ s.c
    ·rw [if_pos e] at hl
     cases c with
     | none => exact absurd (a2.2 e) (by simp)
     | some t =>
      by_cases e2 : 0 ≤ s.g
      ·rw [if_pos e2] at hl
       cases g with
       | none => simp at hl
       | some t2 => simp [e2]
      ·rw [if_neg e2] at hl
       cases g with
       | none => simp; omega
       | some t2 => simp at hl
    ·rw [if_neg e] at hl
     cases c with
     | some t => exact absurd (a2.1 rfl) e
     | none =>
      by_cases e2 : 0 ≤ s.g
      ·rw [if_pos e2] at hl
       cases g with
       | none => simp at hl
       | some t2 => simp [e2]
      ·rw [if_neg e2] at hl
       cases g with
       | none => simp; omega
       | some t2 => simp at hl
   have ez : (l.zip pts).isEmpty = l.isEmpty := by
    have := b2.1
    cases l with
    | nil => rfl
    | cons x l => cases pts with
     | nil => simp at this
     | cons y pts => rfl
   refine ⟨p :: pts, by rw [b1]; simp, match_cons.2 ⟨⟨a2, hg⟩, b2⟩, ?_, ?_, ?_⟩
   ·rw [roots_cons, List.flatMap_cons]; exact a3.append b3
   ·intro t ht
    rw [List.flatMap_cons] at ht
    rcases List.mem_append.1 ht with ht | ht
    ·exact a4 t ht
    ·exact b4 t ht
   ·rw [List.zip_cons_cons, GoodS]
    exact ⟨by rw [ez]; exact a1, ⟨a2, hg⟩, fun t ht => ⟨goodTs_mem g1 ht, g2 t ht⟩, b5⟩
theorem leafT_6 (l : Nat) (p : PN) (h : leafT l p) (h6 : p.o = 6) : 0 ≤ p.z ∧ p.z < 6 := by
 unfold leafT at h; rw [if_pos h6] at h; exact h.2.2
theorem leafT_7 (l : Nat) (p : PN) (h : leafT l p) (h7 : p.o = 7) : 0 ≤ p.z ∧ p.z < l := by
 unfold leafT at h; rw [if_neg (by omega), if_pos h7] at h; exact h.2.2
theorem walkL_all {names : List ByteArray} {tys : List Int} : ∀ {l : List Tr} {acc : List Int}, (walkL names tys l acc).2 = 0 → ∀ u ∈ l, (tyT names tys u).2 = 0
 | [], acc, _ => by simp
 | t :: l, acc, h => by
  rw [walkL] at h
  split at h
  ·rename_i q; exact absurd h q
  ·rename_i q
   intro u hu
   rcases List.mem_cons.1 hu with rfl | hu
   ·exact Classical.byContradiction q
   ·exact walkL_all h u hu
theorem walk_lt {nv : List PN} {a b : Nat} {k : Int} {t : Tr} (h : IsTs nv a b [k] [t]) {names : List ByteArray} {tys : List Int} {acc : List Int} (hc : (walkL names tys (po t) acc).2 = 0) {q : Nat} {p : PN} (h1 : a ≤ q) (h2 : q < b) (hp : nv[q]? = some p) (h7 : p.o = 7) : p.z < tys.length := by
 obtain ⟨_, g⟩ := h.pos
 obtain ⟨u, a', hu, hI⟩ := g (q - a) (by omega)
 rw [show Proofs.YtgnjkdkedjljjaaGreatDoor.pos [t] = po t by simp [Proofs.YtgnjkdkedjljjaaGreatDoor.pos]] at hu
 have hz := walkL_all hc u (m1_ hu)
 rw [show a + (q - a) = q by omega] at hI
 obtain ⟨kn, p', kids, e1, _, hp', _, _, e⟩ := hI.one
 have e1 : q = kn := Int.ofNat.inj e1
 subst e1
 rw [hp] at hp'
 cases hp'
 have e : u = mkT p q kids := by simpa using e
 have hk : kidsF 7 = 0 := by decide
 rw [e, mkT, h7, if_pos hk, leafF, if_neg (by omega), if_neg (by omega), if_pos h7, tyT, tyLt] at hz
 split at hz
 ·cases hz
 ·omega
theorem nodeT_lt {p : PN} {l : Nat} (h : nodeOK (leafT 600) p) (hl : p.o = 7 → p.z < l) : nodeOK (leafT l) p := by
 refine ⟨fun q => ?_, h.2⟩
 have hp := h.1 q
 unfold leafT at hp ⊢
 split at hp
 ·rename_i g; rw [if_pos g]; exact hp
 ·rename_i g
  rw [if_neg g]
  split at hp
  ·rename_i g2; rw [if_pos g2]; exact ⟨hp.1, hp.2.1, hp.2.2.1, hl g2⟩
  ·rename_i g2; rw [if_neg g2]; exact hp
theorem ckC_some {s : PS} {x y : CK} {t : Tr} (h : ckC s x (some t) = .inr y) : (walkL x.names x.tys (po t) x.acc).2 = 0 ∧ (s.k ≠ 1 → y.tys = x.tys) ∧ y.tys.length = (if s.k = 1 then x.tys.length + 1 else x.tys.length) := by
 simp only [ckC] at h
 split at h
 ·cases h
 ·rename_i q
  refine ⟨Classical.byContradiction q, ?_⟩
  split at h
  ·rename_i e
   split at h
   ·cases h
   ·cases h; exact ⟨fun z => absurd e z, by rw [if_pos e]; simp⟩
  ·rename_i e
   split at h
   ·cases h
   ·cases h; exact ⟨fun _ => rfl, by rw [if_neg e]⟩
theorem ckG_some {x y : CK} {t : Tr} (h : ckG x (some t) = .inr y) : (walkL x.names x.tys (po t) x.acc).2 = 0 ∧ y.tys = x.tys := by
 simp only [ckG] at h
 split at h
 ·cases h
 ·rename_i q
  split at h
  ·cases h
  ·cases h; exact ⟨Classical.byContradiction q, rfl⟩
theorem run_of_ck {nv : List PN} {N : Nat} : ∀ {sv : List PS} {pts : List PT} {x y : CK} {i lets : Nat} {acc : List PT}, Match sv pts → stmtsP sv → IsTs nv i N (roots sv) (pts.flatMap trs) → (∀ t ∈ pts.flatMap trs, dep t ≤ 64) → (∀ q p, i ≤ q → q < N → nv[q]? = some p → nodeOK (leafT 600) p) → ckS (sv.zip pts) x = .inr y → x.tys.length = lets →
  runS nv leafT sv i lets acc = some (acc ++ pts, N)
 | [], [], x, y, i, lets, acc, hm, hs, h, hd, hok, hc, hx => by
  simp [roots] at h
  cases h
  rw [runS]; simp
 | [], p :: pts, x, y, i, lets, acc, hm, hs, h, hd, hok, hc, hx => by have := hm.1; simp at this
 | s :: sv, [], x, y, i, lets, acc, hm, hs, h, hd, hok, hc, hx => by have := hm.1; simp at this
 | s :: sv, ⟨c, g⟩ :: pts, x, y, i, lets, acc, hm, hs, h, hd, hok, hc, hx => by
  obtain ⟨⟨h1, h2⟩, h3⟩ := match_cons.1 hm
  simp only at h1 h2
  obtain ⟨s1, s2⟩ := stmtsP_cons.1 hs
  rw [roots_cons, List.flatMap_cons] at h
  obtain ⟨m, ts1, ts2, e, k1, k2⟩ := h.split
  have hl := k1.len
  have hlen : (trs ⟨c, g⟩).length = (rootS s).length := by
   rw [rootS_eq, List.length_append]
   rcases rootO_some h1 with ⟨r1, r2⟩ | ⟨t1, r1, r2⟩ <;> rcases rootO_some h2 with ⟨r3, r4⟩ | ⟨t2, r3, r4⟩ <;> rw [r2, r4] <;> subst r1 <;> subst r3 <;> rfl
  obtain ⟨e1, e2⟩ := List.append_inj e (by rw [hl, hlen])
  rw [← e1] at k1
  rw [← e2] at k2
  have l1 := k1.le
  have l2 := k2.le
  have hdd : ∀ t, t ∈ trs ⟨c, g⟩ ∨ t ∈ pts.flatMap trs → dep t ≤ 64 := fun t ht => hd t (by rw [List.flatMap_cons]; exact List.mem_append.2 ht)
  simp only [List.zip_cons_cons, ckS] at hc
  cases hq : ckC s x c with
  | inl f => rw [hq] at hc; cases hc
  | inr z =>
  rw [hq] at hc
  simp only at hc
  cases hq2 : ckG z g with
  | inl f => rw [hq2] at hc; cases hc
  | inr z2 =>
  rw [hq2] at hc
  simp only at hc
  have hz2 : z2.tys = z.tys := by
   cases g with
   | none => simp only [ckG] at hq2; cases hq2; rfl
   | some t => exact (ckG_some hq2).2
  have hkc : s.k = 1 → c ≠ none ∧ g = none := fun hk => by
   unfold stmtP at s1
   rw [if_pos hk] at s1
   refine ⟨fun q => ?_, ?_⟩
   ·have := h1.2 s1.2.2.1; rw [q] at this; simp at this
   ·cases g with
    | none => rfl
    | some t => have := h2.1 rfl; omega
  have hz : z.tys.length = (if s.k = 1 then x.tys.length + 1 else x.tys.length) ∧ (s.k ≠ 1 → z.tys = x.tys) := by
   cases c with
   | none =>
    simp only [ckC] at hq; cases hq
    exact ⟨by rw [if_neg (fun hk => (hkc hk).1 rfl)], fun _ => rfl⟩
   | some t => exact ⟨(ckC_some hq).2.2, (ckC_some hq).2.1⟩
  have hst : stmtM nv (leafT lets) sv.isEmpty i s = some (⟨c, g⟩, m) := by
   refine stmtM_iff.2 ⟨s1, h1, k1, fun t ht => hdd t (.inl ht), fun q p q1 q2 hp => nodeT_lt (hok q p q1 (by omega) hp) fun h7 => ?_⟩
   rw [rootS_eq] at k1
   obtain ⟨m2, u1, u2, e', j1, j2⟩ := k1.split
   have hl' := j1.len
   have hcl : c.toList.length = (rootO s.c).length := by rcases rootO_some h1 with ⟨r1, r2⟩ | ⟨t1, r1, r2⟩ <;> rw [r2] <;> subst r1 <;> rfl
   obtain ⟨e3, e4⟩ := List.append_inj (show c.toList ++ g.toList = u1 ++ u2 from e') (by rw [hl', hcl])
   rw [← e3] at j1
   rw [← e4] at j2
   rcases Nat.lt_or_ge q m2 with r | r
   ·rcases rootO_some h1 with ⟨r1, r2⟩ | ⟨t1, r1, r2⟩
    ·rw [r2] at j1; subst r1; have := j1.le; cases j1; omega
    ·rw [r2] at j1; subst r1
     have := walk_lt j1 (ckC_some hq).1 q1 r hp h7
     omega
   ·rcases rootO_some h2 with ⟨r1, r2⟩ | ⟨t1, r1, r2⟩
    ·rw [r2] at j2; subst r1; have := j2.le; cases j2; omega
    ·rw [r2] at j2; subst r1
     have := walk_lt j2 (ckG_some hq2).1 r q2 hp h7
     by_cases hk : s.k = 1
     ·exact absurd (hkc hk).2 (by simp)
     ·rw [hz.2 hk] at this; omega
  rw [runS, hst]
  simp only
  rw [run_of_ck (lets := if s.k = 1 then lets + 1 else lets) (acc := acc ++ [PT.mk c g]) h3 s2 k2 (fun t ht => hdd t (.inr ht)) (fun q p q1 q2 => hok q p (by omega) q2) hc (by rw [hz2, hz.1, hx])]
  simp
theorem wellP_iff {nv : List PN} {sv : List PS} {tyl : List Int} : wellP nv sv tyl ↔ (nv.length ≤ 4000 ∧ 1 ≤ sv.length ∧ sv.length ≤ 600 ∧ ∃ acc, runS nv leafT sv 0 0 [] = some (acc, nv.length)) ∧ ∀ acc, runS nv leafT sv 0 0 [] = some (acc, nv.length) → ∃ x, ckS (sv.zip acc) ⟨[], [], []⟩ = .inr x ∧ x.acc = tyl := by
 constructor
 ·rintro ⟨⟨p1, p2, p3, p4, p5, ts, p6, p7⟩, pts, x, hm, hI, hc, e⟩
  have e2 := (p6.uniq hI).2
  subst e2
  have hr := run_of_ck (acc := []) (lets := 0) hm p5 hI p7 (fun q p q1 q2 hq => (fieldsT_iff (p4 p (m1_ hq)).1).1 (p4 p (m1_ hq))) hc rfl
  rw [a2_] at hr
  refine ⟨⟨p1, p2, p3, _, hr⟩, fun acc ha => ?_⟩
  rw [hr] at ha
  cases ha
  exact ⟨x, hc, e⟩
 ·rintro ⟨⟨p1, p2, p3, acc, hr⟩, hall⟩
  obtain ⟨x, hc, e⟩ := hall acc hr
  have hu := runS_mono sv (by omega) hr
  obtain ⟨q1, ts, q2, q3, q4⟩ := (runS_iff sv).1 ⟨acc, hu⟩
  obtain ⟨pts, b1, b2, b3, b4, b5⟩ := runS_full leafT_6 leafT_7 sv hr
  rw [a2_] at b1
  subst b1
  refine ⟨⟨p1, p2, p3, fun p hp => ?_, q1, ts, q2, q3⟩, acc, x, b2, b3, hc, e⟩
  obtain ⟨q, hq⟩ := List.mem_iff_getElem?.1 hp
  have hl := (List.getElem?_eq_some_iff.1 hq).1
  exact (fieldsT_iff (q2.node q p (by omega) hl hq)).2 (q4 q p (by omega) hl hq)
def cand (a : ByteArray) (first : Bool) (s : ByteArray) : Prop := first = true ∨ blt a s
def NextOf (xs : List ByteArray) (a : ByteArray) (first : Bool) (b : ByteArray) (f : Bool) : Prop :=
 (f = true → b ∈ xs ∧ cand a first b ∧ ∀ s ∈ xs, cand a first s → ¬ blt s b) ∧ (f = false → ∀ s ∈ xs, ¬ cand a first s)
theorem take_succ_get {xs : List ByteArray} {i : Nat} {s : ByteArray} (h : xs[i]? = some s) : xs.take (i + 1) = xs.take i ++ [s] := by
 rw [g4_, h]; rfl
theorem l1next_f {w : World} {A : Option Addr} {n c : Nat} {xs : List ByteArray} (h : Strs w A n c xs) (a : ByteArray) (first : Bool) :
  FC Tryz.prog 273 [.slice A n c, .string a, .bool first] w fun v _ => ∃ b f, v = .tuple ⟨[.string b, .bool f]⟩ ∧ NextOf xs a first b f := by
 refine FC.intro (cs := []) Tryz.func273 (by kernel_rfl) fun E R hE hr hR => ?_
 have hl := h.len
 have hle := h.le
 conv => cbv
 refine st_len hE tStrs fun x hx => ?_
 conv => cbv
 refine loop_rule hr (fun (s : Nat × ByteArray × Bool) w' => s.1 ≤ n ∧ Ext w w' ∧ NextOf (xs.take s.1) a first s.2.1 s.2.2) (fun s => [(1, .string a), (2, .bool first), (12, .slice A n c), (13, .int .i64 x), (14, .int .i64 (E.nat s.1)), (8, .string s.2.1), (9, .bool s.2.2)]) (fun s => n - s.1) (0, ⟨#[]⟩, false)
  (by simp [Fits, lk, hE.nat]) ⟨by simp, Ext.refl w, by simp [NextOf]⟩ ?_
 rintro I hI ⟨i, b, f⟩ w' ⟨hi, hx', hn⟩
 simp only at hi hn
 conv => cbv
 refine br (fun h1 => ?_) (fun h1 => ?_)
 ·have h1 : i < n := by simpa [hE.cmp, cmpR, hE.nat, hx] using h1
  conv => cbv
  refine st_str hE tStrs (h.ext hx') (nk hE i) h1 fun p s gk hsm hp => ?_
  conv => cbv
  refine st_load hE cStr hp ?_
  have et := take_succ_get gk
  have skip : ¬ cand a first s → NextOf (xs.take i ++ [s]) a first b f := by
   intro hc
   refine ⟨fun e => ?_, fun e => ?_⟩
   ·obtain ⟨k1, k2, k3⟩ := hn.1 e
    refine ⟨by simp [k1], k2, fun t ht hct => ?_⟩
    rcases List.mem_append.1 ht with ht | ht
    ·exact k3 t ht hct
    ·rw [List.mem_singleton.1 ht] at hct; exact absurd hct hc
   ·intro t ht hct
    rcases List.mem_append.1 ht with ht | ht
    ·exact hn.2 e t ht hct
    ·rw [List.mem_singleton.1 ht] at hct; exact hc hct
  have look : cand a first s → (f = true → ¬ blt s b) → f = true → NextOf (xs.take i ++ [s]) a first b f := by
   intro hc hb e
   obtain ⟨k1, k2, k3⟩ := hn.1 e
   refine ⟨fun _ => ⟨by simp [k1], k2, fun t ht hct => ?_⟩, fun e' => by rw [e] at e'; cases e'⟩
   rcases List.mem_append.1 ht with ht | ht
   ·exact k3 t ht hct
   ·rw [List.mem_singleton.1 ht]; exact hb e
  have take : cand a first s → (f = true → blt s b) → NextOf (xs.take i ++ [s]) a first s true := by
   intro hc hb
   refine ⟨fun _ => ⟨by simp, hc, fun t ht hct hlt => ?_⟩, fun e' => by cases e'⟩
   rcases List.mem_append.1 ht with ht | ht
   ·cases f with
    | true =>
     obtain ⟨k1, k2, k3⟩ := hn.1 rfl
     exact k3 t ht hct (blt_trans hlt (hb rfl))
    | false => exact hn.2 rfl t ht hct
   ·rw [List.mem_singleton.1 ht] at hlt; exact blt_irrefl _ hlt
  have ei : E.ar .add .i64 (E.nat i) 1 = E.nat (i + 1) := inc hE (by omega)
  have go : ∀ b' f', NextOf (xs.take i ++ [s]) a first b' f' → I (i + 1, b', f') w' := fun b' f' hn' => hI _ _ ⟨by simp only; omega, hx', by simp only; rw [et]; exact hn'⟩
  clear hI
  have hlt : n - (i + 1) < n - i := by omega
  cases first with
  | false =>
   conv => cbv
   refine br (fun g1 => ?_) (fun g1 => ?_)
   ·have g1 : ¬ blt a s := by simp only [hE.scmp] at g1; exact (scmp_leq _ _).1 g1
    conv => cbv
    exact ⟨(i + 1, b, f), by simp [Fits, lk, ei], go _ _ (skip fun hc => hc.elim (by simp) g1), hlt⟩
   ·have g1 : blt a s := by simp only [hE.scmp] at g1; rw [scmp_leq] at g1; exact Classical.not_not.1 g1
    have hc : cand a false s := .inr g1
    cases f with
    | false =>
     conv => cbv
     exact ⟨(i + 1, s, true), by simp [Fits, lk, ei], go _ _ (take hc (by simp)), hlt⟩
    | true =>
     conv => cbv
     refine br (fun g2 => ?_) (fun g2 => ?_)
     ·have g2 : blt s b := by simp only [hE.scmp] at g2; exact (scmp_lss _ _).1 g2
      conv => cbv
      exact ⟨(i + 1, s, true), by simp [Fits, lk, ei], go _ _ (take hc fun _ => g2), hlt⟩
     ·have g2 : ¬ blt s b := by simp only [hE.scmp] at g2; rw [scmp_lss] at g2; exact g2
      conv => cbv
      exact ⟨(i + 1, b, true), by simp [Fits, lk, ei], go _ _ (look hc (fun _ => g2) rfl), hlt⟩
  | true =>
   have hc : cand a true s := .inl rfl
   cases f with
   | false =>
    conv => cbv
    exact ⟨(i + 1, s, true), by simp [Fits, lk, ei], go _ _ (take hc (by simp)), hlt⟩
   | true =>
    conv => cbv
    refine br (fun g2 => ?_) (fun g2 => ?_)
    ·have g2 : blt s b := by simp only [hE.scmp] at g2; exact (scmp_lss _ _).1 g2
     conv => cbv
     exact ⟨(i + 1, s, true), by simp [Fits, lk, ei], go _ _ (take hc fun _ => g2), hlt⟩
    ·have g2 : ¬ blt s b := by simp only [hE.scmp] at g2; rw [scmp_lss] at g2; exact g2
     conv => cbv
     exact ⟨(i + 1, b, true), by simp [Fits, lk, ei], go _ _ (look hc (fun _ => g2) rfl), hlt⟩
 ·have h1 : i = n := by simp [hE.cmp, cmpR, hE.nat, hx] at h1; omega
  subst h1
  rw [g3_ (by omega)] at hn
  conv => cbv
  rw [hR]; exact ⟨hx', b, f, rfl, hn⟩
def SortOf (xs r : List ByteArray) : Prop := r.Pairwise blt ∧ ∀ s, s ∈ r ↔ s ∈ xs
theorem SortOf.same {xs r r' : List ByteArray} (h : SortOf xs r) (h' : SortOf xs r') : r = r' := rise_ext h.1 h'.1 fun s => by rw [h.2, h'.2]
def left (xs r : List ByteArray) : Nat := (xs.filter fun t => !(r.contains t)).length
theorem left_lt {xs r : List ByteArray} {s : ByteArray} (hs : s ∈ xs) (hr : s ∉ r) : left xs (r ++ [s]) < left xs r := by
 have e : xs.filter (fun t => !((r ++ [s]).contains t)) = (xs.filter fun t => !(r.contains t)).filter fun t => !(t == s) := by
  rw [List.filter_filter]
  congr 1
  funext t
  by_cases e : t = s <;> simp [e]
 unfold left
 rw [e]
 refine List.length_filter_lt_length_iff_exists.2 ⟨s, ?_, by simp⟩
 simp [hs, hr]
theorem l1sorted_f {w : World} {A : Option Addr} {n c : Nat} {xs : List ByteArray} (h : Strs w A n c xs) (hn : n ≤ 1048576) :
  FC Tryz.prog 252 [.slice A n c] w fun v w' => ∃ r, SortOf xs r ∧ Copied w r v w' := by
 refine FC.intro (cs := []) Tryz.func252 (by kernel_rfl) fun E R hE hr hR => ?_
 have hl := h.len
 conv => cbv
 refine st_f hr (l1next_f h ⟨#[]⟩ true) fun v w1 hx ⟨b, f, ev, hb⟩ => ?_
 subst ev
 conv => cbv
 refine loop_rule hr (fun (s : (List ByteArray × Nat × Nat × Option Addr) × ByteArray × Bool) w' => Ext w w' ∧ Own w.heap.size 9 1 w' s.1.2.2.2 s.1.2.1 s.1.2.2.1 (s.1.1.map .string) ∧ s.1.1.Pairwise blt ∧ (∀ t ∈ s.1.1, t ∈ xs) ∧ s.1.1.length + left xs s.1.1 ≤ n ∧
   (s.2.2 = true → s.2.1 ∈ xs ∧ (∀ t ∈ s.1.1, blt t s.2.1) ∧ ∀ t ∈ xs, t ∈ s.1.1 ∨ ¬ blt t s.2.1) ∧ (s.2.2 = false → ∀ t ∈ xs, t ∈ s.1.1))
  (fun s => [(0, .slice A n c), (3, .slice s.1.2.2.2 s.1.2.1 s.1.2.2.1), (4, .string s.2.1), (5, .bool s.2.2)]) (fun s => left xs s.1.1) (([], 0, 0, none), b, f)
  (by simp [Fits, lk]) ?_ ?_
 ·refine ⟨hx, Own.nil, by simp, by simp, by simp only [a4_, Nat.zero_add, left]; exact hl ▸ List.length_filter_le _ _, fun e => ?_, fun e t ht => absurd (Or.inl rfl) (hb.2 e t ht)⟩
  obtain ⟨k1, k2, k3⟩ := hb.1 e
  exact ⟨k1, by simp, fun t ht => .inr (k3 t ht (.inl rfl))⟩
 clear hx hb
 rintro I hI ⟨⟨r, m, k, B⟩, b, f⟩ w' ⟨hx, ho, hp, hm, hlen, h1, h2⟩
 simp only at ho hp hm hlen h1 h2
 cases f with
 | false =>
  conv => cbv
  rw [hR]; exact ⟨hx, r, ⟨hp, fun s => ⟨hm s, h2 rfl s⟩⟩, B, m, k, rfl, ho.strs fun s hs => h.small s (hm s hs), ho⟩
 | true =>
  obtain ⟨k1, k2, k3⟩ := h1 rfl
  have hnr : b ∉ r := fun hb => blt_irrefl _ (k2 b hb)
  have hlt := left_lt k1 hnr
  have hml := ho.len
  rw [List.length_map, Nat.mul_one] at hml
  conv => cbv
  refine st_one hr tStrs rfl rfl fun A1 w1 hx1 hc1 => ?_
  replace ho := ho.bel hx1
  replace hx := hx.trans hx1
  conv => cbv
  refine st_app hr tStrs rfl ho hc1 rfl hx.size (by omega) (by omega) fun A' c' m' w2 em hbel ho2 => ?_
  replace hx := hx.then hbel
  conv => cbv
  refine st_f hr (l1next_f (h.ext hx) b false) fun v w3 hx3 ⟨b', f', ev, hb'⟩ => ?_
  subst ev
  replace ho2 := ho2.bel hx3
  conv => cbv
  refine ⟨((r ++ [b], m', c', A'), b', f'), by simp [Fits, lk], hI _ _ ⟨hx.trans hx3, ?_, ?_, ?_, ?_, ?_, ?_⟩, hlt⟩
  ·simpa using ho2
  ·exact List.pairwise_append.2 ⟨hp, by simp, by simpa using k2⟩
  ·intro t ht
   rcases List.mem_append.1 ht with ht | ht
   ·exact hm t ht
   ·rw [List.mem_singleton.1 ht]; exact k1
  ·simp only [List.length_append, a3_, a4_]; omega
  ·intro e
   obtain ⟨q1, q2, q3⟩ := hb'.1 e
   have q2 : blt b b' := q2.elim (fun h => by cases h) id
   refine ⟨q1, fun t ht => ?_, fun t ht => ?_⟩
   ·rcases List.mem_append.1 ht with ht | ht
    ·exact blt_trans (k2 t ht) q2
    ·rw [List.mem_singleton.1 ht]; exact q2
   ·rcases k3 t ht with k | k
    ·exact .inl (by simp [k])
    ·by_cases hbt : blt b t
     ·exact .inr (q3 t ht (.inr hbt))
     ·by_cases e2 : t = b
      ·exact .inl (by simp [e2])
      ·exact absurd (blt_tri k e2) hbt
  ·intro e t ht
   have q := hb'.2 e t ht
   rcases k3 t ht with k | k
   ·simp [k]
   ·by_cases e2 : t = b
    ·simp [e2]
    ·exact absurd (.inr (blt_tri k e2)) q
def UnionOf (xs ys r : List ByteArray) (z : Int) : Prop :=
 (¬ (isSet xs ∧ isSet ys) ∧ r = [] ∧ z = 4) ∨ (isSet xs ∧ isSet ys ∧ ∃ q, SortOf (xs ++ ys) q ∧ ((64 < q.length ∧ r = [] ∧ z = 3) ∨ (q.length ≤ 64 ∧ r = q ∧ z = 0)))
theorem UnionOf.same {xs ys r r' : List ByteArray} {z z' : Int} (h : UnionOf xs ys r z) (h' : UnionOf xs ys r' z') : r = r' ∧ z = z' := by
 rcases h with ⟨h1, rfl, rfl⟩ | ⟨h1, h2, q, h3, h4⟩ <;> rcases h' with ⟨k1, rfl, rfl⟩ | ⟨k1, k2, q', k3, k4⟩
 ·exact ⟨rfl, rfl⟩
 ·exact absurd ⟨k1, k2⟩ h1
 ·exact absurd ⟨h1, h2⟩ k1
 ·obtain rfl := h3.same k3
  rcases h4 with ⟨h4, rfl, rfl⟩ | ⟨h4, rfl, rfl⟩ <;> rcases k4 with ⟨k4, rfl, rfl⟩ | ⟨k4, rfl, rfl⟩
  ·exact ⟨rfl, rfl⟩
  ·omega
  ·omega
  ·exact ⟨rfl, rfl⟩
theorem UnionOf.len {xs ys r : List ByteArray} {z : Int} (h : UnionOf xs ys r z) : r.length ≤ 64 := by
 rcases h with ⟨h1, rfl, rfl⟩ | ⟨h1, h2, q, h3, h4⟩
 ·simp
 ·rcases h4 with ⟨h4, rfl, rfl⟩ | ⟨h4, rfl, rfl⟩
  ·simp
  ·exact h4
theorem snil (w : World) : Strs w none 0 0 [] := ⟨rfl, by omega, by omega, ⟨by simp, by simp⟩, by simp⟩
theorem union1_q (p q : Bool) (w : World) : QB Tryz.prog 276 [.bool p, .bool q] w ((true : Bool) = true) := by
 refine QB.intro (cs := []) Tryz.func276 (by kernel_rfl) fun w hx0 w1 hs E R hE hr hR => ?_
 conv => cbv
 exact hR _ _ hs (by simp)
theorem mrg_all {xs ys : List ByteArray} (hx : xs.Pairwise blt) (hy : ys.Pairwise blt) : SortOf (xs ++ ys) (mrg (fun _ _ => true) xs ys) :=
 ⟨mrg_rise _ _ _ hx hy, fun s => by rw [mrg_mem _ _ _ hx hy]; simp⟩
theorem union_f {w : World} {A A' : Option Addr} {n c n' c' : Nat} {xs ys : List ByteArray} {z o v : Addr} (he : Errs w z o v) (h : Strs w A n c xs) (h' : Strs w A' n' c' ys) (hx : xs.Pairwise blt) (hy : ys.Pairwise blt) (hb : n + n' ≤ 2097152) :
  FC Tryz.prog 258 [.slice A n c, .slice A' n' c'] w fun u w' => ∃ q, SortOf (xs ++ ys) q ∧ ((64 < q.length ∧ u = .tuple ⟨[.slice none 0 0, .iface 391 (.pointer (some v))]⟩) ∨
   (q.length ≤ 64 ∧ ∃ A1 n1 c1, u = .tuple ⟨[.slice A1 n1 c1, .nilIface]⟩ ∧ Strs w' A1 n1 c1 q ∧ Own w.heap.size 9 1 w' A1 n1 c1 (q.map .string))) := by
 refine FC.intro (cs := []) Tryz.func258 (by kernel_rfl) fun E R hE hr hR => ?_
 conv => cbv
 refine st_f hr (merge_f h h' (fun _ _ => true) union1_q hb) fun u w1 hx1 hc => ?_
 obtain ⟨A1, n1, c1, rfl, hc, ho⟩ := hc
 have hso := mrg_all hx hy
 have hl := hc.len
 generalize mrg (fun _ _ => true) xs ys = q at hso hc ho hl
 conv => cbv
 refine st_len hE tStrs fun x hxl => ?_
 conv => cbv
 refine br (fun g => ?_) (fun g => ?_)
 ·have g : 64 < n1 := by simp [hE.cmp, cmpR, hxl] at g; omega
  conv => cbv
  refine draw_q hr fol (by kernel_rfl) fun E' hE' => ?_
  conv => cbv
  refine st_load hE' cErr (he.ext hx1).cv ?_
  conv => cbv
  intro w2 hs2
  conv => cbv
  rw [hR]; exact ⟨hx1.trans hs2.ext, q, hso, .inl ⟨by omega, rfl⟩⟩
 ·have g : n1 ≤ 64 := by simp [hE.cmp, cmpR, hxl] at g; omega
  conv => cbv
  rw [hR]; exact ⟨hx1, q, hso, .inr ⟨by omega, A1, n1, c1, rfl, hc, ho⟩⟩
theorem sUnion_f {w : World} {A A' : Option Addr} {n c n' c' : Nat} {xs ys : List ByteArray} (h : Strs w A n c xs) (h' : Strs w A' n' c' ys) (hn : n ≤ 1048576) (hn' : n' ≤ 1048576) :
  FC Tryz.prog 173 [.slice A n c, .slice A' n' c'] w fun u w' => ∃ r k A1 n1 c1, u = .tuple ⟨[.slice A1 n1 c1, .int .i64 k]⟩ ∧ UnionOf xs ys r k ∧ Strs w' A1 n1 c1 r ∧ Own w.heap.size 9 1 w' A1 n1 c1 (r.map .string) := by
 refine FC.intro (cs := []) Tryz.func173 (by kernel_rfl) fun E R hE hr hR => ?_
 have l1 := h.len
 have l2 := h'.len
 conv => cbv
 refine st_qb hE (sIsSet_q h) fun b1 hb1 w1 hs1 => ?_
 cases b1 with
 | false =>
  conv => cbv
  rw [hR]; exact ⟨hs1.ext, [], 4, none, 0, 0, rfl, .inl ⟨fun k => by simpa using hb1.2 k.1, rfl, rfl⟩, snil _, Own.nil⟩
 | true =>
  have g1 := hb1.1 rfl
  conv => cbv
  refine st_qb hE (sIsSet_q (h'.ext hs1.ext)) fun b2 hb2 w2 hs2 => ?_
  have hx := hs1.ext.trans hs2.ext
  cases b2 with
  | false =>
   conv => cbv
   rw [hR]; exact ⟨hx, [], 4, none, 0, 0, rfl, .inl ⟨fun k => by simpa using hb2.2 k.2, rfl, rfl⟩, snil _, Own.nil⟩
  | true =>
   have g2 := hb2.1 rfl
   have q1 := g1.2.2
   have q2 := g2.2.2
   conv => cbv
   have ho : Own w.heap.size 9 1 w2 none 0 0 [] := Own.nil
   refine st_apps hr tStrs rfl ho (h.ext hx).cells (by simp [l1]) (by simp [Value.oneCell']) hx.size (by omega) (by omega) fun A3 c3 m3 w3 em hw ho3 => ?_
   replace hx := hx.then (hw.bel ho hx.size)
   clear ho hw
   conv => cbv
   refine st_apps hr tStrs rfl ho3 (h'.ext hx).cells (by simp [l2]) (by simp [Value.oneCell']) hx.size (by omega) (by omega) fun A4 c4 m4 w4 em2 hw ho4 => ?_
   replace hx := hx.then (hw.bel ho3 hx.size)
   rw [a2_, ← List.map_append] at ho4
   have hst := ho4.strs (fun s hs => (List.mem_append.1 hs).elim (h.small s) (h'.small s))
   clear ho3 hw
   have hs := hx.size
   conv => cbv
   refine st_f hr (l1sorted_f hst (by omega)) fun u w5 hx5 ⟨q, hso, A5, n5, c5, ev, hst5, how⟩ => ?_
   subst ev
   have hl := hst5.len
   replace hx := hx.trans hx5
   conv => cbv
   refine st_len hE tStrs fun x hxl => ?_
   conv => cbv
   refine br (fun g => ?_) (fun g => ?_)
   ·have g : 64 < n5 := by simp [hE.cmp, cmpR, hxl] at g; omega
    conv => cbv
    rw [hR]; exact ⟨hx, [], 3, none, 0, 0, rfl, .inr ⟨g1, g2, q, hso, .inl ⟨by omega, rfl, rfl⟩⟩, snil _, Own.nil⟩
   ·have g : n5 ≤ 64 := by simp [hE.cmp, cmpR, hxl] at g; omega
    conv => cbv
    rw [hR]; exact ⟨hx, q, 0, A5, n5, c5, rfl, .inr ⟨g1, g2, q, hso, .inr ⟨by omega, rfl, rfl⟩⟩, hst5, how.mono hs⟩
theorem uU64 : Tryz.prog.underlying 355 = some (.int .u64) := Tryz.underlying355
theorem uI64' : Tryz.prog.underlying 2 = some (.int .i64) := Tryz.underlying2
theorem cU64 : Cel Tryz.prog 355 := ⟨_, uU64, by simp, by simp⟩
theorem tBig : Stc Tryz.prog 357 3 [.bool false, .int .u64 0, .int .u64 0] := ⟨by kernel_rfl, by kernel_rfl⟩
theorem fB0 : Fld Tryz.prog 357 0 0 := ⟨by kernel_rfl⟩
theorem fB1 : Fld Tryz.prog 357 1 1 := ⟨by kernel_rfl⟩
theorem fB2 : Fld Tryz.prog 357 2 2 := ⟨by kernel_rfl⟩
theorem zBig : (Tryz.prog.info? 357).map (·.size) = some 3 := by kernel_rfl
theorem run_big (n : Bool) (h l : Int) (w : World) : (Instr.build 357 #[(0, .bool n), (1, .int .u64 h), (2, .int .u64 l)]).run Tryz.prog w = .ok (.agg #[.bool n, .int .u64 h, .int .u64 l]) w := by kernel_rfl
section
variable {E : Sym} {w : World} {K : Value → World → Prop} {d : Option Tmp} {ty : TypeId} {pos : String} {aft : Array Edge} {g : Option (Nat × Bool)}
theorem st_big {bq : Bool} (hE : EngB bq Tryz.prog E) {n : Bool} {h l : Int} {x y z : Operand} (hk : K (.agg ⟨[.bool n, .int .u64 h, .int .u64 l]⟩) w) : E.stop ⟨d, .build 357 ⟨[(0, x), (1, y), (2, z)]⟩, ty, pos, aft, g⟩ [.bool n, .int .u64 h, .int .u64 l] w K := by
 refine hE.det (v := .agg ⟨[.bool n, .int .u64 h, .int .u64 l]⟩) (fun w1 _ ρ hρ => ?_) hk
 simp only [opnds, b2_, b3_, b1_, and_true] at hρ
 have := run_big n h l w1
 simp [execOp, hρ.1, hρ.2.1, hρ.2.2, this]
end
def sg (n : Bool) (x : Int) : Int := if n = true then -x else x
def OutOf (v r c : Int) : Prop := (fits v ∧ r = v ∧ c = 0) ∨ (¬ fits v ∧ r = 0 ∧ c = 1)
theorem bigOf_v (k : Int) (hk : fits k) (n : Bool) (m : Int) (hn : n = true ↔ k < 0) (hm : m = k.natAbs) (w : World) :
  VF Tryz.prog 248 [.int .i64 k] w (.agg ⟨[.bool n, .int .u64 0, .int .u64 m]⟩) := by
 refine VF.intro (cs := []) Tryz.func248 (by kernel_rfl) fun w hx0 E R hE hr hR => ?_
 unfold fits at hk
 conv => cbv
 refine st_alloc hr tBig rfl fun a w1 hx ha0 => ?_
 have ha := ha0 _ (n1_ _)
 conv => cbv
 refine br (fun g => ?_) (fun g => ?_)
 ·have g : k < 0 := by simpa [hE.cmp, cmpR] using g
  obtain rfl : n = true := hn.2 g
  obtain ⟨y, hy⟩ : ∃ y, y = k + 1 := ⟨_, rfl⟩
  have e1 : E.ar .add .i64 k 1 = y := by rw [hE.ar, hy]; exact wrap_in (by omega) (by omega)
  conv => cbv
  simp only [e1]
  refine st_neg hE fun r hr' => ?_
  have hr2 : r = -y := by rw [hr', wrap_in (by omega) (by omega)]; omega
  conv => cbv
  refine st_conv hE ⟨_, uI64'⟩ uU64 fun z hz => ?_
  have hz2 : z = r := by rw [hz]; exact u64_in (by omega) (by omega)
  have e2 : E.ar .add .u64 z 1 = m := by
   rw [hE.ar]
   show IntKind.u64.wrap (z + 1) = m
   rw [u64_in (by omega) (by omega), hm]; omega
  conv => cbv
  simp only [e2]
  refine st_big hE ?_
  conv => cbv
  refine st_putS hr zBig ha (add_zero _).symm (by simp) (by simp [Value.oneCell']) fun w2 hw ho2 => ?_
  replace hx := hx.then (hw.bel ha (n2_ (n1_ _) hx.size))
  simp only [a1_, a2_, a3_, a4_, a5_, a6_, a7_] at ho2
  conv => cbv
  refine st_cell hr tBig rfl ho2.at ?_
  rw [hR]; exact ⟨rfl, hx⟩
 ·have g : 0 ≤ k := by simpa [hE.cmp, cmpR] using g
  obtain rfl : n = false := by rw [← Bool.not_eq_true, hn]; omega
  conv => cbv
  refine st_conv hE ⟨_, uI64'⟩ uU64 fun z hz => ?_
  obtain rfl : z = m := by rw [hz, u64_in (by omega) (by omega), hm]; omega
  conv => cbv
  refine st_big hE ?_
  conv => cbv
  refine st_putS hr zBig ha (add_zero _).symm (by simp) (by simp [Value.oneCell']) fun w2 hw ho2 => ?_
  replace hx := hx.then (hw.bel ha (n2_ (n1_ _) hx.size))
  simp only [a1_, a2_, a3_, a4_, a5_, a6_, a7_] at ho2
  conv => cbv
  refine st_cell hr tBig rfl ho2.at ?_
  rw [hR]; exact ⟨rfl, hx⟩
theorem small_f (n : Bool) (h l : Int) (w : World) (h0 : 0 ≤ h) (l0 : 0 ≤ l) (l1 : l < 18446744073709551616) :
  FC Tryz.prog 249 [.agg ⟨[.bool n, .int .u64 h, .int .u64 l]⟩] w fun v _ => ∃ r c, v = .tuple ⟨[.int .i64 r, .int .i64 c]⟩ ∧ OutOf (sg n (h * 18446744073709551616 + l)) r c := by
 refine FC.intro (cs := []) Tryz.func249 (by kernel_rfl) fun E R hE hr hR => ?_
 conv => cbv
 refine st_box hr fun a w1 hx ha0 => ?_
 have ha := ha0 _ (n1_ _)
 conv => cbv
 (refine st_fld hE fB1 fun p hp => ?_; (conv => cbv); refine st_load hE cU64 (by rw [hp]; exact (ha).at _ _ rfl) ?_; (conv => cbv))
 refine br (fun g1 => ?_) (fun g1 => ?_)
 ·have g1 : h ≠ 0 := by simpa [hE.cmp, cmpR] using g1
  conv => cbv
  rw [hR]; exact ⟨hx, 0, 1, rfl, .inr ⟨by unfold fits sg; split <;> omega, rfl, rfl⟩⟩
 have g1 : h = 0 := by simpa [hE.cmp, cmpR] using g1
 subst g1
 conv => cbv
 (refine st_fld hE fB2 fun p hp => ?_; (conv => cbv); refine st_load hE cU64 (by rw [hp]; exact (ha).at _ _ rfl) ?_; (conv => cbv))
 refine br (fun g2 => ?_) (fun g2 => ?_)
 ·have g2 : 9223372036854775808 < l := by simpa [hE.cmp, cmpR] using g2
  conv => cbv
  rw [hR]; exact ⟨hx, 0, 1, rfl, .inr ⟨by unfold fits sg; split <;> omega, rfl, rfl⟩⟩
 have g2 : l ≤ 9223372036854775808 := by simpa [hE.cmp, cmpR] using g2
 conv => cbv
 (refine st_fld hE fB2 fun p hp => ?_; (conv => cbv); refine st_load hE cU64 (by rw [hp]; exact (ha).at _ _ rfl) ?_; (conv => cbv))
 refine br (fun g3 => ?_) (fun g3 => ?_)
 ·have g3 : l = 9223372036854775808 := by simpa [hE.cmp, cmpR] using g3
  subst g3
  have ee : E.cmp .eql 9223372036854775808 9223372036854775808 = true := by rw [hE.cmp]; rfl
  conv => cbv
  (refine st_fld hE fB0 fun p hp => ?_; (conv => cbv); refine st_load hE cBool (by rw [hp]; exact (ha).at _ _ rfl) ?_; (conv => cbv))
  cases n with
  | false =>
   conv => cbv
   rw [hR]; exact ⟨hx, 0, 1, rfl, .inr ⟨by unfold fits sg; simp, rfl, rfl⟩⟩
  | true =>
   conv => cbv
   (refine st_fld hE fB2 fun p hp => ?_; (conv => cbv); refine st_load hE cU64 (by rw [hp]; exact (ha).at _ _ rfl) ?_; (conv => cbv))
   simp only [ee]
   conv => cbv
   rw [hR]; exact ⟨hx, _, 0, rfl, .inl ⟨by unfold fits sg; simp, by unfold sg; simp, rfl⟩⟩
 ·have g3 : l ≠ 9223372036854775808 := by simpa [hE.cmp, cmpR] using g3
  have ee : E.cmp .eql l 9223372036854775808 = false := by rw [hE.cmp]; simpa [cmpR] using g3
  conv => cbv
  (refine st_fld hE fB2 fun p hp => ?_; (conv => cbv); refine st_load hE cU64 (by rw [hp]; exact (ha).at _ _ rfl) ?_; (conv => cbv))
  simp only [ee]
  conv => cbv
  (refine st_fld hE fB0 fun p hp => ?_; (conv => cbv); refine st_load hE cBool (by rw [hp]; exact (ha).at _ _ rfl) ?_; (conv => cbv))
  cases n with
  | false =>
   conv => cbv
   (refine st_fld hE fB2 fun p hp => ?_; (conv => cbv); refine st_load hE cU64 (by rw [hp]; exact (ha).at _ _ rfl) ?_; (conv => cbv))
   refine st_conv hE ⟨_, uU64⟩ uI64' fun z hz => ?_
   obtain rfl : z = l := by rw [hz]; exact wrap_in (by omega) (by omega)
   conv => cbv
   rw [hR]; exact ⟨hx, _, 0, rfl, .inl ⟨by unfold fits sg; simp; omega, by unfold sg; simp, rfl⟩⟩
  | true =>
   conv => cbv
   (refine st_fld hE fB2 fun p hp => ?_; (conv => cbv); refine st_load hE cU64 (by rw [hp]; exact (ha).at _ _ rfl) ?_; (conv => cbv))
   refine st_conv hE ⟨_, uU64⟩ uI64' fun z hz => ?_
   obtain rfl : z = l := by rw [hz]; exact wrap_in (by omega) (by omega)
   conv => cbv
   refine st_neg hE fun r hr' => ?_
   have hr2 : r = -z := by rw [hr', wrap_in (by omega) (by omega)]; omega
   conv => cbv
   rw [hR]; exact ⟨hx, _, 0, rfl, .inl ⟨by unfold fits sg; simp; omega, by unfold sg; simp; omega, rfl⟩⟩
theorem sum_f (n n' : Bool) (l l' : Int) (w : World) (l0 : 0 ≤ l) (l1 : l < 18446744073709551616) (k0 : 0 ≤ l') (k1 : l' < 18446744073709551616) :
  FC Tryz.prog 250 [.agg ⟨[.bool n, .int .u64 0, .int .u64 l]⟩, .agg ⟨[.bool n', .int .u64 0, .int .u64 l']⟩] w fun v _ => ∃ n2 h2 l2, v = .agg ⟨[.bool n2, .int .u64 h2, .int .u64 l2]⟩ ∧ 0 ≤ h2 ∧ 0 ≤ l2 ∧ l2 < 18446744073709551616 ∧ sg n2 (h2 * 18446744073709551616 + l2) = sg n l + sg n' l' := by
 refine FC.intro (cs := []) Tryz.func250 (by kernel_rfl) fun E R hE hr hR => ?_
 conv => cbv
 refine st_box hr fun a w1 hx ha0 => ?_
 have ha := ha0 _ (n1_ _)
 conv => cbv
 refine st_box hr fun b w2 hx2 hb0 => ?_
 have hb := hb0 _ hx.size
 replace ha := ha.bel hx2
 replace hx := hx.trans hx2
 conv => cbv
 refine st_alloc hr tBig rfl fun o w3 hx3 ho0 => ?_
 have ho := ho0 _ hx.size
 replace ha := ha.bel hx3
 replace hb := hb.bel hx3
 replace hx := hx.trans hx3
 clear ha0 hb0 ho0 hx2 hx3
 conv => cbv
 (refine st_fld hE fB0 fun p hp => ?_; (conv => cbv); refine st_load hE cBool (by rw [hp]; exact (ha).at _ _ rfl) ?_; (conv => cbv))
 (refine st_fld hE fB0 fun p hp => ?_; (conv => cbv); refine st_load hE cBool (by rw [hp]; exact (hb).at _ _ rfl) ?_; (conv => cbv))
 refine st_beq hE uBool fun v hv => ?_
 cases v with
 | true =>
  obtain rfl : n = n' := by have := hv.1 rfl; cases n <;> cases n' <;> simp_all
  conv => cbv
  (refine st_fld hE fB2 fun p hp => ?_; (conv => cbv); refine st_load hE cU64 (by rw [hp]; exact (ha).at _ _ rfl) ?_; (conv => cbv))
  (refine st_fld hE fB2 fun p hp => ?_; (conv => cbv); refine st_load hE cU64 (by rw [hp]; exact (hb).at _ _ rfl) ?_; (conv => cbv))
  obtain ⟨y, hy⟩ : ∃ y, y = (l + l') % 18446744073709551616 := ⟨_, rfl⟩
  have e1 : E.ar .add .u64 l l' = y := by rw [hE.ar, hy, ← IntKind.wrap_u64]; rfl
  simp only [e1]
  (refine st_fld hE fB1 fun p hp => ?_; (conv => cbv); refine st_load hE cU64 (by rw [hp]; exact (ha).at _ _ rfl) ?_; (conv => cbv))
  (refine st_fld hE fB1 fun p hp => ?_; (conv => cbv); refine st_load hE cU64 (by rw [hp]; exact (hb).at _ _ rfl) ?_; (conv => cbv))
  have e2 : E.ar .add .u64 0 0 = 0 := by rw [hE.ar]; rfl
  have e3 : E.ar .add .u64 0 1 = 1 := by rw [hE.ar]; rfl
  simp only [e2]
  (refine st_fld hE fB2 fun p hp => ?_; (conv => cbv); refine st_load hE cU64 (by rw [hp]; exact (ha).at _ _ rfl) ?_; (conv => cbv))
  refine br (fun g => ?_) (fun g => ?_)
  ·have g : y < l := by simpa [hE.cmp, cmpR] using g
   conv => cbv
   simp only [e3]
   (refine st_fld hE fB0 fun p hp => ?_; (conv => cbv); refine st_load hE cBool (by rw [hp]; exact (ha).at _ _ rfl) ?_; (conv => cbv))
   refine st_big hE ?_
   conv => cbv
   refine st_putS hr zBig ho (add_zero _).symm (by simp) (by simp [Value.oneCell']) fun w2 hw ho2 => ?_
   replace hx := hx.then (hw.bel ho hx.size)
   simp only [a1_, a2_, a3_, a4_, a5_, a6_, a7_] at ho2
   conv => cbv
   refine st_cell hr tBig rfl ho2.at ?_
   rw [hR]; exact ⟨hx, n, 1, y, rfl, by omega, by omega, by omega, by unfold sg; split <;> omega⟩
  ·have g : l ≤ y := by simpa [hE.cmp, cmpR] using g
   conv => cbv
   (refine st_fld hE fB0 fun p hp => ?_; (conv => cbv); refine st_load hE cBool (by rw [hp]; exact (ha).at _ _ rfl) ?_; (conv => cbv))
   refine st_big hE ?_
   conv => cbv
   refine st_putS hr zBig ho (add_zero _).symm (by simp) (by simp [Value.oneCell']) fun w2 hw ho2 => ?_
   replace hx := hx.then (hw.bel ho hx.size)
   simp only [a1_, a2_, a3_, a4_, a5_, a6_, a7_] at ho2
   conv => cbv
   refine st_cell hr tBig rfl ho2.at ?_
   rw [hR]; exact ⟨hx, n, 0, y, rfl, by omega, by omega, by omega, by unfold sg; split <;> omega⟩
 | false =>
  have hnn : n' = !n := by
   have h2 : ¬ (n = true ↔ n' = true) := fun h => by simpa using hv.2 h
   cases n <;> cases n' <;> simp_all
  subst hnn
  conv => cbv
  (refine st_fld hE fB2 fun p hp => ?_; (conv => cbv); refine st_load hE cU64 (by rw [hp]; exact (ha).at _ _ rfl) ?_; (conv => cbv))
  (refine st_fld hE fB2 fun p hp => ?_; (conv => cbv); refine st_load hE cU64 (by rw [hp]; exact (hb).at _ _ rfl) ?_; (conv => cbv))
  refine br (fun g => ?_) (fun g => ?_)
  ·have g : l' ≤ l := by simpa [hE.cmp, cmpR] using g
   conv => cbv
   (refine st_fld hE fB0 fun p hp => ?_; (conv => cbv); refine st_load hE cBool (by rw [hp]; exact (ha).at _ _ rfl) ?_; (conv => cbv))
   (refine st_fld hE fB2 fun p hp => ?_; (conv => cbv); refine st_load hE cU64 (by rw [hp]; exact (ha).at _ _ rfl) ?_; (conv => cbv))
   (refine st_fld hE fB2 fun p hp => ?_; (conv => cbv); refine st_load hE cU64 (by rw [hp]; exact (hb).at _ _ rfl) ?_; (conv => cbv))
   obtain ⟨y, hy⟩ : ∃ y, y = l - l' := ⟨_, rfl⟩
   have e1 : E.ar .sub .u64 l l' = y := by
    rw [hE.ar, hy]; show IntKind.u64.wrap (l - l') = _; exact u64_in (by omega) (by omega)
   simp only [e1]
   refine st_big hE ?_
   conv => cbv
   refine st_putS hr zBig ho (add_zero _).symm (by simp) (by simp [Value.oneCell']) fun w2 hw ho2 => ?_
   replace hx := hx.then (hw.bel ho hx.size)
   simp only [a1_, a2_, a3_, a4_, a5_, a6_, a7_] at ho2
   conv => cbv
   refine st_cell hr tBig rfl ho2.at ?_
   rw [hR]; exact ⟨hx, n, 0, y, rfl, by omega, by omega, by omega, by cases n <;> simp [sg] <;> omega⟩
  ·have g : l < l' := by simpa [hE.cmp, cmpR] using g
   conv => cbv
   (refine st_fld hE fB0 fun p hp => ?_; (conv => cbv); refine st_load hE cBool (by rw [hp]; exact (hb).at _ _ rfl) ?_; (conv => cbv))
   (refine st_fld hE fB2 fun p hp => ?_; (conv => cbv); refine st_load hE cU64 (by rw [hp]; exact (hb).at _ _ rfl) ?_; (conv => cbv))
   (refine st_fld hE fB2 fun p hp => ?_; (conv => cbv); refine st_load hE cU64 (by rw [hp]; exact (ha).at _ _ rfl) ?_; (conv => cbv))
   obtain ⟨y, hy⟩ : ∃ y, y = l' - l := ⟨_, rfl⟩
   have e1 : E.ar .sub .u64 l' l = y := by
    rw [hE.ar, hy]; show IntKind.u64.wrap (l' - l) = _; exact u64_in (by omega) (by omega)
   simp only [e1]
   obtain ⟨n3, hn3⟩ : ∃ n3, n3 = !n := ⟨_, rfl⟩
   cases n <;> (
    conv => cbv
    refine st_big hE ?_
    conv => cbv
    refine st_putS hr zBig ho (add_zero _).symm (by simp) (by simp [Value.oneCell']) fun w2 hw ho2 => ?_
    replace hx := hx.then (hw.bel ho hx.size)
    simp only [a1_, a2_, a3_, a4_, a5_, a6_, a7_] at ho2
    conv => cbv
    refine st_cell hr tBig rfl ho2.at ?_
    rw [hR]; exact ⟨hx, n3, 0, y, by rw [hn3]; rfl, by omega, by omega, by omega, by subst hn3; simp [sg] <;> omega⟩)
theorem uUint : Tryz.prog.underlying 385 = some (.int .u64) := Tryz.underlying385
theorem dbl {h l : Int} (h0 : 0 ≤ h) (l0 : 0 ≤ l) (l1 : l < 18446744073709551616) (hP : (h * 18446744073709551616 + l) * 2 < 340282366920938463463374607431768211456) :
  IntKind.u64.wrap (h * 2 ^ (min (1 : Int).toNat IntKind.u64.bits)) + l.fdiv (2 ^ (min (63 : Int).toNat IntKind.u64.bits)) < 18446744073709551616 ∧
  (IntKind.u64.wrap (h * 2 ^ (min (1 : Int).toNat IntKind.u64.bits)) + l.fdiv (2 ^ (min (63 : Int).toNat IntKind.u64.bits))) * 18446744073709551616 + IntKind.u64.wrap (l * 2 ^ (min (1 : Int).toNat IntKind.u64.bits)) = (h * 18446744073709551616 + l) * 2 ∧
  0 ≤ l.fdiv (2 ^ (min (63 : Int).toNat IntKind.u64.bits)) ∧ l.fdiv (2 ^ (min (63 : Int).toNat IntKind.u64.bits)) < 2 ∧ IntKind.u64.wrap (h * 2 ^ (min (1 : Int).toNat IntKind.u64.bits)) % 2 = 0 ∧ 0 ≤ IntKind.u64.wrap (h * 2 ^ (min (1 : Int).toNat IntKind.u64.bits)) ∧
  0 ≤ IntKind.u64.wrap (l * 2 ^ (min (1 : Int).toNat IntKind.u64.bits)) ∧ IntKind.u64.wrap (l * 2 ^ (min (1 : Int).toNat IntKind.u64.bits)) < 18446744073709551616 := by
 have e1 : (2 : Int) ^ (min (1 : Int).toNat IntKind.u64.bits) = 2 := by decide
 have e2 : (2 : Int) ^ (min (63 : Int).toNat IntKind.u64.bits) = 9223372036854775808 := by decide
 rw [e1, e2, IntKind.wrap_u64, IntKind.wrap_u64, Int.fdiv_eq_ediv_of_nonneg _ (by omega)]
 omega
theorem half (a : Int) (k : Nat) : a / 2 ^ k = 2 * (a / 2 ^ (k + 1)) + a / 2 ^ k % 2 := by
 have : a / 2 ^ (k + 1) = a / 2 ^ k / 2 := by rw [Int.pow_succ, Int.ediv_ediv_of_nonneg (Int.le_of_lt (Int.pow_pos (by omega)))]
 rw [this]; omega
theorem small_pow {k : Nat} (hk : k < 64) : min ((k : Int)).toNat IntKind.u64.bits = k := by
 have : IntKind.u64.bits = 64 := rfl
 rw [this]; omega
theorem times_f (a b : Int) (w : World) (a0 : 0 ≤ a) (a1 : a < 18446744073709551616) (b0 : 0 ≤ b) (b1 : b < 18446744073709551616) :
  FC Tryz.prog 251 [.int .u64 a, .int .u64 b] w fun v _ => ∃ h l, v = .tuple ⟨[.int .u64 h, .int .u64 l]⟩ ∧ 0 ≤ h ∧ 0 ≤ l ∧ l < 18446744073709551616 ∧ h * 18446744073709551616 + l = a * b := by
 refine FC.intro (cs := []) Tryz.func251 (by kernel_rfl) fun E R hE hr hR => ?_
 conv => cbv
 refine loop_rule hr (fun (s : Nat × Int × Int × Int) w' => w' = w ∧ s.1 ≤ 64 ∧ s.2.1 = (s.1 : Int) - 1 ∧ 0 ≤ s.2.2.1 ∧ 0 ≤ s.2.2.2 ∧ s.2.2.2 < 18446744073709551616 ∧ s.2.2.1 * 18446744073709551616 + s.2.2.2 = a / 2 ^ s.1 * b) (fun s => [(0, .int .u64 a), (1, .int .u64 b), (6, .int .u64 s.2.2.1), (7, .int .u64 s.2.2.2), (8, .int .i64 s.2.1)]) (fun s => s.1) (64, 63, 0, 0)
  (by simp [Fits, lk]) ⟨rfl, by simp, by simp, by simp, by simp, by simp, by simp only; rw [show a / 2 ^ 64 = 0 from Int.ediv_eq_zero_of_lt a0 (by omega)]; simp⟩ ?_
 rintro I hI ⟨k, i, h, l⟩ w' ⟨rfl, hk, hi, h0, l0, l1, hP⟩
 simp only at hk hi h0 l0 l1 hP
 conv => cbv
 refine br (fun g => ?_) (fun g => ?_)
 ·have g : 0 ≤ i := by simpa [hE.cmp, cmpR] using g
  obtain ⟨k, rfl⟩ : ∃ j, k = j + 1 := ⟨k - 1, by omega⟩
  have hi : i = (k : Int) := by omega
  have hh := half a k
  obtain ⟨Q, hQ⟩ : ∃ Q, Q = a / 2 ^ k := ⟨_, rfl⟩
  have q0 : 0 ≤ Q := by rw [hQ]; exact Int.ediv_nonneg a0 (Int.le_of_lt (Int.pow_pos (by omega)))
  have q1 : Q ≤ a := by rw [hQ]; exact Int.ediv_le_self _ a0
  rw [← hQ] at hh
  obtain ⟨q, hq⟩ : ∃ q, q = a / 2 ^ (k + 1) := ⟨_, rfl⟩
  rw [← hq] at hh hP
  have hQb : Q * b ≤ 18446744073709551615 * 18446744073709551615 := Int.mul_le_mul (by omega) (by omega) b0 (by omega)
  have hbit : Q * b = q * b * 2 + Q % 2 * b := by
   have : Q * b = (2 * q + Q % 2) * b := by rw [← hh]
   rw [this, Int.add_mul, Int.mul_assoc, Int.mul_comm 2]
  have hb2 : 0 ≤ Q % 2 * b := Int.mul_nonneg (by omega) b0
  obtain ⟨d1, d2, d3, d4, d5, d6, d7, d8⟩ := dbl h0 l0 l1 (by omega)
  conv => cbv
  refine st_shl hE (by omega) fun r1 hr1 => ?_
  conv => cbv
  refine st_shr hE (by omega) fun r2 hr2 => ?_
  rw [← hr1, ← hr2] at d1 d2
  rw [← hr2] at d3 d4
  rw [← hr1] at d5 d6
  conv => cbv
  refine st_or hE d6 (by omega) d3 (by omega) fun r3 hr3 => ?_
  have hr3' : r3 = r1 + r2 := by
   rw [hr3, even_or (by omega) (by omega)]; omega
  conv => cbv
  refine st_shl hE (by omega) fun r4 hr4 => ?_
  rw [← hr4] at d2 d7 d8
  conv => cbv
  refine st_conv hE ⟨_, uInt⟩ uUint fun r5 hr5 => ?_
  obtain rfl : r5 = i := by rw [hr5]; exact u64_in (by omega) (by omega)
  conv => cbv
  refine st_shr hE (by omega) fun r6 hr6 => ?_
  have hr6' : r6 = Q := by
   rw [hr6, hi, small_pow (by omega), hQ, Int.fdiv_eq_ediv_of_nonneg _ (Int.le_of_lt (Int.pow_pos (by omega)))]
  conv => cbv
  refine st_and hE (by omega) (by omega) (by omega) (by omega) fun r7 hr7 => ?_
  have hr7' : r7 = Q % 2 := by
   rw [hr7, hr6']
   have : (1 : Int).toNat = 1 := rfl
   rw [this, Nat.and_one_is_mod]; omega
  have ed : E.ar .sub .i64 r5 1 = r5 - 1 := by rw [hE.ar]; exact wrap_in (by omega) (by omega)
  obtain ⟨i', hi'⟩ : ∃ i' : Int, i' = r5 - 1 := ⟨_, rfl⟩
  rw [← hi'] at ed
  conv => cbv
  refine br (fun g2 => ?_) (fun g2 => ?_)
  ·have g2 : r7 = 1 := by simpa [hE.cmp, cmpR] using g2
   have hone : Q % 2 * b = b := by rw [← hr7', g2]; omega
   obtain ⟨y, hy⟩ : ∃ y, y = (r4 + b) % 18446744073709551616 := ⟨_, rfl⟩
   have e1 : E.ar .add .u64 r4 b = y := by rw [hE.ar, hy, ← IntKind.wrap_u64]; rfl
   conv => cbv
   simp only [e1]
   refine br (fun g3 => ?_) (fun g3 => ?_)
   ·have g3 : y < r4 := by simpa [hE.cmp, cmpR] using g3
    obtain ⟨z, hz⟩ : ∃ z, z = r3 + 1 := ⟨_, rfl⟩
    have e2 : E.ar .add .u64 r3 1 = z := by
     rw [hE.ar, hz]; show IntKind.u64.wrap (r3 + 1) = _; exact u64_in (by omega) (by omega)
    conv => cbv
    exact ⟨(k, i', z, y), by simp [Fits, lk, e2, ed], hI _ _ ⟨rfl, by simp only; omega, by simp only; omega, by simp only; omega, by simp only; omega, by simp only; omega, by simp only; rw [← hQ]; omega⟩, by simp only; omega⟩
   ·have g3 : r4 ≤ y := by simpa [hE.cmp, cmpR] using g3
    conv => cbv
    exact ⟨(k, i', r3, y), by simp [Fits, lk, ed], hI _ _ ⟨rfl, by simp only; omega, by simp only; omega, by simp only; omega, by simp only; omega, by simp only; omega, by simp only; rw [← hQ]; omega⟩, by simp only; omega⟩
  ·have g2 : r7 ≠ 1 := by simpa [hE.cmp, cmpR] using g2
   have hone : Q % 2 * b = 0 := by
    have : Q % 2 = 0 := by omega
    rw [this]; omega
   conv => cbv
   exact ⟨(k, i', r3, r4), by simp [Fits, lk, ed], hI _ _ ⟨rfl, by simp only; omega, by simp only; omega, by simp only; omega, by simp only; omega, by simp only; omega, by simp only; rw [← hQ]; omega⟩, by simp only; omega⟩
 ·have g : i < 0 := by simpa [hE.cmp, cmpR] using g
  obtain rfl : k = 0 := by omega
  rw [Int.pow_zero, Int.ediv_one] at hP
  conv => cbv
  rw [hR]; exact ⟨Ext.refl _, h, l, rfl, h0, l0, l1, hP⟩
def CalcOf (op a b r c : Int) : Prop :=
 (op = 1 ∧ OutOf (a + b) r c) ∨ (op = 2 ∧ OutOf (a - b) r c) ∨ (op = 3 ∧ OutOf (a * b) r c) ∨ ((op = 4 ∨ op = 5) ∧ b = 0 ∧ r = 0 ∧ c = 2) ∨ (op = 4 ∧ b ≠ 0 ∧ OutOf (a.tdiv b) r c) ∨ (op = 5 ∧ b ≠ 0 ∧ OutOf (a.tmod b) r c) ∨ ((op < 1 ∨ 5 < op) ∧ r = 0 ∧ c = 4)
theorem OutOf.same {v r c r' c' : Int} (h : OutOf v r c) (h' : OutOf v r' c') : r = r' ∧ c = c' := by
 rcases h with ⟨h1, rfl, rfl⟩ | ⟨h1, rfl, rfl⟩ <;> rcases h' with ⟨k1, rfl, rfl⟩ | ⟨k1, rfl, rfl⟩
 ·exact ⟨rfl, rfl⟩
 ·exact absurd h1 k1
 ·exact absurd k1 h1
 ·exact ⟨rfl, rfl⟩
theorem CalcOf.same {op a b r c r' c' : Int} (h : CalcOf op a b r c) (h' : CalcOf op a b r' c') : r = r' ∧ c = c' := by
 rcases h with ⟨h0, h⟩ | ⟨h0, h⟩ | ⟨h0, h⟩ | ⟨h0, hb, rfl, rfl⟩ | ⟨h0, hb, h⟩ | ⟨h0, hb, h⟩ | ⟨h0, rfl, rfl⟩ <;>
  rcases h' with ⟨k0, k⟩ | ⟨k0, k⟩ | ⟨k0, k⟩ | ⟨k0, kb, rfl, rfl⟩ | ⟨k0, kb, k⟩ | ⟨k0, kb, k⟩ | ⟨k0, rfl, rfl⟩ <;>
  first
  | exact h.same k
  | exact ⟨rfl, rfl⟩
  | (exfalso; omega)
theorem sg_mul {a b : Int} {n n' v : Bool} (hn : n = true ↔ a < 0) (hn' : n' = true ↔ b < 0) (hv : v = true ↔ ¬ (n = true ↔ n' = true)) : sg v ((a.natAbs : Int) * (b.natAbs : Int)) = a * b := by
 rcases (by omega : a < 0 ∨ 0 ≤ a) with ha | ha <;> rcases (by omega : b < 0 ∨ 0 ≤ b) with hb | hb
 ·have hv : v = false := by rw [← Bool.not_eq_true, hv, hn, hn']; simp [ha, hb]
  rw [hv, show (a.natAbs : Int) = -a by omega, show (b.natAbs : Int) = -b by omega]; simp [sg, Int.neg_mul_neg]
 ·have hv : v = true := by rw [hv, hn, hn']; simp [ha]; omega
  rw [hv, show (a.natAbs : Int) = -a by omega, show (b.natAbs : Int) = b by omega]; simp [sg, Int.neg_mul]
 ·have hv : v = true := by rw [hv, hn, hn']; simp [hb]; omega
  rw [hv, show (a.natAbs : Int) = a by omega, show (b.natAbs : Int) = -b by omega]; simp [sg, Int.mul_neg]
 ·have hv : v = false := by rw [← Bool.not_eq_true, hv, hn, hn']; simp; omega
  rw [hv, show (a.natAbs : Int) = a by omega, show (b.natAbs : Int) = b by omega]; simp [sg]
theorem sg_div {a b : Int} {n n' v : Bool} (hn : n = true ↔ a < 0) (hn' : n' = true ↔ b < 0) (hv : v = true ↔ ¬ (n = true ↔ n' = true)) : sg v ((a.natAbs : Int).tdiv (b.natAbs : Int)) = a.tdiv b := by
 rcases (by omega : a < 0 ∨ 0 ≤ a) with ha | ha <;> rcases (by omega : b < 0 ∨ 0 ≤ b) with hb | hb
 ·have hv : v = false := by rw [← Bool.not_eq_true, hv, hn, hn']; simp [ha, hb]
  rw [hv, show (a.natAbs : Int) = -a by omega, show (b.natAbs : Int) = -b by omega]; simp [sg, Int.neg_tdiv, Int.tdiv_neg]
 ·have hv : v = true := by rw [hv, hn, hn']; simp [ha]; omega
  rw [hv, show (a.natAbs : Int) = -a by omega, show (b.natAbs : Int) = b by omega]; simp [sg, Int.neg_tdiv]
 ·have hv : v = true := by rw [hv, hn, hn']; simp [hb]; omega
  rw [hv, show (a.natAbs : Int) = a by omega, show (b.natAbs : Int) = -b by omega]; simp [sg, Int.tdiv_neg]
 ·have hv : v = false := by rw [← Bool.not_eq_true, hv, hn, hn']; simp; omega
  rw [hv, show (a.natAbs : Int) = a by omega, show (b.natAbs : Int) = b by omega]; simp [sg]
theorem sg_mod {a b : Int} {n : Bool} (hn : n = true ↔ a < 0) : sg n ((a.natAbs : Int).tmod (b.natAbs : Int)) = a.tmod b := by
 have e : ∀ x : Int, x.tmod (b.natAbs : Int) = x.tmod b := fun x => by
  rcases (by omega : b < 0 ∨ 0 ≤ b) with hb | hb
  ·rw [show (b.natAbs : Int) = -b by omega, Int.tmod_neg]
  ·rw [show (b.natAbs : Int) = b by omega]
 rw [e]
 rcases (by omega : a < 0 ∨ 0 ≤ a) with ha | ha
 ·rw [hn.2 ha, show (a.natAbs : Int) = -a by omega, Int.neg_tmod]; simp [sg]
 ·have : n = false := by rw [← Bool.not_eq_true, hn]; omega
  rw [this, show (a.natAbs : Int) = a by omega]; simp [sg]
theorem sg_of {a : Int} {n : Bool} (hn : n = true ↔ a < 0) : sg n (a.natAbs : Int) = a := by
 unfold sg
 split
 ·rename_i h; have := hn.1 h; omega
 ·rename_i h; have : ¬ a < 0 := fun k => h (hn.2 k)
  omega
theorem calc_f {w : World} {z o v : Addr} (he : Errs w z o v) (op a b : Int) (ha : fits a) (hb : fits b) (h1 : 1 ≤ op) (h5 : op ≤ 5) :
  FC Tryz.prog 257 [.int .i64 op, .int .i64 a, .int .i64 b] w fun u _ => ∃ r, (u = .tuple ⟨[.int .i64 r, .nilIface]⟩ ∧ CalcOf op a b r 0) ∨ (u = .tuple ⟨[.int .i64 r, .iface 391 (.pointer (some o))]⟩ ∧ CalcOf op a b r 1) ∨ (u = .tuple ⟨[.int .i64 r, .iface 391 (.pointer (some z))]⟩ ∧ CalcOf op a b r 2) := by
 refine FC.intro (cs := []) Tryz.func257 (by kernel_rfl) fun E R hE hr hR => ?_
 conv => cbv
 refine br (fun g => ?_) (fun g => ?_)
 ·have g : op = 1 := by simpa [hE.cmp, cmpR] using g
  obtain ⟨y, hy⟩ : ∃ y, y = IntKind.i64.wrap (a + b) := ⟨_, rfl⟩
  have e1 : E.ar .add .i64 a b = y := by rw [hE.ar, hy]; rfl
  have hok := add_ok ha hb
  rw [← hy] at hok
  conv => cbv
  simp only [e1]
  refine st_beq hE uBool fun q hq => ?_
  simp only [hE.cmp, cmpR, decide_eq_true_eq] at hq
  rw [hok] at hq
  conv => cbv
  refine br (fun g2 => ?_) (fun g2 => ?_)
  ·have g2 := hq.1 g2
   conv => cbv
   rw [hR]; refine ⟨Ext.refl _, y, .inl ⟨rfl, .inl ⟨g, .inl ⟨g2, ?_, rfl⟩⟩⟩⟩
   unfold fits at g2; rw [hy]; exact wrap_in g2.1 g2.2
  ·have g2 : ¬ fits (a + b) := fun k => g2 (hq.2 k)
   conv => cbv
   refine draw_q hr fol (by kernel_rfl) fun E' hE' => ?_
   conv => cbv
   refine st_load hE' cErr he.co ?_
   conv => cbv
   intro w2 hs2
   conv => cbv
   rw [hR]; exact ⟨hs2.ext, 0, .inr (.inl ⟨rfl, .inl ⟨g, .inr ⟨g2, rfl, rfl⟩⟩⟩)⟩
 have g1 : op ≠ 1 := by simpa [hE.cmp, cmpR] using g
 clear g
 conv => cbv
 refine br (fun g => ?_) (fun g => ?_)
 ·have g : op = 2 := by simpa [hE.cmp, cmpR] using g
  obtain ⟨y, hy⟩ : ∃ y, y = IntKind.i64.wrap (a - b) := ⟨_, rfl⟩
  have e1 : E.ar .sub .i64 a b = y := by rw [hE.ar, hy]; rfl
  have hok := sub_ok ha hb
  rw [← hy] at hok
  conv => cbv
  simp only [e1]
  refine st_beq hE uBool fun q hq => ?_
  simp only [hE.cmp, cmpR, decide_eq_true_eq] at hq
  rw [hok] at hq
  conv => cbv
  refine br (fun g2 => ?_) (fun g2 => ?_)
  ·have g2 := hq.1 g2
   conv => cbv
   rw [hR]; refine ⟨Ext.refl _, y, .inl ⟨rfl, .inr (.inl ⟨g, .inl ⟨g2, ?_, rfl⟩⟩)⟩⟩
   unfold fits at g2; rw [hy]; exact wrap_in g2.1 g2.2
  ·have g2 : ¬ fits (a - b) := fun k => g2 (hq.2 k)
   conv => cbv
   refine draw_q hr fol (by kernel_rfl) fun E' hE' => ?_
   conv => cbv
   refine st_load hE' cErr he.co ?_
   conv => cbv
   intro w2 hs2
   conv => cbv
   rw [hR]; exact ⟨hs2.ext, 0, .inr (.inl ⟨rfl, .inr (.inl ⟨g, .inr ⟨g2, rfl, rfl⟩⟩)⟩)⟩
 have g2 : op ≠ 2 := by simpa [hE.cmp, cmpR] using g
 clear g
 have T : ∀ x y : Int, x = y → E.cmp .eql x y = true := fun x y h => by rw [hE.cmp]; simp [cmpR, h]
 have F : ∀ x y : Int, x ≠ y → E.cmp .eql x y = false := fun x y h => by rw [hE.cmp]; simp [cmpR, h]
 conv => cbv
 refine br (fun g => ?_) (fun g => ?_)
 ·have g : op = 3 := by simpa [hE.cmp, cmpR] using g
  obtain ⟨y, hy⟩ : ∃ y, y = IntKind.i64.wrap (a * b) := ⟨_, rfl⟩
  have e1 : E.ar .mul .i64 a b = y := by rw [hE.ar, hy]; rfl
  conv => cbv
  simp only [e1]
  refine br (fun k => ?_) (fun k => ?_)
  ·have k : a = 0 := by simpa [hE.cmp, cmpR] using k
   conv => cbv
   rw [hR]; exact ⟨Ext.refl _, 0, .inl ⟨rfl, .inr (.inr (.inl ⟨g, .inl ⟨by subst k; simp [fits], by subst k; simp, rfl⟩⟩))⟩⟩
  have a0 : a ≠ 0 := by simpa [hE.cmp, cmpR] using k
  clear k
  conv => cbv
  refine br (fun k => ?_) (fun k => ?_)
  ·have k : b = 0 := by simpa [hE.cmp, cmpR] using k
   conv => cbv
   rw [hR]; exact ⟨Ext.refl _, 0, .inl ⟨rfl, .inr (.inr (.inl ⟨g, .inl ⟨by subst k; simp [fits], by subst k; simp, rfl⟩⟩))⟩⟩
  have b0 : b ≠ 0 := by simpa [hE.cmp, cmpR] using k
  clear k
  conv => cbv
  refine st_quo hE b0 fun q hq => ?_
  have hok := mul_ok ha hb b0
  rw [← hy, ← hq] at hok
  have good : fits (a * b) → R (.tuple ⟨[.int .i64 y, .nilIface]⟩) w := fun hf => by
   rw [hR]; exact ⟨Ext.refl _, y, .inl ⟨rfl, .inr (.inr (.inl ⟨g, .inl ⟨hf, by rw [hy]; exact wrap_in hf.1 hf.2, rfl⟩⟩))⟩⟩
  have bad : ¬ fits (a * b) → ∀ w2, Same w w2 → R (.tuple ⟨[.int .i64 0, .iface 391 (.pointer (some o))]⟩) w2 := fun hf w2 hs2 => by
   rw [hR]; exact ⟨hs2.ext, 0, .inr (.inl ⟨rfl, .inr (.inr (.inl ⟨g, .inr ⟨hf, rfl, rfl⟩⟩))⟩)⟩
  clear hR
  have P : ∀ x y : Int, E.cmp .eql x y = true → x = y := fun x y h => by rw [hE.cmp] at h; simpa [cmpR] using h
  have N : ∀ x y : Int, ¬ E.cmp .eql x y = true → x ≠ y := fun x y h => by rw [hE.cmp] at h; simpa [cmpR] using h
  conv => cbv
  refine br (fun c1 => ?_) (fun c1 => ?_)
  ·have c1 : q = a := P _ _ c1
   conv => cbv
   refine br (fun c2 => ?_) (fun c2 => ?_)
   ·have c2 : b = -1 := P _ _ c2
    conv => cbv
    refine brn (fun c3 => ?_) (fun c3 => ?_)
    ·have c3 : a = -9223372036854775808 := P _ _ c3
     conv => cbv
     refine draw_q hr fol (by kernel_rfl) fun E' hE' => ?_
     conv => cbv
     refine st_load hE' cErr he.co ?_
     conv => cbv
     intro w2 hs2
     conv => cbv
     exact bad (fun hf => (hok.2 hf).2.1 ⟨c2, c3⟩) _ hs2
    ·have c3 : a ≠ -9223372036854775808 := N _ _ c3
     conv => cbv
     refine br (fun c4 => ?_) (fun c4 => ?_)
     ·have c4 : a = -1 := P _ _ c4
      conv => cbv
      refine brn (fun c5 => ?_) (fun c5 => ?_)
      ·have c5 : b = -9223372036854775808 := P _ _ c5
       omega
      ·conv => cbv
       exact good (hok.1 ⟨c1, fun h => c3 h.2, fun h => by omega⟩)
     ·have c4 : a ≠ -1 := N _ _ c4
      conv => cbv
      exact good (hok.1 ⟨c1, fun h => c3 h.2, fun h => by omega⟩)
   ·have c2 : b ≠ -1 := N _ _ c2
    conv => cbv
    refine br (fun c4 => ?_) (fun c4 => ?_)
    ·have c4 : a = -1 := P _ _ c4
     conv => cbv
     refine brn (fun c5 => ?_) (fun c5 => ?_)
     ·have c5 : b = -9223372036854775808 := P _ _ c5
      conv => cbv
      refine draw_q hr fol (by kernel_rfl) fun E' hE' => ?_
      conv => cbv
      refine st_load hE' cErr he.co ?_
      conv => cbv
      intro w2 hs2
      conv => cbv
      exact bad (fun hf => (hok.2 hf).2.2 ⟨c4, c5⟩) _ hs2
     ·have c5 : b ≠ -9223372036854775808 := N _ _ c5
      conv => cbv
      exact good (hok.1 ⟨c1, fun h => c2 h.1, fun h => c5 h.2⟩)
    ·have c4 : a ≠ -1 := N _ _ c4
     conv => cbv
     exact good (hok.1 ⟨c1, fun h => c2 h.1, fun h => c4 h.1⟩)
  ·have c1 : q ≠ a := N _ _ c1
   conv => cbv
   refine draw_q hr fol (by kernel_rfl) fun E' hE' => ?_
   conv => cbv
   refine st_load hE' cErr he.co ?_
   conv => cbv
   intro w2 hs2
   conv => cbv
   exact bad (fun hf => c1 (hok.2 hf).1) _ hs2
 have g3 : op ≠ 3 := by simpa [hE.cmp, cmpR] using g
 clear g
 have T' : ∀ x y : Int, x ≠ y → E.cmp .neq x y = true := fun x y h => by rw [hE.cmp]; simp [cmpR, h]
 have F' : ∀ x y : Int, x = y → E.cmp .neq x y = false := fun x y h => by rw [hE.cmp]; simp [cmpR, h]
 conv => cbv
 refine br (fun g => ?_) (fun g => ?_)
 ·have g : op = 4 := by simpa [hE.cmp, cmpR] using g
  conv => cbv
  refine br (fun k => ?_) (fun k => ?_)
  ·have k : b = 0 := by simpa [hE.cmp, cmpR] using k
   conv => cbv
   refine draw_q hr fol (by kernel_rfl) fun E' hE' => ?_
   conv => cbv
   refine st_load hE' cErr he.cz ?_
   conv => cbv
   intro w2 hs2
   conv => cbv
   rw [hR]; exact ⟨hs2.ext, 0, .inr (.inr ⟨rfl, .inr (.inr (.inr (.inl ⟨.inl g, k, rfl, rfl⟩)))⟩)⟩
  have b0 : b ≠ 0 := by simpa [hE.cmp, cmpR] using k
  clear k
  have hok := div_ok ha b0
  have P' : ∀ x y : Int, E.cmp .neq x y = true → x ≠ y := fun x y h => by rw [hE.cmp] at h; simpa [cmpR] using h
  have N' : ∀ x y : Int, ¬ E.cmp .neq x y = true → x = y := fun x y h => by rw [hE.cmp] at h; simpa [cmpR] using h
  conv => cbv
  refine br (fun c1 => ?_) (fun c1 => ?_)
  ·have c1 : a ≠ -9223372036854775808 := P' _ _ c1
   conv => cbv
   refine st_quo hE b0 fun q hq => ?_
   have hf := hok.1 (.inl c1)
   conv => cbv
   rw [hR]; exact ⟨Ext.refl _, q, .inl ⟨rfl, .inr (.inr (.inr (.inr (.inl ⟨g, b0, .inl ⟨hf, by rw [hq]; exact wrap_in hf.1 hf.2, rfl⟩⟩))))⟩⟩
  ·have c1 : a = -9223372036854775808 := N' _ _ c1
   conv => cbv
   refine br (fun c2 => ?_) (fun c2 => ?_)
   ·have c2 : b ≠ -1 := P' _ _ c2
    conv => cbv
    refine st_quo hE b0 fun q hq => ?_
    have hf := hok.1 (.inr c2)
    conv => cbv
    rw [hR]; exact ⟨Ext.refl _, q, .inl ⟨rfl, .inr (.inr (.inr (.inr (.inl ⟨g, b0, .inl ⟨hf, by rw [hq]; exact wrap_in hf.1 hf.2, rfl⟩⟩))))⟩⟩
   ·have c2 : b = -1 := N' _ _ c2
    conv => cbv
    refine draw_q hr fol (by kernel_rfl) fun E' hE' => ?_
    conv => cbv
    refine st_load hE' cErr he.co ?_
    conv => cbv
    intro w2 hs2
    conv => cbv
    rw [hR]; exact ⟨hs2.ext, 0, .inr (.inl ⟨rfl, .inr (.inr (.inr (.inr (.inl ⟨g, b0, .inr ⟨fun hf => (hok.2 hf).elim (fun h => h c1) (fun h => h c2), rfl, rfl⟩⟩))))⟩)⟩
 have g4 : op ≠ 4 := by simpa [hE.cmp, cmpR] using g
 clear g
 conv => cbv
 refine br (fun g => ?_) (fun g => absurd (T op 5 (by omega)) g)
 have g : op = 5 := by simpa [hE.cmp, cmpR] using g
 conv => cbv
 refine br (fun k => ?_) (fun k => ?_)
 ·have k : b = 0 := by simpa [hE.cmp, cmpR] using k
  conv => cbv
  refine draw_q hr fol (by kernel_rfl) fun E' hE' => ?_
  conv => cbv
  refine st_load hE' cErr he.cz ?_
  conv => cbv
  intro w2 hs2
  conv => cbv
  rw [hR]; exact ⟨hs2.ext, 0, .inr (.inr ⟨rfl, .inr (.inr (.inr (.inl ⟨.inr g, k, rfl, rfl⟩)))⟩)⟩
 have b0 : b ≠ 0 := by simpa [hE.cmp, cmpR] using k
 clear k
 have hf := rem_ok (a := a) hb b0
 conv => cbv
 refine br (fun k => ?_) (fun k => ?_)
 ·have k : b = -1 := by simpa [hE.cmp, cmpR] using k
  conv => cbv
  rw [hR]; exact ⟨Ext.refl _, 0, .inl ⟨rfl, .inr (.inr (.inr (.inr (.inr (.inl ⟨g, b0, .inl ⟨hf, by subst k; simp, rfl⟩⟩)))))⟩⟩
 ·conv => cbv
  refine st_rem hE b0 fun q hq => ?_
  conv => cbv
  rw [hR]; exact ⟨Ext.refl _, q, .inl ⟨rfl, .inr (.inr (.inr (.inr (.inr (.inl ⟨g, b0, .inl ⟨hf, hq, rfl⟩⟩)))))⟩⟩
theorem zBool : (Tryz.prog.info? 4).map (·.size) = some 1 := by kernel_rfl
theorem sCalc_f {w : World} (op a b : Int) (ha : fits a) (hb : fits b) :
  FC Tryz.prog 172 [.int .i64 op, .int .i64 a, .int .i64 b] w fun u _ => ∃ r c, u = .tuple ⟨[.int .i64 r, .int .i64 c]⟩ ∧ CalcOf op a b r c := by
 refine FC.intro (cs := []) Tryz.func172 (by kernel_rfl) fun E R hE hr hR => ?_
 obtain ⟨n, hn⟩ : ∃ n : Bool, n = true ↔ a < 0 := ⟨decide (a < 0), by simp⟩
 obtain ⟨n', hn'⟩ : ∃ n : Bool, n = true ↔ b < 0 := ⟨decide (b < 0), by simp⟩
 obtain ⟨l, hl⟩ : ∃ l : Int, l = a.natAbs := ⟨_, rfl⟩
 obtain ⟨l', hl'⟩ : ∃ l : Int, l = b.natAbs := ⟨_, rfl⟩
 have hfa := ha
 have hfb := hb
 unfold fits at ha hb
 have ea : sg n l = a := by rw [hl]; exact sg_of hn
 have eb : sg n' l' = b := by rw [hl']; exact sg_of hn'
 conv => cbv
 refine st_v hr (bigOf_v a hfa n l hn hl w) fun w1 hx => ?_
 conv => cbv
 refine st_alloc hr tBig rfl fun x w2 hx2 hx0 => ?_
 have hX := hx0 _ hx.size
 replace hx := hx.trans hx2
 conv => cbv
 refine st_putS hr zBig hX (add_zero _).symm (by simp) (by simp [Value.oneCell']) fun w3 hw hX2 => ?_
 replace hx := hx.then (hw.bel hX hx.size)
 simp only [a1_, a2_, a3_, a4_, a5_, a6_, a7_] at hX2
 clear hX hx0 hw hx2
 conv => cbv
 refine st_v hr (bigOf_v b hfb n' l' hn' hl' _) fun w4 hx4 => ?_
 replace hX2 := hX2.bel hx4
 replace hx := hx.trans hx4
 conv => cbv
 refine st_alloc hr tBig rfl fun y w5 hx5 hy0 => ?_
 have hY := hy0 _ hx.size
 have axy := (hX2.apart (hy0 _ (n1_ _)) (n1_ _)).1
 replace hX2 := hX2.bel hx5
 replace hx := hx.trans hx5
 conv => cbv
 refine st_putS hr zBig hY (add_zero _).symm (by simp) (by simp [Value.oneCell']) fun w6 hw hY2 => ?_
 replace hx := hx.then (hw.bel hY hx.size)
 replace hX2 := hX2.wr hw axy
 simp only [a1_, a2_, a3_, a4_, a5_, a6_, a7_] at hY2
 clear hY hy0 hw hx5 hx4
 have P : ∀ x y : Int, E.cmp .eql x y = true → x = y := fun x y h => by rw [hE.cmp] at h; simpa [cmpR] using h
 have N : ∀ x y : Int, ¬ E.cmp .eql x y = true → x ≠ y := fun x y h => by rw [hE.cmp] at h; simpa [cmpR] using h
 conv => cbv
 refine br (fun g => ?_) (fun g => ?_)
 ·have g : op = 1 := P _ _ g
  conv => cbv
  refine st_loadS hE tBig rfl hX2.at ?_
  conv => cbv
  refine st_loadS hE tBig rfl hY2.at ?_
  conv => cbv
  refine st_f hr (sum_f n n' l l' _ (by omega) (by omega) (by omega) (by omega)) fun u w7 hx7 ⟨n2, h2, l2, eu, q0, q1, q2, q3⟩ => ?_
  subst eu
  conv => cbv
  refine st_f hr (small_f n2 h2 l2 _ q0 q1 q2) fun u w8 hx8 ⟨r, c, eu, ho⟩ => ?_
  subst eu
  rw [q3, ea, eb] at ho
  conv => cbv
  rw [hR]; exact ⟨(hx.trans hx7).trans hx8, r, c, rfl, .inl ⟨g, ho⟩⟩
 have g1 : op ≠ 1 := N _ _ g
 clear g
 conv => cbv
 refine br (fun g => ?_) (fun g => ?_)
 ·have g : op = 2 := P _ _ g
  obtain ⟨n3, hn3⟩ : ∃ n3 : Bool, n3 = !n' := ⟨_, rfl⟩
  have e3 : (if n' = true then false else true) = n3 := by rw [hn3]; cases n' <;> rfl
  have eb3 : sg n3 l' = -b := by rw [← eb, hn3]; cases n' <;> simp [sg]
  conv => cbv
  (refine st_fld hE fB0 fun p hp => ?_; (conv => cbv); refine st_load hE cBool (by rw [hp]; exact (hY2).at _ _ rfl) ?_; (conv => cbv))
  refine st_fld hE fB0 fun p hp => ?_
  conv => cbv
  refine st_put hr zBool hY2 hp (by simp) rfl fun w7 hw hY3 => ?_
  replace hx := hx.then (hw.bel hY2 hx.size)
  replace hX2 := hX2.wr hw axy
  have hY3' : Box w.heap.size 357 3 w7 y [.bool n3, .int .u64 0, .int .u64 l'] := by
   have : (Value.bool (if n' = true then false else true)) = .bool n3 := by rw [e3]
   simp only [b4_] at hY3
   rw [← e3]
   cases n' <;> exact hY3
  conv => cbv
  refine st_loadS hE tBig rfl hX2.at ?_
  conv => cbv
  refine st_loadS hE tBig rfl hY3'.at ?_
  conv => cbv
  refine st_f hr (sum_f n n3 l l' _ (by omega) (by omega) (by omega) (by omega)) fun u w8 hx8 ⟨n2, h2, l2, eu, q0, q1, q2, q3⟩ => ?_
  subst eu
  conv => cbv
  refine st_f hr (small_f n2 h2 l2 _ q0 q1 q2) fun u w9 hx9 ⟨r, c, eu, ho⟩ => ?_
  subst eu
  rw [q3, ea, eb3, ← Int.sub_eq_add_neg] at ho
  conv => cbv
  rw [hR]; exact ⟨(hx.trans hx8).trans hx9, r, c, rfl, .inr (.inl ⟨g, ho⟩)⟩
 have g2 : op ≠ 2 := N _ _ g
 clear g
 conv => cbv
 refine br (fun g => ?_) (fun g => ?_)
 ·have g : op = 3 := P _ _ g
  conv => cbv
  (refine st_fld hE fB2 fun p hp => ?_; (conv => cbv); refine st_load hE cU64 (by rw [hp]; exact (hX2).at _ _ rfl) ?_; (conv => cbv))
  (refine st_fld hE fB2 fun p hp => ?_; (conv => cbv); refine st_load hE cU64 (by rw [hp]; exact (hY2).at _ _ rfl) ?_; (conv => cbv))
  refine st_f hr (times_f l l' _ (by omega) (by omega) (by omega) (by omega)) fun u w7 hx7 ⟨h2, l2, eu, q0, q1, q2, q3⟩ => ?_
  subst eu
  replace hX2 := hX2.bel hx7
  replace hY2 := hY2.bel hx7
  replace hx := hx.trans hx7
  conv => cbv
  (refine st_fld hE fB0 fun p hp => ?_; (conv => cbv); refine st_load hE cBool (by rw [hp]; exact (hX2).at _ _ rfl) ?_; (conv => cbv))
  (refine st_fld hE fB0 fun p hp => ?_; (conv => cbv); refine st_load hE cBool (by rw [hp]; exact (hY2).at _ _ rfl) ?_; (conv => cbv))
  refine st_bne hE uBool fun v hv => ?_
  conv => cbv
  refine st_big hE ?_
  conv => cbv
  refine st_f hr (small_f v h2 l2 _ q0 q1 q2) fun u w8 hx8 ⟨r, c, eu, ho⟩ => ?_
  subst eu
  rw [q3, hl, hl', sg_mul hn hn' hv] at ho
  conv => cbv
  rw [hR]; exact ⟨hx.trans hx8, r, c, rfl, .inr (.inr (.inl ⟨g, ho⟩))⟩
 have g3 : op ≠ 3 := N _ _ g
 clear g
 have zero : ∀ w', Ext w w' → (op = 4 ∨ op = 5) → b = 0 → R (.tuple ⟨[.int .i64 0, .int .i64 2]⟩) w' := fun w' hx' ho hb0 => by
  rw [hR]; exact ⟨hx', 0, 2, rfl, .inr (.inr (.inr (.inl ⟨ho, hb0, rfl, rfl⟩)))⟩
 conv => cbv
 refine br (fun g => ?_) (fun g => ?_)
 ·have g4 : op = 4 := P _ _ g
  have t4 : E.cmp .eql op 4 = true := g
  clear g
  conv => cbv
  refine br (fun _ => ?_) (fun k => absurd t4 k)
  conv => cbv
  refine br (fun k => ?_) (fun k => ?_)
  ·have k : b = 0 := P _ _ k
   conv => cbv
   exact zero _ hx (.inl g4) k
  have b0 : b ≠ 0 := N _ _ k
  clear k
  conv => cbv
  refine br (fun _ => ?_) (fun k => absurd t4 k)
  conv => cbv
  refine draw_h [0, 1, 2, 3, 4, 5, 6, 7, 8, 9, 10] [(11, false), (12, true), (13, true), (14, true), (15, true)] hr fol (by kernel_rfl) fun E' hE' w7 hs7 S hS => ?_
  replace hX2 := hX2.bel hs7.ext
  replace hY2 := hY2.bel hs7.ext
  replace hx := hx.trans hs7.ext
  conv => cbv
  (refine st_fld hE' fB0 fun p hp => ?_; (conv => cbv); refine st_load hE' cBool (by rw [hp]; exact (hX2).at _ _ rfl) ?_; (conv => cbv))
  (refine st_fld hE' fB0 fun p hp => ?_; (conv => cbv); refine st_load hE' cBool (by rw [hp]; exact (hY2).at _ _ rfl) ?_; (conv => cbv))
  refine st_bne hE' uBool fun v hv => ?_
  conv => cbv
  (refine st_fld hE' fB2 fun p hp => ?_; (conv => cbv); refine st_load hE' cU64 (by rw [hp]; exact (hX2).at _ _ rfl) ?_; (conv => cbv))
  (refine st_fld hE' fB2 fun p hp => ?_; (conv => cbv); refine st_load hE' cU64 (by rw [hp]; exact (hY2).at _ _ rfl) ?_; (conv => cbv))
  refine st_quo hE' (by omega) fun q hq => ?_
  have hq2 : q = l.tdiv l' := by
   have h1 : (l.tdiv l') = l / l' := Int.tdiv_eq_ediv_of_nonneg (by omega)
   have h2 : 0 ≤ l / l' := Int.ediv_nonneg (by omega) (by omega)
   have h3 : l / l' ≤ l := Int.ediv_le_self _ (by omega)
   rw [hq]; exact u64_in (by omega) (by omega)
  have q0 : 0 ≤ q := by rw [hq2, Int.tdiv_eq_ediv_of_nonneg (by omega)]; exact Int.ediv_nonneg (by omega) (by omega)
  have q1 : q ≤ l := by rw [hq2, Int.tdiv_eq_ediv_of_nonneg (by omega)]; exact Int.ediv_le_self _ (by omega)
  conv => cbv
  refine st_big hE' ?_
  conv => cbv
  refine st_f hr (small_f v 0 q _ (by omega) q0 (by omega)) fun u w8 hx8 ⟨r, c, eu, ho⟩ => ?_
  subst eu
  refine ⟨hS _ hx8, ?_⟩
  rw [show (0 : Int) * 18446744073709551616 + q = q by omega, hq2, hl, hl', sg_div hn hn' hv] at ho
  conv => cbv
  rw [hR]; exact ⟨hx.trans hx8, r, c, rfl, .inr (.inr (.inr (.inr (.inl ⟨g4, b0, ho⟩))))⟩
 have g4 : op ≠ 4 := N _ _ g
 have t4 : ¬ E.cmp .eql op 4 = true := g
 clear g
 conv => cbv
 refine br (fun g => ?_) (fun g => ?_)
 ·have g5 : op = 5 := P _ _ g
  conv => cbv
  refine br (fun k => ?_) (fun k => ?_)
  ·have k : b = 0 := P _ _ k
   conv => cbv
   exact zero _ hx (.inr g5) k
  have b0 : b ≠ 0 := N _ _ k
  clear k
  conv => cbv
  refine br (fun k => absurd k t4) (fun _ => ?_)
  conv => cbv
  refine draw_h [0, 1, 2, 3, 4, 5, 6, 7] [(8, false), (9, true), (10, true), (11, true), (12, true)] hr fol (by kernel_rfl) fun E' hE' w7 hs7 S hS => ?_
  replace hX2 := hX2.bel hs7.ext
  replace hY2 := hY2.bel hs7.ext
  replace hx := hx.trans hs7.ext
  conv => cbv
  (refine st_fld hE' fB0 fun p hp => ?_; (conv => cbv); refine st_load hE' cBool (by rw [hp]; exact (hX2).at _ _ rfl) ?_; (conv => cbv))
  (refine st_fld hE' fB2 fun p hp => ?_; (conv => cbv); refine st_load hE' cU64 (by rw [hp]; exact (hX2).at _ _ rfl) ?_; (conv => cbv))
  (refine st_fld hE' fB2 fun p hp => ?_; (conv => cbv); refine st_load hE' cU64 (by rw [hp]; exact (hY2).at _ _ rfl) ?_; (conv => cbv))
  refine st_rem hE' (by omega) fun q hq => ?_
  have q0 : 0 ≤ q := by rw [hq]; exact Int.tmod_nonneg _ (by omega)
  have q1 : q < 18446744073709551616 := by
   have := Int.tmod_lt_of_pos l (show 0 < l' by omega)
   omega
  conv => cbv
  refine st_big hE' ?_
  conv => cbv
  refine st_f hr (small_f n 0 q _ (by omega) q0 (by omega)) fun u w8 hx8 ⟨r, c, eu, ho⟩ => ?_
  subst eu
  refine ⟨hS _ hx8, ?_⟩
  rw [show (0 : Int) * 18446744073709551616 + q = q by omega, hq, hl, hl', sg_mod hn] at ho
  conv => cbv
  rw [hR]; exact ⟨hx.trans hx8, r, c, rfl, .inr (.inr (.inr (.inr (.inr (.inl ⟨g5, b0, ho⟩)))))⟩
 ·have g5 : op ≠ 5 := N _ _ g
  conv => cbv
  rw [hR]; exact ⟨hx, 0, 4, rfl, .inr (.inr (.inr (.inr (.inr (.inr ⟨by omega, rfl, rfl⟩)))))⟩
instance decPV (a b : PV) : Decidable (a = b) := decidable_of_iff (a.k = b.k ∧ a.n = b.n ∧ a.tx = b.tx ∧ a.xs = b.xs) ⟨fun ⟨h1, h2, h3, h4⟩ => by cases a; cases b; simp_all, fun h => by rw [h]; exact ⟨rfl, rfl, rfl, rfl⟩⟩
abbrev noS : ByteArray := ⟨#[]⟩
def truthV (b : Bool) : PV := ⟨1, if b = true then 1 else 0, noS, []⟩
def numV (z : Int) : PV := ⟨2, z, noS, []⟩
def setV (xs : List ByteArray) : PV := ⟨4, 0, noS, xs⟩
def outR (v : Int) : Int ⊕ PV := if fits v then .inr (numV v) else .inl 1
def calcR (op a b : Int) : Int ⊕ PV :=
 if op = 1 then outR (a + b) else if op = 2 then outR (a - b) else if op = 3 then outR (a * b)
 else if b = 0 then .inl 2 else if op = 4 then outR (a.tdiv b) else outR (a.tmod b)
def unionS (xs ys : List ByteArray) : List ByteArray := mrg (fun _ _ => true) xs ys
def opR (o : Int) (a b : PV) : Int ⊕ PV :=
 if o = 8 then calcR 2 0 a.n
 else if o = 9 then .inr (truthV (decide (a.n = 0)))
 else if o = 10 then .inr (numV a.xs.length)
 else if 11 ≤ o ∧ o ≤ 15 then calcR (o - 10) a.n b.n
 else if o = 16 then (if 64 < (unionS a.xs b.xs).length then .inl 3 else .inr (setV (unionS a.xs b.xs)))
 else if o = 17 then .inr (setV (picked a.xs b.xs true))
 else if o = 18 then .inr (setV (picked a.xs b.xs false))
 else if o = 19 then .inr (truthV (decide (a = b)))
 else if o = 20 then .inr (truthV (!decide (a = b)))
 else if o = 21 then .inr (truthV (decide (a.n < b.n)))
 else if o = 22 then .inr (truthV (decide (a.n ≤ b.n)))
 else if o = 23 then .inr (truthV (decide (a.tx ∈ b.xs)))
 else .inr (truthV (decide (picked a.xs b.xs false = [])))
def combR (o : Int) : List (Int ⊕ PV) → Int ⊕ PV
 | [a] => match a with
  | .inl c => .inl c
  | .inr x => opR o x x
 | [a, b] => match a with
  | .inl c => .inl c
  | .inr x => if (o = 25 ∧ x.n = 0) ∨ (o = 26 ∧ x.n = 1) then .inr x else if o = 25 ∨ o = 26 then b else match b with
   | .inl c => .inl c
   | .inr y => opR o x y
 | [a, b, c] => match a with
  | .inl e => .inl e
  | .inr x => if x.n = 1 then b else c
 | _ => .inl 0
def nonV : PV := ⟨0, 0, noS, []⟩
mutual
def evT (rq lets : List PV) : Tr → Int ⊕ PV
 | .con k n tx xs _ => .inr ⟨k, n, tx, xs⟩
 | .att n => .inr (rq.getD n.toNat nonV)
 | .lt n => .inr (lets.getD n.toNat nonV)
 | .nam _ _ => .inr nonV
 | .op o kids _ => combR o (evTs rq lets kids)
def evTs (rq lets : List PV) : List Tr → List (Int ⊕ PV)
 | [] => []
 | t :: l => evT rq lets t :: evTs rq lets l
end
def valV (ty : Int) (v : PV) : Prop := v.k = ty ∧ ((ty = 1 ∧ (v.n = 0 ∨ v.n = 1) ∧ v.tx = noS ∧ v.xs = []) ∨ (ty = 2 ∧ fits v.n ∧ v.tx = noS ∧ v.xs = []) ∨ (ty = 3 ∧ v.n = 0 ∧ v.xs = [] ∧ v.tx.size ≤ 9223372036854775807) ∨ (ty = 4 ∧ v.n = 0 ∧ v.tx = noS ∧ isSet v.xs))
theorem val1 {v : PV} (h : valV 1 v) : v.k = 1 ∧ (v.n = 0 ∨ v.n = 1) ∧ v.tx = noS ∧ v.xs = [] := by
 obtain ⟨hk, h | h | h | h⟩ := h
 ·exact ⟨hk, h.2⟩
 ·exact absurd h.1 (by decide)
 ·exact absurd h.1 (by decide)
 ·exact absurd h.1 (by decide)
theorem val2 {v : PV} (h : valV 2 v) : v.k = 2 ∧ fits v.n ∧ v.tx = noS ∧ v.xs = [] := by
 obtain ⟨hk, h | h | h | h⟩ := h
 ·exact absurd h.1 (by decide)
 ·exact ⟨hk, h.2⟩
 ·exact absurd h.1 (by decide)
 ·exact absurd h.1 (by decide)
theorem val3 {v : PV} (h : valV 3 v) : v.k = 3 ∧ v.n = 0 ∧ v.xs = [] ∧ v.tx.size ≤ 9223372036854775807 := by
 obtain ⟨hk, h | h | h | h⟩ := h
 ·exact absurd h.1 (by decide)
 ·exact absurd h.1 (by decide)
 ·exact ⟨hk, h.2⟩
 ·exact absurd h.1 (by decide)
theorem val4 {v : PV} (h : valV 4 v) : v.k = 4 ∧ v.n = 0 ∧ v.tx = noS ∧ isSet v.xs := by
 obtain ⟨hk, h | h | h | h⟩ := h
 ·exact absurd h.1 (by decide)
 ·exact absurd h.1 (by decide)
 ·exact absurd h.1 (by decide)
 ·exact ⟨hk, h.2⟩
theorem val_ty {ty : Int} {v : PV} (h : valV ty v) : v.k = ty ∧ (ty = 1 ∨ ty = 2 ∨ ty = 3 ∨ ty = 4) := by
 obtain ⟨hk, h | h | h | h⟩ := h
 ·exact ⟨hk, .inl h.1⟩
 ·exact ⟨hk, .inr (.inl h.1)⟩
 ·exact ⟨hk, .inr (.inr (.inl h.1))⟩
 ·exact ⟨hk, .inr (.inr (.inr h.1))⟩
theorem val_sz {ty : Int} {v : PV} (h : valV ty v) : v.tx.size ≤ 9223372036854775807 ∧ fits v.n ∧ v.xs.length ≤ 64 := by
 have e : noS.size = 0 := rfl
 rcases (val_ty h).2 with rfl | rfl | rfl | rfl
 ·obtain ⟨_, h1, h2, h3⟩ := val1 h; rw [h2, h3, e]; exact ⟨by omega, by unfold fits; omega, by simp⟩
 ·obtain ⟨_, h1, h2, h3⟩ := val2 h; rw [h2, h3, e]; exact ⟨by omega, h1, by simp⟩
 ·obtain ⟨_, h1, h2, h3⟩ := val3 h; rw [h1, h2]; exact ⟨h3, by unfold fits; omega, by simp⟩
 ·obtain ⟨_, h1, h2, h3⟩ := val4 h; rw [h1, h2, e]; exact ⟨by omega, by unfold fits; omega, h3.2.2⟩
theorem truth_val (b : Bool) : valV 1 (truthV b) := ⟨rfl, .inl ⟨rfl, by cases b <;> simp [truthV], rfl, rfl⟩⟩
theorem num_val {z : Int} (h : fits z) : valV 2 (numV z) := ⟨rfl, .inr (.inl ⟨rfl, h, rfl, rfl⟩)⟩
theorem set_val {xs : List ByteArray} (h : isSet xs) : valV 4 (setV xs) := ⟨rfl, .inr (.inr (.inr ⟨rfl, rfl, rfl, h⟩))⟩
def resV (ty : Int) : Int ⊕ PV → Prop
 | .inl c => c = 1 ∨ c = 2 ∨ c = 3
 | .inr v => valV ty v
theorem out_res (v : Int) : resV 2 (outR v) := by
 unfold outR; split
 ·rename_i h; exact num_val h
 ·exact .inl rfl
theorem calc_res (op a b : Int) : resV 2 (calcR op a b) := by
 unfold calcR
 (repeat' split) <;> first | exact out_res _ | exact .inr (.inl rfl)
theorem union_set {xs ys : List ByteArray} (hx : isSet xs) (hy : isSet ys) (hl : (unionS xs ys).length ≤ 64) : isSet (unionS xs ys) :=
 ⟨fun s hs => by
  have := (mrg_all hx.2.1 hy.2.1).2 s
  rcases List.mem_append.1 (this.1 hs) with h | h
  ·exact hx.1 s h
  ·exact hy.1 s h, (mrg_all hx.2.1 hy.2.1).1, hl⟩
theorem typG_cases {o : Int} {ts : List Int} (hk : (ts.length : Int) = kidsF o) (h1 : 1 ≤ ts.length) (hz : typG o ts ≠ 0) :
  (o = 8 ∧ ts = [2] ∧ typG o ts = 2) ∨ (o = 9 ∧ ts = [1] ∧ typG o ts = 1) ∨ (o = 10 ∧ ts = [4] ∧ typG o ts = 2) ∨ ((11 ≤ o ∧ o ≤ 15) ∧ ts = [2, 2] ∧ typG o ts = 2) ∨ ((16 ≤ o ∧ o ≤ 18) ∧ ts = [4, 4] ∧ typG o ts = 4) ∨
  ((o = 19 ∨ o = 20) ∧ (∃ a, ts = [a, a]) ∧ typG o ts = 1) ∨ ((o = 21 ∨ o = 22) ∧ ts = [2, 2] ∧ typG o ts = 1) ∨ (o = 23 ∧ ts = [3, 4] ∧ typG o ts = 1) ∨ (o = 24 ∧ ts = [4, 4] ∧ typG o ts = 1) ∨ ((o = 25 ∨ o = 26) ∧ ts = [1, 1] ∧ typG o ts = 1) ∨ (o = 27 ∧ (∃ a, ts = [1, a, a] ∧ typG o ts = a)) := by
 have hr : 8 ≤ o ∧ o ≤ 27 := by unfold kidsF at hk; (repeat' split at hk) <;> omega
 have : o = 8 ∨ o = 9 ∨ o = 10 ∨ o = 11 ∨ o = 12 ∨ o = 13 ∨ o = 14 ∨ o = 15 ∨ o = 16 ∨ o = 17 ∨ o = 18 ∨ o = 19 ∨ o = 20 ∨ o = 21 ∨ o = 22 ∨ o = 23 ∨ o = 24 ∨ o = 25 ∨ o = 26 ∨ o = 27 := by omega
 have hl : ts.length = 1 ∨ ts.length = 2 ∨ ts.length = 3 := by
  have : kidsF o ≤ 3 := kidsF_le o
  omega
 have h3 : (∃ a, ts = [a]) ∨ (∃ a b, ts = [a, b]) ∨ ∃ a b c, ts = [a, b, c] := by
  match ts, hl with
  | [a], _ => exact .inl ⟨a, rfl⟩
  | [a, b], _ => exact .inr (.inl ⟨a, b, rfl⟩)
  | [a, b, c], _ => exact .inr (.inr ⟨a, b, c, rfl⟩)
 rcases this with rfl | rfl | rfl | rfl | rfl | rfl | rfl | rfl | rfl | rfl | rfl | rfl | rfl | rfl | rfl | rfl | rfl | rfl | rfl | rfl <;>
  rcases h3 with ⟨a, rfl⟩ | ⟨a, b, rfl⟩ | ⟨a, b, c, rfl⟩ <;> simp [kidsF] at hk <;>
  simp [typG, typF, allT] at hz ⊢ <;> (try simp_all) <;> omega
theorem opR_res {o : Int} {a b : PV} {ty : Int} (h : (o = 8 ∧ valV 2 a ∧ ty = 2) ∨ (o = 9 ∧ ty = 1) ∨ (o = 10 ∧ valV 4 a ∧ ty = 2) ∨ ((11 ≤ o ∧ o ≤ 15) ∧ ty = 2) ∨ ((16 ≤ o ∧ o ≤ 18) ∧ valV 4 a ∧ valV 4 b ∧ ty = 4) ∨ ((19 ≤ o ∧ o ≤ 24) ∧ ty = 1)) : resV ty (opR o a b) := by
 unfold opR
 rcases h with ⟨h, _, rfl⟩ | ⟨h, rfl⟩ | ⟨h, h4, rfl⟩ | ⟨h, rfl⟩ | ⟨h, h4, h5, rfl⟩ | ⟨h, rfl⟩
 ·rw [if_pos h]; exact calc_res _ _ _
 ·rw [if_neg (by omega), if_pos h]; exact truth_val _
 ·rw [if_neg (by omega), if_neg (by omega), if_pos h]
  have := (val4 h4).2.2.2.2.2
  exact num_val (by unfold fits; omega)
 ·rw [if_neg (by omega), if_neg (by omega), if_neg (by omega), if_pos h]; exact calc_res _ _ _
 ·rw [if_neg (by omega), if_neg (by omega), if_neg (by omega), if_neg (by omega)]
  have hx := (val4 h4).2.2.2
  have hy := (val4 h5).2.2.2
  split
  ·split
   ·exact .inr (.inr rfl)
   ·rename_i q; exact set_val (union_set hx hy (by omega))
  ·split
   ·exact set_val (isSet_picked _ hx)
   ·rw [if_pos (by omega)]; exact set_val (isSet_picked _ hx)
 ·rw [if_neg (by omega), if_neg (by omega), if_neg (by omega), if_neg (by omega), if_neg (by omega), if_neg (by omega), if_neg (by omega)]
  (repeat' split) <;> exact truth_val _
theorem combR_res {o : Int} {ts : List Int} {rs : List (Int ⊕ PV)} (hk : (ts.length : Int) = kidsF o) (h1 : 1 ≤ ts.length) (hz : typG o ts ≠ 0) (hl : rs.length = ts.length) (h : ∀ (i : Nat) (t : Int) (r : Int ⊕ PV), ts[i]? = some t → rs[i]? = some r → resV t r) : resV (typG o ts) (combR o rs) := by
 have one : ∀ {a : Int}, ts = [a] → (∀ x, valV a x → resV (typG o ts) (opR o x x)) → resV (typG o ts) (combR o rs) := fun {a} e hx => by
  rw [e] at hl
  match rs, hl with
  | [r], _ =>
   have := h 0 a r (by rw [e]; rfl) rfl
   cases r with
   | inl c => exact this
   | inr x => exact hx x this
 have two : ∀ {a b : Int}, ts = [a, b] → o ≠ 25 → o ≠ 26 → (∀ x y, valV a x → valV b y → resV (typG o ts) (opR o x y)) → resV (typG o ts) (combR o rs) := fun {a b} e n1 n2 hx => by
  rw [e] at hl
  match rs, hl with
  | [r, s], _ =>
   have k1 := h 0 a r (by rw [e]; rfl) rfl
   have k2 := h 1 b s (by rw [e]; rfl) rfl
   cases r with
   | inl c => exact k1
   | inr x =>
    simp only [combR]
    rw [if_neg (by omega), if_neg (by omega)]
    cases s with
    | inl c => exact k2
    | inr y => exact hx x y k1 k2
 rcases typG_cases hk h1 hz with ⟨ho, e, ht⟩ | ⟨ho, e, ht⟩ | ⟨ho, e, ht⟩ | ⟨ho, e, ht⟩ | ⟨ho, e, ht⟩ | ⟨ho, ⟨a, e⟩, ht⟩ | ⟨ho, e, ht⟩ | ⟨ho, e, ht⟩ | ⟨ho, e, ht⟩ | ⟨ho, e, ht⟩ | ⟨ho, a, e, ht⟩
 ·exact one e fun x hx => by rw [ht]; exact opR_res (.inl ⟨ho, hx, rfl⟩)
 ·exact one e fun x hx => by rw [ht]; exact opR_res (.inr (.inl ⟨ho, rfl⟩))
 ·exact one e fun x hx => by rw [ht]; exact opR_res (.inr (.inr (.inl ⟨ho, hx, rfl⟩)))
 ·exact two e (by omega) (by omega) fun x y hx hy => by rw [ht]; exact opR_res (.inr (.inr (.inr (.inl ⟨ho, rfl⟩))))
 ·exact two e (by omega) (by omega) fun x y hx hy => by rw [ht]; exact opR_res (.inr (.inr (.inr (.inr (.inl ⟨ho, hx, hy, rfl⟩)))))
 ·exact two e (by omega) (by omega) fun x y hx hy => by rw [ht]; exact opR_res (.inr (.inr (.inr (.inr (.inr ⟨by omega, rfl⟩)))))
 ·exact two e (by omega) (by omega) fun x y hx hy => by rw [ht]; exact opR_res (.inr (.inr (.inr (.inr (.inr ⟨by omega, rfl⟩)))))
 ·exact two e (by omega) (by omega) fun x y hx hy => by rw [ht]; exact opR_res (.inr (.inr (.inr (.inr (.inr ⟨by omega, rfl⟩)))))
 ·exact two e (by omega) (by omega) fun x y hx hy => by rw [ht]; exact opR_res (.inr (.inr (.inr (.inr (.inr ⟨by omega, rfl⟩)))))
 ·rw [ht]
  rw [e] at hl
  match rs, hl with
  | [r, s], _ =>
   have k1 := h 0 1 r (by rw [e]; rfl) rfl
   have k2 := h 1 1 s (by rw [e]; rfl) rfl
   cases r with
   | inl c => exact k1
   | inr x =>
    simp only [combR]
    split
    ·exact k1
    ·exact k2
 ·rw [ht]
  rw [e] at hl
  match rs, hl with
  | [r, s, u], _ =>
   have k1 := h 0 1 r (by rw [e]; rfl) rfl
   have k2 := h 1 a s (by rw [e]; rfl) rfl
   have k3 := h 2 a u (by rw [e]; rfl) rfl
   cases r with
   | inl c => exact k1
   | inr x =>
    simp only [combR]
    split
    ·exact k2
    ·exact k3
mutual
def conOK : Tr → Prop
 | .con k n tx xs _ => valV k ⟨k, n, tx, xs⟩
 | .nam _ _ => False
 | .op _ kids _ => conOKs kids
 | _ => True
def conOKs : List Tr → Prop
 | [] => True
 | t :: l => conOK t ∧ conOKs l
end
structure LetsV (tys : List Int) (lets : List PV) : Prop where
 len : lets.length = tys.length
 val : ∀ (i : Nat) (ty : Int) (v : PV), tys[i]? = some ty → lets[i]? = some v → valV ty v
def ReqV (rq : List PV) : Prop := rq.length = 6 ∧ ∀ (i : Nat) (v : PV), rq[i]? = some v → valV (attrF i) v
mutual
theorem ev_ok {names : List ByteArray} {tys : List Int} {rq lets : List PV} (hq : ReqV rq) (hl : LetsV tys lets) : ∀ t : Tr, goodT tys.length t → conOK t → (tyT names tys t).2 = 0 → resV (tyT names tys t).1 (evT rq lets t)
 | .con k n tx xs at_, hg, hc, ht => by simp only [conOK] at hc; simp only [tyT, evT]; exact hc
 | .nam tx at_, hg, hc, ht => by simp only [conOK] at hc
 | .att n, hg, hc, ht => by
  simp only [goodT] at hg
  simp only [tyT, evT]
  have hlt : n.toNat < rq.length := by rw [hq.1]; omega
  have := hq.2 n.toNat _ (g2_ hlt)
  rw [show ((n.toNat : Nat) : Int) = n by omega] at this
  rw [List.getD_eq_getElem?_getD, g2_ hlt]
  exact this
 | .lt n, hg, hc, ht => by
  simp only [goodT] at hg
  simp only [tyT, evT, tyLt] at ht ⊢
  rw [if_neg (by omega)]
  have h1 : n.toNat < tys.length := by omega
  have h2 : n.toNat < lets.length := by rw [hl.len]; exact h1
  have := hl.val n.toNat _ _ (g2_ h1) (g2_ h2)
  rw [List.getD_eq_getElem?_getD, g2_ h1, List.getD_eq_getElem?_getD, g2_ h2]
  exact this
 | .op o kids at_, hg, hc, ht => by
  simp only [goodT] at hg
  simp only [conOK] at hc
  rw [tyT] at ht ⊢
  split at ht
  ·rename_i h; exact absurd ht h
  ·rename_i h
   rw [if_neg h]
   split at ht
   ·cases ht
   ·rename_i h2
    rw [if_neg h2]
    obtain ⟨k1, k2, k3⟩ := evs_ok hq hl kids hg.2.2 hc (Classical.byContradiction h)
    rw [evT]
    exact combR_res (by rw [k1]; exact hg.1) (by rw [k1]; exact hg.2.1) h2 (by rw [k2, k1]) k3
theorem evs_ok {names : List ByteArray} {tys : List Int} {rq lets : List PV} (hq : ReqV rq) (hl : LetsV tys lets) : ∀ l : List Tr, goodTs tys.length l → conOKs l → (tyTs names tys l).1 = 0 → (tyTs names tys l).2.length = l.length ∧ (evTs rq lets l).length = l.length ∧ ∀ (i : Nat) (t : Int) (r : Int ⊕ PV), (tyTs names tys l).2[i]? = some t → (evTs rq lets l)[i]? = some r → resV t r
 | [], _, _, _ => by simp [tyTs, evTs]
 | t :: l, hg, hc, ht => by
  simp only [goodTs] at hg
  simp only [conOKs] at hc
  rw [tyTs] at ht ⊢
  split at ht
  ·rename_i h; exact absurd ht h
  ·rename_i h
   rw [if_neg h]
   simp only at ht
   have h0 := ev_ok hq hl t hg.1 hc.1 (Classical.byContradiction h)
   obtain ⟨k1, k2, k3⟩ := evs_ok hq hl l hg.2 hc.2 ht
   rw [evTs]
   refine ⟨by simp [k1], by simp [k2], fun i x r hx hr => ?_⟩
   cases i with
   | zero => simp at hx hr; subst hx; subst hr; exact h0
   | succ i => exact k3 i x r (by simpa using hx) (by simpa using hr)
end
inductive Out where
 | deny
 | grant (xs : List ByteArray)
 | err (c : Int)
def grantR (r : Int ⊕ PV) : Out := match r with
 | .inl c => .err c
 | .inr v => .grant v.xs
def decR (rq : List PV) : List (PS × PT) → List PV → Out
 | [], _ => .err 0
 | (s, p) :: l, lets =>
  let last := match p.g with
   | none => Out.deny
   | some g => grantR (evT rq lets g)
  match p.c with
  | none => last
  | some c => match evT rq lets c with
   | .inl e => .err e
   | .inr v => if s.k = 1 then decR rq l (lets ++ [v]) else if v.n = 0 then decR rq l lets else last
end Go.Proofs.YtgnjkdkedjljjaaGreatDoor
