/- The program's trees and ValidPolicy walked. -/
import Derived.Test.YtmbonalhbibppaaDoorP14
namespace Go.Proofs.YtmbonalhbibppaaDoor
open Go.Eng
set_option linter.unusedVariables false
set_option linter.unusedSimpArgs false
def zSt : List Value := [.int .i64 0, .string ⟨#[]⟩, .nilIface, .nilIface, .int .i64 0]
theorem tSt : Stc Tryd.prog 195 5 zSt := ⟨by kernel_rfl, by kernel_rfl⟩
theorem sSt : Slc Tryd.prog 75 195 (.agg ⟨zSt⟩) 5 64 := ⟨Tryd.underlying75, by kernel_rfl⟩
theorem fSt2 : Fld Tryd.prog 195 2 2 := ⟨by kernel_rfl⟩
theorem fSt3 : Fld Tryd.prog 195 3 3 := ⟨by kernel_rfl⟩
section
variable {E : Sym} {w : World} {K : Value → World → Prop} {d : Option Tmp} {ty : TypeId} {pos : String} {aft : Array Edge} {g : Option (Nat × Bool)} {bq : Bool}
theorem run_bWk (A : Option Addr) (m c : Nat) (f : FuncId) (fst cap : Array Value) (w : World) : (Instr.build 201 #[(0, .slice A m c), (2, .func (.func f) fst cap)]).run Tryd.prog w = .ok (.agg #[.slice A m c, .int .i64 0, .func (.func f) fst cap]) w := by kernel_rfl
theorem st_bWk (hE : EngB bq Tryd.prog E) {A : Option Addr} {m c : Nat} {f : FuncId} {fst cap : Array Value} {x y : Operand} (hk : K (.agg ⟨[.slice A m c, .int .i64 0, .func (.func f) fst cap]⟩) w) : E.stop ⟨d, .build 201 ⟨[(0, x), (2, y)]⟩, ty, pos, aft, g⟩ [.slice A m c, .func (.func f) fst cap] w K := by
  refine hE.det (v := .agg ⟨[.slice A m c, .int .i64 0, .func (.func f) fst cap]⟩) (fun w1 _ ρ hρ => ?_) hk
  simp only [opnds, List.map_cons, List.map_nil, List.cons.injEq, and_true] at hρ
  have := run_bWk A m c f fst cap w1
  simp [execOp, hρ, this]
theorem run_bSt (k i : Int) (s : ByteArray) (w : World) : (Instr.build 195 #[(0, .int .i64 k), (1, .string s), (4, .int .i64 i)]).run Tryd.prog w = .ok (.agg #[.int .i64 k, .string s, .nilIface, .nilIface, .int .i64 i]) w := by kernel_rfl
theorem st_bSt (hE : EngB bq Tryd.prog E) {k i : Int} {s : ByteArray} {x y z : Operand} (hk : K (.agg ⟨[.int .i64 k, .string s, .nilIface, .nilIface, .int .i64 i]⟩) w) : E.stop ⟨d, .build 195 ⟨[(0, x), (1, y), (4, z)]⟩, ty, pos, aft, g⟩ [.int .i64 k, .string s, .int .i64 i] w K := by
  refine hE.det (v := .agg ⟨[.int .i64 k, .string s, .nilIface, .nilIface, .int .i64 i]⟩) (fun w1 _ ρ hρ => ?_) hk
  simp only [opnds, List.map_cons, List.map_nil, List.cons.injEq, and_true] at hρ
  have := run_bSt k i s w1
  simp [execOp, hρ, this]
end
theorem size_nil {s : ByteArray} (h : s.size = 0) : s = ⟨#[]⟩ := by
  cases s with | mk d => cases d with | mk l => cases l with
    | nil => rfl
    | cons a l => simp [ByteArray.size] at h
theorem wr_new {w w' w'' : World} {R A : Option Addr} (h : Wr R w w') (hw : Wr A w' w'') {e k m c : Nat} {xs : List Value} (ho : Own w.heap.size e k w' A m c xs) : Wr R w w'' := by
  have hb := hw.bel ho h.size
  exact ⟨hb.os.trans h.os, hb.tape.trans h.tape, hb.output.trans h.output, Nat.le_trans h.size hb.size, fun k hk hn => (hb.block k hk).trans (h.block k hk hn)⟩
def optV (D : Nat → Prop) (w : World) : Option Tr → Value → Prop
  | none, v => v = .nilIface
  | some t, v => TreeV D w t v
theorem optV.keep {D D' : Nat → Prop} {w w' : World} {o : Option Tr} {v : Value} (h : optV D w o v) (hk : Keeps D w w') (hD : ∀ b, D b → D' b) : optV D' w' o v := by
  cases o with
  | none => exact h
  | some t => exact TreeV.keep hk hD t v h
theorem optV.one {D : Nat → Prop} {w : World} {o : Option Tr} {v : Value} (h : optV D w o v) : v.oneCell' = true := by
  cases o with
  | none => rw [show v = .nilIface from h]; rfl
  | some t => exact (TreeV.one h).1
/-- A statement with its trees. -/
structure SV where
  s : PS
  p : PT
  cv : Value
  gv : Value
  i : Int
def fV (e : SV) : List Value := [.int .i64 e.s.k, .string e.s.nm, e.cv, e.gv, .int .i64 e.i]
theorem fV_len (e : SV) : (fV e).length = 5 := rfl
def ES (D : Nat → Prop) (w : World) (es : List SV) : Prop := ∀ e ∈ es, optV D w e.p.c e.cv ∧ optV D w e.p.g e.gv
theorem ES.keep {D D' : Nat → Prop} {w w' : World} {es : List SV} (h : ES D w es) (hk : Keeps D w w') (hD : ∀ b, D b → D' b) : ES D' w' es := fun e he => ⟨(h e he).1.keep hk hD, (h e he).2.keep hk hD⟩
def Nums (sv : List PS) (es : List SV) : Prop := ∀ (j : Nat) (e : SV), es[j]? = some e → e.i = (j : Int) ∧ sv[j]? = some e.s
/-- What trees gives. -/
def LaidS (w : World) (A : Option Addr) (m c : Nat) (sv : List PS) (acc : List PT) : Prop := ∃ es : List SV, es.length = m ∧ m = sv.length ∧ m ≤ c ∧ es.map (·.p) = acc ∧ Cells w A (es.flatMap fV) ∧ Nums sv es ∧ ES (fun b => b < w.heap.size) w es
theorem foot_keep {w0s ws : Nat} {w w' : World} {A : Option Addr} {a : Addr} (h0 : w0s ≤ w.heap.size) (ha : w0s ≤ a.block ∧ a.block < ws) (ha0 : blk (some a) = some a.block) (hw : Wr (some a) w w') : Keeps (Foot w0s ws w A) w w' := fun b hb => hw.block b (foot_lt h0 hb) (by
    intro e
    rw [ha0] at e
    cases e
    rcases hb with hb | hb <;> omega)
theorem bx_form {B : Nat} {e : TypeId} {k : Nat} {w : World} {a : Addr} {m c : Nat} {xs : List Value} (h : Own B e k w (some a) m c xs) : B ≤ a.block ∧ a.block < w.heap.size ∧ blk (some a) = some a.block := by
  obtain ⟨g, rfl, h1, h2⟩ := h.form
  exact ⟨h1, h2, rfl⟩
theorem bx_apart {a b : Addr} (ha : blk (some a) = some a.block) (hb : blk (some b) = some b.block) (h : a.block ≠ b.block) : Apart (some a) (some b) := .inr (by rw [ha, hb]; intro q; exact h (Option.some.inj q))
theorem drop_cons {α : Type} {l : List α} {j : Nat} {x : α} (h : l[j]? = some x) : l.drop j = x :: l.drop (j + 1) := by
  have := (List.getElem?_eq_some_iff.1 h)
  rw [List.drop_eq_getElem_cons this.1, this.2]
set_option maxHeartbeats 16000000 in
theorem trees_f {w0 : World} (hT : Tab w0 6 constF) (hR0 : STab w0 5 words) {AN A2 : Option Addr} {N cN' n2 c2 : Nat} {nv : List PN} {sv : List PS} (h : PolR w0 AN N A2 n2 nv sv) (hN : N ≤ 9223372036854775807) (hn2 : n2 ≤ 9223372036854775807) {f0 : FuncId} {lp : Nat → PN → Prop} (hf : LeafA w0 f0 lp) :
    FC Tryd.prog 74 [.slice AN N cN', .slice A2 n2 c2, .func (.func f0) #[] #[]] w0 fun v w' => ∃ (A : Option Addr) (m c : Nat) (b : Bool), v = .tuple ⟨[.slice A m c, .bool b]⟩ ∧
      (b = true ↔ nv.length ≤ 4000 ∧ 1 ≤ sv.length ∧ sv.length ≤ 600 ∧ ∃ acc, runS nv lp sv 0 0 [] = some (acc, nv.length)) ∧
      (b = true → ∃ acc, runS nv lp sv 0 0 [] = some (acc, nv.length) ∧ LaidS w' A m c sv acc) := by
  refine FC.intro (cs := []) Tryd.func74 (by kernel_rfl) fun E R hE hr hR => ?_
  have hl := h.nodes.len
  have hl2 := h.stmts.len
  obtain ⟨V, hV0⟩ : ∃ V, V = runS nv lp sv 0 0 [] := ⟨_, rfl⟩
  rw [← hV0] at hR
  have no : ¬ (nv.length ≤ 4000 ∧ 1 ≤ sv.length ∧ sv.length ≤ 600 ∧ ∃ acc, V = some (acc, nv.length)) → ∀ A m c w', Ext w0 w' → R (.tuple ⟨[.slice A m c, .bool false]⟩) w' := fun h A m c w' hx => by
    rw [hR]; exact ⟨hx, A, m, c, false, rfl, ⟨(fun q => absurd q Bool.false_ne_true), fun q => absurd q h⟩, fun q => absurd q Bool.false_ne_true⟩
  conv => cbv
  refine st_box1 hr rfl fun q5 w1 hx1 hb50 => ?_
  have hb5 := hb50 _ (Nat.le_refl _)
  have f5 := bx_form hb5
  clear hb50
  conv => cbv
  refine st_len hE sINd fun x1 hx1' => ?_
  conv => cbv
  refine br (fun g => ?_) (fun g => ?_)
  · have g : 4000 < x1 := by simpa [hE.cmp, cmpR] using g
    conv => cbv
    exact no (fun q => by have := q.1; omega) _ _ _ _ hx1
  have g1 : N ≤ 4000 := by simp [hE.cmp, cmpR] at g; omega
  clear g
  conv => cbv
  refine st_len hE sISd fun x2 hx2' => ?_
  conv => cbv
  refine br (fun g => ?_) (fun g => ?_)
  · have g : x2 < 1 := by simpa [hE.cmp, cmpR] using g
    conv => cbv
    exact no (fun q => by have := q.2.1; omega) _ _ _ _ hx1
  have g2 : 1 ≤ n2 := by simp [hE.cmp, cmpR] at g; omega
  clear g
  conv => cbv
  refine st_len hE sISd fun x3 hx3' => ?_
  conv => cbv
  refine br (fun g => ?_) (fun g => ?_)
  · have g : 600 < x3 := by simpa [hE.cmp, cmpR] using g
    conv => cbv
    exact no (fun q => by have := q.2.2.1; omega) _ _ _ _ hx1
  have g3 : n2 ≤ 600 := by simp [hE.cmp, cmpR] at g; omega
  clear g
  have bad : (∀ acc, V ≠ some (acc, N)) → ∀ A m c w', Ext w0 w' → R (.tuple ⟨[.slice A m c, .bool false]⟩) w' := fun h => no fun q => by
    obtain ⟨acc, e⟩ := q.2.2.2
    exact h acc (by rw [e, hl])
  conv => cbv
  refine st_new hr (z := .int .i64 0) (by kernel_rfl) rfl fun q8 w2 hx2 hb80 => ?_
  have hb8 := hb80 _ (Nat.le_refl _)
  have f8 := bx_form hb8
  clear hb80
  conv => cbv
  refine st_put hr zInt hb8 (add_zero _).symm (by simp) rfl fun w3 hw3 hb8' => ?_
  simp only [List.set_cons_zero] at hb8'
  have hxa := hx2.then (hw3.bel hb8 hx2.size)
  clear hb8
  have hw3s := hw3.size
  replace hb5 := hb5.bel hxa
  have hxb := hx1.trans hxa
  have hb8 : Box w0.heap.size 3 1 w3 q8 [.int .i64 0] := hb8'.mono hx1.size
  clear hb8' hw3
  conv => cbv
  refine st_bWk hE ?_
  conv => cbv
  refine st_box hr fun q9 w4 hx4 hb90 => ?_
  have hb9 := hb90 _ (Nat.le_refl _)
  have f9 := bx_form hb9
  replace hb9 := hb9.mono hxb.size
  clear hb90
  replace hb5 := hb5.bel hx4
  replace hb8 := hb8.bel hx4
  have hx := hxb.trans hx4
  have s1 := hx1.size
  have s2 := hx2.size
  have s4 := hx4.size
  have a58 := bx_apart f5.2.2 f8.2.2 (by omega)
  have a59 := bx_apart f5.2.2 f9.2.2 (by omega)
  have a89 := bx_apart f8.2.2 f9.2.2 (by omega)
  have a98 := bx_apart f9.2.2 f8.2.2 (by omega)
  have r5 : w0.heap.size ≤ q5.block ∧ q5.block < w4.heap.size := by omega
  have r8 : w0.heap.size ≤ q8.block ∧ q8.block < w4.heap.size := by omega
  have r9 : w0.heap.size ≤ q9.block ∧ q9.block < w4.heap.size := by omega
  have hs04 : w0.heap.size ≤ w4.heap.size := hx.size
  have e5 := f5.2.2
  have e8 := f8.2.2
  have e9 := f9.2.2
  clear f5 f8 f9 hxa hxb hx1 hx2 hx4 s1 s2 s4 hw3s
  conv => cbv
  refine st_none hr sSt fun AA w5 hx5 ho0 => ?_
  have ho := ho0 w4.heap.size (Nat.le_refl _)
  clear ho0
  replace hb5 := hb5.bel hx5
  replace hb8 := hb8.bel hx5
  replace hb9 := hb9.bel hx5
  replace hx := hx.trans hx5
  have hs45 := hx5.size
  clear hx5
  conv => cbv
  refine st_len hE sISd fun x4 hx4 => ?_
  conv => cbv
  refine loop_rulec [13, 16, 18, 22] hr (fun (s : Nat × Int × Nat × Int × Nat × Int × Option Addr × Nat × List SV) w' => s.1 ≤ n2 ∧ s.2.1 = (s.1 : Int) ∧ s.2.2.1 ≤ N ∧ s.2.2.2.1 = (s.2.2.1 : Int) ∧ s.2.2.2.2.1 ≤ s.1 ∧ s.2.2.2.2.2.1 = (s.2.2.2.2.1 : Int) ∧ Ext w0 w' ∧ w4.heap.size ≤ w'.heap.size ∧
      Box w0.heap.size 147 1 w' q5 [.func (.func f0) #[] #[]] ∧ Box w0.heap.size 3 1 w' q8 [.int .i64 s.2.2.2.2.2.1] ∧ Box w0.heap.size 201 3 w' q9 [.slice AN N cN', .int .i64 s.2.2.2.1, .func (.func 118) #[] #[.pointer (some q5), .pointer (some q8)]] ∧
      Own w4.heap.size 195 5 w' s.2.2.2.2.2.2.1 s.1 s.2.2.2.2.2.2.2.1 (s.2.2.2.2.2.2.2.2.flatMap fV) ∧ ES (Foot w0.heap.size w4.heap.size w' s.2.2.2.2.2.2.1) w' s.2.2.2.2.2.2.2.2 ∧ Nums sv s.2.2.2.2.2.2.2.2 ∧
      runS nv lp (sv.drop s.1) s.2.2.1 s.2.2.2.2.1 (s.2.2.2.2.2.2.2.2.map (·.p)) = V)
    (fun s => [(0, .slice AN N cN'), (1, .slice A2 n2 c2), (8, .pointer (some q8)), (9, .pointer (some q9)), (10, .slice s.2.2.2.2.2.2.1 s.1 s.2.2.2.2.2.2.2.1), (34, .slice A2 n2 c2), (35, .int .i64 x4), (36, .int .i64 s.2.1)]) (fun s => n2 - s.1) (0, 0, 0, 0, 0, 0, AA, 0, [])
    (by simp [Fits, lk]) ⟨by simp, by simp, by simp, by simp, by simp, by simp, hx, hs45, hb5, hb8, hb9, by simpa using ho, (fun e he => by cases he), (fun j e he => by simp at he), hV0.symm⟩ ?_
  clear hb5 hb8 hb9 ho hx hs45 hV0
  rintro I hI ⟨j, jj, i, ii, le, ll, A, c, es⟩ w' ⟨hj, hjj, hi, hii, hle, hll, hx, hs4, hb5, hb8, hb9, ho, hes, hnu, hV⟩
  simp only at hj hjj hi hii hle hll hb5 hb8 hb9 ho hes hnu hV
  obtain ⟨jk, hjk⟩ : ∃ z, z = jj + 1 := ⟨_, rfl⟩
  obtain ⟨lk1, hlk⟩ : ∃ z, z = ll + 1 := ⟨_, rfl⟩
  obtain ⟨im, him⟩ : ∃ z : Int, z = n2 - 1 := ⟨_, rfl⟩
  have hol := ho.len
  rw [fl_len fV_len] at hol
  have h0s := hx.size
  conv => cbv
  refine br (fun g => ?_) (fun g => ?_)
  · have g : j < n2 := by
      have : jj < x4 := by simpa [hE.cmp, cmpR] using g
      omega
    have ej : E.ar .add .i64 jj 1 = jk := by rw [hE.ar, hjk]; exact wrap_in (by omega) (by omega)
    have el : E.ar .add .i64 ll 1 = lk1 := by rw [hE.ar, hlk]; exact wrap_in (by omega) (by omega)
    obtain ⟨a, v, hA, hg, hc, hok⟩ := (h.stmts.ext hx).get g
    obtain ⟨k, nm, cc, gg⟩ := v
    have s_nm := hok.s_nm
    simp only at s_nm
    rw [drop_cons hg, runS] at hV
    obtain ⟨la, hla⟩ : ∃ la, la = E.cmp .eql jj im := ⟨_, rfl⟩
    have hla2 : la = (sv.drop (j + 1)).isEmpty := by rw [hla, hE.cmp, Bool.eq_iff_iff]; simp [cmpR]; omega
    rw [← hla2] at hV
    obtain ⟨SM, hSM0⟩ : ∃ SM, SM = stmtM nv (lp le) la i ⟨k, nm, cc, gg⟩ := ⟨_, rfl⟩
    rw [← hSM0] at hV
    have hSM := hSM0
    unfold stmtM at hSM
    simp only at hSM
    have bad2 : SM = none → ∀ w2, Ext w0 w2 → R (.tuple ⟨[.slice none 0 0, .bool false]⟩) w2 := fun h => by
      rw [h] at hV
      simp only at hV
      exact bad (fun acc q => by rw [← hV] at q; cases q) _ _ _
    conv => cbv
    refine st_idx hE sISd hA (by omega) (by omega) fun q hq => ?_
    rw [show jj.toNat = j by omega] at hq
    conv => cbv
    refine st_loadS hE tISd (vs := [.int .i64 k, .string nm, .int .i64 cc, .int .i64 gg]) rfl (by rw [hq]; exact hc) ?_
    conv => cbv
    refine st_alloc hr tISd rfl fun q12 w6 hx6 hq0 => ?_
    conv => cbv
    refine st_putS hr (by kernel_rfl) (hq0 _ (Nat.le_refl _)) (add_zero _).symm (by simp) (by simp [Value.oneCell']) fun w7 hw7 hq12 => ?_
    simp only [List.take_zero, List.nil_append, List.length_cons, List.length_nil, List.drop_succ_cons, List.drop_nil, List.append_nil] at hq12
    have hy := hx6.then (hw7.bel (hq0 _ (Nat.le_refl _)) hx6.size)
    have f12 := bx_form hq12
    clear hq0 hw7 hx6 hq hc
    conv => cbv
    (refine st_fld hE fISd0 fun p hp => ?_; (conv => cbv); refine st_load hE cInt (by rw [hp]; exact (hq12).at _ _ rfl) ?_; clear hp; (conv => cbv))
    (refine st_fld hE fISd1 fun p hp => ?_; (conv => cbv); refine st_load hE cStr (by rw [hp]; exact (hq12).at _ _ rfl) ?_; clear hp; (conv => cbv))
    refine st_bSt hE ?_
    conv => cbv
    refine st_alloc hr tSt rfl fun q13 w8 hx8 hq0 => ?_
    conv => cbv
    refine st_putS hr (by kernel_rfl) (hq0 _ (Nat.le_refl _)) (add_zero _).symm (by simp [zSt]) (by simp [Value.oneCell']) fun w9 hw9 hq13 => ?_
    simp only [zSt, List.take_zero, List.nil_append, List.length_cons, List.length_nil, List.drop_succ_cons, List.drop_nil, List.append_nil] at hq13
    have hy2 := hx8.then (hw9.bel (hq0 _ (Nat.le_refl _)) hx8.size)
    replace hq12 := hq12.bel hy2
    have f1312 := (bx_form hq13).1
    replace hq13 := hq13.mono hy.size
    have f13 := (bx_form hq13)
    replace hy := hy.trans hy2
    clear hq0 hw9 hx8 hy2
    conv => cbv
    refine st_len hE sISd fun x6 hx6 => ?_
    have em : E.ar .sub .i64 x6 1 = im := by rw [hE.ar, show arR .sub .i64 x6 1 = IntKind.i64.wrap (x6 - 1) from rfl, wrap_in (by omega) (by omega)]; omega
    conv => cbv
    simp only [em, ← hla]
    have hxz := hx.trans hy
    refine cut_rule [] [16, 18, 22] hr (fun (s : Unit) wz => guardP la ⟨k, nm, cc, gg⟩ ∧ Ext w9 wz) (fun s => [(0, .slice AN N cN'), (1, .slice A2 n2 c2), (8, .pointer (some q8)), (9, .pointer (some q9)), (10, .slice A j c), (11, .int .i64 jj), (12, .pointer (some q12)), (13, .pointer (some q13)), (34, .slice A2 n2 c2), (35, .int .i64 x4), (36, .int .i64 jj)]) (fun J hJ => ?_) ?_
    · have bad3 : ¬ guardP la ⟨k, nm, cc, gg⟩ → ∀ wz, Ext w9 wz → R (.tuple ⟨[.slice none 0 0, .bool false]⟩) wz := fun q wz h => bad2 (by rw [hSM, if_neg q]) _ (hxz.trans h)
      conv => cbv
      (refine st_fld hE fISd0 fun p hp => ?_; (conv => cbv); refine st_load hE cInt (by rw [hp]; exact (hq12).at _ _ rfl) ?_; clear hp; (conv => cbv))
      refine br (fun b1 => ?_) (fun b1 => ?_)
      · have b1 : k < 1 := by simpa [hE.cmp, cmpR] using b1
        conv => cbv
        exact bad3 (fun q => by have := q.1; simp only at this; omega) _ (Ext.refl _)
      have b1 : ¬ k < 1 := by simpa [hE.cmp, cmpR] using b1
      conv => cbv
      (refine st_fld hE fISd0 fun p hp => ?_; (conv => cbv); refine st_load hE cInt (by rw [hp]; exact (hq12).at _ _ rfl) ?_; clear hp; (conv => cbv))
      refine br (fun b2 => ?_) (fun b2 => ?_)
      · have b2 : 3 < k := by simpa [hE.cmp, cmpR] using b2
        conv => cbv
        exact bad3 (fun q => by have := q.1; simp only at this; omega) _ (Ext.refl _)
      have b2 : ¬ 3 < k := by simpa [hE.cmp, cmpR] using b2
      conv => cbv
      (refine st_fld hE fISd0 fun p hp => ?_; (conv => cbv); refine st_load hE cInt (by rw [hp]; exact (hq12).at _ _ rfl) ?_; clear hp; (conv => cbv))
      refine st_bne hE uBool fun v1 hv1 => ?_
      cases v1 with
      | true =>
        have hv1 := hv1.1 rfl
        conv => cbv
        exact bad3 (fun q => hv1 (by rw [← q.2.1]; simp [hE.cmp, cmpR])) _ (Ext.refl _)
      | false =>
      have hv1 : k = 3 ↔ la = true := by
        have := Classical.byContradiction fun q => absurd (hv1.2 q) Bool.false_ne_true
        rw [← this]; simp [hE.cmp, cmpR]
      conv => cbv
      (refine st_fld hE fISd0 fun p hp => ?_; (conv => cbv); refine st_load hE cInt (by rw [hp]; exact (hq12).at _ _ rfl) ?_; clear hp; (conv => cbv))
      (refine st_fld hE fISd2 fun p hp => ?_; (conv => cbv); refine st_load hE cInt (by rw [hp]; exact (hq12).at _ _ rfl) ?_; clear hp; (conv => cbv))
      refine st_bne hE uBool fun v2 hv2 => ?_
      cases v2 with
      | true =>
        have hv2 := hv2.1 rfl
        conv => cbv
        exact bad3 (fun q => hv2 (by have := q.2.2.1; simpa [hE.cmp, cmpR] using this)) _ (Ext.refl _)
      | false =>
      have hv2 : k = 3 ↔ cc = -1 := by
        have := Classical.byContradiction fun q => absurd (hv2.2 q) Bool.false_ne_true
        simpa [hE.cmp, cmpR] using this
      conv => cbv
      (refine st_fld hE fISd0 fun p hp => ?_; (conv => cbv); refine st_load hE cInt (by rw [hp]; exact (hq12).at _ _ rfl) ?_; clear hp; (conv => cbv))
      refine br (fun b5 => ?_) (fun b5 => ?_)
      · have b5 : k = 1 := by simpa [hE.cmp, cmpR] using b5
        conv => cbv
        (refine st_fld hE fISd3 fun p hp => ?_; (conv => cbv); refine st_load hE cInt (by rw [hp]; exact (hq12).at _ _ rfl) ?_; clear hp; (conv => cbv))
        refine br (fun b6 => ?_) (fun b6 => ?_)
        · have b6 : gg ≠ -1 := by simpa [hE.cmp, cmpR] using b6
          conv => cbv
          exact bad3 (fun q => b6 (q.2.2.2.1 b5)) _ (Ext.refl _)
        have b6 : gg = -1 := by simpa [hE.cmp, cmpR] using b6
        conv => cbv
        (refine st_fld hE fISd0 fun p hp => ?_; (conv => cbv); refine st_load hE cInt (by rw [hp]; exact (hq12).at _ _ rfl) ?_; clear hp; (conv => cbv))
        refine br (fun b7 => ?_) (fun b7 => ?_)
        · have b7 : k ≠ 1 := by simpa [hE.cmp, cmpR] using b7
          exact absurd b5 b7
        conv => cbv
        (refine st_fld hE fISd0 fun p hp => ?_; (conv => cbv); refine st_load hE cInt (by rw [hp]; exact (hq12).at _ _ rfl) ?_; clear hp; (conv => cbv))
        refine br (fun b8 => ?_) (fun b8 => ?_)
        rotate_left
        · have b8 : k ≠ 1 := by simpa [hE.cmp, cmpR] using b8
          exact absurd b5 b8
        conv => cbv
        (refine st_fld hE fISd1 fun p hp => ?_; (conv => cbv); refine st_load hE cStr (by rw [hp]; exact (hq12).at _ _ rfl) ?_; clear hp; (conv => cbv))
        refine st_qb hE (isNameToken_f (hR0.ext hxz) nm s_nm) fun b hb2 wz hsz => ?_
        cases b with
        | false =>
          conv => cbv
          exact bad3 (fun q => absurd (hb2.2 (q.2.2.2.2.2 b5)) Bool.false_ne_true) _ hsz.ext
        | true =>
          conv => cbv
          exact ⟨(), by simp [Fits, lk], hJ _ _ ⟨⟨by simp only; omega, hv1, hv2, fun _ => b6, fun q => absurd b5 q, fun _ => hb2.1 rfl⟩, hsz.ext⟩⟩
      · have b5 : k ≠ 1 := by simpa [hE.cmp, cmpR] using b5
        conv => cbv
        (refine st_fld hE fISd0 fun p hp => ?_; (conv => cbv); refine st_load hE cInt (by rw [hp]; exact (hq12).at _ _ rfl) ?_; clear hp; (conv => cbv))
        refine br (fun b7 => ?_) (fun b7 => ?_)
        rotate_left
        · have b7 : k = 1 := by simpa [hE.cmp, cmpR] using b7
          exact absurd b7 b5
        conv => cbv
        (refine st_fld hE fISd1 fun p hp => ?_; (conv => cbv); refine st_load hE cStr (by rw [hp]; exact (hq12).at _ _ rfl) ?_; clear hp; (conv => cbv))
        refine br (fun b6 => ?_) (fun b6 => ?_)
        · have b6 := (scn hE _).1 b6
          conv => cbv
          exact bad3 (fun q => b6 (by rw [show nm = _ from q.2.2.2.2.1 b5]; rfl)) _ (Ext.refl _)
        have b6 : nm = ⟨#[]⟩ := Classical.byContradiction fun q => b6 ((scn hE _).2 fun z => q (size_nil z))
        conv => cbv
        (refine st_fld hE fISd0 fun p hp => ?_; (conv => cbv); refine st_load hE cInt (by rw [hp]; exact (hq12).at _ _ rfl) ?_; clear hp; (conv => cbv))
        refine br (fun b8 => ?_) (fun b8 => ?_)
        · have b8 : k = 1 := by simpa [hE.cmp, cmpR] using b8
          exact absurd b8 b5
        conv => cbv
        exact ⟨(), by simp [Fits, lk], hJ _ _ ⟨⟨by simp only; omega, hv1, hv2, fun q => absurd q b5, fun _ => b6, fun q => absurd q b5⟩, Ext.refl _⟩⟩
    · rintro _ wz ⟨hgd, hwz⟩
      rw [if_pos hgd] at hSM
      replace hq12 := hq12.bel hwz
      replace hq13 := hq13.bel hwz
      replace hy := hy.trans hwz
      have h9z := hwz.size
      clear hxz hwz
      have xw : ∀ wz, Wr (some q9) w' wz → Ext w0 wz := fun wz hz => hx.then (hz.bel hb9 hx.size)
      have e13 := f13.2.2
      have b13 : w'.heap.size ≤ q13.block ∧ q13.block < w9.heap.size := ⟨f13.1, f13.2.1⟩
      have a139 := bx_apart e13 e9 (by omega)
      have a129 := bx_apart f12.2.2 e9 (by omega)
      have a1213 := bx_apart f12.2.2 e13 (by omega)
      have hleaf : ∀ wy, Wr (some q9) w' wy → LeafC wy q9 118 #[] #[.pointer (some q5), .pointer (some q8)] (lp le) := fun wy hz => trees1_a hf (xw _ hz) ⟨r9.1, by have := hz.size; omega⟩ e9 (by omega) hll (hb5.wr hz a59) (hb8.wr hz a89) a59 a89
      conv => cbv
      refine cut_rule [] [18, 22] hr (fun (s : Option (Option Tr × Value × Nat × Int)) wy => match s with
          | none => SM = none ∧ Ext w0 wy
          | some (co, cv, i1, ii1) => optM nv (lp le) i cc = some (co, i1) ∧ ii1 = (i1 : Int) ∧ i1 ≤ N ∧ Wr (some q9) w' wy ∧ w9.heap.size ≤ wy.heap.size ∧ Box w0.heap.size 201 3 wy q9 [.slice AN N cN', .int .i64 ii1, .func (.func 118) #[] #[.pointer (some q5), .pointer (some q8)]] ∧
              Box w'.heap.size 139 4 wy q12 [.int .i64 k, .string nm, .int .i64 cc, .int .i64 gg] ∧ Box w'.heap.size 195 5 wy q13 [.int .i64 k, .string nm, cv, .nilIface, .int .i64 jj] ∧ optV (fun b => b < w0.heap.size ∨ (w9.heap.size ≤ b ∧ b < wy.heap.size)) wy co cv)
        (fun s => match s with
          | none => [(15, .bool false)]
          | some _ => [(0, .slice AN N cN'), (1, .slice A2 n2 c2), (8, .pointer (some q8)), (9, .pointer (some q9)), (10, .slice A j c), (12, .pointer (some q12)), (13, .pointer (some q13)), (15, .bool true), (34, .slice A2 n2 c2), (35, .int .i64 x4), (36, .int .i64 jj)]) (fun J hJ => ?_) ?_
      · (refine st_fld hE fISd2 fun p hp => ?_; (conv => cbv); refine st_load hE cInt (by rw [hp]; exact (hq12).at _ _ rfl) ?_; clear hp; (conv => cbv))
        refine br (fun t1 => ?_) (fun t1 => ?_)
        rotate_left
        · have t1 : cc = -1 := by simpa [hE.cmp, cmpR] using t1
          conv => cbv
          exact ⟨some (none, .nilIface, i, ii), by simp [Fits, lk], hJ _ _ ⟨by unfold optM; rw [if_pos t1], hii, hi, hy.wr _, h9z, hb9.bel hy, hq12, hq13, rfl⟩⟩
        · have t1 : cc ≠ -1 := by simpa [hE.cmp, cmpR] using t1
          conv => cbv
          (refine st_fld hE fISd2 fun p hp => ?_; (conv => cbv); refine st_load hE cInt (by rw [hp]; exact (hq12).at _ _ rfl) ?_; clear hp; (conv => cbv))
          refine st_g hr (tree_g hT h.nodes g1 hii hi (hb9.bel hy) (hx.trans hy) (hleaf _ (hy.wr _)) cc) fun u w10 ⟨v, b, ev, hv1, hw10, hbf, hbt⟩ => ?_
          subst ev
          conv => cbv
          have hwr10 := (hy.wr (some q9)).trans hw10
          replace hq12 := hq12.wr hw10 a129
          replace hq13 := hq13.wr hw10 a139
          refine st_fld hE fSt2 fun p hp => ?_
          conv => cbv
          refine st_put hr zTr hq13 hp (by simp) hv1 fun w11 hw11 hq13' => ?_
          simp only [List.set_cons_zero, List.set_cons_succ] at hq13'
          have hwr11 := wr_new hwr10 hw11 hq13
          have s10 := hw10.size
          have s11 := hw11.size
          replace hq12 := hq12.wr hw11 a1213
          conv => cbv
          cases b with
          | false =>
            exact ⟨none, by simp [Fits, lk], hJ _ _ ⟨by rw [hSM]; unfold optM; rw [if_neg t1, hbf rfl], xw _ hwr11⟩⟩
          | true =>
            obtain ⟨t, ty, u, rfl, ht, htv, hb9'⟩ := hbt rfl
            obtain ⟨kn, hkn, hk1, hk2, _⟩ := treeM_iff.1 ht
            exact ⟨some (some t, .iface ty u, cc.toNat + 1, cc + 1), by simp [Fits, lk], hJ _ _ ⟨by unfold optM; rw [if_neg t1, ht], by omega, by omega, hwr11, by omega, hb9'.wr hw11 (bx_apart e9 e13 (by omega)), hq12, hq13', by
              refine TreeV.keep (fun b hb => hw11.block b ?_ ?_) (fun b hb => ?_) t _ htv
              · rcases hb with hb | hb <;> omega
              · rw [e13]; intro q; cases q; rcases hb with hb | hb <;> omega
              · rcases hb with hb | hb
                · exact .inl hb
                · exact .inr ⟨by omega, by omega⟩⟩⟩
      · clear hq12 hq13 hy h9z
        rintro (_ | ⟨co, cv, i1, ii1⟩) wy hI2
        · obtain ⟨hS1, hS2⟩ := hI2
          conv => cbv
          refine cut_rule [] [] hr (fun (s : Unit) wy => Ext w0 wy) (fun s => [(15, .bool false)]) (fun J hJ => ?_) ?_
          · conv => cbv
            exact ⟨(), by simp [Fits, lk], hJ _ _ hS2⟩
          · rintro _ wy hS2
            conv => cbv
            exact bad2 hS1 _ hS2
        obtain ⟨hc1, hii1, hi1, hwr, h9z, hb9y, hq12, hq13, hcv⟩ := hI2
        rw [hc1] at hSM
        simp only at hSM
        conv => cbv
        refine cut_rule [] [22] hr (fun (s : Option (Option Tr × Value × Option Tr × Value × Nat × Int)) wy => match s with
            | none => SM = none ∧ Ext w0 wy
            | some (co, cv, go, gv, i2, ii2) => SM = some (⟨co, go⟩, i2) ∧ ii2 = (i2 : Int) ∧ i2 ≤ N ∧ Wr (some q9) w' wy ∧ w9.heap.size ≤ wy.heap.size ∧ Box w0.heap.size 201 3 wy q9 [.slice AN N cN', .int .i64 ii2, .func (.func 118) #[] #[.pointer (some q5), .pointer (some q8)]] ∧
                Box w'.heap.size 139 4 wy q12 [.int .i64 k, .string nm, .int .i64 cc, .int .i64 gg] ∧ Box w'.heap.size 195 5 wy q13 [.int .i64 k, .string nm, cv, gv, .int .i64 jj] ∧ optV (fun b => b < w0.heap.size ∨ (w9.heap.size ≤ b ∧ b < wy.heap.size)) wy co cv ∧ optV (fun b => b < w0.heap.size ∨ (w9.heap.size ≤ b ∧ b < wy.heap.size)) wy go gv)
          (fun s => match s with
            | none => [(15, .bool false)]
            | some _ => [(0, .slice AN N cN'), (1, .slice A2 n2 c2), (8, .pointer (some q8)), (9, .pointer (some q9)), (10, .slice A j c), (12, .pointer (some q12)), (13, .pointer (some q13)), (15, .bool true), (34, .slice A2 n2 c2), (35, .int .i64 x4), (36, .int .i64 jj)]) (fun J hJ => ?_) ?_
        · (refine st_fld hE fISd3 fun p hp => ?_; (conv => cbv); refine st_load hE cInt (by rw [hp]; exact (hq12).at _ _ rfl) ?_; clear hp; (conv => cbv))
          refine br (fun t1 => ?_) (fun t1 => ?_)
          rotate_left
          · have t1 : gg = -1 := by simpa [hE.cmp, cmpR] using t1
            conv => cbv
            exact ⟨some (co, cv, none, .nilIface, i1, ii1), by simp [Fits, lk], hJ _ _ ⟨by rw [hSM]; unfold optM; rw [if_pos t1], hii1, hi1, hwr, h9z, hb9y, hq12, hq13, hcv, rfl⟩⟩
          · have t1 : gg ≠ -1 := by simpa [hE.cmp, cmpR] using t1
            conv => cbv
            (refine st_fld hE fISd3 fun p hp => ?_; (conv => cbv); refine st_load hE cInt (by rw [hp]; exact (hq12).at _ _ rfl) ?_; clear hp; (conv => cbv))
            refine st_g hr (tree_g hT h.nodes g1 hii1 hi1 hb9y (xw _ hwr) (hleaf _ hwr) gg) fun u w10 ⟨v, b, ev, hv1, hw10, hbf, hbt⟩ => ?_
            subst ev
            conv => cbv
            have hwr10 := hwr.trans hw10
            replace hq12 := hq12.wr hw10 a129
            replace hq13 := hq13.wr hw10 a139
            refine st_fld hE fSt3 fun p hp => ?_
            conv => cbv
            refine st_put hr zTr hq13 hp (by simp) hv1 fun w11 hw11 hq13' => ?_
            simp only [List.set_cons_zero, List.set_cons_succ] at hq13'
            have hwr11 := wr_new hwr10 hw11 hq13
            have s10 := hw10.size
            have s11 := hw11.size
            replace hq12 := hq12.wr hw11 a1213
            conv => cbv
            cases b with
            | false =>
              exact ⟨none, by simp [Fits, lk], hJ _ _ ⟨by rw [hSM]; unfold optM; rw [if_neg t1, hbf rfl], xw _ hwr11⟩⟩
            | true =>
              obtain ⟨t, ty, u, rfl, ht, htv, hb9'⟩ := hbt rfl
              obtain ⟨kn, hkn, hk1, hk2, _⟩ := treeM_iff.1 ht
              have keepD : ∀ (b : Nat), b < w0.heap.size ∨ (w9.heap.size ≤ b ∧ b < w10.heap.size) → w11.heap[b]? = w10.heap[b]? := fun b hb => hw11.block b (by rcases hb with hb | hb <;> omega) (by rw [e13]; intro q; cases q; rcases hb with hb | hb <;> omega)
              exact ⟨some (co, cv, some t, .iface ty u, gg.toNat + 1, gg + 1), by simp [Fits, lk], hJ _ _ ⟨by rw [hSM]; unfold optM; rw [if_neg t1, ht], by omega, by omega, hwr11, by omega, hb9'.wr hw11 (bx_apart e9 e13 (by omega)), hq12, hq13', by
                refine (hcv.keep (fun b hb => hw10.block b ?_ ?_) (fun b hb => ?_)).keep (D := fun b => b < w0.heap.size ∨ (w9.heap.size ≤ b ∧ b < w10.heap.size)) keepD (fun b hb => ?_)
                · rcases hb with hb | hb <;> omega
                · rw [e9]; intro q; cases q; rcases hb with hb | hb <;> omega
                · rcases hb with hb | hb
                  · exact .inl hb
                  · exact .inr ⟨by omega, by omega⟩
                · rcases hb with hb | hb
                  · exact .inl hb
                  · exact .inr ⟨by omega, by omega⟩, by
                refine TreeV.keep (fun b hb => keepD b ?_) (fun b hb => ?_) t _ htv
                · rcases hb with hb | hb
                  · exact .inl hb
                  · exact .inr ⟨by omega, by omega⟩
                · rcases hb with hb | hb
                  · exact .inl hb
                  · exact .inr ⟨by omega, by omega⟩⟩⟩
        · clear hq12 hq13 hwr h9z hb9y hcv hSM hc1
          rintro (_ | ⟨co', cv', go, gv, i2, ii2⟩) wy hI2
          · obtain ⟨hS1, hS2⟩ := hI2
            conv => cbv
            exact bad2 hS1 _ hS2
          obtain ⟨hS1, hii2, hi2, hwr, h9z, hb9y, hq12, hq13, hcv, hgv⟩ := hI2
          rw [hS1] at hV
          simp only at hV
          have hw8 := hs4
          have hsy := hwr.size
          replace hb5 := hb5.wr hwr a59
          replace hb8 := hb8.wr hwr a89
          have apA := own_low ho r9.2 e9
          have hblA : ∀ b, w9.heap.size ≤ b → blk A ≠ some b := fun b hb q => by
            obtain rfl | ⟨g, rfl, _, hg⟩ := ho.blk
            · simp [Eng.blk, Value.ownBlock] at q
            · have e1 : blk (some (⟨g, 0, none⟩ : Addr)) = some g := rfl
              rw [e1] at q; cases q; omega
          replace ho := ho.wr hwr apA.1
          replace hes : ES (Foot w0.heap.size w4.heap.size wy A) wy es := hes.keep (foot_keep h0s ⟨r9.1, r9.2⟩ e9 hwr) fun b hb => foot_ext hsy hb
          have toF : ∀ b, b < w0.heap.size ∨ (w9.heap.size ≤ b ∧ b < wy.heap.size) → Foot w0.heap.size w4.heap.size wy A b := fun b hb => by
            rcases hb with hb | hb
            · exact .inl hb
            · exact .inr ⟨by omega, hb.2, hblA b hb.1⟩
          replace hcv : optV (Foot w0.heap.size w4.heap.size wy A) wy co' cv' := hcv.keep (fun b _ => rfl) toF
          replace hgv : optV (Foot w0.heap.size w4.heap.size wy A) wy go gv := hgv.keep (fun b _ => rfl) toF
          have hxy := xw _ hwr
          have h0y := hxy.size
          conv => cbv
          refine cut_rule [] [] hr (fun (s : Nat × Int) wv => s.1 = (if k = 1 then le + 1 else le) ∧ s.2 = (s.1 : Int) ∧ Ext w0 wv ∧ w4.heap.size ≤ wv.heap.size ∧ Box w0.heap.size 147 1 wv q5 [.func (.func f0) #[] #[]] ∧ Box w0.heap.size 3 1 wv q8 [.int .i64 s.2] ∧
              Box w0.heap.size 201 3 wv q9 [.slice AN N cN', .int .i64 ii2, .func (.func 118) #[] #[.pointer (some q5), .pointer (some q8)]] ∧ Box w'.heap.size 195 5 wv q13 [.int .i64 k, .string nm, cv', gv, .int .i64 jj] ∧ Own w4.heap.size 195 5 wv A j c (es.flatMap fV) ∧
              ES (Foot w0.heap.size w4.heap.size wv A) wv es ∧ optV (Foot w0.heap.size w4.heap.size wv A) wv co' cv' ∧ optV (Foot w0.heap.size w4.heap.size wv A) wv go gv)
            (fun s => [(0, .slice AN N cN'), (1, .slice A2 n2 c2), (8, .pointer (some q8)), (9, .pointer (some q9)), (10, .slice A j c), (13, .pointer (some q13)), (34, .slice A2 n2 c2), (35, .int .i64 x4), (36, .int .i64 jj)]) (fun J hJ => ?_) ?_
          · (refine st_fld hE fISd0 fun p hp => ?_; (conv => cbv); refine st_load hE cInt (by rw [hp]; exact (hq12).at _ _ rfl) ?_; clear hp; (conv => cbv))
            refine br (fun t1 => ?_) (fun t1 => ?_)
            rotate_left
            · have t1 : k ≠ 1 := by simpa [hE.cmp, cmpR] using t1
              conv => cbv
              exact ⟨(le, ll), by simp [Fits, lk], hJ _ _ ⟨by rw [if_neg t1], hll, hxy, by omega, hb5, hb8, hb9y, hq13, ho, hes, hcv, hgv⟩⟩
            · have t1 : k = 1 := by simpa [hE.cmp, cmpR] using t1
              conv => cbv
              refine st_load hE cInt (by have := hb8.at 0 _ rfl; rwa [add_zero] at this) ?_
              conv => cbv
              simp only [el]
              refine st_put hr zInt hb8 (add_zero _).symm (by simp) rfl fun wv hwv hb8' => ?_
              simp only [List.set_cons_zero] at hb8'
              have apA8 := own_low ho r8.2 e8
              have hvs := hwv.size
              have kp : ∀ b, Foot w0.heap.size w4.heap.size wy A b → wv.heap[b]? = wy.heap[b]? := foot_keep h0y ⟨r8.1, r8.2⟩ e8 hwv
              have kf : ∀ b, Foot w0.heap.size w4.heap.size wy A b → Foot w0.heap.size w4.heap.size wv A b := fun b hb => foot_ext hvs hb
              conv => cbv
              exact ⟨(le + 1, lk1), by simp [Fits, lk], hJ _ _ ⟨by rw [if_pos t1], by simp only; omega, hxy.then (hwv.bel hb8 h0y), by omega, hb5.wr hwv a58, hb8', hb9y.wr hwv a98, hq13.wr hwv (bx_apart e13 e8 (by omega)), ho.wr hwv apA8.1, hes.keep kp kf, hcv.keep kp kf, hgv.keep kp kf⟩⟩
          · clear hb5 hb8 hb9 hb9y hq13 hq12 ho hes hcv hgv hxy h0y apA
            rintro ⟨le', ll'⟩ wv ⟨hle', hll', hxy, hs4v, hb5, hb8, hb9, hq13, ho, hes, hcv, hgv⟩
            simp only at hle' hll' hb8
            rw [← hle'] at hV
            conv => cbv
            refine st_loadS hE tSt rfl hq13.at ?_
            conv => cbv
            have h0y := hxy.size
            refine st_oneS hr sSt rfl (by omega) (by omega) rfl fun A7 w7 hx7 hc7 => ?_
            have kp7 : ∀ b, Foot w0.heap.size w4.heap.size wv A b → w7.heap[b]? = wv.heap[b]? := fun b hb => hx7.block b (foot_lt h0y hb)
            have kf7 : ∀ b, Foot w0.heap.size w4.heap.size wv A b → Foot w0.heap.size w4.heap.size w7 A b := fun b hb => foot_ext hx7.size hb
            replace hb5 := hb5.bel hx7
            replace hb8 := hb8.bel hx7
            replace hb9 := hb9.bel hx7
            replace ho := ho.bel hx7
            replace hes := hes.keep kp7 kf7
            replace hcv := hcv.keep kp7 kf7
            replace hgv := hgv.keep kp7 kf7
            replace hxy := hxy.trans hx7
            have hs47 := hx7.size
            have oc := hcv.one
            have og := hgv.one
            clear kp7 kf7 hx7 h0y
            have h0y := hxy.size
            conv => cbv
            refine st_appsKG hr sSt rfl (by omega) ho hc7 rfl (by omega) (by
              intro v hv
              simp only [List.mem_cons, List.not_mem_nil, or_false] at hv
              rcases hv with rfl | rfl | rfl | rfl | rfl <;> first | rfl | assumption) (by omega) (by omega) (by omega) fun A8 c8 m8 w8 hm8 hw8 ho8 hbk => ?_
            subst hm8
            have hgro : Gro _ A w8 A8 := ⟨hw8, hbk.imp id fun e => ⟨_, e, Nat.le_refl _⟩⟩
            have hrow := own_row ho hs04
            have apA := own_low ho r5.2 e5
            have apB := own_low ho r8.2 e8
            have apC := own_low ho r9.2 e9
            have kp8 : ∀ b, Foot w0.heap.size w4.heap.size w7 A b → w8.heap[b]? = w7.heap[b]? := fun b hb => hw8.block b (foot_lt h0y hb) (by
              intro e
              rcases hb with hb | hb
              · rcases hrow with rfl | ⟨g, e2, hg2⟩
                · simp [Eng.blk, Value.ownBlock] at e
                · rw [e2] at e; cases e; omega
              · exact hb.2.2 e.symm)
            have kf8 : ∀ b, Foot w0.heap.size w4.heap.size w7 A b → Foot w0.heap.size w4.heap.size w8 A8 b := fun b hb => by
              rcases hb with hb | ⟨h1, h2, h3⟩
              · exact .inl hb
              · refine .inr ⟨h1, Nat.lt_of_lt_of_le h2 hgro.wr.size, ?_⟩
                rcases hgro.at_ with e | ⟨g, e, hg2⟩
                · rw [e]; exact h3
                · rw [e]; intro q; cases q; omega
            conv => cbv
            simp only [ej]
            have hs8 := hw8.size
            refine ⟨(j + 1, jk, i2, ii2, le', ll', A8, c8, es ++ [⟨⟨k, nm, cc, gg⟩, ⟨co', go⟩, cv', gv, jj⟩]), by simp [Fits, lk], hI _ _ ⟨by simp only; omega, by simp only; omega, hi2, hii2, ?_, hll', hxy.then (hw8.bel (ho.mono hs04) h0y), by omega, hb5.wr hw8 apA.2, hb8.wr hw8 apB.2, hb9.wr hw8 apC.2, ?_, ?_, ?_, ?_⟩, by simp only; omega⟩
            · simp only
              split at hle' <;> omega
            · simp only
              rw [List.flatMap_append]
              exact ho8
            · simp only
              intro e he
              rcases List.mem_append.1 he with he | he
              · exact (hes.keep kp8 kf8) e he
              · simp at he
                subst he
                exact ⟨hcv.keep kp8 kf8, hgv.keep kp8 kf8⟩
            · simp only
              intro q e hq
              rcases Nat.lt_or_ge q es.length with r | r
              · rw [List.getElem?_append_left r] at hq; exact hnu q e hq
              · rw [List.getElem?_append_right r] at hq
                have : q = j := by
                  have := (List.getElem?_eq_some_iff.1 hq).1
                  simp at this; omega
                subst this
                rw [show q - es.length = 0 by omega] at hq
                simp at hq
                subst hq
                exact ⟨hjj, hg⟩
            · simp only
              rw [List.map_append]
              exact hV
  · have g : j = n2 := by
      have : ¬ jj < x4 := by simpa [hE.cmp, cmpR] using g
      omega
    subst g
    rw [List.drop_eq_nil_of_le (by omega), runS] at hV
    conv => cbv
    refine draw_q hr fol (by kernel_rfl) fun E' hE' => ?_
    conv => cbv
    (refine st_nil hE' ?_; (conv => cbv); refine st_fld hE' fWk1 fun p hp => ?_; (conv => cbv); refine st_load hE' cInt (by rw [hp]; exact (hb9).at _ _ rfl) ?_; clear hp; (conv => cbv))
    refine st_len hE' sINd fun x5 hx5 => ?_
    conv => cbv
    obtain ⟨q4, hq4⟩ : ∃ q4, q4 = E'.cmp .eql ii x5 := ⟨_, rfl⟩
    have hq5 : q4 = true ↔ i = N := by rw [hq4, hE'.cmp]; simp [cmpR]; omega
    simp only [← hq4]
    intro wv hsv
    conv => cbv
    rw [hR]
    have hx2 := hx.trans hsv.ext
    refine ⟨hx2, A, j, c, q4, rfl, ?_, fun hq => ?_⟩
    · rw [hq5]
      constructor
      · intro e
        exact ⟨by omega, by omega, by omega, _, by rw [← hV, e, hl]⟩
      · rintro ⟨_, _, _, acc, e⟩
        rw [← hV] at e
        simp at e
        omega
    · have e := hq5.1 hq
      refine ⟨es.map (·.p), by rw [← hV, e, hl], es, by omega, by omega, ho.cap, rfl, ho.cells.ext hsv.ext, hnu, hes.keep (fun b hb => hsv.ext.block b (foot_lt h0s hb)) fun b hb => ?_⟩
      exact foot_lt hx2.size (foot_ext hsv.ext.size hb)
end Go.Proofs.YtmbonalhbibppaaDoor
