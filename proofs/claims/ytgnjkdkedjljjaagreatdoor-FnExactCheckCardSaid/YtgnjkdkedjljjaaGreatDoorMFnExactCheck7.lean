/- Texts that the law FnExactCheck leans on, part 7 of 7: contracts of the functions that it reaches and plain lemmas. Each holds under the conditions that it states. -/
import Derived.Test.YtgnjkdkedjljjaaGreatDoorMFnExactCheck6
import Derived.Laws.Externs
import Derived.LaidEql
import Derived.Stop.Asserts
import Derived.Test.YtgnjkdkedjljjaaGreatDoorTie
import Derived.LaidHandle
set_option maxHeartbeats 16000000
set_option linter.unusedVariables false
set_option linter.unusedSimpArgs false
namespace Go.Proofs.YtgnjkdkedjljjaaGreatDoor
open Go.Eng
set_option linter.unusedVariables false
set_option linter.unusedSimpArgs false
theorem fSd2 : Fld Tryz.prog 155 2 2 := ⟨by kernel_rfl⟩
theorem fSd3 : Fld Tryz.prog 155 3 3 := ⟨by kernel_rfl⟩
section
variable {E : Sym} {w : World} {K : Value → World → Prop} {d : Option Tmp} {ty : TypeId} {pos : String} {aft : Array Edge} {g : Option (Nat × Bool)} {bq : Bool}
theorem run_bSd (k : Int) (s : ByteArray) (w : World) : (Instr.build 155 #[(0, .int .i64 k), (1, .string s)]).run Tryz.prog w = .ok (.agg #[.int .i64 k, .string s, .int .i64 0, .int .i64 0]) w := by kernel_rfl
theorem st_bSd (hE : EngB bq Tryz.prog E) {k : Int} {s : ByteArray} {x0 x1 : Operand} (hk : K (.agg ⟨[.int .i64 k, .string s, .int .i64 0, .int .i64 0]⟩) w) : E.stop ⟨d, .build 155 ⟨[(0, x0), (1, x1)]⟩, ty, pos, aft, g⟩ [.int .i64 k, .string s] w K := by
 refine hE.det (v := .agg ⟨[.int .i64 k, .string s, .int .i64 0, .int .i64 0]⟩) (fun w1 _ ρ hρ => ?_) hk
 simp only [opnds, b2_, b3_, b1_, and_true] at hρ
 have := run_bSd k s w1
 simp [execOp, hρ.1, hρ.2, this]
theorem run_bLaid (w : World) : (Instr.build 200 #[]).run Tryz.prog w = .ok (.agg #[.slice none 0 0, .slice none 0 0]) w := by kernel_rfl
theorem st_bLaid (hE : EngB bq Tryz.prog E) (hk : K (.agg ⟨[.slice none 0 0, .slice none 0 0]⟩) w) : E.stop ⟨d, .build 200 ⟨[]⟩, ty, pos, aft, g⟩ [] w K := by
 refine hE.det (v := .agg ⟨[.slice none 0 0, .slice none 0 0]⟩) (fun w1 _ ρ hρ => ?_) hk
 have := run_bLaid w1
 simp [execOp, this]
theorem run_bTyp (A B C : Option Addr) (a b c a' b' c' : Nat) (w : World) : (Instr.build 31 #[(0, .slice A a a'), (1, .slice B b b'), (2, .slice C c c')]).run Tryz.prog w = .ok (.agg #[.slice A a a', .slice B b b', .slice C c c']) w := by kernel_rfl
theorem st_bTyp (hE : EngB bq Tryz.prog E) {A B C : Option Addr} {a b c a' b' c' : Nat} {x0 x1 x2 : Operand} (hk : K (.agg ⟨[.slice A a a', .slice B b b', .slice C c c']⟩) w) : E.stop ⟨d, .build 31 ⟨[(0, x0), (1, x1), (2, x2)]⟩, ty, pos, aft, g⟩ [.slice A a a', .slice B b b', .slice C c c'] w K := by
 refine hE.det (v := .agg ⟨[.slice A a a', .slice B b b', .slice C c c']⟩) (fun w1 _ ρ hρ => ?_) hk
 simp only [opnds, b2_, b3_, b1_, and_true] at hρ
 have := run_bTyp A B C a b c a' b' c' w1
 simp [execOp, hρ.1, hρ.2.1, hρ.2.2, this]
end
theorem layO_g {w0 : World} (hT : Tab w0 6 constF) {q : Addr} (hqb : blk (some q) = some q.block) {o : Option Tr} {v : Value} {w : World} {D : Nat → Prop} {A T : Option Addr} {m c ct : Nat} {vs : List VN} {ts : List Int} (hfew : ∀ t, o = some t → fewT t) (hx0 : Ext w0 w) (hL : LD w0.heap.size w q A m c vs T m ct ts) (hm : m + (pos o.toList).length ≤ 4000) (htv : optV D w o v) (hD : ∀ b, D b → b < w.heap.size ∧ ∀ r ∈ ldA q A T vs, blk r ≠ some b) :
  GC Tryz.prog 165 [.pointer (some q), v] w fun r w' => r = .int .i64 (layO m o).2 ∧ LaidR w0.heap.size w q A T vs (layO m o).1 w' := by
 cases o with
 | some t =>
  have hpt : (pos (some t).toList).length = (po t).length := by simp [pos]
  have := lay_all hT hqb (dep t) t (n1_ _) (hfew t rfl) v w D A T m c ct vs ts hx0 hL (by omega) htv hD
  refine ⟨this.1, this.2.mono fun e w' ⟨r, he, hr, hl⟩ => ⟨r, he, ?_, hl⟩⟩
  rw [hr]; simp only [layO, layF_len]; push_cast; rfl
 | none =>
  simp only [optV] at htv
  subst htv
  have hlen := hL.len
  refine GC.intro (cs := []) Tryz.func165 (by kernel_rfl) fun E R hE hr hR => ?_
  conv => cbv
  refine st_bN0 hE ?_
  conv => cbv
  refine st_alloc hr tINd rfl fun qn w1 hx1 hq0 => ?_
  conv => cbv
  refine st_putS hr (by kernel_rfl) (hq0 _ (n1_ _)) (add_zero _).symm (by simp) (by simp [Value.oneCell']) fun w2 hw2 hb2 => ?_
  have hx2 := hx1.then (hw2.bel (hq0 _ (n1_ _)) hx1.size)
  conv => cbv
  refine st_eqNil hE Tryz.underlying178 ?_
  conv => cbv
  rw [hR]
  refine ⟨rfl, A, c, [], T, ct, ts, ?_, rfl, by simpa using CSt.of_ext hx2 _⟩
  subst hlen
  simpa using hL.ext hx2
theorem layS_snoc : ∀ (b : Nat) (l : List (PS × PT)) (s : PS) (p : PT), layS b (l ++ [(s, p)]) = ((layS b l).1 ++ ((layO (b + (layS b l).1.length) p.c).1 ++ (layO (b + (layS b l).1.length + (layO (b + (layS b l).1.length) p.c).1.length) p.g).1),
  (layS b l).2 ++ [⟨s.k, s.nm, (layO (b + (layS b l).1.length) p.c).2, (layO (b + (layS b l).1.length + (layO (b + (layS b l).1.length) p.c).1.length) p.g).2⟩])
 | b, [], s, p => by simp [layS]
 | b, (s0, p0) :: l, s, p => by
  rw [List.cons_append, layS, layS, layS_snoc _ l s p]
  simp only [List.length_append, List.append_assoc, List.cons_append, Nat.add_assoc]
theorem layO_len (b : Nat) (o : Option Tr) : (layO b o).1.length = (pos o.toList).length := by
 cases o with
 | none => rfl
 | some t => simp only [layO, Option.toList_some, pos, a7_]; rw [layF_len]
theorem layS_len : ∀ (b : Nat) (l : List (PS × PT)), (layS b l).1.length = (pos (l.flatMap fun q => trs q.2)).length ∧ (layS b l).2.length = l.length
 | b, [] => ⟨rfl, rfl⟩
 | b, (s, p) :: l => by
  rw [layS, List.flatMap_cons, pos_append]
  simp only [List.length_append, a3_, layO_len]
  rw [(layS_len _ l).1, (layS_len _ l).2]
  refine ⟨?_, rfl⟩
  rw [trs, pos_append, List.length_append]
theorem poS_eq (es : List SV) : poS es = (pos ((spOf es).flatMap fun q => trs q.2)).length := by
 unfold poS spOf; rw [List.flatMap_map]
theorem stmts_g {w0 : World} (hT : Tab w0 6 constF) {A : Option Addr} {m c : Nat} {es : List SV} (hes : SVs w0 A m c es) (hm6 : m ≤ 600) (hfew : ∀ q ∈ spOf es, ∀ t ∈ trs q.2, fewT t) (hpo : poS es ≤ 4000) {q : Addr} {w : World} (hx0 : Ext w0 w) (hL : LD w0.heap.size w q none 0 0 [] none 0 0 []) :
  GC Tryz.prog 110 [.pointer (some q), .slice A m c] w fun r w' => ∃ O oc ys A' c' T' ct' ts', r = .slice O m oc ∧ LD w0.heap.size w' q A' ys.length c' ys T' ys.length ct' ts' ∧ ys.map (·.p) = (layS 0 (spOf es)).1 ∧ Own w0.heap.size 155 4 w' O m oc ((layS 0 (spOf es)).2.flatMap cS) ∧ (∀ r ∈ ldA q A' T' ys, Dj r O) ∧ Ext w0 w' := by
 refine GC.intro (cs := []) Tryz.func110 (by kernel_rfl) fun E R hE hr hR => ?_
 have hqb := (bx_form hL.box).2.2
 have hel := hes.len
 conv => cbv
 refine st_none hr sISd fun A1 w1 hx1 ho0 => ?_
 have ho1 := ho0 w0.heap.size hx0.size
 have hoW := ho0 _ (n1_ _)
 clear ho0
 conv => cbv
 refine st_len hE sSt fun x1 hxl => ?_
 conv => cbv
 refine loop_rule hr (fun (s : Nat × Int × Option Addr × Nat × List VN × Option Addr × Nat × Option Addr × Nat × List Int) w' => s.1 ≤ m ∧ s.2.1 = (s.1 : Int) ∧ Ext w0 w' ∧ Own w0.heap.size 155 4 w' s.2.2.1 s.1 s.2.2.2.1 ((layS 0 (spOf (es.take s.1))).2.flatMap cS) ∧
   LD w0.heap.size w' q s.2.2.2.2.2.1 s.2.2.2.2.1.length s.2.2.2.2.2.2.1 s.2.2.2.2.1 s.2.2.2.2.2.2.2.1 s.2.2.2.2.1.length s.2.2.2.2.2.2.2.2.1 s.2.2.2.2.2.2.2.2.2 ∧ s.2.2.2.2.1.map (·.p) = (layS 0 (spOf (es.take s.1))).1 ∧ (∀ r ∈ ldA q s.2.2.2.2.2.1 s.2.2.2.2.2.2.2.1 s.2.2.2.2.1, Dj r s.2.2.1))
  (fun s => [(0, .pointer (some q)), (5, .slice s.2.2.1 s.1 s.2.2.2.1), (10, .slice A m c), (11, .int .i64 x1), (12, .int .i64 s.2.1)]) (fun s => m - s.1) (0, 0, A1, 0, [], none, 0, none, 0, [])
  (by simp [Fits, lk]) ⟨by simp, by simp, hx0.trans hx1, by simpa [spOf, layS] using ho1, hL.ext hx1, by simp [spOf, layS], fun r hr => ?_⟩ ?_
 ·have hlo := hL.low r hr
  intro g h1 h2
  have := (hlo g h1).2
  have := (own_blk hoW g h2).1
  omega
 rintro I hI ⟨j, jj, O, oc, ys, A', c', T', ct', ts'⟩ w' ⟨hj, hjj, hxw, hO, hLD, hys, hdO⟩
 simp only at hj hjj hO hLD hys hdO
 obtain ⟨jk, hjk⟩ : ∃ z, z = jj + 1 := ⟨_, rfl⟩
 conv => cbv
 refine br (fun g => ?_) (fun g => ?_)
 ·have g : j < m := by
   have : jj < x1 := by simpa [hE.cmp, cmpR] using g
   omega
  have ej : E.ar .add .i64 jj 1 = jk := by rw [hE.ar, hjk]; exact wrap_in (by omega) (by omega)
  obtain ⟨e, he⟩ : ∃ e, es[j]? = some e := ⟨_, g2_ (by omega)⟩
  obtain ⟨aA, hA, hcell⟩ := fl_at fV_len (hes.cells.ext hxw) (by omega) he
  obtain ⟨ht1, ht2⟩ := hes.trees e (m1_ he)
  have hf1 : ∀ t, e.p.c = some t → fewT t := fun t ht => hfew (e.s, e.p) (by unfold spOf; exact List.mem_map.2 ⟨e, m1_ he, rfl⟩) t (by unfold trs; simp [ht])
  have hf2 : ∀ t, e.p.g = some t → fewT t := fun t ht => hfew (e.s, e.p) (by unfold spOf; exact List.mem_map.2 ⟨e, m1_ he, rfl⟩) t (by unfold trs; simp [ht])
  have hsn := layS_snoc 0 (spOf (es.take j)) e.s e.p
  have htk : spOf (es.take (j + 1)) = spOf (es.take j) ++ [(e.s, e.p)] := by unfold spOf; rw [g4_, he]; simp
  rw [← htk] at hsn
  have hyl : ys.length = (layS 0 (spOf (es.take j))).1.length := by rw [← hys, List.length_map]
  rw [← hyl, Nat.zero_add] at hsn
  have hbd : ys.length + (pos e.p.c.toList).length + (pos e.p.g.toList).length ≤ 4000 := by
   have e1 := congrArg (fun x => x.1.length) hsn
   simp only [List.length_append, layO_len] at e1
   rw [(layS_len 0 _).1] at e1
   have e2 : poS es = poS (es.take (j + 1)) + poS (es.drop (j + 1)) := by
    unfold poS
    rw [← List.length_append, ← pos_append, ← List.flatMap_append, List.take_append_drop]
   rw [poS_eq (es.take (j + 1)), e1] at e2
   omega
  obtain ⟨⟨k, nm, sc, sg⟩, ⟨pc, pg⟩, cv, gv, ii⟩ := e
  simp only at hsn hbd hf1 hf2 ht1 ht2
  have hcv1 := ht1.one
  have hgv1 := ht2.one
  conv => cbv
  refine st_idx hE sSt hA (by omega) (by omega) fun p hp => ?_
  rw [show jj.toNat = j by omega] at hp
  conv => cbv
  refine st_loadS hE tSt (vs := [.int .i64 k, .string nm, cv, gv, .int .i64 ii]) rfl (by rw [hp]; exact hcell) ?_
  conv => cbv
  refine st_alloc hr tSt rfl fun q7 w2 hx2 hq0 => ?_
  conv => cbv
  refine st_putS hr (by kernel_rfl) (hq0 _ (n1_ _)) (add_zero _).symm (by simp [zSt]) (by intro y hy; simp only [List.mem_cons, List.not_mem_nil, or_false] at hy; rcases hy with rfl | rfl | rfl | rfl | rfl <;> first | assumption | rfl) fun w3 hw3 hb3 => ?_
  simp only [zSt, a1_, a2_, a3_, a4_, a5_, a6_, a7_] at hb3
  have hx3 := hx2.then (hw3.bel (hq0 _ (n1_ _)) hx2.size)
  clear hq0 hw3 hx2
  conv => cbv
  (refine st_fld hE fSt0 fun p hp => ?_; (conv => cbv); refine st_load hE cInt (by rw [hp]; exact (hb3).at _ _ rfl) ?_; (conv => cbv))
  (refine st_fld hE fSt1 fun p hp => ?_; (conv => cbv); refine st_load hE cStr (by rw [hp]; exact (hb3).at _ _ rfl) ?_; (conv => cbv))
  refine st_bSd hE ?_
  conv => cbv
  refine st_alloc hr tISd rfl fun q8 w4 hx4 hq0 => ?_
  conv => cbv
  refine st_putS hr (by kernel_rfl) (hq0 _ (n1_ _)) (add_zero _).symm (by simp) (by simp [Value.oneCell']) fun w5 hw5 hb5 => ?_
  simp only [a1_, a2_, a3_, a4_, a5_, a6_, a7_] at hb5
  have hx5 := hx4.then (hw5.bel (hq0 _ (n1_ _)) hx4.size)
  clear hq0 hw5 hx4
  have d78 : Dj (some q7) (some q8) := dj_new hb3 hb5 (n1_ _)
  replace hb3 := hb3.bel hx5
  have x05 := hxw.trans (hx3.trans hx5)
  have hlo := hLD.low
  have hOlo := own_blk hO
  replace hLD := hLD.ext (hx3.trans hx5)
  replace hO := hO.bel (hx3.trans hx5)
  have s35 := (hx3.trans hx5).size
  have s3 := hx3.size
  have old : ∀ {X : Option Addr}, (∀ g, blk X = some g → g < w'.heap.size) → Dj X (some q7) ∧ Dj X (some q8) := fun hX => ⟨fun g h1 h2 => by have := hX g h1; have := (own_blk hb3 g h2).1; omega, fun g h1 h2 => by have := hX g h1; have := (own_blk hb5 g h2).1; omega⟩
  have dL : ∀ r ∈ ldA q A' T' ys, Dj r (some q7) ∧ Dj r (some q8) := fun r hr => old fun g hg => (hlo r hr g hg).2
  have dOO := old fun g hg => (hOlo g hg).2
  clear old
  obtain ⟨n0, hn0⟩ : ∃ x, x = layO ys.length pc := ⟨_, rfl⟩
  rw [← hn0] at hsn
  obtain ⟨n1, hn1⟩ : ∃ x, x = layO (ys.length + n0.1.length) pg := ⟨_, rfl⟩
  rw [← hn1] at hsn
  have hl0 : n0.1.length = (pos pc.toList).length := by rw [hn0, layO_len]
  conv => cbv
  (refine st_fld hE fSt2 fun p hp => ?_; (conv => cbv); refine st_load hE cTr (by rw [hp]; exact (hb3).at _ _ rfl) ?_; (conv => cbv))
  have g1 := layO_g hT hqb hf1 x05 hLD (by omega) (ht1.keep (fun b hb => x05.block b hb) (fun _ h => h)) (fun b hb => ⟨n3_ hb x05.size, fun r hr e => by have := (hlo r hr b e).1; omega⟩)
  obtain ⟨i1, hi1⟩ : ∃ z, z = n0.2 := ⟨_, rfl⟩
  rw [← hn0, ← hi1] at g1
  refine st_g hr g1 fun r w6 ⟨ev, hR6⟩ => ?_
  clear g1
  subst ev
  obtain ⟨A2, c2, zs, T2, ct2, ts2, hL6, hz6, hC6⟩ := hR6
  have x06 := hC6.ext0 x05 fun r hr g hg => (hlo r hr g hg).1
  obtain ⟨hO6, dO6⟩ := hC6.own hO hdO
  obtain ⟨hb36, d36⟩ := hC6.own hb3 fun r hr => (dL r hr).1
  obtain ⟨hb56, d56⟩ := hC6.own hb5 fun r hr => (dL r hr).2
  have hzl : zs.length = n0.1.length := by rw [← hz6, List.length_map]
  conv => cbv
  refine st_fld hE fSd2 fun p2 hp2 => ?_
  conv => cbv
  refine st_put hr zInt hb56 hp2 (by simp) rfl fun w7 hw7 hb7 => ?_
  simp only [b4_, b5_] at hb7
  have hC7 : CSt w6 [some q8] w7 [some q8] := CSt.of_wr hw7 (by simp)
  have one : ∀ {r : Option Addr}, r ∈ [some q8] → r = some q8 := fun hr => by simpa using hr
  have hL7 : LD w0.heap.size w7 q A2 (ys.length + zs.length) c2 (ys ++ zs) T2 (ys.length + zs.length) ct2 ts2 :=
   ⟨(hC7.own hL6.box fun r hr => by rw [one hr]; exact (d56 _ (by simp [ldA])).symm).1, hL6.nd.keepR hC7 fun r hr a ha => by rw [one hr]; exact (d56 a (by simp [ldA, ha])).symm, (hC7.own hL6.pl fun r hr => by rw [one hr]; exact (d56 _ (by simp [ldA])).symm).1, hL6.dq, hL6.dT, hL6.qT, hL6.sm, n2_ hL6.le hw7.size⟩
  have x07 := hC7.ext0 x06 fun r hr g hg => by rw [one hr] at hg; have := (own_blk hb56 g hg).1; have := hxw.size; omega
  have hO7 := hO6.wr hw7 (dj_apart hO6 dOO.2)
  have hb37 := hb36.wr hw7 (dj_apart hb36 d78)
  clear hL6 hO6 hb36 hb56 hC7
  conv => cbv
  (refine st_fld hE fSt3 fun p hp => ?_; (conv => cbv); refine st_load hE cTr (by rw [hp]; exact (hb37).at _ _ rfl) ?_; (conv => cbv))
  have hlo7 := hL7.low
  have g2 := layO_g hT hqb hf2 x07 hL7 (by omega) (ht2.keep (fun b hb => x07.block b hb) (fun _ h => h)) (fun b hb => ⟨n3_ hb x07.size, fun r hr e => by have := (hlo7 r hr b e).1; omega⟩)
  obtain ⟨i2, hi2⟩ : ∃ z, z = n1.2 := ⟨_, rfl⟩
  rw [hzl, ← hn1, ← hi2] at g2
  refine st_g hr g2 fun r w8 ⟨ev, hR8⟩ => ?_
  clear g2
  subst ev
  obtain ⟨A3, c3, us, T3, ct3, ts3, hL8, hz8, hC8⟩ := hR8
  have x08 := hC8.ext0 x07 fun r hr g hg => (hlo7 r hr g hg).1
  obtain ⟨hO8, dO8⟩ := hC8.own hO7 dO6
  obtain ⟨hb88, d88⟩ := hC8.own hb7 d56
  conv => cbv
  refine st_fld hE fSd3 fun p3 hp3 => ?_
  conv => cbv
  refine st_put hr zInt hb88 hp3 (by simp) rfl fun w9 hw9 hb9 => ?_
  simp only [b4_, b5_] at hb9
  have hC9 : CSt w8 [some q8] w9 [some q8] := CSt.of_wr hw9 (by simp)
  have hL9 : LD w0.heap.size w9 q A3 ((ys ++ zs).length + us.length) c3 (ys ++ zs ++ us) T3 ((ys ++ zs).length + us.length) ct3 ts3 :=
   ⟨(hC9.own hL8.box fun r hr => by rw [one hr]; exact (d88 _ (by simp [ldA])).symm).1, hL8.nd.keepR hC9 fun r hr a ha => by rw [one hr]; exact (d88 a (List.mem_cons_of_mem _ (List.mem_cons_of_mem _ ha))).symm, (hC9.own hL8.pl fun r hr => by rw [one hr]; exact (d88 _ (by simp [ldA])).symm).1, hL8.dq, hL8.dT, hL8.qT, hL8.sm, n2_ hL8.le hw9.size⟩
  have x09 := hC9.ext0 x08 fun r hr g hg => by rw [one hr] at hg; have := (own_blk hb88 g hg).1; have := hxw.size; omega
  have hO9 := hO8.wr hw9 (dj_apart hO8 dOO.2)
  clear hL8 hO8 hb88 hC9
  conv => cbv
  refine st_loadS hE tISd rfl hb9.at ?_
  conv => cbv
  refine st_oneS hr sISd rfl (by omega) (by omega) rfl fun A7 wa hxa hca => ?_
  conv => cbv
  refine st_appsKG hr sISd rfl (by omega) (hO9.bel hxa) hca rfl (by omega) (by simp [Value.oneCell']) (by have := x09.size; have := hxa.size; omega) (by omega) (by omega) fun O2 oc2 m7 wb hm7 hwb hob hkb => ?_
  subst hm7
  have hgO : Gro wa O wb O2 := ⟨hwb, hkb.imp id fun e => ⟨_, e, n1_ _⟩⟩
  have hLa := hL9.ext hxa
  have hloa := hLa.low
  have hCb : CSt wa [O] wb [O] := CSt.of_wr hwb (by simp)
  have oneO : ∀ {r : Option Addr}, r ∈ [O] → r = O := fun hr => by simpa using hr
  have hLb : LD w0.heap.size wb q A3 ((ys ++ zs).length + us.length) c3 (ys ++ zs ++ us) T3 ((ys ++ zs).length + us.length) ct3 ts3 :=
   ⟨(hCb.own hLa.box fun r hr => by rw [oneO hr]; exact (dO8 _ (by simp [ldA])).symm).1, hLa.nd.keepR hCb fun r hr a ha => by rw [oneO hr]; exact (dO8 a (List.mem_cons_of_mem _ (List.mem_cons_of_mem _ ha))).symm, (hCb.own hLa.pl fun r hr => by rw [oneO hr]; exact (dO8 _ (by simp [ldA])).symm).1, hLa.dq, hLa.dT, hLa.qT, hLa.sm, n2_ hLa.le hwb.size⟩
  have x0b : Ext w0 wb := hCb.ext0 (x09.trans hxa) fun r hr g hg => by rw [oneO hr] at hg; exact (own_blk hO9 g hg).1
  conv => cbv
  simp only [ej]
  have el : (ys ++ zs ++ us).length = (ys ++ zs).length + us.length := by rw [List.length_append]
  refine ⟨(j + 1, jk, O2, oc2, ys ++ zs ++ us, A3, c3, T3, ct3, ts3), by simp [Fits, lk], hI _ _ ⟨by simp only; omega, by simp only; omega, x0b, ?_, ?_, ?_, fun r hr => (gro_dj hgO (dO8 r hr).symm fun g hg => (hloa r hr g hg).2).symm⟩, by simp only; omega⟩
  ·simp only
   rw [hsn, hi1, hi2] at *
   simp only [List.flatMap_append, List.flatMap_cons, List.flatMap_nil, a7_, cS]
   exact hob
  ·simp only
   rw [el]; exact hLb
  ·simp only
   rw [hsn, List.map_append, List.map_append, hys, hz6, hz8]
   simp only [List.append_assoc]
 ·have g : j = m := by
   have : ¬ jj < x1 := by simpa [hE.cmp, cmpR] using g
   omega
  subst g
  rw [g3_ (by omega)] at hO hys
  conv => cbv
  rw [hR]
  exact ⟨O, oc, ys, A', c', T', ct', ts', rfl, hLD, hys, hO, hdO, hxw⟩
def typesOf (l : List (PS × PT)) : List Int := match ckS l ⟨[], [], []⟩ with
 | .inl _ => []
 | .inr x => x.acc
theorem typedOf_f {w : World} (hT : Tab w 6 constF) {A : Option Addr} {m c : Nat} {es : List SV} (hes : SVs w A m c es) (hm : m ≤ 600) (hg : GoodS 0 (spOf es)) (hp : poS es ≤ 4000) (hfew : ∀ q ∈ spOf es, ∀ t ∈ trs q.2, fewT t) :
  FC Tryz.prog 51 [.slice A m c] w fun v w' => ∃ A1 n1 c1 A2 c2 A3 n3 c3 ys, v = typV A1 n1 c1 A2 m c2 A3 n3 c3 ∧ OT w.heap.size w' A1 n1 c1 A2 m c2 A3 n3 c3 ys (layS 0 (spOf es)).2 (typesOf (spOf es)) ∧ ys.map (·.p) = (layS 0 (spOf es)).1 ∧ (∀ v ∈ ys, v.p.tx.size ≤ 9223372036854775807 ∧ ∀ u ∈ v.p.xs, u.size ≤ 9223372036854775807) := by
 refine FC.intro (cs := []) Tryz.func51 (by kernel_rfl) fun E R hE hr hR => ?_
 conv => cbv
 refine st_alloc hr tITyp rfl fun q2 w1 hx1 hq20 => ?_
 have hq2 := hq20 _ (n1_ _)
 clear hq20
 conv => cbv
 refine st_f hr (checkAll_f (hes.ext hx1) hm hg hp) fun v w2 hx2 hck => ?_
 obtain ⟨TA, tn, tc, L0, er, hL, hv, hTA⟩ : ∃ (TA : Option Addr) (tn tc : Nat) (L0 er : Value), True ∧ v = .tuple ⟨[L0, .slice TA tn tc, er]⟩ ∧ Own w1.heap.size 3 1 w2 TA tn tc ((typesOf (spOf es)).map (.int .i64)) := by
  unfold typesOf
  cases hc : ckS (spOf es) ⟨[], [], []⟩ with
  | inl f => rw [hc] at hck; exact ⟨_, _, _, _, _, trivial, hck.1, Own.nil⟩
  | inr x =>
   rw [hc] at hck
   obtain ⟨B, d, TA, n', c', es2, k1, k2, k3, _⟩ := hck
   exact ⟨TA, n', c', _, _, trivial, k1, k3⟩
 clear hck hL
 subst hv
 have hx12 := hx1.trans hx2
 conv => cbv
 refine st_bLaid hE ?_
 conv => cbv
 refine st_box hr fun q6 w3 hx3 h60 => ?_
 have h6 := h60 _ (n1_ _)
 clear h60
 have hL0 : LD w2.heap.size w3 q6 none 0 0 [] none 0 0 [] := ⟨h6, ⟨Own.nil, by simp, ⟨by simp, by simp, by simp⟩⟩, Own.nil, fun r hr => by simp [roA] at hr; subst hr; exact dj_none _, fun r hr => by simp [roA] at hr; subst hr; exact dj_none _, dj_none _, by simp, hx3.size⟩
 conv => cbv
 refine st_g hr (stmts_g (hT.ext hx12) (hes.ext hx12) hm hfew hp hx3 hL0) fun v w4 ⟨O, oc, ys, A', c', T', ct', ts', ev, hLD, hys, hO, hdO, hx4⟩ => ?_
 subst ev
 obtain ⟨nn, hnn⟩ : ∃ nn, nn = ys.length := ⟨_, rfl⟩
 rw [← hnn] at hLD
 have s12 := hx12.size
 have hx04 := hx12.trans hx4
 have hT4 := hTA.bel hx4
 have hq4 := (hq2.bel hx2).bel hx4
 conv => cbv
 refine st_nil hE ?_
 conv => cbv
 (refine st_fld hE fLd0 fun p hp => ?_; (conv => cbv); refine st_load hE cINs (by rw [hp]; exact (hLD.box).at _ _ rfl) ?_; (conv => cbv))
 refine st_bTyp hE ?_
 conv => cbv
 refine st_putS hr (by kernel_rfl) hq4 (add_zero _).symm (by simp) (by simp [Value.oneCell']) fun w5 hw5 hb5 => ?_
 simp only [a1_, a2_, a3_, a4_, a5_, a6_, a7_] at hb5
 conv => cbv
 refine st_cell hr tITyp rfl hb5.at ?_
 rw [hR]
 have lq : ∀ g, blk (some q2) = some g → g < w1.heap.size := fun g hg => (own_blk hq2 g hg).2
 have s2 := hx2.size
 have lo : ∀ r ∈ ldA q6 A' T' ys, ∀ g, blk r = some g → w2.heap.size ≤ g := fun r hr g hg => (hLD.low r hr g hg).1
 have dq : ∀ r ∈ roA sbNode A' ys, Dj (some q2) r := fun r hr g h1 h2 => by have := lq g h1; have := lo r (List.mem_cons_of_mem _ (List.mem_cons_of_mem _ hr)) g h2; omega
 have dO : Dj (some q2) O := fun g h1 h2 => by have := lq g h1; have := (own_blk hO g h2).1; omega
 have dTq : Dj TA (some q2) := fun g h1 h2 => by have := lq g h2; have := (own_blk hTA g h1).1; omega
 have dTO : Dj O TA := fun g h1 h2 => by have := (own_blk hTA g h2).2; have := (own_blk hO g h1).1; omega
 refine ⟨hx04.then (hw5.bel hq4 hx04.size), A', nn, c', O, oc, TA, tn, tc, ys, rfl, ⟨(hLD.nd.wr hw5 dq).low s12, (hO.wr hw5 (dj_apart hO dO.symm)).mono s12, (hT4.wr hw5 (dj_apart hT4 dTq)).mono hx1.size, fun r hr => hdO r (List.mem_cons_of_mem _ (List.mem_cons_of_mem _ hr)), fun r hr g h1 h2 => ?_, dTO⟩, hys, hLD.sm⟩
 have := (own_blk hTA g h2).2
 have := lo r (List.mem_cons_of_mem _ (List.mem_cons_of_mem _ hr)) g h1
 omega
open Go.Eng Go.Extern
noncomputable abbrev hdl (t : TypeId) : Value := .pointer (some ⟨Tryz.prog.globals.size, t, none⟩)
noncomputable abbrev rtV (t : TypeId) : Value := .iface 279 (.agg #[hdl t])
abbrev mfV (c a : Int) : Value := .iface 103 (.agg ⟨[.int .i64 c, .int .i64 a]⟩)
abbrev pmV (q : Addr) : Value := .iface 105 (.pointer (some q))
theorem tMf : Stc Tryz.prog 103 2 [.int .i64 0, .int .i64 0] := ⟨by kernel_rfl, by kernel_rfl⟩
section
variable {E : Sym} {P : Program} {Pn : List PanicEntry → World → Prop} {n : Nat} {w w' : World} {K : Value → World → Prop} {d : Option Tmp} {ty : TypeId} {pos : String} {aft : Array Edge} {g : Option (Nat × Bool)}
theorem st_ext (hE : E = real P Pn n) {f : FuncId} {args : List Value} {v : Value} (h : (callFunc f args.toArray).run P w = .ok (.value v) w') {fo : Operand} {ao : Array Operand} {at_ : Array TypeId} (hk : K v w') :
  E.stop ⟨d, .call ⟨.value fo, ao, at_⟩, ty, pos, aft, g⟩ (.func (.func f) ⟨[]⟩ ⟨[]⟩ :: args) w K := by
 refine st_run hE (v := v) (w' := w') (fun ρ hρ => ?_) hk
 have h1 := resolve_value (P := P) (at_ := at_) (fo := fo) (ao := ao) (f := f) (fst := #[]) (cap := #[]) (args := args) (by simpa [opnds] using hρ) ty w
 simp only [execOp, Sem.run_bind, h1, Result.andThen_ok, invoke]
 simpa using h
theorem st_inv0 (hE : E = real P Pn n) {v r : Value} {nm : String} (h : (callMethod v nm #[]).run P w = .ok (.value r) w) {x : Operand} {at_ : Array TypeId} (hk : K r w) :
  E.stop ⟨d, .call ⟨.invoke x nm, ⟨[]⟩, at_⟩, ty, pos, aft, g⟩ [v] w K := by
 refine st_run hE (v := r) (w' := w) (fun ρ hρ => ?_) hk
 simp only [opnds, a7_, b2_, b3_, b1_, and_true] at hρ
 simp [execOp, resolve, hρ, invoke, h]
theorem st_inv1 (hE : E = real P Pn n) {v r a : Value} {nm : String} (h : (callMethod v nm #[a]).run P w = .ok (.value r) w) {x y : Operand} {at_ : Array TypeId} (hk : K r w) :
  E.stop ⟨d, .call ⟨.invoke x nm, ⟨[y]⟩, at_⟩, ty, pos, aft, g⟩ [v, a] w K := by
 refine st_run hE (v := r) (w' := w) (fun ρ hρ => ?_) hk
 simp only [opnds, List.cons_append, a2_, b2_, b3_, b1_, and_true] at hρ
 simp [execOp, resolve, hρ.1, hρ.2, invoke, h]
end
theorem voP0 (q : Addr) (w : World) : (ReflectliteValue.unpack (pmV q)).run Tryz.prog w = .ok (.agg #[hdl 105, .pointer (some ⟨w.heap.size, 0, none⟩), .int .u64 150]) (w.alloc (.cells #[.pointer (some q)] 105)) := by kernel_rfl
theorem voM0 (c a : Int) (w : World) : (ReflectliteValue.unpack (mfV c a)).run Tryz.prog w = .ok (.agg #[hdl 103, .pointer (some ⟨w.heap.size, 0, none⟩), .int .u64 153]) (w.alloc (.cells ⟨[.int .i64 c, .int .i64 a]⟩ 103)) := by kernel_rfl
theorem ty0 (x : Addr) (w : World) : (ReflectliteValue.methodAny (ReflectliteValue.valueError "reflectlite.Value.Type" 0) (fun t _ _ _ => ReflectliteType.toType t) #[.agg #[hdl 105, .pointer (some x), .int .u64 150]]).run Tryz.prog w = .ok (rtV 105) w := by kernel_rfl
theorem mKind (h : Value) (w : World) : (Go.method (Tryz.prog.types.size + Made.depth) 279 (.agg #[h]) "Kind").run Tryz.prog w = .ok (294, h) w := by kernel_rfl
theorem mElem (h : Value) (w : World) : (Go.method (Tryz.prog.types.size + Made.depth) 279 (.agg #[h]) "Elem").run Tryz.prog w = .ok (308, .agg #[h]) w := by kernel_rfl
theorem mImpl (h : Value) (w : World) : (Go.method (Tryz.prog.types.size + Made.depth) 279 (.agg #[h]) "Implements").run Tryz.prog w = .ok (309, .agg #[h]) w := by kernel_rfl
theorem mAssi (h : Value) (w : World) : (Go.method (Tryz.prog.types.size + Made.depth) 279 (.agg #[h]) "AssignableTo").run Tryz.prog w = .ok (306, .agg #[h]) w := by kernel_rfl
theorem kindP0 (w : World) : ((ReflectliteType.abiMethod fun t => do pure (.int .u8 (← Rtype.kind t))) #[hdl 105]).run Tryz.prog w = .ok (.int .u8 22) w := by kernel_rfl
theorem kindM0 (w : World) : ((ReflectliteType.abiMethod fun t => do pure (.int .u8 (← Rtype.kind t))) #[hdl 103]).run Tryz.prog w = .ok (.int .u8 25) w := by kernel_rfl
theorem elem0 (w : World) : (ReflectliteType.method ReflectliteType.elem #[.agg #[hdl 105]]).run Tryz.prog w = .ok (rtV 103) w := by kernel_rfl
theorem impl0 (w : World) : (ReflectliteType.relation "Implements" ReflectliteType.implements_ #[.agg #[hdl 103], rtV 99]).run Tryz.prog w = .ok (.bool true) w := by kernel_rfl
theorem assi0 (w : World) : (ReflectliteType.relation "AssignableTo" ReflectliteType.assignableTo #[.agg #[hdl 103], rtV 103]).run Tryz.prog w = .ok (.bool true) w := by kernel_rfl
theorem typeOf0 (v : Value) (w : World) : (ReflectliteType.typeOf #[.iface 103 v]).run Tryz.prog w = .ok (rtV 103) w := by kernel_rfl
theorem rlm (z : Sem Value) (f : TypeId → Addr → Nat → Nat → Sem Value) (v : Value) :
  ReflectliteValue.method z f #[v] = (do match ← ReflectliteValue.parts v with | none => z | some (t, a, fl) => f t a fl (fl % 32)) := rfl
theorem partsP (a : Addr) (w : World) : (ReflectliteValue.parts (.agg #[hdl 105, .pointer (some a), .int .u64 150])).run Tryz.prog w = .ok (some (105, a, 150)) w := by kernel_rfl
theorem partsT (a : Addr) (w : World) : (ReflectliteValue.parts (.agg #[hdl 103, .pointer (some a), .int .u64 409])).run Tryz.prog w = .ok (some (103, a, 409)) w := by kernel_rfl
theorem partsS (a : Addr) (w : World) : (ReflectliteValue.parts (.agg #[hdl 103, .pointer (some a), .int .u64 153])).run Tryz.prog w = .ok (some (103, a, 153)) w := by kernel_rfl
theorem isNil0 (a p : Addr) (W : World) (ha : W.cell? a = some (.pointer (some p))) :
  (ReflectliteValue.method (ReflectliteValue.valueError "reflectlite.Value.IsNil" 0) ReflectliteValue.isNil #[.agg #[hdl 105, .pointer (some a), .int .u64 150]]).run Tryz.prog W = .ok (.bool false) W := by
 rw [rlm]
 simp only [Sem.run_bind, partsP, Result.andThen]
 simp [ReflectliteValue.isNil, loadVar, isAgg, underlying, Tryz.underlying105, ha, Result.andThen]
theorem elemOf0 (w : World) : (Rtype.elem? 105).run Tryz.prog w = .ok (some 103) w := by kernel_rfl
theorem mk0 (p : Addr) (w : World) : (ReflectliteValue.mk 103 p ReflectliteValue.flagAddr).run Tryz.prog w = .ok (.agg #[hdl 103, .pointer (some p), .int .u64 409]) w := by kernel_rfl
theorem elemV0 (a p : Addr) (W : World) (ha : W.cell? a = some (.pointer (some p))) :
  (ReflectliteValue.method (ReflectliteValue.valueError "reflectlite.Value.Elem" 0) ReflectliteValue.elem #[.agg #[hdl 105, .pointer (some a), .int .u64 150]]).run Tryz.prog W = .ok (.agg #[hdl 103, .pointer (some p), .int .u64 409]) W := by
 rw [rlm]
 simp only [Sem.run_bind, partsP, Result.andThen]
 simp [ReflectliteValue.elem, loadVar, isAgg, underlying, Tryz.underlying105, ha, Result.andThen, elemOf0, mk0]
theorem rls (v x : Value) : ReflectliteValue.set #[v, x] = (do
  let (some (dst, a, fl), some (src, b, _)) := (← ReflectliteValue.parts v, ← ReflectliteValue.parts x)
   | unsupported (.noEntry "extern/(internal/reflectlite.Value).Set.zeroValue")
  if fl / ReflectliteValue.flagAddr % 2 == 0 then unsupported (.noEntry "extern/(internal/reflectlite.Value).Set.unaddressable")
  let val ← loadVar src b
  if ← Rtype.directlyAssignable dst src then storeVar dst a val
  else if ← Rtype.implements dst src then
   if (← Rtype.kind src) == 20 then
    match val with
    | .nilIface => unsupported (.noEntry "extern/reflectlite: a nil value of one interface type handed on as a value of another")
    | _ => storeVar dst a val
   else storeVar dst a (.iface src val)
  else panicString ("reflectlite.Set: value of type " ++ (← Rtype.spelt src) ++ " is not assignable to type " ++ (← Rtype.spelt dst))
  pure (.tuple #[])) := rfl
theorem direct0 (w : World) : (Rtype.directlyAssignable 103 103).run Tryz.prog w = .ok true w := by kernel_rfl
theorem set0 {p b : Addr} {vs : List Value} {W W' : World} (hl : vs.length = 2) (hb : ∀ j v, vs[j]? = some v → W.cell? (b.add j) = some v) (hs : (storeVar 103 p (.agg ⟨vs⟩)).run Tryz.prog W = .ok () W') :
  (ReflectliteValue.set #[.agg #[hdl 103, .pointer (some p), .int .u64 409], .agg #[hdl 103, .pointer (some b), .int .u64 153]]).run Tryz.prog W = .ok (.tuple #[]) W' := by
 have hv := run_loadVar_agg tMf hl hb
 rw [rls]
 simp only [Sem.run_bind, partsT, partsS, Result.andThen]
 simp [ReflectliteValue.flagAddr, hv, Result.andThen, direct0, hs]
section
variable {w : World}
theorem voP (q : Addr) (w : World) : (callFunc 106 #[pmV q]).run Tryz.prog w = .ok (.value (.agg #[hdl 105, .pointer (some ⟨w.heap.size, 0, none⟩), .int .u64 150])) (w.alloc (.cells #[.pointer (some q)] 105)) := by
 have h := @run_callFunc_extern Tryz.prog 106 _ (fun args => ReflectliteValue.unpack (args.getD 0 (.tuple #[]))) Tryz.func106 (by kernel_rfl) (by kernel_rfl) (by kernel_rfl) (by kernel_rfl)
 rw [h]
 show ((ReflectliteValue.unpack (pmV q)).run _ w).andThen _ = _
 rw [voP0]; rfl
theorem voM (c a : Int) (w : World) : (callFunc 106 #[mfV c a]).run Tryz.prog w = .ok (.value (.agg #[hdl 103, .pointer (some ⟨w.heap.size, 0, none⟩), .int .u64 153])) (w.alloc (.cells ⟨[.int .i64 c, .int .i64 a]⟩ 103)) := by
 have h := @run_callFunc_extern Tryz.prog 106 _ (fun args => ReflectliteValue.unpack (args.getD 0 (.tuple #[]))) Tryz.func106 (by kernel_rfl) (by kernel_rfl) (by kernel_rfl) (by kernel_rfl)
 rw [h]
 show ((ReflectliteValue.unpack (mfV c a)).run _ w).andThen _ = _
 rw [voM0]; rfl
theorem tyP (x : Addr) (w : World) : (callFunc 107 #[.agg #[hdl 105, .pointer (some x), .int .u64 150]]).run Tryz.prog w = .ok (.value (rtV 105)) w := by
 have h := @run_callFunc_extern Tryz.prog 107 _ (ReflectliteValue.methodAny (ReflectliteValue.valueError "reflectlite.Value.Type" 0) (fun t _ _ _ => ReflectliteType.toType t)) Tryz.func107 (by kernel_rfl) (by kernel_rfl) (by kernel_rfl) (by kernel_rfl)
 rw [h, ty0]; rfl
theorem isNilP (a p : Addr) (W : World) (ha : W.cell? a = some (.pointer (some p))) : (callFunc 108 #[.agg #[hdl 105, .pointer (some a), .int .u64 150]]).run Tryz.prog W = .ok (.value (.bool false)) W := by
 have h := @run_callFunc_extern Tryz.prog 108 _ (ReflectliteValue.method (ReflectliteValue.valueError "reflectlite.Value.IsNil" 0) ReflectliteValue.isNil) Tryz.func108 (by kernel_rfl) (by kernel_rfl) (by kernel_rfl) (by kernel_rfl)
 rw [h, isNil0 a p W ha]; rfl
theorem elemVP (a p : Addr) (W : World) (ha : W.cell? a = some (.pointer (some p))) : (callFunc 163 #[.agg #[hdl 105, .pointer (some a), .int .u64 150]]).run Tryz.prog W = .ok (.value (.agg #[hdl 103, .pointer (some p), .int .u64 409])) W := by
 have h := @run_callFunc_extern Tryz.prog 163 _ (ReflectliteValue.method (ReflectliteValue.valueError "reflectlite.Value.Elem" 0) ReflectliteValue.elem) Tryz.func163 (by kernel_rfl) (by kernel_rfl) (by kernel_rfl) (by kernel_rfl)
 rw [h, elemV0 a p W ha]; rfl
theorem setP {p b : Addr} {vs : List Value} {W W' : World} (hl : vs.length = 2) (hb : ∀ j v, vs[j]? = some v → W.cell? (b.add j) = some v) (hs : (storeVar 103 p (.agg ⟨vs⟩)).run Tryz.prog W = .ok () W') :
  (callFunc 164 #[.agg #[hdl 103, .pointer (some p), .int .u64 409], .agg #[hdl 103, .pointer (some b), .int .u64 153]]).run Tryz.prog W = .ok (.value (.tuple #[])) W' := by
 have h := @run_callFunc_extern Tryz.prog 164 _ ReflectliteValue.set Tryz.func164 (by kernel_rfl) (by kernel_rfl) (by kernel_rfl) (by kernel_rfl)
 rw [h, set0 hl hb hs]; rfl
theorem typeOfM (v : Value) (w : World) : (callFunc 162 #[.iface 103 v]).run Tryz.prog w = .ok (.value (rtV 103)) w := by
 have h := @run_callFunc_extern Tryz.prog 162 _ Extern.ReflectliteType.typeOf Tryz.func162 (by kernel_rfl) (by kernel_rfl) (by kernel_rfl) (by kernel_rfl)
 rw [h, typeOf0]; rfl
theorem kindP (w : World) : (callMethod (rtV 105) "Kind" #[]).run Tryz.prog w = .ok (.value (.int .u8 22)) w := by
 have hm := mKind (hdl 105) w
 simp only [callMethod, Sem.run_bind, run_program, Result.andThen_ok, hm]
 show (callFunc _ (#[_] ++ #[])).run _ _ = _
 rw [(@run_callFunc_extern Tryz.prog 294 _ (ReflectliteType.abiMethod fun t => do pure (.int .u8 (← Rtype.kind t))) Tryz.func294 (by kernel_rfl) (by kernel_rfl) (by kernel_rfl) (by kernel_rfl))]
 erw [kindP0 w]; rfl
theorem kindM (w : World) : (callMethod (rtV 103) "Kind" #[]).run Tryz.prog w = .ok (.value (.int .u8 25)) w := by
 have hm := mKind (hdl 103) w
 simp only [callMethod, Sem.run_bind, run_program, Result.andThen_ok, hm]
 show (callFunc _ (#[_] ++ #[])).run _ _ = _
 rw [(@run_callFunc_extern Tryz.prog 294 _ (ReflectliteType.abiMethod fun t => do pure (.int .u8 (← Rtype.kind t))) Tryz.func294 (by kernel_rfl) (by kernel_rfl) (by kernel_rfl) (by kernel_rfl))]
 erw [kindM0 w]; rfl
theorem elemP (w : World) : (callMethod (rtV 105) "Elem" #[]).run Tryz.prog w = .ok (.value (rtV 103)) w := by
 have hm := mElem (hdl 105) w
 have h := @run_callFunc_extern Tryz.prog 308 _ (ReflectliteType.method ReflectliteType.elem) Tryz.func308 (by kernel_rfl) (by kernel_rfl) (by kernel_rfl) (by kernel_rfl)
 simp only [callMethod, Sem.run_bind, run_program, Result.andThen_ok, hm]
 show (callFunc _ (#[_] ++ #[])).run _ _ = _
 rw [h]
 erw [elem0 w]; rfl
theorem implP (w : World) : (callMethod (rtV 103) "Implements" #[rtV 99]).run Tryz.prog w = .ok (.value (.bool true)) w := by
 have hm := mImpl (hdl 103) w
 have h := @run_callFunc_extern Tryz.prog 309 _ (ReflectliteType.relation "Implements" ReflectliteType.implements_) Tryz.func309 (by kernel_rfl) (by kernel_rfl) (by kernel_rfl) (by kernel_rfl)
 simp only [callMethod, Sem.run_bind, run_program, Result.andThen_ok, hm]
 show (callFunc _ (#[_] ++ #[_])).run _ _ = _
 rw [h]
 erw [impl0 w]; rfl
theorem assiP (w : World) : (callMethod (rtV 103) "AssignableTo" #[rtV 103]).run Tryz.prog w = .ok (.value (.bool true)) w := by
 have hm := mAssi (hdl 103) w
 have h := @run_callFunc_extern Tryz.prog 306 _ (ReflectliteType.relation "AssignableTo" ReflectliteType.assignableTo) Tryz.func306 (by kernel_rfl) (by kernel_rfl) (by kernel_rfl) (by kernel_rfl)
 simp only [callMethod, Sem.run_bind, run_program, Result.andThen_ok, hm]
 show (callFunc _ (#[_] ++ #[_])).run _ _ = _
 rw [h]
 erw [assi0 w]; rfl
end
structure AsK (hP hM hR : Value) : Prop where
 voP : ∀ (q : Addr) (w : World), (callFunc 106 #[pmV q]).run Tryz.prog w = .ok (.value (.agg ⟨[hP, .pointer (some ⟨w.heap.size, 0, none⟩), .int .u64 150]⟩)) (w.alloc (.cells #[.pointer (some q)] 105))
 voM : ∀ (c a : Int) (w : World), (callFunc 106 #[mfV c a]).run Tryz.prog w = .ok (.value (.agg ⟨[hM, .pointer (some ⟨w.heap.size, 0, none⟩), .int .u64 153]⟩)) (w.alloc (.cells ⟨[.int .i64 c, .int .i64 a]⟩ 103))
 tyP : ∀ (x : Addr) (w : World), (callFunc 107 #[.agg ⟨[hP, .pointer (some x), .int .u64 150]⟩]).run Tryz.prog w = .ok (.value (.iface 279 (.agg ⟨[hP]⟩))) w
 isNil : ∀ (a p : Addr) (W : World), W.cell? a = some (.pointer (some p)) → (callFunc 108 #[.agg ⟨[hP, .pointer (some a), .int .u64 150]⟩]).run Tryz.prog W = .ok (.value (.bool false)) W
 elemV : ∀ (a p : Addr) (W : World), W.cell? a = some (.pointer (some p)) → (callFunc 163 #[.agg ⟨[hP, .pointer (some a), .int .u64 150]⟩]).run Tryz.prog W = .ok (.value (.agg ⟨[hM, .pointer (some p), .int .u64 409]⟩)) W
 set : ∀ {p b : Addr} {vs : List Value} {W W' : World}, vs.length = 2 → (∀ j v, vs[j]? = some v → W.cell? (b.add j) = some v) → (storeVar 103 p (.agg ⟨vs⟩)).run Tryz.prog W = .ok () W' →
  (callFunc 164 #[.agg ⟨[hM, .pointer (some p), .int .u64 409]⟩, .agg ⟨[hM, .pointer (some b), .int .u64 153]⟩]).run Tryz.prog W = .ok (.value (.tuple #[])) W'
 typeOf : ∀ (v : Value) (w : World), (callFunc 162 #[.iface 103 v]).run Tryz.prog w = .ok (.value (.iface 279 (.agg ⟨[hM]⟩))) w
 kindP : ∀ w, (callMethod (.iface 279 (.agg ⟨[hP]⟩)) "Kind" #[]).run Tryz.prog w = .ok (.value (.int .u8 22)) w
 kindM : ∀ w, (callMethod (.iface 279 (.agg ⟨[hM]⟩)) "Kind" #[]).run Tryz.prog w = .ok (.value (.int .u8 25)) w
 elem : ∀ w, (callMethod (.iface 279 (.agg ⟨[hP]⟩)) "Elem" #[]).run Tryz.prog w = .ok (.value (.iface 279 (.agg ⟨[hM]⟩))) w
 impl : ∀ w, (callMethod (.iface 279 (.agg ⟨[hM]⟩)) "Implements" #[.iface 279 (.agg ⟨[hR]⟩)]).run Tryz.prog w = .ok (.value (.bool true)) w
 assi : ∀ w, (callMethod (.iface 279 (.agg ⟨[hM]⟩)) "AssignableTo" #[.iface 279 (.agg ⟨[hM]⟩)]).run Tryz.prog w = .ok (.value (.bool true)) w
theorem asK : AsK (hdl 105) (hdl 103) (hdl 99) := ⟨voP, voM, tyP, isNilP, elemVP, fun hl hb hs => setP hl hb hs, typeOfM, kindP, kindM, elemP, implP, assiP⟩
def ErrTy (w : World) : Prop := w.cell? ⟨0, 0, none⟩ = some (rtV 99)
theorem ErrTy.ext {w w' : World} (h : ErrTy w) (hx : Ext w w') : ErrTy w' := hx.cell h
theorem cRt : Cel Tryz.prog 192 := ⟨_, Tryz.underlying192, by simp, by simp⟩
theorem tRv : Stc Tryz.prog 189 3 [.pointer none, .pointer none, .int .u64 0] := ⟨by kernel_rfl, by kernel_rfl⟩
theorem asNil_f {w : World} {q : Addr} : FC Tryz.prog 50 [.nilIface, pmV q] w fun v _ => v = .bool false := by
 refine FC.intro (cs := []) Tryz.func50 (by kernel_rfl) fun E R hE hr hR => ?_
 conv => cbv
 refine st_eqNil hE Tryz.underlying99 ?_
 conv => cbv
 rw [hR]; exact ⟨Ext.refl _, rfl⟩
theorem AsK.voM' {hP hM hR : Value} (hk : AsK hP hM hR) (c a : Int) (w : World) : ∃ (x : Addr) (w' : World), (callFunc 106 #[mfV c a]).run Tryz.prog w = .ok (.value (.agg ⟨[hM, .pointer (some x), .int .u64 153]⟩)) w' ∧ Ext w w' ∧ ∀ j v, ([.int .i64 c, .int .i64 a] : List Value)[j]? = some v → w'.cell? (x.add j) = some v := by
 refine ⟨_, _, hk.voM c a w, (Ext.refl w).alloc (n1_ _) _, fun j v hv => ?_⟩
 rw [add_plain]
 rcases j with _ | _ | j
 ·simp at hv; subst hv; simp
 ·simp at hv; subst hv; simp
 ·simp at hv
theorem AsK.voP' {hP hM hR : Value} (hk : AsK hP hM hR) (q : Addr) (w : World) : ∃ (x : Addr) (w' : World), (callFunc 106 #[pmV q]).run Tryz.prog w = .ok (.value (.agg ⟨[hP, .pointer (some x), .int .u64 150]⟩)) w' ∧ Ext w w' ∧ w'.cell? x = some (.pointer (some q)) :=
 ⟨_, _, hk.voP q w, (Ext.refl w).alloc (n1_ _) _, by simp⟩
theorem run_storeS {P : Program} {t : TypeId} {vs : List Value} (ht : (P.info? t).map (·.size) = some vs.length) {B e k m c : Nat} {w : World} {a : Addr} {xs : List Value} (h : Own B e k w (some a) m c xs) (hj : vs.length = xs.length) (hv : ∀ v ∈ vs, v.oneCell' = true) :
  ∃ w', (storeVar t a (.agg ⟨vs⟩)).run P w = .ok () w' ∧ Wr (some a) w w' ∧ Own B e k w' (some a) m c vs := by
 obtain ⟨i, h3, h4⟩ := Option.map_eq_some_iff.1 ht
 obtain ⟨gb, rfl, _, _⟩ := h.form
 obtain ⟨w', h5, h6, h7⟩ := own_stores (P := P) (o := 0) vs 0 w xs h (by omega) hv
 refine ⟨w', by simp [storeVar, sizeOf, typeInfo, h3, h4, Value.cells, h5], h7, ?_⟩
 have e : xs.drop (0 + 0 + vs.length) = [] := List.drop_eq_nil_of_le (by omega)
 rw [e] at h6
 simpa using h6
theorem asIn_g {hP hM hR : Value} (hk : AsK hP hM hR) {B : Nat} {w : World} {q : Addr} {c0 a0 c a : Int} (hq : Box B 103 2 w q [.int .i64 c0, .int .i64 a0]) {x : Addr} (hx : w.cell? x = some (.pointer (some q))) :
  GC Tryz.prog 109 [mfV c a, pmV q, .agg ⟨[hP, .pointer (some x), .int .u64 150]⟩, .iface 279 (.agg ⟨[hM]⟩)] w fun r w' => r = .bool true ∧ Wr (some q) w w' ∧ Box B 103 2 w' q [.int .i64 c, .int .i64 a] := by
 refine GC.intro (cs := []) Tryz.func109 (by kernel_rfl) fun E R hE hr hR => ?_
 conv => cbv
 refine st_box hr fun q6 w1 hx1 h60 => ?_
 have h6 := h60 _ (n1_ _)
 clear h60
 have hq1 := hq.bel hx1
 have hc1 := hx1.cell hx
 conv => cbv
 refine loop_rule hr (fun (_ : Unit) w' => w' = w1) (fun _ => [(0, mfV c a), (1, pmV q), (3, .iface 279 (.agg ⟨[hM]⟩)), (6, .pointer (some q6)), (8, .bool false)]) (fun _ => 0) ()
  (by simp [Fits, lk]) rfl ?_
 rintro I hI ⟨⟩ w' rfl
 conv => cbv
 refine st_ext hr (hk.typeOf _ _) ?_
 conv => cbv
 refine st_inv1 hr (hk.assi _) ?_
 conv => cbv
 refine st_loadS hE tRv rfl h6.at ?_
 conv => cbv
 refine st_ext hr (hk.elemV _ _ _ hc1) ?_
 conv => cbv
 obtain ⟨x2, w2, hvo, hx2, hcl⟩ := hk.voM' c a w'
 refine st_ext hr hvo ?_
 conv => cbv
 have hq2 := hq1.bel hx2
 obtain ⟨w3, hst, hw3, hb3⟩ := run_storeS (P := Tryz.prog) (t := 103) (vs := [.int .i64 c, .int .i64 a]) (by kernel_rfl) hq2 rfl (by simp [Value.oneCell'])
 refine st_ext hr (hk.set rfl hcl hst) ?_
 conv => cbv
 rw [hR]
 exact ⟨rfl, ((hx1.wr _).trans (hx2.wr _)).trans hw3, hb3⟩
theorem As_g {B : Nat} {w : World} {q : Addr} {c0 a0 c a : Int} (hq : Box B 103 2 w q [.int .i64 c0, .int .i64 a0]) (hE0 : ErrTy w) :
  GC Tryz.prog 50 [mfV c a, pmV q] w fun r w' => r = .bool true ∧ Wr (some q) w w' ∧ Box B 103 2 w' q [.int .i64 c, .int .i64 a] := by
 obtain ⟨hP, hM, hRr, hk, h1P, he⟩ : ∃ hP hM hRr, AsK hP hM hRr ∧ hP.oneCell' = true ∧ w.cell? ⟨0, 0, none⟩ = some (.iface 279 (.agg ⟨[hRr]⟩)) := ⟨_, _, _, asK, rfl, hE0⟩
 have e1 : ∀ {E : Sym}, Eng Tryz.prog E → ¬ E.cmp .neq 22 22 = true := fun hE => by rw [hE.cmp]; decide
 have e2 : ∀ {E : Sym}, Eng Tryz.prog E → E.cmp .neq 25 20 = true := fun hE => by rw [hE.cmp]; decide
 have hE0' : ∀ {w' : World}, Ext w w' → w'.cell? ⟨0, 0, none⟩ = some (.iface 279 (.agg ⟨[hRr]⟩)) := fun hx => hx.cell he
 refine GC.intro (cs := []) Tryz.func50 (by kernel_rfl) fun E R hE hr hR => ?_
 conv => cbv
 refine st_eqSome hE Tryz.underlying99 ?_
 conv => cbv
 refine st_eqSome hE Tryz.underlying20 ?_
 conv => cbv
 obtain ⟨x, w1, hvo, hx1, hc1⟩ := hk.voP' q w
 refine st_ext hr hvo ?_
 conv => cbv
 refine st_alloc hr tRv rfl fun q5 w2 hx2 hq0 => ?_
 conv => cbv
 refine st_putS hr (by kernel_rfl) (hq0 _ (n1_ _)) (add_zero _).symm (by simp) (by intro y hy; simp only [List.mem_cons, List.not_mem_nil, or_false] at hy; rcases hy with rfl | rfl | rfl <;> first | exact h1P | rfl) fun w3 hw3 hb3 => ?_
 simp only [a1_, a2_, a3_, a4_, a5_, a6_, a7_] at hb3
 have hx3 := hx1.trans (hx2.then (hw3.bel (hq0 _ (n1_ _)) hx2.size))
 have hc3 := (hx2.then (hw3.bel (hq0 _ (n1_ _)) hx2.size)).cell hc1
 conv => cbv
 refine st_loadS hE tRv rfl hb3.at ?_
 conv => cbv
 refine st_ext hr (hk.tyP _ _) ?_
 conv => cbv
 refine st_inv0 hr (hk.kindP _) ?_
 conv => cbv
 refine br (fun g => absurd g (e1 hE)) (fun _ => ?_)
 conv => cbv
 refine st_loadS hE tRv rfl hb3.at ?_
 conv => cbv
 refine st_ext hr (hk.isNil _ _ _ hc3) ?_
 conv => cbv
 refine st_inv0 hr (hk.elem _) ?_
 conv => cbv
 refine st_inv0 hr (hk.kindM _) ?_
 conv => cbv
 refine br (fun _ => ?_) (fun g => absurd (e2 hE) g)
 conv => cbv
 refine st_load hE cRt ((hE0' hx3)) ?_
 conv => cbv
 refine st_inv1 hr (hk.impl _) ?_
 conv => cbv
 refine st_loadS hE tRv rfl hb3.at ?_
 conv => cbv
 refine st_g hr (asIn_g hk (c := c) (a := a) (hq.bel hx3) hc3) fun r w4 ⟨ev, hw4, hb4⟩ => ?_
 subst ev
 conv => cbv
 rw [hR]
 exact ⟨rfl, (hx3.wr _).trans hw4, hb4⟩
def ChkP (nv : List PN) (sv : List PS) (ns : List PN) (ss : List PS) (ts : List Int) (cd pl : Int) : Prop :=
 (¬ policyP false nv sv ∧ ns = [] ∧ ss = [] ∧ ts = [] ∧ cd = 10 ∧ pl = 0) ∨
 (policyP false nv sv ∧ ∃ pts, Match sv pts ∧ IsTs nv 0 nv.length (roots sv) (pts.flatMap trs) ∧ match ckS (sv.zip pts) ⟨[], [], []⟩ with
  | .inl f => ns = [] ∧ ss = [] ∧ ts = [] ∧ cd = f.1 ∧ pl = f.2
  | .inr x => ns = nv.map (fixN x.names) ∧ ss = sv ∧ ts = x.acc ∧ cd = 0 ∧ pl = 0)
theorem ChkP.unique {nv : List PN} {sv : List PS} {ns ns' : List PN} {ss ss' : List PS} {ts ts' : List Int} {cd cd' pl pl' : Int} (h : ChkP nv sv ns ss ts cd pl) (k : ChkP nv sv ns' ss' ts' cd' pl') : ns = ns' ∧ ss = ss' ∧ ts = ts' ∧ cd = cd' ∧ pl = pl' := by
 rcases h with ⟨h0, rfl, rfl, rfl, rfl, rfl⟩ | ⟨h0, pts, h1, h2, h3⟩ <;> rcases k with ⟨k0, rfl, rfl, rfl, rfl, rfl⟩ | ⟨k0, pts', k1, k2, k3⟩
 ·exact ⟨rfl, rfl, rfl, rfl, rfl⟩
 ·exact absurd k0 h0
 ·exact absurd h0 k0
 ·obtain rfl := pts_uniq h1 k1 h2 k2
  cases hc : ckS (sv.zip pts) ⟨[], [], []⟩ with
  | inl f => rw [hc] at h3 k3; obtain ⟨rfl, rfl, rfl, rfl, rfl⟩ := h3; obtain ⟨rfl, rfl, rfl, rfl, rfl⟩ := k3; exact ⟨rfl, rfl, rfl, rfl, rfl⟩
  | inr x => rw [hc] at h3 k3; obtain ⟨rfl, rfl, rfl, rfl, rfl⟩ := h3; obtain ⟨rfl, rfl, rfl, rfl, rfl⟩ := k3; exact ⟨rfl, rfl, rfl, rfl, rfl⟩
theorem leafU_few {p : PN} (h : leafU p) (i : Int) : fewT (leafF p i) := by
 unfold leafF
 unfold leafU at h
 split
 ·trivial
 ·rename_i e5
  rw [if_neg e5] at h
  have ho := cOK_o h.1
  rw [if_neg (by omega), if_neg (by omega)]
  simp only [fewT]
  rcases h.1 with ⟨_, _, e⟩ | ⟨_, _, _, e⟩ | ⟨_, _, _, e⟩ | ⟨_, _, _, e⟩
  ·rw [e]; simp
  ·rw [e]; simp
  ·rw [e]; simp
  ·have := e.2.2; omega
theorem istsU_few {ns : List PN} {a b : Nat} {ks : List Int} {ts : List Tr} (h : IsTs ns a b ks ts) : (∀ q p, a ≤ q → q < b → ns[q]? = some p → nodeOK leafU p) → fewTs ts := by
 induction h with
 | nil a => intro _; simp only [fewTs]
 | @cons a b k p ks kids ts hp hk h1 h2 i1 i2 =>
  intro hok
  have e1 := h1.le
  have e2 := h2.le
  simp only [fewTs]
  refine ⟨?_, i2 fun q p h1 h2 => hok q p (by omega) h2⟩
  have hn := hok k p e1 (by omega) hp
  unfold mkT
  split
  ·rename_i h0; exact leafU_few (hn.1 h0) _
  ·simp only [fewT]; exact i1 fun q p h1 h2 => hok q p h1 (by omega)
mutual
theorem fewT_res (names : List ByteArray) : ∀ t : Tr, fewT t → fewT (resT names t)
 | .con .., h => h
 | .att n, h => h
 | .lt n, h => h
 | .nam tx a, _ => by
  rw [resT]
  rcases resN_cases names tx with e | ⟨i, e, _⟩ | ⟨i, e, _⟩ <;> rw [e] <;> trivial
 | .op o kids a, h => by
  simp only [fewT] at h
  rw [resT]
  simp only [fewT]
  exact fewTs_res names kids h
theorem fewTs_res (names : List ByteArray) : ∀ l : List Tr, fewTs l → fewTs (resTs names l)
 | [], _ => by simp only [resTs, fewTs]
 | t :: l, h => by
  simp only [fewTs] at h
  simp only [resTs, fewTs]
  exact ⟨fewT_res names t h.1, fewTs_res names l h.2⟩
end
theorem few_resS : ∀ {l : List (PS × PT)} {x : CK}, (∀ q ∈ l, ∀ t ∈ trs q.2, fewT t) → ∀ p ∈ resS l x, ∀ t ∈ trs p, fewT t
 | [], x, _, p, hp => by simp [resS] at hp
 | (s, p0) :: l, x, h, p, hp => by
  rw [resS] at hp
  cases hc : ckP s x p0 with
  | inl f => rw [hc] at hp; simp at hp
  | inr y =>
   rw [hc] at hp
   rcases List.mem_cons.1 hp with rfl | hp
   ·intro t ht
    have h0 := h (s, p0) (List.mem_cons_self ..)
    unfold trs at ht h0
    rcases List.mem_append.1 ht with ht | ht
    ·cases hq : p0.c with
     | none => rw [hq] at ht; simp at ht
     | some u => rw [hq] at ht; simp at ht; subst ht; exact fewT_res _ _ (h0 u (by simp [hq]))
    ·cases hq : p0.g with
     | none => rw [hq] at ht; simp at ht
     | some u => rw [hq] at ht; simp at ht; subst ht; exact fewT_res _ _ (h0 u (by simp [hq]))
   ·exact few_resS (fun q hq => h q (List.mem_cons_of_mem _ hq)) p hp
section
variable {E : Sym} {w : World} {K : Value → World → Prop} {d : Option Tmp} {ty : TypeId} {pos : String} {aft : Array Edge} {g : Option (Nat × Bool)} {bq : Bool}
theorem run_bTy0 (w : World) : (Instr.build 31 #[]).run Tryz.prog w = .ok (.agg #[.slice none 0 0, .slice none 0 0, .slice none 0 0]) w := by kernel_rfl
theorem st_bTy0 (hE : EngB bq Tryz.prog E) (hk : K (.agg ⟨[.slice none 0 0, .slice none 0 0, .slice none 0 0]⟩) w) : E.stop ⟨d, .build 31 ⟨[]⟩, ty, pos, aft, g⟩ [] w K := by
 refine hE.det (v := .agg ⟨[.slice none 0 0, .slice none 0 0, .slice none 0 0]⟩) (fun w1 _ ρ hρ => ?_) hk
 have := run_bTy0 w1
 simp [execOp, this]
theorem run_bFc (c : Int) (w : World) : (Instr.build 33 #[(0, .int .i64 c)]).run Tryz.prog w = .ok (.agg #[.int .i64 c, .int .i64 0]) w := by kernel_rfl
theorem st_bFc (hE : EngB bq Tryz.prog E) {c : Int} {x : Operand} (hk : K (.agg ⟨[.int .i64 c, .int .i64 0]⟩) w) : E.stop ⟨d, .build 33 ⟨[(0, x)]⟩, ty, pos, aft, g⟩ [.int .i64 c] w K := by
 refine hE.det (v := .agg ⟨[.int .i64 c, .int .i64 0]⟩) (fun w1 _ ρ hρ => ?_) hk
 simp only [opnds, b2_, b3_, b1_, and_true] at hρ
 have := run_bFc c w1
 simp [execOp, hρ, this]
theorem run_bMf0 (w : World) : (Instr.build 103 #[]).run Tryz.prog w = .ok (.agg #[.int .i64 0, .int .i64 0]) w := by kernel_rfl
theorem st_bMf0 (hE : EngB bq Tryz.prog E) (hk : K (.agg ⟨[.int .i64 0, .int .i64 0]⟩) w) : E.stop ⟨d, .build 103 ⟨[]⟩, ty, pos, aft, g⟩ [] w K := by
 refine hE.det (v := .agg ⟨[.int .i64 0, .int .i64 0]⟩) (fun w1 _ ρ hρ => ?_) hk
 have := run_bMf0 w1
 simp [execOp, this]
end
def ChkR (B : Nat) (nv : List PN) (sv : List PS) (v : Value) (w' : World) : Prop := ∃ A1 n1 c1 A2 n2 c2 A3 n3 c3 ys ss ts cd pl, v = .tuple ⟨[typV A1 n1 c1 A2 n2 c2 A3 n3 c3, .agg ⟨[.int .i64 cd, .int .i64 pl]⟩]⟩ ∧ OT B w' A1 n1 c1 A2 n2 c2 A3 n3 c3 ys ss ts ∧ (∀ v ∈ ys, v.p.tx.size ≤ 9223372036854775807 ∧ ∀ u ∈ v.p.xs, u.size ≤ 9223372036854775807) ∧ ChkP nv sv (ys.map (·.p)) ss ts cd pl
theorem ot_nil {B : Nat} {w : World} : OT B w none 0 0 none 0 0 none 0 0 [] [] [] := ⟨⟨Own.nil, by simp, ⟨by simp, by simp, by simp⟩⟩, Own.nil, Own.nil, fun r hr => dj_none _, fun r hr => dj_none _, dj_none _⟩
theorem tIFau : Stc Tryz.prog 33 2 [.int .i64 0, .int .i64 0] := ⟨by kernel_rfl, by kernel_rfl⟩
theorem fMf0 : Fld Tryz.prog 103 0 0 := ⟨by kernel_rfl⟩
theorem fMf1 : Fld Tryz.prog 103 1 1 := ⟨by kernel_rfl⟩
theorem run_bFl (c a : Int) (w : World) : (Instr.build 33 #[(0, .int .i64 c), (1, .int .i64 a)]).run Tryz.prog w = .ok (.agg #[.int .i64 c, .int .i64 a]) w := by kernel_rfl
theorem run_bFl0 (w : World) : (Instr.build 33 #[]).run Tryz.prog w = .ok (.agg #[.int .i64 0, .int .i64 0]) w := by kernel_rfl
section
variable {E : Sym} {w : World} {K : Value → World → Prop} {d : Option Tmp} {ty : TypeId} {pos : String} {aft : Array Edge} {g : Option (Nat × Bool)} {bq : Bool}
theorem st_bFl0 (hE : EngB bq Tryz.prog E) (hk : K (.agg ⟨[.int .i64 0, .int .i64 0]⟩) w) : E.stop ⟨d, .build 33 ⟨[]⟩, ty, pos, aft, g⟩ [] w K := by
 refine hE.det (v := .agg ⟨[.int .i64 0, .int .i64 0]⟩) (fun w1 _ ρ hρ => ?_) hk
 have := run_bFl0 w1
 simp [execOp, this]
end
theorem spOf_zip (es : List SV) : spOf es = (es.map (·.s)).zip (es.map (·.p)) := by
 unfold spOf
 induction es with
 | nil => rfl
 | cons e l ih => simp only [b2_, List.zip_cons_cons, ih]
theorem seg_allN (ns : List PN) : seg ns 0 ns.length = ns := by simp [seg]
theorem zip_fst {α β : Type} : ∀ {a : List α} {b : List β}, a.length = b.length → (a.zip b).map (·.1) = a
 | [], [], _ => rfl
 | x :: a, y :: b, h => by simp only [List.zip_cons_cons, b2_]; rw [zip_fst (by simpa using h)]
theorem zip_trsC : ∀ {sv : List PS} {acc : List PT}, acc.length = sv.length → (sv.zip acc).flatMap (fun q => trs q.2) = acc.flatMap trs
 | [], [], _ => rfl
 | s :: sv, p :: acc, h => by simp only [List.zip_cons_cons, List.flatMap_cons]; rw [zip_trsC (by simpa using h)]
theorem OT.wrX {B : Nat} {w w' : World} {A A2 A3 : Option Addr} {n c n2 c2 n3 c3 : Nat} {vs : List VN} {sv : List PS} {tyl : List Int} (h : OT B w A n c A2 n2 c2 A3 n3 c3 vs sv tyl) {X : Option Addr} (hw : Wr X w w') (hX : ∀ g, blk X = some g → g < B) : OT B w' A n c A2 n2 c2 A3 n3 c3 vs sv tyl :=
 ⟨h.nd.wr hw fun r hr g h1 h2 => by have := hX g h1; have := (h.nd.lo r hr g h2).1; omega,
  h.st.wr hw (dj_apart h.st fun g h1 h2 => by have := hX g h2; have := (own_blk h.st g h1).1; omega),
  h.ty.wr hw (dj_apart h.ty fun g h1 h2 => by have := hX g h2; have := (own_blk h.ty g h1).1; omega), h.d12, h.d13, h.d23⟩
theorem OT.low {B B' : Nat} {w : World} {A A2 A3 : Option Addr} {n c n2 c2 n3 c3 : Nat} {vs : List VN} {sv : List PS} {tyl : List Int} (h : OT B w A n c A2 n2 c2 A3 n3 c3 vs sv tyl) (hB : B' ≤ B) : OT B' w A n c A2 n2 c2 A3 n3 c3 vs sv tyl :=
 ⟨h.nd.low hB, h.st.mono hB, h.ty.mono hB, h.d12, h.d13, h.d23⟩
theorem implCheck_f {w : World} (hT : Tab w 6 constF) (hR0 : STab w 4 words) (hEr : ErrTy w) {A A2 : Option Addr} {n c n2 c2 : Nat} {nv : List PN} {sv : List PS} (h : PolR w A n A2 n2 nv sv) (hn : n ≤ 9223372036854775807) (hn2 : n2 ≤ 9223372036854775807) :
  FC Tryz.prog 10 [polV A n c A2 n2 c2] w (ChkR w.heap.size nv sv) := by
 refine FC.intro (cs := []) Tryz.func10 (by kernel_rfl) fun E R hE hr hR => ?_
 conv => cbv
 refine st_box hr fun a w1 hx hb0 => ?_
 have hb := hb0 _ (n1_ _)
 clear hb0
 conv => cbv
 refine st_alloc hr tITyp rfl fun q2 w2 hx2 hq0 => ?_
 have hq2 := hq0 _ hx.size
 replace hb := hb.bel hx2
 replace hx := hx.trans hx2
 clear hq0 hx2
 conv => cbv
 refine st_alloc hr tIFau rfl fun q3 w3 hx3 hq0 => ?_
 have hq3 := hq0 _ hx.size
 have a23 := (hq2.apart (hq0 _ (n1_ _)) (n1_ _))
 replace hb := hb.bel hx3
 replace hq2 := hq2.bel hx3
 replace hx := hx.trans hx3
 clear hq0 hx3
 conv => cbv
 refine st_loadS hE tIPol rfl hb.at ?_
 conv => cbv
 refine st_f hr (policyTrees_f (c := c) (c2 := c2) (hT.ext hx) (hR0.ext hx) (h.ext hx) hn hn2) fun v w4 hx4 ⟨B, m, d, b, ev, h1, h2⟩ => ?_
 subst ev
 replace hq2 := hq2.bel hx4
 replace hq3 := hq3.bel hx4
 replace hx := hx.trans hx4
 clear hb hx4
 cases b with
 | false =>
  conv => cbv
  refine st_bTy0 hE ?_
  conv => cbv
  refine st_bFc hE ?_
  conv => cbv
  refine st_putS hr (by kernel_rfl) hq2 (add_zero _).symm (by simp) (by simp [Value.oneCell']) fun w5 hw5 hb5 => ?_
  simp only [a1_, a2_, a3_, a4_, a5_, a6_, a7_] at hb5
  replace hq3 := hq3.wr hw5 a23.2
  replace hx := hx.then (hw5.bel hq2 hx.size)
  conv => cbv
  refine st_putS hr (by kernel_rfl) hq3 (add_zero _).symm (by simp) (by simp [Value.oneCell']) fun w6 hw6 hb6 => ?_
  simp only [a1_, a2_, a3_, a4_, a5_, a6_, a7_] at hb6
  replace hb5 := hb5.wr hw6 a23.1
  replace hx := hx.then (hw6.bel hq3 hx.size)
  conv => cbv
  refine st_cell hr tITyp rfl hb5.at ?_
  refine st_cell hr tIFau rfl hb6.at ?_
  rw [hR]
  exact ⟨hx, none, 0, 0, none, 0, 0, none, 0, 0, [], [], [], 10, 0, rfl, ot_nil, by simp, .inl ⟨fun q => absurd (h1.2 q) Bool.false_ne_true, rfl, rfl, rfl, rfl, rfl⟩⟩
 | true =>
 have hP := h1.1 rfl
 obtain ⟨acc, hrun, hLS⟩ := h2 rfl
 clear h1 h2
 obtain ⟨pts, p1, p2, p3, p4, p5⟩ := runS_full leafU_6 leafU_7 sv hrun
 rw [a2_] at p1
 subst p1
 have hok : ∀ q p, 0 ≤ q → q < nv.length → nv[q]? = some p → nodeOK leafU p := fun q p h1 h2 hp => (fieldsU_iff (p3.node q p h1 h2 hp)).1 (hP.2.2.2.1 p (m1_ hp))
 obtain ⟨es, hes, hz, hpm, hsm⟩ := hLS.svs
 have hpo : poS es ≤ 4000 := by
  have := p3.pos.1
  have := hP.1
  unfold poS
  rw [show (es.flatMap fun e => trs e.p) = acc.flatMap trs by rw [← hpm, List.flatMap_map]]
  omega
 have hm6 : m ≤ 600 := by
  have := hes.len
  have := hP.2.2.1
  have e2 : (es.map (·.s)).length = sv.length := by rw [hsm]
  rw [List.length_map] at e2
  omega
 conv => cbv
 refine st_f hr (checkAll_f hes hm6 (by rw [hz]; exact p5) hpo) fun v w5 hx5 hv => ?_
 rw [hz] at hv
 replace hq2 := hq2.bel hx5
 replace hq3 := hq3.bel hx5
 replace hx := hx.trans hx5
 clear hes
 cases hck : ckS (sv.zip acc) ⟨[], [], []⟩ with
 | inl f =>
  rw [hck] at hv
  obtain ⟨rfl, hf⟩ := hv
  obtain ⟨f1, f2⟩ := f
  unfold misV
  conv => cbv
  refine st_bMf0 hE ?_
  conv => cbv
  refine st_alloc hr tMf rfl fun q8 w6 hx6 hq0 => ?_
  have hq8 := hq0 _ hx.size
  have a28 := (hq2.apart (hq0 _ (n1_ _)) (n1_ _))
  have a38 := (hq3.apart (hq0 _ (n1_ _)) (n1_ _))
  clear hq0
  replace hq2 := hq2.bel hx6
  replace hq3 := hq3.bel hx6
  replace hx := hx.trans hx6
  conv => cbv
  refine st_putS hr (by kernel_rfl) hq8 (add_zero _).symm (by simp) (by simp [Value.oneCell']) fun w7 hw7 hb8 => ?_
  simp only [a1_, a2_, a3_, a4_, a5_, a6_, a7_] at hb8
  replace hq2 := hq2.wr hw7 a28.1
  replace hq3 := hq3.wr hw7 a38.1
  replace hx := hx.then (hw7.bel hq8 hx.size)
  clear hw7 hq8
  conv => cbv
  refine st_mk hE ⟨_, Tryz.underlying105, by simp⟩ ?_
  conv => cbv
  refine st_g hr (As_g (c := f1) (a := f2) hb8 (hEr.ext hx)) fun v w8 ⟨ev, hw8, hb9⟩ => ?_
  subst ev
  replace hq2 := hq2.wr hw8 a28.1
  replace hq3 := hq3.wr hw8 a38.1
  replace hx := hx.then (hw8.bel hb8 hx.size)
  clear hb8
  conv => cbv
  refine draw_s (fun w1 => ∀ i u, ([.int .i64 f1, .int .i64 f2] : List Value)[i]? = some u → w1.cell? (q8.add i) = some u) [0, 1, 2, 3, 4, 5] [(6, false), (7, false)] hr fol (by kernel_rfl) (fun w1 hs => (hb9.bel hs.ext).at) fun E' hE' w9 hs9 => ?_
  have x9 := hs9.ext
  replace hq2 := hq2.bel x9
  replace hq3 := hq3.bel x9
  replace hb9 := hb9.bel x9
  replace hx := hx.trans x9
  conv => cbv
  refine sw_det hE' (v := .agg ⟨[.slice none 0 0, .slice none 0 0, .slice none 0 0]⟩) (fun w1 ρ hρ => ?_) ?_
  ·have := run_bTy0 w1
   simp [execOp, this]
  conv => cbv
  (refine sw_fld hE' fMf0 fun p hp => ?_; (conv => cbv); refine sw_load hE' cInt (v := (.int .i64 f1)) (fun w1 h1 => by rw [hp]; exact h1 0 _ rfl) ?_; (conv => cbv))
  (refine sw_fld hE' fMf1 fun p hp => ?_; (conv => cbv); refine sw_load hE' cInt (v := (.int .i64 f2)) (fun w1 h1 => by rw [hp]; exact h1 1 _ rfl) ?_; (conv => cbv))
  refine sw_det hE' (v := .agg ⟨[.int .i64 f1, .int .i64 f2]⟩) (fun w1 ρ hρ => ?_) ?_
  ·simp only [opnds, b2_, b3_, b1_, and_true] at hρ
   have := run_bFl f1 f2 w1
   simp [execOp, hρ.1, hρ.2, this]
  conv => cbv
  refine st_putS hr (by kernel_rfl) hq2 (add_zero _).symm (by simp) (by simp [Value.oneCell']) fun wa hwa hb5 => ?_
  simp only [a1_, a2_, a3_, a4_, a5_, a6_, a7_] at hb5
  replace hq3 := hq3.wr hwa a23.2
  replace hb9 := hb9.wr hwa a28.2
  replace hx := hx.then (hwa.bel hq2 hx.size)
  refine ⟨hb9.at, ?_⟩
  conv => cbv
  refine st_putS hr (by kernel_rfl) hq3 (add_zero _).symm (by simp) (by simp [Value.oneCell']) fun wb hwb hb6 => ?_
  simp only [a1_, a2_, a3_, a4_, a5_, a6_, a7_] at hb6
  replace hb5 := hb5.wr hwb a23.1
  replace hb9 := hb9.wr hwb a38.2
  replace hx := hx.then (hwb.bel hq3 hx.size)
  refine ⟨hb9.at, ?_⟩
  conv => cbv
  refine st_cell hr tITyp rfl hb5.at ?_
  refine st_cell hr tIFau rfl hb6.at ?_
  rw [hR]
  refine ⟨hx, none, 0, 0, none, 0, 0, none, 0, 0, [], [], [], f1, f2, rfl, ot_nil, by simp, .inr ⟨hP, acc, p2, p3, ?_⟩⟩
  rw [hck]
  exact ⟨rfl, rfl, rfl, rfl, rfl⟩
 | inr x =>
  rw [hck] at hv
  obtain ⟨B2, d2, TA, n', c', es2, rfl, hes2, hI, hp2, hs2, _⟩ := hv
  rw [hsm] at hs2
  have hla : sv.length = acc.length := p2.1.symm
  obtain ⟨q1, q2', q3', q4⟩ := lay_res (nv := nv) (N := nv.length) (n1_ _) p2 (fun s hs => by
   obtain ⟨j, hj⟩ := List.mem_iff_getElem?.1 hs
   exact (stmtP_iff.1 (hP.2.2.2.2.1 j s hj)).2) p3 (fun q p h1 h2 hp => nodeOK_mono (fun p hp => leafU_L hp) (hok q p h1 h2 hp)) hck rfl
  have hz2 : spOf es2 = sv.zip (resS (sv.zip acc) ⟨[], [], []⟩) := by rw [spOf_zip, hs2, hp2]
  have hg2 : GoodS 0 (spOf es2) := by
   have := goodS_res p5 hck (L := 0) rfl rfl
   rw [zip_fst hla] at this
   rw [hz2]; exact this
  have hpo2 : poS es2 ≤ 4000 := by
   have := hP.1
   rw [poS_eq, hz2, zip_trsC q1, q4]
   omega
  have hfew2 : ∀ q ∈ spOf es2, ∀ t ∈ trs q.2, fewT t := fun q hq t ht => by
   have hqm : q.2 ∈ resS (sv.zip acc) ⟨[], [], []⟩ := by
    rw [hz2] at hq
    exact (List.of_mem_zip (show (q.1, q.2) ∈ _ from hq)).2
   refine few_resS (fun q hq t ht => ?_) _ hqm t ht
   have hf := istsU_few p3 hok
   have hqa : q.2 ∈ acc := (List.of_mem_zip (show (q.1, q.2) ∈ _ from hq)).2
   exact fewTs_mem hf (List.mem_flatMap.2 ⟨q.2, hqa, ht⟩)
  have hnT : typesOf (spOf es2) = x.acc := by unfold typesOf; rw [hz2, q3']
  have hly : layS 0 (spOf es2) = (nv.map (fixN x.names), sv) := by rw [hz2, q2', seg_allN]
  conv => cbv
  refine st_bMf0 hE ?_
  conv => cbv
  refine st_alloc hr tMf rfl fun q8 w6 hx6 hq0 => ?_
  have hq8 := hq0 _ hx.size
  have a28 := (hq2.apart (hq0 _ (n1_ _)) (n1_ _))
  have a38 := (hq3.apart (hq0 _ (n1_ _)) (n1_ _))
  have bel8 := hq0 _ (n1_ _)
  clear hq0
  replace hq2 := hq2.bel hx6
  replace hq3 := hq3.bel hx6
  replace hx := hx.trans hx6
  conv => cbv
  refine st_putS hr (by kernel_rfl) hq8 (add_zero _).symm (by simp) (by simp [Value.oneCell']) fun w7 hw7 hb8 => ?_
  have hx67 := hx6.then (hw7.bel bel8 hx6.size)
  replace hq2 := hq2.wr hw7 a28.1
  replace hq3 := hq3.wr hw7 a38.1
  replace hx := hx.then (hw7.bel hq8 hx.size)
  replace hes2 := hes2.ext hx67
  clear hb8 hq8 hx6 hx67 bel8 hw7
  conv => cbv
  refine st_mk hE ⟨_, Tryz.underlying105, by simp⟩ ?_
  conv => cbv
  refine st_f hr asNil_f fun v w8 hx8 ev => ?_
  subst ev
  replace hq2 := hq2.bel hx8
  replace hq3 := hq3.bel hx8
  replace hes2 := hes2.ext hx8
  replace hx := hx.trans hx8
  clear hx8
  have l2 : ∀ g, blk (some q2) = some g → g < w8.heap.size := fun g hg => (own_blk hq2 g hg).2
  have l3 : ∀ g, blk (some q3) = some g → g < w8.heap.size := fun g hg => (own_blk hq3 g hg).2
  have s8 := hx.size
  conv => cbv
  refine st_f hr (typedOf_f (hT.ext hx) hes2 hm6 hg2 hpo2 hfew2) fun v w9 hx9 ⟨A1, n1, c1, A4, c4, A3, n3, c3, ys, ev, hOT, hys, hsm9⟩ => ?_
  subst ev
  rw [hly, hnT] at hOT
  rw [hly] at hys
  simp only at hOT hys
  replace hq2 := hq2.bel hx9
  replace hq3 := hq3.bel hx9
  replace hx := hx.trans hx9
  conv => cbv
  refine st_bFl0 hE ?_
  conv => cbv
  refine st_putS hr (by kernel_rfl) hq2 (add_zero _).symm (by simp) (by simp [Value.oneCell']) fun wa hwa hb5 => ?_
  simp only [a1_, a2_, a3_, a4_, a5_, a6_, a7_] at hb5
  replace hOT := hOT.wrX hwa l2
  replace hq3 := hq3.wr hwa a23.2
  replace hx := hx.then (hwa.bel hq2 hx.size)
  conv => cbv
  refine st_putS hr (by kernel_rfl) hq3 (add_zero _).symm (by simp) (by simp [Value.oneCell']) fun wb hwb hb6 => ?_
  simp only [a1_, a2_, a3_, a4_, a5_, a6_, a7_] at hb6
  replace hOT := hOT.wrX hwb l3
  replace hb5 := hb5.wr hwb a23.1
  replace hx := hx.then (hwb.bel hq3 hx.size)
  conv => cbv
  refine st_cell hr tITyp rfl hb5.at ?_
  refine st_cell hr tIFau rfl hb6.at ?_
  rw [hR]
  refine ⟨hx, A1, n1, c1, A4, m, c4, A3, n3, c3, ys, sv, x.acc, 0, 0, rfl, hOT.low s8, hsm9, .inr ⟨hP, acc, p2, p3, ?_⟩⟩
  rw [hck]
  exact ⟨hys, rfl, rfl, rfl, rfl⟩
theorem names_ok {nv : List PN} {N : Nat} : ∀ {sv : List PS} {pts : List PT} {x y : CK} {i : Nat}, Match sv pts → IsTs nv i N (roots sv) (pts.flatMap trs) → ckS (sv.zip pts) x = .inr y → x.names.length = x.tys.length →
  ∀ q p, i ≤ q → q < N → nv[q]? = some p → p.o = 5 → (resN y.names p.tx).isSome = true
 | [], [], x, y, i, hm, h, hc, he => by
  intro q p h1 h2 hp h5
  simp [roots] at h
  cases h
  omega
 | [], p :: pts, x, y, i, hm, h, hc, he => by have := hm.1; simp at this
 | s :: sv, [], x, y, i, hm, h, hc, he => by have := hm.1; simp at this
 | s :: sv, ⟨c, g⟩ :: pts, x, y, i, hm, h, hc, he => by
  intro q pn hq1 hq2 hpn h5
  obtain ⟨⟨h1, h2⟩, h3⟩ := match_cons.1 hm
  simp only at h1 h2
  rw [roots_cons, List.flatMap_cons] at h
  obtain ⟨m, ts1, ts2, e, k1, k2⟩ := h.split
  have hl := k1.len
  have hlen : (trs ⟨c, g⟩).length = (rootS s).length := by
   rw [rootS_eq, List.length_append]
   rcases rootO_some h1 with ⟨r1, r2⟩ | ⟨t1, r1, r2⟩ <;> rcases rootO_some h2 with ⟨r3, r4⟩ | ⟨t2, r3, r4⟩ <;> rw [r2, r4] <;> subst r1 <;> subst r3 <;> rfl
  obtain ⟨e1, e2⟩ := List.append_inj e (by rw [hl, hlen])
  rw [← e1] at k1
  rw [← e2] at k2
  rw [rootS_eq] at k1
  obtain ⟨m2, u1, u2, e', j1, j2⟩ := k1.split
  have hl' := j1.len
  have hcl : c.toList.length = (rootO s.c).length := by rcases rootO_some h1 with ⟨r1, r2⟩ | ⟨t1, r1, r2⟩ <;> rw [r2] <;> subst r1 <;> rfl
  obtain ⟨e3, e4⟩ := List.append_inj (show c.toList ++ g.toList = u1 ++ u2 from e') (by rw [hl', hcl])
  rw [← e3] at j1
  rw [← e4] at j2
  rw [List.zip_cons_cons, ckS_cons] at hc
  cases hp : ckP s x ⟨c, g⟩ with
  | inl f => rw [hp] at hc; cases hc
  | inr z =>
  rw [hp] at hc
  simp only at hc
  obtain ⟨m3, q1, q2⟩ := ckP_inr hp
  simp only at q1 q2
  obtain ⟨g1, g2⟩ := ckC_eq q1 he
  obtain ⟨g3, g4⟩ := ckG_eq q2
  have hez : z.names.length = z.tys.length := by rw [g3, g4]; exact g1
  obtain ⟨r, hr⟩ := ckS_names hc hez
  have rx : ∃ r, y.names = x.names ++ r := by
   rcases g2 with g2 | g2
   ·exact ⟨r, by rw [hr, g3, g2]⟩
   ·exact ⟨s.nm :: r, by rw [hr, g3, g2]; simp⟩
  by_cases b1 : q < m2
  ·obtain ⟨r, hr⟩ := rx
   rcases rootO_some h1 with ⟨r1, r2⟩ | ⟨t1, r1, r2⟩
   ·rw [r2] at j1; subst r1; cases j1; omega
   ·rw [r2] at j1; subst r1
    have := walk_nam j1 (ckC_some q1).1 hq1 b1 hpn h5
    rw [hr, resN_app this]; exact this
  ·by_cases b2 : q < m
   ·rcases rootO_some h2 with ⟨r1, r2⟩ | ⟨t1, r1, r2⟩
    ·rw [r2] at j2; subst r1; cases j2; omega
    ·rw [r2] at j2; subst r1
     have := walk_nam j2 (ckG_some q2).1 (by omega) b2 hpn h5
     rw [← g3] at this
     rw [hr, resN_app this]; exact this
   ·exact names_ok h3 k2 hc hez q pn (by omega) hq2 hpn h5
theorem run_bN3 (o z : Int) (tx : ByteArray) (w : World) : (Instr.build 90 #[(0, .int .i64 o), (1, .int .i64 z), (2, .string tx)]).run Tryz.prog w = .ok (.agg #[.int .i64 o, .int .i64 z, .string tx, .slice none 0 0, .slice none 0 0]) w := by kernel_rfl
theorem l3copy_f {w : World} (v : VN) (h : OKN w v) (b_xs : v.m0 ≤ 1048576) (b_ks : v.m1 ≤ 1048576) :
  FC Tryz.prog 43 [.agg ⟨cN v⟩] w fun u w' => ∃ B0 n0 d0 B1 n1 d1, u = .agg ⟨[.int .i64 v.p.o, .int .i64 v.p.z, .string v.p.tx, .slice B0 n0 d0, .slice B1 n1 d1]⟩ ∧ Own w.heap.size 9 1 w' B0 n0 d0 (v.p.xs.map (.string)) ∧ Own w.heap.size 3 1 w' B1 n1 d1 (v.p.ks.map (.int .i64)) ∧ Dj B0 B1 := by
 refine FC.intro (cs := []) Tryz.func43 (by kernel_rfl) fun E R hE hr hR => ?_
 obtain ⟨⟨o, z, tx, xs, ks⟩, A0, m0, c0, A1, m1, c1⟩ := v
 have r_xs := h.r_xs
 have r_ks := h.r_ks
 clear h
 simp only at r_xs b_xs r_ks b_ks hR
 have lxs := r_xs.len
 have lks := r_ks.len
 conv => cbv
 refine st_box hr fun a w1 hx hb0 => ?_
 have hb := hb0 _ (n1_ _)
 clear hb0
 conv => cbv
 refine st_alloc hr tINd rfl fun oo w2 hx2 ho0 => ?_
 have ho := ho0 _ hx.size
 replace hb := hb.bel hx2
 replace hx := hx.trans hx2
 clear ho0 hx2
 conv => cbv
 (refine st_fld hE fINd0 fun p hp => ?_; (conv => cbv); refine st_load hE cInt (by rw [hp]; exact (hb).at _ _ rfl) ?_; (conv => cbv))
 (refine st_fld hE fINd1 fun p hp => ?_; (conv => cbv); refine st_load hE cI64 (by rw [hp]; exact (hb).at _ _ rfl) ?_; (conv => cbv))
 (refine st_fld hE fINd2 fun p hp => ?_; (conv => cbv); refine st_load hE cStr (by rw [hp]; exact (hb).at _ _ rfl) ?_; (conv => cbv))
 refine hE.det (v := .agg ⟨[.int .i64 o, .int .i64 z, .string tx, .slice none 0 0, .slice none 0 0]⟩) (fun w1 _ ρ hρ => ?_) ?_
 ·simp only [opnds, b2_, b3_, b1_, and_true] at hρ
  have := run_bN3 o z tx w1
  simp [execOp, hρ.1, hρ.2.1, hρ.2.2, this]
 conv => cbv
 refine st_alloc hr tINd rfl fun q w3 hx3 hq0 => ?_
 have hq := hq0 _ hx.size
 have aq := (hb.apart (hq0 _ (n1_ _)) (n1_ _)).1
 have oq := (ho.apart (hq0 _ (n1_ _)) (n1_ _)).1
 replace hb := hb.bel hx3
 replace ho := ho.bel hx3
 replace hx := hx.trans hx3
 clear hq0 hx3
 conv => cbv
 refine st_putS hr (by kernel_rfl) hq (add_zero _).symm (by simp) (by simp [Value.oneCell']) fun w4 hw4 hq4 => ?_
 simp only [a1_, a2_, a3_, a4_, a5_, a6_, a7_] at hq4
 replace hx := hx.then (hw4.bel hq hx.size)
 replace hb := hb.wr hw4 aq
 replace ho := ho.wr hw4 oq
 clear hq hw4
 have hq := hq4
 clear hq4
 conv => cbv
 (refine st_fld hE fINd3 fun p hp => ?_; (conv => cbv); refine st_load hE cStrs (by rw [hp]; exact (hq).at _ _ rfl) ?_; (conv => cbv))
 (refine st_fld hE fINd3 fun p hp => ?_; (conv => cbv); refine st_load hE cStrs (by rw [hp]; exact (hb).at _ _ rfl) ?_; (conv => cbv))
 refine st_apps hr tStrs rfl (Own.nil (B := w4.heap.size)) (r_xs.ext hx).cells (by rw [List.length_map]; exact lxs) (by simp [Value.oneCell']) (n1_ _) (by omega) (by omega) fun B0 d0 n0 w5 hn0 hw5 o_xs => ?_
 rw [a2_] at o_xs
 have hxx : Ext w4 w5 := (Ext.refl _).then (hw5.bel (Own.nil (B := w4.heap.size) (e := 9) (k := 1) (w := w4)) (n1_ _))
 have ax_xs := (hq.apart o_xs (n1_ _)).2
 have bx_xs := (ho.apart o_xs (n1_ _)).2
 replace o_xs := o_xs.mono hx.size
 replace hb := hb.bel hxx
 replace ho := ho.bel hxx
 replace hq := hq.bel hxx
 replace hx := hx.trans hxx
 clear hxx hw5
 conv => cbv
 (refine st_fld hE fINd3 fun p hp => ?_; (conv => cbv); refine st_put hr zStrs hq hp (by simp) rfl fun wn hw hq2 => ?_; replace hx := hx.then (hw.bel hq hx.size); (try clear hq); (have hq := hq2); clear hq2; (simp only [b4_, b5_] at hq); clear hp)
 replace hb := hb.wr hw aq
 replace ho := ho.wr hw oq
 replace o_xs := o_xs.wr hw ax_xs
 conv => cbv
 (refine st_fld hE fINd4 fun p hp => ?_; (conv => cbv); refine st_load hE cInts (by rw [hp]; exact (hq).at _ _ rfl) ?_; (conv => cbv))
 (refine st_fld hE fINd4 fun p hp => ?_; (conv => cbv); refine st_load hE cInts (by rw [hp]; exact (hb).at _ _ rfl) ?_; (conv => cbv))
 have sz : wn.heap.size ≤ wn.heap.size := n1_ _
 refine st_apps hr tInts rfl (Own.nil (B := wn.heap.size)) (r_ks.ext hx).cells (by rw [List.length_map]; exact lks) (by simp [Value.oneCell']) (n1_ _) (by omega) (by omega) fun B1 d1 n1 w6 hn1 hw6 o_ks => ?_
 rw [a2_] at o_ks
 have hxx : Ext wn w6 := (Ext.refl _).then (hw6.bel (Own.nil (B := wn.heap.size) (e := 3) (k := 1) (w := wn)) (n1_ _))
 have djk : Dj B0 B1 := dj_new o_xs o_ks (n1_ _)
 have ax_ks := (hq.apart o_ks (n1_ _)).2
 have bx_ks := (ho.apart o_ks (n1_ _)).2
 replace o_ks := o_ks.mono hx.size
 replace hb := hb.bel hxx
 replace ho := ho.bel hxx
 replace hq := hq.bel hxx
 replace hx := hx.trans hxx
 replace o_xs := o_xs.bel hxx
 clear hxx hw6 hw
 conv => cbv
 (refine st_fld hE fINd4 fun p hp => ?_; (conv => cbv); refine st_put hr zInts hq hp (by simp) rfl fun wn hw hq2 => ?_; replace hx := hx.then (hw.bel hq hx.size); (try clear hq); (have hq := hq2); clear hq2; (simp only [b4_, b5_] at hq); clear hp)
 replace ho := ho.wr hw oq
 replace o_xs := o_xs.wr hw ax_xs
 replace o_ks := o_ks.wr hw ax_ks
 conv => cbv
 refine st_loadS hE tINd rfl hq.at ?_
 conv => cbv
 refine st_putS hr (by kernel_rfl) ho (add_zero _).symm (by simp) (by simp [Value.oneCell']) fun w7 hw7 ho7 => ?_
 simp only [a1_, a2_, a3_, a4_, a5_, a6_, a7_] at ho7
 conv => cbv
 refine st_cell hr tINd rfl ho7.at ?_
 rw [hR]; exact ⟨hx.then (hw7.bel ho hx.size), B0, n0, d0, B1, n1, d1, rfl, o_xs.wr hw7 bx_xs, o_ks.wr hw7 bx_ks, djk⟩
theorem nodes_bd {nv : List PN} {sv : List PS} (hP : policyP false nv sv) {pts : List PT} (hts : IsTs nv 0 nv.length (roots sv) (pts.flatMap trs)) : ∀ p ∈ nv, p.xs.length ≤ 100000 ∧ p.ks.length ≤ 3 ∧ (p.o = 5 → p.xs = [] ∧ p.ks = []) ∧ p.o ≠ 7 := by
 intro p hp
 obtain ⟨q, hq⟩ := List.mem_iff_getElem?.1 hp
 have hql := (List.getElem?_eq_some_iff.1 hq).1
 have hk := hts.node q p (by omega) hql hq
 have hn := (fieldsU_iff hk).1 (hP.2.2.2.1 p hp)
 have h3 := kidsF_le p.o
 have hl : kidsF p.o = 0 → p.xs.length ≤ 100000 ∧ (p.o = 5 → p.xs = []) ∧ p.o ≠ 7 := fun h0 => by
  have h := hn.1 h0
  unfold leafU at h
  by_cases e5 : p.o = 5
  ·rw [if_pos e5] at h
   exact ⟨by rw [h.2.2]; simp, fun _ => h.2.2, by omega⟩
  ·rw [if_neg e5] at h
   have ho := cOK_o h.1
   refine ⟨?_, fun q => absurd q e5, by omega⟩
   rcases h.1 with ⟨_, _, e⟩ | ⟨_, _, _, e⟩ | ⟨_, _, _, e⟩ | ⟨_, _, _, e⟩
   ·rw [e]; simp
   ·rw [e]; simp
   ·rw [e]; simp
   ·have := e.2.2; omega
 have k7 : kidsF 7 = 0 := by decide
 have k5 : kidsF 5 = 0 := by decide
 by_cases h0 : kidsF p.o = 0
 ·obtain ⟨a, b, c⟩ := hl h0
  exact ⟨a, by omega, fun e => ⟨b e, List.eq_nil_of_length_eq_zero (by omega)⟩, c⟩
 ·have h1 : 1 ≤ kidsF p.o := by omega
  have := (hn.2 h1).2.2
  exact ⟨by rw [this]; simp, by omega, fun e => absurd (e ▸ k5) h0, fun e => absurd (e ▸ k7) h0⟩
theorem OT.typ {B : Nat} {w : World} {A A2 A3 : Option Addr} {n c n2 c2 n3 c3 : Nat} {vs : List VN} {sv : List PS} {tyl : List Int} (h : OT B w A n c A2 n2 c2 A3 n3 c3 vs sv tyl) (hsm : ∀ v ∈ vs, v.p.tx.size ≤ 9223372036854775807 ∧ ∀ u ∈ v.p.xs, u.size ≤ 9223372036854775807) (hst : ∀ s ∈ sv, s.nm.size ≤ 9223372036854775807) :
  TypR w A n A2 n2 A3 n3 c3 (vs.map (·.p)) sv tyl :=
 ⟨⟨⟨vs, rfl, h.nd.len cN_len (by omega), h.nd.row.cells, fun v hv => ⟨(hsm v hv).1, (h.nd.sub v hv ⟨v.A0, v.m0, v.c0, 9, v.p.xs.map .string⟩ (by simp [sbNode])).strs (hsm v hv).2, (h.nd.sub v hv ⟨v.A1, v.m1, v.c1, 3, v.p.ks.map (.int .i64)⟩ (by simp [sbNode])).ints⟩⟩,
  ⟨sv, rfl, by have := h.st.len; rw [fl_len cS_len] at this; omega, h.st.cells, fun v hv => ⟨hst v hv⟩⟩⟩, h.ty.ints⟩
theorem typ_nil (w : World) : TypR w none 0 none 0 none 0 0 [] [] [] := ⟨⟨⟨[], rfl, rfl, by simp [Cells], by simp⟩, ⟨[], rfl, rfl, by simp [Cells], by simp⟩⟩, ints_nil w⟩
theorem fIFau0 : Fld Tryz.prog 33 0 0 := ⟨by kernel_rfl⟩
theorem run_bTy2 (T : Option Addr) (n c : Nat) (w : World) : (Instr.build 31 #[(2, .slice T n c)]).run Tryz.prog w = .ok (.agg #[.slice none 0 0, .slice none 0 0, .slice T n c]) w := by kernel_rfl
theorem cells_wr {B : Nat} {e : TypeId} {k : Nat} {w w' : World} {q : Addr} {vs xs : List Value} {A : Option Addr} (hq : Own B e k w (some q) 1 1 vs) (hne : ∀ v ∈ vs, v ∉ xs) (hw : Wr (some q) w w') (h : Cells w A xs) : Cells w' A xs := by
 refine ⟨h.1, fun a ha j v hv => ?_⟩
 have hc := h.2 a ha j v hv
 obtain ⟨gb, rfl, _, hlt⟩ := hq.form
 by_cases e : (a.add j).block = gb
 ·exfalso
  rcases hq.2 with ⟨h1, _⟩ | ⟨g, cap, cur, h1, h2, h3, h4, h5, h6, h7⟩
  ·cases h1
  ·simp only [Value.slice.injEq, Option.some.injEq, Addr.mk.injEq, and_true, true_and] at h1
   obtain ⟨rfl, rfl⟩ := h1
   unfold World.cell? at hc
   rw [e, h3] at hc
   simp only at hc
   split at hc
   ·cases hc
   ·have hm : v ∈ cur.toList := by
     rw [← Array.getElem?_toList] at hc
     exact m1_ hc
    rw [g3_ (by rw [Array.length_toList]; omega)] at h7
    exact hne v (h7 ▸ hm) (m1_ hv)
 ·have hb := hw.block _ (World.block_lt_of_cell? w _ hc) (by intro q; cases q; exact e rfl)
  unfold World.cell? at hc ⊢
  rw [hb]; exact hc
theorem cells_same {B : Nat} {e : TypeId} {k : Nat} {w w' : World} {q : Addr} {vs xs : List Value} {A : Option Addr} (hq : Own B e k w (some q) 1 1 vs) (hq' : Own B e k w' (some q) 1 1 vs) (hw : Wr (some q) w w') (h : Cells w A xs) : Cells w' A xs := by
 refine ⟨h.1, fun a ha j v hv => ?_⟩
 have hc := h.2 a ha j v hv
 obtain ⟨gb, rfl, _, hlt⟩ := hq.form
 have one : ∀ {w : World}, Own B e k w (some ⟨gb, 0, none⟩) 1 1 vs → w.heap[gb]? = some (Obj.cells ⟨vs⟩ e) := fun {w} hq => by
  rcases hq.2 with ⟨h1, _⟩ | ⟨g, cap, cur, h1, h2, h3, h4, h5, h6, h7⟩
  ·cases h1
  ·simp only [Value.slice.injEq, Option.some.injEq, Addr.mk.injEq, and_true, true_and] at h1
   obtain ⟨rfl, rfl⟩ := h1
   rw [g3_ (by rw [Array.length_toList]; omega)] at h7
   rw [h3, ← h7]
 by_cases e : (a.add j).block = gb
 ·unfold World.cell? at hc ⊢
  rw [e, one hq] at hc
  rw [e, one hq']
  exact hc
 ·have hb := hw.block _ (World.block_lt_of_cell? w _ hc) (by intro q; cases q; exact e rfl)
  unfold World.cell? at hc ⊢
  rw [hb]; exact hc
theorem Ints.wrX {B : Nat} {e : TypeId} {k : Nat} {w w' : World} {q : Addr} {vs : List Value} {A : Option Addr} {n c : Nat} {zs : List Int} (hq : Own B e k w (some q) 1 1 vs) (hne : ∀ v ∈ vs, ∀ z : Int, v ≠ .int .i64 z) (hw : Wr (some q) w w') (h : Ints w A n c zs) : Ints w' A n c zs :=
 ⟨h.len, h.le, h.cap, cells_wr hq (fun v hv q => by obtain ⟨z, _, e⟩ := List.mem_map.1 q; exact hne v hv z e.symm) hw h.cells⟩
theorem Wr.up {w0 w w' : World} {X A : Option Addr} (h : Wr X w0 w) (k : Wr A w w') (hA : ∀ g, blk A = some g → w0.heap.size ≤ g) : Wr X w0 w' :=
 ⟨k.os.trans h.os, k.tape.trans h.tape, k.output.trans h.output, n2_ h.size k.size, fun i hi hn => by
  rw [k.block i (n3_ hi h.size) fun e => by have := hA i e.symm; omega]
  exact h.block i hi hn⟩
def SChk (nv : List PN) (sv : List PS) (v : Value) (w' : World) : Prop := ∃ A1 n1 c1 A2 n2 c2 A3 n3 c3 ns ss ts cd pl, v = .tuple ⟨[typV A1 n1 c1 A2 n2 c2 A3 n3 c3, .agg ⟨[.int .i64 cd, .int .i64 pl]⟩]⟩ ∧ TypR w' A1 n1 A2 n2 A3 n3 c3 ns ss ts ∧ ChkP nv sv ns ss ts cd pl
theorem specCheck_f {w : World} {A A2 : Option Addr} {n c n2 c2 : Nat} {nv : List PN} {sv : List PS} (h : PolR w A n A2 n2 nv sv) (hn : n ≤ 9223372036854775807) (hn2 : n2 ≤ 9223372036854775807) :
  FC Tryz.prog 8 [polV A n c A2 n2 c2] w (SChk nv sv) := by
 refine FC.intro (cs := []) Tryz.func8 (by kernel_rfl) fun E R hE hr hR => ?_
 have hln : nv.length = n := h.nodes.len
 have hls : sv.length = n2 := h.stmts.len
 conv => cbv
 refine st_box hr fun a w1 hx hb0 => ?_
 have hb := hb0 _ (n1_ _)
 clear hb0
 conv => cbv
 refine st_alloc hr tITyp rfl fun q2 w2 hx2 hq0 => ?_
 have hq2 := hq0 _ hx.size
 replace hb := hb.bel hx2
 replace hx := hx.trans hx2
 clear hq0 hx2
 conv => cbv
 refine st_alloc hr tIFau rfl fun q3 w3 hx3 hq0 => ?_
 have hq3 := hq0 _ hx.size
 have a23 := (hq2.apart (hq0 _ (n1_ _)) (n1_ _))
 replace hb := hb.bel hx3
 replace hq2 := hq2.bel hx3
 replace hx := hx.trans hx3
 clear hq0 hx3
 conv => cbv
 refine st_loadS hE tIPol rfl hb.at ?_
 conv => cbv
 refine st_f hr (specValidPolicy_f (c := c) (c2 := c2) (h.ext hx) hn hn2) fun v w4 hx4 ⟨b, ev, hbP⟩ => ?_
 subst ev
 replace hb := hb.bel hx4
 replace hq2 := hq2.bel hx4
 replace hq3 := hq3.bel hx4
 replace hx := hx.trans hx4
 clear hx4
 cases b with
 | false =>
  conv => cbv
  refine st_bTy0 hE ?_
  conv => cbv
  refine st_bFc hE ?_
  conv => cbv
  refine st_putS hr (by kernel_rfl) hq2 (add_zero _).symm (by simp) (by simp [Value.oneCell']) fun w5 hw5 hb5 => ?_
  simp only [a1_, a2_, a3_, a4_, a5_, a6_, a7_] at hb5
  replace hq3 := hq3.wr hw5 a23.2
  replace hx := hx.then (hw5.bel hq2 hx.size)
  conv => cbv
  refine st_putS hr (by kernel_rfl) hq3 (add_zero _).symm (by simp) (by simp [Value.oneCell']) fun w6 hw6 hb6 => ?_
  simp only [a1_, a2_, a3_, a4_, a5_, a6_, a7_] at hb6
  replace hb5 := hb5.wr hw6 a23.1
  replace hx := hx.then (hw6.bel hq3 hx.size)
  conv => cbv
  refine st_cell hr tITyp rfl hb5.at ?_
  refine st_cell hr tIFau rfl hb6.at ?_
  rw [hR]
  exact ⟨hx, none, 0, 0, none, 0, 0, none, 0, 0, [], [], [], 10, 0, rfl, typ_nil _, .inl ⟨fun q => absurd (hbP.2 q) Bool.false_ne_true, rfl, rfl, rfl, rfl, rfl⟩⟩
 | true =>
 have hP := hbP.1 rfl
 clear hbP
 obtain ⟨_, _, _, acc, hrun⟩ := policyU_iff.1 hP
 obtain ⟨pts, p1, p2, p3, p4, p5⟩ := runS_full leafU_6 leafU_7 sv hrun
 rw [a2_] at p1
 subst p1
 have nbd := nodes_bd hP p3
 have hn4 := hP.1
 have hs6 := hP.2.2.1
 have hs1 := hP.2.1
 have hst : ∀ s ∈ sv, s.nm.size ≤ 9223372036854775807 := fun s hs => by
  obtain ⟨j, hj⟩ := List.mem_iff_getElem?.1 hs
  exact stmtP_nm (hP.2.2.2.2.1 j s hj)
 conv => cbv
 (refine st_fld hE fIPol0 fun p hp => ?_; (conv => cbv); refine st_load hE cINs (by rw [hp]; exact (hb).at _ _ rfl) ?_; (conv => cbv))
 (refine st_fld hE fIPol1 fun p hp => ?_; (conv => cbv); refine st_load hE cISs (by rw [hp]; exact (hb).at _ _ rfl) ?_; (conv => cbv))
 refine st_f hr (l3check_f (cN' := c) (c2 := c2) (h.ext hx) (by omega) (by omega) (fun p hp h7 => absurd h7 (nbd p hp).2.2.2) hP.2.2.2.2.1 p2 (by rw [← hln]; exact p3)) fun v w5 hx5 hv => ?_
 replace hb := hb.bel hx5
 replace hq2 := hq2.bel hx5
 replace hq3 := hq3.bel hx5
 replace hx := hx.trans hx5
 clear hx5
 cases hck : ckS (sv.zip acc) ⟨[], [], []⟩ with
 | inl f =>
  rw [hck] at hv
  obtain ⟨rfl, hf⟩ := hv
  obtain ⟨f1, f2⟩ := f
  simp only at hf
  conv => cbv
  refine st_alloc hr tIFau rfl fun q6 w6 hx6 hq0 => ?_
  have hq6 := hq0 _ hx.size
  have a26 := (hq2.apart (hq0 _ (n1_ _)) (n1_ _))
  have a36 := (hq3.apart (hq0 _ (n1_ _)) (n1_ _))
  clear hq0
  replace hq2 := hq2.bel hx6
  replace hq3 := hq3.bel hx6
  replace hx := hx.trans hx6
  clear hx6
  conv => cbv
  refine st_putS hr (by kernel_rfl) hq6 (add_zero _).symm (by simp) (by simp [Value.oneCell']) fun w7 hw7 hb6 => ?_
  simp only [a1_, a2_, a3_, a4_, a5_, a6_, a7_] at hb6
  replace hq2 := hq2.wr hw7 a26.1
  replace hq3 := hq3.wr hw7 a36.1
  replace hx := hx.then (hw7.bel hq6 hx.size)
  clear hw7 hq6
  conv => cbv
  (refine st_fld hE fIFau0 fun p hp => ?_; (conv => cbv); refine st_load hE cInt (by rw [hp]; exact (hb6).at _ _ rfl) ?_; (conv => cbv))
  refine br (fun _ => ?_) (fun g => absurd (show E.cmp .neq f1 0 = true by rw [hE.cmp]; simpa [cmpR] using hf) g)
  conv => cbv
  refine draw_s (fun w1 => ∀ i u, ([.int .i64 f1, .int .i64 f2] : List Value)[i]? = some u → w1.cell? (q6.add i) = some u) [0, 1] [(2, false), (3, false)] hr fol (by kernel_rfl) (fun w1 hs => (hb6.bel hs.ext).at) fun E' hE' w9 hs9 => ?_
  have x9 := hs9.ext
  replace hq2 := hq2.bel x9
  replace hq3 := hq3.bel x9
  replace hb6 := hb6.bel x9
  replace hx := hx.trans x9
  conv => cbv
  refine sw_det hE' (v := .agg ⟨[.slice none 0 0, .slice none 0 0, .slice none 0 0]⟩) (fun w1 ρ hρ => ?_) ?_
  ·have := run_bTy0 w1
   simp [execOp, this]
  conv => cbv
  refine sw_loadS hE' tIFau (vs := [.int .i64 f1, .int .i64 f2]) rfl (fun w1 h1 => h1) ?_
  conv => cbv
  refine st_putS hr (by kernel_rfl) hq2 (add_zero _).symm (by simp) (by simp [Value.oneCell']) fun wa hwa hb5 => ?_
  simp only [a1_, a2_, a3_, a4_, a5_, a6_, a7_] at hb5
  replace hq3 := hq3.wr hwa a23.2
  replace hb6 := hb6.wr hwa a26.2
  replace hx := hx.then (hwa.bel hq2 hx.size)
  refine ⟨hb6.at, ?_⟩
  conv => cbv
  refine st_putS hr (by kernel_rfl) hq3 (add_zero _).symm (by simp) (by simp [Value.oneCell']) fun wb hwb hb7 => ?_
  simp only [a1_, a2_, a3_, a4_, a5_, a6_, a7_] at hb7
  replace hb5 := hb5.wr hwb a23.1
  replace hb6 := hb6.wr hwb a36.2
  replace hx := hx.then (hwb.bel hq3 hx.size)
  refine ⟨hb6.at, ?_⟩
  conv => cbv
  refine st_cell hr tITyp rfl hb5.at ?_
  refine st_cell hr tIFau rfl hb7.at ?_
  rw [hR]
  refine ⟨hx, none, 0, 0, none, 0, 0, none, 0, 0, [], [], [], f1, f2, rfl, typ_nil _, .inr ⟨hP, acc, p2, p3, ?_⟩⟩
  rw [hck]
  exact ⟨rfl, rfl, rfl, rfl, rfl⟩
 | inr x =>
  rw [hck] at hv
  obtain ⟨T, tc, pl, rfl, hTI, hLets⟩ := hv
  obtain ⟨tn, htn⟩ : ∃ tn, tn = x.acc.length := ⟨_, rfl⟩
  rw [← htn] at hTI ⊢
  have hnm := names_ok p2 p3 hck rfl
  conv => cbv
  refine st_alloc hr tIFau rfl fun q6 w6 hx6 hq0 => ?_
  have hq6 := hq0 _ (n1_ _)
  clear hq0
  conv => cbv
  refine st_putS hr (by kernel_rfl) hq6 (add_zero _).symm (by simp) (by simp [Value.oneCell']) fun w7 hw7 hb6 => ?_
  simp only [a1_, a2_, a3_, a4_, a5_, a6_, a7_] at hb6
  have hx57 := hx6.then (hw7.bel hq6 hx6.size)
  clear hw7 hq6 hx6
  conv => cbv
  (refine st_fld hE fIFau0 fun p hp => ?_; (conv => cbv); refine st_load hE cInt (by rw [hp]; exact (hb6).at _ _ rfl) ?_; (conv => cbv))
  refine br (fun g => absurd g (show ¬ E.cmp .neq 0 0 = true by rw [hE.cmp]; simp [cmpR])) (fun _ => ?_)
  conv => cbv
  refine hE.det (v := .agg ⟨[.slice none 0 0, .slice none 0 0, .slice T tn tc]⟩) (fun w1 _ ρ hρ => ?_) ?_
  ·simp only [opnds, b2_, b3_, b1_, and_true] at hρ
   have := run_bTy2 T tn tc w1
   simp [execOp, hρ, this]
  conv => cbv
  refine st_alloc hr tITyp rfl fun q7 w8 hx8 hq0 => ?_
  have hq7 := hq0 _ hx57.size
  clear hq0
  replace hx57 := hx57.trans hx8
  clear hx8 hb6
  conv => cbv
  refine st_putS hr (by kernel_rfl) hq7 (add_zero _).symm (by simp) (by simp [Value.oneCell']) fun w9 hw9 hb7 => ?_
  simp only [a1_, a2_, a3_, a4_, a5_, a6_, a7_] at hb7
  replace hx57 := hx57.then (hw9.bel hq7 hx57.size)
  clear hw9 hq7
  obtain ⟨ss, hsp, hsl, hsc, hsk⟩ := (h.ext hx).stmts
  rw [hsp] at hsl hsc
  conv => cbv
  (refine st_fld hE fITyp1 fun p hp => ?_; (conv => cbv); refine st_load hE cISs (by rw [hp]; exact (hb7).at _ _ rfl) ?_; (conv => cbv))
  (refine st_fld hE fIPol1 fun p hp => ?_; (conv => cbv); refine st_load hE cISs (by rw [hp]; exact ((hb.bel hx57)).at _ _ rfl) ?_; (conv => cbv))
  refine st_appsKG hr sISd rfl (by omega) (Own.nil (B := w9.heap.size) (e := 155) (k := 4) (w := w9)) (hsc.ext hx57) (by rw [fl_len cS_len]; omega) (by omega) (by intro u hu; obtain ⟨s, _, hs⟩ := List.mem_flatMap.1 hu; simp [cS] at hs; rcases hs with rfl | rfl | rfl | rfl <;> rfl) (n1_ _) (by omega) (by omega) fun O oc m7 wa hm7 hwa hO _ => ?_
  rw [Nat.zero_add] at hm7
  rw [hm7] at hO ⊢
  rw [a2_] at hO
  have hxa : Ext w9 wa := (Ext.refl _).then (hwa.bel (Own.nil (B := w9.heap.size) (e := 155) (k := 4) (w := w9)) (n1_ _))
  have dOq := (hb7.apart hO (n1_ _))
  have hO5 := hO.mono hx57.size
  have hb7a := hb7.bel hxa
  replace hx57 := hx57.trans hxa
  clear hxa hwa
  conv => cbv
  (refine st_fld hE fITyp1 fun p hp => ?_; (conv => cbv); refine st_put hr zISs hb7a hp (by simp) rfl fun wn hw hq9 => ?_; (simp only [b4_, b5_] at hq9); clear hp)
  have hb7n := hq9
  clear hq9
  replace hO5 := hO5.wr hw dOq.2
  have hx57b := hx57.then (hw.bel hb7a hx57.size)
  clear hw hb7 hb7a hO hx57
  conv => cbv
  (refine st_fld hE fIPol0 fun p hp => ?_; (conv => cbv); refine st_load hE cINs (by rw [hp]; exact ((hb.bel hx57b)).at _ _ rfl) ?_; (conv => cbv))
  refine st_len hE sINd fun x1 hx1 => ?_
  have l57 := hx57b.size
  have l7 : ∀ g, blk (some q7) = some g → w5.heap.size ≤ g ∧ g < wn.heap.size := fun g hg => own_blk hb7n g hg
  conv => cbv
  refine loop_rulec [19] hr (fun (s : Nat × Int × Option Addr × Nat × List VN) w' => s.1 ≤ n ∧ s.2.1 = (s.1 : Int) ∧ s.2.2.2.2.map (·.p) = (nv.take s.1).map (fixN x.names) ∧ Wr (some q7) wn w' ∧ Ext w5 w' ∧ Box w5.heap.size 31 3 w' q7 [.slice s.2.2.1 s.1 s.2.2.2.1, .slice O n2 oc, .slice T tn tc] ∧ RO 90 5 cN sbNode wn.heap.size w' s.2.2.1 s.1 s.2.2.2.1 s.2.2.2.2 ∧ (∀ v ∈ s.2.2.2.2, v.p.tx.size ≤ 9223372036854775807 ∧ ∀ u ∈ v.p.xs, u.size ≤ 9223372036854775807))
   (fun s => [(1, .pointer (some a)), (2, .pointer (some q2)), (3, .pointer (some q3)), (5, .pointer (some pl)), (7, .pointer (some q7)), (39, .slice A n c), (40, .int .i64 x1), (41, .int .i64 s.2.1)]) (fun s => n - s.1) (0, 0, none, 0, [])
   (by simp [Fits, lk]) ⟨by simp, by simp, by simp, Wr.refl _ _, hx57b, hb7n, ⟨Own.nil, by simp, ⟨by simp, by simp, by simp⟩⟩, by simp⟩ ?_
  rintro I hI ⟨i, ii, A1, c1, ys⟩ w' ⟨hi, hii, hyp, hwr, hxw, hb7, hRO, hsm⟩
  simp only at hi hii hyp hwr hxw hb7 hRO hsm
  obtain ⟨ii', hii'⟩ : ∃ z, z = ii + 1 := ⟨_, rfl⟩
  have hyl : ys.length = i := hRO.len cN_len (by omega)
  have hwx := hx.trans hxw
  conv => cbv
  refine br (fun g2 => ?_) (fun g2 => ?_)
  ·have g2 : i < n := by
    have : ii < x1 := by simpa [hE.cmp, cmpR] using g2
    omega
   have ei : E.ar .add .i64 ii 1 = ii' := by rw [hE.ar, hii']; exact wrap_in (by omega) (by omega)
   obtain ⟨aN, v, hAN, hg, hc, hok⟩ := ((h.ext hwx).nodes).get g2
   obtain ⟨⟨o, z, tx, xs, ks⟩, X0, m0, e0, X1, m1, e1⟩ := v
   simp only at hg
   obtain ⟨nb1, nb2, nb3, nb4⟩ := nbd _ (m1_ hg)
   simp only at nb1 nb2 nb3 nb4
   have hb_xs : m0 ≤ 1048576 := by have := hok.r_xs.len; simp only at this; omega
   have hb_ks : m1 ≤ 1048576 := by have := hok.r_ks.len; simp only at this; omega
   have htx := hok.s_tx
   have hxsm := hok.r_xs.small
   simp only at htx hxsm
   conv => cbv
   refine st_idx hE sINd hAN (by omega) (by omega) fun q hq => ?_
   rw [show ii.toNat = i by omega] at hq
   conv => cbv
   refine st_loadS hE tINd (vs := [.int .i64 o, .int .i64 z, .string tx, .slice X0 m0 e0, .slice X1 m1 e1]) rfl (by rw [hq]; exact hc) ?_
   clear hq hc
   conv => cbv
   refine st_alloc hr tINd rfl fun q9 w10 hx10 hq0 => ?_
   conv => cbv
   refine st_putS hr (by kernel_rfl) (hq0 _ (n1_ _)) (add_zero _).symm (by simp) (by simp [Value.oneCell']) fun w11 hw11 hb9 => ?_
   simp only [a1_, a2_, a3_, a4_, a5_, a6_, a7_] at hb9
   have xw := hx10.then (hw11.bel (hq0 _ (n1_ _)) hx10.size)
   clear hq0 hw11 hx10
   conv => cbv
   refine st_loadS hE tINd rfl hb9.at ?_
   conv => cbv
   refine st_f hr (l3copy_f ⟨⟨o, z, tx, xs, ks⟩, X0, m0, e0, X1, m1, e1⟩ (hok.ext xw) hb_xs hb_ks) fun u w12 hx12 ⟨C0, k0, d0, C1, k1, d1, ev, ox, ok, djk⟩ => ?_
   subst ev
   simp only at ox ok ⊢
   replace ox := ox.mono xw.size
   replace ok := ok.mono xw.size
   replace hb9 := hb9.bel hx12
   replace xw := xw.trans hx12
   clear hx12
   conv => cbv
   refine st_alloc hr tINd rfl fun q10 w13 hx13 hq0 => ?_
   have hb10 := hq0 _ xw.size
   have a9 := (hb9.apart (hq0 _ (n1_ _)) (n1_ _))
   have d0' : Dj C0 (some q10) := dj_new ox (hq0 _ (n1_ _)) (n1_ _)
   have d1' : Dj C1 (some q10) := dj_new ok (hq0 _ (n1_ _)) (n1_ _)
   clear hq0
   replace ox := ox.bel hx13
   replace ok := ok.bel hx13
   replace hb9 := hb9.bel hx13
   replace xw := xw.trans hx13
   clear hx13
   conv => cbv
   refine st_putS hr (by kernel_rfl) hb10 (add_zero _).symm (by simp) (by simp [Value.oneCell']) fun w14 hw14 hq9 => ?_
   simp only [a1_, a2_, a3_, a4_, a5_, a6_, a7_] at hq9
   replace ox := ox.wr hw14 (dj_apart ox d0')
   replace ok := ok.wr hw14 (dj_apart ok d1')
   replace hb9 := hb9.wr hw14 a9.1
   replace xw := xw.then (hw14.bel hb10 xw.size)
   replace hb10 := hq9
   clear hw14 hq9
   conv => cbv
   refine cut_rule [] [] hr (fun (s : Int × Int × ByteArray) w6 => Ext w' w6 ∧ Box w'.heap.size 90 5 w6 q10 [.int .i64 s.1, .int .i64 s.2.1, .string s.2.2, .slice C0 k0 d0, .slice C1 k1 d1] ∧ fixN x.names ⟨o, z, tx, xs, ks⟩ = ⟨s.1, s.2.1, s.2.2, xs, ks⟩ ∧ Own w'.heap.size 9 1 w6 C0 k0 d0 (xs.map .string) ∧ Own w'.heap.size 3 1 w6 C1 k1 d1 (ks.map (.int .i64)) ∧ s.2.2.size ≤ 9223372036854775807)
    (fun _ => [(1, .pointer (some a)), (2, .pointer (some q2)), (3, .pointer (some q3)), (5, .pointer (some pl)), (7, .pointer (some q7)), (10, .pointer (some q10)), (39, .slice A n c), (40, .int .i64 x1), (41, .int .i64 ii)]) (fun J hJ => ?_) ?_
   ·conv => cbv
    (refine st_fld hE fINd0 fun p hp => ?_; (conv => cbv); refine st_load hE cInt (by rw [hp]; exact (hb9).at _ _ rfl) ?_; (conv => cbv))
    refine br (fun g5 => ?_) (fun g5 => ?_)
    ·have o5 : o = 5 := by simpa [hE.cmp, cmpR] using g5
     have hns := hnm i _ (by omega) (by omega) hg o5
     obtain ⟨nx, nk⟩ := nb3 o5
     simp only at hns
     conv => cbv
     (refine st_fld hE fINd2 fun p hp => ?_; (conv => cbv); refine st_put hr zStr hb10 hp (by simp) rfl fun wn hw hq9 => ?_; (simp only [b4_, b5_] at hq9); clear hp; replace ox := ox.wr hw (dj_apart ox d0'); replace ok := ok.wr hw (dj_apart ok d1'); replace hb9 := hb9.wr hw a9.1; replace xw := xw.then (hw.bel hb10 xw.size); replace hb10 := hq9; clear hw hq9; (conv => cbv))
     (refine st_fld hE fINd0 fun p hp => ?_; (conv => cbv); refine st_put hr zInt hb10 hp (by simp) rfl fun wn hw hq9 => ?_; (simp only [b4_, b5_] at hq9); clear hp; replace ox := ox.wr hw (dj_apart ox d0'); replace ok := ok.wr hw (dj_apart ok d1'); replace hb9 := hb9.wr hw a9.1; replace xw := xw.then (hw.bel hb10 xw.size); replace hb10 := hq9; clear hw hq9; (conv => cbv))
     (refine st_fld hE fINd2 fun p hp => ?_; (conv => cbv); refine st_load hE cStr (by rw [hp]; exact (hb9).at _ _ rfl) ?_; (conv => cbv))
     obtain ⟨pa, hpa⟩ : ∃ pa, pa = posI attrs tx := ⟨_, rfl⟩
     have la := l3attr_f tx wn
     rw [← hpa] at la
     refine st_f hr la fun v w20 hx20 ev => ?_
     subst ev
     replace ox := ox.bel hx20
     replace ok := ok.bel hx20
     replace hb9 := hb9.bel hx20
     replace hb10 := hb10.bel hx20
     replace xw := xw.trans hx20
     clear hx20 la
     conv => cbv
     (refine st_fld hE fINd1 fun p hp => ?_; (conv => cbv); refine st_put hr zI64 hb10 hp (by simp) rfl fun wn hw hq9 => ?_; (simp only [b4_, b5_] at hq9); clear hp; replace ox := ox.wr hw (dj_apart ox d0'); replace ok := ok.wr hw (dj_apart ok d1'); replace hb9 := hb9.wr hw a9.1; replace xw := xw.then (hw.bel hb10 xw.size); replace hb10 := hq9; clear hw hq9; (conv => cbv))
     (refine st_fld hE fINd1 fun p hp => ?_; (conv => cbv); refine st_load hE cI64 (by rw [hp]; exact (hb10).at _ _ rfl) ?_; (conv => cbv))
     cases hpf : posF attrs tx with
     | some k =>
      have ek : pa = (k : Int) := by rw [hpa]; unfold posI; rw [hpf]
      refine br (fun g => absurd (show pa < 0 by simpa [hE.cmp, cmpR] using g) (by omega)) (fun _ => ?_)
      conv => cbv
      refine ⟨(6, pa, ⟨#[]⟩), by simp [Fits, lk], hJ _ _ ⟨xw, hb10, ?_, ox, ok, by simp [ByteArray.size]⟩⟩
      unfold fixN
      rw [if_pos o5, resN_att hpf, nx, nk, ek]
     | none =>
      have ek : pa = -1 := by rw [hpa]; unfold posI; rw [hpf]
      refine br (fun _ => ?_) (fun g => absurd (show E.cmp .lss pa 0 = true by rw [hE.cmp, ek]; simp [cmpR]) g)
      conv => cbv
      (refine st_fld hE fINd0 fun p hp => ?_; (conv => cbv); refine st_put hr zInt hb10 hp (by simp) rfl fun wn hw hq9 => ?_; (simp only [b4_, b5_] at hq9); clear hp; replace ox := ox.wr hw (dj_apart ox d0'); replace ok := ok.wr hw (dj_apart ok d1'); replace hb9 := hb9.wr hw a9.1; replace xw := xw.then (hw.bel hb10 xw.size); replace hb10 := hq9; clear hw hq9; (conv => cbv))
      (refine st_fld hE fINd2 fun p hp => ?_; (conv => cbv); refine st_load hE cStr (by rw [hp]; exact (hb9).at _ _ rfl) ?_; (conv => cbv))
      cases hpn : posF x.names tx with
      | none => rw [resN_none hpf hpn] at hns; cases hns
      | some k =>
      obtain ⟨pb, hpb⟩ : ∃ pb, pb = posI x.names tx := ⟨_, rfl⟩
      have lb := find_f (hLets.ext (hxw.trans xw)) tx
      rw [← hpb] at lb
      have ek2 : pb = (k : Int) := by rw [hpb]; unfold posI; rw [hpn]
      refine st_f hr lb fun v w21 hx21 ev => ?_
      subst ev
      replace ox := ox.bel hx21
      replace ok := ok.bel hx21
      replace hb9 := hb9.bel hx21
      replace hb10 := hb10.bel hx21
      replace xw := xw.trans hx21
      clear hx21 lb
      conv => cbv
      (refine st_fld hE fINd1 fun p hp => ?_; (conv => cbv); refine st_put hr zI64 hb10 hp (by simp) rfl fun wn hw hq9 => ?_; (simp only [b4_, b5_] at hq9); clear hp; replace ox := ox.wr hw (dj_apart ox d0'); replace ok := ok.wr hw (dj_apart ok d1'); replace hb9 := hb9.wr hw a9.1; replace xw := xw.then (hw.bel hb10 xw.size); replace hb10 := hq9; clear hw hq9; (conv => cbv))
      refine ⟨(7, pb, ⟨#[]⟩), by simp [Fits, lk], hJ _ _ ⟨xw, hb10, ?_, ox, ok, by simp [ByteArray.size]⟩⟩
      unfold fixN
      rw [if_pos o5, resN_lt hpf hpn, nx, nk, ek2]
    ·have o5 : o ≠ 5 := fun e => g5 (show E.cmp .eql o 5 = true by rw [hE.cmp, e]; simp [cmpR])
     conv => cbv
     refine ⟨(o, z, tx), by simp [Fits, lk], hJ _ _ ⟨xw, hb10, ?_, ox, ok, htx⟩⟩
     unfold fixN
     rw [if_neg o5]
   ·rintro ⟨y0, y1, y2⟩ w6 ⟨xw, hb10, hfx, ox, ok, hty⟩
    simp only at hb10 hfx hty
    have hRO0 := hRO
    replace hRO := hRO.ext xw
    replace hb7 := hb7.bel xw
    have s0 := hwr.size
    replace hwr := hwr.trans (xw.wr _)
    have s6 := xw.size
    have s00 := hRO0.row
    conv => cbv
    (refine st_fld hE fITyp0 fun p hp => ?_; (conv => cbv); refine st_load hE cINs (by rw [hp]; exact (hb7).at _ _ rfl) ?_; (conv => cbv))
    refine st_loadS hE tINd rfl hb10.at ?_
    conv => cbv
    refine st_oneS hr sINd rfl (by omega) (by omega) rfl fun A6 w7 hx7 hc6 => ?_
    replace hRO := hRO.ext hx7
    replace hb7 := hb7.bel hx7
    replace hwr := hwr.trans (hx7.wr _)
    replace ox := ox.bel hx7
    replace ok := ok.bel hx7
    replace xw := xw.trans hx7
    conv => cbv
    refine st_appsKG hr sINd rfl (by omega) hRO.row hc6 rfl (by omega) (by simp [Value.oneCell']) hwr.size (by omega) (by omega) fun A7 c7 m7 w8 hm7 hw8 ho8 hk8 => ?_
    rw [hm7]
    obtain ⟨y, hy⟩ : ∃ y : VN, y = ⟨⟨y0, y1, y2, xs, ks⟩, C0, k0, d0, C1, k1, d1⟩ := ⟨_, rfl⟩
    have e5 : ys.flatMap cN ++ cN y = (ys ++ [y]).flatMap cN := by simp
    have hgro : Gro w7 A1 w8 A7 := ⟨hw8, hk8.imp id fun e => ⟨_, e, n1_ _⟩⟩
    rw [hm7] at ho8
    have ho8' : Own wn.heap.size 90 5 w8 A7 (i + 1) c7 ((ys ++ [y]).flatMap cN) := by rw [← e5, hy]; exact ho8
    have oxn := ox.mono s0
    have okn := ok.mono s0
    have lA1 : ∀ g, blk A1 = some g → wn.heap.size ≤ g := fun g hg => (own_blk s00 g hg).1
    have hRO8 := hRO.snoc (y := y) hgro ho8' (by
     intro s hs
     rw [hy] at hs
     simp [sbNode] at hs
     rcases hs with rfl | rfl
     ·exact oxn
     ·exact okn) (by
     intro a ha
     rw [hy] at ha
     simp [adr, sbNode] at ha
     rcases ha with rfl | rfl
     ·exact dj_new s00 ox (n1_ _)
     ·exact dj_new s00 ok (n1_ _)) (by rw [hy]; simp [adr, sbNode]; exact djk) (by
     intro v hv a ha b hb
     obtain ⟨s, hs, rfl⟩ := List.mem_map.1 ha
     rw [hy] at hb
     simp [adr, sbNode] at hb
     rcases hb with rfl | rfl
     ·exact dj_new (hRO0.sub v hv s hs) ox (n1_ _)
     ·exact dj_new (hRO0.sub v hv s hs) ok (n1_ _))
    replace hb7 := hb7.wr hw8 (dj_apart hb7 fun g h1 h2 => by have := l7 g h1; have := lA1 g h2; omega)
    replace hwr := Wr.up hwr hw8 lA1
    have hx8 := (hxw.trans xw).then (hw8.bel (hRO.row.mono l57) (by have := hwr.size; have := xw.size; omega))
    clear hw8 hk8 ho8 hRO
    conv => cbv
    (refine st_fld hE fITyp0 fun p hp => ?_; (conv => cbv); refine st_put hr zINs hb7 hp (by simp) rfl fun wn hw hq9 => ?_; (simp only [b4_, b5_] at hq9); clear hp)
    have hx9 := hx8.then (hw.bel hb7 hx8.size)
    have hRO9 := hRO8.wr hw fun r hr g h1 h2 => by have := l7 g h1; have := (hRO8.lo r hr g h2).1; omega
    have hwr9 := hwr.trans hw
    obtain ⟨i', hi'⟩ : ∃ z, z = i + 1 := ⟨_, rfl⟩
    conv => cbv
    simp only [ei]
    refine ⟨(i + 1, ii', A7, c7, ys ++ [y]), by simp [Fits, lk], hI _ _ ⟨by simp only; omega, by simp only; omega, ?_, hwr9, hx9, hq9, hRO9, ?_⟩, by simp only; omega⟩
    ·simp only
     rw [List.map_append, hyp, g4_, hg, List.map_append]
     simp [hfx, hy]
    ·intro v hv
     rcases List.mem_append.1 hv with hv | hv
     ·exact hsm v hv
     ·simp at hv; subst hv; rw [hy]
      exact ⟨hty, hxsm⟩
  ·have g2 : i = n := by
    have : ¬ ii < x1 := by simpa [hE.cmp, cmpR] using g2
    omega
   rw [g2] at hb7 hRO hyp
   rw [g3_ (by omega)] at hyp
   have hq2' := hq2.bel hxw
   have hq3' := hq3.bel hxw
   have l2 : ∀ g, blk (some q2) = some g → g < w5.heap.size := fun g hg => (own_blk hq2 g hg).2
   have l3 : ∀ g, blk (some q3) = some g → g < w5.heap.size := fun g hg => (own_blk hq3 g hg).2
   have hO' := hO5.wr hwr dOq.2
   have hT' := hTI.ext hxw
   conv => cbv
   refine st_loadS hE tITyp rfl hb7.at ?_
   conv => cbv
   refine st_bFl0 hE ?_
   conv => cbv
   refine st_putS hr (by kernel_rfl) hq2' (add_zero _).symm (by simp [zTyp]) (by simp [Value.oneCell']) fun wb hwb hb5 => ?_
   simp only [zTyp, a1_, a2_, a3_, a4_, a5_, a6_, a7_] at hb5
   replace hT' := Ints.wrX hq2' (by intro v hv z; simp [zTyp] at hv; subst hv; simp) hwb hT'
   replace hRO := hRO.wr hwb fun r hr g h1 h2 => by have := l2 g h1; have := (hRO.lo r hr g h2).1; omega
   replace hO' := hO'.wr hwb (dj_apart hO' fun g h1 h2 => by have := l2 g h2; have := (own_blk hO' g h1).1; omega)
   replace hq3' := hq3'.wr hwb a23.2
   replace hwx := hwx.then (hwb.bel hq2' hwx.size)
   conv => cbv
   refine st_putS hr (by kernel_rfl) hq3' (add_zero _).symm (by simp) (by simp [Value.oneCell']) fun wc hwc hb6 => ?_
   simp only [a1_, a2_, a3_, a4_, a5_, a6_, a7_] at hb6
   replace hT' : Ints wc T tn tc x.acc := ⟨hT'.len, hT'.le, hT'.cap, cells_same hq3' hb6 hwc hT'.cells⟩
   replace hRO := hRO.wr hwc fun r hr g h1 h2 => by have := l3 g h1; have := (hRO.lo r hr g h2).1; omega
   replace hO' := hO'.wr hwc (dj_apart hO' fun g h1 h2 => by have := l3 g h2; have := (own_blk hO' g h1).1; omega)
   replace hb5 := hb5.wr hwc a23.1
   replace hwx := hwx.then (hwc.bel hq3' hwx.size)
   conv => cbv
   refine st_cell hr tITyp rfl hb5.at ?_
   refine st_cell hr tIFau rfl hb6.at ?_
   rw [hR]
   refine ⟨hwx, A1, n, c1, O, n2, oc, T, tn, tc, nv.map (fixN x.names), sv, x.acc, 0, 0, rfl, ⟨⟨⟨ys, hyp, hRO.len cN_len (by omega), hRO.row.cells, fun v hv => ⟨(hsm v hv).1, (hRO.sub v hv ⟨v.A0, v.m0, v.c0, 9, v.p.xs.map .string⟩ (by simp [sbNode])).strs (hsm v hv).2, (hRO.sub v hv ⟨v.A1, v.m1, v.c1, 3, v.p.ks.map (.int .i64)⟩ (by simp [sbNode])).ints⟩⟩, ⟨sv, rfl, hls, hO'.cells, fun v hv => ⟨hst v hv⟩⟩⟩, hT'⟩, .inr ⟨hP, acc, p2, p3, ?_⟩⟩
   rw [hck]
   exact ⟨rfl, rfl, rfl, rfl, rfl⟩
structure OP (B : Nat) (w : World) (A : Option Addr) (n c : Nat) (A2 : Option Addr) (n2 c2 : Nat) (vs : List VN) (sv : List PS) : Prop where
 nd : RO 90 5 cN sbNode B w A n c vs
 st : Own B 155 4 w A2 n2 c2 (sv.flatMap cS)
 d12 : ∀ r ∈ roA sbNode A vs, Dj r A2
def opA (A A2 : Option Addr) (vs : List VN) : List (Option Addr) := roA sbNode A vs ++ [A2]
def opC (vs : List VN) (sv : List PS) : Nat := ctL ctNode vs + ctL ctStmt sv
theorem OP.ext {B : Nat} {w w' : World} {A A2 : Option Addr} {n c n2 c2 : Nat} {vs : List VN} {sv : List PS} (h : OP B w A n c A2 n2 c2 vs sv) (hx : Ext w w') : OP B w' A n c A2 n2 c2 vs sv := ⟨h.nd.ext hx, h.st.bel hx, h.d12⟩
theorem OP.lo {B : Nat} {w : World} {A A2 : Option Addr} {n c n2 c2 : Nat} {vs : List VN} {sv : List PS} (h : OP B w A n c A2 n2 c2 vs sv) : ∀ r ∈ opA A A2 vs, ∀ g, blk r = some g → B ≤ g ∧ g < w.heap.size := fun r hr g hg => by
 rcases List.mem_append.1 hr with hr | hr
 ·exact h.nd.lo r hr g hg
 ·simp at hr; subst hr; exact own_blk h.st g hg
theorem toPolicyO_f {w : World} {A A2 : Option Addr} {n c n2 c2 : Nat} {nv : List PN} {sv : List PS} (h : PolR w A n A2 n2 nv sv) (hw : wtNs nv + wtSs sv ≤ 1048576) :
  FC Tryz.prog 9 [polV A n c A2 n2 c2] w fun v w' => ∃ A1 c1 A4 c4 vs, v = polV A1 n c1 A4 n2 c4 ∧ vs.map (·.p) = nv ∧ OP w.heap.size w' A1 n c1 A4 n2 c4 vs sv ∧ PolR w' A1 n A4 n2 nv sv := by
 refine FC.intro (cs := []) Tryz.func9 (by kernel_rfl) fun E R hE hr hR => ?_
 obtain ⟨b1, b2, b3⟩ := wt_b (nv := nv) (by omega)
 have b4 := wtSs_len sv
 have hl1 := h.nodes.len
 have hl2 := h.stmts.len
 conv => cbv
 refine st_box hr fun a w1 hx hb0 => ?_
 have hb := hb0 _ (n1_ _)
 conv => cbv
 refine st_alloc hr tIPol rfl fun o w2 hx2 ho0 => ?_
 have ho := ho0 _ hx.size
 have hb := hb.bel hx2
 have hx := hx.trans hx2
 conv => cbv
 refine st_alloc hr tIPol rfl fun q w3 hx3 hq0 => ?_
 have hq := hq0 _ hx.size
 have aq := (hb.apart (hq0 _ (n1_ _)) (n1_ _)).1
 have oq := (ho.apart (hq0 _ (n1_ _)) (n1_ _)).1
 have o0 := ho
 have hso := hx3.size
 have hb := hb.bel hx3
 have ho := ho.bel hx3
 have hx := hx.trans hx3
 clear hb0 ho0 hq0
 conv => cbv
 (refine st_fld hE fLPol0 fun p hp => ?_; (conv => cbv); refine st_load hE cLNs (by rw [hp]; exact (hb).at _ _ rfl) ?_; (conv => cbv))
 refine st_f hr (toNodeSO_f (h.nodes.ext hx) (by omega) b2 b3) fun v w4 hx4 ⟨A4, c4, vs4, ev, hv4, r4, h4⟩ => ?_
 subst ev
 have hs4 := hx4.size
 have hx03 := hx.size
 have q0 := hq
 replace hb := hb.bel hx4
 replace ho := ho.bel hx4
 replace hq := hq.bel hx4
 replace hx := hx.trans hx4
 conv => cbv
 refine st_fld hE fIPol0 fun p hp => ?_
 conv => cbv
 refine st_put hr zINs hq hp (by simp) rfl fun wm hwm hq2 => ?_
 replace hx := hx.then (hwm.bel hq hx.size)
 have y4 : Above w3.heap.size w4 wm := hwm.above q0 (n1_ _)
 simp only [b4_, b5_] at hq2
 replace hq := hq2
 replace hb := hb.wr hwm aq
 replace ho := ho.wr hwm oq
 have hsz : w3.heap.size ≤ wm.heap.size := n2_ hs4 y4.size
 conv => cbv
 (refine st_fld hE fLPol1 fun p hp => ?_; (conv => cbv); refine st_load hE cLSs (by rw [hp]; exact (hb).at _ _ rfl) ?_; (conv => cbv))
 refine st_f hr (toStmtSO_f (h.stmts.ext hx) (by omega)) fun v w6 hx6 ⟨A6, c6, ev, r6, h6⟩ => ?_
 have d46 : ∀ r ∈ roA sbNode A4 vs4, Dj r A6 := fun r hr g hg e => by
  have := (r4.lo r hr g hg).2
  have := (own_blk r6 g e).1
  have := y4.size
  omega
 subst ev
 replace ho := ho.bel hx6
 replace hq := hq.bel hx6
 replace hx := hx.trans hx6
 replace y4 := y4.trans (hx6.above _)
 conv => cbv
 refine st_fld hE fIPol1 fun p2 hp2 => ?_
 conv => cbv
 refine st_put hr zISs hq hp2 (by simp) rfl fun w7 hw7 hq3 => ?_
 have y7 : Above w3.heap.size w6 w7 := hw7.above q0 (n1_ _)
 replace hx := hx.then (hw7.bel hq hx.size)
 replace ho := ho.wr hw7 oq
 simp only [b4_, b5_] at hq3
 replace y4 := y4.trans y7
 conv => cbv
 refine st_loadS hE tIPol rfl hq3.at ?_
 conv => cbv
 refine st_putS hr (by kernel_rfl) ho (add_zero _).symm (by simp) (by simp [Value.oneCell']) fun w8 hw8 ho8 => ?_
 simp only [a1_, a2_, a3_, a4_, a5_, a6_, a7_] at ho8
 have y8 : Above w3.heap.size w7 w8 := hw8.above o0 hso
 conv => cbv
 refine st_cell hr tIPol rfl ho8.at ?_
 rw [hR]; exact ⟨hx.then (hw8.bel ho hx.size), A4, c4, A6, c6, vs4, rfl, hv4, ⟨(r4.above (y4.trans y8)).low hx03, (r6.above ((y7.trans y8).mono hsz)).mono (n2_ hx03 hsz), d46⟩, ⟨h4 _ (y4.trans y8), h6 _ ((y7.trans y8).mono hsz)⟩⟩
theorem markPolicy_g {w : World} {B : Nat} {A A2 : Option Addr} {n c n2 c2 : Nat} {vs : List VN} {sv : List PS} (h : OP B w A n c A2 n2 c2 vs sv) (k : Int) (hk : 0 ≤ k) (hkn : k + opC vs sv < 9223372036854775807) :
  GC Tryz.prog 14 [polV A n c A2 n2 c2, .int .i64 k] w fun v w' => v = .int .i64 (k + opC vs sv) ∧ CSt w (opA A A2 vs) w' (opA A A2 vs) := by
 refine GC.intro (cs := []) Tryz.func14 (by kernel_rfl) fun E R hE hr hR => ?_
 have hkn' := hkn
 unfold opC at hkn'
 obtain ⟨k1, hk1⟩ : ∃ z : Int, z = k + ctL ctNode vs := ⟨_, rfl⟩
 obtain ⟨k2, hk2⟩ : ∃ z : Int, z = k1 + ctL ctStmt sv := ⟨_, rfl⟩
 conv => cbv
 refine st_box hr fun a w1 hx hb0 => ?_
 have hb := hb0 _ (n1_ _)
 clear hb0
 have hlo := h.lo
 have da : ∀ r ∈ opA A A2 vs, Dj r (some a) := fun r hr g hg e => by
  have := (hlo r hr g hg).2
  have := (own_blk hb g e).1
  omega
 replace h := h.ext hx
 conv => cbv
 (refine st_fld hE fIPol0 fun p hp => ?_; (conv => cbv); refine st_load hE cINs (by rw [hp]; exact (hb).at _ _ rfl) ?_; (conv => cbv))
 have m1 := markNodeS_g h.nd k hk (by omega)
 rw [← hk1] at m1
 refine st_g hr m1 fun v w2 ⟨ev, hn2, hc2⟩ => ?_
 subst ev
 have hC2 : CSt w1 (opA A A2 vs) w2 (opA A A2 vs) := hc2.weak fun x hx => List.mem_append_left _ hx
 have hb2 := (hC2.own hb da).1
 have st2 := (hc2.own h.st h.d12).1
 conv => cbv
 (refine st_fld hE fIPol1 fun p hp => ?_; (conv => cbv); refine st_load hE cISs (by rw [hp]; exact (hb2).at _ _ rfl) ?_; (conv => cbv))
 have m2 := markStmtS_g (ro_stmt st2) k1 (by omega) (by omega)
 rw [← hk2, roA_stmt] at m2
 refine st_g hr m2 fun v w3 ⟨ev, hs3, hc3⟩ => ?_
 subst ev
 have hC3 : CSt w2 (opA A A2 vs) w3 (opA A A2 vs) := hc3.weak fun x hx => by simp at hx; subst hx; simp [opA]
 conv => cbv
 rw [hR]
 refine ⟨?_, ((CSt.of_ext hx _).trans hC2).trans hC3⟩
 simp only [one, opC]; congr 1; push_cast; omega
theorem heldTyped_f {w : World} {B : Nat} {A A2 A3 : Option Addr} {n c n2 c2 n3 c3 : Nat} {vs : List VN} {sv : List PS} {k : Int} (h : OT B w A n c A2 n2 c2 A3 n3 c3 (mkL mkNode ctNode vs k) (mkL mkStmt ctStmt sv (k + ctL ctNode vs)) (imarks (k + ctL ctNode vs + ctL ctStmt sv) n3)) (hk : 0 ≤ k) (hkn : k + otK vs sv n3 < 9223372036854775807) :
  FC Tryz.prog 16 [typV A n c A2 n2 c2 A3 n3 c3, .int .i64 k] w fun v _ => v = .int .i64 (k + otK vs sv n3) := by
 refine FC.intro (cs := []) Tryz.func16 (by kernel_rfl) fun E R hE hr hR => ?_
 have hkn' := hkn
 unfold otK at hkn'
 obtain ⟨k1, hk1⟩ : ∃ z : Int, z = k + ctL ctNode vs := ⟨_, rfl⟩
 obtain ⟨k2, hk2⟩ : ∃ z : Int, z = k1 + ctL ctStmt sv := ⟨_, rfl⟩
 obtain ⟨k3, hk3⟩ : ∃ z : Int, z = k2 + n3 := ⟨_, rfl⟩
 rw [← hk1, ← hk2] at h
 conv => cbv
 refine st_box hr fun a w1 hx hb0 => ?_
 have hb := hb0 _ (n1_ _)
 clear hb0
 conv => cbv
 (refine st_fld hE fITyp0 fun p hp => ?_; (conv => cbv); refine st_load hE cINs (by rw [hp]; exact (hb).at _ _ rfl) ?_; (conv => cbv))
 have m1 := heldNodeS_f (h.ext hx).nd hk (by omega)
 rw [← hk1] at m1
 refine st_f hr m1 fun v w2 hx2 ev => ?_
 subst ev
 replace hb := hb.bel hx2
 replace hx := hx.trans hx2
 clear hx2
 conv => cbv
 refine br (fun g => absurd (show k1 < 0 by simpa [hE.cmp, cmpR] using g) (by omega)) (fun _ => ?_)
 conv => cbv
 (refine st_fld hE fITyp1 fun p hp => ?_; (conv => cbv); refine st_load hE cISs (by rw [hp]; exact (hb).at _ _ rfl) ?_; (conv => cbv))
 have m2 := heldStmtS_f (ro_stmt (h.ext hx).st) (by omega) (by omega)
 rw [← hk2] at m2
 refine st_f hr m2 fun v w3 hx3 ev => ?_
 subst ev
 replace hb := hb.bel hx3
 replace hx := hx.trans hx3
 clear hx3
 conv => cbv
 refine br (fun g => absurd (show k2 < 0 by simpa [hE.cmp, cmpR] using g) (by omega)) (fun _ => ?_)
 conv => cbv
 (refine st_fld hE fITyp2 fun p hp => ?_; (conv => cbv); refine st_load hE cInts (by rw [hp]; exact (hb).at _ _ rfl) ?_; (conv => cbv))
 have m3 := heldIntS_v (ints_of_own (h.ext hx).ty) (by omega) (by omega)
 rw [← hk3] at m3
 refine st_v hr m3 fun w4 hx4 => ?_
 conv => cbv
 refine br (fun g => absurd (show k3 < 0 by simpa [hE.cmp, cmpR] using g) (by omega)) (fun _ => ?_)
 conv => cbv
 rw [hR]
 refine ⟨hx.trans hx4, ?_⟩
 simp only [one, otK]; congr 1; push_cast; omega
theorem eqFault_f {w : World} {c a : Int} : FC Tryz.prog 12 [.agg ⟨[.int .i64 c, .int .i64 a]⟩, .agg ⟨[.int .i64 c, .int .i64 a]⟩] w fun v _ => v = .bool true := by
 refine FC.intro (cs := []) Tryz.func12 (by kernel_rfl) fun E R hE hr hR => ?_
 conv => cbv
 refine st_box hr fun q2 w1 hx1 h20 => ?_
 have h2 := h20 _ (n1_ _)
 conv => cbv
 refine st_box hr fun q3 w2 hx2 h30 => ?_
 have h3 := h30 _ (n1_ _)
 replace h2 := h2.bel hx2
 have hx := hx1.trans hx2
 conv => cbv
 (refine st_fld hE fFt0 fun p hp => ?_; (conv => cbv); refine st_load hE cInt (by rw [hp]; exact (h2).at _ _ rfl) ?_; (conv => cbv))
 (refine st_fld hE fFt0 fun p hp => ?_; (conv => cbv); refine st_load hE cInt (by rw [hp]; exact (h3).at _ _ rfl) ?_; (conv => cbv))
 refine br (fun g => absurd g (by simp [hE.cmp, cmpR])) (fun _ => ?_)
 conv => cbv
 (refine st_fld hE fFt1 fun p hp => ?_; (conv => cbv); refine st_load hE cInt (by rw [hp]; exact (h2).at _ _ rfl) ?_; (conv => cbv))
 (refine st_fld hE fFt1 fun p hp => ?_; (conv => cbv); refine st_load hE cInt (by rw [hp]; exact (h3).at _ _ rfl) ?_; (conv => cbv))
 refine br (fun g => absurd g (by simp [hE.cmp, cmpR])) (fun _ => ?_)
 conv => cbv
 rw [hR]; exact ⟨hx, rfl⟩
theorem ctL_bd3 {α : Type} {ct : α → Nat} {C : Nat} : ∀ (l : List α), (∀ v ∈ l, ct v ≤ C) → ctL ct l ≤ l.length * C
 | [], _ => by simp [ctL]
 | v :: l, h => by
  have h1 := h v (List.mem_cons_self ..)
  have h2 := ctL_bd3 l fun u hu => h u (List.mem_cons_of_mem _ hu)
  rw [ctL, a3_, Nat.add_mul]
  omega
theorem OT.otK_bd3 {B : Nat} {w : World} {A A2 A3 : Option Addr} {n c n2 c2 n3 c3 : Nat} {vs : List VN} {sv : List PS} {tyl : List Int} (h : OT B w A n c A2 n2 c2 A3 n3 c3 vs sv tyl) (hw : wtNs (vs.map (·.p)) + wtSs sv ≤ 1048576) (hw3 : tyl.length ≤ 1048576) : otK vs sv n3 ≤ 1000000000000000 := by
 obtain ⟨b1, b2, b3⟩ := wt_b (nv := vs.map (·.p)) (by omega)
 have b4 := wtSs_len sv
 have hl : vs.length ≤ 1048576 := by rw [List.length_map] at b1; exact b1
 have c1 := ctL_bd3 (ct := ctNode) (C := 3000000) vs fun v hv => by
  have hm := (h.nd.sub v hv ⟨v.A0, v.m0, v.c0, 9, v.p.xs.map .string⟩ (by simp [sbNode])).len
  have hm1 := (h.nd.sub v hv ⟨v.A1, v.m1, v.c1, 3, v.p.ks.map (.int .i64)⟩ (by simp [sbNode])).len
  simp only [List.length_map] at hm hm1
  have := b2 v.p (List.mem_map.2 ⟨v, hv, rfl⟩)
  have := b3 v.p (List.mem_map.2 ⟨v, hv, rfl⟩)
  unfold ctNode; omega
 have c2 := ctL_bd3 (ct := ctStmt) (C := 4) sv fun v hv => by unfold ctStmt; omega
 have c3 := h.ty.len
 rw [List.length_map] at c3
 have : vs.length * 3000000 ≤ 1048576 * 3000000 := Nat.mul_le_mul_right _ hl
 unfold otK; omega
theorem dj_bd3 {lo hi : Nat} {r X : Option Addr} (h1 : ∀ g, blk r = some g → lo ≤ g ∧ g < hi) (h2 : ∀ g, blk X = some g → g < lo ∨ hi ≤ g) : Dj r X := fun g hg e => by
 have := h1 g hg
 have := h2 g e
 omega
theorem wtN_fix (names : List ByteArray) (p : PN) : wtN (fixN names p) ≤ wtN p := by
 have e0 : (⟨#[]⟩ : ByteArray).size = 0 := rfl
 unfold fixN
 split
 ·split <;> simp [wtN, bulk, e0]
 ·exact n1_ _
theorem wtNs_fix (names : List ByteArray) : ∀ l : List PN, wtNs (l.map (fixN names)) ≤ wtNs l
 | [] => n1_ _
 | p :: l => by
  rw [b2_, wtNs, wtNs]
  have := wtN_fix names p
  have := wtNs_fix names l
  omega
theorem ChkP.bd {nv : List PN} {sv : List PS} {ns : List PN} {ss : List PS} {ts : List Int} {cd pl : Int} (h : ChkP nv sv ns ss ts cd pl) (hw : wtNs nv + wtSs sv ≤ 1048576) : wtNs ns + wtSs ss ≤ 1048576 ∧ ts.length ≤ 1048576 ∧ (∀ s ∈ ss, s.nm.size ≤ 9223372036854775807) := by
 have hsm : ∀ s ∈ sv, s.nm.size ≤ 9223372036854775807 := fun s hs => by
  have : ∀ l : List PS, s ∈ l → wtS s ≤ wtSs l := by
   intro l
   induction l with
   | nil => intro h; simp at h
   | cons u l ih =>
    intro h
    rw [wtSs]
    rcases List.mem_cons.1 h with rfl | h
    ·omega
    ·have := ih h; omega
  have := this sv hs
  unfold wtS at this
  omega
 rcases h with ⟨_, rfl, rfl, rfl, _⟩ | ⟨hP, pts, h1, h2, h3⟩
 ·simp [wtNs, wtSs]
 ·cases hc : ckS (sv.zip pts) ⟨[], [], []⟩ with
  | inl f =>
   rw [hc] at h3
   obtain ⟨rfl, rfl, rfl, _⟩ := h3
   simp [wtNs, wtSs]
  | inr x =>
   rw [hc] at h3
   obtain ⟨rfl, rfl, rfl, _⟩ := h3
   have := wtNs_fix x.names nv
   have := ck_len h1 h2 rfl hc
   have := hP.1
   exact ⟨by omega, by omega, hsm⟩
theorem OT.keepR {B : Nat} {w w' : World} {A A2 A3 : Option Addr} {n c n2 c2 n3 c3 : Nat} {vs : List VN} {sv : List PS} {tyl : List Int} (h : OT B w A n c A2 n2 c2 A3 n3 c3 vs sv tyl) {R : List (Option Addr)} (hc : CSt w R w' R) (hd : ∀ r ∈ R, ∀ a ∈ otA A A2 A3 vs, Dj r a) : OT B w' A n c A2 n2 c2 A3 n3 c3 vs sv tyl :=
 ⟨h.nd.keepR hc fun r hr a ha => hd r hr a (by unfold otA; exact List.mem_append_left _ ha), (hc.own h.st fun r hr => hd r hr _ (by simp [otA])).1, (hc.own h.ty fun r hr => hd r hr _ (by simp [otA])).1, h.d12, h.d13, h.d23⟩
theorem OP.opC_bd {B : Nat} {w : World} {A A2 : Option Addr} {n c n2 c2 : Nat} {vs : List VN} {sv : List PS} (h : OP B w A n c A2 n2 c2 vs sv) (hw : wtNs (vs.map (·.p)) + wtSs sv ≤ 1048576) : opC vs sv ≤ 1000000000000000 := by
 have h' : OT B w A n c A2 n2 c2 none 0 0 vs sv [] := ⟨h.nd, h.st, Own.nil, h.d12, fun r hr => dj_none _, dj_none _⟩
 have := h'.otK_bd3 hw (by simp)
 unfold otK at this
 unfold opC
 omega
theorem lawCheck {A A2 : Option Addr} {n c n2 c2 : Nat} {nv : List PN} {sv : List PS} (w : World) (hT0 : STab w 4 words ∧ Tab w 6 constF ∧ ErrTy w) (h : PolR w A n A2 n2 nv sv) (hn : n ≤ 9223372036854775807) (hn2 : n2 ≤ 9223372036854775807) :
  Law Tryz.prog 3 [polV A n c A2 n2 c2] w := by
 obtain ⟨hR0, hT, hEr⟩ := hT0
 refine FC.intro (cs := []) Tryz.func3 (by kernel_rfl) fun E R hE hr hR => ?_
 have en : ∀ z : Int, ¬ E.cmp .neq z z = true := fun z => by rw [hE.cmp]; simp [cmpR]
 conv => cbv
 refine st_box hr fun a w1 hx hb0 => ?_
 have hb := hb0 _ (n1_ _)
 clear hb0
 conv => cbv
 refine st_loadS hE tLPol rfl hb.at ?_
 conv => cbv
 refine st_f hr (szPolicy_f (c := c) (c2 := c2) (h.ext hx) hn hn2) fun v w2 hx2 ⟨r, ev, hsz⟩ => ?_
 subst ev
 replace hb := hb.bel hx2
 replace hx := hx.trans hx2
 clear hx2
 conv => cbv
 refine br (fun g => ?_) (fun g => ?_)
 ·conv => cbv
  rw [hR]; exact ⟨hx, rfl⟩
 have g : 0 ≤ r := by simpa [hE.cmp, cmpR] using g
 have hwt := hsz g
 conv => cbv
 refine st_loadS hE tLPol rfl hb.at ?_
 conv => cbv
 refine st_f hr (toPolicy_f (c := c) (c2 := c2) (h.ext hx) hwt) fun v w3 hx3 ⟨A3, c3, A4, c4, ev, h3⟩ => ?_
 subst ev
 replace hb := hb.bel hx3
 replace hx := hx.trans hx3
 clear hx3
 conv => cbv
 refine st_f hr (specCheck_f (c := c3) (c2 := c4) h3 hn hn2) fun v w4 hx4 ⟨X1, m1, e1, X2, m2, e2, X3, m3, e3, ns, ss, ts, cd, pl, ev, hS, hcp⟩ => ?_
 subst ev
 replace hb := hb.bel hx4
 replace hx := hx.trans hx4
 clear hx4 h3
 obtain ⟨bd1, bd2, bd3⟩ := hcp.bd hwt
 have ln1 := hS.pol.nodes.len
 have ln2 := hS.pol.stmts.len
 have ln3 := hS.tys.len
 have ln4 := wtNs_len ns
 have ln5 := wtSs_len ss
 conv => cbv
 refine st_alloc hr tITyp rfl fun q4 w5 hx5 hq0 => ?_
 have hq4 := hq0 _ (n1_ _)
 clear hq0
 conv => cbv
 refine st_alloc hr tIFau rfl fun q5 w6 hx6 hq0 => ?_
 have hq5 := hq0 _ hx5.size
 have a45 := (hq4.apart (hq0 _ (n1_ _)) (n1_ _))
 clear hq0
 replace hq4 := hq4.bel hx6
 have hs := hx5.trans hx6
 clear hx5 hx6
 conv => cbv
 refine st_putS hr (by kernel_rfl) hq4 (add_zero _).symm (by simp) (by simp [Value.oneCell']) fun w7 hw7 hb4 => ?_
 simp only [a1_, a2_, a3_, a4_, a5_, a6_, a7_] at hb4
 replace hq5 := hq5.wr hw7 a45.2
 replace hs := hs.then (hw7.bel hq4 hs.size)
 clear hw7 hq4
 conv => cbv
 refine st_putS hr (by kernel_rfl) hq5 (add_zero _).symm (by simp) (by simp [Value.oneCell']) fun w8 hw8 hb5 => ?_
 simp only [a1_, a2_, a3_, a4_, a5_, a6_, a7_] at hb5
 replace hb4 := hb4.wr hw8 a45.1
 replace hs := hs.then (hw8.bel hq5 hs.size)
 clear hw8 hq5
 replace hb := hb.bel hs
 replace hx := hx.trans hs
 replace hS := hS.ext hs
 clear hs
 conv => cbv
 refine st_loadS hE tLPol rfl hb.at ?_
 conv => cbv
 refine st_f hr (toPolicyO_f (c := c) (c2 := c2) (h.ext hx) hwt) fun v w9 hx9 ⟨P1, d1, P2, d2, vs, ev, hvs, hOP, hPR⟩ => ?_
 subst ev
 have lP := hOP.lo
 conv => cbv
 refine st_alloc hr tIPol rfl fun q6 w10 hx10 hq0 => ?_
 have hq6 := hq0 _ hx9.size
 have f6 := hq0 _ (n1_ _)
 clear hq0
 conv => cbv
 refine st_putS hr (by kernel_rfl) hq6 (add_zero _).symm (by simp) (by simp [Value.oneCell']) fun w11 hw11 hb6 => ?_
 simp only [a1_, a2_, a3_, a4_, a5_, a6_, a7_] at hb6
 have hx11 := hx10.then (hw11.bel f6 hx10.size)
 have hs := hx9.trans hx11
 replace hOP := hOP.ext hx11
 replace hPR := hPR.ext hx11
 have s9 := hx9.size
 have s10 := hx11.size
 have b6 : ∀ g, blk (some q6) = some g → w9.heap.size ≤ g ∧ g < w11.heap.size := fun g hg => ⟨(own_blk f6 g hg).1, (own_blk hb6 g hg).2⟩
 clear hx9 hx10 hw11 f6 hq6 hx11
 conv => cbv
 refine st_loadS hE tIPol rfl hb6.at ?_
 conv => cbv
 refine st_f hr (implCheck_f (c := d1) (c2 := d2) (hT.ext (hx.trans hs)) (hR0.ext (hx.trans hs)) (hEr.ext (hx.trans hs)) hPR hn hn2) fun v w12 hx12 ⟨Y1, k1, g1, Y2, k2, g2, Y3, k3, g3, ys, ss', ts', cd', pl', ev, hOT, hys, hcp'⟩ => ?_
 subst ev
 obtain ⟨eN, rfl, rfl, rfl, rfl⟩ := hcp'.unique hcp
 have hTY := hOT.typ hys bd3
 rw [eN] at hTY
 have hk1 := hTY.pol.nodes.len
 have hk2 := hTY.pol.stmts.len
 have hk3 := hTY.tys.len
 obtain rfl : k1 = m1 := by omega
 obtain rfl : k2 = m2 := by omega
 obtain rfl : k3 = m3 := by omega
 have lO := hOT.lo
 replace hb6 := hb6.bel hx12
 replace hOP := hOP.ext hx12
 replace hPR := hPR.ext hx12
 replace hs := hs.trans hx12
 have s11 := hx12.size
 clear hx12
 conv => cbv
 refine st_alloc hr tITyp rfl fun q7 w13 hx13 hq0 => ?_
 have hq7 := hq0 _ hs.size
 have f7 := hq0 _ (n1_ _)
 clear hq0
 conv => cbv
 refine st_alloc hr tIFau rfl fun q8 w14 hx14 hq0 => ?_
 have hq8 := hq0 _ (by have := hs.size; have := hx13.size; omega : w8.heap.size ≤ w13.heap.size)
 have f8 := hq0 _ hx13.size
 have a78 := (hq7.apart (hq0 _ (n1_ _)) (n1_ _))
 clear hq0
 replace hq7 := hq7.bel hx14
 replace f7 := f7.bel hx14
 have h1t := hx13.trans hx14
 clear hx13 hx14
 conv => cbv
 refine st_putS hr (by kernel_rfl) hq7 (add_zero _).symm (by simp) (by simp [Value.oneCell']) fun w15 hw15 hb7 => ?_
 simp only [a1_, a2_, a3_, a4_, a5_, a6_, a7_] at hb7
 replace hq8 := hq8.wr hw15 a78.2
 replace f8 := f8.wr hw15 a78.2
 replace h1t := h1t.then (hw15.bel f7 h1t.size)
 clear hw15 hq7
 conv => cbv
 refine st_putS hr (by kernel_rfl) hq8 (add_zero _).symm (by simp) (by simp [Value.oneCell']) fun w16 hw16 hb8 => ?_
 simp only [a1_, a2_, a3_, a4_, a5_, a6_, a7_] at hb8
 replace hb7 := hb7.wr hw16 a78.1
 replace h1t := h1t.then (hw16.bel f8 h1t.size)
 have b7 : ∀ g, blk (some q7) = some g → w12.heap.size ≤ g := fun g hg => (own_blk f7 g hg).1
 have b8 : ∀ g, blk (some q8) = some g → w12.heap.size ≤ g := fun g hg => (own_blk f8 g hg).1
 clear hw16 hq8 f7 f8
 replace hb6 := hb6.bel h1t
 replace hOP := hOP.ext h1t
 replace hPR := hPR.ext h1t
 replace hOT := hOT.ext h1t
 replace hTY := hTY.ext h1t
 replace hs := hs.trans h1t
 clear h1t
 have eqt : ∀ {wz : World}, Ext w8 wz → TypR wz Y1 k1 Y2 k2 Y3 k3 g3 ns ss' ts' → FC Tryz.prog 11 [typV Y1 k1 g1 Y2 k2 g2 Y3 k3 g3, typV X1 k1 e1 X2 k2 e2 X3 k3 e3] wz fun v _ => v = .bool true := fun hz k => eqTyped_f k (hS.ext hz) (by omega) (by omega)
 conv => cbv
 refine st_loadS hE tITyp rfl hb7.at ?_
 conv => cbv
 refine st_loadS hE tITyp rfl (hb4.bel hs).at ?_
 conv => cbv
 refine st_f hr (eqt hs hTY) fun v w17 hx17 ev => ?_
 subst ev
 replace hb6 := hb6.bel hx17
 replace hb7 := hb7.bel hx17
 replace hb8 := hb8.bel hx17
 replace hOP := hOP.ext hx17
 replace hPR := hPR.ext hx17
 replace hOT := hOT.ext hx17
 replace hs := hs.trans hx17
 clear hx17
 conv => cbv
 refine st_loadS hE tIFau rfl hb8.at ?_
 conv => cbv
 refine st_loadS hE tIFau rfl (hb5.bel hs).at ?_
 conv => cbv
 refine st_f hr eqFault_f fun v w18 hx18 ev => ?_
 subst ev
 replace hb6 := hb6.bel hx18
 replace hb7 := hb7.bel hx18
 replace hb8 := hb8.bel hx18
 replace hOP := hOP.ext hx18
 replace hPR := hPR.ext hx18
 replace hOT := hOT.ext hx18
 replace hs := hs.trans hx18
 clear hx18
 conv => cbv
 refine draw_h [0, 1] [(2, false), (3, false), (4, true)] hr fol (by kernel_rfl) fun E' hE' w19 hs19 S hSS => ?_
 have x19 := hs19.ext
 replace hb6 := hb6.bel x19
 replace hb7 := hb7.bel x19
 replace hb8 := hb8.bel x19
 replace hOP := hOP.ext x19
 replace hPR := hPR.ext x19
 replace hOT := hOT.ext x19
 replace hs := hs.trans x19
 clear x19
 conv => cbv
 refine st_loadS hE' tIPol rfl hb6.at ?_
 conv => cbv
 refine st_loadS hE' tLPol rfl (hb.bel hs).at ?_
 conv => cbv
 refine st_f hr (toPolicy_f (c := c) (c2 := c2) (h.ext (hx.trans hs)) hwt) fun v w20 hx20 ⟨Z1, z1, Z2, z2, ev, h7⟩ => ?_
 subst ev
 refine ⟨hSS _ hx20, ?_⟩
 conv => cbv
 refine st_f hr (eqPolicy_f (c := d1) (c2 := d2) (c3 := z1) (c4 := z2) (hPR.ext hx20) h7 hn hn2) fun v w21 hx21 ev => ?_
 subst ev
 have x21 := hx20.trans hx21
 refine ⟨hSS _ x21, ?_⟩
 replace hb6 := hb6.bel x21
 replace hb7 := hb7.bel x21
 replace hb8 := hb8.bel x21
 replace hOP := hOP.ext x21
 replace hOT := hOT.ext x21
 replace hs := hs.trans x21
 clear x21 hx20 hx21 h7 hPR
 conv => cbv
 refine st_loadS hE tIPol rfl hb6.at ?_
 have kb := hOP.opC_bd (by rw [hvs]; exact hwt)
 have mt := markPolicy_g hOP 1 (by omega) (by omega)
 obtain ⟨k, hk⟩ : ∃ z : Int, z = 1 + opC vs sv := ⟨_, rfl⟩
 rw [← hk] at mt
 conv => cbv
 refine st_g hr mt fun v w22 ⟨ev, hC⟩ => ?_
 subst ev
 have dP : ∀ {X : Option Addr}, (∀ g, blk X = some g → w9.heap.size ≤ g) → ∀ r ∈ opA P1 P2 vs, Dj r X := fun h2 r hr => dj_bd3 (lP r hr) fun g hg => .inr (h2 g hg)
 replace hb7 := (hC.own hb7 (dP fun g hg => by have := b7 g hg; omega)).1
 replace hb8 := (hC.own hb8 (dP fun g hg => by have := b8 g hg; omega)).1
 replace hOT := hOT.keepR hC fun r hr a ha => dP (fun g hg => by have := lO a ha g hg; omega) r hr
 replace hs := hC.ext0 hs fun r hr g hg => (lP r hr g hg).1
 clear hb6 hOP hC mt
 have hTY := hOT.typ hys bd3
 rw [eN] at hTY
 conv => cbv
 refine br (fun g => absurd (show k < 0 by simpa [hE.cmp, cmpR] using g) (by omega)) (fun _ => ?_)
 conv => cbv
 refine st_loadS hE tITyp rfl hb7.at ?_
 conv => cbv
 refine st_loadS hE tITyp rfl (hb4.bel hs).at ?_
 conv => cbv
 refine st_f hr (eqt hs hTY) fun v w23 hx23 ev => ?_
 subst ev
 replace hb7 := hb7.bel hx23
 replace hb8 := hb8.bel hx23
 replace hOT := hOT.ext hx23
 replace hs := hs.trans hx23
 clear hx23 hTY
 conv => cbv
 refine st_loadS hE tIFau rfl hb8.at ?_
 conv => cbv
 refine st_loadS hE tIFau rfl (hb5.bel hs).at ?_
 conv => cbv
 refine st_f hr eqFault_f fun v w24 hx24 ev => ?_
 subst ev
 replace hb7 := hb7.bel hx24
 replace hOT := hOT.ext hx24
 replace hs := hs.trans hx24
 clear hx24 hb8
 conv => cbv
 refine st_loadS hE tITyp rfl hb7.at ?_
 have ob := hOT.otK_bd3 (by rw [eN]; exact bd1) bd2
 have mt := markTyped_g hOT 1 (by omega) (by omega)
 obtain ⟨m, hm⟩ : ∃ z : Int, z = 1 + otK ys ss' k3 := ⟨_, rfl⟩
 rw [← hm] at mt
 conv => cbv
 refine st_g hr mt fun v w25 ⟨ev, hMT, hC⟩ => ?_
 subst ev
 have hlq : ∀ g, blk (some q7) = some g → w12.heap.size ≤ g := b7
 replace hb7 := (hC.own hb7 fun r hr => dj_bd3 (lO r hr) fun g hg => .inr (hlq g hg)).1
 replace hs := hC.ext0 hs fun r hr g hg => by have := lO r hr g hg; omega
 clear hC mt
 conv => cbv
 refine st_loadS hE tITyp rfl hb7.at ?_
 have hd1 := heldTyped_f hMT (by omega) (by omega)
 rw [← hm] at hd1
 conv => cbv
 refine st_f hr hd1 fun v w26 hx26 ev => ?_
 subst ev
 replace hb7 := hb7.bel hx26
 replace hMT := hMT.ext hx26
 replace hs := hs.trans hx26
 clear hx26 hd1
 conv => cbv
 refine br (fun g => absurd (show m < 0 by simpa [hE.cmp, cmpR] using g) (by omega)) (fun _ => ?_)
 conv => cbv
 refine br (fun q => absurd q (en _)) (fun _ => ?_)
 conv => cbv
 refine st_loadS hE tLPol rfl (hb.bel hs).at ?_
 conv => cbv
 refine st_f hr (toPolicy_f (c := c) (c2 := c2) (h.ext (hx.trans hs)) hwt) fun v w27 hx27 ⟨Z3, z3, Z4, z4, ev, h8⟩ => ?_
 subst ev
 replace hb7 := hb7.bel hx27
 replace hMT := hMT.ext hx27
 replace hs := hs.trans hx27
 clear hx27
 conv => cbv
 refine st_f hr (implCheck_f (c := z3) (c2 := z4) (hT.ext (hx.trans hs)) (hR0.ext (hx.trans hs)) (hEr.ext (hx.trans hs)) h8 hn hn2) fun v w28 hx28 ⟨V1, v1, u1, V2, v2, u2, V3, v3, u3, zs, ss2, ts2, cd2, pl2, ev, hOT2, hzs, hcp2⟩ => ?_
 subst ev
 obtain ⟨eN2, rfl, rfl, rfl, rfl⟩ := hcp2.unique hcp
 have hTY2 := hOT2.typ hzs bd3
 rw [eN2] at hTY2
 have hk1 := hTY2.pol.nodes.len
 have hk2 := hTY2.pol.stmts.len
 have hk3 := hTY2.tys.len
 obtain rfl : v1 = k1 := by omega
 obtain rfl : v2 = k2 := by omega
 obtain rfl : v3 = k3 := by omega
 replace hb7 := hb7.bel hx28
 replace hMT := hMT.ext hx28
 replace hs := hs.trans hx28
 clear hx28 h8 hOT2
 conv => cbv
 refine st_alloc hr tITyp rfl fun q12 w29 hx29 hq0 => ?_
 have f12 := hq0 _ (n1_ _)
 have a7 := (hb7.apart f12 (n1_ _)).1
 clear hq0
 replace hb7 := hb7.bel hx29
 conv => cbv
 refine st_alloc hr tIFau rfl fun q13 w30 hx30 hq0 => ?_
 have f13 := hq0 _ hx29.size
 have a123 := (f12.apart (hq0 _ (n1_ _)) (n1_ _))
 have a73 := (hb7.apart (hq0 _ (n1_ _)) (n1_ _)).1
 clear hq0
 replace f12 := f12.bel hx30
 have h1t := hx29.trans hx30
 replace hb7 := hb7.bel hx30
 conv => cbv
 refine st_putS hr (by kernel_rfl) f12 (add_zero _).symm (by simp) (by simp [Value.oneCell']) fun w31 hw31 hb12 => ?_
 simp only [a1_, a2_, a3_, a4_, a5_, a6_, a7_] at hb12
 replace f13 := f13.wr hw31 a123.2
 replace hb7 := hb7.wr hw31 a7
 replace h1t := h1t.then (hw31.bel f12 h1t.size)
 conv => cbv
 refine st_putS hr (by kernel_rfl) f13 (add_zero _).symm (by simp) (by simp [Value.oneCell']) fun w32 hw32 hb13 => ?_
 simp only [a1_, a2_, a3_, a4_, a5_, a6_, a7_] at hb13
 replace hb12 := hb12.wr hw32 a123.1
 replace hb7 := hb7.wr hw32 a73
 replace h1t := h1t.then (hw32.bel f13 h1t.size)
 replace hMT := hMT.ext h1t
 replace hTY2 := hTY2.ext h1t
 replace hs := hs.trans h1t
 clear h1t hw31 hw32 hx29 hx30
 conv => cbv
 refine st_loadS hE tITyp rfl hb12.at ?_
 conv => cbv
 refine st_loadS hE tITyp rfl (hb4.bel hs).at ?_
 conv => cbv
 refine st_f hr (eqTyped_f hTY2 (hS.ext hs) (by omega) (by omega)) fun v w33 hx33 ev => ?_
 subst ev
 replace hb7 := hb7.bel hx33
 replace hb13 := hb13.bel hx33
 replace hMT := hMT.ext hx33
 replace hs := hs.trans hx33
 clear hx33
 conv => cbv
 refine st_loadS hE tIFau rfl hb13.at ?_
 conv => cbv
 refine st_loadS hE tIFau rfl (hb5.bel hs).at ?_
 conv => cbv
 refine st_f hr eqFault_f fun v w34 hx34 ev => ?_
 subst ev
 replace hb7 := hb7.bel hx34
 replace hMT := hMT.ext hx34
 replace hs := hs.trans hx34
 clear hx34
 conv => cbv
 refine st_loadS hE tITyp rfl hb7.at ?_
 have hd1 := heldTyped_f hMT (by omega) (by omega)
 rw [← hm] at hd1
 conv => cbv
 refine st_f hr hd1 fun v w35 hx35 ev => ?_
 subst ev
 conv => cbv
 refine br (fun g => absurd (show m < 0 by simpa [hE.cmp, cmpR] using g) (by omega)) (fun _ => ?_)
 conv => cbv
 refine br (fun q => absurd q (en _)) (fun _ => ?_)
 conv => cbv
 rw [hR]; exact ⟨(hx.trans hs).trans hx35, rfl⟩
set_option maxRecDepth 100000
theorem named_error : ((List.range Tryz.prog.types.size).all fun t => !(Tryz.prog.rowNamed t [101, 114, 114, 111, 114]) || t == 99) = true := by kernel_rfl
theorem errTy_of {W : World} (h : handlesMet Tryz.prog [("errors.errorType", Rows.laid_errors_errorType)] W) : ErrTy W := by
 obtain ⟨name, u, ty, h1, h2, h3, h4, h5⟩ := h _ (List.mem_cons_self ..)
 have e1 : name = [101, 114, 114, 111, 114] := Option.some.inj (h1.symm.trans (show DataW.handleName? (Rows.laid_errors_errorType (H := Unit)) = some [101, 114, 114, 111, 114] by kernel_rfl))
 subst e1
 have e2 : u = 279 := Option.some.inj (h2.symm.trans (by kernel_rfl))
 subst e2
 have e3 := List.all_eq_true.1 named_error ty (List.mem_range.2 h3)
 rw [h4] at e3
 have e3 : ty = 99 := by simpa using e3
 subst e3
 have hc : W.cell? ⟨0, 0, none⟩ = some (.iface 279 (.agg #[typeHandle Tryz.prog 99])) := by
  simpa using World.var?_cell (show Tryz.prog.globalNamed "errors.errorType" = some 0 by kernel_rfl) h5 0
 exact hc
end Go.Proofs.YtgnjkdkedjljjaaGreatDoor
