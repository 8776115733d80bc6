/- The program's leafTree walked. -/
import Derived.Test.YtmbonalhbibppaaDoorP10
import Derived.Test.YtmbonalhbibppaaDoorV6
import Derived.Test.YtmbonalhbibppaaDoorP7
namespace Go.Proofs.YtmbonalhbibppaaDoor
open Go.Eng
open Go.ChangeMaps (setBlock)
set_option linter.unusedVariables false
set_option linter.unusedSimpArgs false
theorem uOpT : ∃ u, Tryd.prog.underlying 191 = some u ∧ ∀ ms, u ≠ .interface ms := ⟨_, Tryd.underlying191, by simp⟩
theorem uCoT : ∃ u, Tryd.prog.underlying 276 = some u ∧ ∀ ms, u ≠ .interface ms := ⟨_, Tryd.underlying276, by simp⟩
theorem uNaT : ∃ u, Tryd.prog.underlying 274 = some u ∧ ∀ ms, u ≠ .interface ms := ⟨_, Tryd.underlying274, by simp⟩
theorem uAtT : ∃ u, Tryd.prog.underlying 251 = some u ∧ ∀ ms, u ≠ .interface ms := ⟨_, Tryd.underlying251, by simp⟩
theorem uLtT : ∃ u, Tryd.prog.underlying 255 = some u ∧ ∀ ms, u ≠ .interface ms := ⟨_, Tryd.underlying255, by simp⟩
section
variable {E : Sym} {w : World} {K : Value → World → Prop} {d : Option Tmp} {ty : TypeId} {pos : String} {aft : Array Edge} {g : Option (Nat × Bool)} {bq : Bool}
theorem run_bNam (s : ByteArray) (i : Int) (w : World) : (Instr.build 274 #[(0, .string s), (1, .int .i64 i)]).run Tryd.prog w = .ok (.agg #[.string s, .int .i64 i]) w := by kernel_rfl
theorem st_bNam (hE : EngB bq Tryd.prog E) {s : ByteArray} {i : Int} {x y : Operand} (hk : K (.agg ⟨[.string s, .int .i64 i]⟩) w) : E.stop ⟨d, .build 274 ⟨[(0, x), (1, y)]⟩, ty, pos, aft, g⟩ [.string s, .int .i64 i] w K := by
  refine hE.det (v := .agg ⟨[.string s, .int .i64 i]⟩) (fun w1 _ ρ hρ => ?_) hk
  simp only [opnds, List.map_cons, List.map_nil, List.cons.injEq, and_true] at hρ
  have := run_bNam s i w1
  simp [execOp, hρ, this]
theorem run_bAtt (i : Int) (w : World) : (Instr.build 251 #[(0, .int .i64 i)]).run Tryd.prog w = .ok (.agg #[.int .i64 i]) w := by kernel_rfl
theorem st_bAtt (hE : EngB bq Tryd.prog E) {i : Int} {x : Operand} (hk : K (.agg ⟨[.int .i64 i]⟩) w) : E.stop ⟨d, .build 251 ⟨[(0, x)]⟩, ty, pos, aft, g⟩ [.int .i64 i] w K := by
  refine hE.det (v := .agg ⟨[.int .i64 i]⟩) (fun w1 _ ρ hρ => ?_) hk
  simp only [opnds, List.map_cons, List.map_nil, List.cons.injEq, and_true] at hρ
  have := run_bAtt i w1
  simp [execOp, hρ, this]
theorem run_bLt (i : Int) (w : World) : (Instr.build 255 #[(0, .int .i64 i)]).run Tryd.prog w = .ok (.agg #[.int .i64 i]) w := by kernel_rfl
theorem st_bLt (hE : EngB bq Tryd.prog E) {i : Int} {x : Operand} (hk : K (.agg ⟨[.int .i64 i]⟩) w) : E.stop ⟨d, .build 255 ⟨[(0, x)]⟩, ty, pos, aft, g⟩ [.int .i64 i] w K := by
  refine hE.det (v := .agg ⟨[.int .i64 i]⟩) (fun w1 _ ρ hρ => ?_) hk
  simp only [opnds, List.map_cons, List.map_nil, List.cons.injEq, and_true] at hρ
  have := run_bLt i w1
  simp [execOp, hρ, this]
theorem run_bVal (k z : Int) (s : ByteArray) (A : Option Addr) (m c : Nat) (w : World) : (Instr.build 153 #[(0, .int .i64 k), (1, .int .i64 z), (2, .string s), (3, .slice A m c)]).run Tryd.prog w = .ok (.agg #[.int .i64 k, .int .i64 z, .string s, .slice A m c]) w := by kernel_rfl
theorem st_bVal (hE : EngB bq Tryd.prog E) {k z : Int} {s : ByteArray} {A : Option Addr} {m c : Nat} {x y u v : Operand} (hk : K (.agg ⟨[.int .i64 k, .int .i64 z, .string s, .slice A m c]⟩) w) : E.stop ⟨d, .build 153 ⟨[(0, x), (1, y), (2, u), (3, v)]⟩, ty, pos, aft, g⟩ [.int .i64 k, .int .i64 z, .string s, .slice A m c] w K := by
  refine hE.det (v := .agg ⟨[.int .i64 k, .int .i64 z, .string s, .slice A m c]⟩) (fun w1 _ ρ hρ => ?_) hk
  simp only [opnds, List.map_cons, List.map_nil, List.cons.injEq, and_true] at hρ
  have := run_bVal k z s A m c w1
  simp [execOp, hρ, this]
theorem run_bCon (k z i : Int) (s : ByteArray) (A : Option Addr) (m c : Nat) (w : World) : (Instr.build 276 #[(0, .agg ⟨[.int .i64 k, .int .i64 z, .string s, .slice A m c]⟩), (1, .int .i64 i)]).run Tryd.prog w = .ok (.agg #[.int .i64 k, .int .i64 z, .string s, .slice A m c, .int .i64 i]) w := by kernel_rfl
theorem st_bCon (hE : EngB bq Tryd.prog E) {k z i : Int} {s : ByteArray} {A : Option Addr} {m c : Nat} {x y : Operand} (hk : K (.agg ⟨[.int .i64 k, .int .i64 z, .string s, .slice A m c, .int .i64 i]⟩) w) : E.stop ⟨d, .build 276 ⟨[(0, x), (1, y)]⟩, ty, pos, aft, g⟩ [.agg ⟨[.int .i64 k, .int .i64 z, .string s, .slice A m c]⟩, .int .i64 i] w K := by
  refine hE.det (v := .agg ⟨[.int .i64 k, .int .i64 z, .string s, .slice A m c, .int .i64 i]⟩) (fun w1 _ ρ hρ => ?_) hk
  simp only [opnds, List.map_cons, List.map_nil, List.cons.injEq, and_true] at hρ
  have := run_bCon k z i s A m c w1
  simp [execOp, hρ, this]
end
theorem constF_iff (k z : Int) : (k, z) ∈ constF ↔ 1 ≤ z ∧ z ≤ 4 ∧ k = knd z := by
  unfold constF knd
  simp only [List.mem_cons, Prod.mk.injEq, List.not_mem_nil, or_false]
  (repeat' split) <;> omega
theorem leafTree_f {w : World} (hT : Tab w 6 constF) (v : VN) (h : OKN w v) (hop : 1 ≤ v.p.o ∧ v.p.o ≤ 7) {D : Nat → Prop} (hin : InD D v.A0 v.m0) (at_ : Int) :
    FC Tryd.prog 153 [.agg ⟨cN v⟩, .int .i64 at_] w fun r w' => TreeV D w' (leafF v.p at_) r := by
  refine FC.intro (cs := []) Tryd.func153 (by kernel_rfl) fun E R hE hr hR => ?_
  obtain ⟨⟨o, z, tx, xs, ks⟩, A0, m0, c0, A1, m1, c1⟩ := v
  have s_tx := h.s_tx
  have r_xs := h.r_xs
  clear h
  simp only at s_tx r_xs hR hop hin
  obtain ⟨bm, es, clock, t1, t2, t3, t4, t5, t6⟩ := hT.ex
  have hbl : bm < w.heap.size := by
    rcases Nat.lt_or_ge bm w.heap.size with h | h
    · exact h
    · simp [Array.getElem?_eq_none h] at t2
  conv => cbv
  refine st_box hr fun a w0 hx0 hb0 => ?_
  have hb := hb0 _ (Nat.le_refl _)
  conv => cbv
  (refine st_fld hE fINd0 fun p hp => ?_; (conv => cbv); refine st_load hE cInt (by rw [hp]; exact (hb).at _ _ rfl) ?_; clear hp; (conv => cbv))
  refine br (fun g => ?_) (fun g => ?_)
  · have g : o = 5 := by simpa [hE.cmp, cmpR] using g
    conv => cbv
    (refine st_fld hE fINd2 fun p hp => ?_; (conv => cbv); refine st_load hE cStr (by rw [hp]; exact (hb).at _ _ rfl) ?_; clear hp; (conv => cbv))
    refine st_bNam hE ?_
    conv => cbv
    refine st_mk hE uNaT ?_
    conv => cbv
    rw [hR]; exact ⟨hx0, by simp only [leafF]; rw [if_pos g]; simp only [TreeV]; exact ⟨rfl, s_tx⟩⟩
  have g5 : o ≠ 5 := by simpa [hE.cmp, cmpR] using g
  clear g
  conv => cbv
  refine br (fun g => ?_) (fun g => ?_)
  · have g : o = 6 := by simpa [hE.cmp, cmpR] using g
    conv => cbv
    (refine st_fld hE fINd1 fun p hp => ?_; (conv => cbv); refine st_load hE cI64 (by rw [hp]; exact (hb).at _ _ rfl) ?_; clear hp; (conv => cbv))
    refine st_bAtt hE ?_
    conv => cbv
    refine st_mk hE uAtT ?_
    conv => cbv
    rw [hR]; exact ⟨hx0, by simp only [leafF]; rw [if_neg g5, if_pos g]; simp only [TreeV]; rfl⟩
  have g6 : o ≠ 6 := by simpa [hE.cmp, cmpR] using g
  clear g
  conv => cbv
  refine br (fun g => ?_) (fun g => ?_)
  · have g : o = 7 := by simpa [hE.cmp, cmpR] using g
    conv => cbv
    (refine st_fld hE fINd1 fun p hp => ?_; (conv => cbv); refine st_load hE cI64 (by rw [hp]; exact (hb).at _ _ rfl) ?_; clear hp; (conv => cbv))
    refine st_bLt hE ?_
    conv => cbv
    refine st_mk hE uLtT ?_
    conv => cbv
    rw [hR]; exact ⟨hx0, by simp only [leafF]; rw [if_neg g5, if_neg g6, if_pos g]; simp only [TreeV]; rfl⟩
  have g7 : o ≠ 7 := by simpa [hE.cmp, cmpR] using g
  clear g
  conv => cbv
  refine st_load hE cMap (hx0.cell t1) ?_
  conv => cbv
  have t2' := hx0.getMap t2
  obtain ⟨r, hrr⟩ : ∃ r, r = w0.heap.size := ⟨_, rfl⟩
  obtain ⟨wi, hwi⟩ : ∃ wi, wi = w0.alloc (.mapIter (some bm) clock #[] clock) := ⟨_, rfl⟩
  have hxi : Ext w0 wi := by rw [hwi]; exact (Ext.refl w0).alloc (Nat.le_refl _) _
  have hri : wi.heap[r]? = some (.mapIter (some bm) clock #[] clock) := by rw [hwi, hrr]; exact heap_alloc_new _ _
  refine st_run hr (v := .pointer (some ⟨r, 0, none⟩)) (w' := wi) (fun ρ hρ => ?_) ?_
  · simp only [opnds, List.map_cons, List.map_nil, List.cons.injEq, and_true] at hρ
    simp [execOp, hρ, hwi, hrr, run_range_map w0 209 _ _ bm es clock Tryd.underlying209 t2']
  conv => cbv
  refine loop_rule hr (fun (s : Array Nat) w' => Ext w0 w' ∧ w'.heap[r]? = some (.mapIter (some bm) clock s clock) ∧ ∀ e ∈ es.toList, s.contains e.born = true → e.val ≠ .int .i64 o) (fun s => [(1, .int .i64 at_), (2, .pointer (some a)), (29, .pointer (some ⟨r, 0, none⟩))]) (fun s => (leftOf es s).size) #[]
    (by simp [Fits, lk]) ⟨hxi, hri, by simp⟩ ?_
  rintro I hI seen w' ⟨hx, hit, hall⟩
  have hb' := hx.getMap t2'
  conv => cbv
  rcases run_next_at (P := Tryd.prog) w' 40 r bm clock clock seen es clock hit hb' t6 (Nat.le_refl _) with ⟨h0, hrun⟩ | ⟨e, he, w1, hw1, hrun⟩
  · exfalso
    obtain ⟨e, he, h1, h2⟩ := t4 (knd o) o ((constF_iff _ _).2 ⟨hop.1, by omega, rfl⟩)
    exact hall e he (all_seen es seen h0 e he) h2
  · obtain ⟨hem, hes⟩ := mem_left he
    obtain ⟨k, zz, hk, hz, hf⟩ := t3 e hem
    rw [hk, hz] at hrun
    obtain ⟨w2, hw2⟩ : ∃ w2, w2 = setBlock w1 r (.mapIter (some bm) clock (seen.push e.born) clock) := ⟨_, rfl⟩
    rw [← hw2] at hrun
    have hr1 : w1.heap[r]? = some (.mapIter (some bm) clock seen clock) := by rcases hw1 with rfl | rfl <;> exact hit
    have hset := MapKept.heap_set (o' := .mapIter (some bm) clock (seen.push e.born) clock) hr1
    have hs1 : w2.heap[r]? = some (.mapIter (some bm) clock (seen.push e.born) clock) := by rw [hw2]; exact hset.1
    have hrun : ∀ ty, (Instr.next (.pointer (some ⟨r, 0, none⟩)) false ty).run Tryd.prog w' = .ok (.tuple #[.bool true, .int .i64 k, .int .i64 zz]) w2 := fun ty => hrun
    have hx2 : Ext w0 w2 := by
      refine hx.then ?_
      rcases hw1 with rfl | rfl <;> exact ⟨by rw [hw2]; rfl, by rw [hw2]; rfl, by rw [hw2]; rfl, by rw [hw2]; simp [setBlock], fun i hi => by rw [hw2]; exact hset.2 i (by omega)⟩
    refine st_run hr (v := .tuple #[.bool true, .int .i64 k, .int .i64 zz]) (w' := w2) (fun ρ hρ => ?_) ?_
    · simp only [opnds, List.map_cons, List.map_nil, List.cons.injEq, and_true] at hρ
      simp [execOp, hρ, hrun]
    have hen := run_entry_at (P := Tryd.prog) w2 r bm clock seen es clock e hs1 (hx2.getMap t2') hem t5
    rw [hk, hz] at hen
    conv => cbv
    refine st_run hr (v := .tuple #[.int .i64 k, .int .i64 zz]) (w' := w2) (fun ρ hρ => ?_) ?_
    · simp only [opnds, List.map_cons, List.map_nil, List.cons.injEq, and_true] at hρ
      simp [execOp, hρ, hen]
    rw [constF_iff] at hf
    have hb2 := hb.bel hx2
    conv => cbv
    (refine st_fld hE fINd0 fun p hp => ?_; (conv => cbv); refine st_load hE cInt (by rw [hp]; exact (hb2).at _ _ rfl) ?_; clear hp; (conv => cbv))
    refine br (fun g => ?_) (fun g => ?_)
    · have g : zz = o := by simpa [hE.cmp, cmpR] using g
      conv => cbv
      (refine st_fld hE fINd1 fun p hp => ?_; (conv => cbv); refine st_load hE cI64 (by rw [hp]; exact (hb2).at _ _ rfl) ?_; clear hp; (conv => cbv))
      (refine st_fld hE fINd2 fun p hp => ?_; (conv => cbv); refine st_load hE cStr (by rw [hp]; exact (hb2).at _ _ rfl) ?_; clear hp; (conv => cbv))
      (refine st_fld hE fINd3 fun p hp => ?_; (conv => cbv); refine st_load hE cStrs (by rw [hp]; exact (hb2).at _ _ rfl) ?_; clear hp; (conv => cbv))
      refine st_bVal hE ?_
      conv => cbv
      refine st_bCon hE ?_
      conv => cbv
      refine st_mk hE uCoT ?_
      conv => cbv
      rw [hR]; refine ⟨hx0.trans hx2, ?_⟩
      simp only [leafF]
      rw [if_neg g5, if_neg g6, if_neg g7]
      simp only [TreeV]
      exact ⟨A0, m0, c0, by rw [hf.2.2, g]; rfl, r_xs.ext (hx0.trans hx2), hin, s_tx⟩
    · have g : zz ≠ o := by simpa [hE.cmp, cmpR] using g
      conv => cbv
      refine ⟨seen.push e.born, by simp [Fits, lk], hI _ _ ⟨hx2, hs1, fun e' he' hs => ?_⟩, left_shrinks es seen e he⟩
      rw [contains_push] at hs
      rcases Bool.or_eq_true _ _ ▸ hs with hs | hs
      · exact hall e' he' hs
      · rw [born_inj t5 he' hem (by simpa using hs), hz]
        intro q; cases q; exact g rfl
end Go.Proofs.YtmbonalhbibppaaDoor
