/- Operators of instructions, their types, what instructions pop (printed by gen_v6.py). -/
import Derived.Test.YtmbonalhbibppaaDoorV5
import Derived.Maps.RangeRun
namespace Go.Proofs.YtmbonalhbibppaaDoor
open Go.Eng
open Go.ChangeMaps (setBlock)
set_option linter.unusedVariables false
set_option linter.unusedSimpArgs false
def opF : List (Int × Int) := (List.range 17).map fun (i : Nat) => ((i : Int) + 8, (i : Int) + 5)
/-- The operator of an instruction; 0 of none. -/
def oprF (o : Int) : Int := if 5 ≤ o ∧ o ≤ 21 then o + 3 else 0
theorem opF_iff (k z : Int) : (k, z) ∈ opF ↔ 5 ≤ z ∧ z ≤ 21 ∧ k = z + 3 := by
  simp only [opF, List.mem_map, List.mem_range, Prod.mk.injEq]
  constructor
  · rintro ⟨i, hi, rfl, rfl⟩; omega
  · rintro ⟨h1, h2, rfl⟩; exact ⟨(z - 5).toNat, by omega, by omega, by omega⟩
theorem operatorOf_f {w : World} (hT : Tab w 8 opF) (o : Int) : FC Tryd.prog 129 [.int .i64 o] w fun v _ => v = .int .i64 (oprF o) := by
  refine FC.intro (cs := []) Tryd.func129 (by kernel_rfl) fun E R hE hr hR => ?_
  obtain ⟨bm, es, clock, t1, t2, t3, t4, t5, t6⟩ := hT.ex
  have hbl : bm < w.heap.size := by
    rcases Nat.lt_or_ge bm w.heap.size with h | h
    · exact h
    · simp [Array.getElem?_eq_none h] at t2
  conv => cbv
  refine st_load hE cMap t1 ?_
  conv => cbv
  obtain ⟨r, hrr⟩ : ∃ r, r = w.heap.size := ⟨_, rfl⟩
  obtain ⟨wi, hwi⟩ : ∃ wi, wi = w.alloc (.mapIter (some bm) clock #[] clock) := ⟨_, rfl⟩
  have hxi : Ext w wi := by rw [hwi]; exact (Ext.refl w).alloc (Nat.le_refl _) _
  have hri : wi.heap[r]? = some (.mapIter (some bm) clock #[] clock) := by rw [hwi, hrr]; exact heap_alloc_new _ _
  refine st_run hr (v := .pointer (some ⟨r, 0, none⟩)) (w' := wi) (fun ρ hρ => ?_) ?_
  · simp only [opnds, List.map_cons, List.map_nil, List.cons.injEq, and_true] at hρ
    simp [execOp, hρ, hwi, hrr, run_range_map w 209 _ _ bm es clock Tryd.underlying209 t2]
  conv => cbv
  refine loop_rule hr (fun (s : Array Nat) w' => Ext w w' ∧ w'.heap[r]? = some (.mapIter (some bm) clock s clock) ∧ ∀ e ∈ es.toList, s.contains e.born = true → e.val ≠ .int .i64 o) (fun s => [(0, .int .i64 o), (6, .pointer (some ⟨r, 0, none⟩))]) (fun s => (leftOf es s).size) #[]
    (by simp [Fits, lk]) ⟨hxi, hri, by simp⟩ ?_
  rintro I hI seen w' ⟨hx, hit, hall⟩
  have hb' := hx.getMap t2
  conv => cbv
  rcases run_next_at (P := Tryd.prog) w' 40 r bm clock clock seen es clock hit hb' t6 (Nat.le_refl _) with ⟨h0, hrun⟩ | ⟨e, he, w1, hw1, hrun⟩
  · have hrun : ∀ ty, (Instr.next (.pointer (some ⟨r, 0, none⟩)) false ty).run Tryd.prog w' = .ok (.tuple #[.bool false]) w' := fun ty => hrun
    refine st_run hr (v := .tuple #[.bool false]) (w' := w') (fun ρ hρ => ?_) ?_
    · simp only [opnds, List.map_cons, List.map_nil, List.cons.injEq, and_true] at hρ
      simp [execOp, hρ, hrun]
    conv => cbv
    rw [hR]; refine ⟨hx, ?_⟩
    have hno : ¬ (5 ≤ o ∧ o ≤ 21) := fun hq => by
      obtain ⟨e, he, h1, h2⟩ := t4 (o + 3) o ((opF_iff _ _).2 ⟨hq.1, hq.2, rfl⟩)
      refine hall e he ?_ h2
      exact all_seen es seen h0 e he
    unfold oprF; rw [if_neg hno]; rfl
  · obtain ⟨hem, hes⟩ := mem_left he
    obtain ⟨k, z, hk, hz, hf⟩ := t3 e hem
    rw [hk, hz] at hrun
    obtain ⟨w2, hw2⟩ : ∃ w2, w2 = setBlock w1 r (.mapIter (some bm) clock (seen.push e.born) clock) := ⟨_, rfl⟩
    rw [← hw2] at hrun
    have hr1 : w1.heap[r]? = some (.mapIter (some bm) clock seen clock) := by rcases hw1 with rfl | rfl <;> exact hit
    have hset := MapKept.heap_set (o' := .mapIter (some bm) clock (seen.push e.born) clock) hr1
    have hs1 : w2.heap[r]? = some (.mapIter (some bm) clock (seen.push e.born) clock) := by rw [hw2]; exact hset.1
    have hrun : ∀ ty, (Instr.next (.pointer (some ⟨r, 0, none⟩)) false ty).run Tryd.prog w' = .ok (.tuple #[.bool true, .int .i64 k, .int .i64 z]) w2 := fun ty => hrun
    have hx2 : Ext w w2 := by
      refine hx.then ?_
      rcases hw1 with rfl | rfl <;> exact ⟨by rw [hw2]; rfl, by rw [hw2]; rfl, by rw [hw2]; rfl, by rw [hw2]; simp [setBlock], fun i hi => by rw [hw2]; exact hset.2 i (by omega)⟩
    refine st_run hr (v := .tuple #[.bool true, .int .i64 k, .int .i64 z]) (w' := w2) (fun ρ hρ => ?_) ?_
    · simp only [opnds, List.map_cons, List.map_nil, List.cons.injEq, and_true] at hρ
      simp [execOp, hρ, hrun]
    have hen := run_entry_at (P := Tryd.prog) w2 r bm clock seen es clock e hs1 (hx2.getMap t2) hem t5
    rw [hk, hz] at hen
    conv => cbv
    refine st_run hr (v := .tuple #[.int .i64 k, .int .i64 z]) (w' := w2) (fun ρ hρ => ?_) ?_
    · simp only [opnds, List.map_cons, List.map_nil, List.cons.injEq, and_true] at hρ
      simp [execOp, hρ, hen]
    rw [opF_iff] at hf
    conv => cbv
    refine br (fun g => ?_) (fun g => ?_)
    · have g : z = o := by simpa [hE.cmp, cmpR] using g
      conv => cbv
      rw [hR]; refine ⟨hx2, ?_⟩
      unfold oprF; rw [if_pos (by omega), hf.2.2, g]; rfl
    · have g : z ≠ o := by simpa [hE.cmp, cmpR] using g
      conv => cbv
      refine ⟨seen.push e.born, by simp [Fits, lk], hI _ _ ⟨hx2, hs1, fun e' he' hs => ?_⟩, left_shrinks es seen e he⟩
      rw [contains_push] at hs
      rcases Bool.or_eq_true _ _ ▸ hs with hs | hs
      · exact hall e' he' hs
      · rw [born_inj t5 he' hem (by simpa using hs), hz]
        intro q; cases q; exact g rfl
end Go.Proofs.YtmbonalhbibppaaDoor
