/- The reference's row of an operator; the attributes (printed by gen_v8.py). -/
import Derived.Test.YtmbonalhbibppaaDoorV7
import Derived.Test.YtmbonalhbibppaaDoorEng13
namespace Go.Proofs.YtmbonalhbibppaaDoor
open Go.Eng
set_option linter.unusedVariables false
set_option linter.unusedSimpArgs false
/-- What an operator (8 to 24) takes (0: of one type, whichever), and what it gives. -/
def rowF (op : Int) : List Int × Int :=
  if op = 8 then ([2], 2) else if op = 9 then ([1], 1) else if op = 10 then ([4], 2) else if 11 ≤ op ∧ op ≤ 15 then ([2, 2], 2) else if 16 ≤ op ∧ op ≤ 18 then ([4, 4], 4)
  else if op = 19 ∨ op = 20 then ([0, 0], 1) else if op = 21 ∨ op = 22 then ([2, 2], 1) else if op = 23 then ([3, 4], 1) else ([4, 4], 1)
set_option maxHeartbeats 4000000 in
theorem l3row_f {w : World} (op : Int) (h1 : 8 ≤ op) (h2 : op ≤ 24) : FC Tryd.prog 127 [.int .i64 op] w fun v w' => ∃ A n c t want, v = .tuple ⟨[.slice A n c, .int .i64 t]⟩ ∧ rowF op = (want, t) ∧ Ints w' A n c want := by
  refine FC.intro (cs := []) Tryd.func127 (by kernel_rfl) fun E R hE hr hR => ?_
  conv => cbv
  refine br (fun g => ?_) (fun g => ?_)
  · have g : op = 1 := by simpa [hE.cmp, cmpR] using g
    omega
  clear g
  conv => cbv
  refine br (fun g => ?_) (fun g => ?_)
  · have g : op = 2 := by simpa [hE.cmp, cmpR] using g
    omega
  clear g
  conv => cbv
  refine br (fun g => ?_) (fun g => ?_)
  · have g : op = 3 := by simpa [hE.cmp, cmpR] using g
    omega
  clear g
  conv => cbv
  refine br (fun g => ?_) (fun g => ?_)
  · have g : op = 4 := by simpa [hE.cmp, cmpR] using g
    omega
  clear g
  conv => cbv
  refine br (fun g => ?_) (fun g => ?_)
  · have g0 := g
    have g : op = 8 := by simpa [hE.cmp, cmpR] using g
    conv => cbv
    refine st_lits hr tInts rfl (vs := [.int .i64 2]) (m := 1) rfl (by omega) (by omega) rfl (by simp [Value.cells]) fun A w' hx ho => ?_
    conv => cbv
    rw [hR]; exact ⟨hx, A, 1, 1, 2, [2], rfl, by simp [rowF, g], (ho _ (Nat.le_refl _)).ints⟩
  have g8 : op ≠ 8 := by simpa [hE.cmp, cmpR] using g
  clear g
  conv => cbv
  refine br (fun g => ?_) (fun g => ?_)
  · have g0 := g
    have g : op = 9 := by simpa [hE.cmp, cmpR] using g
    conv => cbv
    refine st_lits hr tInts rfl (vs := [.int .i64 1]) (m := 1) rfl (by omega) (by omega) rfl (by simp [Value.cells]) fun A w' hx ho => ?_
    conv => cbv
    rw [hR]; exact ⟨hx, A, 1, 1, 1, [1], rfl, by simp [rowF, g], (ho _ (Nat.le_refl _)).ints⟩
  have g9 : op ≠ 9 := by simpa [hE.cmp, cmpR] using g
  clear g
  conv => cbv
  refine br (fun g => ?_) (fun g => ?_)
  · have g0 := g
    have g : op = 10 := by simpa [hE.cmp, cmpR] using g
    conv => cbv
    refine st_lits hr tInts rfl (vs := [.int .i64 4]) (m := 1) rfl (by omega) (by omega) rfl (by simp [Value.cells]) fun A w' hx ho => ?_
    conv => cbv
    rw [hR]; exact ⟨hx, A, 1, 1, 2, [4], rfl, by simp [rowF, g], (ho _ (Nat.le_refl _)).ints⟩
  have g10 : op ≠ 10 := by simpa [hE.cmp, cmpR] using g
  clear g
  conv => cbv
  refine br (fun g => ?_) (fun g => ?_)
  · have g0 := g
    have g : op = 11 := by simpa [hE.cmp, cmpR] using g
    conv => cbv
    refine br (fun _ => ?_) (fun q => absurd g0 q)
    conv => cbv
    refine st_lits hr tInts rfl (vs := [.int .i64 2, .int .i64 2]) (m := 2) rfl (by omega) (by omega) rfl (by simp [Value.cells]) fun A w' hx ho => ?_
    conv => cbv
    rw [hR]; exact ⟨hx, A, 2, 2, 2, [2, 2], rfl, by simp [rowF, g], (ho _ (Nat.le_refl _)).ints⟩
  have g11 : op ≠ 11 := by simpa [hE.cmp, cmpR] using g
  clear g
  conv => cbv
  refine br (fun g => ?_) (fun g => ?_)
  · have g0 := g
    have g : op = 12 := by simpa [hE.cmp, cmpR] using g
    conv => cbv
    refine br (fun _ => ?_) (fun q => absurd g0 q)
    conv => cbv
    refine st_lits hr tInts rfl (vs := [.int .i64 2, .int .i64 2]) (m := 2) rfl (by omega) (by omega) rfl (by simp [Value.cells]) fun A w' hx ho => ?_
    conv => cbv
    rw [hR]; exact ⟨hx, A, 2, 2, 2, [2, 2], rfl, by simp [rowF, g], (ho _ (Nat.le_refl _)).ints⟩
  have g12 : op ≠ 12 := by simpa [hE.cmp, cmpR] using g
  clear g
  conv => cbv
  refine br (fun g => ?_) (fun g => ?_)
  · have g0 := g
    have g : op = 13 := by simpa [hE.cmp, cmpR] using g
    conv => cbv
    refine br (fun _ => ?_) (fun q => absurd g0 q)
    conv => cbv
    refine st_lits hr tInts rfl (vs := [.int .i64 2, .int .i64 2]) (m := 2) rfl (by omega) (by omega) rfl (by simp [Value.cells]) fun A w' hx ho => ?_
    conv => cbv
    rw [hR]; exact ⟨hx, A, 2, 2, 2, [2, 2], rfl, by simp [rowF, g], (ho _ (Nat.le_refl _)).ints⟩
  have g13 : op ≠ 13 := by simpa [hE.cmp, cmpR] using g
  clear g
  conv => cbv
  refine br (fun g => ?_) (fun g => ?_)
  · have g0 := g
    have g : op = 14 := by simpa [hE.cmp, cmpR] using g
    conv => cbv
    refine br (fun _ => ?_) (fun q => absurd g0 q)
    conv => cbv
    refine st_lits hr tInts rfl (vs := [.int .i64 2, .int .i64 2]) (m := 2) rfl (by omega) (by omega) rfl (by simp [Value.cells]) fun A w' hx ho => ?_
    conv => cbv
    rw [hR]; exact ⟨hx, A, 2, 2, 2, [2, 2], rfl, by simp [rowF, g], (ho _ (Nat.le_refl _)).ints⟩
  have g14 : op ≠ 14 := by simpa [hE.cmp, cmpR] using g
  clear g
  conv => cbv
  refine br (fun g => ?_) (fun g => ?_)
  · have g0 := g
    have g : op = 15 := by simpa [hE.cmp, cmpR] using g
    conv => cbv
    refine st_lits hr tInts rfl (vs := [.int .i64 2, .int .i64 2]) (m := 2) rfl (by omega) (by omega) rfl (by simp [Value.cells]) fun A w' hx ho => ?_
    conv => cbv
    rw [hR]; exact ⟨hx, A, 2, 2, 2, [2, 2], rfl, by simp [rowF, g], (ho _ (Nat.le_refl _)).ints⟩
  have g15 : op ≠ 15 := by simpa [hE.cmp, cmpR] using g
  clear g
  conv => cbv
  refine br (fun g => ?_) (fun g => ?_)
  · have g0 := g
    have g : op = 16 := by simpa [hE.cmp, cmpR] using g
    conv => cbv
    refine br (fun _ => ?_) (fun q => absurd g0 q)
    conv => cbv
    refine st_lits hr tInts rfl (vs := [.int .i64 4, .int .i64 4]) (m := 2) rfl (by omega) (by omega) rfl (by simp [Value.cells]) fun A w' hx ho => ?_
    conv => cbv
    rw [hR]; exact ⟨hx, A, 2, 2, 4, [4, 4], rfl, by simp [rowF, g], (ho _ (Nat.le_refl _)).ints⟩
  have g16 : op ≠ 16 := by simpa [hE.cmp, cmpR] using g
  clear g
  conv => cbv
  refine br (fun g => ?_) (fun g => ?_)
  · have g0 := g
    have g : op = 17 := by simpa [hE.cmp, cmpR] using g
    conv => cbv
    refine br (fun _ => ?_) (fun q => absurd g0 q)
    conv => cbv
    refine st_lits hr tInts rfl (vs := [.int .i64 4, .int .i64 4]) (m := 2) rfl (by omega) (by omega) rfl (by simp [Value.cells]) fun A w' hx ho => ?_
    conv => cbv
    rw [hR]; exact ⟨hx, A, 2, 2, 4, [4, 4], rfl, by simp [rowF, g], (ho _ (Nat.le_refl _)).ints⟩
  have g17 : op ≠ 17 := by simpa [hE.cmp, cmpR] using g
  clear g
  conv => cbv
  refine br (fun g => ?_) (fun g => ?_)
  · have g0 := g
    have g : op = 18 := by simpa [hE.cmp, cmpR] using g
    conv => cbv
    refine st_lits hr tInts rfl (vs := [.int .i64 4, .int .i64 4]) (m := 2) rfl (by omega) (by omega) rfl (by simp [Value.cells]) fun A w' hx ho => ?_
    conv => cbv
    rw [hR]; exact ⟨hx, A, 2, 2, 4, [4, 4], rfl, by simp [rowF, g], (ho _ (Nat.le_refl _)).ints⟩
  have g18 : op ≠ 18 := by simpa [hE.cmp, cmpR] using g
  clear g
  conv => cbv
  refine br (fun g => ?_) (fun g => ?_)
  · have g0 := g
    have g : op = 19 := by simpa [hE.cmp, cmpR] using g
    conv => cbv
    refine br (fun _ => ?_) (fun q => absurd g0 q)
    conv => cbv
    refine st_lits hr tInts rfl (vs := [.int .i64 0, .int .i64 0]) (m := 2) rfl (by omega) (by omega) rfl (by simp [Value.cells]) fun A w' hx ho => ?_
    conv => cbv
    rw [hR]; exact ⟨hx, A, 2, 2, 1, [0, 0], rfl, by simp [rowF, g], (ho _ (Nat.le_refl _)).ints⟩
  have g19 : op ≠ 19 := by simpa [hE.cmp, cmpR] using g
  clear g
  conv => cbv
  refine br (fun g => ?_) (fun g => ?_)
  · have g0 := g
    have g : op = 20 := by simpa [hE.cmp, cmpR] using g
    conv => cbv
    refine st_lits hr tInts rfl (vs := [.int .i64 0, .int .i64 0]) (m := 2) rfl (by omega) (by omega) rfl (by simp [Value.cells]) fun A w' hx ho => ?_
    conv => cbv
    rw [hR]; exact ⟨hx, A, 2, 2, 1, [0, 0], rfl, by simp [rowF, g], (ho _ (Nat.le_refl _)).ints⟩
  have g20 : op ≠ 20 := by simpa [hE.cmp, cmpR] using g
  clear g
  conv => cbv
  refine br (fun g => ?_) (fun g => ?_)
  · have g0 := g
    have g : op = 21 := by simpa [hE.cmp, cmpR] using g
    conv => cbv
    refine br (fun _ => ?_) (fun q => absurd g0 q)
    conv => cbv
    refine st_lits hr tInts rfl (vs := [.int .i64 2, .int .i64 2]) (m := 2) rfl (by omega) (by omega) rfl (by simp [Value.cells]) fun A w' hx ho => ?_
    conv => cbv
    rw [hR]; exact ⟨hx, A, 2, 2, 1, [2, 2], rfl, by simp [rowF, g], (ho _ (Nat.le_refl _)).ints⟩
  have g21 : op ≠ 21 := by simpa [hE.cmp, cmpR] using g
  clear g
  conv => cbv
  refine br (fun g => ?_) (fun g => ?_)
  · have g0 := g
    have g : op = 22 := by simpa [hE.cmp, cmpR] using g
    conv => cbv
    refine st_lits hr tInts rfl (vs := [.int .i64 2, .int .i64 2]) (m := 2) rfl (by omega) (by omega) rfl (by simp [Value.cells]) fun A w' hx ho => ?_
    conv => cbv
    rw [hR]; exact ⟨hx, A, 2, 2, 1, [2, 2], rfl, by simp [rowF, g], (ho _ (Nat.le_refl _)).ints⟩
  have g22 : op ≠ 22 := by simpa [hE.cmp, cmpR] using g
  clear g
  conv => cbv
  refine br (fun g => ?_) (fun g => ?_)
  · have g0 := g
    have g : op = 23 := by simpa [hE.cmp, cmpR] using g
    conv => cbv
    refine st_lits hr tInts rfl (vs := [.int .i64 3, .int .i64 4]) (m := 2) rfl (by omega) (by omega) rfl (by simp [Value.cells]) fun A w' hx ho => ?_
    conv => cbv
    rw [hR]; exact ⟨hx, A, 2, 2, 1, [3, 4], rfl, by simp [rowF, g], (ho _ (Nat.le_refl _)).ints⟩
  have g23 : op ≠ 23 := by simpa [hE.cmp, cmpR] using g
  clear g
  conv => cbv
  refine br (fun g => ?_) (fun g => ?_)
  · have g0 := g
    have g : op = 24 := by simpa [hE.cmp, cmpR] using g
    conv => cbv
    refine st_lits hr tInts rfl (vs := [.int .i64 4, .int .i64 4]) (m := 2) rfl (by omega) (by omega) rfl (by simp [Value.cells]) fun A w' hx ho => ?_
    conv => cbv
    rw [hR]; exact ⟨hx, A, 2, 2, 1, [4, 4], rfl, by simp [rowF, g], (ho _ (Nat.le_refl _)).ints⟩
  have g24 : op ≠ 24 := by simpa [hE.cmp, cmpR] using g
  clear g
  omega
theorem sAt : Slc Tryd.prog 176 212 (.agg ⟨[.string ⟨#[]⟩, .int .i64 0, .nilFunc]⟩) 3 32 := ⟨Tryd.underlying176, by kernel_rfl⟩
theorem fAt1 : Fld Tryd.prog 212 1 1 := ⟨by kernel_rfl⟩
theorem run_bA (s : ByteArray) (t : Int) (f : FuncId) (w : World) : (Instr.build 212 #[(0, .string s), (1, .int .i64 t), (2, .func (.func f) #[] #[])]).run Tryd.prog w = .ok (.agg #[.string s, .int .i64 t, .func (.func f) #[] #[]]) w := by kernel_rfl
theorem st_bA {E : Sym} {w : World} {K : Value → World → Prop} {d : Option Tmp} {ty : TypeId} {pos : String} {aft : Array Edge} {g : Option (Nat × Bool)} {bq : Bool} (hE : EngB bq Tryd.prog E) {s : ByteArray} {t : Int} {f : FuncId} {x0 x1 x2 : Operand} (hk : ∀ v, v = .agg ⟨[.string s, .int .i64 t, .func (.func f) #[] #[]]⟩ → K v w) : E.stop ⟨d, .build 212 ⟨[(0, x0), (1, x1), (2, x2)]⟩, ty, pos, aft, g⟩ [.string s, .int .i64 t, .func (.func f) #[] #[]] w K := by
  refine hE.det (v := .agg ⟨[.string s, .int .i64 t, .func (.func f) #[] #[]]⟩) (fun w1 _ ρ hρ => ?_) (hk _ rfl)
  simp only [opnds, List.map_cons, List.map_nil, List.cons.injEq, and_true] at hρ
  have := run_bA s t f w1
  simp [execOp, hρ.1, hρ.2.1, hρ.2.2, this]
theorem attributes_f {w : World} : FC Tryd.prog 102 [] w fun v w' => ∃ a, v = .slice (some a) 6 6 ∧ ∀ i : Nat, i < 6 → w'.cell? ((a.add (i * 3)).add 1) = some (.int .i64 (attrF i)) := by
  refine FC.intro (cs := []) Tryd.func102 (by kernel_rfl) fun E R hE hr hR => ?_
  conv => cbv
  refine st_bA hE fun v0 e0 => ?_
  conv => cbv
  refine st_bA hE fun v1 e1 => ?_
  conv => cbv
  refine st_bA hE fun v2 e2 => ?_
  conv => cbv
  refine st_bA hE fun v3 e3 => ?_
  conv => cbv
  refine st_bA hE fun v4 e4 => ?_
  conv => cbv
  refine st_bA hE fun v5 e5 => ?_
  conv => cbv
  refine st_litsK hr sAt rfl (by omega) (m := 6) rfl (by omega) (by omega) rfl (by simp [e0, e1, e2, e3, e4, e5, Value.cells]) rfl fun A w1 hx ho => ?_
  have ho := ho _ (Nat.le_refl _)
  obtain ⟨gb, rfl, _⟩ := ho.addr (by omega)
  conv => cbv
  rw [hR]; refine ⟨hx, _, rfl, fun i hi => ?_⟩
  rw [add_add]
  have hc := ho.at (i * 3 + 1) (.int .i64 (attrF i))
  refine hc ?_
  rw [e0, e1, e2, e3, e4, e5]
  rcases i with _ | _ | _ | _ | _ | _ | i <;> first | rfl | omega
end Go.Proofs.YtmbonalhbibppaaDoor
