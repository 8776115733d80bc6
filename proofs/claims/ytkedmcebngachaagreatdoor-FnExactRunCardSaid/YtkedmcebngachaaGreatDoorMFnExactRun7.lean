/- Texts that the law FnExactRun leans on, part 7 of 11: contracts of the functions that it reaches and plain lemmas. Each holds under the conditions that it states. -/
import Derived.Test.YtkedmcebngachaaGreatDoorMFnExactRun6
set_option maxHeartbeats 16000000
set_option linter.unusedVariables false
set_option linter.unusedSimpArgs false
namespace Go.Proofs.YtkedmcebngachaaGreatDoor
open Go.Eng
set_option linter.unusedVariables false
set_option linter.unusedSimpArgs false
def zL3 : List Value := [.int .i64 0, .int .i64 0, .string ⟨#[]⟩, .slice none 0 0]
theorem tL3 : Stc Tryz.prog 155 4 zL3 := ⟨by kernel_rfl, by kernel_rfl⟩
theorem sL3 : Slc Tryz.prog 79 155 (.agg ⟨zL3⟩) 4 56 := ⟨Tryz.underlying79, by kernel_rfl⟩
theorem fL3v0 : Fld Tryz.prog 155 0 0 := ⟨by kernel_rfl⟩
theorem fL3v1 : Fld Tryz.prog 155 1 1 := ⟨by kernel_rfl⟩
theorem fL3v2 : Fld Tryz.prog 155 2 2 := ⟨by kernel_rfl⟩
theorem fL3v3 : Fld Tryz.prog 155 3 3 := ⟨by kernel_rfl⟩
def lC (x : VV) : List Value := [.int .i64 0, .int .i64 x.p.n, .string x.p.tx, .slice x.A x.m x.c]
theorem lC_len (x : VV) : (lC x).length = 4 := rfl
def LRes (D : Nat → Prop) (w : World) (R : Int ⊕ PV) (r : Value) : Prop := match R with
 | .inl c => (c = 1 ∨ c = 2 ∨ c = 3) ∧ ∃ (n : Int) (tx : ByteArray) (A : Option Addr) (m cc : Nat), r = .agg ⟨[.int .i64 c, .int .i64 n, .string tx, .slice A m cc]⟩
 | .inr p => ∃ A m c, r = .agg ⟨lC ⟨p, A, m, c⟩⟩ ∧ ValM w ⟨p, A, m, c⟩ ∧ InD D A m
section
variable {E : Sym} {w : World} {K : Value → World → Prop} {d : Option Tmp} {ty : TypeId} {pos : String} {aft : Array Edge} {g : Option (Nat × Bool)} {bq : Bool}
theorem run_bL0  (w : World) : (Instr.build 155 #[]).run Tryz.prog w = .ok (.agg ⟨[.int .i64 0, .int .i64 0, .string ⟨#[]⟩, .slice none 0 0]⟩) w := by kernel_rfl
theorem st_bL0 (hE : EngB bq Tryz.prog E)   (hk : K (.agg ⟨[.int .i64 0, .int .i64 0, .string ⟨#[]⟩, .slice none 0 0]⟩) w) : E.stop ⟨d, .build 155 ⟨[]⟩, ty, pos, aft, g⟩ [] w K := by
 refine hE.det (v := .agg ⟨[.int .i64 0, .int .i64 0, .string ⟨#[]⟩, .slice none 0 0]⟩) (fun w1 _ ρ hρ => ?_) hk
 simp only [opnds, b2_, b3_, b1_, and_true] at hρ
 have := run_bL0  w1
 simp [execOp, hρ, this]
theorem run_bL01 (c : Int) (z : Int) (w : World) : (Instr.build 155 #[(0, .int .i64 c), (1, .int .i64 z)]).run Tryz.prog w = .ok (.agg ⟨[.int .i64 c, .int .i64 z, .string ⟨#[]⟩, .slice none 0 0]⟩) w := by kernel_rfl
theorem st_bL01 (hE : EngB bq Tryz.prog E) {c : Int} {z : Int} {x : Operand} {y : Operand} (hk : K (.agg ⟨[.int .i64 c, .int .i64 z, .string ⟨#[]⟩, .slice none 0 0]⟩) w) : E.stop ⟨d, .build 155 ⟨[(0, x), (1, y)]⟩, ty, pos, aft, g⟩ [.int .i64 c, .int .i64 z] w K := by
 refine hE.det (v := .agg ⟨[.int .i64 c, .int .i64 z, .string ⟨#[]⟩, .slice none 0 0]⟩) (fun w1 _ ρ hρ => ?_) hk
 simp only [opnds, b2_, b3_, b1_, and_true] at hρ
 have := run_bL01 c z w1
 simp [execOp, hρ, this]
theorem run_bL1 (z : Int) (w : World) : (Instr.build 155 #[(1, .int .i64 z)]).run Tryz.prog w = .ok (.agg ⟨[.int .i64 0, .int .i64 z, .string ⟨#[]⟩, .slice none 0 0]⟩) w := by kernel_rfl
theorem st_bL1 (hE : EngB bq Tryz.prog E) {z : Int} {x : Operand} (hk : K (.agg ⟨[.int .i64 0, .int .i64 z, .string ⟨#[]⟩, .slice none 0 0]⟩) w) : E.stop ⟨d, .build 155 ⟨[(1, x)]⟩, ty, pos, aft, g⟩ [.int .i64 z] w K := by
 refine hE.det (v := .agg ⟨[.int .i64 0, .int .i64 z, .string ⟨#[]⟩, .slice none 0 0]⟩) (fun w1 _ ρ hρ => ?_) hk
 simp only [opnds, b2_, b3_, b1_, and_true] at hρ
 have := run_bL1 z w1
 simp [execOp, hρ, this]
theorem run_bL2 (s : ByteArray) (w : World) : (Instr.build 155 #[(2, .string s)]).run Tryz.prog w = .ok (.agg ⟨[.int .i64 0, .int .i64 0, .string s, .slice none 0 0]⟩) w := by kernel_rfl
theorem st_bL2 (hE : EngB bq Tryz.prog E) {s : ByteArray} {x : Operand} (hk : K (.agg ⟨[.int .i64 0, .int .i64 0, .string s, .slice none 0 0]⟩) w) : E.stop ⟨d, .build 155 ⟨[(2, x)]⟩, ty, pos, aft, g⟩ [.string s] w K := by
 refine hE.det (v := .agg ⟨[.int .i64 0, .int .i64 0, .string s, .slice none 0 0]⟩) (fun w1 _ ρ hρ => ?_) hk
 simp only [opnds, b2_, b3_, b1_, and_true] at hρ
 have := run_bL2 s w1
 simp [execOp, hρ, this]
theorem run_bL3 (A : Option Addr) (m : Nat) (k : Nat) (w : World) : (Instr.build 155 #[(3, .slice A m k)]).run Tryz.prog w = .ok (.agg ⟨[.int .i64 0, .int .i64 0, .string ⟨#[]⟩, .slice A m k]⟩) w := by kernel_rfl
theorem st_bL3 (hE : EngB bq Tryz.prog E) {A : Option Addr} {m : Nat} {k : Nat} {x : Operand} (hk : K (.agg ⟨[.int .i64 0, .int .i64 0, .string ⟨#[]⟩, .slice A m k]⟩) w) : E.stop ⟨d, .build 155 ⟨[(3, x)]⟩, ty, pos, aft, g⟩ [.slice A m k] w K := by
 refine hE.det (v := .agg ⟨[.int .i64 0, .int .i64 0, .string ⟨#[]⟩, .slice A m k]⟩) (fun w1 _ ρ hρ => ?_) hk
 simp only [opnds, b2_, b3_, b1_, and_true] at hρ
 have := run_bL3 A m k w1
 simp [execOp, hρ, this]
theorem run_bL03 (c : Int) (A : Option Addr) (m : Nat) (k : Nat) (w : World) : (Instr.build 155 #[(0, .int .i64 c), (3, .slice A m k)]).run Tryz.prog w = .ok (.agg ⟨[.int .i64 c, .int .i64 0, .string ⟨#[]⟩, .slice A m k]⟩) w := by kernel_rfl
theorem st_bL03 (hE : EngB bq Tryz.prog E) {c : Int} {A : Option Addr} {m : Nat} {k : Nat} {x : Operand} {y : Operand} (hk : K (.agg ⟨[.int .i64 c, .int .i64 0, .string ⟨#[]⟩, .slice A m k]⟩) w) : E.stop ⟨d, .build 155 ⟨[(0, x), (3, y)]⟩, ty, pos, aft, g⟩ [.int .i64 c, .slice A m k] w K := by
 refine hE.det (v := .agg ⟨[.int .i64 c, .int .i64 0, .string ⟨#[]⟩, .slice A m k]⟩) (fun w1 _ ρ hρ => ?_) hk
 simp only [opnds, b2_, b3_, b1_, and_true] at hρ
 have := run_bL03 c A m k w1
 simp [execOp, hρ, this]
end
theorem l3truth_f {w : World} (b : Bool) : FC Tryz.prog 160 [.bool b] w fun r _ => r = .agg ⟨[.int .i64 0, .int .i64 (if b = true then 1 else 0), .string ⟨#[]⟩, .slice none 0 0]⟩ := by
 refine FC.intro (cs := []) Tryz.func160 (by kernel_rfl) fun E R hE hr hR => ?_
 cases b with
 | true =>
  conv => cbv
  refine st_alloc hr tL3 rfl fun q w1 hx1 hq0 => ?_
  have hq := hq0 _ (n1_ _)
  conv => cbv
  refine st_bL1 hE ?_
  conv => cbv
  refine st_putS hr (by kernel_rfl) hq (add_zero _).symm (by simp [zL3]) (by simp [Value.oneCell']) fun w2 hw2 hq2 => ?_
  simp only [zL3, a1_, a2_, a3_, a4_, a5_, a6_, a7_] at hq2
  conv => cbv
  refine st_cell hr tL3 rfl hq2.at ?_
  rw [hR]; exact ⟨hx1.then (hw2.bel hq hx1.size), rfl⟩
 | false =>
  conv => cbv
  refine st_alloc hr tL3 rfl fun q w1 hx1 hq0 => ?_
  have hq := hq0 _ (n1_ _)
  conv => cbv
  refine st_bL0 hE ?_
  conv => cbv
  refine st_putS hr (by kernel_rfl) hq (add_zero _).symm (by simp [zL3]) (by simp [Value.oneCell']) fun w2 hw2 hq2 => ?_
  simp only [zL3, a1_, a2_, a3_, a4_, a5_, a6_, a7_] at hq2
  conv => cbv
  refine st_cell hr tL3 rfl hq2.at ?_
  rw [hR]; exact ⟨hx1.then (hw2.bel hq hx1.size), rfl⟩
theorem l3same_f {w : World} {c c' nx ny : Int} {tx ty : ByteArray} {Ax Ay : Option Addr} {mx cx my cy : Nat} {xx xy : List ByteArray} (sx : Strs w Ax mx cx xx) (sy : Strs w Ay my cy xy) :
  FC Tryz.prog 161 [.agg ⟨[.int .i64 c, .int .i64 nx, .string tx, .slice Ax mx cx]⟩, .agg ⟨[.int .i64 c', .int .i64 ny, .string ty, .slice Ay my cy]⟩] w fun r _ => ∃ b : Bool, r = .bool b ∧ (b = true ↔ nx = ny ∧ tx = ty ∧ xx = xy) := by
 refine FC.intro (cs := []) Tryz.func161 (by kernel_rfl) fun E R hE hr hR => ?_
 have no : ∀ {w'}, Ext w w' → ¬ (nx = ny ∧ tx = ty ∧ xx = xy) → R (.bool false) w' := fun hx q => by
  rw [hR]; exact ⟨hx, false, rfl, (fun z => by cases z), fun z => absurd z q⟩
 have lx := sx.len
 have ly := sy.len
 have lxe := sx.le
 conv => cbv
 refine st_box hr fun q2 w1 hx h20 => ?_
 have h2 := h20 _ (n1_ _)
 clear h20
 conv => cbv
 refine st_box hr fun q3 w2 hx2 h30 => ?_
 have h3 := h30 _ hx.size
 replace h2 := h2.bel hx2
 replace hx := hx.trans hx2
 clear h30 hx2
 conv => cbv
 (refine st_fld hE fL3v1 fun p hp => ?_; (conv => cbv); refine st_load hE cI64 (by rw [hp]; exact (h2).at _ _ rfl) ?_; clear hp; (conv => cbv))
 (refine st_fld hE fL3v1 fun p hp => ?_; (conv => cbv); refine st_load hE cI64 (by rw [hp]; exact (h3).at _ _ rfl) ?_; clear hp; (conv => cbv))
 refine br (fun g => ?_) (fun g => ?_)
 ·have g : nx ≠ ny := by simpa [hE.cmp, cmpR] using g
  conv => cbv
  exact no hx (fun q => g q.1)
 have g1 : nx = ny := by simpa [hE.cmp, cmpR] using g
 clear g
 conv => cbv
 (refine st_fld hE fL3v2 fun p hp => ?_; (conv => cbv); refine st_load hE cStr (by rw [hp]; exact (h2).at _ _ rfl) ?_; clear hp; (conv => cbv))
 (refine st_fld hE fL3v2 fun p hp => ?_; (conv => cbv); refine st_load hE cStr (by rw [hp]; exact (h3).at _ _ rfl) ?_; clear hp; (conv => cbv))
 refine br (fun g => ?_) (fun g => ?_)
 ·have g : tx ≠ ty := by have g3 : E.scmp .neq tx ty = true := g; rw [hE.scmp, scmp_neq] at g3; exact g3
  conv => cbv
  exact no hx (fun q => g q.2.1)
 have g2 : tx = ty := by have g3 : ¬ E.scmp .neq tx ty = true := g; rw [hE.scmp, scmp_neq] at g3; exact Classical.byContradiction g3
 clear g
 conv => cbv
 (refine st_fld hE fL3v3 fun p hp => ?_; (conv => cbv); refine st_load hE cStrs (by rw [hp]; exact (h2).at _ _ rfl) ?_; clear hp; (conv => cbv))
 refine st_len hE tStrs fun x hx1 => ?_
 conv => cbv
 (refine st_fld hE fL3v3 fun p hp => ?_; (conv => cbv); refine st_load hE cStrs (by rw [hp]; exact (h3).at _ _ rfl) ?_; clear hp; (conv => cbv))
 refine st_len hE tStrs fun x2 hx2 => ?_
 conv => cbv
 refine br (fun g => ?_) (fun g => ?_)
 ·have g : x ≠ x2 := by simpa [hE.cmp, cmpR] using g
  conv => cbv
  exact no hx (fun q => g (by have := q.2.2; rw [this] at lx; omega))
 have g3 : mx = my := by
  have : x = x2 := by simpa [hE.cmp, cmpR] using g
  omega
 clear g
 conv => cbv
 (refine st_fld hE fL3v3 fun p hp => ?_; (conv => cbv); refine st_load hE cStrs (by rw [hp]; exact (h2).at _ _ rfl) ?_; clear hp; (conv => cbv))
 refine st_len hE tStrs fun x4 hx4 => ?_
 conv => cbv
 refine loop_rule hr (fun (s : Nat × Int) w' => s.1 ≤ mx ∧ s.2 = (s.1 : Int) ∧ Ext w w' ∧ Box w.heap.size 155 4 w' q3 [.int .i64 c', .int .i64 ny, .string ty, .slice Ay my cy] ∧ xx.take s.1 = xy.take s.1) (fun s => [(2, .pointer (some q2)), (3, .pointer (some q3)), (29, .slice Ax mx cx), (30, .int .i64 x4), (31, .int .i64 s.2)]) (fun s => mx - s.1) (0, 0)
  (by simp [Fits, lk]) ⟨by simp, by simp, hx, h3, by simp⟩ ?_
 clear hx h3 h2
 rintro I hI ⟨i, ii⟩ w' ⟨hi, hii, hx, h3, hall⟩
 simp only at hi hii hall
 obtain ⟨ii', hii'⟩ : ∃ z, z = ii + 1 := ⟨_, rfl⟩
 conv => cbv
 refine br (fun g => ?_) (fun g => ?_)
 ·have g : i < mx := by
   have : ii < x4 := by simpa [hE.cmp, cmpR] using g
   omega
  have e1 : E.ar .add .i64 ii 1 = ii' := by rw [hE.ar, hii']; exact wrap_in (by omega) (by omega)
  conv => cbv
  refine st_str hE tStrs (sx.ext hx) (k := i) (by omega) g fun p u hu1 _ hp => ?_
  conv => cbv
  refine st_load hE cStr hp ?_
  clear hp
  conv => cbv
  (refine st_fld hE fL3v3 fun p hp => ?_; (conv => cbv); refine st_load hE cStrs (by rw [hp]; exact (h3).at _ _ rfl) ?_; clear hp; (conv => cbv))
  refine st_str hE tStrs (sy.ext hx) (k := i) (by omega) (by omega) fun p2 y hy _ hp2 => ?_
  conv => cbv
  refine st_load hE cStr hp2 ?_
  conv => cbv
  refine br (fun g4 => ?_) (fun g4 => ?_)
  ·have g4 : y ≠ u := by have g5 : E.scmp .neq y u = true := g4; rw [hE.scmp, scmp_neq] at g5; exact g5
   conv => cbv
   exact no hx (fun q => g4 (by have := q.2.2; rw [this, hy] at hu1; exact Option.some.inj hu1))
  ·have g4 : y = u := by have g5 : ¬ E.scmp .neq y u = true := g4; rw [hE.scmp, scmp_neq] at g5; exact Classical.byContradiction g5
   conv => cbv
   simp only [e1]
   refine ⟨(i + 1, ii'), by simp [Fits, lk], hI _ _ ⟨by simp only; omega, by simp only; omega, hx, h3, ?_⟩, by simp only; omega⟩
   simp only
   rw [g4_, g4_, hall, hu1, hy, g4]
 ·have g : i = mx := by
   have : ¬ ii < x4 := by simpa [hE.cmp, cmpR] using g
   omega
  rw [g3_ (by omega), g3_ (by omega)] at hall
  conv => cbv
  rw [hR]; exact ⟨hx, true, rfl, by simp [g1, g2, hall]⟩
def opOK2 (op : Int) (a b : PV) : Prop := opOK op a b ∧ (op = 9 → a.n = 0 ∨ a.n = 1) ∧ (op = 19 ∨ op = 20 → a.k = b.k)
theorem sval_m {w : World} {A : Option Addr} {m c : Nat} {xs : List ByteArray} (h : Strs w A m c xs) : ValM w ⟨setV xs, A, m, c⟩ := ⟨h, by simp [setV, ByteArray.size]⟩
theorem nil_m {w : World} {p : PV} (h1 : p.xs = []) (h2 : p.tx.size ≤ 9223372036854775807) : ValM w ⟨p, none, 0, 0⟩ := ⟨by simp only; rw [h1]; exact snil w, h2⟩
theorem l3apply_f {w : World} {op : Int} (h8 : 8 ≤ op) (h24 : op ≤ 24) {A : Option Addr} {n c : Nat} {vs : List VV} (hcl : Cells w A (vs.flatMap lC)) (hn : vs.length = n) (hn3 : n ≤ 3) {x y : VV} (hvx : vs[0]? = some x) (hvy : vs[n - 1]? = some y) (hmx : ValM w x) (hmy : ValM w y) (hok : opOK2 op x.p y.p) :
  FC Tryz.prog 98 [.int .i64 op, .slice A n c] w fun r w' => LRes (DNew w w') w' (opR op x.p y.p) r := by
 refine FC.intro (cs := []) Tryz.func98 (by kernel_rfl) fun E R hE hr hR => ?_
 obtain ⟨aA, hA, hcx⟩ := fl_at lC_len hcl (by omega) hvx
 have hn1 : 1 ≤ n := by have := (List.getElem?_eq_some_iff.1 hvx).1; omega
 obtain ⟨a2, hA2, hcy⟩ := fl_at lC_len hcl (by omega) hvy
 rw [hA] at hA2; cases hA2
 obtain ⟨⟨kx, nx, tx, xx⟩, Ax, mx, cx⟩ := x
 obtain ⟨⟨ky, ny, ty, xy⟩, Ay, my, cy⟩ := y
 have sx := hmx.1
 have sy := hmy.1
 simp only at sx sy hok
 obtain ⟨⟨ok8, ok10, okA, okS⟩, ok9, okE⟩ := hok
 simp only at ok8 ok10 okA okS ok9 okE
 obtain ⟨T, hT0⟩ : ∃ T, T = opR op ⟨kx, nx, tx, xx⟩ ⟨ky, ny, ty, xy⟩ := ⟨_, rfl⟩
 replace hR : R = fun r w' => Ext w w' ∧ LRes (DNew w w') w' T r := by rw [hR, hT0]
 obtain ⟨nl, hnl⟩ : ∃ z : Int, z = (n : Int) - 1 := ⟨_, rfl⟩
 conv => cbv
 refine st_alloc hr tL3 rfl fun q4 w1 hx1 h40 => ?_
 have h4 := h40 _ (n1_ _)
 have f4 := bx_form h4
 clear h40
 conv => cbv
 refine st_idx hE sL3 hA (by omega) (by omega) fun p hp => ?_
 conv => cbv
 refine st_loadS hE tL3 (vs := [.int .i64 0, .int .i64 nx, .string tx, .slice Ax mx cx]) rfl (by rw [hp]; exact fun j u hu => hx1.cell (hcx j u hu)) ?_
 clear hp
 conv => cbv
 refine st_alloc hr tL3 rfl fun q5 w2 hx2 h50 => ?_
 have h5 := h50 w.heap.size hx1.size
 have f5 := bx_form (h50 _ (n1_ _))
 clear h50
 conv => cbv
 refine st_putS hr (by kernel_rfl) h5 (add_zero _).symm (by simp [zL3]) (by simp [Value.oneCell']) fun w3 hw3 h53 => ?_
 simp only [zL3, a1_, a2_, a3_, a4_, a5_, a6_, a7_] at h53
 have s2 := hx2.size
 have s1 := hx1.size
 have hx3 : Ext w w3 := (hx1.trans hx2).then (hw3.bel h5 (by omega))
 replace h4 := (h4.bel hx2).wr hw3 (bx_apart f4.2.2 f5.2.2 (by omega))
 have s3 := hw3.size
 conv => cbv
 refine st_len hE sL3 fun xl hxl => ?_
 have el : E.ar .sub .i64 xl 1 = nl := by rw [hE.ar, show arR .sub .i64 xl 1 = IntKind.i64.wrap (xl - 1) from rfl, wrap_in (by omega) (by omega)]; omega
 conv => cbv
 simp only [el]
 refine st_idx hE sL3 hA (by omega) (by omega) fun p hp => ?_
 rw [show nl.toNat = n - 1 by omega] at hp
 conv => cbv
 refine st_loadS hE tL3 (vs := [.int .i64 0, .int .i64 ny, .string ty, .slice Ay my cy]) rfl (by rw [hp]; exact fun j u hu => hx3.cell (hcy j u hu)) ?_
 clear hp
 conv => cbv
 refine st_alloc hr tL3 rfl fun q6 w4 hx4 h60 => ?_
 have h6 := h60 w.heap.size (by omega)
 have f6 := bx_form (h60 _ (n1_ _))
 clear h60
 conv => cbv
 refine st_putS hr (by kernel_rfl) h6 (add_zero _).symm (by simp [zL3]) (by simp [Value.oneCell']) fun w5 hw5 h65 => ?_
 simp only [zL3, a1_, a2_, a3_, a4_, a5_, a6_, a7_] at h65
 have s4 := hx4.size
 have hx : Ext w w5 := (hx3.trans hx4).then (hw5.bel h6 (by omega))
 replace h4 := (h4.bel hx4).wr hw5 (bx_apart f4.2.2 f6.2.2 (by omega))
 have h5 := (h53.bel hx4).wr hw5 (bx_apart f5.2.2 f6.2.2 (by omega))
 have h6 := h65
 have s5 := hx.size
 have f45 := (bx_form h4).2.1
 clear hx1 hx2 hx3 hx4 hw3 hw5 h53 h65 hxl el
 have finT : ∀ (b : Bool) (z : Int) (w' : World), Ext w w' → T = .inr (truthV b) → z = (if b = true then 1 else 0) → R (.agg ⟨[.int .i64 0, .int .i64 z, .string ⟨#[]⟩, .slice none 0 0]⟩) w' := fun b z w' hx e ez => by
  rw [hR, e, ez]; exact ⟨hx, none, 0, 0, rfl, nil_m rfl (by simp [truthV, ByteArray.size]), inD_none⟩
 have finN : ∀ (i : Int) (w' : World), Ext w w' → T = .inr (numV i) → R (.agg ⟨[.int .i64 0, .int .i64 i, .string ⟨#[]⟩, .slice none 0 0]⟩) w' := fun i w' hx e => by
  rw [hR, e]; exact ⟨hx, none, 0, 0, rfl, nil_m rfl (by simp [numV, ByteArray.size]), inD_none⟩
 have finS : ∀ (A : Option Addr) (m c : Nat) (xs : List ByteArray) (w6 w' : World) (B : Nat), Ext w w' → T = .inr (setV xs) → Strs w6 A m c xs → Own B 9 1 w6 A m c (xs.map .string) → Wr (some q4) w6 w' → w5.heap.size ≤ B → R (.agg ⟨[.int .i64 0, .int .i64 0, .string ⟨#[]⟩, .slice A m c]⟩) w' := fun A m c xs w6 w' B hx e hs ho hw hB => by
  have ho9 := ho.wr hw (own_low ho (by omega) f4.2.2).1
  rw [hR, e]; exact ⟨hx, A, m, c, rfl, sval_m (ho9.strs hs.5), inD_own ho9 fun b h1 h2 => ⟨by omega, h2⟩⟩
 have finE : ∀ (c n : Int) (tx : ByteArray) (A : Option Addr) (m k : Nat) (w' : World), Ext w w' → T = .inl c → (c = 1 ∨ c = 2 ∨ c = 3) → R (.agg ⟨[.int .i64 c, .int .i64 n, .string tx, .slice A m k]⟩) w' := fun c n tx A m k w' hx e hc => by
  rw [hR, e]; exact ⟨hx, hc, n, tx, A, m, k, rfl⟩
 conv => cbv
 refine br (fun g => ?_) (fun g => ?_)
 ·have g : op = 8 := by simpa [hE.cmp, cmpR] using g
  conv => cbv
  (refine st_fld hE fL3v1 fun p hp => ?_; (conv => cbv); refine st_load hE cI64 (by rw [hp]; exact (h5).at _ _ rfl) ?_; clear hp; (conv => cbv))
  refine st_f hr (sCalc_f 2 0 nx (by unfold fits; omega) (ok8 g)) fun r w6 hx6 ⟨i, cc, ev, hco⟩ => ?_
  subst ev
  replace h4 := h4.bel hx6
  have hx67 := hx.trans hx6
  have s6 := hx67.size
  have hT8 : T = calcR 2 0 nx := by rw [hT0]; unfold opR; rw [if_pos g]
  conv => cbv
  refine st_bL01 hE ?_
  conv => cbv
  refine st_putS hr (by kernel_rfl) h4 (add_zero _).symm (by simp [zL3]) (by simp [Value.oneCell']) fun w9 hw9 h49 => ?_
  simp only [zL3, a1_, a2_, a3_, a4_, a5_, a6_, a7_] at h49
  have hx9 := hx67.then (hw9.bel h4 (by omega))
  conv => cbv
  refine st_cell hr tL3 rfl h49.at ?_
  conv => cbv
  rcases calc_R (by omega) (by omega) hco with ⟨e0, e⟩ | ⟨e0, e⟩
  ·rw [e0]; exact finN i w9 hx9 (by rw [hT8, e])
  ·exact finE cc i _ _ _ _ w9 hx9 (by rw [hT8, e]) (by omega)
 have g8 : op ≠ 8 := by simpa [hE.cmp, cmpR] using g
 clear g
 conv => cbv
 refine br (fun g => ?_) (fun g => ?_)
 ·have g : op = 9 := by simpa [hE.cmp, cmpR] using g
  conv => cbv
  (refine st_fld hE fL3v1 fun p hp => ?_; (conv => cbv); refine st_load hE cI64 (by rw [hp]; exact (h5).at _ _ rfl) ?_; clear hp; (conv => cbv))
  obtain ⟨nz, hnz⟩ : ∃ z, z = 1 - nx := ⟨_, rfl⟩
  have ok9' := ok9 g
  have en : E.ar .sub .i64 1 nx = nz := by rw [hE.ar, show arR .sub .i64 1 nx = IntKind.i64.wrap (1 - nx) from rfl, wrap_in (by omega) (by omega)]; omega
  simp only [en]
  refine st_bL1 hE ?_
  conv => cbv
  refine st_putS hr (by kernel_rfl) h4 (add_zero _).symm (by simp [zL3]) (by simp [Value.oneCell']) fun w9 hw9 h49 => ?_
  simp only [zL3, a1_, a2_, a3_, a4_, a5_, a6_, a7_] at h49
  have hx9 := hx.then (hw9.bel h4 (by omega))
  conv => cbv
  refine st_cell hr tL3 rfl h49.at ?_
  conv => cbv
  exact finT (decide (nx = 0)) nz w9 hx9 (by rw [hT0]; unfold opR; rw [if_neg g8, if_pos g]) (by
   rcases ok9' with q | q
   ·rw [hnz, q]; rfl
   ·rw [hnz, q]; rfl)
 have g9 : op ≠ 9 := by simpa [hE.cmp, cmpR] using g
 clear g
 conv => cbv
 refine br (fun g => ?_) (fun g => ?_)
 ·have g : op = 10 := by simpa [hE.cmp, cmpR] using g
  conv => cbv
  (refine st_fld hE fL3v3 fun p hp => ?_; (conv => cbv); refine st_load hE cStrs (by rw [hp]; exact (h5).at _ _ rfl) ?_; clear hp; (conv => cbv))
  refine st_len hE tStrs fun i hi => ?_
  conv => cbv
  refine st_bL1 hE ?_
  conv => cbv
  refine st_putS hr (by kernel_rfl) h4 (add_zero _).symm (by simp [zL3]) (by simp [Value.oneCell']) fun w9 hw9 h49 => ?_
  simp only [zL3, a1_, a2_, a3_, a4_, a5_, a6_, a7_] at h49
  have hx9 := hx.then (hw9.bel h4 (by omega))
  conv => cbv
  refine st_cell hr tL3 rfl h49.at ?_
  conv => cbv
  exact finN i w9 hx9 (by rw [hT0]; unfold opR; rw [if_neg g8, if_neg g9, if_pos g]; simp only; rw [hi, sx.len])
 have g10 : op ≠ 10 := by simpa [hE.cmp, cmpR] using g
 clear g
 conv => cbv
 refine br (fun g => ?_) (fun g => ?_)
 ·have g0 := g
  have g : op = 11 := by simpa [hE.cmp, cmpR] using g
  conv => cbv
  refine br (fun _ => ?_) (fun q => absurd g0 q)
  conv => cbv
  obtain ⟨o1, ho1⟩ : ∃ z, z = op - 11 := ⟨_, rfl⟩
  obtain ⟨o2, ho2⟩ : ∃ z, z = o1 + 1 := ⟨_, rfl⟩
  have e1 : E.ar .sub .i64 op 11 = o1 := by rw [hE.ar, show arR .sub .i64 op 11 = IntKind.i64.wrap (op - 11) from rfl, wrap_in (by omega) (by omega)]; omega
  have e2 : E.ar .add .i64 o1 1 = o2 := by rw [hE.ar, ho2]; exact wrap_in (by omega) (by omega)
  simp only [e1, e2]
  (refine st_fld hE fL3v1 fun p hp => ?_; (conv => cbv); refine st_load hE cI64 (by rw [hp]; exact (h5).at _ _ rfl) ?_; clear hp; (conv => cbv))
  (refine st_fld hE fL3v1 fun p hp => ?_; (conv => cbv); refine st_load hE cI64 (by rw [hp]; exact (h6).at _ _ rfl) ?_; clear hp; (conv => cbv))
  have okn := okA ⟨by omega, by omega⟩
  refine st_f hr (sCalc_f o2 nx ny okn.1 okn.2) fun r w6 hx6 ⟨i, cc, ev, hco⟩ => ?_
  subst ev
  replace h4 := h4.bel hx6
  have hx67 := hx.trans hx6
  have s6 := hx67.size
  have hT8 : T = calcR o2 nx ny := by rw [hT0, show o2 = op - 10 by omega]; unfold opR; rw [if_neg g8, if_neg g9, if_neg g10, if_pos ⟨by omega, by omega⟩]
  conv => cbv
  refine st_bL01 hE ?_
  conv => cbv
  refine st_putS hr (by kernel_rfl) h4 (add_zero _).symm (by simp [zL3]) (by simp [Value.oneCell']) fun w9 hw9 h49 => ?_
  simp only [zL3, a1_, a2_, a3_, a4_, a5_, a6_, a7_] at h49
  have hx9 := hx67.then (hw9.bel h4 (by omega))
  conv => cbv
  refine st_cell hr tL3 rfl h49.at ?_
  conv => cbv
  rcases calc_R (by omega) (by omega) hco with ⟨e0, e⟩ | ⟨e0, e⟩
  ·rw [e0]; exact finN i w9 hx9 (by rw [hT8, e])
  ·exact finE cc i _ _ _ _ w9 hx9 (by rw [hT8, e]) (by omega)
 have g11 : op ≠ 11 := by simpa [hE.cmp, cmpR] using g
 clear g
 conv => cbv
 refine br (fun g => ?_) (fun g => ?_)
 ·have g0 := g
  have g : op = 12 := by simpa [hE.cmp, cmpR] using g
  conv => cbv
  refine br (fun _ => ?_) (fun q => absurd g0 q)
  conv => cbv
  obtain ⟨o1, ho1⟩ : ∃ z, z = op - 11 := ⟨_, rfl⟩
  obtain ⟨o2, ho2⟩ : ∃ z, z = o1 + 1 := ⟨_, rfl⟩
  have e1 : E.ar .sub .i64 op 11 = o1 := by rw [hE.ar, show arR .sub .i64 op 11 = IntKind.i64.wrap (op - 11) from rfl, wrap_in (by omega) (by omega)]; omega
  have e2 : E.ar .add .i64 o1 1 = o2 := by rw [hE.ar, ho2]; exact wrap_in (by omega) (by omega)
  simp only [e1, e2]
  (refine st_fld hE fL3v1 fun p hp => ?_; (conv => cbv); refine st_load hE cI64 (by rw [hp]; exact (h5).at _ _ rfl) ?_; clear hp; (conv => cbv))
  (refine st_fld hE fL3v1 fun p hp => ?_; (conv => cbv); refine st_load hE cI64 (by rw [hp]; exact (h6).at _ _ rfl) ?_; clear hp; (conv => cbv))
  have okn := okA ⟨by omega, by omega⟩
  refine st_f hr (sCalc_f o2 nx ny okn.1 okn.2) fun r w6 hx6 ⟨i, cc, ev, hco⟩ => ?_
  subst ev
  replace h4 := h4.bel hx6
  have hx67 := hx.trans hx6
  have s6 := hx67.size
  have hT8 : T = calcR o2 nx ny := by rw [hT0, show o2 = op - 10 by omega]; unfold opR; rw [if_neg g8, if_neg g9, if_neg g10, if_pos ⟨by omega, by omega⟩]
  conv => cbv
  refine st_bL01 hE ?_
  conv => cbv
  refine st_putS hr (by kernel_rfl) h4 (add_zero _).symm (by simp [zL3]) (by simp [Value.oneCell']) fun w9 hw9 h49 => ?_
  simp only [zL3, a1_, a2_, a3_, a4_, a5_, a6_, a7_] at h49
  have hx9 := hx67.then (hw9.bel h4 (by omega))
  conv => cbv
  refine st_cell hr tL3 rfl h49.at ?_
  conv => cbv
  rcases calc_R (by omega) (by omega) hco with ⟨e0, e⟩ | ⟨e0, e⟩
  ·rw [e0]; exact finN i w9 hx9 (by rw [hT8, e])
  ·exact finE cc i _ _ _ _ w9 hx9 (by rw [hT8, e]) (by omega)
 have g12 : op ≠ 12 := by simpa [hE.cmp, cmpR] using g
 clear g
 conv => cbv
 refine br (fun g => ?_) (fun g => ?_)
 ·have g0 := g
  have g : op = 13 := by simpa [hE.cmp, cmpR] using g
  conv => cbv
  refine br (fun _ => ?_) (fun q => absurd g0 q)
  conv => cbv
  obtain ⟨o1, ho1⟩ : ∃ z, z = op - 11 := ⟨_, rfl⟩
  obtain ⟨o2, ho2⟩ : ∃ z, z = o1 + 1 := ⟨_, rfl⟩
  have e1 : E.ar .sub .i64 op 11 = o1 := by rw [hE.ar, show arR .sub .i64 op 11 = IntKind.i64.wrap (op - 11) from rfl, wrap_in (by omega) (by omega)]; omega
  have e2 : E.ar .add .i64 o1 1 = o2 := by rw [hE.ar, ho2]; exact wrap_in (by omega) (by omega)
  simp only [e1, e2]
  (refine st_fld hE fL3v1 fun p hp => ?_; (conv => cbv); refine st_load hE cI64 (by rw [hp]; exact (h5).at _ _ rfl) ?_; clear hp; (conv => cbv))
  (refine st_fld hE fL3v1 fun p hp => ?_; (conv => cbv); refine st_load hE cI64 (by rw [hp]; exact (h6).at _ _ rfl) ?_; clear hp; (conv => cbv))
  have okn := okA ⟨by omega, by omega⟩
  refine st_f hr (sCalc_f o2 nx ny okn.1 okn.2) fun r w6 hx6 ⟨i, cc, ev, hco⟩ => ?_
  subst ev
  replace h4 := h4.bel hx6
  have hx67 := hx.trans hx6
  have s6 := hx67.size
  have hT8 : T = calcR o2 nx ny := by rw [hT0, show o2 = op - 10 by omega]; unfold opR; rw [if_neg g8, if_neg g9, if_neg g10, if_pos ⟨by omega, by omega⟩]
  conv => cbv
  refine st_bL01 hE ?_
  conv => cbv
  refine st_putS hr (by kernel_rfl) h4 (add_zero _).symm (by simp [zL3]) (by simp [Value.oneCell']) fun w9 hw9 h49 => ?_
  simp only [zL3, a1_, a2_, a3_, a4_, a5_, a6_, a7_] at h49
  have hx9 := hx67.then (hw9.bel h4 (by omega))
  conv => cbv
  refine st_cell hr tL3 rfl h49.at ?_
  conv => cbv
  rcases calc_R (by omega) (by omega) hco with ⟨e0, e⟩ | ⟨e0, e⟩
  ·rw [e0]; exact finN i w9 hx9 (by rw [hT8, e])
  ·exact finE cc i _ _ _ _ w9 hx9 (by rw [hT8, e]) (by omega)
 have g13 : op ≠ 13 := by simpa [hE.cmp, cmpR] using g
 clear g
 conv => cbv
 refine br (fun g => ?_) (fun g => ?_)
 ·have g0 := g
  have g : op = 14 := by simpa [hE.cmp, cmpR] using g
  conv => cbv
  refine br (fun _ => ?_) (fun q => absurd g0 q)
  conv => cbv
  obtain ⟨o1, ho1⟩ : ∃ z, z = op - 11 := ⟨_, rfl⟩
  obtain ⟨o2, ho2⟩ : ∃ z, z = o1 + 1 := ⟨_, rfl⟩
  have e1 : E.ar .sub .i64 op 11 = o1 := by rw [hE.ar, show arR .sub .i64 op 11 = IntKind.i64.wrap (op - 11) from rfl, wrap_in (by omega) (by omega)]; omega
  have e2 : E.ar .add .i64 o1 1 = o2 := by rw [hE.ar, ho2]; exact wrap_in (by omega) (by omega)
  simp only [e1, e2]
  (refine st_fld hE fL3v1 fun p hp => ?_; (conv => cbv); refine st_load hE cI64 (by rw [hp]; exact (h5).at _ _ rfl) ?_; clear hp; (conv => cbv))
  (refine st_fld hE fL3v1 fun p hp => ?_; (conv => cbv); refine st_load hE cI64 (by rw [hp]; exact (h6).at _ _ rfl) ?_; clear hp; (conv => cbv))
  have okn := okA ⟨by omega, by omega⟩
  refine st_f hr (sCalc_f o2 nx ny okn.1 okn.2) fun r w6 hx6 ⟨i, cc, ev, hco⟩ => ?_
  subst ev
  replace h4 := h4.bel hx6
  have hx67 := hx.trans hx6
  have s6 := hx67.size
  have hT8 : T = calcR o2 nx ny := by rw [hT0, show o2 = op - 10 by omega]; unfold opR; rw [if_neg g8, if_neg g9, if_neg g10, if_pos ⟨by omega, by omega⟩]
  conv => cbv
  refine st_bL01 hE ?_
  conv => cbv
  refine st_putS hr (by kernel_rfl) h4 (add_zero _).symm (by simp [zL3]) (by simp [Value.oneCell']) fun w9 hw9 h49 => ?_
  simp only [zL3, a1_, a2_, a3_, a4_, a5_, a6_, a7_] at h49
  have hx9 := hx67.then (hw9.bel h4 (by omega))
  conv => cbv
  refine st_cell hr tL3 rfl h49.at ?_
  conv => cbv
  rcases calc_R (by omega) (by omega) hco with ⟨e0, e⟩ | ⟨e0, e⟩
  ·rw [e0]; exact finN i w9 hx9 (by rw [hT8, e])
  ·exact finE cc i _ _ _ _ w9 hx9 (by rw [hT8, e]) (by omega)
 have g14 : op ≠ 14 := by simpa [hE.cmp, cmpR] using g
 clear g
 conv => cbv
 refine br (fun g => ?_) (fun g => ?_)
 ·have g0 := g
  have g : op = 15 := by simpa [hE.cmp, cmpR] using g
  conv => cbv
  obtain ⟨o1, ho1⟩ : ∃ z, z = op - 11 := ⟨_, rfl⟩
  obtain ⟨o2, ho2⟩ : ∃ z, z = o1 + 1 := ⟨_, rfl⟩
  have e1 : E.ar .sub .i64 op 11 = o1 := by rw [hE.ar, show arR .sub .i64 op 11 = IntKind.i64.wrap (op - 11) from rfl, wrap_in (by omega) (by omega)]; omega
  have e2 : E.ar .add .i64 o1 1 = o2 := by rw [hE.ar, ho2]; exact wrap_in (by omega) (by omega)
  simp only [e1, e2]
  (refine st_fld hE fL3v1 fun p hp => ?_; (conv => cbv); refine st_load hE cI64 (by rw [hp]; exact (h5).at _ _ rfl) ?_; clear hp; (conv => cbv))
  (refine st_fld hE fL3v1 fun p hp => ?_; (conv => cbv); refine st_load hE cI64 (by rw [hp]; exact (h6).at _ _ rfl) ?_; clear hp; (conv => cbv))
  have okn := okA ⟨by omega, by omega⟩
  refine st_f hr (sCalc_f o2 nx ny okn.1 okn.2) fun r w6 hx6 ⟨i, cc, ev, hco⟩ => ?_
  subst ev
  replace h4 := h4.bel hx6
  have hx67 := hx.trans hx6
  have s6 := hx67.size
  have hT8 : T = calcR o2 nx ny := by rw [hT0, show o2 = op - 10 by omega]; unfold opR; rw [if_neg g8, if_neg g9, if_neg g10, if_pos ⟨by omega, by omega⟩]
  conv => cbv
  refine st_bL01 hE ?_
  conv => cbv
  refine st_putS hr (by kernel_rfl) h4 (add_zero _).symm (by simp [zL3]) (by simp [Value.oneCell']) fun w9 hw9 h49 => ?_
  simp only [zL3, a1_, a2_, a3_, a4_, a5_, a6_, a7_] at h49
  have hx9 := hx67.then (hw9.bel h4 (by omega))
  conv => cbv
  refine st_cell hr tL3 rfl h49.at ?_
  conv => cbv
  rcases calc_R (by omega) (by omega) hco with ⟨e0, e⟩ | ⟨e0, e⟩
  ·rw [e0]; exact finN i w9 hx9 (by rw [hT8, e])
  ·exact finE cc i _ _ _ _ w9 hx9 (by rw [hT8, e]) (by omega)
 have g15 : op ≠ 15 := by simpa [hE.cmp, cmpR] using g
 clear g
 conv => cbv
 refine br (fun g => ?_) (fun g => ?_)
 ·have g : op = 16 := by simpa [hE.cmp, cmpR] using g
  conv => cbv
  have oks := okS (.inl ⟨by omega, by omega⟩)
  have lx := sx.len
  have ly := sy.len
  have l1 := oks.1.2.2
  have l2 := oks.2.2.2
  (refine st_fld hE fL3v3 fun p hp => ?_; (conv => cbv); refine st_load hE cStrs (by rw [hp]; exact (h5).at _ _ rfl) ?_; clear hp; (conv => cbv))
  (refine st_fld hE fL3v3 fun p hp => ?_; (conv => cbv); refine st_load hE cStrs (by rw [hp]; exact (h6).at _ _ rfl) ?_; clear hp; (conv => cbv))
  refine st_f hr (sUnion_f (sx.ext hx) (sy.ext hx) (by omega) (by omega)) fun r w6 hx6 ⟨zs, kk, A1, n1, c1, ev, hun, hst, hown⟩ => ?_
  subst ev
  replace h4 := h4.bel hx6
  have hx67 := hx.trans hx6
  have s6 := hx67.size
  have hT8 : T = if 64 < (unionS xx xy).length then .inl 3 else .inr (setV (unionS xx xy)) := by
   rw [hT0]; unfold opR; rw [if_neg g8, if_neg g9, if_neg g10, if_neg (by omega), if_pos g]
  conv => cbv
  refine st_bL03 hE ?_
  conv => cbv
  refine st_putS hr (by kernel_rfl) h4 (add_zero _).symm (by simp [zL3]) (by simp [Value.oneCell']) fun w9 hw9 h49 => ?_
  simp only [zL3, a1_, a2_, a3_, a4_, a5_, a6_, a7_] at h49
  have hx9 := hx67.then (hw9.bel h4 (by omega))
  conv => cbv
  refine st_cell hr tL3 rfl h49.at ?_
  conv => cbv
  rcases hun with ⟨hno, _⟩ | ⟨_, _, qq, hso, hor⟩
  ·exact absurd oks hno
  ·have hqq := union_q oks.1 oks.2 hso
   rcases hor with ⟨hl, e1, e2⟩ | ⟨hl, e1, e2⟩
   ·exact finE kk _ _ _ _ _ w9 hx9 (by rw [hT8, if_pos (by rw [← hqq]; exact hl), e2]) (by omega)
   ·rw [e2]; exact finS A1 n1 c1 zs _ w9 _ hx9 (by rw [hT8, if_neg (by rw [← hqq]; omega), e1, hqq]) hst hown hw9 (n1_ _)
 have g16 : op ≠ 16 := by simpa [hE.cmp, cmpR] using g
 clear g
 conv => cbv
 refine br (fun g => ?_) (fun g => ?_)
 ·have g : op = 17 := by simpa [hE.cmp, cmpR] using g
  conv => cbv
  have oks := okS (.inl ⟨by omega, by omega⟩)
  have lx := sx.len
  have ly := sy.len
  have l1 := oks.1.2.2
  have l2 := oks.2.2.2
  (refine st_fld hE fL3v3 fun p hp => ?_; (conv => cbv); refine st_load hE cStrs (by rw [hp]; exact (h5).at _ _ rfl) ?_; clear hp; (conv => cbv))
  (refine st_fld hE fL3v3 fun p hp => ?_; (conv => cbv); refine st_load hE cStrs (by rw [hp]; exact (h6).at _ _ rfl) ?_; clear hp; (conv => cbv))
  refine st_f hr (sMeet_f (sx.ext hx) (sy.ext hx) (by omega) (by omega)) fun r w6 hx6 ⟨zs, hop, A1, n1, c1, ev, hst, hown⟩ => ?_
  subst ev
  replace h4 := h4.bel hx6
  have hx67 := hx.trans hx6
  have s6 := hx67.size
  have hzs : zs = picked xx xy true := by
   rcases hop with ⟨_, _, e⟩ | ⟨q, _⟩
   ·exact e
   ·exact absurd oks q
  conv => cbv
  refine st_bL3 hE ?_
  conv => cbv
  refine st_putS hr (by kernel_rfl) h4 (add_zero _).symm (by simp [zL3]) (by simp [Value.oneCell']) fun w9 hw9 h49 => ?_
  simp only [zL3, a1_, a2_, a3_, a4_, a5_, a6_, a7_] at h49
  have hx9 := hx67.then (hw9.bel h4 (by omega))
  conv => cbv
  refine st_cell hr tL3 rfl h49.at ?_
  conv => cbv
  exact finS A1 n1 c1 zs _ w9 _ hx9 (by rw [hT0, hzs]; unfold opR; rw [if_neg g8, if_neg g9, if_neg g10, if_neg (by omega), if_neg g16, if_pos g]) hst hown hw9 (n1_ _)
 have g17 : op ≠ 17 := by simpa [hE.cmp, cmpR] using g
 clear g
 conv => cbv
 refine br (fun g => ?_) (fun g => ?_)
 ·have g : op = 18 := by simpa [hE.cmp, cmpR] using g
  conv => cbv
  have oks := okS (.inl ⟨by omega, by omega⟩)
  have lx := sx.len
  have ly := sy.len
  have l1 := oks.1.2.2
  have l2 := oks.2.2.2
  (refine st_fld hE fL3v3 fun p hp => ?_; (conv => cbv); refine st_load hE cStrs (by rw [hp]; exact (h5).at _ _ rfl) ?_; clear hp; (conv => cbv))
  (refine st_fld hE fL3v3 fun p hp => ?_; (conv => cbv); refine st_load hE cStrs (by rw [hp]; exact (h6).at _ _ rfl) ?_; clear hp; (conv => cbv))
  refine st_f hr (sMinus_f (sx.ext hx) (sy.ext hx) (by omega) (by omega)) fun r w6 hx6 ⟨zs, hop, A1, n1, c1, ev, hst, hown⟩ => ?_
  subst ev
  replace h4 := h4.bel hx6
  have hx67 := hx.trans hx6
  have s6 := hx67.size
  have hzs : zs = picked xx xy false := by
   rcases hop with ⟨_, _, e⟩ | ⟨q, _⟩
   ·exact e
   ·exact absurd oks q
  conv => cbv
  refine st_bL3 hE ?_
  conv => cbv
  refine st_putS hr (by kernel_rfl) h4 (add_zero _).symm (by simp [zL3]) (by simp [Value.oneCell']) fun w9 hw9 h49 => ?_
  simp only [zL3, a1_, a2_, a3_, a4_, a5_, a6_, a7_] at h49
  have hx9 := hx67.then (hw9.bel h4 (by omega))
  conv => cbv
  refine st_cell hr tL3 rfl h49.at ?_
  conv => cbv
  exact finS A1 n1 c1 zs _ w9 _ hx9 (by rw [hT0, hzs]; unfold opR; rw [if_neg g8, if_neg g9, if_neg g10, if_neg (by omega), if_neg g16, if_neg g17, if_pos g]) hst hown hw9 (n1_ _)
 have g18 : op ≠ 18 := by simpa [hE.cmp, cmpR] using g
 clear g
 conv => cbv
 refine br (fun g => ?_) (fun g => ?_)
 ·have g : op = 19 := by simpa [hE.cmp, cmpR] using g
  conv => cbv
  refine st_loadS hE tL3 rfl h5.at ?_
  conv => cbv
  refine st_loadS hE tL3 rfl h6.at ?_
  conv => cbv
  refine st_f hr (l3same_f (c := 0) (c' := 0) (nx := nx) (ny := ny) (tx := tx) (ty := ty) (cx := cx) (cy := cy) (sx.ext hx) (sy.ext hx)) fun r w6 hx6 ⟨b, ev, hb2⟩ => ?_
  subst ev
  replace h4 := h4.bel hx6
  have hx67 := hx.trans hx6
  have heq : b = decide ((⟨kx, nx, tx, xx⟩ : PV) = ⟨ky, ny, ty, xy⟩) := Bool.eq_iff_iff.2 (by
   rw [hb2, decide_eq_true_iff]
   have hk := okE (by omega)
   constructor
   ·rintro ⟨e1, e2, e3⟩; rw [hk, e1, e2, e3]
   ·intro e; cases e; exact ⟨rfl, rfl, rfl⟩)
  conv => cbv
  obtain ⟨tz, htz⟩ : ∃ z : Int, z = (if b = true then 1 else 0) := ⟨_, rfl⟩
  have htr := l3truth_f (w := w6) b
  rw [← htz] at htr
  refine st_f hr htr fun r w7 hx7 ev => ?_
  subst ev
  replace h4 := h4.bel hx7
  have hx78 := hx67.trans hx7
  have s6 := hx78.size
  conv => cbv
  refine st_putS hr (by kernel_rfl) h4 (add_zero _).symm (by simp [zL3]) (by simp [Value.oneCell']) fun w9 hw9 h49 => ?_
  simp only [zL3, a1_, a2_, a3_, a4_, a5_, a6_, a7_] at h49
  have hx9 := hx78.then (hw9.bel h4 (by omega))
  conv => cbv
  refine st_cell hr tL3 rfl h49.at ?_
  conv => cbv
  exact finT b tz w9 hx9 (by rw [hT0, heq]; unfold opR; rw [if_neg g8, if_neg g9, if_neg g10, if_neg (by omega), if_neg g16, if_neg g17, if_neg g18, if_pos g]) htz
 have g19 : op ≠ 19 := by simpa [hE.cmp, cmpR] using g
 clear g
 conv => cbv
 refine br (fun g => ?_) (fun g => ?_)
 ·have g : op = 20 := by simpa [hE.cmp, cmpR] using g
  conv => cbv
  refine st_loadS hE tL3 rfl h5.at ?_
  conv => cbv
  refine st_loadS hE tL3 rfl h6.at ?_
  conv => cbv
  refine st_f hr (l3same_f (c := 0) (c' := 0) (nx := nx) (ny := ny) (tx := tx) (ty := ty) (cx := cx) (cy := cy) (sx.ext hx) (sy.ext hx)) fun r w6 hx6 ⟨b, ev, hb2⟩ => ?_
  subst ev
  replace h4 := h4.bel hx6
  have hx67 := hx.trans hx6
  have heq : b = decide ((⟨kx, nx, tx, xx⟩ : PV) = ⟨ky, ny, ty, xy⟩) := Bool.eq_iff_iff.2 (by
   rw [hb2, decide_eq_true_iff]
   have hk := okE (by omega)
   constructor
   ·rintro ⟨e1, e2, e3⟩; rw [hk, e1, e2, e3]
   ·intro e; cases e; exact ⟨rfl, rfl, rfl⟩)
  cases b with
  | true =>
   conv => cbv
   obtain ⟨tz, htz⟩ : ∃ z : Int, z = (if (false : Bool) = true then 1 else 0) := ⟨_, rfl⟩
   have htr := l3truth_f (w := w6) false
   rw [← htz] at htr
   refine st_f hr htr fun r w7 hx7 ev => ?_
   subst ev
   replace h4 := h4.bel hx7
   have hx78 := hx67.trans hx7
   have s6 := hx78.size
   conv => cbv
   refine st_putS hr (by kernel_rfl) h4 (add_zero _).symm (by simp [zL3]) (by simp [Value.oneCell']) fun w9 hw9 h49 => ?_
   simp only [zL3, a1_, a2_, a3_, a4_, a5_, a6_, a7_] at h49
   have hx9 := hx78.then (hw9.bel h4 (by omega))
   conv => cbv
   refine st_cell hr tL3 rfl h49.at ?_
   conv => cbv
   exact finT false tz w9 hx9 (by rw [hT0]; unfold opR; rw [if_neg g8, if_neg g9, if_neg g10, if_neg (by omega), if_neg g16, if_neg g17, if_neg g18, if_neg g19, if_pos g, ← heq]; rfl) htz
  | false =>
   conv => cbv
   obtain ⟨tz, htz⟩ : ∃ z : Int, z = (if (true : Bool) = true then 1 else 0) := ⟨_, rfl⟩
   have htr := l3truth_f (w := w6) true
   rw [← htz] at htr
   refine st_f hr htr fun r w7 hx7 ev => ?_
   subst ev
   replace h4 := h4.bel hx7
   have hx78 := hx67.trans hx7
   have s6 := hx78.size
   conv => cbv
   refine st_putS hr (by kernel_rfl) h4 (add_zero _).symm (by simp [zL3]) (by simp [Value.oneCell']) fun w9 hw9 h49 => ?_
   simp only [zL3, a1_, a2_, a3_, a4_, a5_, a6_, a7_] at h49
   have hx9 := hx78.then (hw9.bel h4 (by omega))
   conv => cbv
   refine st_cell hr tL3 rfl h49.at ?_
   conv => cbv
   exact finT true tz w9 hx9 (by rw [hT0]; unfold opR; rw [if_neg g8, if_neg g9, if_neg g10, if_neg (by omega), if_neg g16, if_neg g17, if_neg g18, if_neg g19, if_pos g, ← heq]; rfl) htz
 have g20 : op ≠ 20 := by simpa [hE.cmp, cmpR] using g
 clear g
 conv => cbv
 refine br (fun g => ?_) (fun g => ?_)
 ·have g : op = 21 := by simpa [hE.cmp, cmpR] using g
  conv => cbv
  (refine st_fld hE fL3v1 fun p hp => ?_; (conv => cbv); refine st_load hE cI64 (by rw [hp]; exact (h5).at _ _ rfl) ?_; clear hp; (conv => cbv))
  (refine st_fld hE fL3v1 fun p hp => ?_; (conv => cbv); refine st_load hE cI64 (by rw [hp]; exact (h6).at _ _ rfl) ?_; clear hp; (conv => cbv))
  have hb2 : E.cmp .lss nx ny = true ↔ nx < ny := by simp [hE.cmp, cmpR]
  have htr := l3truth_f (w := w5) (E.cmp .lss nx ny)
  obtain ⟨tz, htz⟩ : ∃ z : Int, z = (if E.cmp .lss nx ny = true then 1 else 0) := ⟨_, rfl⟩
  rw [← htz] at htr
  refine st_f hr htr fun r w7 hx7 ev => ?_
  subst ev
  replace h4 := h4.bel hx7
  have hx78 := hx.trans hx7
  have s6 := hx78.size
  conv => cbv
  refine st_putS hr (by kernel_rfl) h4 (add_zero _).symm (by simp [zL3]) (by simp [Value.oneCell']) fun w9 hw9 h49 => ?_
  simp only [zL3, a1_, a2_, a3_, a4_, a5_, a6_, a7_] at h49
  have hx9 := hx78.then (hw9.bel h4 (by omega))
  conv => cbv
  refine st_cell hr tL3 rfl h49.at ?_
  conv => cbv
  exact finT (decide (nx < ny)) tz w9 hx9 (by rw [hT0]; unfold opR; rw [if_neg g8, if_neg g9, if_neg g10, if_neg (by omega), if_neg g16, if_neg g17, if_neg g18, if_neg g19, if_neg g20, if_pos g]) (by rw [htz]; simp only [hb2, decide_eq_true_eq])
 have g21 : op ≠ 21 := by simpa [hE.cmp, cmpR] using g
 clear g
 conv => cbv
 refine br (fun g => ?_) (fun g => ?_)
 ·have g : op = 22 := by simpa [hE.cmp, cmpR] using g
  conv => cbv
  (refine st_fld hE fL3v1 fun p hp => ?_; (conv => cbv); refine st_load hE cI64 (by rw [hp]; exact (h5).at _ _ rfl) ?_; clear hp; (conv => cbv))
  (refine st_fld hE fL3v1 fun p hp => ?_; (conv => cbv); refine st_load hE cI64 (by rw [hp]; exact (h6).at _ _ rfl) ?_; clear hp; (conv => cbv))
  have hb2 : E.cmp .leq nx ny = true ↔ nx ≤ ny := by simp [hE.cmp, cmpR]
  have htr := l3truth_f (w := w5) (E.cmp .leq nx ny)
  obtain ⟨tz, htz⟩ : ∃ z : Int, z = (if E.cmp .leq nx ny = true then 1 else 0) := ⟨_, rfl⟩
  rw [← htz] at htr
  refine st_f hr htr fun r w7 hx7 ev => ?_
  subst ev
  replace h4 := h4.bel hx7
  have hx78 := hx.trans hx7
  have s6 := hx78.size
  conv => cbv
  refine st_putS hr (by kernel_rfl) h4 (add_zero _).symm (by simp [zL3]) (by simp [Value.oneCell']) fun w9 hw9 h49 => ?_
  simp only [zL3, a1_, a2_, a3_, a4_, a5_, a6_, a7_] at h49
  have hx9 := hx78.then (hw9.bel h4 (by omega))
  conv => cbv
  refine st_cell hr tL3 rfl h49.at ?_
  conv => cbv
  exact finT (decide (nx ≤ ny)) tz w9 hx9 (by rw [hT0]; unfold opR; rw [if_neg g8, if_neg g9, if_neg g10, if_neg (by omega), if_neg g16, if_neg g17, if_neg g18, if_neg g19, if_neg g20, if_neg g21, if_pos g]) (by rw [htz]; simp only [hb2, decide_eq_true_eq])
 have g22 : op ≠ 22 := by simpa [hE.cmp, cmpR] using g
 clear g
 conv => cbv
 refine br (fun g => ?_) (fun g => ?_)
 ·have g : op = 23 := by simpa [hE.cmp, cmpR] using g
  conv => cbv
  (refine st_fld hE fL3v3 fun p hp => ?_; (conv => cbv); refine st_load hE cStrs (by rw [hp]; exact (h6).at _ _ rfl) ?_; clear hp; (conv => cbv))
  (refine st_fld hE fL3v2 fun p hp => ?_; (conv => cbv); refine st_load hE cStr (by rw [hp]; exact (h5).at _ _ rfl) ?_; clear hp; (conv => cbv))
  refine st_qb hE (l1has_q (sy.ext hx) tx) fun b hb2 w6 hs6 => ?_
  replace h4 := h4.bel hs6.ext
  have hx67 := hx.trans hs6.ext
  conv => cbv
  obtain ⟨tz, htz⟩ : ∃ z : Int, z = (if b = true then 1 else 0) := ⟨_, rfl⟩
  have htr := l3truth_f (w := w6) b
  rw [← htz] at htr
  refine st_f hr htr fun r w7 hx7 ev => ?_
  subst ev
  replace h4 := h4.bel hx7
  have hx78 := hx67.trans hx7
  have s6 := hx78.size
  conv => cbv
  refine st_putS hr (by kernel_rfl) h4 (add_zero _).symm (by simp [zL3]) (by simp [Value.oneCell']) fun w9 hw9 h49 => ?_
  simp only [zL3, a1_, a2_, a3_, a4_, a5_, a6_, a7_] at h49
  have hx9 := hx78.then (hw9.bel h4 (by omega))
  conv => cbv
  refine st_cell hr tL3 rfl h49.at ?_
  conv => cbv
  exact finT b tz w9 hx9 (by rw [hT0]; unfold opR; rw [if_neg g8, if_neg g9, if_neg g10, if_neg (by omega), if_neg g16, if_neg g17, if_neg g18, if_neg g19, if_neg g20, if_neg g21, if_neg g22, if_pos g]; exact congrArg (fun b => Sum.inr (truthV b)) (Bool.eq_iff_iff.2 (by rw [hb2]; simp))) htz
 have g23 : op ≠ 23 := by simpa [hE.cmp, cmpR] using g
 clear g
 conv => cbv
 have g24 : op = 24 := by omega
 have oks := okS (.inr g24)
 have lx := sx.len
 have ly := sy.len
 have l1 := oks.1.2.2
 have l2 := oks.2.2.2
 (refine st_fld hE fL3v3 fun p hp => ?_; (conv => cbv); refine st_load hE cStrs (by rw [hp]; exact (h5).at _ _ rfl) ?_; clear hp; (conv => cbv))
 (refine st_fld hE fL3v3 fun p hp => ?_; (conv => cbv); refine st_load hE cStrs (by rw [hp]; exact (h6).at _ _ rfl) ?_; clear hp; (conv => cbv))
 refine st_f hr (sWithin_f (sx.ext hx) (sy.ext hx) (by omega) (by omega)) fun r w6 hx6 ⟨b, ev, hb2⟩ => ?_
 subst ev
 replace h4 := h4.bel hx6
 have hx67 := hx.trans hx6
 conv => cbv
 obtain ⟨tz, htz⟩ : ∃ z : Int, z = (if b = true then 1 else 0) := ⟨_, rfl⟩
 have htr := l3truth_f (w := w6) b
 rw [← htz] at htr
 refine st_f hr htr fun r w7 hx7 ev => ?_
 subst ev
 replace h4 := h4.bel hx7
 have hx78 := hx67.trans hx7
 have s6 := hx78.size
 conv => cbv
 refine st_putS hr (by kernel_rfl) h4 (add_zero _).symm (by simp [zL3]) (by simp [Value.oneCell']) fun w9 hw9 h49 => ?_
 simp only [zL3, a1_, a2_, a3_, a4_, a5_, a6_, a7_] at h49
 have hx9 := hx78.then (hw9.bel h4 (by omega))
 conv => cbv
 refine st_cell hr tL3 rfl h49.at ?_
 conv => cbv
 exact finT b tz w9 hx9 (by rw [hT0]; unfold opR; rw [if_neg g8, if_neg g9, if_neg g10, if_neg (by omega), if_neg g16, if_neg g17, if_neg g18, if_neg g19, if_neg g20, if_neg g21, if_neg g22, if_neg g23]; exact congrArg (fun b => Sum.inr (truthV b)) (Bool.eq_iff_iff.2 (by rw [hb2]; simp [oks.1, oks.2]))) htz
end Go.Proofs.YtkedmcebngachaaGreatDoor
namespace Go.Eng
set_option linter.unusedVariables false
set_option linter.unusedSimpArgs false
def ePhP (E : Sym) (S : World → Prop) (all : List Oper) (x y : Nat) (l : List (Nat × Bool)) (F : Fr) (w : World) (K : Fr → World → Prop) : Prop := match all[x]? with
 | none => False
 | some ox => match all[y]? with
  | none => False
  | some oy => eOps E all [ox] F w (fun F w => S w ∧ eOps E all [oy] F w fun F w => S w ∧ ePh2 E S all l F w K) ∧
   eOps E all [oy] F w (fun F w => S w ∧ eOps E all [ox] F w fun F w => S w ∧ ePh2 E S all l F w K)
def planP2 (ops : Array Oper) (x y : Nat) (l : List (Nat × Bool)) (listed : Array Bool) : Bool :=
 Region.ready .any ops listed == [x, y] && Region.ready .any ops (listed.setIfInBounds x true) == [y] && Region.ready .any ops (listed.setIfInBounds y true) == [x] &&
  planB2 ops l ((listed.setIfInBounds x true).setIfInBounds y true) && planB2 ops l ((listed.setIfInBounds y true).setIfInBounds x true)
def planP1 (ops : Array Oper) (x y : Nat) (l2 : List (Nat × Bool)) : List Nat → Array Bool → Bool
 | [], listed => planP2 ops x y l2 listed
 | k :: l, listed => Region.free .any ops listed k && (Region.ready .any ops listed).contains k && planP1 ops x y l2 l (listed.setIfInBounds k true)
def planP (ops : Array Oper) (l1 : List Nat) (x y : Nat) (l2 : List (Nat × Bool)) : Bool :=
 Region.noSelect ops && Nat.beq (l1.length + (l2.length + 1 + 1)) ops.size && planP1 ops x y l2 l1 (Array.replicate ops.size false)
section
variable {P : Program} {Pn : List PanicEntry → World → Prop} {n : Nat}
end
end Go.Eng
namespace Go.Proofs.YtkedmcebngachaaGreatDoor
open Go.Eng
set_option linter.unusedVariables false
set_option linter.unusedSimpArgs false
theorem LRes.mono {D D' : Nat → Prop} {w : World} {R : Int ⊕ PV} {r : Value} (h : LRes D w R r) (hD : ∀ b, D b → D' b) : LRes D' w R r := by
 cases R with
 | inl c => exact h
 | inr p => obtain ⟨A, m, c, h1, h2, h3⟩ := h; exact ⟨A, m, c, h1, h2, fun a ha hm => hD _ (h3 a ha hm)⟩
theorem LRes.ext {D : Nat → Prop} {w w' : World} {R : Int ⊕ PV} {r : Value} (h : LRes D w R r) (hx : Ext w w') : LRes D w' R r := by
 cases R with
 | inl c => exact h
 | inr p => obtain ⟨A, m, c, h1, h2, h3⟩ := h; exact ⟨A, m, c, h1, h2.ext hx, h3⟩
theorem LRes.form {D : Nat → Prop} {w : World} {R : Int ⊕ PV} {r : Value} (h : LRes D w R r) : ∃ (c n : Int) (tx : ByteArray) (A : Option Addr) (m cc : Nat), r = .agg ⟨[.int .i64 c, .int .i64 n, .string tx, .slice A m cc]⟩ := by
 cases R with
 | inl c => obtain ⟨_, n, tx, A, m, cc, e⟩ := h; exact ⟨c, n, tx, A, m, cc, e⟩
 | inr p => obtain ⟨A, m, c, h1, h2, h3⟩ := h; exact ⟨0, p.n, p.tx, A, m, c, h1⟩
theorem LRes.wr {D : Nat → Prop} {w w' : World} {R : Int ⊕ PV} {r : Value} {q : Addr} (h : LRes D w R r) (hw : Wr (some q) w w') (hD : ∀ b, D b → b < w.heap.size ∧ b ≠ q.block) (hq : blk (some q) = some q.block) : LRes D w' R r := by
 cases R with
 | inl c => exact h
 | inr p =>
  obtain ⟨A, m, c, h1, h2, h3⟩ := h
  exact ⟨A, m, c, h1, ⟨strs_keep h2.1 h3 (fun b hb => hw.block b (hD b hb).1 (by rw [hq]; intro e; cases e; exact (hD _ hb).2 rfl)), h2.2⟩, h3⟩
structure LetM (D : Nat → Prop) (w : World) (LA : Option Addr) (ln : Nat) (lv : List VV) : Prop where
 len : lv.length = ln
 cells : Cells w LA (lv.flatMap lC)
 vals : ∀ x ∈ lv, ValM w x ∧ InD D x.A x.m
theorem LetM.ext {D : Nat → Prop} {w w' : World} {LA : Option Addr} {ln : Nat} {lv : List VV} (h : LetM D w LA ln lv) (hx : Ext w w') : LetM D w' LA ln lv := ⟨h.len, h.cells.ext hx, fun x hm => ⟨(h.vals x hm).1.ext hx, (h.vals x hm).2⟩⟩
theorem opOK2_of {o : Int} {ts : List Int} (hk : (ts.length : Int) = kidsF o) (h1 : 1 ≤ ts.length) (hz : typG o ts ≠ 0) {x y : PV} (hx : ∀ t, ts[0]? = some t → valV t x) (hy : ∀ t, ts[1]? = some t → valV t y) : opOK2 o x y := by
 refine ⟨opOK_of hk h1 hz hx hy, fun h9 => ?_, fun h19 => ?_⟩
 ·rcases typG_cases hk h1 hz with ⟨ho, e, ht⟩ | ⟨ho, e, ht⟩ | ⟨ho, e, ht⟩ | ⟨ho, e, ht⟩ | ⟨ho, e, ht⟩ | ⟨ho, ⟨a, e⟩, ht⟩ | ⟨ho, e, ht⟩ | ⟨ho, e, ht⟩ | ⟨ho, e, ht⟩ | ⟨ho, e, ht⟩ | ⟨ho, a, e, ht⟩ <;> first | omega | exact (val1 (hx 1 (by rw [e]; rfl))).2.1
 ·rcases typG_cases hk h1 hz with ⟨ho, e, ht⟩ | ⟨ho, e, ht⟩ | ⟨ho, e, ht⟩ | ⟨ho, e, ht⟩ | ⟨ho, e, ht⟩ | ⟨ho, ⟨a, e⟩, ht⟩ | ⟨ho, e, ht⟩ | ⟨ho, e, ht⟩ | ⟨ho, e, ht⟩ | ⟨ho, e, ht⟩ | ⟨ho, a, e, ht⟩ <;> first | omega | exact (val_ty (hx a (by rw [e]; rfl))).1.trans (val_ty (hy a (by rw [e]; rfl))).1.symm
def EvL (nv : List PN) (names : List ByteArray) (tys : List Int) (k : Nat) : Prop := ∀ (a b : Nat) (t : Tr), IsTs nv a b [(k : Int)] [t] → goodT tys.length t → conOK t → (tyT names tys t).2 = 0 → ∀ (wt w : World) (D : Nat → Prop), Ext wt w → (∀ b, b < wt.heap.size → D b) → (∀ b, D b → b < w.heap.size) → ∀ (A : Option Addr) (n c : Nat), RNs wt A n nv → n ≤ 9223372036854775807 →
 ∀ (cl us : ByteArray) (lvl nw : Int) (Q Q2 : Option Addr) (m d m2 d2 : Nat) (xs ys : List ByteArray), Strs wt Q m d xs → Strs wt Q2 m2 d2 ys → ReqV (rqL cl us lvl nw xs ys) → ∀ (LA : Option Addr) (ln lc : Nat) (lets : List VV), LetM D w LA ln lets → ln ≤ 600 → LetsV tys (lets.map (·.p)) →
 FC Tryz.prog 149 [.slice A n c, .int .i64 k, reqV cl us lvl nw Q m d Q2 m2 d2, .slice LA ln lc] w fun r w' => LRes (fun b => D b ∨ DNew w w' b) w' (evT (rqL cl us lvl nw xs ys) (lets.map (·.p)) t) r
def OutL (B : Nat) (w : World) (R : Out) (r : Value) : Prop := ∃ N nm nc, r = .agg ⟨[.int .i64 (ocOf R).1, .int .i64 (ocOf R).2.1, .slice N nm nc]⟩ ∧ Own B 9 1 w N nm nc ((ocOf R).2.2.map .string) ∧ (∀ s ∈ (ocOf R).2.2, s.size ≤ 9223372036854775807) ∧ (ocOf R).2.2.length ≤ 64
def DL2 (w : World) (LA : Option Addr) (b : Nat) : Prop := b < w.heap.size ∧ blk LA ≠ some b
def posV : List PV → PV → Option Nat
 | [], _ => none
 | x :: l, v => if x = v then some 0 else (posV l v).map (· + 1)
structure CS where
 pool : List PV
 ins : List (Int × Int)
def pushP (v : PV) (s : CS) : CS := match posV s.pool v with
 | some i => ⟨s.pool, s.ins ++ [(1, (i : Int))]⟩
 | none => ⟨s.pool ++ [v], s.ins ++ [(1, (s.pool.length : Int))]⟩
def putP (o a : Int) (s : CS) : CS := ⟨s.pool, s.ins ++ [(o, a)]⟩
def markP (f : Nat) (s : CS) : CS := ⟨s.pool, s.ins.set f ((s.ins.getD f (0, 0)).1, (s.ins.length : Int))⟩
def boolP (b : Int) : PV := ⟨1, b, ⟨#[]⟩, []⟩
def opcO (o : Int) : Int := o - 3
def exP : Tr → CS → CS
 | .con k n tx xs _, s => pushP ⟨k, n, tx, xs⟩ s
 | .att n, s => putP 2 n s
 | .lt n, s => putP 3 n s
 | .nam _ _, s => s
 | .op o [a] _, s => putP (opcO o) 0 (exP a s)
 | .op o [a, b] _, s =>
  if o = 25 then markP (exP b (putP 23 0 (exP a s))).ins.length (pushP (boolP 0) (markP (exP a s).ins.length (putP 22 0 (exP b (putP 23 0 (exP a s))))))
  else if o = 26 then markP (pushP (boolP 1) (putP 23 0 (exP a s))).ins.length (exP b (markP (exP a s).ins.length (putP 22 0 (pushP (boolP 1) (putP 23 0 (exP a s))))))
  else putP (opcO o) 0 (exP b (exP a s))
 | .op _ [a, b, c] _, s => markP (exP b (putP 23 0 (exP a s))).ins.length (exP c (markP (exP a s).ins.length (putP 22 0 (exP b (putP 23 0 (exP a s))))))
 | .op _ _ _, s => s
inductive RI where
 | push (v : PV)
 | ins (o a : Int)
mutual
def szT : Tr → Nat
 | .op o kids _ => 1 + szTs kids + (if o = 25 ∨ o = 26 then 2 else if o = 27 then 1 else 0)
 | _ => 1
def szTs : List Tr → Nat
 | [] => 0
 | t :: l => szT t + szTs l
end
def refT : Tr → Nat → List RI
 | .con k n tx xs _, _ => [.push ⟨k, n, tx, xs⟩]
 | .att n, _ => [.ins 2 n]
 | .lt n, _ => [.ins 3 n]
 | .nam _ _, _ => []
 | .op o [a] _, at_ => refT a at_ ++ [.ins (opcO o) 0]
 | .op o [a, b] _, at_ =>
  if o = 25 then refT a at_ ++ [.ins 23 ((at_ + szT a + szT b + 2 : Nat) : Int)] ++ refT b (at_ + szT a + 1) ++ [.ins 22 ((at_ + szT a + szT b + 3 : Nat) : Int)] ++ [.push (boolP 0)]
  else if o = 26 then refT a at_ ++ [.ins 23 ((at_ + szT a + 3 : Nat) : Int), .push (boolP 1)] ++ [.ins 22 ((at_ + szT a + 3 + szT b : Nat) : Int)] ++ refT b (at_ + szT a + 3)
  else refT a at_ ++ refT b (at_ + szT a) ++ [.ins (opcO o) 0]
 | .op _ [a, b, c] _, at_ => refT a at_ ++ [.ins 23 ((at_ + szT a + szT b + 2 : Nat) : Int)] ++ refT b (at_ + szT a + 1) ++ [.ins 22 ((at_ + szT a + szT b + 2 + szT c : Nat) : Int)] ++ refT c (at_ + szT a + szT b + 2)
 | .op _ _ _, _ => []
def poolR : List RI → List PV → List PV
 | [], p => p
 | .push v :: l, p => match posV p v with
  | some _ => poolR l p
  | none => poolR l (p ++ [v])
 | .ins _ _ :: l, p => poolR l p
def insR : List RI → List PV → List (Int × Int)
 | [], _ => []
 | .push v :: l, p => match posV p v with
  | some i => (1, (i : Int)) :: insR l p
  | none => (1, (p.length : Int)) :: insR l (p ++ [v])
 | .ins o a :: l, p => (o, a) :: insR l p
def passR (l : List RI) (s : CS) : CS := ⟨poolR l s.pool, s.ins ++ insR l s.pool⟩
mutual
def okT : Tr → Prop
 | .op o kids _ => (kids.length : Int) = kidsF o ∧ 1 ≤ kids.length ∧ okTs kids
 | .nam _ _ => False
 | _ => True
def okTs : List Tr → Prop
 | [] => True
 | t :: l => okT t ∧ okTs l
end
def decP (g : Option Tr) (s : CS) : CS := match g with
 | none => putP 24 0 s
 | some t => putP 25 0 (exP t s)
def cmpP : List (PS × PT) → Int → CS → Int × CS
 | [], sl, s => (sl, s)
 | (p, ⟨c, g⟩) :: l, sl, s =>
  let s1 := match c with
   | none => s
   | some t => exP t s
  if p.k = 1 then cmpP l (sl + 1) (putP 4 sl s1)
  else if p.k = 2 then cmpP l sl (markP s1.ins.length (decP g (putP 23 0 s1)))
  else cmpP l sl (decP g s1)
def decL (g : Option Tr) (at_ : Nat) : List RI := match g with
 | none => [.ins 24 0]
 | some t => refT t at_ ++ [.ins 25 0]
def cmpL : List (PS × PT) → Int → List RI → Int × List RI
 | [], sl, all => (sl, all)
 | (p, ⟨c, g⟩) :: l, sl, all =>
  let a1 := match c with
   | none => all
   | some t => all ++ refT t all.length
  if p.k = 1 then cmpL l (sl + 1) (a1 ++ [.ins 4 sl])
  else if p.k = 2 then cmpL l sl (a1 ++ [.ins 23 ((a1.length + 1 + (decL g (a1.length + 1)).length : Nat) : Int)] ++ decL g (a1.length + 1))
  else cmpL l sl (a1 ++ decL g a1.length)
def okS (l : List (PS × PT)) : Prop := ∀ q ∈ l, (∀ t, q.2.c = some t → okT t) ∧ ∀ t, q.2.g = some t → okT t
section
variable {E : Sym} {w : World} {K : Value → World → Prop} {d : Option Tmp} {ty : TypeId} {pos : String} {aft : Array Edge} {g : Option (Nat × Bool)} {bq : Bool}
end
def Dj (a b : Option Addr) : Prop := ∀ g, blk a = some g → blk b ≠ some g
theorem Dj.symm {a b : Option Addr} (h : Dj a b) : Dj b a := fun g h1 h2 => h g h2 h1
theorem dj_apart {B : Nat} {e : TypeId} {k : Nat} {w : World} {A X : Option Addr} {m c : Nat} {xs : List Value} (hA : Own B e k w A m c xs) (h : Dj A X) : Apart A X := by
 obtain rfl | ⟨g, rfl, _, _⟩ := hA.blk
 ·exact .inl rfl
 ·exact .inr fun q => h g rfl (by rw [← q]; rfl)
theorem dj_new {B B' : Nat} {e e' : TypeId} {k k' : Nat} {w w' : World} {A X : Option Addr} {m c m' c' : Nat} {xs ys : List Value} (hA : Own B e k w A m c xs) (hX : Own B' e' k' w' X m' c' ys) (h : w.heap.size ≤ B') : Dj A X := fun g h1 h2 => by
 have := (own_blk hA g h1).2
 have := (own_blk hX g h2).1
 omega
structure CSt (w : World) (R : List (Option Addr)) (w' : World) (R' : List (Option Addr)) : Prop where
 os : w'.os = w.os
 tape : w'.tape = w.tape
 output : w'.output = w.output
 size : w.heap.size ≤ w'.heap.size
 keep : ∀ b, b < w.heap.size → (∀ x ∈ R, blk x ≠ some b) → w'.heap[b]? = w.heap[b]?
 new : ∀ x ∈ R', ∀ g, blk x = some g → (∃ y ∈ R, blk y = some g) ∨ w.heap.size ≤ g
theorem CSt.refl (w : World) (R : List (Option Addr)) : CSt w R w R := ⟨rfl, rfl, rfl, n1_ _, fun _ _ _ => rfl, fun x hx g hg => .inl ⟨x, hx, hg⟩⟩
theorem CSt.trans {a b c : World} {R S T : List (Option Addr)} (h : CSt a R b S) (k : CSt b S c T) : CSt a R c T := by
 refine ⟨k.os.trans h.os, k.tape.trans h.tape, k.output.trans h.output, n2_ h.size k.size, fun i hi hn => ?_, fun x hx g hg => ?_⟩
 ·rw [k.keep i (n3_ hi h.size) (fun x hx e => by
   rcases h.new x hx i e with ⟨y, hy, e2⟩ | q
   ·exact hn y hy e2
   ·omega), h.keep i hi hn]
 ·rcases k.new x hx g hg with ⟨y, hy, e⟩ | q
  ·exact h.new y hy g e
  ·exact .inr (n2_ h.size q)
theorem CSt.of_ext {w w' : World} (h : Ext w w') (R : List (Option Addr)) : CSt w R w' R := ⟨h.os, h.tape, h.output, h.size, fun b hb _ => h.block b hb, fun x hx g hg => .inl ⟨x, hx, hg⟩⟩
theorem CSt.of_wr {w w' : World} {x : Option Addr} {R : List (Option Addr)} (h : Wr x w w') (hx : x ∈ R) : CSt w R w' R :=
 ⟨h.os, h.tape, h.output, h.size, fun b hb hn => h.block b hb (fun e => hn x hx e.symm), fun x hx g hg => .inl ⟨x, hx, hg⟩⟩
theorem CSt.of_gro {w w' : World} {A A' : Option Addr} {R R' : List (Option Addr)} (h : Gro w A w' A') (hA : A ∈ R) (hR : ∀ x ∈ R', x = A' ∨ x ∈ R) : CSt w R w' R' :=
 ⟨h.wr.os, h.wr.tape, h.wr.output, h.wr.size, fun b hb hn => h.wr.block b hb (fun e => hn A hA e.symm), fun x hx g hg => by
  rcases hR x hx with rfl | hx
  ·rcases h.at_ with e | ⟨b, e, hb⟩
   ·exact .inl ⟨A, hA, by rw [← e, hg]⟩
   ·rw [e] at hg; cases hg; exact .inr hb
  ·exact .inl ⟨x, hx, hg⟩⟩
theorem CSt.own {w w' : World} {R R' : List (Option Addr)} (h : CSt w R w' R') {B k m c : Nat} {e : TypeId} {X : Option Addr} {xs : List Value} (hX : Own B e k w X m c xs) (hd : ∀ r ∈ R, Dj r X) : Own B e k w' X m c xs ∧ ∀ r ∈ R', Dj r X := by
 refine ⟨own_keep hX fun g hg => h.keep g (own_blk hX g hg).2 (fun x hx e => hd x hx g e hg), fun r hr g hg e => ?_⟩
 rcases h.new r hr g hg with ⟨y, hy, q⟩ | q
 ·exact hd y hy g q e
 ·have := (own_blk hX g e).2; omega
theorem CSt.ext0 {w0 w w' : World} {R R' : List (Option Addr)} (h : CSt w R w' R') (h0 : Ext w0 w) (hR : ∀ r ∈ R, ∀ g, blk r = some g → w0.heap.size ≤ g) : Ext w0 w' :=
 h0.then ⟨h.os, h.tape, h.output, h.size, fun i hi => h.keep i (n3_ hi h0.size) (fun x hx e => by have := hR x hx i e; omega)⟩
structure CB (w0s : Nat) (q : Addr) : Prop where
 lo : w0s ≤ q.block
 eq : blk (some q) = some q.block
def rws (q : Addr) (P I : Option Addr) : List (Option Addr) := [some q, P, I]
section
variable {w0s : Nat} {w w' : World} {q : Addr} {P : Option Addr} {pn pc : Nat} {sl : Int} {I : Option Addr} {n ic : Nat} {vs : List VV} {is : List (Int × Int)}
end
structure Sub where
 A : Option Addr
 m : Nat
 c : Nat
 e : TypeId
 xs : List Value
theorem pw_get {β : Type} {R : β → β → Prop} (hs : ∀ a b, R a b → R b a) {l : List β} (h : l.Pairwise R) {i j : Nat} {a b : β} (hi : l[i]? = some a) (hj : l[j]? = some b) (hne : i ≠ j) : R a b := by
 obtain ⟨h1, e1⟩ := List.getElem?_eq_some_iff.1 hi
 obtain ⟨h2, e2⟩ := List.getElem?_eq_some_iff.1 hj
 subst e1; subst e2
 rcases Nat.lt_or_gt_of_ne hne with q | q
 ·exact List.pairwise_iff_getElem.1 h i j h1 h2 q
 ·exact hs _ _ (List.pairwise_iff_getElem.1 h j i h2 h1 q)
structure DJ (A : Option Addr) (ls : List (List (Option Addr))) : Prop where
 rowd : ∀ l ∈ ls, ∀ a ∈ l, Dj A a
 own : ∀ l ∈ ls, l.Pairwise Dj
 pw : ls.Pairwise fun la lb => ∀ a ∈ la, ∀ b ∈ lb, Dj a b
def adr {α : Type} (sb : α → List Sub) (v : α) : List (Option Addr) := (sb v).map (·.A)
structure RO {α : Type} (e : TypeId) (k : Nat) (f : α → List Value) (sb : α → List Sub) (B : Nat) (w : World) (A : Option Addr) (n c : Nat) (vs : List α) : Prop where
 row : Own B e k w A n c (vs.flatMap f)
 sub : ∀ v ∈ vs, ∀ s ∈ sb v, Own B s.e 1 w s.A s.m s.c s.xs
 dj : DJ A (vs.map (adr sb))
def roA {α : Type} (sb : α → List Sub) (A : Option Addr) (vs : List α) : List (Option Addr) := A :: vs.flatMap (adr sb)
section
variable {α : Type} {e : TypeId} {k : Nat} {f : α → List Value} {sb : α → List Sub} {B : Nat} {w w' : World} {A : Option Addr} {n c : Nat} {vs : List α}
theorem RO.ext (h : RO e k f sb B w A n c vs) (hx : Ext w w') : RO e k f sb B w' A n c vs := ⟨h.row.bel hx, fun v hv s hs => (h.sub v hv s hs).bel hx, h.dj⟩
theorem RO.low {B' : Nat} (h : RO e k f sb B w A n c vs) (hB : B' ≤ B) : RO e k f sb B' w A n c vs := ⟨h.row.mono hB, fun v hv s hs => (h.sub v hv s hs).mono hB, h.dj⟩
theorem fset {α : Type} {f : α → List Value} {k : Nat} (hf : ∀ v, (f v).length = k) : ∀ (xs : List α) (i : Nat) (x y : α) (j : Nat) (v : Value), xs[i]? = some x → j < k → f y = (f x).set j v → (xs.flatMap f).set (i * k + j) v = (xs.set i y).flatMap f
 | [], i, x, y, j, v, h, _, _ => by simp at h
 | z :: zs, 0, x, y, j, v, h, hj, he => by
  simp at h; subst h
  rw [List.flatMap_cons, List.set_append_left _ _ (by rw [hf]; omega), b4_, List.flatMap_cons, he]; simp
 | z :: zs, i + 1, x, y, j, v, h, hj, he => by
  simp only [List.getElem?_cons_succ] at h
  rw [List.flatMap_cons, List.set_append_right _ _ (by rw [hf, Nat.add_mul]; omega), b5_, List.flatMap_cons, ← fset hf zs i x y j v h hj he]
  congr 2
  rw [hf, Nat.add_mul]; omega
theorem fset0 {α : Type} {f : α → List Value} : ∀ (xs : List α) (i : Nat) (x y : α), xs[i]? = some x → f y = f x → (xs.set i y).flatMap f = xs.flatMap f
 | [], i, x, y, h, _ => by simp at h
 | z :: zs, 0, x, y, h, he => by simp at h; subst h; simp [he]
 | z :: zs, i + 1, x, y, h, he => by
  simp only [List.getElem?_cons_succ] at h
  rw [b5_, List.flatMap_cons, List.flatMap_cons, fset0 zs i x y h he]
theorem map_set {α β : Type} {g : α → β} {xs : List α} {i : Nat} {x y : α} (h : xs[i]? = some x) (he : g y = g x) : (xs.set i y).map g = xs.map g := by
 apply List.ext_getElem?
 intro j
 rw [List.getElem?_map, List.getElem?_map]
 by_cases hij : i = j
 ·subst hij
  rw [List.getElem?_set_self ((List.getElem?_eq_some_iff.1 h).1), h]
  simp [he]
 ·rw [List.getElem?_set_ne hij]
theorem RO.put (hf : ∀ v, (f v).length = k) (h : RO e k f sb B w A n c vs) {i j : Nat} {x y : α} {v : Value} (hi : vs[i]? = some x) (hj : j < k) (hy : f y = (f x).set j v) (hs : sb y = sb x) (hw : Wr A w w') (ho : Own B e k w' A n c ((vs.flatMap f).set (i * k + j) v)) : RO e k f sb B w' A n c (vs.set i y) := by
 rw [fset hf vs i x y j v hi hj hy] at ho
 have hk := map_set (g := adr sb) hi (y := y) (by unfold adr; rw [hs])
 have old : ∀ u ∈ vs, ∀ s ∈ sb u, Own B s.e 1 w' s.A s.m s.c s.xs := fun u hu s hsu =>
  (h.sub u hu s hsu).wr hw (dj_apart (h.sub u hu s hsu) (h.dj.rowd _ (List.mem_map.2 ⟨u, hu, rfl⟩) _ (List.mem_map.2 ⟨s, hsu, rfl⟩)).symm)
 refine ⟨ho, fun u hu s hsu => ?_, by rw [hk]; exact h.dj⟩
 rcases List.mem_or_eq_of_mem_set hu with hu | rfl
 ·exact old u hu s hsu
 ·exact old x (m1_ hi) s (hs ▸ hsu)
theorem RO.putS (h : RO e k f sb B w A n c vs) {i q : Nat} {x y : α} {s s' : Sub} (hi : vs[i]? = some x) (hy : f y = f x) (hq : (sb x)[q]? = some s) (hs : sb y = (sb x).set q s') (hA : s'.A = s.A) (hw : Wr s.A w w') (ho : Own B s'.e 1 w' s'.A s'.m s'.c s'.xs) : RO e k f sb B w' A n c (vs.set i y) := by
 have hadr : adr sb y = adr sb x := by unfold adr; rw [hs]; exact map_set hq hA
 have hk := map_set (g := adr sb) hi (y := y) hadr
 have hsA : s.A ∈ adr sb x := List.mem_map.2 ⟨s, m1_ hq, rfl⟩
 have hxm : adr sb x ∈ vs.map (adr sb) := List.mem_map.2 ⟨x, m1_ hi, rfl⟩
 have hd := h.dj.rowd _ hxm _ hsA
 refine ⟨?_, fun u hu t ht => ?_, by rw [hk]; exact h.dj⟩
 ·rw [fset0 vs i x y hi hy]
  exact h.row.wr hw (dj_apart h.row hd)
 ·obtain ⟨j, hj⟩ := List.mem_iff_getElem?.1 hu
  by_cases hij : i = j
  ·subst hij
   rw [List.getElem?_set_self ((List.getElem?_eq_some_iff.1 hi).1)] at hj
   cases hj
   rw [hs] at ht
   obtain ⟨r, hr⟩ := List.mem_iff_getElem?.1 ht
   by_cases hrq : q = r
   ·subst hrq
    rw [List.getElem?_set_self ((List.getElem?_eq_some_iff.1 hq).1)] at hr
    cases hr; exact ho
   ·rw [List.getElem?_set_ne hrq] at hr
    have o1 := h.sub x (m1_ hi) t (m1_ hr)
    have d1 : Dj t.A s.A := pw_get (fun _ _ h => h.symm) (h.dj.own _ hxm) (i := r) (j := q) (by unfold adr; rw [List.getElem?_map, hr]; rfl) (by unfold adr; rw [List.getElem?_map, hq]; rfl) (fun e => hrq e.symm)
    exact o1.wr hw (dj_apart o1 d1)
  ·rw [List.getElem?_set_ne hij] at hj
   have o1 := h.sub u (m1_ hj) t ht
   have d1 := pw_get (R := fun la lb => ∀ a ∈ la, ∀ b ∈ lb, Dj a b) (fun _ _ h a ha b hb => (h b hb a ha).symm) h.dj.pw (i := j) (j := i) (by rw [List.getElem?_map, hj]; rfl) (by rw [List.getElem?_map, hi]; rfl) (fun e => hij e.symm) t.A (List.mem_map.2 ⟨t, ht, rfl⟩) s.A hsA
   exact o1.wr hw (dj_apart o1 d1)
theorem RO.lo (h : RO e k f sb B w A n c vs) : ∀ r ∈ roA sb A vs, ∀ g, blk r = some g → B ≤ g ∧ g < w.heap.size := fun r hr g hg => by
 rcases List.mem_cons.1 hr with rfl | hr
 ·exact own_blk h.row g hg
 ·obtain ⟨v, hv, hr⟩ := List.mem_flatMap.1 hr
  obtain ⟨s, hs, rfl⟩ := List.mem_map.1 hr
  exact own_blk (h.sub v hv s hs) g hg
theorem RO.len (hf : ∀ v, (f v).length = k) (hk : 0 < k) (h : RO e k f sb B w A n c vs) : vs.length = n := by
 have := h.row.len
 rw [fl_len hf] at this
 exact Nat.eq_of_mul_eq_mul_right hk this
theorem RO.keepR (h : RO e k f sb B w A n c vs) {R : List (Option Addr)} (hc : CSt w R w' R) (hd : ∀ r ∈ R, ∀ a ∈ roA sb A vs, Dj r a) : RO e k f sb B w' A n c vs :=
 ⟨(hc.own h.row fun r hr => hd r hr _ (List.mem_cons_self ..)).1, fun v hv s hs => (hc.own (h.sub v hv s hs) fun r hr => hd r hr _ (List.mem_cons_of_mem _ (List.mem_flatMap.2 ⟨v, hv, List.mem_map.2 ⟨s, hs, rfl⟩⟩))).1, h.dj⟩
end
section
variable {α : Type} (mk : α → Int → α) (ct : α → Nat)
def mkL : List α → Int → List α
 | [], _ => []
 | v :: l, z => mk v z :: mkL l (z + ct v)
def ctL : List α → Nat
 | [] => 0
 | v :: l => ct v + ctL l
variable {mk ct}
theorem mkL_len : ∀ (l : List α) (z : Int), (mkL mk ct l z).length = l.length
 | [], _ => rfl
 | v :: l, z => by simp [mkL, mkL_len l]
theorem ctL_append : ∀ (l m : List α), ctL ct (l ++ m) = ctL ct l + ctL ct m
 | [], m => by simp [ctL]
 | v :: l, m => by rw [List.cons_append, ctL, ctL, ctL_append l m]; omega
theorem mkL_append : ∀ (l m : List α) (z : Int), mkL mk ct (l ++ m) z = mkL mk ct l z ++ mkL mk ct m (z + ctL ct l)
 | [], m, z => by simp [mkL, ctL]
 | v :: l, m, z => by rw [List.cons_append, mkL, mkL, mkL_append l m, List.cons_append, ctL]; congr 3; push_cast; omega
theorem ctL_take {l : List α} {i : Nat} {x : α} (h : l[i]? = some x) : ctL ct (l.take (i + 1)) = ctL ct (l.take i) + ct x := by
 rw [g4_, h, ctL_append]; simp [ctL]
theorem ctL_le (l : List α) (i : Nat) : ctL ct (l.take i) ≤ ctL ct l := by
 have e : ctL ct l = ctL ct (l.take i) + ctL ct (l.drop i) := by rw [← ctL_append, List.take_append_drop]
 omega
theorem mkL_mid {l : List α} {i : Nat} {x : α} (z : Int) (h : l[i]? = some x) : (mkL mk ct (l.take i) z ++ l.drop i)[i]? = some x := by
 have := (List.getElem?_eq_some_iff.1 h).1
 rw [List.getElem?_append_right (by rw [mkL_len, List.length_take]; omega), mkL_len, List.length_take, Nat.min_eq_left (by omega), Nat.sub_self, List.getElem?_drop]
 simpa using h
theorem mkL_set {l : List α} {i : Nat} {x : α} (z : Int) (h : l[i]? = some x) : (mkL mk ct (l.take i) z ++ l.drop i).set i (mk x (z + ctL ct (l.take i))) = mkL mk ct (l.take (i + 1)) z ++ l.drop (i + 1) := by
 have hl := (List.getElem?_eq_some_iff.1 h).1
 rw [List.set_append_right _ _ (by rw [mkL_len, List.length_take]; omega), mkL_len, List.length_take, Nat.min_eq_left (by omega), Nat.sub_self, drop_cons h, b4_, g4_, h, mkL_append]
 simp [mkL]
end
def imarks (k : Int) (n : Nat) : List Int := (List.range n).map fun (i : Nat) => k + i
def sbValue (v : VV) : List Sub := [⟨v.A, v.m, v.c, 9, v.p.xs.map .string⟩]
def mkValue (v : VV) (z : Int) : VV := ⟨⟨z, z + 1, mkText (z + 2), marks (z + 3) v.m⟩, v.A, v.m, v.c⟩
def ctValue (v : VV) : Nat := 3 + v.m
theorem markValueS_g {w : World} {B : Nat} {A : Option Addr} {n c : Nat} {vs : List VV} (h : RO 153 4 vC sbValue B w A n c vs) (k0 : Int) (hk : 0 ≤ k0) (hkn : k0 + ctL ctValue vs < 9223372036854775807) :
  GC Tryz.prog 50 [.slice A n c, .int .i64 k0] w fun v w' => v = .int .i64 (k0 + ctL ctValue vs) ∧ RO 153 4 vC sbValue B w' A n c (mkL mkValue ctValue vs k0) ∧ CSt w (roA sbValue A vs) w' (roA sbValue A vs) := by
 refine GC.intro (cs := []) Tryz.func50 (by kernel_rfl) fun E R hE hr hR => ?_
 have hl : vs.length = n := h.len vC_len (by omega)
 have hnle := h.row.le
 conv => cbv
 refine loop_rule hr (fun (s : Nat × Int × Int) w' => s.1 ≤ n ∧ s.2.1 = k0 + ctL ctValue (vs.take s.1) ∧ s.2.2 = s.1 ∧ RO 153 4 vC sbValue B w' A n c (mkL mkValue ctValue (vs.take s.1) k0 ++ vs.drop s.1) ∧ CSt w (roA sbValue A vs) w' (roA sbValue A vs)) (fun s => [(0, .slice A n c), (1, .int .i64 s.2.1), (5, .int .i64 s.2.2)]) (fun s => n - s.1) (0, k0, 0)
  (by simp [Fits, lk]) ⟨by simp, by simp [ctL], by simp, by simpa [mkL] using h, CSt.refl _ _⟩ ?_
 rintro I hI ⟨i, z, ii⟩ w' ⟨hi, hz, hii, ho, hC⟩
 simp only at hi hz hii ho
 obtain ⟨ii', hii'⟩ : ∃ z, z = ii + 1 := ⟨_, rfl⟩
 conv => cbv
 refine st_len hE sIV fun x hx => ?_
 conv => cbv
 refine br (fun h1 => ?_) (fun h1 => ?_)
 ·have h1 : i < n := by have : ii < x := by simpa [hE.cmp, cmpR] using h1
                        omega
  have ei : E.ar .add .i64 ii 1 = ii' := by rw [hii']; exact inc' hE (by omega) (by omega)
  obtain ⟨y, hy⟩ : ∃ y, vs[i]? = some y := ⟨_, g2_ (by omega)⟩
  have hct := ctL_take (ct := ctValue) hy
  have hcl := ctL_le (ct := ctValue) vs (i + 1)
  have hcur := mkL_mid (mk := mkValue) (ct := ctValue) k0 hy
  have hfin := mkL_set (mk := mkValue) (ct := ctValue) k0 hy
  have hcy : ctValue y = 3 + y.m := rfl
  have hmem : ∀ a ∈ adr sbValue y, a ∈ roA sbValue A vs := fun a ha => List.mem_cons_of_mem _ (List.mem_flatMap.2 ⟨y, m1_ hy, ha⟩)
  obtain ⟨cur, hcr⟩ : ∃ cur, cur = mkL mkValue ctValue (vs.take i) k0 ++ vs.drop i := ⟨_, rfl⟩
  rw [← hcr] at ho hcur hfin
  have hcl2 : cur.length = n := ho.len vC_len (by omega)
  obtain ⟨⟨f0, f1, f2, x0⟩, A0, m0, c0⟩ := y
  simp only at hcy
  obtain ⟨gb, rfl, _⟩ := ho.row.addr (by omega)
  conv => cbv
  refine st_idx hE sIV rfl (by omega) (by omega) fun q hq => ?_
  rw [show ii.toNat = i by omega] at hq
  conv => cbv
  refine st_fld hE fIV0 fun p hp => ?_
  conv => cbv
  refine st_put hr (by kernel_rfl) ho.row (j := i * 4 + 0) (by rw [hp, hq, add_add]) (by rw [fl_len vC_len]; omega) rfl fun w3 hw3 ho3 => ?_
  replace ho := RO.put vC_len (x := ⟨⟨f0, f1, f2, x0⟩, A0, m0, c0⟩) (y := ⟨⟨z, f1, f2, x0⟩, A0, m0, c0⟩) ho hcur (by omega) rfl rfl hw3 ho3
  replace hC := hC.trans (CSt.of_wr hw3 (List.mem_cons_self ..))
  clear ho3 hw3 hp hq
  obtain ⟨z0, hz0⟩ : ∃ q, q = z + 1 := ⟨_, rfl⟩
  have e0 : E.ar .add .i64 z 1 = z0 := by rw [hz0, inc' hE (by omega) (by omega)]
  conv => cbv
  simp only [e0]
  conv => cbv
  conv => cbv
  refine st_idx hE sIV rfl (by omega) (by omega) fun q hq => ?_
  rw [show ii.toNat = i by omega] at hq
  conv => cbv
  refine st_fld hE fIV1 fun p hp => ?_
  conv => cbv
  refine st_put hr (by kernel_rfl) ho.row (j := i * 4 + 1) (by rw [hp, hq, add_add]) (by rw [fl_len vC_len, List.length_set]; omega) rfl fun w3 hw3 ho3 => ?_
  replace ho := RO.put vC_len (x := ⟨⟨z, f1, f2, x0⟩, A0, m0, c0⟩) (y := ⟨⟨z, z0, f2, x0⟩, A0, m0, c0⟩) ho (List.getElem?_set_self (by omega)) (by omega) rfl rfl hw3 ho3
  rw [List.set_set] at ho
  replace hC := hC.trans (CSt.of_wr hw3 (List.mem_cons_self ..))
  clear ho3 hw3 hp hq
  obtain ⟨z1, hz1⟩ : ∃ q, q = z0 + 1 := ⟨_, rfl⟩
  have e1 : E.ar .add .i64 z0 1 = z1 := by rw [hz1, inc' hE (by omega) (by omega)]
  conv => cbv
  simp only [e1]
  conv => cbv
  obtain ⟨u2, hu2⟩ : ∃ u, u = mkText z1 := ⟨_, rfl⟩
  refine st_v hr (v := .string u2) (by rw [hu2]; exact markText_v z1 _ (by omega)) fun w2 hx2 => ?_
  replace hC := hC.trans (CSt.of_ext hx2 _)
  replace ho := ho.ext hx2
  clear hx2
  conv => cbv
  refine st_idx hE sIV rfl (by omega) (by omega) fun q hq => ?_
  rw [show ii.toNat = i by omega] at hq
  conv => cbv
  refine st_fld hE fIV2 fun p hp => ?_
  conv => cbv
  refine st_put hr (by kernel_rfl) ho.row (j := i * 4 + 2) (by rw [hp, hq, add_add]) (by rw [fl_len vC_len, List.length_set]; omega) rfl fun w3 hw3 ho3 => ?_
  replace ho := RO.put vC_len (x := ⟨⟨z, z0, f2, x0⟩, A0, m0, c0⟩) (y := ⟨⟨z, z0, u2, x0⟩, A0, m0, c0⟩) ho (List.getElem?_set_self (by omega)) (by omega) rfl rfl hw3 ho3
  rw [List.set_set] at ho
  replace hC := hC.trans (CSt.of_wr hw3 (List.mem_cons_self ..))
  clear ho3 hw3 hp hq
  obtain ⟨z2, hz2⟩ : ∃ q, q = z1 + 1 := ⟨_, rfl⟩
  have e2 : E.ar .add .i64 z1 1 = z2 := by rw [hz2, inc' hE (by omega) (by omega)]
  conv => cbv
  simp only [e2]
  conv => cbv
  obtain ⟨aK, hAK, hcell⟩ := fl_at vC_len ho.row.cells (by omega) (show (cur.set i ⟨⟨z, z0, u2, x0⟩, A0, m0, c0⟩)[i]? = some ⟨⟨z, z0, u2, x0⟩, A0, m0, c0⟩ from List.getElem?_set_self (by omega))
  cases hAK
  refine st_idx hE sIV rfl (by omega) (by omega) fun q hq => ?_
  rw [show ii.toNat = i by omega] at hq
  conv => cbv
  refine st_fld hE fIV3 fun p hp => ?_
  conv => cbv
  refine st_load hE cStrs (by rw [hp, hq]; exact hcell 3 _ rfl) ?_
  conv => cbv
  clear hp hq hcell
  have hs0 := ho.sub ⟨⟨z, z0, u2, x0⟩, A0, m0, c0⟩ (m1_ (List.getElem?_set_self (by omega))) ⟨A0, m0, c0, 9, x0.map .string⟩ (by simp [sbValue])
  simp only at hs0
  have hm0 := markStringS_g hs0 z2 (by omega) (by omega)
  obtain ⟨z3, hz3⟩ : ∃ q : Int, q = z2 + (m0 : Int) := ⟨_, rfl⟩
  rw [← hz3] at hm0
  refine st_g hr hm0 fun v w4 ⟨ev, ho4, hw4⟩ => ?_
  subst ev
  replace ho := RO.putS (q := 0) (s := ⟨A0, m0, c0, 9, x0.map .string⟩) (s' := ⟨A0, m0, c0, 9, (marks z2 m0).map .string⟩) (x := ⟨⟨z, z0, u2, x0⟩, A0, m0, c0⟩) (y := ⟨⟨z, z0, u2, (marks z2 m0)⟩, A0, m0, c0⟩) ho (List.getElem?_set_self (by omega)) rfl rfl rfl rfl hw4 ho4
  rw [List.set_set] at ho
  replace hC := hC.trans (CSt.of_wr hw4 (hmem _ (by simp [adr, sbValue])))
  clear ho4 hw4 hs0 hm0
  conv => cbv
  simp only [ei]
  refine ⟨(i + 1, z3, ii'), by simp [Fits, lk], hI _ _ ⟨by simp only; omega, by simp only; rw [hct]; simp only [ctValue]; omega, by simp only; omega, ?_, hC⟩, by simp only; omega⟩
  simp only
  rw [← hfin]
  have ey : (⟨⟨z, z0, u2, (marks z2 m0)⟩, A0, m0, c0⟩ : VV) = mkValue ⟨⟨f0, f1, f2, x0⟩, A0, m0, c0⟩ (k0 + ctL ctValue (vs.take i)) := by
   simp only [mkValue, hu2, VV.mk.injEq, PV.mk.injEq]
   rw [← hz]
   simp only [hz0, hz1, hz2, hz3, Int.add_assoc, and_self, and_true, true_and]
   try simp
   try (congr 1; omega)
  rw [← ey]
  exact ho
 ·have h1 : i = n := by
   have : ¬ ii < x := by simpa [hE.cmp, cmpR] using h1
   omega
  subst h1
  rw [List.drop_of_length_le (by omega), a7_, g3_ (by omega)] at ho
  rw [g3_ (by omega)] at hz
  conv => cbv
  rw [hR]; exact ⟨by rw [hz]; rfl, ho, hC⟩
def sbIns (v : (Int × Int)) : List Sub := []
def mkIns (v : (Int × Int)) (z : Int) : (Int × Int) := (z, z + 1)
def ctIns (v : (Int × Int)) : Nat := 2
theorem markInsS_g {w : World} {B : Nat} {A : Option Addr} {n c : Nat} {vs : List (Int × Int)} (h : RO 152 2 iC sbIns B w A n c vs) (k0 : Int) (hk : 0 ≤ k0) (hkn : k0 + ctL ctIns vs < 9223372036854775807) :
  GC Tryz.prog 51 [.slice A n c, .int .i64 k0] w fun v w' => v = .int .i64 (k0 + ctL ctIns vs) ∧ RO 152 2 iC sbIns B w' A n c (mkL mkIns ctIns vs k0) ∧ CSt w (roA sbIns A vs) w' (roA sbIns A vs) := by
 refine GC.intro (cs := []) Tryz.func51 (by kernel_rfl) fun E R hE hr hR => ?_
 have hl : vs.length = n := h.len iC_len (by omega)
 have hnle := h.row.le
 conv => cbv
 refine loop_rule hr (fun (s : Nat × Int × Int) w' => s.1 ≤ n ∧ s.2.1 = k0 + ctL ctIns (vs.take s.1) ∧ s.2.2 = s.1 ∧ RO 152 2 iC sbIns B w' A n c (mkL mkIns ctIns (vs.take s.1) k0 ++ vs.drop s.1) ∧ CSt w (roA sbIns A vs) w' (roA sbIns A vs)) (fun s => [(0, .slice A n c), (1, .int .i64 s.2.1), (5, .int .i64 s.2.2)]) (fun s => n - s.1) (0, k0, 0)
  (by simp [Fits, lk]) ⟨by simp, by simp [ctL], by simp, by simpa [mkL] using h, CSt.refl _ _⟩ ?_
 rintro I hI ⟨i, z, ii⟩ w' ⟨hi, hz, hii, ho, hC⟩
 simp only at hi hz hii ho
 obtain ⟨ii', hii'⟩ : ∃ z, z = ii + 1 := ⟨_, rfl⟩
 conv => cbv
 refine st_len hE sII fun x hx => ?_
 conv => cbv
 refine br (fun h1 => ?_) (fun h1 => ?_)
 ·have h1 : i < n := by have : ii < x := by simpa [hE.cmp, cmpR] using h1
                        omega
  have ei : E.ar .add .i64 ii 1 = ii' := by rw [hii']; exact inc' hE (by omega) (by omega)
  obtain ⟨y, hy⟩ : ∃ y, vs[i]? = some y := ⟨_, g2_ (by omega)⟩
  have hct := ctL_take (ct := ctIns) hy
  have hcl := ctL_le (ct := ctIns) vs (i + 1)
  have hcur := mkL_mid (mk := mkIns) (ct := ctIns) k0 hy
  have hfin := mkL_set (mk := mkIns) (ct := ctIns) k0 hy
  have hcy : ctIns y = 2 := rfl
  have hmem : ∀ a ∈ adr sbIns y, a ∈ roA sbIns A vs := fun a ha => List.mem_cons_of_mem _ (List.mem_flatMap.2 ⟨y, m1_ hy, ha⟩)
  obtain ⟨cur, hcr⟩ : ∃ cur, cur = mkL mkIns ctIns (vs.take i) k0 ++ vs.drop i := ⟨_, rfl⟩
  rw [← hcr] at ho hcur hfin
  have hcl2 : cur.length = n := ho.len iC_len (by omega)
  obtain ⟨f0, f1⟩ := y
  obtain ⟨gb, rfl, _⟩ := ho.row.addr (by omega)
  conv => cbv
  refine st_idx hE sII rfl (by omega) (by omega) fun q hq => ?_
  rw [show ii.toNat = i by omega] at hq
  conv => cbv
  refine st_fld hE fII0 fun p hp => ?_
  conv => cbv
  refine st_put hr (by kernel_rfl) ho.row (j := i * 2 + 0) (by rw [hp, hq, add_add]) (by rw [fl_len iC_len]; omega) rfl fun w3 hw3 ho3 => ?_
  replace ho := RO.put iC_len (x := ⟨f0, f1⟩) (y := ⟨z, f1⟩) ho hcur (by omega) rfl rfl hw3 ho3
  replace hC := hC.trans (CSt.of_wr hw3 (List.mem_cons_self ..))
  clear ho3 hw3 hp hq
  obtain ⟨z0, hz0⟩ : ∃ q, q = z + 1 := ⟨_, rfl⟩
  have e0 : E.ar .add .i64 z 1 = z0 := by rw [hz0, inc' hE (by omega) (by omega)]
  conv => cbv
  simp only [e0]
  conv => cbv
  conv => cbv
  refine st_idx hE sII rfl (by omega) (by omega) fun q hq => ?_
  rw [show ii.toNat = i by omega] at hq
  conv => cbv
  refine st_fld hE fII1 fun p hp => ?_
  conv => cbv
  refine st_put hr (by kernel_rfl) ho.row (j := i * 2 + 1) (by rw [hp, hq, add_add]) (by rw [fl_len iC_len, List.length_set]; omega) rfl fun w3 hw3 ho3 => ?_
  replace ho := RO.put iC_len (x := ⟨z, f1⟩) (y := ⟨z, z0⟩) ho (List.getElem?_set_self (by omega)) (by omega) rfl rfl hw3 ho3
  rw [List.set_set] at ho
  replace hC := hC.trans (CSt.of_wr hw3 (List.mem_cons_self ..))
  clear ho3 hw3 hp hq
  obtain ⟨z1, hz1⟩ : ∃ q, q = z0 + 1 := ⟨_, rfl⟩
  have e1 : E.ar .add .i64 z0 1 = z1 := by rw [hz1, inc' hE (by omega) (by omega)]
  conv => cbv
  simp only [e1]
  conv => cbv
  simp only [ei]
  refine ⟨(i + 1, z1, ii'), by simp [Fits, lk], hI _ _ ⟨by simp only; omega, by simp only; rw [hct]; simp only [ctIns]; omega, by simp only; omega, ?_, hC⟩, by simp only; omega⟩
  simp only
  rw [← hfin]
  have ey : (⟨z, z0⟩ : (Int × Int)) = mkIns ⟨f0, f1⟩ (k0 + ctL ctIns (vs.take i)) := by
   simp only [mkIns, Prod.mk.injEq]
   rw [← hz]
   simp only [hz0, hz1, Int.add_assoc, and_self, and_true, true_and]
   try simp
   try (congr 1; omega)
  rw [← ey]
  exact ho
 ·have h1 : i = n := by
   have : ¬ ii < x := by simpa [hE.cmp, cmpR] using h1
   omega
  subst h1
  rw [List.drop_of_length_le (by omega), a7_, g3_ (by omega)] at ho
  rw [g3_ (by omega)] at hz
  conv => cbv
  rw [hR]; exact ⟨by rw [hz]; rfl, ho, hC⟩
def sbNode (v : VN) : List Sub := [⟨v.A0, v.m0, v.c0, 9, v.p.xs.map .string⟩, ⟨v.A1, v.m1, v.c1, 3, v.p.ks.map (.int .i64)⟩]
def mkNode (v : VN) (z : Int) : VN := ⟨⟨z, z + 1, mkText (z + 2), marks (z + 3) v.m0, imarks (z + 3 + v.m0) v.m1⟩, v.A0, v.m0, v.c0, v.A1, v.m1, v.c1⟩
def ctNode (v : VN) : Nat := 3 + v.m0 + v.m1
def sbStmt (v : PS) : List Sub := []
def mkStmt (v : PS) (z : Int) : PS := ⟨z, mkText (z + 1), z + 2, z + 3⟩
def ctStmt (v : PS) : Nat := 4
end Go.Proofs.YtkedmcebngachaaGreatDoor
