/- Texts that the law FnExactDecide leans on, part 6 of 8: contracts of the functions that it reaches and plain lemmas. Each holds under the conditions that it states. -/
import Derived.Test.YtgnjkdkedjljjaaGreatDoorMFnExactDecide5
set_option maxHeartbeats 16000000
namespace Go.Proofs.YtgnjkdkedjljjaaGreatDoor
open Go.Eng
set_option linter.unusedVariables false
set_option linter.unusedSimpArgs false
theorem strEq_q {w : World} {A A1 : Option Addr} {n c n1 c1 : Nat} {zs ys : List ByteArray} (h : Strs w A n c zs) (h1 : Strs w A1 n1 c1 ys) :
  QB Tryz.prog 267 [.slice A n c, .slice A1 n1 c1] w (zs = ys) := by
 refine QB.intro (cs := []) Tryz.func267 (by kernel_rfl) fun w0 hx0 w1 hs E R hE hr hR => ?_
 replace h := (h.ext hx0).ext hs.ext
 replace h1 := (h1.ext hx0).ext hs.ext
 have hl := h.len
 have hl1 := h1.len
 have hle := h.le
 conv => cbv
 refine st_len hE tStrs fun x hx => ?_
 conv => cbv
 refine st_len hE tStrs fun x1 hx1 => ?_
 conv => cbv
 refine br (fun g => ?_) (fun g => ?_)
 ·have g : x ≠ x1 := by simpa [hE.cmp, cmpR] using g
  conv => cbv
  exact hR _ _ hs (by simp only [Bool.false_eq_true, false_iff]; exact fun e => g (by rw [e] at hl; omega))
 have g : n = n1 := by
  have : x = x1 := by simpa [hE.cmp, cmpR] using g
  omega
 subst g
 conv => cbv
 refine st_len hE tStrs fun x2 hx2 => ?_
 conv => cbv
 refine loop_rule hr (fun (s : Nat × Int) w' => s.1 ≤ n ∧ s.2 = (s.1 : Int) ∧ Same w1 w' ∧ zs.take s.1 = ys.take s.1) (fun s => [(0, .slice A n c), (1, .slice A1 n c1), (12, .int .i64 x2), (13, .int .i64 s.2)]) (fun s => n - s.1) (0, 0)
  (by simp [Fits, lk]) ⟨by simp, by simp, Same.refl _, by simp⟩ ?_
 rintro I hI ⟨i, ii⟩ w' ⟨hi, hii, hxw, hall⟩
 simp only at hi hii hall
 obtain ⟨ii', hii'⟩ : ∃ z, z = ii + 1 := ⟨_, rfl⟩
 conv => cbv
 refine br (fun g => ?_) (fun g => ?_)
 ·have g : i < n := by
   have : ii < x2 := by simpa [hE.cmp, cmpR] using g
   omega
  have e1 : E.ar .add .i64 ii 1 = ii' := by rw [hE.ar, hii']; exact wrap_in (by omega) (by omega)
  conv => cbv
  refine draw_q hr fol (by kernel_rfl) fun E' hE' => ?_
  conv => cbv
  refine st_str hE' tStrs (h.ext hxw.ext) (k := i) (by omega) g fun p u hu _ hp => ?_
  conv => cbv
  refine st_load hE' cStr hp ?_
  conv => cbv
  refine st_str hE' tStrs (h1.ext hxw.ext) (k := i) (by omega) g fun p2 y hy _ hp2 => ?_
  conv => cbv
  refine st_load hE' cStr hp2 ?_
  conv => cbv
  intro w2 hs2
  replace hxw := hxw.trans hs2
  conv => cbv
  refine br (fun g2 => ?_) (fun g2 => ?_)
  ·have g2 : u ≠ y := by have g3 : E'.scmp .neq u y = true := g2; rw [hE'.scmp, scmp_neq] at g3; exact g3
   conv => cbv
   exact hR _ _ (hs.trans hxw) (by
    simp only [Bool.false_eq_true, false_iff]
    intro e
    rw [e, hy] at hu
    exact g2 (Option.some.inj hu).symm)
  ·have g2 : u = y := by have g3 : ¬ E'.scmp .neq u y = true := g2; rw [hE'.scmp, scmp_neq] at g3; exact Classical.byContradiction g3
   conv => cbv
   simp only [e1]
   refine ⟨(i + 1, ii'), by simp [Fits, lk], hI _ _ ⟨by simp only; omega, by simp only; omega, hxw, ?_⟩, by simp only; omega⟩
   simp only
   rw [g4_, g4_, hall, hu, hy, g2]
 ·have g : i = n := by
   have : ¬ ii < x2 := by simpa [hE.cmp, cmpR] using g
   omega
  rw [g3_ (by omega), g3_ (by omega)] at hall
  conv => cbv
  exact hR _ _ (hs.trans hxw) (by simp [hall])
def ValM (w : World) (v : VV) : Prop := Strs w v.A v.m v.c v.p.xs ∧ v.p.tx.size ≤ 9223372036854775807
theorem ValM.ext {w w' : World} {v : VV} (h : ValM w v) (hx : Ext w w') : ValM w' v := ⟨h.1.ext hx, h.2⟩
theorem equal_f {w : World} {a b : VV} (ha : ValM w a) (hb : ValM w b) : FC Tryz.prog 208 [.agg ⟨vC a⟩, .agg ⟨vC b⟩] w fun v _ => ∃ r : Bool, v = .bool r ∧ (r = true ↔ a.p = b.p) := by
 refine FC.intro (cs := []) Tryz.func208 (by kernel_rfl) fun E R hE hr hR => ?_
 obtain ⟨⟨k, n, tx, xs⟩, A, m, c⟩ := a
 obtain ⟨⟨k', n', tx', xs'⟩, A', m', c'⟩ := b
 obtain ⟨ha, _⟩ := ha
 obtain ⟨hb, _⟩ := hb
 simp only at ha hb
 have no : ∀ {w'}, Ext w w' → ¬ (k = k' ∧ n = n' ∧ tx = tx' ∧ xs = xs') → R (.bool false) w' := fun hx q => by
  rw [hR]; exact ⟨hx, false, rfl, (fun z => by cases z), fun z => absurd (by cases z; exact ⟨rfl, rfl, rfl, rfl⟩) q⟩
 conv => cbv
 refine st_box hr fun a w1 hx h10 => ?_
 have h1 := h10 _ (n1_ _)
 conv => cbv
 refine st_box hr fun b w2 hx2 h20 => ?_
 have h2 := h20 _ hx.size
 replace h1 := h1.bel hx2
 replace hx := hx.trans hx2
 clear h10 h20 hx2
 conv => cbv
 (refine st_fld hE fIV0 fun p hp => ?_; (conv => cbv); refine st_load hE cInt (by rw [hp]; exact (h1).at _ _ rfl) ?_; (conv => cbv))
 (refine st_fld hE fIV0 fun p hp => ?_; (conv => cbv); refine st_load hE cInt (by rw [hp]; exact (h2).at _ _ rfl) ?_; (conv => cbv))
 refine br (fun g => ?_) (fun g => ?_)
 rotate_left
 ·have g : k ≠ k' := by simpa [hE.cmp, cmpR] using g
  conv => cbv
  exact no hx (fun q => g q.1)
 have g1 : k = k' := by simpa [hE.cmp, cmpR] using g
 conv => cbv
 (refine st_fld hE fIV1 fun p hp => ?_; (conv => cbv); refine st_load hE cI64 (by rw [hp]; exact (h1).at _ _ rfl) ?_; (conv => cbv))
 (refine st_fld hE fIV1 fun p hp => ?_; (conv => cbv); refine st_load hE cI64 (by rw [hp]; exact (h2).at _ _ rfl) ?_; (conv => cbv))
 refine br (fun g => ?_) (fun g => ?_)
 rotate_left
 ·have g : n ≠ n' := by simpa [hE.cmp, cmpR] using g
  conv => cbv
  exact no hx (fun q => g q.2.1)
 have g2 : n = n' := by simpa [hE.cmp, cmpR] using g
 conv => cbv
 (refine st_fld hE fIV2 fun p hp => ?_; (conv => cbv); refine st_load hE cStr (by rw [hp]; exact (h1).at _ _ rfl) ?_; (conv => cbv))
 (refine st_fld hE fIV2 fun p hp => ?_; (conv => cbv); refine st_load hE cStr (by rw [hp]; exact (h2).at _ _ rfl) ?_; (conv => cbv))
 refine br (fun g => ?_) (fun g => ?_)
 rotate_left
 ·have g : tx ≠ tx' := by have g3 : ¬ E.scmp .eql tx tx' = true := g; rw [hE.scmp, scmp_eql] at g3; exact g3
  conv => cbv
  exact no hx (fun q => g q.2.2.1)
 have g3 : tx = tx' := by have g3 : E.scmp .eql tx tx' = true := g; rw [hE.scmp, scmp_eql] at g3; exact g3
 conv => cbv
 (refine st_fld hE fIV3 fun p hp => ?_; (conv => cbv); refine st_load hE cStrs (by rw [hp]; exact (h1).at _ _ rfl) ?_; (conv => cbv))
 (refine st_fld hE fIV3 fun p hp => ?_; (conv => cbv); refine st_load hE cStrs (by rw [hp]; exact (h2).at _ _ rfl) ?_; (conv => cbv))
 refine st_qb hE (strEq_q (ha.ext hx) (hb.ext hx)) fun r hrr w3 hs => ?_
 conv => cbv
 rw [hR]
 refine ⟨hx.trans hs.ext, r, rfl, ?_⟩
 rw [hrr, g1, g2, g3]
 simp
section
variable {E : Sym} {w : World} {K : Value → World → Prop} {d : Option Tmp} {ty : TypeId} {pos : String} {aft : Array Edge} {g : Option (Nat × Bool)} {bq : Bool}
theorem run_bVt (k z : Int) (w : World) : (Instr.build 218 #[(0, .int .i64 k), (1, .int .i64 z)]).run Tryz.prog w = .ok (.agg #[.int .i64 k, .int .i64 z, .string ⟨#[]⟩, .slice none 0 0]) w := by kernel_rfl
theorem st_bVt (hE : EngB bq Tryz.prog E) {k z : Int} {x y : Operand} (hk : K (.agg ⟨[.int .i64 k, .int .i64 z, .string ⟨#[]⟩, .slice none 0 0]⟩) w) : E.stop ⟨d, .build 218 ⟨[(0, x), (1, y)]⟩, ty, pos, aft, g⟩ [.int .i64 k, .int .i64 z] w K := by
 refine hE.det (v := .agg ⟨[.int .i64 k, .int .i64 z, .string ⟨#[]⟩, .slice none 0 0]⟩) (fun w1 _ ρ hρ => ?_) hk
 simp only [opnds, b2_, b3_, b1_, and_true] at hρ
 have := run_bVt k z w1
 simp [execOp, hρ, this]
theorem run_bVk (k : Int) (w : World) : (Instr.build 218 #[(0, .int .i64 k)]).run Tryz.prog w = .ok (.agg #[.int .i64 k, .int .i64 0, .string ⟨#[]⟩, .slice none 0 0]) w := by kernel_rfl
theorem st_bVk (hE : EngB bq Tryz.prog E) {k : Int} {x : Operand} (hk : K (.agg ⟨[.int .i64 k, .int .i64 0, .string ⟨#[]⟩, .slice none 0 0]⟩) w) : E.stop ⟨d, .build 218 ⟨[(0, x)]⟩, ty, pos, aft, g⟩ [.int .i64 k] w K := by
 refine hE.det (v := .agg ⟨[.int .i64 k, .int .i64 0, .string ⟨#[]⟩, .slice none 0 0]⟩) (fun w1 _ ρ hρ => ?_) hk
 simp only [opnds, b2_, b3_, b1_, and_true] at hρ
 have := run_bVk k w1
 simp [execOp, hρ, this]
end
def trV (b : Bool) : VV := ⟨⟨1, if b = true then 1 else 0, ⟨#[]⟩, []⟩, none, 0, 0⟩
theorem trV_m (b : Bool) (w : World) : ValM w (trV b) := ⟨⟨rfl, by simp [trV], by simp [trV], ⟨by simp [trV], by simp [trV]⟩, by simp [trV]⟩, by simp [trV, ByteArray.size]⟩
theorem truth_f {w : World} (b : Bool) : FC Tryz.prog 221 [.bool b] w fun v _ => v = .agg ⟨vC (trV b)⟩ := by
 refine FC.intro (cs := []) Tryz.func221 (by kernel_rfl) fun E R hE hr hR => ?_
 cases b with
 | true =>
  conv => cbv
  refine st_alloc hr tIV rfl fun q w1 hx1 hq0 => ?_
  have hq := hq0 _ (n1_ _)
  conv => cbv
  refine st_bVt hE ?_
  conv => cbv
  refine st_putS hr (by kernel_rfl) hq (add_zero _).symm (by simp [zV]) (by simp [Value.oneCell']) fun w2 hw2 hq2 => ?_
  simp only [zV, a1_, a2_, a3_, a4_, a5_, a6_, a7_] at hq2
  conv => cbv
  refine st_cell hr tIV rfl hq2.at ?_
  rw [hR]; exact ⟨hx1.then (hw2.bel hq hx1.size), rfl⟩
 | false =>
  conv => cbv
  refine st_alloc hr tIV rfl fun q w1 hx1 hq0 => ?_
  have hq := hq0 _ (n1_ _)
  conv => cbv
  refine st_bVk hE ?_
  conv => cbv
  refine st_putS hr (by kernel_rfl) hq (add_zero _).symm (by simp [zV]) (by simp [Value.oneCell']) fun w2 hw2 hq2 => ?_
  simp only [zV, a1_, a2_, a3_, a4_, a5_, a6_, a7_] at hq2
  conv => cbv
  refine st_cell hr tIV rfl hq2.at ?_
  rw [hR]; exact ⟨hx1.then (hw2.bel hq hx1.size), rfl⟩
end Go.Proofs.YtgnjkdkedjljjaaGreatDoor
namespace Go.Eng
set_option linter.unusedVariables false
set_option linter.unusedSimpArgs false
inductive Kz where
 | c
 | w
 | p
def ePh2Z (E : Sym) (S : World → Prop) (all : List Oper) : List (Nat × Kz) → Fr → World → (Fr → World → Prop) → Prop
 | [], F, w, K => K F w
 | (k, .c) :: l, F, w, K => match all[k]? with
  | none => False
  | some o => eOps E all [o] F w fun F' w' => S w' ∧ ePh2Z E S all l F' w' K
 | (k, .w) :: l, F, w, K => match all[k]? with
  | none => False
  | some o => eOps E all [o] F w fun F' w' => ePh2Z E S all l F' w' K
 | (k, .p) :: l, F, w, K => match all[k]? with
  | none => False
  | some o => eOps E.dull all [o] F w fun F' w' => ePh2Z E S all l F' w' K
def planZ2 (ops : Array Oper) (l0 : List Nat) : List (Nat × Kz) → Array Bool → Bool
 | [], listed => Region.ready .any ops listed == []
 | (k, .c) :: l, listed => Region.ready .any ops listed == [k] && planZ2 ops l0 l (listed.setIfInBounds k true)
 | (k, .w) :: l, listed => Region.ready .any ops listed == [k] && !(needS .any ops l0 k) && planZ2 ops l0 l (listed.setIfInBounds k true)
 | (k, .p) :: l, listed => Region.free .any ops listed k && (Region.ready .any ops listed).contains k && planZ2 ops l0 l (listed.setIfInBounds k true)
def planZ1 (ops : Array Oper) (l0 : List Nat) : List Nat → List (Nat × Kz) → Array Bool → Bool
 | [], l2, listed => planZ2 ops l0 l2 listed
 | k :: l, l2, listed => (l0.contains k || calmAt ops k) && Region.free .any ops listed k && (Region.ready .any ops listed).contains k && planZ1 ops l0 l l2 (listed.setIfInBounds k true)
def planZ (ops : Array Oper) (l0 l1 : List Nat) (l2 : List (Nat × Kz)) : Bool :=
 Region.noSelect ops && Nat.beq (l1.length + l2.length) ops.size && planZ1 ops l0 l1 l2 (Array.replicate ops.size false)
section
variable {P : Program} {Pn : List PanicEntry → World → Prop} {n : Nat}
theorem ePh2Z_sound {S : World → Prop} {all : List Oper} {l0 : List Nat} (hs : Region.noSelect all.toArray = true) (hd : ∀ o ∈ all, ∀ t, o.dst = some t → t < n) {K : Exit → Fr → World → Prop} : ∀ (l : List (Nat × Kz)) (listed : Array Bool) (F : Fr) (a : Act) (w : World), Kn n F a → planZ2 all.toArray l0 l listed = true → ePh2Z (real P Pn n) S all l F w (K .normal) → wpAnyU P .any all.toArray (QK Pn n K) S l0 l.length listed a w
 | [], listed, F, a, w, hk, hB, h => by
  have hr : Region.ready .any all.toArray listed = [] := by simpa [planZ2] using hB
  exact wpAnyU_done hr ⟨F, hk, h⟩ _
 | (k, .c) :: l, listed, F, a, w, hk, hB, h => by
  simp only [planZ2, Bool.and_eq_true] at hB
  obtain ⟨hr, hB⟩ := hB
  have hr : Region.ready .any all.toArray listed = [k] := by simpa using hr
  simp only [ePh2Z] at h
  split at h
  ·exact h.elim
  ·rename_i o ho
   refine ⟨fun q => (by rw [hr] at q; cases q), fun i hi => ?_⟩
   obtain rfl : i = k := by rw [hr] at hi; simpa using hi
   exact step_op (Pn := Pn) ho (hd o (m1_ ho)) hk (fun c w h => ⟨hk.defers, h⟩) (fun F' a' w' hk' ⟨h1, h2⟩ => ⟨fun _ _ => h1, ePh2Z_sound hs hd l _ F' a' w' hk' hB h2⟩) h
 | (k, .w) :: l, listed, F, a, w, hk, hB, h => by
  simp only [planZ2, Bool.and_eq_true, Bool.not_eq_true'] at hB
  obtain ⟨⟨hr, hn⟩, hB⟩ := hB
  have hr : Region.ready .any all.toArray listed = [k] := by simpa using hr
  simp only [ePh2Z] at h
  split at h
  ·exact h.elim
  ·rename_i o ho
   refine ⟨fun q => (by rw [hr] at q; cases q), fun i hi => ?_⟩
   obtain rfl : i = k := by rw [hr] at hi; simpa using hi
   exact step_op (Pn := Pn) ho (hd o (m1_ ho)) hk (fun c w h => ⟨hk.defers, h⟩) (fun F' a' w' hk' h2 => ⟨fun q => (by rw [hn] at q; cases q), ePh2Z_sound hs hd l _ F' a' w' hk' hB h2⟩) h
 | (k, .p) :: l, listed, F, a, w, hk, hB, h => by
  simp only [planZ2, Bool.and_eq_true] at hB
  obtain ⟨⟨hf, hr⟩, hB⟩ := hB
  simp only [ePh2Z] at h
  split at h
  ·exact h.elim
  ·rename_i o ho
   obtain ⟨v, F', hy, hk', h⟩ := step_yields (P := P) (n := n) (S := fun _ => True) (E' := (real P Pn n).dull) (fun _ _ => rfl) (fun _ _ _ h => h.elim) (hd o (m1_ ho)) hk h
   exact wpAnyU_takeP (by simpa using ho) hs hf hr panic_put hy (ePh2Z_sound hs hd l _ F' _ w hk' hB h)
theorem ePh1Z_sound {S : World → Prop} {w : World} (hSE : ∀ w1, S w1 → Ext w w1) {all : List Oper} {l0 : List Nat} (hs : Region.noSelect all.toArray = true) (hd : ∀ o ∈ all, ∀ t, o.dst = some t → t < n) {K : Exit → Fr → World → Prop} {w0 : World} (hS : S w0) (l2 : List (Nat × Kz)) (K1 : Fr → World → Prop) : ∀ (l : List Nat) (listed : Array Bool) (F : Fr) (a : Act), Kn n F a → Closed .any all.toArray listed → planZ1 all.toArray l0 l l2 listed = true → ePh1 (hreal P) all l F w K1 →
  (∀ F a listed, Kn n F a → planZ2 all.toArray l0 l2 listed = true → K1 F w → wpAnyU P .any all.toArray (QK Pn n K) S l0 l2.length listed a w0) → wpAnyU P .any all.toArray (QK Pn n K) S l0 (l.length + l2.length) listed a w0
 | [], listed, F, a, hk, hcl, hB, h, h2 => by simpa using h2 F a listed hk hB h
 | k :: l, listed, F, a, hk, hcl, hB, h, h2 => by
  simp only [planZ1, Bool.and_eq_true] at hB
  obtain ⟨⟨⟨hl, hf⟩, hr⟩, hB⟩ := hB
  simp only [ePh1] at h
  split at h
  ·exact h.elim
  ·rename_i o ho
   by_cases hl0 : l0.contains k = true
   ·obtain ⟨v, F', hy, hk', h⟩ := step_yields (P := P) (n := n) (S := S) (E' := hreal P) (fun _ _ => rfl) (fun _ _ _ ⟨v, h1, h2⟩ => ⟨v, fun w1 hw1 => h1 w1 (hSE w1 hw1), h2⟩) (hd o (m1_ ho)) hk h
    have := wpAnyU_take (l := l0) (by simpa using ho) (by simpa using hl0) hs hf hr hcl panic_put hy hS (ePh1Z_sound hSE hs hd hS l2 K1 l _ F' _ hk' (closed_set hcl hr) hB h h2)
    simpa [Nat.add_right_comm] using this
   ·have hc : calmAt all.toArray k = true := by
     rcases Bool.or_eq_true_iff.1 hl with q | q
     ·exact absurd q hl0
     ·exact q
    obtain ⟨x, hx⟩ : ∃ x, o.op = .move x := by
     unfold calmAt at hc
     rw [show all.toArray[k]? = some o by simpa using ho] at hc
     simp only at hc
     split at hc
     ·rename_i x hx; exact ⟨x, hx⟩
     ·cases hc
    obtain ⟨v, F', hy, hk', h⟩ := step_yields (P := P) (n := n) (S := fun _ => True) (E' := (hreal P).dull) (fun _ _ => rfl) (fun _ _ _ h => h.elim) (hd o (m1_ ho)) hk (eOps_calm hx h)
    have := wpAnyU_takeP (S := S) (l := l0) (by simpa using ho) hs hf hr panic_put hy (ePh1Z_sound hSE hs hd hS l2 K1 l _ F' _ hk' (closed_set hcl hr) hB h h2)
    simpa [Nat.add_right_comm] using this
theorem draw_z (l0 l1 : List Nat) (l2 : List (Nat × Kz)) {E : Sym} (hE : E = real P Pn n) {id : Nat} {ops : Array Oper} {F : Fr} {w : World} {K : Exit → Fr → World → Prop} (hm : P.follows .mixedOrders = true) (hB : planZ ops l0 l1 l2 = true)
  (h : ∀ E', EngB false P E' → ∀ w0, Same w w0 → ∀ S : World → Prop, (∀ w', Ext w0 w' → S w') → ePh1 E' ops.toList l1 F w0 (fun F' w' => ePh2Z E S ops.toList l2 F' w' (K .normal))) : E.draw id ops F w K := by
 subst hE
 intro hd a hk
 simp only [planZ, Bool.and_eq_true, Nat.beq_eq] at hB
 obtain ⟨⟨hs, hl⟩, hB⟩ := hB
 have hs' : Region.noSelect ops.toList.toArray = true := by simpa using hs
 have := ePh1Z_sound (Pn := Pn) (K := K) (n := n) (l0 := l0) (S := Ext { w with drawn := w.drawn + 1 }) (w := { w with drawn := w.drawn + 1 }) (fun _ h => h) hs' (okDst_ops hd) (Ext.refl _) l2 _ l1 (Array.replicate ops.size false) F a hk (fun k o _ h => by simp only [Array.getD_eq_getD_getElem?, Array.getElem?_replicate] at h; split at h <;> simp at h) (by simpa using hB) (h (hreal P) (Eng.h P) _ (Same.drew w) _ (fun _ h => h))
  (fun F a listed hk hB h => ePh2Z_sound hs' (okDst_ops hd) l2 listed F a _ hk hB h)
 rw [hl] at this
 exact wp_region_any hm (wpAny_of_U _ _ _ _ (by simpa using this))
end
section
variable {P : Program} {S : World → Prop} {E : Sym} {w : World} {K : Value → World → Prop}
theorem sw_det (hE : EngW S P E) {o : Oper} {vals : List Value} {v : Value} (h : ∀ w1, ∀ ρ : Operand → Value, (opnds o.op).map ρ = vals → (execOp ρ o).run P w1 = .ok (.value v) w1) (hk : K v w) : E.stop o vals w K := hE.det (fun w1 _ ρ hρ => h w1 ρ hρ) hk
end
end Go.Eng
namespace Go.Proofs.YtgnjkdkedjljjaaGreatDoor
open Go.Eng
set_option linter.unusedVariables false
set_option linter.unusedSimpArgs false
theorem IndexS_q {w : World} {A : Option Addr} {n c : Nat} {xs : List ByteArray} (h : Strs w A n c xs) (s : ByteArray) : FC Tryz.prog 279 [.slice A n c, .string s] w fun v _ => ∃ r : Int, v = .int .i64 r ∧ (0 ≤ r ↔ s ∈ xs) := by
 refine FC.intro (cs := []) Tryz.func279 (by kernel_rfl) fun E R hE hr hR => ?_
 have hl := h.len
 have hle := h.le
 conv => cbv
 refine st_len hE tStrs fun x hx' => ?_
 conv => cbv
 refine loop_rule hr (fun (q : Nat × Int) w' => q.1 ≤ n ∧ q.2 = (q.1 : Int) ∧ Ext w w' ∧ s ∉ xs.take q.1) (fun q => [(0, .slice A n c), (1, .string s), (7, .int .i64 x), (8, .int .i64 q.2)]) (fun q => n - q.1) (0, 0)
  (by simp [Fits, lk]) ⟨by simp, by simp, Ext.refl _, by simp⟩ ?_
 rintro J hJ ⟨j, jj⟩ w' ⟨hj, hjj, hx, hno⟩
 simp only at hj hjj hno
 obtain ⟨jk, hjk⟩ : ∃ z, z = jj + 1 := ⟨_, rfl⟩
 conv => cbv
 refine br (fun g => ?_) (fun g => ?_)
 ·have g : j < n := by
   have : jj < x := by simpa [hE.cmp, cmpR] using g
   omega
  have ej : E.ar .add .i64 jj 1 = jk := by rw [hE.ar, hjk]; exact wrap_in (by omega) (by omega)
  conv => cbv
  refine st_str hE tStrs (h.ext hx) hjj g fun p u hsx hz hp => ?_
  conv => cbv
  refine st_load hE cStr hp ?_
  conv => cbv
  refine br (fun g2 => ?_) (fun g2 => ?_)
  ·have g2 : s = u := by
    have h : E.scmp .eql s u = true := g2
    rw [hE.scmp] at h
    exact (scmp_eql s u).1 h
   conv => cbv
   rw [hR]; exact ⟨hx, jj, rfl, iff_of_true (by omega) (by rw [g2]; exact m1_ hsx)⟩
  ·have g2 : s ≠ u := by
    intro e
    have h : ¬ E.scmp .eql s u = true := g2
    rw [hE.scmp] at h
    exact h ((scmp_eql s u).2 e)
   conv => cbv
   simp only [ej]
   refine ⟨(j + 1, jk), by simp [Fits, lk], hJ _ _ ⟨by simp only; omega, by simp only; omega, hx, ?_⟩, by simp only; omega⟩
   simp only
   rw [g4_, hsx, Option.toList_some, List.mem_append]
   rintro (q | q)
   ·exact hno q
   ·exact g2 (by simpa using q)
 ·have g : j = n := by
   have : ¬ jj < x := by simpa [hE.cmp, cmpR] using g
   omega
  rw [g3_ (by omega)] at hno
  conv => cbv
  rw [hR]; exact ⟨hx, -1, rfl, iff_of_false (by omega) hno⟩
theorem Contains_f {w : World} {A : Option Addr} {n c : Nat} {xs : List ByteArray} (h : Strs w A n c xs) (s : ByteArray) : FC Tryz.prog 261 [.slice A n c, .string s] w fun v _ => ∃ b : Bool, v = .bool b ∧ (b = true ↔ s ∈ xs) := by
 refine FC.intro (cs := []) Tryz.func261 (by kernel_rfl) fun E R hE hr hR => ?_
 conv => cbv
 refine st_f hr (IndexS_q h s) fun v w1 hx ⟨r, ev, hr2⟩ => ?_
 subst ev
 conv => cbv
 rw [hR]; exact ⟨hx, E.cmp .geq r 0, rfl, by rw [← hr2]; simp [hE.cmp, cmpR]⟩
section
variable {E : Sym} {w : World} {K : Value → World → Prop} {d : Option Tmp} {ty : TypeId} {pos : String} {aft : Array Edge} {g : Option (Nat × Bool)} {bq : Bool}
theorem run_bV0 (w : World) : (Instr.build 218 #[]).run Tryz.prog w = .ok (.agg ⟨zV⟩) w := by kernel_rfl
theorem run_bV2 (z : Int) (w : World) : (Instr.build 218 #[(0, .int .i64 2), (1, .int .i64 z)]).run Tryz.prog w = .ok (.agg ⟨[.int .i64 2, .int .i64 z, .string ⟨#[]⟩, .slice none 0 0]⟩) w := by kernel_rfl
theorem run_bV4 (A : Option Addr) (m c : Nat) (w : World) : (Instr.build 218 #[(0, .int .i64 4), (3, .slice A m c)]).run Tryz.prog w = .ok (.agg ⟨[.int .i64 4, .int .i64 0, .string ⟨#[]⟩, .slice A m c]⟩) w := by kernel_rfl
theorem run_bWw (op : Int) (v : Value) (w : World) : (Instr.build 366 #[(0, .int .i64 op), (1, .iface 391 v)]).run Tryz.prog w = .ok (.agg ⟨[.int .i64 op, .iface 391 v]⟩) w := by kernel_rfl
theorem st_bV0 (hE : EngB bq Tryz.prog E) (hk : K (.agg ⟨zV⟩) w) : E.stop ⟨d, .build 218 ⟨[]⟩, ty, pos, aft, g⟩ [] w K := by
 refine hE.det (v := .agg ⟨zV⟩) (fun w1 _ ρ hρ => ?_) hk
 have := run_bV0 w1
 simp [execOp, this]
theorem st_bV2 (hE : EngB bq Tryz.prog E) {z : Int} {c : Value} {x : Operand} (hk : K (.agg ⟨[.int .i64 2, .int .i64 z, .string ⟨#[]⟩, .slice none 0 0]⟩) w) : E.stop ⟨d, .build 218 ⟨[(0, .const c), (1, x)]⟩, ty, pos, aft, g⟩ [.int .i64 2, .int .i64 z] w K := by
 refine hE.det (v := .agg ⟨[.int .i64 2, .int .i64 z, .string ⟨#[]⟩, .slice none 0 0]⟩) (fun w1 _ ρ hρ => ?_) hk
 simp only [opnds, b2_, b3_, b1_, and_true] at hρ
 have := run_bV2 z w1
 simp [execOp, hρ, this]
theorem st_bV4 (hE : EngB bq Tryz.prog E) {A : Option Addr} {m cc : Nat} {c : Value} {x : Operand} (hk : K (.agg ⟨[.int .i64 4, .int .i64 0, .string ⟨#[]⟩, .slice A m cc]⟩) w) : E.stop ⟨d, .build 218 ⟨[(0, .const c), (3, x)]⟩, ty, pos, aft, g⟩ [.int .i64 4, .slice A m cc] w K := by
 refine hE.det (v := .agg ⟨[.int .i64 4, .int .i64 0, .string ⟨#[]⟩, .slice A m cc]⟩) (fun w1 _ ρ hρ => ?_) hk
 simp only [opnds, b2_, b3_, b1_, and_true] at hρ
 have := run_bV4 A m cc w1
 simp [execOp, hρ, this]
variable {S : World → Prop}
theorem sw_bV0 (hE : EngW S Tryz.prog E) (hk : K (.agg ⟨zV⟩) w) : E.stop ⟨d, .build 218 ⟨[]⟩, ty, pos, aft, g⟩ [] w K := by
 refine sw_det hE (v := .agg ⟨zV⟩) (fun w1 ρ hρ => ?_) hk
 have := run_bV0 w1
 simp [execOp, this]
theorem sw_bWw (hE : EngW S Tryz.prog E) {op : Int} {v : Value} {x y : Operand} (hk : K (.agg ⟨[.int .i64 op, .iface 391 v]⟩) w) : E.stop ⟨d, .build 366 ⟨[(0, x), (1, y)]⟩, ty, pos, aft, g⟩ [.int .i64 op, .iface 391 v] w K := by
 refine sw_det hE (v := .agg ⟨[.int .i64 op, .iface 391 v]⟩) (fun w1 ρ hρ => ?_) hk
 simp only [opnds, b2_, b3_, b1_, and_true] at hρ
 have := run_bWw op v w1
 simp [execOp, hρ, this]
end
theorem uWw : ∃ u, Tryz.prog.underlying 366 = some u ∧ ∀ ms, u ≠ .interface ms := ⟨_, Tryz.underlying366, by simp⟩
def numX (z : Int) : VV := ⟨⟨2, z, ⟨#[]⟩, []⟩, none, 0, 0⟩
def setX (A : Option Addr) (m c : Nat) (xs : List ByteArray) : VV := ⟨⟨4, 0, ⟨#[]⟩, xs⟩, A, m, c⟩
def zX : VV := ⟨⟨0, 0, ⟨#[]⟩, []⟩, none, 0, 0⟩
theorem number_f {w : World} {q a : Addr} {op n : Int} {e : Value} (hq : w.cell? q = some (.int .i64 op)) (he : e = .nilIface ∨ e = .iface 391 (.pointer (some a))) :
  FC Tryz.prog 255 [.int .i64 n, e, .pointer (some q)] w fun r _ => (e = .nilIface ∧ r = .tuple ⟨[.agg ⟨vC (numX n)⟩, .nilIface]⟩) ∨ (e = .iface 391 (.pointer (some a)) ∧ r = .tuple ⟨[.agg ⟨vC zX⟩, wwV op a]⟩) := by
 refine FC.intro (cs := []) Tryz.func255 (by kernel_rfl) fun E R hE hr hR => ?_
 obtain ⟨ms, hu⟩ := uErr
 conv => cbv
 refine st_alloc hr tIV rfl fun q4 w1 hx1 hb0 => ?_
 have hb := hb0 _ (n1_ _)
 clear hb0
 have hq1 := hx1.cell hq
 rcases he with rfl | rfl
 ·conv => cbv
  refine st_neNil hE hu ?_
  conv => cbv
  refine st_bV2 hE ?_
  conv => cbv
  refine st_putS hr (by kernel_rfl) hb (add_zero _).symm (by simp [zV]) (by simp [Value.oneCell']) fun w2 hw2 hb2 => ?_
  simp only [zV, a1_, a2_, a3_, a4_, a5_, a6_, a7_] at hb2
  conv => cbv
  refine st_cell hr tIV rfl hb2.at ?_
  rw [hR]; exact ⟨hx1.then (hw2.bel hb hx1.size), .inl ⟨rfl, rfl⟩⟩
 ·conv => cbv
  refine st_neSome hE hu ?_
  conv => cbv
  have hqb : q.block < w.heap.size := by
   obtain ⟨bq, oq, xq⟩ := q
   rcases Nat.lt_or_ge bq w.heap.size with h | h
   ·exact h
   ·simp [World.cell?, Array.getElem?_eq_none h] at hq
  have f4 := bx_form hb
  refine draw_s (fun w' => w'.cell? q = some (.int .i64 op)) [0, 1, 2, 3, 4] [(5, false), (6, true)] hr fol (by kernel_rfl) (fun w0 hs => by rw [hs.cell]; exact hq1) fun E' hE' w2 hs2 => ?_
  replace hb := hb.bel hs2.ext
  have hq2 := hs2.ext.cell hq1
  have hx2 := hx1.trans hs2.ext
  conv => cbv
  refine sw_bV0 hE' ?_
  conv => cbv
  refine sw_load hE' cInt (fun _ h => h) ?_
  conv => cbv
  refine sw_bWw hE' ?_
  conv => cbv
  refine sw_mk hE' uWw ?_
  conv => cbv
  refine st_putS hr (by kernel_rfl) hb (add_zero _).symm (by simp [zV]) (by simp [Value.oneCell']) fun w3 hw3 hb3 => ?_
  simp only [zV, a1_, a2_, a3_, a4_, a5_, a6_, a7_] at hb3
  have hx3 := hx2.then (hw3.bel hb hx2.size)
  refine ⟨hx3.cell hq, ?_⟩
  conv => cbv
  refine st_cell hr tIV rfl hb3.at ?_
  rw [hR]; exact ⟨hx3, .inr ⟨rfl, rfl⟩⟩
theorem setOf_f {w : World} {A : Option Addr} {m c : Nat} {xs : List ByteArray} : FC Tryz.prog 256 [.slice A m c] w fun r _ => r = .agg ⟨vC (setX A m c xs)⟩ := by
 refine FC.intro (cs := []) Tryz.func256 (by kernel_rfl) fun E R hE hr hR => ?_
 conv => cbv
 refine st_alloc hr tIV rfl fun q4 w1 hx1 hb0 => ?_
 have hb := hb0 _ (n1_ _)
 clear hb0
 conv => cbv
 refine st_bV4 hE ?_
 conv => cbv
 refine st_putS hr (by kernel_rfl) hb (add_zero _).symm (by simp [zV]) (by simp [Value.oneCell']) fun w2 hw2 hb2 => ?_
 simp only [zV, a1_, a2_, a3_, a4_, a5_, a6_, a7_] at hb2
 conv => cbv
 refine st_cell hr tIV rfl hb2.at ?_
 rw [hR]; exact ⟨hx1.then (hw2.bel hb hx1.size), rfl⟩
def ResM (z o v : Addr) (D : Nat → Prop) (w : World) (R : Int ⊕ PV) (r : Value) : Prop := match R with
 | .inl c => (c = 1 ∨ c = 2 ∨ c = 3) ∧ ∃ (x : VV) (op : Int), r = .tuple ⟨[.agg ⟨vC x⟩, wwV op (sentA z o v c)]⟩
 | .inr p => ∃ x : VV, r = .tuple ⟨[.agg ⟨vC x⟩, .nilIface]⟩ ∧ x.p = p ∧ ValM w x ∧ InD D x.A x.m
def DNew (w0 w : World) (b : Nat) : Prop := w0.heap.size ≤ b ∧ b < w.heap.size
def calcF : List (Int × Int) := [(11, 1), (12, 2), (13, 3), (14, 4), (15, 5)]
theorem calcF_iff (k z : Int) : (k, z) ∈ calcF ↔ 11 ≤ k ∧ k ≤ 15 ∧ z = k - 10 := by
 unfold calcF
 simp only [List.mem_cons, Prod.mk.injEq, List.not_mem_nil, or_false]
 omega
theorem out_R {v r c : Int} (h : OutOf v r c) : (c = 0 ∧ outR v = .inr (numV r)) ∨ (c = 1 ∧ outR v = .inl 1) := by
 unfold outR
 rcases h with ⟨h1, rfl, rfl⟩ | ⟨h1, rfl, rfl⟩
 ·rw [if_pos h1]; exact .inl ⟨rfl, rfl⟩
 ·rw [if_neg h1]; exact .inr ⟨rfl, rfl⟩
theorem calc_R {op a b r c : Int} (h1 : 1 ≤ op) (h5 : op ≤ 5) (h : CalcOf op a b r c) : (c = 0 ∧ calcR op a b = .inr (numV r)) ∨ ((c = 1 ∨ c = 2) ∧ calcR op a b = .inl c) := by
 have fin : ∀ {v : Int}, OutOf v r c → calcR op a b = outR v → (c = 0 ∧ calcR op a b = .inr (numV r)) ∨ ((c = 1 ∨ c = 2) ∧ calcR op a b = .inl c) := fun ho e => by
  rw [e]
  rcases out_R ho with ⟨k1, k2⟩ | ⟨k1, k2⟩
  ·exact .inl ⟨k1, k2⟩
  ·exact .inr ⟨.inl k1, by rw [k2, k1]⟩
 rcases h with ⟨e, ho⟩ | ⟨e, ho⟩ | ⟨e, ho⟩ | ⟨e, hb, hr, hc⟩ | ⟨e, hb, ho⟩ | ⟨e, hb, ho⟩ | ⟨e, _⟩
 ·exact fin ho (by unfold calcR; rw [if_pos e])
 ·exact fin ho (by unfold calcR; rw [if_neg (by omega), if_pos e])
 ·exact fin ho (by unfold calcR; rw [if_neg (by omega), if_neg (by omega), if_pos e])
 ·refine .inr ⟨.inr hc, ?_⟩
  unfold calcR; rw [if_neg (by omega), if_neg (by omega), if_neg (by omega), if_pos hb, hc]
 ·exact fin ho (by unfold calcR; rw [if_neg (by omega), if_neg (by omega), if_neg (by omega), if_neg hb, if_pos e])
 ·exact fin ho (by unfold calcR; rw [if_neg (by omega), if_neg (by omega), if_neg (by omega), if_neg hb, if_neg (by omega)])
 ·omega
def opOK (op : Int) (a b : PV) : Prop := (op = 8 → fits a.n) ∧ (op = 10 → a.xs.length ≤ 64) ∧ (11 ≤ op ∧ op ≤ 15 → fits a.n ∧ fits b.n) ∧ (16 ≤ op ∧ op ≤ 18 ∨ op = 24 → isSet a.xs ∧ isSet b.xs)
theorem union_q {xs ys q : List ByteArray} (hx : isSet xs) (hy : isSet ys) (h : SortOf (xs ++ ys) q) : q = unionS xs ys := h.same (mrg_all hx.2.1 hy.2.1)
theorem inD_none {D : Nat → Prop} {m : Nat} : InD D none m := fun a h => by cases h
theorem inD_own {B e k : Nat} {w : World} {A : Option Addr} {m c : Nat} {xs : List Value} (h : Own B e k w A m c xs) {D : Nat → Prop} (hD : ∀ b, B ≤ b → b < w.heap.size → D b) : InD D A m := fun a ha hm => by
 obtain ⟨g, hg, h1, h2⟩ := h.addr hm
 rw [ha] at hg; cases hg
 exact hD _ h1 h2
theorem numX_m (z : Int) (w : World) : ValM w (numX z) := ⟨⟨rfl, by simp [numX], by simp [numX], ⟨by simp [numX], by simp [numX]⟩, by simp [numX]⟩, by simp [numX, ByteArray.size]⟩
theorem setX_m {w : World} {A : Option Addr} {m c : Nat} {xs : List ByteArray} (h : Strs w A m c xs) : ValM w (setX A m c xs) := ⟨h, by simp [setX, ByteArray.size]⟩
theorem operate_f {w : World} {z o v : Addr} (he : Errs w z o v) (hT : Tab w 7 calcF) {op : Int} (h8 : 8 ≤ op) (h24 : op ≤ 24) {A : Option Addr} {n c : Nat} {vs : List VV} (hcl : Cells w A (vs.flatMap vC)) (hn : vs.length = n) (hn3 : n ≤ 3) {x y : VV} (hvx : vs[0]? = some x) (hvy : 11 ≤ op → vs[1]? = some y) (hmx : ValM w x) (hmy : 11 ≤ op → ValM w y) (hok : opOK op x.p y.p) :
  FC Tryz.prog 194 [.int .i64 op, .slice A n c] w fun r w' => ResM z o v (DNew w w') w' (opR op x.p y.p) r := by
 refine FC.intro (cs := []) Tryz.func194 (by kernel_rfl) fun E R hE hr hR => ?_
 obtain ⟨ms, hu⟩ := uErr
 obtain ⟨aA, hA, hcx⟩ := fl_at vC_len hcl (by omega) hvx
 have hn1 : 1 ≤ n := by have := (List.getElem?_eq_some_iff.1 hvx).1; omega
 have hn2 : 11 ≤ op → 2 ≤ n := fun q => by have := (List.getElem?_eq_some_iff.1 (hvy q)).1; omega
 have hcy : 11 ≤ op → ∀ j u, (vC y)[j]? = some u → w.cell? ((aA.add (1 * 4)).add j) = some u := fun q => by
  obtain ⟨a2, hA2, h2⟩ := fl_at vC_len hcl (by omega) (hvy q)
  rw [hA] at hA2; cases hA2; exact h2
 obtain ⟨⟨kx, nx, tx, xx⟩, Ax, mx, cx⟩ := x
 obtain ⟨⟨ky, ny, ty, xy⟩, Ay, my, cy⟩ := y
 have sx := hmx.1
 have sy := fun q => (hmy q).1
 simp only at sx sy hok
 obtain ⟨ok8, ok10, okA, okS⟩ := hok
 simp only at ok8 ok10 okA okS
 obtain ⟨T, hT0⟩ : ∃ T, T = opR op ⟨kx, nx, tx, xx⟩ ⟨ky, ny, ty, xy⟩ := ⟨_, rfl⟩
 replace hR : R = fun r w' => Ext w w' ∧ ResM z o v (DNew w w') w' T r := by rw [hR, hT0]
 conv => cbv
 refine st_box1 hr rfl fun q2 w1 hx1 h20 => ?_
 have h2 := h20 _ (n1_ _)
 have f20 := (bx_form h2).2.1
 clear h20
 conv => cbv
 refine st_alloc hr tIV rfl fun q4 w2 hx2 h40 => ?_
 have h4 := h40 _ hx1.size
 have f40 := (bx_form (h40 _ (n1_ _))).1
 replace h2 := h2.bel hx2
 have hx0 := hx1.trans hx2
 clear h40 hx1 hx2
 have hs0 := hx0.size
 have f2 := bx_form h2
 have f4 := bx_form h4
 have hc2 : w2.cell? q2 = some (.int .i64 op) := by have := h2.at 0 (.int .i64 op) rfl; rwa [add_zero] at this
 have finT : ∀ (b : Bool) (w' : World), Ext w w' → T = .inr (truthV b) → R (.tuple ⟨[.agg ⟨vC (trV b)⟩, .nilIface]⟩) w' := fun b w' hx e => by
  rw [hR, e]; exact ⟨hx, trV b, rfl, rfl, trV_m b w', inD_none⟩
 have finN : ∀ (i : Int) (w' : World), Ext w w' → T = .inr (numV i) → R (.tuple ⟨[.agg ⟨vC (numX i)⟩, .nilIface]⟩) w' := fun i w' hx e => by
  rw [hR, e]; exact ⟨hx, numX i, rfl, rfl, numX_m i w', inD_none⟩
 have finS : ∀ (A : Option Addr) (m c : Nat) (xs : List ByteArray) (w5 w' : World) (B : Nat), Ext w w' → T = .inr (setV xs) → Strs w5 A m c xs → Own B 9 1 w5 A m c (xs.map .string) → Wr (some q4) w5 w' → w2.heap.size ≤ B → R (.tuple ⟨[.agg ⟨vC (setX A m c xs)⟩, .nilIface]⟩) w' := fun A m c xs w5 w' B hx e hs ho hw hB => by
  have ho9 := ho.wr hw (own_low ho (by omega) f4.2.2).1
  rw [hR, e]; exact ⟨hx, setX A m c xs, rfl, rfl, setX_m (ho9.strs hs.5), inD_own ho9 fun b h1 h2 => ⟨by omega, h2⟩⟩
 have finE : ∀ (c : Int) (x : VV) (op' : Int) (w' : World), Ext w w' → T = .inl c → (c = 1 ∨ c = 2 ∨ c = 3) → R (.tuple ⟨[.agg ⟨vC x⟩, wwV op' (sentA z o v c)]⟩) w' := fun c x op' w' hx e hc => by
  rw [hR, e]; exact ⟨hx, hc, x, op', rfl⟩
 conv => cbv
 refine st_load hE cInt hc2 ?_
 conv => cbv
 refine br (fun g => ?_) (fun g => ?_)
 ·have g : op = 8 := by simpa [hE.cmp, cmpR] using g
  conv => cbv
  refine st_idx hE sIV hA (by omega) (by omega) fun q hq => ?_
  conv => cbv
  refine st_fld hE fIV1 fun p hp => ?_
  conv => cbv
  refine st_load hE cI64 (by rw [hp, hq]; exact hx0.cell (hcx 1 _ rfl)) ?_
  clear hp hq
  conv => cbv
  refine st_f hr (calc_f (he.ext hx0) 2 0 nx (by unfold fits; omega) (ok8 g) (by omega) (by omega)) fun r w3 hx3' hcr => ?_
  obtain ⟨i, hcr⟩ := hcr
  have hx := hx0.trans hx3'
  replace h4 := h4.bel hx3'
  have hT8 : T = calcR 2 0 nx := by rw [hT0]; unfold opR; rw [if_pos g]
  rcases hcr with ⟨rfl, hco⟩ | ⟨rfl, hco⟩ | ⟨rfl, hco⟩
  ·conv => cbv
   refine st_f hr (number_f (a := o) (hx3'.cell hc2) (.inl rfl)) fun r w5 hx5 hnr => ?_
   rcases hnr with ⟨_, rfl⟩ | ⟨q, _⟩
   rotate_left
   ·cases q
   replace h4 := h4.bel hx5
   have hx6 := hx.trans hx5
   have s6 := hx6.size
   conv => cbv
   refine st_putS hr (by kernel_rfl) h4 (add_zero _).symm (by simp [zV]) (by simp [Value.oneCell']) fun w9 hw9 h49 => ?_
   simp only [zV, a1_, a2_, a3_, a4_, a5_, a6_, a7_] at h49
   have hx9 := hx6.then (hw9.bel h4 (by omega))
   conv => cbv
   refine st_cell hr tIV rfl h49.at ?_
   conv => cbv
   exact finN i w9 hx9 (by rw [hT8]; rcases calc_R (by omega) (by omega) hco with ⟨_, e⟩ | ⟨q, _⟩; exact e; omega)
  ·conv => cbv
   refine st_f hr (number_f (a := o) (hx3'.cell hc2) (.inr rfl)) fun r w5 hx5 hnr => ?_
   rcases hnr with ⟨q, _⟩ | ⟨_, rfl⟩
   ·cases q
   replace h4 := h4.bel hx5
   have hx6 := hx.trans hx5
   have s6 := hx6.size
   conv => cbv
   refine st_putS hr (by kernel_rfl) h4 (add_zero _).symm (by simp [zV]) (by simp [Value.oneCell']) fun w9 hw9 h49 => ?_
   simp only [zV, a1_, a2_, a3_, a4_, a5_, a6_, a7_] at h49
   have hx9 := hx6.then (hw9.bel h4 (by omega))
   conv => cbv
   refine st_cell hr tIV rfl h49.at ?_
   conv => cbv
   exact finE 1 zX op w9 hx9 (by rw [hT8]; rcases calc_R (by omega) (by omega) hco with ⟨q, _⟩ | ⟨_, e⟩; omega; exact e) (by omega)
  ·conv => cbv
   refine st_f hr (number_f (a := z) (hx3'.cell hc2) (.inr rfl)) fun r w5 hx5 hnr => ?_
   rcases hnr with ⟨q, _⟩ | ⟨_, rfl⟩
   ·cases q
   replace h4 := h4.bel hx5
   have hx6 := hx.trans hx5
   have s6 := hx6.size
   conv => cbv
   refine st_putS hr (by kernel_rfl) h4 (add_zero _).symm (by simp [zV]) (by simp [Value.oneCell']) fun w9 hw9 h49 => ?_
   simp only [zV, a1_, a2_, a3_, a4_, a5_, a6_, a7_] at h49
   have hx9 := hx6.then (hw9.bel h4 (by omega))
   conv => cbv
   refine st_cell hr tIV rfl h49.at ?_
   conv => cbv
   exact finE 2 zX op w9 hx9 (by rw [hT8]; rcases calc_R (by omega) (by omega) hco with ⟨q, _⟩ | ⟨_, e⟩; omega; exact e) (by omega)
 have g8 : op ≠ 8 := by simpa [hE.cmp, cmpR] using g
 clear g
 conv => cbv
 refine br (fun g => ?_) (fun g => ?_)
 ·have g : op = 9 := by simpa [hE.cmp, cmpR] using g
  conv => cbv
  refine st_idx hE sIV hA (by omega) (by omega) fun q hq => ?_
  conv => cbv
  refine st_fld hE fIV1 fun p hp => ?_
  conv => cbv
  refine st_load hE cI64 (by rw [hp, hq]; exact hx0.cell (hcx 1 _ rfl)) ?_
  clear hp hq
  conv => cbv
  have hb2 : E.cmp .eql nx 0 = true ↔ nx = 0 := by simp [hE.cmp, cmpR]
  refine st_f hr (truth_f (E.cmp .eql nx 0)) fun r w3 hx3' ev => ?_
  obtain ⟨b, hbe⟩ : ∃ b, b = E.cmp .eql nx 0 := ⟨_, rfl⟩
  rw [← hbe] at hb2 ev
  subst ev
  have hx := hx0.trans hx3'
  replace h4 := h4.bel hx3'
  have sx9 := hx.size
  conv => cbv
  refine st_putS hr (by kernel_rfl) h4 (add_zero _).symm (by simp [zV]) (by simp [Value.oneCell']) fun w9 hw9 h49 => ?_
  simp only [zV, a1_, a2_, a3_, a4_, a5_, a6_, a7_] at h49
  have hx9 := hx.then (hw9.bel h4 (by omega))
  conv => cbv
  refine st_cell hr tIV rfl h49.at ?_
  conv => cbv
  exact finT b w9 hx9 (by rw [hT0]; unfold opR; rw [if_neg g8, if_pos g]; exact congrArg (fun b => Sum.inr (truthV b)) (Bool.eq_iff_iff.2 (by simp [hb2])))
 have g9 : op ≠ 9 := by simpa [hE.cmp, cmpR] using g
 clear g
 conv => cbv
 refine br (fun g => ?_) (fun g => ?_)
 ·have g : op = 10 := by simpa [hE.cmp, cmpR] using g
  conv => cbv
  refine st_idx hE sIV hA (by omega) (by omega) fun q hq => ?_
  conv => cbv
  refine st_fld hE fIV3 fun p hp => ?_
  conv => cbv
  refine st_load hE cStrs (by rw [hp, hq]; exact hx0.cell (hcx 3 _ rfl)) ?_
  clear hp hq
  conv => cbv
  refine st_len hE tStrs fun i hi => ?_
  conv => cbv
  refine st_f hr (number_f (a := o) hc2 (.inl rfl)) fun r w3 hx3' hnr => ?_
  rcases hnr with ⟨_, rfl⟩ | ⟨q, _⟩
  rotate_left
  ·cases q
  have hx := hx0.trans hx3'
  replace h4 := h4.bel hx3'
  have sx9 := hx.size
  conv => cbv
  refine st_putS hr (by kernel_rfl) h4 (add_zero _).symm (by simp [zV]) (by simp [Value.oneCell']) fun w9 hw9 h49 => ?_
  simp only [zV, a1_, a2_, a3_, a4_, a5_, a6_, a7_] at h49
  have hx9 := hx.then (hw9.bel h4 (by omega))
  conv => cbv
  refine st_cell hr tIV rfl h49.at ?_
  conv => cbv
  exact finN i w9 hx9 (by rw [hT0]; unfold opR; rw [if_neg g8, if_neg g9, if_pos g]; simp only; rw [hi, sx.len])
 have g10 : op ≠ 10 := by simpa [hE.cmp, cmpR] using g
 clear g
 conv => cbv
 have arith : 11 ≤ op → op ≤ 15 → ∀ {K : Prop}, K → K := fun _ _ _ h => h
 refine br (fun g => ?_) (fun g => ?_)
 ·have g0 := g
  have g : op = 11 := by simpa [hE.cmp, cmpR] using g
  conv => cbv
  refine br (fun _ => ?_) (fun q => absurd g0 q)
  conv => cbv
  refine draw_z [1, 2, 3, 5, 6, 7, 9, 10, 11] [0, 1, 2, 3, 4, 5, 6, 7, 8, 9, 10, 11] [(12, .c), (13, .p), (14, .p), (15, .c), (16, .p), (17, .p), (18, .w), (19, .w)] hr fol (by kernel_rfl) fun E' hE' w3 hs3 S hS => ?_
  replace h4 := h4.bel hs3.ext
  have hc23 := hs3.ext.cell hc2
  have hx := hx0.trans hs3.ext
  obtain ⟨bm, es, clock, t1, t2, t3, t4, _⟩ := (hT.ext hx).ex
  conv => cbv
  refine st_load hE' cMap t1 ?_
  conv => cbv
  refine st_load hE' cInt hc23 ?_
  conv => cbv
  refine st_tab hE' Tryz.underlying316 uInt (by kernel_rfl) t2 t3 t4 fun co hco => ?_
  have hcop : co = op - 10 := by
   have hin : (op, op - 10) ∈ calcF := (calcF_iff op (op - 10)).2 ⟨by omega, by omega, rfl⟩
   rcases hco with hco | ⟨_, hco⟩
   ·exact ((calcF_iff op co).1 hco).2.2
   ·exact absurd hin (hco _)
  conv => cbv
  refine st_idx hE' sIV hA (by omega) (by omega) fun q hq => ?_
  conv => cbv
  refine st_fld hE' fIV1 fun p hp => ?_
  conv => cbv
  refine st_load hE' cI64 (by rw [hp, hq]; exact hx.cell (hcx 1 _ rfl)) ?_
  clear hp hq
  conv => cbv
  refine st_idx hE' sIV hA (by omega) (by omega) fun q hq => ?_
  conv => cbv
  refine st_fld hE' fIV1 fun p hp => ?_
  conv => cbv
  refine st_load hE' cI64 (by rw [hp, hq]; exact hx.cell (hcy (by omega) 1 _ rfl)) ?_
  clear hp hq
  conv => cbv
  have okn := okA ⟨by omega, by omega⟩
  refine st_f hr (calc_f (he.ext hx) co nx ny okn.1 okn.2 (by omega) (by omega)) fun r w4 hx4 hcr => ?_
  obtain ⟨i, hcr⟩ := hcr
  have hx34 := hx.trans hx4
  replace h4 := h4.bel hx4
  have hT8 : T = calcR co nx ny := by rw [hT0, hcop]; unfold opR; rw [if_neg g8, if_neg g9, if_neg g10, if_pos ⟨by omega, by omega⟩]
  refine ⟨hS _ hx4, ?_⟩
  rcases hcr with ⟨rfl, hco2⟩ | ⟨rfl, hco2⟩ | ⟨rfl, hco2⟩
  ·conv => cbv
   refine st_f hr (number_f (a := o) ((hs3.ext.trans hx4).cell hc2) (.inl rfl)) fun r w5 hx5 hnr => ?_
   rcases hnr with ⟨_, rfl⟩ | ⟨q, _⟩
   rotate_left
   ·cases q
   replace h4 := h4.bel hx5
   have hx6 := hx34.trans hx5
   have s6 := hx6.size
   refine ⟨hS _ (hx4.trans hx5), ?_⟩
   conv => cbv
   refine st_putS hr (by kernel_rfl) h4 (add_zero _).symm (by simp [zV]) (by simp [Value.oneCell']) fun w9 hw9 h49 => ?_
   simp only [zV, a1_, a2_, a3_, a4_, a5_, a6_, a7_] at h49
   have hx9 := hx6.then (hw9.bel h4 (by omega))
   conv => cbv
   refine st_cell hr tIV rfl h49.at ?_
   conv => cbv
   exact finN i w9 hx9 (by rw [hT8]; rcases calc_R (by omega) (by omega) hco2 with ⟨_, e⟩ | ⟨q, _⟩; exact e; omega)
  ·conv => cbv
   refine st_f hr (number_f (a := o) ((hs3.ext.trans hx4).cell hc2) (.inr rfl)) fun r w5 hx5 hnr => ?_
   rcases hnr with ⟨q, _⟩ | ⟨_, rfl⟩
   ·cases q
   replace h4 := h4.bel hx5
   have hx6 := hx34.trans hx5
   have s6 := hx6.size
   refine ⟨hS _ (hx4.trans hx5), ?_⟩
   conv => cbv
   refine st_putS hr (by kernel_rfl) h4 (add_zero _).symm (by simp [zV]) (by simp [Value.oneCell']) fun w9 hw9 h49 => ?_
   simp only [zV, a1_, a2_, a3_, a4_, a5_, a6_, a7_] at h49
   have hx9 := hx6.then (hw9.bel h4 (by omega))
   conv => cbv
   refine st_cell hr tIV rfl h49.at ?_
   conv => cbv
   exact finE 1 zX op w9 hx9 (by rw [hT8]; rcases calc_R (by omega) (by omega) hco2 with ⟨q, _⟩ | ⟨_, e⟩; omega; exact e) (by omega)
  ·conv => cbv
   refine st_f hr (number_f (a := z) ((hs3.ext.trans hx4).cell hc2) (.inr rfl)) fun r w5 hx5 hnr => ?_
   rcases hnr with ⟨q, _⟩ | ⟨_, rfl⟩
   ·cases q
   replace h4 := h4.bel hx5
   have hx6 := hx34.trans hx5
   have s6 := hx6.size
   refine ⟨hS _ (hx4.trans hx5), ?_⟩
   conv => cbv
   refine st_putS hr (by kernel_rfl) h4 (add_zero _).symm (by simp [zV]) (by simp [Value.oneCell']) fun w9 hw9 h49 => ?_
   simp only [zV, a1_, a2_, a3_, a4_, a5_, a6_, a7_] at h49
   have hx9 := hx6.then (hw9.bel h4 (by omega))
   conv => cbv
   refine st_cell hr tIV rfl h49.at ?_
   conv => cbv
   exact finE 2 zX op w9 hx9 (by rw [hT8]; rcases calc_R (by omega) (by omega) hco2 with ⟨q, _⟩ | ⟨_, e⟩; omega; exact e) (by omega)
 have g11 : op ≠ 11 := by simpa [hE.cmp, cmpR] using g
 clear g
 conv => cbv
 refine br (fun g => ?_) (fun g => ?_)
 ·have g0 := g
  have g : op = 12 := by simpa [hE.cmp, cmpR] using g
  conv => cbv
  refine br (fun _ => ?_) (fun q => absurd g0 q)
  conv => cbv
  refine draw_z [1, 2, 3, 5, 6, 7, 9, 10, 11] [0, 1, 2, 3, 4, 5, 6, 7, 8, 9, 10, 11] [(12, .c), (13, .p), (14, .p), (15, .c), (16, .p), (17, .p), (18, .w), (19, .w)] hr fol (by kernel_rfl) fun E' hE' w3 hs3 S hS => ?_
  replace h4 := h4.bel hs3.ext
  have hc23 := hs3.ext.cell hc2
  have hx := hx0.trans hs3.ext
  obtain ⟨bm, es, clock, t1, t2, t3, t4, _⟩ := (hT.ext hx).ex
  conv => cbv
  refine st_load hE' cMap t1 ?_
  conv => cbv
  refine st_load hE' cInt hc23 ?_
  conv => cbv
  refine st_tab hE' Tryz.underlying316 uInt (by kernel_rfl) t2 t3 t4 fun co hco => ?_
  have hcop : co = op - 10 := by
   have hin : (op, op - 10) ∈ calcF := (calcF_iff op (op - 10)).2 ⟨by omega, by omega, rfl⟩
   rcases hco with hco | ⟨_, hco⟩
   ·exact ((calcF_iff op co).1 hco).2.2
   ·exact absurd hin (hco _)
  conv => cbv
  refine st_idx hE' sIV hA (by omega) (by omega) fun q hq => ?_
  conv => cbv
  refine st_fld hE' fIV1 fun p hp => ?_
  conv => cbv
  refine st_load hE' cI64 (by rw [hp, hq]; exact hx.cell (hcx 1 _ rfl)) ?_
  clear hp hq
  conv => cbv
  refine st_idx hE' sIV hA (by omega) (by omega) fun q hq => ?_
  conv => cbv
  refine st_fld hE' fIV1 fun p hp => ?_
  conv => cbv
  refine st_load hE' cI64 (by rw [hp, hq]; exact hx.cell (hcy (by omega) 1 _ rfl)) ?_
  clear hp hq
  conv => cbv
  have okn := okA ⟨by omega, by omega⟩
  refine st_f hr (calc_f (he.ext hx) co nx ny okn.1 okn.2 (by omega) (by omega)) fun r w4 hx4 hcr => ?_
  obtain ⟨i, hcr⟩ := hcr
  have hx34 := hx.trans hx4
  replace h4 := h4.bel hx4
  have hT8 : T = calcR co nx ny := by rw [hT0, hcop]; unfold opR; rw [if_neg g8, if_neg g9, if_neg g10, if_pos ⟨by omega, by omega⟩]
  refine ⟨hS _ hx4, ?_⟩
  rcases hcr with ⟨rfl, hco2⟩ | ⟨rfl, hco2⟩ | ⟨rfl, hco2⟩
  ·conv => cbv
   refine st_f hr (number_f (a := o) ((hs3.ext.trans hx4).cell hc2) (.inl rfl)) fun r w5 hx5 hnr => ?_
   rcases hnr with ⟨_, rfl⟩ | ⟨q, _⟩
   rotate_left
   ·cases q
   replace h4 := h4.bel hx5
   have hx6 := hx34.trans hx5
   have s6 := hx6.size
   refine ⟨hS _ (hx4.trans hx5), ?_⟩
   conv => cbv
   refine st_putS hr (by kernel_rfl) h4 (add_zero _).symm (by simp [zV]) (by simp [Value.oneCell']) fun w9 hw9 h49 => ?_
   simp only [zV, a1_, a2_, a3_, a4_, a5_, a6_, a7_] at h49
   have hx9 := hx6.then (hw9.bel h4 (by omega))
   conv => cbv
   refine st_cell hr tIV rfl h49.at ?_
   conv => cbv
   exact finN i w9 hx9 (by rw [hT8]; rcases calc_R (by omega) (by omega) hco2 with ⟨_, e⟩ | ⟨q, _⟩; exact e; omega)
  ·conv => cbv
   refine st_f hr (number_f (a := o) ((hs3.ext.trans hx4).cell hc2) (.inr rfl)) fun r w5 hx5 hnr => ?_
   rcases hnr with ⟨q, _⟩ | ⟨_, rfl⟩
   ·cases q
   replace h4 := h4.bel hx5
   have hx6 := hx34.trans hx5
   have s6 := hx6.size
   refine ⟨hS _ (hx4.trans hx5), ?_⟩
   conv => cbv
   refine st_putS hr (by kernel_rfl) h4 (add_zero _).symm (by simp [zV]) (by simp [Value.oneCell']) fun w9 hw9 h49 => ?_
   simp only [zV, a1_, a2_, a3_, a4_, a5_, a6_, a7_] at h49
   have hx9 := hx6.then (hw9.bel h4 (by omega))
   conv => cbv
   refine st_cell hr tIV rfl h49.at ?_
   conv => cbv
   exact finE 1 zX op w9 hx9 (by rw [hT8]; rcases calc_R (by omega) (by omega) hco2 with ⟨q, _⟩ | ⟨_, e⟩; omega; exact e) (by omega)
  ·conv => cbv
   refine st_f hr (number_f (a := z) ((hs3.ext.trans hx4).cell hc2) (.inr rfl)) fun r w5 hx5 hnr => ?_
   rcases hnr with ⟨q, _⟩ | ⟨_, rfl⟩
   ·cases q
   replace h4 := h4.bel hx5
   have hx6 := hx34.trans hx5
   have s6 := hx6.size
   refine ⟨hS _ (hx4.trans hx5), ?_⟩
   conv => cbv
   refine st_putS hr (by kernel_rfl) h4 (add_zero _).symm (by simp [zV]) (by simp [Value.oneCell']) fun w9 hw9 h49 => ?_
   simp only [zV, a1_, a2_, a3_, a4_, a5_, a6_, a7_] at h49
   have hx9 := hx6.then (hw9.bel h4 (by omega))
   conv => cbv
   refine st_cell hr tIV rfl h49.at ?_
   conv => cbv
   exact finE 2 zX op w9 hx9 (by rw [hT8]; rcases calc_R (by omega) (by omega) hco2 with ⟨q, _⟩ | ⟨_, e⟩; omega; exact e) (by omega)
 have g12 : op ≠ 12 := by simpa [hE.cmp, cmpR] using g
 clear g
 conv => cbv
 refine br (fun g => ?_) (fun g => ?_)
 ·have g0 := g
  have g : op = 13 := by simpa [hE.cmp, cmpR] using g
  conv => cbv
  refine br (fun _ => ?_) (fun q => absurd g0 q)
  conv => cbv
  refine draw_z [1, 2, 3, 5, 6, 7, 9, 10, 11] [0, 1, 2, 3, 4, 5, 6, 7, 8, 9, 10, 11] [(12, .c), (13, .p), (14, .p), (15, .c), (16, .p), (17, .p), (18, .w), (19, .w)] hr fol (by kernel_rfl) fun E' hE' w3 hs3 S hS => ?_
  replace h4 := h4.bel hs3.ext
  have hc23 := hs3.ext.cell hc2
  have hx := hx0.trans hs3.ext
  obtain ⟨bm, es, clock, t1, t2, t3, t4, _⟩ := (hT.ext hx).ex
  conv => cbv
  refine st_load hE' cMap t1 ?_
  conv => cbv
  refine st_load hE' cInt hc23 ?_
  conv => cbv
  refine st_tab hE' Tryz.underlying316 uInt (by kernel_rfl) t2 t3 t4 fun co hco => ?_
  have hcop : co = op - 10 := by
   have hin : (op, op - 10) ∈ calcF := (calcF_iff op (op - 10)).2 ⟨by omega, by omega, rfl⟩
   rcases hco with hco | ⟨_, hco⟩
   ·exact ((calcF_iff op co).1 hco).2.2
   ·exact absurd hin (hco _)
  conv => cbv
  refine st_idx hE' sIV hA (by omega) (by omega) fun q hq => ?_
  conv => cbv
  refine st_fld hE' fIV1 fun p hp => ?_
  conv => cbv
  refine st_load hE' cI64 (by rw [hp, hq]; exact hx.cell (hcx 1 _ rfl)) ?_
  clear hp hq
  conv => cbv
  refine st_idx hE' sIV hA (by omega) (by omega) fun q hq => ?_
  conv => cbv
  refine st_fld hE' fIV1 fun p hp => ?_
  conv => cbv
  refine st_load hE' cI64 (by rw [hp, hq]; exact hx.cell (hcy (by omega) 1 _ rfl)) ?_
  clear hp hq
  conv => cbv
  have okn := okA ⟨by omega, by omega⟩
  refine st_f hr (calc_f (he.ext hx) co nx ny okn.1 okn.2 (by omega) (by omega)) fun r w4 hx4 hcr => ?_
  obtain ⟨i, hcr⟩ := hcr
  have hx34 := hx.trans hx4
  replace h4 := h4.bel hx4
  have hT8 : T = calcR co nx ny := by rw [hT0, hcop]; unfold opR; rw [if_neg g8, if_neg g9, if_neg g10, if_pos ⟨by omega, by omega⟩]
  refine ⟨hS _ hx4, ?_⟩
  rcases hcr with ⟨rfl, hco2⟩ | ⟨rfl, hco2⟩ | ⟨rfl, hco2⟩
  ·conv => cbv
   refine st_f hr (number_f (a := o) ((hs3.ext.trans hx4).cell hc2) (.inl rfl)) fun r w5 hx5 hnr => ?_
   rcases hnr with ⟨_, rfl⟩ | ⟨q, _⟩
   rotate_left
   ·cases q
   replace h4 := h4.bel hx5
   have hx6 := hx34.trans hx5
   have s6 := hx6.size
   refine ⟨hS _ (hx4.trans hx5), ?_⟩
   conv => cbv
   refine st_putS hr (by kernel_rfl) h4 (add_zero _).symm (by simp [zV]) (by simp [Value.oneCell']) fun w9 hw9 h49 => ?_
   simp only [zV, a1_, a2_, a3_, a4_, a5_, a6_, a7_] at h49
   have hx9 := hx6.then (hw9.bel h4 (by omega))
   conv => cbv
   refine st_cell hr tIV rfl h49.at ?_
   conv => cbv
   exact finN i w9 hx9 (by rw [hT8]; rcases calc_R (by omega) (by omega) hco2 with ⟨_, e⟩ | ⟨q, _⟩; exact e; omega)
  ·conv => cbv
   refine st_f hr (number_f (a := o) ((hs3.ext.trans hx4).cell hc2) (.inr rfl)) fun r w5 hx5 hnr => ?_
   rcases hnr with ⟨q, _⟩ | ⟨_, rfl⟩
   ·cases q
   replace h4 := h4.bel hx5
   have hx6 := hx34.trans hx5
   have s6 := hx6.size
   refine ⟨hS _ (hx4.trans hx5), ?_⟩
   conv => cbv
   refine st_putS hr (by kernel_rfl) h4 (add_zero _).symm (by simp [zV]) (by simp [Value.oneCell']) fun w9 hw9 h49 => ?_
   simp only [zV, a1_, a2_, a3_, a4_, a5_, a6_, a7_] at h49
   have hx9 := hx6.then (hw9.bel h4 (by omega))
   conv => cbv
   refine st_cell hr tIV rfl h49.at ?_
   conv => cbv
   exact finE 1 zX op w9 hx9 (by rw [hT8]; rcases calc_R (by omega) (by omega) hco2 with ⟨q, _⟩ | ⟨_, e⟩; omega; exact e) (by omega)
  ·conv => cbv
   refine st_f hr (number_f (a := z) ((hs3.ext.trans hx4).cell hc2) (.inr rfl)) fun r w5 hx5 hnr => ?_
   rcases hnr with ⟨q, _⟩ | ⟨_, rfl⟩
   ·cases q
   replace h4 := h4.bel hx5
   have hx6 := hx34.trans hx5
   have s6 := hx6.size
   refine ⟨hS _ (hx4.trans hx5), ?_⟩
   conv => cbv
   refine st_putS hr (by kernel_rfl) h4 (add_zero _).symm (by simp [zV]) (by simp [Value.oneCell']) fun w9 hw9 h49 => ?_
   simp only [zV, a1_, a2_, a3_, a4_, a5_, a6_, a7_] at h49
   have hx9 := hx6.then (hw9.bel h4 (by omega))
   conv => cbv
   refine st_cell hr tIV rfl h49.at ?_
   conv => cbv
   exact finE 2 zX op w9 hx9 (by rw [hT8]; rcases calc_R (by omega) (by omega) hco2 with ⟨q, _⟩ | ⟨_, e⟩; omega; exact e) (by omega)
 have g13 : op ≠ 13 := by simpa [hE.cmp, cmpR] using g
 clear g
 conv => cbv
 refine br (fun g => ?_) (fun g => ?_)
 ·have g0 := g
  have g : op = 14 := by simpa [hE.cmp, cmpR] using g
  conv => cbv
  refine br (fun _ => ?_) (fun q => absurd g0 q)
  conv => cbv
  refine draw_z [1, 2, 3, 5, 6, 7, 9, 10, 11] [0, 1, 2, 3, 4, 5, 6, 7, 8, 9, 10, 11] [(12, .c), (13, .p), (14, .p), (15, .c), (16, .p), (17, .p), (18, .w), (19, .w)] hr fol (by kernel_rfl) fun E' hE' w3 hs3 S hS => ?_
  replace h4 := h4.bel hs3.ext
  have hc23 := hs3.ext.cell hc2
  have hx := hx0.trans hs3.ext
  obtain ⟨bm, es, clock, t1, t2, t3, t4, _⟩ := (hT.ext hx).ex
  conv => cbv
  refine st_load hE' cMap t1 ?_
  conv => cbv
  refine st_load hE' cInt hc23 ?_
  conv => cbv
  refine st_tab hE' Tryz.underlying316 uInt (by kernel_rfl) t2 t3 t4 fun co hco => ?_
  have hcop : co = op - 10 := by
   have hin : (op, op - 10) ∈ calcF := (calcF_iff op (op - 10)).2 ⟨by omega, by omega, rfl⟩
   rcases hco with hco | ⟨_, hco⟩
   ·exact ((calcF_iff op co).1 hco).2.2
   ·exact absurd hin (hco _)
  conv => cbv
  refine st_idx hE' sIV hA (by omega) (by omega) fun q hq => ?_
  conv => cbv
  refine st_fld hE' fIV1 fun p hp => ?_
  conv => cbv
  refine st_load hE' cI64 (by rw [hp, hq]; exact hx.cell (hcx 1 _ rfl)) ?_
  clear hp hq
  conv => cbv
  refine st_idx hE' sIV hA (by omega) (by omega) fun q hq => ?_
  conv => cbv
  refine st_fld hE' fIV1 fun p hp => ?_
  conv => cbv
  refine st_load hE' cI64 (by rw [hp, hq]; exact hx.cell (hcy (by omega) 1 _ rfl)) ?_
  clear hp hq
  conv => cbv
  have okn := okA ⟨by omega, by omega⟩
  refine st_f hr (calc_f (he.ext hx) co nx ny okn.1 okn.2 (by omega) (by omega)) fun r w4 hx4 hcr => ?_
  obtain ⟨i, hcr⟩ := hcr
  have hx34 := hx.trans hx4
  replace h4 := h4.bel hx4
  have hT8 : T = calcR co nx ny := by rw [hT0, hcop]; unfold opR; rw [if_neg g8, if_neg g9, if_neg g10, if_pos ⟨by omega, by omega⟩]
  refine ⟨hS _ hx4, ?_⟩
  rcases hcr with ⟨rfl, hco2⟩ | ⟨rfl, hco2⟩ | ⟨rfl, hco2⟩
  ·conv => cbv
   refine st_f hr (number_f (a := o) ((hs3.ext.trans hx4).cell hc2) (.inl rfl)) fun r w5 hx5 hnr => ?_
   rcases hnr with ⟨_, rfl⟩ | ⟨q, _⟩
   rotate_left
   ·cases q
   replace h4 := h4.bel hx5
   have hx6 := hx34.trans hx5
   have s6 := hx6.size
   refine ⟨hS _ (hx4.trans hx5), ?_⟩
   conv => cbv
   refine st_putS hr (by kernel_rfl) h4 (add_zero _).symm (by simp [zV]) (by simp [Value.oneCell']) fun w9 hw9 h49 => ?_
   simp only [zV, a1_, a2_, a3_, a4_, a5_, a6_, a7_] at h49
   have hx9 := hx6.then (hw9.bel h4 (by omega))
   conv => cbv
   refine st_cell hr tIV rfl h49.at ?_
   conv => cbv
   exact finN i w9 hx9 (by rw [hT8]; rcases calc_R (by omega) (by omega) hco2 with ⟨_, e⟩ | ⟨q, _⟩; exact e; omega)
  ·conv => cbv
   refine st_f hr (number_f (a := o) ((hs3.ext.trans hx4).cell hc2) (.inr rfl)) fun r w5 hx5 hnr => ?_
   rcases hnr with ⟨q, _⟩ | ⟨_, rfl⟩
   ·cases q
   replace h4 := h4.bel hx5
   have hx6 := hx34.trans hx5
   have s6 := hx6.size
   refine ⟨hS _ (hx4.trans hx5), ?_⟩
   conv => cbv
   refine st_putS hr (by kernel_rfl) h4 (add_zero _).symm (by simp [zV]) (by simp [Value.oneCell']) fun w9 hw9 h49 => ?_
   simp only [zV, a1_, a2_, a3_, a4_, a5_, a6_, a7_] at h49
   have hx9 := hx6.then (hw9.bel h4 (by omega))
   conv => cbv
   refine st_cell hr tIV rfl h49.at ?_
   conv => cbv
   exact finE 1 zX op w9 hx9 (by rw [hT8]; rcases calc_R (by omega) (by omega) hco2 with ⟨q, _⟩ | ⟨_, e⟩; omega; exact e) (by omega)
  ·conv => cbv
   refine st_f hr (number_f (a := z) ((hs3.ext.trans hx4).cell hc2) (.inr rfl)) fun r w5 hx5 hnr => ?_
   rcases hnr with ⟨q, _⟩ | ⟨_, rfl⟩
   ·cases q
   replace h4 := h4.bel hx5
   have hx6 := hx34.trans hx5
   have s6 := hx6.size
   refine ⟨hS _ (hx4.trans hx5), ?_⟩
   conv => cbv
   refine st_putS hr (by kernel_rfl) h4 (add_zero _).symm (by simp [zV]) (by simp [Value.oneCell']) fun w9 hw9 h49 => ?_
   simp only [zV, a1_, a2_, a3_, a4_, a5_, a6_, a7_] at h49
   have hx9 := hx6.then (hw9.bel h4 (by omega))
   conv => cbv
   refine st_cell hr tIV rfl h49.at ?_
   conv => cbv
   exact finE 2 zX op w9 hx9 (by rw [hT8]; rcases calc_R (by omega) (by omega) hco2 with ⟨q, _⟩ | ⟨_, e⟩; omega; exact e) (by omega)
 have g14 : op ≠ 14 := by simpa [hE.cmp, cmpR] using g
 clear g
 conv => cbv
 refine br (fun g => ?_) (fun g => ?_)
 ·have g0 := g
  have g : op = 15 := by simpa [hE.cmp, cmpR] using g
  conv => cbv
  refine draw_z [1, 2, 3, 5, 6, 7, 9, 10, 11] [0, 1, 2, 3, 4, 5, 6, 7, 8, 9, 10, 11] [(12, .c), (13, .p), (14, .p), (15, .c), (16, .p), (17, .p), (18, .w), (19, .w)] hr fol (by kernel_rfl) fun E' hE' w3 hs3 S hS => ?_
  replace h4 := h4.bel hs3.ext
  have hc23 := hs3.ext.cell hc2
  have hx := hx0.trans hs3.ext
  obtain ⟨bm, es, clock, t1, t2, t3, t4, _⟩ := (hT.ext hx).ex
  conv => cbv
  refine st_load hE' cMap t1 ?_
  conv => cbv
  refine st_load hE' cInt hc23 ?_
  conv => cbv
  refine st_tab hE' Tryz.underlying316 uInt (by kernel_rfl) t2 t3 t4 fun co hco => ?_
  have hcop : co = op - 10 := by
   have hin : (op, op - 10) ∈ calcF := (calcF_iff op (op - 10)).2 ⟨by omega, by omega, rfl⟩
   rcases hco with hco | ⟨_, hco⟩
   ·exact ((calcF_iff op co).1 hco).2.2
   ·exact absurd hin (hco _)
  conv => cbv
  refine st_idx hE' sIV hA (by omega) (by omega) fun q hq => ?_
  conv => cbv
  refine st_fld hE' fIV1 fun p hp => ?_
  conv => cbv
  refine st_load hE' cI64 (by rw [hp, hq]; exact hx.cell (hcx 1 _ rfl)) ?_
  clear hp hq
  conv => cbv
  refine st_idx hE' sIV hA (by omega) (by omega) fun q hq => ?_
  conv => cbv
  refine st_fld hE' fIV1 fun p hp => ?_
  conv => cbv
  refine st_load hE' cI64 (by rw [hp, hq]; exact hx.cell (hcy (by omega) 1 _ rfl)) ?_
  clear hp hq
  conv => cbv
  have okn := okA ⟨by omega, by omega⟩
  refine st_f hr (calc_f (he.ext hx) co nx ny okn.1 okn.2 (by omega) (by omega)) fun r w4 hx4 hcr => ?_
  obtain ⟨i, hcr⟩ := hcr
  have hx34 := hx.trans hx4
  replace h4 := h4.bel hx4
  have hT8 : T = calcR co nx ny := by rw [hT0, hcop]; unfold opR; rw [if_neg g8, if_neg g9, if_neg g10, if_pos ⟨by omega, by omega⟩]
  refine ⟨hS _ hx4, ?_⟩
  rcases hcr with ⟨rfl, hco2⟩ | ⟨rfl, hco2⟩ | ⟨rfl, hco2⟩
  ·conv => cbv
   refine st_f hr (number_f (a := o) ((hs3.ext.trans hx4).cell hc2) (.inl rfl)) fun r w5 hx5 hnr => ?_
   rcases hnr with ⟨_, rfl⟩ | ⟨q, _⟩
   rotate_left
   ·cases q
   replace h4 := h4.bel hx5
   have hx6 := hx34.trans hx5
   have s6 := hx6.size
   refine ⟨hS _ (hx4.trans hx5), ?_⟩
   conv => cbv
   refine st_putS hr (by kernel_rfl) h4 (add_zero _).symm (by simp [zV]) (by simp [Value.oneCell']) fun w9 hw9 h49 => ?_
   simp only [zV, a1_, a2_, a3_, a4_, a5_, a6_, a7_] at h49
   have hx9 := hx6.then (hw9.bel h4 (by omega))
   conv => cbv
   refine st_cell hr tIV rfl h49.at ?_
   conv => cbv
   exact finN i w9 hx9 (by rw [hT8]; rcases calc_R (by omega) (by omega) hco2 with ⟨_, e⟩ | ⟨q, _⟩; exact e; omega)
  ·conv => cbv
   refine st_f hr (number_f (a := o) ((hs3.ext.trans hx4).cell hc2) (.inr rfl)) fun r w5 hx5 hnr => ?_
   rcases hnr with ⟨q, _⟩ | ⟨_, rfl⟩
   ·cases q
   replace h4 := h4.bel hx5
   have hx6 := hx34.trans hx5
   have s6 := hx6.size
   refine ⟨hS _ (hx4.trans hx5), ?_⟩
   conv => cbv
   refine st_putS hr (by kernel_rfl) h4 (add_zero _).symm (by simp [zV]) (by simp [Value.oneCell']) fun w9 hw9 h49 => ?_
   simp only [zV, a1_, a2_, a3_, a4_, a5_, a6_, a7_] at h49
   have hx9 := hx6.then (hw9.bel h4 (by omega))
   conv => cbv
   refine st_cell hr tIV rfl h49.at ?_
   conv => cbv
   exact finE 1 zX op w9 hx9 (by rw [hT8]; rcases calc_R (by omega) (by omega) hco2 with ⟨q, _⟩ | ⟨_, e⟩; omega; exact e) (by omega)
  ·conv => cbv
   refine st_f hr (number_f (a := z) ((hs3.ext.trans hx4).cell hc2) (.inr rfl)) fun r w5 hx5 hnr => ?_
   rcases hnr with ⟨q, _⟩ | ⟨_, rfl⟩
   ·cases q
   replace h4 := h4.bel hx5
   have hx6 := hx34.trans hx5
   have s6 := hx6.size
   refine ⟨hS _ (hx4.trans hx5), ?_⟩
   conv => cbv
   refine st_putS hr (by kernel_rfl) h4 (add_zero _).symm (by simp [zV]) (by simp [Value.oneCell']) fun w9 hw9 h49 => ?_
   simp only [zV, a1_, a2_, a3_, a4_, a5_, a6_, a7_] at h49
   have hx9 := hx6.then (hw9.bel h4 (by omega))
   conv => cbv
   refine st_cell hr tIV rfl h49.at ?_
   conv => cbv
   exact finE 2 zX op w9 hx9 (by rw [hT8]; rcases calc_R (by omega) (by omega) hco2 with ⟨q, _⟩ | ⟨_, e⟩; omega; exact e) (by omega)
 have g15 : op ≠ 15 := by simpa [hE.cmp, cmpR] using g
 clear g
 conv => cbv
 refine br (fun g => ?_) (fun g => ?_)
 ·have g : op = 16 := by simpa [hE.cmp, cmpR] using g
  conv => cbv
  have oks := okS (.inl ⟨by omega, by omega⟩)
  refine draw_z [1, 2, 3, 5, 6, 7] [0, 1, 2, 3, 4, 5, 6, 7] [(8, .c), (9, .p), (10, .p), (11, .p), (12, .p), (13, .p)] hr fol (by kernel_rfl) fun E' hE' w3 hs3 S hS => ?_
  replace h4 := h4.bel hs3.ext
  have hc23 := hs3.ext.cell hc2
  have hx := hx0.trans hs3.ext
  conv => cbv
  refine st_idx hE' sIV hA (by omega) (by omega) fun q hq => ?_
  conv => cbv
  refine st_fld hE' fIV3 fun p hp => ?_
  conv => cbv
  refine st_load hE' cStrs (by rw [hp, hq]; exact hx.cell (hcx 3 _ rfl)) ?_
  clear hp hq
  conv => cbv
  refine st_idx hE' sIV hA (by omega) (by omega) fun q hq => ?_
  conv => cbv
  refine st_fld hE' fIV3 fun p hp => ?_
  conv => cbv
  refine st_load hE' cStrs (by rw [hp, hq]; exact hx.cell (hcy (by omega) 3 _ rfl)) ?_
  clear hp hq
  conv => cbv
  have lx := sx.len
  have ly := (sy (by omega)).len
  have l1 := oks.1.2.2
  have l2 := oks.2.2.2
  refine st_f hr (union_f (he.ext hx) (sx.ext hx) ((sy (by omega)).ext hx) oks.1.2.1 oks.2.2.1 (by omega)) fun r w4 hx4 ⟨qq, hso, hor⟩ => ?_
  have hqq := union_q oks.1 oks.2 hso
  have hx34 := hx.trans hx4
  replace h4 := h4.bel hx4
  have hc24 := hx4.cell hc23
  refine ⟨hS _ hx4, ?_⟩
  have hT8 : T = if 64 < (unionS xx xy).length then .inl 3 else .inr (setV (unionS xx xy)) := by
   rw [hT0]; unfold opR; rw [if_neg g8, if_neg g9, if_neg g10, if_neg (by omega), if_pos g]
  rcases hor with ⟨hl, rfl⟩ | ⟨hl, A1, n1, c1, rfl, hst, hown⟩
  ·conv => cbv
   refine st_neSome hE hu ?_
   conv => cbv
   refine draw_s (fun w' => w'.cell? q2 = some (.int .i64 op)) [0, 1, 2, 3, 4] [(5, false), (6, true)] hr fol (by kernel_rfl) (fun w0 hs => by rw [hs.cell]; exact hc24) fun E'' hE'' w5 hs5 => ?_
   replace h4 := h4.bel hs5.ext
   have hx5 := hx34.trans hs5.ext
   have hc25 := hs5.ext.cell hc24
   have s5 := hx5.size
   conv => cbv
   refine sw_bV0 hE'' ?_
   conv => cbv
   refine sw_load hE'' cInt (fun _ h => h) ?_
   conv => cbv
   refine sw_bWw hE'' ?_
   conv => cbv
   refine sw_mk hE'' uWw ?_
   conv => cbv
   refine st_putS hr (by kernel_rfl) h4 (add_zero _).symm (by simp [zV]) (by simp [Value.oneCell']) fun w9 hw9 h49 => ?_
   simp only [zV, a1_, a2_, a3_, a4_, a5_, a6_, a7_] at h49
   have hx9 := hx5.then (hw9.bel h4 (by omega))
   have h29 := (h2.bel ((hs3.ext.trans hx4).trans hs5.ext)).wr hw9 (bx_apart f2.2.2 f4.2.2 (by omega))
   refine ⟨by have := h29.at 0 (.int .i64 op) rfl; rwa [add_zero] at this, ?_⟩
   conv => cbv
   refine st_cell hr tIV rfl h49.at ?_
   conv => cbv
   exact finE 3 zX op w9 hx9 (by rw [hT8, if_pos (by rw [← hqq]; exact hl)]) (.inr (.inr rfl))
  ·conv => cbv
   refine st_neNil hE hu ?_
   conv => cbv
   refine st_f hr (setOf_f (xs := qq)) fun r w5 hx5 ev => ?_
   subst ev
   replace h4 := h4.bel hx5
   have hx6 := hx34.trans hx5
   have s6 := hx6.size
   conv => cbv
   refine st_putS hr (by kernel_rfl) h4 (add_zero _).symm (by simp [zV]) (by simp [Value.oneCell']) fun w9 hw9 h49 => ?_
   simp only [zV, a1_, a2_, a3_, a4_, a5_, a6_, a7_] at h49
   have hx9 := hx6.then (hw9.bel h4 (by omega))
   conv => cbv
   refine st_cell hr tIV rfl h49.at ?_
   conv => cbv
   exact finS A1 n1 c1 qq _ w9 _ hx9 (by rw [hT8, if_neg (by rw [← hqq]; omega), hqq]) (hst.ext hx5) (hown.bel hx5) hw9 hs3.ext.size
 have g16 : op ≠ 16 := by simpa [hE.cmp, cmpR] using g
 clear g
 conv => cbv
 refine br (fun g => ?_) (fun g => ?_)
 ·have g : op = 17 := by simpa [hE.cmp, cmpR] using g
  conv => cbv
  have oks := okS (.inl ⟨by omega, by omega⟩)
  refine draw_t [0, 1, 2, 3, 4, 5, 6, 7, 8] [(9, true), (10, true), (11, false), (12, false)] hr fol (by kernel_rfl) fun E' hE' w3 hs3 S hS => ?_
  replace h4 := h4.bel hs3.ext
  have hx := hx0.trans hs3.ext
  conv => cbv
  refine st_idx hE' sIV hA (by omega) (by omega) fun q hq => ?_
  conv => cbv
  refine st_fld hE' fIV3 fun p hp => ?_
  conv => cbv
  refine st_load hE' cStrs (by rw [hp, hq]; exact hx.cell (hcx 3 _ rfl)) ?_
  clear hp hq
  conv => cbv
  refine st_idx hE' sIV hA (by omega) (by omega) fun q hq => ?_
  conv => cbv
  refine st_fld hE' fIV3 fun p hp => ?_
  conv => cbv
  refine st_load hE' cStrs (by rw [hp, hq]; exact hx.cell (hcy (by omega) 3 _ rfl)) ?_
  clear hp hq
  conv => cbv
  have lx := sx.len
  have ly := (sy (by omega)).len
  have l1 := oks.1.2.2
  have l2 := oks.2.2.2
  refine st_f hr (meet_f (sx.ext hx) ((sy (by omega)).ext hx) oks.1.2.1 oks.2.2.1 (by omega)) fun r w4 hx4 ⟨A1, n1, c1, ev, hst, hown⟩ => ?_
  subst ev
  have hx34 := hx.trans hx4
  replace h4 := h4.bel hx4
  refine ⟨hS _ hx4, ?_⟩
  conv => cbv
  obtain ⟨qq, hqq⟩ : ∃ qq, qq = picked xx xy true := ⟨_, rfl⟩
  rw [← hqq] at hst hown
  refine st_f hr (setOf_f (xs := qq)) fun r w5 hx5 ev => ?_
  subst ev
  replace h4 := h4.bel hx5
  have hx6 := hx34.trans hx5
  have s6 := hx6.size
  refine ⟨hS _ (hx4.trans hx5), ?_⟩
  conv => cbv
  refine st_putS hr (by kernel_rfl) h4 (add_zero _).symm (by simp [zV]) (by simp [Value.oneCell']) fun w9 hw9 h49 => ?_
  simp only [zV, a1_, a2_, a3_, a4_, a5_, a6_, a7_] at h49
  have hx9 := hx6.then (hw9.bel h4 (by omega))
  conv => cbv
  refine st_cell hr tIV rfl h49.at ?_
  conv => cbv
  exact finS A1 n1 c1 qq _ w9 _ hx9 (by rw [hT0, hqq]; unfold opR; rw [if_neg g8, if_neg g9, if_neg g10, if_neg (by omega), if_neg g16, if_pos g]) (hst.ext hx5) (hown.bel hx5) hw9 hs3.ext.size
 have g17 : op ≠ 17 := by simpa [hE.cmp, cmpR] using g
 clear g
 conv => cbv
 refine br (fun g => ?_) (fun g => ?_)
 ·have g : op = 18 := by simpa [hE.cmp, cmpR] using g
  conv => cbv
  have oks := okS (.inl ⟨by omega, by omega⟩)
  refine draw_t [0, 1, 2, 3, 4, 5, 6, 7, 8] [(9, true), (10, true), (11, false), (12, false)] hr fol (by kernel_rfl) fun E' hE' w3 hs3 S hS => ?_
  replace h4 := h4.bel hs3.ext
  have hx := hx0.trans hs3.ext
  conv => cbv
  refine st_idx hE' sIV hA (by omega) (by omega) fun q hq => ?_
  conv => cbv
  refine st_fld hE' fIV3 fun p hp => ?_
  conv => cbv
  refine st_load hE' cStrs (by rw [hp, hq]; exact hx.cell (hcx 3 _ rfl)) ?_
  clear hp hq
  conv => cbv
  refine st_idx hE' sIV hA (by omega) (by omega) fun q hq => ?_
  conv => cbv
  refine st_fld hE' fIV3 fun p hp => ?_
  conv => cbv
  refine st_load hE' cStrs (by rw [hp, hq]; exact hx.cell (hcy (by omega) 3 _ rfl)) ?_
  clear hp hq
  conv => cbv
  have lx := sx.len
  have ly := (sy (by omega)).len
  have l1 := oks.1.2.2
  have l2 := oks.2.2.2
  refine st_f hr (minus_f (sx.ext hx) ((sy (by omega)).ext hx) oks.1.2.1 oks.2.2.1 (by omega)) fun r w4 hx4 ⟨A1, n1, c1, ev, hst, hown⟩ => ?_
  subst ev
  have hx34 := hx.trans hx4
  replace h4 := h4.bel hx4
  refine ⟨hS _ hx4, ?_⟩
  conv => cbv
  obtain ⟨qq, hqq⟩ : ∃ qq, qq = picked xx xy false := ⟨_, rfl⟩
  rw [← hqq] at hst hown
  refine st_f hr (setOf_f (xs := qq)) fun r w5 hx5 ev => ?_
  subst ev
  replace h4 := h4.bel hx5
  have hx6 := hx34.trans hx5
  have s6 := hx6.size
  refine ⟨hS _ (hx4.trans hx5), ?_⟩
  conv => cbv
  refine st_putS hr (by kernel_rfl) h4 (add_zero _).symm (by simp [zV]) (by simp [Value.oneCell']) fun w9 hw9 h49 => ?_
  simp only [zV, a1_, a2_, a3_, a4_, a5_, a6_, a7_] at h49
  have hx9 := hx6.then (hw9.bel h4 (by omega))
  conv => cbv
  refine st_cell hr tIV rfl h49.at ?_
  conv => cbv
  exact finS A1 n1 c1 qq _ w9 _ hx9 (by rw [hT0, hqq]; unfold opR; rw [if_neg g8, if_neg g9, if_neg g10, if_neg (by omega), if_neg g16, if_neg g17, if_pos g]) (hst.ext hx5) (hown.bel hx5) hw9 hs3.ext.size
 have g18 : op ≠ 18 := by simpa [hE.cmp, cmpR] using g
 clear g
 conv => cbv
 refine br (fun g => ?_) (fun g => ?_)
 ·have g : op = 19 := by simpa [hE.cmp, cmpR] using g
  conv => cbv
  refine draw_t [0, 1, 2, 3, 4, 5] [(6, true), (7, true), (8, false), (9, false)] hr fol (by kernel_rfl) fun E' hE' w3 hs3 S hS => ?_
  replace h4 := h4.bel hs3.ext
  have hx := hx0.trans hs3.ext
  conv => cbv
  refine st_idx hE' sIV hA (by omega) (by omega) fun q hq => ?_
  conv => cbv
  refine st_loadS hE' tIV (vs := [.int .i64 kx, .int .i64 nx, .string tx, .slice Ax mx cx]) rfl (by rw [hq]; exact fun j u hu => hx.cell (hcx j u hu)) ?_
  clear hq
  conv => cbv
  refine st_idx hE' sIV hA (by omega) (by omega) fun q hq => ?_
  conv => cbv
  refine st_loadS hE' tIV (vs := [.int .i64 ky, .int .i64 ny, .string ty, .slice Ay my cy]) rfl (by rw [hq]; exact fun j u hu => hx.cell (hcy (by omega) j u hu)) ?_
  clear hq
  conv => cbv
  refine st_f hr (equal_f (a := ⟨⟨kx, nx, tx, xx⟩, Ax, mx, cx⟩) (b := ⟨⟨ky, ny, ty, xy⟩, Ay, my, cy⟩) (hmx.ext hx) ((hmy (by omega)).ext hx)) fun r w4 hx4 ⟨b, ev, hb2⟩ => ?_
  subst ev
  have hx34 := hx.trans hx4
  replace h4 := h4.bel hx4
  refine ⟨hS _ hx4, ?_⟩
  conv => cbv
  refine st_f hr (truth_f b) fun r w5 hx5 ev => ?_
  subst ev
  replace h4 := h4.bel hx5
  have hx6 := hx34.trans hx5
  have s6 := hx6.size
  refine ⟨hS _ (hx4.trans hx5), ?_⟩
  conv => cbv
  refine st_putS hr (by kernel_rfl) h4 (add_zero _).symm (by simp [zV]) (by simp [Value.oneCell']) fun w9 hw9 h49 => ?_
  simp only [zV, a1_, a2_, a3_, a4_, a5_, a6_, a7_] at h49
  have hx9 := hx6.then (hw9.bel h4 (by omega))
  conv => cbv
  refine st_cell hr tIV rfl h49.at ?_
  conv => cbv
  exact finT b w9 hx9 (by rw [hT0]; unfold opR; rw [if_neg g8, if_neg g9, if_neg g10, if_neg (by omega), if_neg g16, if_neg g17, if_neg g18, if_pos g]; exact congrArg (fun b => Sum.inr (truthV b)) (Bool.eq_iff_iff.2 (by rw [hb2]; simp)))
 have g19 : op ≠ 19 := by simpa [hE.cmp, cmpR] using g
 clear g
 conv => cbv
 refine br (fun g => ?_) (fun g => ?_)
 ·have g : op = 20 := by simpa [hE.cmp, cmpR] using g
  conv => cbv
  refine draw_t [0, 1, 2, 3, 4, 5] [(6, true), (7, true), (8, true), (9, false), (10, false)] hr fol (by kernel_rfl) fun E' hE' w3 hs3 S hS => ?_
  replace h4 := h4.bel hs3.ext
  have hx := hx0.trans hs3.ext
  conv => cbv
  refine st_idx hE' sIV hA (by omega) (by omega) fun q hq => ?_
  conv => cbv
  refine st_loadS hE' tIV (vs := [.int .i64 kx, .int .i64 nx, .string tx, .slice Ax mx cx]) rfl (by rw [hq]; exact fun j u hu => hx.cell (hcx j u hu)) ?_
  clear hq
  conv => cbv
  refine st_idx hE' sIV hA (by omega) (by omega) fun q hq => ?_
  conv => cbv
  refine st_loadS hE' tIV (vs := [.int .i64 ky, .int .i64 ny, .string ty, .slice Ay my cy]) rfl (by rw [hq]; exact fun j u hu => hx.cell (hcy (by omega) j u hu)) ?_
  clear hq
  conv => cbv
  refine st_f hr (equal_f (a := ⟨⟨kx, nx, tx, xx⟩, Ax, mx, cx⟩) (b := ⟨⟨ky, ny, ty, xy⟩, Ay, my, cy⟩) (hmx.ext hx) ((hmy (by omega)).ext hx)) fun r w4 hx4 ⟨b, ev, hb2⟩ => ?_
  subst ev
  have hx34 := hx.trans hx4
  replace h4 := h4.bel hx4
  refine ⟨hS _ hx4, ?_⟩
  cases b with
  | true =>
   conv => cbv
   refine ⟨hS _ hx4, ?_⟩
   refine st_f hr (truth_f false) fun r w5 hx5 ev => ?_
   subst ev
   replace h4 := h4.bel hx5
   have hx6 := hx34.trans hx5
   have s6 := hx6.size
   refine ⟨hS _ (hx4.trans hx5), ?_⟩
   conv => cbv
   refine st_putS hr (by kernel_rfl) h4 (add_zero _).symm (by simp [zV]) (by simp [Value.oneCell']) fun w9 hw9 h49 => ?_
   simp only [zV, a1_, a2_, a3_, a4_, a5_, a6_, a7_] at h49
   have hx9 := hx6.then (hw9.bel h4 (by omega))
   conv => cbv
   refine st_cell hr tIV rfl h49.at ?_
   conv => cbv
   exact finT false w9 hx9 (by rw [hT0]; unfold opR; rw [if_neg g8, if_neg g9, if_neg g10, if_neg (by omega), if_neg g16, if_neg g17, if_neg g18, if_neg g19, if_pos g]; exact congrArg (fun b => Sum.inr (truthV b)) (by rw [decide_eq_true (hb2.1 rfl)]; rfl))
  | false =>
   conv => cbv
   refine ⟨hS _ hx4, ?_⟩
   refine st_f hr (truth_f true) fun r w5 hx5 ev => ?_
   subst ev
   replace h4 := h4.bel hx5
   have hx6 := hx34.trans hx5
   have s6 := hx6.size
   refine ⟨hS _ (hx4.trans hx5), ?_⟩
   conv => cbv
   refine st_putS hr (by kernel_rfl) h4 (add_zero _).symm (by simp [zV]) (by simp [Value.oneCell']) fun w9 hw9 h49 => ?_
   simp only [zV, a1_, a2_, a3_, a4_, a5_, a6_, a7_] at h49
   have hx9 := hx6.then (hw9.bel h4 (by omega))
   conv => cbv
   refine st_cell hr tIV rfl h49.at ?_
   conv => cbv
   exact finT true w9 hx9 (by rw [hT0]; unfold opR; rw [if_neg g8, if_neg g9, if_neg g10, if_neg (by omega), if_neg g16, if_neg g17, if_neg g18, if_neg g19, if_pos g]; exact congrArg (fun b => Sum.inr (truthV b)) (by rw [decide_eq_false (fun q => by simpa using hb2.2 q)]; rfl))
 have g20 : op ≠ 20 := by simpa [hE.cmp, cmpR] using g
 clear g
 conv => cbv
 refine br (fun g => ?_) (fun g => ?_)
 ·have g : op = 21 := by simpa [hE.cmp, cmpR] using g
  conv => cbv
  refine draw_t [0, 1, 2, 3, 4, 5, 6, 7, 8] [(9, true), (10, false), (11, false)] hr fol (by kernel_rfl) fun E' hE' w3 hs3 S hS => ?_
  replace h4 := h4.bel hs3.ext
  have hx := hx0.trans hs3.ext
  conv => cbv
  refine st_idx hE' sIV hA (by omega) (by omega) fun q hq => ?_
  conv => cbv
  refine st_fld hE' fIV1 fun p hp => ?_
  conv => cbv
  refine st_load hE' cI64 (by rw [hp, hq]; exact hx.cell (hcx 1 _ rfl)) ?_
  clear hp hq
  conv => cbv
  refine st_idx hE' sIV hA (by omega) (by omega) fun q hq => ?_
  conv => cbv
  refine st_fld hE' fIV1 fun p hp => ?_
  conv => cbv
  refine st_load hE' cI64 (by rw [hp, hq]; exact hx.cell (hcy (by omega) 1 _ rfl)) ?_
  clear hp hq
  conv => cbv
  have hb2 : E'.cmp .lss nx ny = true ↔ nx < ny := by simp [hE'.cmp, cmpR]
  refine st_f hr (truth_f (E'.cmp .lss nx ny)) fun r w5 hx5 ev => ?_
  obtain ⟨b, hbe⟩ : ∃ b, b = E'.cmp .lss nx ny := ⟨_, rfl⟩
  rw [← hbe] at hb2 ev
  subst ev
  replace h4 := h4.bel hx5
  have hx6 := hx.trans hx5
  have s6 := hx6.size
  refine ⟨hS _ hx5, ?_⟩
  conv => cbv
  refine st_putS hr (by kernel_rfl) h4 (add_zero _).symm (by simp [zV]) (by simp [Value.oneCell']) fun w9 hw9 h49 => ?_
  simp only [zV, a1_, a2_, a3_, a4_, a5_, a6_, a7_] at h49
  have hx9 := hx6.then (hw9.bel h4 (by omega))
  conv => cbv
  refine st_cell hr tIV rfl h49.at ?_
  conv => cbv
  exact finT b w9 hx9 (by rw [hT0]; unfold opR; rw [if_neg g8, if_neg g9, if_neg g10, if_neg (by omega), if_neg g16, if_neg g17, if_neg g18, if_neg g19, if_neg g20, if_pos g]; exact congrArg (fun b => Sum.inr (truthV b)) (Bool.eq_iff_iff.2 (by rw [hb2]; simp)))
 have g21 : op ≠ 21 := by simpa [hE.cmp, cmpR] using g
 clear g
 conv => cbv
 refine br (fun g => ?_) (fun g => ?_)
 ·have g : op = 22 := by simpa [hE.cmp, cmpR] using g
  conv => cbv
  refine draw_t [0, 1, 2, 3, 4, 5, 6, 7, 8] [(9, true), (10, false), (11, false)] hr fol (by kernel_rfl) fun E' hE' w3 hs3 S hS => ?_
  replace h4 := h4.bel hs3.ext
  have hx := hx0.trans hs3.ext
  conv => cbv
  refine st_idx hE' sIV hA (by omega) (by omega) fun q hq => ?_
  conv => cbv
  refine st_fld hE' fIV1 fun p hp => ?_
  conv => cbv
  refine st_load hE' cI64 (by rw [hp, hq]; exact hx.cell (hcx 1 _ rfl)) ?_
  clear hp hq
  conv => cbv
  refine st_idx hE' sIV hA (by omega) (by omega) fun q hq => ?_
  conv => cbv
  refine st_fld hE' fIV1 fun p hp => ?_
  conv => cbv
  refine st_load hE' cI64 (by rw [hp, hq]; exact hx.cell (hcy (by omega) 1 _ rfl)) ?_
  clear hp hq
  conv => cbv
  have hb2 : E'.cmp .leq nx ny = true ↔ nx ≤ ny := by simp [hE'.cmp, cmpR]
  refine st_f hr (truth_f (E'.cmp .leq nx ny)) fun r w5 hx5 ev => ?_
  obtain ⟨b, hbe⟩ : ∃ b, b = E'.cmp .leq nx ny := ⟨_, rfl⟩
  rw [← hbe] at hb2 ev
  subst ev
  replace h4 := h4.bel hx5
  have hx6 := hx.trans hx5
  have s6 := hx6.size
  refine ⟨hS _ hx5, ?_⟩
  conv => cbv
  refine st_putS hr (by kernel_rfl) h4 (add_zero _).symm (by simp [zV]) (by simp [Value.oneCell']) fun w9 hw9 h49 => ?_
  simp only [zV, a1_, a2_, a3_, a4_, a5_, a6_, a7_] at h49
  have hx9 := hx6.then (hw9.bel h4 (by omega))
  conv => cbv
  refine st_cell hr tIV rfl h49.at ?_
  conv => cbv
  exact finT b w9 hx9 (by rw [hT0]; unfold opR; rw [if_neg g8, if_neg g9, if_neg g10, if_neg (by omega), if_neg g16, if_neg g17, if_neg g18, if_neg g19, if_neg g20, if_neg g21, if_pos g]; exact congrArg (fun b => Sum.inr (truthV b)) (Bool.eq_iff_iff.2 (by rw [hb2]; simp)))
 have g22 : op ≠ 22 := by simpa [hE.cmp, cmpR] using g
 clear g
 conv => cbv
 refine br (fun g => ?_) (fun g => ?_)
 ·have g : op = 23 := by simpa [hE.cmp, cmpR] using g
  conv => cbv
  refine draw_t [0, 1, 2, 3, 4, 5, 6, 7] [(8, true), (9, true), (10, false), (11, false)] hr fol (by kernel_rfl) fun E' hE' w3 hs3 S hS => ?_
  replace h4 := h4.bel hs3.ext
  have hx := hx0.trans hs3.ext
  conv => cbv
  refine st_idx hE' sIV hA (by omega) (by omega) fun q hq => ?_
  conv => cbv
  refine st_fld hE' fIV3 fun p hp => ?_
  conv => cbv
  refine st_load hE' cStrs (by rw [hp, hq]; exact hx.cell (hcy (by omega) 3 _ rfl)) ?_
  clear hp hq
  conv => cbv
  refine st_idx hE' sIV hA (by omega) (by omega) fun q hq => ?_
  conv => cbv
  refine st_fld hE' fIV2 fun p hp => ?_
  conv => cbv
  refine st_load hE' cStr (by rw [hp, hq]; exact hx.cell (hcx 2 _ rfl)) ?_
  clear hp hq
  conv => cbv
  refine st_f hr (Contains_f ((sy (by omega)).ext hx) tx) fun r w4 hx4 ⟨b, ev, hb2⟩ => ?_
  subst ev
  have hx34 := hx.trans hx4
  replace h4 := h4.bel hx4
  refine ⟨hS _ hx4, ?_⟩
  conv => cbv
  refine st_f hr (truth_f b) fun r w5 hx5 ev => ?_
  subst ev
  replace h4 := h4.bel hx5
  have hx6 := hx34.trans hx5
  have s6 := hx6.size
  refine ⟨hS _ (hx4.trans hx5), ?_⟩
  conv => cbv
  refine st_putS hr (by kernel_rfl) h4 (add_zero _).symm (by simp [zV]) (by simp [Value.oneCell']) fun w9 hw9 h49 => ?_
  simp only [zV, a1_, a2_, a3_, a4_, a5_, a6_, a7_] at h49
  have hx9 := hx6.then (hw9.bel h4 (by omega))
  conv => cbv
  refine st_cell hr tIV rfl h49.at ?_
  conv => cbv
  exact finT b w9 hx9 (by rw [hT0]; unfold opR; rw [if_neg g8, if_neg g9, if_neg g10, if_neg (by omega), if_neg g16, if_neg g17, if_neg g18, if_neg g19, if_neg g20, if_neg g21, if_neg g22, if_pos g]; exact congrArg (fun b => Sum.inr (truthV b)) (Bool.eq_iff_iff.2 (by rw [hb2]; simp)))
 have g23 : op ≠ 23 := by simpa [hE.cmp, cmpR] using g
 clear g
 conv => cbv
 have g24 : op = 24 := by omega
 have oks := okS (.inr g24)
 refine draw_t [0, 1, 2, 3, 4, 5, 6, 7] [(8, true), (9, true), (10, false), (11, false)] hr fol (by kernel_rfl) fun E' hE' w3 hs3 S hS => ?_
 replace h4 := h4.bel hs3.ext
 have hx := hx0.trans hs3.ext
 conv => cbv
 refine st_idx hE' sIV hA (by omega) (by omega) fun q hq => ?_
 conv => cbv
 refine st_fld hE' fIV3 fun p hp => ?_
 conv => cbv
 refine st_load hE' cStrs (by rw [hp, hq]; exact hx.cell (hcx 3 _ rfl)) ?_
 clear hp hq
 conv => cbv
 refine st_idx hE' sIV hA (by omega) (by omega) fun q hq => ?_
 conv => cbv
 refine st_fld hE' fIV3 fun p hp => ?_
 conv => cbv
 refine st_load hE' cStrs (by rw [hp, hq]; exact hx.cell (hcy (by omega) 3 _ rfl)) ?_
 clear hp hq
 conv => cbv
 have lx := sx.len
 have ly := (sy (by omega)).len
 have l1 := oks.1.2.2
 have l2 := oks.2.2.2
 refine st_f hr (within_q (sx.ext hx) ((sy (by omega)).ext hx) oks.1.2.1 oks.2.2.1 (by omega)) fun r w4 hx4 ⟨b, ev, hb2⟩ => ?_
 subst ev
 have hx34 := hx.trans hx4
 replace h4 := h4.bel hx4
 refine ⟨hS _ hx4, ?_⟩
 conv => cbv
 refine st_f hr (truth_f b) fun r w5 hx5 ev => ?_
 subst ev
 replace h4 := h4.bel hx5
 have hx6 := hx34.trans hx5
 have s6 := hx6.size
 refine ⟨hS _ (hx4.trans hx5), ?_⟩
 conv => cbv
 refine st_putS hr (by kernel_rfl) h4 (add_zero _).symm (by simp [zV]) (by simp [Value.oneCell']) fun w9 hw9 h49 => ?_
 simp only [zV, a1_, a2_, a3_, a4_, a5_, a6_, a7_] at h49
 have hx9 := hx6.then (hw9.bel h4 (by omega))
 conv => cbv
 refine st_cell hr tIV rfl h49.at ?_
 conv => cbv
 exact finT b w9 hx9 (by rw [hT0]; unfold opR; rw [if_neg g8, if_neg g9, if_neg g10, if_neg (by omega), if_neg g16, if_neg g17, if_neg g18, if_neg g19, if_neg g20, if_neg g21, if_neg g22, if_neg g23]; exact congrArg (fun b => Sum.inr (truthV b)) (Bool.eq_iff_iff.2 (by rw [hb2]; simp)))
theorem tLReq : Stc Tryz.prog 51 6 [.string ⟨#[]⟩, .string ⟨#[]⟩, .int .i64 0, .int .i64 0, .slice none 0 0, .slice none 0 0] := ⟨by kernel_rfl, by kernel_rfl⟩
theorem tIReq : Stc Tryz.prog 64 6 [.string ⟨#[]⟩, .string ⟨#[]⟩, .int .i64 0, .int .i64 0, .slice none 0 0, .slice none 0 0] := ⟨by kernel_rfl, by kernel_rfl⟩
theorem fL0 : Fld Tryz.prog 51 0 0 := ⟨by kernel_rfl⟩
theorem fL1 : Fld Tryz.prog 51 1 1 := ⟨by kernel_rfl⟩
theorem fL2 : Fld Tryz.prog 51 2 2 := ⟨by kernel_rfl⟩
theorem fL3 : Fld Tryz.prog 51 3 3 := ⟨by kernel_rfl⟩
theorem fL4 : Fld Tryz.prog 51 4 4 := ⟨by kernel_rfl⟩
theorem fL5 : Fld Tryz.prog 51 5 5 := ⟨by kernel_rfl⟩
theorem fI0 : Fld Tryz.prog 64 0 0 := ⟨by kernel_rfl⟩
theorem fI1 : Fld Tryz.prog 64 1 1 := ⟨by kernel_rfl⟩
theorem fI2 : Fld Tryz.prog 64 2 2 := ⟨by kernel_rfl⟩
theorem fI3 : Fld Tryz.prog 64 3 3 := ⟨by kernel_rfl⟩
theorem fI4 : Fld Tryz.prog 64 4 4 := ⟨by kernel_rfl⟩
theorem fI5 : Fld Tryz.prog 64 5 5 := ⟨by kernel_rfl⟩
section
variable {w : World} {cl us : ByteArray} {lv nw : Int} {A A' : Option Addr} {n c n' c' : Nat} {xs ys : List ByteArray}
theorem toRequest_f (h : Strs w A n c xs) (h' : Strs w A' n' c' ys) (hn : n ≤ 1048576) (hn' : n' ≤ 1048576) :
  FC Tryz.prog 21 [.agg ⟨[.string cl, .string us, .int .i64 lv, .int .i64 nw, .slice A n c, .slice A' n' c']⟩] w fun v w' => ∃ A1 n1 c1 A2 n2 c2, v = .agg ⟨[.string cl, .string us, .int .i64 lv, .int .i64 nw, .slice A1 n1 c1, .slice A2 n2 c2]⟩ ∧ Strs w' A1 n1 c1 xs ∧ Strs w' A2 n2 c2 ys := by
 refine FC.intro (cs := []) Tryz.func21 (by kernel_rfl) fun E R hE hr hR => ?_
 conv => cbv
 refine st_box hr fun a w1 hx hb0 => ?_
 have hb := hb0 _ (n1_ _)
 conv => cbv
 refine st_alloc hr tIReq rfl fun o w2 hx2 ho0 => ?_
 have ho := ho0 _ hx.size
 have hb := hb.bel hx2
 have hx := hx.trans hx2
 conv => cbv
 refine st_alloc hr tIReq rfl fun q w3 hx3 hq0 => ?_
 have hq := hq0 _ hx.size
 have aq := (hb.apart (hq0 _ (n1_ _)) (n1_ _)).1
 have oq := (ho.apart (hq0 _ (n1_ _)) (n1_ _)).1
 have hb := hb.bel hx3
 have ho := ho.bel hx3
 have hx := hx.trans hx3
 clear hb0 ho0 hq0
 conv => cbv
 (refine st_fld hE fL0 fun p hp => ?_; (conv => cbv); refine st_load hE cStr (by rw [hp]; exact (hb).at _ _ rfl) ?_; (conv => cbv))
 (refine st_fld hE fI0 fun p hp => ?_; (conv => cbv); refine st_put hr zStr hq hp (by simp) rfl fun wn hw hq2 => ?_; replace hx := hx.then (hw.bel hq hx.size); (try clear hq); (have hq := hq2); clear hq2; (simp only [b4_, b5_] at hq); clear hp)
 replace hb := hb.wr hw aq
 replace ho := ho.wr hw oq
 conv => cbv
 (refine st_fld hE fL1 fun p hp => ?_; (conv => cbv); refine st_load hE cStr (by rw [hp]; exact (hb).at _ _ rfl) ?_; (conv => cbv))
 (refine st_fld hE fI1 fun p hp => ?_; (conv => cbv); refine st_put hr zStr hq hp (by simp) rfl fun wn hw hq2 => ?_; replace hx := hx.then (hw.bel hq hx.size); (try clear hq); (have hq := hq2); clear hq2; (simp only [b4_, b5_] at hq); clear hp)
 replace hb := hb.wr hw aq
 replace ho := ho.wr hw oq
 conv => cbv
 (refine st_fld hE fL2 fun p hp => ?_; (conv => cbv); refine st_load hE cI64 (by rw [hp]; exact (hb).at _ _ rfl) ?_; (conv => cbv))
 (refine st_fld hE fI2 fun p hp => ?_; (conv => cbv); refine st_put hr zI64 hq hp (by simp) rfl fun wn hw hq2 => ?_; replace hx := hx.then (hw.bel hq hx.size); (try clear hq); (have hq := hq2); clear hq2; (simp only [b4_, b5_] at hq); clear hp)
 replace hb := hb.wr hw aq
 replace ho := ho.wr hw oq
 conv => cbv
 (refine st_fld hE fL3 fun p hp => ?_; (conv => cbv); refine st_load hE cI64 (by rw [hp]; exact (hb).at _ _ rfl) ?_; (conv => cbv))
 (refine st_fld hE fI3 fun p hp => ?_; (conv => cbv); refine st_put hr zI64 hq hp (by simp) rfl fun wn hw hq2 => ?_; replace hx := hx.then (hw.bel hq hx.size); (try clear hq); (have hq := hq2); clear hq2; (simp only [b4_, b5_] at hq); clear hp)
 replace hb := hb.wr hw aq
 replace ho := ho.wr hw oq
 conv => cbv
 (refine st_fld hE fL4 fun p hp => ?_; (conv => cbv); refine st_load hE cStrs (by rw [hp]; exact (hb).at _ _ rfl) ?_; (conv => cbv))
 refine st_f hr (toStringS_f (h.ext hx) hn) fun v w4 hx4 ⟨A4, n4, c4, ev, h4, o4⟩ => ?_
 subst ev
 have ax := (hq.apart o4 (n1_ _)).2
 have bx := (ho.apart o4 (n1_ _)).2
 replace o4 := o4.mono hx.size
 replace hb := hb.bel hx4
 replace ho := ho.bel hx4
 replace hq := hq.bel hx4
 replace hx := hx.trans hx4
 conv => cbv
 (refine st_fld hE fI4 fun p hp => ?_; (conv => cbv); refine st_put hr zStrs hq hp (by simp) rfl fun wn hw hq2 => ?_; replace hx := hx.then (hw.bel hq hx.size); (try clear hq); (have hq := hq2); clear hq2; (simp only [b4_, b5_] at hq); clear hp)
 replace hb := hb.wr hw aq
 replace ho := ho.wr hw oq
 replace o4 := o4.wr hw ax
 conv => cbv
 (refine st_fld hE fL5 fun p hp => ?_; (conv => cbv); refine st_load hE cStrs (by rw [hp]; exact (hb).at _ _ rfl) ?_; (conv => cbv))
 refine st_f hr (toStringS_f (h'.ext hx) hn') fun v w5 hx5 ⟨A5, n5, c5, ev, h5, o5⟩ => ?_
 subst ev
 have ay := (hq.apart o5 (n1_ _)).2
 have bY := (ho.apart o5 (n1_ _)).2
 replace o5 := o5.mono hx.size
 replace hb := hb.bel hx5
 replace ho := ho.bel hx5
 replace hq := hq.bel hx5
 replace o4 := o4.bel hx5
 replace hx := hx.trans hx5
 conv => cbv
 (refine st_fld hE fI5 fun p hp => ?_; (conv => cbv); refine st_put hr zStrs hq hp (by simp) rfl fun wn hw hq2 => ?_; replace hx := hx.then (hw.bel hq hx.size); (try clear hq); (have hq := hq2); clear hq2; (simp only [b4_, b5_] at hq); clear hp)
 replace o4 := o4.wr hw ax
 replace o5 := o5.wr hw ay
 replace ho := ho.wr hw oq
 conv => cbv
 refine st_loadS hE tIReq rfl hq.at ?_
 conv => cbv
 refine st_putS hr (by kernel_rfl) ho (add_zero _).symm (by simp) (by simp [Value.oneCell']) fun w7 hw ho2 => ?_
 replace hx := hx.then (hw.bel ho hx.size)
 simp only [a1_, a2_, a3_, a4_, a5_, a6_, a7_] at ho2
 conv => cbv
 refine st_cell hr tIReq rfl ho2.at ?_
 rw [hR]; exact ⟨hx, A4, n4, c4, A5, n5, c5, rfl, (o4.wr hw bx).strs h.small, (o5.wr hw bY).strs h'.small⟩
def validReq (cl us : ByteArray) (xs ys : List ByteArray) : Prop := validName cl ∧ validName us ∧ isSet xs ∧ isSet ys
theorem ValidRequest_f (hc : cl.size ≤ 9223372036854775807) (hu : us.size ≤ 9223372036854775807) (h : Strs w A n c xs) (h' : Strs w A' n' c' ys) :
  FC Tryz.prog 71 [.agg ⟨[.string cl, .string us, .int .i64 lv, .int .i64 nw, .slice A n c, .slice A' n' c']⟩] w fun v _ => ∃ b : Bool, v = .bool b ∧ (b = true ↔ validReq cl us xs ys) := by
 refine FC.intro (cs := []) Tryz.func71 (by kernel_rfl) fun E R hE hr hR => ?_
 conv => cbv
 refine st_box hr fun a w1 hx hb0 => ?_
 have hb := hb0 _ (n1_ _)
 conv => cbv
 (refine st_fld hE fI0 fun p hp => ?_; (conv => cbv); refine st_load hE cStr (by rw [hp]; exact (hb).at _ _ rfl) ?_; (conv => cbv))
 refine st_qb hE (ValidName_q cl _ hc) fun b1 hb1 w2 hs2 => ?_
 replace hb := hb.bel hs2.ext
 replace hx := hx.trans hs2.ext
 cases b1
 ·conv => cbv
  rw [hR]; exact ⟨hx, false, rfl, by simp only [Bool.false_eq_true, false_iff] at hb1 ⊢; exact fun k => hb1 k.1⟩
 have hb1 := hb1.1 rfl
 conv => cbv
 (refine st_fld hE fI1 fun p hp => ?_; (conv => cbv); refine st_load hE cStr (by rw [hp]; exact (hb).at _ _ rfl) ?_; (conv => cbv))
 refine st_qb hE (ValidName_q us _ hu) fun b2 hb2 w3 hs3 => ?_
 replace hb := hb.bel hs3.ext
 replace hx := hx.trans hs3.ext
 cases b2
 ·conv => cbv
  rw [hR]; exact ⟨hx, false, rfl, by simp only [Bool.false_eq_true, false_iff] at hb2 ⊢; exact fun k => hb2 k.2.1⟩
 have hb2 := hb2.1 rfl
 conv => cbv
 (refine st_fld hE fI4 fun p hp => ?_; (conv => cbv); refine st_load hE cStrs (by rw [hp]; exact (hb).at _ _ rfl) ?_; (conv => cbv))
 refine st_qb hE (IsSet_q (h.ext hx)) fun b3 hb3 w4 hs4 => ?_
 replace hb := hb.bel hs4.ext
 replace hx := hx.trans hs4.ext
 cases b3
 ·conv => cbv
  rw [hR]; exact ⟨hx, false, rfl, by simp only [Bool.false_eq_true, false_iff] at hb3 ⊢; exact fun k => hb3 k.2.2.1⟩
 have hb3 := hb3.1 rfl
 conv => cbv
 (refine st_fld hE fI5 fun p hp => ?_; (conv => cbv); refine st_load hE cStrs (by rw [hp]; exact (hb).at _ _ rfl) ?_; (conv => cbv))
 refine st_qb hE (IsSet_q (h'.ext hx)) fun b4 hb4 w5 hs5 => ?_
 replace hx := hx.trans hs5.ext
 conv => cbv
 rw [hR]; exact ⟨hx, b4, rfl, by rw [hb4]; exact ⟨fun k => ⟨hb1, hb2, hb3, k⟩, fun k => k.2.2.2⟩⟩
theorem sValidRequest_f (hc : cl.size ≤ 9223372036854775807) (hu : us.size ≤ 9223372036854775807) (h : Strs w A n c xs) (h' : Strs w A' n' c' ys) :
  FC Tryz.prog 65 [.agg ⟨[.string cl, .string us, .int .i64 lv, .int .i64 nw, .slice A n c, .slice A' n' c']⟩] w fun v _ => ∃ b : Bool, v = .bool b ∧ (b = true ↔ validReq cl us xs ys) := by
 refine FC.intro (cs := []) Tryz.func65 (by kernel_rfl) fun E R hE hr hR => ?_
 conv => cbv
 refine st_box hr fun a w1 hx hb0 => ?_
 have hb := hb0 _ (n1_ _)
 conv => cbv
 (refine st_fld hE fI0 fun p hp => ?_; (conv => cbv); refine st_load hE cStr (by rw [hp]; exact (hb).at _ _ rfl) ?_; (conv => cbv))
 refine st_qb hE (sValidName_q cl _ hc) fun b1 hb1 w2 hs2 => ?_
 replace hb := hb.bel hs2.ext
 replace hx := hx.trans hs2.ext
 cases b1
 ·conv => cbv
  rw [hR]; exact ⟨hx, false, rfl, by simp only [Bool.false_eq_true, false_iff] at hb1 ⊢; exact fun k => hb1 k.1⟩
 have hb1 := hb1.1 rfl
 conv => cbv
 (refine st_fld hE fI1 fun p hp => ?_; (conv => cbv); refine st_load hE cStr (by rw [hp]; exact (hb).at _ _ rfl) ?_; (conv => cbv))
 refine st_qb hE (sValidName_q us _ hu) fun b2 hb2 w3 hs3 => ?_
 replace hb := hb.bel hs3.ext
 replace hx := hx.trans hs3.ext
 cases b2
 ·conv => cbv
  rw [hR]; exact ⟨hx, false, rfl, by simp only [Bool.false_eq_true, false_iff] at hb2 ⊢; exact fun k => hb2 k.2.1⟩
 have hb2 := hb2.1 rfl
 conv => cbv
 (refine st_fld hE fI4 fun p hp => ?_; (conv => cbv); refine st_load hE cStrs (by rw [hp]; exact (hb).at _ _ rfl) ?_; (conv => cbv))
 refine st_qb hE (sIsSet_q (h.ext hx)) fun b3 hb3 w4 hs4 => ?_
 replace hb := hb.bel hs4.ext
 replace hx := hx.trans hs4.ext
 cases b3
 ·conv => cbv
  rw [hR]; exact ⟨hx, false, rfl, by simp only [Bool.false_eq_true, false_iff] at hb3 ⊢; exact fun k => hb3 k.2.2.1⟩
 have hb3 := hb3.1 rfl
 conv => cbv
 (refine st_fld hE fI5 fun p hp => ?_; (conv => cbv); refine st_load hE cStrs (by rw [hp]; exact (hb).at _ _ rfl) ?_; (conv => cbv))
 refine st_qb hE (sIsSet_q (h'.ext hx)) fun b4 hb4 w5 hs5 => ?_
 replace hx := hx.trans hs5.ext
 conv => cbv
 rw [hR]; exact ⟨hx, b4, rfl, by rw [hb4]; exact ⟨fun k => ⟨hb1, hb2, hb3, k⟩, fun k => k.2.2.2⟩⟩
end
theorem eqRequest_f {w : World} {cl us cl' us' : ByteArray} {lv nw lv' nw' : Int} {A A' A1 A1' : Option Addr} {n c n' c' m k m' k' : Nat} {xs ys xs' ys' : List ByteArray} (h : Strs w A n c xs) (h' : Strs w A' n' c' ys) (h1 : Strs w A1 m k xs') (h1' : Strs w A1' m' k' ys') :
  FC Tryz.prog 25 [.agg ⟨[.string cl, .string us, .int .i64 lv, .int .i64 nw, .slice A n c, .slice A' n' c']⟩, .agg ⟨[.string cl', .string us', .int .i64 lv', .int .i64 nw', .slice A1 m k, .slice A1' m' k']⟩] w fun v _ => (cl = cl' ∧ us = us' ∧ lv = lv' ∧ nw = nw' ∧ xs = xs' ∧ ys = ys') → v = .bool true := by
 refine FC.intro (cs := []) Tryz.func25 (by kernel_rfl) fun E R hE hr hR => ?_
 conv => cbv
 refine st_box hr fun a w1 hx ha0 => ?_
 have ha := ha0 _ (n1_ _)
 conv => cbv
 refine st_box hr fun b w2 hx2 hb0 => ?_
 have hb := hb0 _ hx.size
 replace ha := ha.bel hx2
 replace hx := hx.trans hx2
 clear ha0 hb0
 conv => cbv
 (refine st_fld hE fI0 fun p hp => ?_; (conv => cbv); refine st_load hE cStr (by rw [hp]; exact (ha).at _ _ rfl) ?_; (conv => cbv))
 (refine st_fld hE fI0 fun p hp => ?_; (conv => cbv); refine st_load hE cStr (by rw [hp]; exact (hb).at _ _ rfl) ?_; (conv => cbv))
 refine br (fun g => ?_) (fun _ => ?_)
 ·conv => cbv
  rw [hR]; exact ⟨hx, fun e => absurd e.1 (by simpa [hE.scmp, scmp_neq] using g)⟩
 conv => cbv
 (refine st_fld hE fI1 fun p hp => ?_; (conv => cbv); refine st_load hE cStr (by rw [hp]; exact (ha).at _ _ rfl) ?_; (conv => cbv))
 (refine st_fld hE fI1 fun p hp => ?_; (conv => cbv); refine st_load hE cStr (by rw [hp]; exact (hb).at _ _ rfl) ?_; (conv => cbv))
 refine br (fun g => ?_) (fun _ => ?_)
 ·conv => cbv
  rw [hR]; exact ⟨hx, fun e => absurd e.2.1 (by simpa [hE.scmp, scmp_neq] using g)⟩
 conv => cbv
 (refine st_fld hE fI2 fun p hp => ?_; (conv => cbv); refine st_load hE cI64 (by rw [hp]; exact (ha).at _ _ rfl) ?_; (conv => cbv))
 (refine st_fld hE fI2 fun p hp => ?_; (conv => cbv); refine st_load hE cI64 (by rw [hp]; exact (hb).at _ _ rfl) ?_; (conv => cbv))
 refine br (fun g => ?_) (fun _ => ?_)
 ·conv => cbv
  rw [hR]; exact ⟨hx, fun e => absurd e.2.2.1 (by simpa [hE.cmp, cmpR] using g)⟩
 conv => cbv
 (refine st_fld hE fI3 fun p hp => ?_; (conv => cbv); refine st_load hE cI64 (by rw [hp]; exact (ha).at _ _ rfl) ?_; (conv => cbv))
 (refine st_fld hE fI3 fun p hp => ?_; (conv => cbv); refine st_load hE cI64 (by rw [hp]; exact (hb).at _ _ rfl) ?_; (conv => cbv))
 refine br (fun g => ?_) (fun _ => ?_)
 ·conv => cbv
  rw [hR]; exact ⟨hx, fun e => absurd e.2.2.2.1 (by simpa [hE.cmp, cmpR] using g)⟩
 conv => cbv
 (refine st_fld hE fI4 fun p hp => ?_; (conv => cbv); refine st_load hE cStrs (by rw [hp]; exact (ha).at _ _ rfl) ?_; (conv => cbv))
 (refine st_fld hE fI4 fun p hp => ?_; (conv => cbv); refine st_load hE cStrs (by rw [hp]; exact (hb).at _ _ rfl) ?_; (conv => cbv))
 refine st_qb hE (eqStringS_q (h.ext hx) (h1.ext hx)) fun v hv w3 hs3 => ?_
 replace ha := ha.bel hs3.ext
 replace hb := hb.bel hs3.ext
 replace hx := hx.trans hs3.ext
 cases v
 ·conv => cbv
  rw [hR]; exact ⟨hx, fun e => absurd (hv.2 e.2.2.2.2.1) (by simp)⟩
 conv => cbv
 (refine st_fld hE fI5 fun p hp => ?_; (conv => cbv); refine st_load hE cStrs (by rw [hp]; exact (ha).at _ _ rfl) ?_; (conv => cbv))
 (refine st_fld hE fI5 fun p hp => ?_; (conv => cbv); refine st_load hE cStrs (by rw [hp]; exact (hb).at _ _ rfl) ?_; (conv => cbv))
 refine st_qb hE (eqStringS_q (h'.ext hx) (h1'.ext hx)) fun v hv w4 hs4 => ?_
 replace hx := hx.trans hs4.ext
 cases v
 ·conv => cbv
  rw [hR]; exact ⟨hx, fun e => absurd (hv.2 e.2.2.2.2.2) (by simp)⟩
 conv => cbv
 rw [hR]; exact ⟨hx, fun _ => rfl⟩
structure RQ where
 cl : ByteArray
 us : ByteArray
 lv : Int
 nw : Int
 A : Option Addr
 n : Nat
 c : Nat
 xs : List ByteArray
 A2 : Option Addr
 n2 : Nat
 c2 : Nat
 ys : List ByteArray
def rqC (q : RQ) : List Value := [.string q.cl, .string q.us, .int .i64 q.lv, .int .i64 q.nw, .slice q.A q.n q.c, .slice q.A2 q.n2 q.c2]
def rqP (q : RQ) : List PV := [⟨3, 0, q.cl, []⟩, ⟨3, 0, q.us, []⟩, ⟨2, q.lv, noS, []⟩, ⟨2, q.nw, noS, []⟩, ⟨4, 0, noS, q.xs⟩, ⟨4, 0, noS, q.ys⟩]
structure RqR (D : Nat → Prop) (w : World) (ra : Addr) (q : RQ) : Prop where
 cells : ∀ j u, (rqC q)[j]? = some u → w.cell? (ra.add j) = some u
 s1 : Strs w q.A q.n q.c q.xs
 s2 : Strs w q.A2 q.n2 q.c2 q.ys
 d1 : InD D q.A q.n
 d2 : InD D q.A2 q.n2
 t1 : q.cl.size ≤ 9223372036854775807
 t2 : q.us.size ≤ 9223372036854775807
theorem RqR.ext {D : Nat → Prop} {w w' : World} {ra : Addr} {q : RQ} (h : RqR D w ra q) (hx : Ext w w') : RqR D w' ra q := ⟨fun j u hu => hx.cell (h.cells j u hu), h.s1.ext hx, h.s2.ext hx, h.d1, h.d2, h.t1, h.t2⟩
section
variable {E : Sym} {w : World} {K : Value → World → Prop} {d : Option Tmp} {ty : TypeId} {pos : String} {aft : Array Edge} {g : Option (Nat × Bool)} {bq : Bool}
theorem run_bV3 (s : ByteArray) (w : World) : (Instr.build 218 #[(0, .int .i64 3), (2, .string s)]).run Tryz.prog w = .ok (.agg ⟨[.int .i64 3, .int .i64 0, .string s, .slice none 0 0]⟩) w := by kernel_rfl
theorem st_bV3 (hE : EngB bq Tryz.prog E) {s : ByteArray} {c : Value} {x : Operand} (hk : K (.agg ⟨[.int .i64 3, .int .i64 0, .string s, .slice none 0 0]⟩) w) : E.stop ⟨d, .build 218 ⟨[(0, .const c), (2, x)]⟩, ty, pos, aft, g⟩ [.int .i64 3, .string s] w K := by
 refine hE.det (v := .agg ⟨[.int .i64 3, .int .i64 0, .string s, .slice none 0 0]⟩) (fun w1 _ ρ hρ => ?_) hk
 simp only [opnds, b2_, b3_, b1_, and_true] at hρ
 have := run_bV3 s w1
 simp [execOp, hρ, this]
end
theorem attr1_f {D : Nat → Prop} {w : World} {ra : Addr} {q : RQ} (h : RqR D w ra q) : FC Tryz.prog 187 [.pointer (some ra)] w fun r w' => ∃ x : VV, r = .agg ⟨vC x⟩ ∧ (rqP q)[0]? = some x.p ∧ ValM w' x ∧ InD D x.A x.m := by
 refine FC.intro (cs := []) Tryz.func187 (by kernel_rfl) fun E R hE hr hR => ?_
 conv => cbv
 refine st_alloc hr tIV rfl fun q4 w1 hx1 hb0 => ?_
 have hb := hb0 _ (n1_ _)
 clear hb0
 conv => cbv
 refine st_nil hE ?_
 conv => cbv
 refine st_fld hE fI0 fun p hp => ?_
 conv => cbv
 refine st_load hE cStr (by rw [hp]; exact hx1.cell (h.cells 0 _ rfl)) ?_
 conv => cbv
 refine st_bV3 hE ?_
 conv => cbv
 refine st_putS hr (by kernel_rfl) hb (add_zero _).symm (by simp [zV]) (by simp [Value.oneCell']) fun w2 hw2 hb2 => ?_
 simp only [zV, a1_, a2_, a3_, a4_, a5_, a6_, a7_] at hb2
 have hx := hx1.then (hw2.bel hb hx1.size)
 conv => cbv
 refine st_cell hr tIV rfl hb2.at ?_
 rw [hR]; exact ⟨hx, ⟨⟨3, 0, q.cl, []⟩, none, 0, 0⟩, rfl, rfl, ⟨⟨rfl, by simp, by simp, ⟨by simp, by simp⟩, by simp⟩, h.t1⟩, inD_none⟩
theorem attr2_f {D : Nat → Prop} {w : World} {ra : Addr} {q : RQ} (h : RqR D w ra q) : FC Tryz.prog 188 [.pointer (some ra)] w fun r w' => ∃ x : VV, r = .agg ⟨vC x⟩ ∧ (rqP q)[1]? = some x.p ∧ ValM w' x ∧ InD D x.A x.m := by
 refine FC.intro (cs := []) Tryz.func188 (by kernel_rfl) fun E R hE hr hR => ?_
 conv => cbv
 refine st_alloc hr tIV rfl fun q4 w1 hx1 hb0 => ?_
 have hb := hb0 _ (n1_ _)
 clear hb0
 conv => cbv
 refine st_nil hE ?_
 conv => cbv
 refine st_fld hE fI1 fun p hp => ?_
 conv => cbv
 refine st_load hE cStr (by rw [hp]; exact hx1.cell (h.cells 1 _ rfl)) ?_
 conv => cbv
 refine st_bV3 hE ?_
 conv => cbv
 refine st_putS hr (by kernel_rfl) hb (add_zero _).symm (by simp [zV]) (by simp [Value.oneCell']) fun w2 hw2 hb2 => ?_
 simp only [zV, a1_, a2_, a3_, a4_, a5_, a6_, a7_] at hb2
 have hx := hx1.then (hw2.bel hb hx1.size)
 conv => cbv
 refine st_cell hr tIV rfl hb2.at ?_
 rw [hR]; exact ⟨hx, ⟨⟨3, 0, q.us, []⟩, none, 0, 0⟩, rfl, rfl, ⟨⟨rfl, by simp, by simp, ⟨by simp, by simp⟩, by simp⟩, h.t2⟩, inD_none⟩
theorem attr3_f {D : Nat → Prop} {w : World} {ra : Addr} {q : RQ} (h : RqR D w ra q) : FC Tryz.prog 189 [.pointer (some ra)] w fun r w' => ∃ x : VV, r = .agg ⟨vC x⟩ ∧ (rqP q)[2]? = some x.p ∧ ValM w' x ∧ InD D x.A x.m := by
 refine FC.intro (cs := []) Tryz.func189 (by kernel_rfl) fun E R hE hr hR => ?_
 conv => cbv
 refine st_alloc hr tIV rfl fun q4 w1 hx1 hb0 => ?_
 have hb := hb0 _ (n1_ _)
 clear hb0
 conv => cbv
 refine st_nil hE ?_
 conv => cbv
 refine st_fld hE fI2 fun p hp => ?_
 conv => cbv
 refine st_load hE cI64 (by rw [hp]; exact hx1.cell (h.cells 2 _ rfl)) ?_
 conv => cbv
 refine st_bV2 hE ?_
 conv => cbv
 refine st_putS hr (by kernel_rfl) hb (add_zero _).symm (by simp [zV]) (by simp [Value.oneCell']) fun w2 hw2 hb2 => ?_
 simp only [zV, a1_, a2_, a3_, a4_, a5_, a6_, a7_] at hb2
 have hx := hx1.then (hw2.bel hb hx1.size)
 conv => cbv
 refine st_cell hr tIV rfl hb2.at ?_
 rw [hR]; exact ⟨hx, numX q.lv, rfl, rfl, numX_m _ _, inD_none⟩
theorem attr4_f {D : Nat → Prop} {w : World} {ra : Addr} {q : RQ} (h : RqR D w ra q) : FC Tryz.prog 190 [.pointer (some ra)] w fun r w' => ∃ x : VV, r = .agg ⟨vC x⟩ ∧ (rqP q)[3]? = some x.p ∧ ValM w' x ∧ InD D x.A x.m := by
 refine FC.intro (cs := []) Tryz.func190 (by kernel_rfl) fun E R hE hr hR => ?_
 conv => cbv
 refine st_alloc hr tIV rfl fun q4 w1 hx1 hb0 => ?_
 have hb := hb0 _ (n1_ _)
 clear hb0
 conv => cbv
 refine st_nil hE ?_
 conv => cbv
 refine st_fld hE fI3 fun p hp => ?_
 conv => cbv
 refine st_load hE cI64 (by rw [hp]; exact hx1.cell (h.cells 3 _ rfl)) ?_
 conv => cbv
 refine st_bV2 hE ?_
 conv => cbv
 refine st_putS hr (by kernel_rfl) hb (add_zero _).symm (by simp [zV]) (by simp [Value.oneCell']) fun w2 hw2 hb2 => ?_
 simp only [zV, a1_, a2_, a3_, a4_, a5_, a6_, a7_] at hb2
 have hx := hx1.then (hw2.bel hb hx1.size)
 conv => cbv
 refine st_cell hr tIV rfl hb2.at ?_
 rw [hR]; exact ⟨hx, numX q.nw, rfl, rfl, numX_m _ _, inD_none⟩
theorem attr5_f {D : Nat → Prop} {w : World} {ra : Addr} {q : RQ} (h : RqR D w ra q) : FC Tryz.prog 191 [.pointer (some ra)] w fun r w' => ∃ x : VV, r = .agg ⟨vC x⟩ ∧ (rqP q)[4]? = some x.p ∧ ValM w' x ∧ InD D x.A x.m := by
 refine FC.intro (cs := []) Tryz.func191 (by kernel_rfl) fun E R hE hr hR => ?_
 conv => cbv
 refine st_alloc hr tIV rfl fun q4 w1 hx1 hb0 => ?_
 have hb := hb0 _ (n1_ _)
 clear hb0
 conv => cbv
 refine st_nil hE ?_
 conv => cbv
 refine st_fld hE fI4 fun p hp => ?_
 conv => cbv
 refine st_load hE cStrs (by rw [hp]; exact hx1.cell (h.cells 4 _ rfl)) ?_
 conv => cbv
 refine st_bV4 hE ?_
 conv => cbv
 refine st_putS hr (by kernel_rfl) hb (add_zero _).symm (by simp [zV]) (by simp [Value.oneCell']) fun w2 hw2 hb2 => ?_
 simp only [zV, a1_, a2_, a3_, a4_, a5_, a6_, a7_] at hb2
 have hx := hx1.then (hw2.bel hb hx1.size)
 conv => cbv
 refine st_cell hr tIV rfl hb2.at ?_
 rw [hR]; exact ⟨hx, setX q.A q.n q.c q.xs, rfl, rfl, setX_m (h.s1.ext hx), h.d1⟩
theorem attr6_f {D : Nat → Prop} {w : World} {ra : Addr} {q : RQ} (h : RqR D w ra q) : FC Tryz.prog 192 [.pointer (some ra)] w fun r w' => ∃ x : VV, r = .agg ⟨vC x⟩ ∧ (rqP q)[5]? = some x.p ∧ ValM w' x ∧ InD D x.A x.m := by
 refine FC.intro (cs := []) Tryz.func192 (by kernel_rfl) fun E R hE hr hR => ?_
 conv => cbv
 refine st_alloc hr tIV rfl fun q4 w1 hx1 hb0 => ?_
 have hb := hb0 _ (n1_ _)
 clear hb0
 conv => cbv
 refine st_nil hE ?_
 conv => cbv
 refine st_fld hE fI5 fun p hp => ?_
 conv => cbv
 refine st_load hE cStrs (by rw [hp]; exact hx1.cell (h.cells 5 _ rfl)) ?_
 conv => cbv
 refine st_bV4 hE ?_
 conv => cbv
 refine st_putS hr (by kernel_rfl) hb (add_zero _).symm (by simp [zV]) (by simp [Value.oneCell']) fun w2 hw2 hb2 => ?_
 simp only [zV, a1_, a2_, a3_, a4_, a5_, a6_, a7_] at hb2
 have hx := hx1.then (hw2.bel hb hx1.size)
 conv => cbv
 refine st_cell hr tIV rfl hb2.at ?_
 rw [hR]; exact ⟨hx, setX q.A2 q.n2 q.c2 q.ys, rfl, rfl, setX_m (h.s2.ext hx), h.d2⟩
theorem attr_f {D : Nat → Prop} {w : World} {ra : Addr} {q : RQ} (h : RqR D w ra q) {i : Nat} (hi : i < 6) : ∃ s t f, arT[i]? = some (s, t, f) ∧ FC Tryz.prog f [.pointer (some ra)] w fun r w' => ∃ x : VV, r = .agg ⟨vC x⟩ ∧ (rqP q)[i]? = some x.p ∧ ValM w' x ∧ InD D x.A x.m := by
 have : i = 0 ∨ i = 1 ∨ i = 2 ∨ i = 3 ∨ i = 4 ∨ i = 5 := by omega
 rcases this with rfl | rfl | rfl | rfl | rfl | rfl
 ·exact ⟨_, _, _, rfl, attr1_f h⟩
 ·exact ⟨_, _, _, rfl, attr2_f h⟩
 ·exact ⟨_, _, _, rfl, attr3_f h⟩
 ·exact ⟨_, _, _, rfl, attr4_f h⟩
 ·exact ⟨_, _, _, rfl, attr5_f h⟩
 ·exact ⟨_, _, _, rfl, attr6_f h⟩
structure DecR (D : Nat → Prop) (w : World) (q ra : Addr) (rq : RQ) (LA : Option Addr) (ln lc : Nat) (lv : List VV) : Prop where
 box : ∀ j u, ([.pointer (some ra), .slice LA ln lc] : List Value)[j]? = some u → w.cell? (q.add j) = some u
 req : RqR D w ra rq
 len : lv.length = ln
 cells : Cells w LA (lv.flatMap vC)
 vals : ∀ x ∈ lv, ValM w x ∧ InD D x.A x.m
theorem DecR.ext {D : Nat → Prop} {w w' : World} {q ra : Addr} {rq : RQ} {LA : Option Addr} {ln lc : Nat} {lv : List VV} (h : DecR D w q ra rq LA ln lc lv) (hx : Ext w w') : DecR D w' q ra rq LA ln lc lv :=
 ⟨fun j u hu => hx.cell (h.box j u hu), h.req.ext hx, h.len, h.cells.ext hx, fun x hx' => ⟨(h.vals x hx').1.ext hx, (h.vals x hx').2⟩⟩
theorem ResM.mono {z o v : Addr} {D D' : Nat → Prop} {w : World} {R : Int ⊕ PV} {r : Value} (h : ResM z o v D w R r) (hD : ∀ b, D b → D' b) : ResM z o v D' w R r := by
 cases R with
 | inl c => exact h
 | inr p => obtain ⟨x, h1, h2, h3, h4⟩ := h; exact ⟨x, h1, h2, h3, fun a ha hm => hD _ (h4 a ha hm)⟩
theorem ResM.ext {z o v : Addr} {D : Nat → Prop} {w w' : World} {R : Int ⊕ PV} {r : Value} (h : ResM z o v D w R r) (hx : Ext w w') : ResM z o v D w' R r := by
 cases R with
 | inl c => exact h
 | inr p => obtain ⟨x, h1, h2, h3, h4⟩ := h; exact ⟨x, h1, h2, h3.ext hx, h4⟩
theorem ResM.tup {z o v : Addr} {D : Nat → Prop} {w : World} {R : Int ⊕ PV} {r : Value} (h : ResM z o v D w R r) : ∃ (k n : Int) (tx : ByteArray) (A : Option Addr) (m c : Nat) (e : Value), r = .tuple ⟨[.agg ⟨[.int .i64 k, .int .i64 n, .string tx, .slice A m c]⟩, e]⟩ ∧ (e = .nilIface ∨ ∃ op a, e = wwV op a) := by
 cases R with
 | inl c => obtain ⟨_, x, op, rfl⟩ := h; exact ⟨_, _, _, _, _, _, _, rfl, .inr ⟨_, _, rfl⟩⟩
 | inr p => obtain ⟨x, rfl, _⟩ := h; exact ⟨_, _, _, _, _, _, _, rfl, .inl rfl⟩
theorem fDc0 : Fld Tryz.prog 141 0 0 := ⟨by kernel_rfl⟩
theorem fDc1 : Fld Tryz.prog 141 1 1 := ⟨by kernel_rfl⟩
theorem fAr2 : Fld Tryz.prog 240 2 2 := ⟨by kernel_rfl⟩
theorem cPrq : Cel Tryz.prog 125 := ⟨_, Tryz.underlying125, by simp, by simp⟩
theorem cFat : Cel Tryz.prog 238 := ⟨_, Tryz.underlying238, by simp, by simp⟩
theorem opOK_of {o : Int} {ts : List Int} (hk : (ts.length : Int) = kidsF o) (h1 : 1 ≤ ts.length) (hz : typG o ts ≠ 0) {x y : PV} (hx : ∀ t, ts[0]? = some t → valV t x) (hy : ∀ t, ts[1]? = some t → valV t y) : opOK o x y := by
 have f2 : ∀ {v : PV}, valV 2 v → fits v.n := fun h => (val2 h).2.1
 have s4 : ∀ {v : PV}, valV 4 v → isSet v.xs := fun h => (val4 h).2.2.2
 rcases typG_cases hk h1 hz with ⟨ho, e, ht⟩ | ⟨ho, e, ht⟩ | ⟨ho, e, ht⟩ | ⟨ho, e, ht⟩ | ⟨ho, e, ht⟩ | ⟨ho, ⟨a, e⟩, ht⟩ | ⟨ho, e, ht⟩ | ⟨ho, e, ht⟩ | ⟨ho, e, ht⟩ | ⟨ho, e, ht⟩ | ⟨ho, a, e, ht⟩
 ·exact ⟨fun _ => f2 (hx 2 (by rw [e]; rfl)), fun _ => by omega, fun _ => by omega, fun _ => by omega⟩
 ·exact ⟨fun _ => by omega, fun _ => by omega, fun _ => by omega, fun _ => by omega⟩
 ·exact ⟨fun _ => by omega, fun _ => (s4 (hx 4 (by rw [e]; rfl))).2.2, fun _ => by omega, fun _ => by omega⟩
 ·exact ⟨fun _ => by omega, fun _ => by omega, fun _ => ⟨f2 (hx 2 (by rw [e]; rfl)), f2 (hy 2 (by rw [e]; rfl))⟩, fun _ => by omega⟩
 ·exact ⟨fun _ => by omega, fun _ => by omega, fun _ => by omega, fun _ => ⟨s4 (hx 4 (by rw [e]; rfl)), s4 (hy 4 (by rw [e]; rfl))⟩⟩
 ·exact ⟨fun _ => by omega, fun _ => by omega, fun _ => by omega, fun _ => by omega⟩
 ·exact ⟨fun _ => by omega, fun _ => by omega, fun _ => by omega, fun _ => by omega⟩
 ·exact ⟨fun _ => by omega, fun _ => by omega, fun _ => by omega, fun _ => by omega⟩
 ·exact ⟨fun _ => by omega, fun _ => by omega, fun _ => by omega, fun _ => ⟨s4 (hx 4 (by rw [e]; rfl)), s4 (hy 4 (by rw [e]; rfl))⟩⟩
 ·exact ⟨fun _ => by omega, fun _ => by omega, fun _ => by omega, fun _ => by omega⟩
 ·exact ⟨fun _ => by omega, fun _ => by omega, fun _ => by omega, fun _ => by omega⟩
theorem tyTs_all {names : List ByteArray} {tys : List Int} : ∀ {l : List Tr}, (tyTs names tys l).1 = 0 → ∀ t ∈ l, (tyT names tys t).2 = 0
 | [], _, t, h => by cases h
 | u :: l, h, t, ht => by
  rw [tyTs] at h
  split at h
  ·rename_i q; exact absurd h q
  ·rename_i q
   rcases List.mem_cons.1 ht with rfl | ht
   ·exact Classical.byContradiction q
   ·exact tyTs_all h t ht
theorem conOKs_mem : ∀ {l : List Tr} {t : Tr}, conOKs l → t ∈ l → conOK t
 | u :: l, t, h, ht => by
  simp only [conOKs] at h
  rcases List.mem_cons.1 ht with rfl | ht
  ·exact h.1
  ·exact conOKs_mem h.2 ht
def ValF (names : List ByteArray) (tys : List Int) (n : Nat) : Prop := ∀ (t : Tr) (tv : Value), dep t ≤ n → goodT tys.length t → conOK t → (tyT names tys t).2 = 0 → ∀ (w : World) (D : Nat → Prop), (∀ b, D b → b < w.heap.size) → TreeV D w t tv → ∀ (q ra : Addr) (rq : RQ) (LA : Option Addr) (ln lc : Nat) (lv : List VV), DecR D w q ra rq LA ln lc lv → LetsV tys (lv.map (·.p)) → ReqV (rqP rq) → ∀ z o v : Addr, Errs w z o v → Tab w 7 calcF →
 FC Tryz.prog 140 [.pointer (some q), tv] w fun r w' => ResM z o v (fun b => D b ∨ DNew w w' b) w' (evT (rqP rq) (lv.map (·.p)) t) r
theorem operator_f {names : List ByteArray} {tys : List Int} {n : Nat} (ih : ValF names tys n) {op at_ : Int} {kids : List Tr} (hd : deps kids ≤ n) (hg : goodT tys.length (.op op kids at_)) (hc : conOK (.op op kids at_)) (hty : (tyT names tys (.op op kids at_)).2 = 0) {w : World} {D : Nat → Prop} (hD : ∀ b, D b → b < w.heap.size) {A : Option Addr} {m c : Nat} {vs : List Value} (hvl : vs.length = m) (hmc : m ≤ c) (hcl : Cells w A vs) (hts : TreesV D w kids vs)
  {q ra : Addr} {rq : RQ} {LA : Option Addr} {ln lc : Nat} {lv : List VV} (hdec : DecR D w q ra rq LA ln lc lv) (hlets : LetsV tys (lv.map (·.p))) (hreq : ReqV (rqP rq)) {z o v : Addr} (he : Errs w z o v) (hT : Tab w 7 calcF) :
  FC Tryz.prog 195 [.pointer (some q), .agg ⟨[.int .i64 op, .slice A m c, .int .i64 at_]⟩] w fun r w' => ResM z o v (fun b => D b ∨ DNew w w' b) w' (evT (rqP rq) (lv.map (·.p)) (.op op kids at_)) r := by
 refine FC.intro (cs := []) Tryz.func195 (by kernel_rfl) fun E R hE hr hR => ?_
 obtain ⟨ms, hu⟩ := uErr
 simp only [goodT] at hg
 simp only [conOK] at hc
 obtain ⟨hk1, hk2, hk3⟩ := hg
 have hkl := hts.len
 have hk4 : kids.length ≤ 3 := by have := kidsF_le op; omega
 rw [tyT] at hty
 have hty1 : (tyTs names tys kids).1 = 0 := by
  split at hty
  ·rename_i q; exact absurd hty q
  ·rename_i q; exact Classical.byContradiction q
 rw [if_neg (by omega)] at hty
 have hty2 : typG op (tyTs names tys kids).2 ≠ 0 := by
  split at hty
  ·cases hty
  ·rename_i q; exact q
 clear hty
 obtain ⟨ek1, ek2, ek3⟩ := evs_ok hreq hlets kids hk3 hc hty1
 obtain ⟨RR, hRR⟩ : ∃ RR, RR = evT (rqP rq) (lv.map (·.p)) (.op op kids at_) := ⟨_, rfl⟩
 rw [← hRR] at hR
 have hcomb : RR = combR op (evTs (rqP rq) (lv.map (·.p)) kids) := by rw [hRR, evT]
 clear hRR
 have kid : ∀ (j : Nat) (tj : Tr) (vj : Value), kids[j]? = some tj → vs[j]? = some vj → ∀ w1, Ext w w1 →
   FC Tryz.prog 140 [.pointer (some q), vj] w1 fun r w2 => ResM z o v (fun b => D b ∨ DNew w1 w2 b) w2 (evT (rqP rq) (lv.map (·.p)) tj) r := fun j tj vj h1 h2 w1 hx1 =>
  ih tj vj (n2_ (deps_mem (m1_ h1)) hd) (goodTs_at hk3 h1) (conOKs_mem hc (m1_ h1)) (tyTs_all hty1 tj (m1_ h1)) w1 D (fun b hb => n3_ (hD b hb) hx1.size) ((hts.get j tj vj h1 h2).ext hD hx1) q ra rq LA ln lc lv (hdec.ext hx1) hlets hreq z o v (he.ext hx1) (hT.ext hx1)
 have ks : ∀ j, j < kids.length → ∃ tj vj, kids[j]? = some tj ∧ vs[j]? = some vj := fun j hj => ⟨_, _, g2_ hj, g2_ (by omega)⟩
 obtain ⟨t0, v0, ht0, hv0⟩ := ks 0 (by omega)
 have fin : ∀ (r : Value) (w1 w2 : World), Ext w w1 → Ext w1 w2 → ResM z o v (fun b => D b ∨ DNew w1 w2 b) w2 RR r → ∀ w', Ext w2 w' → R r w' := fun r w1 w2 hx1 hx2 hres w' hx => by
  rw [hR]
  refine ⟨(hx1.trans hx2).trans hx, (hres.ext hx).mono fun b hb => ?_⟩
  rcases hb with hb | ⟨b1, b2⟩
  ·exact .inl hb
  ·have := hx1.size; have := hx.size; exact .inr ⟨by omega, by omega⟩
 conv => cbv
 refine st_box hr fun q3 w1 hx1 h30 => ?_
 have h3 := h30 _ (n1_ _)
 have f30 := bx_form h3
 clear h30
 conv => cbv
 refine st_alloc hr tIV rfl fun q4 w2 hx2 h40 => ?_
 have h4 := h40 _ hx1.size
 have f40 := bx_form (h40 _ (n1_ _))
 clear h40
 replace h3 := h3.bel hx2
 have hx := hx1.trans hx2
 have ap34 := bx_apart f30.2.2 f40.2.2 (by omega)
 have s2 := hx.size
 clear hx1
 conv => cbv
 (refine st_fld hE fOp1 fun p hp => ?_; (conv => cbv); refine st_load hE cTrs (by rw [hp]; exact (h3).at _ _ rfl) ?_; (conv => cbv))
 refine st_elem hE sTrs (hcl.ext hx) hvl.symm (by omega) (by omega) fun p u hu1 hp => ?_
 rw [show (0 : Int).toNat = 0 from rfl, hv0] at hu1
 cases hu1
 conv => cbv
 refine st_load hE cTr hp ?_
 clear hp
 conv => cbv
 refine st_f hr (kid 0 t0 v0 ht0 hv0 _ hx) fun r w3 hx3 hres => ?_
 obtain ⟨R0, hR0⟩ : ∃ R0, R0 = evT (rqP rq) (lv.map (·.p)) t0 := ⟨_, rfl⟩
 rw [← hR0] at hres
 have e0 : (evTs (rqP rq) (lv.map (·.p)) kids)[0]? = some R0 := by
  match kids, ht0 with
  | a :: l, h => simp at h; subst h; rw [evTs, hR0]; rfl
 replace h3 := h3.bel hx3
 replace h4 := h4.bel hx3
 have hx23 := hx.trans hx3
 have s3 := hx23.size
 have s23 := hx3.size
 have hcm0 : ∀ cc, R0 = .inl cc → RR = .inl cc := fun cc e => by
  rw [hcomb]
  have hl := ek2
  have hlk : kids.length = 1 ∨ kids.length = 2 ∨ kids.length = 3 := by omega
  generalize evTs (rqP rq) (lv.map (·.p)) kids = es at e0 hl
  match es, e0 with
  | [a], h => simp at h; subst h; rw [e]; rfl
  | [a, b], h => simp at h; subst h; rw [e]; rfl
  | [a, b, c], h => simp at h; subst h; rw [e]; rfl
  | a :: b :: c :: d :: l, _ => simp at hl; omega
 cases R0 with
 | inl cc =>
  have hRR := hcm0 cc rfl
  obtain ⟨hcc, ⟨⟨xk, xn, xt, xx⟩, xA, xm, xc⟩, op', rfl⟩ := id hres
  rw [← hRR] at hres
  conv => cbv
  refine st_alloc hr tIV rfl fun q6 w4 hx4 h60 => ?_
  have h6 := h60 _ (n1_ _)
  have f60 := bx_form h6
  clear h60
  conv => cbv
  refine st_putS hr (by kernel_rfl) h6 (add_zero _).symm (by simp [zV]) (by simp [Value.oneCell']) fun w5 hw5 h65 => ?_
  have hx5 := hx4.then (hw5.bel h6 hx4.size)
  replace h4 := (h4.bel hx4).wr hw5 (bx_apart f40.2.2 f60.2.2 (by omega))
  conv => cbv
  refine st_neSome hE hu ?_
  conv => cbv
  refine st_bV0 hE ?_
  conv => cbv
  refine st_putS hr (by kernel_rfl) h4 (add_zero _).symm (by simp [zV]) (by simp [Value.oneCell']) fun w9 hw9 h49 => ?_
  simp only [zV, a1_, a2_, a3_, a4_, a5_, a6_, a7_] at h49
  conv => cbv
  refine st_cell hr tIV rfl h49.at ?_
  rw [hR]
  have s5 := hx5.size
  exact ⟨(hx23.trans hx5).then (hw9.bel h4 (by omega)), by rw [hRR]; exact ⟨hcc, zX, op', rfl⟩⟩
 | inr p0 =>
 have hres0 := hres
 obtain ⟨⟨⟨xk, xn, xt, xx⟩, xA, xm, xc⟩, rfl, rfl, hxm, hxD⟩ := hres
 simp only at hxm hxD
 conv => cbv
 refine st_alloc hr tIV rfl fun q6 w4 hx4 h60 => ?_
 have h6 := h60 w.heap.size (by omega)
 have f60 := bx_form (h60 _ (n1_ _))
 clear h60
 conv => cbv
 refine st_putS hr (by kernel_rfl) h6 (add_zero _).symm (by simp [zV]) (by simp [Value.oneCell']) fun w5 hw5 h65 => ?_
 simp only [zV, a1_, a2_, a3_, a4_, a5_, a6_, a7_] at h65
 have ap46 := bx_apart f40.2.2 f60.2.2 (by omega)
 have ap36 := bx_apart f30.2.2 f60.2.2 (by omega)
 have hx35 : Ext w3 w5 := hx4.then ⟨hw5.os, hw5.tape, hw5.output, hw5.size, fun i h1 => hw5.block i (by have := hx4.size; omega) (by rw [f60.2.2]; intro e; cases e; omega)⟩
 replace h4 := (h4.bel hx4).wr hw5 ap46
 replace h3 := (h3.bel hx4).wr hw5 ap36
 have hx5 := hx23.trans hx35
 have s5 := hx5.size
 have s35 := hx35.size
 clear h6 hw5 hx4
 have hres5 : ResM z o v (fun b => D b ∨ DNew w2 w5 b) w5 (.inr ⟨xk, xn, xt, xx⟩) (.tuple ⟨[.agg ⟨[.int .i64 xk, .int .i64 xn, .string xt, .slice xA xm xc]⟩, .nilIface]⟩) :=
  ⟨⟨⟨xk, xn, xt, xx⟩, xA, xm, xc⟩, rfl, rfl, hxm.ext hx35, fun a ha hm => by
   rcases hxD a ha hm with hb | ⟨b1, b2⟩
   ·exact .inl hb
   ·exact .inr ⟨b1, by omega⟩⟩
 replace hxm := hxm.ext hx35
 conv => cbv
 refine st_neNil hE hu ?_
 conv => cbv
 (refine st_fld hE fOp0 fun p hp => ?_; (conv => cbv); refine st_load hE cInt (by rw [hp]; exact (h3).at _ _ rfl) ?_; (conv => cbv))
 have q4n : w.heap.size ≤ q4.block ∧ q4.block < w2.heap.size := ⟨by have := hx.size; have := f30.1; omega, by omega⟩
 have resQ : ∀ (r : Value) (w6 w9 : World) (R1 : Int ⊕ PV) (wa : World), ResM z o v (fun b => D b ∨ DNew wa w6 b) w6 R1 r → w2.heap.size ≤ wa.heap.size → w2.heap.size ≤ w6.heap.size → Wr (some q4) w6 w9 → ResM z o v (fun b => D b ∨ DNew w w9 b) w9 R1 r := fun r w6 w9 R1 wa hres h1 h2 hw9 => by
  cases R1 with
  | inl cc => exact hres
  | inr p =>
   obtain ⟨x, g1, g2, g3, g4⟩ := hres
   refine ⟨x, g1, g2, ⟨strs_keep g3.1 g4 (fun b hb => hw9.block b ?_ ?_), g3.2⟩, fun a ha hm => ?_⟩
   ·rcases hb with hb | hb
    ·have := hD b hb; omega
    ·exact hb.2
   ·rw [f40.2.2]
    intro e
    cases e
    rcases hb with hb | hb
    ·have := hD _ hb; omega
    ·have := hb.1; omega
   ·have := hw9.size
    rcases g4 a ha hm with hb | hb
    ·exact .inl hb
    ·exact .inr ⟨by have := hb.1; omega, by have := hb.2; omega⟩
 have finK : ∀ (r : Value) (wa w6 : World), Ext w wa → Ext wa w6 → ResM z o v (fun b => D b ∨ DNew wa w6 b) w6 RR r → ∀ w9, Wr (some q4) w6 w9 → w2.heap.size ≤ wa.heap.size → R r w9 := fun r wa w6 hxa hx6 hres w9 hw9 hsa => by
  rw [hR]
  have s6 := hx6.size
  refine ⟨?_, resQ r w6 w9 RR wa hres hsa (by omega) hw9⟩
  have hxx := hxa.trans hx6
  exact hxx.then ⟨hw9.os, hw9.tape, hw9.output, hw9.size, fun i h1 => hw9.block i (by have := hxx.size; omega) (by rw [f40.2.2]; intro e; cases e; omega)⟩
 by_cases o25 : op = 25
 ·refine br (fun _ => ?_) (fun q => absurd o25 (by simpa [hE.cmp, cmpR] using q))
  have hkn : kids.length = 2 := by subst o25; have e : kidsF 25 = 2 := by decide
                                   omega
  obtain ⟨t1, rfl⟩ : ∃ t1, kids = [t0, t1] := by
   match kids, hkn, ht0 with
   | [a, b], _, h => simp at h; subst h; exact ⟨b, rfl⟩
  have ht1 : [t0, t1][1]? = some t1 := rfl
  obtain ⟨v1, hv1⟩ : ∃ v1, vs[1]? = some v1 := ⟨_, g2_ (by simp at hkl; omega)⟩
  simp only [a3_, a4_] at hkl
  simp only [evTs] at hcomb
  rw [← hR0] at hcomb
  simp only [combR] at hcomb
  conv => cbv
  (refine st_fld hE fIV1 fun p hp => ?_; (conv => cbv); refine st_load hE cI64 (by rw [hp]; exact (h65).at _ _ rfl) ?_; (conv => cbv))
  refine br (fun g => ?_) (fun g => ?_)
  ·have g : xn = 0 := by simpa [hE.cmp, cmpR] using g
   rw [if_pos (.inl ⟨o25, g⟩)] at hcomb
   conv => cbv
   refine st_loadS hE tIV rfl h65.at ?_
   conv => cbv
   refine st_putS hr (by kernel_rfl) h4 (add_zero _).symm (by simp [zV]) (by simp [Value.oneCell']) fun w9 hw9 h49 => ?_
   simp only [zV, a1_, a2_, a3_, a4_, a5_, a6_, a7_] at h49
   conv => cbv
   refine st_cell hr tIV rfl h49.at ?_
   conv => cbv
   exact finK _ w2 w5 hx (hx3.trans hx35) (by rw [hcomb]; exact hres5) w9 hw9 (n1_ _)
  ·have g : xn ≠ 0 := by simpa [hE.cmp, cmpR] using g
   rw [if_neg (by omega), if_pos (by omega)] at hcomb
   conv => cbv
   (refine st_fld hE fOp1 fun p hp => ?_; (conv => cbv); refine st_load hE cTrs (by rw [hp]; exact (h3).at _ _ rfl) ?_; (conv => cbv))
   refine st_elem hE sTrs (hcl.ext hx5) hvl.symm (by omega) (by omega) fun p u hu1 hp => ?_
   rw [show (1 : Int).toNat = 1 from rfl, hv1] at hu1
   cases hu1
   conv => cbv
   refine st_load hE cTr hp ?_
   clear hp
   conv => cbv
   refine st_f hr (kid 1 t1 v1 ht1 hv1 _ hx5) fun r w6 hx6 hres => ?_
   rw [← hcomb] at hres
   obtain ⟨yk, yn, yt, yA, ym, yc, e', rfl, hor⟩ := hres.tup
   replace h4 := h4.bel hx6
   conv => cbv
   refine st_putS hr (by kernel_rfl) h4 (add_zero _).symm (by simp [zV]) (by simp [Value.oneCell']) fun w9 hw9 h49 => ?_
   simp only [zV, a1_, a2_, a3_, a4_, a5_, a6_, a7_] at h49
   conv => cbv
   refine st_cell hr tIV rfl h49.at ?_
   conv => cbv
   exact finK _ w5 w6 hx5 hx6 hres w9 hw9 (by omega)
 refine br (fun q => absurd (by simpa [hE.cmp, cmpR] using q) o25) (fun _ => ?_)
 conv => cbv
 by_cases o26 : op = 26
 ·refine br (fun _ => ?_) (fun q => absurd o26 (by simpa [hE.cmp, cmpR] using q))
  have hkn : kids.length = 2 := by subst o26; have e : kidsF 26 = 2 := by decide
                                   omega
  obtain ⟨t1, rfl⟩ : ∃ t1, kids = [t0, t1] := by
   match kids, hkn, ht0 with
   | [a, b], _, h => simp at h; subst h; exact ⟨b, rfl⟩
  have ht1 : [t0, t1][1]? = some t1 := rfl
  obtain ⟨v1, hv1⟩ : ∃ v1, vs[1]? = some v1 := ⟨_, g2_ (by simp at hkl; omega)⟩
  simp only [a3_, a4_] at hkl
  simp only [evTs] at hcomb
  rw [← hR0] at hcomb
  simp only [combR] at hcomb
  conv => cbv
  (refine st_fld hE fIV1 fun p hp => ?_; (conv => cbv); refine st_load hE cI64 (by rw [hp]; exact (h65).at _ _ rfl) ?_; (conv => cbv))
  refine br (fun g => ?_) (fun g => ?_)
  ·have g : xn = 1 := by simpa [hE.cmp, cmpR] using g
   rw [if_pos (.inr ⟨o26, g⟩)] at hcomb
   conv => cbv
   refine st_loadS hE tIV rfl h65.at ?_
   conv => cbv
   refine st_putS hr (by kernel_rfl) h4 (add_zero _).symm (by simp [zV]) (by simp [Value.oneCell']) fun w9 hw9 h49 => ?_
   simp only [zV, a1_, a2_, a3_, a4_, a5_, a6_, a7_] at h49
   conv => cbv
   refine st_cell hr tIV rfl h49.at ?_
   conv => cbv
   exact finK _ w2 w5 hx (hx3.trans hx35) (by rw [hcomb]; exact hres5) w9 hw9 (n1_ _)
  ·have g : xn ≠ 1 := by simpa [hE.cmp, cmpR] using g
   rw [if_neg (by omega), if_pos (by omega)] at hcomb
   conv => cbv
   (refine st_fld hE fOp1 fun p hp => ?_; (conv => cbv); refine st_load hE cTrs (by rw [hp]; exact (h3).at _ _ rfl) ?_; (conv => cbv))
   refine st_elem hE sTrs (hcl.ext hx5) hvl.symm (by omega) (by omega) fun p u hu1 hp => ?_
   rw [show (1 : Int).toNat = 1 from rfl, hv1] at hu1
   cases hu1
   conv => cbv
   refine st_load hE cTr hp ?_
   clear hp
   conv => cbv
   refine st_f hr (kid 1 t1 v1 ht1 hv1 _ hx5) fun r w6 hx6 hres => ?_
   rw [← hcomb] at hres
   obtain ⟨yk, yn, yt, yA, ym, yc, e', rfl, hor⟩ := hres.tup
   replace h4 := h4.bel hx6
   conv => cbv
   refine st_putS hr (by kernel_rfl) h4 (add_zero _).symm (by simp [zV]) (by simp [Value.oneCell']) fun w9 hw9 h49 => ?_
   simp only [zV, a1_, a2_, a3_, a4_, a5_, a6_, a7_] at h49
   conv => cbv
   refine st_cell hr tIV rfl h49.at ?_
   conv => cbv
   exact finK _ w5 w6 hx5 hx6 hres w9 hw9 (by omega)
 refine br (fun q => absurd (by simpa [hE.cmp, cmpR] using q) o26) (fun _ => ?_)
 conv => cbv
 by_cases o27 : op = 27
 ·refine br (fun _ => ?_) (fun q => absurd o27 (by simpa [hE.cmp, cmpR] using q))
  have hkn : kids.length = 3 := by subst o27; have e : kidsF 27 = 3 := by decide
                                   omega
  obtain ⟨t1, t2, rfl⟩ : ∃ t1 t2, kids = [t0, t1, t2] := by
   match kids, hkn, ht0 with
   | [a, b, c], _, h => simp at h; subst h; exact ⟨b, c, rfl⟩
  have ht1 : [t0, t1, t2][1]? = some t1 := rfl
  have ht2 : [t0, t1, t2][2]? = some t2 := rfl
  obtain ⟨v1, hv1⟩ : ∃ v1, vs[1]? = some v1 := ⟨_, g2_ (by simp at hkl; omega)⟩
  obtain ⟨v2, hv2⟩ : ∃ v2, vs[2]? = some v2 := ⟨_, g2_ (by simp at hkl; omega)⟩
  simp only [a3_, a4_] at hkl
  simp only [evTs] at hcomb
  rw [← hR0] at hcomb
  simp only [combR] at hcomb
  conv => cbv
  (refine st_fld hE fIV1 fun p hp => ?_; (conv => cbv); refine st_load hE cI64 (by rw [hp]; exact (h65).at _ _ rfl) ?_; (conv => cbv))
  refine br (fun g => ?_) (fun g => ?_)
  ·have g : xn = 1 := by simpa [hE.cmp, cmpR] using g
   rw [if_pos g] at hcomb
   conv => cbv
   (refine st_fld hE fOp1 fun p hp => ?_; (conv => cbv); refine st_load hE cTrs (by rw [hp]; exact (h3).at _ _ rfl) ?_; (conv => cbv))
   refine st_elem hE sTrs (hcl.ext hx5) hvl.symm (by omega) (by omega) fun p u hu1 hp => ?_
   rw [show (1 : Int).toNat = 1 from rfl, hv1] at hu1
   cases hu1
   conv => cbv
   refine st_load hE cTr hp ?_
   clear hp
   conv => cbv
   refine st_f hr (kid 1 t1 v1 ht1 hv1 _ hx5) fun r w6 hx6 hres => ?_
   rw [← hcomb] at hres
   obtain ⟨yk, yn, yt, yA, ym, yc, e', rfl, hor⟩ := hres.tup
   replace h4 := h4.bel hx6
   conv => cbv
   refine st_putS hr (by kernel_rfl) h4 (add_zero _).symm (by simp [zV]) (by simp [Value.oneCell']) fun w9 hw9 h49 => ?_
   simp only [zV, a1_, a2_, a3_, a4_, a5_, a6_, a7_] at h49
   conv => cbv
   refine st_cell hr tIV rfl h49.at ?_
   conv => cbv
   exact finK _ w5 w6 hx5 hx6 hres w9 hw9 (by omega)
  ·have g : xn ≠ 1 := by simpa [hE.cmp, cmpR] using g
   rw [if_neg g] at hcomb
   conv => cbv
   (refine st_fld hE fOp1 fun p hp => ?_; (conv => cbv); refine st_load hE cTrs (by rw [hp]; exact (h3).at _ _ rfl) ?_; (conv => cbv))
   refine st_elem hE sTrs (hcl.ext hx5) hvl.symm (by omega) (by omega) fun p u hu1 hp => ?_
   rw [show (2 : Int).toNat = 2 from rfl, hv2] at hu1
   cases hu1
   conv => cbv
   refine st_load hE cTr hp ?_
   clear hp
   conv => cbv
   refine st_f hr (kid 2 t2 v2 ht2 hv2 _ hx5) fun r w6 hx6 hres => ?_
   rw [← hcomb] at hres
   obtain ⟨yk, yn, yt, yA, ym, yc, e', rfl, hor⟩ := hres.tup
   replace h4 := h4.bel hx6
   conv => cbv
   refine st_putS hr (by kernel_rfl) h4 (add_zero _).symm (by simp [zV]) (by simp [Value.oneCell']) fun w9 hw9 h49 => ?_
   simp only [zV, a1_, a2_, a3_, a4_, a5_, a6_, a7_] at h49
   conv => cbv
   refine st_cell hr tIV rfl h49.at ?_
   conv => cbv
   exact finK _ w5 w6 hx5 hx6 hres w9 hw9 (by omega)
 refine br (fun q => absurd (by simpa [hE.cmp, cmpR] using q) o27) (fun _ => ?_)
 have ho8 : 8 ≤ op ∧ op ≤ 24 := by unfold kidsF at hk1; (repeat' split at hk1) <;> omega
 have hk12 : kids.length = 1 ∨ kids.length = 2 := by unfold kidsF at hk1; (repeat' split at hk1) <;> omega
 have hk2' : 11 ≤ op → kids.length = 2 := fun q => by unfold kidsF at hk1; (repeat' split at hk1) <;> omega
 have hk1' : op ≤ 10 → kids.length = 1 := fun q => by unfold kidsF at hk1; (repeat' split at hk1) <;> omega
 conv => cbv
 refine st_loadS hE tIV rfl h65.at ?_
 conv => cbv
 refine st_litsK hr sIV rfl (by omega) (vs := [.agg ⟨[.int .i64 xk, .int .i64 xn, .string xt, .slice xA xm xc]⟩]) (m := 1) rfl (by omega) (by omega) rfl (by simp [Value.cells]) (cs := [.int .i64 xk, .int .i64 xn, .string xt, .slice xA xm xc]) rfl fun LB w6 hx6 hlb0 => ?_
 have hlb := hlb0 w5.heap.size (n1_ _)
 clear hlb0
 replace h3 := h3.bel hx6
 replace h4 := h4.bel hx6
 conv => cbv
 (refine st_fld hE fOp1 fun p hp => ?_; (conv => cbv); refine st_load hE cTrs (by rw [hp]; exact (h3).at _ _ rfl) ?_; (conv => cbv))
 refine st_from hE sTrs hcl (by omega) hmc (lo := 1) rfl (by omega) fun A5 c5 hcl5 hc5 => ?_
 rw [Nat.mul_one] at hcl5
 obtain ⟨m5, hm5⟩ : ∃ m5, m5 = m - 1 := ⟨_, rfl⟩
 rw [← hm5]
 conv => cbv
 refine st_len hE sTrs fun x5 hx5' => ?_
 conv => cbv
 have hbl6 := hx6.size
 refine loop_rule hr (fun (st : Nat × Int × Option Addr × Nat × Nat × List VV) w' => st.1 ≤ m5 ∧ st.2.1 = (st.1 : Int) ∧ Bel w5.heap.size w5 w' ∧ Box w.heap.size 320 3 w' q3 [.int .i64 op, .slice A m c, .int .i64 at_] ∧ Box w.heap.size 218 4 w' q4 zV ∧ Own w5.heap.size 218 4 w' st.2.2.1 st.2.2.2.1 st.2.2.2.2.1 (st.2.2.2.2.2.flatMap vC) ∧ (st.2.2.2.2.2.length = st.2.2.2.1 ∧ st.2.2.2.1 = st.1 + 1) ∧
   st.2.2.2.2.2[0]? = some ⟨⟨xk, xn, xt, xx⟩, xA, xm, xc⟩ ∧ (st.1 = 1 → ∃ t1 x1, kids[1]? = some t1 ∧ st.2.2.2.2.2[1]? = some x1 ∧ evT (rqP rq) (lv.map (·.p)) t1 = .inr x1.p ∧ ValM w' x1))
  (fun st => [(0, .pointer (some q)), (3, .pointer (some q3)), (4, .pointer (some q4)), (8, .slice st.2.2.1 st.2.2.2.1 st.2.2.2.2.1), (81, .slice A5 m5 c5), (82, .int .i64 x5), (83, .int .i64 st.2.1)]) (fun st => m5 - st.1) (0, 0, LB, 1, 1, [⟨⟨xk, xn, xt, xx⟩, xA, xm, xc⟩])
  (by simp [Fits, lk]) ⟨by simp, by simp, (Ext.refl w5).bel hx6 |>.mono (n1_ _), h3, h4, hlb, ⟨by simp, by simp⟩, by simp, fun q => absurd q (by simp)⟩ ?_
 clear h3 h4 hlb
 rintro I0 hI0 ⟨j, jj, LB2, nL, d2, us⟩ w7 ⟨hj, hjj, hxb, h3, h4, hlb, ⟨hul, hnL⟩, hu0, hu1⟩
 simp only at hj hjj hlb hul hnL hu0 hu1
 have hx57 : Ext w5 w7 := hxb
 obtain ⟨jk, hjk⟩ : ∃ z, z = jj + 1 := ⟨_, rfl⟩
 have hx7 := hx5.trans hx57
 have s7 := hx57.size
 conv => cbv
 refine br (fun g => ?_) (fun g => ?_)
 ·have g : j < m5 := by
   have : jj < x5 := by simpa [hE.cmp, cmpR] using g
   omega
  have hj0 : j = 0 := by omega
  subst hj0
  have ej : E.ar .add .i64 jj 1 = jk := by rw [hE.ar, hjk]; exact wrap_in (by omega) (by omega)
  obtain ⟨t1, v1, ht1, hv1⟩ := ks 1 (by omega)
  obtain ⟨R1, hR1⟩ : ∃ R1, R1 = evT (rqP rq) (lv.map (·.p)) t1 := ⟨_, rfl⟩
  have hkk : kids = [t0, t1] := by
   match kids, (show kids.length = 2 by omega), ht0, ht1 with
   | [a, b], _, h, h2 => simp at h h2; subst h; subst h2; rfl
  conv => cbv
  refine st_elem hE sTrs (hcl5.ext hx7) (by rw [List.length_drop]; omega) (by omega) (by omega) fun p u hu2 hp => ?_
  rw [show jj.toNat = 0 by omega, List.getElem?_drop, hv1] at hu2
  cases hu2
  conv => cbv
  refine st_load hE cTr hp ?_
  clear hp
  conv => cbv
  refine st_f hr (kid 1 t1 v1 ht1 hv1 _ hx7) fun r w8 hx8 hres1 => ?_
  rw [← hR1] at hres1
  cases R1 with
  | inl cc =>
   have hRR : RR = .inl cc := by
    rw [hcomb, hkk]
    simp only [evTs]
    rw [← hR0, ← hR1]
    simp only [combR]
    rw [if_neg (by omega), if_neg (by omega)]
   obtain ⟨hcc, ⟨⟨yk, yn, yt, yy⟩, yA, ym, yc⟩, op', rfl⟩ := hres1
   conv => cbv
   refine st_alloc hr tIV rfl fun q7 w9 hx9 h70 => ?_
   have h7 := h70 _ (n1_ _)
   have f70 := bx_form h7
   clear h70
   conv => cbv
   refine st_putS hr (by kernel_rfl) h7 (add_zero _).symm (by simp [zV]) (by simp [Value.oneCell']) fun w10 hw10 h75 => ?_
   have hx10 := hx9.then (hw10.bel h7 hx9.size)
   have s8 := hx8.size
   replace h4 := ((h4.bel hx8).bel hx9).wr hw10 (bx_apart f40.2.2 f70.2.2 (by omega))
   conv => cbv
   refine st_neSome hE hu ?_
   conv => cbv
   refine st_bV0 hE ?_
   conv => cbv
   refine st_putS hr (by kernel_rfl) h4 (add_zero _).symm (by simp [zV]) (by simp [Value.oneCell']) fun w11 hw11 h49 => ?_
   simp only [zV, a1_, a2_, a3_, a4_, a5_, a6_, a7_] at h49
   conv => cbv
   refine st_cell hr tIV rfl h49.at ?_
   conv => cbv
   have s10 := hx10.size
   exact finK _ w7 w10 hx7 (hx8.trans hx10) (by rw [hRR]; exact ⟨hcc, zX, op', rfl⟩) w11 hw11 (by omega)
  | inr p1 =>
   obtain ⟨⟨⟨yk, yn, yt, yy⟩, yA, ym, yc⟩, rfl, rfl, hym, hyD⟩ := hres1
   conv => cbv
   refine st_alloc hr tIV rfl fun q7 w9 hx9 h70 => ?_
   have h7 := h70 _ (n1_ _)
   have f70 := bx_form h7
   clear h70
   conv => cbv
   refine st_putS hr (by kernel_rfl) h7 (add_zero _).symm (by simp [zV]) (by simp [Value.oneCell']) fun w10 hw10 h75 => ?_
   simp only [zV, a1_, a2_, a3_, a4_, a5_, a6_, a7_] at h75
   have s8 := hx8.size
   have s9 := hx9.size
   have hx10 : Ext w8 w10 := hx9.then (hw10.bel h7 hx9.size)
   have hx710 := hx8.trans hx10
   replace h4 := ((h4.bel hx8).bel hx9).wr hw10 (bx_apart f40.2.2 f70.2.2 (by omega))
   replace h3 := ((h3.bel hx8).bel hx9).wr hw10 (bx_apart f30.2.2 f70.2.2 (by omega))
   have hlb10 := hlb.bel hx710
   conv => cbv
   refine st_neNil hE hu ?_
   conv => cbv
   refine st_loadS hE tIV rfl h75.at ?_
   conv => cbv
   refine st_oneS hr sIV rfl (by omega) (by omega) rfl fun A7 w11 hx11 hc11 => ?_
   have hlb11 := hlb10.bel hx11
   have s10 := hx10.size
   have s11 := hx11.size
   conv => cbv
   refine st_appsKG hr sIV rfl (by omega) hlb11 hc11 rfl (by omega) (by simp [Value.oneCell']) (by omega) (by omega) (by omega) fun A8 c8 m8 w12 hm8 hw12 ho12 hbk => ?_
   subst hm8
   conv => cbv
   simp only [ej]
   have lowq : ∀ x : Addr, x.block < w5.heap.size → blk (some x) = some x.block → Apart (some x) LB2 := fun x h1 h2 => (own_low hlb11 h1 h2).2
   have hx512 : Bel w5.heap.size w5 w12 := RowKit.Below.trans ((hx57.trans hx710).trans hx11 : Ext w5 w11) (hw12.bel hlb11 (by omega))
   refine ⟨(1, jk, A8, nL + 1, c8, us ++ [⟨⟨yk, yn, yt, yy⟩, yA, ym, yc⟩]), by simp [Fits, lk], hI0 _ _ ⟨by simp only; omega, by simp only; omega, hx512, (h3.bel hx11).wr hw12 (lowq q3 (by omega) f30.2.2), (h4.bel hx11).wr hw12 (lowq q4 (by omega) f40.2.2), ?_, ⟨by simp only [List.length_append, a3_, a4_]; omega, by simp only; omega⟩, ?_, fun _ => ⟨t1, ⟨⟨yk, yn, yt, yy⟩, yA, ym, yc⟩, ht1, ?_, hR1.symm, ?_⟩⟩, by simp only; omega⟩
   ·simp only
    rw [List.flatMap_append]
    simpa [vC] using ho12
   ·simp only
    rw [List.getElem?_append_left (by omega)]; exact hu0
   ·simp only
    rw [List.getElem?_append_right (by omega), show 1 - us.length = 0 by omega]; rfl
   ·refine ⟨strs_keep (hym.ext (hx10.trans hx11)).1 hyD (fun b hb => hw12.block b ?_ ?_), hym.2⟩
    ·rcases hb with hb | hb
     ·have := hD b hb; omega
     ·have := hb.2; omega
    ·intro e
     have hbb := own_blk hlb b e.symm
     rcases hb with hb | hb
     ·have := hD b hb; omega
     ·have := hb.1; omega
 ·have g : j = m5 := by
   have : ¬ jj < x5 := by simpa [hE.cmp, cmpR] using g
   omega
  conv => cbv
  (refine st_fld hE fOp0 fun p hp => ?_; (conv => cbv); refine st_load hE cInt (by rw [hp]; exact (h3).at _ _ rfl) ?_; (conv => cbv))
  have hxm7 : ValM w7 ⟨⟨xk, xn, xt, xx⟩, xA, xm, xc⟩ := hxm.ext hx57
  have hty0 : ∀ ty, (tyTs names tys kids).2[0]? = some ty → valV ty ⟨xk, xn, xt, xx⟩ := fun ty hty => by
   exact ek3 0 ty _ hty e0
  obtain ⟨y, hy1, hy2, hy3, hRR⟩ : ∃ y : VV, (11 ≤ op → us[1]? = some y) ∧ (11 ≤ op → ValM w7 y) ∧ (∀ ty, (tyTs names tys kids).2[1]? = some ty → valV ty y.p) ∧ RR = opR op ⟨xk, xn, xt, xx⟩ y.p := by
   by_cases h11 : 11 ≤ op
   ·obtain ⟨t1, x1, k1, k2, k3, k4⟩ := hu1 (by have := hk2' h11; omega)
    have hkk : kids = [t0, t1] := by
     match kids, hk2' h11, ht0, k1 with
     | [a, b], _, h, h2 => simp at h h2; subst h; subst h2; rfl
    refine ⟨x1, fun _ => k2, fun _ => k4, fun ty hty => ?_, ?_⟩
    ·have := ek3 1 ty (.inr x1.p) hty (by rw [hkk]; simp only [evTs]; rw [k3]; rfl)
     exact this
    ·rw [hcomb, hkk]
     simp only [evTs]
     rw [← hR0, k3]
     simp only [combR]
     rw [if_neg (by omega), if_neg (by omega)]
   ·have hkk : kids = [t0] := by
     match kids, hk1' (by omega), ht0 with
     | [a], _, h => simp at h; subst h; rfl
    refine ⟨⟨⟨xk, xn, xt, xx⟩, xA, xm, xc⟩, fun q => absurd q h11, fun q => absurd q h11, fun ty hty => ?_, ?_⟩
    ·have : (tyTs names tys kids).2.length = 1 := by rw [ek1, hkk]; rfl
     rw [List.getElem?_eq_none (by omega)] at hty
     cases hty
    ·rw [hcomb, hkk]
     simp only [evTs]
     rw [← hR0]
     simp only [combR]
  have hop := opOK_of (x := ⟨xk, xn, xt, xx⟩) (y := y.p) (by rw [ek1]; exact hk1) (by rw [ek1]; exact hk2) hty2 hty0 hy3
  refine st_f hr (operate_f (he.ext hx7) (hT.ext hx7) ho8.1 ho8.2 hlb.cells hul (by omega) hu0 hy1 hxm7 hy2 hop) fun r w8 hx8 hres => ?_
  simp only at hres
  rw [← hRR] at hres
  replace hres := hres.mono (D' := fun b => D b ∨ DNew w7 w8 b) fun b hb => .inr hb
  obtain ⟨yk, yn, yt, yA, ym, yc, e', rfl, hor⟩ := hres.tup
  replace h4 := h4.bel hx8
  conv => cbv
  refine st_putS hr (by kernel_rfl) h4 (add_zero _).symm (by simp [zV]) (by simp [Value.oneCell']) fun w9 hw9 h49 => ?_
  simp only [zV, a1_, a2_, a3_, a4_, a5_, a6_, a7_] at h49
  conv => cbv
  refine st_cell hr tIV rfl h49.at ?_
  conv => cbv
  exact finK _ w7 w8 hx7 hx8 hres w9 hw9 (by omega)
theorem value_all (names : List ByteArray) (tys : List Int) : ∀ n, ValF names tys n := by
 intro n
 induction n with
 | zero => intro t v h; cases t <;> simp [dep] at h
 | succ n ih =>
  intro t tv hd hg hc hty w D hD ht q ra rq LA ln lc lv hdec hlets hreq z o v he hT
  refine FC.intro (cs := []) Tryz.func140 (by kernel_rfl) fun E R hE hr hR => ?_
  have fin : ∀ (x : VV) (w2 w9 : World) (q4 : Addr), Ext w w2 → Box w.heap.size 218 4 w9 q4 (vC x) → Wr (some q4) w2 w9 → w.heap.size ≤ q4.block → blk (some q4) = some q4.block → ValM w2 x → InD D x.A x.m → evT (rqP rq) (lv.map (·.p)) t = .inr x.p → R (.tuple ⟨[.agg ⟨vC x⟩, .nilIface]⟩) w9 := fun x w2 w9 q4 hx _ hw h4 f4 hm hi e => by
   rw [hR, e]
   have s2 := hx.size
   refine ⟨hx.then ⟨hw.os, hw.tape, hw.output, hw.size, fun i h1 => hw.block i (by omega) (by rw [f4]; intro e; cases e; omega)⟩, x, rfl, rfl, ⟨strs_keep hm.1 hi (fun b hb => hw.block b (by have := hD b hb; omega) (by rw [f4]; intro e; cases e; have := hD _ hb; omega)), hm.2⟩, fun a ha hm => .inl (hi a ha hm)⟩
  conv => cbv
  refine st_alloc hr tIV rfl fun q4 w0 hx0 h40 => ?_
  have h4 := h40 _ (n1_ _)
  have f4 := bx_form h4
  clear h40
  cases t with
  | con k z1 tx xs at_ =>
   simp only [TreeV] at ht
   obtain ⟨A, m, c, rfl, hst, hin, htx⟩ := ht
   conv => cbv
   refine st_ta hE (taCoCo k z1 at_ tx A m c) ?_
   conv => cbv
   refine st_alloc hr tCoT rfl fun q6 w1 hx1 hq0 => ?_
   have f6 := bx_form (hq0 _ (n1_ _))
   conv => cbv
   refine st_putS hr (by kernel_rfl) (hq0 _ (n1_ _)) (add_zero _).symm (by simp) (by simp [Value.oneCell']) fun w2 hw2 hq6 => ?_
   simp only [a1_, a2_, a3_, a4_, a5_, a6_, a7_] at hq6
   have hx2 := hx1.then (hw2.bel (hq0 _ (n1_ _)) hx1.size)
   replace h4 := (h4.bel hx1).wr hw2 (bx_apart f4.2.2 f6.2.2 (by omega))
   have hx := hx0.trans hx2
   clear hq0 hw2
   conv => cbv
   refine st_fld hE fCoT0 fun p hp => ?_
   conv => cbv
   refine st_loadS hE tIV (vs := [.int .i64 k, .int .i64 z1, .string tx, .slice A m c]) rfl (fun j u hu => by
    rw [hp, add_add, Nat.zero_add]
    refine hq6.at j u ?_
    have hj := (List.getElem?_eq_some_iff.1 hu).1
    rw [show ([.int .i64 k, .int .i64 z1, .string tx, .slice A m c, .int .i64 at_] : List Value) = [.int .i64 k, .int .i64 z1, .string tx, .slice A m c] ++ [.int .i64 at_] from rfl, List.getElem?_append_left hj]
    exact hu) ?_
   conv => cbv
   have s0 := hx.size
   refine st_putS hr (by kernel_rfl) h4 (add_zero _).symm (by simp [zV]) (by simp [Value.oneCell']) fun w9 hw9 h49 => ?_
   simp only [zV, a1_, a2_, a3_, a4_, a5_, a6_, a7_] at h49
   conv => cbv
   refine st_cell hr tIV rfl h49.at ?_
   conv => cbv
   exact fin ⟨⟨k, z1, tx, xs⟩, A, m, c⟩ w2 w9 q4 hx h49 hw9 f4.1 f4.2.2 ⟨hst.ext hx, htx⟩ hin (by simp only [evT])
  | nam tx at_ => simp only [conOK] at hc
  | att i =>
   simp only [TreeV] at ht
   subst ht
   simp only [goodT] at hg
   obtain ⟨k, hk⟩ : ∃ k : Nat, i = (k : Int) := ⟨i.toNat, by omega⟩
   conv => cbv
   refine st_ta hE (taAtCo i) ?_
   conv => cbv
   refine st_ta hE (taAtAt i) ?_
   conv => cbv
   refine st_alloc hr tAtT rfl fun q6 w1 hx1 hq0 => ?_
   have f6 := bx_form (hq0 _ (n1_ _))
   conv => cbv
   refine st_putS hr (by kernel_rfl) (hq0 _ (n1_ _)) (add_zero _).symm (by simp) (by simp [Value.oneCell']) fun w2 hw2 hq6 => ?_
   simp only [a1_, a2_, a3_, a4_, a5_, a6_, a7_] at hq6
   have hx2 := hx1.then (hw2.bel (hq0 _ (n1_ _)) hx1.size)
   replace h4 := (h4.bel hx1).wr hw2 (bx_apart f4.2.2 f6.2.2 (by omega))
   have hx := hx0.trans hx2
   clear hq0 hw2
   conv => cbv
   refine draw_t [1, 2, 6, 7, 8, 9] [(0, true), (3, true), (4, true), (5, true), (10, true), (11, false), (12, false)] hr fol (by kernel_rfl) fun E' hE' w3 hs3 S hS => ?_
   replace hq6 := hq6.bel hs3.ext
   replace h4 := h4.bel hs3.ext
   replace hx := hx.trans hs3.ext
   have hdc := hdec.ext hx
   conv => cbv
   (refine st_fld hE' fAtT0 fun p hp => ?_; (conv => cbv); refine st_load hE' cInt (by rw [hp]; exact (hq6).at _ _ rfl) ?_; (conv => cbv))
   refine st_nil hE' ?_
   conv => cbv
   refine st_fld hE' fDc0 fun p hp => ?_
   conv => cbv
   refine st_load hE' cPrq (by rw [hp]; exact hdc.box 0 _ rfl) ?_
   clear hp
   conv => cbv
   refine st_f hr (attributes_f w3) fun u w4 hx4 ⟨a, ev, hat⟩ => ?_
   subst ev
   refine ⟨hS _ hx4, ?_⟩
   obtain ⟨s5, t5, f5, hf5, hcall⟩ := attr_f ((hdc.ext hx4).req) (i := k) (by omega)
   obtain ⟨aa, haa, hcell⟩ := fl_at aC_len hat.cells (by omega) hf5
   cases haa
   conv => cbv
   refine st_idx hE sAr rfl (by omega) (by omega) fun p hp => ?_
   rw [show i.toNat = k by omega] at hp
   refine ⟨hS _ hx4, ?_⟩
   conv => cbv
   refine st_fld hE fAr2 fun p2 hp2 => ?_
   refine ⟨hS _ hx4, ?_⟩
   conv => cbv
   refine st_load hE cFat (by rw [hp2, hp]; exact hcell 2 _ rfl) ?_
   refine ⟨hS _ hx4, ?_⟩
   conv => cbv
   refine st_f hr hcall fun r w5 hx5 ⟨x, ev, hxp, hxm, hxi⟩ => ?_
   subst ev
   obtain ⟨⟨xk, xn, xt, xx⟩, xA, xm, xc⟩ := x
   simp only at hxp
   refine ⟨hS _ (hx4.trans hx5), ?_⟩
   replace h4 := (h4.bel hx4).bel hx5
   have hx' := (hx.trans hx4).trans hx5
   have s0 := hx'.size
   conv => cbv
   refine st_putS hr (by kernel_rfl) h4 (add_zero _).symm (by simp [zV]) (by simp [Value.oneCell']) fun w9 hw9 h49 => ?_
   simp only [zV, a1_, a2_, a3_, a4_, a5_, a6_, a7_] at h49
   conv => cbv
   refine st_cell hr tIV rfl h49.at ?_
   conv => cbv
   exact fin ⟨⟨xk, xn, xt, xx⟩, xA, xm, xc⟩ w5 w9 q4 hx' h49 hw9 f4.1 f4.2.2 hxm hxi (by simp only [evT]; rw [List.getD_eq_getElem?_getD, show i.toNat = k by omega, hxp]; rfl)
  | lt i =>
   simp only [TreeV] at ht
   subst ht
   simp only [goodT] at hg
   have hll := hlets.len
   rw [List.length_map] at hll
   have hdl := hdec.len
   obtain ⟨k, hk⟩ : ∃ k : Nat, i = (k : Int) := ⟨i.toNat, by omega⟩
   obtain ⟨x, hxv⟩ : ∃ x, lv[k]? = some x := ⟨_, g2_ (by omega)⟩
   obtain ⟨hxm, hxi⟩ := hdec.vals x (m1_ hxv)
   obtain ⟨aL, hLA, hcell⟩ := fl_at vC_len hdec.cells (by omega) hxv
   conv => cbv
   refine st_ta hE (taLtCo i) ?_
   conv => cbv
   refine st_ta hE (taLtAt i) ?_
   conv => cbv
   refine st_ta hE (taLtLt i) ?_
   conv => cbv
   refine st_alloc hr tLtT rfl fun q6 w1 hx1 hq0 => ?_
   have f6 := bx_form (hq0 _ (n1_ _))
   conv => cbv
   refine st_putS hr (by kernel_rfl) (hq0 _ (n1_ _)) (add_zero _).symm (by simp) (by simp [Value.oneCell']) fun w2 hw2 hq6 => ?_
   simp only [a1_, a2_, a3_, a4_, a5_, a6_, a7_] at hq6
   have hx2 := hx1.then (hw2.bel (hq0 _ (n1_ _)) hx1.size)
   replace h4 := (h4.bel hx1).wr hw2 (bx_apart f4.2.2 f6.2.2 (by omega))
   have hx := hx0.trans hx2
   clear hq0 hw2
   conv => cbv
   refine draw_t [0, 1, 2, 3, 4, 5, 6, 7] [(8, false), (9, false)] hr fol (by kernel_rfl) fun E' hE' w3 hs3 S hS => ?_
   replace hq6 := hq6.bel hs3.ext
   replace h4 := h4.bel hs3.ext
   replace hx := hx.trans hs3.ext
   have hdc := hdec.ext hx
   obtain ⟨⟨xk, xn, xt, xx⟩, xA, xm, xc⟩ := x
   conv => cbv
   refine st_nil hE' ?_
   conv => cbv
   refine st_fld hE' fDc1 fun p hp => ?_
   conv => cbv
   refine st_load hE' cIVs (by rw [hp]; exact hdc.box 1 _ rfl) ?_
   clear hp
   conv => cbv
   (refine st_fld hE' fLtT0 fun p hp => ?_; (conv => cbv); refine st_load hE' cInt (by rw [hp]; exact (hq6).at _ _ rfl) ?_; (conv => cbv))
   refine st_idx hE' sIV hLA (by omega) (by omega) fun p hp => ?_
   rw [show i.toNat = k by omega] at hp
   conv => cbv
   refine st_loadS hE' tIV (vs := [.int .i64 xk, .int .i64 xn, .string xt, .slice xA xm xc]) rfl (by rw [hp]; exact fun j u hu => hx.cell (hcell j u hu)) ?_
   conv => cbv
   have s0 := hx.size
   refine st_putS hr (by kernel_rfl) h4 (add_zero _).symm (by simp [zV]) (by simp [Value.oneCell']) fun w9 hw9 h49 => ?_
   simp only [zV, a1_, a2_, a3_, a4_, a5_, a6_, a7_] at h49
   conv => cbv
   refine st_cell hr tIV rfl h49.at ?_
   conv => cbv
   exact fin ⟨⟨xk, xn, xt, xx⟩, xA, xm, xc⟩ w3 w9 q4 hx h49 hw9 f4.1 f4.2.2 (hxm.ext hx) hxi (by simp only [evT]; rw [List.getD_eq_getElem?_getD, show i.toNat = k by omega, List.getElem?_map, hxv]; rfl)
  | op o1 kids at_ =>
   have ht' := ht
   simp only [TreeV] at ht
   obtain ⟨A, m, c, vs, rfl, h1, h2, h3, hcl, h5, h6⟩ := ht
   simp only [dep] at hd
   conv => cbv
   refine st_ta hE (taOpCo o1 at_ A m c) ?_
   conv => cbv
   refine st_ta hE (taOpAt o1 at_ A m c) ?_
   conv => cbv
   refine st_ta hE (taOpLt o1 at_ A m c) ?_
   conv => cbv
   refine st_ta hE (taOpOp o1 at_ A m c) ?_
   conv => cbv
   refine st_alloc hr tOpT rfl fun q6 w1 hx1 hq0 => ?_
   have f6 := bx_form (hq0 _ (n1_ _))
   conv => cbv
   refine st_putS hr (by kernel_rfl) (hq0 _ (n1_ _)) (add_zero _).symm (by simp) (by simp [Value.oneCell']) fun w2 hw2 hq6 => ?_
   simp only [a1_, a2_, a3_, a4_, a5_, a6_, a7_] at hq6
   have hx2 := hx1.then (hw2.bel (hq0 _ (n1_ _)) hx1.size)
   replace h4 := (h4.bel hx1).wr hw2 (bx_apart f4.2.2 f6.2.2 (by omega))
   have hx := hx0.trans hx2
   clear hq0 hw2
   conv => cbv
   refine st_loadS hE tOpT rfl hq6.at ?_
   conv => cbv
   have hD2 : ∀ b, D b → b < w2.heap.size := fun b hb => n3_ (hD b hb) hx.size
   have hts2 := h6
   refine st_f hr (operator_f ih (by omega) hg hc hty hD2 h1 h2 (hcl.ext hx) (TreesV.of_get h6.len fun i t v k1 k2 => (h6.get i t v k1 k2).ext hD hx) (hdec.ext hx) hlets hreq (he.ext hx) (hT.ext hx)) fun r w3 hx3 hres => ?_
   obtain ⟨R0, hR0⟩ : ∃ R0, R0 = evT (rqP rq) (lv.map (·.p)) (.op o1 kids at_) := ⟨_, rfl⟩
   rw [← hR0] at hres hR
   obtain ⟨yk, yn, yt, yA, ym, yc, e', rfl, hor⟩ := hres.tup
   replace h4 := h4.bel hx3
   have hx' := hx.trans hx3
   have s0 := hx'.size
   have s02 := hx.size
   have s00 := hx0.size
   have s22 := hx2.size
   have s33 := hx3.size
   conv => cbv
   refine st_putS hr (by kernel_rfl) h4 (add_zero _).symm (by simp [zV]) (by simp [Value.oneCell']) fun w9 hw9 h49 => ?_
   simp only [zV, a1_, a2_, a3_, a4_, a5_, a6_, a7_] at h49
   conv => cbv
   refine st_cell hr tIV rfl h49.at ?_
   conv => cbv
   rw [hR]
   refine ⟨hx'.then ⟨hw9.os, hw9.tape, hw9.output, hw9.size, fun i h1 => hw9.block i (by omega) (by rw [f4.2.2]; intro e; cases e; omega)⟩, ?_⟩
   cases R0 with
   | inl cc => exact hres
   | inr p =>
    obtain ⟨x, g1, g2, g3, g4⟩ := hres
    refine ⟨x, g1, g2, ⟨strs_keep g3.1 g4 (fun b hb => hw9.block b ?_ ?_), g3.2⟩, fun a ha hm => ?_⟩
    ·rcases hb with hb | hb
     ·have := hD b hb; omega
     ·exact hb.2
    ·rw [f4.2.2]
     intro e
     cases e
     rcases hb with hb | hb
     ·have := hD _ hb; omega
     ·have := hb.1; omega
    ·have := hw9.size
     rcases g4 a ha hm with hb | hb
     ·exact .inl hb
     ·exact .inr ⟨by have := hb.1; omega, by have := hb.2; omega⟩
def resS : List (PS × PT) → CK → List PT
 | [], _ => []
 | (s, p) :: l, x => match ckP s x p with
  | .inl _ => []
  | .inr y => ⟨p.c.map (resT x.names), p.g.map (resT y.names)⟩ :: resS l y
def spOf (es : List SV) : List (PS × PT) := es.map fun e => (e.s, e.p)
theorem spOf_drop {es : List SV} {j : Nat} {e : SV} (h : es[j]? = some e) : spOf (es.drop j) = (e.s, e.p) :: spOf (es.drop (j + 1)) := by
 rw [drop_cons h]; rfl
def poS (es : List SV) : Nat := (pos (es.flatMap fun e => trs e.p)).length
theorem pos_append : ∀ (l r : List Tr), pos (l ++ r) = pos l ++ pos r
 | [], r => rfl
 | t :: l, r => by rw [List.cons_append, pos, pos, pos_append l r, List.append_assoc]
theorem poS_drop {es : List SV} {j : Nat} {e : SV} (h : es[j]? = some e) : poS (es.drop j) = (pos (trs e.p)).length + poS (es.drop (j + 1)) := by
 rw [drop_cons h]; unfold poS; rw [List.flatMap_cons, pos_append, List.length_append]
structure SVs (w : World) (A : Option Addr) (m c : Nat) (es : List SV) : Prop where
 len : es.length = m
 cap : m ≤ c
 cells : Cells w A (es.flatMap fV)
 trees : ES (fun b => b < w.heap.size) w es
theorem SVs.ext {w w' : World} {A : Option Addr} {m c : Nat} {es : List SV} (h : SVs w A m c es) (hx : Ext w w') : SVs w' A m c es :=
 ⟨h.len, h.cap, h.cells.ext hx, h.trees.keep (fun b hb => hx.block b hb) (fun b hb => n3_ hb hx.size)⟩
theorem LaidS.svs {w : World} {A : Option Addr} {m c : Nat} {sv : List PS} {acc : List PT} (h : LaidS w A m c sv acc) : ∃ es, SVs w A m c es ∧ spOf es = sv.zip acc ∧ es.map (·.p) = acc ∧ es.map (·.s) = sv := by
 obtain ⟨es, h1, h2, h3, h4, h5, h6, h7⟩ := h
 have hs : es.map (·.s) = sv := by
  apply List.ext_getElem?
  intro i
  rw [List.getElem?_map]
  cases hi : es[i]? with
  | none =>
   have := List.getElem?_eq_none_iff.1 hi
   rw [List.getElem?_eq_none (by omega)]; rfl
  | some e => rw [(h6 i e hi).2]; rfl
 refine ⟨es, ⟨h1, h3, h5, h7⟩, ?_, h4, hs⟩
 rw [← hs, ← h4]
 unfold spOf
 rw [List.zip_map']
theorem kc_wr {w0s ws : Nat} {w w2 : World} {q : Addr} {bm : Nat} {f : List (ByteArray × Value)} {tys acc : List Int} {TA At : Option Addr} {tn tc na c : Nat} (hb : KB w0s ws q bm) (h : KC w0s ws w q bm f tys acc TA At tn tc na c) {X : Option Addr} (hw : Wr X w w2) {e : TypeId} {k m cc : Nat} {xs : List Value} (hX : Own ws e k w X m cc xs) (hA : Apart At X) (hT : Apart TA X) : KC w0s ws w2 q bm f tys acc TA At tn tc na c := by
 have hX1 : ∀ g, g < ws → blk X ≠ some g := fun g hg e => by have := (own_blk hX _ e).1; omega
 exact ⟨h.box.wr hw (.inr (by rw [hb.eq]; exact (hX1 _ (by have := hb.hq; omega)).symm)), h.map.wr hw (hX1 _ (by have := hb.m; omega)), h.rT.wr hw hT, h.rA.wr hw hA, h.aTA, n2_ h.hs hw.size⟩
theorem apart_of {ws : Nat} {e e' : TypeId} {k k' : Nat} {w w' : World} {A X : Option Addr} {m c mx cx : Nat} {xs ys : List Value} (hA : Own ws e k w A m c xs) (hX : Own ws e' k' w' X mx cx ys) (h : ∀ b, blk X = some b → blk A ≠ some b) : Apart A X ∧ Apart X A := by
 obtain rfl | ⟨g, rfl, _, _⟩ := hA.blk
 ·refine ⟨.inl rfl, ?_⟩
  obtain rfl | ⟨gx, rfl, _, _⟩ := hX.blk
  ·exact .inl rfl
  ·exact .inr (by simp [Eng.blk, Value.ownBlock])
 ·obtain rfl | ⟨gx, rfl, _, _⟩ := hX.blk
  ·exact ⟨.inr (by simp [Eng.blk, Value.ownBlock]), .inl rfl⟩
  ·have := h gx rfl
   exact ⟨.inr (by intro q; exact this q), .inr (by intro q; exact this q.symm)⟩
theorem own_nap {ws : Nat} {e : TypeId} {k : Nat} {w : World} {A X : Option Addr} {m c : Nat} {xs : List Value} (hA : Own ws e k w A m c xs) (h : Apart X A) {b : Nat} (hb : blk X = some b) : blk A ≠ some b := by
 rcases h with rfl | h
 ·simp [Eng.blk, Value.ownBlock] at hb
 ·intro e; exact h (by rw [hb, e])
theorem stp_row {w0 : World} {ws : Nat} {w w' : World} {A TA A' TA' B : Option Addr} {e : TypeId} {k m c : Nat} {xs : List Value} (hst : Stp w0 ws w A TA w' A' TA') (ho : Own ws e k w B m c xs) {na ca nt ct na' ca' nt' ct' : Nat} {la lt la' lt' : List Value} {ea et ea' et' : TypeId}
  (hA : Own ws ea 1 w A na ca la) (hT : Own ws et 1 w TA nt ct lt) (hA' : Own ws ea' 1 w' A' na' ca' la') (hT' : Own ws et' 1 w' TA' nt' ct' lt') (h0 : w0.heap.size ≤ ws) (a1 : Apart A B ∧ Apart B A) (a2 : Apart TA B ∧ Apart B TA) :
  Own ws e k w' B m c xs ∧ (Apart A' B ∧ Apart B A') ∧ (Apart TA' B ∧ Apart B TA') ∧ ∀ b, blk B = some b → b < w.heap.size := by
 have key : ∀ g, blk B = some g → DT w0.heap.size ws w A TA g := fun g hg => by
  obtain ⟨g1, g2⟩ := own_blk ho g hg
  exact .inr ⟨g1, g2, own_nap hA a1.2 hg, own_nap hT a2.2 hg⟩
 have key2 : ∀ g, blk B = some g → blk A' ≠ some g ∧ blk TA' ≠ some g := fun g hg => by
  obtain ⟨g1, g2⟩ := own_blk ho g hg
  rcases (hst.keep g (key g hg)).2 with h | ⟨_, _, h1, h2⟩
  ·omega
  ·exact ⟨h1, h2⟩
 have ho' : Own ws e k w' B m c xs := own_keep ho fun g hg => (hst.keep g (key g hg)).1
 exact ⟨ho', apart_of hA' ho' (fun b hb => (key2 b hb).1), apart_of hT' ho' (fun b hb => (key2 b hb).2), fun b hb => (own_blk ho b hb).2⟩
theorem stmtP_nm {last : Bool} {s : PS} (h : stmtP last s) : s.nm.size ≤ 9223372036854775807 := by
 unfold stmtP at h
 split at h
 ·have := h.2.1.2.1; omega
 ·split at h
  ·rw [h.2.1]; simp [ByteArray.size]
  ·split at h
   ·rw [h.2.1]; simp [ByteArray.size]
   ·exact h.elim
def DO (w0s ws : Nat) (w : World) (A TA B : Option Addr) (b : Nat) : Prop := b < w0s ∨ (ws ≤ b ∧ b < w.heap.size ∧ blk A ≠ some b ∧ blk TA ≠ some b ∧ blk B ≠ some b)
theorem do_dt {w0s ws : Nat} {w : World} {A TA B : Option Addr} {b : Nat} (h : DO w0s ws w A TA B b) : DT w0s ws w A TA b := by
 rcases h with h | ⟨h1, h2, h3, h4, _⟩
 ·exact .inl h
 ·exact .inr ⟨h1, h2, h3, h4⟩
theorem do_lt {w0s ws : Nat} {w : World} {A TA B : Option Addr} (h0 : w0s ≤ w.heap.size) {b : Nat} (h : DO w0s ws w A TA B b) : b < w.heap.size := by
 rcases h with h | ⟨_, h, _⟩ <;> omega
theorem checkAll_f {w : World} {A : Option Addr} {m c : Nat} {es : List SV} (h : SVs w A m c es) (hm : m ≤ 600) (hg : GoodS 0 (spOf es)) (hp : poS es ≤ 4000) :
  FC Tryz.prog 49 [.slice A m c] w fun v w' => match ckS (spOf es) ⟨[], [], []⟩ with
   | .inl f => v = .tuple ⟨[.slice none 0 0, .slice none 0 0, misV f.1 f.2]⟩ ∧ f.1 ≠ 0
   | .inr x => ∃ B d TA n' c' es2, v = .tuple ⟨[.slice B m d, .slice TA n' c', .nilIface]⟩ ∧ SVs w' B m d es2 ∧ Own w.heap.size 3 1 w' TA n' c' (x.acc.map (.int .i64)) ∧ es2.map (·.p) = resS (spOf es) ⟨[], [], []⟩ ∧ es2.map (·.s) = es.map (·.s) ∧ es2.map (·.i) = es.map (·.i) := by
 refine FC.intro (cs := []) Tryz.func49 (by kernel_rfl) fun E R hE hr hR => ?_
 have hlen := h.len
 obtain ⟨V, hV0⟩ : ∃ V, V = ckS (spOf es) ⟨[], [], []⟩ := ⟨_, rfl⟩
 obtain ⟨W, hW0⟩ : ∃ W, W = resS (spOf es) ⟨[], [], []⟩ := ⟨_, rfl⟩
 rw [← hV0, ← hW0] at hR
 conv => cbv
 refine st_f hr (newChecker_f w) fun v w1 hx1 ⟨q, bm, ws, ev, hb, hK⟩ => ?_
 subst ev
 have hle := hb.le
 have hws := hK.hs
 conv => cbv
 refine st_none hr sSt fun B0 w2 hx2 ho0 => ?_
 have ho := ho0 w1.heap.size (n1_ _)
 have aA := (Own.nil (B := ws) (e := 3) (k := 1) (w := w1)).apart ho (n1_ _)
 replace ho := ho.mono hws
 clear ho0
 have hK2 := hK.ext hx2
 have hxx := hx1.trans hx2
 clear hK hx1 hx2 hws
 conv => cbv
 refine st_len hE sSt fun x1 hx1' => ?_
 conv => cbv
 refine loop_rulec [] hr (fun (s : Nat × Int × CK × (Option Addr × Option Addr × Option Addr × Nat) × List SV) w' => s.1 ≤ m ∧ s.2.1 = (s.1 : Int) ∧ Ext w w' ∧ CKs w.heap.size ws w' q bm s.2.2.1 s.2.2.2.1.1 s.2.2.2.1.2.1 ∧ XK s.2.2.1 ∧
   Own ws 180 5 w' s.2.2.2.1.2.2.1 s.1 s.2.2.2.1.2.2.2 (s.2.2.2.2.flatMap fV) ∧ (Apart s.2.2.2.1.1 s.2.2.2.1.2.2.1 ∧ Apart s.2.2.2.1.2.2.1 s.2.2.2.1.1) ∧ (Apart s.2.2.2.1.2.1 s.2.2.2.1.2.2.1 ∧ Apart s.2.2.2.1.2.2.1 s.2.2.2.1.2.1) ∧
   ES (DO w.heap.size ws w' s.2.2.2.1.1 s.2.2.2.1.2.1 s.2.2.2.1.2.2.1) w' s.2.2.2.2 ∧ GoodS s.2.2.1.tys.length (spOf (es.drop s.1)) ∧ s.2.2.1.acc.length + poS (es.drop s.1) ≤ 4000 ∧ s.2.2.1.tys.length + (m - s.1) ≤ 600 ∧
   ckS (spOf (es.drop s.1)) s.2.2.1 = V ∧ s.2.2.2.2.map (·.p) ++ resS (spOf (es.drop s.1)) s.2.2.1 = W ∧ s.2.2.2.2.map (·.s) = (es.take s.1).map (·.s) ∧ s.2.2.2.2.map (·.i) = (es.take s.1).map (·.i))
  (fun s => [(5, .pointer (some q)), (6, .slice s.2.2.2.1.2.2.1 s.1 s.2.2.2.1.2.2.2), (13, .slice A m c), (14, .int .i64 x1), (15, .int .i64 s.2.1)]) (fun s => m - s.1) (0, 0, ⟨[], [], []⟩, (none, none, B0, 0), [])
  (by simp [Fits, lk]) ⟨by simp, by simp, hxx, ⟨0, 0, 0, 0, hK2⟩, ⟨rfl, by simp, by simp, by simp⟩, by simpa using ho, aA, aA, (fun e he => by cases he), by simpa using hg, by simpa using hp, by simp only [a4_]; omega, by simpa using hV0.symm, by simpa using hW0.symm, by simp, by simp⟩ ?_
 clear hxx hK2 ho aA hV0 hW0
 rintro I hI ⟨j, jj, x, ⟨A1, TA1, B, d⟩, es2⟩ w' ⟨hj, hjj, hx, ⟨tn, tc, na, ca, hK⟩, hX, ho, aA, aT, hes, hgd, hcnt, hlt, hV, hW, hsS, hsI⟩
 simp only at hj hjj hX ho aA aT hes hgd hcnt hlt hV hW hsS hsI hK
 obtain ⟨jk, hjk⟩ : ∃ z, z = jj + 1 := ⟨_, rfl⟩
 have hol := ho.len
 rw [fl_len fV_len] at hol
 have h0s := hx.size
 conv => cbv
 refine br (fun g => ?_) (fun g => ?_)
 ·have g : j < m := by
   have : jj < x1 := by simpa [hE.cmp, cmpR] using g
   omega
  have ej : E.ar .add .i64 jj 1 = jk := by rw [hE.ar, hjk]; exact wrap_in (by omega) (by omega)
  obtain ⟨e, he⟩ : ∃ e, es[j]? = some e := ⟨_, g2_ (by omega)⟩
  obtain ⟨aA0, hA0, hcell⟩ := fl_at fV_len (h.cells.ext hx) (by omega) he
  have htr := h.trees e (m1_ he)
  obtain ⟨ef, hef⟩ : ∃ ef, ef = fV e := ⟨_, rfl⟩
  have hefl : ef.length = 5 := by rw [hef]; rfl
  have hef1 : ∀ v ∈ ef, v.oneCell' = true := by
   rw [hef]
   intro v hv
   have o1 := htr.1.one
   have o2 := htr.2.one
   simp only [fV, List.mem_cons, List.not_mem_nil, or_false] at hv
   rcases hv with rfl | rfl | rfl | rfl | rfl <;> first | rfl | assumption
  rw [← hef] at hcell
  conv => cbv
  refine st_idx hE sSt hA0 (by omega) (by omega) fun p hp => ?_
  rw [show jj.toNat = j by omega] at hp
  conv => cbv
  refine st_loadS hE tSt hefl (by rw [hp]; exact hcell) ?_
  conv => cbv
  refine st_alloc hr tSt rfl fun q8 w3 hx3 hq0 => ?_
  conv => cbv
  refine st_putS hr (by rw [hefl]; kernel_rfl) (hq0 _ (n1_ _)) (add_zero _).symm (by simp [zSt, hefl]) hef1 fun w4 hw4 h8 => ?_
  have e8 : zSt.take 0 ++ ef ++ zSt.drop (0 + ef.length) = ef := by rw [hefl]; simp [zSt]
  rw [e8] at h8
  have hx4 := hx3.then (hw4.bel (hq0 _ (n1_ _)) hx3.size)
  clear hx3 hq0 hw4 hp hcell
  conv => cbv
  refine st_loadS hE tSt hefl h8.at ?_
  conv => cbv
  have hx04 := hx.trans hx4
  have hK4 := hK.ext hx4
  rw [spOf_drop he, GoodS] at hgd
  obtain ⟨hs1, ⟨hs2, hs3⟩, hs4, hs5⟩ := hgd
  rw [poS_drop he] at hcnt
  have k4 : ∀ b, b < w.heap.size → w4.heap[b]? = w.heap[b]? := fun b hb => hx04.block b hb
  have htc := htr.1.keep k4 (D' := fun b => b < w.heap.size) (fun b h => h)
  have htg := htr.2.keep k4 (D' := fun b => b < w.heap.size) (fun b h => h)
  have hmem : (∀ t, e.p.c = some t → t ∈ trs e.p) ∧ (∀ t, e.p.g = some t → t ∈ trs e.p) := ⟨fun t ht => by simp [trs, ht], fun t ht => by simp [trs, ht]⟩
  have hSt := stmt_g hb hx04 hK4 hX (by omega) hs1 (stmtP_nm hs1) hs2 hs3 htc htg (fun t ht => (hs4 t (hmem.1 t ht)).1) (fun t ht => (hs4 t (hmem.2 t ht)).1) (by have := hK4.len.2; omega) (fun t ht hz => topK_nz (hs4 t (hmem.1 t ht)).2 hX.eq hX.nz hz)
  rw [hef]
  refine st_g hr hSt fun r w5 ⟨cv, gv, er, ev, ocv, ogv, hx5, hres⟩ => ?_
  subst ev
  rw [spOf_drop he, ckS_cons] at hV
  rw [spOf_drop he, resS] at hW
  conv => cbv
  refine st_alloc hr tSt rfl fun q9 w6 hx6 hq0 => ?_
  conv => cbv
  refine st_putS hr (by kernel_rfl) (hq0 _ (n1_ _)) (add_zero _).symm (by simp [zSt]) (by
   intro y hy
   simp only [List.mem_cons, List.not_mem_nil, or_false] at hy
   rcases hy with rfl | rfl | rfl | rfl | rfl <;> first | rfl | assumption) fun w7 hw7 h9 => ?_
  simp only [zSt, a1_, a2_, a3_, a4_, a5_, a6_, a7_] at h9
  have hx57 := hx6.then (hw7.bel (hq0 _ (n1_ _)) hx6.size)
  have hx7 := hx5.trans hx57
  clear hx6 hq0 hw7
  cases hck : ckP e.s x e.p with
  | inl f =>
   rw [hck] at hres hV
   obtain ⟨rfl, hf⟩ := hres
   simp only at hV
   conv => cbv
   refine st_neSome hE Tryz.underlying99 ?_
   conv => cbv
   rw [hR]
   refine ⟨hx7, ?_⟩
   rw [← hV]
   exact ⟨rfl, hf⟩
  | inr y =>
   rw [hck] at hres hV hW
   simp only at hV hW
   obtain ⟨rfl, A2, TA2, hst, ⟨tn2, tc2, na2, ca2, hK5⟩, hY, hcv, hgv⟩ := hres
   conv => cbv
   refine st_neNil hE Tryz.underlying99 ?_
   conv => cbv
   refine st_loadS hE tSt rfl h9.at ?_
   conv => cbv
   refine st_oneS hr sSt rfl (by omega) (by omega) rfl fun A7 w8 hx8 hc8 => ?_
   conv => cbv
   have ho4 := ho.bel hx4
   obtain ⟨ho5, aA5, aT5, hB4⟩ := stp_row hst ho4 hK4.rA hK4.rT hK5.rA hK5.rT hle aA aT
   have hx58 := hx57.trans hx8
   have hK8 := hK5.ext hx58
   have ho8 := ho5.bel hx58
   have s8 := hx58.size
   have s45 := hst.size
   have s4 := hx4.size
   have hx08 := hx5.trans hx58
   have hws8 := hK8.hs
   refine st_appsKG hr sSt rfl (by omega) ho8 hc8 rfl (by omega) (by
    intro v hv
    simp only [List.mem_cons, List.not_mem_nil, or_false] at hv
    rcases hv with rfl | rfl | rfl | rfl | rfl <;> first | rfl | assumption) (by omega) (by omega) (by omega) fun A8 c8 m8 w9 hm8 hw9 ho9 hbk => ?_
   subst hm8
   have hgro : Gro w8 B w9 A8 := ⟨hw9, hbk.imp id fun e => ⟨_, e, n1_ _⟩⟩
   have aA9 := gro_apart (B := 0) (m := 0) (c := 0) (xs := []) hK8.rA aA5.symm hgro ho9
   have aT9 := gro_apart (B := 0) (m := 0) (c := 0) (xs := []) hK8.rT aT5.symm hgro ho9
   have hK9 := kc_wr hb hK8 hw9 ho8 aA5.1 aT5.1
   have hx09 : Ext w w9 := hx08.then (hw9.bel ho8 (by omega) |> fun q => RowKit.Below.mono q hle)
   have s9 := hw9.size
   have hBn : ∀ b, blk B = some b → blk A8 = some b ∨ ∃ b', blk A8 = some b' ∧ w8.heap.size ≤ b' := fun b hb1 => by
    rcases hgro.at_ with q1 | q1
    ·exact .inl (by rw [q1, hb1])
    ·exact .inr q1
   have hA8 : ∀ b, b < w8.heap.size → blk B ≠ some b → blk A8 ≠ some b := fun b hb1 hb2 q1 => by
    rcases hgro.at_ with q2 | ⟨b', q2, q3⟩
    ·exact hb2 (by rw [← q2, q1])
    ·rw [q2] at q1; cases q1; omega
   have kp : ∀ b, b < w8.heap.size → blk B ≠ some b → w9.heap[b]? = w8.heap[b]? := fun b hb1 hb2 => hw9.block b hb1 (Ne.symm hb2)
   have hes9 : ES (DO w.heap.size ws w9 A2 TA2 A8) w9 es2 := by
    refine hes.keep (fun b hb1 => ?_) (fun b hb1 => ?_)
    ·have hb2 := do_lt h0s hb1
     have hbB : blk B ≠ some b := by
      rcases hb1 with hb1 | ⟨_, _, _, _, k⟩
      ·intro q1; have := (own_blk ho b q1).1; omega
      ·exact k
     have hd4 : DT w.heap.size ws w4 A1 TA1 b := by
      rcases do_dt hb1 with k | ⟨k1, k2, k3⟩
      ·exact .inl k
      ·exact .inr ⟨k1, by omega, k3⟩
     rw [kp b (by omega) hbB, hx58.block b (by omega), (hst.keep b hd4).1, hx4.block b hb2]
    ·have hb2 := do_lt h0s hb1
     have hd4 : DT w.heap.size ws w4 A1 TA1 b := by
      rcases do_dt hb1 with k | ⟨k1, k2, k3⟩
      ·exact .inl k
      ·exact .inr ⟨k1, by omega, k3⟩
     rcases hb1 with hb1 | ⟨k1, k2, k3, k4, k5⟩
     ·exact .inl hb1
     ·rcases (hst.keep b hd4).2 with l | ⟨l1, l2, l3, l4⟩
      ·exact .inl l
      ·exact .inr ⟨k1, by omega, l3, l4, hA8 b (by omega) k5⟩
   have hnew : ∀ (o : Option Tr) (z : Value), optV (DT w.heap.size w4.heap.size w5 A2 TA2) w5 o z → optV (DO w.heap.size ws w9 A2 TA2 A8) w9 o z := fun o z hz => by
    have hB5 : ∀ b, DT w.heap.size w4.heap.size w5 A2 TA2 b → b < w5.heap.size ∧ blk B ≠ some b := fun b hb1 => by
     rcases hb1 with hb1 | ⟨k1, k2, _⟩
     ·exact ⟨by omega, fun q1 => by have := (own_blk ho b q1).1; omega⟩
     ·exact ⟨k2, fun q1 => by have := hB4 b q1; omega⟩
    refine hz.keep (fun b hb1 => ?_) (fun b hb1 => ?_)
    ·obtain ⟨k1, k2⟩ := hB5 b hb1
     rw [kp b (by omega) k2, hx58.block b k1]
    ·obtain ⟨k1, k2⟩ := hB5 b hb1
     rcases hb1 with hb1 | ⟨l1, l2, l3, l4⟩
     ·exact .inl hb1
     ·exact .inr ⟨by have := hK4.hs; omega, by omega, l3, l4, hA8 b (by omega) k2⟩
   have hty : y.tys.length = (if e.s.k = 1 then x.tys.length + 1 else x.tys.length) ∧ y.acc.length ≤ x.acc.length + (pos (trs e.p)).length := by
    have hkc : e.s.k = 1 → e.p.c ≠ none := fun hk q1 => by
     unfold stmtP at hs1
     rw [if_pos hk] at hs1
     have := hs2.2 hs1.2.2.1
     rw [q1] at this; simp at this
    unfold ckP at hck
    cases hq : ckC e.s x e.p.c with
    | inl f => rw [hq] at hck; cases hck
    | inr z =>
    rw [hq] at hck
    simp only at hck
    have e1 : y.tys = z.tys ∧ y.acc.length ≤ z.acc.length + (pos e.p.g.toList).length := by
     cases hgq : e.p.g with
     | none => rw [hgq] at hck; simp only [ckG] at hck; cases hck; simp
     | some t =>
      rw [hgq] at hck
      refine ⟨(ckG_some hck).2, ?_⟩
      simp only [ckG] at hck
      split at hck
      ·cases hck
      ·split at hck
       ·cases hck
       ·cases hck
        have := (walkL_len z.names z.tys (po t) z.acc).2.1
        simpa [pos] using this
    have e2 : z.tys.length = (if e.s.k = 1 then x.tys.length + 1 else x.tys.length) ∧ z.acc.length ≤ x.acc.length + (pos e.p.c.toList).length := by
     cases hcq : e.p.c with
     | none =>
      rw [hcq] at hq; simp only [ckC] at hq; cases hq
      exact ⟨by rw [if_neg (fun hk => hkc hk hcq)], by simp⟩
     | some t =>
      rw [hcq] at hq
      refine ⟨(ckC_some hq).2.2, ?_⟩
      have hl := (walkL_len x.names x.tys (po t) x.acc).2.1
      simp only [ckC] at hq
      split at hq
      ·cases hq
      ·split at hq
       ·split at hq
        ·cases hq
        ·cases hq; simpa [pos] using hl
       ·split at hq
        ·cases hq
        ·cases hq; simpa [pos] using hl
    refine ⟨by rw [e1.1]; exact e2.1, ?_⟩
    unfold trs
    rw [pos_append, List.length_append]
    omega
   conv => cbv
   simp only [ej]
   refine ⟨(j + 1, jk, y, (A2, TA2, A8, c8), es2 ++ [⟨e.s, ⟨e.p.c.map (resT x.names), e.p.g.map (resT y.names)⟩, cv, gv, e.i⟩]), by simp [Fits, lk], hI _ _ ⟨by simp only; omega, by simp only; omega, hx09, ⟨tn2, tc2, na2, ca2, hK9⟩, hY, ?_, aA9.symm, aT9.symm, ?_, ?_, ?_, ?_, ?_, ?_, ?_, ?_⟩, by simp only; omega⟩
   ·simp only
    rw [List.flatMap_append]
    exact ho9
   ·simp only
    intro z hz
    rcases List.mem_append.1 hz with hz | hz
    ·exact hes9 z hz
    ·simp at hz; subst hz; exact ⟨hnew _ _ hcv, hnew _ _ hgv⟩
   ·simp only; rw [hty.1]; exact hs5
   ·simp only; have := hty.2; omega
   ·simp only; rw [hty.1]; split <;> omega
   ·simp only; exact hV
   ·simp only; rw [List.map_append, List.append_assoc]; exact hW
   ·simp only; rw [List.map_append, hsS, g4_, he, List.map_append]; rfl
   ·simp only; rw [List.map_append, hsI, g4_, he, List.map_append]; rfl
 ·have g : j = m := by
   have : ¬ jj < x1 := by simpa [hE.cmp, cmpR] using g
   omega
  subst g
  rw [List.drop_eq_nil_of_le (by omega)] at hV hW
  simp only [spOf, b3_, ckS, resS, a7_] at hV hW
  rw [g3_ (by omega)] at hsS hsI
  conv => cbv
  refine draw_q hr fol (by kernel_rfl) fun E' hE' => ?_
  conv => cbv
  (refine st_nil hE' ?_; (conv => cbv); refine st_fld hE' fCk2 fun p hp => ?_; (conv => cbv); refine st_load hE' cInts (by rw [hp]; exact (hK.box).at _ _ rfl) ?_; (conv => cbv))
  intro w3 hs3
  conv => cbv
  rw [hR]
  refine ⟨hx.trans hs3.ext, ?_⟩
  rw [← hV]
  have hK3 := hK.ext hs3.ext
  refine ⟨B, d, A1, na, ca, es2, rfl, ⟨by omega, ho.cap, ho.cells.ext hs3.ext, hes.keep (fun b hb1 => hs3.ext.block b (do_lt h0s hb1)) fun b hb1 => n3_ (do_lt h0s hb1) hs3.ext.size⟩, hK3.rA.mono hle, hW, hsS, hsI⟩
abbrev typV (A : Option Addr) (n c : Nat) (A2 : Option Addr) (n2 c2 : Nat) (A3 : Option Addr) (n3 c3 : Nat) : Value := .agg ⟨[.slice A n c, .slice A2 n2 c2, .slice A3 n3 c3]⟩
abbrev zTyp : List Value := [.slice none 0 0, .slice none 0 0, .slice none 0 0]
theorem tITyp : Stc Tryz.prog 31 3 zTyp := ⟨by kernel_rfl, by kernel_rfl⟩
theorem fITyp0 : Fld Tryz.prog 31 0 0 := ⟨by kernel_rfl⟩
theorem fITyp1 : Fld Tryz.prog 31 1 1 := ⟨by kernel_rfl⟩
theorem fITyp2 : Fld Tryz.prog 31 2 2 := ⟨by kernel_rfl⟩
structure TypR (w : World) (A : Option Addr) (n : Nat) (A2 : Option Addr) (n2 : Nat) (A3 : Option Addr) (n3 c3 : Nat) (nv : List PN) (sv : List PS) (tyl : List Int) : Prop where
 pol : PolR w A n A2 n2 nv sv
 tys : Ints w A3 n3 c3 tyl
theorem TypR.ext {w w' : World} {A A2 A3 : Option Addr} {n n2 n3 c3 : Nat} {nv : List PN} {sv : List PS} {tyl : List Int} (h : TypR w A n A2 n2 A3 n3 c3 nv sv tyl) (hx : Ext w w') : TypR w' A n A2 n2 A3 n3 c3 nv sv tyl := ⟨h.1.ext hx, h.2.ext hx⟩
theorem fieldsT_z {nv : List PN} (h : ∀ p ∈ nv, fieldsP true p) : ∀ p ∈ nv, p.o = 7 → 0 ≤ p.z := fun p hp h7 => by
 have := (h p hp).2
 rw [if_neg (by omega), if_neg (by omega), if_neg (by omega), if_neg (by omega), if_neg (by omega), if_neg (by omega), if_pos h7] at this
 exact this.2.1
theorem specWellTyped_f {w : World} {A A2 A3 : Option Addr} {n c n2 c2 n3 c3 : Nat} {nv : List PN} {sv : List PS} {tyl : List Int} (h : TypR w A n A2 n2 A3 n3 c3 nv sv tyl) (hn : n ≤ 9223372036854775807) (hn2 : n2 ≤ 9223372036854775807) :
  FC Tryz.prog 80 [typV A n c A2 n2 c2 A3 n3 c3] w fun v _ => ∃ b : Bool, v = .bool b ∧ (b = true ↔ wellP nv sv tyl) := by
 refine FC.intro (cs := []) Tryz.func80 (by kernel_rfl) fun E R hE hr hR => ?_
 have hl := h.pol.nodes.len
 have hl3 := h.tys.len
 have no : ¬ wellP nv sv tyl → ∀ w', Ext w w' → R (.bool false) w' := fun q w' hx => by rw [hR]; exact ⟨hx, false, rfl, (fun z => by cases z), fun z => absurd z q⟩
 conv => cbv
 refine st_box hr fun a w1 hx hb0 => ?_
 have hb := hb0 _ (n1_ _)
 clear hb0
 conv => cbv
 (refine st_fld hE fITyp0 fun p hp => ?_; (conv => cbv); refine st_load hE cINs (by rw [hp]; exact (hb).at _ _ rfl) ?_; (conv => cbv))
 (refine st_fld hE fITyp1 fun p hp => ?_; (conv => cbv); refine st_load hE cISs (by rw [hp]; exact (hb).at _ _ rfl) ?_; (conv => cbv))
 refine st_f hr (l2shape_f (c := c) (c2 := c2) (h.pol.ext hx) hn hn2 true) fun v w2 hx2 ⟨b, ev, hb2⟩ => ?_
 subst ev
 replace hb := hb.bel hx2
 replace hx := hx.trans hx2
 clear hx2
 cases b with
 | false =>
  conv => cbv
  exact no (fun q => absurd (hb2.2 q.1) Bool.false_ne_true) _ hx
 | true =>
 have hP := hb2.1 rfl
 clear hb2
 conv => cbv
 (refine st_fld hE fITyp2 fun p hp => ?_; (conv => cbv); refine st_load hE cInts (by rw [hp]; exact (hb).at _ _ rfl) ?_; (conv => cbv))
 refine st_len hE tInts fun x1 hx1 => ?_
 conv => cbv
 (refine st_fld hE fITyp0 fun p hp => ?_; (conv => cbv); refine st_load hE cINs (by rw [hp]; exact (hb).at _ _ rfl) ?_; (conv => cbv))
 refine st_len hE sINd fun x2 hx2 => ?_
 have lenP : wellP nv sv tyl → tyl.length = nv.length := fun ⟨_, pts, x, hm, ht, hc, e⟩ => by rw [← e]; exact ck_len hm ht rfl hc
 conv => cbv
 refine br (fun g => ?_) (fun g => ?_)
 ·have g : x1 ≠ x2 := by simpa [hE.cmp, cmpR] using g
  conv => cbv
  exact no (fun q => g (by have := lenP q; omega)) _ hx
 have g : x1 = x2 := by simpa [hE.cmp, cmpR] using g
 obtain ⟨p1, p2, p3, p4, p5, ts, p6, p7⟩ := hP
 have hst := h.pol.stmts.len
 obtain ⟨pts, hm, rfl⟩ := match_ex p6.len
 conv => cbv
 (refine st_fld hE fITyp0 fun p hp => ?_; (conv => cbv); refine st_load hE cINs (by rw [hp]; exact (hb).at _ _ rfl) ?_; (conv => cbv))
 (refine st_fld hE fITyp1 fun p hp => ?_; (conv => cbv); refine st_load hE cISs (by rw [hp]; exact (hb).at _ _ rfl) ?_; (conv => cbv))
 refine st_f hr (l3check_f (cN' := c) (c2 := c2) (h.pol.ext hx) (by omega) (by omega) (fieldsT_z p4) p5 hm (by rw [← hl]; exact p6)) fun v w3 hx3 hv => ?_
 replace hb := hb.bel hx3
 replace hx := hx.trans hx3
 cases hck : ckS (sv.zip pts) ⟨[], [], []⟩ with
 | inl f =>
  rw [hck] at hv
  obtain ⟨rfl, hf⟩ := hv
  obtain ⟨f1, f2⟩ := f
  simp only at hf
  conv => cbv
  refine st_alloc hr tFt rfl fun q5 w4 hx4 hq0 => ?_
  conv => cbv
  refine st_putS hr (by kernel_rfl) (hq0 _ (n1_ _)) (add_zero _).symm (by simp) (by simp [Value.oneCell']) fun w5 hw5 hq5 => ?_
  simp only [a1_, a2_, a3_, a4_, a5_, a6_, a7_] at hq5
  have hxy := hx4.then (hw5.bel (hq0 _ (n1_ _)) hx4.size)
  conv => cbv
  (refine st_fld hE fFt0 fun p hp => ?_; (conv => cbv); refine st_load hE cInt (by rw [hp]; exact (hq5).at _ _ rfl) ?_; (conv => cbv))
  refine br (fun g2 => ?_) (fun g2 => absurd (by simpa [hE.cmp, cmpR] using g2) hf)
  conv => cbv
  refine no (fun ⟨_, pts', x', hm', ht', hc', _⟩ => ?_) _ (hx.trans hxy)
  rw [← pts_uniq hm hm' p6 ht', hck] at hc'
  cases hc'
 | inr x =>
  rw [hck] at hv
  obtain ⟨B, d, pl, rfl, hI, _⟩ := hv
  have hxl : x.acc.length = nv.length := ck_len hm p6 rfl hck
  obtain ⟨m, hmx⟩ : ∃ m, m = x.acc.length := ⟨_, rfl⟩
  rw [← hmx] at hI hxl ⊢
  have fin : wellP nv sv tyl ↔ x.acc = tyl := ⟨fun ⟨_, pts', x', hm', ht', hc', e⟩ => by
   rw [← pts_uniq hm hm' p6 ht', hck] at hc'
   cases hc'; exact e, fun e => ⟨⟨p1, p2, p3, p4, p5, _, p6, p7⟩, pts, x, hm, p6, hck, e⟩⟩
  conv => cbv
  refine st_alloc hr tFt rfl fun q5 w4 hx4 hq0 => ?_
  conv => cbv
  refine st_putS hr (by kernel_rfl) (hq0 _ (n1_ _)) (add_zero _).symm (by simp) (by simp [Value.oneCell']) fun w5 hw5 hq5 => ?_
  simp only [a1_, a2_, a3_, a4_, a5_, a6_, a7_] at hq5
  have hxy := hx4.then (hw5.bel (hq0 _ (n1_ _)) hx4.size)
  conv => cbv
  (refine st_fld hE fFt0 fun p hp => ?_; (conv => cbv); refine st_load hE cInt (by rw [hp]; exact (hq5).at _ _ rfl) ?_; (conv => cbv))
  refine br (fun g2 => absurd g2 (by simp [hE.cmp, cmpR])) (fun _ => ?_)
  replace hb := hb.bel hxy
  replace hx := hx.trans hxy
  replace hI := hI.ext hxy
  conv => cbv
  refine st_len hE tInts fun x5 hx5 => ?_
  conv => cbv
  refine loop_rule hr (fun (s : Nat × Int) w' => s.1 ≤ m ∧ s.2 = (s.1 : Int) ∧ Ext w5 w' ∧ x.acc.take s.1 = tyl.take s.1) (fun s => [(1, .pointer (some a)), (35, .slice B m d), (36, .int .i64 x5), (37, .int .i64 s.2)]) (fun s => m - s.1) (0, 0)
   (by simp [Fits, lk]) ⟨by simp, by simp, Ext.refl _, by simp⟩ ?_
  rintro I hI' ⟨i, ii⟩ w' ⟨hi, hii, hxw, htk⟩
  simp only at hi hii htk
  obtain ⟨ij, hij⟩ : ∃ z, z = ii + 1 := ⟨_, rfl⟩
  conv => cbv
  refine br (fun g2 => ?_) (fun g2 => ?_)
  ·have g2 : i < m := by
    have : ii < x5 := by simpa [hE.cmp, cmpR] using g2
    omega
   have ei : E.ar .add .i64 ii 1 = ij := by rw [hE.ar, hij]; exact wrap_in (by omega) (by omega)
   conv => cbv
   refine st_int hE tInts (hI.ext hxw) (k := i) hii g2 fun p u hu hp => ?_
   conv => cbv
   refine st_load hE cInt hp ?_
   conv => cbv
   (refine st_fld hE fITyp2 fun p hp => ?_; (conv => cbv); refine st_load hE cInts (by rw [hp]; exact ((hb.bel hxw)).at _ _ rfl) ?_; (conv => cbv))
   refine st_int hE tInts ((h.tys.ext hx).ext hxw) (k := i) hii (by omega) fun p2 u2 hu2 hp2 => ?_
   conv => cbv
   refine st_load hE cInt hp2 ?_
   conv => cbv
   refine br (fun g3 => ?_) (fun g3 => ?_)
   ·have g3 : u ≠ u2 := by simpa [hE.cmp, cmpR] using g3
    conv => cbv
    refine no (fun q => g3 ?_) _ (hx.trans hxw)
    have := fin.1 q
    rw [this, hu2] at hu
    exact (Option.some.inj hu).symm
   ·have g3 : u = u2 := by simpa [hE.cmp, cmpR] using g3
    conv => cbv
    simp only [ei]
    refine ⟨(i + 1, ij), by simp [Fits, lk], hI' _ _ ⟨by simp only; omega, by simp only; omega, hxw, ?_⟩, by simp only; omega⟩
    simp only
    rw [g4_, g4_, htk, hu, hu2, g3]
  ·have g2 : i = m := by
    have : ¬ ii < x5 := by simpa [hE.cmp, cmpR] using g2
    omega
   rw [g3_ (by omega), g3_ (by omega)] at htk
   conv => cbv
   rw [hR]; exact ⟨hx.trans hxw, true, rfl, fun _ => fin.2 htk, fun _ => rfl⟩
end Go.Proofs.YtgnjkdkedjljjaaGreatDoor
namespace Go.Eng
set_option linter.unusedVariables false
set_option linter.unusedSimpArgs false
def ePh2V (E E' : Sym) (w0 : World) (S : World → Prop) (all : List Oper) : List (Nat × Bool) → Fr → World → (Fr → World → Prop) → Prop
 | [], F, w, K => K F w
 | (k, true) :: l, F, w, K => match all[k]? with
  | none => False
  | some o => eOps E' all [o] F w0 fun F' _ => ePh2V E E' w0 S all l F' w K
 | (k, false) :: l, F, w, K => match all[k]? with
  | none => False
  | some o => eOps E all [o] F w fun F' w' => S w' ∧ ePh2V E E' w0 S all l F' w' K
section
variable {P : Program} {Pn : List PanicEntry → World → Prop} {n : Nat}
theorem ePh2V_sound {S : World → Prop} {w0 : World} (hSE : ∀ w1, S w1 → Ext w0 w1) {all : List Oper} (hs : Region.noSelect all.toArray = true) (hd : ∀ o ∈ all, ∀ t, o.dst = some t → t < n) {K : Exit → Fr → World → Prop} : ∀ (l : List (Nat × Bool)) (listed : Array Bool) (F : Fr) (a : Act) (w : World), S w → Kn n F a → planB2 all.toArray l listed = true → ePh2V (real P Pn n) (hreal P) w0 S all l F w (K .normal) → wpAnyH P .any all.toArray (QK Pn n K) S l.length listed a w
 | [], listed, F, a, w, _, hk, hB, h => by
  have hr : Region.ready .any all.toArray listed = [] := by simpa [planB2] using hB
  exact wpAnyH_done hr ⟨F, hk, h⟩ _
 | (k, true) :: l, listed, F, a, w, hS, hk, hB, h => by
  simp only [planB2, Bool.and_eq_true] at hB
  obtain ⟨⟨hf, hr⟩, hB⟩ := hB
  simp only [ePh2V] at h
  split at h
  ·exact h.elim
  ·rename_i o ho
   obtain ⟨v, F', hy, hk', h⟩ := step_yields (P := P) (n := n) (S := S) (E' := hreal P) (fun _ _ => rfl) (fun _ _ _ ⟨v, h1, h2⟩ => ⟨v, fun w1 hw1 => h1 w1 (hSE w1 hw1), h2⟩) (hd o (m1_ ho)) hk h
   exact wpAnyH_take (by simpa using ho) hs hf hr panic_put hy hS (ePh2V_sound hSE hs hd l _ F' _ w hS hk' hB h)
 | (k, false) :: l, listed, F, a, w, hS, hk, hB, h => by
  simp only [planB2, Bool.and_eq_true] at hB
  obtain ⟨hr, hB⟩ := hB
  have hr : Region.ready .any all.toArray listed = [k] := by simpa using hr
  simp only [ePh2V] at h
  split at h
  ·exact h.elim
  ·rename_i o ho
   refine wpAnyH_all hr (by simp) fun i hi => ?_
   obtain rfl : i = k := by simpa using hi
   exact step_op (Pn := Pn) ho (hd o (m1_ ho)) hk (fun c w h => ⟨hk.defers, h⟩) (fun F' a' w' hk' ⟨h1, h2⟩ => ⟨h1, ePh2V_sound hSE hs hd l _ F' a' w' h1 hk' hB h2⟩) h
theorem draw_v (l1 : List Nat) (l2 : List (Nat × Bool)) {E : Sym} (hE : E = real P Pn n) {id : Nat} {ops : Array Oper} {F : Fr} {w : World} {K : Exit → Fr → World → Prop} (hm : P.follows .mixedOrders = true) (hB : planB ops l1 l2 = true)
  (h : ∀ E', EngB false P E' → ∀ w0, Same w w0 → ∀ S : World → Prop, (∀ w', Ext w0 w' → S w') → ePh1 E' ops.toList l1 F w0 (fun F' w' => ePh2V E E' w0 S ops.toList l2 F' w' (K .normal))) : E.draw id ops F w K := by
 subst hE
 intro hd a hk
 simp only [planB, Bool.and_eq_true, Nat.beq_eq] at hB
 obtain ⟨⟨hs, hl⟩, hB⟩ := hB
 have hs' : Region.noSelect ops.toList.toArray = true := by simpa using hs
 refine wp_region_held (S := Ext { w with drawn := w.drawn + 1 }) hm ?_
 have := ePh1_sound (Pn := Pn) (K := K) (n := n) (S := Ext { w with drawn := w.drawn + 1 }) (w := { w with drawn := w.drawn + 1 }) (fun _ h => h) hs' (okDst_ops hd) (Ext.refl _) l2 _ l1 (Array.replicate ops.size false) F a hk (by simpa using hB) (h (hreal P) (Eng.h P) _ (Same.drew w) _ (fun _ h => h))
  (fun F a listed hk hB h => ePh2V_sound (fun _ h => h) hs' (okDst_ops hd) l2 listed F a _ (Ext.refl _) hk hB h)
 rw [hl] at this
 simpa using this
end
end Go.Eng
namespace Go.Proofs.YtgnjkdkedjljjaaGreatDoor
open Go.Eng
set_option linter.unusedVariables false
set_option linter.unusedSimpArgs false
theorem leafT_f {w : World} (v : VN) (h : OKN w v) {l : Nat} {ll : Int} (hll : ll = (l : Int)) :
  FC Tryz.prog 139 [.int .i64 ll, .agg ⟨cN v⟩] w fun r _ => ∃ b : Bool, r = .bool b ∧ (b = true ↔ leafT l v.p) := by
 refine FC.intro (cs := []) Tryz.func139 (by kernel_rfl) fun E R hE hr hR => ?_
 obtain ⟨⟨o, z, tx, xs, ks⟩, A0, m0, c0, A1, m1, c1⟩ := v
 have s_tx := h.s_tx
 have r_xs := h.r_xs
 simp only at s_tx r_xs
 obtain ⟨FP, hFP0⟩ : ∃ FP, FP = leafT l ⟨o, z, tx, xs, ks⟩ := ⟨_, rfl⟩
 simp only [← hFP0] at hR
 have hFP := hFP0
 unfold leafT at hFP
 simp only at hFP
 have bar : ∀ {b : Bool}, (b = true ↔ (true = true ∨ z = 0) ∧ (false = true ∨ tx = ⟨#[]⟩) ∧ (false = true ∨ xs = [])) → (b = true ↔ tx = ⟨#[]⟩ ∧ xs = []) := fun h => by simpa using h
 conv => cbv
 refine st_box hr fun a w1 hx hb0 => ?_
 have hb := hb0 _ (n1_ _)
 clear hb0
 conv => cbv
 (refine st_fld hE fINd0 fun p hp => ?_; (conv => cbv); refine st_load hE cInt (by rw [hp]; exact (hb).at _ _ rfl) ?_; (conv => cbv))
 refine br (fun g => ?_) (fun g => ?_)
 ·have g : o = 6 := by simpa [hE.cmp, cmpR] using g
  rw [if_pos g] at hFP
  conv => cbv
  refine draw_v [0] [(1, false), (2, true), (3, true), (4, true), (5, true), (6, true), (7, true), (8, true), (9, true), (10, false), (11, true), (12, true), (13, true), (14, true)] hr fol (by kernel_rfl) fun E' hE' w2 hs2 S hS => ?_
  replace hb := hb.bel hs2.ext
  replace hx := hx.trans hs2.ext
  conv => cbv
  refine st_loadS hE' tINd rfl hb.at ?_
  conv => cbv
  refine st_f hr (bare_f (o := o) (z := z) (tx := tx) (r_xs.ext hx).len true false false) fun r w3 hx3 ⟨b, ev, hbb⟩ => ?_
  subst ev
  have hbb := bar hbb
  refine ⟨hS _ hx3, ?_⟩
  cases b with
  | false =>
   conv => cbv
   refine ⟨hS _ hx3, ?_⟩
   conv => cbv
   rw [hR]; exact ⟨hx.trans hx3, false, rfl, by rw [hFP]; exact ⟨(fun q => nomatch q), fun q => hbb.2 ⟨q.1, q.2.1⟩⟩⟩
  | true =>
   have hbb := hbb.1 rfl
   conv => cbv
   refine st_fld hE' fINd1 fun p hp => ?_
   conv => cbv
   refine st_load hE' cI64 (by rw [hp]; exact hb.at _ _ rfl) ?_
   conv => cbv
   have hge : (E'.cmp .geq z 0 = true) ↔ 0 ≤ z := by rw [hE'.cmp]; simp [cmpR]
   refine br (fun g2 => ?_) (fun g2 => ?_)
   ·have g2 := hge.1 g2
    conv => cbv
    refine st_fld hE' fINd1 fun p hp => ?_
    conv => cbv
    refine st_load hE' cI64 (by rw [hp]; exact hb.at _ _ rfl) ?_
    conv => cbv
    refine st_f hr (attributes_f w3) fun r w4 hx4 ⟨aa, ev, _⟩ => ?_
    subst ev
    refine ⟨hS _ (hx3.trans hx4), ?_⟩
    conv => cbv
    refine st_len hE' sAr fun x hx' => ?_
    conv => cbv
    obtain ⟨q4, hq4⟩ : ∃ q4, q4 = E'.cmp .lss z x := ⟨_, rfl⟩
    have hq5 : q4 = true ↔ z < 6 := by rw [hq4, hE'.cmp, hx']; simp [cmpR]
    simp only [← hq4]
    rw [hR]; exact ⟨(hx.trans hx3).trans hx4, q4, rfl, by rw [hFP, hq5]; exact ⟨fun q => ⟨hbb.1, hbb.2, g2, q⟩, fun q => q.2.2.2⟩⟩
   ·have g2 : ¬ 0 ≤ z := fun q => g2 (hge.2 q)
    conv => cbv
    refine ⟨hS _ hx3, ?_⟩
    conv => cbv
    rw [hR]; exact ⟨hx.trans hx3, false, rfl, by rw [hFP]; exact ⟨(fun q => nomatch q), fun q => absurd q.2.2.1 g2⟩⟩
 ·have g : o ≠ 6 := by simpa [hE.cmp, cmpR] using g
  rw [if_neg g] at hFP
  conv => cbv
  refine br (fun g1 => ?_) (fun g1 => ?_)
  ·have g1 : o = 7 := by simpa [hE.cmp, cmpR] using g1
   rw [if_pos g1] at hFP
   conv => cbv
   refine st_loadS hE tINd rfl hb.at ?_
   conv => cbv
   refine st_f hr (bare_f (o := o) (z := z) (tx := tx) (r_xs.ext hx).len true false false) fun r w3 hx3 ⟨b, ev, hbb⟩ => ?_
   subst ev
   have hbb := bar hbb
   replace hb := hb.bel hx3
   replace hx := hx.trans hx3
   cases b with
   | false =>
    conv => cbv
    rw [hR]; exact ⟨hx, false, rfl, by rw [hFP]; exact ⟨(fun q => nomatch q), fun q => hbb.2 ⟨q.1, q.2.1⟩⟩⟩
   | true =>
    have hbb := hbb.1 rfl
    conv => cbv
    (refine st_fld hE fINd1 fun p hp => ?_; (conv => cbv); refine st_load hE cI64 (by rw [hp]; exact (hb).at _ _ rfl) ?_; (conv => cbv))
    have hge : (E.cmp .geq z 0 = true) ↔ 0 ≤ z := by rw [hE.cmp]; simp [cmpR]
    refine br (fun g2 => ?_) (fun g2 => ?_)
    ·have g2 := hge.1 g2
     conv => cbv
     (refine st_fld hE fINd1 fun p hp => ?_; (conv => cbv); refine st_load hE cI64 (by rw [hp]; exact (hb).at _ _ rfl) ?_; (conv => cbv))
     obtain ⟨q4, hq4⟩ : ∃ q4, q4 = E.cmp .lss z ll := ⟨_, rfl⟩
     have hq5 : q4 = true ↔ z < l := by rw [hq4, hE.cmp, hll]; simp [cmpR]
     simp only [← hq4]
     rw [hR]; exact ⟨hx, q4, rfl, by rw [hFP, hq5]; exact ⟨fun q => ⟨hbb.1, hbb.2, g2, q⟩, fun q => q.2.2.2⟩⟩
    ·have g2 : ¬ 0 ≤ z := fun q => g2 (hge.2 q)
     conv => cbv
     rw [hR]; exact ⟨hx, false, rfl, by rw [hFP]; exact ⟨(fun q => nomatch q), fun q => absurd q.2.2.1 g2⟩⟩
  ·have g1 : o ≠ 7 := by simpa [hE.cmp, cmpR] using g1
   rw [if_neg g1] at hFP
   conv => cbv
   refine st_loadS hE tINd rfl hb.at ?_
   conv => cbv
   refine st_f hr (validConst_f (o := o) (z := z) (tx := tx) (r_xs.ext hx) s_tx) fun r w2 hx2 ⟨b, ev, hbb⟩ => ?_
   subst ev
   have hbb : b = true ↔ cOK ⟨o, z, tx, xs, ks⟩ := hbb
   conv => cbv
   rw [hR]; exact ⟨hx.trans hx2, b, rfl, by rw [hFP]; exact hbb⟩
theorem leafT_a {w0 : World} : LeafA w0 139 leafT := fun w' hx l _ ll hll v hv => leafT_f v hv hll
theorem LaidS.ext {w w' : World} {A : Option Addr} {m c : Nat} {sv : List PS} {acc : List PT} (h : LaidS w A m c sv acc) (hx : Ext w w') : LaidS w' A m c sv acc := by
 obtain ⟨es, h1, h2, h3, h4, h5, h6, h7⟩ := h
 exact ⟨es, h1, h2, h3, h4, h5.ext hx, h6, h7.keep (fun b hb => hx.block b hb) (fun b hb => n3_ hb hx.size)⟩
def TypedP (nv : List PN) (sv : List PS) (tyl : List Int) (acc : List PT) (x : CK) : Prop :=
 (nv.length ≤ 4000 ∧ 1 ≤ sv.length ∧ sv.length ≤ 600) ∧ runS nv leafT sv 0 0 [] = some (acc, nv.length) ∧ ckS (sv.zip acc) ⟨[], [], []⟩ = .inr x ∧ x.acc = tyl
theorem typedTrees_f {w : World} (hT : Tab w 6 constF) (hR0 : STab w 4 words) {A A2 A3 : Option Addr} {n c n2 c2 n3 c3 : Nat} {nv : List PN} {sv : List PS} {tyl : List Int} (h : TypR w A n A2 n2 A3 n3 c3 nv sv tyl) (hn : n ≤ 9223372036854775807) (hn2 : n2 ≤ 9223372036854775807) :
  FC Tryz.prog 83 [typV A n c A2 n2 c2 A3 n3 c3] w fun v w' => ∃ (B : Option Addr) (m d : Nat) (b : Bool), v = .tuple ⟨[.slice B m d, .bool b]⟩ ∧ (b = true ↔ wellP nv sv tyl) ∧
   (b = true → ∃ acc x, TypedP nv sv tyl acc x ∧ LaidS w' B m d sv acc) := by
 refine FC.intro (cs := []) Tryz.func83 (by kernel_rfl) fun E R hE hr hR => ?_
 have hl3 := h.tys.len
 have no : ¬ wellP nv sv tyl → ∀ w', Ext w w' → R (.tuple ⟨[.slice none 0 0, .bool false]⟩) w' := fun q w' hx => by rw [hR]; exact ⟨hx, none, 0, 0, false, rfl, ⟨(fun z => by cases z), fun z => absurd z q⟩, fun z => by cases z⟩
 conv => cbv
 refine st_box hr fun a w1 hx hb0 => ?_
 have hb := hb0 _ (n1_ _)
 clear hb0
 conv => cbv
 (refine st_fld hE fITyp0 fun p hp => ?_; (conv => cbv); refine st_load hE cINs (by rw [hp]; exact (hb).at _ _ rfl) ?_; (conv => cbv))
 (refine st_fld hE fITyp1 fun p hp => ?_; (conv => cbv); refine st_load hE cISs (by rw [hp]; exact (hb).at _ _ rfl) ?_; (conv => cbv))
 refine st_f hr (trees_f (cN' := c) (c2 := c2) (hT.ext hx) (hR0.ext hx) (h.pol.ext hx) hn hn2 leafT_a) fun v w2 hx2 ⟨B, m, d, b, ev, hb1, hb2⟩ => ?_
 subst ev
 replace hb := hb.bel hx2
 replace hx := hx.trans hx2
 clear hx2
 cases b with
 | false =>
  conv => cbv
  exact no (fun q => absurd (hb1.2 (wellP_iff.1 q).1) Bool.false_ne_true) _ hx
 | true =>
 have hP := hb1.1 rfl
 obtain ⟨acc, hrun, hLS⟩ := hb2 rfl
 clear hb1 hb2
 obtain ⟨pts, p1, p2, p3, p4, p5⟩ := runS_full leafT_6 leafT_7 sv hrun
 rw [a2_] at p1
 subst p1
 obtain ⟨es, hes, hz, hpm, hsm⟩ := hLS.svs
 have hpo : poS es ≤ 4000 := by
  have := p3.pos.1
  unfold poS
  rw [show (es.flatMap fun e => trs e.p) = acc.flatMap trs by rw [← hpm, List.flatMap_map]]
  omega
 have hm6 : m ≤ 600 := by
  have := hes.len
  have e2 : (es.map (·.s)).length = sv.length := by rw [hsm]
  rw [List.length_map] at e2
  omega
 conv => cbv
 refine st_f hr (checkAll_f hes hm6 (by rw [hz]; exact p5) hpo) fun v w3 hx3 hv => ?_
 rw [hz] at hv
 have key : ∀ q : wellP nv sv tyl, ∃ x, ckS (sv.zip acc) ⟨[], [], []⟩ = .inr x ∧ x.acc = tyl := fun q => (wellP_iff.1 q).2 _ hrun
 replace hb := hb.bel hx3
 have hLS := hLS.ext hx3
 replace hx := hx.trans hx3
 cases hck : ckS (sv.zip acc) ⟨[], [], []⟩ with
 | inl f =>
  rw [hck] at hv
  obtain ⟨rfl, hf⟩ := hv
  have noK : ¬ wellP nv sv tyl := fun q => by
   obtain ⟨x, h1, _⟩ := key q
   rw [hck] at h1; cases h1
  conv => cbv
  refine st_neSome hE Tryz.underlying99 ?_
  conv => cbv
  exact no noK _ hx
 | inr x =>
  rw [hck] at hv
  obtain ⟨B2, d2, TA, n', c', es2, rfl, _, hI, _⟩ := hv
  have fin : wellP nv sv tyl ↔ x.acc = tyl := ⟨fun q => by
   obtain ⟨x', h1, h2⟩ := key q
   rw [hck] at h1; cases h1; exact h2, fun e => wellP_iff.2 ⟨hP, fun acc' ha => by
   rw [hrun] at ha; cases ha; exact ⟨x, hck, e⟩⟩⟩
  have hI : Ints w3 TA n' c' x.acc := Own.ints hI
  have hxl := hI.len
  have hxn : x.acc.length = nv.length := ck_len p2 p3 rfl hck
  conv => cbv
  refine st_neNil hE Tryz.underlying99 ?_
  conv => cbv
  refine st_len hE tInts fun x1 hx1 => ?_
  conv => cbv
  (refine st_fld hE fITyp2 fun p hp => ?_; (conv => cbv); refine st_load hE cInts (by rw [hp]; exact (hb).at _ _ rfl) ?_; (conv => cbv))
  refine st_len hE tInts fun x2 hx2 => ?_
  conv => cbv
  refine br (fun g => ?_) (fun g => ?_)
  ·have g : x1 ≠ x2 := by simpa [hE.cmp, cmpR] using g
   conv => cbv
   refine no (fun q => g ?_) _ hx
   have := fin.1 q
   rw [this] at hxl
   omega
  have g : x1 = x2 := by simpa [hE.cmp, cmpR] using g
  conv => cbv
  refine st_len hE tInts fun x5 hx5 => ?_
  conv => cbv
  refine loop_rule hr (fun (s : Nat × Int) w' => s.1 ≤ n' ∧ s.2 = (s.1 : Int) ∧ Ext w3 w' ∧ x.acc.take s.1 = tyl.take s.1) (fun s => [(1, .pointer (some a)), (4, .slice B m d), (37, .slice TA n' c'), (38, .int .i64 x5), (39, .int .i64 s.2)]) (fun s => n' - s.1) (0, 0)
   (by simp [Fits, lk]) ⟨by simp, by simp, Ext.refl _, by simp⟩ ?_
  rintro I hI' ⟨i, ii⟩ w' ⟨hi, hii, hxw, htk⟩
  simp only at hi hii htk
  obtain ⟨ij, hij⟩ : ∃ z, z = ii + 1 := ⟨_, rfl⟩
  conv => cbv
  refine br (fun g2 => ?_) (fun g2 => ?_)
  ·have g2 : i < n' := by
    have : ii < x5 := by simpa [hE.cmp, cmpR] using g2
    omega
   have ei : E.ar .add .i64 ii 1 = ij := by rw [hE.ar, hij]; exact wrap_in (by omega) (by omega)
   conv => cbv
   refine st_int hE tInts (hI.ext hxw) (k := i) hii g2 fun p u hu hp => ?_
   conv => cbv
   refine st_load hE cInt hp ?_
   conv => cbv
   (refine st_fld hE fITyp2 fun p hp => ?_; (conv => cbv); refine st_load hE cInts (by rw [hp]; exact ((hb.bel hxw)).at _ _ rfl) ?_; (conv => cbv))
   refine st_int hE tInts ((h.tys.ext hx).ext hxw) (k := i) hii (by omega) fun p2 u2 hu2 hp2 => ?_
   conv => cbv
   refine st_load hE cInt hp2 ?_
   conv => cbv
   refine br (fun g3 => ?_) (fun g3 => ?_)
   ·have g3 : u2 ≠ u := by simpa [hE.cmp, cmpR] using g3
    conv => cbv
    refine no (fun q => g3 ?_) _ (hx.trans hxw)
    have := fin.1 q
    rw [this, hu2] at hu
    exact Option.some.inj hu
   ·have g3 : u2 = u := by simpa [hE.cmp, cmpR] using g3
    conv => cbv
    simp only [ei]
    refine ⟨(i + 1, ij), by simp [Fits, lk], hI' _ _ ⟨by simp only; omega, by simp only; omega, hxw, ?_⟩, by simp only; omega⟩
    simp only
    rw [g4_, g4_, htk, hu, hu2, g3]
  ·have g2 : i = n' := by
    have : ¬ ii < x5 := by simpa [hE.cmp, cmpR] using g2
    omega
   rw [g3_ (by omega), g3_ (by omega)] at htk
   conv => cbv
   rw [hR]; exact ⟨hx.trans hxw, B, m, d, true, rfl, ⟨fun _ => fin.2 htk, fun _ => rfl⟩, fun _ => ⟨acc, x, ⟨⟨hP.1, hP.2.1, hP.2.2.1⟩, hrun, hck, htk⟩, hLS.ext hxw⟩⟩
structure TOK (names : List ByteArray) (tys : List Int) (t : Tr) : Prop where
 g : goodT tys.length t
 c : conOK t
 e : (tyT names tys t).2 = 0
 d : dep t ≤ 64
def DecOK : List (PS × PT) → List ByteArray → List Int → Prop
 | [], _, _ => False
 | (s, p) :: l, names, tys => (∀ t, p.g = some t → TOK names tys t ∧ (tyT names tys t).1 = 4) ∧
  ((s.k = 3 ∧ p.c = none) ∨ (s.k = 1 ∧ ∃ t, p.c = some t ∧ TOK names tys t ∧ DecOK l (names ++ [s.nm]) (tys ++ [(tyT names tys t).1])) ∨
   (s.k = 2 ∧ ∃ t, p.c = some t ∧ TOK names tys t ∧ (tyT names tys t).1 = 1 ∧ DecOK l names tys))
theorem con_leaf {p : PN} (hf : fits p.z) (h : cOK p) (i : Int) : conOK (leafF p i) := by
 have ho := cOK_o h
 unfold leafF
 rw [if_neg (by omega), if_neg (by omega), if_neg (by omega)]
 simp only [conOK]
 rcases h with ⟨o1, h1, h2⟩ | ⟨o1, hz, h1, h2⟩ | ⟨o1, hz, h1, h2⟩ | ⟨o1, hz, h1, h2⟩
 ·rw [o1]; exact ⟨rfl, .inr (.inl ⟨rfl, hf, h1, h2⟩)⟩
 ·rw [o1]; exact ⟨rfl, .inr (.inr (.inl ⟨rfl, hz, h2, by have := h1.2; simp only; omega⟩))⟩
 ·rw [o1]; exact ⟨rfl, .inl ⟨rfl, hz, h1, h2⟩⟩
 ·rw [o1]; exact ⟨rfl, .inr (.inr (.inr ⟨rfl, hz, h1, h2⟩))⟩
theorem leafT_con {L : Nat} {p : PN} (hf : fits p.z) (h : leafT L p) (i : Int) : conOK (leafF p i) := by
 unfold leafT at h
 split at h
 ·rename_i e
  unfold leafF; rw [if_neg (by omega), if_pos e]; simp only [conOK]
 ·split at h
  ·rename_i e
   unfold leafF; rw [if_neg (by omega), if_neg (by omega), if_pos e]; simp only [conOK]
  ·exact con_leaf hf h i
theorem ists_con {ns : List PN} {L : Nat} (hf : ∀ p ∈ ns, fits p.z) {a b : Nat} {ks : List Int} {ts : List Tr} (h : IsTs ns a b ks ts) : (∀ q p, a ≤ q → q < b → ns[q]? = some p → nodeOK (leafT L) p) → conOKs ts := by
 induction h with
 | nil a => intro _; simp only [conOKs]
 | @cons a b k p ks kids ts hp hk h1 h2 i1 i2 =>
  intro hok
  have e1 := h1.le
  have e2 := h2.le
  have g1 := i1 fun q p h1 h2 => hok q p h1 (by omega)
  have g3 := i2 fun q p h1 h2 => hok q p (by omega) h2
  have hn := hok k p e1 (by omega) hp
  simp only [conOKs]
  refine ⟨?_, g3⟩
  unfold mkT
  split
  ·rename_i h0; exact leafT_con (hf p (m1_ hp)) (hn.1 h0) _
  ·simp only [conOK]; exact g1
theorem decOK_of : ∀ (l : List (PS × PT)) (x y : CK) (L : Nat), l ≠ [] → GoodS L l → x.tys.length = L → (∀ q ∈ l, ∀ t ∈ trs q.2, conOK t ∧ dep t ≤ 64) → ckS l x = .inr y → DecOK l x.names x.tys
 | [], _, _, _, h, _, _, _, _ => absurd rfl h
 | (s, p) :: l, x, y, L, _, hg, hL, hall, hck => by
  simp only [GoodS] at hg
  obtain ⟨hst, ⟨hm1, hm2⟩, htr, hrest⟩ := hg
  have hst2 := stmtP_iff.1 hst
  obtain ⟨⟨⟨k1, k3⟩, g2, g3, g4, g5, g6⟩, q1, q2⟩ := hst2
  have hal := hall (s, p) (by simp)
  simp only at hal
  simp only [ckS] at hck
  cases hc : ckC s x p.c with
  | inl f => rw [hc] at hck; cases hck
  | inr x2 =>
   rw [hc] at hck
   simp only at hck
   cases hgr : ckG x2 p.g with
   | inl f => rw [hgr] at hck; cases hck
   | inr x3 =>
    rw [hgr] at hck
    simp only at hck
    have hnext : l ≠ [] → x3.tys.length = (if s.k = 1 then L + 1 else L) → DecOK l x3.names x3.tys := fun hne hl => decOK_of l x3 y _ hne hrest hl (fun q hq => hall q (by simp [hq])) hck
    have grant : x2.tys = x.tys → x2.names = x.names → (∀ t, p.g = some t → TOK x.names x.tys t ∧ (tyT x.names x.tys t).1 = 4) ∧ x3.tys = x.tys ∧ x3.names = x.names := fun e1 e2 => by
     cases hg : p.g with
     | none =>
      rw [hg] at hgr
      simp only [ckG] at hgr
      cases hgr
      exact ⟨fun t h => (by cases h), e1, e2⟩
     | some t =>
      rw [hg] at hgr
      simp only [ckG] at hgr
      split at hgr
      ·cases hgr
      ·rename_i w0
       split at hgr
       ·cases hgr
       ·rename_i w1
        cases hgr
        have hmem : t ∈ trs p := by unfold trs; rw [hg]; simp
        have hl := walkL_last (Classical.byContradiction w0)
        have w1 : (tyT x2.names x2.tys t).1 = 4 := Classical.byContradiction w1
        rw [e1, e2] at w1 hl
        refine ⟨fun t' h => ?_, e1, e2⟩
        cases h
        exact ⟨⟨by rw [hL]; exact (htr _ hmem).1, (hal _ hmem).1, hl.1, (hal _ hmem).2⟩, w1⟩
    have hle : s.k ≠ 3 → l ≠ [] := fun hk e => by
     rw [e] at g2
     exact hk (g2.2 rfl)
    simp only [DecOK]
    cases hcc : p.c with
    | none =>
     rw [hcc] at hc
     simp only [ckC] at hc
     cases hc
     have hk3 : s.k = 3 := by
      have : ¬ 0 ≤ s.c := fun q => by have := hm1.2 q; rw [hcc] at this; cases this
      exact g3.2 (by omega)
     exact ⟨(grant rfl rfl).1, .inl ⟨hk3, rfl⟩⟩
    | some t =>
     rw [hcc] at hc
     have hk3 : s.k ≠ 3 := fun q => by
      have h1 := g3.1 q
      have := hm1.1 (by rw [hcc]; rfl)
      omega
     have hmem : t ∈ trs p := by unfold trs; rw [hcc]; simp
     simp only [ckC] at hc
     split at hc
     ·cases hc
     ·rename_i w0
      have hl := walkL_last (Classical.byContradiction w0)
      have htok : TOK x.names x.tys t := ⟨by rw [hL]; exact (htr _ hmem).1, (hal _ hmem).1, hl.1, (hal _ hmem).2⟩
      split at hc
      ·rename_i hk1
       split at hc
       ·cases hc
       ·cases hc
        have hgn : p.g = none := by
         cases hg : p.g with
         | none => rfl
         | some u =>
          have := hm2.1 (by rw [hg]; rfl)
          have := g4 hk1
          omega
        rw [hgn] at hgr
        simp only [ckG] at hgr
        cases hgr
        refine ⟨fun t h => by (rw [hgn] at h; cases h), .inr (.inl ⟨hk1, t, rfl, htok, ?_⟩)⟩
        exact hnext (hle hk3) (by rw [if_pos hk1]; simp [hL])
      ·rename_i hk1
       split at hc
       ·cases hc
       ·rename_i w1
        cases hc
        obtain ⟨ga, gb, gc⟩ := grant rfl rfl
        have := hnext (hle hk3) (by rw [gb, if_neg hk1]; exact hL)
        rw [gb, gc] at this
        exact ⟨ga, .inr (.inr ⟨by omega, t, rfl, htok, Classical.byContradiction w1, this⟩)⟩
theorem typed_dec {nv : List PN} {sv : List PS} {tyl : List Int} (hf : ∀ p ∈ nv, fits p.z) (hw : wellP nv sv tyl) {acc : List PT} {x : CK} (h : TypedP nv sv tyl acc x) : DecOK (sv.zip acc) [] [] := by
 obtain ⟨⟨p1, p2, p3, p4, p5, _⟩, _⟩ := hw
 obtain ⟨pts, q1, q2, q3, q4, q5⟩ := runS_full leafT_6 leafT_7 sv h.2.1
 rw [a2_] at q1
 subst q1
 have hcon := ists_con (L := 600) hf q3 fun q p _ _ hq => (fieldsT_iff (p4 p (m1_ hq)).1).1 (p4 p (m1_ hq))
 have hne : sv.zip acc ≠ [] := fun e => by
  have := congrArg List.length e
  rw [List.length_zip, q2.1] at this
  simp at this
  rw [this] at p2
  simp at p2
 refine decOK_of (sv.zip acc) ⟨[], [], []⟩ x 0 hne q5 rfl (fun q hq t ht => ?_) h.2.2.1
 have : t ∈ acc.flatMap trs := List.mem_flatMap.2 ⟨q.2, (List.of_mem_zip hq).2, ht⟩
 exact ⟨conOKs_mem hcon this, q4 t this⟩
end Go.Proofs.YtgnjkdkedjljjaaGreatDoor
