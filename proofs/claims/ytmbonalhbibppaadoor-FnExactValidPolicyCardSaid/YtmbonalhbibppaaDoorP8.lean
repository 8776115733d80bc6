/- The reference's l2walk and l2depth walked. -/
import Derived.Test.YtmbonalhbibppaaDoorP7
namespace Go.Proofs.YtmbonalhbibppaaDoor
open Go.Eng
set_option linter.unusedVariables false
set_option linter.unusedSimpArgs false
theorem IsTs.uniqT {ns : List PN} {a b : Nat} {ks : List Int} {ts : List Tr} (h : IsTs ns a b ks ts) : ∀ {a' b' : Nat} {ts' : List Tr}, IsTs ns a' b' ks ts' → ts = ts' := by
  induction h with
  | nil => intro a' b' ts' h; cases h; rfl
  | @cons a b k p ks kids ts hp hk h1 h2 i1 i2 =>
    intro a' b' ts' h
    generalize hq : ((k : Int) :: ks) = kk at h
    cases h with
    | nil => cases hq
    | cons hp' hk' h1' h2' =>
      simp only [List.cons.injEq] at hq
      obtain ⟨e1, e2⟩ := hq
      have e1 : k = _ := Int.ofNat.inj e1
      subst e1; subst e2
      rw [hp] at hp'
      cases hp'
      rw [i1 h1', i2 h2']
theorem IsTs.at {ns : List PN} {a b : Nat} {ks : List Int} {ts : List Tr} (h : IsTs ns a b ks ts) : ∀ {j : Nat} {k : Int}, ks[j]? = some k → ∃ t a' b', ts[j]? = some t ∧ IsTs ns a' b' [k] [t] := by
  induction h with
  | nil => intro j k h; simp at h
  | @cons a b k p ks kids ts hp hk h1 h2 i1 i2 =>
    intro j q hq
    cases j with
    | zero => simp at hq; subst hq; exact ⟨_, a, k + 1, rfl, .cons hp hk h1 (.nil _)⟩
    | succ j => simpa using i2 (by simpa using hq)
theorem IsTs.of_mem {ns : List PN} {a b : Nat} {ks : List Int} {ts : List Tr} (h : IsTs ns a b ks ts) {t : Tr} (ht : t ∈ ts) : ∃ k ∈ ks, ∃ a' b', IsTs ns a' b' [k] [t] := by
  obtain ⟨j, hj⟩ := List.mem_iff_getElem?.1 ht
  have hlt : j < ks.length := by rw [← h.len]; exact (List.getElem?_eq_some_iff.1 hj).1
  obtain ⟨t', a', b', h1, h2⟩ := h.at (List.getElem?_eq_getElem hlt)
  rw [hj] at h1
  cases h1
  exact ⟨_, List.getElem_mem hlt, a', b', h2⟩
theorem IsTs.dep_le {ns : List PN} {a b : Nat} {ks : List Int} {ts : List Tr} (h : IsTs ns a b ks ts) : deps ts ≤ b := by
  induction h with
  | nil => simp [deps]
  | @cons a b k p ks kids ts hp hk h1 h2 i1 i2 =>
    have := h2.le
    rw [deps]
    have : dep (mkT p k kids) ≤ deps kids + 1 := by
      unfold mkT
      split
      · rw [dep_leaf]; omega
      · rw [dep]; omega
    omega
theorem kidsW_pre {g : Int → List Int → List Int} (hg : ∀ k o, o <+: g k o) {top : Int} : ∀ (ks out : List Int), out <+: kidsW g top ks out
  | [], out => List.prefix_append _ _
  | k :: ks, out => by
    rw [kidsW]
    split
    · exact List.prefix_append _ _
    · exact (hg k out).trans (kidsW_pre hg ks _)
theorem pre_len {a b : List Int} (h : a <+: b) : a.length ≤ b.length := h.length_le
/-- A row that has grown: what else there was stands. -/
structure Gro (w : World) (A : Option Addr) (w' : World) (A' : Option Addr) : Prop where
  wr : Wr A w w'
  at_ : blk A' = blk A ∨ ∃ b, blk A' = some b ∧ w.heap.size ≤ b
theorem Gro.refl (w : World) (A : Option Addr) : Gro w A w A := ⟨Wr.refl _ _, .inl rfl⟩
theorem Gro.trans {a b c : World} {A B C : Option Addr} (h : Gro a A b B) (k : Gro b B c C) : Gro a A c C := by
  refine ⟨⟨k.wr.os.trans h.wr.os, k.wr.tape.trans h.wr.tape, k.wr.output.trans h.wr.output, Nat.le_trans h.wr.size k.wr.size, fun i hi hn => ?_⟩, ?_⟩
  · have e1 := h.wr.block i hi hn
    have e2 := k.wr.block i (Nat.lt_of_lt_of_le hi h.wr.size) (by
      rcases h.at_ with e | ⟨b0, e, hb⟩
      · rw [e]; exact hn
      · rw [e]; intro q; cases q; omega)
    rw [e2, e1]
  · rcases k.at_ with e | ⟨b0, e, hb⟩
    · rw [e]; exact h.at_
    · exact .inr ⟨b0, e, Nat.le_trans h.wr.size hb⟩
theorem Gro.ext {a b c : World} {A C : Option Addr} (h : Ext a b) (k : Gro b A c C) : Gro a A c C := Gro.trans ⟨h.wr A, .inl rfl⟩ k
theorem Gro.app {a b c : World} {A C : Option Addr} (h : Ext a b) (hw : Wr A b c) (hk : blk C = blk A ∨ blk C = some b.heap.size) : Gro a A c C :=
  Gro.ext h ⟨hw, hk.imp id fun e => ⟨_, e, Nat.le_refl _⟩⟩
theorem Gro.apart {a c : World} {A C : Option Addr} {x : Addr} {B e k m cc : Nat} {xs : List Value} (h : Gro a A c C) (hx : Own B e k a (some x) m cc xs) (ha : Apart A (some x) ∧ Apart (some x) A) : Apart C (some x) ∧ Apart (some x) C := by
  obtain ⟨gb, rfl, _, hlt⟩ := hx.form
  have hb : blk (some (⟨gb, 0, none⟩ : Addr)) = some gb := rfl
  have key : blk C ≠ some gb := by
    rcases h.at_ with e | ⟨b0, e, hb0⟩
    · rw [e]
      rcases ha.2 with h1 | h1
      · cases h1
      · rw [hb] at h1; exact fun q => h1 q.symm
    · rw [e]; intro q; cases q; omega
  exact ⟨.inr (by rw [hb]; exact key), .inr (by rw [hb]; exact fun q => key q.symm)⟩
set_option maxHeartbeats 2000000 in
theorem l2walk_g {w0 : World} {AN : Option Addr} {N cN : Nat} {nv : List PN} (hN : RNs w0 AN N nv) (hk : ∀ p ∈ nv, p.ks.length ≤ 3) (hNb : N ≤ 4000) : ∀ (f : Nat), f ≤ 4001 → ∀ (top : Int) (w : World) (A : Option Addr) (n c : Nat) (out : List Int), (top < f ∨ (N : Int) ≤ top) → Ext w0 w → Own w0.heap.size 3 1 w A n c (out.map (.int .i64)) → n + f ≤ 60000 →
    GC Tryd.prog 70 [.slice AN N cN, .int .i64 top, .slice A n c] w fun v w' => ∃ A' n' c', v = .slice A' n' c' ∧ Ext w0 w' ∧ Own w0.heap.size 3 1 w' A' n' c' ((walkF nv f top out).map (.int .i64)) ∧ Gro w A w' A' := by
  intro f
  induction f with
  | zero =>
    intro hf top w A n c out htop hx ho hnf
    refine GC.intro (cs := []) Tryd.func70 (by kernel_rfl) fun E R hE hr hR => ?_
    have hol := ho.len
    rw [List.length_map, Nat.mul_one] at hol
    have bad : ∀ w2, w2 = w → E.cmp .eql 0 0 = E.cmp .eql 0 0 := fun _ _ => rfl
    clear bad
    conv => cbv
    refine br (fun g => ?_) (fun g => ?_)
    · conv => cbv
      refine st_one hr tInts rfl rfl fun A1 w1 hx1 hc1 => ?_
      conv => cbv
      refine st_appsG hr tInts rfl (ho.bel hx1) hc1 rfl (by simp [Value.oneCell']) (Nat.le_trans hx.size hx1.size) (by omega) (by omega) fun A2 c2 m2 w2 hm2 hw2 ho2 hk2 => ?_
      conv => cbv
      rw [hR]; exact ⟨A2, m2, c2, rfl, (hx.trans hx1).then (hw2.bel (ho.bel hx1) (Nat.le_trans hx.size hx1.size)), by rw [walkF, List.map_append]; exact ho2, Gro.app hx1 hw2 hk2⟩
    have g : ¬ top < 0 := by simpa [hE.cmp, cmpR] using g
    conv => cbv
    refine st_len hE sINd fun x hx9 => ?_
    conv => cbv
    refine br (fun g2 => ?_) (fun g2 => ?_)
    · conv => cbv
      refine st_one hr tInts rfl rfl fun A1 w1 hx1 hc1 => ?_
      conv => cbv
      refine st_appsG hr tInts rfl (ho.bel hx1) hc1 rfl (by simp [Value.oneCell']) (Nat.le_trans hx.size hx1.size) (by omega) (by omega) fun A2 c2 m2 w2 hm2 hw2 ho2 hk2 => ?_
      conv => cbv
      rw [hR]; exact ⟨A2, m2, c2, rfl, (hx.trans hx1).then (hw2.bel (ho.bel hx1) (Nat.le_trans hx.size hx1.size)), by rw [walkF, List.map_append]; exact ho2, Gro.app hx1 hw2 hk2⟩
    have g2 : ¬ x ≤ top := by simpa [hE.cmp, cmpR] using g2
    exfalso; omega
  | succ f ih =>
    intro hf top w A n c out htop hx ho hnf
    refine GC.intro (cs := []) Tryd.func70 (by kernel_rfl) fun E R hE hr hR => ?_
    have hol := ho.len
    rw [List.length_map, Nat.mul_one] at hol
    have hNl := hN.len
    have hlen := walk_len hk (f + 1) top out
    obtain ⟨V, hV0⟩ : ∃ V, V = walkF nv (f + 1) top out := ⟨_, rfl⟩
    rw [← hV0] at hR hlen
    have hV := hV0
    rw [walkF] at hV
    conv => cbv
    refine br (fun g => ?_) (fun g => ?_)
    · have g : top < 0 := by simpa [hE.cmp, cmpR] using g
      rw [if_pos (.inl g)] at hV
      conv => cbv
      refine st_one hr tInts rfl rfl fun A1 w1 hx1 hc1 => ?_
      conv => cbv
      refine st_appsG hr tInts rfl (ho.bel hx1) hc1 rfl (by simp [Value.oneCell']) (Nat.le_trans hx.size hx1.size) (by omega) (by omega) fun A2 c2 m2 w2 hm2 hw2 ho2 hk2 => ?_
      conv => cbv
      rw [hR]; exact ⟨A2, m2, c2, rfl, (hx.trans hx1).then (hw2.bel (ho.bel hx1) (Nat.le_trans hx.size hx1.size)), by rw [hV, List.map_append]; exact ho2, Gro.app hx1 hw2 hk2⟩
    have g : ¬ top < 0 := by simpa [hE.cmp, cmpR] using g
    conv => cbv
    refine st_len hE sINd fun x hx9 => ?_
    conv => cbv
    refine br (fun g2 => ?_) (fun g2 => ?_)
    · have g2 : x ≤ top := by simpa [hE.cmp, cmpR] using g2
      rw [if_pos (.inr (.inl (by omega)))] at hV
      conv => cbv
      refine st_one hr tInts rfl rfl fun A1 w1 hx1 hc1 => ?_
      conv => cbv
      refine st_appsG hr tInts rfl (ho.bel hx1) hc1 rfl (by simp [Value.oneCell']) (Nat.le_trans hx.size hx1.size) (by omega) (by omega) fun A2 c2 m2 w2 hm2 hw2 ho2 hk2 => ?_
      conv => cbv
      rw [hR]; exact ⟨A2, m2, c2, rfl, (hx.trans hx1).then (hw2.bel (ho.bel hx1) (Nat.le_trans hx.size hx1.size)), by rw [hV, List.map_append]; exact ho2, Gro.app hx1 hw2 hk2⟩
    have g2 : ¬ x ≤ top := by simpa [hE.cmp, cmpR] using g2
    conv => cbv
    refine st_len hE tInts fun x3 hx3 => ?_
    conv => cbv
    refine st_len hE sINd fun x4 hx4 => ?_
    conv => cbv
    refine br (fun g3 => ?_) (fun g3 => ?_)
    · have g3 : x4 < x3 := by simpa [hE.cmp, cmpR] using g3
      rw [if_pos (.inr (.inr (by omega)))] at hV
      conv => cbv
      refine st_one hr tInts rfl rfl fun A1 w1 hx1 hc1 => ?_
      conv => cbv
      refine st_appsG hr tInts rfl (ho.bel hx1) hc1 rfl (by simp [Value.oneCell']) (Nat.le_trans hx.size hx1.size) (by omega) (by omega) fun A2 c2 m2 w2 hm2 hw2 ho2 hk2 => ?_
      conv => cbv
      rw [hR]; exact ⟨A2, m2, c2, rfl, (hx.trans hx1).then (hw2.bel (ho.bel hx1) (Nat.le_trans hx.size hx1.size)), by rw [hV, List.map_append]; exact ho2, Gro.app hx1 hw2 hk2⟩
    have g3 : ¬ x4 < x3 := by simpa [hE.cmp, cmpR] using g3
    rw [if_neg (by omega)] at hV
    obtain ⟨tn, htn⟩ : ∃ tn : Nat, top = tn := ⟨top.toNat, by omega⟩
    obtain ⟨a, v, hA, hg, hc, hok⟩ := hN.get (i := tn) (by omega)
    rw [show top.toNat = tn by omega, hg] at hV
    simp only [Option.map_some, Option.getD_some] at hV
    conv => cbv
    refine st_idx hE sINd hA (by omega) (by omega) fun q hq => ?_
    rw [show top.toNat = tn by omega] at hq
    conv => cbv
    refine st_fld hE fINd4 fun q2 hq2 => ?_
    conv => cbv
    refine st_load hE cInts (v := .slice v.A1 v.m1 v.c1) (by rw [hq2, hq]; exact hx.cell (hc 4 _ rfl)) ?_
    have rk := hok.r_ks
    have hkl := rk.len
    have hk3 := hk _ (List.mem_of_getElem? hg)
    obtain ⟨ks, hks⟩ : ∃ ks, ks = v.p.ks := ⟨_, rfl⟩
    obtain ⟨A5, hA5⟩ : ∃ x, x = v.A1 := ⟨_, rfl⟩
    obtain ⟨m5, hm5⟩ : ∃ x, x = v.m1 := ⟨_, rfl⟩
    obtain ⟨c5, hc5⟩ : ∃ x, x = v.c1 := ⟨_, rfl⟩
    rw [← hks, ← hA5, ← hm5, ← hc5] at rk
    rw [← hks, ← hm5] at hkl
    rw [← hks] at hV hk3
    rw [← hA5, ← hm5, ← hc5]
    conv => cbv
    clear hq hq2 hc hok
    refine st_len hE tInts fun x5 hx5 => ?_
    conv => cbv
    have hle5 := rk.le
    refine loop_rule hr (fun (s : Nat × Int × Option Addr × Nat × Nat × List Int) w' => s.1 ≤ m5 ∧ s.2.1 = (s.1 : Int) ∧ Ext w0 w' ∧ Own w0.heap.size 3 1 w' s.2.2.1 s.2.2.2.1 s.2.2.2.2.1 (s.2.2.2.2.2.map (.int .i64)) ∧ kidsW (walkF nv f) top (ks.drop s.1) s.2.2.2.2.2 = V ∧ Gro w A w' s.2.2.1)
      (fun s => [(0, .slice AN N cN), (1, .int .i64 top), (2, .slice s.2.2.1 s.2.2.2.1 s.2.2.2.2.1), (31, .slice A5 m5 c5), (32, .int .i64 x5), (33, .int .i64 s.2.1)]) (fun s => m5 - s.1) (0, 0, A, n, c, out)
      (by simp [Fits, lk]) ⟨by simp, by simp, hx, ho, by simpa using hV.symm, Gro.refl _ _⟩ ?_
    clear hx ho
    rintro I hI ⟨j, jj, A', n', c', out'⟩ w' ⟨hj, hjj, hx, ho, hKV, hG⟩
    simp only at hj hjj ho hKV hG
    have hol' := ho.len
    rw [List.length_map, Nat.mul_one] at hol'
    have hpl : n' ≤ V.length := by rw [← hol', ← hKV]; exact pre_len (kidsW_pre (walk_pre nv f) _ _)
    have hn' : n' + f ≤ 60000 := by omega
    obtain ⟨jk, hjk⟩ : ∃ z, z = jj + 1 := ⟨_, rfl⟩
    conv => cbv
    refine br (fun g4 => ?_) (fun g4 => ?_)
    · have g4 : j < m5 := by
        have : jj < x5 := by simpa [hE.cmp, cmpR] using g4
        omega
      have ej : E.ar .add .i64 jj 1 = jk := by rw [hE.ar, hjk]; exact wrap_in (by omega) (by omega)
      conv => cbv
      refine st_int hE tInts (rk.ext hx) (k := j) (by omega) g4 fun p u hu hp => ?_
      have hdr : ks.drop j = u :: ks.drop (j + 1) := by
        obtain ⟨z1, z2⟩ := List.getElem?_eq_some_iff.1 hu
        rw [List.drop_eq_getElem_cons z1, z2]
      rw [hdr, kidsW] at hKV
      conv => cbv
      refine st_load hE cInt hp ?_
      conv => cbv
      refine br (fun g5 => ?_) (fun g5 => ?_)
      · have g5 : top ≤ u := by simpa [hE.cmp, cmpR] using g5
        rw [if_pos g5] at hKV
        conv => cbv
        refine st_one hr tInts rfl rfl fun A1 w1 hx1 hc1 => ?_
        conv => cbv
        refine st_appsG hr tInts rfl (ho.bel hx1) hc1 rfl (by simp [Value.oneCell']) (Nat.le_trans hx.size hx1.size) (by omega) (by omega) fun A2 c2 m2 w2 hm2 hw2 ho2 hk2 => ?_
        conv => cbv
        rw [hR]; exact ⟨A2, m2, c2, rfl, (hx.trans hx1).then (hw2.bel (ho.bel hx1) (Nat.le_trans hx.size hx1.size)), by rw [← hKV, List.map_append]; exact ho2, hG.trans (Gro.app hx1 hw2 hk2)⟩
      · have g5 : ¬ top ≤ u := by simpa [hE.cmp, cmpR] using g5
        rw [if_neg g5] at hKV
        conv => cbv
        refine st_g hr (ih (by omega) u w' A' n' c' out' (.inl (by omega)) hx ho hn') fun r w2 ⟨A2, n2, c2, ev, hx2, ho2, hG2⟩ => ?_
        subst ev
        conv => cbv
        simp only [ej]
        exact ⟨(j + 1, jk, A2, n2, c2, walkF nv f u out'), by simp [Fits, lk], hI _ _ ⟨by simp only; omega, by simp only; omega, hx2, ho2, hKV, hG.trans hG2⟩, by simp only; omega⟩
    · have g4 : j = m5 := by
        have : ¬ jj < x5 := by simpa [hE.cmp, cmpR] using g4
        omega
      rw [List.drop_of_length_le (by omega), kidsW] at hKV
      conv => cbv
      refine st_one hr tInts rfl rfl fun A1 w1 hx1 hc1 => ?_
      conv => cbv
      refine st_appsG hr tInts rfl (ho.bel hx1) hc1 rfl (by simp [Value.oneCell']) (Nat.le_trans hx.size hx1.size) (by omega) (by omega) fun A2 c2 m2 w2 hm2 hw2 ho2 hk2 => ?_
      conv => cbv
      rw [hR]; exact ⟨A2, m2, c2, rfl, (hx.trans hx1).then (hw2.bel (ho.bel hx1) (Nat.le_trans hx.size hx1.size)), by rw [← hKV, List.map_append]; exact ho2, hG.trans (Gro.app hx1 hw2 hk2)⟩
/-- The depth of the tree with this top. -/
theorem l2depth_q {w : World} {AN : Option Addr} {N cN : Nat} {nv : List PN} (hN : RNs w AN N nv) (hNb : N ≤ 4000) : ∀ (k : Nat) (a b : Nat) (t : Tr), IsTs nv a b [(k : Int)] [t] → QF Tryd.prog 71 [.slice AN N cN, .int .i64 (k : Int)] w (.int .i64 (dep t : Int)) := by
  intro k
  induction k using Nat.strongRecOn with
  | _ k ih =>
    intro a b t ht
    refine QF.intro (cs := []) Tryd.func71 (by kernel_rfl) fun w0 hx0 w1 hs E R hE hr hR => ?_
    have hNl := hN.len
    have hdt : dep t ≤ 4000 := by
      have h1 := ht.dep_le
      have h2 := ht.bound (by have := (ht.roots k (by simp)).1; have := (ht.roots k (by simp)).2; omega)
      rw [deps] at h1; omega
    obtain ⟨kn, p, kids, e1, e2, hp, hk, hks, et⟩ := ht.one
    have e1 : k = kn := by omega
    subst e1
    have et : t = mkT p k kids := by simpa using et
    have hkn := (List.getElem?_eq_some_iff.1 hp).1
    obtain ⟨ad, v, hA, hg, hc, hok⟩ := hN.get (i := k) (by omega)
    rw [hp] at hg
    have hpv : p = v.p := Option.some.inj hg
    subst hpv
    have hx1 : Ext w w1 := hx0.trans hs.ext
    obtain ⟨kk, hkk⟩ : ∃ kk : Int, kk = k := ⟨_, rfl⟩
    rw [← hkk]
    obtain ⟨D, hD⟩ : ∃ D : Int, D = dep t := ⟨_, rfl⟩
    rw [← hD] at hR
    conv => cbv
    refine st_idx hE sINd hA (by omega) (by omega) fun q hq => ?_
    rw [show kk.toNat = k by omega] at hq
    conv => cbv
    refine st_fld hE fINd4 fun q2 hq2 => ?_
    conv => cbv
    refine st_load hE cInts (v := .slice v.A1 v.m1 v.c1) (by rw [hq2, hq]; exact hx1.cell (hc 4 _ rfl)) ?_
    have rk := hok.r_ks
    have hkl := rk.len
    have hlen := hks.len
    have hdk : dep t = deps kids + 1 ∨ (kids = [] ∧ dep t = 1) := by
      rw [et, mkT]
      split
      · rw [dep_leaf]; exact .inr ⟨List.eq_nil_of_length_eq_zero (by omega), rfl⟩
      · exact .inl (by rw [dep])
    obtain ⟨ks, hks0⟩ : ∃ ks, ks = v.p.ks := ⟨_, rfl⟩
    obtain ⟨A5, hA5⟩ : ∃ x, x = v.A1 := ⟨_, rfl⟩
    obtain ⟨m5, hm5⟩ : ∃ x, x = v.m1 := ⟨_, rfl⟩
    obtain ⟨c5, hc5⟩ : ∃ x, x = v.c1 := ⟨_, rfl⟩
    rw [← hks0, ← hA5, ← hm5, ← hc5] at rk
    rw [← hks0, ← hm5] at hkl
    rw [← hks0] at hks hlen
    rw [← hA5, ← hm5, ← hc5]
    conv => cbv
    clear hq hq2 hc hok
    refine st_len hE tInts fun x5 hx5 => ?_
    conv => cbv
    have hle5 := rk.le
    refine loop_rule hr (fun (s : Nat × Int × Int) w' => s.1 ≤ m5 ∧ s.2.1 = (s.1 : Int) ∧ Same w0 w' ∧ s.2.2 = (deps (kids.take s.1) : Int))
      (fun s => [(0, .slice AN N cN), (1, .int .i64 kk), (5, .int .i64 s.2.2), (13, .slice A5 m5 c5), (14, .int .i64 x5), (15, .int .i64 s.2.1)]) (fun s => m5 - s.1) (0, 0, 0)
      (by simp [Fits, lk]) ⟨by simp, by simp, hs, by simp [deps]⟩ ?_
    rintro I hI ⟨j, jj, d⟩ w' ⟨hj, hjj, hs', hd⟩
    simp only at hj hjj hd
    have hxw : Ext w w' := hx0.trans hs'.ext
    obtain ⟨jk, hjk⟩ : ∃ z, z = jj + 1 := ⟨_, rfl⟩
    have take1 : ∀ (u : Int) (t' : Tr), kids[j]? = some t' → deps (kids.take (j + 1)) = max (deps (kids.take j)) (dep t') := by
      intro u t' h
      rw [List.take_add_one, h]
      have : ∀ l : List Tr, deps (l ++ [t']) = max (deps l) (dep t') := by
        intro l
        induction l with
        | nil => simp [deps]
        | cons x l ih => rw [List.cons_append, deps, ih, deps]; omega
      exact this _
    have dle : deps (kids.take j) ≤ deps kids := deps_le fun t ht => deps_mem (List.mem_of_mem_take ht)
    conv => cbv
    refine br (fun g4 => ?_) (fun g4 => ?_)
    · have g4 : j < m5 := by
        have : jj < x5 := by simpa [hE.cmp, cmpR] using g4
        omega
      have ej : E.ar .add .i64 jj 1 = jk := by rw [hE.ar, hjk]; exact wrap_in (by omega) (by omega)
      conv => cbv
      refine st_int hE tInts (rk.ext hxw) (k := j) (by omega) g4 fun p u hu hp => ?_
      obtain ⟨t', a', b', ht1, ht2⟩ := hks.at hu
      obtain ⟨un, hun⟩ : ∃ un : Nat, u = un := ⟨u.toNat, by have := (hks.roots u (List.mem_of_getElem? hu)).1; omega⟩
      have hult : un < k := by have := (hks.roots u (List.mem_of_getElem? hu)).2; omega
      conv => cbv
      refine st_load hE cInt hp ?_
      conv => cbv
      have hc := ih un hult a' b' t' (by rw [← hun]; exact ht2)
      rw [← hun] at hc
      have hcx : QF Tryd.prog 71 [.slice AN N cN, .int .i64 u] w' (.int .i64 (dep t' : Int)) := ⟨hc.1, fun w2 h2 => hc.2 w2 (hxw.trans h2)⟩
      refine st_qi hE hcx fun e he w2 hs2 => ?_
      conv => cbv
      refine br (fun g5 => ?_) (fun g5 => ?_)
      · have g5 : d < e := by simpa [hE.cmp, cmpR] using g5
        conv => cbv
        simp only [ej]
        exact ⟨(j + 1, jk, e), by simp [Fits, lk], hI _ _ ⟨by simp only; omega, by simp only; omega, hs'.trans hs2, by simp only; rw [take1 u t' ht1]; omega⟩, by simp only; omega⟩
      · have g5 : ¬ d < e := by simpa [hE.cmp, cmpR] using g5
        conv => cbv
        simp only [ej]
        exact ⟨(j + 1, jk, d), by simp [Fits, lk], hI _ _ ⟨by simp only; omega, by simp only; omega, hs'.trans hs2, by simp only; rw [take1 u t' ht1]; omega⟩, by simp only; omega⟩
    · have g4 : j = m5 := by
        have : ¬ jj < x5 := by simpa [hE.cmp, cmpR] using g4
        omega
      rw [List.take_of_length_le (by omega)] at hd
      have hD2 : D = d + 1 := by
        rcases hdk with h1 | ⟨h1, h2⟩
        · omega
        · rw [h1] at hd; simp [deps] at hd; omega
      have ed : E.ar .add .i64 d 1 = D := by rw [hE.ar, hD2]; exact wrap_in (by omega) (by omega)
      conv => cbv
      simp only [ed]
      rw [hR]; exact ⟨rfl, hs'⟩
end Go.Proofs.YtmbonalhbibppaaDoor
