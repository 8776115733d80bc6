/- Marks: the laws write a text of its own into each element, and look whether it stays. -/
import Derived.Test.YtjaejonnbhdddaaDoorL2
namespace Go.Proofs.YtjaejonnbhdddaaDoor
open Go.Eng
/-- The decimal digits of a number; none of 0. -/
def digs : Nat → List UInt8
  | 0 => []
  | n + 1 => digs ((n + 1) / 10) ++ [UInt8.ofNat (48 + (n + 1) % 10)]
termination_by n => n
decreasing_by omega
theorem digs_pos {n : Nat} (h : 0 < n) : digs n = digs (n / 10) ++ [UInt8.ofNat (48 + n % 10)] := by
  obtain ⟨m, rfl⟩ : ∃ m, n = m + 1 := ⟨n - 1, by omega⟩
  rw [digs]
theorem digs_len (n : Nat) (k : Nat) (h : n < 10 ^ k) : (digs n).length ≤ k := by
  induction k generalizing n with
  | zero => have : n = 0 := by omega
            subst this; simp [digs]
  | succ k ih =>
    rcases Nat.eq_zero_or_pos n with h0 | h0
    · subst h0; simp [digs]
    · rw [digs_pos h0]
      have := ih (n / 10) (by rw [Nat.pow_succ] at h; omega)
      simp; omega
/-- The k-th mark. -/
def mkText (k : Int) : ByteArray := if k ≤ 0 then ⟨#[109, 48]⟩ else ⟨#[109]⟩ ++ ⟨(digs k.toNat).toArray⟩
theorem append_size (a b : ByteArray) : (a ++ b).size = a.size + b.size := ByteArray.size_append
theorem mk_append (a b : List UInt8) : (⟨a.toArray⟩ : ByteArray) ++ ⟨b.toArray⟩ = ⟨(a ++ b).toArray⟩ := by
  apply ByteArray.ext; simp
theorem mkText_size (k : Int) (h : k ≤ 9223372036854775807) : (mkText k).size ≤ 100 := by
  unfold mkText
  split
  · decide
  · rw [append_size]
    have := digs_len k.toNat 19 (by omega)
    simp only [ByteArray.size, List.size_toArray, List.length_cons, List.length_nil]
    omega
theorem markText_v (k0 : Int) (w : World) (hk0 : k0 ≤ 9223372036854775807) : VF Tryd.prog 40 [.int .i64 k0] w (.string (mkText k0)) := by
  refine VF.intro (cs := []) Tryd.func40 (by kernel_rfl) fun w hx0 E R hE hr hR => ?_
  clear hx0
  conv => cbv
  refine br (fun h0 => ?_) (fun h0 => ?_)
  · have h0 : k0 ≤ 0 := by simpa [hE.cmp, cmpR] using h0
    conv => cbv
    rw [hR]; exact ⟨by simp only [one, mkText]; rw [if_pos h0], Ext.refl w⟩
  have h0 : 0 < k0 := by simp [hE.cmp, cmpR] at h0; omega
  conv => cbv
  refine loop_rule hr (fun (s : Nat × ByteArray) w' => Ext w w' ∧ ∃ l, s.2 = ⟨l.toArray⟩ ∧ digs s.1 ++ l = digs k0.toNat ∧ s.1 ≤ k0.toNat) (fun s => [(0, .int .i64 (E.nat s.1)), (3, .string s.2)]) (fun s => s.1) (k0.toNat, ⟨#[]⟩)
    (by simp [Fits, lk, hE.nat]; omega) ⟨Ext.refl w, [], rfl, by simp, by simp⟩ ?_
  rintro I hI ⟨k, out⟩ w' ⟨hx, l, hl, hd, hk⟩
  simp only at hl hd hk
  conv => cbv
  refine br (fun h1 => ?_) (fun h1 => ?_)
  · have h1 : 0 < k := by simpa [hE.cmp, cmpR, hE.nat] using h1
    conv => cbv
    refine st_rem hE (by omega) fun r hr' => ?_
    simp only [nk hE] at hr'
    have hr2 : r = ((k % 10 : Nat) : Int) := by rw [hr', Int.tmod_eq_emod_of_nonneg (by omega)]; omega
    conv => cbv
    obtain ⟨y, hy⟩ : ∃ y, y = 48 + r := ⟨_, rfl⟩
    have e1 : E.ar .add .i64 48 r = y := by rw [hE.ar, hy]; exact wrap_in (by omega) (by omega)
    simp only [e1]
    refine st_conv hE ⟨_, uInt⟩ uU8 fun z hz => ?_
    have hz2 : z = ((UInt8.ofNat (48 + k % 10)).toNat : Int) := by
      rw [hz, hy, hr2]; simp [IntKind.wrap, IntKind.signed, IntKind.bits]
    conv => cbv
    refine st_one hr tBytes rfl rfl fun A1 w1 hx1 hc1 => ?_
    conv => cbv
    refine st_b2s hE Tryd.underlying22 uU8 uStr (bs := [UInt8.ofNat (48 + k % 10)]) rfl (by rw [hz2] at hc1; exact hc1) ?_
    obtain ⟨u, hu⟩ : ∃ u : ByteArray, u = ⟨[UInt8.ofNat (48 + k % 10)].toArray⟩ := ⟨_, rfl⟩
    rw [← hu]
    conv => cbv
    have hlen : l.length ≤ 19 := by
      have := digs_len k0.toNat 19 (by omega)
      rw [← hd] at this; simp at this; omega
    refine st_cat hE (by rw [hu, hl]; simp [ByteArray.size]; omega) fun v hv => ?_
    conv => cbv
    refine st_quo hE (by omega) fun q hq => ?_
    simp only [nk hE] at hq
    have hq2 : q = ((k / 10 : Nat) : Int) := by
      rw [hq, Int.tdiv_eq_ediv_of_nonneg (by omega), wrap_in] <;> omega
    conv => cbv
    refine ⟨(k / 10, v), by simp [Fits, lk, hE.nat, hq2], hI _ _ ⟨hx.trans hx1, UInt8.ofNat (48 + k % 10) :: l, ?_, ?_, ?_⟩, by simp only; omega⟩
    · simp only; rw [hv, hu, hl, mk_append]; rfl
    · simp only; rw [← hd, digs_pos h1]; simp
    · simp only; omega
  · have h1 : k = 0 := by simp [hE.cmp, cmpR, hE.nat] at h1; omega
    subst h1
    conv => cbv
    have hlen : l.length ≤ 19 := by
      have := digs_len k0.toNat 19 (by omega)
      rw [← hd] at this; simp at this; omega
    refine st_cat hE (by rw [hl]; simp [ByteArray.size]; omega) fun v hv => ?_
    conv => cbv
    rw [hR]; refine ⟨?_, hx⟩
    simp only [one, mkText]; rw [if_neg (by omega), hv, hl]
    rw [show l = digs k0.toNat by rw [← hd]; simp [digs]]
/-- The n marks from the k-th on. -/
def marks (k : Int) (n : Nat) : List ByteArray := (List.range n).map fun (i : Nat) => mkText (k + i)
theorem marks_len (k : Int) (n : Nat) : (marks k n).length = n := by simp [marks]
theorem marks_get {k : Int} {n i : Nat} (h : i < n) : (marks k n)[i]? = some (mkText (k + i)) := by simp [marks, h]
theorem marks_small {k : Int} {n : Nat} (h : k + n ≤ 9223372036854775807) : ∀ s ∈ marks k n, s.size ≤ 9223372036854775807 := by
  intro s hs
  simp only [marks, List.mem_map, List.mem_range] at hs
  obtain ⟨i, hi, rfl⟩ := hs
  have := mkText_size (k + i) (by omega)
  omega
theorem inc' {E : Sym} (hE : Eng Tryd.prog E) {z : Int} (h0 : -9223372036854775808 ≤ z) (h : z < 9223372036854775807) : E.ar .add .i64 z 1 = z + 1 := by
  rw [hE.ar]; exact wrap_in (by omega) (by omega)
theorem markStringS_g {w : World} {B : Nat} {A : Option Addr} {n c : Nat} {xs : List ByteArray} (h : Own B 9 1 w A n c (xs.map .string)) (k : Int) (hk : 0 ≤ k) (hkn : k + n < 9223372036854775807) :
    GC Tryd.prog 53 [.slice A n c, .int .i64 k] w fun v w' => v = .int .i64 (k + n) ∧ Own B 9 1 w' A n c ((marks k n).map .string) ∧ Wr A w w' := by
  refine GC.intro (cs := []) Tryd.func53 (by kernel_rfl) fun E R hE hr hR => ?_
  have hl := h.len
  rw [List.length_map, Nat.mul_one] at hl
  conv => cbv
  refine loop_rule hr (fun (s : Nat × Int) w' => s.1 ≤ n ∧ s.2 = k + s.1 ∧ Wr A w w' ∧ Own B 9 1 w' A n c ((marks k s.1 ++ xs.drop s.1).map .string)) (fun s => [(0, .slice A n c), (1, .int .i64 s.2), (5, .int .i64 (E.nat s.1))]) (fun s => n - s.1) (0, k)
    (by simp [Fits, lk, hE.nat]) ⟨by simp, by simp, Wr.refl _ _, by simpa [marks] using h⟩ ?_
  rintro I hI ⟨i, z⟩ w' ⟨hi, hz, hw, ho⟩
  simp only at hi hz ho
  conv => cbv
  refine st_len hE tStrs fun x hx => ?_
  conv => cbv
  refine br (fun h1 => ?_) (fun h1 => ?_)
  · have h1 : i < n := by simpa [hE.cmp, cmpR, hE.nat, hx] using h1
    conv => cbv
    obtain ⟨u, hu⟩ : ∃ u, u = mkText z := ⟨_, rfl⟩
    refine st_v hr (v := .string u) (by rw [hu]; exact markText_v z _ (by omega)) fun w2 hx2 => ?_
    have hw := hw.trans (hx2.wr A)
    have ho := ho.bel hx2
    conv => cbv
    obtain ⟨g, hg, _⟩ := ho.addr (by omega)
    refine st_idx hE tStrs hg (by simp [hE.nat]) (by simp [hE.nat, h1]) fun q hq => ?_
    conv => cbv
    refine st_set hr tStrs ho hg h1 (by simpa [hE.nat] using hq) rfl fun w3 _ hw3 ho3 => ?_
    have hw := hw.trans hw3
    obtain ⟨z', hz'⟩ : ∃ z', z' = z + 1 := ⟨_, rfl⟩
    have e1 : E.ar .add .i64 z 1 = z' := by rw [hz']; exact inc' hE (by omega) (by omega)
    conv => cbv
    refine ⟨(i + 1, z'), by simp [Fits, lk, inc hE (show i < 9223372036854775807 by omega), e1], hI _ _ ⟨by simp only; omega, by simp only; omega, hw, ?_⟩, by simp only; omega⟩
    have e : (marks k (i + 1) ++ xs.drop (i + 1)).map Value.string = ((marks k i ++ xs.drop i).map Value.string).set i (.string u) := by
      rw [← List.map_set, List.set_append_right _ _ (by rw [marks_len]; omega), marks_len, Nat.sub_self, List.drop_eq_getElem_cons (show i < xs.length by omega)]
      simp only [List.set_cons_zero, marks, List.range_succ, List.map_append, List.map_cons, List.map_nil, List.append_assoc, List.cons_append, List.nil_append]
      rw [hu, hz]
    simp only; rw [e]; exact ho3
  · have h1 : i = n := by simp [hE.cmp, cmpR, hE.nat, hx] at h1; omega
    subst h1
    rw [List.drop_of_length_le (by omega), List.append_nil] at ho
    conv => cbv
    rw [hR]; exact ⟨by rw [hz]; rfl, ho, hw⟩
theorem heldStringS_v {w : World} {A : Option Addr} {n c : Nat} {k : Int} (h : Strs w A n c (marks k n)) (hk : 0 ≤ k) (hkn : k + n < 9223372036854775807) :
    VF Tryd.prog 54 [.slice A n c, .int .i64 k] w (.int .i64 (k + n)) := by
  refine VF.intro (cs := []) Tryd.func54 (by kernel_rfl) fun w hx0 E R hE hr hR => ?_
  have h := h.ext hx0
  clear hx0
  conv => cbv
  refine loop_rule hr (fun (s : Nat × Int) w' => s.1 ≤ n ∧ s.2 = k + s.1 ∧ Ext w w') (fun s => [(0, .slice A n c), (1, .int .i64 s.2), (5, .int .i64 (E.nat s.1))]) (fun s => n - s.1) (0, k)
    (by simp [Fits, lk, hE.nat]) ⟨by simp, by simp, Ext.refl _⟩ ?_
  rintro I hI ⟨i, z⟩ w' ⟨hi, hz, hx⟩
  simp only at hi hz
  conv => cbv
  refine st_len hE tStrs fun x hxl => ?_
  conv => cbv
  refine br (fun h1 => ?_) (fun h1 => ?_)
  · have h1 : i < n := by simpa [hE.cmp, cmpR, hE.nat, hxl] using h1
    obtain ⟨u, hu⟩ : ∃ u, u = mkText z := ⟨_, rfl⟩
    conv => cbv
    refine draw_x hr fol (by kernel_rfl) fun E' hE' hX => ?_
    conv => cbv
    refine st_str hE' tStrs (h.ext hx) (nk hE i) h1 fun p s gk hsm hp => ?_
    rw [marks_get h1, ← hz, ← hu] at gk
    cases gk
    conv => cbv
    refine st_load hE' cStr hp ?_
    conv => cbv
    refine st_vx hX (v := .string u) (by rw [hu]; exact markText_v z _ (by omega)) ?_
    conv => cbv
    intro w2 hx2
    have hx := hx.trans hx2
    conv => cbv
    have hne : ¬ E'.scmp .neq u u = true := by rw [hE'.scmp, scmp_neq]; simp
    refine br (fun h2 => absurd h2 hne) (fun _ => ?_)
    obtain ⟨z', hz'⟩ : ∃ z', z' = z + 1 := ⟨_, rfl⟩
    have e1 : E.ar .add .i64 z 1 = z' := by rw [hz']; exact inc' hE (by omega) (by omega)
    conv => cbv
    exact ⟨(i + 1, z'), by simp [Fits, lk, inc hE (show i < 9223372036854775807 by omega), e1], hI _ _ ⟨by simp only; omega, by simp only; omega, hx⟩, by simp only; omega⟩
  · have h1 : i = n := by simp [hE.cmp, cmpR, hE.nat, hxl] at h1; omega
    subst h1
    conv => cbv
    rw [hR]; exact ⟨by rw [hz]; rfl, hx⟩
end Go.Proofs.YtjaejonnbhdddaaDoor
