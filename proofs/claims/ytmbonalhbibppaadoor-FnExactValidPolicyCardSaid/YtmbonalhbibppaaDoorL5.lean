/- Marks: the laws write a text of its own into each element, and look whether it stays. -/
import Derived.Test.YtmbonalhbibppaaDoorL2
namespace Go.Proofs.YtmbonalhbibppaaDoor
open Go.Eng
/-- The decimal digits of a number; none of 0. -/
def digs : Nat → List UInt8
  | 0 => []
  | n + 1 => digs ((n + 1) / 10) ++ [UInt8.ofNat (48 + (n + 1) % 10)]
termination_by n => n
decreasing_by omega
theorem digs_pos {n : Nat} (h : 0 < n) : digs n = digs (n / 10) ++ [UInt8.ofNat (48 + n % 10)] := by
  obtain ⟨m, rfl⟩ : ∃ m, n = m + 1 := ⟨n - 1, by omega⟩
  rw [digs]
theorem digs_len (n : Nat) (k : Nat) (h : n < 10 ^ k) : (digs n).length ≤ k := by
  induction k generalizing n with
  | zero => have : n = 0 := by omega
            subst this; simp [digs]
  | succ k ih =>
    rcases Nat.eq_zero_or_pos n with h0 | h0
    · subst h0; simp [digs]
    · rw [digs_pos h0]
      have := ih (n / 10) (by rw [Nat.pow_succ] at h; omega)
      simp; omega
/-- The k-th mark. -/
def mkText (k : Int) : ByteArray := if k ≤ 0 then ⟨#[109, 48]⟩ else ⟨#[109]⟩ ++ ⟨(digs k.toNat).toArray⟩
theorem append_size (a b : ByteArray) : (a ++ b).size = a.size + b.size := ByteArray.size_append
theorem mk_append (a b : List UInt8) : (⟨a.toArray⟩ : ByteArray) ++ ⟨b.toArray⟩ = ⟨(a ++ b).toArray⟩ := by
  apply ByteArray.ext; simp
theorem mkText_size (k : Int) (h : k ≤ 9223372036854775807) : (mkText k).size ≤ 100 := by
  unfold mkText
  split
  · decide
  · rw [append_size]
    have := digs_len k.toNat 19 (by omega)
    simp only [ByteArray.size, List.size_toArray, List.length_cons, List.length_nil]
    omega
theorem markText_v (k0 : Int) (w : World) (hk0 : k0 ≤ 9223372036854775807) : VF Tryd.prog 61 [.int .i64 k0] w (.string (mkText k0)) := by
  refine VF.intro (cs := []) Tryd.func61 (by kernel_rfl) fun w hx0 E R hE hr hR => ?_
  clear hx0
  conv => cbv
  refine br (fun h0 => ?_) (fun h0 => ?_)
  · have h0 : k0 ≤ 0 := by simpa [hE.cmp, cmpR] using h0
    conv => cbv
    rw [hR]; exact ⟨by simp only [one, mkText]; rw [if_pos h0], Ext.refl w⟩
  have h0 : 0 < k0 := by simp [hE.cmp, cmpR] at h0; omega
  conv => cbv
  refine loop_rule hr (fun (s : Nat × ByteArray) w' => Ext w w' ∧ ∃ l, s.2 = ⟨l.toArray⟩ ∧ digs s.1 ++ l = digs k0.toNat ∧ s.1 ≤ k0.toNat) (fun s => [(0, .int .i64 (E.nat s.1)), (3, .string s.2)]) (fun s => s.1) (k0.toNat, ⟨#[]⟩)
    (by simp [Fits, lk, hE.nat]; omega) ⟨Ext.refl w, [], rfl, by simp, by simp⟩ ?_
  rintro I hI ⟨k, out⟩ w' ⟨hx, l, hl, hd, hk⟩
  simp only at hl hd hk
  conv => cbv
  refine br (fun h1 => ?_) (fun h1 => ?_)
  · have h1 : 0 < k := by simpa [hE.cmp, cmpR, hE.nat] using h1
    conv => cbv
    refine st_rem hE (by omega) fun r hr' => ?_
    simp only [nk hE] at hr'
    have hr2 : r = ((k % 10 : Nat) : Int) := by rw [hr', Int.tmod_eq_emod_of_nonneg (by omega)]; omega
    conv => cbv
    obtain ⟨y, hy⟩ : ∃ y, y = 48 + r := ⟨_, rfl⟩
    have e1 : E.ar .add .i64 48 r = y := by rw [hE.ar, hy]; exact wrap_in (by omega) (by omega)
    simp only [e1]
    refine st_conv hE ⟨_, uInt⟩ uU8 fun z hz => ?_
    have hz2 : z = ((UInt8.ofNat (48 + k % 10)).toNat : Int) := by
      rw [hz, hy, hr2]; simp [IntKind.wrap, IntKind.signed, IntKind.bits]
    conv => cbv
    refine st_one hr tBytes rfl rfl fun A1 w1 hx1 hc1 => ?_
    conv => cbv
    refine st_b2s hE Tryd.underlying181 uU8 uStr (bs := [UInt8.ofNat (48 + k % 10)]) rfl (by rw [hz2] at hc1; exact hc1) ?_
    obtain ⟨u, hu⟩ : ∃ u : ByteArray, u = ⟨[UInt8.ofNat (48 + k % 10)].toArray⟩ := ⟨_, rfl⟩
    rw [← hu]
    conv => cbv
    have hlen : l.length ≤ 19 := by
      have := digs_len k0.toNat 19 (by omega)
      rw [← hd] at this; simp at this; omega
    refine st_cat hE (by rw [hu, hl]; simp [ByteArray.size]; omega) fun v hv => ?_
    conv => cbv
    refine st_quo hE (by omega) fun q hq => ?_
    simp only [nk hE] at hq
    have hq2 : q = ((k / 10 : Nat) : Int) := by
      rw [hq, Int.tdiv_eq_ediv_of_nonneg (by omega), wrap_in] <;> omega
    conv => cbv
    refine ⟨(k / 10, v), by simp [Fits, lk, hE.nat, hq2], hI _ _ ⟨hx.trans hx1, UInt8.ofNat (48 + k % 10) :: l, ?_, ?_, ?_⟩, by simp only; omega⟩
    · simp only; rw [hv, hu, hl, mk_append]; rfl
    · simp only; rw [← hd, digs_pos h1]; simp
    · simp only; omega
  · have h1 : k = 0 := by simp [hE.cmp, cmpR, hE.nat] at h1; omega
    subst h1
    conv => cbv
    have hlen : l.length ≤ 19 := by
      have := digs_len k0.toNat 19 (by omega)
      rw [← hd] at this; simp at this; omega
    refine st_cat hE (by rw [hl]; simp [ByteArray.size]; omega) fun v hv => ?_
    conv => cbv
    rw [hR]; refine ⟨?_, hx⟩
    simp only [one, mkText]; rw [if_neg (by omega), hv, hl]
    rw [show l = digs k0.toNat by rw [← hd]; simp [digs]]
/-- The n marks from the k-th on. -/
def marks (k : Int) (n : Nat) : List ByteArray := (List.range n).map fun (i : Nat) => mkText (k + i)
theorem marks_len (k : Int) (n : Nat) : (marks k n).length = n := by simp [marks]
theorem marks_get {k : Int} {n i : Nat} (h : i < n) : (marks k n)[i]? = some (mkText (k + i)) := by simp [marks, h]
theorem marks_small {k : Int} {n : Nat} (h : k + n ≤ 9223372036854775807) : ∀ s ∈ marks k n, s.size ≤ 9223372036854775807 := by
  intro s hs
  simp only [marks, List.mem_map, List.mem_range] at hs
  obtain ⟨i, hi, rfl⟩ := hs
  have := mkText_size (k + i) (by omega)
  omega
theorem inc' {E : Sym} (hE : Eng Tryd.prog E) {z : Int} (h0 : -9223372036854775808 ≤ z) (h : z < 9223372036854775807) : E.ar .add .i64 z 1 = z + 1 := by
  rw [hE.ar]; exact wrap_in (by omega) (by omega)
end Go.Proofs.YtmbonalhbibppaaDoor
