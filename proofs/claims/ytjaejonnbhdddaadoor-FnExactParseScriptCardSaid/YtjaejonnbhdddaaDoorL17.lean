/- Decimal numerals and lists joined by commas, as the reference writes them. -/
import Derived.Test.YtjaejonnbhdddaaDoorL5
import Derived.Test.YtjaejonnbhdddaaDoorEng6
import Derived.Lib.ItoaNum
import Derived.Lib.Join
namespace Go.Proofs.YtjaejonnbhdddaaDoor
open Go.Eng
set_option linter.unusedVariables false
/-- A number's numeral. -/
def decS (n : Int) : ByteArray := ⟨(Lib.itoa n).toArray⟩
theorem decD_len : ∀ (k u : Nat), u < 10 ^ (k + 1) → (Lib.decDigits u).length ≤ k + 1
  | 0, u, h => by rw [Lib.decDigits, dif_pos (by omega)]; simp
  | k + 1, u, h => by
    rw [Lib.decDigits]
    split
    · simp
    · have := decD_len k (u / 10) (by rw [Nat.pow_succ] at h; omega)
      simp; omega
theorem itoa_len {n : Int} (h : fits n) : (Lib.itoa n).length ≤ 20 := by
  unfold fits at h; unfold Lib.itoa
  split
  · have := decD_len 18 n.natAbs (by omega); simp; omega
  · have := decD_len 18 n.toNat (by omega); omega
theorem decS_size {n : Int} (h : fits n) : (decS n).size ≤ 20 := by
  have := itoa_len h; simpa [decS, ByteArray.size] using this
theorem decS_small {n : Int} (h0 : 0 ≤ n) (h : n < 10) : decS n = ⟨[UInt8.ofNat (48 + n.toNat)].toArray⟩ := by
  unfold decS Lib.itoa; rw [if_neg (by omega), Lib.decDigits, dif_pos (by omega)]
theorem decS_step {n : Int} (h : 10 ≤ n) : decS n = decS (n / 10) ++ decS (n % 10) := by
  rw [decS_small (n := n % 10) (by omega) (by omega)]
  have e : Lib.itoa n = Lib.itoa (n / 10) ++ [UInt8.ofNat (48 + (n % 10).toNat)] := by
    unfold Lib.itoa
    rw [if_neg (by omega), if_neg (by omega), Lib.decDigits, dif_neg (by omega), show (n / 10).toNat = n.toNat / 10 by omega, show (n % 10).toNat = n.toNat % 10 by omega]
  unfold decS
  rw [e, mk_append]
theorem decS_neg {n : Int} (h : n < 0) : decS n = ⟨#[45]⟩ ++ decS (-n) := by
  have e : Lib.itoa n = [45] ++ Lib.itoa (-n) := by
    unfold Lib.itoa
    rw [if_pos h, if_neg (by omega), show (-n).toNat = n.natAbs by omega]; rfl
  unfold decS
  rw [e, ← mk_append]
theorem dec_pos (m : Nat) : ∀ (n : Int), 0 ≤ n → n.toNat ≤ m → n ≤ 9223372036854775807 → ∀ w : World, VF Tryd.prog 118 [.int .i64 n] w (.string (decS n)) := by
  induction m with
  | zero =>
    intro n h0 hm hb w
    refine VF.intro (cs := []) Tryd.func118 (by kernel_rfl) fun w hx0 E R hE hr hR => ?_
    clear hx0
    conv => cbv
    refine br (fun g => absurd g (by simp [hE.cmp, cmpR]; omega)) (fun _ => ?_)
    conv => cbv
    refine br (fun g => ?_) (fun g => absurd (by simp [hE.cmp, cmpR]; omega) g)
    have hn10 : n < 10 := by omega
    obtain ⟨y, hy⟩ : ∃ y, y = 48 + n := ⟨_, rfl⟩
    have e1 : E.ar .add .i64 48 n = y := by rw [hE.ar, hy]; exact wrap_in (by omega) (by omega)
    conv => cbv
    simp only [e1]
    refine st_conv hE ⟨_, Tryd.underlying2⟩ uU8 fun z hz => ?_
    have hz2 : z = ((UInt8.ofNat (48 + n.toNat)).toNat : Int) := by
      rw [hz, hy]; simp [IntKind.wrap, IntKind.signed, IntKind.bits]; omega
    conv => cbv
    refine st_one hr tBytes rfl rfl fun A1 w1 hx1 hc1 => ?_
    conv => cbv
    refine st_b2s hE Tryd.underlying22 uU8 uStr (bs := [UInt8.ofNat (48 + n.toNat)]) rfl (by rw [hz2] at hc1; exact hc1) ?_
    obtain ⟨u, hu⟩ : ∃ u : ByteArray, u = ⟨[UInt8.ofNat (48 + n.toNat)].toArray⟩ := ⟨_, rfl⟩
    rw [← hu]
    conv => cbv
    rw [hR]; exact ⟨by rw [decS_small h0 hn10, ← hu]; rfl, hx1⟩
  | succ m ih =>
    intro n h0 hm hb w
    refine VF.intro (cs := []) Tryd.func118 (by kernel_rfl) fun w hx0 E R hE hr hR => ?_
    clear hx0
    conv => cbv
    refine br (fun g => absurd g (by simp [hE.cmp, cmpR]; omega)) (fun _ => ?_)
    conv => cbv
    refine br (fun g => ?_) (fun g => ?_)
    · have g : n < 10 := by simpa [hE.cmp, cmpR] using g
      have hn10 : n < 10 := by omega
      obtain ⟨y, hy⟩ : ∃ y, y = 48 + n := ⟨_, rfl⟩
      have e1 : E.ar .add .i64 48 n = y := by rw [hE.ar, hy]; exact wrap_in (by omega) (by omega)
      conv => cbv
      simp only [e1]
      refine st_conv hE ⟨_, Tryd.underlying2⟩ uU8 fun z hz => ?_
      have hz2 : z = ((UInt8.ofNat (48 + n.toNat)).toNat : Int) := by
        rw [hz, hy]; simp [IntKind.wrap, IntKind.signed, IntKind.bits]; omega
      conv => cbv
      refine st_one hr tBytes rfl rfl fun A1 w1 hx1 hc1 => ?_
      conv => cbv
      refine st_b2s hE Tryd.underlying22 uU8 uStr (bs := [UInt8.ofNat (48 + n.toNat)]) rfl (by rw [hz2] at hc1; exact hc1) ?_
      obtain ⟨u, hu⟩ : ∃ u : ByteArray, u = ⟨[UInt8.ofNat (48 + n.toNat)].toArray⟩ := ⟨_, rfl⟩
      rw [← hu]
      conv => cbv
      rw [hR]; exact ⟨by rw [decS_small h0 hn10, ← hu]; rfl, hx1⟩
    · have g : 10 ≤ n := by simp [hE.cmp, cmpR] at g; omega
      conv => cbv
      refine st_quo hE (by decide) fun q hq => ?_
      have hq : q = n / 10 := by rw [hq, Int.tdiv_eq_ediv_of_nonneg h0]; exact wrap_in (by omega) (by omega)
      conv => cbv
      obtain ⟨u, hu⟩ : ∃ u, u = decS q := ⟨_, rfl⟩
      refine st_v hr (v := .string u) (by rw [hu]; exact ih q (by omega) (by omega) (by omega) _) fun w1 hx1 => ?_
      conv => cbv
      refine st_rem hE (by decide) fun r hr' => ?_
      have hr' : r = n % 10 := by rw [hr', Int.tmod_eq_emod_of_nonneg h0]
      conv => cbv
      obtain ⟨u', hu'⟩ : ∃ u, u = decS r := ⟨_, rfl⟩
      refine st_v hr (v := .string u') (by rw [hu']; exact ih r (by omega) (by omega) (by omega) _) fun w2 hx2 => ?_
      conv => cbv
      have s1 : (decS q).size ≤ 20 := decS_size (by unfold fits; omega)
      have s2 : (decS r).size ≤ 20 := decS_size (by unfold fits; omega)
      refine st_cat hE (by rw [hu, hu']; omega) fun v hv => ?_
      conv => cbv
      rw [hR]; exact ⟨by rw [decS_step g, hv, hu, hu', hq, hr']; rfl, hx1.trans hx2⟩
theorem dec_min : decS (-9223372036854775808) = ⟨#[45, 57, 50, 50, 51, 51, 55, 50, 48, 51, 54, 56, 53, 52, 55, 55, 53, 56, 48, 56]⟩ := by
  unfold decS Lib.itoa
  rw [if_pos (by omega)]
  simp [Lib.decDigits]
theorem l1decimal_v {n : Int} (hn : fits n) (w : World) : VF Tryd.prog 118 [.int .i64 n] w (.string (decS n)) := by
  unfold fits at hn
  rcases (by omega : 0 ≤ n ∨ n < 0) with h0 | h0
  · exact dec_pos _ n h0 (Nat.le_refl _) hn.2 w
  refine VF.intro (cs := []) Tryd.func118 (by kernel_rfl) fun w hx0 E R hE hr hR => ?_
  clear hx0
  conv => cbv
  refine br (fun _ => ?_) (fun g => absurd (by simp [hE.cmp, cmpR]; omega) g)
  conv => cbv
  refine br (fun g => ?_) (fun g => ?_)
  · have g : n = -9223372036854775808 := by simpa [hE.cmp, cmpR] using g
    conv => cbv
    rw [hR]; exact ⟨by rw [g, dec_min]; rfl, Ext.refl _⟩
  · have g : n ≠ -9223372036854775808 := by simpa [hE.cmp, cmpR] using g
    conv => cbv
    refine st_neg hE fun q hq => ?_
    have hq : q = -n := by rw [hq]; rw [show (0 : Int) - n = -n by omega]; exact wrap_in (by omega) (by omega)
    conv => cbv
    obtain ⟨u, hu⟩ : ∃ u, u = decS q := ⟨_, rfl⟩
    refine st_v hr (v := .string u) (by rw [hu]; exact dec_pos _ q (by omega) (Nat.le_refl _) (by omega) _) fun w1 hx1 => ?_
    conv => cbv
    have s1 : (decS q).size ≤ 20 := decS_size (by unfold fits; omega)
    have e45 : (⟨⟨[45]⟩⟩ : ByteArray).size = 1 := rfl
    refine st_cat hE (by rw [hu]; exact Nat.le_trans (Nat.add_le_add (Nat.le_of_eq e45) s1) (by decide)) fun v hv => ?_
    conv => cbv
    rw [hR]; exact ⟨by rw [decS_neg h0, hv, hu, hq]; rfl, hx1⟩
/-- A list with commas. -/
def joinS (xs : List ByteArray) : ByteArray := ⟨(Lib.join (xs.map (·.data.toList)) [44]).toArray⟩
theorem joinS_nil : joinS [] = ⟨#[]⟩ := rfl
theorem bl_mk (x : ByteArray) : (⟨x.data.toList.toArray⟩ : ByteArray) = x := by cases x; simp
theorem joinS_one (x : ByteArray) : joinS [x] = x := by
  unfold joinS; rw [List.map_cons, List.map_nil, Lib.join_one, bl_mk]
theorem joinS_snoc (x : ByteArray) : ∀ xs : List ByteArray, xs ≠ [] → joinS (xs ++ [x]) = joinS xs ++ ⟨#[44]⟩ ++ x
  | [], h => absurd rfl h
  | y :: r, _ => by
    unfold joinS
    rw [List.cons_append, List.map_cons, List.map_cons, Lib.join_cons, Lib.join_cons, List.map_append]
    have e : Lib.joinTail [44] (r.map (·.data.toList) ++ [x].map (·.data.toList)) = Lib.joinTail [44] (r.map (·.data.toList)) ++ ([44] ++ x.data.toList) := by simp [Lib.joinTail]
    rw [e, ← List.append_assoc, ← mk_append, ← mk_append [44] x.data.toList, bl_mk]
    rw [ByteArray.append_assoc]
theorem joinS_size : ∀ xs : List ByteArray, (joinS xs).size ≤ bulk xs := by
  intro xs
  have t : ∀ r : List ByteArray, (Lib.joinTail [44] (r.map (·.data.toList))).length ≤ bulk r := by
    intro r
    induction r with
    | nil => simp [Lib.joinTail, bulk]
    | cons a r ih =>
      simp only [Lib.joinTail, List.map_cons, List.flatten_cons, List.length_append, List.length_cons, List.length_nil, bulk, ByteArray.size, Array.length_toList] at ih ⊢
      omega
  cases xs with
  | nil => simp [joinS_nil, bulk, ByteArray.size]
  | cons x r =>
    have := t r
    unfold joinS
    rw [List.map_cons, Lib.join_cons]
    simp only [ByteArray.size, List.size_toArray, List.length_append, Array.length_toList, bulk] at this ⊢
    omega
theorem bulk_take (xs : List ByteArray) (k : Nat) : bulk (xs.take k) ≤ bulk xs := by
  rw [bulk_eq, bulk_eq]
  have := letters_take_le xs k
  simp; omega
theorem take_snoc {xs : List ByteArray} {k : Nat} {s : ByteArray} (h : xs[k]? = some s) : xs.take (k + 1) = xs.take k ++ [s] := by
  rw [List.take_add_one, h]; rfl
theorem append_empty (s : ByteArray) : (⟨#[]⟩ : ByteArray) ++ s = s := by
  apply ByteArray.ext; simp
end Go.Proofs.YtjaejonnbhdddaaDoor
