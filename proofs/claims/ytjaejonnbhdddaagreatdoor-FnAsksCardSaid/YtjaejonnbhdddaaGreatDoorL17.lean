/- Decimal numerals and lists joined by commas, as the reference writes them. -/
import Derived.Test.YtjaejonnbhdddaaGreatDoorL5
import Derived.Test.YtjaejonnbhdddaaGreatDoorEng6
import Derived.Lib.ItoaNum
import Derived.Lib.Join
namespace Go.Proofs.YtjaejonnbhdddaaGreatDoor
open Go.Eng
set_option linter.unusedVariables false
/-- A number's numeral. -/
def decS (n : Int) : ByteArray := ⟨(Lib.itoa n).toArray⟩
theorem decD_len : ∀ (k u : Nat), u < 10 ^ (k + 1) → (Lib.decDigits u).length ≤ k + 1
  | 0, u, h => by rw [Lib.decDigits, dif_pos (by omega)]; simp
  | k + 1, u, h => by
    rw [Lib.decDigits]
    split
    · simp
    · have := decD_len k (u / 10) (by rw [Nat.pow_succ] at h; omega)
      simp; omega
theorem itoa_len {n : Int} (h : fits n) : (Lib.itoa n).length ≤ 20 := by
  unfold fits at h; unfold Lib.itoa
  split
  · have := decD_len 18 n.natAbs (by omega); simp; omega
  · have := decD_len 18 n.toNat (by omega); omega
theorem decS_size {n : Int} (h : fits n) : (decS n).size ≤ 20 := by
  have := itoa_len h; simpa [decS, ByteArray.size] using this
theorem decS_small {n : Int} (h0 : 0 ≤ n) (h : n < 10) : decS n = ⟨[UInt8.ofNat (48 + n.toNat)].toArray⟩ := by
  unfold decS Lib.itoa; rw [if_neg (by omega), Lib.decDigits, dif_pos (by omega)]
theorem decS_step {n : Int} (h : 10 ≤ n) : decS n = decS (n / 10) ++ decS (n % 10) := by
  rw [decS_small (n := n % 10) (by omega) (by omega)]
  have e : Lib.itoa n = Lib.itoa (n / 10) ++ [UInt8.ofNat (48 + (n % 10).toNat)] := by
    unfold Lib.itoa
    rw [if_neg (by omega), if_neg (by omega), Lib.decDigits, dif_neg (by omega), show (n / 10).toNat = n.toNat / 10 by omega, show (n % 10).toNat = n.toNat % 10 by omega]
  unfold decS
  rw [e, mk_append]
theorem decS_neg {n : Int} (h : n < 0) : decS n = ⟨#[45]⟩ ++ decS (-n) := by
  have e : Lib.itoa n = [45] ++ Lib.itoa (-n) := by
    unfold Lib.itoa
    rw [if_pos h, if_neg (by omega), show (-n).toNat = n.natAbs by omega]; rfl
  unfold decS
  rw [e, ← mk_append]
theorem dec_pos (m : Nat) : ∀ (n : Int), 0 ≤ n → n.toNat ≤ m → n ≤ 9223372036854775807 → ∀ w : World, VF Tryz.prog 18 [.int .i64 n] w (.string (decS n)) := by
  induction m with
  | zero =>
    intro n h0 hm hb w
    refine VF.intro (cs := []) Tryz.func18 (by kernel_rfl) fun w hx0 E R hE hr hR => ?_
    clear hx0
    conv => cbv
    refine br (fun g => absurd g (by simp [hE.cmp, cmpR]; omega)) (fun _ => ?_)
    conv => cbv
    refine br (fun g => ?_) (fun g => absurd (by simp [hE.cmp, cmpR]; omega) g)
    have hn10 : n < 10 := by omega
    obtain ⟨y, hy⟩ : ∃ y, y = 48 + n := ⟨_, rfl⟩
    have e1 : E.ar .add .i64 48 n = y := by rw [hE.ar, hy]; exact wrap_in (by omega) (by omega)
    conv => cbv
    simp only [e1]
    refine st_conv hE ⟨_, Tryz.underlying2⟩ uU8 fun z hz => ?_
    have hz2 : z = ((UInt8.ofNat (48 + n.toNat)).toNat : Int) := by
      rw [hz, hy]; simp [IntKind.wrap, IntKind.signed, IntKind.bits]; omega
    conv => cbv
    refine st_one hr tBytes rfl rfl fun A1 w1 hx1 hc1 => ?_
    conv => cbv
    refine st_b2s hE Tryz.underlying22 uU8 uStr (bs := [UInt8.ofNat (48 + n.toNat)]) rfl (by rw [hz2] at hc1; exact hc1) ?_
    obtain ⟨u, hu⟩ : ∃ u : ByteArray, u = ⟨[UInt8.ofNat (48 + n.toNat)].toArray⟩ := ⟨_, rfl⟩
    rw [← hu]
    conv => cbv
    rw [hR]; exact ⟨by rw [decS_small h0 hn10, ← hu]; rfl, hx1⟩
  | succ m ih =>
    intro n h0 hm hb w
    refine VF.intro (cs := []) Tryz.func18 (by kernel_rfl) fun w hx0 E R hE hr hR => ?_
    clear hx0
    conv => cbv
    refine br (fun g => absurd g (by simp [hE.cmp, cmpR]; omega)) (fun _ => ?_)
    conv => cbv
    refine br (fun g => ?_) (fun g => ?_)
    · have g : n < 10 := by simpa [hE.cmp, cmpR] using g
      have hn10 : n < 10 := by omega
      obtain ⟨y, hy⟩ : ∃ y, y = 48 + n := ⟨_, rfl⟩
      have e1 : E.ar .add .i64 48 n = y := by rw [hE.ar, hy]; exact wrap_in (by omega) (by omega)
      conv => cbv
      simp only [e1]
      refine st_conv hE ⟨_, Tryz.underlying2⟩ uU8 fun z hz => ?_
      have hz2 : z = ((UInt8.ofNat (48 + n.toNat)).toNat : Int) := by
        rw [hz, hy]; simp [IntKind.wrap, IntKind.signed, IntKind.bits]; omega
      conv => cbv
      refine st_one hr tBytes rfl rfl fun A1 w1 hx1 hc1 => ?_
      conv => cbv
      refine st_b2s hE Tryz.underlying22 uU8 uStr (bs := [UInt8.ofNat (48 + n.toNat)]) rfl (by rw [hz2] at hc1; exact hc1) ?_
      obtain ⟨u, hu⟩ : ∃ u : ByteArray, u = ⟨[UInt8.ofNat (48 + n.toNat)].toArray⟩ := ⟨_, rfl⟩
      rw [← hu]
      conv => cbv
      rw [hR]; exact ⟨by rw [decS_small h0 hn10, ← hu]; rfl, hx1⟩
    · have g : 10 ≤ n := by simp [hE.cmp, cmpR] at g; omega
      conv => cbv
      refine st_quo hE (by decide) fun q hq => ?_
      have hq : q = n / 10 := by rw [hq, Int.tdiv_eq_ediv_of_nonneg h0]; exact wrap_in (by omega) (by omega)
      conv => cbv
      obtain ⟨u, hu⟩ : ∃ u, u = decS q := ⟨_, rfl⟩
      refine st_v hr (v := .string u) (by rw [hu]; exact ih q (by omega) (by omega) (by omega) _) fun w1 hx1 => ?_
      conv => cbv
      refine st_rem hE (by decide) fun r hr' => ?_
      have hr' : r = n % 10 := by rw [hr', Int.tmod_eq_emod_of_nonneg h0]
      conv => cbv
      obtain ⟨u', hu'⟩ : ∃ u, u = decS r := ⟨_, rfl⟩
      refine st_v hr (v := .string u') (by rw [hu']; exact ih r (by omega) (by omega) (by omega) _) fun w2 hx2 => ?_
      conv => cbv
      have s1 : (decS q).size ≤ 20 := decS_size (by unfold fits; omega)
      have s2 : (decS r).size ≤ 20 := decS_size (by unfold fits; omega)
      refine st_cat hE (by rw [hu, hu']; omega) fun v hv => ?_
      conv => cbv
      rw [hR]; exact ⟨by rw [decS_step g, hv, hu, hu', hq, hr']; rfl, hx1.trans hx2⟩
theorem dec_min : decS (-9223372036854775808) = ⟨#[45, 57, 50, 50, 51, 51, 55, 50, 48, 51, 54, 56, 53, 52, 55, 55, 53, 56, 48, 56]⟩ := by
  unfold decS Lib.itoa
  rw [if_pos (by omega)]
  simp [Lib.decDigits]
theorem l1decimal_v {n : Int} (hn : fits n) (w : World) : VF Tryz.prog 18 [.int .i64 n] w (.string (decS n)) := by
  unfold fits at hn
  rcases (by omega : 0 ≤ n ∨ n < 0) with h0 | h0
  · exact dec_pos _ n h0 (Nat.le_refl _) hn.2 w
  refine VF.intro (cs := []) Tryz.func18 (by kernel_rfl) fun w hx0 E R hE hr hR => ?_
  clear hx0
  conv => cbv
  refine br (fun _ => ?_) (fun g => absurd (by simp [hE.cmp, cmpR]; omega) g)
  conv => cbv
  refine br (fun g => ?_) (fun g => ?_)
  · have g : n = -9223372036854775808 := by simpa [hE.cmp, cmpR] using g
    conv => cbv
    rw [hR]; exact ⟨by rw [g, dec_min]; rfl, Ext.refl _⟩
  · have g : n ≠ -9223372036854775808 := by simpa [hE.cmp, cmpR] using g
    conv => cbv
    refine st_neg hE fun q hq => ?_
    have hq : q = -n := by rw [hq]; rw [show (0 : Int) - n = -n by omega]; exact wrap_in (by omega) (by omega)
    conv => cbv
    obtain ⟨u, hu⟩ : ∃ u, u = decS q := ⟨_, rfl⟩
    refine st_v hr (v := .string u) (by rw [hu]; exact dec_pos _ q (by omega) (Nat.le_refl _) (by omega) _) fun w1 hx1 => ?_
    conv => cbv
    have s1 : (decS q).size ≤ 20 := decS_size (by unfold fits; omega)
    have e45 : (⟨⟨[45]⟩⟩ : ByteArray).size = 1 := rfl
    refine st_cat hE (by rw [hu]; exact Nat.le_trans (Nat.add_le_add (Nat.le_of_eq e45) s1) (by decide)) fun v hv => ?_
    conv => cbv
    rw [hR]; exact ⟨by rw [decS_neg h0, hv, hu, hq]; rfl, hx1⟩
/-- A list with commas. -/
def joinS (xs : List ByteArray) : ByteArray := ⟨(Lib.join (xs.map (·.data.toList)) [44]).toArray⟩
theorem joinS_nil : joinS [] = ⟨#[]⟩ := rfl
theorem bl_mk (x : ByteArray) : (⟨x.data.toList.toArray⟩ : ByteArray) = x := by cases x; simp
theorem joinS_one (x : ByteArray) : joinS [x] = x := by
  unfold joinS; rw [List.map_cons, List.map_nil, Lib.join_one, bl_mk]
theorem joinS_snoc (x : ByteArray) : ∀ xs : List ByteArray, xs ≠ [] → joinS (xs ++ [x]) = joinS xs ++ ⟨#[44]⟩ ++ x
  | [], h => absurd rfl h
  | y :: r, _ => by
    unfold joinS
    rw [List.cons_append, List.map_cons, List.map_cons, Lib.join_cons, Lib.join_cons, List.map_append]
    have e : Lib.joinTail [44] (r.map (·.data.toList) ++ [x].map (·.data.toList)) = Lib.joinTail [44] (r.map (·.data.toList)) ++ ([44] ++ x.data.toList) := by simp [Lib.joinTail]
    rw [e, ← List.append_assoc, ← mk_append, ← mk_append [44] x.data.toList, bl_mk]
    rw [ByteArray.append_assoc]
theorem joinS_size : ∀ xs : List ByteArray, (joinS xs).size ≤ bulk xs := by
  intro xs
  have t : ∀ r : List ByteArray, (Lib.joinTail [44] (r.map (·.data.toList))).length ≤ bulk r := by
    intro r
    induction r with
    | nil => simp [Lib.joinTail, bulk]
    | cons a r ih =>
      simp only [Lib.joinTail, List.map_cons, List.flatten_cons, List.length_append, List.length_cons, List.length_nil, bulk, ByteArray.size, Array.length_toList] at ih ⊢
      omega
  cases xs with
  | nil => simp [joinS_nil, bulk, ByteArray.size]
  | cons x r =>
    have := t r
    unfold joinS
    rw [List.map_cons, Lib.join_cons]
    simp only [ByteArray.size, List.size_toArray, List.length_append, Array.length_toList, bulk] at this ⊢
    omega
theorem bulk_take (xs : List ByteArray) (k : Nat) : bulk (xs.take k) ≤ bulk xs := by
  rw [bulk_eq, bulk_eq]
  have := letters_take_le xs k
  simp; omega
theorem take_snoc {xs : List ByteArray} {k : Nat} {s : ByteArray} (h : xs[k]? = some s) : xs.take (k + 1) = xs.take k ++ [s] := by
  rw [List.take_add_one, h]; rfl
theorem append_empty (s : ByteArray) : (⟨#[]⟩ : ByteArray) ++ s = s := by
  apply ByteArray.ext; simp
theorem l1join_q {w : World} {A : Option Addr} {n c : Nat} {xs : List ByteArray} {sp : ByteArray} (h : Strs w A n c xs) (hb : bulk xs ≤ 1048576) (hsp : sp = ⟨#[44]⟩) :
    QF Tryz.prog 19 [.slice A n c, .string sp] w (.string (joinS xs)) := by
  refine QF.intro (cs := []) Tryz.func19 (by kernel_rfl) fun w hx0 w1 hs E R hE hr hR => ?_
  have h := h.ext hx0
  have hl := h.len
  have hle := h.le
  have hsz : sp.size = 1 := by rw [hsp]; rfl
  conv => cbv
  refine st_len hE tStrs fun x hx => ?_
  conv => cbv
  refine loop_rule hr (fun (s : Nat × ByteArray) w' => Same w w' ∧ s.1 ≤ n ∧ s.2 = joinS (xs.take s.1)) (fun s => [(1, .string sp), (5, .string s.2), (8, .slice A n c), (9, .int .i64 x), (10, .int .i64 (E.nat s.1))]) (fun s => n - s.1) (0, ⟨#[]⟩)
    (by simp [Fits, lk, hE.nat]) ⟨hs, by simp, by simp [joinS_nil]⟩ ?_
  rintro I hI ⟨k, out⟩ w2 ⟨hs2, hk, ho⟩
  simp only at hk ho
  have h2 := h.ext hs2.ext
  conv => cbv
  refine br (fun g => ?_) (fun g => ?_)
  · have g : k < n := by simpa [hE.cmp, cmpR, nk hE, hx] using g
    conv => cbv
    refine st_str hE tStrs h2 (nk hE k) g fun p s hsx hz hp => ?_
    conv => cbv
    refine st_load hE cStr hp ?_
    have z1 := joinS_size (xs.take (k + 1))
    have z2 := bulk_take xs (k + 1)
    have z3 := joinS_size (xs.take k)
    have z4 := bulk_take xs k
    have e1 := take_snoc hsx
    have zs : s.size ≤ 1048576 := by
      have : bulk (xs.take (k + 1)) = bulk (xs.take k) + (1 + s.size) := by
        rw [e1, bulk_eq, bulk_eq]
        have : ∀ l : List ByteArray, letters (l ++ [s]) = letters l + s.size := by
          intro l; induction l with
          | nil => simp [letters]
          | cons a l ih => simp only [List.cons_append, letters, ih]; omega
        rw [this]; simp; omega
      omega
    rw [← ho] at z3
    conv => cbv
    refine br (fun g2 => ?_) (fun g2 => ?_)
    · have g2 : 0 < k := by simpa [hE.cmp, cmpR, hE.nat] using g2
      conv => cbv
      refine st_cat hE (by omega) fun v hv => ?_
      conv => cbv
      refine st_cat hE (by rw [hv, append_size]; omega) fun v2 hv2 => ?_
      conv => cbv
      simp only [inc hE (by omega : k < 9223372036854775807)]
      refine ⟨(k + 1, v2), by simp [Fits, lk, hE.nat], hI _ _ ⟨hs2, by simp only; omega, ?_⟩, by simp only; omega⟩
      simp only
      have ne0 : xs.take k ≠ [] := fun e => by
        have e2 : (xs.take k).length = k := by rw [List.length_take]; omega
        rw [e] at e2; simp at e2; omega
      rw [e1, joinS_snoc _ _ ne0, hv2, hv, ho, hsp]
    · have g2 : k = 0 := by simp [hE.cmp, cmpR, hE.nat] at g2; omega
      conv => cbv
      refine st_cat hE (by omega) fun v hv => ?_
      conv => cbv
      simp only [inc hE (by omega : k < 9223372036854775807)]
      refine ⟨(k + 1, v), by simp [Fits, lk, hE.nat], hI _ _ ⟨hs2, by simp only; omega, ?_⟩, by simp only; omega⟩
      simp only
      subst g2
      rw [e1, List.take_zero, List.nil_append, joinS_one, hv, ho, List.take_zero, joinS_nil, append_empty]
  · have g : k = n := by simp [hE.cmp, cmpR, nk hE, hx] at g; omega
    conv => cbv
    rw [hR]; exact ⟨by rw [ho, g, ← hl, List.take_length]; rfl, hs2⟩
end Go.Proofs.YtjaejonnbhdddaaGreatDoor
