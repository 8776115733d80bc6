/- Asks and their texts, in plain words. -/
import Derived.Test.YtjaejonnbhdddaaDoorL11
import Derived.Test.YtjaejonnbhdddaaDoorL21
import Derived.Lib.ParseIntB
namespace Go.Proofs.YtjaejonnbhdddaaDoor
open Go.Eng
set_option linter.unusedVariables false
/-! ### Digits -/
def isDig (l : List UInt8) : Prop := ∀ b ∈ l, 48 ≤ b.toNat ∧ b.toNat ≤ 57
/-- The number that digits spell, behind a. -/
def dv : List UInt8 → Nat → Nat
  | [], a => a
  | c :: r, a => dv r (a * 10 + (c.toNat - 48))
theorem dv_snoc (d : UInt8) : ∀ (l : List UInt8) (a : Nat), dv (l ++ [d]) a = dv l a * 10 + (d.toNat - 48)
  | [], a => rfl
  | c :: r, a => by rw [List.cons_append, dv, dv, dv_snoc d r]
theorem dv_ge : ∀ (l : List UInt8) (a : Nat), a ≤ dv l a
  | [], a => Nat.le_refl _
  | c :: r, a => by rw [dv]; exact Nat.le_trans (by omega) (dv_ge r _)
theorem dv_lt : ∀ (l : List UInt8) (a : Nat), isDig l → dv l a < (a + 1) * 10 ^ l.length
  | [], a, _ => by simp [dv]
  | c :: r, a, h => by
    have hc := h c (by simp)
    have := dv_lt r (a * 10 + (c.toNat - 48)) (fun b hb => h b (by simp [hb]))
    rw [dv, List.length_cons, Nat.pow_succ]
    have e : (a * 10 + (c.toNat - 48) + 1) * 10 ^ r.length ≤ (a * 10 + 10) * 10 ^ r.length := Nat.mul_le_mul_right _ (by omega)
    have e2 : (a + 1) * (10 ^ r.length * 10) = (a * 10 + 10) * 10 ^ r.length := by rw [Nat.mul_comm (10 ^ r.length), ← Nat.mul_assoc, Nat.add_mul]
    omega
theorem dec_small {u : Nat} (h : u < 10) : Lib.decDigits u = [UInt8.ofNat (48 + u)] := by rw [Lib.decDigits, dif_pos h]
theorem dec_step {u : Nat} (h : ¬ u < 10) : Lib.decDigits u = Lib.decDigits (u / 10) ++ [UInt8.ofNat (48 + u % 10)] := by rw [Lib.decDigits, dif_neg h]
theorem digit_nat {d : Nat} (h : d < 10) : (UInt8.ofNat (48 + d)).toNat = 48 + d := by rw [UInt8.toNat_ofNat']; omega
theorem dv_dec : ∀ (m u : Nat), u ≤ m → dv (Lib.decDigits u) 0 = u
  | m, u, hm => by
    by_cases h : u < 10
    · rw [dec_small h]; simp only [dv]; rw [digit_nat h]; omega
    · cases m with
      | zero => omega
      | succ m => rw [dec_step h, dv_snoc, dv_dec m (u / 10) (by omega), digit_nat (by omega)]; omega
theorem dig_dec : ∀ (m u : Nat), u ≤ m → isDig (Lib.decDigits u)
  | m, u, hm => by
    by_cases h : u < 10
    · rw [dec_small h]; intro b hb; rw [List.mem_singleton.1 hb, digit_nat h]; omega
    · cases m with
      | zero => omega
      | succ m =>
        rw [dec_step h]; intro b hb
        rcases List.mem_append.1 hb with hb | hb
        · exact dig_dec m (u / 10) (by omega) b hb
        · rw [List.mem_singleton.1 hb, digit_nat (by omega)]; omega
theorem dec_ne (u : Nat) : Lib.decDigits u ≠ [] := by
  rw [Lib.decDigits]; split <;> simp
theorem head_dec : ∀ (m u : Nat), u ≤ m → 0 < u → (Lib.decDigits u).head? ≠ some 48
  | m, u, hm, h0 => by
    by_cases h : u < 10
    · rw [dec_small h]; intro e
      have := congrArg UInt8.toNat (Option.some.inj e)
      rw [digit_nat h] at this; simp at this; omega
    · cases m with
      | zero => omega
      | succ m =>
        rw [dec_step h]
        have := head_dec m (u / 10) (by omega) (by omega)
        cases hd : Lib.decDigits (u / 10) with
        | nil => exact absurd hd (dec_ne _)
        | cons a r => rw [hd] at this; simpa using this
theorem dv_pos {c : UInt8} {r : List UInt8} (h : isDig (c :: r)) (hc : c ≠ 48) : 0 < dv (c :: r) 0 := by
  have h1 := h c (by simp)
  have : c.toNat ≠ 48 := fun e => hc (UInt8.toNat_inj.1 e)
  exact Nat.lt_of_lt_of_le (by omega) (dv_ge r (0 * 10 + (c.toNat - 48)))
theorem dec_dv : ∀ (m : Nat) (l : List UInt8), l.length ≤ m → isDig l → l ≠ [] → (l.length = 1 ∨ l.head? ≠ some 48) → Lib.decDigits (dv l 0) = l
  | m, l, hm, hd, hne, hz => by
    obtain ⟨l', d, rfl⟩ : ∃ l' d, l = l' ++ [d] := ⟨l.dropLast, l.getLast hne, (List.dropLast_concat_getLast hne).symm⟩
    have h1 := hd d (by simp)
    rw [dv_snoc]
    cases l' with
    | nil =>
      simp only [dv, Nat.zero_mul, Nat.zero_add]
      rw [dec_small (by omega)]
      simp only [List.nil_append, List.cons.injEq, and_true]
      apply UInt8.toNat_inj.1
      rw [digit_nat (by omega)]; omega
    | cons c r =>
      have hc : c ≠ 48 := fun e => by
        rcases hz with h | h
        · simp at h
        · exact h (by rw [e]; rfl)
      have hd' : isDig (c :: r) := fun b hb => hd b (List.mem_append_left _ hb)
      have hp := dv_pos hd' hc
      cases m with
      | zero => simp at hm
      | succ m =>
        rw [dec_step (by omega), show (dv (c :: r) 0 * 10 + (d.toNat - 48)) / 10 = dv (c :: r) 0 by omega, show (dv (c :: r) 0 * 10 + (d.toNat - 48)) % 10 = d.toNat - 48 by omega,
          dec_dv m (c :: r) (by simp at hm ⊢; omega) hd' (by simp) (.inr (fun e => hc (Option.some.inj e)))]
        congr 2
        apply UInt8.toNat_inj.1
        rw [digit_nat (by omega)]; omega
theorem itoa_pos {n : Int} (h : 0 ≤ n) : Lib.itoa n = Lib.decDigits n.toNat := by unfold Lib.itoa; rw [if_neg (by omega)]
theorem itoa_inj {a b : Int} (ha : 0 ≤ a) (hb : 0 ≤ b) (h : Lib.itoa a = Lib.itoa b) : a = b := by
  rw [itoa_pos ha, itoa_pos hb] at h
  have := congrArg (fun l => dv l 0) h
  simp only [dv_dec _ _ (Nat.le_refl _)] at this
  omega
theorem parseU : ∀ (l : List UInt8) (a : Nat), isDig l → dv l a ≤ 1000000000 → Lib.parseUintM (2 ^ 64 - 1) a l = .ok (dv l a)
  | [], a, _, _ => rfl
  | c :: r, a, h, hb => by
    have hc := h c (by simp)
    have h1 := dv_ge (c :: r) a
    have h2 := dv_ge r (a * 10 + (c.toNat - 48))
    rw [dv] at hb
    unfold Lib.parseUintM
    rw [if_pos hc, if_neg (by rw [dv] at h1; omega), if_neg (by omega), dv]
    exact parseU r _ (fun b hb => h b (by simp [hb])) hb
theorem parse_itoa {n : Int} (h0 : 0 ≤ n) (h1 : n ≤ 9999999) : Lib.parseIntB 64 (Lib.itoa n) = .ok n := by
  rw [itoa_pos h0]
  have hd := dig_dec n.toNat n.toNat (Nat.le_refl _)
  have hv := dv_dec n.toNat n.toNat (Nat.le_refl _)
  have hne := dec_ne n.toNat
  generalize Lib.decDigits n.toNat = l at hd hv hne
  cases l with
  | nil => exact absurd rfl hne
  | cons c r =>
    have hc := hd c (by simp)
    have hu := parseU (c :: r) 0 hd (by omega)
    have e43 : (if c.toNat = 43 ∨ c.toNat = 45 then r else c :: r) = c :: r := if_neg (by omega)
    have : Lib.parseUintB 64 (c :: r) = .ok (dv (c :: r) 0) := by unfold Lib.parseUintB; rw [if_neg (by simp)]; exact hu
    unfold Lib.parseIntB
    simp only [e43, this]
    rw [if_neg (by simp only [hv]; omega), if_neg (by omega), if_neg (by omega), hv]
    congr 1; omega
/-! ### Asks -/
def mkB (l : List UInt8) : ByteArray := ⟨l.toArray⟩
theorem mkB_data (s : ByteArray) : mkB s.data.toList = s := by cases s; simp [mkB]
theorem data_mkB (l : List UInt8) : (mkB l).data.toList = l := by simp [mkB]
/-- A list with commas, read as a scope set. -/
def ListOf (L : List UInt8) (xs : List ByteArray) : Prop := (L = [] ∧ xs = []) ∨ (L ≠ [] ∧ MkSet ((spl 44 L).map mkB) xs 0)
theorem ListOf.same {L : List UInt8} {xs ys : List ByteArray} (h : ListOf L xs) (h' : ListOf L ys) : xs = ys := by
  rcases h with ⟨h1, h2⟩ | ⟨h1, h2⟩ <;> rcases h' with ⟨k1, k2⟩ | ⟨k1, k2⟩
  · rw [h2, k2]
  · exact absurd h1 k1
  · exact absurd k1 h1
  · exact (h2.same k2).1
theorem MkSet.valid {xs r : List ByteArray} (h : MkSet xs r 0) : (∀ s ∈ xs, validName s) ∧ isSet r ∧ SortOf xs r := by
  rcases h with ⟨_, _, h⟩ | ⟨_, _, _, h⟩ | ⟨_, hv, q, hq, ⟨_, _, h⟩ | ⟨hl, rfl, _⟩⟩
  · omega
  · omega
  · omega
  · exact ⟨hv, ⟨fun s hs => hv s ((hq.2 s).1 hs), hq.1, hl⟩, hq⟩
theorem ListOf.set {L : List UInt8} {xs : List ByteArray} (h : ListOf L xs) : isSet xs := by
  rcases h with ⟨_, rfl⟩ | ⟨_, h⟩
  · exact ⟨fun s hs => absurd hs (by simp), List.Pairwise.nil, Nat.zero_le _⟩
  · exact h.valid.2.1
theorem spl_all {c : UInt8} : ∀ (m : Nat) (l : List UInt8), l.length ≤ m → ∀ b ∈ l, b = c ∨ ∃ p ∈ spl c l, b ∈ p
  | m, l, hm, b, hb => by
    rcases cut_at c l with h | ⟨a, r, h1, h2⟩
    · exact .inr ⟨l, by rw [spl_miss l h]; simp, hb⟩
    · rw [h1, spl_hit r a h2]
      rw [h1] at hb
      rcases List.mem_append.1 hb with hb | hb
      · exact .inr ⟨a, by simp, hb⟩
      · rcases List.mem_cons.1 hb with hb | hb
        · exact .inl hb
        · cases m with
          | zero => rw [h1] at hm; simp at hm
          | succ m =>
            rcases spl_all m r (by rw [h1] at hm; simp at hm; omega) b hb with h3 | ⟨p, h3, h4⟩
            · exact .inl h3
            · exact .inr ⟨p, by simp [h3], h4⟩
theorem name_no {s : ByteArray} (h : validName s) {c : UInt8} (hc : ¬ nb (c.toNat : Int)) : ¬ c ∈ s.data.toList := by
  intro hb
  obtain ⟨i, hi, he⟩ := List.mem_iff_getElem.1 hb
  have hi' : i < s.size := by rw [Array.length_toList] at hi; exact hi
  have := h.2.1 i hi'
  rw [show s[i] = c from he] at this
  exact hc this
theorem ListOf.no {L : List UInt8} {xs : List ByteArray} (h : ListOf L xs) : ¬ (32 : UInt8) ∈ L := by
  rcases h with ⟨rfl, _⟩ | ⟨_, h⟩
  · simp
  · intro hb
    rcases spl_all (c := 44) _ L (Nat.le_refl _) _ hb with h1 | ⟨p, hp, hb⟩
    · cases h1
    · exact name_no (h.valid.1 (mkB p) (List.mem_map.2 ⟨p, hp, rfl⟩)) (c := 32) (by unfold nb; decide) (by rw [data_mkB]; exact hb)
def cliB : List UInt8 := [99, 108, 105, 101, 110, 116, 61]
def usrB : List UInt8 := [117, 115, 101, 114, 61]
def levB : List UInt8 := [108, 101, 118, 101, 108, 61]
def askB : List UInt8 := [97, 115, 107, 61]
/-- The text t is an ask's. -/
def AskP (t : ByteArray) (cl us : ByteArray) (lv : Int) (xs : List ByteArray) : Prop :=
  t.size ≤ 4000 ∧ validName cl ∧ validName us ∧ 0 ≤ lv ∧ lv ≤ 9999999 ∧ ∃ L, t.data.toList = (cliB ++ cl.data.toList) ++ 32 :: ((usrB ++ us.data.toList) ++ 32 :: ((levB ++ Lib.itoa lv) ++ 32 :: (askB ++ L))) ∧ ListOf L xs
theorem itoa_no {n : Int} (h : 0 ≤ n) : ¬ (32 : UInt8) ∈ Lib.itoa n := by
  rw [itoa_pos h]; intro hb
  have := dig_dec n.toNat n.toNat (Nat.le_refl _) _ hb
  exact absurd this.1 (by decide)
theorem no_app {c : UInt8} {a b : List UInt8} (ha : ¬ c ∈ a) (hb : ¬ c ∈ b) : ¬ c ∈ a ++ b := fun h => (List.mem_append.1 h).elim ha hb
theorem name32 {s : ByteArray} (h : validName s) : ¬ (32 : UInt8) ∈ s.data.toList := name_no h (by unfold nb; decide)
theorem AskP.four {t cl us : ByteArray} {lv : Int} {xs : List ByteArray} (h : AskP t cl us lv xs) : ∃ L, spl 32 t.data.toList = [cliB ++ cl.data.toList, usrB ++ us.data.toList, levB ++ Lib.itoa lv, askB ++ L] ∧ ListOf L xs := by
  obtain ⟨_, h1, h2, h3, _, L, h4, h5⟩ := h
  refine ⟨L, ?_, h5⟩
  rw [h4, spl_hit _ _ (no_app (by decide) (name32 h1)), spl_hit _ _ (no_app (by decide) (name32 h2)), spl_hit _ _ (no_app (by decide) (itoa_no h3)), spl_miss _ (no_app (by decide) h5.no)]
theorem AskP.same {t cl us cl' us' : ByteArray} {lv lv' : Int} {xs xs' : List ByteArray} (h : AskP t cl us lv xs) (h' : AskP t cl' us' lv' xs') : cl = cl' ∧ us = us' ∧ lv = lv' ∧ xs = xs' := by
  obtain ⟨L, h1, h2⟩ := h.four
  obtain ⟨L', k1, k2⟩ := h'.four
  rw [h1] at k1
  simp only [List.cons.injEq, List.append_cancel_left_eq, and_true] at k1
  obtain ⟨e1, e2, e3, e4⟩ := k1
  subst e4
  exact ⟨toList_inj e1, toList_inj e2, itoa_inj h.2.2.2.1 h'.2.2.2.1 e3, h2.same k2⟩
/-- What reading an ask gives. -/
def ParseOf (t : ByteArray) (o : Bool) (cl us : ByteArray) (lv : Int) (xs : List ByteArray) : Prop :=
  (o = true ∧ AskP t cl us lv xs) ∨ (o = false ∧ cl = ⟨#[]⟩ ∧ us = ⟨#[]⟩ ∧ lv = 0 ∧ xs = [] ∧ ∀ a b c d, ¬ AskP t a b c d)
theorem ParseOf.same {t cl us cl' us' : ByteArray} {o o' : Bool} {lv lv' : Int} {xs xs' : List ByteArray} (h : ParseOf t o cl us lv xs) (h' : ParseOf t o' cl' us' lv' xs') : o = o' ∧ cl = cl' ∧ us = us' ∧ lv = lv' ∧ xs = xs' := by
  rcases h with ⟨rfl, h⟩ | ⟨rfl, rfl, rfl, rfl, rfl, h⟩ <;> rcases h' with ⟨rfl, h'⟩ | ⟨rfl, rfl, rfl, rfl, rfl, h'⟩
  · exact ⟨rfl, h.same h'⟩
  · exact absurd h (h' _ _ _ _)
  · exact absurd h' (h _ _ _ _)
  · exact ⟨rfl, rfl, rfl, rfl, rfl⟩
end Go.Proofs.YtjaejonnbhdddaaDoor
