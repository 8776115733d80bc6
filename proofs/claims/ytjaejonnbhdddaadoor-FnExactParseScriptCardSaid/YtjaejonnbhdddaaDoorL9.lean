/- The reference's sorting: the next name behind a given one, and all names in order. -/
import Derived.Test.YtjaejonnbhdddaaDoorL6
namespace Go.Proofs.YtjaejonnbhdddaaDoor
open Go.Eng
/-- s may come behind a. -/
def cand (a : ByteArray) (first : Bool) (s : ByteArray) : Prop := first = true ∨ blt a s
/-- b is the least candidate of xs (f: there is one). -/
def NextOf (xs : List ByteArray) (a : ByteArray) (first : Bool) (b : ByteArray) (f : Bool) : Prop :=
  (f = true → b ∈ xs ∧ cand a first b ∧ ∀ s ∈ xs, cand a first s → ¬ blt s b) ∧ (f = false → ∀ s ∈ xs, ¬ cand a first s)
theorem take_succ_get {xs : List ByteArray} {i : Nat} {s : ByteArray} (h : xs[i]? = some s) : xs.take (i + 1) = xs.take i ++ [s] := by
  rw [List.take_add_one, h]; rfl
theorem l1next_f {w : World} {A : Option Addr} {n c : Nat} {xs : List ByteArray} (h : Strs w A n c xs) (a : ByteArray) (first : Bool) :
    FC Tryd.prog 60 [.slice A n c, .string a, .bool first] w fun v _ => ∃ b f, v = .tuple ⟨[.string b, .bool f]⟩ ∧ NextOf xs a first b f := by
  refine FC.intro (cs := []) Tryd.func60 (by kernel_rfl) fun E R hE hr hR => ?_
  have hl := h.len
  have hle := h.le
  conv => cbv
  refine st_len hE tStrs fun x hx => ?_
  conv => cbv
  refine loop_rule hr (fun (s : Nat × ByteArray × Bool) w' => s.1 ≤ n ∧ Ext w w' ∧ NextOf (xs.take s.1) a first s.2.1 s.2.2) (fun s => [(1, .string a), (2, .bool first), (12, .slice A n c), (13, .int .i64 x), (14, .int .i64 (E.nat s.1)), (8, .string s.2.1), (9, .bool s.2.2)]) (fun s => n - s.1) (0, ⟨#[]⟩, false)
    (by simp [Fits, lk, hE.nat]) ⟨by simp, Ext.refl w, by simp [NextOf]⟩ ?_
  rintro I hI ⟨i, b, f⟩ w' ⟨hi, hx', hn⟩
  simp only at hi hn
  conv => cbv
  refine br (fun h1 => ?_) (fun h1 => ?_)
  · have h1 : i < n := by simpa [hE.cmp, cmpR, hE.nat, hx] using h1
    conv => cbv
    refine st_str hE tStrs (h.ext hx') (nk hE i) h1 fun p s gk hsm hp => ?_
    conv => cbv
    refine st_load hE cStr hp ?_
    have et := take_succ_get gk
    have skip : ¬ cand a first s → NextOf (xs.take i ++ [s]) a first b f := by
      intro hc
      refine ⟨fun e => ?_, fun e => ?_⟩
      · obtain ⟨k1, k2, k3⟩ := hn.1 e
        refine ⟨by simp [k1], k2, fun t ht hct => ?_⟩
        rcases List.mem_append.1 ht with ht | ht
        · exact k3 t ht hct
        · rw [List.mem_singleton.1 ht] at hct; exact absurd hct hc
      · intro t ht hct
        rcases List.mem_append.1 ht with ht | ht
        · exact hn.2 e t ht hct
        · rw [List.mem_singleton.1 ht] at hct; exact hc hct
    have look : cand a first s → (f = true → ¬ blt s b) → f = true → NextOf (xs.take i ++ [s]) a first b f := by
      intro hc hb e
      obtain ⟨k1, k2, k3⟩ := hn.1 e
      refine ⟨fun _ => ⟨by simp [k1], k2, fun t ht hct => ?_⟩, fun e' => by rw [e] at e'; cases e'⟩
      rcases List.mem_append.1 ht with ht | ht
      · exact k3 t ht hct
      · rw [List.mem_singleton.1 ht]; exact hb e
    have take : cand a first s → (f = true → blt s b) → NextOf (xs.take i ++ [s]) a first s true := by
      intro hc hb
      refine ⟨fun _ => ⟨by simp, hc, fun t ht hct hlt => ?_⟩, fun e' => by cases e'⟩
      rcases List.mem_append.1 ht with ht | ht
      · cases f with
        | true =>
          obtain ⟨k1, k2, k3⟩ := hn.1 rfl
          exact k3 t ht hct (blt_trans hlt (hb rfl))
        | false => exact hn.2 rfl t ht hct
      · rw [List.mem_singleton.1 ht] at hlt; exact blt_irrefl _ hlt
    have ei : E.ar .add .i64 (E.nat i) 1 = E.nat (i + 1) := inc hE (by omega)
    have go : ∀ b' f', NextOf (xs.take i ++ [s]) a first b' f' → I (i + 1, b', f') w' := fun b' f' hn' => hI _ _ ⟨by simp only; omega, hx', by simp only; rw [et]; exact hn'⟩
    clear hI
    have hlt : n - (i + 1) < n - i := by omega
    cases first with
    | false =>
      conv => cbv
      refine br (fun g1 => ?_) (fun g1 => ?_)
      · have g1 : ¬ blt a s := by simp only [hE.scmp] at g1; exact (scmp_leq _ _).1 g1
        conv => cbv
        exact ⟨(i + 1, b, f), by simp [Fits, lk, ei], go _ _ (skip fun hc => hc.elim (by simp) g1), hlt⟩
      · have g1 : blt a s := by simp only [hE.scmp] at g1; rw [scmp_leq] at g1; exact Classical.not_not.1 g1
        have hc : cand a false s := .inr g1
        cases f with
        | false =>
          conv => cbv
          exact ⟨(i + 1, s, true), by simp [Fits, lk, ei], go _ _ (take hc (by simp)), hlt⟩
        | true =>
          conv => cbv
          refine br (fun g2 => ?_) (fun g2 => ?_)
          · have g2 : blt s b := by simp only [hE.scmp] at g2; exact (scmp_lss _ _).1 g2
            conv => cbv
            exact ⟨(i + 1, s, true), by simp [Fits, lk, ei], go _ _ (take hc fun _ => g2), hlt⟩
          · have g2 : ¬ blt s b := by simp only [hE.scmp] at g2; rw [scmp_lss] at g2; exact g2
            conv => cbv
            exact ⟨(i + 1, b, true), by simp [Fits, lk, ei], go _ _ (look hc (fun _ => g2) rfl), hlt⟩
    | true =>
      have hc : cand a true s := .inl rfl
      cases f with
      | false =>
        conv => cbv
        exact ⟨(i + 1, s, true), by simp [Fits, lk, ei], go _ _ (take hc (by simp)), hlt⟩
      | true =>
        conv => cbv
        refine br (fun g2 => ?_) (fun g2 => ?_)
        · have g2 : blt s b := by simp only [hE.scmp] at g2; exact (scmp_lss _ _).1 g2
          conv => cbv
          exact ⟨(i + 1, s, true), by simp [Fits, lk, ei], go _ _ (take hc fun _ => g2), hlt⟩
        · have g2 : ¬ blt s b := by simp only [hE.scmp] at g2; rw [scmp_lss] at g2; exact g2
          conv => cbv
          exact ⟨(i + 1, b, true), by simp [Fits, lk, ei], go _ _ (look hc (fun _ => g2) rfl), hlt⟩
  · have h1 : i = n := by simp [hE.cmp, cmpR, hE.nat, hx] at h1; omega
    subst h1
    rw [List.take_of_length_le (by omega)] at hn
    conv => cbv
    rw [hR]; exact ⟨hx', b, f, rfl, hn⟩
/-- r holds what xs holds, in order, each once. -/
def SortOf (xs r : List ByteArray) : Prop := r.Pairwise blt ∧ ∀ s, s ∈ r ↔ s ∈ xs
theorem SortOf.same {xs r r' : List ByteArray} (h : SortOf xs r) (h' : SortOf xs r') : r = r' := rise_ext h.1 h'.1 fun s => by rw [h.2, h'.2]
/-- How many of xs are not in r. -/
def left (xs r : List ByteArray) : Nat := (xs.filter fun t => !(r.contains t)).length
theorem left_lt {xs r : List ByteArray} {s : ByteArray} (hs : s ∈ xs) (hr : s ∉ r) : left xs (r ++ [s]) < left xs r := by
  have e : xs.filter (fun t => !((r ++ [s]).contains t)) = (xs.filter fun t => !(r.contains t)).filter fun t => !(t == s) := by
    rw [List.filter_filter]
    congr 1
    funext t
    by_cases e : t = s <;> simp [e]
  unfold left
  rw [e]
  refine List.length_filter_lt_length_iff_exists.2 ⟨s, ?_, by simp⟩
  simp [hs, hr]
theorem l1sorted_f {w : World} {A : Option Addr} {n c : Nat} {xs : List ByteArray} (h : Strs w A n c xs) (hn : n ≤ 1048576) :
    FC Tryd.prog 29 [.slice A n c] w fun v w' => ∃ r, SortOf xs r ∧ Copied w r v w' := by
  refine FC.intro (cs := []) Tryd.func29 (by kernel_rfl) fun E R hE hr hR => ?_
  have hl := h.len
  conv => cbv
  refine st_f hr (l1next_f h ⟨#[]⟩ true) fun v w1 hx ⟨b, f, ev, hb⟩ => ?_
  subst ev
  conv => cbv
  refine loop_rule hr (fun (s : (List ByteArray × Nat × Nat × Option Addr) × ByteArray × Bool) w' => Ext w w' ∧ Own w.heap.size 9 1 w' s.1.2.2.2 s.1.2.1 s.1.2.2.1 (s.1.1.map .string) ∧ s.1.1.Pairwise blt ∧ (∀ t ∈ s.1.1, t ∈ xs) ∧ s.1.1.length + left xs s.1.1 ≤ n ∧
      (s.2.2 = true → s.2.1 ∈ xs ∧ (∀ t ∈ s.1.1, blt t s.2.1) ∧ ∀ t ∈ xs, t ∈ s.1.1 ∨ ¬ blt t s.2.1) ∧ (s.2.2 = false → ∀ t ∈ xs, t ∈ s.1.1))
    (fun s => [(0, .slice A n c), (3, .slice s.1.2.2.2 s.1.2.1 s.1.2.2.1), (4, .string s.2.1), (5, .bool s.2.2)]) (fun s => left xs s.1.1) (([], 0, 0, none), b, f)
    (by simp [Fits, lk]) ?_ ?_
  · refine ⟨hx, Own.nil, by simp, by simp, by simp only [List.length_nil, Nat.zero_add, left]; exact hl ▸ List.length_filter_le _ _, fun e => ?_, fun e t ht => absurd (Or.inl rfl) (hb.2 e t ht)⟩
    obtain ⟨k1, k2, k3⟩ := hb.1 e
    exact ⟨k1, by simp, fun t ht => .inr (k3 t ht (.inl rfl))⟩
  clear hx hb
  rintro I hI ⟨⟨r, m, k, B⟩, b, f⟩ w' ⟨hx, ho, hp, hm, hlen, h1, h2⟩
  simp only at ho hp hm hlen h1 h2
  cases f with
  | false =>
    conv => cbv
    rw [hR]; exact ⟨hx, r, ⟨hp, fun s => ⟨hm s, h2 rfl s⟩⟩, B, m, k, rfl, ho.strs fun s hs => h.small s (hm s hs), ho⟩
  | true =>
    obtain ⟨k1, k2, k3⟩ := h1 rfl
    have hnr : b ∉ r := fun hb => blt_irrefl _ (k2 b hb)
    have hlt := left_lt k1 hnr
    have hml := ho.len
    rw [List.length_map, Nat.mul_one] at hml
    conv => cbv
    refine st_one hr tStrs rfl rfl fun A1 w1 hx1 hc1 => ?_
    replace ho := ho.bel hx1
    replace hx := hx.trans hx1
    conv => cbv
    refine st_app hr tStrs rfl ho hc1 rfl hx.size (by omega) (by omega) fun A' c' m' w2 em hbel ho2 => ?_
    replace hx := hx.then hbel
    conv => cbv
    refine st_f hr (l1next_f (h.ext hx) b false) fun v w3 hx3 ⟨b', f', ev, hb'⟩ => ?_
    subst ev
    replace ho2 := ho2.bel hx3
    conv => cbv
    refine ⟨((r ++ [b], m', c', A'), b', f'), by simp [Fits, lk], hI _ _ ⟨hx.trans hx3, ?_, ?_, ?_, ?_, ?_, ?_⟩, hlt⟩
    · simpa using ho2
    · exact List.pairwise_append.2 ⟨hp, by simp, by simpa using k2⟩
    · intro t ht
      rcases List.mem_append.1 ht with ht | ht
      · exact hm t ht
      · rw [List.mem_singleton.1 ht]; exact k1
    · simp only [List.length_append, List.length_cons, List.length_nil]; omega
    · intro e
      obtain ⟨q1, q2, q3⟩ := hb'.1 e
      have q2 : blt b b' := q2.elim (fun h => by cases h) id
      refine ⟨q1, fun t ht => ?_, fun t ht => ?_⟩
      · rcases List.mem_append.1 ht with ht | ht
        · exact blt_trans (k2 t ht) q2
        · rw [List.mem_singleton.1 ht]; exact q2
      · rcases k3 t ht with k | k
        · exact .inl (by simp [k])
        · by_cases hbt : blt b t
          · exact .inr (q3 t ht (.inr hbt))
          · by_cases e2 : t = b
            · exact .inl (by simp [e2])
            · exact absurd (blt_tri k e2) hbt
    · intro e t ht
      have q := hb'.2 e t ht
      rcases k3 t ht with k | k
      · simp [k]
      · by_cases e2 : t = b
        · simp [e2]
        · exact absurd (.inr (blt_tri k e2)) q
end Go.Proofs.YtjaejonnbhdddaaDoor
