/- Merging scope sets: merge, meet, minus, within; the reference's picking. -/
import Derived.Test.YtjaejonnbhdddaaDoorL3
namespace Go.Proofs.YtjaejonnbhdddaaDoor
open Go.Eng
/-- The names of xs whose being in ys is as told. -/
def picked (xs ys : List ByteArray) (b : Bool) : List ByteArray := xs.filter fun s => decide (s ∈ ys) == b
structure MS where
  A1 : Option Addr
  n1 : Nat
  c1 : Nat
  r1 : List ByteArray
  A2 : Option Addr
  n2 : Nat
  c2 : Nat
  r2 : List ByteArray
  A3 : Option Addr
  n3 : Nat
  c3 : Nat
  out : List ByteArray
/-- Where the two lists stand: is the first's head the next? -/
def ahead : List ByteArray → List ByteArray → Prop
  | _, [] => True
  | [], _ => False
  | x :: _, y :: _ => ¬ blt y x
theorem ahead_iff {w : World} {A1 A2 : Option Addr} {n1 c1 n2 c2 : Nat} {r1 r2 : List ByteArray} (h1 : Strs w A1 n1 c1 r1) (h2 : Strs w A2 n2 c2 r2) :
    (n2 = 0 → ahead r1 r2) ∧ (n2 ≠ 0 → n1 = 0 → ¬ ahead r1 r2) ∧ ∀ x y, r1[0]? = some x → r2[0]? = some y → (ahead r1 r2 ↔ ¬ blt y x) := by
  have l1 := h1.len
  have l2 := h2.len
  cases r1 <;> cases r2 <;> simp [ahead] at * <;> omega
set_option maxRecDepth 100000 in
theorem merge_f {w : World} {A A' : Option Addr} {n c n' c' : Nat} {xs ys : List ByteArray} (h : Strs w A n c xs) (h' : Strs w A' n' c' ys) (keep : Bool → Bool → Bool) {kf : FuncId} (hkf : ∀ a b w, QB Tryd.prog kf [.bool a, .bool b] w (keep a b = true)) (hb : n + n' ≤ 2097152) :
    FC Tryd.prog 57 [.slice A n c, .slice A' n' c', .func (.func kf) #[] #[]] w (Copied w (mrg keep xs ys)) := by
  refine FC.intro (cs := [3, 8, 10]) Tryd.func57 (by kernel_rfl) fun E R hE hr hR => ?_
  conv => cbv
  refine st_none hr tStrs fun A0 w0 hx0 ho0 => ?_
  conv => cbv
  let I : MS → World → Prop := fun s w' => Ext w w' ∧ Strs w s.A1 s.n1 s.c1 s.r1 ∧ Strs w s.A2 s.n2 s.c2 s.r2 ∧ Own w.heap.size 9 1 w' s.A3 s.n3 s.c3 (s.out.map .string) ∧ s.out ++ mrg keep s.r1 s.r2 = mrg keep xs ys ∧ s.n1 + s.n2 + s.n3 ≤ 2097152 ∧ ∀ t ∈ s.out, t.size ≤ 9223372036854775807
  refine loop_rulec [3, 8, 10] hr I (fun s => [(0, .slice s.A1 s.n1 s.c1), (1, .slice s.A2 s.n2 s.c2), (2, .func (.func kf) #[] #[]), (7, .slice s.A3 s.n3 s.c3)]) (fun s => s.n1 + s.n2) ⟨A, n, c, xs, A', n', c', ys, A0, 0, 0, []⟩ (by simp [Fits, lk]) ⟨hx0, h, h', ho0 _ (Nat.le_refl _), by simp, by simpa using hb, by simp⟩ ?_
  clear hx0 ho0
  rintro J hJ ⟨A1, n1, c1, r1, A2, n2, c2, r2, A3, n3, c3, out⟩ w' ⟨hxt, g1, g2, ho, hm, hbd, hsz⟩
  simp only at hxt g1 g2 ho hm hbd hsz
  conv => cbv
  -- the test
  refine cut_rule [3, 8, 10] [3, 8, 10] hr (fun (_ : Unit) w'' => w'' = w' ∧ (n1 ≠ 0 ∨ n2 ≠ 0)) (fun _ => [(0, .slice A1 n1 c1), (1, .slice A2 n2 c2), (2, .func (.func kf) #[] #[]), (7, .slice A3 n3 c3)]) ?_ ?_
  · intro I' hI'
    conv => cbv
    refine st_len hE tStrs fun x hx => ?_
    conv => cbv
    refine br (fun h0 => ?_) (fun h0 => ?_)
    · conv => cbv
      exact ⟨(), by simp [Fits, lk], hI' _ _ ⟨rfl, .inl (by simp [hE.cmp, cmpR, hx] at h0; omega)⟩⟩
    · have h0 : n1 = 0 := by simp [hE.cmp, cmpR, hx] at h0; omega
      conv => cbv
      refine st_len hE tStrs fun y hy => ?_
      conv => cbv
      refine br (fun h1 => ?_) (fun h1 => ?_)
      · conv => cbv
        exact ⟨(), by simp [Fits, lk], hI' _ _ ⟨rfl, .inr (by simp [hE.cmp, cmpR, hy] at h1; omega)⟩⟩
      · have h1 : n2 = 0 := by simp [hE.cmp, cmpR, hy] at h1; omega
        conv => cbv
        have e1 : r1 = [] := List.eq_nil_of_length_eq_zero (by rw [g1.len, h0])
        have e2 : r2 = [] := List.eq_nil_of_length_eq_zero (by rw [g2.len, h1])
        rw [e1, e2] at hm
        simp only [mrg, List.append_nil] at hm
        rw [hR]; exact ⟨hxt, A3, n3, c3, rfl, by rw [← hm]; exact ho.strs hsz, by rw [← hm]; exact ho⟩
  rintro _ _ ⟨rfl, hne⟩
  have hA := ahead_iff g1 g2
  have hB := ahead_iff g2 g1
  conv => cbv
  -- inA
  refine draw_c hr fol (by kernel_rfl) (fun v : Bool => v = true ↔ ahead r1 r2) (fun v => [(0, .slice A1 n1 c1), (1, .slice A2 n2 c2), (2, .func (.func kf) #[] #[]), (7, .slice A3 n3 c3), (8, .bool v)]) (fun E' hE' I' hI' => ?_) ?_
  · conv => cbv
    refine st_len hE' tStrs fun x hx => ?_
    conv => cbv
    refine br (fun h0 => ?_) (fun h0 => ?_)
    · conv => cbv
      have h0 : n2 = 0 := by simp [hE'.cmp, cmpR, hx] at h0; omega
      exact ⟨true, by simp [Fits, lk], hI' _ (by simp [hA.1 h0])⟩
    · have h0 : n2 ≠ 0 := by simp [hE'.cmp, cmpR, hx] at h0; omega
      conv => cbv
      refine st_len hE' tStrs fun y hy => ?_
      conv => cbv
      refine br (fun h1 => ?_) (fun h1 => ?_)
      · have h1 : 0 < n1 := by simp [hE'.cmp, cmpR, hy] at h1; omega
        conv => cbv
        refine st_str hE' tStrs (g1.ext hxt) (k := 0) rfl h1 fun p1 s1 gk1 _ hp1 => ?_
        conv => cbv
        refine st_load hE' cStr hp1 ?_
        conv => cbv
        refine st_str hE' tStrs (g2.ext hxt) (k := 0) rfl (by omega) fun p2 s2 gk2 _ hp2 => ?_
        conv => cbv
        refine st_load hE' cStr hp2 ?_
        conv => cbv
        exact ⟨E'.scmp .leq s1 s2, by simp [Fits, lk], hI' _ (by rw [hE'.scmp, scmp_leq, hA.2.2 _ _ gk1 gk2])⟩
      · have h1 : n1 = 0 := by simp [hE'.cmp, cmpR, hy] at h1; omega
        conv => cbv
        exact ⟨false, by simp [Fits, lk], hI' _ (by simp [hA.2.1 h0 h1])⟩
  intro pa w1 hpa hs1
  conv => cbv
  -- inB
  refine draw_c hr fol (by kernel_rfl) (fun v : Bool => v = true ↔ ahead r2 r1) (fun v => [(0, .slice A1 n1 c1), (1, .slice A2 n2 c2), (2, .func (.func kf) #[] #[]), (7, .slice A3 n3 c3), (8, .bool pa), (9, .bool v)]) (fun E' hE' I' hI' => ?_) ?_
  · conv => cbv
    refine st_len hE' tStrs fun x hx => ?_
    conv => cbv
    refine br (fun h0 => ?_) (fun h0 => ?_)
    · conv => cbv
      have h0 : n1 = 0 := by simp [hE'.cmp, cmpR, hx] at h0; omega
      exact ⟨true, by simp [Fits, lk], hI' _ (by simp [hB.1 h0])⟩
    · have h0 : n1 ≠ 0 := by simp [hE'.cmp, cmpR, hx] at h0; omega
      conv => cbv
      refine st_len hE' tStrs fun y hy => ?_
      conv => cbv
      refine br (fun h1 => ?_) (fun h1 => ?_)
      · have h1 : 0 < n2 := by simp [hE'.cmp, cmpR, hy] at h1; omega
        conv => cbv
        refine st_str hE' tStrs (g2.ext (hxt.trans hs1.ext)) (k := 0) rfl h1 fun p1 s1 gk1 _ hp1 => ?_
        conv => cbv
        refine st_load hE' cStr hp1 ?_
        conv => cbv
        refine st_str hE' tStrs (g1.ext (hxt.trans hs1.ext)) (k := 0) rfl (by omega) fun p2 s2 gk2 _ hp2 => ?_
        conv => cbv
        refine st_load hE' cStr hp2 ?_
        conv => cbv
        exact ⟨E'.scmp .leq s1 s2, by simp [Fits, lk], hI' _ (by rw [hE'.scmp, scmp_leq, hB.2.2 _ _ gk1 gk2])⟩
      · have h1 : n2 = 0 := by simp [hE'.cmp, cmpR, hy] at h1; omega
        conv => cbv
        exact ⟨false, by simp [Fits, lk], hI' _ (by simp [hB.2.1 h0 h1])⟩
  intro pb w2 hpb hs2
  have hs := hs1.trans hs2
  conv => cbv
  -- if inA
  refine cut_rule [3, 8, 10] [3, 8, 10] hr (fun (q : ByteArray × Option Addr × Nat × Nat × List ByteArray) w'' => Same w2 w'' ∧ Strs w q.2.1 q.2.2.1 q.2.2.2.1 q.2.2.2.2 ∧ q.1.size ≤ 9223372036854775807 ∧ (pa = true → r1 = q.1 :: q.2.2.2.2) ∧ (pa = false → r1 = q.2.2.2.2))
    (fun q => [(0, .slice q.2.1 q.2.2.1 q.2.2.2.1), (1, .slice A2 n2 c2), (2, .func (.func kf) #[] #[]), (7, .slice A3 n3 c3), (8, .bool pa), (9, .bool pb), (10, .string q.1)]) ?_ ?_
  · intro I' hI'
    conv => cbv
    refine br (fun ht => ?_) (fun ht => ?_)
    · have h1 : n1 ≠ 0 := fun e => by
        rcases hne with h | h
        · exact h e
        · exact hA.2.1 h e (hpa.1 ht)
      conv => cbv
      refine draw_q hr fol (by kernel_rfl) fun E' hE' => ?_
      conv => cbv
      refine st_str hE' tStrs (g1.ext (hxt.trans hs.ext)) (k := 0) rfl (by omega) fun p1 s1 gk1 hsm hp1 => ?_
      conv => cbv
      refine st_load hE' cStr hp1 ?_
      conv => cbv
      refine st_strsFrom hE' tStrs g1 (lo := 1) rfl (by omega) fun A5 n5 c5 _ h5 => ?_
      conv => cbv
      intro w3 hs3
      conv => cbv
      refine ⟨(s1, A5, n5, c5, r1.drop 1), by simp [Fits, lk], hI' _ _ ⟨hs3, h5, hsm, fun _ => ?_, fun h => (by rw [ht] at h; cases h)⟩⟩
      cases hr1 : r1 with
      | nil => rw [hr1] at gk1; cases gk1
      | cons a l => rw [hr1] at gk1; simp at gk1; simp [gk1]
    · have ht : pa = false := by simpa using ht
      conv => cbv
      exact ⟨(⟨#[]⟩, A1, n1, c1, r1), by simp [Fits, lk], hI' _ _ ⟨Same.refl _, g1, Nat.zero_le _, fun h => (by rw [ht] at h; cases h), fun _ => rfl⟩⟩
  rintro ⟨x, A5, n5, c5, r5⟩ w3 ⟨hs3, g5, hxs, hpt, hpf⟩
  simp only at g5 hxs hpt hpf
  have hs := hs.trans hs3
  conv => cbv
  -- if inB
  refine cut_rule [3, 8, 10] [3, 8, 10] hr (fun (q : ByteArray × Option Addr × Nat × Nat × List ByteArray) w'' => Same w3 w'' ∧ Strs w q.2.1 q.2.2.1 q.2.2.2.1 q.2.2.2.2 ∧ q.1.size ≤ 9223372036854775807 ∧ (pb = true → r2 = q.1 :: q.2.2.2.2) ∧ (pb = false → r2 = q.2.2.2.2 ∧ q.1 = x))
    (fun q => [(0, .slice A5 n5 c5), (1, .slice q.2.1 q.2.2.1 q.2.2.2.1), (2, .func (.func kf) #[] #[]), (7, .slice A3 n3 c3), (8, .bool pa), (9, .bool pb), (10, .string q.1)]) ?_ ?_
  · intro I' hI'
    conv => cbv
    refine br (fun ht => ?_) (fun ht => ?_)
    · have h1 : n2 ≠ 0 := fun e => by
        rcases hne with h | h
        · exact hB.2.1 h e (hpb.1 ht)
        · exact h e
      conv => cbv
      refine draw_q hr fol (by kernel_rfl) fun E' hE' => ?_
      conv => cbv
      refine st_str hE' tStrs (g2.ext (hxt.trans hs.ext)) (k := 0) rfl (by omega) fun p1 s1 gk1 hsm hp1 => ?_
      conv => cbv
      refine st_load hE' cStr hp1 ?_
      conv => cbv
      refine st_strsFrom hE' tStrs g2 (lo := 1) rfl (by omega) fun A6 n6 c6 _ h6 => ?_
      conv => cbv
      intro w4 hs4
      conv => cbv
      refine ⟨(s1, A6, n6, c6, r2.drop 1), by simp [Fits, lk], hI' _ _ ⟨hs4, h6, hsm, fun _ => ?_, fun h => (by rw [ht] at h; cases h)⟩⟩
      cases hr2 : r2 with
      | nil => rw [hr2] at gk1; cases gk1
      | cons a l => rw [hr2] at gk1; simp at gk1; simp [gk1]
    · have ht : pb = false := by simpa using ht
      conv => cbv
      exact ⟨(x, A2, n2, c2, r2), by simp [Fits, lk], hI' _ _ ⟨Same.refl _, g2, hxs, fun h => (by rw [ht] at h; cases h), fun _ => ⟨rfl, rfl⟩⟩⟩
  rintro ⟨y, A6, n6, c6, r6⟩ w4 ⟨hs4, g6, hys, hqt, hqf⟩
  simp only at g6 hys hqt hqf
  have hs := hs.trans hs4
  have ho := ho.bel hs.ext
  have hxt := hxt.trans hs.ext
  have l5 := g5.len
  have l6 := g6.len
  have l1 := g1.len
  have l2 := g2.len
  -- what this round does to the lists
  have key : mrg keep r1 r2 = (if keep pa pb = true then [y] else []) ++ mrg keep r5 r6 ∧ n5 + n6 < n1 + n2 := by
    cases pa <;> cases pb
    · have e1 := hpf rfl
      obtain ⟨e2, _⟩ := hqf rfl
      exfalso
      rcases Nat.eq_zero_or_pos n2 with h0 | h0
      · exact absurd (hpa.2 (hA.1 h0)) (by simp)
      · rcases Nat.eq_zero_or_pos n1 with h1 | h1
        · exact absurd (hpb.2 (hB.1 h1)) (by simp)
        · obtain ⟨a, ha⟩ : ∃ a, r1[0]? = some a := ⟨_, List.getElem?_eq_getElem (by omega)⟩
          obtain ⟨b, hb⟩ : ∃ b, r2[0]? = some b := ⟨_, List.getElem?_eq_getElem (by omega)⟩
          have k1 : blt b a := Classical.not_not.1 fun k => absurd (hpa.2 ((hA.2.2 a b ha hb).2 k)) (by simp)
          have k2 : blt a b := Classical.not_not.1 fun k => absurd (hpb.2 ((hB.2.2 b a hb ha).2 k)) (by simp)
          exact blt_asymm k1 k2
    · have e1 := hpf rfl
      have e2 := hqt rfl
      subst e1 e2
      refine ⟨?_, by simp only [List.length_cons] at l2; omega⟩
      have k1 : ¬ ahead r1 (y :: r6) := fun k => absurd (hpa.2 k) (by simp)
      cases r1 with
      | nil => rw [mrg]
      | cons a l =>
        have k2 : blt y a := Classical.not_not.1 k1
        rw [mrg, if_neg (fun e => blt_ne k2 e.symm), if_neg (blt_asymm k2)]
    · have e1 := hpt rfl
      obtain ⟨e2, e3⟩ := hqf rfl
      subst e1 e2 e3
      refine ⟨?_, by simp only [List.length_cons] at l1; omega⟩
      have k1 : ¬ ahead r2 (y :: r5) := fun k => absurd (hpb.2 k) (by simp)
      cases r2 with
      | nil => rw [mrg]
      | cons b l =>
        have k2 : blt y b := Classical.not_not.1 k1
        rw [mrg, if_neg (blt_ne k2), if_pos k2]
    · have e1 := hpt rfl
      have e2 := hqt rfl
      subst e1 e2
      refine ⟨?_, by simp only [List.length_cons] at l1 l2; omega⟩
      have k1 : ¬ blt y x := hpa.1 rfl
      have k2 : ¬ blt x y := hpb.1 rfl
      have e : x = y := Classical.byContradiction fun k => k1 (blt_tri k2 k)
      rw [mrg, if_pos e, e]
  obtain ⟨key, hless⟩ := key
  rw [key] at hm
  clear hA hB hpa hpb hpt hpf hqt hqf g1 g2 hne key
  conv => cbv
  refine st_qb hE (hkf pa pb _) fun v hv w5 hs5 => ?_
  have hxt := hxt.trans hs5.ext
  have ho := ho.bel hs5.ext
  conv => cbv
  refine br (fun ht => ?_) (fun ht => ?_)
  · rw [if_pos (hv.1 ht)] at hm
    conv => cbv
    refine st_one hr tStrs rfl rfl fun A7 w6 hx6 hc6 => ?_
    have hxt := hxt.trans hx6
    conv => cbv
    refine st_app hr tStrs rfl (ho.bel hx6) hc6 rfl hxt.size (by omega) (by omega) fun A8 c8 n8 w7 hn8 hb7 ho7 => ?_
    conv => cbv
    refine ⟨⟨A5, n5, c5, r5, A6, n6, c6, r6, A8, n8, c8, out ++ [y]⟩, by simp [Fits, lk], hJ _ _ ⟨hxt.then hb7, ?_, ?_, ?_, ?_, ?_, ?_⟩, hless⟩
    · exact g5
    · exact g6
    · simp only; rw [List.map_append]; exact ho7
    · simp only; rw [← hm, List.append_assoc]
    · simp only; omega
    · simp only [List.mem_append, List.mem_singleton]
      rintro t (h | rfl)
      · exact hsz t h
      · exact hys
  · rw [if_neg (fun h => ht (hv.2 h)), List.nil_append] at hm
    conv => cbv
    exact ⟨⟨A5, n5, c5, r5, A6, n6, c6, r6, A3, n3, c3, out⟩, by simp [Fits, lk], hJ _ _ ⟨hxt, g5, g6, ho, hm, by simp only; omega, hsz⟩, hless⟩
end Go.Proofs.YtjaejonnbhdddaaDoor
