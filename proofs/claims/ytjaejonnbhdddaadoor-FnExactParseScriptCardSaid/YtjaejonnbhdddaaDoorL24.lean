/- The reference's reading of an ask. -/
import Derived.Test.YtjaejonnbhdddaaDoorL23
import Derived.Test.YtjaejonnbhdddaaDoorEng8
import Derived.Test.YtjaejonnbhdddaaDoorL18
namespace Go.Proofs.YtjaejonnbhdddaaDoor
open Go.Eng
set_option linter.unusedVariables false
theorem ext_data (s : ByteArray) (a b : Nat) : (s.extract a b).data.toList = (s.data.toList.drop a).take (b - a) := Lib.extract_data s a b
theorem get_byte {s : ByteArray} {i : Nat} (h : i < s.size) : s.data.toList[i]? = some (s[i]'h) := by
  rw [List.getElem?_eq_getElem (show i < s.data.toList.length by rw [Array.length_toList]; exact h)]; rfl
theorem data_len (s : ByteArray) : s.data.toList.length = s.size := Array.length_toList
theorem spl_inv {c : UInt8} {l a : List UInt8} {r : List (List UInt8)} (h : spl c l = a :: r) : (r = [] ∧ l = a) ∨ ∃ l', l = a ++ c :: l' ∧ spl c l' = r := by
  rcases cut_at c l with h1 | ⟨a', r', h1, h2⟩
  · rw [spl_miss l h1] at h
    obtain ⟨e1, e2⟩ := List.cons.inj h
    exact .inl ⟨e2.symm, e1⟩
  · rw [h1, spl_hit r' a' h2] at h
    obtain ⟨e1, e2⟩ := List.cons.inj h
    subst e1
    exact .inr ⟨r', h1, e2⟩
theorem spl_small {c : UInt8} : ∀ (m : Nat) (l : List UInt8), l.length ≤ m → ∀ p ∈ spl c l, p.length ≤ l.length
  | m, l, hm => by
    intro p hp
    rcases cut_at c l with h | ⟨a, r, h1, h2⟩
    · rw [spl_miss l h] at hp; rw [List.mem_singleton.1 hp]; exact Nat.le_refl _
    · rw [h1, spl_hit r a h2] at hp
      rw [h1] at hm ⊢
      rcases List.mem_cons.1 hp with h3 | h3
      · rw [h3]; simp
      · cases m with
        | zero => simp at hm
        | succ m =>
          have := spl_small m r (by simp at hm; omega) p h3
          simp; omega
theorem l1split_f {w : World} (s : ByteArray) (cb : UInt8) (c : Int) (hc : c = cb.toNat) (hs : s.size ≤ 1048576) :
    FC Tryd.prog 35 [.string s, .int .u8 c] w (Copied w ((spl cb s.data.toList).map mkB)) := by
  refine FC.intro (cs := []) Tryd.func35 (by kernel_rfl) fun E R hE hr hR => ?_
  obtain ⟨l, hl⟩ : ∃ l, l = s.data.toList := ⟨_, rfl⟩
  have hll : l.length = s.size := by rw [hl, data_len]
  have hpl := spl_len (c := cb) _ l (Nat.le_refl _)
  rw [← hl] at hR
  conv => cbv
  refine loop_rule hr (fun (t : (Nat × Int × Int) × List (List UInt8) × Option Addr × Nat × Nat) w' => Ext w w' ∧ t.1.2.2 = (t.1.1 : Int) ∧ Own w.heap.size 9 1 w' t.2.2.1 t.2.2.2.1 t.2.2.2.2 ((t.2.1.map mkB).map .string) ∧
      ((t.1.1 ≤ s.size ∧ ∃ f : Nat, t.1.2.1 = f ∧ f ≤ t.1.1 ∧ spl cb l = t.2.1 ++ spl cb (l.drop f) ∧ ¬ cb ∈ (l.drop f).take (t.1.1 - f)) ∨ (t.1.1 = s.size + 1 ∧ spl cb l = t.2.1)))
    (fun t => [(0, .string s), (1, .int .u8 c), (5, .slice t.2.2.1 t.2.2.2.1 t.2.2.2.2), (6, .int .i64 t.1.2.1), (7, .int .i64 t.1.2.2)]) (fun t => s.size + 1 - t.1.1) ((0, 0, 0), [], none, 0, 0)
    (by simp [Fits, lk]) ⟨Ext.refl w, by simp, Own.nil, .inl ⟨by simp, 0, by simp, by simp, by simp, by simp⟩⟩ ?_
  rintro I hI ⟨⟨i, fi, ii⟩, out, A1, n1, c1⟩ w1 ⟨hx, hi, ho, hq⟩
  simp only at hi ho hq
  have hol := ho.len
  simp only [List.length_map, Nat.mul_one] at hol
  conv => cbv
  refine st_slen hE uStr fun x hx0 => ?_
  conv => cbv
  obtain ⟨i', hi'⟩ : ∃ z, z = ii + 1 := ⟨_, rfl⟩
  refine br (fun g => ?_) (fun g => ?_)
  · have g : ii ≤ x := by simpa [hE.cmp, cmpR] using g
    have e1 : E.ar .add .i64 ii 1 = i' := by rw [hE.ar, hi']; exact wrap_in (by omega) (by omega)
    rcases hq with ⟨h1, f, hf, h2, h3, h4⟩ | ⟨h1, _⟩
    rotate_left
    · omega
    have hout : out.length ≤ l.length := by
      have := congrArg List.length h3
      have hne := List.length_pos_iff.2 (spl_ne cb (l.drop f))
      simp at this; omega
    conv => cbv
    refine st_slen hE uStr fun x2 hx2 => ?_
    -- a piece is laid
    have piece : ∀ r : List (List UInt8), spl cb (l.drop f) = (l.drop f).take (i - f) :: r → True := fun _ _ => trivial
    clear piece
    conv => cbv
    refine br (fun g2 => ?_) (fun g2 => ?_)
    · have g2 : i = s.size := by simp [hE.cmp, cmpR] at g2; omega
      conv => cbv
      refine st_sub hE uStr (by omega) (by omega) (by omega) fun u hu => ?_
      conv => cbv
      refine st_one hr tStrs rfl rfl fun A2 w2 hx3 hc2 => ?_
      replace ho := ho.bel hx3
      replace hx := hx.trans hx3
      conv => cbv
      refine st_app hr tStrs rfl ho hc2 rfl hx.size (by omega) (by omega) fun A3 c3 n3 w3 hn3 hb3 ho3 => ?_
      conv => cbv
      simp only [e1]
      have hu2 : u = mkB (l.drop f) := by
        apply toList_inj
        rw [hu, ext_data, data_mkB, ← hl]
        rw [show fi.toNat = f by omega, show ii.toNat = s.size by omega, List.take_of_length_le (by simp [hll])]
      have hno : ¬ cb ∈ l.drop f := by rwa [List.take_of_length_le (by simp [hll]; omega)] at h4
      refine ⟨((i + 1, i', i'), out ++ [l.drop f], A3, n3, c3), by simp [Fits, lk], hI _ _ ⟨hx.then hb3, by simp only; omega, ?_, .inr ⟨by simp only; omega, ?_⟩⟩, by simp only; omega⟩
      · rw [hu2] at ho3; simpa using ho3
      · simp only; rw [h3, spl_miss _ hno]
    · have g2 : i < s.size := by
        have : ii ≠ x2 := by simpa [hE.cmp, cmpR] using g2
        omega
      conv => cbv
      refine st_byte hE uStr (by omega) (by omega) fun b hb b0 b1 => ?_
      have hb' : b = ((s[i]'g2).toNat : Int) := by rw [hb]; congr 2; simp only [show ii.toNat = i by omega]
      have hget : l[i]? = some (s[i]'g2) := by rw [hl]; exact get_byte g2
      have hdr : l.drop f = (l.drop f).take (i - f) ++ (s[i]'g2) :: l.drop (i + 1) := by
        have e := List.take_append_drop (i - f) (l.drop f)
        rw [List.drop_drop, show f + (i - f) = i by omega] at e
        have e2 : l.drop i = (s[i]'g2) :: l.drop (i + 1) := by
          rw [List.drop_eq_getElem_cons (by omega)]
          congr 1
          have := List.getElem?_eq_getElem (l := l) (i := i) (by omega)
          rw [this] at hget; exact Option.some.inj hget
        rw [← e2, e]
      conv => cbv
      refine br (fun g3 => ?_) (fun g3 => ?_)
      · have g3 : b = c := by simpa [hE.cmp, cmpR] using g3
        have ecb : s[i]'g2 = cb := UInt8.toNat_inj.1 (by omega)
        rw [ecb] at hdr
        conv => cbv
        refine st_sub hE uStr (by omega) (by omega) (by omega) fun u hu => ?_
        conv => cbv
        refine st_one hr tStrs rfl rfl fun A2 w2 hx3 hc2 => ?_
        replace ho := ho.bel hx3
        replace hx := hx.trans hx3
        conv => cbv
        refine st_app hr tStrs rfl ho hc2 rfl hx.size (by omega) (by omega) fun A3 c3 n3 w3 hn3 hb3 ho3 => ?_
        conv => cbv
        simp only [e1]
        have hu2 : u = mkB ((l.drop f).take (i - f)) := by
          apply toList_inj
          rw [hu, ext_data, data_mkB, ← hl, show fi.toNat = f by omega, show ii.toNat = i by omega]
        refine ⟨((i + 1, i', i'), out ++ [(l.drop f).take (i - f)], A3, n3, c3), by simp [Fits, lk], hI _ _ ⟨hx.then hb3, by simp only; omega, ?_, .inl ⟨by simp only; omega, i + 1, by simp only; omega, by simp, ?_, by simp⟩⟩, by simp only; omega⟩
        · rw [hu2] at ho3; simpa using ho3
        · simp only
          rw [h3, List.append_assoc]
          congr 1
          conv => lhs; rw [hdr]
          rw [spl_hit _ _ h4]; rfl
      · have g3 : b ≠ c := by simpa [hE.cmp, cmpR] using g3
        have ecb : s[i]'g2 ≠ cb := fun e => g3 (by rw [hb', hc, e])
        conv => cbv
        simp only [e1]
        refine ⟨((i + 1, fi, i'), out, A1, n1, c1), by simp [Fits, lk], hI _ _ ⟨hx, by simp only; omega, ho, .inl ⟨by simp only; omega, f, hf, by simp only; omega, h3, ?_⟩⟩, by simp only; omega⟩
        simp only
        rw [show i + 1 - f = (i - f) + 1 by omega, List.take_add_one]
        refine no_app h4 ?_
        rw [List.getElem?_drop, show f + (i - f) = i by omega, hget]
        simp [Ne.symm ecb]
  · have g : ¬ ii ≤ x := by simpa [hE.cmp, cmpR] using g
    rcases hq with ⟨h1, _⟩ | ⟨h1, h2⟩
    · omega
    conv => cbv
    rw [hR]; refine ⟨hx, A1, n1, c1, rfl, ?_, ?_⟩
    · rw [h2]; exact ho.strs fun u hu => by
        obtain ⟨p, hp, rfl⟩ := List.mem_map.1 hu
        rw [← h2] at hp
        have := spl_small _ l (Nat.le_refl _) p hp
        simp only [mkB, ByteArray.size, List.size_toArray]; omega
    · rw [h2]; exact ho
theorem l1after_f {w : World} (s hd : ByteArray) (hs : s.size ≤ 1048576) (hh : hd.size ≤ 100) :
    FC Tryd.prog 41 [.string s, .string hd] w fun v _ => ∃ r ok, v = .tuple ⟨[.string r, .bool ok]⟩ ∧ r.size ≤ s.size ∧ ((ok = true ∧ s.data.toList = hd.data.toList ++ r.data.toList) ∨ (ok = false ∧ ∀ r', s.data.toList ≠ hd.data.toList ++ r')) := by
  refine FC.intro (cs := []) Tryd.func41 (by kernel_rfl) fun E R hE hr hR => ?_
  have ls := data_len s
  have lh := data_len hd
  conv => cbv
  refine st_slen hE uStr fun x hx => ?_
  conv => cbv
  refine st_slen hE uStr fun y hy => ?_
  conv => cbv
  refine br (fun g => ?_) (fun g => ?_)
  · have g : x < y := by simpa [hE.cmp, cmpR] using g
    conv => cbv
    rw [hR]; refine ⟨Ext.refl _, ⟨#[]⟩, false, rfl, Nat.zero_le _, .inr ⟨rfl, fun r' e => ?_⟩⟩
    have := congrArg List.length e
    simp at this; omega
  have g : y ≤ x := by simp [hE.cmp, cmpR] at g; omega
  conv => cbv
  refine st_slen hE uStr fun y2 hy2 => ?_
  conv => cbv
  refine st_upTo hE uStr (by omega) (by omega) fun u hu => ?_
  have hu' : u.data.toList = s.data.toList.take hd.size := by rw [hu, ext_data]; simp [show y2.toNat = hd.size by omega]
  conv => cbv
  refine br (fun g2 => ?_) (fun g2 => ?_)
  · have g2 : u ≠ hd := by simpa [hE.scmp, scmp_neq] using g2
    conv => cbv
    rw [hR]; refine ⟨Ext.refl _, ⟨#[]⟩, false, rfl, Nat.zero_le _, .inr ⟨rfl, fun r' e => g2 ?_⟩⟩
    apply toList_inj
    rw [hu', e, ← lh]; simp
  have g2 : u = hd := by simpa [hE.scmp, scmp_neq] using g2
  conv => cbv
  refine st_slen hE uStr fun y3 hy3 => ?_
  conv => cbv
  refine st_onFrom hE uStr (by omega) (by omega) fun r hr' => ?_
  have hr2 : r.data.toList = s.data.toList.drop hd.size := by
    rw [hr', ext_data, show y3.toNat = hd.size by omega, List.take_of_length_le (by simp [ls])]
  have hr3 := congrArg List.length hr2
  rw [data_len, List.length_drop, ls] at hr3
  conv => cbv
  rw [hR]; refine ⟨Ext.refl _, r, true, rfl, by omega, .inl ⟨rfl, ?_⟩⟩
  rw [hr2, ← g2, hu', ← g2] 
  rw [show u.size = hd.size by rw [g2]]
  exact (List.take_append_drop _ _).symm
theorem l1digits_f {w : World} (s : ByteArray) (hs : s.size ≤ 1048576) :
    FC Tryd.prog 43 [.string s] w fun v _ => ∃ (n : Int) (ok : Bool), v = .tuple ⟨[.int .i64 n, .bool ok]⟩ ∧ ((ok = true ∧ isDig s.data.toList ∧ s.data.toList ≠ [] ∧ s.data.toList.length ≤ 18 ∧ n = dv s.data.toList 0) ∨ (ok = false ∧ ¬ (isDig s.data.toList ∧ s.data.toList ≠ [] ∧ s.data.toList.length ≤ 18))) := by
  refine FC.intro (cs := []) Tryd.func43 (by kernel_rfl) fun E R hE hr hR => ?_
  obtain ⟨l, hl⟩ : ∃ l, l = s.data.toList := ⟨_, rfl⟩
  have hll : l.length = s.size := by rw [hl, data_len]
  simp only [← hl] at hR
  have bad : ∀ w', Ext w w' → ¬ (isDig l ∧ l ≠ [] ∧ l.length ≤ 18) → R (.tuple ⟨[.int .i64 0, .bool false]⟩) w' := fun w' hx h => by
    rw [hR]; exact ⟨hx, 0, false, rfl, .inr ⟨rfl, h⟩⟩
  conv => cbv
  refine loop_rule hr (fun (t : Nat × Int × Int) w' => w' = w ∧ t.1 ≤ s.size ∧ t.1 ≤ 18 ∧ t.2.1 = (t.1 : Int) ∧ isDig (l.take t.1) ∧ t.2.2 = (dv (l.take t.1) 0 : Nat)) (fun t => [(0, .string s), (4, .int .i64 t.2.2), (5, .int .i64 t.2.1)]) (fun t => s.size - t.1) (0, 0, 0)
    (by simp [Fits, lk]) ⟨rfl, by simp, by simp, by simp, by simp [isDig], by simp [dv]⟩ ?_
  rintro I hI ⟨i, ii, n⟩ w' ⟨rfl, h1, h2, h3, h4, h5⟩
  simp only at h1 h2 h3 h4 h5
  conv => cbv
  refine st_slen hE uStr fun x hx => ?_
  conv => cbv
  refine br (fun g => ?_) (fun g => ?_)
  · have g : i < s.size := by
      have : ii < x := by simpa [hE.cmp, cmpR] using g
      omega
    have hget : l[i]? = some (s[i]'g) := by rw [hl]; exact get_byte g
    have hmem : s[i]'g ∈ l := List.mem_of_getElem? hget
    conv => cbv
    refine st_byte hE uStr (by omega) (by omega) fun b hb b0 b1 => ?_
    have hb' : b = ((s[i]'g).toNat : Int) := by rw [hb]; congr 2; simp only [show ii.toNat = i by omega]
    conv => cbv
    refine br (fun g2 => ?_) (fun g2 => ?_)
    · have g2 : b < 48 := by simpa [hE.cmp, cmpR] using g2
      conv => cbv
      exact bad _ (Ext.refl _) fun k => by have := k.1 _ hmem; omega
    have g2 : 48 ≤ b := by simp [hE.cmp, cmpR] at g2; omega
    conv => cbv
    refine st_byte hE uStr (by omega) (by omega) fun b' hb2 b0' b1' => ?_
    obtain rfl : b' = b := by rw [hb, hb2]
    conv => cbv
    refine br (fun g3 => ?_) (fun g3 => ?_)
    · have g3 : 57 < b' := by simpa [hE.cmp, cmpR] using g3
      conv => cbv
      exact bad _ (Ext.refl _) fun k => by have := k.1 _ hmem; omega
    have g3 : b' ≤ 57 := by simp [hE.cmp, cmpR] at g3; omega
    conv => cbv
    refine br (fun g4 => ?_) (fun g4 => ?_)
    · have g4 : 18 ≤ ii := by simpa [hE.cmp, cmpR] using g4
      conv => cbv
      exact bad _ (Ext.refl _) fun k => by have := k.2.2; omega
    have g4 : ii < 18 := by simp [hE.cmp, cmpR] at g4; omega
    have hdl := dv_lt (l.take i) 0 h4
    have hp : 10 ^ (l.take i).length ≤ 10 ^ 17 := Nat.pow_le_pow_right (by omega) (by simp; omega)
    obtain ⟨y1, hy1⟩ : ∃ y, y = n * 10 := ⟨_, rfl⟩
    have e1 : E.ar .mul .i64 n 10 = y1 := by rw [hE.ar, hy1]; exact wrap_in (by omega) (by omega)
    conv => cbv
    simp only [e1]
    refine st_byte hE uStr (by omega) (by omega) fun b3 hb3 b30 b31 => ?_
    obtain rfl : b3 = b' := by rw [hb3, hb2]
    obtain ⟨y2, hy2⟩ : ∃ y, y = b3 - 48 := ⟨_, rfl⟩
    have e2 : E.ar .sub .u8 b3 48 = y2 := by rw [hE.ar, hy2]; simp only [arR, IntKind.wrap, IntKind.signed, IntKind.bits]; simp; omega
    conv => cbv
    simp only [e2]
    refine st_conv hE ⟨_, uU8⟩ Tryd.underlying2 fun z hz => ?_
    have hz2 : z = y2 := by rw [hz]; exact wrap_in (by omega) (by omega)
    obtain ⟨y3, hy3⟩ : ∃ y, y = y1 + z := ⟨_, rfl⟩
    have e3 : E.ar .add .i64 y1 z = y3 := by rw [hE.ar, hy3]; exact wrap_in (by omega) (by omega)
    obtain ⟨i', hi'⟩ : ∃ z, z = ii + 1 := ⟨_, rfl⟩
    have e4 : E.ar .add .i64 ii 1 = i' := by rw [hE.ar, hi']; exact wrap_in (by omega) (by omega)
    conv => cbv
    simp only [e3, e4]
    have ht : l.take (i + 1) = l.take i ++ [s[i]'g] := by rw [List.take_add_one, hget]; rfl
    refine ⟨(i + 1, i', y3), by simp [Fits, lk], hI _ _ ⟨rfl, by simp only; omega, by simp only; omega, by simp only; omega, ?_, ?_⟩, by simp only; omega⟩
    · simp only; rw [ht]; intro c hc
      rcases List.mem_append.1 hc with hc | hc
      · exact h4 c hc
      · rw [List.mem_singleton.1 hc]; omega
    · simp only; rw [ht, dv_snoc]; omega
  · have g : i = s.size := by
      have : ¬ ii < x := by simpa [hE.cmp, cmpR] using g
      omega
    have htk : l.take i = l := List.take_of_length_le (by omega)
    rw [htk] at h4 h5
    conv => cbv
    refine st_slen hE uStr fun x3 hx3 => ?_
    obtain ⟨o, ho⟩ : ∃ o, o = E.cmp .gtr x3 0 := ⟨_, rfl⟩
    have ho' : o = true ↔ 0 < x3 := by rw [ho, hE.cmp]; simp [cmpR]
    conv => cbv
    simp only [← ho]
    rw [hR]; refine ⟨Ext.refl _, n, o, rfl, ?_⟩
    cases o with
    | true =>
      have := ho'.1 rfl
      exact .inl ⟨rfl, h4, fun e => by rw [e] at hll; simp at hll; omega, by omega, h5⟩
    | false =>
      have : ¬ 0 < x3 := fun k => by simpa using ho'.2 k
      exact .inr ⟨rfl, fun k => k.2.1 (List.eq_nil_of_length_eq_zero (by omega))⟩
theorem l1list_f {w : World} (s : ByteArray) (hs : s.size ≤ 1048000) :
    FC Tryd.prog 44 [.string s] w fun v w' => ∃ A n c xs ok, v = .tuple ⟨[.slice A n c, .bool ok]⟩ ∧ ((ok = true ∧ ListOf s.data.toList xs) ∨ (ok = false ∧ ∀ ys, ¬ ListOf s.data.toList ys)) ∧ Strs w' A n c xs ∧ Own w.heap.size 9 1 w' A n c (xs.map .string) := by
  refine FC.intro (cs := []) Tryd.func44 (by kernel_rfl) fun E R hE hr hR => ?_
  have hpl := spl_len (c := 44) _ s.data.toList (Nat.le_refl _)
  rw [data_len] at hpl
  conv => cbv
  refine br (fun g => ?_) (fun g => ?_)
  · have g : s = ⟨#[]⟩ := by simpa [hE.scmp, scmp_eql] using g
    conv => cbv
    rw [hR]; exact ⟨Ext.refl _, none, 0, 0, [], true, rfl, .inl ⟨rfl, .inl ⟨by rw [g], rfl⟩⟩, strs_nil _, Own.nil⟩
  have g : s ≠ ⟨#[]⟩ := by simpa [hE.scmp, scmp_eql] using g
  have hne : s.data.toList ≠ [] := fun e => g (toList_inj (by rw [e]))
  conv => cbv
  refine st_f hr (l1split_f s 44 44 (by decide) (by omega)) fun v w1 hx ⟨A1, n1, c1, ev, h1, o1⟩ => ?_
  subst ev
  have l1 := h1.len
  simp only [List.length_map] at l1
  conv => cbv
  refine st_f hr (sMakeSet_f h1 (by omega)) fun v w2 hx2 ⟨r, z, A2, n2, c2, ev, hm, h2, o2⟩ => ?_
  subst ev
  obtain ⟨o, ho⟩ : ∃ o, o = E.cmp .eql z 0 := ⟨_, rfl⟩
  have ho' : o = true ↔ z = 0 := by rw [ho, hE.cmp]; simp [cmpR]
  conv => cbv
  simp only [← ho]
  rw [hR]; refine ⟨hx.trans hx2, A2, n2, c2, r, o, rfl, ?_, h2, o2.mono hx.size⟩
  cases o with
  | true => exact .inl ⟨rfl, .inr ⟨hne, by have := ho'.1 rfl; rw [this] at hm; exact hm⟩⟩
  | false =>
    refine .inr ⟨rfl, fun ys hy => ?_⟩
    rcases hy with ⟨k, _⟩ | ⟨_, k⟩
    · exact hne k
    · have := ho'.2 (hm.same k).2
      simp at this
end Go.Proofs.YtjaejonnbhdddaaDoor
