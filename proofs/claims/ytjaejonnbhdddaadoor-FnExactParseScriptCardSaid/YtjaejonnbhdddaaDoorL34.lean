/- ParseScript on both sides, and its law (printed by gen34.py). -/
import Derived.Test.YtjaejonnbhdddaaDoorL33
namespace Go.Proofs.YtjaejonnbhdddaaDoor
open Go.Eng
set_option linter.unusedVariables false
set_option linter.unusedSimpArgs false
/-- The lines less an empty last one. -/
def lessE (ls : List (List UInt8)) : List (List UInt8) := if ls[ls.length - 1]? = some [] then ls.take (ls.length - 1) else ls
/-- The operations of a script. -/
def scr (l : List UInt8) : List OpV × Bool :=
  if 60000 < l.length then ([], false)
  else if 400 < (lessE (spl 10 l)).length then ([], false)
  else ((lessE (spl 10 l)).map opOf, true)
def ScrP (s : ByteArray) (w : World) (v : Value) (w' : World) : Prop :=
  ∃ A n c os b, v = .tuple ⟨[.slice A n c, .bool b]⟩ ∧ scr s.data.toList = (os, b) ∧ os.length = n ∧ n ≤ 400 ∧ Own w.heap.size 53 5 w' A n c (os.flatMap opC)
theorem Split10_f {w : World} (hl : LibV w) (s p : ByteArray) (hp : p = ⟨#[10]⟩) (hs : s.size ≤ 1048576) :
    FC Tryd.prog 37 [.string s, .string p] w (Copied w ((spl 10 s.data.toList).map mkB)) := by
  subst hp
  obtain ⟨m, hm⟩ := hl.mx
  refine ⟨⟨_, Tryd.func37, by kernel_rfl⟩, (Any.strings_Split { Tryd.laysM146 with } Tryd.laysM146.i9 s ⟨#[10]⟩ m w (by omega) hm (by decide)).mono fun e w' ⟨he, hw⟩ => ?_⟩
  have hln := Lib.splitB_all ⟨#[10]⟩ (by decide) 0 _ s rfl
  have hpl := spl_len (c := 10) _ s.data.toList (Nat.le_refl _)
  rw [data_len] at hpl
  have hs2 := splitB_spl 10 s
  rw [hs2] at hw hln
  have hown := World.ownsRow_lit (e := 9) (size := 1) (base := w.heap.size) w (((spl 10 s.data.toList).map mkB).map Value.string).toArray (Lib.countB s ⟨#[10]⟩ + 1) (Nat.le_refl _) (by simp only [List.length_map] at hln; unfold maxLen; omega) (by simp only [List.size_toArray, List.length_map] at hln ⊢; omega)
  have ho : Own w.heap.size 9 1 w' (some ⟨w.heap.size, 0, none⟩) (Lib.countB s ⟨#[10]⟩ + 1) (Lib.countB s ⟨#[10]⟩ + 1) (((spl 10 s.data.toList).map mkB).map .string) := by
    rw [hw]; exact hown
  refine ⟨_, he, by rw [hw]; exact (Ext.refl w).alloc (Nat.le_refl _) _, _, _, _, rfl, ho.strs fun u hu => ?_, ho⟩
  obtain ⟨q, hq, rfl⟩ := List.mem_map.1 hu
  have := spl_small _ s.data.toList (Nat.le_refl _) q hq
  rw [data_len] at this
  simp only [mkB, ByteArray.size, List.size_toArray] at hs ⊢
  exact Nat.le_trans (Nat.le_trans this hs) (by decide)
set_option maxHeartbeats 1000000 in
theorem sParseScript_f {w : World} (s : ByteArray) (hs : s.size ≤ 1048576) : FC Tryd.prog 14 [.string s] w (ScrP s w) := by
  refine FC.intro (cs := []) Tryd.func14 (by kernel_rfl) fun E R hE hr hR => ?_
  obtain ⟨l, hl⟩ : ∃ l, l = s.data.toList := ⟨_, rfl⟩
  have hll : l.length = s.size := by rw [hl, data_len]
  have SE : ∀ x y : ByteArray, x = y → E.scmp .eql x y = true := fun x y h => by rw [hE.scmp, scmp_eql]; exact h
  unfold ScrP at hR
  rw [← hl] at hR
  conv => cbv
  refine st_slen hE uStr fun x hx0 => ?_
  conv => cbv
  refine br (fun g => ?_) (fun g => ?_)
  · have g : 60000 < x := by simpa [hE.cmp, cmpR] using g
    conv => cbv
    rw [hR]; exact ⟨Ext.refl _, none, 0, 0, [], false, rfl, by unfold scr; rw [if_pos (by omega)], rfl, by omega, Own.nil⟩
  have g : l.length ≤ 60000 := by simp [hE.cmp, cmpR] at g; omega
  have hpl := spl_len (c := 10) _ l (Nat.le_refl _)
  have hpos := List.length_pos_iff.2 (spl_ne 10 l)
  conv => cbv
  refine st_f hr (l1split_f s 10 10 (by decide) (by omega)) fun v w1 hx ⟨A1, n1, c1, ev, h1, o1⟩ => ?_
  subst ev
  rw [← hl] at h1 o1
  have l1 := h1.len
  rw [List.length_map] at l1
  conv => cbv
  refine st_len hE tStrs fun y hy => ?_
  conv => cbv
  obtain ⟨y1, hy1⟩ : ∃ q, q = y - 1 := ⟨_, rfl⟩
  have ey : E.ar .sub .i64 y 1 = y1 := by rw [hE.ar, hy1]; exact wrap_in (by omega) (by omega)
  simp only [ey]
  refine st_str hE tStrs h1 (k := n1 - 1) (by omega) (by omega) fun p u hu _ hp => ?_
  simp only [List.getElem?_map, Option.map_eq_some_iff] at hu
  obtain ⟨ul, hul, hu⟩ := hu
  conv => cbv
  refine st_load hE cStr hp ?_
  conv => cbv
  refine br (fun g2 => ?_) (fun g2 => ?_)
  · have g2 : u = ⟨#[]⟩ := by simpa [hE.scmp, scmp_eql] using g2
    have hul0 : ul = [] := by rw [g2] at hu; simpa [mkB] using hu
    conv => cbv
    refine st_len hE tStrs fun y4 hy4 => ?_
    obtain rfl : y4 = y := by omega
    conv => cbv
    simp only [ey]
    refine st_upto hE tStrs (hi := n1 - 1) o1 (by omega) (by omega) fun o2 => ?_
    rw [Nat.mul_one, ← List.map_take, ← List.map_take] at o2
    have hls : (spl 10 l).take (n1 - 1) = lessE (spl 10 l) := by unfold lessE; rw [l1, hul, hul0, if_pos rfl]
    have hmem : ∀ q ∈ (spl 10 l).take (n1 - 1), q ∈ spl 10 l := fun q hq => List.mem_of_mem_take hq
    obtain ⟨n2, hn2⟩ : ∃ n2, n2 = n1 - 1 := ⟨_, rfl⟩
    rw [← hn2] at o2 hls hmem ⊢
    obtain ⟨ls, hlsd⟩ : ∃ ls, ls = (spl 10 l).take n2 := ⟨_, rfl⟩
    rw [← hlsd] at o2 hls hmem
    have l2 := o2.len
    rw [List.length_map, List.length_map, Nat.mul_one] at l2
    have s2 : Strs w1 A1 n2 c1 (ls.map mkB) := o2.strs fun u hu => by
      obtain ⟨q, hq, rfl⟩ := List.mem_map.1 hu
      have := spl_small _ l (Nat.le_refl _) q (hmem q hq)
      simp only [mkB, ByteArray.size, List.size_toArray]; omega
    conv => cbv
    refine st_len hE tStrs fun y2 hy2 => ?_
    conv => cbv
    refine br (fun g3 => ?_) (fun g3 => ?_)
    · have g3 : 400 < y2 := by simpa [hE.cmp, cmpR] using g3
      conv => cbv
      rw [hR]; exact ⟨hx, none, 0, 0, [], false, rfl, by unfold scr; rw [if_neg (by omega), ← hls, if_pos (by omega)], rfl, by omega, Own.nil⟩
    have g3 : n2 ≤ 400 := by simp [hE.cmp, cmpR] at g3; omega
    have hsc : scr l = (ls.map opOf, true) := by unfold scr; rw [if_neg (by omega), ← hls, if_neg (by omega)]
    conv => cbv
    refine st_len hE tStrs fun y3 hy3 => ?_
    conv => cbv
    refine loop_rule hr (fun (t : Nat × Int × Option Addr × Nat × Nat) w' => Ext w1 w' ∧ t.1 ≤ n2 ∧ t.2.1 = (t.1 : Int) ∧ t.2.2.2.1 = t.1 ∧ Own w1.heap.size 53 5 w' t.2.2.1 t.2.2.2.1 t.2.2.2.2 (((ls.take t.1).map opOf).flatMap opC))
      (fun t => [(5, .slice t.2.2.1 t.2.2.2.1 t.2.2.2.2), (28, .slice A1 n2 c1), (29, .int .i64 y3), (30, .int .i64 t.2.1)]) (fun t => n2 - t.1) (0, 0, none, 0, 0)
      (by simp [Fits, lk]) ⟨Ext.refl _, by simp, by simp, rfl, by simpa using Own.nil⟩ ?_
    rintro I hI ⟨i, ii, A4, n4, c4⟩ w4 ⟨hx4, hi, hii, hn4, o4⟩
    simp only at hi hii hn4 o4
    have s4 := s2.ext hx4
    obtain ⟨i', hi'⟩ : ∃ z, z = ii + 1 := ⟨_, rfl⟩
    conv => cbv
    refine br (fun g4 => ?_) (fun g4 => ?_)
    · have g4 : i < n2 := by
        have : ii < y3 := by simpa [hE.cmp, cmpR] using g4
        omega
      have e1 : E.ar .add .i64 ii 1 = i' := by rw [hE.ar, hi']; exact wrap_in (by omega) (by omega)
      conv => cbv
      refine st_str hE tStrs s4 (k := i) (by omega) (by omega) fun p u hu _ hp => ?_
      simp only [List.getElem?_map, Option.map_eq_some_iff] at hu
      obtain ⟨ul, hul, hu⟩ := hu
      have hus : u.size ≤ 1048576 := by
        have := spl_small _ l (Nat.le_refl _) ul (hmem ul (List.mem_of_getElem? hul))
        rw [← hu]; simp only [mkB, ByteArray.size, List.size_toArray]; omega
      conv => cbv
      refine st_load hE cStr hp ?_
      conv => cbv
      refine st_f hr (l7op_f u hus) fun v w5 hx5 ⟨k, nm, ot, tx, nu, ev, hop⟩ => ?_
      subst ev
      rw [← hu, data_mkB] at hop
      replace o4 := o4.bel hx5
      replace hx4 := hx4.trans hx5
      conv => cbv
      refine st_oneS hr tOps rfl (by omega) (by omega) rfl fun A5 w6 hx6 hc5 => ?_
      replace o4 := o4.bel hx6
      replace hx4 := hx4.trans hx6
      conv => cbv
      refine st_appsK hr tOps rfl (by omega) o4 hc5 (m1 := 1) rfl (by omega) (by simp [Value.oneCell']) hx4.size (by omega) (by omega) fun A7 c7 n7 w7 hn7 hw7 o7 => ?_
      conv => cbv
      simp only [e1]
      refine ⟨(i + 1, i', A7, n7, c7), by simp [Fits, lk], hI _ _ ⟨hx4.then (hw7.bel o4 hx4.size), by simp only; omega, by simp only; omega, by simp only; omega, ?_⟩, by simp only; omega⟩
      simp only
      rw [List.take_add_one, hul, List.map_append, List.flatMap_append]
      simp only [Option.toList, List.map_cons, List.map_nil, hop, List.flatMap_cons, List.flatMap_nil, List.append_nil]
      exact o7
    · have g4 : i = n2 := by
        have : ¬ ii < y3 := by simpa [hE.cmp, cmpR] using g4
        omega
      rw [List.take_of_length_le (by omega)] at o4
      conv => cbv
      rw [hR]; exact ⟨hx.trans hx4, A4, n4, c4, _, true, rfl, hsc, by rw [List.length_map]; omega, by omega, o4.mono hx.size⟩
  · have g2 : ¬ u = ⟨#[]⟩ := fun e => g2 (SE _ _ e)
    have hls : spl 10 l = lessE (spl 10 l) := by
      unfold lessE; rw [l1, hul, if_neg (fun e => g2 (by rw [← hu, Option.some.inj e]; rfl))]
    have hmem : ∀ q ∈ spl 10 l, q ∈ spl 10 l := fun q hq => hq
    have o2 := o1
    obtain ⟨ls, hlsd⟩ : ∃ ls, ls = spl 10 l := ⟨_, rfl⟩
    obtain ⟨n2, hn2⟩ : ∃ n2, n2 = n1 := ⟨_, rfl⟩
    have hlsx : ls = lessE (spl 10 l) := by rw [hlsd]; exact hls
    rw [← hlsd] at o2
    replace hmem : ∀ q ∈ ls, q ∈ spl 10 l := fun q hq => by rw [hlsd] at hq; exact hq
    rw [← hn2] at o2 ⊢
    have l2 := o2.len
    rw [List.length_map, List.length_map, Nat.mul_one] at l2
    have s2 : Strs w1 A1 n2 c1 (ls.map mkB) := o2.strs fun u hu => by
      obtain ⟨q, hq, rfl⟩ := List.mem_map.1 hu
      have := spl_small _ l (Nat.le_refl _) q (hmem q hq)
      simp only [mkB, ByteArray.size, List.size_toArray]; omega
    conv => cbv
    refine st_len hE tStrs fun y2 hy2 => ?_
    conv => cbv
    refine br (fun g3 => ?_) (fun g3 => ?_)
    · have g3 : 400 < y2 := by simpa [hE.cmp, cmpR] using g3
      conv => cbv
      rw [hR]; exact ⟨hx, none, 0, 0, [], false, rfl, by unfold scr; rw [if_neg (by omega), ← hlsx, if_pos (by omega)], rfl, by omega, Own.nil⟩
    have g3 : n2 ≤ 400 := by simp [hE.cmp, cmpR] at g3; omega
    have hsc : scr l = (ls.map opOf, true) := by unfold scr; rw [if_neg (by omega), ← hlsx, if_neg (by omega)]
    conv => cbv
    refine st_len hE tStrs fun y3 hy3 => ?_
    conv => cbv
    refine loop_rule hr (fun (t : Nat × Int × Option Addr × Nat × Nat) w' => Ext w1 w' ∧ t.1 ≤ n2 ∧ t.2.1 = (t.1 : Int) ∧ t.2.2.2.1 = t.1 ∧ Own w1.heap.size 53 5 w' t.2.2.1 t.2.2.2.1 t.2.2.2.2 (((ls.take t.1).map opOf).flatMap opC))
      (fun t => [(5, .slice t.2.2.1 t.2.2.2.1 t.2.2.2.2), (28, .slice A1 n2 c1), (29, .int .i64 y3), (30, .int .i64 t.2.1)]) (fun t => n2 - t.1) (0, 0, none, 0, 0)
      (by simp [Fits, lk]) ⟨Ext.refl _, by simp, by simp, rfl, by simpa using Own.nil⟩ ?_
    rintro I hI ⟨i, ii, A4, n4, c4⟩ w4 ⟨hx4, hi, hii, hn4, o4⟩
    simp only at hi hii hn4 o4
    have s4 := s2.ext hx4
    obtain ⟨i', hi'⟩ : ∃ z, z = ii + 1 := ⟨_, rfl⟩
    conv => cbv
    refine br (fun g4 => ?_) (fun g4 => ?_)
    · have g4 : i < n2 := by
        have : ii < y3 := by simpa [hE.cmp, cmpR] using g4
        omega
      have e1 : E.ar .add .i64 ii 1 = i' := by rw [hE.ar, hi']; exact wrap_in (by omega) (by omega)
      conv => cbv
      refine st_str hE tStrs s4 (k := i) (by omega) (by omega) fun p u hu _ hp => ?_
      simp only [List.getElem?_map, Option.map_eq_some_iff] at hu
      obtain ⟨ul, hul, hu⟩ := hu
      have hus : u.size ≤ 1048576 := by
        have := spl_small _ l (Nat.le_refl _) ul (hmem ul (List.mem_of_getElem? hul))
        rw [← hu]; simp only [mkB, ByteArray.size, List.size_toArray]; omega
      conv => cbv
      refine st_load hE cStr hp ?_
      conv => cbv
      refine st_f hr (l7op_f u hus) fun v w5 hx5 ⟨k, nm, ot, tx, nu, ev, hop⟩ => ?_
      subst ev
      rw [← hu, data_mkB] at hop
      replace o4 := o4.bel hx5
      replace hx4 := hx4.trans hx5
      conv => cbv
      refine st_oneS hr tOps rfl (by omega) (by omega) rfl fun A5 w6 hx6 hc5 => ?_
      replace o4 := o4.bel hx6
      replace hx4 := hx4.trans hx6
      conv => cbv
      refine st_appsK hr tOps rfl (by omega) o4 hc5 (m1 := 1) rfl (by omega) (by simp [Value.oneCell']) hx4.size (by omega) (by omega) fun A7 c7 n7 w7 hn7 hw7 o7 => ?_
      conv => cbv
      simp only [e1]
      refine ⟨(i + 1, i', A7, n7, c7), by simp [Fits, lk], hI _ _ ⟨hx4.then (hw7.bel o4 hx4.size), by simp only; omega, by simp only; omega, by simp only; omega, ?_⟩, by simp only; omega⟩
      simp only
      rw [List.take_add_one, hul, List.map_append, List.flatMap_append]
      simp only [Option.toList, List.map_cons, List.map_nil, hop, List.flatMap_cons, List.flatMap_nil, List.append_nil]
      exact o7
    · have g4 : i = n2 := by
        have : ¬ ii < y3 := by simpa [hE.cmp, cmpR] using g4
        omega
      rw [List.take_of_length_le (by omega)] at o4
      conv => cbv
      rw [hR]; exact ⟨hx.trans hx4, A4, n4, c4, _, true, rfl, hsc, by rw [List.length_map]; omega, by omega, o4.mono hx.size⟩
set_option maxHeartbeats 1000000 in
theorem ParseScript_f {w : World} (hlv : LibV w) (s : ByteArray) (hs : s.size ≤ 1048576) : FC Tryd.prog 15 [.string s] w (ScrP s w) := by
  refine FC.intro (cs := []) Tryd.func15 (by kernel_rfl) fun E R hE hr hR => ?_
  obtain ⟨l, hl⟩ : ∃ l, l = s.data.toList := ⟨_, rfl⟩
  have hll : l.length = s.size := by rw [hl, data_len]
  have SE : ∀ x y : ByteArray, x = y → E.scmp .eql x y = true := fun x y h => by rw [hE.scmp, scmp_eql]; exact h
  unfold ScrP at hR
  rw [← hl] at hR
  conv => cbv
  refine st_slen hE uStr fun x hx0 => ?_
  conv => cbv
  refine br (fun g => ?_) (fun g => ?_)
  · have g : 60000 < x := by simpa [hE.cmp, cmpR] using g
    conv => cbv
    rw [hR]; exact ⟨Ext.refl _, none, 0, 0, [], false, rfl, by unfold scr; rw [if_pos (by omega)], rfl, by omega, Own.nil⟩
  have g : l.length ≤ 60000 := by simp [hE.cmp, cmpR] at g; omega
  have hpl := spl_len (c := 10) _ l (Nat.le_refl _)
  have hpos := List.length_pos_iff.2 (spl_ne 10 l)
  conv => cbv
  refine st_f hr (Split10_f hlv s _ rfl (by omega)) fun v w1 hx ⟨A1, n1, c1, ev, h1, o1⟩ => ?_
  subst ev
  rw [← hl] at h1 o1
  have l1 := h1.len
  rw [List.length_map] at l1
  conv => cbv
  refine st_len hE tStrs fun y hy => ?_
  conv => cbv
  obtain ⟨y1, hy1⟩ : ∃ q, q = y - 1 := ⟨_, rfl⟩
  have ey : E.ar .sub .i64 y 1 = y1 := by rw [hE.ar, hy1]; exact wrap_in (by omega) (by omega)
  simp only [ey]
  refine st_str hE tStrs h1 (k := n1 - 1) (by omega) (by omega) fun p u hu _ hp => ?_
  simp only [List.getElem?_map, Option.map_eq_some_iff] at hu
  obtain ⟨ul, hul, hu⟩ := hu
  conv => cbv
  refine st_load hE cStr hp ?_
  conv => cbv
  refine br (fun g2 => ?_) (fun g2 => ?_)
  · have g2 : u = ⟨#[]⟩ := by simpa [hE.scmp, scmp_eql] using g2
    have hul0 : ul = [] := by rw [g2] at hu; simpa [mkB] using hu
    conv => cbv
    refine st_len hE tStrs fun y4 hy4 => ?_
    obtain rfl : y4 = y := by omega
    conv => cbv
    simp only [ey]
    refine st_upto hE tStrs (hi := n1 - 1) o1 (by omega) (by omega) fun o2 => ?_
    rw [Nat.mul_one, ← List.map_take, ← List.map_take] at o2
    have hls : (spl 10 l).take (n1 - 1) = lessE (spl 10 l) := by unfold lessE; rw [l1, hul, hul0, if_pos rfl]
    have hmem : ∀ q ∈ (spl 10 l).take (n1 - 1), q ∈ spl 10 l := fun q hq => List.mem_of_mem_take hq
    obtain ⟨n2, hn2⟩ : ∃ n2, n2 = n1 - 1 := ⟨_, rfl⟩
    rw [← hn2] at o2 hls hmem ⊢
    obtain ⟨ls, hlsd⟩ : ∃ ls, ls = (spl 10 l).take n2 := ⟨_, rfl⟩
    rw [← hlsd] at o2 hls hmem
    have l2 := o2.len
    rw [List.length_map, List.length_map, Nat.mul_one] at l2
    have s2 : Strs w1 A1 n2 c1 (ls.map mkB) := o2.strs fun u hu => by
      obtain ⟨q, hq, rfl⟩ := List.mem_map.1 hu
      have := spl_small _ l (Nat.le_refl _) q (hmem q hq)
      simp only [mkB, ByteArray.size, List.size_toArray]; omega
    conv => cbv
    refine st_len hE tStrs fun y2 hy2 => ?_
    conv => cbv
    refine br (fun g3 => ?_) (fun g3 => ?_)
    · have g3 : 400 < y2 := by simpa [hE.cmp, cmpR] using g3
      conv => cbv
      rw [hR]; exact ⟨hx, none, 0, 0, [], false, rfl, by unfold scr; rw [if_neg (by omega), ← hls, if_pos (by omega)], rfl, by omega, Own.nil⟩
    have g3 : n2 ≤ 400 := by simp [hE.cmp, cmpR] at g3; omega
    have hsc : scr l = (ls.map opOf, true) := by unfold scr; rw [if_neg (by omega), ← hls, if_neg (by omega)]
    conv => cbv
    refine st_none hr tOps fun A3 w3 hx3 h30 => ?_
    have o3 := h30 _ (Nat.le_refl _)
    clear h30
    conv => cbv
    refine st_len hE tStrs fun y3 hy3 => ?_
    conv => cbv
    refine loop_rule hr (fun (t : Nat × Int × Option Addr × Nat × Nat) w' => Ext w1 w' ∧ t.1 ≤ n2 ∧ t.2.1 = (t.1 : Int) ∧ t.2.2.2.1 = t.1 ∧ Own w1.heap.size 53 5 w' t.2.2.1 t.2.2.2.1 t.2.2.2.2 (((ls.take t.1).map opOf).flatMap opC))
      (fun t => [(5, .slice t.2.2.1 t.2.2.2.1 t.2.2.2.2), (29, .slice A1 n2 c1), (30, .int .i64 y3), (31, .int .i64 t.2.1)]) (fun t => n2 - t.1) (0, 0, A3, 0, 0)
      (by simp [Fits, lk]) ⟨hx3, by simp, by simp, rfl, by simpa using o3⟩ ?_
    rintro I hI ⟨i, ii, A4, n4, c4⟩ w4 ⟨hx4, hi, hii, hn4, o4⟩
    simp only at hi hii hn4 o4
    have s4 := s2.ext hx4
    obtain ⟨i', hi'⟩ : ∃ z, z = ii + 1 := ⟨_, rfl⟩
    conv => cbv
    refine br (fun g4 => ?_) (fun g4 => ?_)
    · have g4 : i < n2 := by
        have : ii < y3 := by simpa [hE.cmp, cmpR] using g4
        omega
      have e1 : E.ar .add .i64 ii 1 = i' := by rw [hE.ar, hi']; exact wrap_in (by omega) (by omega)
      conv => cbv
      refine st_str hE tStrs s4 (k := i) (by omega) (by omega) fun p u hu _ hp => ?_
      simp only [List.getElem?_map, Option.map_eq_some_iff] at hu
      obtain ⟨ul, hul, hu⟩ := hu
      have hus : u.size ≤ 1048576 := by
        have := spl_small _ l (Nat.le_refl _) ul (hmem ul (List.mem_of_getElem? hul))
        rw [← hu]; simp only [mkB, ByteArray.size, List.size_toArray]; omega
      conv => cbv
      refine st_load hE cStr hp ?_
      conv => cbv
      refine st_f hr (readOp_f (hlv.ext (hx.trans hx4)) u hus) fun v w5 hx5 ⟨k, nm, ot, tx, nu, ev, hop⟩ => ?_
      subst ev
      rw [← hu, data_mkB] at hop
      replace o4 := o4.bel hx5
      replace hx4 := hx4.trans hx5
      conv => cbv
      refine st_oneS hr tOps rfl (by omega) (by omega) rfl fun A5 w6 hx6 hc5 => ?_
      replace o4 := o4.bel hx6
      replace hx4 := hx4.trans hx6
      conv => cbv
      refine st_appsK hr tOps rfl (by omega) o4 hc5 (m1 := 1) rfl (by omega) (by simp [Value.oneCell']) hx4.size (by omega) (by omega) fun A7 c7 n7 w7 hn7 hw7 o7 => ?_
      conv => cbv
      simp only [e1]
      refine ⟨(i + 1, i', A7, n7, c7), by simp [Fits, lk], hI _ _ ⟨hx4.then (hw7.bel o4 hx4.size), by simp only; omega, by simp only; omega, by simp only; omega, ?_⟩, by simp only; omega⟩
      simp only
      rw [List.take_add_one, hul, List.map_append, List.flatMap_append]
      simp only [Option.toList, List.map_cons, List.map_nil, hop, List.flatMap_cons, List.flatMap_nil, List.append_nil]
      exact o7
    · have g4 : i = n2 := by
        have : ¬ ii < y3 := by simpa [hE.cmp, cmpR] using g4
        omega
      rw [List.take_of_length_le (by omega)] at o4
      conv => cbv
      rw [hR]; exact ⟨hx.trans hx4, A4, n4, c4, _, true, rfl, hsc, by rw [List.length_map]; omega, by omega, o4.mono hx.size⟩
  · have g2 : ¬ u = ⟨#[]⟩ := fun e => g2 (SE _ _ e)
    have hls : spl 10 l = lessE (spl 10 l) := by
      unfold lessE; rw [l1, hul, if_neg (fun e => g2 (by rw [← hu, Option.some.inj e]; rfl))]
    have hmem : ∀ q ∈ spl 10 l, q ∈ spl 10 l := fun q hq => hq
    have o2 := o1
    obtain ⟨ls, hlsd⟩ : ∃ ls, ls = spl 10 l := ⟨_, rfl⟩
    obtain ⟨n2, hn2⟩ : ∃ n2, n2 = n1 := ⟨_, rfl⟩
    have hlsx : ls = lessE (spl 10 l) := by rw [hlsd]; exact hls
    rw [← hlsd] at o2
    replace hmem : ∀ q ∈ ls, q ∈ spl 10 l := fun q hq => by rw [hlsd] at hq; exact hq
    rw [← hn2] at o2 ⊢
    have l2 := o2.len
    rw [List.length_map, List.length_map, Nat.mul_one] at l2
    have s2 : Strs w1 A1 n2 c1 (ls.map mkB) := o2.strs fun u hu => by
      obtain ⟨q, hq, rfl⟩ := List.mem_map.1 hu
      have := spl_small _ l (Nat.le_refl _) q (hmem q hq)
      simp only [mkB, ByteArray.size, List.size_toArray]; omega
    conv => cbv
    refine st_len hE tStrs fun y2 hy2 => ?_
    conv => cbv
    refine br (fun g3 => ?_) (fun g3 => ?_)
    · have g3 : 400 < y2 := by simpa [hE.cmp, cmpR] using g3
      conv => cbv
      rw [hR]; exact ⟨hx, none, 0, 0, [], false, rfl, by unfold scr; rw [if_neg (by omega), ← hlsx, if_pos (by omega)], rfl, by omega, Own.nil⟩
    have g3 : n2 ≤ 400 := by simp [hE.cmp, cmpR] at g3; omega
    have hsc : scr l = (ls.map opOf, true) := by unfold scr; rw [if_neg (by omega), ← hlsx, if_neg (by omega)]
    conv => cbv
    refine st_none hr tOps fun A3 w3 hx3 h30 => ?_
    have o3 := h30 _ (Nat.le_refl _)
    clear h30
    conv => cbv
    refine st_len hE tStrs fun y3 hy3 => ?_
    conv => cbv
    refine loop_rule hr (fun (t : Nat × Int × Option Addr × Nat × Nat) w' => Ext w1 w' ∧ t.1 ≤ n2 ∧ t.2.1 = (t.1 : Int) ∧ t.2.2.2.1 = t.1 ∧ Own w1.heap.size 53 5 w' t.2.2.1 t.2.2.2.1 t.2.2.2.2 (((ls.take t.1).map opOf).flatMap opC))
      (fun t => [(5, .slice t.2.2.1 t.2.2.2.1 t.2.2.2.2), (29, .slice A1 n2 c1), (30, .int .i64 y3), (31, .int .i64 t.2.1)]) (fun t => n2 - t.1) (0, 0, A3, 0, 0)
      (by simp [Fits, lk]) ⟨hx3, by simp, by simp, rfl, by simpa using o3⟩ ?_
    rintro I hI ⟨i, ii, A4, n4, c4⟩ w4 ⟨hx4, hi, hii, hn4, o4⟩
    simp only at hi hii hn4 o4
    have s4 := s2.ext hx4
    obtain ⟨i', hi'⟩ : ∃ z, z = ii + 1 := ⟨_, rfl⟩
    conv => cbv
    refine br (fun g4 => ?_) (fun g4 => ?_)
    · have g4 : i < n2 := by
        have : ii < y3 := by simpa [hE.cmp, cmpR] using g4
        omega
      have e1 : E.ar .add .i64 ii 1 = i' := by rw [hE.ar, hi']; exact wrap_in (by omega) (by omega)
      conv => cbv
      refine st_str hE tStrs s4 (k := i) (by omega) (by omega) fun p u hu _ hp => ?_
      simp only [List.getElem?_map, Option.map_eq_some_iff] at hu
      obtain ⟨ul, hul, hu⟩ := hu
      have hus : u.size ≤ 1048576 := by
        have := spl_small _ l (Nat.le_refl _) ul (hmem ul (List.mem_of_getElem? hul))
        rw [← hu]; simp only [mkB, ByteArray.size, List.size_toArray]; omega
      conv => cbv
      refine st_load hE cStr hp ?_
      conv => cbv
      refine st_f hr (readOp_f (hlv.ext (hx.trans hx4)) u hus) fun v w5 hx5 ⟨k, nm, ot, tx, nu, ev, hop⟩ => ?_
      subst ev
      rw [← hu, data_mkB] at hop
      replace o4 := o4.bel hx5
      replace hx4 := hx4.trans hx5
      conv => cbv
      refine st_oneS hr tOps rfl (by omega) (by omega) rfl fun A5 w6 hx6 hc5 => ?_
      replace o4 := o4.bel hx6
      replace hx4 := hx4.trans hx6
      conv => cbv
      refine st_appsK hr tOps rfl (by omega) o4 hc5 (m1 := 1) rfl (by omega) (by simp [Value.oneCell']) hx4.size (by omega) (by omega) fun A7 c7 n7 w7 hn7 hw7 o7 => ?_
      conv => cbv
      simp only [e1]
      refine ⟨(i + 1, i', A7, n7, c7), by simp [Fits, lk], hI _ _ ⟨hx4.then (hw7.bel o4 hx4.size), by simp only; omega, by simp only; omega, by simp only; omega, ?_⟩, by simp only; omega⟩
      simp only
      rw [List.take_add_one, hul, List.map_append, List.flatMap_append]
      simp only [Option.toList, List.map_cons, List.map_nil, hop, List.flatMap_cons, List.flatMap_nil, List.append_nil]
      exact o7
    · have g4 : i = n2 := by
        have : ¬ ii < y3 := by simpa [hE.cmp, cmpR] using g4
        omega
      rw [List.take_of_length_le (by omega)] at o4
      conv => cbv
      rw [hR]; exact ⟨hx.trans hx4, A4, n4, c4, _, true, rfl, hsc, by rw [List.length_map]; omega, by omega, o4.mono hx.size⟩
theorem lawParseScript (t : ByteArray) (w : World) (hl : LibV w) (ht0 : t.size ≤ 9223372036854775807) : Law Tryd.prog 4 [.string t] w := by
  refine FC.intro (cs := []) Tryd.func4 (by kernel_rfl) fun E R hE hr hR => ?_
  conv => cbv
  refine st_slen hE uStr fun x hx0 => ?_
  conv => cbv
  refine br (fun _ => ?_) (fun g => ?_)
  · conv => cbv
    rw [hR]; exact ⟨Ext.refl _, rfl⟩
  have ht : t.size ≤ 1048576 := by simp [hE.cmp, cmpR] at g; omega
  conv => cbv
  refine st_f hr (sParseScript_f t ht) fun v w1 hx ⟨A1, n1, c1, os, b1, ev, hp, l1, m1, o1⟩ => ?_
  subst ev
  conv => cbv
  refine st_f hr (ParseScript_f (hl.ext hx) t ht) fun v w4 hx4 ⟨A4, n4, c4, os', b4, ev, hp', l4, m4, o4⟩ => ?_
  subst ev
  rw [hp] at hp'
  cases hp'
  obtain rfl : n1 = n4 := by omega
  have ap14 := o1.apart o4 (Nat.le_refl _)
  replace o4 := o4.mono hx.size
  replace o1 := o1.bel hx4
  replace hx := hx.trans hx4
  conv => cbv
  refine st_f hr (eqOpS_f (ops_own o4) (ops_own o1) (by omega)) fun v w7 hx7 ev => ?_
  subst ev
  replace o1 := o1.bel hx7
  replace o4 := o4.bel hx7
  replace hx := hx.trans hx7
  conv => cbv
  refine st_bne hE uBool fun v hv => ?_
  obtain rfl : v = false := by rw [← Bool.not_eq_true, hv]; simp
  conv => cbv
  refine st_g hr (markOpS_g o4 1 (by omega) (by omega)) fun v w8 ⟨ev, o4', hwm⟩ => ?_
  subst ev
  obtain ⟨z3, hz3⟩ : ∃ z : Int, z = 1 + 5 * (n1 : Int) := ⟨_, rfl⟩
  rw [← hz3]
  replace o1 := o1.wr hwm ap14.1
  replace hx := hx.then (hwm.bel o4 hx.size)
  clear o4 hwm
  have s8 := ops_own o4'
  have ez : E.cmp .lss z3 0 = false := by rw [hE.cmp]; simp [cmpR]; omega
  have ez2 : E.cmp .neq z3 z3 = false := by rw [hE.cmp]; simp [cmpR]
  conv => cbv
  refine st_f hr (heldOpS_f s8 (by omega) (by omega)) fun v wh hxh ev => ?_
  rw [← hz3] at ev
  subst ev
  replace o1 := o1.bel hxh
  replace s8 := s8.ext hxh
  replace hx := hx.trans hxh
  conv => cbv
  simp only [ez]
  conv => cbv
  simp only [ez2]
  conv => cbv
  refine st_f hr (ParseScript_f (hl.ext hx) t ht) fun v w10 hx10 ⟨A7, n7, c7, os7, b7, ev, hp7, l7, m7, o7⟩ => ?_
  subst ev
  rw [hp] at hp7
  cases hp7
  obtain rfl : n1 = n7 := by omega
  replace o1 := o1.bel hx10
  replace s8 := s8.ext hx10
  replace hx := hx.trans hx10
  conv => cbv
  refine st_f hr (eqOpS_f (ops_own o7) (ops_own o1) (by omega)) fun v w13 hx13 ev => ?_
  subst ev
  replace o1 := o1.bel hx13
  replace s8 := s8.ext hx13
  replace hx := hx.trans hx13
  conv => cbv
  refine st_bne hE uBool fun v hv => ?_
  obtain rfl : v = false := by rw [← Bool.not_eq_true, hv]; simp
  conv => cbv
  refine st_f hr (heldOpS_f s8 (by omega) (by omega)) fun v wh hxh ev => ?_
  rw [← hz3] at ev
  subst ev
  replace o1 := o1.bel hxh
  replace s8 := s8.ext hxh
  replace hx := hx.trans hxh
  conv => cbv
  simp only [ez]
  conv => cbv
  simp only [ez2]
  conv => cbv
  rw [hR]; exact ⟨hx, rfl⟩
end Go.Proofs.YtjaejonnbhdddaaDoor
