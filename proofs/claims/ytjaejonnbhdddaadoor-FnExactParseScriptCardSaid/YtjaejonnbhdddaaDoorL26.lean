/- The program's reading of an ask (printed by gen26.py). -/
import Derived.Test.YtjaejonnbhdddaaDoorL25
import Derived.Test.YtjaejonnbhdddaaDoorSh103
import Derived.Test.YtjaejonnbhdddaaDoorSh145
import Derived.Test.YtjaejonnbhdddaaDoorSh146
import Derived.Test.YtjaejonnbhdddaaDoorSh174
import Derived.Lib.AtoiErrMem
import Derived.Lib.ParseIntBTie
namespace Go.Proofs.YtjaejonnbhdddaaDoor
open Go.Eng
set_option linter.unusedVariables false
set_option linter.unusedSimpArgs false
/-- What the library's variables hold. -/
structure LibV (w : World) : Prop where
  pow : Pow w
  mx : ∃ m, w.cell? ⟨3, 0, none⟩ = some (.int .i64 m)
  es : ∃ t p, w.cell? ⟨4, 0, none⟩ = some (.iface t p)
  er : ∃ t p, w.cell? ⟨5, 0, none⟩ = some (.iface t p)
theorem LibV.ext {w w' : World} (h : LibV w) (hx : Ext w w') : LibV w' :=
  ⟨TabIs_ext h.pow hx, h.mx.elim fun m k => ⟨m, hx.cell k⟩, h.es.elim fun t ⟨p, k⟩ => ⟨t, p, hx.cell k⟩, h.er.elim fun t ⟨p, k⟩ => ⟨t, p, hx.cell k⟩⟩
theorem pre_split {l p : List UInt8} : (Lib.hasPrefix l p = true ∧ l = p ++ Lib.trimPrefix l p) ∨ (Lib.hasPrefix l p = false ∧ Lib.trimPrefix l p = l ∧ ∀ r, l ≠ p ++ r) := by
  cases h : Lib.hasPrefix l p with
  | true =>
    obtain ⟨r, hr⟩ := List.isPrefixOf_iff_prefix.1 h
    refine .inl ⟨rfl, ?_⟩
    unfold Lib.trimPrefix
    rw [if_pos h, ← hr]; simp
  | false =>
    refine .inr ⟨rfl, by unfold Lib.trimPrefix; rw [h]; rfl, fun r e => ?_⟩
    have : Lib.hasPrefix l p = true := List.isPrefixOf_iff_prefix.2 ⟨r, e.symm⟩
    rw [h] at this; cases this
theorem CutPrefix_f {w : World} (s p : ByteArray) :
    FC Tryd.prog 46 [.string s, .string p] w fun v _ => ∃ r ok, v = .tuple ⟨[.string r, .bool ok]⟩ ∧ r.size ≤ s.size ∧ ((ok = true ∧ s.data.toList = p.data.toList ++ r.data.toList) ∨ (ok = false ∧ ∀ r', s.data.toList ≠ p.data.toList ++ r')) :=
  ⟨⟨_, Tryd.func46, by kernel_rfl⟩, (Any.strings_CutPrefix Tryd.lays103 s p w).mono fun e w' ⟨he, hw⟩ => by
    refine ⟨_, he, by rw [hw]; exact Ext.refl _, ⟨(Lib.trimPrefix s.data.toList p.data.toList).toArray⟩, Lib.hasPrefix s.data.toList p.data.toList, rfl, ?_, ?_⟩
    · rcases pre_split (l := s.data.toList) (p := p.data.toList) with ⟨_, h⟩ | ⟨_, h, _⟩
      · have := congrArg List.length h
        rw [List.length_append, data_len] at this
        simp only [ByteArray.size, List.size_toArray] at this ⊢; omega
      · rw [h]; simp only [ByteArray.size, List.size_toArray, Array.length_toList]; exact Nat.le_refl _
    · rcases pre_split (l := s.data.toList) (p := p.data.toList) with ⟨h1, h⟩ | ⟨h1, _, h⟩
      · exact .inl ⟨h1, h⟩
      · exact .inr ⟨h1, h⟩⟩
theorem Cut_f {w : World} (hl : LibV w) (s p : ByteArray) (hp : p = ⟨#[32]⟩) (hs : s.size ≤ 1048576) :
    FC Tryd.prog 47 [.string s, .string p] w fun v _ => ∃ a b ok, v = .tuple ⟨[.string a, .string b, .bool ok]⟩ ∧ a.size ≤ s.size ∧ b.size ≤ s.size ∧ ((ok = true ∧ s.data.toList = a.data.toList ++ 32 :: b.data.toList ∧ ¬ (32 : UInt8) ∈ a.data.toList) ∨ (ok = false ∧ ¬ (32 : UInt8) ∈ s.data.toList)) := by
  subst hp
  obtain ⟨m, hm⟩ := hl.mx
  refine ⟨⟨_, Tryd.func47, by kernel_rfl⟩, (Any.strings_Cut { Tryd.laysM145 with } s ⟨#[32]⟩ m w (by omega) hm).mono fun e w' ⟨he, k, hw⟩ => ?_⟩
  have hc : (Lib.cut s.data.toList [32] = (s.data.toList, [], false) ∧ ¬ (32 : UInt8) ∈ s.data.toList) ∨ ∃ a r, s.data.toList = a ++ 32 :: r ∧ ¬ (32 : UInt8) ∈ a ∧ Lib.cut s.data.toList [32] = (a, r, true) := by
    rcases cut_at 32 s.data.toList with h | ⟨a, r, h1, h2⟩
    · exact .inl ⟨cut_miss h, h⟩
    · exact .inr ⟨a, r, h1, h2, by rw [h1]; exact cut_hit h2⟩
  have hx : Ext w w' := by rw [hw]; exact ⟨rfl, rfl, rfl, Nat.le_refl _, fun _ _ => rfl⟩
  have he' : e = .returned (.tuple #[.string ⟨(Lib.cut s.data.toList [32]).1.toArray⟩, .string ⟨(Lib.cut s.data.toList [32]).2.1.toArray⟩, .bool (Lib.cut s.data.toList [32]).2.2]) := he
  rcases hc with ⟨h1, h2⟩ | ⟨a, r, h1, h2, h3⟩
  · rw [h1] at he'
    exact ⟨_, he', hx, ⟨s.data.toList.toArray⟩, ⟨#[]⟩, false, rfl, by rw [bl_mk]; exact Nat.le_refl _, Nat.zero_le _, .inr ⟨rfl, h2⟩⟩
  · rw [h3] at he'
    have hlen := congrArg List.length h1
    rw [data_len] at hlen
    simp at hlen
    exact ⟨_, he', hx, ⟨a.toArray⟩, ⟨r.toArray⟩, true, rfl, by simp only [ByteArray.size, List.size_toArray] at hlen ⊢; omega, by simp only [ByteArray.size, List.size_toArray] at hlen ⊢; omega, .inl ⟨rfl, by simpa using h1, by simpa using h2⟩⟩
theorem splitB_spl (c : UInt8) (s : ByteArray) : Lib.splitB ⟨#[c]⟩ 0 (Lib.countB s ⟨#[c]⟩) s = (spl c s.data.toList).map mkB := by
  have h := Lib.splitB_data ⟨#[c]⟩ 0 (Lib.countB s ⟨#[c]⟩) s
  rw [show Lib.splitK (⟨#[c]⟩ : ByteArray).data.toList 0 (Lib.countB s ⟨#[c]⟩) s.data.toList = spl c s.data.toList from splitK_spl c _ _ (Nat.le_refl _)] at h
  rw [← h, List.map_map]
  conv => lhs; rw [← List.map_id (Lib.splitB ⟨#[c]⟩ 0 (Lib.countB s ⟨#[c]⟩) s)]
  exact List.map_congr_left fun x _ => (mkB_data x).symm
theorem Split_f {w : World} (hl : LibV w) (s p : ByteArray) (hp : p = ⟨#[44]⟩) (hs : s.size ≤ 1048576) :
    FC Tryd.prog 37 [.string s, .string p] w (Copied w ((spl 44 s.data.toList).map mkB)) := by
  subst hp
  obtain ⟨m, hm⟩ := hl.mx
  refine ⟨⟨_, Tryd.func37, by kernel_rfl⟩, (Any.strings_Split { Tryd.laysM146 with } Tryd.laysM146.i9 s ⟨#[44]⟩ m w (by omega) hm (by decide)).mono fun e w' ⟨he, hw⟩ => ?_⟩
  have hln := Lib.splitB_all ⟨#[44]⟩ (by decide) 0 _ s rfl
  have hpl := spl_len (c := 44) _ s.data.toList (Nat.le_refl _)
  rw [data_len] at hpl
  have hs2 := splitB_spl 44 s
  rw [hs2] at hw hln
  have hown := World.ownsRow_lit (e := 9) (size := 1) (base := w.heap.size) w (((spl 44 s.data.toList).map mkB).map Value.string).toArray (Lib.countB s ⟨#[44]⟩ + 1) (Nat.le_refl _) (by simp only [List.length_map] at hln; unfold maxLen; omega) (by simp only [List.size_toArray, List.length_map] at hln ⊢; omega)
  have ho : Own w.heap.size 9 1 w' (some ⟨w.heap.size, 0, none⟩) (Lib.countB s ⟨#[44]⟩ + 1) (Lib.countB s ⟨#[44]⟩ + 1) (((spl 44 s.data.toList).map mkB).map .string) := by
    rw [hw]; exact hown
  refine ⟨_, he, by rw [hw]; exact (Ext.refl w).alloc (Nat.le_refl _) _, _, _, _, rfl, ho.strs fun u hu => ?_, ho⟩
  obtain ⟨q, hq, rfl⟩ := List.mem_map.1 hu
  have := spl_small _ s.data.toList (Nat.le_refl _) q hq
  rw [data_len] at this
  simp only [mkB, ByteArray.size, List.size_toArray] at hs ⊢
  exact Nat.le_trans (Nat.le_trans this hs) (by decide)
theorem parse_fits {l : List UInt8} {n : Int} (h : Lib.parseIntB 64 l = .ok n) : fits n := by
  have := Lib.parseIntB_bounds h
  unfold fits; omega
theorem ParseInt_f {w : World} (hl : LibV w) (s : ByteArray) (hs : s.size ≤ 1048576) :
    FC Tryd.prog 48 [.string s, .int .i64 10, .int .i64 64] w fun v _ => (∃ n, v = .tuple ⟨[.int .i64 n, .nilIface]⟩ ∧ Lib.parseIntB 64 s.data.toList = .ok n ∧ fits n) ∨ (∃ n t p, v = .tuple ⟨[.int .i64 n, .iface t p]⟩ ∧ ∀ m, Lib.parseIntB 64 s.data.toList ≠ .ok m) := by
  refine ⟨⟨_, Tryd.func48, by kernel_rfl⟩, ?_⟩
  cases h : Lib.parseIntB 64 s.data.toList with
  | ok n =>
    exact (Any.strconv_ParseInt_10_at64_ok Tryd.laysC174 s (by omega) n h w).mono fun e w' ⟨he, hw⟩ => ⟨_, he, by
      rcases hw with hw | ⟨t, hw⟩
      · rw [hw]; exact Ext.refl _
      · rw [hw]; exact Lib.bytesWorld_below _ _ _, .inl ⟨n, rfl, rfl, parse_fits h⟩⟩
  | «syntax» =>
    obtain ⟨te, pe, hv⟩ := hl.es
    exact (Any.strconv_ParseInt_10_at64_syntax Tryd.laysC174 s (by omega) h _ w hv (.inr ⟨te, pe, rfl⟩)).mono fun e w' ⟨N, he, _, _, hb⟩ => ⟨_, he, hb, .inr ⟨_, _, _, rfl, fun m k => by cases k⟩⟩
  | range =>
    obtain ⟨te, pe, hv⟩ := hl.er
    exact (Any.strconv_ParseInt_10_at64_range Tryd.laysC174 s (by omega) h _ w hv (.inr ⟨te, pe, rfl⟩)).mono fun e w' ⟨N, he, _, _, hb⟩ => ⟨_, he, hb, .inr ⟨_, _, _, rfl, fun m k => by cases k⟩⟩
theorem readList_f {w : World} (hl : LibV w) (s : ByteArray) (hs : s.size ≤ 1048000) :
    FC Tryd.prog 49 [.string s] w fun v w' => ∃ A n c xs ok, v = .tuple ⟨[.slice A n c, .bool ok]⟩ ∧ ((ok = true ∧ ListOf s.data.toList xs) ∨ (ok = false ∧ ∀ ys, ¬ ListOf s.data.toList ys)) ∧ Strs w' A n c xs ∧ Own w.heap.size 9 1 w' A n c (xs.map .string) := by
  refine FC.intro (cs := []) Tryd.func49 (by kernel_rfl) fun E R hE hr hR => ?_
  have hpl := spl_len (c := 44) _ s.data.toList (Nat.le_refl _)
  rw [data_len] at hpl
  conv => cbv
  refine br (fun g => ?_) (fun g => ?_)
  · have g : s = ⟨#[]⟩ := by simpa [hE.scmp, scmp_eql] using g
    conv => cbv
    rw [hR]; exact ⟨Ext.refl _, none, 0, 0, [], true, rfl, .inl ⟨rfl, .inl ⟨by rw [g], rfl⟩⟩, strs_nil _, Own.nil⟩
  have g : s ≠ ⟨#[]⟩ := by simpa [hE.scmp, scmp_eql] using g
  have hne : s.data.toList ≠ [] := fun e => g (toList_inj (by rw [e]))
  conv => cbv
  refine st_f hr (Split_f hl s _ rfl (by omega)) fun v w1 hx ⟨A1, n1, c1, ev, h1, o1⟩ => ?_
  subst ev
  have l1 := h1.len
  simp only [List.length_map] at l1
  conv => cbv
  refine st_f hr (MakeSet_f h1 (by omega)) fun v w2 hx2 ⟨r, z, A2, n2, c2, ev, hm, h2, o2⟩ => ?_
  subst ev
  obtain ⟨o, ho⟩ : ∃ o, o = E.cmp .eql z 0 := ⟨_, rfl⟩
  have ho' : o = true ↔ z = 0 := by rw [ho, hE.cmp]; simp [cmpR]
  conv => cbv
  simp only [← ho]
  rw [hR]; refine ⟨hx.trans hx2, A2, n2, c2, r, o, rfl, ?_, h2, o2.mono hx.size⟩
  cases o with
  | true => exact .inl ⟨rfl, .inr ⟨hne, by have := ho'.1 rfl; rw [this] at hm; exact hm⟩⟩
  | false =>
    refine .inr ⟨rfl, fun ys hy => ?_⟩
    rcases hy with ⟨k, _⟩ | ⟨_, k⟩
    · exact hne k
    · have := ho'.2 (hm.same k).2
      simp at this
/-- What cutting a field off gives. -/
def FieldR (hd s f r : ByteArray) (b b' : Bool) : Prop :=
  (b' = true → b = true ∧ s.data.toList = hd.data.toList ++ (f.data.toList ++ 32 :: r.data.toList) ∧ ¬ (32 : UInt8) ∈ f.data.toList) ∧
  (b = true → (∃ x y, s.data.toList = hd.data.toList ++ (x ++ 32 :: y)) → b' = true)
theorem zBl : (Tryd.prog.info? 4).map (·.size) = some 1 := by kernel_rfl
theorem cBl : Cel Tryd.prog 4 := ⟨_, uBool, by simp, by simp⟩
theorem field_g {w : World} (hl : LibV w) {B : Nat} {pr pg : Addr} {s hd : ByteArray} {b : Bool} (hp : Box B 9 1 w pr [.string s]) (hg : Box B 4 1 w pg [.bool b]) (ha : Apart (some pr) (some pg)) (ha' : Apart (some pg) (some pr)) (hs : s.size ≤ 4000) (hB : ∀ w', Ext w w' → LibV w') :
    GC Tryd.prog 45 [.string hd, .pointer (some pr), .pointer (some pg)] w fun v w' => ∃ f r b' w1 w2, v = .string f ∧ f.size ≤ s.size ∧ r.size ≤ s.size ∧ FieldR hd s f r b b' ∧ Ext w w1 ∧ Wr (some pg) w1 w2 ∧ Wr (some pr) w2 w' ∧ Box B 9 1 w' pr [.string r] ∧ Box B 4 1 w' pg [.bool b'] := by
  refine GC.intro (cs := []) Tryd.func45 (by kernel_rfl) fun E R hE hr hR => ?_
  conv => cbv
  refine st_load hE cStr (v := .string s) (by have := hp.at 0 _ rfl; rwa [add_zero] at this) ?_
  conv => cbv
  refine st_f hr (CutPrefix_f s hd) fun v w1 hx1 ⟨r1, ok1, ev, hz1, h1⟩ => ?_
  subst ev
  conv => cbv
  refine st_f hr (Cut_f (hl.ext hx1) r1 _ rfl (by omega)) fun v w2 hx2 ⟨f, r, ok2, ev, hzf, hzr, h2⟩ => ?_
  subst ev
  have hx := hx1.trans hx2
  have hp2 := hp.bel hx
  have hg2 := hg.bel hx
  have cell2 : w2.cell? pg = some (.bool b) := by have := hg2.at 0 _ rfl; rwa [add_zero] at this
  have fin : ∀ b' : Bool, FieldR hd s f r b b' → ∀ w3, Wr (some pg) w2 w3 → Box B 4 1 w3 pg [.bool b'] → ∀ w4, Wr (some pr) w3 w4 → Box B 9 1 w4 pr [.string r] → R (.string f) w4 := fun b' hf w3 k1 k2 w4 k3 k4 => by
    rw [hR]; exact ⟨f, r, b', w2, w3, rfl, by omega, by omega, hf, hx, k1, k3, k4, k2.wr k3 ha'⟩
  conv => cbv
  refine st_load hE cBl cell2 ?_
  cases b with
  | false =>
    conv => cbv
    refine st_put hr zBl hg2 (add_zero _).symm (by simp) rfl fun w3 hw3 hg3 => ?_
    simp only [List.set_cons_zero] at hg3
    conv => cbv
    refine st_put hr (by kernel_rfl) (hp2.wr hw3 ha) (add_zero _).symm (by simp) rfl fun w4 hw4 hp4 => ?_
    simp only [List.set_cons_zero] at hp4
    conv => cbv
    exact fin false ⟨fun k => (by cases k), fun k => (by cases k)⟩ _ hw3 hg3 _ hw4 hp4
  | true =>
    rcases h1 with ⟨rfl, h1⟩ | ⟨rfl, h1⟩
    rotate_left
    · conv => cbv
      refine st_put hr zBl hg2 (add_zero _).symm (by simp) rfl fun w3 hw3 hg3 => ?_
      simp only [List.set_cons_zero] at hg3
      conv => cbv
      refine st_put hr (by kernel_rfl) (hp2.wr hw3 ha) (add_zero _).symm (by simp) rfl fun w4 hw4 hp4 => ?_
      simp only [List.set_cons_zero] at hp4
      conv => cbv
      exact fin false ⟨fun k => (by cases k), fun _ ⟨x, y, e⟩ => absurd e (h1 _)⟩ _ hw3 hg3 _ hw4 hp4
    conv => cbv
    refine st_put hr zBl hg2 (add_zero _).symm (by simp) rfl fun w3 hw3 hg3 => ?_
    simp only [List.set_cons_zero] at hg3
    conv => cbv
    refine st_put hr (by kernel_rfl) (hp2.wr hw3 ha) (add_zero _).symm (by simp) rfl fun w4 hw4 hp4 => ?_
    simp only [List.set_cons_zero] at hp4
    conv => cbv
    refine fin ok2 ⟨fun k => ?_, fun _ ⟨x, y, e⟩ => ?_⟩ _ hw3 hg3 _ hw4 hp4
    · rcases h2 with ⟨_, h2, h3⟩ | ⟨k2, _⟩
      · exact ⟨rfl, by rw [h1, h2], h3⟩
      · rw [k] at k2; cases k2
    · rcases h2 with ⟨k2, _⟩ | ⟨_, h2⟩
      · exact k2
      · rw [h1] at e
        have := List.append_cancel_left e
        rw [this] at h2; exact absurd (by simp) h2
theorem cut_uniq {a b a' b' : List UInt8} (h : a ++ (32 : UInt8) :: b = a' ++ 32 :: b') (ha : ¬ (32 : UInt8) ∈ a) (ha' : ¬ (32 : UInt8) ∈ a') : a = a' ∧ b = b' := by
  have h1 := cut_hit (r := b) ha
  rw [h, cut_hit ha'] at h1
  simp only [Prod.mk.injEq, and_true] at h1
  exact ⟨h1.1.symm, h1.2.symm⟩
theorem chain {t cl us u1 r1 u2 r2 u3 r3 : ByteArray} {lv : Int} {xs : List ByteArray} {b1 b2 b3 : Bool} (h : AskP t cl us lv xs) (f1 : FieldR (mkB cliB) t u1 r1 true b1) (f2 : FieldR (mkB usrB) r1 u2 r2 b1 b2) (f3 : FieldR (mkB levB) r2 u3 r3 b2 b3) :
    b3 = true ∧ u1 = cl ∧ u2 = us ∧ u3.data.toList = Lib.itoa lv ∧ ∃ L, r3.data.toList = askB ++ L ∧ ListOf L xs := by
  obtain ⟨_, v1, v2, v3, _, L, ht, hL⟩ := h
  simp only [FieldR, data_mkB] at f1 f2 f3
  rw [List.append_assoc] at ht
  have e1 := f1.2 trivial ⟨_, _, ht⟩
  obtain ⟨_, g1, g1'⟩ := f1.1 e1
  rw [g1] at ht
  obtain ⟨q1, q1'⟩ := cut_uniq (List.append_cancel_left ht) g1' (name32 v1)
  rw [List.append_assoc] at q1'
  have e2 := f2.2 e1 ⟨_, _, q1'⟩
  obtain ⟨_, g2, g2'⟩ := f2.1 e2
  rw [g2] at q1'
  obtain ⟨q2, q2'⟩ := cut_uniq (List.append_cancel_left q1') g2' (name32 v2)
  rw [List.append_assoc] at q2'
  have e3 := f3.2 e2 ⟨_, _, q2'⟩
  obtain ⟨_, g3, g3'⟩ := f3.1 e3
  rw [g3] at q2'
  obtain ⟨q3, q3'⟩ := cut_uniq (List.append_cancel_left q2') g3' (itoa_no v3)
  exact ⟨e3, toList_inj q1, toList_inj q2, q3, L, q3', hL⟩
theorem unchain {t u1 r1 u2 r2 u3 r3 : ByteArray} {b1 b2 : Bool} (f1 : FieldR (mkB cliB) t u1 r1 true b1) (f2 : FieldR (mkB usrB) r1 u2 r2 b1 b2) (f3 : FieldR (mkB levB) r2 u3 r3 b2 true) {L : List UInt8} (hL : r3.data.toList = askB ++ L) :
    t.data.toList = (cliB ++ u1.data.toList) ++ 32 :: ((usrB ++ u2.data.toList) ++ 32 :: ((levB ++ u3.data.toList) ++ 32 :: (askB ++ L))) := by
  simp only [FieldR, data_mkB] at f1 f2 f3
  obtain ⟨e2, g3, _⟩ := f3.1 trivial
  obtain ⟨e1, g2, _⟩ := f2.1 e2
  obtain ⟨_, g1, _⟩ := f1.1 e1
  rw [g1, g2, g3, hL]; simp
set_option maxHeartbeats 1000000 in
theorem ParseAsk_f {w : World} (hl : LibV w) (t : ByteArray) (ht : t.size ≤ 1048576) :
    FC Tryd.prog 20 [.string t] w fun v w' => ∃ cl us lv A n c xs o, v = .tuple ⟨[askV cl us lv A n c, .bool o]⟩ ∧ ParseOf t o cl us lv xs ∧ Strs w' A n c xs ∧ Own w.heap.size 9 1 w' A n c (xs.map .string) := by
  refine FC.intro (cs := []) Tryd.func20 (by kernel_rfl) fun E R hE hr hR => ?_
  have lt := data_len t
  conv => cbv
  refine st_alloc hr tIAsk rfl fun a w1 hx hb0 => ?_
  have hb := hb0 _ (Nat.le_refl _)
  clear hb0
  conv => cbv
  refine st_slen hE uStr fun x hx0 => ?_
  conv => cbv
  refine br (fun g => ?_) (fun g => ?_)
  · have g : 4000 < x := by simpa [hE.cmp, cmpR] using g
    conv => cbv
    refine st_ask0 hE ?_
    conv => cbv
    refine st_putS hr (by kernel_rfl) hb (add_zero _).symm (by simp) (by simp [Value.oneCell']) fun wf hwf hb2 => ?_
    simp only [List.take_zero, List.nil_append, List.length_cons, List.length_nil, List.drop_succ_cons, List.drop_nil, List.append_nil] at hb2
    conv => cbv
    refine st_cell hr tIAsk rfl hb2.at ?_
    conv => cbv
    rw [hR]; exact ⟨hx.then (hwf.bel hb hx.size), ⟨#[]⟩, ⟨#[]⟩, 0, none, 0, 0, [], false, rfl, .inr ⟨rfl, rfl, rfl, rfl, rfl, fun a b c d k => by have := k.1; omega⟩, strs_nil _, Own.nil⟩
  have g : x ≤ 4000 := by simp [hE.cmp, cmpR] at g; omega
  conv => cbv
  refine st_new hr (z := .string ⟨#[]⟩) (by kernel_rfl) rfl fun pr w2 hx2 hp0 => ?_
  have hp := hp0 _ hx.size
  have apb := hb.apart (hp0 _ (Nat.le_refl _)) (Nat.le_refl _)
  replace hb := hb.bel hx2
  replace hx := hx.trans hx2
  conv => cbv
  refine st_new hr (z := .bool false) (by kernel_rfl) rfl fun pg w3 hx3 hg0 => ?_
  have hg := hg0 _ hx.size
  have agb := hb.apart (hg0 _ (Nat.le_refl _)) (Nat.le_refl _)
  have agp := hp.apart (hg0 _ (Nat.le_refl _)) (Nat.le_refl _)
  replace hb := hb.bel hx3
  replace hp := hp.bel hx3
  replace hx := hx.trans hx3
  clear hp0 hg0 hx2 hx3
  conv => cbv
  refine st_put hr (by kernel_rfl) hp (add_zero _).symm (by simp) rfl fun w4 hw4 hp2 => ?_
  simp only [List.set_cons_zero] at hp2
  replace hx := hx.then (hw4.bel hp hx.size)
  replace hb := hb.wr hw4 apb.1
  replace hg := hg.wr hw4 agp.2
  conv => cbv
  refine st_put hr zBl hg (add_zero _).symm (by simp) rfl fun w5 hw5 hg2 => ?_
  simp only [List.set_cons_zero] at hg2
  replace hx := hx.then (hw5.bel hg hx.size)
  replace hb := hb.wr hw5 agb.1
  replace hp := hp2.wr hw5 agp.1
  replace hg := hg2
  clear hp2 hg2
  conv => cbv
  refine st_g hr (field_g (hl.ext hx) (hd := mkB cliB) hp hg agp.1 agp.2 (by omega) fun _ k => hl.ext (hx.trans k)) fun v wz1 ⟨u1, r1, b1, wx1, wy1, ev, zu1, zr1, f1, k1, k2, k3, hp', hg'⟩ => ?_
  subst ev
  replace hb := ((hb.bel k1).wr k2 agb.1).wr k3 apb.1
  have hgx := hg.bel k1
  have hpy := (hp.bel k1).wr k2 agp.1
  replace hx := ((hx.trans k1).then (k2.bel hgx (Nat.le_trans hx.size k1.size))).then (k3.bel hpy (Nat.le_trans (Nat.le_trans hx.size k1.size) k2.size))
  replace hp := hp'
  replace hg := hg'
  clear k1 k2 k3 hp' hg' hgx hpy
  conv => cbv
  refine st_g hr (field_g (hl.ext hx) (hd := mkB usrB) hp hg agp.1 agp.2 (by omega) fun _ k => hl.ext (hx.trans k)) fun v wz2 ⟨u2, r2, b2, wx2, wy2, ev, zu2, zr2, f2, k1, k2, k3, hp', hg'⟩ => ?_
  subst ev
  replace hb := ((hb.bel k1).wr k2 agb.1).wr k3 apb.1
  have hgx := hg.bel k1
  have hpy := (hp.bel k1).wr k2 agp.1
  replace hx := ((hx.trans k1).then (k2.bel hgx (Nat.le_trans hx.size k1.size))).then (k3.bel hpy (Nat.le_trans (Nat.le_trans hx.size k1.size) k2.size))
  replace hp := hp'
  replace hg := hg'
  clear k1 k2 k3 hp' hg' hgx hpy
  conv => cbv
  refine st_ask2 hE ?_
  conv => cbv
  refine st_alloc hr tIAsk rfl fun q w6 hx6 hq0 => ?_
  have hq := hq0 _ hx.size
  have aqb := hb.apart (hq0 _ (Nat.le_refl _)) (Nat.le_refl _)
  have aqp := hp.apart (hq0 _ (Nat.le_refl _)) (Nat.le_refl _)
  have aqg := hg.apart (hq0 _ (Nat.le_refl _)) (Nat.le_refl _)
  replace hb := hb.bel hx6
  replace hp := hp.bel hx6
  replace hg := hg.bel hx6
  replace hx := hx.trans hx6
  clear hq0 hx6
  conv => cbv
  refine st_putS hr (by kernel_rfl) hq (add_zero _).symm (by simp) (by simp [Value.oneCell']) fun w7 hw7 hq2 => ?_
  simp only [List.take_zero, List.nil_append, List.length_cons, List.length_nil, List.drop_succ_cons, List.drop_nil, List.append_nil] at hq2
  replace hx := hx.then (hw7.bel hq hx.size)
  replace hb := hb.wr hw7 aqb.1
  replace hp := hp.wr hw7 aqp.1
  replace hg := hg.wr hw7 aqg.1
  replace hq := hq2
  clear hq2
  conv => cbv
  refine st_g hr (field_g (hl.ext hx) (hd := mkB levB) hp hg agp.1 agp.2 (by omega) fun _ k => hl.ext (hx.trans k)) fun v wz3 ⟨u3, r3, b3, wx3, wy3, ev, zu3, zr3, f3, k1, k2, k3, hp', hg'⟩ => ?_
  subst ev
  replace hb := ((hb.bel k1).wr k2 agb.1).wr k3 apb.1
  replace hq := ((hq.bel k1).wr k2 aqg.2).wr k3 aqp.2
  have hgx := hg.bel k1
  have hpy := (hp.bel k1).wr k2 agp.1
  replace hx := ((hx.trans k1).then (k2.bel hgx (Nat.le_trans hx.size k1.size))).then (k3.bel hpy (Nat.le_trans (Nat.le_trans hx.size k1.size) k2.size))
  replace hp := hp'
  replace hg := hg'
  clear k1 k2 k3 hp' hg' hgx hpy
  conv => cbv
  refine st_load hE cStr (v := .string r3) (by have := hp.at 0 _ rfl; rwa [add_zero] at this) ?_
  conv => cbv
  refine st_f hr (CutPrefix_f r3 (mkB askB)) fun v w8 hx8 ⟨li, ok, ev, zli, hcp⟩ => ?_
  subst ev
  rw [data_mkB] at hcp
  replace hb := hb.bel hx8
  replace hg := hg.bel hx8
  replace hq := hq.bel hx8
  replace hx := hx.trans hx8
  clear hp
  conv => cbv
  have key : ∀ (n : Int) (er : Value) (w9 : World) (hx9 : Ext w w9) (hb : Box w.heap.size 39 4 w9 a [.string ⟨#[]⟩, .string ⟨#[]⟩, .int .i64 0, .slice none 0 0]) (hg : Box w.heap.size 4 1 w9 pg [.bool b3]) (hq : Box w.heap.size 39 4 w9 q [.string u1, .string u2, .int .i64 0, .slice none 0 0]), True := fun _ _ _ _ _ _ _ => trivial
  clear key
  refine st_f hr (ParseInt_f (hl.ext hx) u3 (by omega)) fun v w9 hx9 hpi => ?_
  replace hb := hb.bel hx9
  replace hg := hg.bel hx9
  replace hq := hq.bel hx9
  replace hx := hx.trans hx9
  rcases hpi with ⟨n, ev, hpn, hfn⟩ | ⟨n, te, pe, ev, hpn⟩ <;> subst ev
  · skip
    conv => cbv
    refine st_fld hE fK2 fun pf hpf => ?_
    conv => cbv
    refine st_put hr zI6 hq hpf (by simp) rfl fun w10 hw10 hq2 => ?_
    simp only [List.set_cons_zero, List.set_cons_succ] at hq2
    replace hx := hx.then (hw10.bel hq hx.size)
    replace hb := hb.wr hw10 aqb.1
    replace hg := hg.wr hw10 aqg.1
    replace hq := hq2
    clear hq2 hpf
    conv => cbv
    refine st_f hr (readList_f (hl.ext hx) li (by omega)) fun v w11 hx11 ⟨A4, n4, c4, xs, ok2, ev, hls, h4, o4⟩ => ?_
    subst ev
    have aqo := (hq.apart o4 (Nat.le_refl _)).2
    have abo := (hb.apart o4 (Nat.le_refl _)).2
    have hxp := hx.size
    replace hb := hb.bel hx11
    replace hg := hg.bel hx11
    replace hq := hq.bel hx11
    replace hx := hx.trans hx11
    conv => cbv
    refine st_fld hE fK3 fun pf hpf => ?_
    conv => cbv
    refine st_put hr zSts hq hpf (by simp) rfl fun w12 hw12 hq2 => ?_
    simp only [List.set_cons_zero, List.set_cons_succ] at hq2
    replace hx := hx.then (hw12.bel hq hx.size)
    replace hb := hb.wr hw12 aqb.1
    replace hg := hg.wr hw12 aqg.1
    replace o4 := (o4.mono hxp).wr hw12 aqo
    replace h4 := o4.strs h4.small
    replace hq := hq2
    clear hq2 hpf
    have cellg : w12.cell? pg = some (.bool b3) := by have := hg.at 0 _ rfl; rwa [add_zero] at this
    conv => cbv
    refine st_load hE cBl cellg ?_
    cases b3 with
    | false =>
      conv => cbv
      refine st_ask0 hE ?_
      conv => cbv
      refine st_putS hr (by kernel_rfl) hb (add_zero _).symm (by simp) (by simp [Value.oneCell']) fun wf hwf hb2 => ?_
      simp only [List.take_zero, List.nil_append, List.length_cons, List.length_nil, List.drop_succ_cons, List.drop_nil, List.append_nil] at hb2
      conv => cbv
      refine st_cell hr tIAsk rfl hb2.at ?_
      conv => cbv
      rw [hR]; exact ⟨hx.then (hwf.bel hb hx.size), ⟨#[]⟩, ⟨#[]⟩, 0, none, 0, 0, [], false, rfl, .inr ⟨rfl, rfl, rfl, rfl, rfl, fun a b c d k => by have := (chain k f1 f2 f3).1; cases this⟩, strs_nil _, Own.nil⟩
    | true =>
      rcases hcp with ⟨rfl, hcp⟩ | ⟨rfl, hcp⟩
      rotate_left
      · skip
        conv => cbv
        refine st_ask0 hE ?_
        conv => cbv
        refine st_putS hr (by kernel_rfl) hb (add_zero _).symm (by simp) (by simp [Value.oneCell']) fun wf hwf hb2 => ?_
        simp only [List.take_zero, List.nil_append, List.length_cons, List.length_nil, List.drop_succ_cons, List.drop_nil, List.append_nil] at hb2
        conv => cbv
        refine st_cell hr tIAsk rfl hb2.at ?_
        conv => cbv
        rw [hR]; exact ⟨hx.then (hwf.bel hb hx.size), ⟨#[]⟩, ⟨#[]⟩, 0, none, 0, 0, [], false, rfl, .inr ⟨rfl, rfl, rfl, rfl, rfl, fun a b c d k => by obtain ⟨_, _, _, _, L, e, _⟩ := chain k f1 f2 f3; exact hcp _ e⟩, strs_nil _, Own.nil⟩
      rcases hls with ⟨rfl, hls⟩ | ⟨rfl, hls⟩
      rotate_left
      · skip
        conv => cbv
        refine st_ask0 hE ?_
        conv => cbv
        refine st_putS hr (by kernel_rfl) hb (add_zero _).symm (by simp) (by simp [Value.oneCell']) fun wf hwf hb2 => ?_
        simp only [List.take_zero, List.nil_append, List.length_cons, List.length_nil, List.drop_succ_cons, List.drop_nil, List.append_nil] at hb2
        conv => cbv
        refine st_cell hr tIAsk rfl hb2.at ?_
        conv => cbv
        rw [hR]; exact ⟨hx.then (hwf.bel hb hx.size), ⟨#[]⟩, ⟨#[]⟩, 0, none, 0, 0, [], false, rfl, .inr ⟨rfl, rfl, rfl, rfl, rfl, fun a b c d k => by obtain ⟨_, _, _, _, L, e, e2⟩ := chain k f1 f2 f3; rw [hcp] at e; rw [← List.append_cancel_left e] at e2; exact hls _ e2⟩, strs_nil _, Own.nil⟩
      conv => cbv
      refine st_neNil hE Tryd.underlying46 ?_
      conv => cbv
      obtain ⟨us, hus⟩ : ∃ u, u = decS n := ⟨_, rfl⟩
      refine st_v hr (v := .string us) (by rw [hus]; exact FormatInt_v (hl.ext hx).pow hfn) fun w13 hx13 => ?_
      replace hb := hb.bel hx13
      replace hq := hq.bel hx13
      replace o4 := o4.bel hx13
      replace h4 := h4.ext hx13
      replace hx := hx.trans hx13
      conv => cbv
      refine br (fun g5 => ?_) (fun g5 => ?_)
      · have g5 : us ≠ u3 := by simpa [hE.scmp, scmp_neq] using g5
        conv => cbv
        refine st_ask0 hE ?_
        conv => cbv
        refine st_putS hr (by kernel_rfl) hb (add_zero _).symm (by simp) (by simp [Value.oneCell']) fun wf hwf hb2 => ?_
        simp only [List.take_zero, List.nil_append, List.length_cons, List.length_nil, List.drop_succ_cons, List.drop_nil, List.append_nil] at hb2
        conv => cbv
        refine st_cell hr tIAsk rfl hb2.at ?_
        conv => cbv
        rw [hR]; exact ⟨hx.then (hwf.bel hb hx.size), ⟨#[]⟩, ⟨#[]⟩, 0, none, 0, 0, [], false, rfl, .inr ⟨rfl, rfl, rfl, rfl, rfl, fun a b c d k => by obtain ⟨_, _, _, e, _⟩ := chain k f1 f2 f3; have e2 := parse_itoa k.2.2.2.1 k.2.2.2.2.1; rw [← e, hpn] at e2; have e3 : n = c := Lib.NumEnd.ok.inj e2; exact g5 (by rw [hus]; apply toList_inj; rw [e, e3]; simp [decS])⟩, strs_nil _, Own.nil⟩
      have g5 : us = u3 := by simpa [hE.scmp, scmp_neq] using g5
      have hu3 : u3.data.toList = Lib.itoa n := by rw [← g5, hus]; simp [decS]
      conv => cbv
      refine st_loadS hE tIAsk rfl hq.at ?_
      conv => cbv
      refine st_f hr (validAsk_f (cl := u1) (us := u2) (lv := n) (by omega) (by omega) h4) fun v w14 hx14 ⟨bv, ev, hbv⟩ => ?_
      subst ev
      replace hb := hb.bel hx14
      replace hq := hq.bel hx14
      replace o4 := o4.bel hx14
      replace h4 := h4.ext hx14
      replace hx := hx.trans hx14
      cases bv with
      | false =>
        conv => cbv
        refine st_ask0 hE ?_
        conv => cbv
        refine st_putS hr (by kernel_rfl) hb (add_zero _).symm (by simp) (by simp [Value.oneCell']) fun wf hwf hb2 => ?_
        simp only [List.take_zero, List.nil_append, List.length_cons, List.length_nil, List.drop_succ_cons, List.drop_nil, List.append_nil] at hb2
        conv => cbv
        refine st_cell hr tIAsk rfl hb2.at ?_
        conv => cbv
        rw [hR]; exact ⟨hx.then (hwf.bel hb hx.size), ⟨#[]⟩, ⟨#[]⟩, 0, none, 0, 0, [], false, rfl, .inr ⟨rfl, rfl, rfl, rfl, rfl, fun a b c d k => by obtain ⟨_, e1, e2, e3, L, e, e4⟩ := chain k f1 f2 f3; have e5 := parse_itoa k.2.2.2.1 k.2.2.2.2.1; rw [← e3, hpn] at e5; have e6 : n = c := Lib.NumEnd.ok.inj e5; have := hbv.2 ⟨by rw [e1]; exact k.2.1, by rw [e2]; exact k.2.2.1, by rw [e6]; exact k.2.2.2.1, by rw [e6]; exact k.2.2.2.2.1, hls.set⟩; cases this⟩, strs_nil _, Own.nil⟩
      | true =>
        obtain ⟨va, vb, vc, vd, ve⟩ := hbv.1 rfl
        conv => cbv
        refine st_loadS hE tIAsk rfl hq.at ?_
        conv => cbv
        refine st_putS hr (by kernel_rfl) hb (add_zero _).symm (by simp) (by simp [Value.oneCell']) fun wf hwf hb2 => ?_
        simp only [List.take_zero, List.nil_append, List.length_cons, List.length_nil, List.drop_succ_cons, List.drop_nil, List.append_nil] at hb2
        conv => cbv
        refine st_cell hr tIAsk rfl hb2.at ?_
        conv => cbv
        have o5 := o4.wr hwf abo
        rw [hR]; exact ⟨hx.then (hwf.bel hb hx.size), u1, u2, n, A4, n4, c4, xs, true, rfl, .inl ⟨rfl, by omega, va, vb, vc, vd, li.data.toList, by rw [← hu3]; exact unchain f1 f2 f3 hcp, hls⟩, o5.strs h4.small, o5⟩
  · skip
    conv => cbv
    refine st_fld hE fK2 fun pf hpf => ?_
    conv => cbv
    refine st_put hr zI6 hq hpf (by simp) rfl fun w10 hw10 hq2 => ?_
    simp only [List.set_cons_zero, List.set_cons_succ] at hq2
    replace hx := hx.then (hw10.bel hq hx.size)
    replace hb := hb.wr hw10 aqb.1
    replace hg := hg.wr hw10 aqg.1
    replace hq := hq2
    clear hq2 hpf
    conv => cbv
    refine st_f hr (readList_f (hl.ext hx) li (by omega)) fun v w11 hx11 ⟨A4, n4, c4, xs, ok2, ev, hls, h4, o4⟩ => ?_
    subst ev
    have aqo := (hq.apart o4 (Nat.le_refl _)).2
    have abo := (hb.apart o4 (Nat.le_refl _)).2
    have hxp := hx.size
    replace hb := hb.bel hx11
    replace hg := hg.bel hx11
    replace hq := hq.bel hx11
    replace hx := hx.trans hx11
    conv => cbv
    refine st_fld hE fK3 fun pf hpf => ?_
    conv => cbv
    refine st_put hr zSts hq hpf (by simp) rfl fun w12 hw12 hq2 => ?_
    simp only [List.set_cons_zero, List.set_cons_succ] at hq2
    replace hx := hx.then (hw12.bel hq hx.size)
    replace hb := hb.wr hw12 aqb.1
    replace hg := hg.wr hw12 aqg.1
    replace o4 := (o4.mono hxp).wr hw12 aqo
    replace h4 := o4.strs h4.small
    replace hq := hq2
    clear hq2 hpf
    have cellg : w12.cell? pg = some (.bool b3) := by have := hg.at 0 _ rfl; rwa [add_zero] at this
    conv => cbv
    refine st_load hE cBl cellg ?_
    cases b3 with
    | false =>
      conv => cbv
      refine st_ask0 hE ?_
      conv => cbv
      refine st_putS hr (by kernel_rfl) hb (add_zero _).symm (by simp) (by simp [Value.oneCell']) fun wf hwf hb2 => ?_
      simp only [List.take_zero, List.nil_append, List.length_cons, List.length_nil, List.drop_succ_cons, List.drop_nil, List.append_nil] at hb2
      conv => cbv
      refine st_cell hr tIAsk rfl hb2.at ?_
      conv => cbv
      rw [hR]; exact ⟨hx.then (hwf.bel hb hx.size), ⟨#[]⟩, ⟨#[]⟩, 0, none, 0, 0, [], false, rfl, .inr ⟨rfl, rfl, rfl, rfl, rfl, fun a b c d k => by have := (chain k f1 f2 f3).1; cases this⟩, strs_nil _, Own.nil⟩
    | true =>
      rcases hcp with ⟨rfl, hcp⟩ | ⟨rfl, hcp⟩
      rotate_left
      · skip
        conv => cbv
        refine st_ask0 hE ?_
        conv => cbv
        refine st_putS hr (by kernel_rfl) hb (add_zero _).symm (by simp) (by simp [Value.oneCell']) fun wf hwf hb2 => ?_
        simp only [List.take_zero, List.nil_append, List.length_cons, List.length_nil, List.drop_succ_cons, List.drop_nil, List.append_nil] at hb2
        conv => cbv
        refine st_cell hr tIAsk rfl hb2.at ?_
        conv => cbv
        rw [hR]; exact ⟨hx.then (hwf.bel hb hx.size), ⟨#[]⟩, ⟨#[]⟩, 0, none, 0, 0, [], false, rfl, .inr ⟨rfl, rfl, rfl, rfl, rfl, fun a b c d k => by obtain ⟨_, _, _, _, L, e, _⟩ := chain k f1 f2 f3; exact hcp _ e⟩, strs_nil _, Own.nil⟩
      rcases hls with ⟨rfl, hls⟩ | ⟨rfl, hls⟩
      rotate_left
      · skip
        conv => cbv
        refine st_ask0 hE ?_
        conv => cbv
        refine st_putS hr (by kernel_rfl) hb (add_zero _).symm (by simp) (by simp [Value.oneCell']) fun wf hwf hb2 => ?_
        simp only [List.take_zero, List.nil_append, List.length_cons, List.length_nil, List.drop_succ_cons, List.drop_nil, List.append_nil] at hb2
        conv => cbv
        refine st_cell hr tIAsk rfl hb2.at ?_
        conv => cbv
        rw [hR]; exact ⟨hx.then (hwf.bel hb hx.size), ⟨#[]⟩, ⟨#[]⟩, 0, none, 0, 0, [], false, rfl, .inr ⟨rfl, rfl, rfl, rfl, rfl, fun a b c d k => by obtain ⟨_, _, _, _, L, e, e2⟩ := chain k f1 f2 f3; rw [hcp] at e; rw [← List.append_cancel_left e] at e2; exact hls _ e2⟩, strs_nil _, Own.nil⟩
      conv => cbv
      refine st_neSome hE Tryd.underlying46 ?_
      conv => cbv
      refine st_ask0 hE ?_
      conv => cbv
      refine st_putS hr (by kernel_rfl) hb (add_zero _).symm (by simp) (by simp [Value.oneCell']) fun wf hwf hb2 => ?_
      simp only [List.take_zero, List.nil_append, List.length_cons, List.length_nil, List.drop_succ_cons, List.drop_nil, List.append_nil] at hb2
      conv => cbv
      refine st_cell hr tIAsk rfl hb2.at ?_
      conv => cbv
      rw [hR]; exact ⟨hx.then (hwf.bel hb hx.size), ⟨#[]⟩, ⟨#[]⟩, 0, none, 0, 0, [], false, rfl, .inr ⟨rfl, rfl, rfl, rfl, rfl, fun a b c d k => by obtain ⟨_, _, _, e, _⟩ := chain k f1 f2 f3; have e2 := parse_itoa k.2.2.2.1 k.2.2.2.2.1; rw [← e] at e2; exact hpn _ e2⟩, strs_nil _, Own.nil⟩
end Go.Proofs.YtjaejonnbhdddaaDoor
