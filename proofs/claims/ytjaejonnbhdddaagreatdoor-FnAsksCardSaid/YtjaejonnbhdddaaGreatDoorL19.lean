/- The draws of words, lists and scope sets. -/
import Derived.Test.YtjaejonnbhdddaaGreatDoorL9
import Derived.Test.YtjaejonnbhdddaaGreatDoorEng7
import Derived.Test.YtjaejonnbhdddaaGreatDoorL15
import Derived.Test.YtjaejonnbhdddaaGreatDoorL17
namespace Go.Proofs.YtjaejonnbhdddaaGreatDoor
open Go.Eng
set_option linter.unusedVariables false
theorem Rd.wr {w0 w w' : World} {r : Addr} {A : Option Addr} {n c : Nat} {zs : List Int} {p : Int} (h : Rd w0 w r A n c zs p) {B e k : Nat} {A' : Option Addr} {m c' : Nat} {xs : List Value} (hw : Wr A' w w') (ho : Own B e k w A' m c' xs) (hB : w0.heap.size ≤ B) (ha : Apart (some r) A') : Rd w0 w' r A n c zs p :=
  ⟨h.ext.then (hw.bel (ho.mono hB) h.ext.size), h.box.wr hw ha, h.byts, h.p0, h.p1⟩
theorem wr_own {w w' w'' : World} {R A : Option Addr} (h : Wr R w w') (hw : Wr A w' w'') {e k m c : Nat} {xs : List Value} (ho : Own w.heap.size e k w' A m c xs) : Wr R w w'' := by
  have hb := hw.bel ho h.size
  exact ⟨hb.os.trans h.os, hb.tape.trans h.tape, hb.output.trans h.output, Nat.le_trans h.size hb.size, fun k hk hn => (hb.block k hk).trans (h.block k hk hn)⟩
/-- The eight words. -/
def eight : List ByteArray := [⟨#[114, 101, 97, 100]⟩, ⟨#[119, 114, 105, 116, 101]⟩, ⟨#[97, 100, 109, 105, 110]⟩, ⟨#[109, 97, 105, 108]⟩, ⟨#[97]⟩, ⟨#[98]⟩, ⟨#[99, 46, 100]⟩, ⟨#[122, 95, 57]⟩]
def longName : ByteArray := ⟨#[97, 45, 110, 97, 109, 101, 45, 116, 104, 97, 116, 45, 105, 115, 45, 116, 104, 105, 114, 116, 121, 45, 116, 119, 111, 45, 98, 121, 116, 101, 115, 46]⟩
/-- The word that is read at p, and the place behind it. -/
def wordS (zs : List Int) (p : Int) : ByteArray × Int :=
  if nx zs p % 8 = 6 then (⟨#[115]⟩ ++ decS (nx zs p / 8) ++ ⟨#[58]⟩ ++ decS (nx zs (up zs p)), up zs (up zs p))
  else if nx zs p % 8 = 7 then
    (if 240 < nx zs p then (longName, up zs p) else (⟨#[120, 46]⟩ ++ decS (nx zs (up zs p) % 90), up zs (up zs p)))
  else (eight.getD (nx zs p / 8 % 8).toNat ⟨#[]⟩, up zs p)
theorem cat_ok' {a b : ByteArray} {m n : Nat} (ha : a.size ≤ m) (hb : b.size ≤ n) (h : m + n ≤ 9223372036854775807) : a.size + b.size ≤ 9223372036854775807 := Nat.le_trans (Nat.add_le_add ha hb) h
theorem cat_le' {a b v : ByteArray} {m n : Nat} (hv : v = a ++ b) (ha : a.size ≤ m) (hb : b.size ≤ n) : v.size ≤ m + n := by rw [hv, append_size]; exact Nat.add_le_add ha hb
theorem word_g {w0 w : World} {r : Addr} {A : Option Addr} {n c : Nat} {zs : List Int} {p : Int} (h : Rd w0 w r A n c zs p) :
    GC Tryz.prog 25 [.pointer (some r)] w fun v w' => ∃ s q, v = .string s ∧ (s = (wordS zs p).1 ∧ q = (wordS zs p).2) ∧ s.size ≤ 60 ∧ Rd w0 w' r A n c zs q ∧ Wr (some r) w w' := by
  refine GC.intro (cs := []) Tryz.func25 (by kernel_rfl) fun E R hE hr hR => ?_
  conv => cbv
  refine st_g hr (next_g h) fun v w1 ⟨k, q, ev, k0, k1, ⟨ek, eq⟩, h1, hw1⟩ => ?_
  subst ev
  clear h
  conv => cbv
  refine st_rem hE (by decide) fun m hm => ?_
  have hm : m = k % 8 := by rw [hm, Int.tmod_eq_emod_of_nonneg k0]
  have P : ∀ x y : Int, E.cmp .eql x y = true → x = y := fun x y h => by rw [hE.cmp] at h; simpa [cmpR] using h
  have N : ∀ x y : Int, ¬ E.cmp .eql x y = true → x ≠ y := fun x y h => by rw [hE.cmp] at h; simpa [cmpR] using h
  conv => cbv
  refine br (fun g => ?_) (fun g => ?_)
  · have g : m = 6 := P _ _ g
    conv => cbv
    refine st_g hr (next_g h1) fun v w2 ⟨k2, q2, ev, k20, k21, ⟨ek2, eq2⟩, h2, hw2⟩ => ?_
    subst ev
    conv => cbv
    refine st_quo hE (by decide) fun x hx => ?_
    have hx : x = k / 8 := by rw [hx, Int.tdiv_eq_ediv_of_nonneg k0]; exact wrap_in (by omega) (by omega)
    have f1 : fits x := by unfold fits; omega
    have f2 : fits k2 := by unfold fits; omega
    conv => cbv
    obtain ⟨u1, hu1⟩ : ∃ u, u = decS x := ⟨_, rfl⟩
    have z1 : u1.size ≤ 20 := by rw [hu1]; exact decS_size f1
    refine st_v hr (v := .string u1) (by rw [hu1]; exact l1decimal_v f1 _) fun w3 hx3 => ?_
    conv => cbv
    refine st_cat hE (cat_ok' (m := 1) (by decide) z1 (by decide)) fun v1 hv1 => ?_
    have s1 := cat_le' hv1 (m := 1) (by decide) z1
    conv => cbv
    refine st_cat hE (cat_ok' s1 (n := 1) (by decide) (by decide)) fun v2 hv2 => ?_
    have s2 := cat_le' hv2 s1 (n := 1) (by decide)
    conv => cbv
    obtain ⟨u2, hu2⟩ : ∃ u, u = decS k2 := ⟨_, rfl⟩
    have z2 : u2.size ≤ 20 := by rw [hu2]; exact decS_size f2
    refine st_v hr (v := .string u2) (by rw [hu2]; exact l1decimal_v f2 _) fun w4 hx4 => ?_
    conv => cbv
    refine st_cat hE (cat_ok' s2 z2 (by decide)) fun v3 hv3 => ?_
    have s3 := cat_le' hv3 s2 z2
    have hx := hx3.trans hx4
    conv => cbv
    rw [hR]; refine ⟨v3, q2, rfl, ⟨?_, ?_⟩, by omega, h2.bel hx, (hw1.trans hw2).trans (hx.wr _)⟩
    · unfold wordS; rw [← ek, if_pos (by omega), ← eq, ← ek2, hv3, hv2, hv1, hu1, hu2, ‹x = k / 8›]
    · unfold wordS; rw [← ek, if_pos (by omega), ← eq, ← eq2]
  have g6 : m ≠ 6 := N _ _ g
  clear g
  conv => cbv
  refine br (fun g => ?_) (fun g => ?_)
  · have g : m = 7 := P _ _ g
    conv => cbv
    refine br (fun g2 => ?_) (fun g2 => ?_)
    · have g2 : 240 < k := by simpa [hE.cmp, cmpR] using g2
      conv => cbv
      rw [hR]; refine ⟨longName, q, rfl, ⟨?_, ?_⟩, by decide, h1, hw1⟩
      · unfold wordS; rw [← ek, if_neg (by omega), if_pos (by omega), if_pos g2]
      · unfold wordS; rw [← ek, if_neg (by omega), if_pos (by omega), if_pos g2]; exact eq
    · have g2 : ¬ 240 < k := by simpa [hE.cmp, cmpR] using g2
      conv => cbv
      refine st_g hr (next_g h1) fun v w2 ⟨k2, q2, ev, k20, k21, ⟨ek2, eq2⟩, h2, hw2⟩ => ?_
      subst ev
      conv => cbv
      refine st_rem hE (by decide) fun x hx => ?_
      have hx : x = k2 % 90 := by rw [hx, Int.tmod_eq_emod_of_nonneg k20]
      have f1 : fits x := by unfold fits; omega
      conv => cbv
      obtain ⟨u1, hu1⟩ : ∃ u, u = decS x := ⟨_, rfl⟩
      have z1 : u1.size ≤ 20 := by rw [hu1]; exact decS_size f1
      refine st_v hr (v := .string u1) (by rw [hu1]; exact l1decimal_v f1 _) fun w3 hx3 => ?_
      conv => cbv
      refine st_cat hE (cat_ok' (m := 2) (by decide) z1 (by decide)) fun v1 hv1 => ?_
      have s1 := cat_le' hv1 (m := 2) (by decide) z1
      conv => cbv
      rw [hR]; refine ⟨v1, q2, rfl, ⟨?_, ?_⟩, by omega, h2.bel hx3, (hw1.trans hw2).trans (hx3.wr _)⟩
      · unfold wordS; rw [← ek, if_neg (by omega), if_pos (by omega), if_neg g2, ← eq, ← ek2, hv1, hu1, hx]
      · unfold wordS; rw [← ek, if_neg (by omega), if_pos (by omega), if_neg g2, ← eq]; exact eq2
  have g7 : m ≠ 7 := N _ _ g
  clear g
  conv => cbv
  refine st_lits hr tStrs rfl rfl (by decide) (by decide) (by rfl) (by intro v hv; simp only [List.mem_cons, List.not_mem_nil, or_false] at hv; rcases hv with rfl | rfl | rfl | rfl | rfl | rfl | rfl | rfl <;> rfl) fun A1 w2 hx2 ho2 => ?_
  have ho : Own w1.heap.size 9 1 w2 A1 8 8 (eight.map .string) := ho2 _ (Nat.le_refl _)
  have hs := ho.strs (by decide)
  conv => cbv
  refine st_quo hE (by decide) fun x hx => ?_
  have hx : x = k / 8 := by rw [hx, Int.tdiv_eq_ediv_of_nonneg k0]; exact wrap_in (by omega) (by omega)
  conv => cbv
  refine st_rem hE (by decide) fun y hy => ?_
  have hy : y = x % 8 := by rw [hy, Int.tmod_eq_emod_of_nonneg (by omega)]
  conv => cbv
  refine st_str hE tStrs hs (k := y.toNat) (by omega) (by omega) fun a s hsx hz hp => ?_
  conv => cbv
  refine st_load hE cStr hp ?_
  conv => cbv
  have h60 : ∀ t ∈ eight, t.size ≤ 60 := by decide
  rw [hR]; refine ⟨s, q, rfl, ⟨?_, ?_⟩, h60 s (List.mem_of_getElem? hsx), h1.bel hx2, hw1.trans (hx2.wr _)⟩
  · unfold wordS; rw [← ek, if_neg (by omega), if_neg (by omega), ← hx, ← hy, List.getD_eq_getElem?_getD, hsx]; rfl
  · unfold wordS; rw [← ek, if_neg (by omega), if_neg (by omega)]; exact eq
/-- n numbered names. -/
def wide (n : Nat) (f : Int) : List ByteArray := (List.range n).map fun (i : Nat) => ⟨#[119]⟩ ++ decS (f + i)
theorem wide_len (n : Nat) (f : Int) : (wide n f).length = n := by simp [wide]
theorem wide_snoc (k : Nat) (f : Int) : wide (k + 1) f = wide k f ++ [⟨#[119]⟩ ++ decS (f + k)] := by simp [wide, List.range_succ]
theorem wide_small {n : Nat} {f : Int} (h0 : 0 ≤ f) (h1 : f ≤ 1000) (hn : n ≤ 1000) : ∀ s ∈ wide n f, s.size ≤ 60 := by
  intro s hs
  simp only [wide, List.mem_map, List.mem_range] at hs
  obtain ⟨i, hi, rfl⟩ := hs
  rw [append_size]
  have := decS_size (n := f + i) (by unfold fits; omega)
  exact Nat.le_trans (Nat.add_le_add (show _ ≤ 1 by decide) this) (by decide)
theorem wide_f {w : World} (n : Nat) (f : Int) (h0 : 0 ≤ f) (h1 : f ≤ 1000) (hn : n ≤ 100) (i : Int) (hi : i = n) :
    FC Tryz.prog 32 [.int .i64 i, .int .i64 f] w (Copied w (wide n f)) := by
  refine FC.intro (cs := []) Tryz.func32 (by kernel_rfl) fun E R hE hr hR => ?_
  conv => cbv
  refine loop_rule hr (fun (s : (Nat × Int) × Option Addr × Nat × Nat) w' => Ext w w' ∧ s.1.1 ≤ n ∧ s.1.2 = s.1.1 ∧ Own w.heap.size 9 1 w' s.2.1 s.2.2.1 s.2.2.2 ((wide s.1.1 f).map .string))
    (fun s => [(0, .int .i64 i), (1, .int .i64 f), (5, .slice s.2.1 s.2.2.1 s.2.2.2), (6, .int .i64 s.1.2)]) (fun s => n - s.1.1) ((0, 0), none, 0, 0)
    (by simp [Fits, lk]) ⟨Ext.refl w, by simp, by simp, Own.nil⟩ ?_
  rintro I hI ⟨⟨k, j⟩, A1, n1, c1⟩ w1 ⟨hx, hk, hj, ho⟩
  simp only at hk hj ho
  have hl := ho.len
  simp only [List.length_map, wide_len, Nat.mul_one] at hl
  conv => cbv
  refine br (fun g => ?_) (fun g => ?_)
  · have g : j < i := by simpa [hE.cmp, cmpR] using g
    obtain ⟨y, hy⟩ : ∃ y, y = f + j := ⟨_, rfl⟩
    have e1 : E.ar .add .i64 f j = y := by rw [hE.ar, hy]; exact wrap_in (by omega) (by omega)
    obtain ⟨j', hj'⟩ : ∃ y, y = j + 1 := ⟨_, rfl⟩
    have e2 : E.ar .add .i64 j 1 = j' := by rw [hE.ar, hj']; exact wrap_in (by omega) (by omega)
    have fy : fits y := by unfold fits; omega
    conv => cbv
    simp only [e1]
    obtain ⟨u, hu⟩ : ∃ u, u = decS y := ⟨_, rfl⟩
    have z1 : u.size ≤ 20 := by rw [hu]; exact decS_size fy
    refine st_v hr (v := .string u) (by rw [hu]; exact l1decimal_v fy _) fun w2 hx2 => ?_
    replace ho := ho.bel hx2
    replace hx := hx.trans hx2
    conv => cbv
    refine st_cat hE (cat_ok' (m := 1) (by decide) z1 (by decide)) fun v1 hv1 => ?_
    conv => cbv
    refine st_one hr tStrs rfl rfl fun A2 w3 hx3 hc3 => ?_
    replace ho := ho.bel hx3
    replace hx := hx.trans hx3
    conv => cbv
    refine st_app hr tStrs rfl ho hc3 rfl hx.size (by omega) (by omega) fun A3 c3 n3 w4 hn3 hb4 ho4 => ?_
    conv => cbv
    simp only [e2]
    refine ⟨((k + 1, j'), A3, n3, c3), by simp [Fits, lk], hI _ _ ⟨hx.then hb4, by simp only; omega, by simp only; omega, ?_⟩, by simp only; omega⟩
    simp only
    rw [wide_snoc, List.map_append]
    have : v1 = ⟨#[119]⟩ ++ decS (f + k) := by rw [hv1, hu, hy, hj]
    rw [this] at ho4
    exact ho4
  · have g : k = n := by simp [hE.cmp, cmpR] at g; omega
    subst g
    conv => cbv
    rw [hR]; exact ⟨hx, A1, n1, c1, rfl, ho.strs fun s hs => Nat.le_trans (wide_small h0 h1 (by omega) s hs) (by decide), ho⟩
/-- k words from p on, and the place behind them. -/
def wordsL (zs : List Int) : Nat → Int → List ByteArray × Int
  | 0, p => ([], p)
  | k + 1, p => ((wordS zs p).1 :: (wordsL zs k (wordS zs p).2).1, (wordsL zs k (wordS zs p).2).2)
theorem wordsL_succ (zs : List Int) (k : Nat) (p : Int) : wordsL zs (k + 1) p = ((wordS zs p).1 :: (wordsL zs k (wordS zs p).2).1, (wordsL zs k (wordS zs p).2).2) := rfl
theorem wordsL_len (zs : List Int) : ∀ (k : Nat) (p : Int), (wordsL zs k p).1.length = k
  | 0, _ => rfl
  | k + 1, p => by rw [wordsL_succ]; simp [wordsL_len zs k]
/-- The scope set that is read at p. -/
def SetR (zs : List Int) (p : Int) (r : List ByteArray) (q : Int) : Prop :=
  (nx zs p % 13 = 12 ∧ SortOf (wide (64 - nx zs p / 13 % 3).toNat (nx zs (up zs p) % 40)) r ∧ q = up zs (up zs p)) ∨
  (nx zs p % 13 ≠ 12 ∧ SortOf (wordsL zs (nx zs p % 13 % 7).toNat (up zs p)).1 r ∧ q = (wordsL zs (nx zs p % 13 % 7).toNat (up zs p)).2)
theorem SetR.same {zs : List Int} {p : Int} {r r' : List ByteArray} {q q' : Int} (h : SetR zs p r q) (h' : SetR zs p r' q') : r = r' ∧ q = q' := by
  rcases h with ⟨h0, h1, rfl⟩ | ⟨h0, h1, rfl⟩ <;> rcases h' with ⟨k0, k1, rfl⟩ | ⟨k0, k1, rfl⟩
  · exact ⟨h1.same k1, rfl⟩
  · exact absurd h0 k0
  · exact absurd k0 h0
  · exact ⟨h1.same k1, rfl⟩
theorem nodup_len : ∀ (r xs : List ByteArray), r.Nodup → (∀ s ∈ r, s ∈ xs) → r.length ≤ xs.length
  | [], _, _, _ => by simp
  | a :: r, xs, hn, hs => by
    obtain ⟨h1, h2⟩ := List.nodup_cons.1 hn
    have ha := hs a (by simp)
    have := nodup_len r (xs.erase a) h2 fun s h => (List.mem_erase_of_ne (show s ≠ a from fun e => h1 (by rw [← e]; exact h))).2 (hs s (by simp [h]))
    rw [List.length_erase_of_mem ha] at this
    have := List.length_pos_of_mem ha
    simp; omega
theorem rise_nodup_len {xs r : List ByteArray} (h : SortOf xs r) : r.length ≤ xs.length := by
  obtain ⟨hp, hm⟩ := h
  have hn : r.Nodup := hp.imp fun h e => blt_ne h e
  exact nodup_len r xs hn fun s hs => (hm s).1 hs
theorem set_g {w0 w : World} {r : Addr} {A : Option Addr} {n c : Nat} {zs : List Int} {p : Int} (h : Rd w0 w r A n c zs p) :
    GC Tryz.prog 31 [.pointer (some r)] w fun v w' => ∃ xs q, SetR zs p xs q ∧ xs.length ≤ 64 ∧ (∀ s ∈ xs, s.size ≤ 60) ∧ Copied w xs v w' ∧ Rd w0 w' r A n c zs q ∧ Wr (some r) w w' := by
  refine GC.intro (cs := []) Tryz.func31 (by kernel_rfl) fun E R hE hr hR => ?_
  have hsz := h.box.form
  conv => cbv
  refine st_g hr (next_g h) fun v w1 ⟨k, q, ev, k0, k1, ⟨ek, eq⟩, h1, hw1⟩ => ?_
  subst ev
  conv => cbv
  refine st_rem hE (by decide) fun m hm => ?_
  have hm : m = k % 13 := by rw [hm, Int.tmod_eq_emod_of_nonneg k0]
  conv => cbv
  refine br (fun g => ?_) (fun g => ?_)
  · have g : m = 12 := by simpa [hE.cmp, cmpR] using g
    conv => cbv
    refine st_quo hE (by decide) fun x hx => ?_
    have hx : x = k / 13 := by rw [hx, Int.tdiv_eq_ediv_of_nonneg k0]; exact wrap_in (by omega) (by omega)
    conv => cbv
    refine st_rem hE (by decide) fun y hy => ?_
    have hy : y = x % 3 := by rw [hy, Int.tmod_eq_emod_of_nonneg (by omega)]
    obtain ⟨z, hz⟩ : ∃ z, z = 64 - y := ⟨_, rfl⟩
    have e1 : E.ar .sub .i64 64 y = z := by rw [hE.ar, hz]; exact wrap_in (by omega) (by omega)
    conv => cbv
    simp only [e1]
    refine st_g hr (next_g h1) fun v w2 ⟨k2, q2, ev, k20, k21, ⟨ek2, eq2⟩, h2, hw2⟩ => ?_
    subst ev
    conv => cbv
    refine st_rem hE (by decide) fun f hf => ?_
    have hf : f = k2 % 40 := by rw [hf, Int.tmod_eq_emod_of_nonneg k20]
    conv => cbv
    refine st_f hr (wide_f z.toNat f (by omega) (by omega) (by omega) z (by omega)) fun v w3 hx3 ⟨A3, n3, c3, ev, hs3, ho3⟩ => ?_
    subst ev
    have l3 := hs3.len
    rw [wide_len] at l3
    conv => cbv
    refine st_f hr (l1sorted_f hs3 (by omega)) fun v w4 hx4 ⟨xs, hso, A4, n4, c4, ev, hs4, ho4⟩ => ?_
    subst ev
    have hx := hx3.trans hx4
    have hln := rise_nodup_len hso
    rw [wide_len] at hln
    have hw := hw1.trans hw2
    conv => cbv
    rw [hR]; refine ⟨xs, q2, .inl ⟨?_, ?_, ?_⟩, by omega, fun s hs => wide_small (by omega) (by omega) (by omega) s ((hso.2 s).1 hs), ⟨A4, n4, c4, rfl, hs4, ho4.mono (Nat.le_trans hw.size hx3.size)⟩, h2.bel hx, hw.trans (hx.wr _)⟩
    · rw [← ek]; omega
    · rw [← ek, ← eq, ← ek2, show 64 - k / 13 % 3 = z by omega, ← hf]; exact hso
    · rw [← eq]; exact eq2
  have g : m ≠ 12 := by simpa [hE.cmp, cmpR] using g
  conv => cbv
  refine st_rem hE (by decide) fun m2 hm2 => ?_
  have hm2 : m2 = k % 13 := by rw [hm2, Int.tmod_eq_emod_of_nonneg k0]
  conv => cbv
  refine st_rem hE (by decide) fun y hy => ?_
  have hy : y = m2 % 7 := by rw [hy, Int.tmod_eq_emod_of_nonneg (by omega)]
  obtain ⟨T, hT⟩ : ∃ T, T = wordsL zs y.toNat q := ⟨_, rfl⟩
  conv => cbv
  refine loop_rule hr (fun (s : (Nat × Int × Int) × List ByteArray × Option Addr × Nat × Nat) w' => s.1.1 ≤ 6 ∧ s.1.2.1 = s.1.1 ∧ s.2.1.length + s.1.1 ≤ 6 ∧ (∀ t ∈ s.2.1, t.size ≤ 60) ∧ (s.2.1 ++ (wordsL zs s.1.1 s.1.2.2).1, (wordsL zs s.1.1 s.1.2.2).2) = T ∧ Own w.heap.size 9 1 w' s.2.2.1 s.2.2.2.1 s.2.2.2.2 (s.2.1.map .string) ∧ Rd w0 w' r A n c zs s.1.2.2 ∧ Wr (some r) w w')
    (fun s => [(0, .pointer (some r)), (4, .slice s.2.2.1 s.2.2.2.1 s.2.2.2.2), (5, .int .i64 s.1.2.1)]) (fun s => s.1.1) ((y.toNat, y, q), [], none, 0, 0)
    (by simp [Fits, lk]) ⟨by simp only; omega, by simp only; omega, by simp; omega, by simp, by simp [hT], Own.nil, h1, hw1⟩ ?_
  rintro I hI ⟨⟨j, i, p2⟩, xs, A2, n2, c2⟩ w2 ⟨hj, hi, hln, hsm, hTt, ho, hr2, hw2⟩
  simp only at hj hi hln hsm hTt ho hr2
  have hl := ho.len
  simp only [List.length_map, Nat.mul_one] at hl
  conv => cbv
  refine br (fun g => ?_) (fun g => ?_)
  · have g : 0 < i := by simpa [hE.cmp, cmpR] using g
    obtain ⟨j, rfl⟩ : ∃ t, j = t + 1 := ⟨j - 1, by omega⟩
    obtain ⟨i', hi'⟩ : ∃ z, z = i - 1 := ⟨_, rfl⟩
    have e1 : E.ar .sub .i64 i 1 = i' := by rw [hE.ar, hi']; exact wrap_in (by omega) (by omega)
    have ap := h.box.apart ho (Nat.le_refl _)
    conv => cbv
    refine st_g hr (word_g hr2) fun v w3 ⟨s, q3, ev, ⟨es, eq3⟩, sz, h3, hw3⟩ => ?_
    subst ev
    replace ho := ho.wr hw3 ap.2
    replace hw2 := hw2.trans hw3
    conv => cbv
    refine st_one hr tStrs rfl rfl fun A4 w4 hx4 hc4 => ?_
    replace ho := ho.bel hx4
    replace hw2 := hw2.trans (hx4.wr _)
    conv => cbv
    refine st_apps hr tStrs rfl ho hc4 rfl (by simp [Value.oneCell']) hw2.size (by omega) (by omega) fun A5 c5 m5 w5 em hw5 ho5 => ?_
    have ap2 := h.box.apart ho (Nat.le_refl _)
    conv => cbv
    simp only [e1]
    refine ⟨((j, i', q3), xs ++ [s], A5, m5, c5), by simp [Fits, lk], hI _ _ ⟨by simp only; omega, by simp only; omega, by simp; omega, ?_, ?_, ?_, (h3.bel hx4).wr hw5 ho h.ext.size ap2.1, wr_own hw2 hw5 ho⟩, by simp only; omega⟩
    · intro t ht
      rcases List.mem_append.1 ht with ht | ht
      · exact hsm t ht
      · rw [List.mem_singleton.1 ht]; exact sz
    · rw [← hTt, wordsL_succ, es, eq3]; simp
    · simpa using ho5
  · have g : j = 0 := by simp [hE.cmp, cmpR] at g; omega
    subst g
    have hst := ho.strs fun s hs => Nat.le_trans (hsm s hs) (by decide)
    conv => cbv
    refine st_f hr (l1sorted_f hst (by omega)) fun v w4 hx4 ⟨ys, hso, A4, n4, c4, ev, hs4, ho4⟩ => ?_
    subst ev
    have hln2 := rise_nodup_len hso
    simp only [wordsL, List.append_nil] at hTt
    conv => cbv
    rw [hR]; refine ⟨ys, p2, .inr ⟨?_, ?_, ?_⟩, by omega, fun s hs => hsm s ((hso.2 s).1 hs), ⟨A4, n4, c4, rfl, hs4, ho4.mono hw2.size⟩, hr2.bel hx4, hw2.trans (hx4.wr _)⟩
    · rw [← ek]; omega
    · rw [← ek, ← eq, ← hm2, ← hy, ← hT, ← hTt]; exact hso
    · rw [← ek, ← eq, ← hm2, ← hy, ← hT, ← hTt]
/-- A set made one that is none, in one place. -/
def SpoilR (zs : List Int) (p : Int) (xs r : List ByteArray) (q : Int) : Prop :=
  q = up zs p ∧ ((nx zs p % 5 = 0 ∧ r = xs ++ [⟨#[]⟩]) ∨ (nx zs p % 5 = 1 ∧ r = xs ++ [⟨#[97]⟩]) ∨ (nx zs p % 5 = 2 ∧ r = xs ++ [⟨#[122, 122, 32, 116, 111, 112]⟩]) ∨ (nx zs p % 5 = 3 ∧ r = xs ++ wide 64 100) ∨ (nx zs p % 5 = 4 ∧ ((xs = [] ∧ r = []) ∨ ∃ s, xs[xs.length - 1]? = some s ∧ r = xs ++ [s])))
theorem spoil_g {w0 w : World} {r : Addr} {A : Option Addr} {n c : Nat} {zs : List Int} {p : Int} (h : Rd w0 w r A n c zs p) {A1 : Option Addr} {n1 c1 : Nat} {xs : List ByteArray} {Bx : Nat} (hs : Own Bx 9 1 w A1 n1 c1 (xs.map .string)) (ha : Apart A1 (some r)) (hz : ∀ s ∈ xs, s.size ≤ 60) (hn : xs.length ≤ 64) :
    GC Tryz.prog 13 [.pointer (some r), .slice A1 n1 c1] w fun v w' => ∃ ys q, SpoilR zs p xs ys q ∧ ys.length ≤ 128 ∧ (∀ s ∈ ys, s.size ≤ 60) ∧ Copied w ys v w' ∧ Rd w0 w' r A n c zs q ∧ Wr (some r) w w' := by
  refine GC.intro (cs := []) Tryz.func13 (by kernel_rfl) fun E R hE hr hR => ?_
  have l1 := hs.len
  simp only [List.length_map, Nat.mul_one] at l1
  have P : ∀ x y : Int, E.cmp .eql x y = true → x = y := fun x y h => by rw [hE.cmp] at h; simpa [cmpR] using h
  have N : ∀ x y : Int, ¬ E.cmp .eql x y = true → x ≠ y := fun x y h => by rw [hE.cmp] at h; simpa [cmpR] using h
  conv => cbv
  have on : Own w.heap.size 9 1 w none 0 0 [] := Own.nil
  refine st_apps hr tStrs rfl on hs.cells (by simp [l1]) (by simp [Value.oneCell']) (Nat.le_refl _) (by omega) (by omega) fun A2 c2 m2 w1 em hw1 ho => ?_
  rw [List.nil_append] at ho
  have ap := h.box.apart ho (Nat.le_refl _)
  have h1 := h.wr hw1 on h.ext.size (.inr (by have := h.box.form; obtain ⟨gb, rfl, _⟩ := this; simp [blk, Value.ownBlock]))
  have hw := wr_own (Wr.refl (some r) w) hw1 on
  conv => cbv
  refine st_g hr (next_g h1) fun v w2 ⟨k, q, ev, k0, k1, ⟨ek, eq⟩, h2, hw2⟩ => ?_
  subst ev
  replace ho := ho.wr hw2 ap.2
  replace hw := hw.trans hw2
  conv => cbv
  refine st_rem hE (by decide) fun m hm => ?_
  have hm : m = k % 5 := by rw [hm, Int.tmod_eq_emod_of_nonneg k0]
  have fin : ∀ {v : Value} {w3 w4 : World} {A3 A4 : Option Addr} {m4 c4 : Nat} {s : ByteArray}, s.size ≤ 60 → SpoilR zs p xs (xs ++ [s]) q → Ext w2 w3 → Wr A2 w3 w4 → Own w.heap.size 9 1 w4 A4 m4 c4 (xs.map .string ++ [.string s]) → R (.slice A4 m4 c4) w4 := by
    intro v w3 w4 A3 A4 m4 c4 s hsz hsp hx hw4 ho4
    have ho3 := ho.bel hx
    have ap3 := h.box.apart ho3 (Nat.le_refl _)
    rw [show xs.map Value.string ++ [.string s] = (xs ++ [s]).map .string by simp] at ho4
    have hsm : ∀ t ∈ xs ++ [s], t.size ≤ 60 := fun t ht => by
      rcases List.mem_append.1 ht with ht | ht
      · exact hz t ht
      · rw [List.mem_singleton.1 ht]; exact hsz
    rw [hR]; exact ⟨xs ++ [s], q, hsp, by simp; omega, hsm, ⟨A4, m4, c4, rfl, ho4.strs fun t ht => Nat.le_trans (hsm t ht) (by decide), ho4⟩, (h2.bel hx).wr hw4 ho3 h.ext.size ap3.1, wr_own (hw.trans (hx.wr _)) hw4 ho3⟩
  conv => cbv
  refine br (fun g => ?_) (fun g => ?_)
  · have g : m = 0 := P _ _ g
    conv => cbv
    refine st_one hr tStrs rfl rfl fun A3 w3 hx3 hc3 => ?_
    conv => cbv
    refine st_apps hr tStrs rfl (ho.bel hx3) hc3 rfl (by simp [Value.oneCell']) (hw.trans (hx3.wr (some r))).size (by omega) (by omega) fun A4 c4 m4 w4 em hw4 ho4 => ?_
    conv => cbv
    exact fin (v := undef) (A3 := A3) (by decide) ⟨eq, .inl ⟨by rw [← ek]; omega, rfl⟩⟩ hx3 hw4 ho4
  have g0 := N _ _ g
  clear g
  conv => cbv
  refine br (fun g => ?_) (fun g => ?_)
  · have g : m = 1 := P _ _ g
    conv => cbv
    refine st_one hr tStrs rfl rfl fun A3 w3 hx3 hc3 => ?_
    conv => cbv
    refine st_apps hr tStrs rfl (ho.bel hx3) hc3 rfl (by simp [Value.oneCell']) (hw.trans (hx3.wr (some r))).size (by omega) (by omega) fun A4 c4 m4 w4 em hw4 ho4 => ?_
    conv => cbv
    exact fin (v := undef) (A3 := A3) (by decide) ⟨eq, .inr (.inl ⟨by rw [← ek]; omega, rfl⟩)⟩ hx3 hw4 ho4
  have g1 := N _ _ g
  clear g
  conv => cbv
  refine br (fun g => ?_) (fun g => ?_)
  · have g : m = 2 := P _ _ g
    conv => cbv
    refine st_one hr tStrs rfl rfl fun A3 w3 hx3 hc3 => ?_
    conv => cbv
    refine st_apps hr tStrs rfl (ho.bel hx3) hc3 rfl (by simp [Value.oneCell']) (hw.trans (hx3.wr (some r))).size (by omega) (by omega) fun A4 c4 m4 w4 em hw4 ho4 => ?_
    conv => cbv
    exact fin (v := undef) (A3 := A3) (by decide) ⟨eq, .inr (.inr (.inl ⟨by rw [← ek]; omega, rfl⟩))⟩ hx3 hw4 ho4
  have g2 := N _ _ g
  clear g
  conv => cbv
  refine br (fun g => ?_) (fun g => ?_)
  · have g : m = 3 := P _ _ g
    conv => cbv
    refine st_f hr (wide_f 64 100 (by omega) (by omega) (by omega) 64 rfl) fun v w3 hx3 ⟨A3, n3, c3, ev, hs3, ho3⟩ => ?_
    subst ev
    have l3 := hs3.len
    rw [wide_len] at l3
    conv => cbv
    refine st_apps hr tStrs rfl (ho.bel hx3) hs3.cells (by simp [wide_len, l3]) (by simp [Value.oneCell']) (hw.trans (hx3.wr (some r))).size (by omega) (by omega) fun A4 c4 m4 w4 em hw4 ho4 => ?_
    have ho3' := ho.bel hx3
    have ap3 := h.box.apart ho3' (Nat.le_refl _)
    rw [← List.map_append] at ho4
    have hsm : ∀ t ∈ xs ++ wide 64 100, t.size ≤ 60 := fun t ht => by
      rcases List.mem_append.1 ht with ht | ht
      · exact hz t ht
      · exact wide_small (by omega) (by omega) (by omega) t ht
    conv => cbv
    rw [hR]; exact ⟨xs ++ wide 64 100, q, ⟨eq, .inr (.inr (.inr (.inl ⟨by rw [← ek]; omega, rfl⟩)))⟩, by simp [wide_len]; omega, hsm, ⟨A4, m4, c4, rfl, ho4.strs fun t ht => Nat.le_trans (hsm t ht) (by decide), ho4⟩, (h2.bel hx3).wr hw4 ho3' h.ext.size ap3.1, wr_own (hw.trans (hx3.wr _)) hw4 ho3'⟩
  have g3 := N _ _ g
  clear g
  have hst := ho.strs fun t ht => Nat.le_trans (hz t ht) (by decide)
  conv => cbv
  refine st_len hE tStrs fun x hx => ?_
  conv => cbv
  refine br (fun g => ?_) (fun g => ?_)
  · have g : 0 < x := by simpa [hE.cmp, cmpR] using g
    conv => cbv
    refine st_len hE tStrs fun x2 hx2 => ?_
    obtain ⟨i, hi⟩ : ∃ z, z = x2 - 1 := ⟨_, rfl⟩
    have e1 : E.ar .sub .i64 x2 1 = i := by rw [hE.ar, hi]; exact wrap_in (by omega) (by omega)
    conv => cbv
    simp only [e1]
    refine st_str hE tStrs hst (k := xs.length - 1) (by omega) (by omega) fun a s hsx hzs hp => ?_
    conv => cbv
    refine st_load hE cStr hp ?_
    conv => cbv
    refine st_one hr tStrs rfl rfl fun A3 w3 hx3 hc3 => ?_
    conv => cbv
    refine st_apps hr tStrs rfl (ho.bel hx3) hc3 rfl (by simp [Value.oneCell']) (hw.trans (hx3.wr (some r))).size (by omega) (by omega) fun A4 c4 m4 w4 em hw4 ho4 => ?_
    conv => cbv
    exact fin (v := undef) (A3 := A3) (hz s (List.mem_of_getElem? hsx)) ⟨eq, .inr (.inr (.inr (.inr ⟨by rw [← ek]; omega, .inr ⟨s, hsx, rfl⟩⟩)))⟩ hx3 hw4 ho4
  · have g : xs = [] := List.eq_nil_of_length_eq_zero (by simp [hE.cmp, cmpR] at g; omega)
    conv => cbv
    rw [hR]; exact ⟨xs, q, ⟨eq, .inr (.inr (.inr (.inr ⟨by rw [← ek]; omega, .inl ⟨g, g⟩⟩)))⟩, by omega, hz, ⟨A2, m2, c2, rfl, hst, ho⟩, h2, hw⟩
end Go.Proofs.YtjaejonnbhdddaaGreatDoor
