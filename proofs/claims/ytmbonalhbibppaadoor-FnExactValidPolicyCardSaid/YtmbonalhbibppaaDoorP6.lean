/- Names of tokens: runs of bytes, words, what both sides call a name. -/
import Derived.Test.YtmbonalhbibppaaDoorEng15
import Derived.Test.YtmbonalhbibppaaDoorV4
namespace Go.Proofs.YtmbonalhbibppaaDoor
open Go.Eng
set_option linter.unusedVariables false
set_option linter.unusedSimpArgs false
theorem scq {P : Program} {E : Sym} {bq : Bool} (hE : EngB bq P E) (a b : ByteArray) : E.scmp .eql a b = true ↔ a = b := by rw [hE.scmp, scmp_eql]
theorem scn {P : Program} {E : Sym} {bq : Bool} (hE : EngB bq P E) (s : ByteArray) : E.scmp .neq s ⟨#[]⟩ = true ↔ s.size ≠ 0 := by rw [hE.scmp]; exact ne_empty s
def sm (c : Int) : Prop := 97 ≤ c ∧ c ≤ 122
def dg (c : Int) : Prop := 48 ≤ c ∧ c ≤ 57
def wb (c : Int) : Prop := sm c ∨ dg c ∨ c = 95
theorem isSmall_q (c : Int) (w : World) : QB Tryd.prog 120 [.int .u8 c] w (sm c) := by
  refine QB.intro (cs := []) Tryd.func120 (by kernel_rfl) fun w0 hx0 w1 hs E R hE hr hR => ?_
  conv => cbv
  refine br (fun g => ?_) (fun g => ?_)
  · conv => cbv
    exact hR _ _ hs (by simp [hE.cmp, cmpR] at g ⊢; unfold sm; omega)
  · conv => cbv
    exact hR _ _ hs (by simp [hE.cmp, cmpR] at g ⊢; unfold sm; omega)
theorem l2letter_q (c : Int) (w : World) : QB Tryd.prog 104 [.int .u8 c] w (sm c) := by
  refine QB.intro (cs := []) Tryd.func104 (by kernel_rfl) fun w0 hx0 w1 hs E R hE hr hR => ?_
  conv => cbv
  refine br (fun g => ?_) (fun g => ?_)
  · conv => cbv
    exact hR _ _ hs (by simp [hE.cmp, cmpR] at g ⊢; unfold sm; omega)
  · conv => cbv
    exact hR _ _ hs (by simp [hE.cmp, cmpR] at g ⊢; unfold sm; omega)
theorem isDigit_q (c : Int) (w : World) : QB Tryd.prog 141 [.int .u8 c] w (dg c) := by
  refine QB.intro (cs := []) Tryd.func141 (by kernel_rfl) fun w0 hx0 w1 hs E R hE hr hR => ?_
  conv => cbv
  refine br (fun g => ?_) (fun g => ?_)
  · conv => cbv
    exact hR _ _ hs (by simp [hE.cmp, cmpR] at g ⊢; unfold dg; omega)
  · conv => cbv
    exact hR _ _ hs (by simp [hE.cmp, cmpR] at g ⊢; unfold dg; omega)
theorem l2digit_q (c : Int) (w : World) : QB Tryd.prog 107 [.int .u8 c] w (dg c) := by
  refine QB.intro (cs := []) Tryd.func107 (by kernel_rfl) fun w0 hx0 w1 hs E R hE hr hR => ?_
  conv => cbv
  refine br (fun g => ?_) (fun g => ?_)
  · conv => cbv
    exact hR _ _ hs (by simp [hE.cmp, cmpR] at g ⊢; unfold dg; omega)
  · conv => cbv
    exact hR _ _ hs (by simp [hE.cmp, cmpR] at g ⊢; unfold dg; omega)
theorem wordByte_q (c : Int) (w : World) : QB Tryd.prog 122 [.int .u8 c] w (wb c) := by
  refine QB.intro (cs := []) Tryd.func122 (by kernel_rfl) fun w0 hx0 w1 hs E R hE hr hR => ?_
  conv => cbv
  refine st_qb hE (isSmall_q c _) fun b hb w2 hs2 => ?_
  replace hs := hs.trans hs2
  cases b with
  | true =>
    conv => cbv
    exact hR _ _ hs (by unfold wb; simp [hb.1 rfl])
  | false =>
    have h1 : ¬ sm c := fun q => absurd (hb.2 q) (by simp)
    conv => cbv
    refine st_qb hE (isDigit_q c _) fun b2 hb2 w3 hs3 => ?_
    replace hs := hs.trans hs3
    cases b2 with
    | true =>
      conv => cbv
      exact hR _ _ hs (by unfold wb; simp [hb2.1 rfl])
    | false =>
      have h2 : ¬ dg c := fun q => absurd (hb2.2 q) (by simp)
      conv => cbv
      exact hR _ _ hs (by simp [hE.cmp, cmpR, wb, h1, h2])
/-- From i to j all bytes are of this kind, and the one at j is not. -/
structure RunTo (P : Int → Prop) (s : ByteArray) (i j : Nat) : Prop where
  le : i ≤ j
  hi : j ≤ s.size
  all : ∀ k (h : k < s.size), i ≤ k → k < j → P (s[k].toNat)
  stop : ∀ h : j < s.size, ¬ P (s[j].toNat)
theorem RunTo.uniq {P : Int → Prop} {s : ByteArray} {i j j' : Nat} (h : RunTo P s i j) (h' : RunTo P s i j') : j = j' := by
  rcases Nat.lt_trichotomy j j' with e | e | e
  · exact absurd (h'.all j (by have := h'.hi; omega) h.le e) (h.stop _)
  · exact e
  · exact absurd (h.all j' (by have := h.hi; omega) h'.le e) (h'.stop _)
theorem runTo_ex (P : Int → Prop) (s : ByteArray) : ∀ (m i : Nat), i + m = s.size → ∃ j, RunTo P s i j
  | 0, i, h => ⟨i, Nat.le_refl _, by omega, fun k hk h1 h2 => by omega, fun h => by omega⟩
  | m + 1, i, h => by
    by_cases hp : P ((s[i]'(by omega)).toNat)
    · obtain ⟨j, hj⟩ := runTo_ex P s m (i + 1) (by omega)
      refine ⟨j, by have := hj.le; omega, hj.hi, fun k hk h1 h2 => ?_, hj.stop⟩
      rcases Nat.eq_or_lt_of_le h1 with e | e
      · subst e; exact hp
      · exact hj.all k hk e h2
    · exact ⟨i, Nat.le_refl _, by omega, fun k hk h1 h2 => by omega, fun _ => hp⟩
theorem l2run_q {s : ByteArray} {i j : Nat} {ii : Int} (hii : ii = (i : Int)) (hj : RunTo wb s i j) (hl : s.size ≤ 9223372036854775807) (w : World) : QF Tryd.prog 105 [.string s, .int .i64 ii] w (.int .i64 (j : Int)) := by
  refine QF.intro (cs := []) Tryd.func105 (by kernel_rfl) fun w0 hx0 w1 hs E R hE hr hR => ?_
  conv => cbv
  refine loop_rule hr (fun (t : Nat × Int) w' => Same w0 w' ∧ t.2 = (t.1 : Int) ∧ i ≤ t.1 ∧ t.1 ≤ s.size ∧ ∀ k (h : k < s.size), i ≤ k → k < t.1 → wb (s[k].toNat)) (fun t => [(0, .string s), (1, .int .i64 t.2)]) (fun t => s.size - t.1) (i, ii)
    (by simp [Fits, lk]) ⟨hs, hii, Nat.le_refl _, by have := hj.le; have := hj.hi; omega, fun k h h1 h2 => by simp only at h2; omega⟩ ?_
  rintro I hI ⟨k, kk⟩ w' ⟨hs', hkk, hk1, hk2, hall⟩
  simp only at hkk hk1 hk2 hall
  obtain ⟨kj, hkj⟩ : ∃ z, z = kk + 1 := ⟨_, rfl⟩
  have fin : ∀ w2, Same w0 w2 → (∀ h : k < s.size, ¬ wb (s[k].toNat)) → R (.int .i64 kk) w2 := fun w2 h2 hst => by
    have := hj.uniq ⟨hk1, hk2, hall, hst⟩
    rw [hR, hkk, this]; exact ⟨rfl, h2⟩
  conv => cbv
  refine st_slen hE uStr fun x hx => ?_
  conv => cbv
  refine br (fun g => ?_) (fun g => ?_)
  · have g : k < s.size := by
      have : kk < x := by simpa [hE.cmp, cmpR] using g
      omega
    have ek : E.ar .add .i64 kk 1 = kj := by rw [hE.ar, hkj]; exact wrap_in (by omega) (by omega)
    obtain ⟨cz, hcz⟩ : ∃ cz : Int, cz = ((s[k]'g).toNat : Int) := ⟨_, rfl⟩
    have go : wb cz → ∀ w2, Same w0 w2 → I (k + 1, kj) w2 := fun hw w2 h2 => hI _ _ ⟨h2, by simp only; omega, by simp only; omega, by simp only; omega, fun q h h1 h3 => by
      rcases Nat.lt_or_ge q k with e | e
      · exact hall q h h1 e
      · obtain rfl : q = k := by simp only at h3; omega
        rw [← hcz]; exact hw⟩
    conv => cbv
    refine st_byte hE uStr (by omega) (by omega) fun c hc h0 h1 => ?_
    have hc : c = cz := by rw [hc, hcz]; congr 2; simp only [hkk, Int.toNat_natCast]
    subst hc
    conv => cbv
    refine st_qb hE (l2letter_q c _) fun b hb w2 hs2 => ?_
    cases b with
    | true =>
      conv => cbv
      simp only [ek]
      exact ⟨(k + 1, kj), by simp [Fits, lk], go (.inl (hb.1 rfl)) _ (hs'.trans hs2), by simp only; omega⟩
    | false =>
      have h2 : ¬ sm c := fun q => absurd (hb.2 q) (by simp)
      conv => cbv
      refine st_byte hE uStr (by omega) (by omega) fun c' hc' _ _ => ?_
      have hc' : c' = c := by rw [hc', hcz]; congr 2; simp only [hkk, Int.toNat_natCast]
      subst hc'
      conv => cbv
      refine st_qb hE (l2digit_q c' _) fun b2 hb2 w3 hs3 => ?_
      cases b2 with
      | true =>
        conv => cbv
        simp only [ek]
        exact ⟨(k + 1, kj), by simp [Fits, lk], go (.inr (.inl (hb2.1 rfl))) _ ((hs'.trans hs2).trans hs3), by simp only; omega⟩
      | false =>
        have h3 : ¬ dg c' := fun q => absurd (hb2.2 q) (by simp)
        conv => cbv
        refine st_byte hE uStr (by omega) (by omega) fun c2 hc2 _ _ => ?_
        have hc2 : c2 = c' := by rw [hc2, hcz]; congr 2; simp only [hkk, Int.toNat_natCast]
        subst hc2
        conv => cbv
        refine br (fun g3 => ?_) (fun g3 => ?_)
        · have g3 : c2 = 95 := by simpa [hE.cmp, cmpR] using g3
          conv => cbv
          simp only [ek]
          exact ⟨(k + 1, kj), by simp [Fits, lk], go (.inr (.inr g3)) _ ((hs'.trans hs2).trans hs3), by simp only; omega⟩
        · have g3 : c2 ≠ 95 := by simpa [hE.cmp, cmpR] using g3
          conv => cbv
          exact fin _ ((hs'.trans hs2).trans hs3) (fun _ => by rw [← hcz]; unfold wb; simp [h2, h3, g3])
  · have g : ¬ k < s.size := by
      have : ¬ kk < x := by simpa [hE.cmp, cmpR] using g
      omega
    conv => cbv
    exact fin _ hs' (fun h => absurd h g)
theorem run_q {s : ByteArray} {j : Nat} {Pr : Int → Prop} {f : FuncId} (hj : RunTo Pr s 0 j) (hl : s.size ≤ 9223372036854775807) (w : World) (hq : ∀ c w', QB Tryd.prog f [.int .u8 c] w' (Pr c)) : QF Tryd.prog 121 [.string s, .func (.func f) #[] #[]] w (.string (s.extract 0 j)) := by
  refine QF.intro (cs := []) Tryd.func121 (by kernel_rfl) fun w0 hx0 w1 hs E R hE hr hR => ?_
  conv => cbv
  refine loop_rule hr (fun (t : Nat × Int) w' => Same w0 w' ∧ t.2 = (t.1 : Int) ∧ t.1 ≤ s.size ∧ ∀ k (h : k < s.size), 0 ≤ k → k < t.1 → Pr (s[k].toNat)) (fun t => [(0, .string s), (1, .func (.func f) #[] #[]), (5, .int .i64 t.2)]) (fun t => s.size - t.1) (0, 0)
    (by simp [Fits, lk]) ⟨hs, rfl, by omega, fun k h h1 h2 => by simp only at h2; omega⟩ ?_
  rintro I hI ⟨k, kk⟩ w' ⟨hs', hkk, hk2, hall⟩
  simp only at hkk hk2 hall
  obtain ⟨kj, hkj⟩ : ∃ z, z = kk + 1 := ⟨_, rfl⟩
  conv => cbv
  refine st_slen hE uStr fun x hx => ?_
  conv => cbv
  refine br (fun g => ?_) (fun g => ?_)
  · have g : k < s.size := by
      have : kk < x := by simpa [hE.cmp, cmpR] using g
      omega
    have ek : E.ar .add .i64 kk 1 = kj := by rw [hE.ar, hkj]; exact wrap_in (by omega) (by omega)
    obtain ⟨cz, hcz⟩ : ∃ cz : Int, cz = ((s[k]'g).toNat : Int) := ⟨_, rfl⟩
    conv => cbv
    refine st_byte hE uStr (by omega) (by omega) fun c hc h0 h1 => ?_
    have hc : c = cz := by rw [hc, hcz]; congr 2; simp only [hkk, Int.toNat_natCast]
    subst hc
    conv => cbv
    refine st_qb hE (hq c _) fun b hb w2 hs2 => ?_
    cases b with
    | true =>
      conv => cbv
      simp only [ek]
      refine ⟨(k + 1, kj), by simp [Fits, lk], hI _ _ ⟨hs'.trans hs2, by simp only; omega, by simp only; omega, fun q h h1 h3 => ?_⟩, by simp only; omega⟩
      rcases Nat.lt_or_ge q k with e | e
      · exact hall q h h1 e
      · obtain rfl : q = k := by simp only at h3; omega
        rw [← hcz]; exact hb.1 rfl
    | false =>
      have h2 : ¬ Pr c := fun q => absurd (hb.2 q) (by simp)
      have ej := hj.uniq ⟨Nat.zero_le _, hk2, hall, fun _ => by rw [← hcz]; exact h2⟩
      conv => cbv
      refine st_upTo hE uStr (by omega) (by omega) fun u hu => ?_
      conv => cbv
      rw [hR, hu, ej, hkk]; exact ⟨by simp; rfl, hs'.trans hs2⟩
  · have g : ¬ k < s.size := by
      have : ¬ kk < x := by simpa [hE.cmp, cmpR] using g
      omega
    have ej := hj.uniq ⟨Nat.zero_le _, hk2, hall, fun h => absurd h g⟩
    conv => cbv
    refine st_upTo hE uStr (by omega) (by omega) fun u hu => ?_
    conv => cbv
    rw [hR, hu, ej, hkk]; exact ⟨by simp; rfl, hs'⟩
/-! ### Words -/
def words : List ByteArray := [⟨⟨[108, 101, 116]⟩⟩, ⟨⟨[119, 104, 101, 110]⟩⟩, ⟨⟨[101, 108, 115, 101]⟩⟩, ⟨⟨[100, 101, 110, 121]⟩⟩, ⟨⟨[103, 114, 97, 110, 116]⟩⟩, ⟨⟨[105, 102]⟩⟩, ⟨⟨[116, 104, 101, 110]⟩⟩, ⟨⟨[110, 111, 116]⟩⟩, ⟨⟨[97, 110, 100]⟩⟩, ⟨⟨[111, 114]⟩⟩, ⟨⟨[105, 110]⟩⟩, ⟨⟨[119, 105, 116, 104, 105, 110]⟩⟩, ⟨⟨[115, 105, 122, 101]⟩⟩, ⟨⟨[116, 114, 117, 101]⟩⟩, ⟨⟨[102, 97, 108, 115, 101]⟩⟩]
theorem words_small : ∀ s ∈ words, s.size ≤ 9223372036854775807 := by
  have h : ∀ s ∈ words, s.size ≤ 6 := by decide
  exact fun s hs => by have := h s hs; omega
theorem l2word_f (s : ByteArray) (w : World) : FC Tryd.prog 106 [.string s] w fun v _ => ∃ b : Bool, v = .bool b ∧ (b = true ↔ s ∈ words) := by
  refine FC.intro (cs := []) Tryd.func106 (by kernel_rfl) fun E R hE hr hR => ?_
  conv => cbv
  refine st_lits hr tStrs rfl (vs := words.map .string) (m := 15) rfl (by omega) (by omega) rfl (by simp [words, Value.cells]) fun A w1 hx ho => ?_
  have hS : Strs w1 A 15 15 words := Own.strs (ho _ (Nat.le_refl _)) words_small
  conv => cbv
  refine st_len hE tStrs fun x hx2 => ?_
  conv => cbv
  refine loop_rule hr (fun (t : Nat × Int) w' => Same w1 w' ∧ t.2 = (t.1 : Int) ∧ t.1 ≤ 15 ∧ s ∉ words.take t.1) (fun t => [(0, .string s), (5, .slice A 15 15), (6, .int .i64 x), (7, .int .i64 t.2)]) (fun t => 15 - t.1) (0, 0)
    (by simp [Fits, lk]) ⟨Same.refl _, rfl, by omega, by simp⟩ ?_
  rintro I hI ⟨k, kk⟩ w' ⟨hs', hkk, hk2, hall⟩
  simp only at hkk hk2 hall
  obtain ⟨kj, hkj⟩ : ∃ z, z = kk + 1 := ⟨_, rfl⟩
  conv => cbv
  refine br (fun g => ?_) (fun g => ?_)
  · have g : k < 15 := by
      have : kk < x := by simpa [hE.cmp, cmpR] using g
      omega
    have ek : E.ar .add .i64 kk 1 = kj := by rw [hE.ar, hkj]; exact wrap_in (by omega) (by omega)
    conv => cbv
    refine st_str hE tStrs (hS.same hs') (k := k) hkk g fun p u hu _ hp => ?_
    conv => cbv
    refine st_load hE cStr hp ?_
    conv => cbv
    refine br (fun g2 => ?_) (fun g2 => ?_)
    · have g2 : s = u := (scq hE _ _).1 g2
      conv => cbv
      rw [hR]; exact ⟨hx.trans hs'.ext, true, rfl, by simp; rw [g2]; exact List.mem_of_getElem? hu⟩
    · have g2 : s ≠ u := fun e => g2 ((scq hE _ _).2 e)
      conv => cbv
      simp only [ek]
      refine ⟨(k + 1, kj), by simp [Fits, lk], hI _ _ ⟨hs', by simp only; omega, by simp only; omega, ?_⟩, by simp only; omega⟩
      simp only
      rw [List.take_add_one, hu, List.mem_append]
      rintro (q | q)
      · exact hall q
      · simp at q; exact g2 q
  · have g : k = 15 := by
      have : ¬ kk < x := by simpa [hE.cmp, cmpR] using g
      omega
    subst g
    rw [List.take_of_length_le (by decide)] at hall
    conv => cbv
    rw [hR]; exact ⟨hx.trans hs'.ext, false, rfl, by simp [hall]⟩
/-- A name of a token. -/
def ident (s : ByteArray) : Prop := s.size ≠ 0 ∧ s.size ≤ 32 ∧ (∀ h : 0 < s.size, sm (s[0].toNat)) ∧ RunTo wb s 0 s.size ∧ s ∉ words
theorem l2ident_f (s : ByteArray) (hl : s.size ≤ 9223372036854775807) (w : World) : FC Tryd.prog 69 [.string s] w fun v _ => ∃ b : Bool, v = .bool b ∧ (b = true ↔ ident s) := by
  refine FC.intro (cs := []) Tryd.func69 (by kernel_rfl) fun E R hE hr hR => ?_
  have no : ¬ ident s → ∀ w', Ext w w' → R (.bool false) w' := fun h w' hx => by rw [hR]; exact ⟨hx, false, rfl, by simp [h]⟩
  conv => cbv
  refine st_slen hE uStr fun x hx => ?_
  conv => cbv
  refine br (fun g => ?_) (fun g => ?_)
  rotate_left
  · have g : ¬ 0 < x := by simpa [hE.cmp, cmpR] using g
    conv => cbv
    exact no (fun h => h.1 (by omega)) _ (Ext.refl _)
  have g : 0 < x := by simpa [hE.cmp, cmpR] using g
  conv => cbv
  refine st_slen hE uStr fun x2 hx2 => ?_
  conv => cbv
  refine br (fun g2 => ?_) (fun g2 => ?_)
  rotate_left
  · have g2 : ¬ x2 ≤ 32 := by simpa [hE.cmp, cmpR] using g2
    conv => cbv
    exact no (fun h => g2 (by have := h.2.1; omega)) _ (Ext.refl _)
  have g2 : x2 ≤ 32 := by simpa [hE.cmp, cmpR] using g2
  conv => cbv
  refine st_byte hE uStr (by omega) (by omega) fun c hc _ _ => ?_
  conv => cbv
  refine st_qb hE (l2letter_q c _) fun b hb w2 hs2 => ?_
  cases b with
  | false =>
    conv => cbv
    exact no (fun h => absurd (hb.2 (by rw [hc]; exact h.2.2.1 (by omega))) (by simp)) _ hs2.ext
  | true =>
  have hb := hb.1 rfl
  obtain ⟨j, hj⟩ := runTo_ex wb s s.size 0 (by omega)
  conv => cbv
  refine st_q hE (l2run_q (ii := 0) rfl hj hl _) fun w3 hs3 => ?_
  have hx3 := (hs2.trans hs3).ext
  obtain ⟨jj, hjj⟩ : ∃ jj : Int, jj = j := ⟨_, rfl⟩
  rw [← hjj]
  conv => cbv
  refine st_slen hE uStr fun x3 hx3' => ?_
  conv => cbv
  refine br (fun g3 => ?_) (fun g3 => ?_)
  rotate_left
  · have g3 : jj ≠ x3 := by simpa [hE.cmp, cmpR] using g3
    conv => cbv
    exact no (fun h => g3 (by have := hj.uniq h.2.2.2.1; omega)) _ hx3
  have g3 : jj = x3 := by simpa [hE.cmp, cmpR] using g3
  have ej : j = s.size := by omega
  subst ej
  conv => cbv
  refine st_f hr (l2word_f s _) fun v w4 hx4 ⟨b, ev, hb4⟩ => ?_
  subst ev
  cases b with
  | true =>
    conv => cbv
    exact no (fun h => h.2.2.2.2 (hb4.1 rfl)) _ (hx3.trans hx4)
  | false =>
    conv => cbv
    rw [hR]; exact ⟨hx3.trans hx4, true, rfl, by simp only [true_iff]; exact ⟨by omega, by omega, fun _ => by rw [hc] at hb; exact hb, hj, fun q => absurd (hb4.2 q) (by simp)⟩⟩
theorem extract_full {s : ByteArray} {j : Nat} (h : j ≤ s.size) : s.extract 0 j = s ↔ j = s.size := by
  constructor
  · intro e
    have := congrArg ByteArray.size e
    rw [ByteArray.size_extract] at this; omega
  · rintro rfl; exact ByteArray.extract_zero_size
theorem cSet : Cel Tryd.prog 205 := ⟨_, Tryd.underlying205, by simp, by simp⟩
theorem isNameToken_f {w : World} (hT : STab w 5 words) (s : ByteArray) (hl : s.size ≤ 9223372036854775807) : QB Tryd.prog 77 [.string s] w (ident s) := by
  refine QB.intro (cs := []) Tryd.func77 (by kernel_rfl) fun w0 hx0 w1 hs E R hE hr hR => ?_
  replace hT := (hT.ext hx0).ext hs.ext
  obtain ⟨bm, es, clock, t1, t2, t3, t4⟩ := hT.ex
  have no : ¬ ident s → ∀ w', Same w0 w' → R (.bool false) w' := fun h w' hx => hR _ _ hx (by simp [h])
  conv => cbv
  refine br (fun g => ?_) (fun g => ?_)
  rotate_left
  · have g : s.size = 0 := Classical.byContradiction fun q => g ((scn hE _).2 q)
    conv => cbv
    exact no (fun h => h.1 g) _ hs
  have g : s.size ≠ 0 := (scn hE _).1 g
  conv => cbv
  refine st_slen hE uStr fun x2 hx2 => ?_
  conv => cbv
  refine br (fun g2 => ?_) (fun g2 => ?_)
  rotate_left
  · have g2 : ¬ x2 ≤ 32 := by simpa [hE.cmp, cmpR] using g2
    conv => cbv
    exact no (fun h => g2 (by have := h.2.1; omega)) _ hs
  have g2 : x2 ≤ 32 := by simpa [hE.cmp, cmpR] using g2
  conv => cbv
  refine st_byte hE uStr (by omega) (by omega) fun c hc _ _ => ?_
  conv => cbv
  refine st_qb hE (isSmall_q c _) fun b hb w2 hs2 => ?_
  cases b with
  | false =>
    conv => cbv
    exact no (fun h => absurd (hb.2 (by rw [hc]; exact h.2.2.1 (by omega))) (by simp)) _ (hs.trans hs2)
  | true =>
  have hb := hb.1 rfl
  obtain ⟨j, hj⟩ := runTo_ex wb s s.size 0 (by omega)
  conv => cbv
  refine st_q hE (run_q hj hl _ (fun c w' => wordByte_q c w')) fun w3 hs3 => ?_
  have hx3 := (hs.trans hs2).trans hs3
  obtain ⟨u, hu⟩ : ∃ u, u = s.extract 0 j := ⟨_, rfl⟩
  rw [← hu]
  conv => cbv
  refine br (fun g3 => ?_) (fun g3 => ?_)
  rotate_left
  · have g3 : u ≠ s := fun e => g3 ((scq hE _ _).2 e)
    conv => cbv
    exact no (fun h => g3 (by rw [hu]; exact (extract_full hj.hi).2 (hj.uniq h.2.2.2.1))) _ hx3
  have g3 : u = s := (scq hE _ _).1 g3
  have ej : j = s.size := (extract_full hj.hi).1 (by rw [← hu]; exact g3)
  subst ej
  have hxx := (hs2.trans hs3).ext
  conv => cbv
  refine st_load hE cSet (hxx.cell t1) ?_
  conv => cbv
  refine st_stab hE Tryd.underlying205 uStr (by kernel_rfl) (hxx.getMap t2) t3 t4 fun b hb4 => ?_
  cases b with
  | true =>
    conv => cbv
    exact no (fun h => h.2.2.2.2 (hb4.1 rfl)) _ hx3
  | false =>
    conv => cbv
    exact hR _ _ hx3 (by simp only [true_iff]; exact ⟨g, by omega, fun _ => by rw [hc] at hb; exact hb, hj, fun q => absurd (hb4.2 q) (by simp)⟩)
end Go.Proofs.YtmbonalhbibppaaDoor
