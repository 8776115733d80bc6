/- Asks: their size, copy, equality and validity; their text; the law FormatAsk. -/
import Derived.Test.YtjaejonnbhdddaaGreatDoorL6
import Derived.Test.YtjaejonnbhdddaaGreatDoorL17
import Derived.Test.YtjaejonnbhdddaaGreatDoorSh156
import Derived.Test.YtjaejonnbhdddaaGreatDoorSh173
import Derived.Lib.AppendIntMem
namespace Go.Proofs.YtjaejonnbhdddaaGreatDoor
open Go.Eng
set_option linter.unusedVariables false
set_option linter.unusedSimpArgs false
theorem ext156 : Builder.Extra Tryz.prog Tryz.lays156_ren where
  sizeBuilder := by kernel_rfl
  liesBuilder := by kernel_rfl
  t5 := Tryz.underlying5
  a5 := Tryz.isAgg5
  z5 := Tryz.sizeOf5
  v5 := Tryz.zeroValue5
  infoByte := by kernel_rfl
  cellsByte := by kernel_rfl
  sizeByte := by kernel_rfl
  neB5 := by decide
theorem TabIs_ext {P : Program} {w w' : World} {name : String} {k : IntKind} {zs : List Int} (h : Lib.TabIs P w name k zs) (hx : Ext w w') : Lib.TabIs P w' name k zs := by
  unfold Lib.TabIs World.var? at *
  cases hg : P.globalNamed name with
  | none => simp [hg] at h
  | some g =>
    simp only [hg, Option.bind_some] at h ⊢
    have hlt : g < w.heap.size := by
      rcases Nat.lt_or_ge g w.heap.size with h' | h'
      · exact h'
      · simp [Array.getElem?_eq_none h'] at h
    rw [hx.block g hlt]; exact h
/-- The library's table of powers of ten stands. -/
abbrev Pow (w : World) : Prop := Lib.TabIs Tryz.prog w "internal/strconv.uint64pow10" .u64 Lib.pow10Tab
theorem FormatInt_v {w : World} (ht : Pow w) {n : Int} (hn : fits n) : VF Tryz.prog 15 [.int .i64 n, .int .i64 10] w (.string (decS n)) :=
  ⟨⟨_, Tryz.func15, by kernel_rfl⟩, fun w1 hx => (Any.strconv_FormatInt_10 Tryz.laysM173 n hn.1 hn.2 w1 (TabIs_ext ht hx)).mono fun e w' ⟨he, k, os, hw⟩ => ⟨he, by rw [hw]; exact Lib.below_grow _ w1 (Nat.le_refl _) k os⟩⟩
theorem Join_v {w : World} {B e : Nat} {A : Option Addr} {n c : Nat} {xs : List ByteArray} {sp : ByteArray} (h : Own B e 1 w A n c (xs.map .string)) (hb : bulk xs ≤ 1048576) (hsp : sp = ⟨#[44]⟩) :
    VF Tryz.prog 16 [.slice A n c, .string sp] w (.string (joinS xs)) := by
  subst hsp
  have hl := h.len
  simp only [List.length_map, Nat.mul_one] at hl
  refine ⟨⟨_, Tryz.func16, by kernel_rfl⟩, fun w1 hx => ?_⟩
  have h1 := h.bel hx
  rcases Nat.eq_zero_or_pos n with h0 | h0
  · subst h0
    obtain rfl : xs = [] := List.eq_nil_of_length_eq_zero hl
    exact (Any.strings_Join_none Tryz.lays156 ext156 A c ⟨#[44]⟩ w1).mono fun e w' ⟨he, hw⟩ => ⟨he, by rw [hw]; exact Ext.refl _⟩
  · obtain ⟨g, hA, _, hg⟩ := h1.addr h0
    subst hA
    have hcap := h1.cap
    have hbe := bulk_eq xs
    have hz := joinS_size xs
    subst hl
    refine (Any.strings_Join Tryz.lays156 ext156 g 0 c xs ⟨#[44]⟩ w1 (fun j x hj => ?_) hg (by omega) hcap ?_).mono fun e w' ⟨he, hw⟩ => ⟨he, hw⟩
    · have := h1.at j (.string x) (by rw [List.getElem?_map, hj]; rfl)
      rwa [add_plain] at this
    · unfold joinS at hz; simp only [ByteArray.size, List.size_toArray] at hz
      exact Nat.le_trans hz (by omega)
theorem QF.vf {P : Program} {f : FuncId} {args : List Value} {w : World} {v : Value} (h : QF P f args w v) : VF P f args w v :=
  ⟨h.1, fun w1 hx => (h.2 w1 hx).mono fun e w' ⟨he, hs⟩ => ⟨he, hs.ext⟩⟩
theorem uI64a : Tryz.prog.underlying 2 = some (.int .i64) := Tryz.underlying2
theorem cI64a : Cel Tryz.prog 2 := ⟨_, uI64a, by simp, by simp⟩
theorem cStrsa : Cel Tryz.prog 23 := ⟨_, Tryz.underlying23, by simp, by simp⟩
theorem tIAsk : Stc Tryz.prog 25 4 [.string ⟨#[]⟩, .string ⟨#[]⟩, .int .i64 0, .slice none 0 0] := ⟨by kernel_rfl, by kernel_rfl⟩
theorem fK0 : Fld Tryz.prog 25 0 0 := ⟨by kernel_rfl⟩
theorem fK1 : Fld Tryz.prog 25 1 1 := ⟨by kernel_rfl⟩
theorem fK2 : Fld Tryz.prog 25 2 2 := ⟨by kernel_rfl⟩
theorem fK3 : Fld Tryz.prog 25 3 3 := ⟨by kernel_rfl⟩
theorem zSt : (Tryz.prog.info? 9).map (·.size) = some 1 := by kernel_rfl
theorem zI6 : (Tryz.prog.info? 2).map (·.size) = some 1 := by kernel_rfl
theorem zSts : (Tryz.prog.info? 23).map (·.size) = some 1 := by kernel_rfl
/-- What an ask holds, as a value. -/
abbrev askV (cl us : ByteArray) (lv : Int) (A : Option Addr) (n c : Nat) : Value := .agg ⟨[.string cl, .string us, .int .i64 lv, .slice A n c]⟩
section
variable {w : World} {cl us : ByteArray} {lv : Int} {A : Option Addr} {n c : Nat} {xs : List ByteArray}
def validAsk (cl us : ByteArray) (lv : Int) (xs : List ByteArray) : Prop := validName cl ∧ validName us ∧ 0 ≤ lv ∧ lv ≤ 9999999 ∧ isSet xs
theorem validAsk_f (hc : cl.size ≤ 9223372036854775807) (hu : us.size ≤ 9223372036854775807) (h : Strs w A n c xs) :
    FC Tryz.prog 14 [askV cl us lv A n c] w fun v _ => ∃ b : Bool, v = .bool b ∧ (b = true ↔ validAsk cl us lv xs) := by
  refine FC.intro (cs := []) Tryz.func14 (by kernel_rfl) fun E R hE hr hR => ?_
  conv => cbv
  refine st_box hr fun a w1 hx hb0 => ?_
  have hb := hb0 _ (Nat.le_refl _)
  conv => cbv
  (refine st_fld hE fK0 fun pf hpf => ?_; (conv => cbv); refine st_load hE cStr (by rw [hpf]; exact (hb).at _ _ rfl) ?_; clear hpf; (conv => cbv))
  refine st_qb hE (ValidName_q cl _ hc) fun b1 hb1 w2 hs2 => ?_
  replace hb := hb.bel hs2.ext
  replace hx := hx.trans hs2.ext
  cases b1
  · conv => cbv
    rw [hR]; exact ⟨hx, false, rfl, by simp only [Bool.false_eq_true, false_iff] at hb1 ⊢; exact fun k => hb1 k.1⟩
  have hb1 := hb1.1 rfl
  conv => cbv
  (refine st_fld hE fK1 fun pf hpf => ?_; (conv => cbv); refine st_load hE cStr (by rw [hpf]; exact (hb).at _ _ rfl) ?_; clear hpf; (conv => cbv))
  refine st_qb hE (ValidName_q us _ hu) fun b2 hb2 w3 hs3 => ?_
  replace hb := hb.bel hs3.ext
  replace hx := hx.trans hs3.ext
  cases b2
  · conv => cbv
    rw [hR]; exact ⟨hx, false, rfl, by simp only [Bool.false_eq_true, false_iff] at hb2 ⊢; exact fun k => hb2 k.2.1⟩
  have hb2 := hb2.1 rfl
  conv => cbv
  (refine st_fld hE fK2 fun pf hpf => ?_; (conv => cbv); refine st_load hE cI64a (by rw [hpf]; exact (hb).at _ _ rfl) ?_; clear hpf; (conv => cbv))
  obtain ⟨g1, hg1⟩ : ∃ g, g = E.cmp .geq lv 0 := ⟨_, rfl⟩
  have hg1' : g1 = true ↔ 0 ≤ lv := by rw [hg1, hE.cmp]; simp [cmpR]
  simp only [← hg1]
  cases g1
  · have hn : ¬ 0 ≤ lv := fun k => by simpa using hg1'.2 k
    conv => cbv
    rw [hR]; exact ⟨hx, false, rfl, by simp only [Bool.false_eq_true, false_iff]; exact fun k => hn k.2.2.1⟩
  have hl0 := hg1'.1 rfl
  conv => cbv
  (refine st_fld hE fK2 fun pf hpf => ?_; (conv => cbv); refine st_load hE cI64a (by rw [hpf]; exact (hb).at _ _ rfl) ?_; clear hpf; (conv => cbv))
  obtain ⟨g2, hg2⟩ : ∃ g, g = E.cmp .leq lv 9999999 := ⟨_, rfl⟩
  have hg2' : g2 = true ↔ lv ≤ 9999999 := by rw [hg2, hE.cmp]; simp [cmpR]
  simp only [← hg2]
  cases g2
  · have hn : ¬ lv ≤ 9999999 := fun k => by simpa using hg2'.2 k
    conv => cbv
    rw [hR]; exact ⟨hx, false, rfl, by simp only [Bool.false_eq_true, false_iff]; exact fun k => hn k.2.2.2.1⟩
  have hl1 := hg2'.1 rfl
  conv => cbv
  (refine st_fld hE fK3 fun pf hpf => ?_; (conv => cbv); refine st_load hE cStrsa (by rw [hpf]; exact (hb).at _ _ rfl) ?_; clear hpf; (conv => cbv))
  refine st_qb hE (IsSet_q (h.ext hx)) fun b4 hb4 w5 hs5 => ?_
  replace hx := hx.trans hs5.ext
  conv => cbv
  rw [hR]; exact ⟨hx, b4, rfl, by rw [hb4]; exact ⟨fun k => ⟨hb1, hb2, hl0, hl1, k⟩, fun k => k.2.2.2.2⟩⟩
theorem svalidAsk_f (hc : cl.size ≤ 9223372036854775807) (hu : us.size ≤ 9223372036854775807) (h : Strs w A n c xs) :
    FC Tryz.prog 17 [askV cl us lv A n c] w fun v _ => ∃ b : Bool, v = .bool b ∧ (b = true ↔ validAsk cl us lv xs) := by
  refine FC.intro (cs := []) Tryz.func17 (by kernel_rfl) fun E R hE hr hR => ?_
  conv => cbv
  refine st_box hr fun a w1 hx hb0 => ?_
  have hb := hb0 _ (Nat.le_refl _)
  conv => cbv
  (refine st_fld hE fK0 fun pf hpf => ?_; (conv => cbv); refine st_load hE cStr (by rw [hpf]; exact (hb).at _ _ rfl) ?_; clear hpf; (conv => cbv))
  refine st_qb hE (sValidName_q cl _ hc) fun b1 hb1 w2 hs2 => ?_
  replace hb := hb.bel hs2.ext
  replace hx := hx.trans hs2.ext
  cases b1
  · conv => cbv
    rw [hR]; exact ⟨hx, false, rfl, by simp only [Bool.false_eq_true, false_iff] at hb1 ⊢; exact fun k => hb1 k.1⟩
  have hb1 := hb1.1 rfl
  conv => cbv
  (refine st_fld hE fK1 fun pf hpf => ?_; (conv => cbv); refine st_load hE cStr (by rw [hpf]; exact (hb).at _ _ rfl) ?_; clear hpf; (conv => cbv))
  refine st_qb hE (sValidName_q us _ hu) fun b2 hb2 w3 hs3 => ?_
  replace hb := hb.bel hs3.ext
  replace hx := hx.trans hs3.ext
  cases b2
  · conv => cbv
    rw [hR]; exact ⟨hx, false, rfl, by simp only [Bool.false_eq_true, false_iff] at hb2 ⊢; exact fun k => hb2 k.2.1⟩
  have hb2 := hb2.1 rfl
  conv => cbv
  (refine st_fld hE fK2 fun pf hpf => ?_; (conv => cbv); refine st_load hE cI64a (by rw [hpf]; exact (hb).at _ _ rfl) ?_; clear hpf; (conv => cbv))
  obtain ⟨g1, hg1⟩ : ∃ g, g = E.cmp .geq lv 0 := ⟨_, rfl⟩
  have hg1' : g1 = true ↔ 0 ≤ lv := by rw [hg1, hE.cmp]; simp [cmpR]
  simp only [← hg1]
  cases g1
  · have hn : ¬ 0 ≤ lv := fun k => by simpa using hg1'.2 k
    conv => cbv
    rw [hR]; exact ⟨hx, false, rfl, by simp only [Bool.false_eq_true, false_iff]; exact fun k => hn k.2.2.1⟩
  have hl0 := hg1'.1 rfl
  conv => cbv
  (refine st_fld hE fK2 fun pf hpf => ?_; (conv => cbv); refine st_load hE cI64a (by rw [hpf]; exact (hb).at _ _ rfl) ?_; clear hpf; (conv => cbv))
  obtain ⟨g2, hg2⟩ : ∃ g, g = E.cmp .leq lv 9999999 := ⟨_, rfl⟩
  have hg2' : g2 = true ↔ lv ≤ 9999999 := by rw [hg2, hE.cmp]; simp [cmpR]
  simp only [← hg2]
  cases g2
  · have hn : ¬ lv ≤ 9999999 := fun k => by simpa using hg2'.2 k
    conv => cbv
    rw [hR]; exact ⟨hx, false, rfl, by simp only [Bool.false_eq_true, false_iff]; exact fun k => hn k.2.2.2.1⟩
  have hl1 := hg2'.1 rfl
  conv => cbv
  (refine st_fld hE fK3 fun pf hpf => ?_; (conv => cbv); refine st_load hE cStrsa (by rw [hpf]; exact (hb).at _ _ rfl) ?_; clear hpf; (conv => cbv))
  refine st_qb hE (sIsSet_q (h.ext hx)) fun b4 hb4 w5 hs5 => ?_
  replace hx := hx.trans hs5.ext
  conv => cbv
  rw [hR]; exact ⟨hx, b4, rfl, by rw [hb4]; exact ⟨fun k => ⟨hb1, hb2, hl0, hl1, k⟩, fun k => k.2.2.2.2⟩⟩
/-- An ask's text. -/
def askText (cl us : ByteArray) (lv : Int) (xs : List ByteArray) : ByteArray :=
  ⟨#[99, 108, 105, 101, 110, 116, 61]⟩ ++ cl ++ ⟨#[32, 117, 115, 101, 114, 61]⟩ ++ us ++ ⟨#[32, 108, 101, 118, 101, 108, 61]⟩ ++ decS lv ++ ⟨#[32, 97, 115, 107, 61]⟩ ++ joinS xs
theorem cat_ok {a b : ByteArray} {m n : Nat} (ha : a.size ≤ m) (hb : b.size ≤ n) (h : m + n ≤ 9223372036854775807) : a.size + b.size ≤ 9223372036854775807 := Nat.le_trans (Nat.add_le_add ha hb) h
theorem cat_le {a b v : ByteArray} {m n : Nat} (hv : v = a ++ b) (ha : a.size ≤ m) (hb : b.size ≤ n) : v.size ≤ m + n := by rw [hv, append_size]; exact Nat.add_le_add ha hb
theorem FormatAsk_f {w0 : World} (ht : Pow w) (hs : cl.size + us.size + bulk xs ≤ 1048576) (h : Strs w A n c xs) (ho : Own w0.heap.size 9 1 w A n c (xs.map .string)) :
    FC Tryz.prog 5 [askV cl us lv A n c] w fun v _ => ∃ t, v = .string t ∧ ((validAsk cl us lv xs ∧ t = askText cl us lv xs) ∨ (¬ validAsk cl us lv xs ∧ t = ⟨#[]⟩)) := by
  refine FC.intro (cs := []) Tryz.func5 (by kernel_rfl) fun E R hE hr hR => ?_
  have hcl : cl.size ≤ 1048576 := by omega
  have hus : us.size ≤ 1048576 := by omega
  conv => cbv
  refine st_box hr fun a w1 hx hb0 => ?_
  have hb := hb0 _ (Nat.le_refl _)
  clear hb0
  conv => cbv
  refine st_loadS hE tIAsk rfl hb.at ?_
  conv => cbv
  refine st_f hr (validAsk_f (cl := cl) (us := us) (lv := lv) (by omega) (by omega) (h.ext hx)) fun v w2 hx2 ⟨b, ev, hv⟩ => ?_
  subst ev
  replace hb := hb.bel hx2
  replace hx := hx.trans hx2
  cases b
  · conv => cbv
    rw [hR]; exact ⟨hx, _, rfl, .inr ⟨fun k => by simpa using hv.2 k, rfl⟩⟩
  have hv := hv.1 rfl
  have hlv : fits lv := by unfold fits; have := hv.2.2.1; have := hv.2.2.2.1; omega
  conv => cbv
  refine draw_x hr fol (by kernel_rfl) fun E' hE' hX => ?_
  conv => cbv
  (refine st_fld hE' fK0 fun pf hpf => ?_; (conv => cbv); refine st_load hE' cStr (by rw [hpf]; exact (hb).at _ _ rfl) ?_; clear hpf; (conv => cbv))
  refine st_cat hE' (cat_ok (m := 10) (by decide) hcl (by decide)) fun v1 hv1 => ?_
  have s1 := cat_le hv1 (m := 10) (by decide) hcl
  conv => cbv
  refine st_cat hE' (cat_ok s1 (n := 10) (by decide) (by decide)) fun v2 hv2 => ?_
  have s2 := cat_le hv2 s1 (n := 10) (by decide)
  conv => cbv
  (refine st_fld hE' fK1 fun pf hpf => ?_; (conv => cbv); refine st_load hE' cStr (by rw [hpf]; exact (hb).at _ _ rfl) ?_; clear hpf; (conv => cbv))
  refine st_cat hE' (cat_ok s2 hus (by decide)) fun v3 hv3 => ?_
  have s3 := cat_le hv3 s2 hus
  conv => cbv
  refine st_cat hE' (cat_ok s3 (n := 10) (by decide) (by decide)) fun v4 hv4 => ?_
  have s4 := cat_le hv4 s3 (n := 10) (by decide)
  conv => cbv
  (refine st_fld hE' fK2 fun pf hpf => ?_; (conv => cbv); refine st_load hE' cI64a (by rw [hpf]; exact (hb).at _ _ rfl) ?_; clear hpf; (conv => cbv))
  obtain ⟨u, hu⟩ : ∃ u, u = decS lv := ⟨_, rfl⟩
  have su : u.size ≤ 20 := by rw [hu]; exact decS_size hlv
  refine st_vx hX (v := .string u) (by rw [hu]; exact FormatInt_v (TabIs_ext ht hx) hlv) ?_
  conv => cbv
  refine st_cat hE' (cat_ok s4 su (by decide)) fun v5 hv5 => ?_
  have s5 := cat_le hv5 s4 su
  conv => cbv
  refine st_cat hE' (cat_ok s5 (n := 10) (by decide) (by decide)) fun v6 hv6 => ?_
  have s6 := cat_le hv6 s5 (n := 10) (by decide)
  conv => cbv
  (refine st_fld hE' fK3 fun pf hpf => ?_; (conv => cbv); refine st_load hE' cStrsa (by rw [hpf]; exact (hb).at _ _ rfl) ?_; clear hpf; (conv => cbv))
  obtain ⟨j, hj⟩ : ∃ u, u = joinS xs := ⟨_, rfl⟩
  have sj : j.size ≤ 1048576 := by rw [hj]; exact Nat.le_trans (joinS_size xs) (by omega)
  refine st_vx hX (v := .string j) (by rw [hj]; exact Join_v (ho.bel hx) (by omega) rfl) ?_
  conv => cbv
  refine st_cat hE' (cat_ok s6 sj (by decide)) fun v7 hv7 => ?_
  conv => cbv
  intro w3 hx3
  conv => cbv
  rw [hR]; exact ⟨hx.trans hx3, v7, rfl, .inl ⟨hv, by rw [hv7, hv6, hv5, hv4, hv3, hv2, hv1, hu, hj]; rfl⟩⟩
theorem sFormatAsk_f {w0 : World} (ht : Pow w) (hs : cl.size + us.size + bulk xs ≤ 1048576) (h : Strs w A n c xs) (ho : Own w0.heap.size 9 1 w A n c (xs.map .string)) :
    FC Tryz.prog 6 [askV cl us lv A n c] w fun v _ => ∃ t, v = .string t ∧ ((validAsk cl us lv xs ∧ t = askText cl us lv xs) ∨ (¬ validAsk cl us lv xs ∧ t = ⟨#[]⟩)) := by
  refine FC.intro (cs := []) Tryz.func6 (by kernel_rfl) fun E R hE hr hR => ?_
  have hcl : cl.size ≤ 1048576 := by omega
  have hus : us.size ≤ 1048576 := by omega
  conv => cbv
  refine st_box hr fun a w1 hx hb0 => ?_
  have hb := hb0 _ (Nat.le_refl _)
  clear hb0
  conv => cbv
  refine st_loadS hE tIAsk rfl hb.at ?_
  conv => cbv
  refine st_f hr (svalidAsk_f (cl := cl) (us := us) (lv := lv) (by omega) (by omega) (h.ext hx)) fun v w2 hx2 ⟨b, ev, hv⟩ => ?_
  subst ev
  replace hb := hb.bel hx2
  replace hx := hx.trans hx2
  cases b
  · conv => cbv
    rw [hR]; exact ⟨hx, _, rfl, .inr ⟨fun k => by simpa using hv.2 k, rfl⟩⟩
  have hv := hv.1 rfl
  have hlv : fits lv := by unfold fits; have := hv.2.2.1; have := hv.2.2.2.1; omega
  conv => cbv
  refine draw_x hr fol (by kernel_rfl) fun E' hE' hX => ?_
  conv => cbv
  (refine st_fld hE' fK0 fun pf hpf => ?_; (conv => cbv); refine st_load hE' cStr (by rw [hpf]; exact (hb).at _ _ rfl) ?_; clear hpf; (conv => cbv))
  refine st_cat hE' (cat_ok (m := 10) (by decide) hcl (by decide)) fun v1 hv1 => ?_
  have s1 := cat_le hv1 (m := 10) (by decide) hcl
  conv => cbv
  refine st_cat hE' (cat_ok s1 (n := 10) (by decide) (by decide)) fun v2 hv2 => ?_
  have s2 := cat_le hv2 s1 (n := 10) (by decide)
  conv => cbv
  (refine st_fld hE' fK1 fun pf hpf => ?_; (conv => cbv); refine st_load hE' cStr (by rw [hpf]; exact (hb).at _ _ rfl) ?_; clear hpf; (conv => cbv))
  refine st_cat hE' (cat_ok s2 hus (by decide)) fun v3 hv3 => ?_
  have s3 := cat_le hv3 s2 hus
  conv => cbv
  refine st_cat hE' (cat_ok s3 (n := 10) (by decide) (by decide)) fun v4 hv4 => ?_
  have s4 := cat_le hv4 s3 (n := 10) (by decide)
  conv => cbv
  (refine st_fld hE' fK2 fun pf hpf => ?_; (conv => cbv); refine st_load hE' cI64a (by rw [hpf]; exact (hb).at _ _ rfl) ?_; clear hpf; (conv => cbv))
  obtain ⟨u, hu⟩ : ∃ u, u = decS lv := ⟨_, rfl⟩
  have su : u.size ≤ 20 := by rw [hu]; exact decS_size hlv
  refine st_vx hX (v := .string u) (by rw [hu]; exact l1decimal_v hlv _) ?_
  conv => cbv
  refine st_cat hE' (cat_ok s4 su (by decide)) fun v5 hv5 => ?_
  have s5 := cat_le hv5 s4 su
  conv => cbv
  refine st_cat hE' (cat_ok s5 (n := 10) (by decide) (by decide)) fun v6 hv6 => ?_
  have s6 := cat_le hv6 s5 (n := 10) (by decide)
  conv => cbv
  (refine st_fld hE' fK3 fun pf hpf => ?_; (conv => cbv); refine st_load hE' cStrsa (by rw [hpf]; exact (hb).at _ _ rfl) ?_; clear hpf; (conv => cbv))
  obtain ⟨j, hj⟩ : ∃ u, u = joinS xs := ⟨_, rfl⟩
  have sj : j.size ≤ 1048576 := by rw [hj]; exact Nat.le_trans (joinS_size xs) (by omega)
  refine st_vx hX (v := .string j) (by rw [hj]; exact QF.vf (l1join_q (h.ext hx) (by omega) rfl)) ?_
  conv => cbv
  refine st_cat hE' (cat_ok s6 sj (by decide)) fun v7 hv7 => ?_
  conv => cbv
  intro w3 hx3
  conv => cbv
  rw [hR]; exact ⟨hx.trans hx3, v7, rfl, .inl ⟨hv, by rw [hv7, hv6, hv5, hv4, hv3, hv2, hv1, hu, hj]; rfl⟩⟩
end
end Go.Proofs.YtjaejonnbhdddaaGreatDoor
