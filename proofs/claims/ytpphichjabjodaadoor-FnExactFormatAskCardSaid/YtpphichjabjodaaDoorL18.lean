/- Asks: their size, copy, equality and validity; their text; the law FormatAsk. -/
import Derived.Test.YtpphichjabjodaaDoorL6
import Derived.Test.YtpphichjabjodaaDoorL17
import Derived.Test.YtpphichjabjodaaDoorSh156
import Derived.Test.YtpphichjabjodaaDoorSh173
import Derived.Lib.AppendIntMem
namespace Go.Proofs.YtpphichjabjodaaDoor
open Go.Eng
set_option linter.unusedVariables false
set_option linter.unusedSimpArgs false
theorem ext156 : Builder.Extra Tryd.prog Tryd.lays156_ren where
  sizeBuilder := by kernel_rfl
  liesBuilder := by kernel_rfl
  t5 := Tryd.underlying5
  a5 := Tryd.isAgg5
  z5 := Tryd.sizeOf5
  v5 := Tryd.zeroValue5
  infoByte := by kernel_rfl
  cellsByte := by kernel_rfl
  sizeByte := by kernel_rfl
  neB5 := by decide
theorem TabIs_ext {P : Program} {w w' : World} {name : String} {k : IntKind} {zs : List Int} (h : Lib.TabIs P w name k zs) (hx : Ext w w') : Lib.TabIs P w' name k zs := by
  unfold Lib.TabIs World.var? at *
  cases hg : P.globalNamed name with
  | none => simp [hg] at h
  | some g =>
    simp only [hg, Option.bind_some] at h ⊢
    have hlt : g < w.heap.size := by
      rcases Nat.lt_or_ge g w.heap.size with h' | h'
      · exact h'
      · simp [Array.getElem?_eq_none h'] at h
    rw [hx.block g hlt]; exact h
/-- The library's table of powers of ten stands. -/
abbrev Pow (w : World) : Prop := Lib.TabIs Tryd.prog w "internal/strconv.uint64pow10" .u64 Lib.pow10Tab
theorem FormatInt_v {w : World} (ht : Pow w) {n : Int} (hn : fits n) : VF Tryd.prog 39 [.int .i64 n, .int .i64 10] w (.string (decS n)) :=
  ⟨⟨_, Tryd.func39, by kernel_rfl⟩, fun w1 hx => (Any.strconv_FormatInt_10 Tryd.laysM173 n hn.1 hn.2 w1 (TabIs_ext ht hx)).mono fun e w' ⟨he, k, os, hw⟩ => ⟨he, by rw [hw]; exact Lib.below_grow _ w1 (Nat.le_refl _) k os⟩⟩
theorem Join_v {w : World} {B e : Nat} {A : Option Addr} {n c : Nat} {xs : List ByteArray} {sp : ByteArray} (h : Own B e 1 w A n c (xs.map .string)) (hb : bulk xs ≤ 1048576) (hsp : sp = ⟨#[44]⟩) :
    VF Tryd.prog 40 [.slice A n c, .string sp] w (.string (joinS xs)) := by
  subst hsp
  have hl := h.len
  simp only [List.length_map, Nat.mul_one] at hl
  refine ⟨⟨_, Tryd.func40, by kernel_rfl⟩, fun w1 hx => ?_⟩
  have h1 := h.bel hx
  rcases Nat.eq_zero_or_pos n with h0 | h0
  · subst h0
    obtain rfl : xs = [] := List.eq_nil_of_length_eq_zero hl
    exact (Any.strings_Join_none Tryd.lays156 ext156 A c ⟨#[44]⟩ w1).mono fun e w' ⟨he, hw⟩ => ⟨he, by rw [hw]; exact Ext.refl _⟩
  · obtain ⟨g, hA, _, hg⟩ := h1.addr h0
    subst hA
    have hcap := h1.cap
    have hbe := bulk_eq xs
    have hz := joinS_size xs
    subst hl
    refine (Any.strings_Join Tryd.lays156 ext156 g 0 c xs ⟨#[44]⟩ w1 (fun j x hj => ?_) hg (by omega) hcap ?_).mono fun e w' ⟨he, hw⟩ => ⟨he, hw⟩
    · have := h1.at j (.string x) (by rw [List.getElem?_map, hj]; rfl)
      rwa [add_plain] at this
    · unfold joinS at hz; simp only [ByteArray.size, List.size_toArray] at hz
      exact Nat.le_trans hz (by omega)
theorem QF.vf {P : Program} {f : FuncId} {args : List Value} {w : World} {v : Value} (h : QF P f args w v) : VF P f args w v :=
  ⟨h.1, fun w1 hx => (h.2 w1 hx).mono fun e w' ⟨he, hs⟩ => ⟨he, hs.ext⟩⟩
theorem uI64a : Tryd.prog.underlying 2 = some (.int .i64) := Tryd.underlying2
theorem cI64a : Cel Tryd.prog 2 := ⟨_, uI64a, by simp, by simp⟩
theorem cStrsa : Cel Tryd.prog 29 := ⟨_, Tryd.underlying29, by simp, by simp⟩
theorem tLAsk : Stc Tryd.prog 36 4 [.string ⟨#[]⟩, .string ⟨#[]⟩, .int .i64 0, .slice none 0 0] := ⟨by kernel_rfl, by kernel_rfl⟩
theorem fA0 : Fld Tryd.prog 36 0 0 := ⟨by kernel_rfl⟩
theorem fA1 : Fld Tryd.prog 36 1 1 := ⟨by kernel_rfl⟩
theorem fA2 : Fld Tryd.prog 36 2 2 := ⟨by kernel_rfl⟩
theorem fA3 : Fld Tryd.prog 36 3 3 := ⟨by kernel_rfl⟩
theorem tIAsk : Stc Tryd.prog 39 4 [.string ⟨#[]⟩, .string ⟨#[]⟩, .int .i64 0, .slice none 0 0] := ⟨by kernel_rfl, by kernel_rfl⟩
theorem fK0 : Fld Tryd.prog 39 0 0 := ⟨by kernel_rfl⟩
theorem fK1 : Fld Tryd.prog 39 1 1 := ⟨by kernel_rfl⟩
theorem fK2 : Fld Tryd.prog 39 2 2 := ⟨by kernel_rfl⟩
theorem fK3 : Fld Tryd.prog 39 3 3 := ⟨by kernel_rfl⟩
theorem zSt : (Tryd.prog.info? 9).map (·.size) = some 1 := by kernel_rfl
theorem zI6 : (Tryd.prog.info? 2).map (·.size) = some 1 := by kernel_rfl
theorem zSts : (Tryd.prog.info? 29).map (·.size) = some 1 := by kernel_rfl
/-- What an ask holds, as a value. -/
abbrev askV (cl us : ByteArray) (lv : Int) (A : Option Addr) (n c : Nat) : Value := .agg ⟨[.string cl, .string us, .int .i64 lv, .slice A n c]⟩
section
variable {w : World} {cl us : ByteArray} {lv : Int} {A : Option Addr} {n c : Nat} {xs : List ByteArray}
theorem szAsk_f (hc : cl.size ≤ 9223372036854775807) (hu : us.size ≤ 9223372036854775807) (h : Strs w A n c xs) :
    FC Tryd.prog 17 [askV cl us lv A n c, .int .i64 1048576] w fun v _ => ∃ z : Int, v = .int .i64 z ∧ (0 ≤ z → cl.size + us.size + bulk xs ≤ 1048576) := by
  refine FC.intro (cs := []) Tryd.func17 (by kernel_rfl) fun E R hE hr hR => ?_
  conv => cbv
  refine st_box hr fun a w1 hx hb0 => ?_
  have hb := hb0 _ (Nat.le_refl _)
  conv => cbv
  (refine st_fld hE fA0 fun pf hpf => ?_; (conv => cbv); refine st_load hE cStr (by rw [hpf]; exact (hb).at _ _ rfl) ?_; clear hpf; (conv => cbv))
  refine st_slen hE uStr fun x1 hx1 => ?_
  conv => cbv
  obtain ⟨y1, hy1⟩ : ∃ y, y = 1048576 - x1 := ⟨_, rfl⟩
  have e1 : E.ar .sub .i64 1048576 x1 = y1 := by rw [hE.ar, hy1]; exact wrap_in (by omega) (by omega)
  simp only [e1]
  refine br (fun _ => ?_) (fun g1 => ?_)
  · conv => cbv
    rw [hR]; exact ⟨hx, -1, rfl, fun h => by omega⟩
  have g1 : 0 ≤ y1 := by simpa [hE.cmp, cmpR] using g1
  conv => cbv
  (refine st_fld hE fA1 fun pf hpf => ?_; (conv => cbv); refine st_load hE cStr (by rw [hpf]; exact (hb).at _ _ rfl) ?_; clear hpf; (conv => cbv))
  refine st_slen hE uStr fun x2 hx2 => ?_
  conv => cbv
  obtain ⟨y2, hy2⟩ : ∃ y, y = y1 - x2 := ⟨_, rfl⟩
  have e1 : E.ar .sub .i64 y1 x2 = y2 := by rw [hE.ar, hy2]; exact wrap_in (by omega) (by omega)
  simp only [e1]
  refine br (fun _ => ?_) (fun g2 => ?_)
  · conv => cbv
    rw [hR]; exact ⟨hx, -1, rfl, fun h => by omega⟩
  have g2 : 0 ≤ y2 := by simpa [hE.cmp, cmpR] using g2
  conv => cbv
  (refine st_fld hE fA3 fun pf hpf => ?_; (conv => cbv); refine st_load hE cStrsa (by rw [hpf]; exact (hb).at _ _ rfl) ?_; clear hpf; (conv => cbv))
  refine st_qi hE (szStringS_q (h.ext hx) y2 g2 (by omega)) fun l hl w2 hs2 => ?_
  have hx := hx.trans hs2.ext
  have hb := hb.bel hs2.ext
  conv => cbv
  refine br (fun _ => ?_) (fun g => ?_)
  · conv => cbv
    rw [hR]; exact ⟨hx, -1, rfl, fun h => by omega⟩
  have g : 0 ≤ l := by simpa [hE.cmp, cmpR] using g
  have hz : bulk xs ≤ y2 := by
    rw [hl] at g; unfold room at g; split at g
    · omega
    · omega
  conv => cbv
  rw [hR]; exact ⟨hx, l, rfl, fun _ => by omega⟩
theorem toAsk_f (h : Strs w A n c xs) (hn : n ≤ 1048576) :
    FC Tryd.prog 19 [askV cl us lv A n c] w fun v w' => ∃ A1 n1 c1, v = askV cl us lv A1 n1 c1 ∧ Strs w' A1 n1 c1 xs ∧ Own w.heap.size 9 1 w' A1 n1 c1 (xs.map .string) := by
  refine FC.intro (cs := []) Tryd.func19 (by kernel_rfl) fun E R hE hr hR => ?_
  conv => cbv
  refine st_box hr fun a w1 hx hb0 => ?_
  have hb := hb0 _ (Nat.le_refl _)
  conv => cbv
  refine st_alloc hr tIAsk rfl fun o w2 hx2 ho0 => ?_
  have ho := ho0 _ hx.size
  have hb := hb.bel hx2
  have hx := hx.trans hx2
  conv => cbv
  refine st_alloc hr tIAsk rfl fun q w3 hx3 hq0 => ?_
  have hq := hq0 _ hx.size
  have aq := (hb.apart (hq0 _ (Nat.le_refl _)) (Nat.le_refl _)).1
  have oq := (ho.apart (hq0 _ (Nat.le_refl _)) (Nat.le_refl _)).1
  have hb := hb.bel hx3
  have ho := ho.bel hx3
  have hx := hx.trans hx3
  clear hb0 ho0 hq0
  conv => cbv
  (refine st_fld hE fA0 fun pf hpf => ?_; (conv => cbv); refine st_load hE cStr (by rw [hpf]; exact (hb).at _ _ rfl) ?_; clear hpf; (conv => cbv))
  (refine st_fld hE fK0 fun pf hpf => ?_; (conv => cbv); refine st_put hr zSt hq hpf (by simp) rfl fun wn hw hq2 => ?_; replace hx := hx.then (hw.bel hq hx.size); (try clear hq); (have hq := hq2); clear hq2; (simp only [List.set_cons_zero, List.set_cons_succ] at hq); clear hpf)
  replace hb := hb.wr hw aq
  replace ho := ho.wr hw oq
  conv => cbv
  (refine st_fld hE fA1 fun pf hpf => ?_; (conv => cbv); refine st_load hE cStr (by rw [hpf]; exact (hb).at _ _ rfl) ?_; clear hpf; (conv => cbv))
  (refine st_fld hE fK1 fun pf hpf => ?_; (conv => cbv); refine st_put hr zSt hq hpf (by simp) rfl fun wn hw hq2 => ?_; replace hx := hx.then (hw.bel hq hx.size); (try clear hq); (have hq := hq2); clear hq2; (simp only [List.set_cons_zero, List.set_cons_succ] at hq); clear hpf)
  replace hb := hb.wr hw aq
  replace ho := ho.wr hw oq
  conv => cbv
  (refine st_fld hE fA2 fun pf hpf => ?_; (conv => cbv); refine st_load hE cI64a (by rw [hpf]; exact (hb).at _ _ rfl) ?_; clear hpf; (conv => cbv))
  (refine st_fld hE fK2 fun pf hpf => ?_; (conv => cbv); refine st_put hr zI6 hq hpf (by simp) rfl fun wn hw hq2 => ?_; replace hx := hx.then (hw.bel hq hx.size); (try clear hq); (have hq := hq2); clear hq2; (simp only [List.set_cons_zero, List.set_cons_succ] at hq); clear hpf)
  replace hb := hb.wr hw aq
  replace ho := ho.wr hw oq
  conv => cbv
  (refine st_fld hE fA3 fun pf hpf => ?_; (conv => cbv); refine st_load hE cStrsa (by rw [hpf]; exact (hb).at _ _ rfl) ?_; clear hpf; (conv => cbv))
  refine st_f hr (toStringS_f (h.ext hx) hn) fun v w4 hx4 ⟨A4, n4, c4, ev, h4, o4⟩ => ?_
  subst ev
  have ax := (hq.apart o4 (Nat.le_refl _)).2
  have bx := (ho.apart o4 (Nat.le_refl _)).2
  replace o4 := o4.mono hx.size
  replace hb := hb.bel hx4
  replace ho := ho.bel hx4
  replace hq := hq.bel hx4
  replace hx := hx.trans hx4
  conv => cbv
  (refine st_fld hE fK3 fun pf hpf => ?_; (conv => cbv); refine st_put hr zSts hq hpf (by simp) rfl fun wn hw hq2 => ?_; replace hx := hx.then (hw.bel hq hx.size); (try clear hq); (have hq := hq2); clear hq2; (simp only [List.set_cons_zero, List.set_cons_succ] at hq); clear hpf)
  replace o4 := o4.wr hw ax
  replace ho := ho.wr hw oq
  conv => cbv
  refine st_loadS hE tIAsk rfl hq.at ?_
  conv => cbv
  refine st_putS hr (by kernel_rfl) ho (add_zero _).symm (by simp) (by simp [Value.oneCell']) fun w7 hw ho2 => ?_
  replace hx := hx.then (hw.bel ho hx.size)
  simp only [List.take_zero, List.nil_append, List.length_cons, List.length_nil, List.drop_succ_cons, List.drop_nil, List.append_nil] at ho2
  conv => cbv
  refine st_cell hr tIAsk rfl ho2.at ?_
  rw [hR]; exact ⟨hx, A4, n4, c4, rfl, (o4.wr hw bx).strs h.small, o4.wr hw bx⟩
def validAsk (cl us : ByteArray) (lv : Int) (xs : List ByteArray) : Prop := validName cl ∧ validName us ∧ 0 ≤ lv ∧ lv ≤ 9999999 ∧ isSet xs
theorem validAsk_f (hc : cl.size ≤ 9223372036854775807) (hu : us.size ≤ 9223372036854775807) (h : Strs w A n c xs) :
    FC Tryd.prog 38 [askV cl us lv A n c] w fun v _ => ∃ b : Bool, v = .bool b ∧ (b = true ↔ validAsk cl us lv xs) := by
  refine FC.intro (cs := []) Tryd.func38 (by kernel_rfl) fun E R hE hr hR => ?_
  conv => cbv
  refine st_box hr fun a w1 hx hb0 => ?_
  have hb := hb0 _ (Nat.le_refl _)
  conv => cbv
  (refine st_fld hE fK0 fun pf hpf => ?_; (conv => cbv); refine st_load hE cStr (by rw [hpf]; exact (hb).at _ _ rfl) ?_; clear hpf; (conv => cbv))
  refine st_qb hE (ValidName_q cl _ hc) fun b1 hb1 w2 hs2 => ?_
  replace hb := hb.bel hs2.ext
  replace hx := hx.trans hs2.ext
  cases b1
  · conv => cbv
    rw [hR]; exact ⟨hx, false, rfl, by simp only [Bool.false_eq_true, false_iff] at hb1 ⊢; exact fun k => hb1 k.1⟩
  have hb1 := hb1.1 rfl
  conv => cbv
  (refine st_fld hE fK1 fun pf hpf => ?_; (conv => cbv); refine st_load hE cStr (by rw [hpf]; exact (hb).at _ _ rfl) ?_; clear hpf; (conv => cbv))
  refine st_qb hE (ValidName_q us _ hu) fun b2 hb2 w3 hs3 => ?_
  replace hb := hb.bel hs3.ext
  replace hx := hx.trans hs3.ext
  cases b2
  · conv => cbv
    rw [hR]; exact ⟨hx, false, rfl, by simp only [Bool.false_eq_true, false_iff] at hb2 ⊢; exact fun k => hb2 k.2.1⟩
  have hb2 := hb2.1 rfl
  conv => cbv
  (refine st_fld hE fK2 fun pf hpf => ?_; (conv => cbv); refine st_load hE cI64a (by rw [hpf]; exact (hb).at _ _ rfl) ?_; clear hpf; (conv => cbv))
  obtain ⟨g1, hg1⟩ : ∃ g, g = E.cmp .geq lv 0 := ⟨_, rfl⟩
  have hg1' : g1 = true ↔ 0 ≤ lv := by rw [hg1, hE.cmp]; simp [cmpR]
  simp only [← hg1]
  cases g1
  · have hn : ¬ 0 ≤ lv := fun k => by simpa using hg1'.2 k
    conv => cbv
    rw [hR]; exact ⟨hx, false, rfl, by simp only [Bool.false_eq_true, false_iff]; exact fun k => hn k.2.2.1⟩
  have hl0 := hg1'.1 rfl
  conv => cbv
  (refine st_fld hE fK2 fun pf hpf => ?_; (conv => cbv); refine st_load hE cI64a (by rw [hpf]; exact (hb).at _ _ rfl) ?_; clear hpf; (conv => cbv))
  obtain ⟨g2, hg2⟩ : ∃ g, g = E.cmp .leq lv 9999999 := ⟨_, rfl⟩
  have hg2' : g2 = true ↔ lv ≤ 9999999 := by rw [hg2, hE.cmp]; simp [cmpR]
  simp only [← hg2]
  cases g2
  · have hn : ¬ lv ≤ 9999999 := fun k => by simpa using hg2'.2 k
    conv => cbv
    rw [hR]; exact ⟨hx, false, rfl, by simp only [Bool.false_eq_true, false_iff]; exact fun k => hn k.2.2.2.1⟩
  have hl1 := hg2'.1 rfl
  conv => cbv
  (refine st_fld hE fK3 fun pf hpf => ?_; (conv => cbv); refine st_load hE cStrsa (by rw [hpf]; exact (hb).at _ _ rfl) ?_; clear hpf; (conv => cbv))
  refine st_qb hE (IsSet_q (h.ext hx)) fun b4 hb4 w5 hs5 => ?_
  replace hx := hx.trans hs5.ext
  conv => cbv
  rw [hR]; exact ⟨hx, b4, rfl, by rw [hb4]; exact ⟨fun k => ⟨hb1, hb2, hl0, hl1, k⟩, fun k => k.2.2.2.2⟩⟩
theorem svalidAsk_f (hc : cl.size ≤ 9223372036854775807) (hu : us.size ≤ 9223372036854775807) (h : Strs w A n c xs) :
    FC Tryd.prog 35 [askV cl us lv A n c] w fun v _ => ∃ b : Bool, v = .bool b ∧ (b = true ↔ validAsk cl us lv xs) := by
  refine FC.intro (cs := []) Tryd.func35 (by kernel_rfl) fun E R hE hr hR => ?_
  conv => cbv
  refine st_box hr fun a w1 hx hb0 => ?_
  have hb := hb0 _ (Nat.le_refl _)
  conv => cbv
  (refine st_fld hE fK0 fun pf hpf => ?_; (conv => cbv); refine st_load hE cStr (by rw [hpf]; exact (hb).at _ _ rfl) ?_; clear hpf; (conv => cbv))
  refine st_qb hE (sValidName_q cl _ hc) fun b1 hb1 w2 hs2 => ?_
  replace hb := hb.bel hs2.ext
  replace hx := hx.trans hs2.ext
  cases b1
  · conv => cbv
    rw [hR]; exact ⟨hx, false, rfl, by simp only [Bool.false_eq_true, false_iff] at hb1 ⊢; exact fun k => hb1 k.1⟩
  have hb1 := hb1.1 rfl
  conv => cbv
  (refine st_fld hE fK1 fun pf hpf => ?_; (conv => cbv); refine st_load hE cStr (by rw [hpf]; exact (hb).at _ _ rfl) ?_; clear hpf; (conv => cbv))
  refine st_qb hE (sValidName_q us _ hu) fun b2 hb2 w3 hs3 => ?_
  replace hb := hb.bel hs3.ext
  replace hx := hx.trans hs3.ext
  cases b2
  · conv => cbv
    rw [hR]; exact ⟨hx, false, rfl, by simp only [Bool.false_eq_true, false_iff] at hb2 ⊢; exact fun k => hb2 k.2.1⟩
  have hb2 := hb2.1 rfl
  conv => cbv
  (refine st_fld hE fK2 fun pf hpf => ?_; (conv => cbv); refine st_load hE cI64a (by rw [hpf]; exact (hb).at _ _ rfl) ?_; clear hpf; (conv => cbv))
  obtain ⟨g1, hg1⟩ : ∃ g, g = E.cmp .geq lv 0 := ⟨_, rfl⟩
  have hg1' : g1 = true ↔ 0 ≤ lv := by rw [hg1, hE.cmp]; simp [cmpR]
  simp only [← hg1]
  cases g1
  · have hn : ¬ 0 ≤ lv := fun k => by simpa using hg1'.2 k
    conv => cbv
    rw [hR]; exact ⟨hx, false, rfl, by simp only [Bool.false_eq_true, false_iff]; exact fun k => hn k.2.2.1⟩
  have hl0 := hg1'.1 rfl
  conv => cbv
  (refine st_fld hE fK2 fun pf hpf => ?_; (conv => cbv); refine st_load hE cI64a (by rw [hpf]; exact (hb).at _ _ rfl) ?_; clear hpf; (conv => cbv))
  obtain ⟨g2, hg2⟩ : ∃ g, g = E.cmp .leq lv 9999999 := ⟨_, rfl⟩
  have hg2' : g2 = true ↔ lv ≤ 9999999 := by rw [hg2, hE.cmp]; simp [cmpR]
  simp only [← hg2]
  cases g2
  · have hn : ¬ lv ≤ 9999999 := fun k => by simpa using hg2'.2 k
    conv => cbv
    rw [hR]; exact ⟨hx, false, rfl, by simp only [Bool.false_eq_true, false_iff]; exact fun k => hn k.2.2.2.1⟩
  have hl1 := hg2'.1 rfl
  conv => cbv
  (refine st_fld hE fK3 fun pf hpf => ?_; (conv => cbv); refine st_load hE cStrsa (by rw [hpf]; exact (hb).at _ _ rfl) ?_; clear hpf; (conv => cbv))
  refine st_qb hE (sIsSet_q (h.ext hx)) fun b4 hb4 w5 hs5 => ?_
  replace hx := hx.trans hs5.ext
  conv => cbv
  rw [hR]; exact ⟨hx, b4, rfl, by rw [hb4]; exact ⟨fun k => ⟨hb1, hb2, hl0, hl1, k⟩, fun k => k.2.2.2.2⟩⟩
/-- An ask's text. -/
def askText (cl us : ByteArray) (lv : Int) (xs : List ByteArray) : ByteArray :=
  ⟨#[99, 108, 105, 101, 110, 116, 61]⟩ ++ cl ++ ⟨#[32, 117, 115, 101, 114, 61]⟩ ++ us ++ ⟨#[32, 108, 101, 118, 101, 108, 61]⟩ ++ decS lv ++ ⟨#[32, 97, 115, 107, 61]⟩ ++ joinS xs
theorem cat_ok {a b : ByteArray} {m n : Nat} (ha : a.size ≤ m) (hb : b.size ≤ n) (h : m + n ≤ 9223372036854775807) : a.size + b.size ≤ 9223372036854775807 := Nat.le_trans (Nat.add_le_add ha hb) h
theorem cat_le {a b v : ByteArray} {m n : Nat} (hv : v = a ++ b) (ha : a.size ≤ m) (hb : b.size ≤ n) : v.size ≤ m + n := by rw [hv, append_size]; exact Nat.add_le_add ha hb
theorem FormatAsk_f {w0 : World} (ht : Pow w) (hs : cl.size + us.size + bulk xs ≤ 1048576) (h : Strs w A n c xs) (ho : Own w0.heap.size 9 1 w A n c (xs.map .string)) :
    FC Tryd.prog 20 [askV cl us lv A n c] w fun v _ => ∃ t, v = .string t ∧ ((validAsk cl us lv xs ∧ t = askText cl us lv xs) ∨ (¬ validAsk cl us lv xs ∧ t = ⟨#[]⟩)) := by
  refine FC.intro (cs := []) Tryd.func20 (by kernel_rfl) fun E R hE hr hR => ?_
  have hcl : cl.size ≤ 1048576 := by omega
  have hus : us.size ≤ 1048576 := by omega
  conv => cbv
  refine st_box hr fun a w1 hx hb0 => ?_
  have hb := hb0 _ (Nat.le_refl _)
  clear hb0
  conv => cbv
  refine st_loadS hE tIAsk rfl hb.at ?_
  conv => cbv
  refine st_f hr (validAsk_f (cl := cl) (us := us) (lv := lv) (by omega) (by omega) (h.ext hx)) fun v w2 hx2 ⟨b, ev, hv⟩ => ?_
  subst ev
  replace hb := hb.bel hx2
  replace hx := hx.trans hx2
  cases b
  · conv => cbv
    rw [hR]; exact ⟨hx, _, rfl, .inr ⟨fun k => by simpa using hv.2 k, rfl⟩⟩
  have hv := hv.1 rfl
  have hlv : fits lv := by unfold fits; have := hv.2.2.1; have := hv.2.2.2.1; omega
  conv => cbv
  refine draw_x hr fol (by kernel_rfl) fun E' hE' hX => ?_
  conv => cbv
  (refine st_fld hE' fK0 fun pf hpf => ?_; (conv => cbv); refine st_load hE' cStr (by rw [hpf]; exact (hb).at _ _ rfl) ?_; clear hpf; (conv => cbv))
  refine st_cat hE' (cat_ok (m := 10) (by decide) hcl (by decide)) fun v1 hv1 => ?_
  have s1 := cat_le hv1 (m := 10) (by decide) hcl
  conv => cbv
  refine st_cat hE' (cat_ok s1 (n := 10) (by decide) (by decide)) fun v2 hv2 => ?_
  have s2 := cat_le hv2 s1 (n := 10) (by decide)
  conv => cbv
  (refine st_fld hE' fK1 fun pf hpf => ?_; (conv => cbv); refine st_load hE' cStr (by rw [hpf]; exact (hb).at _ _ rfl) ?_; clear hpf; (conv => cbv))
  refine st_cat hE' (cat_ok s2 hus (by decide)) fun v3 hv3 => ?_
  have s3 := cat_le hv3 s2 hus
  conv => cbv
  refine st_cat hE' (cat_ok s3 (n := 10) (by decide) (by decide)) fun v4 hv4 => ?_
  have s4 := cat_le hv4 s3 (n := 10) (by decide)
  conv => cbv
  (refine st_fld hE' fK2 fun pf hpf => ?_; (conv => cbv); refine st_load hE' cI64a (by rw [hpf]; exact (hb).at _ _ rfl) ?_; clear hpf; (conv => cbv))
  obtain ⟨u, hu⟩ : ∃ u, u = decS lv := ⟨_, rfl⟩
  have su : u.size ≤ 20 := by rw [hu]; exact decS_size hlv
  refine st_vx hX (v := .string u) (by rw [hu]; exact FormatInt_v (TabIs_ext ht hx) hlv) ?_
  conv => cbv
  refine st_cat hE' (cat_ok s4 su (by decide)) fun v5 hv5 => ?_
  have s5 := cat_le hv5 s4 su
  conv => cbv
  refine st_cat hE' (cat_ok s5 (n := 10) (by decide) (by decide)) fun v6 hv6 => ?_
  have s6 := cat_le hv6 s5 (n := 10) (by decide)
  conv => cbv
  (refine st_fld hE' fK3 fun pf hpf => ?_; (conv => cbv); refine st_load hE' cStrsa (by rw [hpf]; exact (hb).at _ _ rfl) ?_; clear hpf; (conv => cbv))
  obtain ⟨j, hj⟩ : ∃ u, u = joinS xs := ⟨_, rfl⟩
  have sj : j.size ≤ 1048576 := by rw [hj]; exact Nat.le_trans (joinS_size xs) (by omega)
  refine st_vx hX (v := .string j) (by rw [hj]; exact Join_v (ho.bel hx) (by omega) rfl) ?_
  conv => cbv
  refine st_cat hE' (cat_ok s6 sj (by decide)) fun v7 hv7 => ?_
  conv => cbv
  intro w3 hx3
  conv => cbv
  rw [hR]; exact ⟨hx.trans hx3, v7, rfl, .inl ⟨hv, by rw [hv7, hv6, hv5, hv4, hv3, hv2, hv1, hu, hj]; rfl⟩⟩
theorem sFormatAsk_f {w0 : World} (ht : Pow w) (hs : cl.size + us.size + bulk xs ≤ 1048576) (h : Strs w A n c xs) (ho : Own w0.heap.size 9 1 w A n c (xs.map .string)) :
    FC Tryd.prog 18 [askV cl us lv A n c] w fun v _ => ∃ t, v = .string t ∧ ((validAsk cl us lv xs ∧ t = askText cl us lv xs) ∨ (¬ validAsk cl us lv xs ∧ t = ⟨#[]⟩)) := by
  refine FC.intro (cs := []) Tryd.func18 (by kernel_rfl) fun E R hE hr hR => ?_
  have hcl : cl.size ≤ 1048576 := by omega
  have hus : us.size ≤ 1048576 := by omega
  conv => cbv
  refine st_box hr fun a w1 hx hb0 => ?_
  have hb := hb0 _ (Nat.le_refl _)
  clear hb0
  conv => cbv
  refine st_loadS hE tIAsk rfl hb.at ?_
  conv => cbv
  refine st_f hr (svalidAsk_f (cl := cl) (us := us) (lv := lv) (by omega) (by omega) (h.ext hx)) fun v w2 hx2 ⟨b, ev, hv⟩ => ?_
  subst ev
  replace hb := hb.bel hx2
  replace hx := hx.trans hx2
  cases b
  · conv => cbv
    rw [hR]; exact ⟨hx, _, rfl, .inr ⟨fun k => by simpa using hv.2 k, rfl⟩⟩
  have hv := hv.1 rfl
  have hlv : fits lv := by unfold fits; have := hv.2.2.1; have := hv.2.2.2.1; omega
  conv => cbv
  refine draw_x hr fol (by kernel_rfl) fun E' hE' hX => ?_
  conv => cbv
  (refine st_fld hE' fK0 fun pf hpf => ?_; (conv => cbv); refine st_load hE' cStr (by rw [hpf]; exact (hb).at _ _ rfl) ?_; clear hpf; (conv => cbv))
  refine st_cat hE' (cat_ok (m := 10) (by decide) hcl (by decide)) fun v1 hv1 => ?_
  have s1 := cat_le hv1 (m := 10) (by decide) hcl
  conv => cbv
  refine st_cat hE' (cat_ok s1 (n := 10) (by decide) (by decide)) fun v2 hv2 => ?_
  have s2 := cat_le hv2 s1 (n := 10) (by decide)
  conv => cbv
  (refine st_fld hE' fK1 fun pf hpf => ?_; (conv => cbv); refine st_load hE' cStr (by rw [hpf]; exact (hb).at _ _ rfl) ?_; clear hpf; (conv => cbv))
  refine st_cat hE' (cat_ok s2 hus (by decide)) fun v3 hv3 => ?_
  have s3 := cat_le hv3 s2 hus
  conv => cbv
  refine st_cat hE' (cat_ok s3 (n := 10) (by decide) (by decide)) fun v4 hv4 => ?_
  have s4 := cat_le hv4 s3 (n := 10) (by decide)
  conv => cbv
  (refine st_fld hE' fK2 fun pf hpf => ?_; (conv => cbv); refine st_load hE' cI64a (by rw [hpf]; exact (hb).at _ _ rfl) ?_; clear hpf; (conv => cbv))
  obtain ⟨u, hu⟩ : ∃ u, u = decS lv := ⟨_, rfl⟩
  have su : u.size ≤ 20 := by rw [hu]; exact decS_size hlv
  refine st_vx hX (v := .string u) (by rw [hu]; exact l1decimal_v hlv _) ?_
  conv => cbv
  refine st_cat hE' (cat_ok s4 su (by decide)) fun v5 hv5 => ?_
  have s5 := cat_le hv5 s4 su
  conv => cbv
  refine st_cat hE' (cat_ok s5 (n := 10) (by decide) (by decide)) fun v6 hv6 => ?_
  have s6 := cat_le hv6 s5 (n := 10) (by decide)
  conv => cbv
  (refine st_fld hE' fK3 fun pf hpf => ?_; (conv => cbv); refine st_load hE' cStrsa (by rw [hpf]; exact (hb).at _ _ rfl) ?_; clear hpf; (conv => cbv))
  obtain ⟨j, hj⟩ : ∃ u, u = joinS xs := ⟨_, rfl⟩
  have sj : j.size ≤ 1048576 := by rw [hj]; exact Nat.le_trans (joinS_size xs) (by omega)
  refine st_vx hX (v := .string j) (by rw [hj]; exact QF.vf (l1join_q (h.ext hx) (by omega) rfl)) ?_
  conv => cbv
  refine st_cat hE' (cat_ok s6 sj (by decide)) fun v7 hv7 => ?_
  conv => cbv
  intro w3 hx3
  conv => cbv
  rw [hR]; exact ⟨hx.trans hx3, v7, rfl, .inl ⟨hv, by rw [hv7, hv6, hv5, hv4, hv3, hv2, hv1, hu, hj]; rfl⟩⟩
end
theorem eqAsk_f {w : World} {cl us cl' us' : ByteArray} {lv lv' : Int} {A A1 : Option Addr} {n c m k : Nat} {xs xs' : List ByteArray} (h : Strs w A n c xs) (h1 : Strs w A1 m k xs') :
    FC Tryd.prog 21 [askV cl us lv A n c, askV cl' us' lv' A1 m k] w fun v _ => ∃ b : Bool, v = .bool b ∧ (b = true ↔ cl = cl' ∧ us = us' ∧ lv = lv' ∧ xs = xs') := by
  refine FC.intro (cs := []) Tryd.func21 (by kernel_rfl) fun E R hE hr hR => ?_
  conv => cbv
  refine st_box hr fun a w1 hx ha0 => ?_
  have ha := ha0 _ (Nat.le_refl _)
  conv => cbv
  refine st_box hr fun b w2 hx2 hb0 => ?_
  have hb := hb0 _ hx.size
  replace ha := ha.bel hx2
  replace hx := hx.trans hx2
  clear ha0 hb0
  conv => cbv
  (refine st_fld hE fK0 fun pf hpf => ?_; (conv => cbv); refine st_load hE cStr (by rw [hpf]; exact (ha).at _ _ rfl) ?_; clear hpf; (conv => cbv))
  (refine st_fld hE fK0 fun pf hpf => ?_; (conv => cbv); refine st_load hE cStr (by rw [hpf]; exact (hb).at _ _ rfl) ?_; clear hpf; (conv => cbv))
  refine br (fun g => ?_) (fun g => ?_)
  · conv => cbv
    rw [hR]; exact ⟨hx, false, rfl, by simp only [Bool.false_eq_true, false_iff]; exact fun e => absurd e.1 (by simpa [hE.scmp, scmp_neq] using g)⟩
  have g0 : cl = cl' := by simpa [hE.scmp, scmp_neq] using g
  conv => cbv
  (refine st_fld hE fK1 fun pf hpf => ?_; (conv => cbv); refine st_load hE cStr (by rw [hpf]; exact (ha).at _ _ rfl) ?_; clear hpf; (conv => cbv))
  (refine st_fld hE fK1 fun pf hpf => ?_; (conv => cbv); refine st_load hE cStr (by rw [hpf]; exact (hb).at _ _ rfl) ?_; clear hpf; (conv => cbv))
  refine br (fun g => ?_) (fun g => ?_)
  · conv => cbv
    rw [hR]; exact ⟨hx, false, rfl, by simp only [Bool.false_eq_true, false_iff]; exact fun e => absurd e.2.1 (by simpa [hE.scmp, scmp_neq] using g)⟩
  have g1 : us = us' := by simpa [hE.scmp, scmp_neq] using g
  conv => cbv
  (refine st_fld hE fK2 fun pf hpf => ?_; (conv => cbv); refine st_load hE cI64a (by rw [hpf]; exact (ha).at _ _ rfl) ?_; clear hpf; (conv => cbv))
  (refine st_fld hE fK2 fun pf hpf => ?_; (conv => cbv); refine st_load hE cI64a (by rw [hpf]; exact (hb).at _ _ rfl) ?_; clear hpf; (conv => cbv))
  refine br (fun g => ?_) (fun g => ?_)
  · conv => cbv
    rw [hR]; exact ⟨hx, false, rfl, by simp only [Bool.false_eq_true, false_iff]; exact fun e => absurd e.2.2.1 (by simpa [hE.cmp, cmpR] using g)⟩
  have g2 : lv = lv' := by simpa [hE.cmp, cmpR] using g
  conv => cbv
  (refine st_fld hE fK3 fun pf hpf => ?_; (conv => cbv); refine st_load hE cStrsa (by rw [hpf]; exact (ha).at _ _ rfl) ?_; clear hpf; (conv => cbv))
  (refine st_fld hE fK3 fun pf hpf => ?_; (conv => cbv); refine st_load hE cStrsa (by rw [hpf]; exact (hb).at _ _ rfl) ?_; clear hpf; (conv => cbv))
  refine st_qb hE (eqStringS_q (h.ext hx) (h1.ext hx)) fun v hv w3 hs3 => ?_
  replace hx := hx.trans hs3.ext
  cases v
  · conv => cbv
    rw [hR]; exact ⟨hx, false, rfl, by simp only [Bool.false_eq_true, false_iff]; exact fun e => absurd (hv.2 e.2.2.2) (by simp)⟩
  conv => cbv
  rw [hR]; exact ⟨hx, true, rfl, by simp only [true_iff]; exact ⟨g0, g1, g2, hv.1 rfl⟩⟩
/-- The law. -/
theorem lawFormatAsk (cl us : ByteArray) (lv : Int) (A : Option Addr) (n c : Nat) (xs : List ByteArray) (w : World) (ht : Pow w) (hc : cl.size ≤ 9223372036854775807) (hu : us.size ≤ 9223372036854775807) (h : Strs w A n c xs) :
    Law Tryd.prog 6 [askV cl us lv A n c] w := by
  refine FC.intro (cs := []) Tryd.func6 (by kernel_rfl) fun E R hE hr hR => ?_
  conv => cbv
  refine st_box hr fun a w1 hx ha0 => ?_
  have ha := ha0 _ (Nat.le_refl _)
  clear ha0
  conv => cbv
  refine st_loadS hE tLAsk rfl ha.at ?_
  conv => cbv
  refine st_f hr (szAsk_f hc hu (h.ext hx)) fun v w2 hx2 ⟨z, ev, hz⟩ => ?_
  subst ev
  replace ha := ha.bel hx2
  replace hx := hx.trans hx2
  conv => cbv
  refine br (fun _ => ?_) (fun g => ?_)
  · conv => cbv
    rw [hR]; exact ⟨hx, rfl⟩
  have g : 0 ≤ z := by simpa [hE.cmp, cmpR] using g
  have hs := hz g
  have hbe := bulk_eq xs
  have hn : n ≤ 1048576 := by rw [← h.len]; omega
  conv => cbv
  refine st_loadS hE tLAsk rfl ha.at ?_
  conv => cbv
  refine st_f hr (toAsk_f (cl := cl) (us := us) (lv := lv) (h.ext hx) hn) fun v w3 hx3 ⟨A3, n3, c3, ev, h3, o3⟩ => ?_
  subst ev
  replace ha := ha.bel hx3
  replace hx := hx.trans hx3
  conv => cbv
  refine st_f hr (sFormatAsk_f (lv := lv) (TabIs_ext ht hx) hs h3 o3) fun v w4 hx4 ⟨t, ev, htx⟩ => ?_
  subst ev
  replace ha := ha.bel hx4
  replace hx := hx.trans hx4
  conv => cbv
  refine st_loadS hE tLAsk rfl ha.at ?_
  conv => cbv
  refine st_f hr (toAsk_f (cl := cl) (us := us) (lv := lv) (h.ext hx) hn) fun v w5 hx5 ⟨A5, n5, c5, ev, h5, o5⟩ => ?_
  subst ev
  replace ha := ha.bel hx5
  replace hx := hx.trans hx5
  conv => cbv
  refine st_alloc hr tIAsk rfl fun q w6 hx6 hq0 => ?_
  have hq := hq0 _ hx.size
  have aq := (ha.apart (hq0 _ (Nat.le_refl _)) (Nat.le_refl _)).1
  have hq5 := hq0 _ (Nat.le_refl _)
  clear hq0
  replace ha := ha.bel hx6
  replace hx := hx.trans hx6
  conv => cbv
  refine st_putS hr (by kernel_rfl) hq (add_zero _).symm (by simp) (by simp [Value.oneCell']) fun w7 hw hq2 => ?_
  replace hx := hx.then (hw.bel hq hx.size)
  have hx5 := hx6.then (hw.bel hq5 hx6.size)
  replace ha := ha.wr hw aq
  simp only [List.take_zero, List.nil_append, List.length_cons, List.length_nil, List.drop_succ_cons, List.drop_nil, List.append_nil] at hq2
  clear hq hq5 hx6 hw
  replace h5 := h5.ext hx5
  replace o5 := o5.bel hx5
  conv => cbv
  refine st_loadS hE tIAsk rfl hq2.at ?_
  conv => cbv
  refine st_f hr (FormatAsk_f (lv := lv) (TabIs_ext ht hx) hs h5 o5) fun v w8 hx8 ⟨t', ev, htx'⟩ => ?_
  subst ev
  replace ha := ha.bel hx8
  replace hq2 := hq2.bel hx8
  replace hx := hx.trans hx8
  replace h5 := h5.ext hx8
  obtain rfl : t = t' := by
    rcases htx with ⟨k1, k2⟩ | ⟨k1, k2⟩ <;> rcases htx' with ⟨j1, j2⟩ | ⟨j1, j2⟩
    · rw [k2, j2]
    · exact absurd k1 j1
    · exact absurd j1 k1
    · rw [k2, j2]
  conv => cbv
  refine br (fun k => absurd k (by simp [hE.scmp, scmp_neq])) (fun _ => ?_)
  conv => cbv
  refine draw_h [0, 1] [(2, false), (3, false), (4, false)] hr fol (by kernel_rfl) fun E' hE' w9 hs9 S hS => ?_
  replace ha := ha.bel hs9.ext
  replace hq2 := hq2.bel hs9.ext
  replace hx := hx.trans hs9.ext
  conv => cbv
  refine st_loadS hE' tIAsk rfl hq2.at ?_
  conv => cbv
  refine st_loadS hE' tLAsk rfl ha.at ?_
  conv => cbv
  refine st_f hr (toAsk_f (cl := cl) (us := us) (lv := lv) (h.ext hx) hn) fun v w10 hx10 ⟨A10, n10, c10, ev, h10, _⟩ => ?_
  subst ev
  refine ⟨hS _ hx10, ?_⟩
  have hy := hs9.ext.trans hx10
  replace hx := hx.trans hx10
  conv => cbv
  refine st_f hr (eqAsk_f (cl := cl) (us := us) (lv := lv) (cl' := cl) (us' := us) (lv' := lv) (h5.ext hy) h10) fun v w11 hx11 ⟨b, ev, hb⟩ => ?_
  obtain rfl : b = true := hb.2 ⟨rfl, rfl, rfl, rfl⟩
  subst ev
  refine ⟨hS _ (hx10.trans hx11), ?_⟩
  conv => cbv
  refine ⟨hS _ (hx10.trans hx11), ?_⟩
  conv => cbv
  rw [hR]; exact ⟨hx.trans hx11, rfl⟩
end Go.Proofs.YtpphichjabjodaaDoor
