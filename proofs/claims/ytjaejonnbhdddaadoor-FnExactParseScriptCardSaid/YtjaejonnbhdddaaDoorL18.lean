/- Asks: their size, copy, equality and validity; their text; the law FormatAsk. -/
import Derived.Test.YtjaejonnbhdddaaDoorL6
import Derived.Test.YtjaejonnbhdddaaDoorL17
import Derived.Test.YtjaejonnbhdddaaDoorSh173
import Derived.Lib.AppendIntMem
namespace Go.Proofs.YtjaejonnbhdddaaDoor
open Go.Eng
set_option linter.unusedVariables false
set_option linter.unusedSimpArgs false
theorem TabIs_ext {P : Program} {w w' : World} {name : String} {k : IntKind} {zs : List Int} (h : Lib.TabIs P w name k zs) (hx : Ext w w') : Lib.TabIs P w' name k zs := by
  unfold Lib.TabIs World.var? at *
  cases hg : P.globalNamed name with
  | none => simp [hg] at h
  | some g =>
    simp only [hg, Option.bind_some] at h ⊢
    have hlt : g < w.heap.size := by
      rcases Nat.lt_or_ge g w.heap.size with h' | h'
      · exact h'
      · simp [Array.getElem?_eq_none h'] at h
    rw [hx.block g hlt]; exact h
/-- The library's table of powers of ten stands. -/
abbrev Pow (w : World) : Prop := Lib.TabIs Tryd.prog w "internal/strconv.uint64pow10" .u64 Lib.pow10Tab
theorem FormatInt_v {w : World} (ht : Pow w) {n : Int} (hn : fits n) : VF Tryd.prog 50 [.int .i64 n, .int .i64 10] w (.string (decS n)) :=
  ⟨⟨_, Tryd.func50, by kernel_rfl⟩, fun w1 hx => (Any.strconv_FormatInt_10 Tryd.laysM173 n hn.1 hn.2 w1 (TabIs_ext ht hx)).mono fun e w' ⟨he, k, os, hw⟩ => ⟨he, by rw [hw]; exact Lib.below_grow _ w1 (Nat.le_refl _) k os⟩⟩
theorem QF.vf {P : Program} {f : FuncId} {args : List Value} {w : World} {v : Value} (h : QF P f args w v) : VF P f args w v :=
  ⟨h.1, fun w1 hx => (h.2 w1 hx).mono fun e w' ⟨he, hs⟩ => ⟨he, hs.ext⟩⟩
theorem uI64a : Tryd.prog.underlying 2 = some (.int .i64) := Tryd.underlying2
theorem cI64a : Cel Tryd.prog 2 := ⟨_, uI64a, by simp, by simp⟩
theorem cStrsa : Cel Tryd.prog 23 := ⟨_, Tryd.underlying23, by simp, by simp⟩
theorem tIAsk : Stc Tryd.prog 39 4 [.string ⟨#[]⟩, .string ⟨#[]⟩, .int .i64 0, .slice none 0 0] := ⟨by kernel_rfl, by kernel_rfl⟩
theorem fK0 : Fld Tryd.prog 39 0 0 := ⟨by kernel_rfl⟩
theorem fK1 : Fld Tryd.prog 39 1 1 := ⟨by kernel_rfl⟩
theorem fK2 : Fld Tryd.prog 39 2 2 := ⟨by kernel_rfl⟩
theorem fK3 : Fld Tryd.prog 39 3 3 := ⟨by kernel_rfl⟩
theorem zSt : (Tryd.prog.info? 9).map (·.size) = some 1 := by kernel_rfl
theorem zI6 : (Tryd.prog.info? 2).map (·.size) = some 1 := by kernel_rfl
theorem zSts : (Tryd.prog.info? 23).map (·.size) = some 1 := by kernel_rfl
/-- What an ask holds, as a value. -/
abbrev askV (cl us : ByteArray) (lv : Int) (A : Option Addr) (n c : Nat) : Value := .agg ⟨[.string cl, .string us, .int .i64 lv, .slice A n c]⟩
section
variable {w : World} {cl us : ByteArray} {lv : Int} {A : Option Addr} {n c : Nat} {xs : List ByteArray}
def validAsk (cl us : ByteArray) (lv : Int) (xs : List ByteArray) : Prop := validName cl ∧ validName us ∧ 0 ≤ lv ∧ lv ≤ 9999999 ∧ isSet xs
theorem validAsk_f (hc : cl.size ≤ 9223372036854775807) (hu : us.size ≤ 9223372036854775807) (h : Strs w A n c xs) :
    FC Tryd.prog 51 [askV cl us lv A n c] w fun v _ => ∃ b : Bool, v = .bool b ∧ (b = true ↔ validAsk cl us lv xs) := by
  refine FC.intro (cs := []) Tryd.func51 (by kernel_rfl) fun E R hE hr hR => ?_
  conv => cbv
  refine st_box hr fun a w1 hx hb0 => ?_
  have hb := hb0 _ (Nat.le_refl _)
  conv => cbv
  (refine st_fld hE fK0 fun pf hpf => ?_; (conv => cbv); refine st_load hE cStr (by rw [hpf]; exact (hb).at _ _ rfl) ?_; clear hpf; (conv => cbv))
  refine st_qb hE (ValidName_q cl _ hc) fun b1 hb1 w2 hs2 => ?_
  replace hb := hb.bel hs2.ext
  replace hx := hx.trans hs2.ext
  cases b1
  · conv => cbv
    rw [hR]; exact ⟨hx, false, rfl, by simp only [Bool.false_eq_true, false_iff] at hb1 ⊢; exact fun k => hb1 k.1⟩
  have hb1 := hb1.1 rfl
  conv => cbv
  (refine st_fld hE fK1 fun pf hpf => ?_; (conv => cbv); refine st_load hE cStr (by rw [hpf]; exact (hb).at _ _ rfl) ?_; clear hpf; (conv => cbv))
  refine st_qb hE (ValidName_q us _ hu) fun b2 hb2 w3 hs3 => ?_
  replace hb := hb.bel hs3.ext
  replace hx := hx.trans hs3.ext
  cases b2
  · conv => cbv
    rw [hR]; exact ⟨hx, false, rfl, by simp only [Bool.false_eq_true, false_iff] at hb2 ⊢; exact fun k => hb2 k.2.1⟩
  have hb2 := hb2.1 rfl
  conv => cbv
  (refine st_fld hE fK2 fun pf hpf => ?_; (conv => cbv); refine st_load hE cI64a (by rw [hpf]; exact (hb).at _ _ rfl) ?_; clear hpf; (conv => cbv))
  obtain ⟨g1, hg1⟩ : ∃ g, g = E.cmp .geq lv 0 := ⟨_, rfl⟩
  have hg1' : g1 = true ↔ 0 ≤ lv := by rw [hg1, hE.cmp]; simp [cmpR]
  simp only [← hg1]
  cases g1
  · have hn : ¬ 0 ≤ lv := fun k => by simpa using hg1'.2 k
    conv => cbv
    rw [hR]; exact ⟨hx, false, rfl, by simp only [Bool.false_eq_true, false_iff]; exact fun k => hn k.2.2.1⟩
  have hl0 := hg1'.1 rfl
  conv => cbv
  (refine st_fld hE fK2 fun pf hpf => ?_; (conv => cbv); refine st_load hE cI64a (by rw [hpf]; exact (hb).at _ _ rfl) ?_; clear hpf; (conv => cbv))
  obtain ⟨g2, hg2⟩ : ∃ g, g = E.cmp .leq lv 9999999 := ⟨_, rfl⟩
  have hg2' : g2 = true ↔ lv ≤ 9999999 := by rw [hg2, hE.cmp]; simp [cmpR]
  simp only [← hg2]
  cases g2
  · have hn : ¬ lv ≤ 9999999 := fun k => by simpa using hg2'.2 k
    conv => cbv
    rw [hR]; exact ⟨hx, false, rfl, by simp only [Bool.false_eq_true, false_iff]; exact fun k => hn k.2.2.2.1⟩
  have hl1 := hg2'.1 rfl
  conv => cbv
  (refine st_fld hE fK3 fun pf hpf => ?_; (conv => cbv); refine st_load hE cStrsa (by rw [hpf]; exact (hb).at _ _ rfl) ?_; clear hpf; (conv => cbv))
  refine st_qb hE (IsSet_q (h.ext hx)) fun b4 hb4 w5 hs5 => ?_
  replace hx := hx.trans hs5.ext
  conv => cbv
  rw [hR]; exact ⟨hx, b4, rfl, by rw [hb4]; exact ⟨fun k => ⟨hb1, hb2, hl0, hl1, k⟩, fun k => k.2.2.2.2⟩⟩
/-- An ask's text. -/
def askText (cl us : ByteArray) (lv : Int) (xs : List ByteArray) : ByteArray :=
  ⟨#[99, 108, 105, 101, 110, 116, 61]⟩ ++ cl ++ ⟨#[32, 117, 115, 101, 114, 61]⟩ ++ us ++ ⟨#[32, 108, 101, 118, 101, 108, 61]⟩ ++ decS lv ++ ⟨#[32, 97, 115, 107, 61]⟩ ++ joinS xs
theorem cat_ok {a b : ByteArray} {m n : Nat} (ha : a.size ≤ m) (hb : b.size ≤ n) (h : m + n ≤ 9223372036854775807) : a.size + b.size ≤ 9223372036854775807 := Nat.le_trans (Nat.add_le_add ha hb) h
theorem cat_le {a b v : ByteArray} {m n : Nat} (hv : v = a ++ b) (ha : a.size ≤ m) (hb : b.size ≤ n) : v.size ≤ m + n := by rw [hv, append_size]; exact Nat.add_le_add ha hb
end
theorem eqAsk_f {w : World} {cl us cl' us' : ByteArray} {lv lv' : Int} {A A1 : Option Addr} {n c m k : Nat} {xs xs' : List ByteArray} (h : Strs w A n c xs) (h1 : Strs w A1 m k xs') :
    FC Tryd.prog 21 [askV cl us lv A n c, askV cl' us' lv' A1 m k] w fun v _ => ∃ b : Bool, v = .bool b ∧ (b = true ↔ cl = cl' ∧ us = us' ∧ lv = lv' ∧ xs = xs') := by
  refine FC.intro (cs := []) Tryd.func21 (by kernel_rfl) fun E R hE hr hR => ?_
  conv => cbv
  refine st_box hr fun a w1 hx ha0 => ?_
  have ha := ha0 _ (Nat.le_refl _)
  conv => cbv
  refine st_box hr fun b w2 hx2 hb0 => ?_
  have hb := hb0 _ hx.size
  replace ha := ha.bel hx2
  replace hx := hx.trans hx2
  clear ha0 hb0
  conv => cbv
  (refine st_fld hE fK0 fun pf hpf => ?_; (conv => cbv); refine st_load hE cStr (by rw [hpf]; exact (ha).at _ _ rfl) ?_; clear hpf; (conv => cbv))
  (refine st_fld hE fK0 fun pf hpf => ?_; (conv => cbv); refine st_load hE cStr (by rw [hpf]; exact (hb).at _ _ rfl) ?_; clear hpf; (conv => cbv))
  refine br (fun g => ?_) (fun g => ?_)
  · conv => cbv
    rw [hR]; exact ⟨hx, false, rfl, by simp only [Bool.false_eq_true, false_iff]; exact fun e => absurd e.1 (by simpa [hE.scmp, scmp_neq] using g)⟩
  have g0 : cl = cl' := by simpa [hE.scmp, scmp_neq] using g
  conv => cbv
  (refine st_fld hE fK1 fun pf hpf => ?_; (conv => cbv); refine st_load hE cStr (by rw [hpf]; exact (ha).at _ _ rfl) ?_; clear hpf; (conv => cbv))
  (refine st_fld hE fK1 fun pf hpf => ?_; (conv => cbv); refine st_load hE cStr (by rw [hpf]; exact (hb).at _ _ rfl) ?_; clear hpf; (conv => cbv))
  refine br (fun g => ?_) (fun g => ?_)
  · conv => cbv
    rw [hR]; exact ⟨hx, false, rfl, by simp only [Bool.false_eq_true, false_iff]; exact fun e => absurd e.2.1 (by simpa [hE.scmp, scmp_neq] using g)⟩
  have g1 : us = us' := by simpa [hE.scmp, scmp_neq] using g
  conv => cbv
  (refine st_fld hE fK2 fun pf hpf => ?_; (conv => cbv); refine st_load hE cI64a (by rw [hpf]; exact (ha).at _ _ rfl) ?_; clear hpf; (conv => cbv))
  (refine st_fld hE fK2 fun pf hpf => ?_; (conv => cbv); refine st_load hE cI64a (by rw [hpf]; exact (hb).at _ _ rfl) ?_; clear hpf; (conv => cbv))
  refine br (fun g => ?_) (fun g => ?_)
  · conv => cbv
    rw [hR]; exact ⟨hx, false, rfl, by simp only [Bool.false_eq_true, false_iff]; exact fun e => absurd e.2.2.1 (by simpa [hE.cmp, cmpR] using g)⟩
  have g2 : lv = lv' := by simpa [hE.cmp, cmpR] using g
  conv => cbv
  (refine st_fld hE fK3 fun pf hpf => ?_; (conv => cbv); refine st_load hE cStrsa (by rw [hpf]; exact (ha).at _ _ rfl) ?_; clear hpf; (conv => cbv))
  (refine st_fld hE fK3 fun pf hpf => ?_; (conv => cbv); refine st_load hE cStrsa (by rw [hpf]; exact (hb).at _ _ rfl) ?_; clear hpf; (conv => cbv))
  refine st_qb hE (eqStringS_q (h.ext hx) (h1.ext hx)) fun v hv w3 hs3 => ?_
  replace hx := hx.trans hs3.ext
  cases v
  · conv => cbv
    rw [hR]; exact ⟨hx, false, rfl, by simp only [Bool.false_eq_true, false_iff]; exact fun e => absurd (hv.2 e.2.2.2) (by simp)⟩
  conv => cbv
  rw [hR]; exact ⟨hx, true, rfl, by simp only [true_iff]; exact ⟨g0, g1, g2, hv.1 rfl⟩⟩
end Go.Proofs.YtjaejonnbhdddaaDoor
