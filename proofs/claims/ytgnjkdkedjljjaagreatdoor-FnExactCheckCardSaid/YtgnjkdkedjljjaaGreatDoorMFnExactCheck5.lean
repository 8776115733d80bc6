/- Texts that the law FnExactCheck leans on, part 5 of 7: contracts of the functions that it reaches and plain lemmas. Each holds under the conditions that it states. -/
import Derived.Test.YtgnjkdkedjljjaaGreatDoorMFnExactCheck4
set_option maxHeartbeats 16000000
set_option linter.unusedVariables false
set_option linter.unusedSimpArgs false
namespace Go.Proofs.YtgnjkdkedjljjaaGreatDoor
open Go.Eng
set_option linter.unusedVariables false
set_option linter.unusedSimpArgs false
theorem fVal0 : Fld Tryz.prog 218 0 0 := ⟨by kernel_rfl⟩
theorem sw_nil {P : Program} {S : World → Prop} {E : Sym} {w : World} {K : Value → World → Prop} {d : Option Tmp} {ty : TypeId} {pos : String} {aft : Array Edge} {g : Option (Nat × Bool)} (hE : EngW S P E) {a : Addr} {x : Operand} (hk : K (.pointer (some a)) w) : E.stop ⟨d, .nilCheck x, ty, pos, aft, g⟩ [.pointer (some a)] w K := by
 refine hE.det (v := .pointer (some a)) (fun w1 _ ρ hρ => ?_) hk
 simp only [opnds, b2_, b3_, b1_, and_true] at hρ
 simp [execOp, hρ]
def DN (D : Nat → Prop) (w w' : World) (A' : Option Addr) (b : Nat) : Prop := D b ∨ (w.heap.size ≤ b ∧ b < w'.heap.size ∧ blk A' ≠ some b)
def CkR (w0s ws : Nat) (q : Addr) (bm : Nat) (names : List ByteArray) (tys : List Int) (TA : Option Addr) (tn tc : Nat) (w : World) (A : Option Addr) (D : Nat → Prop) (acc' : List Int) (code ty : Int) (t' : Tr) (r : Value) (w' : World) : Prop :=
 ∃ A' na' c' v' e, r = .tuple ⟨[v', .int .i64 ty, e]⟩ ∧ Gr2 w q A w' A' ∧ KC w0s ws w' q bm (fN names) tys acc' TA A' tn tc na' c' ∧ (code = 0 → e = .nilIface ∧ TreeV (DN D w w' A') w' t' v') ∧ (code ≠ 0 → e = misV code na' ∧ v' = .nilIface)
section
variable {w0s ws : Nat} {w : World} {q : Addr} {bm : Nat} {names : List ByteArray} {tys acc : List Int} {TA A : Option Addr} {tn tc na c : Nat}
theorem fresh_at (hb : KB w0s ws q bm) {f : List (ByteArray × Value)} (hK : KC w0s ws w q bm f tys acc TA A tn tc na c) {w2 : World} {x : Addr} {e : TypeId} {k : Nat} {xs : List Value} (hx : Box w.heap.size e k w2 x xs) : ∀ w1, (∃ A1, Gr2 w2 q A w1 A1) → ∀ j v, xs[j]? = some v → w1.cell? (x.add j) = some v := fun w1 ⟨A1, hg⟩ => by
 have fx := bx_form hx
 refine (hg.own hx (by rw [fx.2.2]; intro e; have := Option.some.inj e; have := hb.hq; have := hK.hs; omega) (.inr ?_)).at
 rw [fx.2.2]
 intro e
 have := (own_blk hK.rA _ e.symm).2
 omega
theorem check_att (hb : KB w0s ws q bm) (hK : KC w0s ws w q bm (fN names) tys acc TA A tn tc na c) (hna : na ≤ 4000) {n : Int} (hn : 0 ≤ n ∧ n < 6) (D : Nat → Prop) :
  GC Tryz.prog 160 [.pointer (some q), atV n] w (CkR w0s ws q bm names tys TA tn tc w A D (acc ++ [attrF n]) 0 (attrF n) (.att n)) := by
 refine GC.intro (cs := []) Tryz.func160 (by kernel_rfl) fun E R hE hr hR => ?_
 obtain ⟨k, hk⟩ : ∃ k : Nat, k = n.toNat := ⟨_, rfl⟩
 conv => cbv
 refine st_ta hE (taAtCo n) ?_
 conv => cbv
 refine st_ta hE (taAtNa n) ?_
 conv => cbv
 refine st_ta hE (taAtAt n) ?_
 conv => cbv
 refine st_alloc hr tAtT rfl fun q11 w1 hx1 hq0 => ?_
 conv => cbv
 refine st_putS hr (by kernel_rfl) (hq0 _ (n1_ _)) (add_zero _).symm (by simp) (by simp [Value.oneCell']) fun w2 hw2 hq11 => ?_
 simp only [a1_, a2_, a3_, a4_, a5_, a6_, a7_] at hq11
 have hx2 := hx1.then (hw2.bel (hq0 _ (n1_ _)) hx1.size)
 clear hq0 hw2 hx1
 have hst := fresh_at hb hK hq11
 conv => cbv
 refine draw_s (fun w1 => ∃ A1, Gr2 w2 q A w1 A1) [0, 1, 2, 4, 5] [(3, false), (6, false), (7, false), (8, false), (9, false), (10, true), (11, true), (12, true)] hr fol (by kernel_rfl) (fun w0 h => ⟨A, ext_gr2 h.ext _ _⟩) fun E' hE' w3 hs3 => ?_
 have g3 := ext_gr2 hs3.ext q A
 conv => cbv
 refine sw_loadS hE' tAtT rfl hst ?_
 conv => cbv
 refine sw_mk hE' uAtT ?_
 conv => cbv
 (refine sw_fld hE' fAtT0 fun p hp => ?_; (conv => cbv); refine sw_load hE' cInt (fun w1 hw1 => by rw [hp]; exact hst w1 hw1 _ _ rfl) ?_; (conv => cbv))
 refine st_f hr (attributes_f w3) fun v w4 hx4 ⟨a, ev, hA⟩ => ?_
 subst ev
 have g4 := g3.trans (ext_gr2 hx4 q A)
 refine ⟨⟨A, g4⟩, ?_⟩
 obtain ⟨f, hf⟩ := arT_at (i := k) (by omega)
 obtain ⟨a', ha', hcell⟩ := fl_at aC_len hA.cells (by omega) hf
 cases ha'
 obtain ⟨af, haf⟩ : ∃ af, af = attrF n := ⟨_, rfl⟩
 rw [show ((k : Nat) : Int) = n by omega, ← haf] at hcell
 conv => cbv
 refine st_idx hE sAr rfl (by omega) (by omega) fun p hp => ?_
 rw [← hk] at hp
 refine ⟨⟨A, g4⟩, ?_⟩
 conv => cbv
 refine st_fld hE fAr1 fun p2 hp2 => ?_
 refine ⟨⟨A, g4⟩, ?_⟩
 conv => cbv
 refine st_load hE cInt (by rw [hp2, hp]; exact hcell 1 _ rfl) ?_
 refine ⟨⟨A, g4⟩, ?_⟩
 have hK4 := ((hK.ext hx2).ext hs3.ext).ext hx4
 conv => cbv
 refine st_g hr (put_g hb hK4 hna af) fun u w5 ⟨ev, A', c', hg5, hK5⟩ => ?_
 subst ev
 refine ⟨⟨A', g4.trans hg5⟩, ?_⟩
 conv => cbv
 rw [hR, ← haf]
 refine ⟨A', na + 1, c', atV n, .nilIface, rfl, ((ext_gr2 hx2 q A).trans g4).trans hg5, hK5, fun _ => ⟨rfl, ?_⟩, fun q => absurd rfl q⟩
 simp only [TreeV]; rfl
theorem check_lt (hb : KB w0s ws q bm) (hK : KC w0s ws w q bm (fN names) tys acc TA A tn tc na c) (hna : na ≤ 4000) {n : Int} (hn : 0 ≤ n ∧ n < tys.length) (D : Nat → Prop) :
  GC Tryz.prog 160 [.pointer (some q), ltV n] w (CkR w0s ws q bm names tys TA tn tc w A D (acc ++ [tys.getD n.toNat 0]) 0 (tys.getD n.toNat 0) (.lt n)) := by
 refine GC.intro (cs := []) Tryz.func160 (by kernel_rfl) fun E R hE hr hR => ?_
 obtain ⟨k, hk⟩ : ∃ k : Nat, k = n.toNat := ⟨_, rfl⟩
 obtain ⟨hl1, _⟩ := hK.len
 obtain ⟨af, haf⟩ : ∃ af, af = tys.getD n.toNat 0 := ⟨_, rfl⟩
 rw [← haf] at hR
 conv => cbv
 refine st_ta hE (taLtCo n) ?_
 conv => cbv
 refine st_ta hE (taLtNa n) ?_
 conv => cbv
 refine st_ta hE (taLtAt n) ?_
 conv => cbv
 refine st_ta hE (taLtLt n) ?_
 conv => cbv
 refine st_alloc hr tLtT rfl fun q11 w1 hx1 hq0 => ?_
 conv => cbv
 refine st_putS hr (by kernel_rfl) (hq0 _ (n1_ _)) (add_zero _).symm (by simp) (by simp [Value.oneCell']) fun w2 hw2 hq11 => ?_
 simp only [a1_, a2_, a3_, a4_, a5_, a6_, a7_] at hq11
 have hx2 := hx1.then (hw2.bel (hq0 _ (n1_ _)) hx1.size)
 clear hq0 hw2 hx1
 have hst := fresh_at hb hK hq11
 conv => cbv
 refine draw_s (fun w1 => ∃ A1, Gr2 w2 q A w1 A1) [0, 1, 2, 3, 4, 7, 8] [(5, false), (6, false), (9, false), (10, false), (11, false), (12, true), (13, true), (14, true)] hr fol (by kernel_rfl) (fun w0 h => ⟨A, ext_gr2 h.ext _ _⟩) fun E' hE' w3 hs3 => ?_
 have g3 := ext_gr2 hs3.ext q A
 have hK3 := (hK.ext hx2).ext hs3.ext
 conv => cbv
 refine sw_loadS hE' tLtT rfl hst ?_
 conv => cbv
 refine sw_mk hE' uLtT ?_
 conv => cbv
 refine sw_nil hE' ?_
 conv => cbv
 (refine sw_fld hE' fLtT0 fun p hp => ?_; (conv => cbv); refine sw_load hE' cInt (fun w1 hw1 => by rw [hp]; exact hst w1 hw1 _ _ rfl) ?_; (conv => cbv))
 refine st_fld hE fCk0 fun p hp => ?_
 refine ⟨⟨A, g3⟩, ?_⟩
 conv => cbv
 refine st_load hE cInts (by rw [hp]; exact hK3.box.at 0 _ rfl) ?_
 refine ⟨⟨A, g3⟩, ?_⟩
 conv => cbv
 refine st_int hE tInts (Own.ints hK3.rT) (k := k) (by omega) (by omega) fun p2 u hu hp2 => ?_
 have hua : u = af := by rw [haf, ← hk, List.getD_eq_getElem?_getD, hu]; rfl
 subst hua
 refine ⟨⟨A, g3⟩, ?_⟩
 conv => cbv
 refine st_load hE cInt hp2 ?_
 refine ⟨⟨A, g3⟩, ?_⟩
 conv => cbv
 refine st_g hr (put_g hb hK3 hna u) fun z w5 ⟨ev, A', c', hg5, hK5⟩ => ?_
 subst ev
 refine ⟨⟨A', g3.trans hg5⟩, ?_⟩
 conv => cbv
 rw [hR]
 refine ⟨A', na + 1, c', ltV n, .nilIface, rfl, ((ext_gr2 hx2 q A).trans g3).trans hg5, hK5, fun _ => ⟨rfl, ?_⟩, fun q => absurd rfl q⟩
 simp only [TreeV]; rfl
theorem check_con (hb : KB w0s ws q bm) (hK : KC w0s ws w q bm (fN names) tys acc TA A tn tc na c) (hna : na ≤ 4000) {k n at_ : Int} {tx : ByteArray} {xs : List ByteArray} {v : Value} {D : Nat → Prop} (hv : TreeV D w (.con k n tx xs at_) v) (hD : ∀ b, D b → b < w.heap.size ∧ b ≠ q.block ∧ blk A ≠ some b) :
  GC Tryz.prog 160 [.pointer (some q), v] w (CkR w0s ws q bm names tys TA tn tc w A D (acc ++ [k]) 0 k (.con k n tx xs at_)) := by
 refine GC.intro (cs := []) Tryz.func160 (by kernel_rfl) fun E R hE hr hR => ?_
 have hv0 := hv
 simp only [TreeV] at hv
 obtain ⟨A0, m0, c0, rfl, _⟩ := hv
 conv => cbv
 refine st_ta hE (taCoCo k n at_ tx A0 m0 c0) ?_
 conv => cbv
 refine st_alloc hr tCoT rfl fun q11 w1 hx1 hq0 => ?_
 conv => cbv
 refine st_putS hr (by kernel_rfl) (hq0 _ (n1_ _)) (add_zero _).symm (by simp) (by simp [Value.oneCell']) fun w2 hw2 hq11 => ?_
 simp only [a1_, a2_, a3_, a4_, a5_, a6_, a7_] at hq11
 have hx2 := hx1.then (hw2.bel (hq0 _ (n1_ _)) hx1.size)
 clear hq0 hw2 hx1
 have hst := fresh_at hb hK hq11
 conv => cbv
 refine draw_s (fun w1 => ∃ A1, Gr2 w2 q A w1 A1) [0, 1, 2, 3, 4, 5] [(6, false), (7, true), (8, true), (9, true)] hr fol (by kernel_rfl) (fun w0 h => ⟨A, ext_gr2 h.ext _ _⟩) fun E' hE' w3 hs3 => ?_
 have g3 := ext_gr2 hs3.ext q A
 have hK3 := (hK.ext hx2).ext hs3.ext
 conv => cbv
 refine sw_loadS hE' tCoT rfl hst ?_
 conv => cbv
 refine sw_mk hE' uCoT ?_
 conv => cbv
 refine sw_fld hE' fCoT0 fun p hp => ?_
 conv => cbv
 refine sw_fld hE' fVal0 fun p2 hp2 => ?_
 conv => cbv
 refine sw_load hE' cInt (fun w1 hw1 => by rw [hp2, hp, add_add]; exact hst w1 hw1 _ _ rfl) ?_
 conv => cbv
 refine st_g hr (put_g hb hK3 hna k) fun z w5 ⟨ev, A', c', hg5, hK5⟩ => ?_
 subst ev
 refine ⟨⟨A', g3.trans hg5⟩, ?_⟩
 conv => cbv
 rw [hR]
 have hg := ((ext_gr2 hx2 q A).trans g3).trans hg5
 refine ⟨A', na + 1, c', _, .nilIface, rfl, hg, hK5, fun _ => ⟨rfl, ?_⟩, fun q => absurd rfl q⟩
 exact TreeV.keep (fun b hb => hg.block b (hD b hb).1 (hD b hb).2.1 (Ne.symm (hD b hb).2.2)) (fun b hb => .inl hb) _ _ hv0
theorem check_nam (hb : KB w0s ws q bm) (hK : KC w0s ws w q bm (fN names) tys acc TA A tn tc na c) (hnt : names.length = tys.length) (hna : na ≤ 4000) {at_ : Int} {tx : ByteArray} (D : Nat → Prop) :
  GC Tryz.prog 160 [.pointer (some q), .iface 353 (.agg ⟨[.string tx, .int .i64 at_]⟩)] w (CkR w0s ws q bm names tys TA tn tc w A D (chk names tys (.nam tx at_) acc).1 (chk names tys (.nam tx at_) acc).2.1 (chk names tys (.nam tx at_) acc).2.2 (resT names (.nam tx at_))) := by
 refine GC.intro (cs := []) Tryz.func160 (by kernel_rfl) fun E R hE hr hR => ?_
 obtain ⟨W, hW⟩ : ∃ W, W = chk names tys (.nam tx at_) acc := ⟨_, rfl⟩
 rw [← hW] at hR
 rw [chk, tyNam] at hW
 have hget := fN_get names tx
 conv => cbv
 refine st_ta hE (taNaCo tx at_) ?_
 conv => cbv
 refine st_ta hE (taNaNa tx at_) ?_
 conv => cbv
 refine st_alloc hr tNaT rfl fun q11 w1 hx1 hq0 => ?_
 conv => cbv
 refine st_putS hr (by kernel_rfl) (hq0 _ (n1_ _)) (add_zero _).symm (by simp) (by simp [Value.oneCell']) fun w2 hw2 hq11 => ?_
 simp only [a1_, a2_, a3_, a4_, a5_, a6_, a7_] at hq11
 have hx2 := hx1.then (hw2.bel (hq0 _ (n1_ _)) hx1.size)
 have hK2 := hK.ext hx2
 clear hq0 hw2 hx1
 obtain ⟨G, hG⟩ : ∃ G, G = mget (fN names) tx := ⟨_, rfl⟩
 conv => cbv
 refine draw_q hr fol (by kernel_rfl) fun E' hE' => ?_
 conv => cbv
 refine st_nil hE' ?_
 conv => cbv
 refine st_fld hE' fCk1 fun p hp => ?_
 conv => cbv
 refine st_load hE' cMp (by rw [hp]; exact hK2.box.at 1 _ rfl) ?_
 conv => cbv
 refine st_fld hE' fNaT0 fun p2 hp2 => ?_
 conv => cbv
 refine st_load hE' cStr (by rw [hp2]; exact hq11.at 0 _ rfl) ?_
 conv => cbv
 refine st_imgot hE' uMp uStr (by kernel_rfl) hK2.map ?_
 rw [← hG]
 rw [← hG] at hget
 have up : ∀ {w3 w' : World} {A' : Option Addr} {t : Tr} {v : Value}, w.heap.size ≤ w3.heap.size → TreeV (DN D w3 w' A') w' t v → TreeV (DN D w w' A') w' t v := fun h ht => TreeV.keep (fun b _ => rfl) (fun b hb => by
  rcases hb with hb | hb
  ·exact .inl hb
  ·exact .inr ⟨by omega, hb.2⟩) _ _ ht
 have hres : resT names (.nam tx at_) = (resN names tx).getD (.nam tx at_) := by rw [resT]
 cases ha : posF attrs tx with
 | some k =>
  rw [ha] at hget hW
  simp only at hget hW
  have hk := (List.getElem?_eq_some_iff.1 (posF_lt ha)).1
  have hk6 : k < 6 := hk
  obtain ⟨kz, hkz⟩ : ∃ kz : Int, kz = (k : Int) := ⟨_, rfl⟩
  rw [← hkz] at hget hW
  subst hget
  have hW : W = (acc ++ [attrF kz], 0, attrF kz) := by rw [hW]; simp
  rw [hW] at hR
  simp only at hR
  have hr2 : resT names (.nam tx at_) = .att kz := by rw [hres, resN, ha, hkz]; rfl
  rw [hr2] at hR
  conv => cbv
  intro w3 hs3
  conv => cbv
  have h23 := hx2.trans hs3.ext
  refine st_g hr (check_att hb (hK.ext h23) hna (n := kz) (by omega) D) fun z w4 ⟨A', na', c', v', e, ev, hg, hK', hc0, hc1⟩ => ?_
  obtain ⟨tk, htk⟩ : ∃ tk, tk = attrF kz := ⟨_, rfl⟩
  rw [← htk] at ev hK' hR
  subst ev
  conv => cbv
  rw [hR]
  exact ⟨A', na', c', v', e, rfl, (ext_gr2 h23 q A).trans hg, hK', fun _ => ⟨(hc0 rfl).1, up h23.size (hc0 rfl).2⟩, fun q => absurd rfl q⟩
 | none =>
  rw [ha] at hget hW
  simp only at hget hW
  cases hn : posF names tx with
  | some k =>
   rw [hn] at hget hW
   simp only [Option.map_some] at hget hW
   have hk := (List.getElem?_eq_some_iff.1 (posF_lt hn)).1
   obtain ⟨kz, hkz⟩ : ∃ kz : Int, kz = (k : Int) := ⟨_, rfl⟩
   rw [← hkz] at hget
   subst hget
   have hW : W = (acc ++ [tys.getD k 0], 0, tys.getD k 0) := by rw [hW]; simp
   rw [hW] at hR
   simp only at hR
   have hr2 : resT names (.nam tx at_) = .lt kz := by rw [hres, resN, ha, hkz]; simp only; rw [hn]; rfl
   rw [hr2] at hR
   conv => cbv
   intro w3 hs3
   conv => cbv
   have h23 := hx2.trans hs3.ext
   have hcl := check_lt hb (hK.ext h23) hna (n := kz) (by omega) D
   rw [show kz.toNat = k by omega] at hcl
   refine st_g hr hcl fun z w4 ⟨A', na', c', v', e, ev, hg, hK', hc0, hc1⟩ => ?_
   obtain ⟨tk, htk⟩ : ∃ tk, tk = tys.getD k 0 := ⟨_, rfl⟩
   rw [← htk] at ev hK' hR
   subst ev
   conv => cbv
   rw [hR]
   exact ⟨A', na', c', v', e, rfl, (ext_gr2 h23 q A).trans hg, hK', fun _ => ⟨(hc0 rfl).1, up h23.size (hc0 rfl).2⟩, fun q => absurd rfl q⟩
  | none =>
   rw [hn] at hget hW
   simp only [Option.map_none] at hget hW
   subst hget
   have hW : W = (acc, 7, 0) := by rw [hW]; simp
   rw [hW] at hR
   simp only at hR
   conv => cbv
   intro w3 hs3
   conv => cbv
   have h23 := hx2.trans hs3.ext
   refine st_f hr (wrong_f (hK.ext h23) 7) fun z w4 hx4 ev => ?_
   subst ev
   conv => cbv
   rw [hR]
   exact ⟨A, na, c, .nilIface, _, rfl, ext_gr2 (h23.trans hx4) q A, hK.ext (h23.trans hx4), (fun q => absurd q (by omega)), fun _ => ⟨rfl, rfl⟩⟩
end
mutual
def goodT (L : Nat) : Tr → Prop
 | .att n => 0 ≤ n ∧ n < 6
 | .lt n => 0 ≤ n ∧ n < L
 | .op o kids _ => (kids.length : Int) = kidsF o ∧ 1 ≤ kids.length ∧ goodTs L kids
 | _ => True
def goodTs (L : Nat) : List Tr → Prop
 | [] => True
 | t :: l => goodT L t ∧ goodTs L l
end
theorem goodTs_at {L : Nat} : ∀ {l : List Tr} {j : Nat} {t : Tr}, goodTs L l → l[j]? = some t → goodT L t
 | u :: l, 0, t, h, e => by simp at e; subst e; simp only [goodTs] at h; exact h.1
 | u :: l, j + 1, t, h, e => by simp only [goodTs] at h; exact goodTs_at h.2 (by simpa using e)
def DX (D : Nat → Prop) (w0 w : World) (ex : List (Option Nat)) (b : Nat) : Prop := D b ∨ (w0.heap.size ≤ b ∧ b < w.heap.size ∧ some b ∉ ex)
theorem dx_keep {D : Nat → Prop} {w0 w w' : World} {ex ex' : List (Option Nat)} {ts : List Tr} {vs : List Value} (h : TreesV (DX D w0 w ex) w ts vs) (hk : ∀ b, DX D w0 w ex b → w'.heap[b]? = w.heap[b]?) (hs : w.heap.size ≤ w'.heap.size) (hx : ∀ b, b < w.heap.size → some b ∉ ex → some b ∉ ex') : TreesV (DX D w0 w' ex') w' ts vs :=
 TreesV.of_get h.len fun i t v h1 h2 => TreeV.keep (fun b hb => hk b hb) (fun b hb => by
  rcases hb with hb | ⟨b1, b2, b3⟩
  ·exact .inl hb
  ·exact .inr ⟨b1, by omega, hx b b2 b3⟩) _ _ (h.get i t v h1 h2)
theorem resTs_len (names : List ByteArray) : ∀ l : List Tr, (resTs names l).length = l.length
 | [] => rfl
 | t :: l => by rw [resTs, a3_, resTs_len names l]; rfl
theorem resTs_at (names : List ByteArray) : ∀ {l : List Tr} {j : Nat} {t : Tr}, l[j]? = some t → (resTs names l)[j]? = some (resT names t)
 | u :: l, 0, t, h => by simp at h; subst h; rw [resTs]; rfl
 | u :: l, j + 1, t, h => by rw [resTs]; simpa using resTs_at names (l := l) (by simpa using h)
theorem pos_drop : ∀ {l : List Tr} {j : Nat} {t : Tr}, l[j]? = some t → (pos (l.drop j)).length = (po t).length + (pos (l.drop (j + 1))).length
 | l, j, t, h => by rw [drop_cons h, pos, List.length_append]
theorem chk_len (names : List ByteArray) (tys : List Int) (t : Tr) (acc : List Int) : (chk names tys t acc).1.length ≤ acc.length + (po t).length ∧ ((chk names tys t acc).2.1 = 0 → (chk names tys t acc).1.length = acc.length + (po t).length) := by
 obtain ⟨h1, h2, _⟩ := chk_walk names tys t acc
 obtain ⟨_, k2, k3, _⟩ := walkL_len names tys (po t) acc
 rw [h1, h2]
 exact ⟨k2, k3⟩
theorem at_apart {B' B2 : Nat} {e e' : TypeId} {k k' : Nat} {w w' : World} {A C X : Option Addr} {m2 c2 mx cx : Nat} {ys zs : List Value} (hX : Own B' e' k' w X mx cx zs) (ha : Apart A X ∧ Apart X A) (hat : blk C = blk A ∨ ∃ b, blk C = some b ∧ w.heap.size ≤ b) (hC : Own B2 e k w' C m2 c2 ys) : Apart C X ∧ Apart X C := by
 obtain rfl | ⟨gc, rfl, _, _⟩ := hC.blk
 ·refine ⟨.inl rfl, ?_⟩
  obtain rfl | ⟨gx, rfl, _, _⟩ := hX.blk
  ·exact .inl rfl
  ·exact .inr (by simp [Eng.blk, Value.ownBlock])
 ·obtain rfl | ⟨gx, rfl, _, hx2⟩ := hX.blk
  ·exact ⟨.inr (by simp [Eng.blk, Value.ownBlock]), .inl rfl⟩
  ·have : gc ≠ gx := by
    rcases hat with e1 | ⟨b, e1, e2⟩
    ·rcases ha.2 with h | h
     ·cases h
     ·rw [← e1] at h
      intro q; apply h; rw [q]
    ·simp [Eng.blk, Value.ownBlock] at e1; omega
   exact ⟨.inr (by simp [Eng.blk, Value.ownBlock]; exact this), .inr (by simp [Eng.blk, Value.ownBlock]; exact Ne.symm this)⟩
structure OI (w0s ws : Nat) (w : World) (q : Addr) (bm : Nat) (names : List ByteArray) (tys acc0 : List Int) (TA A : Option Addr) (tn tc : Nat) (D : Nat → Prop) (o at_ : Int) (kids : List Tr) (A0 : Option Addr) (m c0 : Nat) (q13 q14 : Addr)
  (j : Nat) (w' : World) (At : Option Addr) (na c : Nat) (acc : List Int) (Ad : Option Addr) (cd : Nat) (ks : List Int) (Ak : Option Addr) (ck : Nat) (vs : List Value) : Prop where
 gr : Gr2 w q A w' At
 kc : KC w0s ws w' q bm (fN names) tys acc TA At tn tc na c
 b13 : Box w.heap.size 320 3 w' q13 [.int .i64 o, .slice A0 m c0, .int .i64 at_]
 b14 : Box w.heap.size 320 3 w' q14 [.int .i64 o, .slice Ak j ck, .int .i64 at_]
 rD : Own w.heap.size 3 1 w' Ad j cd (ks.map (.int .i64))
 rK : Own w.heap.size 178 1 w' Ak j ck vs
 q134 : q13.block ≠ q14.block
 aDK : Apart Ad Ak ∧ Apart Ak Ad
 aD3 : Apart Ad (some q13) ∧ Apart (some q13) Ad
 aD4 : Apart Ad (some q14) ∧ Apart (some q14) Ad
 aK3 : Apart Ak (some q13) ∧ Apart (some q13) Ak
 aK4 : Apart Ak (some q14) ∧ Apart (some q14) Ak
 aA3 : Apart At (some q13) ∧ Apart (some q13) At
 aA4 : Apart At (some q14) ∧ Apart (some q14) At
 aAD : Apart At Ad ∧ Apart Ad At
 aAK : Apart At Ak ∧ Apart Ak At
 trs : TreesV (DX D w w' [blk At, some q13.block, some q14.block, blk Ak, blk Ad]) w' ((resTs names kids).take j) vs
 eqn : chks names tys kids acc0 = ((chks names tys (kids.drop j) acc).1, (chks names tys (kids.drop j) acc).2.1, ks ++ (chks names tys (kids.drop j) acc).2.2)
 cnt : na + (pos (kids.drop j)).length + 1 ≤ 4000
section
variable {w0s ws : Nat} {w : World} {q : Addr} {bm : Nat} {names : List ByteArray} {tys acc0 : List Int} {TA A : Option Addr} {tn tc : Nat} {D : Nat → Prop} {o at_ : Int} {kids : List Tr} {A0 : Option Addr} {m c0 : Nat} {q13 q14 : Addr} {j : Nat} {w' w2 : World} {At : Option Addr} {na c : Nat} {acc : List Int} {Ad : Option Addr} {cd : Nat} {ks : List Int} {Ak : Option Addr} {ck : Nat} {vs : List Value}
theorem OI.newq (hb : KB w0s ws q bm) (hw : ws ≤ w.heap.size) {B e k mm cc : Nat} {X : Option Addr} {xs : List Value} (hX : Own w.heap.size e k w' X mm cc xs) : blk X ≠ some q.block := fun e => by
 have := (own_blk hX _ e).1
 have := hb.hq
 omega
theorem OI.kid (hb : KB w0s ws q bm) (hw : ws ≤ w.heap.size) (hD : ∀ b, D b → b < w.heap.size ∧ b ≠ q.block ∧ blk A ≠ some b) (h : OI w0s ws w q bm names tys acc0 TA A tn tc D o at_ kids A0 m c0 q13 q14 j w' At na c acc Ad cd ks Ak ck vs)
  {A2 : Option Addr} {na2 c2 : Nat} {acc2 : List Int} (hg : Gr2 w' q At w2 A2) (hK : KC w0s ws w2 q bm (fN names) tys acc2 TA A2 tn tc na2 c2) :
  Gr2 w q A w2 A2 ∧ Box w.heap.size 320 3 w2 q13 [.int .i64 o, .slice A0 m c0, .int .i64 at_] ∧ Box w.heap.size 320 3 w2 q14 [.int .i64 o, .slice Ak j ck, .int .i64 at_] ∧ Own w.heap.size 3 1 w2 Ad j cd (ks.map (.int .i64)) ∧ Own w.heap.size 178 1 w2 Ak j ck vs ∧
   (Apart A2 (some q13) ∧ Apart (some q13) A2) ∧ (Apart A2 (some q14) ∧ Apart (some q14) A2) ∧ (Apart A2 Ad ∧ Apart Ad A2) ∧ (Apart A2 Ak ∧ Apart Ak A2) ∧ TreesV (DX D w w2 [blk A2, some q13.block, some q14.block, blk Ak, blk Ad]) w2 ((resTs names kids).take j) vs := by
 refine ⟨h.gr.trans hg, hg.own h.b13 (OI.newq (B := 0) hb hw h.b13) h.aA3.2, hg.own h.b14 (OI.newq (B := 0) hb hw h.b14) h.aA4.2, hg.own h.rD (OI.newq (B := 0) hb hw h.rD) h.aAD.2, hg.own h.rK (OI.newq (B := 0) hb hw h.rK) h.aAK.2,
  at_apart h.b13 h.aA3 hg.at_ hK.rA, at_apart h.b14 h.aA4 hg.at_ hK.rA, at_apart h.rD h.aAD hg.at_ hK.rA, at_apart h.rK h.aAK hg.at_ hK.rA, dx_keep h.trs (fun b hb1 => ?_) hg.size fun b h1 h2 => ?_⟩
 ·rcases hb1 with hb1 | ⟨b1, b2, b3⟩
  ·obtain ⟨d1, d2, d3⟩ := hD b hb1
   refine hg.block b (n3_ d1 h.gr.size) d2 fun e => ?_
   rcases h.gr.at_ with e1 | ⟨b0, e1, e2⟩
   ·rw [e1] at e; exact d3 e.symm
   ·rw [e1] at e; cases e; omega
  ·refine hg.block b b2 (fun e => by have := hb.hq; omega) fun e => b3 (by simp [e])
 ·simp only [List.mem_cons, List.not_mem_nil, or_false, not_or] at h2 ⊢
  refine ⟨?_, h2.2⟩
  rcases hg.at_ with e1 | ⟨b0, e1, e2⟩
  ·rw [e1]; exact h2.1
  ·rw [e1]; intro e; cases e; omega
end
theorem trs_app {D : Nat → Prop} {w : World} {ts : List Tr} {vs : List Value} {t : Tr} {v : Value} (h : TreesV D w ts vs) (ht : TreeV D w t v) : TreesV D w (ts ++ [t]) (vs ++ [v]) :=
 TreesV.of_get (by simp [h.len]) fun i u x h1 h2 => by
  have hl := h.len
  rcases Nat.lt_or_ge i ts.length with q | q
  ·rw [List.getElem?_append_left q] at h1
   rw [List.getElem?_append_left (by omega)] at h2
   exact h.get i u x h1 h2
  ·rw [List.getElem?_append_right q] at h1
   rw [List.getElem?_append_right (by omega)] at h2
   have : i - ts.length = 0 := by
    have := (List.getElem?_eq_some_iff.1 h1).1
    simp at this; omega
   rw [this] at h1
   rw [show i - vs.length = 0 by omega] at h2
   simp at h1 h2
   subst h1; subst h2
   exact ht
theorem kc_new {w0s ws : Nat} {w w' w2 : World} {q : Addr} {bm : Nat} {f : List (ByteArray × Value)} {tys acc acc0 : List Int} {TA A At : Option Addr} {tn tc na c na0 c0 : Nat} (hb : KB w0s ws q bm) (hK0 : KC w0s ws w q bm f tys acc0 TA A tn tc na0 c0) (h : KC w0s ws w' q bm f tys acc TA At tn tc na c) {X : Option Addr} (hw : Wr X w' w2) {e : TypeId} {k m cc : Nat} {xs : List Value} (hX : Own w.heap.size e k w' X m cc xs) (hA : Apart At X) : KC w0s ws w2 q bm f tys acc TA At tn tc na c := by
 have h0 := hK0.hs
 have hX1 : ∀ g, g < w.heap.size → blk X ≠ some g := fun g hg e => by have := (own_blk hX _ e).1; omega
 refine ⟨h.box.wr hw (.inr (by rw [hb.eq]; exact (hX1 _ (by have := hb.hq; omega)).symm)), h.map.wr hw (hX1 _ (by have := hb.m; omega)), h.rT.wr hw ?_, h.rA.wr hw hA, h.aTA, n2_ h.hs hw.size⟩
 obtain rfl | ⟨g, rfl, _, hg⟩ := hK0.rT.blk
 ·exact .inl rfl
 ·exact .inr (hX1 g hg).symm
theorem gr2_new {w w' w2 : World} {q : Addr} {A At : Option Addr} (h : Gr2 w q A w' At) (hx : Bel w.heap.size w' w2) : Gr2 w q A w2 At :=
 ⟨hx.os.trans h.os, hx.tape.trans h.tape, hx.output.trans h.output, n2_ h.size hx.size, fun k hk h1 h2 => (hx.block k hk).trans (h.block k hk h1 h2), h.at_⟩
theorem check_g {w0s ws : Nat} {q : Addr} {bm : Nat} {names : List ByteArray} {tys : List Int} {TA : Option Addr} {tn tc : Nat} (hb : KB w0s ws q bm) (hnt : names.length = tys.length) : ∀ (n : Nat) (t : Tr), dep t ≤ n → goodT tys.length t → ∀ (v : Value) (w : World) (D : Nat → Prop) (acc0 : List Int) (A : Option Addr) (na0 c0' : Nat), KC w0s ws w q bm (fN names) tys acc0 TA A tn tc na0 c0' → na0 + (po t).length ≤ 4000 → TreeV D w t v → (∀ b, D b → b < w.heap.size ∧ b ≠ q.block ∧ blk A ≠ some b) →
  GC Tryz.prog 160 [.pointer (some q), v] w (CkR w0s ws q bm names tys TA tn tc w A D (chk names tys t acc0).1 (chk names tys t acc0).2.1 (chk names tys t acc0).2.2 (resT names t)) := by
 intro n
 induction n with
 | zero => intro t h; cases t <;> simp [dep] at h
 | succ n ih =>
  intro t hd hgd v w D acc0 A na0 c0' hK hpo hv hD
  cases t with
  | con k z tx xs at_ =>
   have := check_con hb hK (by simp [po] at hpo; omega) hv hD
   simpa [chk, resT] using this
  | att z =>
   simp only [goodT] at hgd
   simp only [TreeV] at hv
   subst hv
   have := check_att hb hK (by simp [po] at hpo; omega) hgd D
   simpa [chk, resT, atV] using this
  | lt z =>
   simp only [goodT] at hgd
   simp only [TreeV] at hv
   subst hv
   have := check_lt hb hK (by simp [po] at hpo; omega) hgd D
   have e : tyLt tys z = (tys.getD z.toNat 0, 0) := by unfold tyLt; rw [if_neg (by omega)]
   simpa [chk, resT, e, ltV] using this
  | nam tx at_ =>
   simp only [TreeV] at hv
   obtain ⟨rfl, _⟩ := hv
   exact check_nam hb hK hnt (by simp [po] at hpo; omega) D
  | op o kids at_ =>
   simp only [goodT] at hgd
   obtain ⟨hk, hk1, hgk⟩ := hgd
   simp only [TreeV] at hv
   obtain ⟨A0, m, c0, vs, rfl, hvl, hmc, hmm, hcl, hin, hts⟩ := hv
   have hkl := hts.len
   rw [po, List.length_append, List.length_singleton] at hpo
   rw [dep] at hd
   have hw := hK.hs
   have hm3 : m ≤ 3 := by have := kidsF_le o; omega
   refine GC.intro (cs := []) Tryz.func160 (by kernel_rfl) fun E R hE hr hR => ?_
   obtain ⟨CH, hCH⟩ : ∃ CH, CH = chk names tys (.op o kids at_) acc0 := ⟨_, rfl⟩
   obtain ⟨RT, hRT⟩ : ∃ RT, RT = resT names (.op o kids at_) := ⟨_, rfl⟩
   rw [← hCH, ← hRT] at hR
   rw [chk] at hCH
   rw [resT] at hRT
   conv => cbv
   refine st_ta hE (taOpCo o at_ A0 m c0) ?_
   conv => cbv
   refine st_ta hE (taOpNa o at_ A0 m c0) ?_
   conv => cbv
   refine st_ta hE (taOpAt o at_ A0 m c0) ?_
   conv => cbv
   refine st_ta hE (taOpLt o at_ A0 m c0) ?_
   conv => cbv
   refine st_ta hE (taOpOp o at_ A0 m c0) ?_
   conv => cbv
   refine st_alloc hr tOp rfl fun q13 w1 hx1 hq0 => ?_
   conv => cbv
   refine st_putS hr (by kernel_rfl) (hq0 _ (n1_ _)) (add_zero _).symm (by simp) (by simp [Value.oneCell']) fun w2 hw2 h13 => ?_
   simp only [a1_, a2_, a3_, a4_, a5_, a6_, a7_] at h13
   have hx2 := hx1.then (hw2.bel (hq0 _ (n1_ _)) hx1.size)
   have f13 := bx_form h13
   clear hq0 hw2 hx1
   conv => cbv
   (refine st_fld hE fOp0 fun p hp => ?_; (conv => cbv); refine st_load hE cInt (by rw [hp]; exact (h13).at _ _ rfl) ?_; (conv => cbv))
   (refine st_fld hE fOp2 fun p hp => ?_; (conv => cbv); refine st_load hE cInt (by rw [hp]; exact (h13).at _ _ rfl) ?_; (conv => cbv))
   refine st_bOp hE ?_
   conv => cbv
   refine st_alloc hr tOp rfl fun q14 w3 hx3 hq0 => ?_
   conv => cbv
   refine st_putS hr (by kernel_rfl) (hq0 _ (n1_ _)) (add_zero _).symm (by simp) (by simp [Value.oneCell']) fun w4 hw4 h14 => ?_
   simp only [a1_, a2_, a3_, a4_, a5_, a6_, a7_] at h14
   have hx4 := hx3.then (hw4.bel (hq0 _ (n1_ _)) hx3.size)
   have f14 := bx_form h14
   clear hq0 hw4 hx3
   replace h13 := h13.bel hx4
   replace h14 := h14.mono hx2.size
   have hx := hx2.trans hx4
   have hne : q13.block ≠ q14.block := by omega
   have s2 := hx2.size
   conv => cbv
   refine st_none hr tInts fun Ad w5 hx5 hd0 => ?_
   have hAd := hd0 _ (n1_ _)
   have aD3 := (h13.apart hAd (n1_ _)).symm
   have aD4 := (h14.apart hAd (n1_ _)).symm
   have aAD := (hK.ext hx).rA.apart hAd (n1_ _)
   replace hAd := hAd.mono hx.size
   clear hd0
   replace h13 := h13.bel hx5
   replace h14 := h14.bel hx5
   replace hx := hx.trans hx5
   have aA3 : Apart A (some q13) ∧ Apart (some q13) A := hK.rA.apart h13 (n1_ _)
   have aA4 : Apart A (some q14) ∧ Apart (some q14) A := hK.rA.apart h14 (n1_ _)
   conv => cbv
   (refine st_fld hE fOp1 fun p hp => ?_; (conv => cbv); refine st_load hE cTrs (by rw [hp]; exact (h13).at _ _ rfl) ?_; (conv => cbv))
   refine st_len hE sTrs fun x95 hx95 => ?_
   conv => cbv
   have apN : ∀ {X : Option Addr}, (∀ g, blk X = some g → True) → (X = none ∨ blk X ≠ none) → Apart none X ∧ Apart X none := fun _ h => ⟨.inl rfl, h.imp id fun h => by simpa [Eng.blk, Value.ownBlock] using h⟩
   have e13 := f13.2.2
   have e14 := f14.2.2
   refine loop_rulec [] hr (fun (s : Nat × Int × (Option Addr × Nat × Nat × List Int) × (Option Addr × Nat × List Int) × (Option Addr × Nat × List Value)) w' => s.1 ≤ m ∧ s.2.1 = (s.1 : Int) ∧ OI w0s ws w q bm names tys acc0 TA A tn tc D o at_ kids A0 m c0 q13 q14 s.1 w' s.2.2.1.1 s.2.2.1.2.1 s.2.2.1.2.2.1 s.2.2.1.2.2.2 s.2.2.2.1.1 s.2.2.2.1.2.1 s.2.2.2.1.2.2 s.2.2.2.2.1 s.2.2.2.2.2.1 s.2.2.2.2.2.2)
    (fun s => [(0, .pointer (some q)), (13, .pointer (some q13)), (14, .pointer (some q14)), (15, .slice s.2.2.2.1.1 s.1 s.2.2.2.1.2.1), (94, .slice A0 m c0), (95, .int .i64 x95), (96, .int .i64 s.2.1)]) (fun s => m - s.1) (0, 0, (A, na0, c0', acc0), (Ad, 0, []), (none, 0, []))
    (by simp [Fits, lk]) ⟨by simp, by simp, ⟨ext_gr2 hx q A, hK.ext hx, h13, h14, hAd, Own.nil, hne, ⟨?_, .inl rfl⟩, aD3, aD4, ⟨.inl rfl, .inr (by rw [e13]; simp [Eng.blk, Value.ownBlock])⟩, ⟨.inl rfl, .inr (by rw [e14]; simp [Eng.blk, Value.ownBlock])⟩, aA3, aA4, aAD, ⟨?_, .inl rfl⟩, by simp [TreesV], by simp, by simp only [List.drop_zero]; omega⟩⟩ ?_
   ·obtain rfl | ⟨g, rfl, _⟩ := hAd.blk
    ·exact .inl rfl
    ·exact .inr (by simp [Eng.blk, Value.ownBlock])
   ·obtain rfl | ⟨g, rfl, _⟩ := hK.rA.blk
    ·exact .inl rfl
    ·exact .inr (by simp [Eng.blk, Value.ownBlock])
   clear h13 h14 hAd aD3 aD4 aAD aA3 aA4 hx hx5 hx4 hx2
   rintro I hI ⟨j, jj, ⟨At, na, c, acc⟩, ⟨Ad, cd, ks⟩, ⟨Ak, ck, vk⟩⟩ w' ⟨hj, hjj, hO⟩
   simp only at hj hjj hO
   obtain ⟨jk, hjk⟩ : ∃ z, z = jj + 1 := ⟨_, rfl⟩
   conv => cbv
   refine br (fun g => ?_) (fun g => ?_)
   ·have g : j < m := by
     have : jj < x95 := by simpa [hE.cmp, cmpR] using g
     omega
    have ej : E.ar .add .i64 jj 1 = jk := by rw [hE.ar, hjk]; exact wrap_in (by omega) (by omega)
    obtain ⟨u, hu⟩ : ∃ u, vs[j]? = some u := ⟨_, g2_ (by omega)⟩
    obtain ⟨t', ht'⟩ : ∃ t', kids[j]? = some t' := ⟨_, g2_ (by omega)⟩
    have kpD : ∀ b, D b → w'.heap[b]? = w.heap[b]? := fun b hb1 => by
     obtain ⟨d1, d2, d3⟩ := hD b hb1
     exact hO.gr.block b d1 d2 (Ne.symm d3)
    have hcl' : Cells w' A0 vs := cells_keep hcl (by rw [hvl]; exact hin) kpD
    have htu : TreeV D w' t' u := TreeV.keep kpD (fun b h => h) _ _ (hts.get j t' u ht' hu)
    have hD' : ∀ b, D b → b < w'.heap.size ∧ b ≠ q.block ∧ blk At ≠ some b := fun b hb1 => by
     obtain ⟨d1, d2, d3⟩ := hD b hb1
     refine ⟨n3_ d1 hO.gr.size, d2, fun e => ?_⟩
     rcases hO.gr.at_ with e1 | ⟨b0, e1, e2⟩
     ·rw [e1] at e; exact d3 e
     ·rw [e1] at e; cases e; omega
    have hdt := deps_mem (m1_ ht')
    have hpd := pos_drop ht'
    have hcnt := hO.cnt
    have hcl2 := chk_len names tys t' acc
    have heqn := hO.eqn
    rw [drop_cons ht', chks] at heqn
    have hih := ih t' (by omega) (goodTs_at hgk ht') u w' D acc At na c hO.kc (by omega) htu hD'
    obtain ⟨a2, ha2⟩ : ∃ a, a = (chk names tys t' acc).1 := ⟨_, rfl⟩
    obtain ⟨co, hco⟩ : ∃ a, a = (chk names tys t' acc).2.1 := ⟨_, rfl⟩
    obtain ⟨ty, hty⟩ : ∃ a, a = (chk names tys t' acc).2.2 := ⟨_, rfl⟩
    rw [← ha2, ← hco, ← hty] at hih heqn
    rw [← ha2, ← hco] at hcl2
    conv => cbv
    refine st_elem hE sTrs hcl' hvl.symm (by omega) (by omega) fun p v hv hp => ?_
    rw [show jj.toNat = j by omega, hu] at hv
    cases hv
    conv => cbv
    refine st_load hE cTr hp ?_
    conv => cbv
    refine st_g hr hih fun r w6 ⟨A2, na2, c2, v', e, ev, hg, hK2, hc0, hc1⟩ => ?_
    subst ev
    obtain ⟨k1, k2, k3, k4, k5, k6, k7, k8, k9, k10⟩ := hO.kid hb hw hD hg hK2
    conv => cbv
    by_cases hcz : co = 0
    ·obtain ⟨rfl, htv⟩ := hc0 hcz
     rw [if_neg (by simpa using hcz)] at heqn
     refine st_neNil hE Tryz.underlying99 ?_
     conv => cbv
     have hvo := (TreeV.one htv).1
     have hna2 := hK2.len.2
     have hnal := hO.kc.len.2
     have hlen2 := hcl2.2 hcz
     have hsz := hO.gr.size
     have hsz6 := hg.size
     have bl : ∀ g, w'.heap.size ≤ g → blk Ak ≠ some g ∧ blk Ad ≠ some g := fun g hg1 => ⟨fun e => by have := (own_blk hO.rK _ e).2; omega, fun e => by have := (own_blk hO.rD _ e).2; omega⟩
     have f13' := bx_form hO.b13
     have f14' := bx_form hO.b14
     have htr : TreesV (DX D w w6 [blk A2, some q13.block, some q14.block, blk Ak, blk Ad]) w6 ((resTs names kids).take (j + 1)) (vk ++ [v']) := by
      rw [g4_, resTs_at names ht']
      refine trs_app k10 (TreeV.keep (fun b _ => rfl) (fun b hb1 => ?_) _ _ htv)
      rcases hb1 with hb1 | ⟨b1, b2, b3⟩
      ·exact .inl hb1
      ·refine .inr ⟨by omega, b2, ?_⟩
       simp only [List.mem_cons, List.not_mem_nil, or_false, not_or]
       have := bl b b1
       refine ⟨Ne.symm b3, fun e => ?_, fun e => ?_, Ne.symm this.1, Ne.symm this.2⟩
       ·cases e; omega
       ·cases e; omega
     (refine st_fld hE fOp1 fun p hp => ?_; (conv => cbv); refine st_load hE cTrs (by rw [hp]; exact (k3).at _ _ rfl) ?_; (conv => cbv))
     refine st_one hr sTrs rfl hvo fun A7 w7 hx7 hc7 => ?_
     conv => cbv
     refine st_appsG hr sTrs rfl (k5.bel hx7) hc7 rfl (by intro y hy; simp only [List.mem_cons, List.not_mem_nil, or_false] at hy; rw [hy]; exact hvo) (by have := hx7.size; omega) (by omega) (by omega) fun A8 c8 m8 w8 hm8 hw8 ho8 hk8 => ?_
     subst hm8
     have s7 := hx7.size
     have gK : Gro w7 Ak w8 A8 := Gro.app (Ext.refl _) hw8 hk8
     have bl8 : Bel w.heap.size w6 w8 := RowKit.Below.trans (RowKit.Below.mono hx7 (by omega)) (hw8.bel (k5.bel hx7) (by omega))
     have c8' := kc_new hb hK (hK2.ext hx7) hw8 (k5.bel hx7) k9.1
     have b13 := (k2.bel hx7).wr hw8 hO.aK3.2
     have b14 := (k3.bel hx7).wr hw8 hO.aK4.2
     have rD8 := (k4.bel hx7).wr hw8 hO.aDK.1
     have aDK8 := (gro_apart (B := 0) (m := 0) (c := 0) (xs := []) (k4.bel hx7) hO.aDK.symm gK ho8).symm
     have aK38 := gro_apart (B := 0) (m := 0) (c := 0) (xs := []) (k2.bel hx7) hO.aK3 gK ho8
     have aK48 := gro_apart (B := 0) (m := 0) (c := 0) (xs := []) (k3.bel hx7) hO.aK4 gK ho8
     have aAK8 := (gro_apart (B := 0) (m := 0) (c := 0) (xs := []) (hK2.ext hx7).rA k9.symm gK ho8).symm
     have s8 := hw8.size
     conv => cbv
     refine st_fld hE fOp1 fun p3 hp3 => ?_
     conv => cbv
     refine st_put hr zTrs b14 hp3 (by simp) rfl fun w9 hw9 b14' => ?_
     simp only [b4_, b5_] at b14'
     have s9 := hw9.size
     have bl9 : Bel w.heap.size w6 w9 := RowKit.Below.trans bl8 (hw9.bel b14 (by omega))
     have c9' := kc_new hb hK c8' hw9 b14 k7.1
     have b139 := b13.wr hw9 (bx_apart e13 e14 hne)
     have rD9 := rD8.wr hw9 hO.aD4.1
     have rK9 := ho8.wr hw9 aK48.1
     conv => cbv
     refine st_one hr tInts rfl rfl fun A10 w10 hx10 hc10 => ?_
     have s10 := hx10.size
     conv => cbv
     refine st_appsG hr tInts rfl (rD9.bel hx10) hc10 rfl (by simp [Value.oneCell']) (by omega) (by omega) (by omega) fun A11 c11 m11 w11 hm11 hw11 ho11 hk11 => ?_
     subst hm11
     have gD : Gro w10 Ad w11 A11 := Gro.app (Ext.refl _) hw11 hk11
     have bl11 : Bel w.heap.size w6 w11 := RowKit.Below.trans bl9 (RowKit.Below.trans (RowKit.Below.mono hx10 (by omega)) (hw11.bel (rD9.bel hx10) (by omega)))
     have s11 := hw11.size
     conv => cbv
     simp only [ej]
     refine ⟨(j + 1, jk, (A2, na2, c2, a2), (A11, c11, ks ++ [ty]), (A8, c8, vk ++ [v'])), by simp [Fits, lk], hI _ _ ⟨by simp only; omega, by simp only; omega, ⟨gr2_new k1 bl11, kc_new hb hK (c9'.ext hx10) hw11 (rD9.bel hx10) k8.1, (b139.bel hx10).wr hw11 hO.aD3.2, (b14'.bel hx10).wr hw11 hO.aD4.2, by rw [List.map_append]; exact ho11, (rK9.bel hx10).wr hw11 aDK8.2, hne,
      gro_apart (B := 0) (m := 0) (c := 0) (xs := []) (rK9.bel hx10) aDK8 gD ho11, gro_apart (B := 0) (m := 0) (c := 0) (xs := []) (b139.bel hx10) hO.aD3 gD ho11, gro_apart (B := 0) (m := 0) (c := 0) (xs := []) (b14'.bel hx10) hO.aD4 gD ho11, aK38, aK48, k6, k7, (gro_apart (B := 0) (m := 0) (c := 0) (xs := []) (c9'.ext hx10).rA k8.symm gD ho11).symm, aAK8, ?_, ?_, ?_⟩⟩, by simp only; omega⟩
     ·refine dx_keep htr (fun b hb1 => ?_) bl11.size fun b h1 h2 => ?_
      ·rcases hb1 with hb1 | ⟨b1, b2, b3⟩
       ·exact bl11.block b (hD b hb1).1
       ·simp only [List.mem_cons, List.not_mem_nil, or_false, not_or] at b3
        rw [hw11.block b (by omega) b3.2.2.2.2, hx10.block b (by omega), hw9.block b (by omega) (by rw [e14]; exact b3.2.2.1), hw8.block b (by omega) b3.2.2.2.1, hx7.block b b2]
      ·simp only [List.mem_cons, List.not_mem_nil, or_false, not_or] at h2 ⊢
       refine ⟨h2.1, h2.2.1, h2.2.2.1, ?_, ?_⟩
       ·rcases gK.at_ with e1 | ⟨b0, e1, e2⟩
        ·rw [e1]; exact h2.2.2.2.1
        ·rw [e1]; intro e; cases e; omega
       ·rcases gD.at_ with e1 | ⟨b0, e1, e2⟩
        ·rw [e1]; exact h2.2.2.2.2
        ·rw [e1]; intro e; cases e; omega
     ·simp only
      rw [heqn]; simp
     ·simp only
      omega
    ·obtain ⟨rfl, rfl⟩ := hc1 hcz
     rw [if_pos hcz] at heqn
     unfold misV
     refine st_neSome hE Tryz.underlying99 ?_
     conv => cbv
     rw [hR, hCH, heqn]
     simp only
     rw [if_pos hcz]
     exact ⟨A2, na2, c2, .nilIface, _, rfl, k1, hK2, fun z => absurd z hcz, fun _ => ⟨rfl, rfl⟩⟩
   ·have g : j = m := by
     have : ¬ jj < x95 := by simpa [hE.cmp, cmpR] using g
     omega
    have hdr : kids.drop j = [] := List.drop_eq_nil_of_le (by omega)
    have heqn := hO.eqn
    rw [hdr, chks] at heqn
    simp only [a7_] at heqn
    rw [heqn] at hCH
    simp only [ne_eq, not_true_eq_false, if_false] at hCH
    have hna := hO.cnt
    have htr := hO.trs
    rw [g3_ (by rw [resTs_len]; omega)] at htr
    conv => cbv
    (refine st_fld hE fOp0 fun p hp => ?_; (conv => cbv); refine st_load hE cInt (by rw [hp]; exact (hO.b13).at _ _ rfl) ?_; (conv => cbv))
    refine st_f hr (typeOfG_f (Own.ints hO.rD) o (by omega) (by omega)) fun r w6 hx6 ev => ?_
    obtain ⟨tz, htz⟩ : ∃ tz, tz = typG o ks := ⟨_, rfl⟩
    rw [← htz] at ev hCH
    subst ev
    have g6 := hO.gr.trans (ext_gr2 hx6 q At)
    have k6 := hO.kc.ext hx6
    conv => cbv
    refine br (fun g2 => ?_) (fun g2 => ?_)
    ·have g2 : tz = 0 := by simpa [hE.cmp, cmpR] using g2
     rw [if_pos g2] at hCH
     conv => cbv
     refine st_f hr (wrong_f k6 9) fun z w7 hx7 ev => ?_
     subst ev
     conv => cbv
     rw [hR, hCH]
     exact ⟨At, na, c, .nilIface, _, rfl, g6.trans (ext_gr2 hx7 q At), k6.ext hx7, (fun q => absurd q (by simp)), fun _ => ⟨rfl, rfl⟩⟩
    ·have g2 : tz ≠ 0 := by simpa [hE.cmp, cmpR] using g2
     rw [if_neg g2] at hCH
     conv => cbv
     have hb14 := hO.b14.bel hx6
     have hst : ∀ w1, (∃ A1, Gr2 w6 q At w1 A1) → ∀ j' u, ([.int .i64 o, .slice Ak j ck, .int .i64 at_] : List Value)[j']? = some u → w1.cell? (q14.add j') = some u := fun w1 ⟨A1, hg⟩ => (hg.own hb14 (OI.newq (B := 0) hb hw hb14) hO.aA4.2).at
     refine draw_s (fun w1 => ∃ A1, Gr2 w6 q At w1 A1) [0, 1, 2, 3] [(4, false), (5, true), (6, true), (7, true)] hr fol (by kernel_rfl) (fun w0 h => ⟨At, ext_gr2 h.ext _ _⟩) fun E' hE' w7 hs7 => ?_
     have g7 := ext_gr2 hs7.ext q At
     conv => cbv
     refine sw_loadS hE' tOp rfl hst ?_
     conv => cbv
     refine sw_mk hE' uOpT ?_
     conv => cbv
     refine st_g hr (put_g hb (k6.ext hs7.ext) (by omega) tz) fun z w8 ⟨ev, A', c', hg8, hK8⟩ => ?_
     subst ev
     refine ⟨⟨A', g7.trans hg8⟩, ?_⟩
     conv => cbv
     rw [hR, hCH, hRT]
     have g68 := (ext_gr2 hx6 q At).trans (g7.trans hg8)
     have rK8 := g68.own hO.rK (OI.newq (B := 0) hb hw hO.rK) hO.aAK.2
     have hsz := hO.gr.size
     have nb : ∀ b, b < w'.heap.size → blk At ≠ some b → blk A' ≠ some b := fun b b1 b2 e => by
      rcases g68.at_ with e1 | ⟨b0, e1, e2⟩
      ·rw [e1] at e; exact b2 e
      ·rw [e1] at e; cases e; omega
     refine ⟨A', na + 1, c', _, .nilIface, rfl, hO.gr.trans g68, hK8, fun _ => ⟨rfl, ?_⟩, fun q => absurd rfl q⟩
     simp only [TreeV]
     have hvk := hO.rK.len
     refine ⟨Ak, j, ck, vk, rfl, by omega, hO.rK.cap, hO.rK.le, rK8.cells, fun a' ha' hj0 => ?_, ?_⟩
     ·obtain ⟨g, hg1, hg2, hg3⟩ := hO.rK.addr hj0
      rw [ha'] at hg1
      cases hg1
      refine .inr ⟨hg2, n3_ hg3 g68.size, ?_⟩
      refine nb g hg3 fun e => ?_
      rcases hO.aAK.2 with e1 | e1
      ·rw [e1] at ha'; cases ha'
      ·exact e1 (by rw [ha']; exact e.symm)
     ·refine TreesV.keep (fun b hb1 => ?_) (fun b hb1 => ?_) _ _ htr
      ·rcases hb1 with hb1 | ⟨b1, b2, b3⟩
       ·obtain ⟨d1, d2, d3⟩ := hD b hb1
        refine g68.block b (by omega) d2 fun e => ?_
        rcases hO.gr.at_ with e1 | ⟨b0, e1, e2⟩
        ·rw [e1] at e; exact d3 e.symm
        ·rw [e1] at e; cases e; omega
       ·simp only [List.mem_cons, List.not_mem_nil, or_false, not_or] at b3
        exact g68.block b b2 (fun e => by have := hb.hq; omega) b3.1
      ·rcases hb1 with hb1 | ⟨b1, b2, b3⟩
       ·exact .inl hb1
       ·simp only [List.mem_cons, List.not_mem_nil, or_false, not_or] at b3
        exact .inr ⟨b1, n3_ b2 g68.size, nb b b2 (Ne.symm b3.1)⟩
def DT (w0s ws : Nat) (w : World) (A TA : Option Addr) (b : Nat) : Prop := b < w0s ∨ (ws ≤ b ∧ b < w.heap.size ∧ blk A ≠ some b ∧ blk TA ≠ some b)
structure Stp (w0 : World) (ws : Nat) (w : World) (A TA : Option Addr) (w' : World) (A' TA' : Option Addr) : Prop where
 ext : Ext w0 w'
 keep : ∀ b, DT w0.heap.size ws w A TA b → w'.heap[b]? = w.heap[b]? ∧ DT w0.heap.size ws w' A' TA' b
 size : w.heap.size ≤ w'.heap.size
theorem Stp.trans {w0 a b c : World} {ws : Nat} {A TA B TB C TC : Option Addr} (h : Stp w0 ws a A TA b B TB) (k : Stp w0 ws b B TB c C TC) : Stp w0 ws a A TA c C TC :=
 ⟨k.ext, fun x hx => by
  obtain ⟨h1, h2⟩ := h.keep x hx
  obtain ⟨k1, k2⟩ := k.keep x h2
  exact ⟨k1.trans h1, k2⟩, n2_ h.size k.size⟩
theorem stp_ext {w0 w w' : World} {ws : Nat} {A TA : Option Addr} (h0 : Ext w0 w) (hx : Ext w w') : Stp w0 ws w A TA w' A TA :=
 ⟨h0.trans hx, fun b hb => by
  have := h0.size
  rcases hb with hb | ⟨b1, b2, b3⟩
  ·exact ⟨hx.block b (by omega), .inl hb⟩
  ·exact ⟨hx.block b b2, .inr ⟨b1, n3_ b2 hx.size, b3⟩⟩, hx.size⟩
section
variable {w0 w w' : World} {ws : Nat} {q : Addr} {bm : Nat} {f : List (ByteArray × Value)} {tys acc : List Int} {TA A A' : Option Addr} {tn tc na c : Nat}
theorem stp_gr2 (hb : KB w0.heap.size ws q bm) (hK : KC w0.heap.size ws w q bm f tys acc TA A tn tc na c) (h0 : Ext w0 w) (hg : Gr2 w q A w' A') : Stp w0 ws w A TA w' A' TA := by
 refine ⟨hg.bel h0 hb.hq.1 hK.rA hb.le, fun b hb1 => ?_, hg.size⟩
 have hs := h0.size
 have hq := hb.hq
 have hle := hb.le
 rcases hb1 with hb1 | ⟨b1, b2, b3, b4⟩
 ·exact ⟨hg.block b (by omega) (by omega) (fun e => by have := own_blk hK.rA b e.symm; omega), .inl hb1⟩
 ·refine ⟨hg.block b b2 (by omega) (Ne.symm b3), .inr ⟨b1, n3_ b2 hg.size, fun e => ?_, b4⟩⟩
  rcases hg.at_ with e1 | ⟨b0, e1, e2⟩
  ·rw [e1] at e; exact b3 e
  ·rw [e1] at e; cases e; omega
theorem stp_map (hb : KB w0.heap.size ws q bm) (h0 : Ext w0 w) (hw : Wr (mb bm) w w') : Stp w0 ws w A TA w' A TA := by
 have hm := hb.m
 have hs := h0.size
 refine ⟨h0.then ⟨hw.os, hw.tape, hw.output, hw.size, fun k hk => hw.block k (by omega) (by rw [mb_blk]; intro e; cases e; omega)⟩, fun b hb1 => ?_, hw.size⟩
 rcases hb1 with hb1 | ⟨b1, b2, b3⟩
 ·exact ⟨hw.block b (by omega) (by rw [mb_blk]; intro e; cases e; omega), .inl hb1⟩
 ·exact ⟨hw.block b b2 (by rw [mb_blk]; intro e; cases e; omega), .inr ⟨b1, n3_ b2 hw.size, b3⟩⟩
theorem stp_box (hb : KB w0.heap.size ws q bm) (h0 : Ext w0 w) (hw : Wr (some q) w w') : Stp w0 ws w A TA w' A TA := by
 have hm := hb.hq
 have hs := h0.size
 refine ⟨h0.then ⟨hw.os, hw.tape, hw.output, hw.size, fun k hk => hw.block k (by omega) (by rw [hb.eq]; intro e; cases e; omega)⟩, fun b hb1 => ?_, hw.size⟩
 rcases hb1 with hb1 | ⟨b1, b2, b3⟩
 ·exact ⟨hw.block b (by omega) (by rw [hb.eq]; intro e; cases e; omega), .inl hb1⟩
 ·exact ⟨hw.block b b2 (by rw [hb.eq]; intro e; cases e; omega), .inr ⟨b1, n3_ b2 hw.size, b3⟩⟩
theorem stp_lets (hb : KB w0.heap.size ws q bm) (h0 : Ext w0 w) {TA' : Option Addr} (hT : Own ws 3 1 w TA tn tc (tys.map (.int .i64))) (hg : Gro w TA w' TA') : Stp w0 ws w A TA w' A TA' := by
 have hle := hb.le
 have hs := h0.size
 refine ⟨h0.then ⟨hg.wr.os, hg.wr.tape, hg.wr.output, hg.wr.size, fun k hk => hg.wr.block k (by omega) (fun e => by have := own_blk hT k e.symm; omega)⟩, fun b hb1 => ?_, hg.wr.size⟩
 rcases hb1 with hb1 | ⟨b1, b2, b3, b4⟩
 ·exact ⟨hg.wr.block b (by omega) (fun e => by have := own_blk hT b e.symm; omega), .inl hb1⟩
 ·refine ⟨hg.wr.block b b2 (Ne.symm b4), .inr ⟨b1, n3_ b2 hg.wr.size, b3, fun e => ?_⟩⟩
  rcases hg.at_ with e1 | ⟨b0, e1, e2⟩
  ·rw [e1] at e; exact b4 e
  ·rw [e1] at e; cases e; omega
end
theorem fSt0 : Fld Tryz.prog 180 0 0 := ⟨by kernel_rfl⟩
theorem fSt1 : Fld Tryz.prog 180 1 1 := ⟨by kernel_rfl⟩
def ckP (s : PS) (x : CK) (p : PT) : (Int × Int) ⊕ CK := match ckC s x p.c with
 | .inl f => .inl f
 | .inr y => ckG y p.g
theorem ckS_cons (s : PS) (p : PT) (l : List (PS × PT)) (x : CK) : ckS ((s, p) :: l) x = match ckP s x p with | .inl f => .inl f | .inr z => ckS l z := by
 rw [ckS, ckP]
 cases ckC s x p.c with
 | inl f => rfl
 | inr y => rfl
def CKs (w0s ws : Nat) (w : World) (q : Addr) (bm : Nat) (x : CK) (A TA : Option Addr) : Prop := ∃ tn tc na c, KC w0s ws w q bm (fN x.names) x.tys x.acc TA A tn tc na c
def StR (w0 : World) (ws : Nat) (w : World) (q : Addr) (bm : Nat) (x : CK) (A TA : Option Addr) (e : SV) (r : Value) (w' : World) : Prop :=
 ∃ cv gv er, r = .tuple ⟨[.agg ⟨[.int .i64 e.s.k, .string e.s.nm, cv, gv, .int .i64 e.i]⟩, er]⟩ ∧ cv.oneCell' = true ∧ gv.oneCell' = true ∧ Ext w0 w' ∧ match ckP e.s x e.p with
  | .inl f => er = misV f.1 f.2 ∧ f.1 ≠ 0
  | .inr y => er = .nilIface ∧ ∃ A' TA', Stp w0 ws w A TA w' A' TA' ∧ CKs w0.heap.size ws w' q bm y A' TA' ∧ XK y ∧ optV (DT w0.heap.size w.heap.size w' A' TA') w' (e.p.c.map (resT x.names)) cv ∧ optV (DT w0.heap.size w.heap.size w' A' TA') w' (e.p.g.map (resT y.names)) gv
theorem check_w {w0 : World} {ws : Nat} {w : World} {q : Addr} {bm : Nat} (hb : KB w0.heap.size ws q bm) (h0 : Ext w0 w) {x : CK} (hX : XK x) {TA A : Option Addr} {tn tc na c : Nat} (hK : KC w0.heap.size ws w q bm (fN x.names) x.tys x.acc TA A tn tc na c) {t : Tr} {v : Value} (ht : TreeV (fun b => b < w0.heap.size) w t v) (hgd : goodT x.tys.length t) (hn : na + (po t).length ≤ 4000) :
  GC Tryz.prog 160 [.pointer (some q), v] w fun r w' => ∃ A' na' c' v' e ty, r = .tuple ⟨[v', .int .i64 ty, e]⟩ ∧ v'.oneCell' = true ∧ Stp w0 ws w A TA w' A' TA ∧ Gr2 w q A w' A' ∧ KC w0.heap.size ws w' q bm (fN x.names) x.tys (walkL x.names x.tys (po t) x.acc).1 TA A' tn tc na' c' ∧ na' = (walkL x.names x.tys (po t) x.acc).1.length ∧
   ((walkL x.names x.tys (po t) x.acc).2 = 0 → e = .nilIface ∧ ty = (tyT x.names x.tys t).1 ∧ TreeV (DN (fun b => b < w0.heap.size) w w' A') w' (resT x.names t) v') ∧ ((walkL x.names x.tys (po t) x.acc).2 ≠ 0 → e = misV (walkL x.names x.tys (po t) x.acc).2 na') := by
 have hs := h0.size
 have hq := hb.hq
 have hle := hb.le
 have h1 := check_g hb hX.eq (dep t) t (n1_ _) hgd v w (fun b => b < w0.heap.size) x.acc A na c hK hn ht (fun b hb1 => ⟨by omega, by omega, fun e => by have := own_blk hK.rA b e; omega⟩)
 refine ⟨h1.1, h1.2.mono fun e w' he => ?_⟩
 obtain ⟨r, rfl, A', na', c', v', er, ev, hg, hK', hc0, hc1⟩ := he
 obtain ⟨k1, k2, k3⟩ := chk_walk x.names x.tys t x.acc
 rw [k1] at hK'
 rw [k2] at hc0 hc1
 have hst := stp_gr2 hb hK h0 hg
 have hvo : v'.oneCell' = true := by
  by_cases hz : (walkL x.names x.tys (po t) x.acc).2 = 0
  ·exact (TreeV.one (hc0 hz).2).1
  ·rw [(hc1 hz).2]; rfl
 refine ⟨r, rfl, A', na', c', v', er, _, ev, hvo, hst, hg, hK', hK'.len.2.symm, fun hz => ⟨(hc0 hz).1, (k3 hz).2, (hc0 hz).2⟩, fun hz => (hc1 hz).1⟩
theorem stp_new {w0 w w' w2 : World} {ws : Nat} {A TA A' TA' : Option Addr} (h : Stp w0 ws w A TA w' A' TA') (h0 : Ext w0 w) {X : Option Addr} (hw : Wr X w' w2) {e : TypeId} {k m cc : Nat} {xs : List Value} (hX : Own w.heap.size e k w' X m cc xs) : Stp w0 ws w A TA w2 A' TA' := by
 have h0s := h0.size
 have hbel := hw.bel hX h.size
 refine ⟨h.ext.then (RowKit.Below.mono hbel h0s), fun b hb => ?_, n2_ h.size hw.size⟩
 have hbl : b < w.heap.size := by rcases hb with hb | hb <;> omega
 obtain ⟨h1, h2⟩ := h.keep b hb
 refine ⟨(hbel.block b hbl).trans h1, ?_⟩
 rcases h2 with h2 | ⟨b1, b2, b3⟩
 ·exact .inl h2
 ·exact .inr ⟨b1, n3_ b2 hw.size, b3⟩
theorem mget_res (names : List ByteArray) (s : ByteArray) : (mget (fN names) s = none ∧ resN names s = none) ∨ ∃ ty u, mget (fN names) s = some (.iface ty u) ∧ (resN names s).isSome = true := by
 rw [fN_get]
 unfold resN
 cases posF attrs s with
 | some k => exact .inr ⟨_, _, rfl, rfl⟩
 | none => cases posF names s with
  | some k => exact .inr ⟨_, _, rfl, rfl⟩
  | none => exact .inl ⟨rfl, rfl⟩
theorem kc_new2 {w0s ws : Nat} {w w' w2 : World} {q : Addr} {bm : Nat} {f : List (ByteArray × Value)} {tys acc : List Int} {TA At : Option Addr} {tn tc na c : Nat} (hb : KB w0s ws q bm) (h0 : ws ≤ w.heap.size) (h : KC w0s ws w' q bm f tys acc TA At tn tc na c) {X : Option Addr} (hw : Wr X w' w2) {e : TypeId} {k m cc : Nat} {xs : List Value} (hX : Own w.heap.size e k w' X m cc xs) (hA : Apart At X) (hT : Apart TA X) : KC w0s ws w2 q bm f tys acc TA At tn tc na c := by
 have hX1 : ∀ g, g < w.heap.size → blk X ≠ some g := fun g hg e => by have := (own_blk hX _ e).1; omega
 exact ⟨h.box.wr hw (.inr (by rw [hb.eq]; exact (hX1 _ (by have := hb.hq; omega)).symm)), h.map.wr hw (hX1 _ (by have := hb.m; omega)), h.rT.wr hw hT, h.rA.wr hw hA, h.aTA, n2_ h.hs hw.size⟩
def poO : Option Tr → Nat
 | some t => (po t).length
 | none => 0
theorem stmt_g {w0 : World} {ws : Nat} {q : Addr} {bm : Nat} (hb : KB w0.heap.size ws q bm) {w : World} (h0 : Ext w0 w) {x : CK} {A TA : Option Addr} {tn tc na c : Nat} (hK : KC w0.heap.size ws w q bm (fN x.names) x.tys x.acc TA A tn tc na c) (hX : XK x) (hlt : x.tys.length < 600) {e : SV} {last : Bool} (hs : stmtP last e.s) (snm : e.s.nm.size ≤ 9223372036854775807)
  (hmc : e.p.c.isSome = true ↔ 0 ≤ e.s.c) (hmg : e.p.g.isSome = true ↔ 0 ≤ e.s.g) (hc : optV (fun b => b < w0.heap.size) w e.p.c e.cv) (hg : optV (fun b => b < w0.heap.size) w e.p.g e.gv) (hgc : ∀ t, e.p.c = some t → goodT x.tys.length t) (hgg : ∀ t, e.p.g = some t → goodT x.tys.length t) (hcnt : na + (pos (trs e.p)).length ≤ 4000) (htn : ∀ t, e.p.c = some t → (tyT x.names x.tys t).2 = 0 → (tyT x.names x.tys t).1 ≠ 0) :
  GC Tryz.prog 105 [.pointer (some q), .agg ⟨fV e⟩] w (StR w0 ws w q bm x A TA e) := by
 refine GC.intro (cs := [7, 14]) Tryz.func105 (by kernel_rfl) fun E R hE hr hR => ?_
 obtain ⟨⟨k, nm, cc, gg⟩, ⟨pc, pg⟩, cv, gv, ei⟩ := e
 simp only at hs snm hmc hmg hc hg hgc hgg htn
 have hpos : na + poO pc + poO pg ≤ 4000 := by
  unfold trs at hcnt
  cases pc <;> cases pg <;> simp [pos, poO] at hcnt ⊢ <;> omega
 have hcv := hc.one
 have hgv := hg.one
 unfold fV
 simp only
 conv => cbv
 refine st_box hr fun q3 w1 hx1 hb30 => ?_
 have h3 := hb30 _ (n1_ _)
 have f3 := bx_form h3
 clear hb30
 conv => cbv
 refine st_alloc hr tSt rfl fun q4 w2 hx2 hb40 => ?_
 have h4 := hb40 _ (n1_ _)
 have f4 := bx_form h4
 replace h4 := h4.mono hx1.size
 clear hb40
 replace h3 := h3.bel hx2
 have hx := hx1.trans hx2
 have hK2 := hK.ext hx
 have h02 := h0.trans hx
 have s12 := hx1.size
 have s22 := hx2.size
 have hws := hK.hs
 have n34 : q3.block ≠ q4.block := by omega
 conv => cbv
 have e3 := f3.2.2
 have e4 := f4.2.2
 have bx2 : ∀ {wa wb : World} {Aa Ab : Option Addr} {X : Addr} {ty : TypeId} {xs : List Value}, Gr2 wa q Aa wb Ab → Apart (some X) Aa → Box w.heap.size ty 5 wa X xs → Box w.heap.size ty 5 wb X xs := fun hg ha hX => hg.own hX (fun e => by have := (own_blk hX _ e).1; have := hb.hq; omega) ha
 refine cut_rule [] [14] hr (fun (s : Option Addr × Nat × Nat × List Int × Value × Int) wy => Stp w0 ws w A TA wy s.1 TA ∧ KC w0.heap.size ws wy q bm (fN x.names) x.tys s.2.2.2.1 TA s.1 tn tc s.2.1 s.2.2.1 ∧ s.2.1 + poO pg ≤ 4000 ∧
   Box w.heap.size 180 5 wy q3 [.int .i64 k, .string nm, s.2.2.2.2.1, gv, .int .i64 ei] ∧ Box w.heap.size 180 5 wy q4 zSt ∧ ((Apart s.1 (some q3) ∧ Apart (some q3) s.1) ∧ Apart s.1 (some q4) ∧ Apart (some q4) s.1) ∧ s.2.2.2.2.1.oneCell' = true ∧ optV (DX (fun b => b < w0.heap.size) w wy [blk s.1, blk TA, some q3.block, some q4.block]) wy (pc.map (resT x.names)) s.2.2.2.2.1 ∧ optV (fun b => b < w0.heap.size) wy pg gv ∧
   ((pc = none ∧ s.2.2.2.1 = x.acc) ∨ ∃ t, pc = some t ∧ (walkL x.names x.tys (po t) x.acc).2 = 0 ∧ s.2.2.2.1 = (walkL x.names x.tys (po t) x.acc).1 ∧ s.2.2.2.2.2 = (tyT x.names x.tys t).1))
  (fun s => [(0, .pointer (some q)), (3, .pointer (some q3)), (4, .pointer (some q4)), (7, .int .i64 s.2.2.2.2.2)]) (fun J hJ => ?_) ?_
 ·(refine st_fld hE fSt2 fun p hp => ?_; (conv => cbv); refine st_load hE cTr (by rw [hp]; exact (h3).at _ _ rfl) ?_; (conv => cbv))
  have a3 := hK.rA.apart h3 (n1_ _)
  have a4 := hK.rA.apart h4 (n1_ _)
  cases pc with
  | none =>
   rw [show cv = .nilIface from hc] at h3 ⊢
   refine st_neNil hE Tryz.underlying178 ?_
   conv => cbv
   exact ⟨(A, na, c, x.acc, .nilIface, 0), by simp [Fits, lk], hJ _ _ ⟨stp_ext h0 hx, hK2, by simpa [poO] using hpos, h3, h4, ⟨a3, a4⟩, rfl, rfl, hg.keep (fun b hb1 => hx.block b (by have := h0.size; omega)) (fun b h => h), .inl ⟨rfl, rfl⟩⟩⟩
  | some t =>
   obtain ⟨ty1, u1, rfl⟩ := TreeV.form hc
   refine st_neSome hE Tryz.underlying178 ?_
   conv => cbv
   (refine st_fld hE fSt2 fun p hp => ?_; (conv => cbv); refine st_load hE cTr (by rw [hp]; exact (h3).at _ _ rfl) ?_; (conv => cbv))
   have hc2 : TreeV (fun b => b < w0.heap.size) w2 t (.iface ty1 u1) := TreeV.keep (fun b hb1 => hx.block b (by have := h0.size; omega)) (fun b h => h) _ _ hc
   refine st_g hr (check_w hb h02 hX hK2 hc2 (hgc t rfl) (by simp only [poO] at hpos; omega)) fun r w3 ⟨A', na', c', v', er, ty, ev, hvo, hst, hg2, hK', hna', hc0, hc1⟩ => ?_
   subst ev
   have hst0 := (stp_ext h0 hx).trans hst
   obtain ⟨W2, hW2⟩ : ∃ W, W = (walkL x.names x.tys (po t) x.acc).2 := ⟨_, rfl⟩
   rw [← hW2] at hc0 hc1
   have h3' := bx2 hg2 a3.2 h3
   have h4' := bx2 hg2 a4.2 h4
   conv => cbv
   refine st_fld hE fSt2 fun p hp => ?_
   conv => cbv
   refine st_put hr zTr h3' hp (by simp) hvo fun w4 hw4 h3w => ?_
   simp only [b4_, b5_] at h3w
   have b3 := at_apart h3 a3 hg2.at_ hK'.rA
   have b4 := at_apart h4 a4 hg2.at_ hK'.rA
   have hst4 := stp_new hst0 h0 hw4 h3'
   have hK4 := kc_new hb hK hK' hw4 h3' b3.1
   have h4w := h4'.wr hw4 (bx_apart e4 e3 (Ne.symm n34))
   have s23 := hg2.size
   have s34 := hw4.size
   conv => cbv
   by_cases hz : W2 = 0
   ·obtain ⟨rfl, hty, htv⟩ := hc0 hz
    refine st_neNil hE Tryz.underlying99 ?_
    conv => cbv
    refine ⟨(A', na', c', (walkL x.names x.tys (po t) x.acc).1, v', ty), by simp [Fits, lk], hJ _ _ ⟨hst4, hK4, ?_, h3w, h4w, ⟨b3, b4⟩, hvo, ?_, ?_, .inr ⟨t, rfl, by rw [← hW2]; exact hz, rfl, hty⟩⟩⟩
    ·have := (walkL_len x.names x.tys (po t) x.acc).2.1
     have := hK.len.2
     have e1 : poO (some t) = (po t).length := rfl
     rw [e1] at hpos
     simp only
     omega
    ·refine optV.keep (o := some (resT x.names t)) (D := DN (fun b => b < w0.heap.size) w2 w3 A') htv (fun b hb1 => ?_) (fun b hb1 => ?_)
     ·rcases hb1 with hb1 | ⟨d1, d2, d3⟩
      ·exact hw4.block b (by have := h02.size; omega) (by rw [e3]; intro e; cases e; have := h0.size; omega)
      ·exact hw4.block b d2 (by rw [e3]; intro e; cases e; omega)
     ·rcases hb1 with hb1 | ⟨d1, d2, d3⟩
      ·exact .inl hb1
      ·refine .inr ⟨by omega, by omega, ?_⟩
       simp only [List.mem_cons, List.not_mem_nil, or_false, not_or]
       refine ⟨Ne.symm d3, fun e => ?_, fun e => ?_, fun e => ?_⟩
       ·have := (own_blk hK2.rT b e.symm).2; omega
       ·cases e; omega
       ·cases e; omega
    ·refine hg.keep (fun b hb1 => ?_) (fun b h => h)
     have hdt : DT w0.heap.size ws w A TA b := .inl hb1
     exact (hst4.keep b hdt).1
   ·have her := hc1 hz
    have hck : ckP ⟨k, nm, cc, gg⟩ x ⟨some t, pg⟩ = .inl (W2, (na' : Int)) := by
     unfold ckP
     simp only [ckC]
     rw [if_pos (by rw [← hW2]; exact hz)]
     simp only
     rw [hW2, hna']
    rw [her]
    unfold misV
    refine st_neSome hE Tryz.underlying99 ?_
    conv => cbv
    refine st_loadS hE tSt rfl h3w.at ?_
    conv => cbv
    refine st_putS hr (by kernel_rfl) h4w (add_zero _).symm (by simp [zSt]) (by
     intro y hy
     simp only [List.mem_cons, List.not_mem_nil, or_false] at hy
     rcases hy with rfl | rfl | rfl | rfl | rfl <;> first | rfl | assumption) fun w5 hw5 h5 => ?_
    simp only [zSt, a1_, a2_, a3_, a4_, a5_, a6_, a7_] at h5
    conv => cbv
    refine st_cell hr tSt rfl h5.at ?_
    rw [hR]
    refine ⟨v', gv, _, rfl, hvo, hgv, (stp_new hst4 h0 hw5 h4w).ext, ?_⟩
    simp only
    rw [hck]
    exact ⟨rfl, hz⟩
 ·clear h3 h4 hK2 h02
  rintro ⟨A1, na1, c1, acc1, cv1, ty1⟩ w3 ⟨hst, hK1, hn1, h3, h4, ⟨b3, b4⟩, hvo, hcv1, hgv1, hor⟩
  simp only at hst hK1 hn1 h3 h4 b3 b4 hvo hcv1 hgv1 hor
  conv => cbv
  refine cut_rule [] [] hr (fun (s : CK × (Option Addr × Option Addr) × (Nat × Nat × Nat × Nat)) wy => ckC ⟨k, nm, cc, gg⟩ x pc = .inr s.1 ∧ XK s.1 ∧ (∀ t, pg = some t → s.1.tys = x.tys) ∧ Stp w0 ws w A TA wy s.2.1.1 s.2.1.2 ∧ KC w0.heap.size ws wy q bm (fN s.1.names) s.1.tys s.1.acc s.2.1.2 s.2.1.1 s.2.2.1 s.2.2.2.1 s.2.2.2.2.1 s.2.2.2.2.2 ∧ s.2.2.2.2.1 + poO pg ≤ 4000 ∧
    Box w.heap.size 180 5 wy q3 [.int .i64 k, .string nm, cv1, gv, .int .i64 ei] ∧ Box w.heap.size 180 5 wy q4 zSt ∧ ((Apart s.2.1.1 (some q3) ∧ Apart (some q3) s.2.1.1) ∧ Apart s.2.1.1 (some q4) ∧ Apart (some q4) s.2.1.1) ∧ (Apart s.2.1.2 (some q3) ∧ Apart s.2.1.2 (some q4)) ∧ optV (DX (fun b => b < w0.heap.size) w wy [blk s.2.1.1, blk s.2.1.2, some q3.block, some q4.block]) wy (pc.map (resT x.names)) cv1 ∧ optV (fun b => b < w0.heap.size) wy pg gv)
   (fun s => [(0, .pointer (some q)), (3, .pointer (some q3)), (4, .pointer (some q4))]) (fun J hJ => ?_) ?_
  ·have hk1 : k = 1 → ∃ t, pc = some t ∧ (walkL x.names x.tys (po t) x.acc).2 = 0 ∧ acc1 = (walkL x.names x.tys (po t) x.acc).1 ∧ ty1 = (tyT x.names x.tys t).1 := fun hk => by
    rcases hor with ⟨h1, _⟩ | h1
    ·have : 0 ≤ cc := by unfold stmtP at hs; rw [if_pos hk] at hs; exact hs.2.2.1
     have := hmc.2 this
     rw [h1] at this; simp at this
    ·exact h1
   conv => cbv
   refine draw_q hr fol (by kernel_rfl) fun E' hE' => ?_
   conv => cbv
   (refine st_fld hE' fSt0 fun p hp => ?_; (conv => cbv); refine st_load hE' cInt (by rw [hp]; exact (h3).at _ _ rfl) ?_; (conv => cbv))
   refine br (fun g => ?_) (fun g => ?_)
   ·have g : k = 1 := by simpa [hE'.cmp, cmpR] using g
    conv => cbv
    refine st_nil hE' ?_
    conv => cbv
    refine st_fld hE' fCk1 fun p hp => ?_
    conv => cbv
    refine st_load hE' cMp (by rw [hp]; exact hK1.box.at 1 _ rfl) ?_
    conv => cbv
    (refine st_fld hE' fSt1 fun p hp => ?_; (conv => cbv); refine st_load hE' cStr (by rw [hp]; exact (h3).at _ _ rfl) ?_; (conv => cbv))
    refine st_imget hE' uMp uStr (by kernel_rfl) hK1.map ?_
    rcases mget_res x.names nm with ⟨m1, m2⟩ | ⟨mt, mu, m1, m2⟩
    ·rw [m1]
     conv => cbv
     refine st_neNil hE' Tryz.underlying178 ?_
     conv => cbv
     intro w4 hs4
     have hK4 := hK1.ext hs4.ext
     have h34 := h3.bel hs4.ext
     have h44 := h4.bel hs4.ext
     have hst4 := hst.trans (stp_ext hst.ext hs4.ext)
     conv => cbv
     (refine st_fld hE fSt0 fun p hp => ?_; (conv => cbv); refine st_load hE cInt (by rw [hp]; exact (h34).at _ _ rfl) ?_; (conv => cbv))
     refine br (fun g2 => absurd g (by have : k = 2 := by simpa [hE.cmp, cmpR] using g2
                                       omega)) (fun _ => ?_)
     conv => cbv
     (refine st_fld hE fSt0 fun p hp => ?_; (conv => cbv); refine st_load hE cInt (by rw [hp]; exact (h34).at _ _ rfl) ?_; (conv => cbv))
     refine br (fun _ => ?_) (fun g2 => absurd g (by simpa [hE.cmp, cmpR] using g2))
     conv => cbv
     refine draw_t [0, 1, 2, 3, 4, 5, 6, 7, 8, 9, 10, 11, 12] [(13, false)] hr fol (by kernel_rfl) fun E'' hE'' w5 hs5 S hS => ?_
     have hK5 := hK4.ext hs5.ext
     have h35 := h34.bel hs5.ext
     have h45 := h44.bel hs5.ext
     have hst5 := hst4.trans (stp_ext hst4.ext hs5.ext)
     conv => cbv
     refine st_nil hE'' ?_
     conv => cbv
     refine st_fld hE'' fCk1 fun p1 hp1 => ?_
     conv => cbv
     refine st_load hE'' cMp (by rw [hp1]; exact hK5.box.at 1 _ rfl) ?_
     conv => cbv
     refine st_fld hE'' fSt1 fun p2 hp2 => ?_
     conv => cbv
     refine st_load hE'' cStr (by rw [hp2]; exact h35.at 1 _ rfl) ?_
     conv => cbv
     refine st_nil hE'' ?_
     conv => cbv
     refine st_fld hE'' fCk0 fun p3 hp3 => ?_
     conv => cbv
     refine st_load hE'' cInts (by rw [hp3]; exact hK5.box.at 0 _ rfl) ?_
     conv => cbv
     refine st_len hE'' tInts fun xl hxl => ?_
     conv => cbv
     refine st_bLt hE'' ?_
     conv => cbv
     refine st_mk hE'' uLtT ?_
     conv => cbv
     refine st_imput hr uMp uStr hK5.map m1 fun w6 hw6 hm6 => ?_
     obtain ⟨t, rfl, hz0, hac, hty⟩ := hk1 g
     have hlen := hK5.len
     have hXe := hX.eq
     have hm6' : IMap w0.heap.size w6 bm (fN (x.names ++ [nm])) := by
      rw [fN_app, show ((x.names.length : Nat) : Int) = xl by omega]; exact hm6
     have hst6 := hst5.trans (stp_map hb hst5.ext hw6)
     have hbm := hb.m
     have hbq := hb.hq
     have nX : ∀ {X : Option Addr} {ty : TypeId} {kk mm cc' : Nat} {xs : List Value} {wz : World}, Own ws ty kk wz X mm cc' xs → Apart X (mb bm) := fun hX => .inr (fun e => by rw [mb_blk] at e; have := (own_blk hX _ e).1; omega)
     have n3 : Apart (some q3) (mb bm) := .inr (by rw [e3, mb_blk]; intro e; cases e; omega)
     have n4 : Apart (some q4) (mb bm) := .inr (by rw [e4, mb_blk]; intro e; cases e; omega)
     have h36 := h35.wr hw6 n3
     have h46 := h45.wr hw6 n4
     have hK6 : KC w0.heap.size ws w6 q bm (fN (x.names ++ [nm])) x.tys acc1 TA A1 tn tc na1 c1 := ⟨hK5.box.wr hw6 (.inr (by rw [hb.eq, mb_blk]; intro e; exact hb.qm (Option.some.inj e).symm)), hm6', hK5.rT.wr hw6 (nX hK5.rT), hK5.rA.wr hw6 (nX hK5.rA), hK5.aTA, n2_ hK5.hs hw6.size⟩
     conv => cbv
     refine st_nil hE ?_
     conv => cbv
     refine st_fld hE fCk0 fun p4 hp4 => ?_
     conv => cbv
     refine st_load hE cInts (by rw [hp4]; exact hK6.box.at 0 _ rfl) ?_
     conv => cbv
     refine st_one hr tInts rfl rfl fun A7 w7 hx7 hc7 => ?_
     conv => cbv
     have hK7 := hK6.ext hx7
     have hst7 := hst6.trans (stp_ext hst6.ext hx7)
     refine st_appsG hr tInts rfl hK7.rT hc7 rfl (by simp [Value.oneCell']) hK7.hs (by omega) (by omega) fun A8 c8 m8 w8 hm8 hw8 ho8 hk8 => ?_
     subst hm8
     have gT : Gro w7 TA w8 A8 := Gro.app (Ext.refl _) hw8 hk8
     have hst8 := hst7.trans (stp_lets (A := A1) hb hst7.ext hK7.rT gT)
     have bq8 := hK7.box.wr hw8 (own_low hK7.rT hb.hq.2 hb.eq).2
     conv => cbv
     refine st_nil hE ?_
     conv => cbv
     refine st_fld hE fCk0 fun p5 hp5 => ?_
     conv => cbv
     refine st_put hr zInts2 bq8 hp5 (by simp) rfl fun w9 hw9 bq9 => ?_
     simp only [b4_, b5_] at bq9
     have hst9 := hst8.trans (stp_box (A := A1) (TA := A8) hb hst8.ext hw9)
     have h03 := hst.ext
     have stp39 : Stp w0 ws w3 A1 TA w9 A1 A8 := (((((stp_ext h03 hs4.ext).trans (stp_ext hst4.ext hs5.ext)).trans (stp_map hb hst5.ext hw6)).trans (stp_ext hst6.ext hx7)).trans (stp_lets (A := A1) hb hst7.ext hK7.rT gT)).trans (stp_box (A := A1) (TA := A8) hb hst8.ext hw9)
     have ap9 := gro_apart (B := 0) (m := 0) (c := 0) (xs := []) hK7.rA hK7.aTA gT ho8
     have nT : ∀ {X : Addr}, w.heap.size ≤ X.block → blk (some X) = some X.block → Apart (some X) TA := fun hX he => .inr (fun e => by rw [he] at e; have := (own_blk hK.rT _ e.symm).2; omega)
     have hK9 : KC w0.heap.size ws w9 q bm (fN (x.names ++ [nm])) (x.tys ++ [ty1]) acc1 A8 A1 (tn + 1) c8 na1 c1 := ⟨bq9, (hK7.map.wr hw8 (fun e => by have := (own_blk hK7.rT _ e).1; omega)).wr hw9 (by rw [hb.eq]; intro e; exact hb.qm (Option.some.inj e).symm), by rw [List.map_append]; exact ho8.wr hw9 (own_low ho8 hb.hq.2 hb.eq).1, (hK7.rA.wr hw8 hK7.aTA.2).wr hw9 (own_low hK7.rA hb.hq.2 hb.eq).1, ap9, n2_ hK7.hs (n2_ hw8.size hw9.size)⟩
     have g3b : w.heap.size ≤ q3.block := (bx_form h36).1
     have g4b : w.heap.size ≤ q4.block := (bx_form h46).1
     have h39 := ((h36.bel hx7).wr hw8 (nT g3b e3)).wr hw9 (bx_apart e3 hb.eq (by omega))
     have h49 := ((h46.bel hx7).wr hw8 (nT g4b e4)).wr hw9 (bx_apart e4 hb.eq (by omega))
     have hdx : ∀ b, DX (fun b => b < w0.heap.size) w w3 [blk A1, blk TA, some q3.block, some q4.block] b → w9.heap[b]? = w3.heap[b]? ∧ DX (fun b => b < w0.heap.size) w w9 [blk A1, blk A8, some q3.block, some q4.block] b := fun b hb1 => by
      rcases hb1 with hb1 | ⟨d1, d2, d3⟩
      ·exact ⟨(stp39.keep b (.inl hb1)).1, .inl hb1⟩
      ·simp only [List.mem_cons, List.not_mem_nil, or_false, not_or] at d3
       obtain ⟨k1, k2⟩ := stp39.keep b (.inr ⟨by omega, d2, Ne.symm d3.1, Ne.symm d3.2.1⟩)
       refine ⟨k1, .inr ⟨d1, n3_ d2 stp39.size, ?_⟩⟩
       simp only [List.mem_cons, List.not_mem_nil, or_false, not_or]
       rcases k2 with k2 | ⟨_, _, k3, k4⟩
       ·have := h0.size; omega
       ·exact ⟨d3.1, Ne.symm k4, d3.2.2⟩
     have hgn : pg = none := by
      unfold stmtP at hs
      rw [if_pos g] at hs
      cases pg with
      | none => rfl
      | some t2 => have := hmg.1 rfl; simp only at hs; have := hs.2.2.2; omega
     conv => cbv
     exact ⟨(⟨acc1, x.names ++ [nm], x.tys ++ [ty1]⟩, (A1, A8), (tn + 1, c8, na1, c1)), by simp [Fits, lk], hJ _ _ ⟨by
      simp only [ckC]
      rw [if_neg (by simpa using hz0), if_pos g, if_neg (by rw [m2]; simp), hac, hty], ⟨by simp [hX.eq], by simp; omega, fun y hy => by
       rcases List.mem_append.1 hy with hy | hy
       ·exact hX.nz y hy
       ·simp at hy; rw [hy, hty]; exact htn t rfl (walkL_last hz0).1, fun y hy => by
       rcases List.mem_append.1 hy with hy | hy
       ·exact hX.ss y hy
       ·simp at hy; rw [hy]; exact snm⟩, fun t2 ht2 => (by rw [hgn] at ht2; cases ht2), hst9, hK9, hn1, h39, h49, ⟨b3, b4⟩, ⟨(gro_apart (B := 0) (m := 0) (c := 0) (xs := []) (h36.bel hx7) (hK.rT.apart h36 (n1_ _)) gT ho8).1, (gro_apart (B := 0) (m := 0) (c := 0) (xs := []) (h46.bel hx7) (hK.rT.apart h46 (n1_ _)) gT ho8).1⟩, hcv1.keep (fun b h => (hdx b h).1) (fun b h => (hdx b h).2), hgv1.keep (fun b h => (stp39.keep b (.inl h)).1) (fun b h => h)⟩⟩
    ·rw [m1]
     conv => cbv
     refine st_neSome hE' Tryz.underlying178 ?_
     conv => cbv
     intro w4 hs4
     have hK4 := hK1.ext hs4.ext
     have h34 := h3.bel hs4.ext
     have h44 := h4.bel hs4.ext
     have hst4 := hst.trans (stp_ext hst.ext hs4.ext)
     conv => cbv
     refine draw_t [0, 1] [(2, true), (3, false), (4, false)] hr fol (by kernel_rfl) fun E'' hE'' w5 hs5 S hS => ?_
     conv => cbv
     refine st_loadS hE'' tSt rfl (h34.bel hs5.ext).at ?_
     conv => cbv
     obtain ⟨zt, hzt⟩ : ∃ zt : Int, zt = (na1 : Int) - 1 := ⟨_, rfl⟩
     have htop := top_f (hK4.ext hs5.ext) (by omega) 8
     rw [← hzt] at htop
     refine st_f hr htop fun z w6 hx6 ev => ?_
     subst ev
     refine ⟨hS _ hx6, ?_⟩
     conv => cbv
     refine st_putS hr (by kernel_rfl) ((h44.bel hs5.ext).bel hx6) (add_zero _).symm (by simp [zSt]) (by
      intro y hy
      simp only [List.mem_cons, List.not_mem_nil, or_false] at hy
      rcases hy with rfl | rfl | rfl | rfl | rfl <;> first | rfl | assumption) fun w7 hw7 h7 => ?_
     simp only [zSt, a1_, a2_, a3_, a4_, a5_, a6_, a7_] at h7
     conv => cbv
     refine st_cell hr tSt rfl h7.at ?_
     obtain ⟨t, rfl, hz0, hac, hty⟩ := hk1 g
     have hck : ckP ⟨k, nm, cc, gg⟩ x ⟨some t, pg⟩ = .inl (8, (na1 : Int) - 1) := by
      unfold ckP
      simp only [ckC]
      rw [if_neg (by simpa using hz0), if_pos g, if_pos m2]
      simp only
      rw [← hac, hK1.len.2]
     rw [hR]
     refine ⟨cv1, gv, misV 8 zt, rfl, hvo, hgv, (stp_new (hst4.trans (stp_ext hst4.ext (hs5.ext.trans hx6))) h0 hw7 ((h44.bel hs5.ext).bel hx6)).ext, ?_⟩
     simp only
     rw [hck, hzt]
     exact ⟨rfl, by simp⟩
   ·have g : k ≠ 1 := by simpa [hE'.cmp, cmpR] using g
    conv => cbv
    intro w4 hs4
    have hK4 := hK1.ext hs4.ext
    have h34 := h3.bel hs4.ext
    have h44 := h4.bel hs4.ext
    have stp34 : Stp w0 ws w3 A1 TA w4 A1 TA := stp_ext hst.ext hs4.ext
    have hst4 := hst.trans stp34
    have hdx : ∀ b, DX (fun b => b < w0.heap.size) w w3 [blk A1, blk TA, some q3.block, some q4.block] b → w4.heap[b]? = w3.heap[b]? ∧ DX (fun b => b < w0.heap.size) w w4 [blk A1, blk TA, some q3.block, some q4.block] b := fun b hb1 => by
     rcases hb1 with hb1 | ⟨d1, d2, d3⟩
     ·exact ⟨(stp34.keep b (.inl hb1)).1, .inl hb1⟩
     ·exact ⟨hs4.ext.block b d2, .inr ⟨d1, n3_ d2 hs4.ext.size, d3⟩⟩
    have good : ckC ⟨k, nm, cc, gg⟩ x pc = .inr ⟨acc1, x.names, x.tys⟩ → _ := fun hck => hJ (⟨acc1, x.names, x.tys⟩, (A1, TA), (tn, tc, na1, c1)) w4 ⟨hck, ⟨hX.eq, hX.le, hX.nz, hX.ss⟩, fun _ _ => rfl, hst4, hK4, hn1, h34, h44, ⟨b3, b4⟩, ⟨(hK.rT.apart h34 (n1_ _)).1, (hK.rT.apart h44 (n1_ _)).1⟩, hcv1.keep (fun b h => (hdx b h).1) (fun b h => (hdx b h).2), hgv1.keep (fun b h => (stp34.keep b (.inl h)).1) (fun b h => h)⟩
    conv => cbv
    (refine st_fld hE fSt0 fun p hp => ?_; (conv => cbv); refine st_load hE cInt (by rw [hp]; exact (h34).at _ _ rfl) ?_; (conv => cbv))
    refine br (fun g2 => ?_) (fun g2 => ?_)
    ·have g2 : k = 2 := by simpa [hE.cmp, cmpR] using g2
     have hc0 : 0 ≤ cc := by unfold stmtP at hs; rw [if_neg g, if_pos g2] at hs; exact hs.2.2.1
     obtain ⟨t, rfl, hz0, hac, hty⟩ : ∃ t, pc = some t ∧ (walkL x.names x.tys (po t) x.acc).2 = 0 ∧ acc1 = (walkL x.names x.tys (po t) x.acc).1 ∧ ty1 = (tyT x.names x.tys t).1 := by
      rcases hor with ⟨h1, _⟩ | h1
      ·have := hmc.2 hc0
       rw [h1] at this; simp at this
      ·exact h1
     conv => cbv
     refine br (fun g3 => ?_) (fun g3 => ?_)
     ·have g3 : ty1 ≠ 1 := by simpa [hE.cmp, cmpR] using g3
      conv => cbv
      refine draw_t [0, 1] [(2, true), (3, false), (4, false)] hr fol (by kernel_rfl) fun E'' hE'' w5 hs5 S hS => ?_
      conv => cbv
      refine st_loadS hE'' tSt rfl (h34.bel hs5.ext).at ?_
      conv => cbv
      obtain ⟨zt, hzt⟩ : ∃ zt : Int, zt = (na1 : Int) - 1 := ⟨_, rfl⟩
      have htop := top_f (hK4.ext hs5.ext) (by omega) 9
      rw [← hzt] at htop
      refine st_f hr htop fun z w6 hx6 ev => ?_
      subst ev
      refine ⟨hS _ hx6, ?_⟩
      conv => cbv
      refine st_putS hr (by kernel_rfl) ((h44.bel hs5.ext).bel hx6) (add_zero _).symm (by simp [zSt]) (by
       intro y hy
       simp only [List.mem_cons, List.not_mem_nil, or_false] at hy
       rcases hy with rfl | rfl | rfl | rfl | rfl <;> first | rfl | assumption) fun w7 hw7 h7 => ?_
      simp only [zSt, a1_, a2_, a3_, a4_, a5_, a6_, a7_] at h7
      conv => cbv
      refine st_cell hr tSt rfl h7.at ?_
      have hck : ckP ⟨k, nm, cc, gg⟩ x ⟨some t, pg⟩ = .inl (9, (na1 : Int) - 1) := by
       unfold ckP
       simp only [ckC]
       rw [if_neg (by simpa using hz0), if_neg g, if_pos (by rw [← hty]; exact g3)]
       simp only
       rw [← hac, hK1.len.2]
      rw [hR]
      refine ⟨cv1, gv, misV 9 zt, rfl, hvo, hgv, (stp_new (hst4.trans (stp_ext hst4.ext (hs5.ext.trans hx6))) h0 hw7 ((h44.bel hs5.ext).bel hx6)).ext, ?_⟩
      simp only
      rw [hck, hzt]
      exact ⟨rfl, by simp⟩
     ·have g3 : ¬ ty1 ≠ 1 := by simpa [hE.cmp, cmpR] using g3
      conv => cbv
      (refine st_fld hE fSt0 fun p hp => ?_; (conv => cbv); refine st_load hE cInt (by rw [hp]; exact (h34).at _ _ rfl) ?_; (conv => cbv))
      refine br (fun g4 => absurd (by simpa [hE.cmp, cmpR] using g4) g) (fun _ => ?_)
      conv => cbv
      exact ⟨_, by simp [Fits, lk], good (by simp only [ckC]; rw [if_neg (by simpa using hz0), if_neg g, if_neg (by rw [← hty]; exact g3), hac])⟩
    ·have g2 : k ≠ 2 := by simpa [hE.cmp, cmpR] using g2
     conv => cbv
     (refine st_fld hE fSt0 fun p hp => ?_; (conv => cbv); refine st_load hE cInt (by rw [hp]; exact (h34).at _ _ rfl) ?_; (conv => cbv))
     refine br (fun g4 => absurd (by simpa [hE.cmp, cmpR] using g4) g) (fun _ => ?_)
     conv => cbv
     have hpn : pc = none ∧ acc1 = x.acc := by
      rcases hor with h1 | ⟨t, h1, _⟩
      ·exact h1
      ·have : 0 ≤ cc := hmc.1 (by rw [h1]; rfl)
       unfold stmtP at hs
       rw [if_neg g, if_neg g2] at hs
       split at hs
       ·have h5 : cc = -1 := hs.2.2.1
        omega
       ·exact hs.elim
     exact ⟨_, by simp [Fits, lk], good (by rw [hpn.1]; simp only [ckC]; rw [hpn.2])⟩
  ·clear hst hK1 h3 h4 b3 b4 hcv1 hgv1 hor hn1
   rintro ⟨y, ⟨A2, TA2⟩, ⟨tn2, tc2, na2, c2⟩⟩ w5 ⟨hck, hY, hty2, hst, hK5, hn2, h3, h4, ⟨b3, b4⟩, ⟨d3, d4⟩, hcv2, hgv2⟩
   simp only at hck hY hty2 hst hK5 hn2 h3 h4 b3 b4 d3 d4 hcv2 hgv2
   conv => cbv
   (refine st_fld hE fSt3 fun p hp => ?_; (conv => cbv); refine st_load hE cTr (by rw [hp]; exact (h3).at _ _ rfl) ?_; (conv => cbv))
   cases pg with
   | none =>
    have hgn : gv = .nilIface := hgv2
    rw [hgn] at h3 ⊢
    refine st_neNil hE Tryz.underlying178 ?_
    conv => cbv
    refine st_loadS hE tSt rfl h3.at ?_
    conv => cbv
    refine st_putS hr (by kernel_rfl) h4 (add_zero _).symm (by simp [zSt]) (by
     intro y hy
     simp only [List.mem_cons, List.not_mem_nil, or_false] at hy
     rcases hy with rfl | rfl | rfl | rfl | rfl <;> first | rfl | assumption) fun w7 hw7 h7 => ?_
    simp only [zSt, a1_, a2_, a3_, a4_, a5_, a6_, a7_] at h7
    conv => cbv
    refine st_cell hr tSt rfl h7.at ?_
    have hst7 := stp_new hst h0 hw7 h4
    have hck2 : ckP ⟨k, nm, cc, gg⟩ x ⟨pc, none⟩ = .inr y := by unfold ckP; simp only; rw [hck]; rfl
    rw [hR]
    refine ⟨cv1, .nilIface, .nilIface, rfl, hvo, rfl, hst7.ext, ?_⟩
    simp only
    rw [hck2]
    refine ⟨trivial, A2, TA2, hst7, ⟨_, _, _, _, kc_new2 hb hws hK5 hw7 h4 b4.1 d4⟩, hY, hcv2.keep (fun b hb1 => ?_) (fun b hb1 => ?_), rfl⟩
    ·rcases hb1 with hb1 | ⟨d1, d2, d3⟩
     ·exact hw7.block b (by have := hst.ext.size; omega) (by rw [e4]; intro e; cases e; have := h0.size; omega)
     ·simp only [List.mem_cons, List.not_mem_nil, or_false, not_or] at d3
      exact hw7.block b d2 (by rw [e4]; exact d3.2.2.2)
    ·rcases hb1 with hb1 | ⟨d1, d2, d3⟩
     ·exact .inl hb1
     ·simp only [List.mem_cons, List.not_mem_nil, or_false, not_or] at d3
      exact .inr ⟨by omega, n3_ d2 hw7.size, Ne.symm d3.1, Ne.symm d3.2.1⟩
   | some t =>
    obtain ⟨ty3, u3, rfl⟩ := TreeV.form hgv2
    refine st_neSome hE Tryz.underlying178 ?_
    conv => cbv
    (refine st_fld hE fSt3 fun p hp => ?_; (conv => cbv); refine st_load hE cTr (by rw [hp]; exact (h3).at _ _ rfl) ?_; (conv => cbv))
    have e1 : poO (some t) = (po t).length := rfl
    rw [e1] at hn2
    refine st_g hr (check_w hb hst.ext hY hK5 hgv2 (by rw [hty2 t rfl]; exact hgg t rfl) hn2) fun r w6 ⟨A', na', c', v', er, ty, ev, hvo', hst', hg2, hK', hna', hc0, hc1⟩ => ?_
    subst ev
    have hst6 := hst.trans hst'
    obtain ⟨W2, hW2⟩ : ∃ W, W = (walkL y.names y.tys (po t) y.acc).2 := ⟨_, rfl⟩
    rw [← hW2] at hc0 hc1
    have h3' := bx2 hg2 b3.2 h3
    have h4' := bx2 hg2 b4.2 h4
    have b3' := at_apart h3 b3 hg2.at_ hK'.rA
    have b4' := at_apart h4 b4 hg2.at_ hK'.rA
    conv => cbv
    refine st_fld hE fSt3 fun p hp => ?_
    conv => cbv
    refine st_put hr zTr h3' hp (by simp) hvo' fun w7 hw7 h3w => ?_
    simp only [b4_, b5_] at h3w
    have hst7 := stp_new hst6 h0 hw7 h3'
    have hK7 := kc_new2 hb hws hK' hw7 h3' b3'.1 d3
    have h4w := h4'.wr hw7 (bx_apart e4 e3 (Ne.symm n34))
    have s56 := hg2.size
    have s67 := hw7.size
    have hckG : ckP ⟨k, nm, cc, gg⟩ x ⟨pc, some t⟩ = if W2 ≠ 0 then .inl (W2, (na' : Int)) else if (tyT y.names y.tys t).1 ≠ 4 then .inl (9, (na' : Int) - 1) else .inr ⟨(walkL y.names y.tys (po t) y.acc).1, y.names, y.tys⟩ := by
     unfold ckP; simp only; rw [hck]; simp only [ckG]; rw [← hW2, ← hna']
    conv => cbv
    by_cases hz : W2 = 0
    ·obtain ⟨rfl, hty, htv⟩ := hc0 hz
     rw [if_neg (by simpa using hz)] at hckG
     refine st_neNil hE Tryz.underlying99 ?_
     conv => cbv
     refine br (fun g3 => ?_) (fun g3 => ?_)
     ·have g3 : ty ≠ 4 := by simpa [hE.cmp, cmpR] using g3
      rw [if_pos (by rw [← hty]; exact g3)] at hckG
      conv => cbv
      refine draw_t [0, 1] [(2, true), (3, false), (4, false)] hr fol (by kernel_rfl) fun E'' hE'' w8 hs8 S hS => ?_
      conv => cbv
      refine st_loadS hE'' tSt rfl (h3w.bel hs8.ext).at ?_
      conv => cbv
      obtain ⟨zt, hzt⟩ : ∃ zt : Int, zt = (na' : Int) - 1 := ⟨_, rfl⟩
      have hnale : na' ≤ 4001 := by
       have := (walkL_len y.names y.tys (po t) y.acc).2.1
       have := hK5.len.2
       omega
      have htop := top_f (hK7.ext hs8.ext) hnale 9
      rw [← hzt] at htop
      refine st_f hr htop fun z w9 hx9 ev => ?_
      subst ev
      refine ⟨hS _ hx9, ?_⟩
      conv => cbv
      refine st_putS hr (by kernel_rfl) ((h4w.bel hs8.ext).bel hx9) (add_zero _).symm (by simp [zSt]) (by
       intro y hy
       simp only [List.mem_cons, List.not_mem_nil, or_false] at hy
       rcases hy with rfl | rfl | rfl | rfl | rfl <;> first | rfl | assumption) fun w10 hw10 h10 => ?_
      simp only [zSt, a1_, a2_, a3_, a4_, a5_, a6_, a7_] at h10
      conv => cbv
      refine st_cell hr tSt rfl h10.at ?_
      rw [hR]
      refine ⟨cv1, v', misV 9 zt, rfl, hvo, hvo', (stp_new (hst7.trans (stp_ext hst7.ext (hs8.ext.trans hx9))) h0 hw10 ((h4w.bel hs8.ext).bel hx9)).ext, ?_⟩
      simp only
      rw [hckG, hzt]
      exact ⟨rfl, by simp⟩
     ·have g3 : ¬ ty ≠ 4 := by simpa [hE.cmp, cmpR] using g3
      rw [if_neg (by rw [← hty]; exact g3)] at hckG
      conv => cbv
      refine st_loadS hE tSt rfl h3w.at ?_
      conv => cbv
      refine st_putS hr (by kernel_rfl) h4w (add_zero _).symm (by simp [zSt]) (by
       intro y hy
       simp only [List.mem_cons, List.not_mem_nil, or_false] at hy
       rcases hy with rfl | rfl | rfl | rfl | rfl <;> first | rfl | assumption) fun w8 hw8 h8 => ?_
      simp only [zSt, a1_, a2_, a3_, a4_, a5_, a6_, a7_] at h8
      conv => cbv
      refine st_cell hr tSt rfl h8.at ?_
      have hst8 := stp_new hst7 h0 hw8 h4w
      rw [hR]
      refine ⟨cv1, v', .nilIface, rfl, hvo, hvo', hst8.ext, ?_⟩
      simp only
      rw [hckG]
      have s78 := hw8.size
      have hs05 := hst.ext.size
      have h0s := h0.size
      refine ⟨trivial, A', TA2, hst8, ⟨_, _, _, _, kc_new2 hb hws hK7 hw8 h4w b4'.1 d4⟩, ⟨hY.eq, hY.le, hY.nz, hY.ss⟩, hcv2.keep (fun b hb1 => ?_) (fun b hb1 => ?_), TreeV.keep (fun b hb1 => ?_) (fun b hb1 => ?_) _ _ htv⟩
      ·have k1 : b < w5.heap.size ∧ b ≠ q3.block ∧ b ≠ q4.block ∧ DT w0.heap.size ws w5 A2 TA2 b := by
        rcases hb1 with hb1 | ⟨d1, d2, d5⟩
        ·exact ⟨by omega, by omega, by omega, .inl hb1⟩
        ·simp only [List.mem_cons, List.not_mem_nil, or_false, not_or] at d5
         exact ⟨d2, fun e => d5.2.2.1 (by rw [e]), fun e => d5.2.2.2 (by rw [e]), .inr ⟨by omega, d2, Ne.symm d5.1, Ne.symm d5.2.1⟩⟩
       rw [hw8.block b (by omega) (by rw [e4]; intro e; cases e; exact k1.2.2.1 rfl), hw7.block b (by omega) (by rw [e3]; intro e; cases e; exact k1.2.1 rfl)]
       exact (hst'.keep b k1.2.2.2).1
      ·rcases hb1 with hb1 | ⟨d1, d2, d5⟩
       ·exact .inl hb1
       ·simp only [List.mem_cons, List.not_mem_nil, or_false, not_or] at d5
        rcases (hst'.keep b (.inr ⟨by omega, d2, Ne.symm d5.1, Ne.symm d5.2.1⟩)).2 with k2 | ⟨k2, k3, k4⟩
        ·exact .inl k2
        ·exact .inr ⟨d1, by omega, k4⟩
      ·rcases hb1 with hb1 | ⟨d1, d2, d5⟩
       ·rw [hw8.block b (by omega) (by rw [e4]; intro e; cases e; omega), hw7.block b (by omega) (by rw [e3]; intro e; cases e; omega)]
       ·have := hst.size
        have l3 := (bx_form h3).2.1
        have l4 := (bx_form h4).2.1
        rw [hw8.block b (by omega) (by rw [e4]; intro e; cases e; omega), hw7.block b (by omega) (by rw [e3]; intro e; cases e; omega)]
      ·rcases hb1 with hb1 | ⟨d1, d2, d5⟩
       ·exact .inl hb1
       ·have := hst.size
        exact .inr ⟨by omega, by omega, d5, fun e => by have := (own_blk hK5.rT b e).2; omega⟩
    ·have her := hc1 hz
     rw [if_pos hz] at hckG
     rw [her]
     unfold misV
     refine st_neSome hE Tryz.underlying99 ?_
     conv => cbv
     refine st_loadS hE tSt rfl h3w.at ?_
     conv => cbv
     refine st_putS hr (by kernel_rfl) h4w (add_zero _).symm (by simp [zSt]) (by
      intro y hy
      simp only [List.mem_cons, List.not_mem_nil, or_false] at hy
      rcases hy with rfl | rfl | rfl | rfl | rfl <;> first | rfl | assumption) fun w8 hw8 h8 => ?_
     simp only [zSt, a1_, a2_, a3_, a4_, a5_, a6_, a7_] at h8
     conv => cbv
     refine st_cell hr tSt rfl h8.at ?_
     rw [hR]
     refine ⟨cv1, v', _, rfl, hvo, hvo', (stp_new hst7 h0 hw8 h4w).ext, ?_⟩
     simp only
     rw [hckG]
     exact ⟨rfl, hz⟩
def leafT (l : Nat) (p : PN) : Prop := if p.o = 6 then p.tx = ⟨#[]⟩ ∧ p.xs = [] ∧ 0 ≤ p.z ∧ p.z < 6 else if p.o = 7 then p.tx = ⟨#[]⟩ ∧ p.xs = [] ∧ 0 ≤ p.z ∧ p.z < l else cOK p
theorem cOK_o {p : PN} (h : cOK p) : p.o = 1 ∨ p.o = 2 ∨ p.o = 3 ∨ p.o = 4 := by
 unfold cOK at h
 rcases h with h | h | h | h
 ·exact .inl h.1
 ·exact .inr (.inl h.1)
 ·exact .inr (.inr (.inl h.1))
 ·exact .inr (.inr (.inr h.1))
theorem nodeOK_mono {lf lf' : PN → Prop} (h : ∀ p, lf p → lf' p) {p : PN} (hp : nodeOK lf p) : nodeOK lf' p := ⟨fun q => h p (hp.1 q), hp.2⟩
def topK : Tr → Prop
 | .con k _ _ _ _ => k ≠ 0
 | .lt n => 0 ≤ n
 | _ => True
theorem topK_nz {names : List ByteArray} {tys : List Int} {t : Tr} (ht : topK t) (he : names.length = tys.length) (hn : ∀ y ∈ tys, y ≠ 0) (hc : (tyT names tys t).2 = 0) : (tyT names tys t).1 ≠ 0 := by
 have getnz : ∀ i : Nat, i < tys.length → tys.getD i 0 ≠ 0 := fun i hi => by
  rw [List.getD_eq_getElem?_getD, g2_ hi]
  exact hn _ (List.getElem_mem hi)
 have ha : ∀ n : Int, attrF n ≠ 0 := fun n => by unfold attrF; (repeat' split) <;> omega
 cases t with
 | con k n tx xs at_ => exact ht
 | att n => exact ha n
 | lt n =>
  simp only [topK] at ht
  simp only [tyT, tyLt] at hc ⊢
  split at hc
  ·cases hc
  ·rename_i h8; rw [if_neg h8]; exact getnz _ (by omega)
 | nam tx at_ =>
  simp only [tyT, tyNam] at hc ⊢
  split at hc
  ·exact ha _
  ·rename_i hno
   split at hc
   ·cases hc
   ·rename_i i hi
    have := (List.getElem?_eq_some_iff.1 (posF_lt hi)).1
    exact getnz i (by omega)
 | op o kids at_ =>
  rw [tyT] at hc ⊢
  split at hc
  ·rename_i h; exact absurd hc h
  ·rename_i h
   rw [if_neg h]
   split at hc
   ·cases hc
   ·rename_i h2; rw [if_neg h2]; exact h2
theorem ists_good {ns : List PN} {lf : PN → Prop} {L : Nat} (h6 : ∀ p, lf p → p.o = 6 → 0 ≤ p.z ∧ p.z < 6) (h7 : ∀ p, lf p → p.o = 7 → 0 ≤ p.z ∧ p.z < L) {a b : Nat} {ks : List Int} {ts : List Tr} (h : IsTs ns a b ks ts) : (∀ q p, a ≤ q → q < b → ns[q]? = some p → nodeOK lf p) → goodTs L ts ∧ ∀ t ∈ ts, topK t := by
 induction h with
 | nil a => intro _; exact ⟨by simp only [goodTs], by simp⟩
 | @cons a b k p ks kids ts hp hk h1 h2 i1 i2 =>
  intro hok
  have e1 := h1.le
  have e2 := h2.le
  obtain ⟨g1, g2⟩ := i1 fun q p h1 h2 => hok q p h1 (by omega)
  obtain ⟨g3, g4⟩ := i2 fun q p h1 h2 => hok q p (by omega) h2
  have hn := hok k p e1 (by omega) hp
  have hkl := h1.len
  have hT : goodT L (mkT p k kids) ∧ topK (mkT p k kids) := by
   unfold mkT
   split
   ·rename_i h0
    have hl := hn.1 h0
    unfold leafF
    split
    ·simp only [goodT, topK]; trivial
    ·split
     ·rename_i h; simp only [goodT, topK]; exact ⟨h6 p hl h, trivial⟩
     ·split
      ·rename_i h; simp only [goodT, topK]; exact ⟨h7 p hl h, (h7 p hl h).1⟩
      ·simp only [goodT, topK]
       refine ⟨trivial, ?_⟩
       unfold knd; (repeat' split) <;> omega
   ·rename_i h0
    simp only [goodT, topK]
    exact ⟨⟨by omega, by omega, g1⟩, trivial⟩
  refine ⟨by simp only [goodTs]; exact ⟨hT.1, g3⟩, fun t ht => ?_⟩
  rcases List.mem_cons.1 ht with rfl | ht
  ·exact hT.2
  ·exact g4 t ht
def GoodS (L : Nat) : List (PS × PT) → Prop
 | [] => True
 | (s, p) :: l => stmtP l.isEmpty s ∧ ((p.c.isSome = true ↔ 0 ≤ s.c) ∧ (p.g.isSome = true ↔ 0 ≤ s.g)) ∧ (∀ t ∈ trs p, goodT L t ∧ topK t) ∧ GoodS (if s.k = 1 then L + 1 else L) l
theorem goodTs_mem {L : Nat} : ∀ {l : List Tr} {t : Tr}, goodTs L l → t ∈ l → goodT L t
 | u :: l, t, h, e => by
  simp only [goodTs] at h
  rcases List.mem_cons.1 e with rfl | e
  ·exact h.1
  ·exact goodTs_mem h.2 e
theorem runS_full {ns : List PN} {lp : Nat → PN → Prop} (h6 : ∀ l p, lp l p → p.o = 6 → 0 ≤ p.z ∧ p.z < 6) (h7 : ∀ l p, lp l p → p.o = 7 → 0 ≤ p.z ∧ p.z < l) : ∀ (l : List PS) {i j lets : Nat} {acc acc' : List PT}, runS ns lp l i lets acc = some (acc', j) →
  ∃ pts, acc' = acc ++ pts ∧ Match l pts ∧ IsTs ns i j (roots l) (pts.flatMap trs) ∧ (∀ t ∈ pts.flatMap trs, dep t ≤ 64) ∧ GoodS lets (l.zip pts)
 | [], i, j, lets, acc, acc', h => by
  rw [runS] at h
  cases h
  exact ⟨[], by simp, ⟨rfl, by simp⟩, by simpa [roots] using IsTs.nil i, by simp, trivial⟩
 | s :: l, i, j, lets, acc, acc', h => by
  rw [runS] at h
  cases hm : stmtM ns (lp lets) l.isEmpty i s with
  | none => rw [hm] at h; cases h
  | some x =>
   obtain ⟨p, m⟩ := x
   rw [hm] at h
   simp only at h
   obtain ⟨a1, a2, a3, a4, a5⟩ := stmtM_iff.1 hm
   obtain ⟨pts, b1, b2, b3, b4, b5⟩ := runS_full h6 h7 l h
   obtain ⟨g1, g2⟩ := ists_good (h6 lets) (h7 lets) a3 a5
   have hg : p.g.isSome = true ↔ 0 ≤ s.g := by
    have hl := a3.len
    obtain ⟨c, g⟩ := p
    simp only at a2
    rw [rootS_eq, List.length_append] at hl
    unfold rootO at hl
    simp only [trs] at hl
    by_cases e : 0 ≤ s.c
    ·rw [if_pos e] at hl
     cases c with
     | none => exact absurd (a2.2 e) (by simp)
     | some t =>
      by_cases e2 : 0 ≤ s.g
      ·rw [if_pos e2] at hl
       cases g with
       | none => simp at hl
       | some t2 => simp [e2]
      ·rw [if_neg e2] at hl
       cases g with
       | none => simp; omega
       | some t2 => simp at hl
    ·rw [if_neg e] at hl
     cases c with
     | some t => exact absurd (a2.1 rfl) e
     | none =>
      by_cases e2 : 0 ≤ s.g
      ·rw [if_pos e2] at hl
       cases g with
       | none => simp at hl
       | some t2 => simp [e2]
      ·rw [if_neg e2] at hl
       cases g with
       | none => simp; omega
       | some t2 => simp at hl
   have ez : (l.zip pts).isEmpty = l.isEmpty := by
    have := b2.1
    cases l with
    | nil => rfl
    | cons x l => cases pts with
     | nil => simp at this
     | cons y pts => rfl
   refine ⟨p :: pts, by rw [b1]; simp, match_cons.2 ⟨⟨a2, hg⟩, b2⟩, ?_, ?_, ?_⟩
   ·rw [roots_cons, List.flatMap_cons]; exact a3.append b3
   ·intro t ht
    rw [List.flatMap_cons] at ht
    rcases List.mem_append.1 ht with ht | ht
    ·exact a4 t ht
    ·exact b4 t ht
   ·rw [List.zip_cons_cons, GoodS]
    exact ⟨by rw [ez]; exact a1, ⟨a2, hg⟩, fun t ht => ⟨goodTs_mem g1 ht, g2 t ht⟩, b5⟩
theorem leafU_6 (l : Nat) (p : PN) (h : leafU p) (h6 : p.o = 6) : 0 ≤ p.z ∧ p.z < 6 := by
 unfold leafU at h; rw [if_neg (by omega)] at h
 have := cOK_o h.1; omega
theorem leafU_7 (l : Nat) (p : PN) (h : leafU p) (h7 : p.o = 7) : 0 ≤ p.z ∧ p.z < l := by
 unfold leafU at h; rw [if_neg (by omega)] at h
 have := cOK_o h.1; omega
theorem walkL_all {names : List ByteArray} {tys : List Int} : ∀ {l : List Tr} {acc : List Int}, (walkL names tys l acc).2 = 0 → ∀ u ∈ l, (tyT names tys u).2 = 0
 | [], acc, _ => by simp
 | t :: l, acc, h => by
  rw [walkL] at h
  split at h
  ·rename_i q; exact absurd h q
  ·rename_i q
   intro u hu
   rcases List.mem_cons.1 hu with rfl | hu
   ·exact Classical.byContradiction q
   ·exact walkL_all h u hu
theorem ckC_some {s : PS} {x y : CK} {t : Tr} (h : ckC s x (some t) = .inr y) : (walkL x.names x.tys (po t) x.acc).2 = 0 ∧ (s.k ≠ 1 → y.tys = x.tys) ∧ y.tys.length = (if s.k = 1 then x.tys.length + 1 else x.tys.length) := by
 simp only [ckC] at h
 split at h
 ·cases h
 ·rename_i q
  refine ⟨Classical.byContradiction q, ?_⟩
  split at h
  ·rename_i e
   split at h
   ·cases h
   ·cases h; exact ⟨fun z => absurd e z, by rw [if_pos e]; simp⟩
  ·rename_i e
   split at h
   ·cases h
   ·cases h; exact ⟨fun _ => rfl, by rw [if_neg e]⟩
theorem ckG_some {x y : CK} {t : Tr} (h : ckG x (some t) = .inr y) : (walkL x.names x.tys (po t) x.acc).2 = 0 ∧ y.tys = x.tys := by
 simp only [ckG] at h
 split at h
 ·cases h
 ·rename_i q
  split at h
  ·cases h
  ·cases h; exact ⟨Classical.byContradiction q, rfl⟩
def resS : List (PS × PT) → CK → List PT
 | [], _ => []
 | (s, p) :: l, x => match ckP s x p with
  | .inl _ => []
  | .inr y => ⟨p.c.map (resT x.names), p.g.map (resT y.names)⟩ :: resS l y
def spOf (es : List SV) : List (PS × PT) := es.map fun e => (e.s, e.p)
theorem spOf_drop {es : List SV} {j : Nat} {e : SV} (h : es[j]? = some e) : spOf (es.drop j) = (e.s, e.p) :: spOf (es.drop (j + 1)) := by
 rw [drop_cons h]; rfl
def poS (es : List SV) : Nat := (pos (es.flatMap fun e => trs e.p)).length
theorem pos_append : ∀ (l r : List Tr), pos (l ++ r) = pos l ++ pos r
 | [], r => rfl
 | t :: l, r => by rw [List.cons_append, pos, pos, pos_append l r, List.append_assoc]
theorem poS_drop {es : List SV} {j : Nat} {e : SV} (h : es[j]? = some e) : poS (es.drop j) = (pos (trs e.p)).length + poS (es.drop (j + 1)) := by
 rw [drop_cons h]; unfold poS; rw [List.flatMap_cons, pos_append, List.length_append]
structure SVs (w : World) (A : Option Addr) (m c : Nat) (es : List SV) : Prop where
 len : es.length = m
 cap : m ≤ c
 cells : Cells w A (es.flatMap fV)
 trees : ES (fun b => b < w.heap.size) w es
theorem SVs.ext {w w' : World} {A : Option Addr} {m c : Nat} {es : List SV} (h : SVs w A m c es) (hx : Ext w w') : SVs w' A m c es :=
 ⟨h.len, h.cap, h.cells.ext hx, h.trees.keep (fun b hb => hx.block b hb) (fun b hb => n3_ hb hx.size)⟩
theorem LaidS.svs {w : World} {A : Option Addr} {m c : Nat} {sv : List PS} {acc : List PT} (h : LaidS w A m c sv acc) : ∃ es, SVs w A m c es ∧ spOf es = sv.zip acc ∧ es.map (·.p) = acc ∧ es.map (·.s) = sv := by
 obtain ⟨es, h1, h2, h3, h4, h5, h6, h7⟩ := h
 have hs : es.map (·.s) = sv := by
  apply List.ext_getElem?
  intro i
  rw [List.getElem?_map]
  cases hi : es[i]? with
  | none =>
   have := List.getElem?_eq_none_iff.1 hi
   rw [List.getElem?_eq_none (by omega)]; rfl
  | some e => rw [(h6 i e hi).2]; rfl
 refine ⟨es, ⟨h1, h3, h5, h7⟩, ?_, h4, hs⟩
 rw [← hs, ← h4]
 unfold spOf
 rw [List.zip_map']
theorem kc_wr {w0s ws : Nat} {w w2 : World} {q : Addr} {bm : Nat} {f : List (ByteArray × Value)} {tys acc : List Int} {TA At : Option Addr} {tn tc na c : Nat} (hb : KB w0s ws q bm) (h : KC w0s ws w q bm f tys acc TA At tn tc na c) {X : Option Addr} (hw : Wr X w w2) {e : TypeId} {k m cc : Nat} {xs : List Value} (hX : Own ws e k w X m cc xs) (hA : Apart At X) (hT : Apart TA X) : KC w0s ws w2 q bm f tys acc TA At tn tc na c := by
 have hX1 : ∀ g, g < ws → blk X ≠ some g := fun g hg e => by have := (own_blk hX _ e).1; omega
 exact ⟨h.box.wr hw (.inr (by rw [hb.eq]; exact (hX1 _ (by have := hb.hq; omega)).symm)), h.map.wr hw (hX1 _ (by have := hb.m; omega)), h.rT.wr hw hT, h.rA.wr hw hA, h.aTA, n2_ h.hs hw.size⟩
theorem apart_of {ws : Nat} {e e' : TypeId} {k k' : Nat} {w w' : World} {A X : Option Addr} {m c mx cx : Nat} {xs ys : List Value} (hA : Own ws e k w A m c xs) (hX : Own ws e' k' w' X mx cx ys) (h : ∀ b, blk X = some b → blk A ≠ some b) : Apart A X ∧ Apart X A := by
 obtain rfl | ⟨g, rfl, _, _⟩ := hA.blk
 ·refine ⟨.inl rfl, ?_⟩
  obtain rfl | ⟨gx, rfl, _, _⟩ := hX.blk
  ·exact .inl rfl
  ·exact .inr (by simp [Eng.blk, Value.ownBlock])
 ·obtain rfl | ⟨gx, rfl, _, _⟩ := hX.blk
  ·exact ⟨.inr (by simp [Eng.blk, Value.ownBlock]), .inl rfl⟩
  ·have := h gx rfl
   exact ⟨.inr (by intro q; exact this q), .inr (by intro q; exact this q.symm)⟩
theorem own_nap {ws : Nat} {e : TypeId} {k : Nat} {w : World} {A X : Option Addr} {m c : Nat} {xs : List Value} (hA : Own ws e k w A m c xs) (h : Apart X A) {b : Nat} (hb : blk X = some b) : blk A ≠ some b := by
 rcases h with rfl | h
 ·simp [Eng.blk, Value.ownBlock] at hb
 ·intro e; exact h (by rw [hb, e])
theorem stp_row {w0 : World} {ws : Nat} {w w' : World} {A TA A' TA' B : Option Addr} {e : TypeId} {k m c : Nat} {xs : List Value} (hst : Stp w0 ws w A TA w' A' TA') (ho : Own ws e k w B m c xs) {na ca nt ct na' ca' nt' ct' : Nat} {la lt la' lt' : List Value} {ea et ea' et' : TypeId}
  (hA : Own ws ea 1 w A na ca la) (hT : Own ws et 1 w TA nt ct lt) (hA' : Own ws ea' 1 w' A' na' ca' la') (hT' : Own ws et' 1 w' TA' nt' ct' lt') (h0 : w0.heap.size ≤ ws) (a1 : Apart A B ∧ Apart B A) (a2 : Apart TA B ∧ Apart B TA) :
  Own ws e k w' B m c xs ∧ (Apart A' B ∧ Apart B A') ∧ (Apart TA' B ∧ Apart B TA') ∧ ∀ b, blk B = some b → b < w.heap.size := by
 have key : ∀ g, blk B = some g → DT w0.heap.size ws w A TA g := fun g hg => by
  obtain ⟨g1, g2⟩ := own_blk ho g hg
  exact .inr ⟨g1, g2, own_nap hA a1.2 hg, own_nap hT a2.2 hg⟩
 have key2 : ∀ g, blk B = some g → blk A' ≠ some g ∧ blk TA' ≠ some g := fun g hg => by
  obtain ⟨g1, g2⟩ := own_blk ho g hg
  rcases (hst.keep g (key g hg)).2 with h | ⟨_, _, h1, h2⟩
  ·omega
  ·exact ⟨h1, h2⟩
 have ho' : Own ws e k w' B m c xs := own_keep ho fun g hg => (hst.keep g (key g hg)).1
 exact ⟨ho', apart_of hA' ho' (fun b hb => (key2 b hb).1), apart_of hT' ho' (fun b hb => (key2 b hb).2), fun b hb => (own_blk ho b hb).2⟩
theorem stmtP_nm {last : Bool} {s : PS} (h : stmtP last s) : s.nm.size ≤ 9223372036854775807 := by
 unfold stmtP at h
 split at h
 ·have := h.2.1.2.1; omega
 ·split at h
  ·rw [h.2.1]; simp [ByteArray.size]
  ·split at h
   ·rw [h.2.1]; simp [ByteArray.size]
   ·exact h.elim
def DO (w0s ws : Nat) (w : World) (A TA B : Option Addr) (b : Nat) : Prop := b < w0s ∨ (ws ≤ b ∧ b < w.heap.size ∧ blk A ≠ some b ∧ blk TA ≠ some b ∧ blk B ≠ some b)
theorem do_dt {w0s ws : Nat} {w : World} {A TA B : Option Addr} {b : Nat} (h : DO w0s ws w A TA B b) : DT w0s ws w A TA b := by
 rcases h with h | ⟨h1, h2, h3, h4, _⟩
 ·exact .inl h
 ·exact .inr ⟨h1, h2, h3, h4⟩
theorem do_lt {w0s ws : Nat} {w : World} {A TA B : Option Addr} (h0 : w0s ≤ w.heap.size) {b : Nat} (h : DO w0s ws w A TA B b) : b < w.heap.size := by
 rcases h with h | ⟨_, h, _⟩ <;> omega
theorem checkAll_f {w : World} {A : Option Addr} {m c : Nat} {es : List SV} (h : SVs w A m c es) (hm : m ≤ 600) (hg : GoodS 0 (spOf es)) (hp : poS es ≤ 4000) :
  FC Tryz.prog 49 [.slice A m c] w fun v w' => match ckS (spOf es) ⟨[], [], []⟩ with
   | .inl f => v = .tuple ⟨[.slice none 0 0, .slice none 0 0, misV f.1 f.2]⟩ ∧ f.1 ≠ 0
   | .inr x => ∃ B d TA n' c' es2, v = .tuple ⟨[.slice B m d, .slice TA n' c', .nilIface]⟩ ∧ SVs w' B m d es2 ∧ Own w.heap.size 3 1 w' TA n' c' (x.acc.map (.int .i64)) ∧ es2.map (·.p) = resS (spOf es) ⟨[], [], []⟩ ∧ es2.map (·.s) = es.map (·.s) ∧ es2.map (·.i) = es.map (·.i) := by
 refine FC.intro (cs := []) Tryz.func49 (by kernel_rfl) fun E R hE hr hR => ?_
 have hlen := h.len
 obtain ⟨V, hV0⟩ : ∃ V, V = ckS (spOf es) ⟨[], [], []⟩ := ⟨_, rfl⟩
 obtain ⟨W, hW0⟩ : ∃ W, W = resS (spOf es) ⟨[], [], []⟩ := ⟨_, rfl⟩
 rw [← hV0, ← hW0] at hR
 conv => cbv
 refine st_f hr (newChecker_f w) fun v w1 hx1 ⟨q, bm, ws, ev, hb, hK⟩ => ?_
 subst ev
 have hle := hb.le
 have hws := hK.hs
 conv => cbv
 refine st_none hr sSt fun B0 w2 hx2 ho0 => ?_
 have ho := ho0 w1.heap.size (n1_ _)
 have aA := (Own.nil (B := ws) (e := 3) (k := 1) (w := w1)).apart ho (n1_ _)
 replace ho := ho.mono hws
 clear ho0
 have hK2 := hK.ext hx2
 have hxx := hx1.trans hx2
 clear hK hx1 hx2 hws
 conv => cbv
 refine st_len hE sSt fun x1 hx1' => ?_
 conv => cbv
 refine loop_rulec [] hr (fun (s : Nat × Int × CK × (Option Addr × Option Addr × Option Addr × Nat) × List SV) w' => s.1 ≤ m ∧ s.2.1 = (s.1 : Int) ∧ Ext w w' ∧ CKs w.heap.size ws w' q bm s.2.2.1 s.2.2.2.1.1 s.2.2.2.1.2.1 ∧ XK s.2.2.1 ∧
   Own ws 180 5 w' s.2.2.2.1.2.2.1 s.1 s.2.2.2.1.2.2.2 (s.2.2.2.2.flatMap fV) ∧ (Apart s.2.2.2.1.1 s.2.2.2.1.2.2.1 ∧ Apart s.2.2.2.1.2.2.1 s.2.2.2.1.1) ∧ (Apart s.2.2.2.1.2.1 s.2.2.2.1.2.2.1 ∧ Apart s.2.2.2.1.2.2.1 s.2.2.2.1.2.1) ∧
   ES (DO w.heap.size ws w' s.2.2.2.1.1 s.2.2.2.1.2.1 s.2.2.2.1.2.2.1) w' s.2.2.2.2 ∧ GoodS s.2.2.1.tys.length (spOf (es.drop s.1)) ∧ s.2.2.1.acc.length + poS (es.drop s.1) ≤ 4000 ∧ s.2.2.1.tys.length + (m - s.1) ≤ 600 ∧
   ckS (spOf (es.drop s.1)) s.2.2.1 = V ∧ s.2.2.2.2.map (·.p) ++ resS (spOf (es.drop s.1)) s.2.2.1 = W ∧ s.2.2.2.2.map (·.s) = (es.take s.1).map (·.s) ∧ s.2.2.2.2.map (·.i) = (es.take s.1).map (·.i))
  (fun s => [(5, .pointer (some q)), (6, .slice s.2.2.2.1.2.2.1 s.1 s.2.2.2.1.2.2.2), (13, .slice A m c), (14, .int .i64 x1), (15, .int .i64 s.2.1)]) (fun s => m - s.1) (0, 0, ⟨[], [], []⟩, (none, none, B0, 0), [])
  (by simp [Fits, lk]) ⟨by simp, by simp, hxx, ⟨0, 0, 0, 0, hK2⟩, ⟨rfl, by simp, by simp, by simp⟩, by simpa using ho, aA, aA, (fun e he => by cases he), by simpa using hg, by simpa using hp, by simp only [a4_]; omega, by simpa using hV0.symm, by simpa using hW0.symm, by simp, by simp⟩ ?_
 clear hxx hK2 ho aA hV0 hW0
 rintro I hI ⟨j, jj, x, ⟨A1, TA1, B, d⟩, es2⟩ w' ⟨hj, hjj, hx, ⟨tn, tc, na, ca, hK⟩, hX, ho, aA, aT, hes, hgd, hcnt, hlt, hV, hW, hsS, hsI⟩
 simp only at hj hjj hX ho aA aT hes hgd hcnt hlt hV hW hsS hsI hK
 obtain ⟨jk, hjk⟩ : ∃ z, z = jj + 1 := ⟨_, rfl⟩
 have hol := ho.len
 rw [fl_len fV_len] at hol
 have h0s := hx.size
 conv => cbv
 refine br (fun g => ?_) (fun g => ?_)
 ·have g : j < m := by
   have : jj < x1 := by simpa [hE.cmp, cmpR] using g
   omega
  have ej : E.ar .add .i64 jj 1 = jk := by rw [hE.ar, hjk]; exact wrap_in (by omega) (by omega)
  obtain ⟨e, he⟩ : ∃ e, es[j]? = some e := ⟨_, g2_ (by omega)⟩
  obtain ⟨aA0, hA0, hcell⟩ := fl_at fV_len (h.cells.ext hx) (by omega) he
  have htr := h.trees e (m1_ he)
  obtain ⟨ef, hef⟩ : ∃ ef, ef = fV e := ⟨_, rfl⟩
  have hefl : ef.length = 5 := by rw [hef]; rfl
  have hef1 : ∀ v ∈ ef, v.oneCell' = true := by
   rw [hef]
   intro v hv
   have o1 := htr.1.one
   have o2 := htr.2.one
   simp only [fV, List.mem_cons, List.not_mem_nil, or_false] at hv
   rcases hv with rfl | rfl | rfl | rfl | rfl <;> first | rfl | assumption
  rw [← hef] at hcell
  conv => cbv
  refine st_idx hE sSt hA0 (by omega) (by omega) fun p hp => ?_
  rw [show jj.toNat = j by omega] at hp
  conv => cbv
  refine st_loadS hE tSt hefl (by rw [hp]; exact hcell) ?_
  conv => cbv
  refine st_alloc hr tSt rfl fun q8 w3 hx3 hq0 => ?_
  conv => cbv
  refine st_putS hr (by rw [hefl]; kernel_rfl) (hq0 _ (n1_ _)) (add_zero _).symm (by simp [zSt, hefl]) hef1 fun w4 hw4 h8 => ?_
  have e8 : zSt.take 0 ++ ef ++ zSt.drop (0 + ef.length) = ef := by rw [hefl]; simp [zSt]
  rw [e8] at h8
  have hx4 := hx3.then (hw4.bel (hq0 _ (n1_ _)) hx3.size)
  clear hx3 hq0 hw4 hp hcell
  conv => cbv
  refine st_loadS hE tSt hefl h8.at ?_
  conv => cbv
  have hx04 := hx.trans hx4
  have hK4 := hK.ext hx4
  rw [spOf_drop he, GoodS] at hgd
  obtain ⟨hs1, ⟨hs2, hs3⟩, hs4, hs5⟩ := hgd
  rw [poS_drop he] at hcnt
  have k4 : ∀ b, b < w.heap.size → w4.heap[b]? = w.heap[b]? := fun b hb => hx04.block b hb
  have htc := htr.1.keep k4 (D' := fun b => b < w.heap.size) (fun b h => h)
  have htg := htr.2.keep k4 (D' := fun b => b < w.heap.size) (fun b h => h)
  have hmem : (∀ t, e.p.c = some t → t ∈ trs e.p) ∧ (∀ t, e.p.g = some t → t ∈ trs e.p) := ⟨fun t ht => by simp [trs, ht], fun t ht => by simp [trs, ht]⟩
  have hSt := stmt_g hb hx04 hK4 hX (by omega) hs1 (stmtP_nm hs1) hs2 hs3 htc htg (fun t ht => (hs4 t (hmem.1 t ht)).1) (fun t ht => (hs4 t (hmem.2 t ht)).1) (by have := hK4.len.2; omega) (fun t ht hz => topK_nz (hs4 t (hmem.1 t ht)).2 hX.eq hX.nz hz)
  rw [hef]
  refine st_g hr hSt fun r w5 ⟨cv, gv, er, ev, ocv, ogv, hx5, hres⟩ => ?_
  subst ev
  rw [spOf_drop he, ckS_cons] at hV
  rw [spOf_drop he, resS] at hW
  conv => cbv
  refine st_alloc hr tSt rfl fun q9 w6 hx6 hq0 => ?_
  conv => cbv
  refine st_putS hr (by kernel_rfl) (hq0 _ (n1_ _)) (add_zero _).symm (by simp [zSt]) (by
   intro y hy
   simp only [List.mem_cons, List.not_mem_nil, or_false] at hy
   rcases hy with rfl | rfl | rfl | rfl | rfl <;> first | rfl | assumption) fun w7 hw7 h9 => ?_
  simp only [zSt, a1_, a2_, a3_, a4_, a5_, a6_, a7_] at h9
  have hx57 := hx6.then (hw7.bel (hq0 _ (n1_ _)) hx6.size)
  have hx7 := hx5.trans hx57
  clear hx6 hq0 hw7
  cases hck : ckP e.s x e.p with
  | inl f =>
   rw [hck] at hres hV
   obtain ⟨rfl, hf⟩ := hres
   simp only at hV
   conv => cbv
   refine st_neSome hE Tryz.underlying99 ?_
   conv => cbv
   rw [hR]
   refine ⟨hx7, ?_⟩
   rw [← hV]
   exact ⟨rfl, hf⟩
  | inr y =>
   rw [hck] at hres hV hW
   simp only at hV hW
   obtain ⟨rfl, A2, TA2, hst, ⟨tn2, tc2, na2, ca2, hK5⟩, hY, hcv, hgv⟩ := hres
   conv => cbv
   refine st_neNil hE Tryz.underlying99 ?_
   conv => cbv
   refine st_loadS hE tSt rfl h9.at ?_
   conv => cbv
   refine st_oneS hr sSt rfl (by omega) (by omega) rfl fun A7 w8 hx8 hc8 => ?_
   conv => cbv
   have ho4 := ho.bel hx4
   obtain ⟨ho5, aA5, aT5, hB4⟩ := stp_row hst ho4 hK4.rA hK4.rT hK5.rA hK5.rT hle aA aT
   have hx58 := hx57.trans hx8
   have hK8 := hK5.ext hx58
   have ho8 := ho5.bel hx58
   have s8 := hx58.size
   have s45 := hst.size
   have s4 := hx4.size
   have hx08 := hx5.trans hx58
   have hws8 := hK8.hs
   refine st_appsKG hr sSt rfl (by omega) ho8 hc8 rfl (by omega) (by
    intro v hv
    simp only [List.mem_cons, List.not_mem_nil, or_false] at hv
    rcases hv with rfl | rfl | rfl | rfl | rfl <;> first | rfl | assumption) (by omega) (by omega) (by omega) fun A8 c8 m8 w9 hm8 hw9 ho9 hbk => ?_
   subst hm8
   have hgro : Gro w8 B w9 A8 := ⟨hw9, hbk.imp id fun e => ⟨_, e, n1_ _⟩⟩
   have aA9 := gro_apart (B := 0) (m := 0) (c := 0) (xs := []) hK8.rA aA5.symm hgro ho9
   have aT9 := gro_apart (B := 0) (m := 0) (c := 0) (xs := []) hK8.rT aT5.symm hgro ho9
   have hK9 := kc_wr hb hK8 hw9 ho8 aA5.1 aT5.1
   have hx09 : Ext w w9 := hx08.then (hw9.bel ho8 (by omega) |> fun q => RowKit.Below.mono q hle)
   have s9 := hw9.size
   have hBn : ∀ b, blk B = some b → blk A8 = some b ∨ ∃ b', blk A8 = some b' ∧ w8.heap.size ≤ b' := fun b hb1 => by
    rcases hgro.at_ with q1 | q1
    ·exact .inl (by rw [q1, hb1])
    ·exact .inr q1
   have hA8 : ∀ b, b < w8.heap.size → blk B ≠ some b → blk A8 ≠ some b := fun b hb1 hb2 q1 => by
    rcases hgro.at_ with q2 | ⟨b', q2, q3⟩
    ·exact hb2 (by rw [← q2, q1])
    ·rw [q2] at q1; cases q1; omega
   have kp : ∀ b, b < w8.heap.size → blk B ≠ some b → w9.heap[b]? = w8.heap[b]? := fun b hb1 hb2 => hw9.block b hb1 (Ne.symm hb2)
   have hes9 : ES (DO w.heap.size ws w9 A2 TA2 A8) w9 es2 := by
    refine hes.keep (fun b hb1 => ?_) (fun b hb1 => ?_)
    ·have hb2 := do_lt h0s hb1
     have hbB : blk B ≠ some b := by
      rcases hb1 with hb1 | ⟨_, _, _, _, k⟩
      ·intro q1; have := (own_blk ho b q1).1; omega
      ·exact k
     have hd4 : DT w.heap.size ws w4 A1 TA1 b := by
      rcases do_dt hb1 with k | ⟨k1, k2, k3⟩
      ·exact .inl k
      ·exact .inr ⟨k1, by omega, k3⟩
     rw [kp b (by omega) hbB, hx58.block b (by omega), (hst.keep b hd4).1, hx4.block b hb2]
    ·have hb2 := do_lt h0s hb1
     have hd4 : DT w.heap.size ws w4 A1 TA1 b := by
      rcases do_dt hb1 with k | ⟨k1, k2, k3⟩
      ·exact .inl k
      ·exact .inr ⟨k1, by omega, k3⟩
     rcases hb1 with hb1 | ⟨k1, k2, k3, k4, k5⟩
     ·exact .inl hb1
     ·rcases (hst.keep b hd4).2 with l | ⟨l1, l2, l3, l4⟩
      ·exact .inl l
      ·exact .inr ⟨k1, by omega, l3, l4, hA8 b (by omega) k5⟩
   have hnew : ∀ (o : Option Tr) (z : Value), optV (DT w.heap.size w4.heap.size w5 A2 TA2) w5 o z → optV (DO w.heap.size ws w9 A2 TA2 A8) w9 o z := fun o z hz => by
    have hB5 : ∀ b, DT w.heap.size w4.heap.size w5 A2 TA2 b → b < w5.heap.size ∧ blk B ≠ some b := fun b hb1 => by
     rcases hb1 with hb1 | ⟨k1, k2, _⟩
     ·exact ⟨by omega, fun q1 => by have := (own_blk ho b q1).1; omega⟩
     ·exact ⟨k2, fun q1 => by have := hB4 b q1; omega⟩
    refine hz.keep (fun b hb1 => ?_) (fun b hb1 => ?_)
    ·obtain ⟨k1, k2⟩ := hB5 b hb1
     rw [kp b (by omega) k2, hx58.block b k1]
    ·obtain ⟨k1, k2⟩ := hB5 b hb1
     rcases hb1 with hb1 | ⟨l1, l2, l3, l4⟩
     ·exact .inl hb1
     ·exact .inr ⟨by have := hK4.hs; omega, by omega, l3, l4, hA8 b (by omega) k2⟩
   have hty : y.tys.length = (if e.s.k = 1 then x.tys.length + 1 else x.tys.length) ∧ y.acc.length ≤ x.acc.length + (pos (trs e.p)).length := by
    have hkc : e.s.k = 1 → e.p.c ≠ none := fun hk q1 => by
     unfold stmtP at hs1
     rw [if_pos hk] at hs1
     have := hs2.2 hs1.2.2.1
     rw [q1] at this; simp at this
    unfold ckP at hck
    cases hq : ckC e.s x e.p.c with
    | inl f => rw [hq] at hck; cases hck
    | inr z =>
    rw [hq] at hck
    simp only at hck
    have e1 : y.tys = z.tys ∧ y.acc.length ≤ z.acc.length + (pos e.p.g.toList).length := by
     cases hgq : e.p.g with
     | none => rw [hgq] at hck; simp only [ckG] at hck; cases hck; simp
     | some t =>
      rw [hgq] at hck
      refine ⟨(ckG_some hck).2, ?_⟩
      simp only [ckG] at hck
      split at hck
      ·cases hck
      ·split at hck
       ·cases hck
       ·cases hck
        have := (walkL_len z.names z.tys (po t) z.acc).2.1
        simpa [pos] using this
    have e2 : z.tys.length = (if e.s.k = 1 then x.tys.length + 1 else x.tys.length) ∧ z.acc.length ≤ x.acc.length + (pos e.p.c.toList).length := by
     cases hcq : e.p.c with
     | none =>
      rw [hcq] at hq; simp only [ckC] at hq; cases hq
      exact ⟨by rw [if_neg (fun hk => hkc hk hcq)], by simp⟩
     | some t =>
      rw [hcq] at hq
      refine ⟨(ckC_some hq).2.2, ?_⟩
      have hl := (walkL_len x.names x.tys (po t) x.acc).2.1
      simp only [ckC] at hq
      split at hq
      ·cases hq
      ·split at hq
       ·split at hq
        ·cases hq
        ·cases hq; simpa [pos] using hl
       ·split at hq
        ·cases hq
        ·cases hq; simpa [pos] using hl
    refine ⟨by rw [e1.1]; exact e2.1, ?_⟩
    unfold trs
    rw [pos_append, List.length_append]
    omega
   conv => cbv
   simp only [ej]
   refine ⟨(j + 1, jk, y, (A2, TA2, A8, c8), es2 ++ [⟨e.s, ⟨e.p.c.map (resT x.names), e.p.g.map (resT y.names)⟩, cv, gv, e.i⟩]), by simp [Fits, lk], hI _ _ ⟨by simp only; omega, by simp only; omega, hx09, ⟨tn2, tc2, na2, ca2, hK9⟩, hY, ?_, aA9.symm, aT9.symm, ?_, ?_, ?_, ?_, ?_, ?_, ?_, ?_⟩, by simp only; omega⟩
   ·simp only
    rw [List.flatMap_append]
    exact ho9
   ·simp only
    intro z hz
    rcases List.mem_append.1 hz with hz | hz
    ·exact hes9 z hz
    ·simp at hz; subst hz; exact ⟨hnew _ _ hcv, hnew _ _ hgv⟩
   ·simp only; rw [hty.1]; exact hs5
   ·simp only; have := hty.2; omega
   ·simp only; rw [hty.1]; split <;> omega
   ·simp only; exact hV
   ·simp only; rw [List.map_append, List.append_assoc]; exact hW
   ·simp only; rw [List.map_append, hsS, g4_, he, List.map_append]; rfl
   ·simp only; rw [List.map_append, hsI, g4_, he, List.map_append]; rfl
 ·have g : j = m := by
   have : ¬ jj < x1 := by simpa [hE.cmp, cmpR] using g
   omega
  subst g
  rw [List.drop_eq_nil_of_le (by omega)] at hV hW
  simp only [spOf, b3_, ckS, resS, a7_] at hV hW
  rw [g3_ (by omega)] at hsS hsI
  conv => cbv
  refine draw_q hr fol (by kernel_rfl) fun E' hE' => ?_
  conv => cbv
  (refine st_nil hE' ?_; (conv => cbv); refine st_fld hE' fCk2 fun p hp => ?_; (conv => cbv); refine st_load hE' cInts (by rw [hp]; exact (hK.box).at _ _ rfl) ?_; (conv => cbv))
  intro w3 hs3
  conv => cbv
  rw [hR]
  refine ⟨hx.trans hs3.ext, ?_⟩
  rw [← hV]
  have hK3 := hK.ext hs3.ext
  refine ⟨B, d, A1, na, ca, es2, rfl, ⟨by omega, ho.cap, ho.cells.ext hs3.ext, hes.keep (fun b hb1 => hs3.ext.block b (do_lt h0s hb1)) fun b hb1 => n3_ (do_lt h0s hb1) hs3.ext.size⟩, hK3.rA.mono hle, hW, hsS, hsI⟩
abbrev typV (A : Option Addr) (n c : Nat) (A2 : Option Addr) (n2 c2 : Nat) (A3 : Option Addr) (n3 c3 : Nat) : Value := .agg ⟨[.slice A n c, .slice A2 n2 c2, .slice A3 n3 c3]⟩
abbrev zTyp : List Value := [.slice none 0 0, .slice none 0 0, .slice none 0 0]
theorem tITyp : Stc Tryz.prog 31 3 zTyp := ⟨by kernel_rfl, by kernel_rfl⟩
theorem fITyp0 : Fld Tryz.prog 31 0 0 := ⟨by kernel_rfl⟩
theorem fITyp1 : Fld Tryz.prog 31 1 1 := ⟨by kernel_rfl⟩
theorem fITyp2 : Fld Tryz.prog 31 2 2 := ⟨by kernel_rfl⟩
structure TypR (w : World) (A : Option Addr) (n : Nat) (A2 : Option Addr) (n2 : Nat) (A3 : Option Addr) (n3 c3 : Nat) (nv : List PN) (sv : List PS) (tyl : List Int) : Prop where
 pol : PolR w A n A2 n2 nv sv
 tys : Ints w A3 n3 c3 tyl
theorem TypR.ext {w w' : World} {A A2 A3 : Option Addr} {n n2 n3 c3 : Nat} {nv : List PN} {sv : List PS} {tyl : List Int} (h : TypR w A n A2 n2 A3 n3 c3 nv sv tyl) (hx : Ext w w') : TypR w' A n A2 n2 A3 n3 c3 nv sv tyl := ⟨h.1.ext hx, h.2.ext hx⟩
end Go.Proofs.YtgnjkdkedjljjaaGreatDoor
namespace Go.Eng
set_option linter.unusedVariables false
set_option linter.unusedSimpArgs false
def ePh2V (E E' : Sym) (w0 : World) (S : World → Prop) (all : List Oper) : List (Nat × Bool) → Fr → World → (Fr → World → Prop) → Prop
 | [], F, w, K => K F w
 | (k, true) :: l, F, w, K => match all[k]? with
  | none => False
  | some o => eOps E' all [o] F w0 fun F' _ => ePh2V E E' w0 S all l F' w K
 | (k, false) :: l, F, w, K => match all[k]? with
  | none => False
  | some o => eOps E all [o] F w fun F' w' => S w' ∧ ePh2V E E' w0 S all l F' w' K
section
variable {P : Program} {Pn : List PanicEntry → World → Prop} {n : Nat}
end
end Go.Eng
namespace Go.Proofs.YtgnjkdkedjljjaaGreatDoor
open Go.Eng
set_option linter.unusedVariables false
set_option linter.unusedSimpArgs false
theorem LaidS.ext {w w' : World} {A : Option Addr} {m c : Nat} {sv : List PS} {acc : List PT} (h : LaidS w A m c sv acc) (hx : Ext w w') : LaidS w' A m c sv acc := by
 obtain ⟨es, h1, h2, h3, h4, h5, h6, h7⟩ := h
 exact ⟨es, h1, h2, h3, h4, h5.ext hx, h6, h7.keep (fun b hb => hx.block b hb) (fun b hb => n3_ hb hx.size)⟩
def TypedP (nv : List PN) (sv : List PS) (tyl : List Int) (acc : List PT) (x : CK) : Prop :=
 (nv.length ≤ 4000 ∧ 1 ≤ sv.length ∧ sv.length ≤ 600) ∧ runS nv leafT sv 0 0 [] = some (acc, nv.length) ∧ ckS (sv.zip acc) ⟨[], [], []⟩ = .inr x ∧ x.acc = tyl
mutual
def layF (b : Nat) : Tr → List PN
 | .con k n tx xs _ => [⟨kOp k, n, tx, xs, []⟩]
 | .nam tx _ => [⟨5, 0, tx, [], []⟩]
 | .att n => [⟨6, n, ⟨#[]⟩, [], []⟩]
 | .lt n => [⟨7, n, ⟨#[]⟩, [], []⟩]
 | .op o kids _ => (layL b kids).1 ++ [⟨o, 0, ⟨#[]⟩, [], (layL b kids).2⟩]
def layL (b : Nat) : List Tr → List PN × List Int
 | [] => ([], [])
 | t :: l => (layF b t ++ (layL (b + (layF b t).length) l).1, (((b + (layF b t).length : Nat) : Int) - 1) :: (layL (b + (layF b t).length) l).2)
end
mutual
theorem layF_len : ∀ (b : Nat) (t : Tr), (layF b t).length = (po t).length
 | b, .con .. => rfl
 | b, .nam .. => rfl
 | b, .att .. => rfl
 | b, .lt .. => rfl
 | b, .op o kids at_ => by rw [layF, po, List.length_append, List.length_append, (layL_len b kids).1]; rfl
theorem layL_len : ∀ (b : Nat) (l : List Tr), (layL b l).1.length = (pos l).length ∧ (layL b l).2.length = l.length
 | b, [] => ⟨rfl, rfl⟩
 | b, t :: l => by
  rw [layL, pos]
  simp only [List.length_append, a3_]
  rw [layF_len b t, (layL_len _ l).1, (layL_len _ l).2]
  exact ⟨rfl, rfl⟩
end
theorem layL_app : ∀ (b : Nat) (l m : List Tr), layL b (l ++ m) = ((layL b l).1 ++ (layL (b + (layL b l).1.length) m).1, (layL b l).2 ++ (layL (b + (layL b l).1.length) m).2)
 | b, [], m => by simp [layL]
 | b, t :: l, m => by
  rw [List.cons_append, layL, layL, layL_app _ l m]
  simp only [List.append_assoc, List.cons_append, List.length_append, Nat.add_assoc]
theorem po_pos (t : Tr) : 1 ≤ (po t).length := by
 obtain ⟨l, e⟩ := po_last t
 rw [e]; simp
def fixN (names : List ByteArray) (p : PN) : PN := if p.o = 5 then match resN names p.tx with
  | some (.att i) => ⟨6, i, ⟨#[]⟩, [], []⟩
  | some (.lt i) => ⟨7, i, ⟨#[]⟩, [], []⟩
  | _ => p
 else p
def leafL (p : PN) : Prop := (p.o = 5 → p.z = 0 ∧ p.xs = []) ∧ (p.o = 6 ∨ p.o = 7 → p.tx = ⟨#[]⟩ ∧ p.xs = [])
theorem leafU_L {p : PN} (h : leafU p) : leafL p := by
 unfold leafU at h
 split at h
 ·rename_i e; exact ⟨fun _ => ⟨h.1, h.2.2⟩, fun q => by omega⟩
 ·rename_i e; have := cOK_o h.1; exact ⟨fun q => absurd q e, fun q => by omega⟩
theorem posF_ltL {l : List ByteArray} {s : ByteArray} {k : Nat} (h : posF l s = some k) : k < l.length := (List.getElem?_eq_some_iff.1 (posF_lt h)).1
theorem kids0_iff (o : Int) : kidsF o = 0 ↔ 1 ≤ o ∧ o ≤ 7 := by unfold kidsF; (repeat' split) <;> omega
theorem resN_cases (names : List ByteArray) (tx : ByteArray) : resN names tx = none ∨ (∃ i : Nat, resN names tx = some (.att i) ∧ i < 6) ∨ ∃ i : Nat, resN names tx = some (.lt i) ∧ i < names.length := by
 unfold resN
 cases h : posF attrs tx with
 | some i => exact .inr (.inl ⟨i, rfl, posF_ltL h⟩)
 | none =>
  cases h2 : posF names tx with
  | none => exact .inl rfl
  | some i => exact .inr (.inr ⟨i, rfl, posF_ltL h2⟩)
theorem resN_lt {names : List ByteArray} {tx : ByteArray} {i : Nat} (h : posF attrs tx = none) (h2 : posF names tx = some i) : resN names tx = some (.lt i) := by unfold resN; rw [h, h2]; rfl
theorem resN_att {names : List ByteArray} {tx : ByteArray} {i : Nat} (h : posF attrs tx = some i) : resN names tx = some (.att i) := by unfold resN; rw [h]
theorem resN_none {names : List ByteArray} {tx : ByteArray} (h : posF attrs tx = none) (h2 : posF names tx = none) : resN names tx = none := by unfold resN; rw [h, h2]; rfl
theorem lay_leaf {names : List ByteArray} {p : PN} (h0 : kidsF p.o = 0) (hk : p.ks = []) (hl : leafL p) (b : Nat) (i : Int) (kids : List Tr) : layF b (resT names (mkT p i kids)) = [fixN names p] := by
 obtain ⟨o, z, tx, xs, ks⟩ := p
 simp only at hk h0
 subst hk
 have ho := (kids0_iff o).1 h0
 obtain ⟨l1, l2⟩ := hl
 simp only at l1 l2
 rw [mkT, if_pos h0, leafF]
 by_cases e5 : o = 5
 ·obtain ⟨rfl, rfl⟩ := l1 e5
  subst e5
  rw [if_pos rfl, resT, fixN, if_pos rfl]
  simp only
  rcases resN_cases names tx with e | ⟨i, e, _⟩ | ⟨i, e, _⟩ <;> rw [e] <;> simp [layF]
 ·rw [if_neg e5, fixN, if_neg e5]
  by_cases e6 : o = 6
  ·obtain ⟨rfl, rfl⟩ := l2 (.inl e6)
   subst e6
   rw [if_pos rfl, resT, layF]
   all_goals simp
  ·rw [if_neg e6]
   by_cases e7 : o = 7
   ·obtain ⟨rfl, rfl⟩ := l2 (.inr e7)
    subst e7
    rw [if_pos rfl, resT, layF]
    all_goals simp
   ·rw [if_neg e7, resT, layF]
    have : o = 1 ∨ o = 2 ∨ o = 3 ∨ o = 4 := by omega
    rcases this with rfl | rfl | rfl | rfl <;> rfl
    all_goals simp
theorem lay_ists {names : List ByteArray} {ns : List PN} {a b : Nat} {ks : List Int} {ts : List Tr} (h : IsTs ns a b ks ts) : b ≤ ns.length → (∀ q p, a ≤ q → q < b → ns[q]? = some p → nodeOK leafL p) → layL a (resTs names ts) = ((seg ns a b).map (fixN names), ks) := by
 induction h with
 | nil a => intro _ _; rw [resTs, layL, seg_nil]; rfl
 | @cons a b k p ks kids ts hp hk h1 h2 i1 i2 =>
  intro hb hok
  have l1 := h1.le
  have l2 := h2.le
  have hn := hok k p l1 (by omega) hp
  have hF : layF a (resT names (mkT p k kids)) = (seg ns a (k + 1)).map (fixN names) := by
   by_cases h0 : kidsF p.o = 0
   ·have hks : p.ks = [] := List.eq_nil_of_length_eq_zero (by omega)
    have hak : a = k := by
     have e := h1
     rw [hks] at e
     cases e; rfl
    subst hak
    rw [lay_leaf h0 hks (hn.1 h0), seg_one hp]; rfl
   ·have hpos : 1 ≤ kidsF p.o := by omega
    obtain ⟨z1, z2, z3⟩ := hn.2 hpos
    rw [mkT, if_neg h0, resT, layF, i1 (by omega) fun q u q1 q2 hu => hok q u q1 (by omega) hu, seg_cat l1 (Nat.le_succ k), seg_one hp, List.map_append]
    congr 1
    have e5 : p.o ≠ 5 := fun e => h0 ((kids0_iff p.o).2 (by omega))
    rw [b2_, fixN, if_neg e5]
    obtain ⟨o, z, tx, xs, kz⟩ := p
    simp only at z1 z2 z3
    subst z1; subst z2; subst z3
    rfl
  have hlen : ((seg ns a (k + 1)).map (fixN names)).length = k + 1 - a := by rw [List.length_map, seg_len (by omega)]
  rw [resTs, layL, hF, hlen, show a + (k + 1 - a) = k + 1 by omega, i2 hb fun q u q1 q2 hu => hok q u (by omega) q2 hu]
  simp only
  rw [seg_cat (by omega : a ≤ k + 1) l2, List.map_append]
  congr 2
  push_cast; omega
mutual
theorem tyT_res {names : List ByteArray} {tys : List Int} (he : names.length = tys.length) : ∀ t : Tr, tyT names tys (resT names t) = tyT names tys t
 | .con .. => rfl
 | .att n => rfl
 | .lt n => rfl
 | .nam tx at_ => by
  rw [resT]
  have e1 : tyT names tys (.nam tx at_) = tyNam names tys tx := rfl
  rw [e1]
  unfold tyNam
  cases h : posF attrs tx with
  | some i => rw [resN_att h]; rfl
  | none =>
   cases h2 : posF names tx with
   | none => rw [resN_none h h2]; simp only [Option.getD_none, tyT, tyNam, h, h2]
   | some i =>
    have := posF_ltL h2
    rw [resN_lt h h2]
    simp only [Option.getD_some, tyT, tyLt]
    rw [if_neg (by omega)]
    simp
 | .op o kids at_ => by rw [resT, tyT, tyT, tyTs_res he kids]
theorem tyTs_res {names : List ByteArray} {tys : List Int} (he : names.length = tys.length) : ∀ l : List Tr, tyTs names tys (resTs names l) = tyTs names tys l
 | [] => rfl
 | t :: l => by rw [resTs, tyTs, tyTs, tyT_res he t, tyTs_res he l]
end
mutual
theorem po_res (names : List ByteArray) : ∀ t : Tr, po (resT names t) = (po t).map (resT names)
 | .con .. => rfl
 | .att n => rfl
 | .lt n => rfl
 | .nam tx at_ => by
  have e1 : po (Tr.nam tx at_) = [Tr.nam tx at_] := rfl
  rw [e1, b2_, b3_, resT]
  rcases resN_cases names tx with e | ⟨i, e, _⟩ | ⟨i, e, _⟩ <;> rw [e] <;> rfl
 | .op o kids at_ => by rw [resT, po, po, pos_res names kids, List.map_append, b2_, b3_, resT]
theorem pos_res (names : List ByteArray) : ∀ l : List Tr, pos (resTs names l) = (pos l).map (resT names)
 | [] => rfl
 | t :: l => by rw [resTs, pos, pos, po_res names t, pos_res names l, List.map_append]
end
theorem walkL_res {names : List ByteArray} {tys : List Int} (he : names.length = tys.length) : ∀ (l : List Tr) (acc : List Int), walkL names tys (l.map (resT names)) acc = walkL names tys l acc
 | [], acc => rfl
 | t :: l, acc => by rw [b2_, walkL, walkL, tyT_res he t, walkL_res he l]
theorem ckC_res {s : PS} {x : CK} (he : x.names.length = x.tys.length) (o : Option Tr) : ckC s x (o.map (resT x.names)) = ckC s x o := by
 cases o with
 | none => rfl
 | some t => simp only [Option.map_some, ckC, po_res, walkL_res he, tyT_res he]
theorem ckG_res {x : CK} (he : x.names.length = x.tys.length) (o : Option Tr) : ckG x (o.map (resT x.names)) = ckG x o := by
 cases o with
 | none => rfl
 | some t => simp only [Option.map_some, ckG, po_res, walkL_res he, tyT_res he]
theorem ckC_eq {s : PS} {x y : CK} {o : Option Tr} (h : ckC s x o = .inr y) (he : x.names.length = x.tys.length) : y.names.length = y.tys.length ∧ (y.names = x.names ∨ y.names = x.names ++ [s.nm]) := by
 cases o with
 | none => simp only [ckC] at h; cases h; exact ⟨he, .inl rfl⟩
 | some t =>
  simp only [ckC] at h
  split at h
  ·cases h
  ·split at h
   ·split at h
    ·cases h
    ·cases h; exact ⟨by simp [he], .inr rfl⟩
   ·split at h
    ·cases h
    ·cases h; exact ⟨he, .inl rfl⟩
theorem ckG_eq {x y : CK} {o : Option Tr} (h : ckG x o = .inr y) : y.names = x.names ∧ y.tys = x.tys := by
 cases o with
 | none => simp only [ckG] at h; cases h; exact ⟨rfl, rfl⟩
 | some t =>
  simp only [ckG] at h
  split at h
  ·cases h
  ·split at h
   ·cases h
   ·cases h; exact ⟨rfl, rfl⟩
theorem ckP_inr {s : PS} {p : PT} {x z : CK} (h : ckP s x p = .inr z) : ∃ y, ckC s x p.c = .inr y ∧ ckG y p.g = .inr z := by
 unfold ckP at h
 cases hc : ckC s x p.c with
 | inl f => rw [hc] at h; cases h
 | inr y => rw [hc] at h; exact ⟨y, rfl, h⟩
theorem posF_app : ∀ {l : List ByteArray} {s : ByteArray} {i : Nat} (r : List ByteArray), posF l s = some i → posF (l ++ r) s = some i
 | [], s, i, r, h => by cases h
 | x :: l, s, i, r, h => by
  rw [List.cons_append, posF]
  rw [posF] at h
  split at h
  ·rename_i e; rw [if_pos e]; exact h
  ·rename_i e
   rw [if_neg e]
   cases hq : posF l s with
   | none => rw [hq] at h; cases h
   | some j => rw [posF_app r hq]; rw [hq] at h; exact h
theorem resN_app {names : List ByteArray} {tx : ByteArray} (h : (resN names tx).isSome = true) (r : List ByteArray) : resN (names ++ r) tx = resN names tx := by
 unfold resN at h ⊢
 cases h1 : posF attrs tx with
 | some i => rfl
 | none =>
  rw [h1] at h
  cases h2 : posF names tx with
  | none => rw [h2] at h; simp at h
  | some i => simp only; rw [posF_app r h2]
theorem walk_nam {nv : List PN} {a b : Nat} {k : Int} {t : Tr} (h : IsTs nv a b [k] [t]) {names : List ByteArray} {tys : List Int} {acc : List Int} (hc : (walkL names tys (po t) acc).2 = 0) {q : Nat} {p : PN} (h1 : a ≤ q) (h2 : q < b) (hp : nv[q]? = some p) (h5 : p.o = 5) : (resN names p.tx).isSome = true := by
 obtain ⟨_, g⟩ := h.pos
 obtain ⟨u, a', hu, hI⟩ := g (q - a) (by omega)
 rw [show Proofs.YtgnjkdkedjljjaaGreatDoor.pos [t] = po t by simp [Proofs.YtgnjkdkedjljjaaGreatDoor.pos]] at hu
 have hz := walkL_all hc u (m1_ hu)
 rw [show a + (q - a) = q by omega] at hI
 obtain ⟨kn, p', kids, e1, _, hp', _, _, e⟩ := hI.one
 have e1 : q = kn := Int.ofNat.inj e1
 subst e1
 rw [hp] at hp'
 cases hp'
 have e : u = mkT p q kids := by simpa using e
 have hk : kidsF 5 = 0 := by decide
 rw [e, mkT, h5, if_pos hk, leafF, if_pos h5, tyT, tyNam] at hz
 unfold resN
 cases h3 : posF attrs p.tx with
 | some i => rfl
 | none =>
  rw [h3] at hz
  cases h4 : posF names p.tx with
  | none => rw [h4] at hz; cases hz
  | some i => rfl
def layO (b : Nat) : Option Tr → List PN × Int
 | none => ([], -1)
 | some t => (layF b t, ((b + (layF b t).length : Nat) : Int) - 1)
def layS (b : Nat) : List (PS × PT) → List PN × List PS
 | [] => ([], [])
 | (s, p) :: l => ((layO b p.c).1 ++ (layO (b + (layO b p.c).1.length) p.g).1 ++ (layS (b + (layO b p.c).1.length + (layO (b + (layO b p.c).1.length) p.g).1.length) l).1,
   ⟨s.k, s.nm, (layO b p.c).2, (layO (b + (layO b p.c).1.length) p.g).2⟩ :: (layS (b + (layO b p.c).1.length + (layO (b + (layO b p.c).1.length) p.g).1.length) l).2)
theorem lay_opt {names names' : List ByteArray} {ns : List PN} {a b : Nat} {top : Int} {o : Option Tr} (ho : o.isSome = true ↔ 0 ≤ top) (hm : -1 ≤ top) (h : IsTs ns a b (rootO top) o.toList) (hb : b ≤ ns.length) (hok : ∀ q p, a ≤ q → q < b → ns[q]? = some p → nodeOK leafL p)
  (hf : ∀ q p, a ≤ q → q < b → ns[q]? = some p → fixN names p = fixN names' p) : layO a (o.map (resT names)) = ((seg ns a b).map (fixN names'), top) ∧ (layO a (o.map (resT names))).1.length = b - a := by
 have hle := h.le
 have key : layO a (o.map (resT names)) = ((seg ns a b).map (fixN names'), top) := by
  rcases rootO_some ho with ⟨r1, r2⟩ | ⟨t, r1, r2⟩
  ·subst r1
   rw [r2] at h
   have : a = b := by cases h; rfl
   subst this
   have ht : top = -1 := by
    have : ¬ 0 ≤ top := fun q => by have := ho.2 q; simp at this
    omega
   rw [ht, seg_nil]; rfl
  ·subst r1
   rw [r2] at h
   have e := lay_ists (names := names) h hb hok
   simp only [Option.toList_some, resTs, layL] at e
   rw [a7_] at e
   have e1 := congrArg Prod.fst e
   have e2 := congrArg Prod.snd e
   simp only at e1 e2
   have e3 : (seg ns a b).map (fixN names) = (seg ns a b).map (fixN names') := by
    refine List.map_congr_left fun p hp => ?_
    obtain ⟨j, hj⟩ := List.mem_iff_getElem?.1 hp
    have hjl := (List.getElem?_eq_some_iff.1 hj).1
    rw [seg_len hb] at hjl
    unfold seg at hj
    rw [List.getElem?_drop, List.getElem?_take] at hj
    split at hj
    ·exact hf (a + j) p (by omega) (by omega) hj
    ·cases hj
   simp only [Option.map_some, layO]
   rw [e1, ← e3]
   rw [e1] at e2
   simp only [b1_, and_true] at e2
   rw [e2]
 exact ⟨key, by rw [key]; simp only; rw [List.length_map, seg_len hb]⟩
theorem ckS_names {l : List (PS × PT)} : ∀ {x y : CK}, ckS l x = .inr y → x.names.length = x.tys.length → ∃ r, y.names = x.names ++ r := by
 induction l with
 | nil => intro x y h _; simp only [ckS] at h; cases h; exact ⟨[], by simp⟩
 | cons q l ih =>
  intro x y h he
  obtain ⟨s, p⟩ := q
  rw [ckS_cons] at h
  cases hp : ckP s x p with
  | inl f => rw [hp] at h; cases h
  | inr z =>
   rw [hp] at h
   obtain ⟨m, k1, k2⟩ := ckP_inr hp
   obtain ⟨g1, g2⟩ := ckC_eq k1 he
   obtain ⟨g3, g4⟩ := ckG_eq k2
   obtain ⟨r, hr⟩ := ih h (by rw [g3, g4]; exact g1)
   rcases g2 with g2 | g2
   ·exact ⟨r, by rw [hr, g3, g2]⟩
   ·exact ⟨s.nm :: r, by rw [hr, g3, g2]; simp⟩
theorem fix_app {names : List ByteArray} {p : PN} (h : p.o = 5 → (resN names p.tx).isSome = true) (r : List ByteArray) : fixN names p = fixN (names ++ r) p := by
 unfold fixN
 by_cases e : p.o = 5
 ·rw [if_pos e, if_pos e, resN_app (h e)]
 ·rw [if_neg e, if_neg e]
theorem lay_res {nv : List PN} {N : Nat} (hN : N ≤ nv.length) : ∀ {sv : List PS} {pts : List PT} {x y : CK} {i : Nat}, Match sv pts → (∀ s ∈ sv, -1 ≤ s.c ∧ -1 ≤ s.g) → IsTs nv i N (roots sv) (pts.flatMap trs) → (∀ q p, i ≤ q → q < N → nv[q]? = some p → nodeOK leafL p) → ckS (sv.zip pts) x = .inr y → x.names.length = x.tys.length →
  (resS (sv.zip pts) x).length = sv.length ∧ layS i (sv.zip (resS (sv.zip pts) x)) = ((seg nv i N).map (fixN y.names), sv) ∧ ckS (sv.zip (resS (sv.zip pts) x)) x = .inr y ∧ (pos ((resS (sv.zip pts) x).flatMap trs)).length = N - i
 | [], [], x, y, i, hm, hs, h, hok, hc, he => by
  simp [roots] at h
  cases h
  refine ⟨rfl, by simp [resS, layS, seg_nil], by simpa [resS, ckS] using hc, by simp [resS, pos]⟩
 | [], p :: pts, x, y, i, hm, hs, h, hok, hc, he => by have := hm.1; simp at this
 | s :: sv, [], x, y, i, hm, hs, h, hok, hc, he => by have := hm.1; simp at this
 | s :: sv, ⟨c, g⟩ :: pts, x, y, i, hm, hs, h, hok, hc, he => by
  obtain ⟨⟨h1, h2⟩, h3⟩ := match_cons.1 hm
  simp only at h1 h2
  obtain ⟨s1, s2⟩ := hs s (List.mem_cons_self ..)
  rw [roots_cons, List.flatMap_cons] at h
  obtain ⟨m, ts1, ts2, e, k1, k2⟩ := h.split
  have hl := k1.len
  have hlen : (trs ⟨c, g⟩).length = (rootS s).length := by
   rw [rootS_eq, List.length_append]
   rcases rootO_some h1 with ⟨r1, r2⟩ | ⟨t1, r1, r2⟩ <;> rcases rootO_some h2 with ⟨r3, r4⟩ | ⟨t2, r3, r4⟩ <;> rw [r2, r4] <;> subst r1 <;> subst r3 <;> rfl
  obtain ⟨e1, e2⟩ := List.append_inj e (by rw [hl, hlen])
  rw [← e1] at k1
  rw [← e2] at k2
  have l1 := k1.le
  have l2 := k2.le
  rw [rootS_eq] at k1
  obtain ⟨m2, u1, u2, e', j1, j2⟩ := k1.split
  have hl' := j1.len
  have hcl : c.toList.length = (rootO s.c).length := by rcases rootO_some h1 with ⟨r1, r2⟩ | ⟨t1, r1, r2⟩ <;> rw [r2] <;> subst r1 <;> rfl
  obtain ⟨e3, e4⟩ := List.append_inj (show c.toList ++ g.toList = u1 ++ u2 from e') (by rw [hl', hcl])
  rw [← e3] at j1
  rw [← e4] at j2
  have l3 := j1.le
  have l4 := j2.le
  rw [List.zip_cons_cons, ckS_cons] at hc
  rw [List.zip_cons_cons, resS]
  cases hp : ckP s x ⟨c, g⟩ with
  | inl f => rw [hp] at hc; cases hc
  | inr z =>
  rw [hp] at hc
  simp only at hc ⊢
  obtain ⟨m3, q1, q2⟩ := ckP_inr hp
  simp only at q1 q2
  obtain ⟨g1, g2⟩ := ckC_eq q1 he
  obtain ⟨g3, g4⟩ := ckG_eq q2
  have hez : z.names.length = z.tys.length := by rw [g3, g4]; exact g1
  obtain ⟨r, hr⟩ := ckS_names hc hez
  obtain ⟨f1, f2, f3, f4⟩ := lay_res hN h3 (fun s hs' => hs s (List.mem_cons_of_mem _ hs')) k2 (fun q p q1 q2 hp => hok q p (by omega) q2 hp) hc hez
  have rx : ∃ r, y.names = x.names ++ r := by
   rcases g2 with g2 | g2
   ·exact ⟨r, by rw [hr, g3, g2]⟩
   ·exact ⟨s.nm :: r, by rw [hr, g3, g2]; simp⟩
  have fc := lay_opt (names := x.names) (names' := y.names) h1 s1 j1 (by omega) (fun q p a1 a2 hq => hok q p a1 (by omega) hq) fun q p a1 a2 hq => by
   obtain ⟨r, hr⟩ := rx
   rw [hr]
   refine fix_app (fun e5 => ?_) r
   rcases rootO_some h1 with ⟨r1, r2⟩ | ⟨t1, r1, r2⟩
   ·rw [r2] at j1; subst r1; cases j1; omega
   ·rw [r2] at j1; subst r1
    exact walk_nam j1 (ckC_some q1).1 a1 a2 hq e5
  have fg := lay_opt (names := z.names) (names' := y.names) h2 s2 j2 (by omega) (fun q p a1 a2 hq => hok q p (by omega) (by omega) hq) fun q p a1 a2 hq => by
   rw [hr]
   refine fix_app (fun e5 => ?_) r
   rcases rootO_some h2 with ⟨r1, r2⟩ | ⟨t1, r1, r2⟩
   ·rw [r2] at j2; subst r1; cases j2; omega
   ·rw [r2] at j2; subst r1
    rw [g3]
    exact walk_nam j2 (ckG_some q2).1 a1 a2 hq e5
  refine ⟨by simp only [a3_]; rw [f1], ?_, ?_, ?_⟩
  ·rw [List.zip_cons_cons, layS]
   simp only
   rw [fc.2, fc.1]
   simp only
   rw [show i + (m2 - i) = m2 by omega, fg.2, fg.1]
   simp only
   rw [show m2 + (m - m2) = m by omega, f2]
   simp only
   rw [seg_cat (by omega : i ≤ m) l2, seg_cat l3 l4, List.map_append, List.map_append]
  ·rw [List.zip_cons_cons, ckS_cons]
   have : ckP s x ⟨c.map (resT x.names), g.map (resT z.names)⟩ = .inr z := by
    unfold ckP
    simp only
    rw [ckC_res he, q1]
    simp only
    rw [g3, ckG_res g1, q2]
   rw [this]
   exact f3
  ·rw [List.flatMap_cons, pos_append, List.length_append, f4]
   have p1 : ∀ {o : Option Tr} {nm : List ByteArray} {a : Nat}, (pos (o.map (resT nm)).toList).length = (layO a (o.map (resT nm))).1.length := by
    intro o nm a
    cases o with
    | none => rfl
    | some t => simp only [Option.map_some, Option.toList_some, layO, pos, a7_]; rw [layF_len]
   have p2 : (pos (trs ⟨c.map (resT x.names), g.map (resT z.names)⟩)).length = m - i := by
    unfold trs
    simp only
    rw [pos_append, List.length_append, p1 (a := i), fc.2, p1 (a := m2), fg.2]; omega
   rw [p2]; omega
mutual
theorem goodT_res {names : List ByteArray} {L : Nat} (hL : names.length = L) : ∀ t : Tr, goodT L t → goodT L (resT names t)
 | .con .., h => h
 | .att n, h => h
 | .lt n, h => h
 | .nam tx at_, _ => by
  rw [resT]
  rcases resN_cases names tx with e | ⟨i, e, hi⟩ | ⟨i, e, hi⟩ <;> rw [e] <;> simp only [Option.getD_none, Option.getD_some, goodT]
  ·omega
  ·omega
 | .op o kids at_, h => by
  simp only [goodT] at h
  rw [resT]
  simp only [goodT]
  rw [resTs_len]
  exact ⟨h.1, h.2.1, goodTs_res hL kids h.2.2⟩
theorem goodTs_res {names : List ByteArray} {L : Nat} (hL : names.length = L) : ∀ l : List Tr, goodTs L l → goodTs L (resTs names l)
 | [], _ => by simp only [resTs, goodTs]
 | t :: l, h => by
  simp only [goodTs] at h
  simp only [resTs, goodTs]
  exact ⟨goodT_res hL t h.1, goodTs_res hL l h.2⟩
end
theorem topK_res {names : List ByteArray} {t : Tr} (h : topK t) : topK (resT names t) := by
 cases t with
 | con k n tx xs at_ => exact h
 | att n => exact h
 | lt n => exact h
 | nam tx at_ =>
  rw [resT]
  rcases resN_cases names tx with e | ⟨i, e, hi⟩ | ⟨i, e, hi⟩ <;> rw [e] <;> simp only [Option.getD_none, Option.getD_some, topK]
  omega
 | op o kids at_ => rw [resT]; simp only [topK]
theorem ckC_names {s : PS} {x y : CK} {o : Option Tr} (h : ckC s x o = .inr y) : y.names = if s.k = 1 ∧ o.isSome = true then x.names ++ [s.nm] else x.names := by
 cases o with
 | none => simp only [ckC] at h; cases h; simp
 | some t =>
  simp only [ckC] at h
  split at h
  ·cases h
  ·split at h
   ·rename_i e
    split at h
    ·cases h
    ·cases h; simp [e]
   ·rename_i e
    split at h
    ·cases h
    ·cases h; simp [e]
theorem resS_len : ∀ {l : List (PS × PT)} {x y : CK}, ckS l x = .inr y → (resS l x).length = l.length
 | [], x, y, h => rfl
 | (s, p) :: l, x, y, h => by
  rw [ckS_cons] at h
  rw [resS]
  cases hp : ckP s x p with
  | inl f => rw [hp] at h; cases h
  | inr z =>
   rw [hp] at h
   simp only [a3_]
   rw [resS_len h]
theorem goodS_res : ∀ {l : List (PS × PT)} {x y : CK} {L : Nat}, GoodS L l → ckS l x = .inr y → x.names.length = L → x.names.length = x.tys.length → GoodS L ((l.map (·.1)).zip (resS l x))
 | [], x, y, L, _, _, _, _ => by simp [GoodS]
 | (s, p) :: l, x, y, L, hg, hc, hL, he => by
  simp only [GoodS] at hg
  obtain ⟨g1, ⟨g2, g3⟩, g4, g5⟩ := hg
  rw [ckS_cons] at hc
  rw [resS]
  cases hp : ckP s x p with
  | inl f => rw [hp] at hc; cases hc
  | inr z =>
  rw [hp] at hc
  simp only at hc
  obtain ⟨m, q1, q2⟩ := ckP_inr hp
  obtain ⟨e1, e2⟩ := ckC_eq q1 he
  obtain ⟨e3, e4⟩ := ckG_eq q2
  have hn := ckC_names q1
  have hz : z.names.length = (if s.k = 1 then L + 1 else L) := by
   rw [e3, hn]
   by_cases hk : s.k = 1
   ·have : 0 ≤ s.c := by
     unfold stmtP at g1
     rw [if_pos hk] at g1
     exact g1.2.2.1
    rw [if_pos ⟨hk, g2.2 this⟩, if_pos hk]; simp [hL]
   ·rw [if_neg (fun q => hk q.1), if_neg hk, hL]
  rw [b2_, List.zip_cons_cons]
  simp only [GoodS]
  refine ⟨?_, ⟨by simpa using g2, by simpa using g3⟩, fun t ht => ?_, ?_⟩
  ·have hl := resS_len hc
   have : ((l.map (·.1)).zip (resS l z)).isEmpty = l.isEmpty := by
    cases l with
    | nil => rfl
    | cons a l => cases hr : resS (a :: l) z with
     | nil => rw [hr] at hl; simp at hl
     | cons b r => rfl
   rw [this]; exact g1
  ·unfold trs at ht g4
   simp only at ht g4
   rcases List.mem_append.1 ht with ht | ht
   ·cases hc2 : p.c with
    | none => rw [hc2] at ht; simp at ht
    | some u =>
     rw [hc2] at ht
     simp at ht
     subst ht
     have := g4 u (by rw [hc2]; simp)
     exact ⟨goodT_res hL u this.1, topK_res this.2⟩
   ·cases hc2 : p.g with
    | none => rw [hc2] at ht; simp at ht
    | some u =>
     rw [hc2] at ht
     simp at ht
     subst ht
     have := g4 u (by rw [hc2]; simp)
     by_cases hk : s.k = 1
     ·exfalso
      unfold stmtP at g1
      rw [if_pos hk] at g1
      have h1 := g3.1 (by rw [hc2]; rfl)
      omega
     ·rw [if_neg hk] at hz
      exact ⟨goodT_res hz u this.1, topK_res this.2⟩
  ·exact goodS_res g5 hc hz (by rw [e3, e4]; exact e1)
instance decPV (a b : PV) : Decidable (a = b) := decidable_of_iff (a.k = b.k ∧ a.n = b.n ∧ a.tx = b.tx ∧ a.xs = b.xs) ⟨fun ⟨h1, h2, h3, h4⟩ => by cases a; cases b; simp_all, fun h => by rw [h]; exact ⟨rfl, rfl, rfl, rfl⟩⟩
def posV : List PV → PV → Option Nat
 | [], _ => none
 | x :: l, v => if x = v then some 0 else (posV l v).map (· + 1)
structure CS where
 pool : List PV
 ins : List (Int × Int)
def pushP (v : PV) (s : CS) : CS := match posV s.pool v with
 | some i => ⟨s.pool, s.ins ++ [(1, (i : Int))]⟩
 | none => ⟨s.pool ++ [v], s.ins ++ [(1, (s.pool.length : Int))]⟩
def putP (o a : Int) (s : CS) : CS := ⟨s.pool, s.ins ++ [(o, a)]⟩
def markP (f : Nat) (s : CS) : CS := ⟨s.pool, s.ins.set f ((s.ins.getD f (0, 0)).1, (s.ins.length : Int))⟩
def boolP (b : Int) : PV := ⟨1, b, ⟨#[]⟩, []⟩
def opcO (o : Int) : Int := o - 3
def exP : Tr → CS → CS
 | .con k n tx xs _, s => pushP ⟨k, n, tx, xs⟩ s
 | .att n, s => putP 2 n s
 | .lt n, s => putP 3 n s
 | .nam _ _, s => s
 | .op o [a] _, s => putP (opcO o) 0 (exP a s)
 | .op o [a, b] _, s =>
  if o = 25 then markP (exP b (putP 23 0 (exP a s))).ins.length (pushP (boolP 0) (markP (exP a s).ins.length (putP 22 0 (exP b (putP 23 0 (exP a s))))))
  else if o = 26 then markP (pushP (boolP 1) (putP 23 0 (exP a s))).ins.length (exP b (markP (exP a s).ins.length (putP 22 0 (pushP (boolP 1) (putP 23 0 (exP a s))))))
  else putP (opcO o) 0 (exP b (exP a s))
 | .op _ [a, b, c] _, s => markP (exP b (putP 23 0 (exP a s))).ins.length (exP c (markP (exP a s).ins.length (putP 22 0 (exP b (putP 23 0 (exP a s))))))
 | .op _ _ _, s => s
inductive RI where
 | push (v : PV)
 | ins (o a : Int)
mutual
def szT : Tr → Nat
 | .op o kids _ => 1 + szTs kids + (if o = 25 ∨ o = 26 then 2 else if o = 27 then 1 else 0)
 | _ => 1
def szTs : List Tr → Nat
 | [] => 0
 | t :: l => szT t + szTs l
end
def refT : Tr → Nat → List RI
 | .con k n tx xs _, _ => [.push ⟨k, n, tx, xs⟩]
 | .att n, _ => [.ins 2 n]
 | .lt n, _ => [.ins 3 n]
 | .nam _ _, _ => []
 | .op o [a] _, at_ => refT a at_ ++ [.ins (opcO o) 0]
 | .op o [a, b] _, at_ =>
  if o = 25 then refT a at_ ++ [.ins 23 ((at_ + szT a + szT b + 2 : Nat) : Int)] ++ refT b (at_ + szT a + 1) ++ [.ins 22 ((at_ + szT a + szT b + 3 : Nat) : Int)] ++ [.push (boolP 0)]
  else if o = 26 then refT a at_ ++ [.ins 23 ((at_ + szT a + 3 : Nat) : Int), .push (boolP 1)] ++ [.ins 22 ((at_ + szT a + 3 + szT b : Nat) : Int)] ++ refT b (at_ + szT a + 3)
  else refT a at_ ++ refT b (at_ + szT a) ++ [.ins (opcO o) 0]
 | .op _ [a, b, c] _, at_ => refT a at_ ++ [.ins 23 ((at_ + szT a + szT b + 2 : Nat) : Int)] ++ refT b (at_ + szT a + 1) ++ [.ins 22 ((at_ + szT a + szT b + 2 + szT c : Nat) : Int)] ++ refT c (at_ + szT a + szT b + 2)
 | .op _ _ _, _ => []
def poolR : List RI → List PV → List PV
 | [], p => p
 | .push v :: l, p => match posV p v with
  | some _ => poolR l p
  | none => poolR l (p ++ [v])
 | .ins _ _ :: l, p => poolR l p
def insR : List RI → List PV → List (Int × Int)
 | [], _ => []
 | .push v :: l, p => match posV p v with
  | some i => (1, (i : Int)) :: insR l p
  | none => (1, (p.length : Int)) :: insR l (p ++ [v])
 | .ins o a :: l, p => (o, a) :: insR l p
def passR (l : List RI) (s : CS) : CS := ⟨poolR l s.pool, s.ins ++ insR l s.pool⟩
mutual
def okT : Tr → Prop
 | .op o kids _ => (kids.length : Int) = kidsF o ∧ 1 ≤ kids.length ∧ okTs kids
 | .nam _ _ => False
 | _ => True
def okTs : List Tr → Prop
 | [] => True
 | t :: l => okT t ∧ okTs l
end
def decP (g : Option Tr) (s : CS) : CS := match g with
 | none => putP 24 0 s
 | some t => putP 25 0 (exP t s)
def cmpP : List (PS × PT) → Int → CS → Int × CS
 | [], sl, s => (sl, s)
 | (p, ⟨c, g⟩) :: l, sl, s =>
  let s1 := match c with
   | none => s
   | some t => exP t s
  if p.k = 1 then cmpP l (sl + 1) (putP 4 sl s1)
  else if p.k = 2 then cmpP l sl (markP s1.ins.length (decP g (putP 23 0 s1)))
  else cmpP l sl (decP g s1)
def decL (g : Option Tr) (at_ : Nat) : List RI := match g with
 | none => [.ins 24 0]
 | some t => refT t at_ ++ [.ins 25 0]
def cmpL : List (PS × PT) → Int → List RI → Int × List RI
 | [], sl, all => (sl, all)
 | (p, ⟨c, g⟩) :: l, sl, all =>
  let a1 := match c with
   | none => all
   | some t => all ++ refT t all.length
  if p.k = 1 then cmpL l (sl + 1) (a1 ++ [.ins 4 sl])
  else if p.k = 2 then cmpL l sl (a1 ++ [.ins 23 ((a1.length + 1 + (decL g (a1.length + 1)).length : Nat) : Int)] ++ decL g (a1.length + 1))
  else cmpL l sl (a1 ++ decL g a1.length)
def okS (l : List (PS × PT)) : Prop := ∀ q ∈ l, (∀ t, q.2.c = some t → okT t) ∧ ∀ t, q.2.g = some t → okT t
theorem policyTrees_f {w : World} (hT : Tab w 6 constF) (hR0 : STab w 4 words) {A A2 : Option Addr} {n c n2 c2 : Nat} {nv : List PN} {sv : List PS} (h : PolR w A n A2 n2 nv sv) (hn : n ≤ 9223372036854775807) (hn2 : n2 ≤ 9223372036854775807) :
  FC Tryz.prog 48 [polV A n c A2 n2 c2] w fun v w' => ∃ (B : Option Addr) (m d : Nat) (b : Bool), v = .tuple ⟨[.slice B m d, .bool b]⟩ ∧ (b = true ↔ policyP false nv sv) ∧
   (b = true → ∃ acc, runS nv (fun _ => leafU) sv 0 0 [] = some (acc, nv.length) ∧ LaidS w' B m d sv acc) := by
 refine FC.intro (cs := []) Tryz.func48 (by kernel_rfl) fun E R hE hr hR => ?_
 conv => cbv
 refine st_box hr fun a w1 hx hb0 => ?_
 have hb := hb0 _ (n1_ _)
 conv => cbv
 (refine st_fld hE fIPol0 fun p hp => ?_; (conv => cbv); refine st_load hE cINs (by rw [hp]; exact (hb).at _ _ rfl) ?_; (conv => cbv))
 (refine st_fld hE fIPol1 fun p hp => ?_; (conv => cbv); refine st_load hE cISs (by rw [hp]; exact (hb).at _ _ rfl) ?_; (conv => cbv))
 refine st_f hr (trees_f (cN' := c) (c2 := c2) (hT.ext hx) (hR0.ext hx) (h.ext hx) hn hn2 (leafU_a (hR0.ext hx))) fun v w2 hx2 ⟨B, m, d, b, ev, h1, h2⟩ => ?_
 subst ev
 rw [← policyU_iff] at h1
 conv => cbv
 rw [hR]; exact ⟨hx.trans hx2, B, m, d, b, rfl, h1, h2⟩
def ValM (w : World) (v : VV) : Prop := Strs w v.A v.m v.c v.p.xs ∧ v.p.tx.size ≤ 9223372036854775807
theorem ValM.ext {w w' : World} {v : VV} (h : ValM w v) (hx : Ext w w') : ValM w' v := ⟨h.1.ext hx, h.2⟩
section
variable {E : Sym} {w : World} {K : Value → World → Prop} {d : Option Tmp} {ty : TypeId} {pos : String} {aft : Array Edge} {g : Option (Nat × Bool)} {bq : Bool}
end
def trV (b : Bool) : VV := ⟨⟨1, if b = true then 1 else 0, ⟨#[]⟩, []⟩, none, 0, 0⟩
section
variable {E : Sym} {w : World} {K : Value → World → Prop} {d : Option Tmp} {ty : TypeId} {pos : String} {aft : Array Edge} {g : Option (Nat × Bool)} {bq : Bool}
end
def Dj (a b : Option Addr) : Prop := ∀ g, blk a = some g → blk b ≠ some g
theorem Dj.symm {a b : Option Addr} (h : Dj a b) : Dj b a := fun g h1 h2 => h g h2 h1
theorem dj_apart {B : Nat} {e : TypeId} {k : Nat} {w : World} {A X : Option Addr} {m c : Nat} {xs : List Value} (hA : Own B e k w A m c xs) (h : Dj A X) : Apart A X := by
 obtain rfl | ⟨g, rfl, _, _⟩ := hA.blk
 ·exact .inl rfl
 ·exact .inr fun q => h g rfl (by rw [← q]; rfl)
theorem dj_new {B B' : Nat} {e e' : TypeId} {k k' : Nat} {w w' : World} {A X : Option Addr} {m c m' c' : Nat} {xs ys : List Value} (hA : Own B e k w A m c xs) (hX : Own B' e' k' w' X m' c' ys) (h : w.heap.size ≤ B') : Dj A X := fun g h1 h2 => by
 have := (own_blk hA g h1).2
 have := (own_blk hX g h2).1
 omega
structure CSt (w : World) (R : List (Option Addr)) (w' : World) (R' : List (Option Addr)) : Prop where
 os : w'.os = w.os
 tape : w'.tape = w.tape
 output : w'.output = w.output
 size : w.heap.size ≤ w'.heap.size
 keep : ∀ b, b < w.heap.size → (∀ x ∈ R, blk x ≠ some b) → w'.heap[b]? = w.heap[b]?
 new : ∀ x ∈ R', ∀ g, blk x = some g → (∃ y ∈ R, blk y = some g) ∨ w.heap.size ≤ g
theorem CSt.refl (w : World) (R : List (Option Addr)) : CSt w R w R := ⟨rfl, rfl, rfl, n1_ _, fun _ _ _ => rfl, fun x hx g hg => .inl ⟨x, hx, hg⟩⟩
theorem CSt.trans {a b c : World} {R S T : List (Option Addr)} (h : CSt a R b S) (k : CSt b S c T) : CSt a R c T := by
 refine ⟨k.os.trans h.os, k.tape.trans h.tape, k.output.trans h.output, n2_ h.size k.size, fun i hi hn => ?_, fun x hx g hg => ?_⟩
 ·rw [k.keep i (n3_ hi h.size) (fun x hx e => by
   rcases h.new x hx i e with ⟨y, hy, e2⟩ | q
   ·exact hn y hy e2
   ·omega), h.keep i hi hn]
 ·rcases k.new x hx g hg with ⟨y, hy, e⟩ | q
  ·exact h.new y hy g e
  ·exact .inr (n2_ h.size q)
theorem CSt.of_ext {w w' : World} (h : Ext w w') (R : List (Option Addr)) : CSt w R w' R := ⟨h.os, h.tape, h.output, h.size, fun b hb _ => h.block b hb, fun x hx g hg => .inl ⟨x, hx, hg⟩⟩
theorem CSt.of_wr {w w' : World} {x : Option Addr} {R : List (Option Addr)} (h : Wr x w w') (hx : x ∈ R) : CSt w R w' R :=
 ⟨h.os, h.tape, h.output, h.size, fun b hb hn => h.block b hb (fun e => hn x hx e.symm), fun x hx g hg => .inl ⟨x, hx, hg⟩⟩
theorem CSt.of_gro {w w' : World} {A A' : Option Addr} {R R' : List (Option Addr)} (h : Gro w A w' A') (hA : A ∈ R) (hR : ∀ x ∈ R', x = A' ∨ x ∈ R) : CSt w R w' R' :=
 ⟨h.wr.os, h.wr.tape, h.wr.output, h.wr.size, fun b hb hn => h.wr.block b hb (fun e => hn A hA e.symm), fun x hx g hg => by
  rcases hR x hx with rfl | hx
  ·rcases h.at_ with e | ⟨b, e, hb⟩
   ·exact .inl ⟨A, hA, by rw [← e, hg]⟩
   ·rw [e] at hg; cases hg; exact .inr hb
  ·exact .inl ⟨x, hx, hg⟩⟩
theorem CSt.own {w w' : World} {R R' : List (Option Addr)} (h : CSt w R w' R') {B k m c : Nat} {e : TypeId} {X : Option Addr} {xs : List Value} (hX : Own B e k w X m c xs) (hd : ∀ r ∈ R, Dj r X) : Own B e k w' X m c xs ∧ ∀ r ∈ R', Dj r X := by
 refine ⟨own_keep hX fun g hg => h.keep g (own_blk hX g hg).2 (fun x hx e => hd x hx g e hg), fun r hr g hg e => ?_⟩
 rcases h.new r hr g hg with ⟨y, hy, q⟩ | q
 ·exact hd y hy g q e
 ·have := (own_blk hX g e).2; omega
theorem CSt.ext0 {w0 w w' : World} {R R' : List (Option Addr)} (h : CSt w R w' R') (h0 : Ext w0 w) (hR : ∀ r ∈ R, ∀ g, blk r = some g → w0.heap.size ≤ g) : Ext w0 w' :=
 h0.then ⟨h.os, h.tape, h.output, h.size, fun i hi => h.keep i (n3_ hi h0.size) (fun x hx e => by have := hR x hx i e; omega)⟩
structure CB (w0s : Nat) (q : Addr) : Prop where
 lo : w0s ≤ q.block
 eq : blk (some q) = some q.block
def rws (q : Addr) (P I : Option Addr) : List (Option Addr) := [some q, P, I]
section
variable {w0s : Nat} {w w' : World} {q : Addr} {P : Option Addr} {pn pc : Nat} {sl : Int} {I : Option Addr} {n ic : Nat} {vs : List VV} {is : List (Int × Int)}
end
structure Sub where
 A : Option Addr
 m : Nat
 c : Nat
 e : TypeId
 xs : List Value
theorem pw_get {β : Type} {R : β → β → Prop} (hs : ∀ a b, R a b → R b a) {l : List β} (h : l.Pairwise R) {i j : Nat} {a b : β} (hi : l[i]? = some a) (hj : l[j]? = some b) (hne : i ≠ j) : R a b := by
 obtain ⟨h1, e1⟩ := List.getElem?_eq_some_iff.1 hi
 obtain ⟨h2, e2⟩ := List.getElem?_eq_some_iff.1 hj
 subst e1; subst e2
 rcases Nat.lt_or_gt_of_ne hne with q | q
 ·exact List.pairwise_iff_getElem.1 h i j h1 h2 q
 ·exact hs _ _ (List.pairwise_iff_getElem.1 h j i h2 h1 q)
structure DJ (A : Option Addr) (ls : List (List (Option Addr))) : Prop where
 rowd : ∀ l ∈ ls, ∀ a ∈ l, Dj A a
 own : ∀ l ∈ ls, l.Pairwise Dj
 pw : ls.Pairwise fun la lb => ∀ a ∈ la, ∀ b ∈ lb, Dj a b
def adr {α : Type} (sb : α → List Sub) (v : α) : List (Option Addr) := (sb v).map (·.A)
structure RO {α : Type} (e : TypeId) (k : Nat) (f : α → List Value) (sb : α → List Sub) (B : Nat) (w : World) (A : Option Addr) (n c : Nat) (vs : List α) : Prop where
 row : Own B e k w A n c (vs.flatMap f)
 sub : ∀ v ∈ vs, ∀ s ∈ sb v, Own B s.e 1 w s.A s.m s.c s.xs
 dj : DJ A (vs.map (adr sb))
def roA {α : Type} (sb : α → List Sub) (A : Option Addr) (vs : List α) : List (Option Addr) := A :: vs.flatMap (adr sb)
section
variable {α : Type} {e : TypeId} {k : Nat} {f : α → List Value} {sb : α → List Sub} {B : Nat} {w w' : World} {A : Option Addr} {n c : Nat} {vs : List α}
theorem RO.ext (h : RO e k f sb B w A n c vs) (hx : Ext w w') : RO e k f sb B w' A n c vs := ⟨h.row.bel hx, fun v hv s hs => (h.sub v hv s hs).bel hx, h.dj⟩
theorem RO.low {B' : Nat} (h : RO e k f sb B w A n c vs) (hB : B' ≤ B) : RO e k f sb B' w A n c vs := ⟨h.row.mono hB, fun v hv s hs => (h.sub v hv s hs).mono hB, h.dj⟩
theorem fset {α : Type} {f : α → List Value} {k : Nat} (hf : ∀ v, (f v).length = k) : ∀ (xs : List α) (i : Nat) (x y : α) (j : Nat) (v : Value), xs[i]? = some x → j < k → f y = (f x).set j v → (xs.flatMap f).set (i * k + j) v = (xs.set i y).flatMap f
 | [], i, x, y, j, v, h, _, _ => by simp at h
 | z :: zs, 0, x, y, j, v, h, hj, he => by
  simp at h; subst h
  rw [List.flatMap_cons, List.set_append_left _ _ (by rw [hf]; omega), b4_, List.flatMap_cons, he]; simp
 | z :: zs, i + 1, x, y, j, v, h, hj, he => by
  simp only [List.getElem?_cons_succ] at h
  rw [List.flatMap_cons, List.set_append_right _ _ (by rw [hf, Nat.add_mul]; omega), b5_, List.flatMap_cons, ← fset hf zs i x y j v h hj he]
  congr 2
  rw [hf, Nat.add_mul]; omega
theorem fset0 {α : Type} {f : α → List Value} : ∀ (xs : List α) (i : Nat) (x y : α), xs[i]? = some x → f y = f x → (xs.set i y).flatMap f = xs.flatMap f
 | [], i, x, y, h, _ => by simp at h
 | z :: zs, 0, x, y, h, he => by simp at h; subst h; simp [he]
 | z :: zs, i + 1, x, y, h, he => by
  simp only [List.getElem?_cons_succ] at h
  rw [b5_, List.flatMap_cons, List.flatMap_cons, fset0 zs i x y h he]
theorem map_set {α β : Type} {g : α → β} {xs : List α} {i : Nat} {x y : α} (h : xs[i]? = some x) (he : g y = g x) : (xs.set i y).map g = xs.map g := by
 apply List.ext_getElem?
 intro j
 rw [List.getElem?_map, List.getElem?_map]
 by_cases hij : i = j
 ·subst hij
  rw [List.getElem?_set_self ((List.getElem?_eq_some_iff.1 h).1), h]
  simp [he]
 ·rw [List.getElem?_set_ne hij]
theorem RO.put (hf : ∀ v, (f v).length = k) (h : RO e k f sb B w A n c vs) {i j : Nat} {x y : α} {v : Value} (hi : vs[i]? = some x) (hj : j < k) (hy : f y = (f x).set j v) (hs : sb y = sb x) (hw : Wr A w w') (ho : Own B e k w' A n c ((vs.flatMap f).set (i * k + j) v)) : RO e k f sb B w' A n c (vs.set i y) := by
 rw [fset hf vs i x y j v hi hj hy] at ho
 have hk := map_set (g := adr sb) hi (y := y) (by unfold adr; rw [hs])
 have old : ∀ u ∈ vs, ∀ s ∈ sb u, Own B s.e 1 w' s.A s.m s.c s.xs := fun u hu s hsu =>
  (h.sub u hu s hsu).wr hw (dj_apart (h.sub u hu s hsu) (h.dj.rowd _ (List.mem_map.2 ⟨u, hu, rfl⟩) _ (List.mem_map.2 ⟨s, hsu, rfl⟩)).symm)
 refine ⟨ho, fun u hu s hsu => ?_, by rw [hk]; exact h.dj⟩
 rcases List.mem_or_eq_of_mem_set hu with hu | rfl
 ·exact old u hu s hsu
 ·exact old x (m1_ hi) s (hs ▸ hsu)
theorem RO.putS (h : RO e k f sb B w A n c vs) {i q : Nat} {x y : α} {s s' : Sub} (hi : vs[i]? = some x) (hy : f y = f x) (hq : (sb x)[q]? = some s) (hs : sb y = (sb x).set q s') (hA : s'.A = s.A) (hw : Wr s.A w w') (ho : Own B s'.e 1 w' s'.A s'.m s'.c s'.xs) : RO e k f sb B w' A n c (vs.set i y) := by
 have hadr : adr sb y = adr sb x := by unfold adr; rw [hs]; exact map_set hq hA
 have hk := map_set (g := adr sb) hi (y := y) hadr
 have hsA : s.A ∈ adr sb x := List.mem_map.2 ⟨s, m1_ hq, rfl⟩
 have hxm : adr sb x ∈ vs.map (adr sb) := List.mem_map.2 ⟨x, m1_ hi, rfl⟩
 have hd := h.dj.rowd _ hxm _ hsA
 refine ⟨?_, fun u hu t ht => ?_, by rw [hk]; exact h.dj⟩
 ·rw [fset0 vs i x y hi hy]
  exact h.row.wr hw (dj_apart h.row hd)
 ·obtain ⟨j, hj⟩ := List.mem_iff_getElem?.1 hu
  by_cases hij : i = j
  ·subst hij
   rw [List.getElem?_set_self ((List.getElem?_eq_some_iff.1 hi).1)] at hj
   cases hj
   rw [hs] at ht
   obtain ⟨r, hr⟩ := List.mem_iff_getElem?.1 ht
   by_cases hrq : q = r
   ·subst hrq
    rw [List.getElem?_set_self ((List.getElem?_eq_some_iff.1 hq).1)] at hr
    cases hr; exact ho
   ·rw [List.getElem?_set_ne hrq] at hr
    have o1 := h.sub x (m1_ hi) t (m1_ hr)
    have d1 : Dj t.A s.A := pw_get (fun _ _ h => h.symm) (h.dj.own _ hxm) (i := r) (j := q) (by unfold adr; rw [List.getElem?_map, hr]; rfl) (by unfold adr; rw [List.getElem?_map, hq]; rfl) (fun e => hrq e.symm)
    exact o1.wr hw (dj_apart o1 d1)
  ·rw [List.getElem?_set_ne hij] at hj
   have o1 := h.sub u (m1_ hj) t ht
   have d1 := pw_get (R := fun la lb => ∀ a ∈ la, ∀ b ∈ lb, Dj a b) (fun _ _ h a ha b hb => (h b hb a ha).symm) h.dj.pw (i := j) (j := i) (by rw [List.getElem?_map, hj]; rfl) (by rw [List.getElem?_map, hi]; rfl) (fun e => hij e.symm) t.A (List.mem_map.2 ⟨t, ht, rfl⟩) s.A hsA
   exact o1.wr hw (dj_apart o1 d1)
theorem RO.lo (h : RO e k f sb B w A n c vs) : ∀ r ∈ roA sb A vs, ∀ g, blk r = some g → B ≤ g ∧ g < w.heap.size := fun r hr g hg => by
 rcases List.mem_cons.1 hr with rfl | hr
 ·exact own_blk h.row g hg
 ·obtain ⟨v, hv, hr⟩ := List.mem_flatMap.1 hr
  obtain ⟨s, hs, rfl⟩ := List.mem_map.1 hr
  exact own_blk (h.sub v hv s hs) g hg
theorem RO.len (hf : ∀ v, (f v).length = k) (hk : 0 < k) (h : RO e k f sb B w A n c vs) : vs.length = n := by
 have := h.row.len
 rw [fl_len hf] at this
 exact Nat.eq_of_mul_eq_mul_right hk this
theorem RO.keepR (h : RO e k f sb B w A n c vs) {R : List (Option Addr)} (hc : CSt w R w' R) (hd : ∀ r ∈ R, ∀ a ∈ roA sb A vs, Dj r a) : RO e k f sb B w' A n c vs :=
 ⟨(hc.own h.row fun r hr => hd r hr _ (List.mem_cons_self ..)).1, fun v hv s hs => (hc.own (h.sub v hv s hs) fun r hr => hd r hr _ (List.mem_cons_of_mem _ (List.mem_flatMap.2 ⟨v, hv, List.mem_map.2 ⟨s, hs, rfl⟩⟩))).1, h.dj⟩
end
section
variable {α : Type} (mk : α → Int → α) (ct : α → Nat)
def mkL : List α → Int → List α
 | [], _ => []
 | v :: l, z => mk v z :: mkL l (z + ct v)
def ctL : List α → Nat
 | [] => 0
 | v :: l => ct v + ctL l
variable {mk ct}
theorem mkL_len : ∀ (l : List α) (z : Int), (mkL mk ct l z).length = l.length
 | [], _ => rfl
 | v :: l, z => by simp [mkL, mkL_len l]
theorem ctL_append : ∀ (l m : List α), ctL ct (l ++ m) = ctL ct l + ctL ct m
 | [], m => by simp [ctL]
 | v :: l, m => by rw [List.cons_append, ctL, ctL, ctL_append l m]; omega
theorem mkL_append : ∀ (l m : List α) (z : Int), mkL mk ct (l ++ m) z = mkL mk ct l z ++ mkL mk ct m (z + ctL ct l)
 | [], m, z => by simp [mkL, ctL]
 | v :: l, m, z => by rw [List.cons_append, mkL, mkL, mkL_append l m, List.cons_append, ctL]; congr 3; push_cast; omega
theorem ctL_take {l : List α} {i : Nat} {x : α} (h : l[i]? = some x) : ctL ct (l.take (i + 1)) = ctL ct (l.take i) + ct x := by
 rw [g4_, h, ctL_append]; simp [ctL]
theorem ctL_le (l : List α) (i : Nat) : ctL ct (l.take i) ≤ ctL ct l := by
 have e : ctL ct l = ctL ct (l.take i) + ctL ct (l.drop i) := by rw [← ctL_append, List.take_append_drop]
 omega
theorem mkL_mid {l : List α} {i : Nat} {x : α} (z : Int) (h : l[i]? = some x) : (mkL mk ct (l.take i) z ++ l.drop i)[i]? = some x := by
 have := (List.getElem?_eq_some_iff.1 h).1
 rw [List.getElem?_append_right (by rw [mkL_len, List.length_take]; omega), mkL_len, List.length_take, Nat.min_eq_left (by omega), Nat.sub_self, List.getElem?_drop]
 simpa using h
theorem mkL_set {l : List α} {i : Nat} {x : α} (z : Int) (h : l[i]? = some x) : (mkL mk ct (l.take i) z ++ l.drop i).set i (mk x (z + ctL ct (l.take i))) = mkL mk ct (l.take (i + 1)) z ++ l.drop (i + 1) := by
 have hl := (List.getElem?_eq_some_iff.1 h).1
 rw [List.set_append_right _ _ (by rw [mkL_len, List.length_take]; omega), mkL_len, List.length_take, Nat.min_eq_left (by omega), Nat.sub_self, drop_cons h, b4_, g4_, h, mkL_append]
 simp [mkL]
theorem mkL_get {l : List α} {i : Nat} {x : α} (z : Int) (h : l[i]? = some x) : (mkL mk ct l z)[i]? = some (mk x (z + ctL ct (l.take i))) := by
 have hl := (List.getElem?_eq_some_iff.1 h).1
 have e := mkL_append (mk := mk) (ct := ct) (l.take i) (l.drop i) z
 rw [List.take_append_drop] at e
 rw [e, List.getElem?_append_right (by rw [mkL_len, List.length_take]; omega), mkL_len, List.length_take, Nat.min_eq_left (by omega), Nat.sub_self, drop_cons h, mkL]
 rfl
end
theorem cInts1 : Cel Tryz.prog 29 := ⟨_, Tryz.underlying29, by simp, by simp⟩
def imarks (k : Int) (n : Nat) : List Int := (List.range n).map fun (i : Nat) => k + i
theorem imarks_len (k : Int) (n : Nat) : (imarks k n).length = n := by simp [imarks]
theorem imarks_get {k : Int} {n i : Nat} (h : i < n) : (imarks k n)[i]? = some (k + i) := by simp [imarks, h]
theorem ints_of_own {B : Nat} {w : World} {A : Option Addr} {n c : Nat} {xs : List Int} (h : Own B 3 1 w A n c (xs.map (.int .i64))) : Ints w A n c xs :=
 ⟨by have := h.len; rw [List.length_map] at this; omega, h.le, h.cap, h.cells⟩
theorem markIntS_g {w : World} {B : Nat} {A : Option Addr} {n c : Nat} {xs : List Int} (h : Own B 3 1 w A n c (xs.map (.int .i64))) (k : Int) (hk : 0 ≤ k) (hkn : k + n < 9223372036854775807) :
  GC Tryz.prog 57 [.slice A n c, .int .i64 k] w fun v w' => v = .int .i64 (k + n) ∧ Own B 3 1 w' A n c ((imarks k n).map (.int .i64)) ∧ Wr A w w' := by
 refine GC.intro (cs := []) Tryz.func57 (by kernel_rfl) fun E R hE hr hR => ?_
 have hl := h.len
 rw [List.length_map, Nat.mul_one] at hl
 conv => cbv
 refine loop_rule hr (fun (s : Nat × Int × Int) w' => s.1 ≤ n ∧ s.2.1 = k + s.1 ∧ s.2.2 = s.1 ∧ Wr A w w' ∧ Own B 3 1 w' A n c ((imarks k s.1 ++ xs.drop s.1).map (.int .i64))) (fun s => [(0, .slice A n c), (1, .int .i64 s.2.1), (5, .int .i64 s.2.2)]) (fun s => n - s.1) (0, k, 0)
  (by simp [Fits, lk]) ⟨by simp, by simp, by simp, Wr.refl _ _, by simpa [imarks] using h⟩ ?_
 rintro I hI ⟨i, z, ii⟩ w' ⟨hi, hz, hii, hw, ho⟩
 simp only at hi hz hii ho
 obtain ⟨ii', hii'⟩ : ∃ z, z = ii + 1 := ⟨_, rfl⟩
 conv => cbv
 refine st_len hE tInts fun x hx => ?_
 conv => cbv
 refine br (fun h1 => ?_) (fun h1 => ?_)
 ·have h1 : i < n := by have : ii < x := by simpa [hE.cmp, cmpR] using h1
                        omega
  have ei : E.ar .add .i64 ii 1 = ii' := by rw [hii']; exact inc' hE (by omega) (by omega)
  obtain ⟨g, hg, _⟩ := ho.addr (by omega)
  conv => cbv
  refine st_idx hE tInts hg (by omega) (by omega) fun q hq => ?_
  rw [show ii.toNat = i by omega] at hq
  conv => cbv
  refine st_set hr tInts ho hg h1 hq rfl fun w3 _ hw3 ho3 => ?_
  have hw := hw.trans hw3
  obtain ⟨z', hz'⟩ : ∃ z', z' = z + 1 := ⟨_, rfl⟩
  have e1 : E.ar .add .i64 z 1 = z' := by rw [hz']; exact inc' hE (by omega) (by omega)
  conv => cbv
  simp only [e1, ei]
  refine ⟨(i + 1, z', ii'), by simp [Fits, lk], hI _ _ ⟨by simp only; omega, by simp only; omega, by simp only; omega, hw, ?_⟩, by simp only; omega⟩
  have e : (imarks k (i + 1) ++ xs.drop (i + 1)).map (Value.int .i64) = ((imarks k i ++ xs.drop i).map (Value.int .i64)).set i (.int .i64 z) := by
   rw [← List.map_set, List.set_append_right _ _ (by rw [imarks_len]; omega), imarks_len, Nat.sub_self, List.drop_eq_getElem_cons (show i < xs.length by omega)]
   simp only [b4_, imarks, List.range_succ, List.map_append, b2_, b3_, List.append_assoc, List.cons_append, a2_]
   rw [hz]
  simp only; rw [e]; exact ho3
 ·have h1 : i = n := by
   have : ¬ ii < x := by simpa [hE.cmp, cmpR] using h1
   omega
  subst h1
  rw [List.drop_of_length_le (by omega), a7_] at ho
  conv => cbv
  rw [hR]; exact ⟨by rw [hz]; rfl, ho, hw⟩
theorem heldIntS_v {w : World} {A : Option Addr} {n c : Nat} {k : Int} (h : Ints w A n c (imarks k n)) (hk : 0 ≤ k) (hkn : k + n < 9223372036854775807) :
  VF Tryz.prog 60 [.slice A n c, .int .i64 k] w (.int .i64 (k + n)) := by
 refine VF.intro (cs := []) Tryz.func60 (by kernel_rfl) fun w hx0 E R hE hr hR => ?_
 have h := h.ext hx0
 clear hx0
 have ec : ∀ z : Int, ¬ E.cmp .neq z z = true := fun z => by rw [hE.cmp]; simp [cmpR]
 conv => cbv
 refine loop_rule hr (fun (s : Nat × Int × Int) w' => s.1 ≤ n ∧ s.2.1 = k + s.1 ∧ s.2.2 = s.1 ∧ Ext w w') (fun s => [(0, .slice A n c), (1, .int .i64 s.2.1), (5, .int .i64 s.2.2)]) (fun s => n - s.1) (0, k, 0)
  (by simp [Fits, lk]) ⟨by simp, by simp, by simp, Ext.refl _⟩ ?_
 rintro I hI ⟨i, z, ii⟩ w' ⟨hi, hz, hii, hx⟩
 simp only at hi hz hii
 obtain ⟨ii', hii'⟩ : ∃ z, z = ii + 1 := ⟨_, rfl⟩
 conv => cbv
 refine st_len hE tInts fun x hxl => ?_
 conv => cbv
 refine br (fun h1 => ?_) (fun h1 => ?_)
 ·have h1 : i < n := by have : ii < x := by simpa [hE.cmp, cmpR] using h1
                        omega
  have ei : E.ar .add .i64 ii 1 = ii' := by rw [hii']; exact inc' hE (by omega) (by omega)
  have hle := h.le
  conv => cbv
  refine st_elem hE tInts (h.cells.ext hx) (by rw [List.length_map, h.len]) (by omega) (by omega) fun p v hv hp => ?_
  rw [List.getElem?_map, show ii.toNat = i by omega, imarks_get h1, ← hz] at hv
  cases hv
  conv => cbv
  refine st_load hE cInt hp ?_
  conv => cbv
  refine br (fun g => absurd g (ec z)) (fun _ => ?_)
  obtain ⟨z', hz'⟩ : ∃ z', z' = z + 1 := ⟨_, rfl⟩
  have e1 : E.ar .add .i64 z 1 = z' := by rw [hz']; exact inc' hE (by omega) (by omega)
  conv => cbv
  simp only [e1, ei]
  exact ⟨(i + 1, z', ii'), by simp [Fits, lk], hI _ _ ⟨by simp only; omega, by simp only; omega, by simp only; omega, hx⟩, by simp only; omega⟩
 ·have h1 : i = n := by
   have : ¬ ii < x := by simpa [hE.cmp, cmpR] using h1
   omega
  subst h1
  conv => cbv
  rw [hR]; exact ⟨by rw [hz]; rfl, hx⟩
end Go.Proofs.YtgnjkdkedjljjaaGreatDoor
