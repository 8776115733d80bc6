/- Texts that the law FnExactRun leans on, part 8 of 11: contracts of the functions that it reaches and plain lemmas. Each holds under the conditions that it states. -/
import Derived.Test.YtkedmcebngachaaGreatDoorMFnExactRun7
set_option maxHeartbeats 16000000
set_option linter.unusedVariables false
set_option linter.unusedSimpArgs false
namespace Go.Proofs.YtkedmcebngachaaGreatDoor
open Go.Eng
set_option linter.unusedVariables false
set_option linter.unusedSimpArgs false
theorem DJ.snoc {A : Option Addr} {ls : List (List (Option Addr))} {n : List (Option Addr)} (h : DJ A ls) (h1 : ∀ a ∈ n, Dj A a) (h2 : n.Pairwise Dj) (h3 : ∀ l ∈ ls, ∀ b ∈ n, ∀ a ∈ l, Dj a b) : DJ A (ls ++ [n]) := by
 refine ⟨fun l hl => ?_, fun l hl => ?_, List.pairwise_append.2 ⟨h.pw, by simp, fun la hla lb hlb a ha b hb => ?_⟩⟩
 ·rcases List.mem_append.1 hl with hl | hl
  ·exact h.rowd l hl
  ·simp at hl; subst hl; exact h1
 ·rcases List.mem_append.1 hl with hl | hl
  ·exact h.own l hl
  ·simp at hl; subst hl; exact h2
 ·simp at hlb; subst hlb; exact h3 la hla b hb a ha
structure OT (B : Nat) (w : World) (A : Option Addr) (n c : Nat) (A2 : Option Addr) (n2 c2 : Nat) (A3 : Option Addr) (n3 c3 : Nat) (vs : List VN) (sv : List PS) (tyl : List Int) : Prop where
 nd : RO 193 5 cN sbNode B w A n c vs
 st : Own B 108 4 w A2 n2 c2 (sv.flatMap cS)
 ty : Own B 3 1 w A3 n3 c3 (tyl.map (.int .i64))
 d12 : ∀ r ∈ roA sbNode A vs, Dj r A2
 d13 : ∀ r ∈ roA sbNode A vs, Dj r A3
 d23 : Dj A2 A3
section
variable {w0s : Nat} {w w' : World} {q : Addr} {P : Option Addr} {pn pc : Nat} {sl : Int} {I : Option Addr} {n ic : Nat} {vs : List VV} {is : List (Int × Int)}
end
section
variable {w0s : Nat} {w w' : World} {q : Addr} {P : Option Addr} {pn pc : Nat} {sl : Int} {I : Option Addr} {ic : Nat} {vs : List VV} {s : CS}
end
mutual
def fewT : Tr → Prop
 | .con _ _ _ xs _ => xs.length ≤ 100000
 | .op _ kids _ => fewTs kids
 | _ => True
def fewTs : List Tr → Prop
 | [] => True
 | t :: l => fewT t ∧ fewTs l
end
def exK : List Tr → CS → CS
 | [], s => s
 | t :: l, s => exK l (exP t s)
structure C5 where
 a : Value
 b : Value
 c : Value
 d : Value
 e : Value
def c5 (v : C5) : List Value := [v.a, v.b, v.c, v.d, v.e]
theorem c5_len (v : C5) : (c5 v).length = 5 := rfl
def opK (k : Int) : Int := if k = 2 then 1 else if k = 3 then 2 else if k = 1 then 3 else 4
mutual
def L4V (D : Nat → Prop) (w : World) : Tr → C5 → Prop
 | .con k n tx xs _, v => ∃ A m c B d, v = ⟨.int .i64 (opK k), .int .i64 n, .string tx, .slice A m c, .slice B 0 d⟩ ∧ Strs w A m c xs ∧ InD D A m ∧ tx.size ≤ 9223372036854775807
 | .att n, v => ∃ A c B d, v = ⟨.int .i64 6, .int .i64 n, .string ⟨#[]⟩, .slice A 0 c, .slice B 0 d⟩
 | .lt n, v => ∃ A c B d, v = ⟨.int .i64 7, .int .i64 n, .string ⟨#[]⟩, .slice A 0 c, .slice B 0 d⟩
 | .op o kids _, v => ∃ A c B m d vs, v = ⟨.int .i64 o, .int .i64 0, .string ⟨#[]⟩, .slice A 0 c, .slice B m d⟩ ∧ vs.length = m ∧ m ≤ d ∧ m ≤ 3 ∧ Cells w B (vs.flatMap c5) ∧ InD D B m ∧ L4Vs D w kids vs
 | .nam _ _, _ => False
def L4Vs (D : Nat → Prop) (w : World) : List Tr → List C5 → Prop
 | [], [] => True
 | t :: ts, v :: vs => L4V D w t v ∧ L4Vs D w ts vs
 | _, _ => False
end
theorem L4Vs.len {D : Nat → Prop} {w : World} : ∀ {ts : List Tr} {vs : List C5}, L4Vs D w ts vs → ts.length = vs.length
 | [], [], _ => rfl
 | t :: ts, v :: vs, h => by simp only [L4Vs] at h; simp [L4Vs.len h.2]
 | [], _ :: _, h => by simp only [L4Vs] at h
 | _ :: _, [], h => by simp only [L4Vs] at h
theorem L4Vs.get {D : Nat → Prop} {w : World} : ∀ {ts : List Tr} {vs : List C5}, L4Vs D w ts vs → ∀ (i : Nat) (t : Tr) (v : C5), ts[i]? = some t → vs[i]? = some v → L4V D w t v
 | t :: ts, v :: vs, h, 0, t', v', h1, h2 => by simp at h1 h2; subst h1; subst h2; simp only [L4Vs] at h; exact h.1
 | t :: ts, v :: vs, h, i + 1, t', v', h1, h2 => by simp only [L4Vs] at h; exact L4Vs.get h.2 i t' v' (by simpa using h1) (by simpa using h2)
 | [], [], _, i, t, v, h1, _ => by simp at h1
 | [], _ :: _, h, _, _, _, _, _ => by simp only [L4Vs] at h
 | _ :: _, [], h, _, _, _, _, _ => by simp only [L4Vs] at h
theorem L4Vs.of_get {D : Nat → Prop} {w : World} : ∀ {ts : List Tr} {vs : List C5}, ts.length = vs.length → (∀ (i : Nat) (t : Tr) (v : C5), ts[i]? = some t → vs[i]? = some v → L4V D w t v) → L4Vs D w ts vs
 | [], [], _, _ => by simp only [L4Vs]
 | t :: ts, v :: vs, h, hq => by
  simp only [L4Vs]
  exact ⟨hq 0 t v rfl rfl, L4Vs.of_get (by simpa using h) fun i t v h1 h2 => hq (i + 1) t v (by simpa using h1) (by simpa using h2)⟩
 | [], _ :: _, h, _ => by simp at h
 | _ :: _, [], h, _ => by simp at h
theorem L4Vs.snoc {D : Nat → Prop} {w : World} : ∀ {ts : List Tr} {vs : List C5} {t : Tr} {v : C5}, L4Vs D w ts vs → L4V D w t v → L4Vs D w (ts ++ [t]) (vs ++ [v])
 | [], [], t, v, _, h => by simp only [a2_, L4Vs]; exact ⟨h, trivial⟩
 | u :: ts, x :: vs, t, v, h, h2 => by simp only [List.cons_append, L4Vs] at h ⊢; exact ⟨h.1, L4Vs.snoc h.2 h2⟩
 | [], _ :: _, _, _, h, _ => by simp only [L4Vs] at h
 | _ :: _, [], _, _, h, _ => by simp only [L4Vs] at h
theorem L4V.one {D : Nat → Prop} {w : World} {t : Tr} {v : C5} (h : L4V D w t v) : ∀ x ∈ c5 v, x.oneCell' = true := by
 cases t <;> simp only [L4V] at h
 ·obtain ⟨A, m, c, B, d, rfl, _⟩ := h; simp [c5, Value.oneCell']
 ·obtain ⟨A, c, B, d, rfl⟩ := h; simp [c5, Value.oneCell']
 ·obtain ⟨A, c, B, d, rfl⟩ := h; simp [c5, Value.oneCell']
 ·obtain ⟨A, c, B, m, d, vs, rfl, _⟩ := h; simp [c5, Value.oneCell']
mutual
theorem L4V.keep {D D' : Nat → Prop} {w w' : World} (hk : Keeps D w w') (hD : ∀ b, D b → D' b) : ∀ (t : Tr) (v : C5), L4V D w t v → L4V D' w' t v
 | .con k n tx xs at_, v, h => by
  simp only [L4V] at h ⊢
  obtain ⟨A, m, c, B, d, e, h1, h2, h3⟩ := h
  exact ⟨A, m, c, B, d, e, strs_keep h1 h2 hk, fun a ha hm => hD _ (h2 a ha hm), h3⟩
 | .nam tx at_, v, h => by simp only [L4V] at h
 | .att n, v, h => by simp only [L4V] at h ⊢; exact h
 | .lt n, v, h => by simp only [L4V] at h ⊢; exact h
 | .op o kids at_, v, h => by
  simp only [L4V] at h ⊢
  obtain ⟨A, c, B, m, d, vs, e, h1, h2, h3, h4, h5, h6⟩ := h
  refine ⟨A, c, B, m, d, vs, e, h1, h2, h3, cells_keep h4 (fun a ha hm => h5 a ha ?_) hk, fun a ha hm => hD _ (h5 a ha hm), L4Vs.keep hk hD kids vs h6⟩
  rw [fl_len c5_len] at hm; omega
theorem L4Vs.keep {D D' : Nat → Prop} {w w' : World} (hk : Keeps D w w') (hD : ∀ b, D b → D' b) : ∀ (ts : List Tr) (vs : List C5), L4Vs D w ts vs → L4Vs D' w' ts vs
 | [], [], _ => by simp only [L4Vs]
 | t :: ts, v :: vs, h => by simp only [L4Vs] at h ⊢; exact ⟨L4V.keep hk hD t v h.1, L4Vs.keep hk hD ts vs h.2⟩
 | [], _ :: _, h => by simp only [L4Vs] at h
 | _ :: _, [], h => by simp only [L4Vs] at h
end
theorem L4V.ext {D : Nat → Prop} {w w' : World} {t : Tr} {v : C5} (h : L4V D w t v) (hD : ∀ b, D b → b < w.heap.size) (hx : Ext w w') : L4V D w' t v := h.keep (fun b hb => hx.block b (hD b hb)) (fun _ h => h)
def zL4 : List Value := [.int .i64 0, .int .i64 0, .string ⟨#[]⟩, .slice none 0 0, .slice none 0 0]
section
variable {E : Sym} {w : World} {K : Value → World → Prop} {d : Option Tmp} {ty : TypeId} {pos : String} {aft : Array Edge} {g : Option (Nat × Bool)} {bq : Bool}
end
def DB (w0s ws : Nat) (w : World) (b : Nat) : Prop := b < w0s ∨ (ws ≤ b ∧ b < w.heap.size)
def riskO (o : Int) : Prop := o = 8 ∨ (11 ≤ o ∧ o ≤ 16)
instance (o : Int) : Decidable (riskO o) := inferInstanceAs (Decidable (o = 8 ∨ (11 ≤ o ∧ o ≤ 16)))
mutual
def safeT : Tr → Bool
 | .op o kids _ => if riskO o then false else safeTs kids
 | _ => true
def safeTs : List Tr → Bool
 | [] => true
 | t :: l => safeT t && safeTs l
end
section
variable {P : Program} {E : Sym} {w : World} {K : Value → World → Prop} {d : Option Tmp} {ty : TypeId} {pos : String} {aft : Array Edge} {g : Option (Nat × Bool)}
end
def kidsT : Tr → List Tr
 | .op _ kids _ => kids
 | _ => []
theorem TreesV.append {D : Nat → Prop} {w : World} : ∀ {ts us : List Tr} {vs xs : List Value}, TreesV D w ts vs → TreesV D w us xs → TreesV D w (ts ++ us) (vs ++ xs)
 | [], us, [], xs, _, h => h
 | t :: ts, us, v :: vs, xs, h, h2 => by simp only [List.cons_append, TreesV] at h ⊢; exact ⟨h.1, TreesV.append h.2 h2⟩
 | [], _, _ :: _, _, h, _ => by simp only [TreesV] at h
 | _ :: _, _, [], _, h, _ => by simp only [TreesV] at h
structure TOB (w0s : Nat) (q3 q4 : Addr) : Prop where
 h3 : w0s ≤ q3.block
 h4 : w0s ≤ q4.block
 e3 : blk (some q3) = some q3.block
 e4 : blk (some q4) = some q4.block
 ne : q3.block ≠ q4.block
section
variable {w0s : Nat} {w w' : World} {q3 q4 : Addr} {B : Option Addr} {n d : Nat} {vs : List Value}
end
theorem optV.cases {D : Nat → Prop} {w : World} {o : Option Tr} {v : Value} (h : optV D w o v) : (o = none ∧ v = .nilIface) ∨ ∃ t, o = some t ∧ TreeV D w t v := by
 cases o with
 | none => exact .inl ⟨rfl, h⟩
 | some t => exact .inr ⟨t, rfl, h⟩
mutual
theorem szT_po : ∀ t : Tr, szT t ≤ 3 * (po t).length
 | .con .. => by simp [szT, po]
 | .att n => by simp [szT, po]
 | .lt n => by simp [szT, po]
 | .nam .. => by simp [szT, po]
 | .op o kids at_ => by
  have := szTs_pos kids
  simp only [szT, po, List.length_append, a3_, a4_]
  (repeat' split) <;> omega
theorem szTs_pos : ∀ l : List Tr, szTs l ≤ 3 * (pos l).length
 | [] => by simp [szTs, pos]
 | t :: l => by
  have h1 := szT_po t
  have h2 := szTs_pos l
  simp only [szTs, pos, List.length_append]
  omega
end
structure StOK (s : PS) (p : PT) : Prop where
 k : s.k = 1 ∨ s.k = 2 ∨ s.k = 3
 c : s.k = 3 ↔ p.c = none
 ok : ∀ t ∈ trs p, okT t ∧ fewT t
def stepP (p : PS) (pt : PT) (sl : Int) (s : CS) : Int × CS :=
 let s1 := match pt.c with
  | none => s
  | some t => exP t s
 if p.k = 1 then (sl + 1, putP 4 sl s1)
 else if p.k = 2 then (sl, markP s1.ins.length (decP pt.g (putP 23 0 s1)))
 else (sl, decP pt.g s1)
def szO (g : Option Tr) : Nat := match g with
 | none => 1
 | some t => szT t + 1
section
variable {w0 : World} {q : Addr}
end
section
variable {E : Sym} {w : World} {K : Value → World → Prop} {d : Option Tmp} {ty : TypeId} {pos : String} {aft : Array Edge} {g : Option (Nat × Bool)} {bq : Bool}
end
structure CdO (B : Nat) (w : World) (P : Option Addr) (pn pc : Nat) (I : Option Addr) (n ic : Nat) (vs : List VV) (is : List (Int × Int)) : Prop where
 rP : Own B 153 4 w P pn pc (vs.flatMap vC)
 rI : Own B 152 2 w I n ic (is.flatMap iC)
 nam : ∀ v ∈ vs, Own B 9 1 w v.A v.m v.c (v.p.xs.map .string) ∧ ValM w v
 PI : Dj P I
 Pn : ∀ v ∈ vs, Dj P v.A
 In : ∀ v ∈ vs, Dj I v.A
 nn : vs.Pairwise fun u v => Dj u.A v.A
theorem CdO.ext {B : Nat} {w w' : World} {P : Option Addr} {pn pc : Nat} {I : Option Addr} {n ic : Nat} {vs : List VV} {is : List (Int × Int)} (h : CdO B w P pn pc I n ic vs is) (hx : Ext w w') : CdO B w' P pn pc I n ic vs is :=
 ⟨h.rP.bel hx, h.rI.bel hx, fun v hv => ⟨(h.nam v hv).1.bel hx, (h.nam v hv).2.ext hx⟩, h.PI, h.Pn, h.In, h.nn⟩
theorem CdO.nil {B : Nat} {w : World} : CdO B w none 0 0 none 0 0 [] [] := ⟨Own.nil, Own.nil, (by simp), (by intro g q; cases q), (by simp), (by simp), (by simp)⟩
abbrev codV (P : Option Addr) (pn pc : Nat) (sl : Int) (I : Option Addr) (n ic : Nat) : Value := .agg ⟨[.slice P pn pc, .int .i64 sl, .slice I n ic]⟩
def CodO (B : Nat) (w : World) (v : Value) (x : Int × CS) : Prop := ∃ P pn pc I n ic vs, v = codV P pn pc x.1 I n ic ∧ CdO B w P pn pc I n ic vs x.2.ins ∧ vs.map (·.p) = x.2.pool
theorem CdO.mono {B B' : Nat} {w : World} {P : Option Addr} {pn pc : Nat} {I : Option Addr} {n ic : Nat} {vs : List VV} {is : List (Int × Int)} (h : CdO B w P pn pc I n ic vs is) (hB : B' ≤ B) : CdO B' w P pn pc I n ic vs is :=
 ⟨h.rP.mono hB, h.rI.mono hB, fun v hv => ⟨(h.nam v hv).1.mono hB, (h.nam v hv).2⟩, h.PI, h.Pn, h.In, h.nn⟩
def CodeP (nv : List PN) (sv : List PS) (tyl : List Int) (x : Int × CS) : Prop := (¬ wellP nv sv tyl ∧ x = (0, ⟨[], []⟩)) ∨ (wellP nv sv tyl ∧ ∃ acc y, TypedP nv sv tyl acc y ∧ x = cmpP (sv.zip acc) 0 ⟨[], []⟩)
theorem CodeP.unique {nv : List PN} {sv : List PS} {tyl : List Int} {x y : Int × CS} (h : CodeP nv sv tyl x) (k : CodeP nv sv tyl y) : x = y := by
 rcases h with ⟨h1, rfl⟩ | ⟨h1, acc, a, ha, rfl⟩ <;> rcases k with ⟨k1, rfl⟩ | ⟨k1, acc2, b, hb, rfl⟩
 ·rfl
 ·exact absurd k1 h1
 ·exact absurd h1 k1
 ·have := ha.2.1.symm.trans hb.2.1
  cases this; rfl
theorem CSt.weak {w w' : World} {R S : List (Option Addr)} (h : CSt w R w' R) (hs : ∀ x ∈ R, x ∈ S) : CSt w S w' S := ⟨h.os, h.tape, h.output, h.size, fun b hb hn => h.keep b hb fun x hx => hn x (hs x hx), fun x hx g hg => .inl ⟨x, hx, hg⟩⟩
theorem mkL_adr {α : Type} {mk : α → Int → α} {ct : α → Nat} {sb : α → List Sub} (h : ∀ v z, adr sb (mk v z) = adr sb v) : ∀ (l : List α) (z : Int), (mkL mk ct l z).flatMap (adr sb) = l.flatMap (adr sb)
 | [], _ => rfl
 | v :: l, z => by simp only [mkL, List.flatMap_cons, h, mkL_adr h l]
theorem roA_mk {α : Type} {mk : α → Int → α} {ct : α → Nat} {sb : α → List Sub} (h : ∀ v z, adr sb (mk v z) = adr sb v) (A : Option Addr) (l : List α) (z : Int) : roA sb A (mkL mk ct l z) = roA sb A l := by
 unfold roA; rw [mkL_adr h]
theorem roA_ins (A : Option Addr) (l : List (Int × Int)) : roA sbIns A l = [A] := by unfold roA adr sbIns; simp
theorem dj_nil {α : Type} {sb : α → List Sub} (h : ∀ v, adr sb v = []) (A : Option Addr) (l : List α) : DJ A (l.map (adr sb)) := by
 have this : ∀ x ∈ l.map (adr sb), x = [] := fun x hx => by obtain ⟨v, _, rfl⟩ := List.mem_map.1 hx; exact h v
 refine ⟨fun x hx a ha => ?_, fun x hx => ?_, List.pairwise_iff_getElem.2 fun i j hi hj _ a ha => ?_⟩
 ·have := this x hx; subst this; cases ha
 ·have := this x hx; subst this; exact List.Pairwise.nil
 ·have e := this _ (List.getElem_mem hi)
  rw [e] at ha; cases ha
theorem ro_ins {B : Nat} {w : World} {A : Option Addr} {n c : Nat} {l : List (Int × Int)} (h : Own B 152 2 w A n c (l.flatMap iC)) : RO 152 2 iC sbIns B w A n c l :=
 ⟨h, by simp [sbIns], dj_nil (fun _ => rfl) _ _⟩
def otA (A A2 A3 : Option Addr) (vs : List VN) : List (Option Addr) := roA sbNode A vs ++ [A2, A3]
def otK (vs : List VN) (sv : List PS) (n3 : Nat) : Nat := ctL ctNode vs + ctL ctStmt sv + n3
theorem OT.ext {B : Nat} {w w' : World} {A A2 A3 : Option Addr} {n c n2 c2 n3 c3 : Nat} {vs : List VN} {sv : List PS} {tyl : List Int} (h : OT B w A n c A2 n2 c2 A3 n3 c3 vs sv tyl) (hx : Ext w w') : OT B w' A n c A2 n2 c2 A3 n3 c3 vs sv tyl := ⟨h.nd.ext hx, h.st.bel hx, h.ty.bel hx, h.d12, h.d13, h.d23⟩
theorem OT.lo {B : Nat} {w : World} {A A2 A3 : Option Addr} {n c n2 c2 n3 c3 : Nat} {vs : List VN} {sv : List PS} {tyl : List Int} (h : OT B w A n c A2 n2 c2 A3 n3 c3 vs sv tyl) : ∀ r ∈ otA A A2 A3 vs, ∀ g, blk r = some g → B ≤ g ∧ g < w.heap.size := fun r hr g hg => by
 unfold otA at hr
 rcases List.mem_append.1 hr with hr | hr
 ·exact h.nd.lo r hr g hg
 ·simp at hr
  rcases hr with rfl | rfl
  ·exact own_blk h.st g hg
  ·exact own_blk h.ty g hg
theorem valA (v : VV) (z : Int) : adr sbValue (mkValue v z) = adr sbValue v := rfl
def cdA (P I : Option Addr) (vs : List VV) : List (Option Addr) := roA sbValue P vs ++ [I]
def cdK (vs : List VV) (is : List (Int × Int)) : Nat := ctL ctValue vs + ctL ctIns is
section
variable {B : Nat} {w w' : World} {P : Option Addr} {pn pc : Nat} {I : Option Addr} {n ic : Nat} {vs : List VV} {is : List (Int × Int)}
structure CO (B : Nat) (w : World) (P : Option Addr) (pn pc : Nat) (I : Option Addr) (n ic : Nat) (vs : List VV) (is : List (Int × Int)) : Prop where
 pl : RO 153 4 vC sbValue B w P pn pc vs
 is : RO 152 2 iC sbIns B w I n ic is
 d : ∀ r ∈ roA sbValue P vs, Dj r I
theorem CO.ext (h : CO B w P pn pc I n ic vs is) (hx : Ext w w') : CO B w' P pn pc I n ic vs is := ⟨h.pl.ext hx, h.is.ext hx, h.d⟩
theorem CO.lo (h : CO B w P pn pc I n ic vs is) : ∀ r ∈ cdA P I vs, ∀ g, blk r = some g → B ≤ g ∧ g < w.heap.size := fun r hr g hg => by
 unfold cdA at hr
 rcases List.mem_append.1 hr with hr | hr
 ·exact h.pl.lo r hr g hg
 ·simp at hr; subst hr; exact own_blk h.is.row g hg
theorem CO.codeR (h : CO B w P pn pc I n ic vs is) (hs : ∀ v ∈ vs, v.p.tx.size ≤ 9223372036854775807 ∧ ∀ u ∈ v.p.xs, u.size ≤ 9223372036854775807) : CodeR w P pn I n (vs.map (·.p)) is :=
 ⟨⟨vs, rfl, h.pl.len vC_len (by omega), h.pl.row.cells, fun v hv => ⟨(h.pl.sub v hv ⟨v.A, v.m, v.c, 9, v.p.xs.map .string⟩ (by simp [sbValue])).strs (hs v hv).2, (hs v hv).1⟩⟩, ⟨h.is.len iC_len (by omega), h.is.row.cells⟩⟩
theorem markCode_g (h : CO B w P pn pc I n ic vs is) (sl k : Int) (hk : 0 ≤ k) (hkn : k + cdK vs is < 9223372036854775807) :
  GC Tryz.prog 15 [codV P pn pc sl I n ic, .int .i64 k] w fun v w' => v = .int .i64 (k + cdK vs is) ∧ CO B w' P pn pc I n ic (mkL mkValue ctValue vs k) (mkL mkIns ctIns is (k + ctL ctValue vs)) ∧ CSt w (cdA P I vs) w' (cdA P I vs) := by
 refine GC.intro (cs := []) Tryz.func15 (by kernel_rfl) fun E R hE hr hR => ?_
 have hkn' := hkn
 unfold cdK at hkn'
 obtain ⟨k1, hk1⟩ : ∃ z : Int, z = k + ctL ctValue vs := ⟨_, rfl⟩
 obtain ⟨k2, hk2⟩ : ∃ z : Int, z = k1 + ctL ctIns is := ⟨_, rfl⟩
 conv => cbv
 refine st_box hr fun a w1 hx hb0 => ?_
 have hb := hb0 _ (n1_ _)
 clear hb0
 have hlo := h.lo
 have da : ∀ r ∈ cdA P I vs, Dj r (some a) := fun r hr g hg e => by
  have := (hlo r hr g hg).2
  have := (own_blk hb g e).1
  omega
 replace h := h.ext hx
 conv => cbv
 (refine st_fld hE fIC0 fun p hp => ?_; (conv => cbv); refine st_load hE cIVs (by rw [hp]; exact (hb).at _ _ rfl) ?_; clear hp; (conv => cbv))
 have m1 := markValueS_g h.pl k hk (by omega)
 rw [← hk1] at m1
 refine st_g hr m1 fun v w2 ⟨ev, hn2, hc2⟩ => ?_
 subst ev
 have hC2 : CSt w1 (cdA P I vs) w2 (cdA P I vs) := hc2.weak fun x hx => List.mem_append_left _ hx
 have hb2 := (hC2.own hb da).1
 have is2 := h.is.keepR hc2 fun r hr a ha => by rw [roA_ins] at ha; simp at ha; subst ha; exact h.d r hr
 conv => cbv
 (refine st_fld hE fIC2 fun p hp => ?_; (conv => cbv); refine st_load hE cIIs (by rw [hp]; exact (hb2).at _ _ rfl) ?_; clear hp; (conv => cbv))
 have m2 := markInsS_g is2 k1 (by omega) (by omega)
 rw [← hk2, roA_ins] at m2
 refine st_g hr m2 fun v w3 ⟨ev, hs3, hc3⟩ => ?_
 subst ev
 have hC3 : CSt w2 (cdA P I vs) w3 (cdA P I vs) := hc3.weak fun x hx => by simp at hx; subst hx; simp [cdA]
 conv => cbv
 rw [hR]
 refine ⟨?_, ⟨hn2.keepR hc3 fun r hr a ha => ?_, by rw [← hk1]; exact hs3, by rw [roA_mk valA]; exact h.d⟩, ((CSt.of_ext hx _).trans hC2).trans hC3⟩
 ·simp only [one, cdK]; congr 1; push_cast; omega
 ·simp at hr; subst hr
  rw [roA_mk valA] at ha
  exact (h.d a ha).symm
end
theorem fOc0' : Fld Tryz.prog 32 0 0 := ⟨by kernel_rfl⟩
theorem fOc1' : Fld Tryz.prog 32 1 1 := ⟨by kernel_rfl⟩
theorem eqOutcome_f {w : World} {k cd : Int} {A A' : Option Addr} {n c n' c' : Nat} {xs : List ByteArray} (h : Strs w A n c xs) (h' : Strs w A' n' c' xs) :
  FC Tryz.prog 46 [.agg ⟨[.int .i64 k, .int .i64 cd, .slice A n c]⟩, .agg ⟨[.int .i64 k, .int .i64 cd, .slice A' n' c']⟩] w fun v _ => v = .bool true := by
 refine FC.intro (cs := []) Tryz.func46 (by kernel_rfl) fun E R hE hr hR => ?_
 conv => cbv
 refine st_box hr fun q2 w1 hx1 h20 => ?_
 have h2 := h20 _ (n1_ _)
 conv => cbv
 refine st_box hr fun q3 w2 hx2 h30 => ?_
 have h3 := h30 _ (n1_ _)
 replace h2 := h2.bel hx2
 have hx := hx1.trans hx2
 conv => cbv
 (refine st_fld hE fOc0' fun p hp => ?_; (conv => cbv); refine st_load hE cInt (by rw [hp]; exact (h2).at _ _ rfl) ?_; clear hp; (conv => cbv))
 (refine st_fld hE fOc0' fun p hp => ?_; (conv => cbv); refine st_load hE cInt (by rw [hp]; exact (h3).at _ _ rfl) ?_; clear hp; (conv => cbv))
 refine br (fun g => absurd g (by simp [hE.cmp, cmpR])) (fun _ => ?_)
 conv => cbv
 (refine st_fld hE fOc1' fun p hp => ?_; (conv => cbv); refine st_load hE cInt (by rw [hp]; exact (h2).at _ _ rfl) ?_; clear hp; (conv => cbv))
 (refine st_fld hE fOc1' fun p hp => ?_; (conv => cbv); refine st_load hE cInt (by rw [hp]; exact (h3).at _ _ rfl) ?_; clear hp; (conv => cbv))
 refine br (fun g => absurd g (by simp [hE.cmp, cmpR])) (fun _ => ?_)
 conv => cbv
 (refine st_fld hE fOc2 fun p hp => ?_; (conv => cbv); refine st_load hE cStrs (by rw [hp]; exact (h2).at _ _ rfl) ?_; clear hp; (conv => cbv))
 (refine st_fld hE fOc2 fun p hp => ?_; (conv => cbv); refine st_load hE cStrs (by rw [hp]; exact (h3).at _ _ rfl) ?_; clear hp; (conv => cbv))
 refine st_qb hE (eqStringS_q (h.ext hx) (h'.ext hx)) fun b hb w4 hs4 => ?_
 have hb : b = true := hb.2 rfl
 subst hb
 conv => cbv
 rw [hR]; exact ⟨hx.trans hs4.ext, rfl⟩
theorem markOutcome_g {w : World} {B : Nat} {k cd : Int} {A : Option Addr} {n c : Nat} {xs : List ByteArray} (h : Own B 9 1 w A n c (xs.map .string)) (j : Int) (hk : 0 ≤ j) (hkn : j + n < 9223372036854775807) :
  GC Tryz.prog 53 [.agg ⟨[.int .i64 k, .int .i64 cd, .slice A n c]⟩, .int .i64 j] w fun v w' => v = .int .i64 (j + n) ∧ Own B 9 1 w' A n c ((marks j n).map .string) ∧ Wr A w w' := by
 refine GC.intro (cs := []) Tryz.func53 (by kernel_rfl) fun E R hE hr hR => ?_
 conv => cbv
 refine st_box hr fun q2 w1 hx1 h20 => ?_
 have h2 := h20 _ (n1_ _)
 conv => cbv
 (refine st_fld hE fOc2 fun p hp => ?_; (conv => cbv); refine st_load hE cStrs (by rw [hp]; exact (h2).at _ _ rfl) ?_; clear hp; (conv => cbv))
 refine st_g hr (markStringS_g (h.bel hx1) j hk hkn) fun r w2 ⟨ev, ho, hw⟩ => ?_
 subst ev
 conv => cbv
 rw [hR]; exact ⟨rfl, ho, (hx1.wr A).trans hw⟩
theorem heldOutcome_f {w : World} {k cd : Int} {A : Option Addr} {n c : Nat} {j : Int} (h : Strs w A n c (marks j n)) (hk : 0 ≤ j) (hkn : j + n < 9223372036854775807) :
  FC Tryz.prog 54 [.agg ⟨[.int .i64 k, .int .i64 cd, .slice A n c]⟩, .int .i64 j] w fun v _ => v = .int .i64 (j + n) := by
 refine FC.intro (cs := []) Tryz.func54 (by kernel_rfl) fun E R hE hr hR => ?_
 conv => cbv
 refine st_box hr fun q2 w1 hx1 h20 => ?_
 have h2 := h20 _ (n1_ _)
 conv => cbv
 (refine st_fld hE fOc2 fun p hp => ?_; (conv => cbv); refine st_load hE cStrs (by rw [hp]; exact (h2).at _ _ rfl) ?_; clear hp; (conv => cbv))
 refine st_v hr (heldStringS_v (h.ext hx1) hk hkn) fun w2 hx2 => ?_
 obtain ⟨jn, hjn⟩ : ∃ z, z = j + (n : Int) := ⟨_, rfl⟩
 simp only [← hjn]
 conv => cbv
 refine br (fun g => absurd g (by simp [hE.cmp, cmpR]; omega)) (fun _ => ?_)
 conv => cbv
 rw [hR]; exact ⟨hx1.trans hx2, by rw [hjn]; rfl⟩
section
variable {w : World} {cl us : ByteArray} {lv nw : Int} {A A' : Option Addr} {n c n' c' : Nat} {xs ys : List ByteArray}
theorem szRequest2_f {z0 : Int} (hz0 : 0 ≤ z0) (hz1 : z0 ≤ 1048576) (hc : cl.size ≤ 9223372036854775807) (hu : us.size ≤ 9223372036854775807) (h : Strs w A n c xs) (h' : Strs w A' n' c' ys) :
  FC Tryz.prog 7 [.agg ⟨[.string cl, .string us, .int .i64 lv, .int .i64 nw, .slice A n c, .slice A' n' c']⟩, .int .i64 z0] w fun v _ => ∃ z : Int, v = .int .i64 z ∧ (0 ≤ z → n ≤ 1048576 ∧ n' ≤ 1048576) := by
 refine FC.intro (cs := []) Tryz.func7 (by kernel_rfl) fun E R hE hr hR => ?_
 conv => cbv
 refine st_box hr fun a w1 hx hb0 => ?_
 have hb := hb0 _ (n1_ _)
 conv => cbv
 (refine st_fld hE fL0 fun p hp => ?_; (conv => cbv); refine st_load hE cStr (by rw [hp]; exact (hb).at _ _ rfl) ?_; clear hp; (conv => cbv))
 refine st_slen hE uStr fun x1 hx1 => ?_
 conv => cbv
 obtain ⟨y1, hy1⟩ : ∃ y, y = z0 - x1 := ⟨_, rfl⟩
 have e1 : E.ar .sub .i64 z0 x1 = y1 := by rw [hE.ar, hy1]; exact wrap_in (by omega) (by omega)
 simp only [e1]
 refine br (fun _ => ?_) (fun g1 => ?_)
 ·conv => cbv
  rw [hR]; exact ⟨hx, -1, rfl, fun h => by omega⟩
 have g1 : 0 ≤ y1 := by simpa [hE.cmp, cmpR] using g1
 conv => cbv
 (refine st_fld hE fL1 fun p hp => ?_; (conv => cbv); refine st_load hE cStr (by rw [hp]; exact (hb).at _ _ rfl) ?_; clear hp; (conv => cbv))
 refine st_slen hE uStr fun x2 hx2 => ?_
 conv => cbv
 obtain ⟨y2, hy2⟩ : ∃ y, y = y1 - x2 := ⟨_, rfl⟩
 have e1 : E.ar .sub .i64 y1 x2 = y2 := by rw [hE.ar, hy2]; exact wrap_in (by omega) (by omega)
 simp only [e1]
 refine br (fun _ => ?_) (fun g2 => ?_)
 ·conv => cbv
  rw [hR]; exact ⟨hx, -1, rfl, fun h => by omega⟩
 have g2 : 0 ≤ y2 := by simpa [hE.cmp, cmpR] using g2
 conv => cbv
 (refine st_fld hE fL4 fun p hp => ?_; (conv => cbv); refine st_load hE cStrs (by rw [hp]; exact (hb).at _ _ rfl) ?_; clear hp; (conv => cbv))
 refine st_qi hE (szStringS_q (h.ext hx) y2 g2 (by omega)) fun l hl w2 hs2 => ?_
 have hx := hx.trans hs2.ext
 have hb := hb.bel hs2.ext
 conv => cbv
 refine br (fun _ => ?_) (fun g => ?_)
 ·conv => cbv
  rw [hR]; exact ⟨hx, -1, rfl, fun h => by omega⟩
 have g : 0 ≤ l := by simpa [hE.cmp, cmpR] using g
 have hn := room_bulk h.len (by omega : 0 ≤ room y2 (bulk xs))
 rw [← hl] at hn
 conv => cbv
 (refine st_fld hE fL5 fun p hp => ?_; (conv => cbv); refine st_load hE cStrs (by rw [hp]; exact (hb).at _ _ rfl) ?_; clear hp; (conv => cbv))
 refine st_qi hE (szStringS_q (h'.ext hx) l g (by omega)) fun l' hl' w3 hs3 => ?_
 have hx := hx.trans hs3.ext
 conv => cbv
 refine br (fun _ => ?_) (fun g' => ?_)
 ·conv => cbv
  rw [hR]; exact ⟨hx, -1, rfl, fun h => by omega⟩
 have g' : 0 ≤ l' := by simpa [hE.cmp, cmpR] using g'
 have hn' := room_bulk h'.len (by omega : 0 ≤ room l (bulk ys))
 rw [← hl'] at hn'
 conv => cbv
 rw [hR]; exact ⟨hx, l', rfl, fun _ => by omega⟩
theorem toRequestO_f (h : Strs w A n c xs) (h' : Strs w A' n' c' ys) (hn : n ≤ 1048576) (hn' : n' ≤ 1048576) :
  FC Tryz.prog 10 [.agg ⟨[.string cl, .string us, .int .i64 lv, .int .i64 nw, .slice A n c, .slice A' n' c']⟩] w fun v w' => ∃ A1 n1 c1 A2 n2 c2, v = .agg ⟨[.string cl, .string us, .int .i64 lv, .int .i64 nw, .slice A1 n1 c1, .slice A2 n2 c2]⟩ ∧ Strs w' A1 n1 c1 xs ∧ Strs w' A2 n2 c2 ys ∧ Own w.heap.size 9 1 w' A1 n1 c1 (xs.map .string) ∧ Own w.heap.size 9 1 w' A2 n2 c2 (ys.map .string) ∧ Apart A1 A2 ∧ Apart A2 A1 := by
 refine FC.intro (cs := []) Tryz.func10 (by kernel_rfl) fun E R hE hr hR => ?_
 conv => cbv
 refine st_box hr fun a w1 hx hb0 => ?_
 have hb := hb0 _ (n1_ _)
 conv => cbv
 refine st_alloc hr tIReq rfl fun o w2 hx2 ho0 => ?_
 have ho := ho0 _ hx.size
 have hb := hb.bel hx2
 have hx := hx.trans hx2
 conv => cbv
 refine st_alloc hr tIReq rfl fun q w3 hx3 hq0 => ?_
 have hq := hq0 _ hx.size
 have aq := (hb.apart (hq0 _ (n1_ _)) (n1_ _)).1
 have oq := (ho.apart (hq0 _ (n1_ _)) (n1_ _)).1
 have hb := hb.bel hx3
 have ho := ho.bel hx3
 have hx := hx.trans hx3
 clear hb0 ho0 hq0
 conv => cbv
 (refine st_fld hE fL0 fun p hp => ?_; (conv => cbv); refine st_load hE cStr (by rw [hp]; exact (hb).at _ _ rfl) ?_; clear hp; (conv => cbv))
 (refine st_fld hE fI0 fun p hp => ?_; (conv => cbv); refine st_put hr zStr hq hp (by simp) rfl fun wn hw hq2 => ?_; replace hx := hx.then (hw.bel hq hx.size); (try clear hq); (have hq := hq2); clear hq2; (simp only [b4_, b5_] at hq); clear hp)
 replace hb := hb.wr hw aq
 replace ho := ho.wr hw oq
 conv => cbv
 (refine st_fld hE fL1 fun p hp => ?_; (conv => cbv); refine st_load hE cStr (by rw [hp]; exact (hb).at _ _ rfl) ?_; clear hp; (conv => cbv))
 (refine st_fld hE fI1 fun p hp => ?_; (conv => cbv); refine st_put hr zStr hq hp (by simp) rfl fun wn hw hq2 => ?_; replace hx := hx.then (hw.bel hq hx.size); (try clear hq); (have hq := hq2); clear hq2; (simp only [b4_, b5_] at hq); clear hp)
 replace hb := hb.wr hw aq
 replace ho := ho.wr hw oq
 conv => cbv
 (refine st_fld hE fL2 fun p hp => ?_; (conv => cbv); refine st_load hE cI64 (by rw [hp]; exact (hb).at _ _ rfl) ?_; clear hp; (conv => cbv))
 (refine st_fld hE fI2 fun p hp => ?_; (conv => cbv); refine st_put hr zI64 hq hp (by simp) rfl fun wn hw hq2 => ?_; replace hx := hx.then (hw.bel hq hx.size); (try clear hq); (have hq := hq2); clear hq2; (simp only [b4_, b5_] at hq); clear hp)
 replace hb := hb.wr hw aq
 replace ho := ho.wr hw oq
 conv => cbv
 (refine st_fld hE fL3 fun p hp => ?_; (conv => cbv); refine st_load hE cI64 (by rw [hp]; exact (hb).at _ _ rfl) ?_; clear hp; (conv => cbv))
 (refine st_fld hE fI3 fun p hp => ?_; (conv => cbv); refine st_put hr zI64 hq hp (by simp) rfl fun wn hw hq2 => ?_; replace hx := hx.then (hw.bel hq hx.size); (try clear hq); (have hq := hq2); clear hq2; (simp only [b4_, b5_] at hq); clear hp)
 replace hb := hb.wr hw aq
 replace ho := ho.wr hw oq
 conv => cbv
 (refine st_fld hE fL4 fun p hp => ?_; (conv => cbv); refine st_load hE cStrs (by rw [hp]; exact (hb).at _ _ rfl) ?_; clear hp; (conv => cbv))
 refine st_f hr (toStringS_f (h.ext hx) hn) fun v w4 hx4 ⟨A4, n4, c4, ev, h4, o4⟩ => ?_
 subst ev
 have ax := (hq.apart o4 (n1_ _)).2
 have bx := (ho.apart o4 (n1_ _)).2
 replace o4 := o4.mono hx.size
 replace hb := hb.bel hx4
 replace ho := ho.bel hx4
 replace hq := hq.bel hx4
 replace hx := hx.trans hx4
 conv => cbv
 (refine st_fld hE fI4 fun p hp => ?_; (conv => cbv); refine st_put hr zStrs hq hp (by simp) rfl fun wn hw hq2 => ?_; replace hx := hx.then (hw.bel hq hx.size); (try clear hq); (have hq := hq2); clear hq2; (simp only [b4_, b5_] at hq); clear hp)
 replace hb := hb.wr hw aq
 replace ho := ho.wr hw oq
 replace o4 := o4.wr hw ax
 conv => cbv
 (refine st_fld hE fL5 fun p hp => ?_; (conv => cbv); refine st_load hE cStrs (by rw [hp]; exact (hb).at _ _ rfl) ?_; clear hp; (conv => cbv))
 refine st_f hr (toStringS_f (h'.ext hx) hn') fun v w5 hx5 ⟨A5, n5, c5, ev, h5, o5⟩ => ?_
 subst ev
 have ay := (hq.apart o5 (n1_ _)).2
 have x45 := o4.apart o5 (n1_ _)
 have bY := (ho.apart o5 (n1_ _)).2
 replace o5 := o5.mono hx.size
 replace hb := hb.bel hx5
 replace ho := ho.bel hx5
 replace hq := hq.bel hx5
 replace o4 := o4.bel hx5
 replace hx := hx.trans hx5
 conv => cbv
 (refine st_fld hE fI5 fun p hp => ?_; (conv => cbv); refine st_put hr zStrs hq hp (by simp) rfl fun wn hw hq2 => ?_; replace hx := hx.then (hw.bel hq hx.size); (try clear hq); (have hq := hq2); clear hq2; (simp only [b4_, b5_] at hq); clear hp)
 replace o4 := o4.wr hw ax
 replace o5 := o5.wr hw ay
 replace ho := ho.wr hw oq
 conv => cbv
 refine st_loadS hE tIReq rfl hq.at ?_
 conv => cbv
 refine st_putS hr (by kernel_rfl) ho (add_zero _).symm (by simp) (by simp [Value.oneCell']) fun w7 hw ho2 => ?_
 replace hx := hx.then (hw.bel ho hx.size)
 simp only [a1_, a2_, a3_, a4_, a5_, a6_, a7_] at ho2
 conv => cbv
 refine st_cell hr tIReq rfl ho2.at ?_
 rw [hR]; exact ⟨hx, A4, n4, c4, A5, n5, c5, rfl, (o4.wr hw bx).strs h.small, (o5.wr hw bY).strs h'.small, o4.wr hw bx, o5.wr hw bY, x45.1, x45.2⟩
end
theorem markRequest_g {w : World} {B : Nat} {cl us : ByteArray} {lv nw : Int} {A A' : Option Addr} {n c n' c' : Nat} {xs ys : List ByteArray} (h : Own B 9 1 w A n c (xs.map .string)) (h' : Own B 9 1 w A' n' c' (ys.map .string)) (ha : Apart A A' ∧ Apart A' A) (j : Int) (hk : 0 ≤ j) (hkn : j + n + n' < 9223372036854775807) :
  GC Tryz.prog 16 [.agg ⟨[.string cl, .string us, .int .i64 lv, .int .i64 nw, .slice A n c, .slice A' n' c']⟩, .int .i64 j] w fun v w' => v = .int .i64 (j + n + n') ∧ ∃ w1 : World, Wr A w w1 ∧ Wr A' w1 w' := by
 refine GC.intro (cs := []) Tryz.func16 (by kernel_rfl) fun E R hE hr hR => ?_
 conv => cbv
 refine st_box hr fun q2 w1 hx1 h20 => ?_
 have h2 := h20 _ (n1_ _)
 have f2 := bx_form h2
 conv => cbv
 (refine st_fld hE fI4 fun p hp => ?_; (conv => cbv); refine st_load hE cStrs (by rw [hp]; exact (h2).at _ _ rfl) ?_; clear hp; (conv => cbv))
 refine st_g hr (markStringS_g (h.bel hx1) j hk (by omega)) fun r w2 ⟨ev, ho, hw⟩ => ?_
 subst ev
 have b1 := own_blk h
 obtain ⟨jn, hjn⟩ : ∃ z, z = j + (n : Int) := ⟨_, rfl⟩
 simp only [← hjn]
 have h22 := h2.wr hw (.inr (by rw [f2.2.2]; intro e; have := (b1 _ e.symm).2; have := f2.1; omega))
 conv => cbv
 (refine st_fld hE fI5 fun p hp => ?_; (conv => cbv); refine st_load hE cStrs (by rw [hp]; exact (h22).at _ _ rfl) ?_; clear hp; (conv => cbv))
 refine st_g hr (markStringS_g ((h'.bel hx1).wr hw ha.2) jn (by omega) (by omega)) fun r w3 ⟨ev, ho3, hw3⟩ => ?_
 subst ev
 obtain ⟨jm, hjm⟩ : ∃ z, z = jn + (n' : Int) := ⟨_, rfl⟩
 simp only [← hjm]
 conv => cbv
 rw [hR]; exact ⟨by rw [hjm, hjn]; rfl, w2, (hx1.wr A).trans hw, hw3⟩
def rowV (op : Int) : List Int × Int :=
 if op = 8 then ([2], 2) else if op = 9 then ([1], 1) else if op = 10 then ([4], 2) else if 11 ≤ op ∧ op ≤ 15 then ([2, 2], 2) else if 16 ≤ op ∧ op ≤ 18 then ([4, 4], 4)
 else if op = 19 ∨ op = 20 then ([0, 0], 1) else if op = 21 ∨ op = 22 then ([2, 2], 1) else if op = 23 then ([3, 4], 1) else ([4, 4], 1)
theorem l3rowV_f {w : World} (op : Int) (h1 : 8 ≤ op) (h2 : op ≤ 24) : FC Tryz.prog 240 [.int .i64 op] w fun v w' => ∃ A n c t want, v = .tuple ⟨[.slice A n c, .int .i64 t]⟩ ∧ rowV op = (want, t) ∧ Ints w' A n c want := by
 refine FC.intro (cs := []) Tryz.func240 (by kernel_rfl) fun E R hE hr hR => ?_
 conv => cbv
 refine br (fun g => ?_) (fun g => ?_)
 ·have g : op = 1 := by simpa [hE.cmp, cmpR] using g
  omega
 clear g
 conv => cbv
 refine br (fun g => ?_) (fun g => ?_)
 ·have g : op = 2 := by simpa [hE.cmp, cmpR] using g
  omega
 clear g
 conv => cbv
 refine br (fun g => ?_) (fun g => ?_)
 ·have g : op = 3 := by simpa [hE.cmp, cmpR] using g
  omega
 clear g
 conv => cbv
 refine br (fun g => ?_) (fun g => ?_)
 ·have g : op = 4 := by simpa [hE.cmp, cmpR] using g
  omega
 clear g
 conv => cbv
 refine br (fun g => ?_) (fun g => ?_)
 ·have g0 := g
  have g : op = 8 := by simpa [hE.cmp, cmpR] using g
  conv => cbv
  refine st_lits hr tInts rfl (vs := [.int .i64 2]) (m := 1) rfl (by omega) (by omega) rfl (by simp [Value.cells]) fun A w' hx ho => ?_
  conv => cbv
  rw [hR]; exact ⟨hx, A, 1, 1, 2, [2], rfl, by simp [rowV, g], (ho _ (n1_ _)).ints⟩
 have g8 : op ≠ 8 := by simpa [hE.cmp, cmpR] using g
 clear g
 conv => cbv
 refine br (fun g => ?_) (fun g => ?_)
 ·have g0 := g
  have g : op = 9 := by simpa [hE.cmp, cmpR] using g
  conv => cbv
  refine st_lits hr tInts rfl (vs := [.int .i64 1]) (m := 1) rfl (by omega) (by omega) rfl (by simp [Value.cells]) fun A w' hx ho => ?_
  conv => cbv
  rw [hR]; exact ⟨hx, A, 1, 1, 1, [1], rfl, by simp [rowV, g], (ho _ (n1_ _)).ints⟩
 have g9 : op ≠ 9 := by simpa [hE.cmp, cmpR] using g
 clear g
 conv => cbv
 refine br (fun g => ?_) (fun g => ?_)
 ·have g0 := g
  have g : op = 10 := by simpa [hE.cmp, cmpR] using g
  conv => cbv
  refine st_lits hr tInts rfl (vs := [.int .i64 4]) (m := 1) rfl (by omega) (by omega) rfl (by simp [Value.cells]) fun A w' hx ho => ?_
  conv => cbv
  rw [hR]; exact ⟨hx, A, 1, 1, 2, [4], rfl, by simp [rowV, g], (ho _ (n1_ _)).ints⟩
 have g10 : op ≠ 10 := by simpa [hE.cmp, cmpR] using g
 clear g
 conv => cbv
 refine br (fun g => ?_) (fun g => ?_)
 ·have g0 := g
  have g : op = 11 := by simpa [hE.cmp, cmpR] using g
  conv => cbv
  refine br (fun _ => ?_) (fun q => absurd g0 q)
  conv => cbv
  refine st_lits hr tInts rfl (vs := [.int .i64 2, .int .i64 2]) (m := 2) rfl (by omega) (by omega) rfl (by simp [Value.cells]) fun A w' hx ho => ?_
  conv => cbv
  rw [hR]; exact ⟨hx, A, 2, 2, 2, [2, 2], rfl, by simp [rowV, g], (ho _ (n1_ _)).ints⟩
 have g11 : op ≠ 11 := by simpa [hE.cmp, cmpR] using g
 clear g
 conv => cbv
 refine br (fun g => ?_) (fun g => ?_)
 ·have g0 := g
  have g : op = 12 := by simpa [hE.cmp, cmpR] using g
  conv => cbv
  refine br (fun _ => ?_) (fun q => absurd g0 q)
  conv => cbv
  refine st_lits hr tInts rfl (vs := [.int .i64 2, .int .i64 2]) (m := 2) rfl (by omega) (by omega) rfl (by simp [Value.cells]) fun A w' hx ho => ?_
  conv => cbv
  rw [hR]; exact ⟨hx, A, 2, 2, 2, [2, 2], rfl, by simp [rowV, g], (ho _ (n1_ _)).ints⟩
 have g12 : op ≠ 12 := by simpa [hE.cmp, cmpR] using g
 clear g
 conv => cbv
 refine br (fun g => ?_) (fun g => ?_)
 ·have g0 := g
  have g : op = 13 := by simpa [hE.cmp, cmpR] using g
  conv => cbv
  refine br (fun _ => ?_) (fun q => absurd g0 q)
  conv => cbv
  refine st_lits hr tInts rfl (vs := [.int .i64 2, .int .i64 2]) (m := 2) rfl (by omega) (by omega) rfl (by simp [Value.cells]) fun A w' hx ho => ?_
  conv => cbv
  rw [hR]; exact ⟨hx, A, 2, 2, 2, [2, 2], rfl, by simp [rowV, g], (ho _ (n1_ _)).ints⟩
 have g13 : op ≠ 13 := by simpa [hE.cmp, cmpR] using g
 clear g
 conv => cbv
 refine br (fun g => ?_) (fun g => ?_)
 ·have g0 := g
  have g : op = 14 := by simpa [hE.cmp, cmpR] using g
  conv => cbv
  refine br (fun _ => ?_) (fun q => absurd g0 q)
  conv => cbv
  refine st_lits hr tInts rfl (vs := [.int .i64 2, .int .i64 2]) (m := 2) rfl (by omega) (by omega) rfl (by simp [Value.cells]) fun A w' hx ho => ?_
  conv => cbv
  rw [hR]; exact ⟨hx, A, 2, 2, 2, [2, 2], rfl, by simp [rowV, g], (ho _ (n1_ _)).ints⟩
 have g14 : op ≠ 14 := by simpa [hE.cmp, cmpR] using g
 clear g
 conv => cbv
 refine br (fun g => ?_) (fun g => ?_)
 ·have g0 := g
  have g : op = 15 := by simpa [hE.cmp, cmpR] using g
  conv => cbv
  refine st_lits hr tInts rfl (vs := [.int .i64 2, .int .i64 2]) (m := 2) rfl (by omega) (by omega) rfl (by simp [Value.cells]) fun A w' hx ho => ?_
  conv => cbv
  rw [hR]; exact ⟨hx, A, 2, 2, 2, [2, 2], rfl, by simp [rowV, g], (ho _ (n1_ _)).ints⟩
 have g15 : op ≠ 15 := by simpa [hE.cmp, cmpR] using g
 clear g
 conv => cbv
 refine br (fun g => ?_) (fun g => ?_)
 ·have g0 := g
  have g : op = 16 := by simpa [hE.cmp, cmpR] using g
  conv => cbv
  refine br (fun _ => ?_) (fun q => absurd g0 q)
  conv => cbv
  refine st_lits hr tInts rfl (vs := [.int .i64 4, .int .i64 4]) (m := 2) rfl (by omega) (by omega) rfl (by simp [Value.cells]) fun A w' hx ho => ?_
  conv => cbv
  rw [hR]; exact ⟨hx, A, 2, 2, 4, [4, 4], rfl, by simp [rowV, g], (ho _ (n1_ _)).ints⟩
 have g16 : op ≠ 16 := by simpa [hE.cmp, cmpR] using g
 clear g
 conv => cbv
 refine br (fun g => ?_) (fun g => ?_)
 ·have g0 := g
  have g : op = 17 := by simpa [hE.cmp, cmpR] using g
  conv => cbv
  refine br (fun _ => ?_) (fun q => absurd g0 q)
  conv => cbv
  refine st_lits hr tInts rfl (vs := [.int .i64 4, .int .i64 4]) (m := 2) rfl (by omega) (by omega) rfl (by simp [Value.cells]) fun A w' hx ho => ?_
  conv => cbv
  rw [hR]; exact ⟨hx, A, 2, 2, 4, [4, 4], rfl, by simp [rowV, g], (ho _ (n1_ _)).ints⟩
 have g17 : op ≠ 17 := by simpa [hE.cmp, cmpR] using g
 clear g
 conv => cbv
 refine br (fun g => ?_) (fun g => ?_)
 ·have g0 := g
  have g : op = 18 := by simpa [hE.cmp, cmpR] using g
  conv => cbv
  refine st_lits hr tInts rfl (vs := [.int .i64 4, .int .i64 4]) (m := 2) rfl (by omega) (by omega) rfl (by simp [Value.cells]) fun A w' hx ho => ?_
  conv => cbv
  rw [hR]; exact ⟨hx, A, 2, 2, 4, [4, 4], rfl, by simp [rowV, g], (ho _ (n1_ _)).ints⟩
 have g18 : op ≠ 18 := by simpa [hE.cmp, cmpR] using g
 clear g
 conv => cbv
 refine br (fun g => ?_) (fun g => ?_)
 ·have g0 := g
  have g : op = 19 := by simpa [hE.cmp, cmpR] using g
  conv => cbv
  refine br (fun _ => ?_) (fun q => absurd g0 q)
  conv => cbv
  refine st_lits hr tInts rfl (vs := [.int .i64 0, .int .i64 0]) (m := 2) rfl (by omega) (by omega) rfl (by simp [Value.cells]) fun A w' hx ho => ?_
  conv => cbv
  rw [hR]; exact ⟨hx, A, 2, 2, 1, [0, 0], rfl, by simp [rowV, g], (ho _ (n1_ _)).ints⟩
 have g19 : op ≠ 19 := by simpa [hE.cmp, cmpR] using g
 clear g
 conv => cbv
 refine br (fun g => ?_) (fun g => ?_)
 ·have g0 := g
  have g : op = 20 := by simpa [hE.cmp, cmpR] using g
  conv => cbv
  refine st_lits hr tInts rfl (vs := [.int .i64 0, .int .i64 0]) (m := 2) rfl (by omega) (by omega) rfl (by simp [Value.cells]) fun A w' hx ho => ?_
  conv => cbv
  rw [hR]; exact ⟨hx, A, 2, 2, 1, [0, 0], rfl, by simp [rowV, g], (ho _ (n1_ _)).ints⟩
 have g20 : op ≠ 20 := by simpa [hE.cmp, cmpR] using g
 clear g
 conv => cbv
 refine br (fun g => ?_) (fun g => ?_)
 ·have g0 := g
  have g : op = 21 := by simpa [hE.cmp, cmpR] using g
  conv => cbv
  refine br (fun _ => ?_) (fun q => absurd g0 q)
  conv => cbv
  refine st_lits hr tInts rfl (vs := [.int .i64 2, .int .i64 2]) (m := 2) rfl (by omega) (by omega) rfl (by simp [Value.cells]) fun A w' hx ho => ?_
  conv => cbv
  rw [hR]; exact ⟨hx, A, 2, 2, 1, [2, 2], rfl, by simp [rowV, g], (ho _ (n1_ _)).ints⟩
 have g21 : op ≠ 21 := by simpa [hE.cmp, cmpR] using g
 clear g
 conv => cbv
 refine br (fun g => ?_) (fun g => ?_)
 ·have g0 := g
  have g : op = 22 := by simpa [hE.cmp, cmpR] using g
  conv => cbv
  refine st_lits hr tInts rfl (vs := [.int .i64 2, .int .i64 2]) (m := 2) rfl (by omega) (by omega) rfl (by simp [Value.cells]) fun A w' hx ho => ?_
  conv => cbv
  rw [hR]; exact ⟨hx, A, 2, 2, 1, [2, 2], rfl, by simp [rowV, g], (ho _ (n1_ _)).ints⟩
 have g22 : op ≠ 22 := by simpa [hE.cmp, cmpR] using g
 clear g
 conv => cbv
 refine br (fun g => ?_) (fun g => ?_)
 ·have g0 := g
  have g : op = 23 := by simpa [hE.cmp, cmpR] using g
  conv => cbv
  refine st_lits hr tInts rfl (vs := [.int .i64 3, .int .i64 4]) (m := 2) rfl (by omega) (by omega) rfl (by simp [Value.cells]) fun A w' hx ho => ?_
  conv => cbv
  rw [hR]; exact ⟨hx, A, 2, 2, 1, [3, 4], rfl, by simp [rowV, g], (ho _ (n1_ _)).ints⟩
 have g23 : op ≠ 23 := by simpa [hE.cmp, cmpR] using g
 clear g
 conv => cbv
 refine br (fun g => ?_) (fun g => ?_)
 ·have g0 := g
  have g : op = 24 := by simpa [hE.cmp, cmpR] using g
  conv => cbv
  refine st_lits hr tInts rfl (vs := [.int .i64 4, .int .i64 4]) (m := 2) rfl (by omega) (by omega) rfl (by simp [Value.cells]) fun A w' hx ho => ?_
  conv => cbv
  rw [hR]; exact ⟨hx, A, 2, 2, 1, [4, 4], rfl, by simp [rowV, g], (ho _ (n1_ _)).ints⟩
 have g24 : op ≠ 24 := by simpa [hE.cmp, cmpR] using g
 clear g
 omega
theorem sAt : Slc Tryz.prog 176 175 (.agg ⟨[.string ⟨#[]⟩, .int .i64 0, .nilFunc]⟩) 3 32 := ⟨Tryz.underlying176, by kernel_rfl⟩
theorem fAt1 : Fld Tryz.prog 175 1 1 := ⟨by kernel_rfl⟩
theorem run_bA (s : ByteArray) (t : Int) (f : FuncId) (w : World) : (Instr.build 175 #[(0, .string s), (1, .int .i64 t), (2, .func (.func f) #[] #[])]).run Tryz.prog w = .ok (.agg #[.string s, .int .i64 t, .func (.func f) #[] #[]]) w := by kernel_rfl
theorem st_bA {E : Sym} {w : World} {K : Value → World → Prop} {d : Option Tmp} {ty : TypeId} {pos : String} {aft : Array Edge} {g : Option (Nat × Bool)} {bq : Bool} (hE : EngB bq Tryz.prog E) {s : ByteArray} {t : Int} {f : FuncId} {x0 x1 x2 : Operand} (hk : ∀ v, v = .agg ⟨[.string s, .int .i64 t, .func (.func f) #[] #[]]⟩ → K v w) : E.stop ⟨d, .build 175 ⟨[(0, x0), (1, x1), (2, x2)]⟩, ty, pos, aft, g⟩ [.string s, .int .i64 t, .func (.func f) #[] #[]] w K := by
 refine hE.det (v := .agg ⟨[.string s, .int .i64 t, .func (.func f) #[] #[]]⟩) (fun w1 _ ρ hρ => ?_) (hk _ rfl)
 simp only [opnds, b2_, b3_, b1_, and_true] at hρ
 have := run_bA s t f w1
 simp [execOp, hρ.1, hρ.2.1, hρ.2.2, this]
theorem attributesV_f {w : World} : FC Tryz.prog 107 [] w fun v w' => ∃ a, v = .slice (some a) 6 6 ∧ ∀ i : Nat, i < 6 → w'.cell? ((a.add (i * 3)).add 1) = some (.int .i64 (attrF i)) := by
 refine FC.intro (cs := []) Tryz.func107 (by kernel_rfl) fun E R hE hr hR => ?_
 conv => cbv
 refine st_bA hE fun v0 e0 => ?_
 conv => cbv
 refine st_bA hE fun v1 e1 => ?_
 conv => cbv
 refine st_bA hE fun v2 e2 => ?_
 conv => cbv
 refine st_bA hE fun v3 e3 => ?_
 conv => cbv
 refine st_bA hE fun v4 e4 => ?_
 conv => cbv
 refine st_bA hE fun v5 e5 => ?_
 conv => cbv
 refine st_litsK hr sAt rfl (by omega) (m := 6) rfl (by omega) (by omega) rfl (by simp [e0, e1, e2, e3, e4, e5, Value.cells]) rfl fun A w1 hx ho => ?_
 have ho := ho _ (n1_ _)
 obtain ⟨gb, rfl, _⟩ := ho.addr (by omega)
 conv => cbv
 rw [hR]; refine ⟨hx, _, rfl, fun i hi => ?_⟩
 rw [add_add]
 have hc := ho.at (i * 3 + 1) (.int .i64 (attrF i))
 refine hc ?_
 rw [e0, e1, e2, e3, e4, e5]
 rcases i with _ | _ | _ | _ | _ | _ | i <;> first | rfl | omega
abbrev St := List Int × List Int
def rangeF (np : Nat) (sl : Int) (ni a : Nat) (o g : Int) : Prop := (o = 1 → g < np) ∧ (o = 2 → g < 6) ∧ (o = 3 ∨ o = 4 → g < sl) ∧ (o = 22 ∨ o = 23 → (a : Int) < g ∧ g < ni)
instance (np : Nat) (sl : Int) (ni a : Nat) (o g : Int) : Decidable (rangeF np sl ni a o g) := by unfold rangeF; infer_instance
def wantF (o : Int) : List Int := if o = 1 ∨ o = 2 ∨ o = 3 ∨ o = 22 ∨ o = 24 then [] else if o = 4 then [-1] else if o = 23 then [1] else if o = 25 then [4] else (rowV (o + 3)).1
def kindF (pv : List PV) (g : Int) : Int := ((pv[g.toNat]?).map (·.k)).getD 0
def slotF (sls : List Int) (g : Int) : Int := (sls[g.toNat]?).getD 0
def pushF (pv : List PV) (sls : List Int) (o g : Int) : Int :=
 if o = 1 then kindF pv g else if o = 2 then attrF g else if o = 3 then slotF sls g else if o = 4 ∨ o = 22 ∨ o = 23 ∨ o = 24 ∨ o = 25 then 0 else (rowV (o + 3)).2
def fitF (o old : Int) (args : List Int) : Prop := (o = 4 → old = 0 ∨ args[0]? = some old) ∧ (o = 23 → args[0]? = some 1) ∧ (o = 25 → args[0]? = some 4) ∧ (5 ≤ o ∧ o ≤ 21 → typF (o + 3) args ≠ 0)
instance (o old : Int) (args : List Int) : Decidable (fitF o old args) := by unfold fitF; infer_instance
def nextS (o g : Int) (s : St) (n : Nat) (p : Int) : St := (s.1.take n ++ (if p = 0 then [] else [p]), if o = 4 then s.2.set g.toNat ((s.1[n]?).getD 0) else s.2)
def stepF (pv : List PV) (sl : Int) (ni a : Nat) (o g : Int) (s : St) : Int × St :=
 if ¬ rangeF pv.length sl ni a o g then (3, s)
 else if s.1.length < (wantF o).length then (4, s)
 else if ¬ fitF o (slotF s.2 g) (s.1.drop (s.1.length - (wantF o).length)) then (5, s)
 else if o = 3 ∧ pushF pv s.2 o g = 0 then (6, s)
 else if 100 < (nextS o g s (s.1.length - (wantF o).length) (pushF pv s.2 o g)).1.length then (7, s)
 else (0, nextS o g s (s.1.length - (wantF o).length) (pushF pv s.2 o g))
def goesF (o : Int) : Prop := o ≠ 22 ∧ o ≠ 24 ∧ o ≠ 25
instance (o : Int) : Decidable (goesF o) := by unfold goesF; infer_instance
def nexts (a : Nat) (o g : Int) : List Int := if o = 24 ∨ o = 25 then [] else if o = 22 then [g] else if o = 23 then [(a : Int) + 1, g] else [(a : Int) + 1]
abbrev Sts := Nat → Option St
def know (f : Sts) (k : Nat) (t : St) : Option Sts := match f k with
 | none => some fun j => if j = k then some t else f j
 | some u => if u = t then some f else none
def merge (t : St) : List Int → Sts → Option Sts
 | [], f => some f
 | k :: l, f => match know f k.toNat t with
  | none => none
  | some f' => merge t l f'
def verL (pv : List PV) (sl : Int) (ni : Nat) : List (Int × Int) → Nat → Sts → Int → Int × Int
 | [], _, _, m => (m, 0)
 | (o, g) :: r, a, f, m => match f a with
  | none => (0, 2)
  | some s =>
   if (stepF pv sl ni a o g s).1 ≠ 0 then (0, (stepF pv sl ni a o g s).1)
   else if goesF o ∧ a + 1 = ni then (0, 8)
   else match merge (stepF pv sl ni a o g s).2 (nexts a o g) f with
    | none => (0, 9)
    | some f' => verL pv sl ni r (a + 1) f' (max (max m s.1.length) (stepF pv sl ni a o g s).2.1.length)
def start (sl : Int) : Sts := fun k => if k = 0 then some ([], List.replicate sl.toNat 0) else none
open Classical in
noncomputable def verF (pv : List PV) (sl : Int) (is : List (Int × Int)) : Int × Int := if ¬ shapeP pv sl is then (0, 1) else if is = [] then (0, 8) else verL pv sl is.length is 0 (start sl) 0
theorem o25 {o : Int} (h1 : 1 ≤ o) (h2 : o ≤ 25) : o = 1 ∨ o = 2 ∨ o = 3 ∨ o = 4 ∨ o = 5 ∨ o = 6 ∨ o = 7 ∨ o = 8 ∨ o = 9 ∨ o = 10 ∨ o = 11 ∨ o = 12 ∨ o = 13 ∨ o = 14 ∨ o = 15 ∨ o = 16 ∨ o = 17 ∨ o = 18 ∨ o = 19 ∨ o = 20 ∨ o = 21 ∨ o = 22 ∨ o = 23 ∨ o = 24 ∨ o = 25 := by omega
theorem pops_want {o : Int} (h1 : 1 ≤ o) (h2 : o ≤ 25) : popsF o = ((wantF o).length : Int) := by
 rcases o25 h1 h2 with rfl | rfl | rfl | rfl | rfl | rfl | rfl | rfl | rfl | rfl | rfl | rfl | rfl | rfl | rfl | rfl | rfl | rfl | rfl | rfl | rfl | rfl | rfl | rfl | rfl <;> decide
theorem row_typ {op : Int} {ts : List Int} (h1 : 8 ≤ op) (h2 : op ≤ 24) (h : typF op ts ≠ 0) : typF op ts = (rowV op).2 := by
 unfold typF rowV at *
 split at h <;> repeat' split at h
 all_goals first | (exact absurd rfl h) | skip
 all_goals (repeat' split) <;> first | rfl | omega
theorem kids_want {o : Int} (h1 : 5 ≤ o) (h2 : o ≤ 21) : kidsF (o + 3) = ((wantF o).length : Int) := by
 have := pops_want (o := o) (by omega) (by omega)
 rw [← this]; unfold popsF oprF
 rw [if_neg (by omega), if_neg (by omega), if_pos ⟨h1, h2⟩]
def chkV (o : Int) (gi : Nat) : List Int → List Int → Int → List Int → Option (List Int)
 | w :: ws, a :: bs, any, sls =>
  if (w = 0 ∧ a ≠ (if w = 0 ∧ any = 0 then a else any)) ∨ (0 < w ∧ a ≠ w) then none
  else if o = 4 then (if (sls[gi]?).getD 0 ≠ 0 ∧ (sls[gi]?).getD 0 ≠ a then none else chkV o gi ws bs (if w = 0 ∧ any = 0 then a else any) (sls.set gi a))
  else chkV o gi ws bs (if w = 0 ∧ any = 0 then a else any) sls
 | _, _, _, sls => some sls
theorem len_two {l : List Int} (h : l.length = 2) : ∃ a b, l = [a, b] := by
 match l, h with
 | [a, b], _ => exact ⟨a, b, rfl⟩
theorem chk_fit {o : Int} (h1 : 1 ≤ o) (h2 : o ≤ 25) {gi : Nat} {args sls : List Int} (hl : args.length = (wantF o).length) (hp : ∀ a ∈ args, 0 < a) :
  chkV o gi (wantF o) args 0 sls = if fitF o ((sls[gi]?).getD 0) args then some (if o = 4 then sls.set gi ((args[0]?).getD 0) else sls) else none := by
 rcases o25 h1 h2 with rfl | rfl | rfl | rfl | rfl | rfl | rfl | rfl | rfl | rfl | rfl | rfl | rfl | rfl | rfl | rfl | rfl | rfl | rfl | rfl | rfl | rfl | rfl | rfl | rfl
 ·have e : args = [] := List.eq_nil_of_length_eq_zero (by rw [hl]; decide)
  subst e
  simp [wantF, chkV, fitF]
 ·have e : args = [] := List.eq_nil_of_length_eq_zero (by rw [hl]; decide)
  subst e
  simp [wantF, chkV, fitF]
 ·have e : args = [] := List.eq_nil_of_length_eq_zero (by rw [hl]; decide)
  subst e
  simp [wantF, chkV, fitF]
 ·obtain ⟨a, rfl⟩ : ∃ a, args = [a] := List.length_eq_one_iff.1 (by rw [hl]; decide)
  have ha := hp a (by simp)
  simp [wantF, rowV, chkV, fitF, typF, allT]
  try (repeat' split) <;> first | rfl | omega | simp_all | (exfalso; omega)
 ·obtain ⟨a, rfl⟩ : ∃ a, args = [a] := List.length_eq_one_iff.1 (by rw [hl]; decide)
  have ha := hp a (by simp)
  simp [wantF, rowV, chkV, fitF, typF, allT]
  try (repeat' split) <;> first | rfl | omega | simp_all | (exfalso; omega)
 ·obtain ⟨a, rfl⟩ : ∃ a, args = [a] := List.length_eq_one_iff.1 (by rw [hl]; decide)
  have ha := hp a (by simp)
  simp [wantF, rowV, chkV, fitF, typF, allT]
  try (repeat' split) <;> first | rfl | omega | simp_all | (exfalso; omega)
 ·obtain ⟨a, rfl⟩ : ∃ a, args = [a] := List.length_eq_one_iff.1 (by rw [hl]; decide)
  have ha := hp a (by simp)
  simp [wantF, rowV, chkV, fitF, typF, allT]
  try (repeat' split) <;> first | rfl | omega | simp_all | (exfalso; omega)
 ·obtain ⟨a, b, rfl⟩ : ∃ a b, args = [a, b] := len_two (by rw [hl]; decide)
  have ha := hp a (by simp)
  have hb := hp b (by simp)
  simp [wantF, rowV, chkV, fitF, typF, allT]
  try (repeat' split) <;> first | rfl | omega | simp_all | (exfalso; omega)
 ·obtain ⟨a, b, rfl⟩ : ∃ a b, args = [a, b] := len_two (by rw [hl]; decide)
  have ha := hp a (by simp)
  have hb := hp b (by simp)
  simp [wantF, rowV, chkV, fitF, typF, allT]
  try (repeat' split) <;> first | rfl | omega | simp_all | (exfalso; omega)
 ·obtain ⟨a, b, rfl⟩ : ∃ a b, args = [a, b] := len_two (by rw [hl]; decide)
  have ha := hp a (by simp)
  have hb := hp b (by simp)
  simp [wantF, rowV, chkV, fitF, typF, allT]
  try (repeat' split) <;> first | rfl | omega | simp_all | (exfalso; omega)
 ·obtain ⟨a, b, rfl⟩ : ∃ a b, args = [a, b] := len_two (by rw [hl]; decide)
  have ha := hp a (by simp)
  have hb := hp b (by simp)
  simp [wantF, rowV, chkV, fitF, typF, allT]
  try (repeat' split) <;> first | rfl | omega | simp_all | (exfalso; omega)
 ·obtain ⟨a, b, rfl⟩ : ∃ a b, args = [a, b] := len_two (by rw [hl]; decide)
  have ha := hp a (by simp)
  have hb := hp b (by simp)
  simp [wantF, rowV, chkV, fitF, typF, allT]
  try (repeat' split) <;> first | rfl | omega | simp_all | (exfalso; omega)
 ·obtain ⟨a, b, rfl⟩ : ∃ a b, args = [a, b] := len_two (by rw [hl]; decide)
  have ha := hp a (by simp)
  have hb := hp b (by simp)
  simp [wantF, rowV, chkV, fitF, typF, allT]
  try (repeat' split) <;> first | rfl | omega | simp_all | (exfalso; omega)
 ·obtain ⟨a, b, rfl⟩ : ∃ a b, args = [a, b] := len_two (by rw [hl]; decide)
  have ha := hp a (by simp)
  have hb := hp b (by simp)
  simp [wantF, rowV, chkV, fitF, typF, allT]
  try (repeat' split) <;> first | rfl | omega | simp_all | (exfalso; omega)
 ·obtain ⟨a, b, rfl⟩ : ∃ a b, args = [a, b] := len_two (by rw [hl]; decide)
  have ha := hp a (by simp)
  have hb := hp b (by simp)
  simp [wantF, rowV, chkV, fitF, typF, allT]
  try (repeat' split) <;> first | rfl | omega | simp_all | (exfalso; omega)
 ·obtain ⟨a, b, rfl⟩ : ∃ a b, args = [a, b] := len_two (by rw [hl]; decide)
  have ha := hp a (by simp)
  have hb := hp b (by simp)
  simp [wantF, rowV, chkV, fitF, typF, allT]
  try (repeat' split) <;> first | rfl | omega | simp_all | (exfalso; omega)
 ·obtain ⟨a, b, rfl⟩ : ∃ a b, args = [a, b] := len_two (by rw [hl]; decide)
  have ha := hp a (by simp)
  have hb := hp b (by simp)
  simp [wantF, rowV, chkV, fitF, typF, allT]
  try (repeat' split) <;> first | rfl | omega | simp_all | (exfalso; omega)
 ·obtain ⟨a, b, rfl⟩ : ∃ a b, args = [a, b] := len_two (by rw [hl]; decide)
  have ha := hp a (by simp)
  have hb := hp b (by simp)
  simp [wantF, rowV, chkV, fitF, typF, allT]
  try (repeat' split) <;> first | rfl | omega | simp_all | (exfalso; omega)
 ·obtain ⟨a, b, rfl⟩ : ∃ a b, args = [a, b] := len_two (by rw [hl]; decide)
  have ha := hp a (by simp)
  have hb := hp b (by simp)
  simp [wantF, rowV, chkV, fitF, typF, allT]
  try (repeat' split) <;> first | rfl | omega | simp_all | (exfalso; omega)
 ·obtain ⟨a, b, rfl⟩ : ∃ a b, args = [a, b] := len_two (by rw [hl]; decide)
  have ha := hp a (by simp)
  have hb := hp b (by simp)
  simp [wantF, rowV, chkV, fitF, typF, allT]
  try (repeat' split) <;> first | rfl | omega | simp_all | (exfalso; omega)
 ·obtain ⟨a, b, rfl⟩ : ∃ a b, args = [a, b] := len_two (by rw [hl]; decide)
  have ha := hp a (by simp)
  have hb := hp b (by simp)
  simp [wantF, rowV, chkV, fitF, typF, allT]
  try (repeat' split) <;> first | rfl | omega | simp_all | (exfalso; omega)
 ·have e : args = [] := List.eq_nil_of_length_eq_zero (by rw [hl]; decide)
  subst e
  simp [wantF, chkV, fitF]
 ·obtain ⟨a, rfl⟩ : ∃ a, args = [a] := List.length_eq_one_iff.1 (by rw [hl]; decide)
  have ha := hp a (by simp)
  simp [wantF, rowV, chkV, fitF, typF, allT]
  try (repeat' split) <;> first | rfl | omega | simp_all | (exfalso; omega)
 ·have e : args = [] := List.eq_nil_of_length_eq_zero (by rw [hl]; decide)
  subst e
  simp [wantF, chkV, fitF]
 ·obtain ⟨a, rfl⟩ : ∃ a, args = [a] := List.length_eq_one_iff.1 (by rw [hl]; decide)
  have ha := hp a (by simp)
  simp [wantF, rowV, chkV, fitF, typF, allT]
  try (repeat' split) <;> first | rfl | omega | simp_all | (exfalso; omega)
structure VerS (pv : List PV) (sl : Int) (is : List (Int × Int)) (m : Int) (F : Sts) : Prop where
 start : F 0 = some ([], List.replicate sl.toNat 0)
 step : ∀ (a : Nat) (o g : Int), is[a]? = some (o, g) → ∃ s, F a = some s ∧ (stepF pv sl is.length a o g s).1 = 0 ∧ (goesF o → a + 1 < is.length) ∧ (∀ k ∈ nexts a o g, F k.toNat = some (stepF pv sl is.length a o g s).2) ∧ (s.1.length : Int) ≤ m ∧ ((stepF pv sl is.length a o g s).2.1.length : Int) ≤ m
theorem know_mono {f f' : Sts} {k : Nat} {t : St} (h : know f k t = some f') : (∀ j u, f j = some u → f' j = some u) ∧ f' k = some t := by
 unfold know at h
 cases hk : f k with
 | none =>
  rw [hk] at h
  cases h
  refine ⟨fun j u hj => ?_, by simp⟩
  by_cases e : j = k
  ·subst e; rw [hk] at hj; cases hj
  ·simp [e, hj]
 | some u =>
  rw [hk] at h
  simp only at h
  split at h
  ·rename_i e; cases h; exact ⟨fun _ _ h => h, by rw [hk, e]⟩
  ·cases h
theorem merge_mono {t : St} : ∀ {l : List Int} {f f' : Sts}, merge t l f = some f' → (∀ j u, f j = some u → f' j = some u) ∧ ∀ k ∈ l, f' k.toNat = some t
 | [], f, f', h => by simp only [merge] at h; cases h; exact ⟨fun _ _ h => h, by simp⟩
 | k :: l, f, f', h => by
  rw [merge] at h
  cases hk : know f k.toNat t with
  | none => rw [hk] at h; cases h
  | some f1 =>
   rw [hk] at h
   obtain ⟨a1, a2⟩ := know_mono hk
   obtain ⟨b1, b2⟩ := merge_mono h
   refine ⟨fun j u hj => b1 j u (a1 j u hj), fun z hz => ?_⟩
   rcases List.mem_cons.1 hz with rfl | hz
   ·exact b1 _ _ a2
   ·exact b2 z hz
theorem verL_sound {pv : List PV} {sl : Int} {ni : Nat} : ∀ {r : List (Int × Int)} {a : Nat} {f : Sts} {m M : Int}, verL pv sl ni r a f m = (M, 0) → ∃ F : Sts, (∀ j u, f j = some u → F j = some u) ∧ m ≤ M ∧
  ∀ (j : Nat) (o g : Int), r[j]? = some (o, g) → ∃ s, F (a + j) = some s ∧ (stepF pv sl ni (a + j) o g s).1 = 0 ∧ (goesF o → a + j + 1 ≠ ni) ∧ (∀ k ∈ nexts (a + j) o g, F k.toNat = some (stepF pv sl ni (a + j) o g s).2) ∧ (s.1.length : Int) ≤ M ∧ ((stepF pv sl ni (a + j) o g s).2.1.length : Int) ≤ M
 | [], a, f, m, M, h => by
  simp only [verL, Prod.mk.injEq, and_true] at h
  subst h
  exact ⟨f, fun _ _ h => h, Int.le_refl _, fun j o g h => by simp at h⟩
 | (o, g) :: r, a, f, m, M, h => by
  rw [verL] at h
  cases hf : f a with
  | none => rw [hf] at h; simp at h
  | some s =>
   rw [hf] at h
   simp only at h
   split at h
   ·rename_i q; simp only [Prod.mk.injEq] at h; exact absurd h.2 q
   ·rename_i q0
    split at h
    ·simp at h
    ·rename_i q1
     cases hm : merge (stepF pv sl ni a o g s).2 (nexts a o g) f with
     | none => rw [hm] at h; simp at h
     | some f' =>
      rw [hm] at h
      obtain ⟨a1, a2⟩ := merge_mono hm
      obtain ⟨F, b1, b2, b3⟩ := verL_sound h
      refine ⟨F, fun j u hj => b1 j u (a1 j u hj), by omega, fun j o' g' hj => ?_⟩
      cases j with
      | zero =>
       simp at hj
       obtain ⟨rfl, rfl⟩ := hj
       exact ⟨s, b1 _ _ (a1 _ _ hf), Classical.byContradiction q0, fun hg e => q1 ⟨hg, e⟩, fun k hk => b1 _ _ (a2 k hk), by omega, by simp only [Nat.add_zero]; omega⟩
      | succ j =>
       have := b3 j o' g' (by simpa using hj)
       rw [show a + 1 + j = a + (j + 1) by omega] at this
       exact this
theorem ver_sound {pv : List PV} {sl : Int} {is : List (Int × Int)} {m : Int} (h : verF pv sl is = (m, 0)) : shapeP pv sl is ∧ is ≠ [] ∧ ∃ F, VerS pv sl is m F := by
 unfold verF at h
 split at h
 ·simp at h
 ·rename_i hs
  have hs : shapeP pv sl is := Classical.byContradiction hs
  split at h
  ·simp at h
  ·rename_i hne
   obtain ⟨F, h1, h2, h3⟩ := verL_sound h
   refine ⟨hs, hne, F, h1 0 _ rfl, fun a o g ha => ?_⟩
   have := h3 a o g ha
   rw [Nat.zero_add] at this
   obtain ⟨s, k1, k2, k3, k4⟩ := this
   refine ⟨s, k1, k2, fun hg => ?_, k4⟩
   have := k3 hg
   have := (List.getElem?_eq_some_iff.1 ha).1
   omega
inductive RS where
 | go (a : Nat) (st sl : List PV)
 | done (o : Out)
def stepV (pv rq : List PV) (a : Nat) (o g : Int) (st sl : List PV) : RS :=
 if o = 1 then .go (a + 1) (st ++ [pv.getD g.toNat nonV]) sl
 else if o = 2 then .go (a + 1) (st ++ [rq.getD g.toNat nonV]) sl
 else if o = 3 then .go (a + 1) (st ++ [sl.getD g.toNat nonV]) sl
 else if o = 4 then .go (a + 1) st.dropLast (sl.set g.toNat (st.getLastD nonV))
 else if o = 22 then .go g.toNat st sl
 else if o = 23 then .go (if (st.getLastD nonV).n = 0 then g.toNat else a + 1) st.dropLast sl
 else if o = 24 then .done .deny
 else if o = 25 then .done (.grant (st.getLastD nonV).xs)
 else match combR (o + 3) ((st.drop (st.length - (wantF o).length)).map .inr) with
  | .inl c => .done (.err c)
  | .inr v => .go (a + 1) (st.take (st.length - (wantF o).length) ++ [v]) sl
def runV (pv rq : List PV) (is : List (Int × Int)) : Nat → Nat → List PV → List PV → Nat → Nat → Out × Nat × Nat
 | 0, _, _, _, n, p => (.err 0, n, p)
 | f + 1, a, st, sl, n, p => match is[a]? with
  | none => (.err 0, n, p)
  | some i => match stepV pv rq a i.1 i.2 st sl with
   | .done o => (o, n + 1, p)
   | .go a' st' sl' => runV pv rq is f a' st' sl' (n + 1) (max p st'.length)
structure StT (s : St) (st sl : List PV) : Prop where
 len : st.length = s.1.length
 val : ∀ (i : Nat) (ty : Int) (v : PV), s.1[i]? = some ty → st[i]? = some v → valV ty v
 slen : sl.length = s.2.length
 sval : ∀ (i : Nat) (ty : Int) (v : PV), s.2[i]? = some ty → ty ≠ 0 → sl[i]? = some v → valV ty v
theorem getLastD_get {α : Type} {l : List α} {d : α} (h : 0 < l.length) : l[l.length - 1]? = some (l.getLastD d) := by
 cases l with
 | nil => simp at h
 | cons x l => rw [List.getLastD_eq_getLast?, List.getLast?_eq_getElem?]; simp
theorem stepF_ok {pv : List PV} {sl : Int} {ni a : Nat} {o g : Int} {s : St} (h : (stepF pv sl ni a o g s).1 = 0) : rangeF pv.length sl ni a o g ∧ (wantF o).length ≤ s.1.length ∧ fitF o (slotF s.2 g) (s.1.drop (s.1.length - (wantF o).length)) ∧ (o = 3 → pushF pv s.2 o g ≠ 0) ∧
  (stepF pv sl ni a o g s).2 = nextS o g s (s.1.length - (wantF o).length) (pushF pv s.2 o g) := by
 unfold stepF at h ⊢
 split at h
 ·simp at h
 ·rename_i c1
  split at h
  ·simp at h
  ·rename_i c2
   split at h
   ·simp at h
   ·rename_i c3
    split at h
    ·simp at h
    ·rename_i c4
     split at h
     ·simp at h
     ·rename_i c5
      rw [if_neg c1, if_neg c2, if_neg c3, if_neg c4, if_neg c5]
      exact ⟨Classical.byContradiction c1, by omega, Classical.byContradiction c3, fun h3 h0 => c4 ⟨h3, h0⟩, rfl⟩
theorem StT.push {s : St} {st sl : List PV} (h : StT s st sl) {ty : Int} {v : PV} (hv : valV ty v) : StT (s.1 ++ [ty], s.2) (st ++ [v]) sl := by
 refine ⟨by simp [h.len], fun i t u hi hu => ?_, h.slen, h.sval⟩
 simp only at hi
 by_cases e : i < s.1.length
 ·rw [List.getElem?_append_left e] at hi
  rw [List.getElem?_append_left (by rw [h.len]; exact e)] at hu
  exact h.val i t u hi hu
 ·rw [List.getElem?_append_right (by omega)] at hi
  rw [List.getElem?_append_right (by rw [h.len]; omega)] at hu
  have hl := h.len
  by_cases e2 : i = s.1.length
  ·subst e2
   rw [Nat.sub_self] at hi
   rw [hl, Nat.sub_self] at hu
   simp at hi hu
   subst hi; subst hu; exact hv
  ·obtain ⟨d, hd⟩ : ∃ d, i - s.1.length = d + 1 := ⟨i - s.1.length - 1, by omega⟩
   rw [hd] at hi; simp at hi
theorem StT.take {s : St} {st sl : List PV} (h : StT s st sl) (n : Nat) : StT (s.1.take n, s.2) (st.take n) sl := by
 refine ⟨by simp [h.len], fun i t u hi hu => ?_, h.slen, h.sval⟩
 simp only at hi
 rw [List.getElem?_take] at hi hu
 split at hi
 ·rename_i e; rw [if_pos e] at hu; exact h.val i t u hi hu
 ·cases hi
theorem opK_typ {o : Int} (h1 : 5 ≤ o) (h2 : o ≤ 21) (args : List Int) : typG (o + 3) args = typF (o + 3) args := by
 unfold typG
 rw [if_neg (by omega), if_neg (by omega)]
def PoolV (pv : List PV) : Prop := ∀ p ∈ pv, valV p.k p
theorem pool_val {pv : List PV} (h : ∀ p ∈ pv, valOK p) (hf : ∀ p ∈ pv, fits p.n) (hs : ∀ p ∈ pv, p.tx.size ≤ 9223372036854775807) : PoolV pv := fun p hp => by
 obtain ⟨k, n, tx, xs⟩ := p
 have h1 := h _ hp
 have h2 := hf _ hp
 have h3 := hs _ hp
 unfold valOK at h1
 simp only at h1 h2 h3
 refine ⟨rfl, ?_⟩
 rcases h1 with ⟨rfl, a, b, c⟩ | ⟨rfl, b, c⟩ | ⟨rfl, a, b, c⟩ | ⟨rfl, a, b, c⟩
 ·exact .inl ⟨rfl, a, b, c⟩
 ·exact .inr (.inl ⟨rfl, h2, b, c⟩)
 ·exact .inr (.inr (.inl ⟨rfl, a, c, h3⟩))
 ·exact .inr (.inr (.inr ⟨rfl, a, b, c⟩))
theorem args_typ {s : St} {st sl : List PV} (h : StT s st sl) (n : Nat) : (st.drop n).length = (s.1.drop n).length ∧ ∀ (i : Nat) (t : Int) (r : Int ⊕ PV), (s.1.drop n)[i]? = some t → ((st.drop n).map Sum.inr)[i]? = some r → resV t r := by
 refine ⟨by simp [h.len], fun i t r hi hr => ?_⟩
 rw [List.getElem?_map] at hr
 rw [List.getElem?_drop] at hi hr
 cases hv : st[n + i]? with
 | none => rw [hv] at hr; cases hr
 | some v =>
  rw [hv] at hr
  cases hr
  exact h.val _ t v hi hv
def OutV : Out → Prop
 | .deny => True
 | .grant xs => isSet xs
 | .err c => c = 1 ∨ c = 2 ∨ c = 3
theorem step_typ {pv rq : List PV} {sl : Int} {is : List (Int × Int)} {m : Int} {F : Sts} (hV : VerS pv sl is m F) (hsh : shapeP pv sl is) (hp : PoolV pv) (hq : ReqV rq) {a : Nat} {o g : Int} (ha : is[a]? = some (o, g)) {s : St} (hs : F a = some s) {st ss : List PV} (hT : StT s st ss) (hsl : (ss.length : Int) = sl) :
  (stepF pv sl is.length a o g s).1 = 0 ∧ match stepV pv rq a o g st ss with
  | .done r => OutV r
  | .go a' st' ss' => a < a' ∧ a' < is.length ∧ ∃ s', F a' = some s' ∧ StT s' st' ss' ∧ (st'.length : Int) ≤ m ∧ ss'.length = ss.length := by
 obtain ⟨s0, k1, k2, k3, k4, k5, k6⟩ := hV.step a o g ha
 rw [hs] at k1
 cases k1
 refine ⟨k2, ?_⟩
 obtain ⟨r1, r2, r3, r4, r5⟩ := stepF_ok k2
 rw [r5] at k4 k6
 have hio : insOK (o, g) := hsh.2.2.2.2.2 _ (m1_ ha)
 have hio1 : 1 ≤ o ∧ o ≤ 25 ∧ 0 ≤ g := by
  have := hio
  unfold insOK at this
  simp only at this
  exact ⟨this.1, this.2.1, this.2.2.1⟩
 obtain ⟨ho1, ho2, hg0⟩ := hio1
 have hlen := hT.len
 have hni : a < is.length := (List.getElem?_eq_some_iff.1 ha).1
 have next : ∀ {k : Int} {st' : List PV} {ss' : List PV} {s' : St}, k ∈ nexts a o g → nextS o g s (s.1.length - (wantF o).length) (pushF pv s.2 o g) = s' → StT s' st' ss' → (a : Int) < k → k < is.length → ss'.length = ss.length → a < k.toNat ∧ k.toNat < is.length ∧ ∃ s', F k.toNat = some s' ∧ StT s' st' ss' ∧ (st'.length : Int) ≤ m ∧ ss'.length = ss.length := fun hk e hT' h1 h2 h3 => by
  subst e
  refine ⟨by omega, by omega, _, k4 _ hk, hT', ?_, h3⟩
  rw [hT'.len]; exact k6
 have n1 : goesF o → ∀ {st' : List PV} {ss' : List PV} {s' : St}, o ≠ 22 → o ≠ 24 → o ≠ 25 → nextS o g s (s.1.length - (wantF o).length) (pushF pv s.2 o g) = s' → StT s' st' ss' → ss'.length = ss.length → a < a + 1 ∧ a + 1 < is.length ∧ ∃ s', F (a + 1) = some s' ∧ StT s' st' ss' ∧ (st'.length : Int) ≤ m ∧ ss'.length = ss.length := fun hg st' ss' s' q1 q2 q3 e hT' h3 => by
  have hk : ((a : Int) + 1) ∈ nexts a o g := by
   unfold nexts
   rw [if_neg (by omega), if_neg q1]
   split <;> simp
  have := next hk e hT' (by omega) (by have := k3 hg; omega) h3
  rw [show ((a : Int) + 1).toNat = a + 1 by omega] at this
  exact this
 have pushT : ∀ {ty : Int} {v : PV}, valV ty v → ty ≠ 0 := fun h => by have := (val_ty h).2; omega
 unfold stepV
 by_cases e1 : o = 1
 ·subst e1
  rw [if_pos rfl]
  have hr := r1.1 rfl
  obtain ⟨p, hp1⟩ : ∃ p, pv[g.toNat]? = some p := ⟨_, g2_ (by omega)⟩
  have hv := hp p (m1_ hp1)
  have ep : pushF pv s.2 1 g = p.k := by unfold pushF kindF; rw [if_pos rfl, hp1]; rfl
  have eg : pv.getD g.toNat nonV = p := by rw [List.getD_eq_getElem?_getD, hp1]; rfl
  rw [eg]
  refine n1 (by unfold goesF; omega) (s' := (s.1 ++ [p.k], s.2)) (by omega) (by omega) (by omega) ?_ (hT.push hv) rfl
  rw [ep]
  unfold nextS
  rw [if_neg (pushT hv), if_neg (by omega), show wantF 1 = [] from rfl, a4_, Nat.sub_zero, List.take_length]
 rw [if_neg e1]
 by_cases e2 : o = 2
 ·subst e2
  rw [if_pos rfl]
  have hr := r1.2.1 rfl
  obtain ⟨p, hp1⟩ : ∃ p, rq[g.toNat]? = some p := ⟨_, g2_ (by rw [hq.1]; omega)⟩
  have hv := hq.2 _ p hp1
  have ep : pushF pv s.2 2 g = attrF g := by unfold pushF; rw [if_neg (by omega), if_pos rfl]
  have eg : rq.getD g.toNat nonV = p := by rw [List.getD_eq_getElem?_getD, hp1]; rfl
  rw [show ((g.toNat : Nat) : Int) = g by omega] at hv
  rw [eg]
  refine n1 (by unfold goesF; omega) (s' := (s.1 ++ [attrF g], s.2)) (by omega) (by omega) (by omega) ?_ (hT.push hv) rfl
  rw [ep]
  unfold nextS
  rw [if_neg (pushT hv), if_neg (by omega), show wantF 2 = [] from rfl, a4_, Nat.sub_zero, List.take_length]
 rw [if_neg e2]
 by_cases e3 : o = 3
 ·subst e3
  rw [if_pos rfl]
  have hr := r1.2.2.1 (.inl rfl)
  have ep : pushF pv s.2 3 g = slotF s.2 g := by unfold pushF; rw [if_neg (by omega), if_neg (by omega), if_pos rfl]
  have h4 := r4 rfl
  rw [ep] at h4
  have hsl2 := hT.slen
  obtain ⟨p, hp1⟩ : ∃ p, ss[g.toNat]? = some p := ⟨_, g2_ (by omega)⟩
  obtain ⟨ty, hty⟩ : ∃ ty, s.2[g.toNat]? = some ty := ⟨_, g2_ (by omega)⟩
  have es : slotF s.2 g = ty := by unfold slotF; rw [hty]; rfl
  rw [es] at h4 ep
  have hv := hT.sval _ ty p hty h4 hp1
  have eg : ss.getD g.toNat nonV = p := by rw [List.getD_eq_getElem?_getD, hp1]; rfl
  rw [eg]
  refine n1 (by unfold goesF; omega) (s' := (s.1 ++ [ty], s.2)) (by omega) (by omega) (by omega) ?_ (hT.push hv) rfl
  rw [ep]
  unfold nextS
  rw [if_neg h4, if_neg (by omega), show wantF 3 = [] from rfl, a4_, Nat.sub_zero, List.take_length]
 rw [if_neg e3]
 have last : (wantF o).length = 1 → 1 ≤ s.1.length ∧ ∃ ty, s.1[s.1.length - 1]? = some ty ∧ valV ty (st.getLastD nonV) := fun hw => by
  have hl1 : 1 ≤ s.1.length := by omega
  obtain ⟨ty, hty⟩ : ∃ ty, s.1[s.1.length - 1]? = some ty := ⟨_, g2_ (by omega)⟩
  refine ⟨hl1, ty, hty, hT.val _ ty _ hty ?_⟩
  rw [← hlen]
  exact getLastD_get (by omega)
 have dl : st.dropLast = st.take (s.1.length - 1) := by rw [List.dropLast_eq_take, hlen]
 by_cases e4 : o = 4
 ·subst e4
  rw [if_pos rfl]
  have hw : (wantF 4).length = 1 := by decide
  obtain ⟨hl1, ty, hty, hv⟩ := last hw
  have hr := r1.2.2.1 (.inr rfl)
  have ep : pushF pv s.2 4 g = 0 := by unfold pushF; rw [if_neg (by omega), if_neg (by omega), if_neg (by omega), if_pos (by omega)]
  have hsl2 := hT.slen
  rw [dl]
  have hT2 := hT.take (s.1.length - 1)
  refine n1 (by unfold goesF; omega) (s' := (s.1.take (s.1.length - 1), s.2.set g.toNat ty)) (by omega) (by omega) (by omega) ?_ ⟨hT2.len, hT2.val, by simp [hsl2], fun i t u hi h0 hu => ?_⟩ (by simp)
  ·rw [ep]
   unfold nextS
   rw [if_pos rfl, if_pos rfl, hw, hty, a7_]; rfl
  ·simp only at hi
   by_cases e : g.toNat = i
   ·subst e
    rw [List.getElem?_set_self (by omega)] at hi hu
    cases hi; cases hu; exact hv
   ·rw [List.getElem?_set_ne e] at hi hu
    exact hT.sval i t u hi h0 hu
 rw [if_neg e4]
 by_cases e22 : o = 22
 ·subst e22
  rw [if_pos rfl]
  have hr := r1.2.2.2 (.inl rfl)
  have ep : pushF pv s.2 22 g = 0 := by unfold pushF; rw [if_neg (by omega), if_neg (by omega), if_neg (by omega), if_pos (by omega)]
  refine next (k := g) (s' := s) (by unfold nexts; simp) ?_ hT hr.1 hr.2 rfl
  rw [ep]
  unfold nextS
  rw [if_pos rfl, if_neg (by omega), show wantF 22 = [] from rfl, a4_, Nat.sub_zero, List.take_length, a7_]
 rw [if_neg e22]
 by_cases e23 : o = 23
 ·subst e23
  rw [if_pos rfl]
  have hw : (wantF 23).length = 1 := by decide
  obtain ⟨hl1, ty, hty, hv⟩ := last hw
  have hr := r1.2.2.2 (.inr rfl)
  have ep : pushF pv s.2 23 g = 0 := by unfold pushF; rw [if_neg (by omega), if_neg (by omega), if_neg (by omega), if_pos (by omega)]
  have en : nextS 23 g s (s.1.length - (wantF 23).length) (pushF pv s.2 23 g) = (s.1.take (s.1.length - 1), s.2) := by
   rw [ep]
   unfold nextS
   rw [if_pos rfl, if_neg (by omega), hw, a7_]
  rw [dl]
  dsimp only
  split
  ·exact next (k := g) (by unfold nexts; simp) en (hT.take _) hr.1 hr.2 rfl
  ·exact n1 (by unfold goesF; omega) (by omega) (by omega) (by omega) en (hT.take _) rfl
 rw [if_neg e23]
 by_cases e24 : o = 24
 ·rw [if_pos e24]; exact trivial
 rw [if_neg e24]
 by_cases e25 : o = 25
 ·subst e25
  rw [if_pos rfl]
  have hw : (wantF 25).length = 1 := by decide
  obtain ⟨hl1, ty, hty, hv⟩ := last hw
  have h4 := r3.2.2.1 rfl
  rw [hw, List.getElem?_drop, Nat.add_zero, hty] at h4
  cases h4
  exact (val4 hv).2.2.2
 rw [if_neg e25]
 have h5 : 5 ≤ o := by omega
 have h21 : o ≤ 21 := by omega
 have hfit := r3.2.2.2 ⟨h5, h21⟩
 have ew : (wantF o).length ≤ s.1.length := r2
 obtain ⟨t1, t2⟩ := args_typ hT (s.1.length - (wantF o).length)
 have hal : (s.1.drop (s.1.length - (wantF o).length)).length = (wantF o).length := by rw [List.length_drop]; omega
 have hk := kids_want h5 h21
 have hw1 : 1 ≤ (wantF o).length := by
  have : 1 ≤ kidsF (o + 3) := by unfold kidsF; (repeat' split) <;> omega
  omega
 have hres := combR_res (o := o + 3) (ts := s.1.drop (s.1.length - (wantF o).length)) (rs := (st.drop (s.1.length - (wantF o).length)).map Sum.inr) (by rw [hal]; exact hk.symm) (by omega) (by rw [opK_typ h5 h21]; exact hfit) (by rw [List.length_map, t1]) t2
 rw [opK_typ h5 h21, row_typ (by omega) (by omega) hfit] at hres
 rw [hlen]
 cases hc : combR (o + 3) ((st.drop (s.1.length - (wantF o).length)).map Sum.inr) with
 | inl c =>
  rw [hc] at hres
  simp only
  exact hres
 | inr v =>
  rw [hc] at hres
  dsimp only
  have hv : valV (rowV (o + 3)).2 v := hres
  refine n1 (by unfold goesF; omega) (s' := (s.1.take (s.1.length - (wantF o).length) ++ [(rowV (o + 3)).2], s.2)) (by omega) (by omega) (by omega) ?_ ((hT.take _).push hv) rfl
  have ep : pushF pv s.2 o g = (rowV (o + 3)).2 := by unfold pushF; rw [if_neg e1, if_neg e2, if_neg e3, if_neg (by omega)]
  rw [ep]
  unfold nextS
  rw [if_neg (pushT hv), if_neg e4]
theorem stT_start (sl : Nat) : StT ([], List.replicate sl 0) [] (List.replicate sl nonV) := by
 refine ⟨rfl, fun i ty v h => by simp at h, by simp, fun i ty v h h0 => ?_⟩
 simp only at h
 rw [List.getElem?_replicate] at h
 split at h
 ·cases h; exact absurd rfl h0
 ·cases h
def zTrc : List Value := [.int .i64 0, .int .i64 0, .slice none 0 0, .int .i64 0, .int .i64 0]
theorem tTr : Stc Tryz.prog 34 5 zTrc := ⟨by kernel_rfl, by kernel_rfl⟩
theorem fTr0 : Fld Tryz.prog 34 0 0 := ⟨by kernel_rfl⟩
theorem fTr1 : Fld Tryz.prog 34 1 3 := ⟨by kernel_rfl⟩
theorem fTr2 : Fld Tryz.prog 34 2 4 := ⟨by kernel_rfl⟩
theorem tr_oc {B : Nat} {w : World} {q : Addr} {k cd s m : Int} {A : Option Addr} {n c : Nat} (h : Box B 34 5 w q [.int .i64 k, .int .i64 cd, .slice A n c, .int .i64 s, .int .i64 m]) : ∀ j v, ([.int .i64 k, .int .i64 cd, .slice A n c] : List Value)[j]? = some v → w.cell? (q.add j) = some v := by
 intro j v hj
 refine h.at j v ?_
 match j with
 | 0 => exact hj
 | 1 => exact hj
 | 2 => exact hj
 | j + 3 => simp at hj
theorem eqTrace_f {w : World} {k cd s m : Int} {A A' : Option Addr} {n c n' c' : Nat} {xs : List ByteArray} (h : Strs w A n c xs) (h' : Strs w A' n' c' xs) :
  FC Tryz.prog 12 [.agg ⟨[.int .i64 k, .int .i64 cd, .slice A n c, .int .i64 s, .int .i64 m]⟩, .agg ⟨[.int .i64 k, .int .i64 cd, .slice A' n' c', .int .i64 s, .int .i64 m]⟩] w fun v _ => v = .bool true := by
 refine FC.intro (cs := []) Tryz.func12 (by kernel_rfl) fun E R hE hr hR => ?_
 conv => cbv
 refine st_box hr fun q2 w1 hx1 h20 => ?_
 have h2 := h20 _ (n1_ _)
 conv => cbv
 refine st_box hr fun q3 w2 hx2 h30 => ?_
 have h3 := h30 _ (n1_ _)
 replace h2 := h2.bel hx2
 have hx := hx1.trans hx2
 conv => cbv
 refine st_fld hE fTr0 fun p hp => ?_
 rw [add_zero] at hp
 subst hp
 conv => cbv
 refine st_loadS hE tOc rfl (tr_oc h2) ?_
 conv => cbv
 refine st_fld hE fTr0 fun p hp => ?_
 rw [add_zero] at hp
 subst hp
 conv => cbv
 refine st_loadS hE tOc rfl (tr_oc h3) ?_
 conv => cbv
 refine st_f hr (eqOutcome_f (h.ext hx) (h'.ext hx)) fun v w3 hx3 ev => ?_
 subst ev
 replace h2 := h2.bel hx3
 replace h3 := h3.bel hx3
 replace hx := hx.trans hx3
 conv => cbv
 (refine st_fld hE fTr1 fun p hp => ?_; (conv => cbv); refine st_load hE cInt (by rw [hp]; exact (h2).at _ _ rfl) ?_; clear hp; (conv => cbv))
 (refine st_fld hE fTr1 fun p hp => ?_; (conv => cbv); refine st_load hE cInt (by rw [hp]; exact (h3).at _ _ rfl) ?_; clear hp; (conv => cbv))
 refine br (fun g => absurd g (by simp [hE.cmp, cmpR])) (fun _ => ?_)
 conv => cbv
 (refine st_fld hE fTr2 fun p hp => ?_; (conv => cbv); refine st_load hE cInt (by rw [hp]; exact (h2).at _ _ rfl) ?_; clear hp; (conv => cbv))
 (refine st_fld hE fTr2 fun p hp => ?_; (conv => cbv); refine st_load hE cInt (by rw [hp]; exact (h3).at _ _ rfl) ?_; clear hp; (conv => cbv))
 refine br (fun g => absurd g (by simp [hE.cmp, cmpR])) (fun _ => ?_)
 conv => cbv
 rw [hR]; exact ⟨hx, rfl⟩
theorem markTrace_g {w : World} {B : Nat} {k cd s m : Int} {A : Option Addr} {n c : Nat} {xs : List ByteArray} (h : Own B 9 1 w A n c (xs.map .string)) (j : Int) (hk : 0 ≤ j) (hkn : j + n < 9223372036854775807) :
  GC Tryz.prog 17 [.agg ⟨[.int .i64 k, .int .i64 cd, .slice A n c, .int .i64 s, .int .i64 m]⟩, .int .i64 j] w fun v w' => v = .int .i64 (j + n) ∧ Own B 9 1 w' A n c ((marks j n).map .string) ∧ Wr A w w' := by
 refine GC.intro (cs := []) Tryz.func17 (by kernel_rfl) fun E R hE hr hR => ?_
 conv => cbv
 refine st_box hr fun q2 w1 hx1 h20 => ?_
 have h2 := h20 _ (n1_ _)
 conv => cbv
 refine st_fld hE fTr0 fun p hp => ?_
 rw [add_zero] at hp
 subst hp
 conv => cbv
 refine st_loadS hE tOc rfl (tr_oc h2) ?_
 conv => cbv
 refine st_g hr (markOutcome_g (h.bel hx1) j hk hkn) fun r w2 ⟨ev, ho, hw⟩ => ?_
 subst ev
 conv => cbv
 rw [hR]; exact ⟨rfl, ho, (hx1.wr A).trans hw⟩
theorem heldTrace_f {w : World} {k cd s m : Int} {A : Option Addr} {n c : Nat} {j : Int} (h : Strs w A n c (marks j n)) (hk : 0 ≤ j) (hkn : j + n < 9223372036854775807) :
  FC Tryz.prog 18 [.agg ⟨[.int .i64 k, .int .i64 cd, .slice A n c, .int .i64 s, .int .i64 m]⟩, .int .i64 j] w fun v _ => v = .int .i64 (j + n) := by
 refine FC.intro (cs := []) Tryz.func18 (by kernel_rfl) fun E R hE hr hR => ?_
 conv => cbv
 refine st_box hr fun q2 w1 hx1 h20 => ?_
 have h2 := h20 _ (n1_ _)
 conv => cbv
 refine st_fld hE fTr0 fun p hp => ?_
 rw [add_zero] at hp
 subst hp
 conv => cbv
 refine st_loadS hE tOc rfl (tr_oc h2) ?_
 have hd := heldOutcome_f (k := k) (cd := cd) (h.ext hx1) hk hkn
 obtain ⟨jn, hjn⟩ : ∃ z, z = j + (n : Int) := ⟨_, rfl⟩
 rw [← hjn] at hd hR
 conv => cbv
 refine st_f hr hd fun v w2 hx2 ev => ?_
 subst ev
 conv => cbv
 refine br (fun g => absurd g (by simp [hE.cmp, cmpR]; omega)) (fun _ => ?_)
 conv => cbv
 rw [hR]; exact ⟨hx1.trans hx2, rfl⟩
end Go.Proofs.YtkedmcebngachaaGreatDoor
namespace Go.Eng
set_option linter.unusedVariables false
set_option linter.unusedSimpArgs false
section
variable {P : Program} {E : Sym} {Pn : List PanicEntry → World → Prop} {n : Nat} {w : World} {K : Value → World → Prop} {d : Option Tmp} {ty : TypeId} {pos : String} {aft : Array Edge} {g : Option (Nat × Bool)}
theorem st_appsKA (hE : E = real P Pn n) {t e : TypeId} {z : Value} {k b : Nat} (ht : Slc P t e z k b) (hz : z.cells.size = k) (hk0 : 0 < k) {B : Nat} {A A1 : Option Addr} {m c m1 c1 : Nat} {xs vs : List Value} {ao : Array Operand} (h : Own B e k w A m c xs) (hn : Cells w A1 vs) (hl : vs.length = m1 * k) (hv : ∀ v ∈ vs, v.oneCell' = true)
  (hB : B ≤ w.heap.size) (hb : (m + m1) * b ≤ 140737488355328) (hm : m + m1 ≤ 9223372036854775807)
  (hk : ∀ A' c' m' w', m' = m + m1 → Wr A w w' → Own B e k w' A' m' c' (xs ++ vs) → (Eng.blk A' = Eng.blk A ∨ Eng.blk A' = some w.heap.size) → K (.slice A' m' c') w') : E.stop ⟨d, .call ⟨.builtin .append, ao, #[t, t]⟩, ty, pos, aft, g⟩ [.slice A m c, .slice A1 m1 c1] w K := by
 rcases Nat.eq_zero_or_pos m1 with h0 | h0
 ·subst h0
  obtain rfl : vs = [] := List.length_eq_zero_iff.1 (by omega)
  obtain ⟨i0, h1, h2, h3, h4⟩ := ht.info
  cases A1 with
  | none =>
   refine st_run hE (v := .slice A m c) (w' := w) (fun ρ hρ => ?_) (hk _ _ _ _ rfl (Wr.refl _ _) (by simpa using h) (.inl rfl))
   have h3' := map_of (ao := ao) hρ
   simp [execOp, resolve, invoke, builtin, h3', run_append_none ht.u h1 h]
  | some a1 =>
   obtain ⟨v', w', hr, hown, hg, _, hbk⟩ := run_append_own_at (P := P) w B t ty e i0 z k b ht.u h1 h2 h3 h4 hz hk0 (.slice A m c) m xs h a1 0 c1 [] hl
    (fun j u hu => hn.2 a1 rfl j u hu) hv (by unfold maxLen; omega) hb hB
   have hform : ∃ A' c', v' = .slice A' (m + 0) c' := by
    rcases hown.2 with ⟨h5, h6⟩ | ⟨g, cap, cur, h5, _⟩
    ·exact ⟨none, 0, by rw [h5, h6]⟩
    ·exact ⟨_, _, h5⟩
   obtain ⟨A', c', rfl⟩ := hform
   refine st_run hE (v := .slice A' (m + 0) c') (w' := w') (fun ρ hρ => ?_) (hk _ _ _ _ rfl ?_ hown ?_)
   ·have h3' := map_of (ao := ao) hρ
    simp [execOp, resolve, invoke, builtin, h3', hr]
   ·cases A <;> exact hg
   ·cases A <;> cases A' <;> exact hbk
 ·exact st_appsKG hE ht hz hk0 h hn hl h0 hv hB hb hm hk
end
end Go.Eng
namespace Go.Proofs.YtkedmcebngachaaGreatDoor
open Go.Eng
set_option linter.unusedVariables false
set_option linter.unusedSimpArgs false
def DR (lo hi : Nat) (w : World) (SA LA : Option Addr) (b : Nat) : Prop := b < w.heap.size ∧ blk SA ≠ some b ∧ blk LA ≠ some b ∧ (b < lo ∨ hi ≤ b)
theorem valm_wr {w w' : World} {X : Option Addr} {D : Nat → Prop} {x : VV} (hw : Wr X w w') (h : ValM w x) (hi : InD D x.A x.m) (hD : ∀ b, D b → b < w.heap.size ∧ blk X ≠ some b) : ValM w' x := by
 obtain ⟨h1, h2⟩ := h
 refine ⟨⟨h1.len, h1.le, h1.cap, ⟨h1.cells.1, fun a ha j v hv => ?_⟩, h1.small⟩, h2⟩
 have hc := h1.cells.2 a ha j v hv
 have hj := (List.getElem?_eq_some_iff.1 hv).1
 rw [List.length_map, h1.len] at hj
 obtain ⟨b1, b2⟩ := hD _ (hi a ha (by omega))
 have eb : (a.add j).block = a.block := by unfold Addr.add; split <;> rfl
 have hb := hw.block a.block b1 (by intro q; exact b2 q.symm)
 unfold World.cell? at hc ⊢
 rw [eb] at hc ⊢
 rw [hb]; exact hc
structure RM (lo hi B : Nat) (w : World) (SA : Option Addr) (sn sc : Nat) (sv : List VV) (LA : Option Addr) (ln lc : Nat) (lv : List VV) : Prop where
 st : Own B 155 4 w SA sn sc (sv.flatMap lC)
 sl : Own B 155 4 w LA ln lc (lv.flatMap lC)
 d : Dj SA LA
 vals : ∀ x, (x ∈ sv ∨ x ∈ lv) → ValM w x ∧ InD (DR lo hi w SA LA) x.A x.m
section
variable {lo hi B : Nat} {w w' : World} {SA LA : Option Addr} {sn sc ln lc : Nat} {sv lv : List VV}
theorem RM.slen (h : RM lo hi B w SA sn sc sv LA ln lc lv) : sv.length = sn := by have := h.st.len; rw [fl_len lC_len] at this; omega
theorem RM.llen (h : RM lo hi B w SA sn sc sv LA ln lc lv) : lv.length = ln := by have := h.sl.len; rw [fl_len lC_len] at this; omega
theorem InD.mono {D D' : Nat → Prop} {A : Option Addr} {m : Nat} (h : InD D A m) (hD : ∀ b, D b → D' b) : InD D' A m := fun a ha hm => hD _ (h a ha hm)
theorem RM.ext (h : RM lo hi B w SA sn sc sv LA ln lc lv) (hx : Ext w w') : RM lo hi B w' SA sn sc sv LA ln lc lv :=
 ⟨h.st.bel hx, h.sl.bel hx, h.d, fun x hm => ⟨(h.vals x hm).1.ext hx, (h.vals x hm).2.mono fun b hb => ⟨n3_ hb.1 hx.size, hb.2⟩⟩⟩
theorem RM.box (h : RM lo hi B w SA sn sc sv LA ln lc lv) {q : Addr} (hw : Wr (some q) w w') (hq : blk (some q) = some q.block) (h1 : lo ≤ q.block) (h2 : q.block < hi) (hS : ∀ g, blk SA = some g → g ≠ q.block) (hL : ∀ g, blk LA = some g → g ≠ q.block) : RM lo hi B w' SA sn sc sv LA ln lc lv :=
 ⟨h.st.wr hw (dj_apart h.st fun g e1 e2 => by rw [hq] at e2; cases e2; exact hS _ e1 rfl), h.sl.wr hw (dj_apart h.sl fun g e1 e2 => by rw [hq] at e2; cases e2; exact hL _ e1 rfl), h.d, fun x hm =>
  ⟨valm_wr hw (h.vals x hm).1 (h.vals x hm).2 fun b hb => ⟨hb.1, fun e => by rw [hq] at e; cases e; have := hb.2.2.2; omega⟩, (h.vals x hm).2.mono fun b hb => ⟨n3_ hb.1 hw.size, hb.2⟩⟩⟩
theorem lC_one (x : VV) : ∀ v ∈ lC x, v.oneCell' = true := by simp [lC, Value.oneCell']
theorem lCs_one (l : List VV) : ∀ v ∈ l.flatMap lC, v.oneCell' = true := fun v hv => by
 obtain ⟨x, _, hx⟩ := List.mem_flatMap.1 hv
 exact lC_one x v hx
theorem RM.take (h : RM lo hi B w SA sn sc sv LA ln lc lv) {k : Nat} (ho : Own B 155 4 w SA k sc ((sv.flatMap lC).take (k * 4))) : RM lo hi B w SA k sc (sv.take k) LA ln lc lv :=
 ⟨by rw [← fl_take lC_len sv k]; exact ho, h.sl, h.d, fun x hm => h.vals x (hm.imp (fun q => List.mem_of_mem_take q) id)⟩
theorem RM.push (h : RM lo hi B w SA sn sc sv LA ln lc lv) {x : VV} (hx : ValM w x ∧ InD (DR lo hi w SA LA) x.A x.m) {SA' : Option Addr} {m' sc' : Nat} (hw : Wr SA w w') (ho : Own B 155 4 w' SA' m' sc' (sv.flatMap lC ++ lC x)) (hk : blk SA' = blk SA ∨ blk SA' = some w.heap.size) : RM lo hi B w' SA' m' sc' (sv ++ [x]) LA ln lc lv := by
 have hd : Dj SA' LA := fun g h1 h2 => by
  rcases hk with e | e
  ·exact h.d g (by rw [← e]; exact h1) h2
  ·rw [e] at h1; cases h1
   have := (own_blk h.sl _ h2).2; omega
 refine ⟨by rw [List.flatMap_append]; simpa using ho, h.sl.wr hw (dj_apart h.sl h.d.symm), hd, fun y hy => ?_⟩
 have hyv : ValM w y ∧ InD (DR lo hi w SA LA) y.A y.m := by
  rcases hy with hy | hy
  ·rcases List.mem_append.1 hy with hy | hy
   ·exact h.vals y (.inl hy)
   ·simp at hy; subst hy; exact hx
  ·exact h.vals y (.inr hy)
 refine ⟨valm_wr hw hyv.1 hyv.2 fun b hb => ⟨hb.1, hb.2.1⟩, hyv.2.mono fun b hb => ⟨n3_ hb.1 hw.size, fun e => ?_, hb.2.2⟩⟩
 rcases hk with e2 | e2
 ·exact hb.2.1 (by rw [← e2]; exact e)
 ·rw [e2] at e; cases e; have := hb.1; omega
theorem RM.set (h : RM lo hi B w SA sn sc sv LA ln lc lv) {x : VV} (hx : ValM w x ∧ InD (DR lo hi w SA LA) x.A x.m) {i : Nat} (hw : Wr LA w w') (ho : Own B 155 4 w' LA ln lc ((lv.set i x).flatMap lC)) : RM lo hi B w' SA sn sc sv LA ln lc (lv.set i x) := by
 refine ⟨h.st.wr hw (dj_apart h.st h.d), ho, h.d, fun y hy => ?_⟩
 have hyv : ValM w y ∧ InD (DR lo hi w SA LA) y.A y.m := by
  rcases hy with hy | hy
  ·exact h.vals y (.inl hy)
  ·rcases List.mem_or_eq_of_mem_set hy with hy | rfl
   ·exact h.vals y (.inr hy)
   ·exact hx
 exact ⟨valm_wr hw hyv.1 hyv.2 fun b hb => ⟨hb.1, hb.2.2.1⟩, hyv.2.mono fun b hb => ⟨n3_ hb.1 hw.size, hb.2⟩⟩
end
section
variable {E : Sym} {nn : Nat} {Pn : List PanicEntry → World → Prop} {w : World} {K : Value → World → Prop} {d : Option Tmp} {ty : TypeId} {pos : String} {aft : Array Edge} {g : Option (Nat × Bool)}
theorem st_pushL (hE : E = real Tryz.prog Pn nn) {lo hi B : Nat} {SA LA A1 : Option Addr} {sn sc ln lc : Nat} {sv lv : List VV} {ao : Array Operand} (h : RM lo hi B w SA sn sc sv LA ln lc lv) {x : VV} (hx : ValM w x ∧ InD (DR lo hi w SA LA) x.A x.m) (hn : Cells w A1 (lC x)) (hB : B ≤ w.heap.size) (hs : sn ≤ 1000000)
  (hk : ∀ SA' sc' m' w', m' = sn + 1 → Wr SA w w' → RM lo hi B w' SA' m' sc' (sv ++ [x]) LA ln lc lv → (blk SA' = blk SA ∨ blk SA' = some w.heap.size) → K (.slice SA' m' sc') w') : E.stop ⟨d, .call ⟨.builtin .append, ao, #[79, 79]⟩, ty, pos, aft, g⟩ [.slice SA sn sc, .slice A1 1 1] w K :=
 st_appsKG hE sL3 rfl (by omega) h.st hn (by rw [lC_len]) (by omega) (lC_one x) hB (by omega) (by omega) fun A' c' m' w' hm' hw ho hkk => hk A' c' m' w' hm' hw (h.push hx hw ho hkk) hkk
end
def rqW (cl us : ByteArray) (lv nw : Int) (Q : Option Addr) (m d : Nat) (Q2 : Option Addr) (m2 d2 : Nat) (xs ys : List ByteArray) : List VV := [⟨⟨3, 0, cl, []⟩, none, 0, 0⟩, ⟨⟨3, 0, us, []⟩, none, 0, 0⟩, ⟨⟨2, lv, noS, []⟩, none, 0, 0⟩, ⟨⟨2, nw, noS, []⟩, none, 0, 0⟩, ⟨⟨4, 0, noS, xs⟩, Q, m, d⟩, ⟨⟨4, 0, noS, ys⟩, Q2, m2, d2⟩]
theorem rqW_map (cl us : ByteArray) (lv nw : Int) (Q : Option Addr) (m d : Nat) (Q2 : Option Addr) (m2 d2 : Nat) (xs ys : List ByteArray) : (rqW cl us lv nw Q m d Q2 m2 d2 xs ys).map (·.p) = rqL cl us lv nw xs ys := rfl
theorem rqW_val {w : World} {cl us : ByteArray} {lv nw : Int} {Q Q2 : Option Addr} {m d m2 d2 : Nat} {xs ys : List ByteArray} (hc : cl.size ≤ 9223372036854775807) (hu : us.size ≤ 9223372036854775807) (hs : Strs w Q m d xs) (hs2 : Strs w Q2 m2 d2 ys) : ∀ x ∈ rqW cl us lv nw Q m d Q2 m2 d2 xs ys, ValM w x ∧ InD (fun b => b < w.heap.size) x.A x.m := by
 intro x hx
 have e0 : noS.size = 0 := rfl
 simp only [rqW, List.mem_cons, List.not_mem_nil, or_false] at hx
 rcases hx with rfl | rfl | rfl | rfl | rfl | rfl
 ·exact ⟨nil_m rfl hc, inD_none⟩
 ·exact ⟨nil_m rfl hu, inD_none⟩
 ·exact ⟨nil_m rfl (by rw [e0]; omega), inD_none⟩
 ·exact ⟨nil_m rfl (by rw [e0]; omega), inD_none⟩
 ·exact ⟨⟨hs, by rw [e0]; omega⟩, strs_in hs⟩
 ·exact ⟨⟨hs2, by rw [e0]; omega⟩, strs_in hs2⟩
theorem l6attr_f {w : World} {cl us : ByteArray} {lv nw : Int} {Q Q2 : Option Addr} {m d m2 d2 : Nat} {xs ys : List ByteArray} {g : Int} (h0 : 0 ≤ g) (h6 : g < 6) {x : VV} (hx : (rqW cl us lv nw Q m d Q2 m2 d2 xs ys)[g.toNat]? = some x) :
  FC Tryz.prog 96 [reqV cl us lv nw Q m d Q2 m2 d2, .int .i64 g] w fun r _ => r = .agg ⟨lC x⟩ := by
 refine FC.intro (cs := []) Tryz.func96 (by kernel_rfl) fun E R hE hr hR => ?_
 obtain ⟨RW, hRW⟩ : ∃ l, l = rqW cl us lv nw Q m d Q2 m2 d2 xs ys := ⟨_, rfl⟩
 rw [← hRW] at hx
 conv => cbv
 refine st_box hr fun a w1 hx1 hb0 => ?_
 have hb := hb0 _ (n1_ _)
 clear hb0
 conv => cbv
 refine st_alloc hr tL3 rfl fun q4 w2 hx2 hq0 => ?_
 have h4 := hq0 _ hx1.size
 clear hq0
 have hb := hb.bel hx2
 conv => cbv
 (refine st_fld hE fI0 fun p hp => ?_; (conv => cbv); refine st_load hE cStr (by rw [hp]; exact (hb).at _ _ rfl) ?_; clear hp; (conv => cbv))
 refine st_bL2 hE ?_
 conv => cbv
 (refine st_fld hE fI1 fun p hp => ?_; (conv => cbv); refine st_load hE cStr (by rw [hp]; exact (hb).at _ _ rfl) ?_; clear hp; (conv => cbv))
 refine st_bL2 hE ?_
 conv => cbv
 (refine st_fld hE fI2 fun p hp => ?_; (conv => cbv); refine st_load hE cI64 (by rw [hp]; exact (hb).at _ _ rfl) ?_; clear hp; (conv => cbv))
 refine st_bL1 hE ?_
 conv => cbv
 (refine st_fld hE fI3 fun p hp => ?_; (conv => cbv); refine st_load hE cI64 (by rw [hp]; exact (hb).at _ _ rfl) ?_; clear hp; (conv => cbv))
 refine st_bL1 hE ?_
 conv => cbv
 (refine st_fld hE fI4 fun p hp => ?_; (conv => cbv); refine st_load hE cStrs (by rw [hp]; exact (hb).at _ _ rfl) ?_; clear hp; (conv => cbv))
 refine st_bL3 hE ?_
 conv => cbv
 (refine st_fld hE fI5 fun p hp => ?_; (conv => cbv); refine st_load hE cStrs (by rw [hp]; exact (hb).at _ _ rfl) ?_; clear hp; (conv => cbv))
 refine st_bL3 hE ?_
 conv => cbv
 refine st_litsK hr sL3 rfl (by omega) (m := 6) rfl (by omega) (by omega) rfl (by simp [Value.cells]) (cs := RW.flatMap lC) (by rw [hRW]; rfl) fun A w3 hx3 ho => ?_
 have ho := ho _ (n1_ _)
 have h43 := h4.bel hx3
 obtain ⟨aa, hA, hc⟩ := fl_at lC_len ho.cells (by omega) hx
 obtain ⟨c0, c1, c2, c3, hC⟩ : ∃ c0 c1 c2 c3, lC x = [c0, c1, c2, c3] := ⟨_, _, _, _, rfl⟩
 have h1 : ∀ v ∈ lC x, v.oneCell' = true := lC_one x
 conv => cbv
 refine st_idx hE sL3 hA h0 (by omega) fun p hp => ?_
 conv => cbv
 refine st_loadS hE tL3 (vs := [c0, c1, c2, c3]) rfl (by rw [hp, ← hC]; exact hc) ?_
 conv => cbv
 refine st_putS hr (vs := [c0, c1, c2, c3]) (by kernel_rfl) h43 (add_zero _).symm (by simp [zL3]) (by rw [← hC]; exact h1) fun w4 hw4 hb4 => ?_
 simp only [zL3, a1_, a2_, a3_, a4_, a5_, a6_, a7_] at hb4
 conv => cbv
 refine st_cell hr tL3 rfl hb4.at ?_
 rw [hR, hC]
 exact ⟨((hx1.trans hx2).trans hx3).then (hw4.bel h43 (by have := hx1.size; have := hx2.size; have := hx3.size; omega)), rfl⟩
theorem l6pops_f {w : World} (o : Int) : FC Tryz.prog 97 [.int .i64 o] w fun r _ => r = .int .i64 (if o ≤ 7 then 1 else 2) := by
 refine FC.intro (cs := []) Tryz.func97 (by kernel_rfl) fun E R hE hr hR => ?_
 conv => cbv
 refine br (fun g => ?_) (fun g => ?_)
 ·have g : o ≤ 7 := by simpa [hE.cmp, cmpR] using g
  conv => cbv
  rw [hR, if_pos g]; exact ⟨Ext.refl _, rfl⟩
 ·have g : ¬ o ≤ 7 := by simpa [hE.cmp, cmpR] using g
  conv => cbv
  rw [hR, if_neg g]; exact ⟨Ext.refl _, rfl⟩
def popN (o : Int) : Nat := if o ≤ 7 then 1 else 2
theorem want_pop {o : Int} (h5 : 5 ≤ o) (h21 : o ≤ 21) : (wantF o).length = popN o := by
 have h := kids_want h5 h21
 unfold popN
 unfold kidsF at h
 split
 ·rw [if_neg (by omega), if_pos (by omega)] at h; omega
 ·rw [if_neg (by omega), if_neg (by omega), if_pos (by omega)] at h; omega
structure StepOK (pv : List PV) (st ss : List PV) (a ni : Nat) (o g : Int) : Prop where
 o1 : 1 ≤ o
 o2 : o ≤ 25
 g1 : 0 ≤ g
 g2 : g ≤ 65535
 pool : o = 1 → g.toNat < pv.length
 attr : o = 2 → g < 6
 slot : o = 3 ∨ o = 4 → g.toNat < ss.length
 one : o = 4 ∨ o = 23 ∨ o = 25 → 1 ≤ st.length
 ops : 5 ≤ o → o ≤ 21 → popN o ≤ st.length ∧ ∀ x y, st[st.length - popN o]? = some x → st[st.length - 1]? = some y → opOK2 (o + 3) x y ∧ combR (o + 3) ((st.drop (st.length - popN o)).map .inr) = opR (o + 3) x y
 gr : o = 25 → isSet (st.getLastD nonV).xs
theorem stepV_ok {pv : List PV} {sl : Int} {is : List (Int × Int)} {m : Int} {F : Sts} (hV : VerS pv sl is m F) (hsh : shapeP pv sl is) {a : Nat} {o g : Int} (ha : is[a]? = some (o, g)) {s : St} (hs : F a = some s) {st ss : List PV} (hT : StT s st ss) (hsl : (ss.length : Int) = sl) : StepOK pv st ss a is.length o g := by
 obtain ⟨s0, k1, k2, k3, k4, k5, k6⟩ := hV.step a o g ha
 rw [hs] at k1
 cases k1
 obtain ⟨r1, r2, r3, r4, r5⟩ := stepF_ok k2
 have hio : insOK (o, g) := hsh.2.2.2.2.2 _ (m1_ ha)
 unfold insOK at hio
 simp only at hio
 have hlen := hT.len
 have last : (wantF o).length = 1 → 1 ≤ st.length := fun hw => by omega
 refine ⟨hio.1, hio.2.1, hio.2.2.1, hio.2.2.2.1, fun e => ?_, fun e => ?_, fun e => ?_, fun e => ?_, fun h5 h21 => ?_, fun e => ?_⟩
 ·have := r1.1 e; omega
 ·have := r1.2.1 e; omega
 ·have := r1.2.2.1 e; omega
 ·refine last ?_
  rcases e with rfl | rfl | rfl <;> decide
 ·have hfit := r3.2.2.2 ⟨h5, h21⟩
  have ew := want_pop h5 h21
  obtain ⟨t1, t2⟩ := args_typ hT (s.1.length - (wantF o).length)
  rw [ew] at t1 t2 hfit r2
  have hal : (s.1.drop (s.1.length - popN o)).length = popN o := by rw [List.length_drop]; omega
  have hk := kids_want h5 h21
  rw [ew] at hk
  have hp : popN o = 1 ∨ popN o = 2 := by unfold popN; split <;> simp
  refine ⟨by omega, fun x y hx hy => ?_⟩
  have hopk := opK_typ h5 h21 (s.1.drop (s.1.length - popN o))
  have valx : ∀ t, (s.1.drop (s.1.length - popN o))[0]? = some t → valV t x := fun t ht => by
   refine hT.val (st.length - popN o) t x ?_ hx
   rw [List.getElem?_drop] at ht
   rw [hlen]; exact ht
  have valy : ∀ t, (s.1.drop (s.1.length - popN o))[1]? = some t → valV t y := fun t ht => by
   rw [List.getElem?_drop] at ht
   have h1 := (List.getElem?_eq_some_iff.1 ht).1
   refine hT.val (st.length - 1) t y ?_ hy
   rw [hlen, show s.1.length - 1 = s.1.length - popN o + 1 by omega]; exact ht
  refine ⟨opOK2_of (ts := s.1.drop (s.1.length - popN o)) (by rw [hal]; exact hk.symm) (by omega) (by rw [hopk]; exact hfit) valx valy, ?_⟩
  rcases hp with hp | hp
  ·have hd : st.drop (st.length - popN o) = [x] := by
    rw [hp] at hx ⊢
    rw [drop_cons hx, List.drop_eq_nil_of_le (by omega)]
   have exy : x = y := by rw [hp] at hx; rw [hx] at hy; exact Option.some.inj hy
   rw [hd, ← exy]; rfl
  ·have hd : st.drop (st.length - popN o) = [x, y] := by
    rw [hp] at hx ⊢
    rw [drop_cons hx, show st.length - 2 + 1 = st.length - 1 by omega, drop_cons hy, List.drop_eq_nil_of_le (by omega)]
   rw [hd]
   show combR (o + 3) [.inr x, .inr y] = _
   unfold combR
   simp only
   rw [if_neg (by omega), if_neg (by omega)]
 ·subst e
  have hw : (wantF 25).length = 1 := by decide
  have hl1 := last hw
  obtain ⟨ty, hty⟩ : ∃ ty, s.1[s.1.length - 1]? = some ty := ⟨_, g2_ (by omega)⟩
  have h4 := r3.2.2.1 rfl
  rw [hw, List.getElem?_drop, Nat.add_zero, hty] at h4
  cases h4
  have hv := hT.val _ 4 (st.getLastD nonV) hty (by rw [← hlen]; exact getLastD_get (by omega))
  exact (val4 hv).2.2.2
end Go.Proofs.YtkedmcebngachaaGreatDoor
namespace Go.Eng
set_option linter.unusedVariables false
set_option linter.unusedSimpArgs false
section
variable {P : Program} {Pn : List PanicEntry → World → Prop} {n : Nat}
theorem ePh1ZS_sound {S : World → Prop} {w : World} {all : List Oper} {l0 : List Nat} (hs : Region.noSelect all.toArray = true) (hd : ∀ o ∈ all, ∀ t, o.dst = some t → t < n) {K : Exit → Fr → World → Prop} {w0 : World} (hS : S w0) (l2 : List (Nat × Kz)) (K1 : Fr → World → Prop) : ∀ (l : List Nat) (listed : Array Bool) (F : Fr) (a : Act), Kn n F a → Closed .any all.toArray listed → planZ1 all.toArray l0 l l2 listed = true → ePh1 (wreal S P) all l F w K1 →
  (∀ F a listed, Kn n F a → planZ2 all.toArray l0 l2 listed = true → K1 F w → wpAnyU P .any all.toArray (QK Pn n K) S l0 l2.length listed a w0) → wpAnyU P .any all.toArray (QK Pn n K) S l0 (l.length + l2.length) listed a w0
 | [], listed, F, a, hk, hcl, hB, h, h2 => by simpa using h2 F a listed hk hB h
 | k :: l, listed, F, a, hk, hcl, hB, h, h2 => by
  simp only [planZ1, Bool.and_eq_true] at hB
  obtain ⟨⟨⟨hl, hf⟩, hr⟩, hB⟩ := hB
  simp only [ePh1] at h
  split at h
  ·exact h.elim
  ·rename_i o ho
   by_cases hl0 : l0.contains k = true
   ·obtain ⟨v, F', hy, hk', h⟩ := step_yields (P := P) (n := n) (S := S) (E' := wreal S P) (fun _ _ => rfl) (fun _ _ _ ⟨v, h1, h2⟩ => ⟨v, fun w1 hw1 => h1 w1 hw1, h2⟩) (hd o (m1_ ho)) hk h
    have := wpAnyU_take (l := l0) (by simpa using ho) (by simpa using hl0) hs hf hr hcl panic_put hy hS (ePh1ZS_sound hs hd hS l2 K1 l _ F' _ hk' (closed_set hcl hr) hB h h2)
    simpa [Nat.add_right_comm] using this
   ·have hc : calmAt all.toArray k = true := by
     rcases Bool.or_eq_true_iff.1 hl with q | q
     ·exact absurd q hl0
     ·exact q
    obtain ⟨x, hx⟩ : ∃ x, o.op = .move x := by
     unfold calmAt at hc
     rw [show all.toArray[k]? = some o by simpa using ho] at hc
     simp only at hc
     split at hc
     ·rename_i x hx; exact ⟨x, hx⟩
     ·cases hc
    obtain ⟨v, F', hy, hk', h⟩ := step_yields (P := P) (n := n) (S := fun _ => True) (E' := (wreal S P).dull) (fun _ _ => rfl) (fun _ _ _ h => h.elim) (hd o (m1_ ho)) hk (eOps_calm hx h)
    have := wpAnyU_takeP (S := S) (l := l0) (by simpa using ho) hs hf hr panic_put hy (ePh1ZS_sound hs hd hS l2 K1 l _ F' _ hk' (closed_set hcl hr) hB h h2)
    simpa [Nat.add_right_comm] using this
theorem draw_zs (S : World → Prop) (l0 l1 : List Nat) (l2 : List (Nat × Kz)) {E : Sym} (hE : E = real P Pn n) {id : Nat} {ops : Array Oper} {F : Fr} {w : World} {K : Exit → Fr → World → Prop} (hm : P.follows .mixedOrders = true) (hB : planZ ops l0 l1 l2 = true) (hS : ∀ w0, Same w w0 → S w0)
  (h : ∀ E', EngW S P E' → ∀ w0, Same w w0 → ePh1 E' ops.toList l1 F w0 (fun F' w' => ePh2Z E S ops.toList l2 F' w' (K .normal))) : E.draw id ops F w K := by
 subst hE
 intro hd a hk
 simp only [planZ, Bool.and_eq_true, Nat.beq_eq] at hB
 obtain ⟨⟨hs, hl⟩, hB⟩ := hB
 have hs' : Region.noSelect ops.toList.toArray = true := by simpa using hs
 have := ePh1ZS_sound (Pn := Pn) (K := K) (n := n) (l0 := l0) (S := S) (w := { w with drawn := w.drawn + 1 }) hs' (okDst_ops hd) (hS _ (Same.drew w)) l2 _ l1 (Array.replicate ops.size false) F a hk (fun k o _ h => by simp only [Array.getD_eq_getD_getElem?, Array.getElem?_replicate] at h; split at h <;> simp at h) (by simpa using hB) (h (wreal S P) ⟨fun {_ _ _ v _} h hk => ⟨v, h, hk⟩⟩ _ (Same.drew w))
  (fun F a listed hk hB h => ePh2Z_sound hs' (okDst_ops hd) l2 listed F a _ hk hB h)
 rw [hl] at this
 exact wp_region_any hm (wpAny_of_U _ _ _ _ (by simpa using this))
end
section
variable {P : Program} {Pn : List PanicEntry → World → Prop} {n : Nat}
theorem draw_sa (S : World → Prop) (l1 : List Nat) (l2 : List (Nat × Bool)) {E : Sym} (hE : E = real P Pn n) {id : Nat} {ops : Array Oper} {F : Fr} {w : World} {K : Exit → Fr → World → Prop} (hm : P.follows .mixedOrders = true) (hB : planB ops l1 l2 = true) (hS : ∀ w0, Same w w0 → S w0)
  (h : ∀ E', EngW S P E' → E'.ar = arR → ∀ w0, Same w w0 → ePh1 E' ops.toList l1 F w0 (fun F' w' => ePh2 E S ops.toList l2 F' w' (K .normal))) : E.draw id ops F w K := by
 subst hE
 intro hd a hk
 simp only [planB, Bool.and_eq_true, Nat.beq_eq] at hB
 obtain ⟨⟨hs, hl⟩, hB⟩ := hB
 have hs' : Region.noSelect ops.toList.toArray = true := by simpa using hs
 have h0 : S { w with drawn := w.drawn + 1 } := hS _ (Same.drew w)
 refine wp_region_held (S := S) hm ?_
 have := ePh1_soundW (Pn := Pn) (K := K) (n := n) (S := S) (w := { w with drawn := w.drawn + 1 }) hs' (okDst_ops hd) h0 l2 _ l1 (Array.replicate ops.size false) F a hk (by simpa using hB) (h (wreal S P) ⟨fun {_ _ _ v _} h hk => ⟨v, h, hk⟩⟩ rfl _ (Same.drew w))
  (fun F a listed hk hB h => ePh2_sound hs' (okDst_ops hd) l2 listed F a _ h0 hk hB h)
 rw [hl] at this
 simpa using this
theorem draw_zsa (S : World → Prop) (l0 l1 : List Nat) (l2 : List (Nat × Kz)) {E : Sym} (hE : E = real P Pn n) {id : Nat} {ops : Array Oper} {F : Fr} {w : World} {K : Exit → Fr → World → Prop} (hm : P.follows .mixedOrders = true) (hB : planZ ops l0 l1 l2 = true) (hS : ∀ w0, Same w w0 → S w0)
  (h : ∀ E', EngW S P E' → E'.ar = arR → ∀ w0, Same w w0 → ePh1 E' ops.toList l1 F w0 (fun F' w' => ePh2Z E S ops.toList l2 F' w' (K .normal))) : E.draw id ops F w K := by
 subst hE
 intro hd a hk
 simp only [planZ, Bool.and_eq_true, Nat.beq_eq] at hB
 obtain ⟨⟨hs, hl⟩, hB⟩ := hB
 have hs' : Region.noSelect ops.toList.toArray = true := by simpa using hs
 have := ePh1ZS_sound (Pn := Pn) (K := K) (n := n) (l0 := l0) (S := S) (w := { w with drawn := w.drawn + 1 }) hs' (okDst_ops hd) (hS _ (Same.drew w)) l2 _ l1 (Array.replicate ops.size false) F a hk (fun k o _ h => by simp only [Array.getD_eq_getD_getElem?, Array.getElem?_replicate] at h; split at h <;> simp at h) (by simpa using hB) (h (wreal S P) ⟨fun {_ _ _ v _} h hk => ⟨v, h, hk⟩⟩ rfl _ (Same.drew w))
  (fun F a listed hk hB h => ePh2Z_sound hs' (okDst_ops hd) l2 listed F a _ hk hB h)
 rw [hl] at this
 exact wp_region_any hm (wpAny_of_U _ _ _ _ (by simpa using this))
variable {S : World → Prop} {E : Sym} {w : World} {K : Value → World → Prop} {d : Option Tmp} {ty : TypeId} {pos : String} {aft : Array Edge} {g : Option (Nat × Bool)}
theorem sw_len (hE : EngW S P E) {t e : TypeId} {z : Value} {k b : Nat} (ht : Slc P t e z k b) {A : Option Addr} {m c : Nat} {ao : Array Operand}
  (hk : ∀ x : Int, x = m → K (.int .i64 x) w) : E.stop ⟨d, .call ⟨.builtin .len, ao, #[t]⟩, ty, pos, aft, g⟩ [.slice A m c] w K := by
 refine hE.det (v := .int .i64 (m : Int)) (fun w1 hs ρ hρ => ?_) (hk _ rfl)
 have h3 := map_of (ao := ao) hρ
 simp [execOp, resolve, invoke, builtin, h3, Builtin.len_, underlying, ht.u, goInt]
theorem sw_upto (hE : EngW S P E) {t e : TypeId} {z : Value} {k b : Nat} (ht : Slc P t e z k b) {B : Nat} {A : Option Addr} {m c hi : Nat} {ik : IntKind} {i : Int} {xs : List Value} {x y : Operand} {w0 : World} (h : Own B e k w0 A m c xs) (hi' : i = hi) (hm : hi ≤ m)
  (hk : Own B e k w0 A hi c (xs.take (hi * k)) → K (.slice A hi c) w) : E.stop ⟨d, .slice t x none (some y) none, ty, pos, aft, g⟩ [.slice A m c, .int ik i] w K := by
 subst hi'
 refine hE.det (v := .slice A hi c) (fun w1 _ ρ hρ => ?_) (hk ?_)
 ·simp only [opnds, Option.toList, b2_, b3_, a7_, a2_, List.cons_append, b1_, and_true] at hρ
  simp only [execOp, hρ.1, hρ.2, Option.map_some, Option.map_none, Sem.run_bind, run_upto ht w1 (n2_ hm h.cap)]
  rfl
 ·refine ⟨by rw [List.length_take, h.len]; exact Nat.min_eq_left (Nat.mul_le_mul_right _ hm), ?_⟩
  rcases h.2 with ⟨h1, h2⟩ | ⟨gb, cap, cur, h1, h2, h3, h4, h5, h6, h7⟩
  ·cases h1
   exact .inl ⟨by rw [show hi = 0 by omega], by omega⟩
  ·cases h1
   exact .inr ⟨gb, c, cur, rfl, h2, h3, by omega, h5, h6, by rw [← h7, List.take_take, Nat.min_eq_left (Nat.mul_le_mul_right _ hm)]⟩
end
end Go.Eng
namespace Go.Proofs.YtkedmcebngachaaGreatDoor
open Go.Eng
set_option linter.unusedVariables false
set_option linter.unusedSimpArgs false
def itV (x : VV) : Value := if x.p.k = 0 then .nilIface else if x.p.k = 1 then .iface 179 (.bool (decide (x.p.n = 1))) else if x.p.k = 2 then .iface 258 (.int .i64 x.p.n) else if x.p.k = 3 then .iface 259 (.string x.p.tx) else .iface 180 (.slice x.A x.m x.c)
theorem itV_one (x : VV) : (itV x).oneCell' = true := by unfold itV; (repeat' split) <;> rfl
def cnV (x : VV) : VV := if x.p.k = 4 then x else ⟨x.p, none, 0, 0⟩
theorem cnV_p (x : VV) : (cnV x).p = x.p := by unfold cnV; split <;> rfl
theorem uBoolI : ∃ u, Tryz.prog.underlying 179 = some u ∧ ∀ ms, u ≠ .interface ms := ⟨_, Tryz.underlying179, by simp⟩
theorem uIntI : ∃ u, Tryz.prog.underlying 258 = some u ∧ ∀ ms, u ≠ .interface ms := ⟨_, Tryz.underlying258, by simp⟩
theorem uTextI : ∃ u, Tryz.prog.underlying 259 = some u ∧ ∀ ms, u ≠ .interface ms := ⟨_, Tryz.underlying259, by simp⟩
theorem uSetI : ∃ u, Tryz.prog.underlying 180 = some u ∧ ∀ ms, u ≠ .interface ms := ⟨_, Tryz.underlying180, by simp⟩
theorem itemOf_f {w : World} (x : VV) (h1 : 1 ≤ x.p.k) (h4 : x.p.k ≤ 4) : FC Tryz.prog 106 [.agg ⟨vC x⟩] w fun v _ => v = itV x := by
 refine FC.intro (cs := []) Tryz.func106 (by kernel_rfl) fun E R hE hr hR => ?_
 obtain ⟨⟨k, n, tx, xs⟩, A, m, c⟩ := x
 simp only at h1 h4
 unfold itV at hR
 simp only at hR
 conv => cbv
 refine st_box hr fun a w1 hx hb0 => ?_
 have hb := hb0 _ (n1_ _)
 clear hb0
 conv => cbv
 (refine st_fld hE fIV0 fun p hp => ?_; (conv => cbv); refine st_load hE cInt (by rw [hp]; exact (hb).at _ _ rfl) ?_; clear hp; (conv => cbv))
 refine br (fun g => ?_) (fun g => ?_)
 ·have g : k = 1 := by simpa [hE.cmp, cmpR] using g
  subst g
  conv => cbv
  (refine st_fld hE fIV1 fun p hp => ?_; (conv => cbv); refine st_load hE cI64 (by rw [hp]; exact (hb).at _ _ rfl) ?_; clear hp; (conv => cbv))
  obtain ⟨b, hb2⟩ : ∃ b : Bool, b = E.cmp .eql n 1 := ⟨_, rfl⟩
  simp only [← hb2]
  conv => cbv
  refine st_mk hE uBoolI ?_
  conv => cbv
  rw [hR]
  refine ⟨hx, ?_⟩
  have e : b = decide (n = 1) := by rw [hb2, hE.cmp]; rfl
  rw [e]; rfl
 have g1 : k ≠ 1 := by simpa [hE.cmp, cmpR] using g
 conv => cbv
 refine br (fun g => ?_) (fun g => ?_)
 ·have g : k = 2 := by simpa [hE.cmp, cmpR] using g
  subst g
  conv => cbv
  (refine st_fld hE fIV1 fun p hp => ?_; (conv => cbv); refine st_load hE cI64 (by rw [hp]; exact (hb).at _ _ rfl) ?_; clear hp; (conv => cbv))
  refine st_mk hE uIntI ?_
  conv => cbv
  rw [hR]; exact ⟨hx, rfl⟩
 have g2 : k ≠ 2 := by simpa [hE.cmp, cmpR] using g
 conv => cbv
 refine br (fun g => ?_) (fun g => ?_)
 ·have g : k = 3 := by simpa [hE.cmp, cmpR] using g
  subst g
  conv => cbv
  (refine st_fld hE fIV2 fun p hp => ?_; (conv => cbv); refine st_load hE cStr (by rw [hp]; exact (hb).at _ _ rfl) ?_; clear hp; (conv => cbv))
  refine st_mk hE uTextI ?_
  conv => cbv
  rw [hR]; exact ⟨hx, rfl⟩
 have g3 : k ≠ 3 := by simpa [hE.cmp, cmpR] using g
 have : k = 4 := by omega
 subst this
 conv => cbv
 (refine st_fld hE fIV3 fun p hp => ?_; (conv => cbv); refine st_load hE cStrs (by rw [hp]; exact (hb).at _ _ rfl) ?_; clear hp; (conv => cbv))
 refine st_mk hE uSetI ?_
 conv => cbv
 rw [hR]; exact ⟨hx, rfl⟩
theorem boolV_f {w : World} (b : Bool) : FC Tryz.prog 310 [.bool b] w fun v _ => v = .agg ⟨vC (trV b)⟩ := by
 refine FC.intro (cs := []) Tryz.func310 (by kernel_rfl) fun E R hE hr hR => ?_
 conv => cbv
 refine st_alloc hr tIV rfl fun q w1 hx1 hq0 => ?_
 have hq := hq0 _ (n1_ _)
 conv => cbv
 refine st_f hr (truth_f b) fun v w2 hx2 ev => ?_
 subst ev
 have hq := hq.bel hx2
 have hx := hx1.trans hx2
 obtain ⟨z, hz⟩ : ∃ z : Int, vC (trV b) = [.int .i64 1, .int .i64 z, .string ⟨#[]⟩, .slice none 0 0] := by cases b <;> exact ⟨_, rfl⟩
 rw [hz] at hR ⊢
 conv => cbv
 refine st_putS hr (by kernel_rfl) hq (add_zero _).symm (by simp [zV]) (by simp [Value.oneCell']) fun w3 hw3 hb3 => ?_
 simp only [zV, a1_, a2_, a3_, a4_, a5_, a6_, a7_] at hb3
 conv => cbv
 refine st_cell hr tIV rfl hb3.at ?_
 rw [hR]; exact ⟨hx.then (hw3.bel hq hx.size), rfl⟩
theorem intV_f {w : World} (n : Int) : FC Tryz.prog 312 [.int .i64 n] w fun v _ => v = .agg ⟨[.int .i64 2, .int .i64 n, .string ⟨#[]⟩, .slice none 0 0]⟩ := by
 refine FC.intro (cs := []) Tryz.func312 (by kernel_rfl) fun E R hE hr hR => ?_
 conv => cbv
 refine st_alloc hr tIV rfl fun q w1 hx hq0 => ?_
 have hq := hq0 _ (n1_ _)
 conv => cbv
 refine st_bV2 hE ?_
 conv => cbv
 refine st_putS hr (by kernel_rfl) hq (add_zero _).symm (by simp [zV]) (by simp [Value.oneCell']) fun w3 hw3 hb3 => ?_
 simp only [zV, a1_, a2_, a3_, a4_, a5_, a6_, a7_] at hb3
 conv => cbv
 refine st_cell hr tIV rfl hb3.at ?_
 rw [hR]; exact ⟨hx.then (hw3.bel hq hx.size), rfl⟩
theorem run_bVtx (s : ByteArray) (w : World) : (Instr.build 153 #[(0, .int .i64 3), (2, .string s)]).run Tryz.prog w = .ok (.agg ⟨[.int .i64 3, .int .i64 0, .string s, .slice none 0 0]⟩) w := by kernel_rfl
theorem textV_f {w : World} (s : ByteArray) : FC Tryz.prog 313 [.string s] w fun v _ => v = .agg ⟨[.int .i64 3, .int .i64 0, .string s, .slice none 0 0]⟩ := by
 refine FC.intro (cs := []) Tryz.func313 (by kernel_rfl) fun E R hE hr hR => ?_
 conv => cbv
 refine st_alloc hr tIV rfl fun q w1 hx hq0 => ?_
 have hq := hq0 _ (n1_ _)
 conv => cbv
 refine hE.det (v := .agg ⟨[.int .i64 3, .int .i64 0, .string s, .slice none 0 0]⟩) (fun w1 _ ρ hρ => ?_) ?_
 ·simp only [opnds, b2_, b3_, b1_, and_true] at hρ
  have := run_bVtx s w1
  simp [execOp, hρ.1, hρ.2, this]
 conv => cbv
 refine st_putS hr (by kernel_rfl) hq (add_zero _).symm (by simp [zV]) (by simp [Value.oneCell']) fun w3 hw3 hb3 => ?_
 simp only [zV, a1_, a2_, a3_, a4_, a5_, a6_, a7_] at hb3
 conv => cbv
 refine st_cell hr tIV rfl hb3.at ?_
 rw [hR]; exact ⟨hx.then (hw3.bel hq hx.size), rfl⟩
theorem setV_f {w : World} (A : Option Addr) (m c : Nat) : FC Tryz.prog 311 [.slice A m c] w fun v _ => v = .agg ⟨[.int .i64 4, .int .i64 0, .string ⟨#[]⟩, .slice A m c]⟩ := by
 refine FC.intro (cs := []) Tryz.func311 (by kernel_rfl) fun E R hE hr hR => ?_
 conv => cbv
 refine st_alloc hr tIV rfl fun q w1 hx hq0 => ?_
 have hq := hq0 _ (n1_ _)
 conv => cbv
 refine st_bV4 hE ?_
 conv => cbv
 refine st_putS hr (by kernel_rfl) hq (add_zero _).symm (by simp [zV]) (by simp [Value.oneCell']) fun w3 hw3 hb3 => ?_
 simp only [zV, a1_, a2_, a3_, a4_, a5_, a6_, a7_] at hb3
 conv => cbv
 refine st_cell hr tIV rfl hb3.at ?_
 rw [hR]; exact ⟨hx.then (hw3.bel hq hx.size), rfl⟩
mutual
def layF (b : Nat) : Tr → List PN
 | .con k n tx xs _ => [⟨kOp k, n, tx, xs, []⟩]
 | .nam tx _ => [⟨5, 0, tx, [], []⟩]
 | .att n => [⟨6, n, ⟨#[]⟩, [], []⟩]
 | .lt n => [⟨7, n, ⟨#[]⟩, [], []⟩]
 | .op o kids _ => (layL b kids).1 ++ [⟨o, 0, ⟨#[]⟩, [], (layL b kids).2⟩]
def layL (b : Nat) : List Tr → List PN × List Int
 | [] => ([], [])
 | t :: l => (layF b t ++ (layL (b + (layF b t).length) l).1, (((b + (layF b t).length : Nat) : Int) - 1) :: (layL (b + (layF b t).length) l).2)
end
mutual
theorem layF_len : ∀ (b : Nat) (t : Tr), (layF b t).length = (po t).length
 | b, .con .. => rfl
 | b, .nam .. => rfl
 | b, .att .. => rfl
 | b, .lt .. => rfl
 | b, .op o kids at_ => by rw [layF, po, List.length_append, List.length_append, (layL_len b kids).1]; rfl
theorem layL_len : ∀ (b : Nat) (l : List Tr), (layL b l).1.length = (pos l).length ∧ (layL b l).2.length = l.length
 | b, [] => ⟨rfl, rfl⟩
 | b, t :: l => by
  rw [layL, pos]
  simp only [List.length_append, a3_]
  rw [layF_len b t, (layL_len _ l).1, (layL_len _ l).2]
  exact ⟨rfl, rfl⟩
end
def fixN (names : List ByteArray) (p : PN) : PN := if p.o = 5 then match resN names p.tx with
  | some (.att i) => ⟨6, i, ⟨#[]⟩, [], []⟩
  | some (.lt i) => ⟨7, i, ⟨#[]⟩, [], []⟩
  | _ => p
 else p
def leafL (p : PN) : Prop := (p.o = 5 → p.z = 0 ∧ p.xs = []) ∧ (p.o = 6 ∨ p.o = 7 → p.tx = ⟨#[]⟩ ∧ p.xs = [])
theorem posF_ltL {l : List ByteArray} {s : ByteArray} {k : Nat} (h : posF l s = some k) : k < l.length := (List.getElem?_eq_some_iff.1 (posF_lt h)).1
theorem resN_cases (names : List ByteArray) (tx : ByteArray) : resN names tx = none ∨ (∃ i : Nat, resN names tx = some (.att i) ∧ i < 6) ∨ ∃ i : Nat, resN names tx = some (.lt i) ∧ i < names.length := by
 unfold resN
 cases h : posF attrs tx with
 | some i => exact .inr (.inl ⟨i, rfl, posF_ltL h⟩)
 | none =>
  cases h2 : posF names tx with
  | none => exact .inl rfl
  | some i => exact .inr (.inr ⟨i, rfl, posF_ltL h2⟩)
theorem resN_lt {names : List ByteArray} {tx : ByteArray} {i : Nat} (h : posF attrs tx = none) (h2 : posF names tx = some i) : resN names tx = some (.lt i) := by unfold resN; rw [h, h2]; rfl
theorem resN_att {names : List ByteArray} {tx : ByteArray} {i : Nat} (h : posF attrs tx = some i) : resN names tx = some (.att i) := by unfold resN; rw [h]
theorem resN_none {names : List ByteArray} {tx : ByteArray} (h : posF attrs tx = none) (h2 : posF names tx = none) : resN names tx = none := by unfold resN; rw [h, h2]; rfl
mutual
theorem tyT_res {names : List ByteArray} {tys : List Int} (he : names.length = tys.length) : ∀ t : Tr, tyT names tys (resT names t) = tyT names tys t
 | .con .. => rfl
 | .att n => rfl
 | .lt n => rfl
 | .nam tx at_ => by
  rw [resT]
  have e1 : tyT names tys (.nam tx at_) = tyNam names tys tx := rfl
  rw [e1]
  unfold tyNam
  cases h : posF attrs tx with
  | some i => rw [resN_att h]; rfl
  | none =>
   cases h2 : posF names tx with
   | none => rw [resN_none h h2]; simp only [Option.getD_none, tyT, tyNam, h, h2]
   | some i =>
    have := posF_ltL h2
    rw [resN_lt h h2]
    simp only [Option.getD_some, tyT, tyLt]
    rw [if_neg (by omega)]
    simp
 | .op o kids at_ => by rw [resT, tyT, tyT, tyTs_res he kids]
theorem tyTs_res {names : List ByteArray} {tys : List Int} (he : names.length = tys.length) : ∀ l : List Tr, tyTs names tys (resTs names l) = tyTs names tys l
 | [] => rfl
 | t :: l => by rw [resTs, tyTs, tyTs, tyT_res he t, tyTs_res he l]
end
mutual
theorem po_res (names : List ByteArray) : ∀ t : Tr, po (resT names t) = (po t).map (resT names)
 | .con .. => rfl
 | .att n => rfl
 | .lt n => rfl
 | .nam tx at_ => by
  have e1 : po (Tr.nam tx at_) = [Tr.nam tx at_] := rfl
  rw [e1, b2_, b3_, resT]
  rcases resN_cases names tx with e | ⟨i, e, _⟩ | ⟨i, e, _⟩ <;> rw [e] <;> rfl
 | .op o kids at_ => by rw [resT, po, po, pos_res names kids, List.map_append, b2_, b3_, resT]
theorem pos_res (names : List ByteArray) : ∀ l : List Tr, pos (resTs names l) = (pos l).map (resT names)
 | [] => rfl
 | t :: l => by rw [resTs, pos, pos, po_res names t, pos_res names l, List.map_append]
end
def layO (b : Nat) : Option Tr → List PN × Int
 | none => ([], -1)
 | some t => (layF b t, ((b + (layF b t).length : Nat) : Int) - 1)
def layS (b : Nat) : List (PS × PT) → List PN × List PS
 | [] => ([], [])
 | (s, p) :: l => ((layO b p.c).1 ++ (layO (b + (layO b p.c).1.length) p.g).1 ++ (layS (b + (layO b p.c).1.length + (layO (b + (layO b p.c).1.length) p.g).1.length) l).1,
   ⟨s.k, s.nm, (layO b p.c).2, (layO (b + (layO b p.c).1.length) p.g).2⟩ :: (layS (b + (layO b p.c).1.length + (layO (b + (layO b p.c).1.length) p.g).1.length) l).2)
mutual
theorem goodT_res {names : List ByteArray} {L : Nat} (hL : names.length = L) : ∀ t : Tr, goodT L t → goodT L (resT names t)
 | .con .., h => h
 | .att n, h => h
 | .lt n, h => h
 | .nam tx at_, _ => by
  rw [resT]
  rcases resN_cases names tx with e | ⟨i, e, hi⟩ | ⟨i, e, hi⟩ <;> rw [e] <;> simp only [Option.getD_none, Option.getD_some, goodT]
  ·omega
  ·omega
 | .op o kids at_, h => by
  simp only [goodT] at h
  rw [resT]
  simp only [goodT]
  rw [resTs_len]
  exact ⟨h.1, h.2.1, goodTs_res hL kids h.2.2⟩
theorem goodTs_res {names : List ByteArray} {L : Nat} (hL : names.length = L) : ∀ l : List Tr, goodTs L l → goodTs L (resTs names l)
 | [], _ => by simp only [resTs, goodTs]
 | t :: l, h => by
  simp only [goodTs] at h
  simp only [resTs, goodTs]
  exact ⟨goodT_res hL t h.1, goodTs_res hL l h.2⟩
end
end Go.Proofs.YtkedmcebngachaaGreatDoor
