/- Texts that the law FnExactRun leans on, part 4 of 11: contracts of the functions that it reaches and plain lemmas. Each holds under the conditions that it states. -/
import Derived.Test.YtkedmcebngachaaGreatDoorMFnExactRun3
set_option maxHeartbeats 16000000
set_option linter.unusedVariables false
set_option linter.unusedSimpArgs false
namespace Go.Proofs.YtkedmcebngachaaGreatDoor
open Go.Eng
set_option linter.unusedVariables false
set_option linter.unusedSimpArgs false
def InD (D : Nat → Prop) (A : Option Addr) (m : Nat) : Prop := ∀ a, A = some a → 0 < m → D a.block
mutual
def TreeV (D : Nat → Prop) (w : World) : Tr → Value → Prop
 | .con k n tx xs at_, v => ∃ A m c, v = .iface 291 (.agg ⟨[.int .i64 k, .int .i64 n, .string tx, .slice A m c, .int .i64 at_]⟩) ∧ Strs w A m c xs ∧ InD D A m ∧ tx.size ≤ 9223372036854775807
 | .nam tx at_, v => v = .iface 355 (.agg ⟨[.string tx, .int .i64 at_]⟩) ∧ tx.size ≤ 9223372036854775807
 | .att n, v => v = .iface 313 (.agg ⟨[.int .i64 n]⟩)
 | .lt n, v => v = .iface 314 (.agg ⟨[.int .i64 n]⟩)
 | .op o kids at_, v => ∃ A m c vs, v = .iface 283 (.agg ⟨[.int .i64 o, .slice A m c, .int .i64 at_]⟩) ∧ vs.length = m ∧ m ≤ c ∧ m ≤ 9223372036854775807 ∧ Cells w A vs ∧ InD D A m ∧ TreesV D w kids vs
def TreesV (D : Nat → Prop) (w : World) : List Tr → List Value → Prop
 | [], [] => True
 | t :: ts, v :: vs => TreeV D w t v ∧ TreesV D w ts vs
 | _, _ => False
end
theorem TreesV.len {D : Nat → Prop} {w : World} : ∀ {ts : List Tr} {vs : List Value}, TreesV D w ts vs → ts.length = vs.length
 | [], [], _ => rfl
 | t :: ts, v :: vs, h => by simp only [TreesV] at h; simp [TreesV.len h.2]
 | [], _ :: _, h => by simp only [TreesV] at h
 | _ :: _, [], h => by simp only [TreesV] at h
theorem TreesV.get {D : Nat → Prop} {w : World} : ∀ {ts : List Tr} {vs : List Value}, TreesV D w ts vs → ∀ (i : Nat) (t : Tr) (v : Value), ts[i]? = some t → vs[i]? = some v → TreeV D w t v
 | t :: ts, v :: vs, h, 0, t', v', h1, h2 => by simp at h1 h2; subst h1; subst h2; simp only [TreesV] at h; exact h.1
 | t :: ts, v :: vs, h, i + 1, t', v', h1, h2 => by simp only [TreesV] at h; exact TreesV.get h.2 i t' v' (by simpa using h1) (by simpa using h2)
 | [], [], _, i, t, v, h1, _ => by simp at h1
 | [], _ :: _, h, _, _, _, _, _ => by simp only [TreesV] at h
 | _ :: _, [], h, _, _, _, _, _ => by simp only [TreesV] at h
theorem TreesV.of_get {D : Nat → Prop} {w : World} : ∀ {ts : List Tr} {vs : List Value}, ts.length = vs.length → (∀ (i : Nat) (t : Tr) (v : Value), ts[i]? = some t → vs[i]? = some v → TreeV D w t v) → TreesV D w ts vs
 | [], [], _, _ => by simp only [TreesV]
 | t :: ts, v :: vs, h, hq => by
  simp only [TreesV]
  exact ⟨hq 0 t v rfl rfl, TreesV.of_get (by simpa using h) fun i t v h1 h2 => hq (i + 1) t v (by simpa using h1) (by simpa using h2)⟩
 | [], _ :: _, h, _ => by simp at h
 | _ :: _, [], h, _ => by simp at h
theorem TreeV.one {D : Nat → Prop} {w : World} {t : Tr} {v : Value} (h : TreeV D w t v) : v.oneCell' = true ∧ v ≠ .nilIface := by
 cases t <;> simp only [TreeV] at h
 ·obtain ⟨A, m, c, rfl, _⟩ := h; exact ⟨rfl, by simp⟩
 ·rw [h.1]; exact ⟨rfl, by simp⟩
 ·rw [h]; exact ⟨rfl, by simp⟩
 ·rw [h]; exact ⟨rfl, by simp⟩
 ·obtain ⟨A, m, c, vs, rfl, _⟩ := h; exact ⟨rfl, by simp⟩
def Keeps (D : Nat → Prop) (w w' : World) : Prop := ∀ b, D b → w'.heap[b]? = w.heap[b]?
theorem add_block (a : Addr) (j : Nat) : (a.add j).block = a.block := by unfold Addr.add; split <;> rfl
theorem cell_keep {w w' : World} {a : Addr} (h : w'.heap[a.block]? = w.heap[a.block]?) : w'.cell? a = w.cell? a := by simp only [World.cell?, h]
theorem cells_keep {D : Nat → Prop} {w w' : World} {A : Option Addr} {vs : List Value} (h : Cells w A vs) (hD : InD D A vs.length) (hk : Keeps D w w') : Cells w' A vs :=
 ⟨h.1, fun a ha j v hv => by
  have hlt := (List.getElem?_eq_some_iff.1 hv).1
  exact (cell_keep (by rw [add_block]; exact hk _ (hD a ha (by omega)))).trans (h.2 a ha j v hv)⟩
theorem strs_keep {D : Nat → Prop} {w w' : World} {A : Option Addr} {m c : Nat} {xs : List ByteArray} (h : Strs w A m c xs) (hD : InD D A m) (hk : Keeps D w w') : Strs w' A m c xs :=
 ⟨h.1, h.2, h.3, cells_keep h.4 (by rw [List.length_map, h.len]; exact hD) hk, h.5⟩
mutual
theorem TreeV.keep {D D' : Nat → Prop} {w w' : World} (hk : Keeps D w w') (hD : ∀ b, D b → D' b) : ∀ (t : Tr) (v : Value), TreeV D w t v → TreeV D' w' t v
 | .con k n tx xs at_, v, h => by
  simp only [TreeV] at h ⊢
  obtain ⟨A, m, c, e, h1, h2, h3⟩ := h
  exact ⟨A, m, c, e, strs_keep h1 h2 hk, fun a ha hm => hD _ (h2 a ha hm), h3⟩
 | .nam tx at_, v, h => by simp only [TreeV] at h ⊢; exact h
 | .att n, v, h => by simp only [TreeV] at h ⊢; exact h
 | .lt n, v, h => by simp only [TreeV] at h ⊢; exact h
 | .op o kids at_, v, h => by
  simp only [TreeV] at h ⊢
  obtain ⟨A, m, c, vs, e, h1, h2, h3, h4, h5, h6⟩ := h
  exact ⟨A, m, c, vs, e, h1, h2, h3, cells_keep h4 (by rw [h1]; exact h5) hk, fun a ha hm => hD _ (h5 a ha hm), TreesV.keep hk hD kids vs h6⟩
theorem TreesV.keep {D D' : Nat → Prop} {w w' : World} (hk : Keeps D w w') (hD : ∀ b, D b → D' b) : ∀ (ts : List Tr) (vs : List Value), TreesV D w ts vs → TreesV D' w' ts vs
 | [], [], _ => by simp only [TreesV]
 | t :: ts, v :: vs, h => by simp only [TreesV] at h ⊢; exact ⟨TreeV.keep hk hD t v h.1, TreesV.keep hk hD ts vs h.2⟩
 | [], _ :: _, h => by simp only [TreesV] at h
 | _ :: _, [], h => by simp only [TreesV] at h
end
theorem TreeV.ext {D : Nat → Prop} {w w' : World} {t : Tr} {v : Value} (h : TreeV D w t v) (hD : ∀ b, D b → b < w.heap.size) (hx : Ext w w') : TreeV D w' t v := h.keep (fun b hb => hx.block b (hD b hb)) (fun _ h => h)
section
variable {P : Program} {E : Sym} {w : World} {K : Value → World → Prop} {d : Option Tmp} {ty : TypeId} {pos : String} {aft : Array Edge} {g : Option (Nat × Bool)}
end
open Go.ChangeMaps (setBlock)
section
variable {E : Sym} {w : World} {K : Value → World → Prop} {d : Option Tmp} {ty : TypeId} {pos : String} {aft : Array Edge} {g : Option (Nat × Bool)} {bq : Bool}
end
section
variable {E : Sym} {w : World} {K : Value → World → Prop} {d : Option Tmp} {ty : TypeId} {pos : String} {aft : Array Edge} {g : Option (Nat × Bool)} {bq : Bool}
end
structure SE where
 t : Tr
 pl : Int
 ty : TypeId
 u : Value
def fE (e : SE) : List Value := [.iface e.ty e.u, .int .i64 e.pl]
def stOf (es : List SE) : List (Tr × Int) := es.map fun e => (e.t, e.pl)
def Foot (w0s ws : Nat) (w : World) (A : Option Addr) (b : Nat) : Prop := b < w0s ∨ (ws ≤ b ∧ b < w.heap.size ∧ blk A ≠ some b)
def SOK (w0s ws : Nat) (w : World) (A : Option Addr) (es : List SE) : Prop := ∀ e ∈ es, TreeV (Foot w0s ws w A) w e.t (.iface e.ty e.u) ∧ dep e.t ≤ 64
theorem foot_lt {w0s ws : Nat} {w : World} {A : Option Addr} (h : w0s ≤ w.heap.size) {b : Nat} (hb : Foot w0s ws w A b) : b < w.heap.size := by
 rcases hb with hb | hb
 ·omega
 ·exact hb.2.1
theorem foot_ext {w0s ws : Nat} {w w' : World} {A : Option Addr} (hx : w.heap.size ≤ w'.heap.size) {b : Nat} (hb : Foot w0s ws w A b) : Foot w0s ws w' A b := by
 rcases hb with hb | ⟨h1, h2, h3⟩
 ·exact .inl hb
 ·exact .inr ⟨h1, by omega, h3⟩
theorem tree_ext {w0s ws : Nat} {w w' : World} {A : Option Addr} (h0 : w0s ≤ w.heap.size) (hx : Ext w w') {t : Tr} {v : Value} (h : TreeV (Foot w0s ws w A) w t v) : TreeV (Foot w0s ws w' A) w' t v :=
 h.keep (fun b hb => hx.block b (foot_lt h0 hb)) (fun b hb => foot_ext hx.size hb)
theorem SOK.ext {w0s ws : Nat} {w w' : World} {A : Option Addr} {es : List SE} (h : SOK w0s ws w A es) (h0 : w0s ≤ w.heap.size) (hx : Ext w w') : SOK w0s ws w' A es := fun e he => ⟨tree_ext h0 hx (h e he).1, (h e he).2⟩
theorem tree_wr {w0s ws : Nat} {w w' : World} {A : Option Addr} {a : Addr} (h0 : w0s ≤ w.heap.size) (ha : w0s ≤ a.block ∧ a.block < ws) (ha0 : blk (some a) = some a.block) (hw : Wr (some a) w w') {t : Tr} {v : Value} (h : TreeV (Foot w0s ws w A) w t v) : TreeV (Foot w0s ws w' A) w' t v :=
 h.keep (fun b hb => hw.block b (foot_lt h0 hb) (by
  intro e
  rw [ha0] at e
  cases e
  rcases hb with hb | hb <;> omega)) (fun b hb => foot_ext hw.size hb)
theorem SOK.wr {w0s ws : Nat} {w w' : World} {A : Option Addr} {a : Addr} {es : List SE} (h : SOK w0s ws w A es) (h0 : w0s ≤ w.heap.size) (ha : w0s ≤ a.block ∧ a.block < ws) (ha0 : blk (some a) = some a.block) (hw : Wr (some a) w w') : SOK w0s ws w' A es := fun e he => ⟨tree_wr h0 ha ha0 hw (h e he).1, (h e he).2⟩
def LeafC (w : World) (a : Addr) (f : FuncId) (fst cap : Array Value) (leafP : PN → Prop) : Prop :=
 ∀ w', Wr (some a) w w' → ∀ v : VN, OKN w' v → FC Tryz.prog f (fst.toList ++ [.agg ⟨cN v⟩] ++ cap.toList) w' fun r _ => ∃ b : Bool, r = .bool b ∧ (b = true ↔ leafP v.p)
theorem TreeV.form {D : Nat → Prop} {w : World} {t : Tr} {v : Value} (h : TreeV D w t v) : ∃ ty u, v = .iface ty u := by
 cases t <;> simp only [TreeV] at h
 ·obtain ⟨A, m, c, rfl, _⟩ := h; exact ⟨_, _, rfl⟩
 ·rw [h.1]; exact ⟨_, _, rfl⟩
 ·rw [h]; exact ⟨_, _, rfl⟩
 ·rw [h]; exact ⟨_, _, rfl⟩
 ·obtain ⟨A, m, c, vs, rfl, _⟩ := h; exact ⟨_, _, rfl⟩
theorem own_low {B : Nat} {e : TypeId} {k : Nat} {w : World} {A : Option Addr} {m c : Nat} {xs : List Value} {a : Addr} (h : Own B e k w A m c xs) (ha : a.block < B) (ha0 : blk (some a) = some a.block) : Apart A (some a) ∧ Apart (some a) A := by
 obtain rfl | ⟨g, rfl, hg, _⟩ := h.blk
 ·exact ⟨.inl rfl, .inr (by rw [ha0]; simp [Eng.blk, Value.ownBlock])⟩
 ·have e1 : blk (some (⟨g, 0, none⟩ : Addr)) = some g := rfl
  exact ⟨.inr (by rw [ha0, e1]; intro q; cases q; omega), .inr (by rw [ha0, e1]; intro q; cases q; omega)⟩
def cOK (p : PN) : Prop := (p.o = 1 ∧ p.tx = ⟨#[]⟩ ∧ p.xs = []) ∨ (p.o = 2 ∧ p.z = 0 ∧ nameBytes p.tx ∧ p.xs = []) ∨ (p.o = 3 ∧ (p.z = 0 ∨ p.z = 1) ∧ p.tx = ⟨#[]⟩ ∧ p.xs = []) ∨ (p.o = 4 ∧ p.z = 0 ∧ p.tx = ⟨#[]⟩ ∧ isSet p.xs)
def leafU (p : PN) : Prop := if p.o = 5 then p.z = 0 ∧ ident p.tx ∧ p.xs = [] else cOK p ∧ (p.o ≠ 1 ∨ 0 ≤ p.z)
def LeafA (w0 : World) (f0 : FuncId) (lp : Nat → PN → Prop) : Prop :=
 ∀ w', Ext w0 w' → ∀ (l : Nat), l ≤ 600 → ∀ (ll : Int), ll = (l : Int) → ∀ v : VN, OKN w' v → FC Tryz.prog f0 [.int .i64 ll, .agg ⟨cN v⟩] w' fun r _ => ∃ b : Bool, r = .bool b ∧ (b = true ↔ lp l v.p)
def guardP (last : Bool) (s : PS) : Prop := (1 ≤ s.k ∧ s.k ≤ 3) ∧ (s.k = 3 ↔ last = true) ∧ (s.k = 3 ↔ s.c = -1) ∧ (s.k = 1 → s.g = -1) ∧ (s.k ≠ 1 → s.nm = ⟨#[]⟩) ∧ (s.k = 1 → ident s.nm)
structure PT where
 c : Option Tr
 g : Option Tr
def trs (p : PT) : List Tr := p.c.toList ++ p.g.toList
noncomputable def optM (ns : List PN) (lf : PN → Prop) (i : Nat) (top : Int) : Option (Option Tr × Nat) :=
 if top = -1 then some (none, i) else match treeM ns lf i top with
  | none => none
  | some t => some (some t, top.toNat + 1)
open Classical in
noncomputable def stmtM (ns : List PN) (lf : PN → Prop) (last : Bool) (i : Nat) (s : PS) : Option (PT × Nat) :=
 if guardP last s then match optM ns lf i s.c with
  | none => none
  | some (c, j) => match optM ns lf j s.g with
   | none => none
   | some (g, k) => some (⟨c, g⟩, k)
 else none
noncomputable def runS (ns : List PN) (lp : Nat → PN → Prop) : List PS → Nat → Nat → List PT → Option (List PT × Nat)
 | [], i, _, acc => some (acc, i)
 | s :: l, i, lets, acc => match stmtM ns (lp lets) l.isEmpty i s with
  | none => none
  | some (p, j) => runS ns lp l j (if s.k = 1 then lets + 1 else lets) (acc ++ [p])
def rootO (top : Int) : List Int := if 0 ≤ top then [top] else []
def zSt : List Value := [.int .i64 0, .string ⟨#[]⟩, .nilIface, .nilIface, .int .i64 0]
section
variable {E : Sym} {w : World} {K : Value → World → Prop} {d : Option Tmp} {ty : TypeId} {pos : String} {aft : Array Edge} {g : Option (Nat × Bool)} {bq : Bool}
end
def optV (D : Nat → Prop) (w : World) : Option Tr → Value → Prop
 | none, v => v = .nilIface
 | some t, v => TreeV D w t v
theorem optV.keep {D D' : Nat → Prop} {w w' : World} {o : Option Tr} {v : Value} (h : optV D w o v) (hk : Keeps D w w') (hD : ∀ b, D b → D' b) : optV D' w' o v := by
 cases o with
 | none => exact h
 | some t => exact TreeV.keep hk hD t v h
theorem optV.one {D : Nat → Prop} {w : World} {o : Option Tr} {v : Value} (h : optV D w o v) : v.oneCell' = true := by
 cases o with
 | none => rw [show v = .nilIface from h]; rfl
 | some t => exact (TreeV.one h).1
structure SV where
 s : PS
 p : PT
 cv : Value
 gv : Value
 i : Int
def fV (e : SV) : List Value := [.int .i64 e.s.k, .string e.s.nm, e.cv, e.gv, .int .i64 e.i]
def ES (D : Nat → Prop) (w : World) (es : List SV) : Prop := ∀ e ∈ es, optV D w e.p.c e.cv ∧ optV D w e.p.g e.gv
theorem ES.keep {D D' : Nat → Prop} {w w' : World} {es : List SV} (h : ES D w es) (hk : Keeps D w w') (hD : ∀ b, D b → D' b) : ES D' w' es := fun e he => ⟨(h e he).1.keep hk hD, (h e he).2.keep hk hD⟩
def Nums (sv : List PS) (es : List SV) : Prop := ∀ (j : Nat) (e : SV), es[j]? = some e → e.i = (j : Int) ∧ sv[j]? = some e.s
def LaidS (w : World) (A : Option Addr) (m c : Nat) (sv : List PS) (acc : List PT) : Prop := ∃ es : List SV, es.length = m ∧ m = sv.length ∧ m ≤ c ∧ es.map (·.p) = acc ∧ Cells w A (es.flatMap fV) ∧ Nums sv es ∧ ES (fun b => b < w.heap.size) w es
theorem bx_form {B : Nat} {e : TypeId} {k : Nat} {w : World} {a : Addr} {m c : Nat} {xs : List Value} (h : Own B e k w (some a) m c xs) : B ≤ a.block ∧ a.block < w.heap.size ∧ blk (some a) = some a.block := by
 obtain ⟨g, rfl, h1, h2⟩ := h.form
 exact ⟨h1, h2, rfl⟩
theorem bx_apart {a b : Addr} (ha : blk (some a) = some a.block) (hb : blk (some b) = some b.block) (h : a.block ≠ b.block) : Apart (some a) (some b) := .inr (by rw [ha, hb]; intro q; exact h (Option.some.inj q))
theorem drop_cons {α : Type} {l : List α} {j : Nat} {x : α} (h : l[j]? = some x) : l.drop j = x :: l.drop (j + 1) := by
 have := (List.getElem?_eq_some_iff.1 h)
 rw [List.drop_eq_getElem_cons this.1, this.2]
structure CK where
 acc : List Int
 names : List ByteArray
 tys : List Int
def ckC (s : PS) (x : CK) : Option Tr → (Int × Int) ⊕ CK
 | none => .inr x
 | some t =>
  if (walkL x.names x.tys (po t) x.acc).2 ≠ 0 then .inl ((walkL x.names x.tys (po t) x.acc).2, ((walkL x.names x.tys (po t) x.acc).1.length : Int))
  else if s.k = 1 then (if (resN x.names s.nm).isSome = true then .inl (8, ((walkL x.names x.tys (po t) x.acc).1.length : Int) - 1) else .inr ⟨(walkL x.names x.tys (po t) x.acc).1, x.names ++ [s.nm], x.tys ++ [(tyT x.names x.tys t).1]⟩)
  else if (tyT x.names x.tys t).1 ≠ 1 then .inl (9, ((walkL x.names x.tys (po t) x.acc).1.length : Int) - 1) else .inr ⟨(walkL x.names x.tys (po t) x.acc).1, x.names, x.tys⟩
def ckG (x : CK) : Option Tr → (Int × Int) ⊕ CK
 | none => .inr x
 | some t =>
  if (walkL x.names x.tys (po t) x.acc).2 ≠ 0 then .inl ((walkL x.names x.tys (po t) x.acc).2, ((walkL x.names x.tys (po t) x.acc).1.length : Int))
  else if (tyT x.names x.tys t).1 ≠ 4 then .inl (9, ((walkL x.names x.tys (po t) x.acc).1.length : Int) - 1) else .inr ⟨(walkL x.names x.tys (po t) x.acc).1, x.names, x.tys⟩
def ckS : List (PS × PT) → CK → (Int × Int) ⊕ CK
 | [], x => .inr x
 | q :: l, x => match ckC q.1 x q.2.c with
  | .inl f => .inl f
  | .inr y => match ckG y q.2.g with
   | .inl f => .inl f
   | .inr z => ckS l z
section
variable {E : Sym} {w : World} {K : Value → World → Prop} {d : Option Tmp} {ty : TypeId} {pos : String} {aft : Array Edge} {g : Option (Nat × Bool)} {bq : Bool}
end
theorem own_blk {B : Nat} {e : TypeId} {k : Nat} {w : World} {A : Option Addr} {m c : Nat} {xs : List Value} (h : Own B e k w A m c xs) : ∀ g, blk A = some g → B ≤ g ∧ g < w.heap.size := fun g hg => by
 obtain rfl | ⟨g', rfl, h1, h2⟩ := h.blk
 ·simp [Eng.blk, Value.ownBlock] at hg
 ·simp [Eng.blk, Value.ownBlock] at hg; omega
structure LB (w0s ws : Nat) (pl q9 q6 : Addr) : Prop where
 p : w0s ≤ pl.block ∧ pl.block < ws
 f : w0s ≤ q9.block ∧ q9.block < ws
 r : w0s ≤ q6.block ∧ q6.block < ws
 ep : blk (some pl) = some pl.block
 ef : blk (some q9) = some q9.block
 er : blk (some q6) = some q6.block
 pf : pl.block ≠ q9.block
 pr : pl.block ≠ q6.block
 fr : q9.block ≠ q6.block
structure LC (w0s ws : Nat) (w : World) (pl q9 q6 : Addr) (bx fx : List Value) (x : CK) (A NA TA : Option Addr) (c nc tc : Nat) : Prop where
 box : Box w0s 195 2 w pl bx
 flt : Box w0s 113 2 w q9 fx
 res : Box w0s 113 2 w q6 [.int .i64 0, .int .i64 0]
 rA : Own ws 3 1 w A x.acc.length c (x.acc.map (.int .i64))
 rN : Own ws 9 1 w NA x.names.length nc (x.names.map .string)
 rT : Own ws 3 1 w TA x.tys.length tc (x.tys.map (.int .i64))
 aAN : Apart A NA ∧ Apart NA A
 aAT : Apart A TA ∧ Apart TA A
 aNT : Apart NA TA ∧ Apart TA NA
section
variable {w0s ws : Nat} {w w' : World} {pl q9 q6 : Addr} {bx fx : List Value} {x : CK} {A NA TA : Option Addr} {c nc tc : Nat}
theorem LC.ext (h : LC w0s ws w pl q9 q6 bx fx x A NA TA c nc tc) (hx : Ext w w') : LC w0s ws w' pl q9 q6 bx fx x A NA TA c nc tc :=
 ⟨h.box.bel hx, h.flt.bel hx, h.res.bel hx, h.rA.bel hx, h.rN.bel hx, h.rT.bel hx, h.aAN, h.aAT, h.aNT⟩
structure XK (x : CK) : Prop where
 eq : x.names.length = x.tys.length
 le : x.tys.length ≤ 600
 nz : ∀ y ∈ x.tys, y ≠ 0
 ss : ∀ s ∈ x.names, s.size ≤ 9223372036854775807
end
end Go.Proofs.YtkedmcebngachaaGreatDoor
namespace Go.Eng
set_option linter.unusedVariables false
set_option linter.unusedSimpArgs false
def wpAnyU (P : Program) (md : Region.Mode) (ops : Array Oper) (Q : Exit → Act → World → Prop) (S : World → Prop) (l : List Nat) : Nat → Array Bool → Act → World → Prop
 | 0, listed, a, w => Region.ready md ops listed = [] ∧ Q .normal a w
 | fuel + 1, listed, a, w => (Region.ready md ops listed = [] → Q .normal a w) ∧
  ∀ i ∈ Region.ready md ops listed, wpOp P ops Q i (fun a' w' => (needS md ops l i = true → S w → S w') ∧ wpAnyU P md ops Q S l fuel (listed.setIfInBounds i true) a' w') a w
section
variable {P : Program} {ops : Array Oper} {Q : Exit → Act → World → Prop} {md : Region.Mode} {S : World → Prop} {l : List Nat}
theorem wpAny_of_U : ∀ (fuel : Nat) (listed : Array Bool) (a : Act) (w : World), wpAnyU P md ops Q S l fuel listed a w → wpAny P md ops Q fuel listed a w
 | 0, _, _, _, h => h
 | fuel + 1, _, _, _, h => ⟨h.1, fun i hi => wpOp_mono (fun a' w' h' => wpAny_of_U fuel _ a' w' h'.2) (h.2 i hi)⟩
theorem wpAnyU_first {i : Nat} {oi : Oper} {v : Value} (hi : ops[i]? = some oi) (hil : i ∈ l) (hsel : ∀ (j : Nat) (o : Oper) cs b, ops[j]? = some o → o.op ≠ .select cs b)
  (hQ : ∀ c a w, Q (.panic c) (a.put oi.dst v) w → Q (.panic c) a w) : ∀ (fuel : Nat) (listed : Array Bool) (a : Act) (w : World),
   (∀ j oj, ops[j]? = some oj → j ≠ i → listed.getD j true = false → (∀ e ∈ oj.after, Region.binds md e = true → e.on ≠ i) → oi.apart ops oj = true) →
   i ∈ Region.ready md ops listed → Closed md ops listed → YieldsIf P ops S oi v a → S w →
   wpAnyU P md ops Q S l fuel (listed.setIfInBounds i true) (a.put oi.dst v) w → wpAnyU P md ops Q S l (fuel + 1) listed a w := by
 intro fuel
 induction fuel with
 | zero =>
  intro listed a w _ hr hcl hy hS H
  refine ⟨fun h => (by rw [h] at hr; cases hr), fun j hj => ?_⟩
  by_cases hji : j = i
  ·subst hji; exact hy.wpOp hi hS ⟨fun _ _ => hS, H⟩
  ·have h0 := ready_mono hj hji
   rw [H.1] at h0
   cases h0
 | succ fuel ih =>
  intro listed a w hfree hr hcl hy hS H
  refine ⟨fun h => (by rw [h] at hr; cases hr), fun j hj => ?_⟩
  by_cases hji : j = i
  ·subst hji; exact hy.wpOp hi hS ⟨fun _ _ => hS, H⟩
  ·have h1 := H.2 j (ready_mono hj hji)
   obtain ⟨hjun, oj, hoj, hall⟩ := mem_ready.1 hj
   have hnot : ∀ e ∈ oj.after, Region.binds md e = true → e.on ≠ i := fun e he hb heq => by
    have a1 := hall e he hb
    have a0 := (mem_ready.1 hr).1
    rw [heq] at a1
    rcases Nat.lt_or_ge i listed.size with h' | h'
    ·simp [h'] at a0 a1; rw [a0] at a1; cases a1
    ·simp [Array.getElem?_eq_none h'] at a1
   have hneed : needS md ops l j = true := by
    unfold needS
    rw [List.any_eq_true]
    refine ⟨i, hil, ?_⟩
    rw [Bool.not_eq_true']
    refine Bool.eq_false_iff.2 fun hre => ?_
    have hi1 := reach_listed hcl (i := i) ops.size j (fun o ho => by rw [hoj] at ho; cases ho; exact hall) hre
    have hi0 := (mem_ready.1 hr).1
    rcases Nat.lt_or_ge i listed.size with h' | h'
    ·simp [h'] at hi0 hi1; rw [hi0] at hi1; cases hi1
    ·simp [Array.getElem?_eq_none h'] at hi1
   have hcl' : Closed md ops (listed.setIfInBounds j true) := fun k o ho hk e he hb => by
    have key : listed.getD e.on false = true := by
     by_cases hkj : j = k
     ·subst hkj; rw [hoj] at ho; cases ho; exact hall e he hb
     ·rw [getD_set_ne false hkj] at hk; exact hcl k o ho hk e he hb
    by_cases hje : j = e.on
    ·subst hje
     rcases Nat.lt_or_ge e.on listed.size with h' | h'
     ·simp [h']
     ·simp [Array.getElem?_eq_none h'] at key
    ·rw [getD_set_ne false hje]; exact key
   have h2 := wpOp_putIf hoj (hfree j oj hoj hji hjun hnot) (fun cs b => hsel i oi cs b hi) (fun cs b => hsel j oj cs b hoj) hQ hy h1
   have hfree' : ∀ k ok, ops[k]? = some ok → k ≠ i → (listed.setIfInBounds j true).getD k true = false →
     (∀ e ∈ ok.after, Region.binds md e = true → e.on ≠ i) → oi.apart ops ok = true := fun k ok hk hki hun hno => by
    refine hfree k ok hk hki ?_ hno
    by_cases hjk : j = k
    ·subst hjk; exact hjun
    ·rw [getD_set_ne true hjk] at hun; exact hun
   refine wpOp_mono (fun a' w' h3 => ⟨fun _ => h3.2.1 hneed, ih (listed.setIfInBounds j true) a' w' hfree' (ready_mono hr (Ne.symm hji)) hcl' h3.1 (h3.2.1 hneed hS) ?_⟩) h2
   rw [Array.setIfInBounds_comm _ _ hji]
   exact h3.2.2
theorem wpAnyU_take {i : Nat} {oi : Oper} {v : Value} {fuel : Nat} {listed : Array Bool} {a : Act} {w : World} (hi : ops[i]? = some oi) (hil : i ∈ l)
  (hs : Region.noSelect ops = true) (hf : Region.free md ops listed i = true) (hr : (Region.ready md ops listed).contains i = true) (hcl : Closed md ops listed)
  (hQ : ∀ c a w, Q (.panic c) (a.put oi.dst v) w → Q (.panic c) a w) (hy : YieldsIf P ops S oi v a) (hS : S w)
  (h : wpAnyU P md ops Q S l fuel (listed.setIfInBounds i true) (a.put oi.dst v) w) : wpAnyU P md ops Q S l (fuel + 1) listed a w :=
 wpAnyU_first hi hil (Region.noSelect_spec hs) hQ fuel listed a w (Region.free_spec hi hf) (by simpa using hr) hcl hy hS h
theorem wpAnyU_firstP {i : Nat} {oi : Oper} {v : Value} (hi : ops[i]? = some oi) (hsel : ∀ (j : Nat) (o : Oper) cs b, ops[j]? = some o → o.op ≠ .select cs b)
  (hQ : ∀ c a w, Q (.panic c) (a.put oi.dst v) w → Q (.panic c) a w) : ∀ (fuel : Nat) (listed : Array Bool) (a : Act) (w : World),
   (∀ j oj, ops[j]? = some oj → j ≠ i → listed.getD j true = false → (∀ e ∈ oj.after, Region.binds md e = true → e.on ≠ i) → oi.apart ops oj = true) →
   i ∈ Region.ready md ops listed → YieldsIf P ops (fun _ => True) oi v a →
   wpAnyU P md ops Q S l fuel (listed.setIfInBounds i true) (a.put oi.dst v) w → wpAnyU P md ops Q S l (fuel + 1) listed a w := by
 intro fuel
 induction fuel with
 | zero =>
  intro listed a w _ hr hy H
  refine ⟨fun h => (by rw [h] at hr; cases hr), fun j hj => ?_⟩
  by_cases hji : j = i
  ·subst hji; exact hy.wpOp hi trivial ⟨fun _ h => h, H⟩
  ·have h0 := ready_mono hj hji
   rw [H.1] at h0
   cases h0
 | succ fuel ih =>
  intro listed a w hfree hr hy H
  refine ⟨fun h => (by rw [h] at hr; cases hr), fun j hj => ?_⟩
  by_cases hji : j = i
  ·subst hji; exact hy.wpOp hi trivial ⟨fun _ h => h, H⟩
  ·have h1 := H.2 j (ready_mono hj hji)
   obtain ⟨hjun, oj, hoj, hall⟩ := mem_ready.1 hj
   have hnot : ∀ e ∈ oj.after, Region.binds md e = true → e.on ≠ i := fun e he hb heq => by
    have a1 := hall e he hb
    have a0 := (mem_ready.1 hr).1
    rw [heq] at a1
    rcases Nat.lt_or_ge i listed.size with h' | h'
    ·simp [h'] at a0 a1; rw [a0] at a1; cases a1
    ·simp [Array.getElem?_eq_none h'] at a1
   have h2 := wpOp_putIf hoj (hfree j oj hoj hji hjun hnot) (fun cs b => hsel i oi cs b hi) (fun cs b => hsel j oj cs b hoj) hQ hy h1
   have hfree' : ∀ k ok, ops[k]? = some ok → k ≠ i → (listed.setIfInBounds j true).getD k true = false →
     (∀ e ∈ ok.after, Region.binds md e = true → e.on ≠ i) → oi.apart ops ok = true := fun k ok hk hki hun hno => by
    refine hfree k ok hk hki ?_ hno
    by_cases hjk : j = k
    ·subst hjk; exact hjun
    ·rw [getD_set_ne true hjk] at hun; exact hun
   refine wpOp_mono (fun a' w' h3 => ⟨h3.2.1, ih (listed.setIfInBounds j true) a' w' hfree' (ready_mono hr (Ne.symm hji)) h3.1 ?_⟩) h2
   rw [Array.setIfInBounds_comm _ _ hji]
   exact h3.2.2
theorem wpAnyU_takeP {i : Nat} {oi : Oper} {v : Value} {fuel : Nat} {listed : Array Bool} {a : Act} {w : World} (hi : ops[i]? = some oi)
  (hs : Region.noSelect ops = true) (hf : Region.free md ops listed i = true) (hr : (Region.ready md ops listed).contains i = true)
  (hQ : ∀ c a w, Q (.panic c) (a.put oi.dst v) w → Q (.panic c) a w) (hy : YieldsIf P ops (fun _ => True) oi v a)
  (h : wpAnyU P md ops Q S l fuel (listed.setIfInBounds i true) (a.put oi.dst v) w) : wpAnyU P md ops Q S l (fuel + 1) listed a w :=
 wpAnyU_firstP hi (Region.noSelect_spec hs) hQ fuel listed a w (Region.free_spec hi hf) (by simpa using hr) hy h
theorem eOp_calm {E E' : Sym} {o : Oper} {x : Operand} (ho : o.op = .move x) {F : Fr} {w : World} {K : Value → World → Prop} (h : eOp E o F w K) : eOp E' o F w K := by
 unfold eOp at h ⊢
 rw [ho] at h ⊢
 simp only [pure1] at h ⊢
 cases hx : ev F x with
 | some v => rw [hx] at h; exact h
 | none => rw [hx] at h; simp [opnds, evs, hx] at h
theorem eOps_calm {E E' : Sym} {all : List Oper} {o : Oper} {x : Operand} (ho : o.op = .move x) {F : Fr} {w : World} {K : Fr → World → Prop} (h : eOps E all [o] F w K) : eOps E' all [o] F w K := by
 simp only [eOps] at h ⊢
 cases hg : o.guard with
 | none => rw [hg] at h; exact eOp_calm ho h
 | some jw =>
  obtain ⟨j, want⟩ := jw
  rw [hg] at h
  simp only at h ⊢
  cases hd : dstOf all j with
  | none => rw [hd] at h; exact h
  | some s =>
   rw [hd] at h
   simp only at h ⊢
   cases hl : lk F s with
   | none => rw [hl] at h; exact h
   | some v =>
    rw [hl] at h
    cases v with
    | bool b =>
     cases b <;> cases want <;> simp only [Bool.false_eq_true, if_false, if_true] at h ⊢ <;> first | exact h | exact eOp_calm ho h
    | _ => exact h
theorem wpAnyU_done {listed : Array Bool} {a : Act} {w : World} (hr : Region.ready md ops listed = []) (h : Q .normal a w) : ∀ fuel, wpAnyU P md ops Q S l fuel listed a w
 | 0 => ⟨hr, h⟩
 | _ + 1 => ⟨fun _ => h, by rw [hr]; simp⟩
end
def calmAt (ops : Array Oper) (i : Nat) : Bool := match ops[i]? with
 | some o => match o.op with
  | .move _ => true
  | _ => false
 | none => false
def planU1 (ops : Array Oper) (l0 : List Nat) : List Nat → List (Nat × Bool) → Array Bool → Bool
 | [], l2, listed => planT2 ops l0 l2 listed
 | k :: l, l2, listed => (l0.contains k || calmAt ops k) && Region.free .any ops listed k && (Region.ready .any ops listed).contains k && planU1 ops l0 l l2 (listed.setIfInBounds k true)
def planU (ops : Array Oper) (l0 l1 : List Nat) (l2 : List (Nat × Bool)) : Bool :=
 Region.noSelect ops && Nat.beq (l1.length + l2.length) ops.size && planU1 ops l0 l1 l2 (Array.replicate ops.size false)
section
variable {P : Program} {Pn : List PanicEntry → World → Prop} {n : Nat}
end
end Go.Eng
namespace Go.Proofs.YtkedmcebngachaaGreatDoor
open Go.Eng
set_option linter.unusedVariables false
set_option linter.unusedSimpArgs false
section
variable {E : Sym} {w : World} {K : Value → World → Prop} {d : Option Tmp} {ty : TypeId} {pos : String} {aft : Array Edge} {g : Option (Nat × Bool)} {bq : Bool}
end
def Match (sv : List PS) (pts : List PT) : Prop := pts.length = sv.length ∧ ∀ (j : Nat) (s : PS) (p : PT), sv[j]? = some s → pts[j]? = some p → (p.c.isSome = true ↔ 0 ≤ s.c) ∧ (p.g.isSome = true ↔ 0 ≤ s.g)
def ptsOf : List PS → List Tr → List PT
 | [], _ => []
 | s :: l, ts =>
  let c := if 0 ≤ s.c then ts.head? else none
  let t1 := if 0 ≤ s.c then ts.tail else ts
  let g := if 0 ≤ s.g then t1.head? else none
  let t2 := if 0 ≤ s.g then t1.tail else t1
  ⟨c, g⟩ :: ptsOf l t2
def wellP (nv : List PN) (sv : List PS) (tyl : List Int) : Prop := policyP true nv sv ∧ ∃ pts x, Match sv pts ∧ IsTs nv 0 nv.length (roots sv) (pts.flatMap trs) ∧ ckS (sv.zip pts) ⟨[], [], []⟩ = .inr x ∧ x.acc = tyl
structure Gr2 (w : World) (q : Addr) (A : Option Addr) (w' : World) (A' : Option Addr) : Prop where
 os : w'.os = w.os
 tape : w'.tape = w.tape
 output : w'.output = w.output
 size : w.heap.size ≤ w'.heap.size
 block : ∀ k, k < w.heap.size → k ≠ q.block → some k ≠ blk A → w'.heap[k]? = w.heap[k]?
 at_ : blk A' = blk A ∨ ∃ b, blk A' = some b ∧ w.heap.size ≤ b
theorem Gr2.refl (w : World) (q : Addr) (A : Option Addr) : Gr2 w q A w A := ⟨rfl, rfl, rfl, n1_ _, fun _ _ _ _ => rfl, .inl rfl⟩
theorem Gr2.trans {a b c : World} {q : Addr} {A B C : Option Addr} (h : Gr2 a q A b B) (k : Gr2 b q B c C) : Gr2 a q A c C := by
 refine ⟨k.os.trans h.os, k.tape.trans h.tape, k.output.trans h.output, n2_ h.size k.size, fun i hi hq hn => ?_, ?_⟩
 ·rw [k.block i (n3_ hi h.size) hq (by
   rcases h.at_ with e | ⟨b0, e, hb⟩
   ·rw [e]; exact hn
   ·rw [e]; intro q; cases q; omega), h.block i hi hq hn]
 ·rcases k.at_ with e | ⟨b0, e, hb⟩
  ·rw [e]; exact h.at_
  ·exact .inr ⟨b0, e, n2_ h.size hb⟩
theorem Gr2.bel {w0 w w' : World} {q : Addr} {A A' : Option Addr} {ws m c : Nat} {xs : List Value} (h : Gr2 w q A w' A') (hx : Ext w0 w) (hq : w0.heap.size ≤ q.block) (hA : Own ws 3 1 w A m c xs) (hw : w0.heap.size ≤ ws) : Ext w0 w' :=
 hx.then ⟨h.os, h.tape, h.output, h.size, fun k hk => h.block k (by have := hx.size; omega) (by omega) (fun e => by
  have := own_blk hA k e.symm
  omega)⟩
theorem own_keep {B : Nat} {e : TypeId} {k : Nat} {w w' : World} {A : Option Addr} {m c : Nat} {xs : List Value} (h : Own B e k w A m c xs) (hk : ∀ g, blk A = some g → w'.heap[g]? = w.heap[g]?) : Own B e k w' A m c xs := by
 refine ⟨h.1, ?_⟩
 rcases h.2 with h1 | ⟨g, cap, cur, h1, h2, h3, h4⟩
 ·exact .inl h1
 ·refine .inr ⟨g, cap, cur, h1, h2, ?_, h4⟩
  simp only [Value.slice.injEq] at h1
  rw [hk g (by rw [h1.1]; rfl)]
  exact h3
theorem Gr2.own {w w' : World} {q : Addr} {A A' X : Option Addr} (h : Gr2 w q A w' A') {B k m c : Nat} {e : TypeId} {xs : List Value} (hx : Own B e k w X m c xs) (hq : blk X ≠ some q.block) (ha : Apart X A) : Own B e k w' X m c xs :=
 own_keep hx fun g hg => h.block g (own_blk hx g hg).2 (fun e => hq (by rw [hg, e])) (fun e => by
  rcases ha with rfl | ha
  ·simp [Eng.blk, Value.ownBlock] at hg
  ·exact ha (by rw [hg]; exact e))
structure KB (w0s ws : Nat) (q : Addr) (bm : Nat) : Prop where
 hq : w0s ≤ q.block ∧ q.block < ws
 eq : blk (some q) = some q.block
 m : w0s ≤ bm ∧ bm < ws
 qm : bm ≠ q.block
 le : w0s ≤ ws
structure KC (w0s ws : Nat) (w : World) (q : Addr) (bm : Nat) (f : List (ByteArray × Value)) (tys acc : List Int) (TA A : Option Addr) (tn tc na c : Nat) : Prop where
 box : Box w0s 279 3 w q [.slice TA tn tc, .map (some bm), .slice A na c]
 map : IMap w0s w bm f
 rT : Own ws 3 1 w TA tn tc (tys.map (.int .i64))
 rA : Own ws 3 1 w A na c (acc.map (.int .i64))
 aTA : Apart TA A ∧ Apart A TA
 hs : ws ≤ w.heap.size
section
variable {w0s ws : Nat} {w w' : World} {q : Addr} {bm : Nat} {f : List (ByteArray × Value)} {tys acc : List Int} {TA A : Option Addr} {tn tc na c : Nat}
theorem KC.len (h : KC w0s ws w q bm f tys acc TA A tn tc na c) : tys.length = tn ∧ acc.length = na := by
 have h1 := h.rT.len
 have h2 := h.rA.len
 rw [List.length_map] at h1 h2
 omega
theorem KC.ext (h : KC w0s ws w q bm f tys acc TA A tn tc na c) (hx : Ext w w') : KC w0s ws w' q bm f tys acc TA A tn tc na c :=
 ⟨h.box.bel hx, h.map.bel hx, h.rT.bel hx, h.rA.bel hx, h.aTA, n2_ h.hs hx.size⟩
theorem KC.low (hb : KB w0s ws q bm) (h : KC w0s ws w q bm f tys acc TA A tn tc na c) : (Apart A (some q) ∧ Apart (some q) A) ∧ blk A ≠ some bm ∧ blk TA ≠ some q.block := by
 refine ⟨own_low h.rA hb.hq.2 hb.eq, fun e => ?_, fun e => ?_⟩
 ·have := (own_blk h.rA _ e).1; have := hb.m; omega
 ·have := (own_blk h.rT _ e).1; have := hb.hq; omega
section
variable {E : Sym} {K : Value → World → Prop} {d : Option Tmp} {ty : TypeId} {pos : String} {aft : Array Edge} {g : Option (Nat × Bool)} {bq : Bool}
end
def misV (c a : Int) : Value := .iface 387 (.agg ⟨[.int .i64 c, .int .i64 a]⟩)
end
def atV (i : Int) : Value := .iface 313 (.agg ⟨[.int .i64 i]⟩)
def ltV (i : Int) : Value := .iface 314 (.agg ⟨[.int .i64 i]⟩)
def lsL (v : Int → Value) : List ByteArray → Nat → List (ByteArray × Value)
 | [], _ => []
 | s :: l, i => (s, v i) :: lsL v l (i + 1)
def fN (names : List ByteArray) : List (ByteArray × Value) := lsL atV attrs 0 ++ lsL ltV names 0
theorem sAr : Slc Tryz.prog 176 175 (.agg ⟨[.string ⟨#[]⟩, .int .i64 0, .nilFunc]⟩) 3 32 := ⟨Tryz.underlying176, by kernel_rfl⟩
def arT : List (ByteArray × Int × FuncId) := [(⟨⟨[99, 108, 105, 101, 110, 116]⟩⟩, 3, 172), (⟨⟨[117, 115, 101, 114]⟩⟩, 3, 173), (⟨⟨[108, 101, 118, 101, 108]⟩⟩, 2, 174), (⟨⟨[110, 111, 119]⟩⟩, 2, 175), (⟨⟨[97, 115, 107, 101, 100]⟩⟩, 4, 176), (⟨⟨[97, 103, 114, 101, 101, 100]⟩⟩, 4, 177)]
def aC (x : ByteArray × Int × FuncId) : List Value := [.string x.1, .int .i64 x.2.1, .func (.func x.2.2) #[] #[]]
theorem aC_len (x : ByteArray × Int × FuncId) : (aC x).length = 3 := rfl
section
variable {E : Sym} {w : World} {K : Value → World → Prop} {d : Option Tmp} {ty : TypeId} {pos : String} {aft : Array Edge} {g : Option (Nat × Bool)} {bq : Bool}
theorem run_bAr (s : ByteArray) (t : Int) (f : FuncId) (w : World) : (Instr.build 175 #[(0, .string s), (1, .int .i64 t), (2, .func (.func f) #[] #[])]).run Tryz.prog w = .ok (.agg #[.string s, .int .i64 t, .func (.func f) #[] #[]]) w := by kernel_rfl
theorem st_bAr (hE : EngB bq Tryz.prog E) {s : ByteArray} {t : Int} {f : FuncId} {x y z : Operand} (hk : K (.agg ⟨[.string s, .int .i64 t, .func (.func f) #[] #[]]⟩) w) : E.stop ⟨d, .build 175 ⟨[(0, x), (1, y), (2, z)]⟩, ty, pos, aft, g⟩ [.string s, .int .i64 t, .func (.func f) #[] #[]] w K := by
 refine hE.det (v := .agg ⟨[.string s, .int .i64 t, .func (.func f) #[] #[]]⟩) (fun w1 _ ρ hρ => ?_) hk
 simp only [opnds, b2_, b3_, b1_, and_true] at hρ
 have := run_bAr s t f w1
 simp [execOp, hρ, this]
end
theorem attributes_f (w : World) : FC Tryz.prog 107 [] w fun v w' => ∃ a, v = .slice (some a) 6 6 ∧ Own w.heap.size 175 3 w' (some a) 6 6 (arT.flatMap aC) := by
 refine FC.intro (cs := []) Tryz.func107 (by kernel_rfl) fun E R hE hr hR => ?_
 conv => cbv
 iterate 6 (refine st_bAr hE ?_; (conv => cbv))
 refine st_litsK hr sAr rfl (by omega) (vs := arT.map fun l => .agg ⟨aC l⟩) (m := 6) rfl (by omega) (by omega) rfl (by simp [arT, aC, Value.cells]) (cs := arT.flatMap aC) rfl fun A w1 hx ho => ?_
 have ho := ho _ (n1_ _)
 obtain ⟨g, hg, _⟩ := ho.addr (by omega)
 conv => cbv
 rw [hR]
 refine ⟨hx, ⟨g, 0, none⟩, by rw [hg]; rfl, by rw [← hg]; exact ho⟩
end Go.Proofs.YtkedmcebngachaaGreatDoor
namespace Go.Eng
set_option linter.unusedVariables false
def wreal (S : World → Prop) (P : Program) : Sym where
 ar := arR
 cmp := cmpR
 scmp := scmpR
 nat := Int.ofNat
 len := ByteArray.size
 stop o vals w K := ∃ v, (∀ w1, S w1 → ∀ ρ : Operand → Value, (opnds o.op).map ρ = vals → (execOp ρ o).run P w1 = .ok (.value v) w1) ∧ K v w
 loop _ _ _ _ := False
 draw _ _ _ _ _ := False
 cut _ _ _ _ _ := False
 cell _ _ _ _ := False
structure EngW (S : World → Prop) (P : Program) (E : Sym) : Prop where
 det : ∀ {o vals w v K}, (∀ w1, S w1 → ∀ ρ : Operand → Value, (opnds o.op).map ρ = vals → (execOp ρ o).run P w1 = .ok (.value v) w1) → K v w → E.stop o vals w K
section
variable {P : Program} {Pn : List PanicEntry → World → Prop} {n : Nat}
theorem ePh1_soundW {S : World → Prop} {w : World} {all : List Oper} (hs : Region.noSelect all.toArray = true) (hd : ∀ o ∈ all, ∀ t, o.dst = some t → t < n) {K : Exit → Fr → World → Prop} {w0 : World} (hS : S w0) (l2 : List (Nat × Bool)) (K1 : Fr → World → Prop) : ∀ (l : List Nat) (listed : Array Bool) (F : Fr) (a : Act), Kn n F a → planB1 all.toArray l l2 listed = true → ePh1 (wreal S P) all l F w K1 →
  (∀ F a listed, Kn n F a → planB2 all.toArray l2 listed = true → K1 F w → wpAnyH P .any all.toArray (QK Pn n K) S l2.length listed a w0) → wpAnyH P .any all.toArray (QK Pn n K) S (l.length + l2.length) listed a w0
 | [], listed, F, a, hk, hB, h, h2 => by simpa using h2 F a listed hk hB h
 | k :: l, listed, F, a, hk, hB, h, h2 => by
  simp only [planB1, Bool.and_eq_true] at hB
  obtain ⟨⟨hf, hr⟩, hB⟩ := hB
  simp only [ePh1] at h
  split at h
  ·exact h.elim
  ·rename_i o ho
   obtain ⟨v, F', hy, hk', h⟩ := step_yields (P := P) (n := n) (S := S) (E' := wreal S P) (fun _ _ => rfl) (fun _ _ _ ⟨v, h1, h2⟩ => ⟨v, fun w1 hw1 => h1 w1 hw1, h2⟩) (hd o (m1_ ho)) hk h
   have := wpAnyH_take (by simpa using ho) hs hf hr panic_put hy hS (ePh1_soundW hs hd hS l2 K1 l _ F' _ hk' hB h h2)
   simpa [Nat.add_right_comm] using this
section
variable {S : World → Prop} {E : Sym} {w : World} {K : Value → World → Prop} {d : Option Tmp} {ty : TypeId} {pos : String} {aft : Array Edge} {g : Option (Nat × Bool)}
theorem sw_fld (hE : EngW S P E) {t : TypeId} {i off : Nat} (ht : Fld P t i off) {a : Addr} {x : Operand} (hk : ∀ p, p = a.add off → K (.pointer (some p)) w) : E.stop ⟨d, .fieldAddr t x i, ty, pos, aft, g⟩ [.pointer (some a)] w K := by
 obtain ⟨dd, h1, h2⟩ := Option.bind_eq_some_iff.1 ht.e
 split at h2
 ·rename_i fs
  obtain ⟨f, h3, h4⟩ := Option.bind_eq_some_iff.1 h2
  obtain ⟨j, h5, h6⟩ := Option.map_eq_some_iff.1 h4
  simp only [Prod.mk.injEq] at h6
  obtain ⟨rfl, h7⟩ := h6
  have h7 : ¬ j.size = 0 := by intro e; rw [e] at h7; simp at h7
  refine hE.det (v := .pointer (some (a.add f.offset))) (fun w1 _ ρ hρ => ?_) (hk _ rfl)
  simp only [opnds, b2_, b3_, b1_, and_true] at hρ
  simp [execOp, hρ, Instr.fieldAt, underlying, h1, h3, Instr.sureAddr, fieldPlace, sizeOf, typeInfo, h5, h7]
 ·cases h2
theorem sw_load (hE : EngW S P E) {t : TypeId} (ht : Cel P t) {p : Addr} {v : Value} {x : Operand} (hc : ∀ w1, S w1 → w1.cell? p = some v) (hk : K v w) : E.stop ⟨d, .load t x, ty, pos, aft, g⟩ [.pointer (some p)] w K := by
 obtain ⟨d0, hu, h1, h2⟩ := ht.a
 refine hE.det (v := v) (fun w1 hs ρ hρ => ?_) hk
 simp only [opnds, b2_, b3_, b1_, and_true] at hρ
 have hc' : w1.cell? p = some v := hc w1 hs
 have : (isAgg t).run P w1 = .ok false w1 := by
  simp only [isAgg, underlying, Sem.run_bind, run_program, Result.andThen_ok, hu, Sem.run_pure]
 simp [execOp, hρ, Instr.loadAt, Instr.sureAddr, loadVar, this, hc']
theorem sw_idx (hE : EngW S P E) {t e : TypeId} {z : Value} {k b : Nat} (ht : Slc P t e z k b) {a : Addr} {A : Option Addr} {m c : Nat} {ik : IntKind} {i : Int} {x y : Operand}
  (hA : A = some a) (h0 : 0 ≤ i) (h1 : i < m) (hk : ∀ p, p = a.add (i.toNat * k) → K (.pointer (some p)) w) : E.stop ⟨d, .indexAddr t x y, ty, pos, aft, g⟩ [.slice A m c, .int ik i] w K := by
 obtain ⟨i0, hi, _, hs, _⟩ := ht.info
 refine hE.det (v := .pointer (some (a.add (i.toNat * k)))) (fun w1 _ ρ hρ => ?_) (hk _ rfl)
 simp only [opnds, b2_, b3_, b1_, and_true] at hρ
 subst hA
 simp [execOp, hρ.1, hρ.2, Instr.indexAt, asIntOf, underlying, ht.u, h0, h1, sizeOf, typeInfo, hi, hs]
end
end
set_option linter.unusedSimpArgs false
section
variable {P : Program} {Pn : List PanicEntry → World → Prop} {n : Nat}
theorem draw_s (S : World → Prop) (l1 : List Nat) (l2 : List (Nat × Bool)) {E : Sym} (hE : E = real P Pn n) {id : Nat} {ops : Array Oper} {F : Fr} {w : World} {K : Exit → Fr → World → Prop} (hm : P.follows .mixedOrders = true) (hB : planB ops l1 l2 = true) (hS : ∀ w0, Same w w0 → S w0)
  (h : ∀ E', EngW S P E' → ∀ w0, Same w w0 → ePh1 E' ops.toList l1 F w0 (fun F' w' => ePh2 E S ops.toList l2 F' w' (K .normal))) : E.draw id ops F w K := by
 subst hE
 intro hd a hk
 simp only [planB, Bool.and_eq_true, Nat.beq_eq] at hB
 obtain ⟨⟨hs, hl⟩, hB⟩ := hB
 have hs' : Region.noSelect ops.toList.toArray = true := by simpa using hs
 have h0 : S { w with drawn := w.drawn + 1 } := hS _ (Same.drew w)
 refine wp_region_held (S := S) hm ?_
 have := ePh1_soundW (Pn := Pn) (K := K) (n := n) (S := S) (w := { w with drawn := w.drawn + 1 }) hs' (okDst_ops hd) h0 l2 _ l1 (Array.replicate ops.size false) F a hk (by simpa using hB) (h (wreal S P) ⟨fun {_ _ _ v _} h hk => ⟨v, h, hk⟩⟩ _ (Same.drew w))
  (fun F a listed hk hB h => ePh2_sound hs' (okDst_ops hd) l2 listed F a _ h0 hk hB h)
 rw [hl] at this
 simpa using this
variable {S : World → Prop} {E : Sym} {w : World} {K : Value → World → Prop} {d : Option Tmp} {ty : TypeId} {pos : String} {aft : Array Edge} {g : Option (Nat × Bool)}
theorem sw_loadS (hE : EngW S P E) {t : TypeId} {k : Nat} {zs vs : List Value} (ht : Stc P t k zs) (hl : vs.length = k) {p : Addr} {x : Operand} (hc : ∀ w1, S w1 → ∀ j v, vs[j]? = some v → w1.cell? (p.add j) = some v) (hk : K (.agg ⟨vs⟩) w) : E.stop ⟨d, .load t x, ty, pos, aft, g⟩ [.pointer (some p)] w K := by
 refine hE.det (v := .agg ⟨vs⟩) (fun w1 hs ρ hρ => ?_) hk
 simp only [opnds, b2_, b3_, b1_, and_true] at hρ
 have := run_loadVar_agg ht hl (p := p) (w := w1) fun j v hv => hc w1 hs j v hv
 simp [execOp, hρ, Instr.loadAt, Instr.sureAddr, this]
theorem sw_mk (hE : EngW S P E) {t : TypeId} (ht : ∃ u, P.underlying t = some u ∧ ∀ ms, u ≠ .interface ms) {x : Operand} {v : Value} (hk : K (.iface t v) w) : E.stop ⟨d, .makeInterface t x, ty, pos, aft, g⟩ [v] w K := by
 obtain ⟨u, hu, hn⟩ := ht
 refine hE.det (v := .iface t v) (fun w1 _ ρ hρ => ?_) hk
 simp only [opnds, b2_, b3_, b1_, and_true] at hρ
 cases u <;> simp [execOp, hρ, Instr.makeInterface, run_underlying hu] <;> exact absurd rfl (hn _)
end
end Go.Eng
