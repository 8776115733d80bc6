/- Nodes and statements as they lie in memory (printed by gen_p1.py). -/
import Derived.Test.YtmbonalhbibppaaDoorEng14
import Derived.Test.YtmbonalhbibppaaDoorV1
namespace Go.Proofs.YtmbonalhbibppaaDoor
open Go.Eng
set_option linter.unusedVariables false
set_option linter.unusedSimpArgs false
abbrev zNd : List Value := [.int .i64 0, .int .i64 0, .string ⟨#[]⟩, .slice none 0 0, .slice none 0 0]
theorem tLNd : Stc Tryd.prog 133 5 zNd := ⟨by kernel_rfl, by kernel_rfl⟩
theorem sLNd : Slc Tryd.prog 22 133 (.agg ⟨zNd⟩) 5 80 := ⟨Tryd.underlying22, by kernel_rfl⟩
theorem cLNs : Cel Tryd.prog 22 := ⟨_, Tryd.underlying22, by simp, by simp⟩
theorem zLNs : (Tryd.prog.info? 22).map (·.size) = some 1 := by kernel_rfl
theorem fLNd0 : Fld Tryd.prog 133 0 0 := ⟨by kernel_rfl⟩
theorem fLNd1 : Fld Tryd.prog 133 1 1 := ⟨by kernel_rfl⟩
theorem fLNd2 : Fld Tryd.prog 133 2 2 := ⟨by kernel_rfl⟩
theorem fLNd3 : Fld Tryd.prog 133 3 3 := ⟨by kernel_rfl⟩
theorem fLNd4 : Fld Tryd.prog 133 4 4 := ⟨by kernel_rfl⟩
theorem tINd : Stc Tryd.prog 137 5 zNd := ⟨by kernel_rfl, by kernel_rfl⟩
theorem sINd : Slc Tryd.prog 28 137 (.agg ⟨zNd⟩) 5 80 := ⟨Tryd.underlying28, by kernel_rfl⟩
theorem cINs : Cel Tryd.prog 28 := ⟨_, Tryd.underlying28, by simp, by simp⟩
theorem zINs : (Tryd.prog.info? 28).map (·.size) = some 1 := by kernel_rfl
theorem fINd0 : Fld Tryd.prog 137 0 0 := ⟨by kernel_rfl⟩
theorem fINd1 : Fld Tryd.prog 137 1 1 := ⟨by kernel_rfl⟩
theorem fINd2 : Fld Tryd.prog 137 2 2 := ⟨by kernel_rfl⟩
theorem fINd3 : Fld Tryd.prog 137 3 3 := ⟨by kernel_rfl⟩
theorem fINd4 : Fld Tryd.prog 137 4 4 := ⟨by kernel_rfl⟩
structure PN where
  o : Int
  z : Int
  tx : ByteArray
  xs : List ByteArray
  ks : List Int
structure VN where
  p : PN
  A0 : Option Addr
  m0 : Nat
  c0 : Nat
  A1 : Option Addr
  m1 : Nat
  c1 : Nat
def cN (v : VN) : List Value := [.int .i64 v.p.o, .int .i64 v.p.z, .string v.p.tx, .slice v.A0 v.m0 v.c0, .slice v.A1 v.m1 v.c1]
theorem cN_len (v : VN) : (cN v).length = 5 := rfl
structure OKN (w : World) (v : VN) : Prop where
  s_tx : v.p.tx.size ≤ 9223372036854775807
  r_xs : Strs w v.A0 v.m0 v.c0 v.p.xs
  r_ks : Ints w v.A1 v.m1 v.c1 v.p.ks
theorem OKN.ext {w w' : World} {v : VN} (h : OKN w v) (hx : Ext w w') : OKN w' v := ⟨h.s_tx, h.r_xs.ext hx, h.r_ks.ext hx⟩
/-- A slice of them that is read. -/
def RNs (w : World) (A : Option Addr) (n : Nat) (pv : List PN) : Prop := ∃ vs : List VN, vs.map (·.p) = pv ∧ vs.length = n ∧ Cells w A (vs.flatMap cN) ∧ ∀ v ∈ vs, OKN w v
theorem RNs.ext {w w' : World} {A : Option Addr} {n : Nat} {pv : List PN} (h : RNs w A n pv) (hx : Ext w w') : RNs w' A n pv := by
  obtain ⟨vs, h1, h2, h3, h4⟩ := h
  exact ⟨vs, h1, h2, h3.ext hx, fun v hv => (h4 v hv).ext hx⟩
theorem RNs.len {w : World} {A : Option Addr} {n : Nat} {pv : List PN} (h : RNs w A n pv) : pv.length = n := by
  obtain ⟨vs, h1, h2, _⟩ := h
  rw [← h1, ← h2]; simp
theorem RNs.get {w : World} {A : Option Addr} {n : Nat} {pv : List PN} (h : RNs w A n pv) {i : Nat} (hi : i < n) : ∃ (a : Addr) (v : VN), A = some a ∧ pv[i]? = some v.p ∧ (∀ j u, (cN v)[j]? = some u → w.cell? ((a.add (i * 5)).add j) = some u) ∧ OKN w v := by
  obtain ⟨vs, h1, h2, h3, h4⟩ := h
  obtain ⟨v, hv⟩ : ∃ v, vs[i]? = some v := ⟨_, List.getElem?_eq_getElem (by omega)⟩
  obtain ⟨a, ha, hc⟩ := fl_at cN_len h3 (by omega) hv
  exact ⟨a, v, ha, by rw [← h1]; simp [hv], hc, h4 _ (List.mem_of_getElem? hv)⟩
def wtN (p : PN) : Nat := p.tx.size + bulk p.xs + p.ks.length
def wtNs : List PN → Nat
  | [] => 0
  | p :: l => 1 + wtN p + wtNs l
theorem wtNs_app : ∀ (l r : List PN), wtNs (l ++ r) = wtNs l + wtNs r
  | [], r => by simp [wtNs]
  | p :: l, r => by rw [List.cons_append, wtNs, wtNs, wtNs_app l r]; omega
theorem wtNs_mem : ∀ {l : List PN} {p : PN}, p ∈ l → 1 + wtN p ≤ wtNs l
  | q :: l, p, h => by
    rw [wtNs]
    rcases List.mem_cons.1 h with rfl | h
    · omega
    · have := wtNs_mem h; omega
theorem wtNs_len : ∀ l : List PN, l.length ≤ wtNs l
  | [] => by simp
  | p :: l => by have := wtNs_len l; rw [wtNs, List.length_cons]; omega
abbrev zSd : List Value := [.int .i64 0, .string ⟨#[]⟩, .int .i64 0, .int .i64 0]
theorem tLSd : Stc Tryd.prog 136 4 zSd := ⟨by kernel_rfl, by kernel_rfl⟩
theorem sLSd : Slc Tryd.prog 23 136 (.agg ⟨zSd⟩) 4 40 := ⟨Tryd.underlying23, by kernel_rfl⟩
theorem cLSs : Cel Tryd.prog 23 := ⟨_, Tryd.underlying23, by simp, by simp⟩
theorem zLSs : (Tryd.prog.info? 23).map (·.size) = some 1 := by kernel_rfl
theorem fLSd0 : Fld Tryd.prog 136 0 0 := ⟨by kernel_rfl⟩
theorem fLSd1 : Fld Tryd.prog 136 1 1 := ⟨by kernel_rfl⟩
theorem fLSd2 : Fld Tryd.prog 136 2 2 := ⟨by kernel_rfl⟩
theorem fLSd3 : Fld Tryd.prog 136 3 3 := ⟨by kernel_rfl⟩
theorem tISd : Stc Tryd.prog 139 4 zSd := ⟨by kernel_rfl, by kernel_rfl⟩
theorem sISd : Slc Tryd.prog 29 139 (.agg ⟨zSd⟩) 4 40 := ⟨Tryd.underlying29, by kernel_rfl⟩
theorem cISs : Cel Tryd.prog 29 := ⟨_, Tryd.underlying29, by simp, by simp⟩
theorem zISs : (Tryd.prog.info? 29).map (·.size) = some 1 := by kernel_rfl
theorem fISd0 : Fld Tryd.prog 139 0 0 := ⟨by kernel_rfl⟩
theorem fISd1 : Fld Tryd.prog 139 1 1 := ⟨by kernel_rfl⟩
theorem fISd2 : Fld Tryd.prog 139 2 2 := ⟨by kernel_rfl⟩
theorem fISd3 : Fld Tryd.prog 139 3 3 := ⟨by kernel_rfl⟩
structure PS where
  k : Int
  nm : ByteArray
  c : Int
  g : Int
abbrev VS := PS
def cS (v : VS) : List Value := [.int .i64 v.k, .string v.nm, .int .i64 v.c, .int .i64 v.g]
theorem cS_len (v : VS) : (cS v).length = 4 := rfl
structure OKS (w : World) (v : VS) : Prop where
  s_nm : v.nm.size ≤ 9223372036854775807
theorem OKS.ext {w w' : World} {v : VS} (h : OKS w v) (hx : Ext w w') : OKS w' v := ⟨h.s_nm⟩
/-- A slice of them that is read. -/
def RSs (w : World) (A : Option Addr) (n : Nat) (pv : List PS) : Prop := ∃ vs : List VS, vs = pv ∧ vs.length = n ∧ Cells w A (vs.flatMap cS) ∧ ∀ v ∈ vs, OKS w v
theorem RSs.ext {w w' : World} {A : Option Addr} {n : Nat} {pv : List PS} (h : RSs w A n pv) (hx : Ext w w') : RSs w' A n pv := by
  obtain ⟨vs, h1, h2, h3, h4⟩ := h
  exact ⟨vs, h1, h2, h3.ext hx, fun v hv => (h4 v hv).ext hx⟩
theorem RSs.len {w : World} {A : Option Addr} {n : Nat} {pv : List PS} (h : RSs w A n pv) : pv.length = n := by
  obtain ⟨vs, h1, h2, _⟩ := h
  rw [← h1, ← h2]
theorem RSs.get {w : World} {A : Option Addr} {n : Nat} {pv : List PS} (h : RSs w A n pv) {i : Nat} (hi : i < n) : ∃ (a : Addr) (v : VS), A = some a ∧ pv[i]? = some v ∧ (∀ j u, (cS v)[j]? = some u → w.cell? ((a.add (i * 4)).add j) = some u) ∧ OKS w v := by
  obtain ⟨vs, h1, h2, h3, h4⟩ := h
  obtain ⟨v, hv⟩ : ∃ v, vs[i]? = some v := ⟨_, List.getElem?_eq_getElem (by omega)⟩
  obtain ⟨a, ha, hc⟩ := fl_at cS_len h3 (by omega) hv
  exact ⟨a, v, ha, by rw [← h1]; exact hv, hc, h4 _ (List.mem_of_getElem? hv)⟩
def wtS (p : PS) : Nat := p.nm.size
def wtSs : List PS → Nat
  | [] => 0
  | p :: l => 1 + wtS p + wtSs l
theorem wtSs_app : ∀ (l r : List PS), wtSs (l ++ r) = wtSs l + wtSs r
  | [], r => by simp [wtSs]
  | p :: l, r => by rw [List.cons_append, wtSs, wtSs, wtSs_app l r]; omega
theorem wtSs_mem : ∀ {l : List PS} {p : PS}, p ∈ l → 1 + wtS p ≤ wtSs l
  | q :: l, p, h => by
    rw [wtSs]
    rcases List.mem_cons.1 h with rfl | h
    · omega
    · have := wtSs_mem h; omega
theorem wtSs_len : ∀ l : List PS, l.length ≤ wtSs l
  | [] => by simp
  | p :: l => by have := wtSs_len l; rw [wtSs, List.length_cons]; omega
theorem cLN_pol : True := trivial
abbrev polV (A : Option Addr) (n c : Nat) (A2 : Option Addr) (n2 c2 : Nat) : Value := .agg ⟨[.slice A n c, .slice A2 n2 c2]⟩
structure PolR (w : World) (A : Option Addr) (n : Nat) (A2 : Option Addr) (n2 : Nat) (nv : List PN) (sv : List PS) : Prop where
  nodes : RNs w A n nv
  stmts : RSs w A2 n2 sv
theorem PolR.ext {w w' : World} {A A2 : Option Addr} {n n2 : Nat} {nv : List PN} {sv : List PS} (h : PolR w A n A2 n2 nv sv) (hx : Ext w w') : PolR w' A n A2 n2 nv sv := ⟨h.1.ext hx, h.2.ext hx⟩
end Go.Proofs.YtmbonalhbibppaaDoor
