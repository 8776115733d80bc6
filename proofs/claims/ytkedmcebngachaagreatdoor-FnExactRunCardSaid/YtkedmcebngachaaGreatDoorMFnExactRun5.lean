/- Texts that the law FnExactRun leans on, part 5 of 11: contracts of the functions that it reaches and plain lemmas. Each holds under the conditions that it states. -/
import Derived.Test.YtkedmcebngachaaGreatDoorMFnExactRun4
set_option maxHeartbeats 16000000
set_option linter.unusedVariables false
set_option linter.unusedSimpArgs false
namespace Go.Proofs.YtkedmcebngachaaGreatDoor
open Go.Eng
set_option linter.unusedVariables false
set_option linter.unusedSimpArgs false
theorem sw_nil {P : Program} {S : World → Prop} {E : Sym} {w : World} {K : Value → World → Prop} {d : Option Tmp} {ty : TypeId} {pos : String} {aft : Array Edge} {g : Option (Nat × Bool)} (hE : EngW S P E) {a : Addr} {x : Operand} (hk : K (.pointer (some a)) w) : E.stop ⟨d, .nilCheck x, ty, pos, aft, g⟩ [.pointer (some a)] w K := by
 refine hE.det (v := .pointer (some a)) (fun w1 _ ρ hρ => ?_) hk
 simp only [opnds, b2_, b3_, b1_, and_true] at hρ
 simp [execOp, hρ]
def DN (D : Nat → Prop) (w w' : World) (A' : Option Addr) (b : Nat) : Prop := D b ∨ (w.heap.size ≤ b ∧ b < w'.heap.size ∧ blk A' ≠ some b)
def CkR (w0s ws : Nat) (q : Addr) (bm : Nat) (names : List ByteArray) (tys : List Int) (TA : Option Addr) (tn tc : Nat) (w : World) (A : Option Addr) (D : Nat → Prop) (acc' : List Int) (code ty : Int) (t' : Tr) (r : Value) (w' : World) : Prop :=
 ∃ A' na' c' v' e, r = .tuple ⟨[v', .int .i64 ty, e]⟩ ∧ Gr2 w q A w' A' ∧ KC w0s ws w' q bm (fN names) tys acc' TA A' tn tc na' c' ∧ (code = 0 → e = .nilIface ∧ TreeV (DN D w w' A') w' t' v') ∧ (code ≠ 0 → e = misV code na' ∧ v' = .nilIface)
section
variable {w0s ws : Nat} {w : World} {q : Addr} {bm : Nat} {names : List ByteArray} {tys acc : List Int} {TA A : Option Addr} {tn tc na c : Nat}
end
mutual
def goodT (L : Nat) : Tr → Prop
 | .att n => 0 ≤ n ∧ n < 6
 | .lt n => 0 ≤ n ∧ n < L
 | .op o kids _ => (kids.length : Int) = kidsF o ∧ 1 ≤ kids.length ∧ goodTs L kids
 | _ => True
def goodTs (L : Nat) : List Tr → Prop
 | [] => True
 | t :: l => goodT L t ∧ goodTs L l
end
def DX (D : Nat → Prop) (w0 w : World) (ex : List (Option Nat)) (b : Nat) : Prop := D b ∨ (w0.heap.size ≤ b ∧ b < w.heap.size ∧ some b ∉ ex)
theorem resTs_len (names : List ByteArray) : ∀ l : List Tr, (resTs names l).length = l.length
 | [] => rfl
 | t :: l => by rw [resTs, a3_, resTs_len names l]; rfl
structure OI (w0s ws : Nat) (w : World) (q : Addr) (bm : Nat) (names : List ByteArray) (tys acc0 : List Int) (TA A : Option Addr) (tn tc : Nat) (D : Nat → Prop) (o at_ : Int) (kids : List Tr) (A0 : Option Addr) (m c0 : Nat) (q13 q14 : Addr)
  (j : Nat) (w' : World) (At : Option Addr) (na c : Nat) (acc : List Int) (Ad : Option Addr) (cd : Nat) (ks : List Int) (Ak : Option Addr) (ck : Nat) (vs : List Value) : Prop where
 gr : Gr2 w q A w' At
 kc : KC w0s ws w' q bm (fN names) tys acc TA At tn tc na c
 b13 : Box w.heap.size 283 3 w' q13 [.int .i64 o, .slice A0 m c0, .int .i64 at_]
 b14 : Box w.heap.size 283 3 w' q14 [.int .i64 o, .slice Ak j ck, .int .i64 at_]
 rD : Own w.heap.size 3 1 w' Ad j cd (ks.map (.int .i64))
 rK : Own w.heap.size 231 1 w' Ak j ck vs
 q134 : q13.block ≠ q14.block
 aDK : Apart Ad Ak ∧ Apart Ak Ad
 aD3 : Apart Ad (some q13) ∧ Apart (some q13) Ad
 aD4 : Apart Ad (some q14) ∧ Apart (some q14) Ad
 aK3 : Apart Ak (some q13) ∧ Apart (some q13) Ak
 aK4 : Apart Ak (some q14) ∧ Apart (some q14) Ak
 aA3 : Apart At (some q13) ∧ Apart (some q13) At
 aA4 : Apart At (some q14) ∧ Apart (some q14) At
 aAD : Apart At Ad ∧ Apart Ad At
 aAK : Apart At Ak ∧ Apart Ak At
 trs : TreesV (DX D w w' [blk At, some q13.block, some q14.block, blk Ak, blk Ad]) w' ((resTs names kids).take j) vs
 eqn : chks names tys kids acc0 = ((chks names tys (kids.drop j) acc).1, (chks names tys (kids.drop j) acc).2.1, ks ++ (chks names tys (kids.drop j) acc).2.2)
 cnt : na + (pos (kids.drop j)).length + 1 ≤ 4000
section
variable {w0s ws : Nat} {w : World} {q : Addr} {bm : Nat} {names : List ByteArray} {tys acc0 : List Int} {TA A : Option Addr} {tn tc : Nat} {D : Nat → Prop} {o at_ : Int} {kids : List Tr} {A0 : Option Addr} {m c0 : Nat} {q13 q14 : Addr} {j : Nat} {w' w2 : World} {At : Option Addr} {na c : Nat} {acc : List Int} {Ad : Option Addr} {cd : Nat} {ks : List Int} {Ak : Option Addr} {ck : Nat} {vs : List Value}
end
def DT (w0s ws : Nat) (w : World) (A TA : Option Addr) (b : Nat) : Prop := b < w0s ∨ (ws ≤ b ∧ b < w.heap.size ∧ blk A ≠ some b ∧ blk TA ≠ some b)
structure Stp (w0 : World) (ws : Nat) (w : World) (A TA : Option Addr) (w' : World) (A' TA' : Option Addr) : Prop where
 ext : Ext w0 w'
 keep : ∀ b, DT w0.heap.size ws w A TA b → w'.heap[b]? = w.heap[b]? ∧ DT w0.heap.size ws w' A' TA' b
 size : w.heap.size ≤ w'.heap.size
theorem Stp.trans {w0 a b c : World} {ws : Nat} {A TA B TB C TC : Option Addr} (h : Stp w0 ws a A TA b B TB) (k : Stp w0 ws b B TB c C TC) : Stp w0 ws a A TA c C TC :=
 ⟨k.ext, fun x hx => by
  obtain ⟨h1, h2⟩ := h.keep x hx
  obtain ⟨k1, k2⟩ := k.keep x h2
  exact ⟨k1.trans h1, k2⟩, n2_ h.size k.size⟩
section
variable {w0 w w' : World} {ws : Nat} {q : Addr} {bm : Nat} {f : List (ByteArray × Value)} {tys acc : List Int} {TA A A' : Option Addr} {tn tc na c : Nat}
end
def ckP (s : PS) (x : CK) (p : PT) : (Int × Int) ⊕ CK := match ckC s x p.c with
 | .inl f => .inl f
 | .inr y => ckG y p.g
def CKs (w0s ws : Nat) (w : World) (q : Addr) (bm : Nat) (x : CK) (A TA : Option Addr) : Prop := ∃ tn tc na c, KC w0s ws w q bm (fN x.names) x.tys x.acc TA A tn tc na c
def StR (w0 : World) (ws : Nat) (w : World) (q : Addr) (bm : Nat) (x : CK) (A TA : Option Addr) (e : SV) (r : Value) (w' : World) : Prop :=
 ∃ cv gv er, r = .tuple ⟨[.agg ⟨[.int .i64 e.s.k, .string e.s.nm, cv, gv, .int .i64 e.i]⟩, er]⟩ ∧ cv.oneCell' = true ∧ gv.oneCell' = true ∧ Ext w0 w' ∧ match ckP e.s x e.p with
  | .inl f => er = misV f.1 f.2 ∧ f.1 ≠ 0
  | .inr y => er = .nilIface ∧ ∃ A' TA', Stp w0 ws w A TA w' A' TA' ∧ CKs w0.heap.size ws w' q bm y A' TA' ∧ XK y ∧ optV (DT w0.heap.size w.heap.size w' A' TA') w' (e.p.c.map (resT x.names)) cv ∧ optV (DT w0.heap.size w.heap.size w' A' TA') w' (e.p.g.map (resT y.names)) gv
def poO : Option Tr → Nat
 | some t => (po t).length
 | none => 0
def leafT (l : Nat) (p : PN) : Prop := if p.o = 6 then p.tx = ⟨#[]⟩ ∧ p.xs = [] ∧ 0 ≤ p.z ∧ p.z < 6 else if p.o = 7 then p.tx = ⟨#[]⟩ ∧ p.xs = [] ∧ 0 ≤ p.z ∧ p.z < l else cOK p
def topK : Tr → Prop
 | .con k _ _ _ _ => k ≠ 0
 | .lt n => 0 ≤ n
 | _ => True
def GoodS (L : Nat) : List (PS × PT) → Prop
 | [] => True
 | (s, p) :: l => stmtP l.isEmpty s ∧ ((p.c.isSome = true ↔ 0 ≤ s.c) ∧ (p.g.isSome = true ↔ 0 ≤ s.g)) ∧ (∀ t ∈ trs p, goodT L t ∧ topK t) ∧ GoodS (if s.k = 1 then L + 1 else L) l
def cand (a : ByteArray) (first : Bool) (s : ByteArray) : Prop := first = true ∨ blt a s
def NextOf (xs : List ByteArray) (a : ByteArray) (first : Bool) (b : ByteArray) (f : Bool) : Prop :=
 (f = true → b ∈ xs ∧ cand a first b ∧ ∀ s ∈ xs, cand a first s → ¬ blt s b) ∧ (f = false → ∀ s ∈ xs, ¬ cand a first s)
theorem take_succ_get {xs : List ByteArray} {i : Nat} {s : ByteArray} (h : xs[i]? = some s) : xs.take (i + 1) = xs.take i ++ [s] := by
 rw [g4_, h]; rfl
theorem l1next_f {w : World} {A : Option Addr} {n c : Nat} {xs : List ByteArray} (h : Strs w A n c xs) (a : ByteArray) (first : Bool) :
  FC Tryz.prog 280 [.slice A n c, .string a, .bool first] w fun v _ => ∃ b f, v = .tuple ⟨[.string b, .bool f]⟩ ∧ NextOf xs a first b f := by
 refine FC.intro (cs := []) Tryz.func280 (by kernel_rfl) fun E R hE hr hR => ?_
 have hl := h.len
 have hle := h.le
 conv => cbv
 refine st_len hE tStrs fun x hx => ?_
 conv => cbv
 refine loop_rule hr (fun (s : Nat × ByteArray × Bool) w' => s.1 ≤ n ∧ Ext w w' ∧ NextOf (xs.take s.1) a first s.2.1 s.2.2) (fun s => [(1, .string a), (2, .bool first), (12, .slice A n c), (13, .int .i64 x), (14, .int .i64 (E.nat s.1)), (8, .string s.2.1), (9, .bool s.2.2)]) (fun s => n - s.1) (0, ⟨#[]⟩, false)
  (by simp [Fits, lk, hE.nat]) ⟨by simp, Ext.refl w, by simp [NextOf]⟩ ?_
 rintro I hI ⟨i, b, f⟩ w' ⟨hi, hx', hn⟩
 simp only at hi hn
 conv => cbv
 refine br (fun h1 => ?_) (fun h1 => ?_)
 ·have h1 : i < n := by simpa [hE.cmp, cmpR, hE.nat, hx] using h1
  conv => cbv
  refine st_str hE tStrs (h.ext hx') (nk hE i) h1 fun p s gk hsm hp => ?_
  conv => cbv
  refine st_load hE cStr hp ?_
  have et := take_succ_get gk
  have skip : ¬ cand a first s → NextOf (xs.take i ++ [s]) a first b f := by
   intro hc
   refine ⟨fun e => ?_, fun e => ?_⟩
   ·obtain ⟨k1, k2, k3⟩ := hn.1 e
    refine ⟨by simp [k1], k2, fun t ht hct => ?_⟩
    rcases List.mem_append.1 ht with ht | ht
    ·exact k3 t ht hct
    ·rw [List.mem_singleton.1 ht] at hct; exact absurd hct hc
   ·intro t ht hct
    rcases List.mem_append.1 ht with ht | ht
    ·exact hn.2 e t ht hct
    ·rw [List.mem_singleton.1 ht] at hct; exact hc hct
  have look : cand a first s → (f = true → ¬ blt s b) → f = true → NextOf (xs.take i ++ [s]) a first b f := by
   intro hc hb e
   obtain ⟨k1, k2, k3⟩ := hn.1 e
   refine ⟨fun _ => ⟨by simp [k1], k2, fun t ht hct => ?_⟩, fun e' => by rw [e] at e'; cases e'⟩
   rcases List.mem_append.1 ht with ht | ht
   ·exact k3 t ht hct
   ·rw [List.mem_singleton.1 ht]; exact hb e
  have take : cand a first s → (f = true → blt s b) → NextOf (xs.take i ++ [s]) a first s true := by
   intro hc hb
   refine ⟨fun _ => ⟨by simp, hc, fun t ht hct hlt => ?_⟩, fun e' => by cases e'⟩
   rcases List.mem_append.1 ht with ht | ht
   ·cases f with
    | true =>
     obtain ⟨k1, k2, k3⟩ := hn.1 rfl
     exact k3 t ht hct (blt_trans hlt (hb rfl))
    | false => exact hn.2 rfl t ht hct
   ·rw [List.mem_singleton.1 ht] at hlt; exact blt_irrefl _ hlt
  have ei : E.ar .add .i64 (E.nat i) 1 = E.nat (i + 1) := inc hE (by omega)
  have go : ∀ b' f', NextOf (xs.take i ++ [s]) a first b' f' → I (i + 1, b', f') w' := fun b' f' hn' => hI _ _ ⟨by simp only; omega, hx', by simp only; rw [et]; exact hn'⟩
  clear hI
  have hlt : n - (i + 1) < n - i := by omega
  cases first with
  | false =>
   conv => cbv
   refine br (fun g1 => ?_) (fun g1 => ?_)
   ·have g1 : ¬ blt a s := by simp only [hE.scmp] at g1; exact (scmp_leq _ _).1 g1
    conv => cbv
    exact ⟨(i + 1, b, f), by simp [Fits, lk, ei], go _ _ (skip fun hc => hc.elim (by simp) g1), hlt⟩
   ·have g1 : blt a s := by simp only [hE.scmp] at g1; rw [scmp_leq] at g1; exact Classical.not_not.1 g1
    have hc : cand a false s := .inr g1
    cases f with
    | false =>
     conv => cbv
     exact ⟨(i + 1, s, true), by simp [Fits, lk, ei], go _ _ (take hc (by simp)), hlt⟩
    | true =>
     conv => cbv
     refine br (fun g2 => ?_) (fun g2 => ?_)
     ·have g2 : blt s b := by simp only [hE.scmp] at g2; exact (scmp_lss _ _).1 g2
      conv => cbv
      exact ⟨(i + 1, s, true), by simp [Fits, lk, ei], go _ _ (take hc fun _ => g2), hlt⟩
     ·have g2 : ¬ blt s b := by simp only [hE.scmp] at g2; rw [scmp_lss] at g2; exact g2
      conv => cbv
      exact ⟨(i + 1, b, true), by simp [Fits, lk, ei], go _ _ (look hc (fun _ => g2) rfl), hlt⟩
  | true =>
   have hc : cand a true s := .inl rfl
   cases f with
   | false =>
    conv => cbv
    exact ⟨(i + 1, s, true), by simp [Fits, lk, ei], go _ _ (take hc (by simp)), hlt⟩
   | true =>
    conv => cbv
    refine br (fun g2 => ?_) (fun g2 => ?_)
    ·have g2 : blt s b := by simp only [hE.scmp] at g2; exact (scmp_lss _ _).1 g2
     conv => cbv
     exact ⟨(i + 1, s, true), by simp [Fits, lk, ei], go _ _ (take hc fun _ => g2), hlt⟩
    ·have g2 : ¬ blt s b := by simp only [hE.scmp] at g2; rw [scmp_lss] at g2; exact g2
     conv => cbv
     exact ⟨(i + 1, b, true), by simp [Fits, lk, ei], go _ _ (look hc (fun _ => g2) rfl), hlt⟩
 ·have h1 : i = n := by simp [hE.cmp, cmpR, hE.nat, hx] at h1; omega
  subst h1
  rw [g3_ (by omega)] at hn
  conv => cbv
  rw [hR]; exact ⟨hx', b, f, rfl, hn⟩
def SortOf (xs r : List ByteArray) : Prop := r.Pairwise blt ∧ ∀ s, s ∈ r ↔ s ∈ xs
theorem SortOf.same {xs r r' : List ByteArray} (h : SortOf xs r) (h' : SortOf xs r') : r = r' := rise_ext h.1 h'.1 fun s => by rw [h.2, h'.2]
def left (xs r : List ByteArray) : Nat := (xs.filter fun t => !(r.contains t)).length
theorem left_lt {xs r : List ByteArray} {s : ByteArray} (hs : s ∈ xs) (hr : s ∉ r) : left xs (r ++ [s]) < left xs r := by
 have e : xs.filter (fun t => !((r ++ [s]).contains t)) = (xs.filter fun t => !(r.contains t)).filter fun t => !(t == s) := by
  rw [List.filter_filter]
  congr 1
  funext t
  by_cases e : t = s <;> simp [e]
 unfold left
 rw [e]
 refine List.length_filter_lt_length_iff_exists.2 ⟨s, ?_, by simp⟩
 simp [hs, hr]
theorem l1sorted_f {w : World} {A : Option Addr} {n c : Nat} {xs : List ByteArray} (h : Strs w A n c xs) (hn : n ≤ 1048576) :
  FC Tryz.prog 245 [.slice A n c] w fun v w' => ∃ r, SortOf xs r ∧ Copied w r v w' := by
 refine FC.intro (cs := []) Tryz.func245 (by kernel_rfl) fun E R hE hr hR => ?_
 have hl := h.len
 conv => cbv
 refine st_f hr (l1next_f h ⟨#[]⟩ true) fun v w1 hx ⟨b, f, ev, hb⟩ => ?_
 subst ev
 conv => cbv
 refine loop_rule hr (fun (s : (List ByteArray × Nat × Nat × Option Addr) × ByteArray × Bool) w' => Ext w w' ∧ Own w.heap.size 9 1 w' s.1.2.2.2 s.1.2.1 s.1.2.2.1 (s.1.1.map .string) ∧ s.1.1.Pairwise blt ∧ (∀ t ∈ s.1.1, t ∈ xs) ∧ s.1.1.length + left xs s.1.1 ≤ n ∧
   (s.2.2 = true → s.2.1 ∈ xs ∧ (∀ t ∈ s.1.1, blt t s.2.1) ∧ ∀ t ∈ xs, t ∈ s.1.1 ∨ ¬ blt t s.2.1) ∧ (s.2.2 = false → ∀ t ∈ xs, t ∈ s.1.1))
  (fun s => [(0, .slice A n c), (3, .slice s.1.2.2.2 s.1.2.1 s.1.2.2.1), (4, .string s.2.1), (5, .bool s.2.2)]) (fun s => left xs s.1.1) (([], 0, 0, none), b, f)
  (by simp [Fits, lk]) ?_ ?_
 ·refine ⟨hx, Own.nil, by simp, by simp, by simp only [a4_, Nat.zero_add, left]; exact hl ▸ List.length_filter_le _ _, fun e => ?_, fun e t ht => absurd (Or.inl rfl) (hb.2 e t ht)⟩
  obtain ⟨k1, k2, k3⟩ := hb.1 e
  exact ⟨k1, by simp, fun t ht => .inr (k3 t ht (.inl rfl))⟩
 clear hx hb
 rintro I hI ⟨⟨r, m, k, B⟩, b, f⟩ w' ⟨hx, ho, hp, hm, hlen, h1, h2⟩
 simp only at ho hp hm hlen h1 h2
 cases f with
 | false =>
  conv => cbv
  rw [hR]; exact ⟨hx, r, ⟨hp, fun s => ⟨hm s, h2 rfl s⟩⟩, B, m, k, rfl, ho.strs fun s hs => h.small s (hm s hs), ho⟩
 | true =>
  obtain ⟨k1, k2, k3⟩ := h1 rfl
  have hnr : b ∉ r := fun hb => blt_irrefl _ (k2 b hb)
  have hlt := left_lt k1 hnr
  have hml := ho.len
  rw [List.length_map, Nat.mul_one] at hml
  conv => cbv
  refine st_one hr tStrs rfl rfl fun A1 w1 hx1 hc1 => ?_
  replace ho := ho.bel hx1
  replace hx := hx.trans hx1
  conv => cbv
  refine st_app hr tStrs rfl ho hc1 rfl hx.size (by omega) (by omega) fun A' c' m' w2 em hbel ho2 => ?_
  replace hx := hx.then hbel
  conv => cbv
  refine st_f hr (l1next_f (h.ext hx) b false) fun v w3 hx3 ⟨b', f', ev, hb'⟩ => ?_
  subst ev
  replace ho2 := ho2.bel hx3
  conv => cbv
  refine ⟨((r ++ [b], m', c', A'), b', f'), by simp [Fits, lk], hI _ _ ⟨hx.trans hx3, ?_, ?_, ?_, ?_, ?_, ?_⟩, hlt⟩
  ·simpa using ho2
  ·exact List.pairwise_append.2 ⟨hp, by simp, by simpa using k2⟩
  ·intro t ht
   rcases List.mem_append.1 ht with ht | ht
   ·exact hm t ht
   ·rw [List.mem_singleton.1 ht]; exact k1
  ·simp only [List.length_append, a3_, a4_]; omega
  ·intro e
   obtain ⟨q1, q2, q3⟩ := hb'.1 e
   have q2 : blt b b' := q2.elim (fun h => by cases h) id
   refine ⟨q1, fun t ht => ?_, fun t ht => ?_⟩
   ·rcases List.mem_append.1 ht with ht | ht
    ·exact blt_trans (k2 t ht) q2
    ·rw [List.mem_singleton.1 ht]; exact q2
   ·rcases k3 t ht with k | k
    ·exact .inl (by simp [k])
    ·by_cases hbt : blt b t
     ·exact .inr (q3 t ht (.inr hbt))
     ·by_cases e2 : t = b
      ·exact .inl (by simp [e2])
      ·exact absurd (blt_tri k e2) hbt
  ·intro e t ht
   have q := hb'.2 e t ht
   rcases k3 t ht with k | k
   ·simp [k]
   ·by_cases e2 : t = b
    ·simp [e2]
    ·exact absurd (.inr (blt_tri k e2)) q
def UnionOf (xs ys r : List ByteArray) (z : Int) : Prop :=
 (¬ (isSet xs ∧ isSet ys) ∧ r = [] ∧ z = 4) ∨ (isSet xs ∧ isSet ys ∧ ∃ q, SortOf (xs ++ ys) q ∧ ((64 < q.length ∧ r = [] ∧ z = 3) ∨ (q.length ≤ 64 ∧ r = q ∧ z = 0)))
theorem UnionOf.same {xs ys r r' : List ByteArray} {z z' : Int} (h : UnionOf xs ys r z) (h' : UnionOf xs ys r' z') : r = r' ∧ z = z' := by
 rcases h with ⟨h1, rfl, rfl⟩ | ⟨h1, h2, q, h3, h4⟩ <;> rcases h' with ⟨k1, rfl, rfl⟩ | ⟨k1, k2, q', k3, k4⟩
 ·exact ⟨rfl, rfl⟩
 ·exact absurd ⟨k1, k2⟩ h1
 ·exact absurd ⟨h1, h2⟩ k1
 ·obtain rfl := h3.same k3
  rcases h4 with ⟨h4, rfl, rfl⟩ | ⟨h4, rfl, rfl⟩ <;> rcases k4 with ⟨k4, rfl, rfl⟩ | ⟨k4, rfl, rfl⟩
  ·exact ⟨rfl, rfl⟩
  ·omega
  ·omega
  ·exact ⟨rfl, rfl⟩
theorem UnionOf.len {xs ys r : List ByteArray} {z : Int} (h : UnionOf xs ys r z) : r.length ≤ 64 := by
 rcases h with ⟨h1, rfl, rfl⟩ | ⟨h1, h2, q, h3, h4⟩
 ·simp
 ·rcases h4 with ⟨h4, rfl, rfl⟩ | ⟨h4, rfl, rfl⟩
  ·simp
  ·exact h4
theorem snil (w : World) : Strs w none 0 0 [] := ⟨rfl, by omega, by omega, ⟨by simp, by simp⟩, by simp⟩
theorem union1_q (p q : Bool) (w : World) : QB Tryz.prog 285 [.bool p, .bool q] w ((true : Bool) = true) := by
 refine QB.intro (cs := []) Tryz.func285 (by kernel_rfl) fun w hx0 w1 hs E R hE hr hR => ?_
 conv => cbv
 exact hR _ _ hs (by simp)
theorem mrg_all {xs ys : List ByteArray} (hx : xs.Pairwise blt) (hy : ys.Pairwise blt) : SortOf (xs ++ ys) (mrg (fun _ _ => true) xs ys) :=
 ⟨mrg_rise _ _ _ hx hy, fun s => by rw [mrg_mem _ _ _ hx hy]; simp⟩
theorem union_f {w : World} {A A' : Option Addr} {n c n' c' : Nat} {xs ys : List ByteArray} {z o v : Addr} (he : Errs w z o v) (h : Strs w A n c xs) (h' : Strs w A' n' c' ys) (hx : xs.Pairwise blt) (hy : ys.Pairwise blt) (hb : n + n' ≤ 2097152) :
  FC Tryz.prog 253 [.slice A n c, .slice A' n' c'] w fun u w' => ∃ q, SortOf (xs ++ ys) q ∧ ((64 < q.length ∧ u = .tuple ⟨[.slice none 0 0, .iface 391 (.pointer (some v))]⟩) ∨
   (q.length ≤ 64 ∧ ∃ A1 n1 c1, u = .tuple ⟨[.slice A1 n1 c1, .nilIface]⟩ ∧ Strs w' A1 n1 c1 q ∧ Own w.heap.size 9 1 w' A1 n1 c1 (q.map .string))) := by
 refine FC.intro (cs := []) Tryz.func253 (by kernel_rfl) fun E R hE hr hR => ?_
 conv => cbv
 refine st_f hr (merge_f h h' (fun _ _ => true) union1_q hb) fun u w1 hx1 hc => ?_
 obtain ⟨A1, n1, c1, rfl, hc, ho⟩ := hc
 have hso := mrg_all hx hy
 have hl := hc.len
 generalize mrg (fun _ _ => true) xs ys = q at hso hc ho hl
 conv => cbv
 refine st_len hE tStrs fun x hxl => ?_
 conv => cbv
 refine br (fun g => ?_) (fun g => ?_)
 ·have g : 64 < n1 := by simp [hE.cmp, cmpR, hxl] at g; omega
  conv => cbv
  refine draw_q hr fol (by kernel_rfl) fun E' hE' => ?_
  conv => cbv
  refine st_load hE' cErr (he.ext hx1).cv ?_
  conv => cbv
  intro w2 hs2
  conv => cbv
  rw [hR]; exact ⟨hx1.trans hs2.ext, q, hso, .inl ⟨by omega, rfl⟩⟩
 ·have g : n1 ≤ 64 := by simp [hE.cmp, cmpR, hxl] at g; omega
  conv => cbv
  rw [hR]; exact ⟨hx1, q, hso, .inr ⟨by omega, A1, n1, c1, rfl, hc, ho⟩⟩
theorem sUnion_f {w : World} {A A' : Option Addr} {n c n' c' : Nat} {xs ys : List ByteArray} (h : Strs w A n c xs) (h' : Strs w A' n' c' ys) (hn : n ≤ 1048576) (hn' : n' ≤ 1048576) :
  FC Tryz.prog 157 [.slice A n c, .slice A' n' c'] w fun u w' => ∃ r k A1 n1 c1, u = .tuple ⟨[.slice A1 n1 c1, .int .i64 k]⟩ ∧ UnionOf xs ys r k ∧ Strs w' A1 n1 c1 r ∧ Own w.heap.size 9 1 w' A1 n1 c1 (r.map .string) := by
 refine FC.intro (cs := []) Tryz.func157 (by kernel_rfl) fun E R hE hr hR => ?_
 have l1 := h.len
 have l2 := h'.len
 conv => cbv
 refine st_qb hE (sIsSet_q h) fun b1 hb1 w1 hs1 => ?_
 cases b1 with
 | false =>
  conv => cbv
  rw [hR]; exact ⟨hs1.ext, [], 4, none, 0, 0, rfl, .inl ⟨fun k => by simpa using hb1.2 k.1, rfl, rfl⟩, snil _, Own.nil⟩
 | true =>
  have g1 := hb1.1 rfl
  conv => cbv
  refine st_qb hE (sIsSet_q (h'.ext hs1.ext)) fun b2 hb2 w2 hs2 => ?_
  have hx := hs1.ext.trans hs2.ext
  cases b2 with
  | false =>
   conv => cbv
   rw [hR]; exact ⟨hx, [], 4, none, 0, 0, rfl, .inl ⟨fun k => by simpa using hb2.2 k.2, rfl, rfl⟩, snil _, Own.nil⟩
  | true =>
   have g2 := hb2.1 rfl
   have q1 := g1.2.2
   have q2 := g2.2.2
   conv => cbv
   have ho : Own w.heap.size 9 1 w2 none 0 0 [] := Own.nil
   refine st_apps hr tStrs rfl ho (h.ext hx).cells (by simp [l1]) (by simp [Value.oneCell']) hx.size (by omega) (by omega) fun A3 c3 m3 w3 em hw ho3 => ?_
   replace hx := hx.then (hw.bel ho hx.size)
   clear ho hw
   conv => cbv
   refine st_apps hr tStrs rfl ho3 (h'.ext hx).cells (by simp [l2]) (by simp [Value.oneCell']) hx.size (by omega) (by omega) fun A4 c4 m4 w4 em2 hw ho4 => ?_
   replace hx := hx.then (hw.bel ho3 hx.size)
   rw [a2_, ← List.map_append] at ho4
   have hst := ho4.strs (fun s hs => (List.mem_append.1 hs).elim (h.small s) (h'.small s))
   clear ho3 hw
   have hs := hx.size
   conv => cbv
   refine st_f hr (l1sorted_f hst (by omega)) fun u w5 hx5 ⟨q, hso, A5, n5, c5, ev, hst5, how⟩ => ?_
   subst ev
   have hl := hst5.len
   replace hx := hx.trans hx5
   conv => cbv
   refine st_len hE tStrs fun x hxl => ?_
   conv => cbv
   refine br (fun g => ?_) (fun g => ?_)
   ·have g : 64 < n5 := by simp [hE.cmp, cmpR, hxl] at g; omega
    conv => cbv
    rw [hR]; exact ⟨hx, [], 3, none, 0, 0, rfl, .inr ⟨g1, g2, q, hso, .inl ⟨by omega, rfl, rfl⟩⟩, snil _, Own.nil⟩
   ·have g : n5 ≤ 64 := by simp [hE.cmp, cmpR, hxl] at g; omega
    conv => cbv
    rw [hR]; exact ⟨hx, q, 0, A5, n5, c5, rfl, .inr ⟨g1, g2, q, hso, .inr ⟨by omega, rfl, rfl⟩⟩, hst5, how.mono hs⟩
theorem uU64 : Tryz.prog.underlying 325 = some (.int .u64) := Tryz.underlying325
theorem uI64' : Tryz.prog.underlying 2 = some (.int .i64) := Tryz.underlying2
theorem cU64 : Cel Tryz.prog 325 := ⟨_, uU64, by simp, by simp⟩
theorem tBig : Stc Tryz.prog 327 3 [.bool false, .int .u64 0, .int .u64 0] := ⟨by kernel_rfl, by kernel_rfl⟩
theorem fB0 : Fld Tryz.prog 327 0 0 := ⟨by kernel_rfl⟩
theorem fB1 : Fld Tryz.prog 327 1 1 := ⟨by kernel_rfl⟩
theorem fB2 : Fld Tryz.prog 327 2 2 := ⟨by kernel_rfl⟩
theorem zBig : (Tryz.prog.info? 327).map (·.size) = some 3 := by kernel_rfl
theorem run_big (n : Bool) (h l : Int) (w : World) : (Instr.build 327 #[(0, .bool n), (1, .int .u64 h), (2, .int .u64 l)]).run Tryz.prog w = .ok (.agg #[.bool n, .int .u64 h, .int .u64 l]) w := by kernel_rfl
section
variable {E : Sym} {w : World} {K : Value → World → Prop} {d : Option Tmp} {ty : TypeId} {pos : String} {aft : Array Edge} {g : Option (Nat × Bool)}
theorem st_big {bq : Bool} (hE : EngB bq Tryz.prog E) {n : Bool} {h l : Int} {x y z : Operand} (hk : K (.agg ⟨[.bool n, .int .u64 h, .int .u64 l]⟩) w) : E.stop ⟨d, .build 327 ⟨[(0, x), (1, y), (2, z)]⟩, ty, pos, aft, g⟩ [.bool n, .int .u64 h, .int .u64 l] w K := by
 refine hE.det (v := .agg ⟨[.bool n, .int .u64 h, .int .u64 l]⟩) (fun w1 _ ρ hρ => ?_) hk
 simp only [opnds, b2_, b3_, b1_, and_true] at hρ
 have := run_big n h l w1
 simp [execOp, hρ.1, hρ.2.1, hρ.2.2, this]
end
def sg (n : Bool) (x : Int) : Int := if n = true then -x else x
def OutOf (v r c : Int) : Prop := (fits v ∧ r = v ∧ c = 0) ∨ (¬ fits v ∧ r = 0 ∧ c = 1)
theorem bigOf_v (k : Int) (hk : fits k) (n : Bool) (m : Int) (hn : n = true ↔ k < 0) (hm : m = k.natAbs) (w : World) :
  VF Tryz.prog 241 [.int .i64 k] w (.agg ⟨[.bool n, .int .u64 0, .int .u64 m]⟩) := by
 refine VF.intro (cs := []) Tryz.func241 (by kernel_rfl) fun w hx0 E R hE hr hR => ?_
 unfold fits at hk
 conv => cbv
 refine st_alloc hr tBig rfl fun a w1 hx ha0 => ?_
 have ha := ha0 _ (n1_ _)
 conv => cbv
 refine br (fun g => ?_) (fun g => ?_)
 ·have g : k < 0 := by simpa [hE.cmp, cmpR] using g
  obtain rfl : n = true := hn.2 g
  obtain ⟨y, hy⟩ : ∃ y, y = k + 1 := ⟨_, rfl⟩
  have e1 : E.ar .add .i64 k 1 = y := by rw [hE.ar, hy]; exact wrap_in (by omega) (by omega)
  conv => cbv
  simp only [e1]
  refine st_neg hE fun r hr' => ?_
  have hr2 : r = -y := by rw [hr', wrap_in (by omega) (by omega)]; omega
  conv => cbv
  refine st_conv hE ⟨_, uI64'⟩ uU64 fun z hz => ?_
  have hz2 : z = r := by rw [hz]; exact u64_in (by omega) (by omega)
  have e2 : E.ar .add .u64 z 1 = m := by
   rw [hE.ar]
   show IntKind.u64.wrap (z + 1) = m
   rw [u64_in (by omega) (by omega), hm]; omega
  conv => cbv
  simp only [e2]
  refine st_big hE ?_
  conv => cbv
  refine st_putS hr zBig ha (add_zero _).symm (by simp) (by simp [Value.oneCell']) fun w2 hw ho2 => ?_
  replace hx := hx.then (hw.bel ha (n2_ (n1_ _) hx.size))
  simp only [a1_, a2_, a3_, a4_, a5_, a6_, a7_] at ho2
  conv => cbv
  refine st_cell hr tBig rfl ho2.at ?_
  rw [hR]; exact ⟨rfl, hx⟩
 ·have g : 0 ≤ k := by simpa [hE.cmp, cmpR] using g
  obtain rfl : n = false := by rw [← Bool.not_eq_true, hn]; omega
  conv => cbv
  refine st_conv hE ⟨_, uI64'⟩ uU64 fun z hz => ?_
  obtain rfl : z = m := by rw [hz, u64_in (by omega) (by omega), hm]; omega
  conv => cbv
  refine st_big hE ?_
  conv => cbv
  refine st_putS hr zBig ha (add_zero _).symm (by simp) (by simp [Value.oneCell']) fun w2 hw ho2 => ?_
  replace hx := hx.then (hw.bel ha (n2_ (n1_ _) hx.size))
  simp only [a1_, a2_, a3_, a4_, a5_, a6_, a7_] at ho2
  conv => cbv
  refine st_cell hr tBig rfl ho2.at ?_
  rw [hR]; exact ⟨rfl, hx⟩
theorem small_f (n : Bool) (h l : Int) (w : World) (h0 : 0 ≤ h) (l0 : 0 ≤ l) (l1 : l < 18446744073709551616) :
  FC Tryz.prog 242 [.agg ⟨[.bool n, .int .u64 h, .int .u64 l]⟩] w fun v _ => ∃ r c, v = .tuple ⟨[.int .i64 r, .int .i64 c]⟩ ∧ OutOf (sg n (h * 18446744073709551616 + l)) r c := by
 refine FC.intro (cs := []) Tryz.func242 (by kernel_rfl) fun E R hE hr hR => ?_
 conv => cbv
 refine st_box hr fun a w1 hx ha0 => ?_
 have ha := ha0 _ (n1_ _)
 conv => cbv
 (refine st_fld hE fB1 fun p hp => ?_; (conv => cbv); refine st_load hE cU64 (by rw [hp]; exact (ha).at _ _ rfl) ?_; clear hp; (conv => cbv))
 refine br (fun g1 => ?_) (fun g1 => ?_)
 ·have g1 : h ≠ 0 := by simpa [hE.cmp, cmpR] using g1
  conv => cbv
  rw [hR]; exact ⟨hx, 0, 1, rfl, .inr ⟨by unfold fits sg; split <;> omega, rfl, rfl⟩⟩
 have g1 : h = 0 := by simpa [hE.cmp, cmpR] using g1
 subst g1
 conv => cbv
 (refine st_fld hE fB2 fun p hp => ?_; (conv => cbv); refine st_load hE cU64 (by rw [hp]; exact (ha).at _ _ rfl) ?_; clear hp; (conv => cbv))
 refine br (fun g2 => ?_) (fun g2 => ?_)
 ·have g2 : 9223372036854775808 < l := by simpa [hE.cmp, cmpR] using g2
  conv => cbv
  rw [hR]; exact ⟨hx, 0, 1, rfl, .inr ⟨by unfold fits sg; split <;> omega, rfl, rfl⟩⟩
 have g2 : l ≤ 9223372036854775808 := by simpa [hE.cmp, cmpR] using g2
 conv => cbv
 (refine st_fld hE fB2 fun p hp => ?_; (conv => cbv); refine st_load hE cU64 (by rw [hp]; exact (ha).at _ _ rfl) ?_; clear hp; (conv => cbv))
 refine br (fun g3 => ?_) (fun g3 => ?_)
 ·have g3 : l = 9223372036854775808 := by simpa [hE.cmp, cmpR] using g3
  subst g3
  have ee : E.cmp .eql 9223372036854775808 9223372036854775808 = true := by rw [hE.cmp]; rfl
  conv => cbv
  (refine st_fld hE fB0 fun p hp => ?_; (conv => cbv); refine st_load hE cBool (by rw [hp]; exact (ha).at _ _ rfl) ?_; clear hp; (conv => cbv))
  cases n with
  | false =>
   conv => cbv
   rw [hR]; exact ⟨hx, 0, 1, rfl, .inr ⟨by unfold fits sg; simp, rfl, rfl⟩⟩
  | true =>
   conv => cbv
   (refine st_fld hE fB2 fun p hp => ?_; (conv => cbv); refine st_load hE cU64 (by rw [hp]; exact (ha).at _ _ rfl) ?_; clear hp; (conv => cbv))
   simp only [ee]
   conv => cbv
   rw [hR]; exact ⟨hx, _, 0, rfl, .inl ⟨by unfold fits sg; simp, by unfold sg; simp, rfl⟩⟩
 ·have g3 : l ≠ 9223372036854775808 := by simpa [hE.cmp, cmpR] using g3
  have ee : E.cmp .eql l 9223372036854775808 = false := by rw [hE.cmp]; simpa [cmpR] using g3
  conv => cbv
  (refine st_fld hE fB2 fun p hp => ?_; (conv => cbv); refine st_load hE cU64 (by rw [hp]; exact (ha).at _ _ rfl) ?_; clear hp; (conv => cbv))
  simp only [ee]
  conv => cbv
  (refine st_fld hE fB0 fun p hp => ?_; (conv => cbv); refine st_load hE cBool (by rw [hp]; exact (ha).at _ _ rfl) ?_; clear hp; (conv => cbv))
  cases n with
  | false =>
   conv => cbv
   (refine st_fld hE fB2 fun p hp => ?_; (conv => cbv); refine st_load hE cU64 (by rw [hp]; exact (ha).at _ _ rfl) ?_; clear hp; (conv => cbv))
   refine st_conv hE ⟨_, uU64⟩ uI64' fun z hz => ?_
   obtain rfl : z = l := by rw [hz]; exact wrap_in (by omega) (by omega)
   conv => cbv
   rw [hR]; exact ⟨hx, _, 0, rfl, .inl ⟨by unfold fits sg; simp; omega, by unfold sg; simp, rfl⟩⟩
  | true =>
   conv => cbv
   (refine st_fld hE fB2 fun p hp => ?_; (conv => cbv); refine st_load hE cU64 (by rw [hp]; exact (ha).at _ _ rfl) ?_; clear hp; (conv => cbv))
   refine st_conv hE ⟨_, uU64⟩ uI64' fun z hz => ?_
   obtain rfl : z = l := by rw [hz]; exact wrap_in (by omega) (by omega)
   conv => cbv
   refine st_neg hE fun r hr' => ?_
   have hr2 : r = -z := by rw [hr', wrap_in (by omega) (by omega)]; omega
   conv => cbv
   rw [hR]; exact ⟨hx, _, 0, rfl, .inl ⟨by unfold fits sg; simp; omega, by unfold sg; simp; omega, rfl⟩⟩
theorem sum_f (n n' : Bool) (l l' : Int) (w : World) (l0 : 0 ≤ l) (l1 : l < 18446744073709551616) (k0 : 0 ≤ l') (k1 : l' < 18446744073709551616) :
  FC Tryz.prog 243 [.agg ⟨[.bool n, .int .u64 0, .int .u64 l]⟩, .agg ⟨[.bool n', .int .u64 0, .int .u64 l']⟩] w fun v _ => ∃ n2 h2 l2, v = .agg ⟨[.bool n2, .int .u64 h2, .int .u64 l2]⟩ ∧ 0 ≤ h2 ∧ 0 ≤ l2 ∧ l2 < 18446744073709551616 ∧ sg n2 (h2 * 18446744073709551616 + l2) = sg n l + sg n' l' := by
 refine FC.intro (cs := []) Tryz.func243 (by kernel_rfl) fun E R hE hr hR => ?_
 conv => cbv
 refine st_box hr fun a w1 hx ha0 => ?_
 have ha := ha0 _ (n1_ _)
 conv => cbv
 refine st_box hr fun b w2 hx2 hb0 => ?_
 have hb := hb0 _ hx.size
 replace ha := ha.bel hx2
 replace hx := hx.trans hx2
 conv => cbv
 refine st_alloc hr tBig rfl fun o w3 hx3 ho0 => ?_
 have ho := ho0 _ hx.size
 replace ha := ha.bel hx3
 replace hb := hb.bel hx3
 replace hx := hx.trans hx3
 clear ha0 hb0 ho0 hx2 hx3
 conv => cbv
 (refine st_fld hE fB0 fun p hp => ?_; (conv => cbv); refine st_load hE cBool (by rw [hp]; exact (ha).at _ _ rfl) ?_; clear hp; (conv => cbv))
 (refine st_fld hE fB0 fun p hp => ?_; (conv => cbv); refine st_load hE cBool (by rw [hp]; exact (hb).at _ _ rfl) ?_; clear hp; (conv => cbv))
 refine st_beq hE uBool fun v hv => ?_
 cases v with
 | true =>
  obtain rfl : n = n' := by have := hv.1 rfl; cases n <;> cases n' <;> simp_all
  conv => cbv
  (refine st_fld hE fB2 fun p hp => ?_; (conv => cbv); refine st_load hE cU64 (by rw [hp]; exact (ha).at _ _ rfl) ?_; clear hp; (conv => cbv))
  (refine st_fld hE fB2 fun p hp => ?_; (conv => cbv); refine st_load hE cU64 (by rw [hp]; exact (hb).at _ _ rfl) ?_; clear hp; (conv => cbv))
  obtain ⟨y, hy⟩ : ∃ y, y = (l + l') % 18446744073709551616 := ⟨_, rfl⟩
  have e1 : E.ar .add .u64 l l' = y := by rw [hE.ar, hy, ← IntKind.wrap_u64]; rfl
  simp only [e1]
  (refine st_fld hE fB1 fun p hp => ?_; (conv => cbv); refine st_load hE cU64 (by rw [hp]; exact (ha).at _ _ rfl) ?_; clear hp; (conv => cbv))
  (refine st_fld hE fB1 fun p hp => ?_; (conv => cbv); refine st_load hE cU64 (by rw [hp]; exact (hb).at _ _ rfl) ?_; clear hp; (conv => cbv))
  have e2 : E.ar .add .u64 0 0 = 0 := by rw [hE.ar]; rfl
  have e3 : E.ar .add .u64 0 1 = 1 := by rw [hE.ar]; rfl
  simp only [e2]
  (refine st_fld hE fB2 fun p hp => ?_; (conv => cbv); refine st_load hE cU64 (by rw [hp]; exact (ha).at _ _ rfl) ?_; clear hp; (conv => cbv))
  refine br (fun g => ?_) (fun g => ?_)
  ·have g : y < l := by simpa [hE.cmp, cmpR] using g
   conv => cbv
   simp only [e3]
   (refine st_fld hE fB0 fun p hp => ?_; (conv => cbv); refine st_load hE cBool (by rw [hp]; exact (ha).at _ _ rfl) ?_; clear hp; (conv => cbv))
   refine st_big hE ?_
   conv => cbv
   refine st_putS hr zBig ho (add_zero _).symm (by simp) (by simp [Value.oneCell']) fun w2 hw ho2 => ?_
   replace hx := hx.then (hw.bel ho hx.size)
   simp only [a1_, a2_, a3_, a4_, a5_, a6_, a7_] at ho2
   conv => cbv
   refine st_cell hr tBig rfl ho2.at ?_
   rw [hR]; exact ⟨hx, n, 1, y, rfl, by omega, by omega, by omega, by unfold sg; split <;> omega⟩
  ·have g : l ≤ y := by simpa [hE.cmp, cmpR] using g
   conv => cbv
   (refine st_fld hE fB0 fun p hp => ?_; (conv => cbv); refine st_load hE cBool (by rw [hp]; exact (ha).at _ _ rfl) ?_; clear hp; (conv => cbv))
   refine st_big hE ?_
   conv => cbv
   refine st_putS hr zBig ho (add_zero _).symm (by simp) (by simp [Value.oneCell']) fun w2 hw ho2 => ?_
   replace hx := hx.then (hw.bel ho hx.size)
   simp only [a1_, a2_, a3_, a4_, a5_, a6_, a7_] at ho2
   conv => cbv
   refine st_cell hr tBig rfl ho2.at ?_
   rw [hR]; exact ⟨hx, n, 0, y, rfl, by omega, by omega, by omega, by unfold sg; split <;> omega⟩
 | false =>
  have hnn : n' = !n := by
   have h2 : ¬ (n = true ↔ n' = true) := fun h => by simpa using hv.2 h
   cases n <;> cases n' <;> simp_all
  subst hnn
  conv => cbv
  (refine st_fld hE fB2 fun p hp => ?_; (conv => cbv); refine st_load hE cU64 (by rw [hp]; exact (ha).at _ _ rfl) ?_; clear hp; (conv => cbv))
  (refine st_fld hE fB2 fun p hp => ?_; (conv => cbv); refine st_load hE cU64 (by rw [hp]; exact (hb).at _ _ rfl) ?_; clear hp; (conv => cbv))
  refine br (fun g => ?_) (fun g => ?_)
  ·have g : l' ≤ l := by simpa [hE.cmp, cmpR] using g
   conv => cbv
   (refine st_fld hE fB0 fun p hp => ?_; (conv => cbv); refine st_load hE cBool (by rw [hp]; exact (ha).at _ _ rfl) ?_; clear hp; (conv => cbv))
   (refine st_fld hE fB2 fun p hp => ?_; (conv => cbv); refine st_load hE cU64 (by rw [hp]; exact (ha).at _ _ rfl) ?_; clear hp; (conv => cbv))
   (refine st_fld hE fB2 fun p hp => ?_; (conv => cbv); refine st_load hE cU64 (by rw [hp]; exact (hb).at _ _ rfl) ?_; clear hp; (conv => cbv))
   obtain ⟨y, hy⟩ : ∃ y, y = l - l' := ⟨_, rfl⟩
   have e1 : E.ar .sub .u64 l l' = y := by
    rw [hE.ar, hy]; show IntKind.u64.wrap (l - l') = _; exact u64_in (by omega) (by omega)
   simp only [e1]
   refine st_big hE ?_
   conv => cbv
   refine st_putS hr zBig ho (add_zero _).symm (by simp) (by simp [Value.oneCell']) fun w2 hw ho2 => ?_
   replace hx := hx.then (hw.bel ho hx.size)
   simp only [a1_, a2_, a3_, a4_, a5_, a6_, a7_] at ho2
   conv => cbv
   refine st_cell hr tBig rfl ho2.at ?_
   rw [hR]; exact ⟨hx, n, 0, y, rfl, by omega, by omega, by omega, by cases n <;> simp [sg] <;> omega⟩
  ·have g : l < l' := by simpa [hE.cmp, cmpR] using g
   conv => cbv
   (refine st_fld hE fB0 fun p hp => ?_; (conv => cbv); refine st_load hE cBool (by rw [hp]; exact (hb).at _ _ rfl) ?_; clear hp; (conv => cbv))
   (refine st_fld hE fB2 fun p hp => ?_; (conv => cbv); refine st_load hE cU64 (by rw [hp]; exact (hb).at _ _ rfl) ?_; clear hp; (conv => cbv))
   (refine st_fld hE fB2 fun p hp => ?_; (conv => cbv); refine st_load hE cU64 (by rw [hp]; exact (ha).at _ _ rfl) ?_; clear hp; (conv => cbv))
   obtain ⟨y, hy⟩ : ∃ y, y = l' - l := ⟨_, rfl⟩
   have e1 : E.ar .sub .u64 l' l = y := by
    rw [hE.ar, hy]; show IntKind.u64.wrap (l' - l) = _; exact u64_in (by omega) (by omega)
   simp only [e1]
   obtain ⟨n3, hn3⟩ : ∃ n3, n3 = !n := ⟨_, rfl⟩
   cases n <;> (
    conv => cbv
    refine st_big hE ?_
    conv => cbv
    refine st_putS hr zBig ho (add_zero _).symm (by simp) (by simp [Value.oneCell']) fun w2 hw ho2 => ?_
    replace hx := hx.then (hw.bel ho hx.size)
    simp only [a1_, a2_, a3_, a4_, a5_, a6_, a7_] at ho2
    conv => cbv
    refine st_cell hr tBig rfl ho2.at ?_
    rw [hR]; exact ⟨hx, n3, 0, y, by rw [hn3]; rfl, by omega, by omega, by omega, by subst hn3; simp [sg] <;> omega⟩)
theorem uUint : Tryz.prog.underlying 379 = some (.int .u64) := Tryz.underlying379
theorem dbl {h l : Int} (h0 : 0 ≤ h) (l0 : 0 ≤ l) (l1 : l < 18446744073709551616) (hP : (h * 18446744073709551616 + l) * 2 < 340282366920938463463374607431768211456) :
  IntKind.u64.wrap (h * 2 ^ (min (1 : Int).toNat IntKind.u64.bits)) + l.fdiv (2 ^ (min (63 : Int).toNat IntKind.u64.bits)) < 18446744073709551616 ∧
  (IntKind.u64.wrap (h * 2 ^ (min (1 : Int).toNat IntKind.u64.bits)) + l.fdiv (2 ^ (min (63 : Int).toNat IntKind.u64.bits))) * 18446744073709551616 + IntKind.u64.wrap (l * 2 ^ (min (1 : Int).toNat IntKind.u64.bits)) = (h * 18446744073709551616 + l) * 2 ∧
  0 ≤ l.fdiv (2 ^ (min (63 : Int).toNat IntKind.u64.bits)) ∧ l.fdiv (2 ^ (min (63 : Int).toNat IntKind.u64.bits)) < 2 ∧ IntKind.u64.wrap (h * 2 ^ (min (1 : Int).toNat IntKind.u64.bits)) % 2 = 0 ∧ 0 ≤ IntKind.u64.wrap (h * 2 ^ (min (1 : Int).toNat IntKind.u64.bits)) ∧
  0 ≤ IntKind.u64.wrap (l * 2 ^ (min (1 : Int).toNat IntKind.u64.bits)) ∧ IntKind.u64.wrap (l * 2 ^ (min (1 : Int).toNat IntKind.u64.bits)) < 18446744073709551616 := by
 have e1 : (2 : Int) ^ (min (1 : Int).toNat IntKind.u64.bits) = 2 := by decide
 have e2 : (2 : Int) ^ (min (63 : Int).toNat IntKind.u64.bits) = 9223372036854775808 := by decide
 rw [e1, e2, IntKind.wrap_u64, IntKind.wrap_u64, Int.fdiv_eq_ediv_of_nonneg _ (by omega)]
 omega
theorem half (a : Int) (k : Nat) : a / 2 ^ k = 2 * (a / 2 ^ (k + 1)) + a / 2 ^ k % 2 := by
 have : a / 2 ^ (k + 1) = a / 2 ^ k / 2 := by rw [Int.pow_succ, Int.ediv_ediv_of_nonneg (Int.le_of_lt (Int.pow_pos (by omega)))]
 rw [this]; omega
theorem small_pow {k : Nat} (hk : k < 64) : min ((k : Int)).toNat IntKind.u64.bits = k := by
 have : IntKind.u64.bits = 64 := rfl
 rw [this]; omega
theorem times_f (a b : Int) (w : World) (a0 : 0 ≤ a) (a1 : a < 18446744073709551616) (b0 : 0 ≤ b) (b1 : b < 18446744073709551616) :
  FC Tryz.prog 244 [.int .u64 a, .int .u64 b] w fun v _ => ∃ h l, v = .tuple ⟨[.int .u64 h, .int .u64 l]⟩ ∧ 0 ≤ h ∧ 0 ≤ l ∧ l < 18446744073709551616 ∧ h * 18446744073709551616 + l = a * b := by
 refine FC.intro (cs := []) Tryz.func244 (by kernel_rfl) fun E R hE hr hR => ?_
 conv => cbv
 refine loop_rule hr (fun (s : Nat × Int × Int × Int) w' => w' = w ∧ s.1 ≤ 64 ∧ s.2.1 = (s.1 : Int) - 1 ∧ 0 ≤ s.2.2.1 ∧ 0 ≤ s.2.2.2 ∧ s.2.2.2 < 18446744073709551616 ∧ s.2.2.1 * 18446744073709551616 + s.2.2.2 = a / 2 ^ s.1 * b) (fun s => [(0, .int .u64 a), (1, .int .u64 b), (6, .int .u64 s.2.2.1), (7, .int .u64 s.2.2.2), (8, .int .i64 s.2.1)]) (fun s => s.1) (64, 63, 0, 0)
  (by simp [Fits, lk]) ⟨rfl, by simp, by simp, by simp, by simp, by simp, by simp only; rw [show a / 2 ^ 64 = 0 from Int.ediv_eq_zero_of_lt a0 (by omega)]; simp⟩ ?_
 rintro I hI ⟨k, i, h, l⟩ w' ⟨rfl, hk, hi, h0, l0, l1, hP⟩
 simp only at hk hi h0 l0 l1 hP
 conv => cbv
 refine br (fun g => ?_) (fun g => ?_)
 ·have g : 0 ≤ i := by simpa [hE.cmp, cmpR] using g
  obtain ⟨k, rfl⟩ : ∃ j, k = j + 1 := ⟨k - 1, by omega⟩
  have hi : i = (k : Int) := by omega
  have hh := half a k
  obtain ⟨Q, hQ⟩ : ∃ Q, Q = a / 2 ^ k := ⟨_, rfl⟩
  have q0 : 0 ≤ Q := by rw [hQ]; exact Int.ediv_nonneg a0 (Int.le_of_lt (Int.pow_pos (by omega)))
  have q1 : Q ≤ a := by rw [hQ]; exact Int.ediv_le_self _ a0
  rw [← hQ] at hh
  obtain ⟨q, hq⟩ : ∃ q, q = a / 2 ^ (k + 1) := ⟨_, rfl⟩
  rw [← hq] at hh hP
  have hQb : Q * b ≤ 18446744073709551615 * 18446744073709551615 := Int.mul_le_mul (by omega) (by omega) b0 (by omega)
  have hbit : Q * b = q * b * 2 + Q % 2 * b := by
   have : Q * b = (2 * q + Q % 2) * b := by rw [← hh]
   rw [this, Int.add_mul, Int.mul_assoc, Int.mul_comm 2]
  have hb2 : 0 ≤ Q % 2 * b := Int.mul_nonneg (by omega) b0
  obtain ⟨d1, d2, d3, d4, d5, d6, d7, d8⟩ := dbl h0 l0 l1 (by omega)
  conv => cbv
  refine st_shl hE (by omega) fun r1 hr1 => ?_
  conv => cbv
  refine st_shr hE (by omega) fun r2 hr2 => ?_
  rw [← hr1, ← hr2] at d1 d2
  rw [← hr2] at d3 d4
  rw [← hr1] at d5 d6
  conv => cbv
  refine st_or hE d6 (by omega) d3 (by omega) fun r3 hr3 => ?_
  have hr3' : r3 = r1 + r2 := by
   rw [hr3, even_or (by omega) (by omega)]; omega
  conv => cbv
  refine st_shl hE (by omega) fun r4 hr4 => ?_
  rw [← hr4] at d2 d7 d8
  conv => cbv
  refine st_conv hE ⟨_, uInt⟩ uUint fun r5 hr5 => ?_
  obtain rfl : r5 = i := by rw [hr5]; exact u64_in (by omega) (by omega)
  conv => cbv
  refine st_shr hE (by omega) fun r6 hr6 => ?_
  have hr6' : r6 = Q := by
   rw [hr6, hi, small_pow (by omega), hQ, Int.fdiv_eq_ediv_of_nonneg _ (Int.le_of_lt (Int.pow_pos (by omega)))]
  conv => cbv
  refine st_and hE (by omega) (by omega) (by omega) (by omega) fun r7 hr7 => ?_
  have hr7' : r7 = Q % 2 := by
   rw [hr7, hr6']
   have : (1 : Int).toNat = 1 := rfl
   rw [this, Nat.and_one_is_mod]; omega
  have ed : E.ar .sub .i64 r5 1 = r5 - 1 := by rw [hE.ar]; exact wrap_in (by omega) (by omega)
  obtain ⟨i', hi'⟩ : ∃ i' : Int, i' = r5 - 1 := ⟨_, rfl⟩
  rw [← hi'] at ed
  conv => cbv
  refine br (fun g2 => ?_) (fun g2 => ?_)
  ·have g2 : r7 = 1 := by simpa [hE.cmp, cmpR] using g2
   have hone : Q % 2 * b = b := by rw [← hr7', g2]; omega
   obtain ⟨y, hy⟩ : ∃ y, y = (r4 + b) % 18446744073709551616 := ⟨_, rfl⟩
   have e1 : E.ar .add .u64 r4 b = y := by rw [hE.ar, hy, ← IntKind.wrap_u64]; rfl
   conv => cbv
   simp only [e1]
   refine br (fun g3 => ?_) (fun g3 => ?_)
   ·have g3 : y < r4 := by simpa [hE.cmp, cmpR] using g3
    obtain ⟨z, hz⟩ : ∃ z, z = r3 + 1 := ⟨_, rfl⟩
    have e2 : E.ar .add .u64 r3 1 = z := by
     rw [hE.ar, hz]; show IntKind.u64.wrap (r3 + 1) = _; exact u64_in (by omega) (by omega)
    conv => cbv
    exact ⟨(k, i', z, y), by simp [Fits, lk, e2, ed], hI _ _ ⟨rfl, by simp only; omega, by simp only; omega, by simp only; omega, by simp only; omega, by simp only; omega, by simp only; rw [← hQ]; omega⟩, by simp only; omega⟩
   ·have g3 : r4 ≤ y := by simpa [hE.cmp, cmpR] using g3
    conv => cbv
    exact ⟨(k, i', r3, y), by simp [Fits, lk, ed], hI _ _ ⟨rfl, by simp only; omega, by simp only; omega, by simp only; omega, by simp only; omega, by simp only; omega, by simp only; rw [← hQ]; omega⟩, by simp only; omega⟩
  ·have g2 : r7 ≠ 1 := by simpa [hE.cmp, cmpR] using g2
   have hone : Q % 2 * b = 0 := by
    have : Q % 2 = 0 := by omega
    rw [this]; omega
   conv => cbv
   exact ⟨(k, i', r3, r4), by simp [Fits, lk, ed], hI _ _ ⟨rfl, by simp only; omega, by simp only; omega, by simp only; omega, by simp only; omega, by simp only; omega, by simp only; rw [← hQ]; omega⟩, by simp only; omega⟩
 ·have g : i < 0 := by simpa [hE.cmp, cmpR] using g
  obtain rfl : k = 0 := by omega
  rw [Int.pow_zero, Int.ediv_one] at hP
  conv => cbv
  rw [hR]; exact ⟨Ext.refl _, h, l, rfl, h0, l0, l1, hP⟩
def CalcOf (op a b r c : Int) : Prop :=
 (op = 1 ∧ OutOf (a + b) r c) ∨ (op = 2 ∧ OutOf (a - b) r c) ∨ (op = 3 ∧ OutOf (a * b) r c) ∨ ((op = 4 ∨ op = 5) ∧ b = 0 ∧ r = 0 ∧ c = 2) ∨ (op = 4 ∧ b ≠ 0 ∧ OutOf (a.tdiv b) r c) ∨ (op = 5 ∧ b ≠ 0 ∧ OutOf (a.tmod b) r c) ∨ ((op < 1 ∨ 5 < op) ∧ r = 0 ∧ c = 4)
theorem OutOf.same {v r c r' c' : Int} (h : OutOf v r c) (h' : OutOf v r' c') : r = r' ∧ c = c' := by
 rcases h with ⟨h1, rfl, rfl⟩ | ⟨h1, rfl, rfl⟩ <;> rcases h' with ⟨k1, rfl, rfl⟩ | ⟨k1, rfl, rfl⟩
 ·exact ⟨rfl, rfl⟩
 ·exact absurd h1 k1
 ·exact absurd k1 h1
 ·exact ⟨rfl, rfl⟩
theorem CalcOf.same {op a b r c r' c' : Int} (h : CalcOf op a b r c) (h' : CalcOf op a b r' c') : r = r' ∧ c = c' := by
 rcases h with ⟨h0, h⟩ | ⟨h0, h⟩ | ⟨h0, h⟩ | ⟨h0, hb, rfl, rfl⟩ | ⟨h0, hb, h⟩ | ⟨h0, hb, h⟩ | ⟨h0, rfl, rfl⟩ <;>
  rcases h' with ⟨k0, k⟩ | ⟨k0, k⟩ | ⟨k0, k⟩ | ⟨k0, kb, rfl, rfl⟩ | ⟨k0, kb, k⟩ | ⟨k0, kb, k⟩ | ⟨k0, rfl, rfl⟩ <;>
  first
  | exact h.same k
  | exact ⟨rfl, rfl⟩
  | (exfalso; omega)
theorem sg_mul {a b : Int} {n n' v : Bool} (hn : n = true ↔ a < 0) (hn' : n' = true ↔ b < 0) (hv : v = true ↔ ¬ (n = true ↔ n' = true)) : sg v ((a.natAbs : Int) * (b.natAbs : Int)) = a * b := by
 rcases (by omega : a < 0 ∨ 0 ≤ a) with ha | ha <;> rcases (by omega : b < 0 ∨ 0 ≤ b) with hb | hb
 ·have hv : v = false := by rw [← Bool.not_eq_true, hv, hn, hn']; simp [ha, hb]
  rw [hv, show (a.natAbs : Int) = -a by omega, show (b.natAbs : Int) = -b by omega]; simp [sg, Int.neg_mul_neg]
 ·have hv : v = true := by rw [hv, hn, hn']; simp [ha]; omega
  rw [hv, show (a.natAbs : Int) = -a by omega, show (b.natAbs : Int) = b by omega]; simp [sg, Int.neg_mul]
 ·have hv : v = true := by rw [hv, hn, hn']; simp [hb]; omega
  rw [hv, show (a.natAbs : Int) = a by omega, show (b.natAbs : Int) = -b by omega]; simp [sg, Int.mul_neg]
 ·have hv : v = false := by rw [← Bool.not_eq_true, hv, hn, hn']; simp; omega
  rw [hv, show (a.natAbs : Int) = a by omega, show (b.natAbs : Int) = b by omega]; simp [sg]
theorem sg_div {a b : Int} {n n' v : Bool} (hn : n = true ↔ a < 0) (hn' : n' = true ↔ b < 0) (hv : v = true ↔ ¬ (n = true ↔ n' = true)) : sg v ((a.natAbs : Int).tdiv (b.natAbs : Int)) = a.tdiv b := by
 rcases (by omega : a < 0 ∨ 0 ≤ a) with ha | ha <;> rcases (by omega : b < 0 ∨ 0 ≤ b) with hb | hb
 ·have hv : v = false := by rw [← Bool.not_eq_true, hv, hn, hn']; simp [ha, hb]
  rw [hv, show (a.natAbs : Int) = -a by omega, show (b.natAbs : Int) = -b by omega]; simp [sg, Int.neg_tdiv, Int.tdiv_neg]
 ·have hv : v = true := by rw [hv, hn, hn']; simp [ha]; omega
  rw [hv, show (a.natAbs : Int) = -a by omega, show (b.natAbs : Int) = b by omega]; simp [sg, Int.neg_tdiv]
 ·have hv : v = true := by rw [hv, hn, hn']; simp [hb]; omega
  rw [hv, show (a.natAbs : Int) = a by omega, show (b.natAbs : Int) = -b by omega]; simp [sg, Int.tdiv_neg]
 ·have hv : v = false := by rw [← Bool.not_eq_true, hv, hn, hn']; simp; omega
  rw [hv, show (a.natAbs : Int) = a by omega, show (b.natAbs : Int) = b by omega]; simp [sg]
theorem sg_mod {a b : Int} {n : Bool} (hn : n = true ↔ a < 0) : sg n ((a.natAbs : Int).tmod (b.natAbs : Int)) = a.tmod b := by
 have e : ∀ x : Int, x.tmod (b.natAbs : Int) = x.tmod b := fun x => by
  rcases (by omega : b < 0 ∨ 0 ≤ b) with hb | hb
  ·rw [show (b.natAbs : Int) = -b by omega, Int.tmod_neg]
  ·rw [show (b.natAbs : Int) = b by omega]
 rw [e]
 rcases (by omega : a < 0 ∨ 0 ≤ a) with ha | ha
 ·rw [hn.2 ha, show (a.natAbs : Int) = -a by omega, Int.neg_tmod]; simp [sg]
 ·have : n = false := by rw [← Bool.not_eq_true, hn]; omega
  rw [this, show (a.natAbs : Int) = a by omega]; simp [sg]
theorem sg_of {a : Int} {n : Bool} (hn : n = true ↔ a < 0) : sg n (a.natAbs : Int) = a := by
 unfold sg
 split
 ·rename_i h; have := hn.1 h; omega
 ·rename_i h; have : ¬ a < 0 := fun k => h (hn.2 k)
  omega
theorem calc_f {w : World} {z o v : Addr} (he : Errs w z o v) (op a b : Int) (ha : fits a) (hb : fits b) (h1 : 1 ≤ op) (h5 : op ≤ 5) :
  FC Tryz.prog 252 [.int .i64 op, .int .i64 a, .int .i64 b] w fun u _ => ∃ r, (u = .tuple ⟨[.int .i64 r, .nilIface]⟩ ∧ CalcOf op a b r 0) ∨ (u = .tuple ⟨[.int .i64 r, .iface 391 (.pointer (some o))]⟩ ∧ CalcOf op a b r 1) ∨ (u = .tuple ⟨[.int .i64 r, .iface 391 (.pointer (some z))]⟩ ∧ CalcOf op a b r 2) := by
 refine FC.intro (cs := []) Tryz.func252 (by kernel_rfl) fun E R hE hr hR => ?_
 conv => cbv
 refine br (fun g => ?_) (fun g => ?_)
 ·have g : op = 1 := by simpa [hE.cmp, cmpR] using g
  obtain ⟨y, hy⟩ : ∃ y, y = IntKind.i64.wrap (a + b) := ⟨_, rfl⟩
  have e1 : E.ar .add .i64 a b = y := by rw [hE.ar, hy]; rfl
  have hok := add_ok ha hb
  rw [← hy] at hok
  conv => cbv
  simp only [e1]
  refine st_beq hE uBool fun q hq => ?_
  simp only [hE.cmp, cmpR, decide_eq_true_eq] at hq
  rw [hok] at hq
  conv => cbv
  refine br (fun g2 => ?_) (fun g2 => ?_)
  ·have g2 := hq.1 g2
   conv => cbv
   rw [hR]; refine ⟨Ext.refl _, y, .inl ⟨rfl, .inl ⟨g, .inl ⟨g2, ?_, rfl⟩⟩⟩⟩
   unfold fits at g2; rw [hy]; exact wrap_in g2.1 g2.2
  ·have g2 : ¬ fits (a + b) := fun k => g2 (hq.2 k)
   conv => cbv
   refine draw_q hr fol (by kernel_rfl) fun E' hE' => ?_
   conv => cbv
   refine st_load hE' cErr he.co ?_
   conv => cbv
   intro w2 hs2
   conv => cbv
   rw [hR]; exact ⟨hs2.ext, 0, .inr (.inl ⟨rfl, .inl ⟨g, .inr ⟨g2, rfl, rfl⟩⟩⟩)⟩
 have g1 : op ≠ 1 := by simpa [hE.cmp, cmpR] using g
 clear g
 conv => cbv
 refine br (fun g => ?_) (fun g => ?_)
 ·have g : op = 2 := by simpa [hE.cmp, cmpR] using g
  obtain ⟨y, hy⟩ : ∃ y, y = IntKind.i64.wrap (a - b) := ⟨_, rfl⟩
  have e1 : E.ar .sub .i64 a b = y := by rw [hE.ar, hy]; rfl
  have hok := sub_ok ha hb
  rw [← hy] at hok
  conv => cbv
  simp only [e1]
  refine st_beq hE uBool fun q hq => ?_
  simp only [hE.cmp, cmpR, decide_eq_true_eq] at hq
  rw [hok] at hq
  conv => cbv
  refine br (fun g2 => ?_) (fun g2 => ?_)
  ·have g2 := hq.1 g2
   conv => cbv
   rw [hR]; refine ⟨Ext.refl _, y, .inl ⟨rfl, .inr (.inl ⟨g, .inl ⟨g2, ?_, rfl⟩⟩)⟩⟩
   unfold fits at g2; rw [hy]; exact wrap_in g2.1 g2.2
  ·have g2 : ¬ fits (a - b) := fun k => g2 (hq.2 k)
   conv => cbv
   refine draw_q hr fol (by kernel_rfl) fun E' hE' => ?_
   conv => cbv
   refine st_load hE' cErr he.co ?_
   conv => cbv
   intro w2 hs2
   conv => cbv
   rw [hR]; exact ⟨hs2.ext, 0, .inr (.inl ⟨rfl, .inr (.inl ⟨g, .inr ⟨g2, rfl, rfl⟩⟩)⟩)⟩
 have g2 : op ≠ 2 := by simpa [hE.cmp, cmpR] using g
 clear g
 have T : ∀ x y : Int, x = y → E.cmp .eql x y = true := fun x y h => by rw [hE.cmp]; simp [cmpR, h]
 have F : ∀ x y : Int, x ≠ y → E.cmp .eql x y = false := fun x y h => by rw [hE.cmp]; simp [cmpR, h]
 conv => cbv
 refine br (fun g => ?_) (fun g => ?_)
 ·have g : op = 3 := by simpa [hE.cmp, cmpR] using g
  obtain ⟨y, hy⟩ : ∃ y, y = IntKind.i64.wrap (a * b) := ⟨_, rfl⟩
  have e1 : E.ar .mul .i64 a b = y := by rw [hE.ar, hy]; rfl
  conv => cbv
  simp only [e1]
  refine br (fun k => ?_) (fun k => ?_)
  ·have k : a = 0 := by simpa [hE.cmp, cmpR] using k
   conv => cbv
   rw [hR]; exact ⟨Ext.refl _, 0, .inl ⟨rfl, .inr (.inr (.inl ⟨g, .inl ⟨by subst k; simp [fits], by subst k; simp, rfl⟩⟩))⟩⟩
  have a0 : a ≠ 0 := by simpa [hE.cmp, cmpR] using k
  clear k
  conv => cbv
  refine br (fun k => ?_) (fun k => ?_)
  ·have k : b = 0 := by simpa [hE.cmp, cmpR] using k
   conv => cbv
   rw [hR]; exact ⟨Ext.refl _, 0, .inl ⟨rfl, .inr (.inr (.inl ⟨g, .inl ⟨by subst k; simp [fits], by subst k; simp, rfl⟩⟩))⟩⟩
  have b0 : b ≠ 0 := by simpa [hE.cmp, cmpR] using k
  clear k
  conv => cbv
  refine st_quo hE b0 fun q hq => ?_
  have hok := mul_ok ha hb b0
  rw [← hy, ← hq] at hok
  have good : fits (a * b) → R (.tuple ⟨[.int .i64 y, .nilIface]⟩) w := fun hf => by
   rw [hR]; exact ⟨Ext.refl _, y, .inl ⟨rfl, .inr (.inr (.inl ⟨g, .inl ⟨hf, by rw [hy]; exact wrap_in hf.1 hf.2, rfl⟩⟩))⟩⟩
  have bad : ¬ fits (a * b) → ∀ w2, Same w w2 → R (.tuple ⟨[.int .i64 0, .iface 391 (.pointer (some o))]⟩) w2 := fun hf w2 hs2 => by
   rw [hR]; exact ⟨hs2.ext, 0, .inr (.inl ⟨rfl, .inr (.inr (.inl ⟨g, .inr ⟨hf, rfl, rfl⟩⟩))⟩)⟩
  clear hR
  have P : ∀ x y : Int, E.cmp .eql x y = true → x = y := fun x y h => by rw [hE.cmp] at h; simpa [cmpR] using h
  have N : ∀ x y : Int, ¬ E.cmp .eql x y = true → x ≠ y := fun x y h => by rw [hE.cmp] at h; simpa [cmpR] using h
  conv => cbv
  refine br (fun c1 => ?_) (fun c1 => ?_)
  ·have c1 : q = a := P _ _ c1
   conv => cbv
   refine br (fun c2 => ?_) (fun c2 => ?_)
   ·have c2 : b = -1 := P _ _ c2
    conv => cbv
    refine brn (fun c3 => ?_) (fun c3 => ?_)
    ·have c3 : a = -9223372036854775808 := P _ _ c3
     conv => cbv
     refine draw_q hr fol (by kernel_rfl) fun E' hE' => ?_
     conv => cbv
     refine st_load hE' cErr he.co ?_
     conv => cbv
     intro w2 hs2
     conv => cbv
     exact bad (fun hf => (hok.2 hf).2.1 ⟨c2, c3⟩) _ hs2
    ·have c3 : a ≠ -9223372036854775808 := N _ _ c3
     conv => cbv
     refine br (fun c4 => ?_) (fun c4 => ?_)
     ·have c4 : a = -1 := P _ _ c4
      conv => cbv
      refine brn (fun c5 => ?_) (fun c5 => ?_)
      ·have c5 : b = -9223372036854775808 := P _ _ c5
       omega
      ·conv => cbv
       exact good (hok.1 ⟨c1, fun h => c3 h.2, fun h => by omega⟩)
     ·have c4 : a ≠ -1 := N _ _ c4
      conv => cbv
      exact good (hok.1 ⟨c1, fun h => c3 h.2, fun h => by omega⟩)
   ·have c2 : b ≠ -1 := N _ _ c2
    conv => cbv
    refine br (fun c4 => ?_) (fun c4 => ?_)
    ·have c4 : a = -1 := P _ _ c4
     conv => cbv
     refine brn (fun c5 => ?_) (fun c5 => ?_)
     ·have c5 : b = -9223372036854775808 := P _ _ c5
      conv => cbv
      refine draw_q hr fol (by kernel_rfl) fun E' hE' => ?_
      conv => cbv
      refine st_load hE' cErr he.co ?_
      conv => cbv
      intro w2 hs2
      conv => cbv
      exact bad (fun hf => (hok.2 hf).2.2 ⟨c4, c5⟩) _ hs2
     ·have c5 : b ≠ -9223372036854775808 := N _ _ c5
      conv => cbv
      exact good (hok.1 ⟨c1, fun h => c2 h.1, fun h => c5 h.2⟩)
    ·have c4 : a ≠ -1 := N _ _ c4
     conv => cbv
     exact good (hok.1 ⟨c1, fun h => c2 h.1, fun h => c4 h.1⟩)
  ·have c1 : q ≠ a := N _ _ c1
   conv => cbv
   refine draw_q hr fol (by kernel_rfl) fun E' hE' => ?_
   conv => cbv
   refine st_load hE' cErr he.co ?_
   conv => cbv
   intro w2 hs2
   conv => cbv
   exact bad (fun hf => c1 (hok.2 hf).1) _ hs2
 have g3 : op ≠ 3 := by simpa [hE.cmp, cmpR] using g
 clear g
 have T' : ∀ x y : Int, x ≠ y → E.cmp .neq x y = true := fun x y h => by rw [hE.cmp]; simp [cmpR, h]
 have F' : ∀ x y : Int, x = y → E.cmp .neq x y = false := fun x y h => by rw [hE.cmp]; simp [cmpR, h]
 conv => cbv
 refine br (fun g => ?_) (fun g => ?_)
 ·have g : op = 4 := by simpa [hE.cmp, cmpR] using g
  conv => cbv
  refine br (fun k => ?_) (fun k => ?_)
  ·have k : b = 0 := by simpa [hE.cmp, cmpR] using k
   conv => cbv
   refine draw_q hr fol (by kernel_rfl) fun E' hE' => ?_
   conv => cbv
   refine st_load hE' cErr he.cz ?_
   conv => cbv
   intro w2 hs2
   conv => cbv
   rw [hR]; exact ⟨hs2.ext, 0, .inr (.inr ⟨rfl, .inr (.inr (.inr (.inl ⟨.inl g, k, rfl, rfl⟩)))⟩)⟩
  have b0 : b ≠ 0 := by simpa [hE.cmp, cmpR] using k
  clear k
  have hok := div_ok ha b0
  have P' : ∀ x y : Int, E.cmp .neq x y = true → x ≠ y := fun x y h => by rw [hE.cmp] at h; simpa [cmpR] using h
  have N' : ∀ x y : Int, ¬ E.cmp .neq x y = true → x = y := fun x y h => by rw [hE.cmp] at h; simpa [cmpR] using h
  conv => cbv
  refine br (fun c1 => ?_) (fun c1 => ?_)
  ·have c1 : a ≠ -9223372036854775808 := P' _ _ c1
   conv => cbv
   refine st_quo hE b0 fun q hq => ?_
   have hf := hok.1 (.inl c1)
   conv => cbv
   rw [hR]; exact ⟨Ext.refl _, q, .inl ⟨rfl, .inr (.inr (.inr (.inr (.inl ⟨g, b0, .inl ⟨hf, by rw [hq]; exact wrap_in hf.1 hf.2, rfl⟩⟩))))⟩⟩
  ·have c1 : a = -9223372036854775808 := N' _ _ c1
   conv => cbv
   refine br (fun c2 => ?_) (fun c2 => ?_)
   ·have c2 : b ≠ -1 := P' _ _ c2
    conv => cbv
    refine st_quo hE b0 fun q hq => ?_
    have hf := hok.1 (.inr c2)
    conv => cbv
    rw [hR]; exact ⟨Ext.refl _, q, .inl ⟨rfl, .inr (.inr (.inr (.inr (.inl ⟨g, b0, .inl ⟨hf, by rw [hq]; exact wrap_in hf.1 hf.2, rfl⟩⟩))))⟩⟩
   ·have c2 : b = -1 := N' _ _ c2
    conv => cbv
    refine draw_q hr fol (by kernel_rfl) fun E' hE' => ?_
    conv => cbv
    refine st_load hE' cErr he.co ?_
    conv => cbv
    intro w2 hs2
    conv => cbv
    rw [hR]; exact ⟨hs2.ext, 0, .inr (.inl ⟨rfl, .inr (.inr (.inr (.inr (.inl ⟨g, b0, .inr ⟨fun hf => (hok.2 hf).elim (fun h => h c1) (fun h => h c2), rfl, rfl⟩⟩))))⟩)⟩
 have g4 : op ≠ 4 := by simpa [hE.cmp, cmpR] using g
 clear g
 conv => cbv
 refine br (fun g => ?_) (fun g => absurd (T op 5 (by omega)) g)
 have g : op = 5 := by simpa [hE.cmp, cmpR] using g
 conv => cbv
 refine br (fun k => ?_) (fun k => ?_)
 ·have k : b = 0 := by simpa [hE.cmp, cmpR] using k
  conv => cbv
  refine draw_q hr fol (by kernel_rfl) fun E' hE' => ?_
  conv => cbv
  refine st_load hE' cErr he.cz ?_
  conv => cbv
  intro w2 hs2
  conv => cbv
  rw [hR]; exact ⟨hs2.ext, 0, .inr (.inr ⟨rfl, .inr (.inr (.inr (.inl ⟨.inr g, k, rfl, rfl⟩)))⟩)⟩
 have b0 : b ≠ 0 := by simpa [hE.cmp, cmpR] using k
 clear k
 have hf := rem_ok (a := a) hb b0
 conv => cbv
 refine br (fun k => ?_) (fun k => ?_)
 ·have k : b = -1 := by simpa [hE.cmp, cmpR] using k
  conv => cbv
  rw [hR]; exact ⟨Ext.refl _, 0, .inl ⟨rfl, .inr (.inr (.inr (.inr (.inr (.inl ⟨g, b0, .inl ⟨hf, by subst k; simp, rfl⟩⟩)))))⟩⟩
 ·conv => cbv
  refine st_rem hE b0 fun q hq => ?_
  conv => cbv
  rw [hR]; exact ⟨Ext.refl _, q, .inl ⟨rfl, .inr (.inr (.inr (.inr (.inr (.inl ⟨g, b0, .inl ⟨hf, hq, rfl⟩⟩)))))⟩⟩
theorem zBool : (Tryz.prog.info? 4).map (·.size) = some 1 := by kernel_rfl
theorem sCalc_f {w : World} (op a b : Int) (ha : fits a) (hb : fits b) :
  FC Tryz.prog 156 [.int .i64 op, .int .i64 a, .int .i64 b] w fun u _ => ∃ r c, u = .tuple ⟨[.int .i64 r, .int .i64 c]⟩ ∧ CalcOf op a b r c := by
 refine FC.intro (cs := []) Tryz.func156 (by kernel_rfl) fun E R hE hr hR => ?_
 obtain ⟨n, hn⟩ : ∃ n : Bool, n = true ↔ a < 0 := ⟨decide (a < 0), by simp⟩
 obtain ⟨n', hn'⟩ : ∃ n : Bool, n = true ↔ b < 0 := ⟨decide (b < 0), by simp⟩
 obtain ⟨l, hl⟩ : ∃ l : Int, l = a.natAbs := ⟨_, rfl⟩
 obtain ⟨l', hl'⟩ : ∃ l : Int, l = b.natAbs := ⟨_, rfl⟩
 have hfa := ha
 have hfb := hb
 unfold fits at ha hb
 have ea : sg n l = a := by rw [hl]; exact sg_of hn
 have eb : sg n' l' = b := by rw [hl']; exact sg_of hn'
 conv => cbv
 refine st_v hr (bigOf_v a hfa n l hn hl w) fun w1 hx => ?_
 conv => cbv
 refine st_alloc hr tBig rfl fun x w2 hx2 hx0 => ?_
 have hX := hx0 _ hx.size
 replace hx := hx.trans hx2
 conv => cbv
 refine st_putS hr zBig hX (add_zero _).symm (by simp) (by simp [Value.oneCell']) fun w3 hw hX2 => ?_
 replace hx := hx.then (hw.bel hX hx.size)
 simp only [a1_, a2_, a3_, a4_, a5_, a6_, a7_] at hX2
 clear hX hx0 hw hx2
 conv => cbv
 refine st_v hr (bigOf_v b hfb n' l' hn' hl' _) fun w4 hx4 => ?_
 replace hX2 := hX2.bel hx4
 replace hx := hx.trans hx4
 conv => cbv
 refine st_alloc hr tBig rfl fun y w5 hx5 hy0 => ?_
 have hY := hy0 _ hx.size
 have axy := (hX2.apart (hy0 _ (n1_ _)) (n1_ _)).1
 replace hX2 := hX2.bel hx5
 replace hx := hx.trans hx5
 conv => cbv
 refine st_putS hr zBig hY (add_zero _).symm (by simp) (by simp [Value.oneCell']) fun w6 hw hY2 => ?_
 replace hx := hx.then (hw.bel hY hx.size)
 replace hX2 := hX2.wr hw axy
 simp only [a1_, a2_, a3_, a4_, a5_, a6_, a7_] at hY2
 clear hY hy0 hw hx5 hx4
 have P : ∀ x y : Int, E.cmp .eql x y = true → x = y := fun x y h => by rw [hE.cmp] at h; simpa [cmpR] using h
 have N : ∀ x y : Int, ¬ E.cmp .eql x y = true → x ≠ y := fun x y h => by rw [hE.cmp] at h; simpa [cmpR] using h
 conv => cbv
 refine br (fun g => ?_) (fun g => ?_)
 ·have g : op = 1 := P _ _ g
  conv => cbv
  refine st_loadS hE tBig rfl hX2.at ?_
  conv => cbv
  refine st_loadS hE tBig rfl hY2.at ?_
  conv => cbv
  refine st_f hr (sum_f n n' l l' _ (by omega) (by omega) (by omega) (by omega)) fun u w7 hx7 ⟨n2, h2, l2, eu, q0, q1, q2, q3⟩ => ?_
  subst eu
  conv => cbv
  refine st_f hr (small_f n2 h2 l2 _ q0 q1 q2) fun u w8 hx8 ⟨r, c, eu, ho⟩ => ?_
  subst eu
  rw [q3, ea, eb] at ho
  conv => cbv
  rw [hR]; exact ⟨(hx.trans hx7).trans hx8, r, c, rfl, .inl ⟨g, ho⟩⟩
 have g1 : op ≠ 1 := N _ _ g
 clear g
 conv => cbv
 refine br (fun g => ?_) (fun g => ?_)
 ·have g : op = 2 := P _ _ g
  obtain ⟨n3, hn3⟩ : ∃ n3 : Bool, n3 = !n' := ⟨_, rfl⟩
  have e3 : (if n' = true then false else true) = n3 := by rw [hn3]; cases n' <;> rfl
  have eb3 : sg n3 l' = -b := by rw [← eb, hn3]; cases n' <;> simp [sg]
  conv => cbv
  (refine st_fld hE fB0 fun p hp => ?_; (conv => cbv); refine st_load hE cBool (by rw [hp]; exact (hY2).at _ _ rfl) ?_; clear hp; (conv => cbv))
  refine st_fld hE fB0 fun p hp => ?_
  conv => cbv
  refine st_put hr zBool hY2 hp (by simp) rfl fun w7 hw hY3 => ?_
  replace hx := hx.then (hw.bel hY2 hx.size)
  replace hX2 := hX2.wr hw axy
  have hY3' : Box w.heap.size 327 3 w7 y [.bool n3, .int .u64 0, .int .u64 l'] := by
   have : (Value.bool (if n' = true then false else true)) = .bool n3 := by rw [e3]
   simp only [b4_] at hY3
   rw [← e3]
   cases n' <;> exact hY3
  conv => cbv
  refine st_loadS hE tBig rfl hX2.at ?_
  conv => cbv
  refine st_loadS hE tBig rfl hY3'.at ?_
  conv => cbv
  refine st_f hr (sum_f n n3 l l' _ (by omega) (by omega) (by omega) (by omega)) fun u w8 hx8 ⟨n2, h2, l2, eu, q0, q1, q2, q3⟩ => ?_
  subst eu
  conv => cbv
  refine st_f hr (small_f n2 h2 l2 _ q0 q1 q2) fun u w9 hx9 ⟨r, c, eu, ho⟩ => ?_
  subst eu
  rw [q3, ea, eb3, ← Int.sub_eq_add_neg] at ho
  conv => cbv
  rw [hR]; exact ⟨(hx.trans hx8).trans hx9, r, c, rfl, .inr (.inl ⟨g, ho⟩)⟩
 have g2 : op ≠ 2 := N _ _ g
 clear g
 conv => cbv
 refine br (fun g => ?_) (fun g => ?_)
 ·have g : op = 3 := P _ _ g
  conv => cbv
  (refine st_fld hE fB2 fun p hp => ?_; (conv => cbv); refine st_load hE cU64 (by rw [hp]; exact (hX2).at _ _ rfl) ?_; clear hp; (conv => cbv))
  (refine st_fld hE fB2 fun p hp => ?_; (conv => cbv); refine st_load hE cU64 (by rw [hp]; exact (hY2).at _ _ rfl) ?_; clear hp; (conv => cbv))
  refine st_f hr (times_f l l' _ (by omega) (by omega) (by omega) (by omega)) fun u w7 hx7 ⟨h2, l2, eu, q0, q1, q2, q3⟩ => ?_
  subst eu
  replace hX2 := hX2.bel hx7
  replace hY2 := hY2.bel hx7
  replace hx := hx.trans hx7
  conv => cbv
  (refine st_fld hE fB0 fun p hp => ?_; (conv => cbv); refine st_load hE cBool (by rw [hp]; exact (hX2).at _ _ rfl) ?_; clear hp; (conv => cbv))
  (refine st_fld hE fB0 fun p hp => ?_; (conv => cbv); refine st_load hE cBool (by rw [hp]; exact (hY2).at _ _ rfl) ?_; clear hp; (conv => cbv))
  refine st_bne hE uBool fun v hv => ?_
  conv => cbv
  refine st_big hE ?_
  conv => cbv
  refine st_f hr (small_f v h2 l2 _ q0 q1 q2) fun u w8 hx8 ⟨r, c, eu, ho⟩ => ?_
  subst eu
  rw [q3, hl, hl', sg_mul hn hn' hv] at ho
  conv => cbv
  rw [hR]; exact ⟨hx.trans hx8, r, c, rfl, .inr (.inr (.inl ⟨g, ho⟩))⟩
 have g3 : op ≠ 3 := N _ _ g
 clear g
 have zero : ∀ w', Ext w w' → (op = 4 ∨ op = 5) → b = 0 → R (.tuple ⟨[.int .i64 0, .int .i64 2]⟩) w' := fun w' hx' ho hb0 => by
  rw [hR]; exact ⟨hx', 0, 2, rfl, .inr (.inr (.inr (.inl ⟨ho, hb0, rfl, rfl⟩)))⟩
 conv => cbv
 refine br (fun g => ?_) (fun g => ?_)
 ·have g4 : op = 4 := P _ _ g
  have t4 : E.cmp .eql op 4 = true := g
  clear g
  conv => cbv
  refine br (fun _ => ?_) (fun k => absurd t4 k)
  conv => cbv
  refine br (fun k => ?_) (fun k => ?_)
  ·have k : b = 0 := P _ _ k
   conv => cbv
   exact zero _ hx (.inl g4) k
  have b0 : b ≠ 0 := N _ _ k
  clear k
  conv => cbv
  refine br (fun _ => ?_) (fun k => absurd t4 k)
  conv => cbv
  refine draw_h [0, 1, 2, 3, 4, 5, 6, 7, 8, 9, 10] [(11, false), (12, true), (13, true), (14, true), (15, true)] hr fol (by kernel_rfl) fun E' hE' w7 hs7 S hS => ?_
  replace hX2 := hX2.bel hs7.ext
  replace hY2 := hY2.bel hs7.ext
  replace hx := hx.trans hs7.ext
  conv => cbv
  (refine st_fld hE' fB0 fun p hp => ?_; (conv => cbv); refine st_load hE' cBool (by rw [hp]; exact (hX2).at _ _ rfl) ?_; clear hp; (conv => cbv))
  (refine st_fld hE' fB0 fun p hp => ?_; (conv => cbv); refine st_load hE' cBool (by rw [hp]; exact (hY2).at _ _ rfl) ?_; clear hp; (conv => cbv))
  refine st_bne hE' uBool fun v hv => ?_
  conv => cbv
  (refine st_fld hE' fB2 fun p hp => ?_; (conv => cbv); refine st_load hE' cU64 (by rw [hp]; exact (hX2).at _ _ rfl) ?_; clear hp; (conv => cbv))
  (refine st_fld hE' fB2 fun p hp => ?_; (conv => cbv); refine st_load hE' cU64 (by rw [hp]; exact (hY2).at _ _ rfl) ?_; clear hp; (conv => cbv))
  refine st_quo hE' (by omega) fun q hq => ?_
  have hq2 : q = l.tdiv l' := by
   have h1 : (l.tdiv l') = l / l' := Int.tdiv_eq_ediv_of_nonneg (by omega)
   have h2 : 0 ≤ l / l' := Int.ediv_nonneg (by omega) (by omega)
   have h3 : l / l' ≤ l := Int.ediv_le_self _ (by omega)
   rw [hq]; exact u64_in (by omega) (by omega)
  have q0 : 0 ≤ q := by rw [hq2, Int.tdiv_eq_ediv_of_nonneg (by omega)]; exact Int.ediv_nonneg (by omega) (by omega)
  have q1 : q ≤ l := by rw [hq2, Int.tdiv_eq_ediv_of_nonneg (by omega)]; exact Int.ediv_le_self _ (by omega)
  conv => cbv
  refine st_big hE' ?_
  conv => cbv
  refine st_f hr (small_f v 0 q _ (by omega) q0 (by omega)) fun u w8 hx8 ⟨r, c, eu, ho⟩ => ?_
  subst eu
  refine ⟨hS _ hx8, ?_⟩
  rw [show (0 : Int) * 18446744073709551616 + q = q by omega, hq2, hl, hl', sg_div hn hn' hv] at ho
  conv => cbv
  rw [hR]; exact ⟨hx.trans hx8, r, c, rfl, .inr (.inr (.inr (.inr (.inl ⟨g4, b0, ho⟩))))⟩
 have g4 : op ≠ 4 := N _ _ g
 have t4 : ¬ E.cmp .eql op 4 = true := g
 clear g
 conv => cbv
 refine br (fun g => ?_) (fun g => ?_)
 ·have g5 : op = 5 := P _ _ g
  conv => cbv
  refine br (fun k => ?_) (fun k => ?_)
  ·have k : b = 0 := P _ _ k
   conv => cbv
   exact zero _ hx (.inr g5) k
  have b0 : b ≠ 0 := N _ _ k
  clear k
  conv => cbv
  refine br (fun k => absurd k t4) (fun _ => ?_)
  conv => cbv
  refine draw_h [0, 1, 2, 3, 4, 5, 6, 7] [(8, false), (9, true), (10, true), (11, true), (12, true)] hr fol (by kernel_rfl) fun E' hE' w7 hs7 S hS => ?_
  replace hX2 := hX2.bel hs7.ext
  replace hY2 := hY2.bel hs7.ext
  replace hx := hx.trans hs7.ext
  conv => cbv
  (refine st_fld hE' fB0 fun p hp => ?_; (conv => cbv); refine st_load hE' cBool (by rw [hp]; exact (hX2).at _ _ rfl) ?_; clear hp; (conv => cbv))
  (refine st_fld hE' fB2 fun p hp => ?_; (conv => cbv); refine st_load hE' cU64 (by rw [hp]; exact (hX2).at _ _ rfl) ?_; clear hp; (conv => cbv))
  (refine st_fld hE' fB2 fun p hp => ?_; (conv => cbv); refine st_load hE' cU64 (by rw [hp]; exact (hY2).at _ _ rfl) ?_; clear hp; (conv => cbv))
  refine st_rem hE' (by omega) fun q hq => ?_
  have q0 : 0 ≤ q := by rw [hq]; exact Int.tmod_nonneg _ (by omega)
  have q1 : q < 18446744073709551616 := by
   have := Int.tmod_lt_of_pos l (show 0 < l' by omega)
   omega
  conv => cbv
  refine st_big hE' ?_
  conv => cbv
  refine st_f hr (small_f n 0 q _ (by omega) q0 (by omega)) fun u w8 hx8 ⟨r, c, eu, ho⟩ => ?_
  subst eu
  refine ⟨hS _ hx8, ?_⟩
  rw [show (0 : Int) * 18446744073709551616 + q = q by omega, hq, hl, hl', sg_mod hn] at ho
  conv => cbv
  rw [hR]; exact ⟨hx.trans hx8, r, c, rfl, .inr (.inr (.inr (.inr (.inr (.inl ⟨g5, b0, ho⟩)))))⟩
 ·have g5 : op ≠ 5 := N _ _ g
  conv => cbv
  rw [hR]; exact ⟨hx, 0, 4, rfl, .inr (.inr (.inr (.inr (.inr (.inr ⟨by omega, rfl, rfl⟩)))))⟩
instance decPV (a b : PV) : Decidable (a = b) := decidable_of_iff (a.k = b.k ∧ a.n = b.n ∧ a.tx = b.tx ∧ a.xs = b.xs) ⟨fun ⟨h1, h2, h3, h4⟩ => by cases a; cases b; simp_all, fun h => by rw [h]; exact ⟨rfl, rfl, rfl, rfl⟩⟩
abbrev noS : ByteArray := ⟨#[]⟩
def truthV (b : Bool) : PV := ⟨1, if b = true then 1 else 0, noS, []⟩
def numV (z : Int) : PV := ⟨2, z, noS, []⟩
def setV (xs : List ByteArray) : PV := ⟨4, 0, noS, xs⟩
def outR (v : Int) : Int ⊕ PV := if fits v then .inr (numV v) else .inl 1
def calcR (op a b : Int) : Int ⊕ PV :=
 if op = 1 then outR (a + b) else if op = 2 then outR (a - b) else if op = 3 then outR (a * b)
 else if b = 0 then .inl 2 else if op = 4 then outR (a.tdiv b) else outR (a.tmod b)
def unionS (xs ys : List ByteArray) : List ByteArray := mrg (fun _ _ => true) xs ys
def opR (o : Int) (a b : PV) : Int ⊕ PV :=
 if o = 8 then calcR 2 0 a.n
 else if o = 9 then .inr (truthV (decide (a.n = 0)))
 else if o = 10 then .inr (numV a.xs.length)
 else if 11 ≤ o ∧ o ≤ 15 then calcR (o - 10) a.n b.n
 else if o = 16 then (if 64 < (unionS a.xs b.xs).length then .inl 3 else .inr (setV (unionS a.xs b.xs)))
 else if o = 17 then .inr (setV (picked a.xs b.xs true))
 else if o = 18 then .inr (setV (picked a.xs b.xs false))
 else if o = 19 then .inr (truthV (decide (a = b)))
 else if o = 20 then .inr (truthV (!decide (a = b)))
 else if o = 21 then .inr (truthV (decide (a.n < b.n)))
 else if o = 22 then .inr (truthV (decide (a.n ≤ b.n)))
 else if o = 23 then .inr (truthV (decide (a.tx ∈ b.xs)))
 else .inr (truthV (decide (picked a.xs b.xs false = [])))
def combR (o : Int) : List (Int ⊕ PV) → Int ⊕ PV
 | [a] => match a with
  | .inl c => .inl c
  | .inr x => opR o x x
 | [a, b] => match a with
  | .inl c => .inl c
  | .inr x => if (o = 25 ∧ x.n = 0) ∨ (o = 26 ∧ x.n = 1) then .inr x else if o = 25 ∨ o = 26 then b else match b with
   | .inl c => .inl c
   | .inr y => opR o x y
 | [a, b, c] => match a with
  | .inl e => .inl e
  | .inr x => if x.n = 1 then b else c
 | _ => .inl 0
def nonV : PV := ⟨0, 0, noS, []⟩
mutual
def evT (rq lets : List PV) : Tr → Int ⊕ PV
 | .con k n tx xs _ => .inr ⟨k, n, tx, xs⟩
 | .att n => .inr (rq.getD n.toNat nonV)
 | .lt n => .inr (lets.getD n.toNat nonV)
 | .nam _ _ => .inr nonV
 | .op o kids _ => combR o (evTs rq lets kids)
def evTs (rq lets : List PV) : List Tr → List (Int ⊕ PV)
 | [] => []
 | t :: l => evT rq lets t :: evTs rq lets l
end
def valV (ty : Int) (v : PV) : Prop := v.k = ty ∧ ((ty = 1 ∧ (v.n = 0 ∨ v.n = 1) ∧ v.tx = noS ∧ v.xs = []) ∨ (ty = 2 ∧ fits v.n ∧ v.tx = noS ∧ v.xs = []) ∨ (ty = 3 ∧ v.n = 0 ∧ v.xs = [] ∧ v.tx.size ≤ 9223372036854775807) ∨ (ty = 4 ∧ v.n = 0 ∧ v.tx = noS ∧ isSet v.xs))
theorem val1 {v : PV} (h : valV 1 v) : v.k = 1 ∧ (v.n = 0 ∨ v.n = 1) ∧ v.tx = noS ∧ v.xs = [] := by
 obtain ⟨hk, h | h | h | h⟩ := h
 ·exact ⟨hk, h.2⟩
 ·exact absurd h.1 (by decide)
 ·exact absurd h.1 (by decide)
 ·exact absurd h.1 (by decide)
theorem val2 {v : PV} (h : valV 2 v) : v.k = 2 ∧ fits v.n ∧ v.tx = noS ∧ v.xs = [] := by
 obtain ⟨hk, h | h | h | h⟩ := h
 ·exact absurd h.1 (by decide)
 ·exact ⟨hk, h.2⟩
 ·exact absurd h.1 (by decide)
 ·exact absurd h.1 (by decide)
theorem val4 {v : PV} (h : valV 4 v) : v.k = 4 ∧ v.n = 0 ∧ v.tx = noS ∧ isSet v.xs := by
 obtain ⟨hk, h | h | h | h⟩ := h
 ·exact absurd h.1 (by decide)
 ·exact absurd h.1 (by decide)
 ·exact absurd h.1 (by decide)
 ·exact ⟨hk, h.2⟩
theorem val_ty {ty : Int} {v : PV} (h : valV ty v) : v.k = ty ∧ (ty = 1 ∨ ty = 2 ∨ ty = 3 ∨ ty = 4) := by
 obtain ⟨hk, h | h | h | h⟩ := h
 ·exact ⟨hk, .inl h.1⟩
 ·exact ⟨hk, .inr (.inl h.1)⟩
 ·exact ⟨hk, .inr (.inr (.inl h.1))⟩
 ·exact ⟨hk, .inr (.inr (.inr h.1))⟩
theorem truth_val (b : Bool) : valV 1 (truthV b) := ⟨rfl, .inl ⟨rfl, by cases b <;> simp [truthV], rfl, rfl⟩⟩
theorem num_val {z : Int} (h : fits z) : valV 2 (numV z) := ⟨rfl, .inr (.inl ⟨rfl, h, rfl, rfl⟩)⟩
theorem set_val {xs : List ByteArray} (h : isSet xs) : valV 4 (setV xs) := ⟨rfl, .inr (.inr (.inr ⟨rfl, rfl, rfl, h⟩))⟩
def resV (ty : Int) : Int ⊕ PV → Prop
 | .inl c => c = 1 ∨ c = 2 ∨ c = 3
 | .inr v => valV ty v
theorem out_res (v : Int) : resV 2 (outR v) := by
 unfold outR; split
 ·rename_i h; exact num_val h
 ·exact .inl rfl
theorem calc_res (op a b : Int) : resV 2 (calcR op a b) := by
 unfold calcR
 (repeat' split) <;> first | exact out_res _ | exact .inr (.inl rfl)
theorem union_set {xs ys : List ByteArray} (hx : isSet xs) (hy : isSet ys) (hl : (unionS xs ys).length ≤ 64) : isSet (unionS xs ys) :=
 ⟨fun s hs => by
  have := (mrg_all hx.2.1 hy.2.1).2 s
  rcases List.mem_append.1 (this.1 hs) with h | h
  ·exact hx.1 s h
  ·exact hy.1 s h, (mrg_all hx.2.1 hy.2.1).1, hl⟩
theorem typG_cases {o : Int} {ts : List Int} (hk : (ts.length : Int) = kidsF o) (h1 : 1 ≤ ts.length) (hz : typG o ts ≠ 0) :
  (o = 8 ∧ ts = [2] ∧ typG o ts = 2) ∨ (o = 9 ∧ ts = [1] ∧ typG o ts = 1) ∨ (o = 10 ∧ ts = [4] ∧ typG o ts = 2) ∨ ((11 ≤ o ∧ o ≤ 15) ∧ ts = [2, 2] ∧ typG o ts = 2) ∨ ((16 ≤ o ∧ o ≤ 18) ∧ ts = [4, 4] ∧ typG o ts = 4) ∨
  ((o = 19 ∨ o = 20) ∧ (∃ a, ts = [a, a]) ∧ typG o ts = 1) ∨ ((o = 21 ∨ o = 22) ∧ ts = [2, 2] ∧ typG o ts = 1) ∨ (o = 23 ∧ ts = [3, 4] ∧ typG o ts = 1) ∨ (o = 24 ∧ ts = [4, 4] ∧ typG o ts = 1) ∨ ((o = 25 ∨ o = 26) ∧ ts = [1, 1] ∧ typG o ts = 1) ∨ (o = 27 ∧ (∃ a, ts = [1, a, a] ∧ typG o ts = a)) := by
 have hr : 8 ≤ o ∧ o ≤ 27 := by unfold kidsF at hk; (repeat' split at hk) <;> omega
 have : o = 8 ∨ o = 9 ∨ o = 10 ∨ o = 11 ∨ o = 12 ∨ o = 13 ∨ o = 14 ∨ o = 15 ∨ o = 16 ∨ o = 17 ∨ o = 18 ∨ o = 19 ∨ o = 20 ∨ o = 21 ∨ o = 22 ∨ o = 23 ∨ o = 24 ∨ o = 25 ∨ o = 26 ∨ o = 27 := by omega
 have hl : ts.length = 1 ∨ ts.length = 2 ∨ ts.length = 3 := by
  have : kidsF o ≤ 3 := kidsF_le o
  omega
 have h3 : (∃ a, ts = [a]) ∨ (∃ a b, ts = [a, b]) ∨ ∃ a b c, ts = [a, b, c] := by
  match ts, hl with
  | [a], _ => exact .inl ⟨a, rfl⟩
  | [a, b], _ => exact .inr (.inl ⟨a, b, rfl⟩)
  | [a, b, c], _ => exact .inr (.inr ⟨a, b, c, rfl⟩)
 rcases this with rfl | rfl | rfl | rfl | rfl | rfl | rfl | rfl | rfl | rfl | rfl | rfl | rfl | rfl | rfl | rfl | rfl | rfl | rfl | rfl <;>
  rcases h3 with ⟨a, rfl⟩ | ⟨a, b, rfl⟩ | ⟨a, b, c, rfl⟩ <;> simp [kidsF] at hk <;>
  simp [typG, typF, allT] at hz ⊢ <;> (try simp_all) <;> omega
theorem opR_res {o : Int} {a b : PV} {ty : Int} (h : (o = 8 ∧ valV 2 a ∧ ty = 2) ∨ (o = 9 ∧ ty = 1) ∨ (o = 10 ∧ valV 4 a ∧ ty = 2) ∨ ((11 ≤ o ∧ o ≤ 15) ∧ ty = 2) ∨ ((16 ≤ o ∧ o ≤ 18) ∧ valV 4 a ∧ valV 4 b ∧ ty = 4) ∨ ((19 ≤ o ∧ o ≤ 24) ∧ ty = 1)) : resV ty (opR o a b) := by
 unfold opR
 rcases h with ⟨h, _, rfl⟩ | ⟨h, rfl⟩ | ⟨h, h4, rfl⟩ | ⟨h, rfl⟩ | ⟨h, h4, h5, rfl⟩ | ⟨h, rfl⟩
 ·rw [if_pos h]; exact calc_res _ _ _
 ·rw [if_neg (by omega), if_pos h]; exact truth_val _
 ·rw [if_neg (by omega), if_neg (by omega), if_pos h]
  have := (val4 h4).2.2.2.2.2
  exact num_val (by unfold fits; omega)
 ·rw [if_neg (by omega), if_neg (by omega), if_neg (by omega), if_pos h]; exact calc_res _ _ _
 ·rw [if_neg (by omega), if_neg (by omega), if_neg (by omega), if_neg (by omega)]
  have hx := (val4 h4).2.2.2
  have hy := (val4 h5).2.2.2
  split
  ·split
   ·exact .inr (.inr rfl)
   ·rename_i q; exact set_val (union_set hx hy (by omega))
  ·split
   ·exact set_val (isSet_picked _ hx)
   ·rw [if_pos (by omega)]; exact set_val (isSet_picked _ hx)
 ·rw [if_neg (by omega), if_neg (by omega), if_neg (by omega), if_neg (by omega), if_neg (by omega), if_neg (by omega), if_neg (by omega)]
  (repeat' split) <;> exact truth_val _
theorem combR_res {o : Int} {ts : List Int} {rs : List (Int ⊕ PV)} (hk : (ts.length : Int) = kidsF o) (h1 : 1 ≤ ts.length) (hz : typG o ts ≠ 0) (hl : rs.length = ts.length) (h : ∀ (i : Nat) (t : Int) (r : Int ⊕ PV), ts[i]? = some t → rs[i]? = some r → resV t r) : resV (typG o ts) (combR o rs) := by
 have one : ∀ {a : Int}, ts = [a] → (∀ x, valV a x → resV (typG o ts) (opR o x x)) → resV (typG o ts) (combR o rs) := fun {a} e hx => by
  rw [e] at hl
  match rs, hl with
  | [r], _ =>
   have := h 0 a r (by rw [e]; rfl) rfl
   cases r with
   | inl c => exact this
   | inr x => exact hx x this
 have two : ∀ {a b : Int}, ts = [a, b] → o ≠ 25 → o ≠ 26 → (∀ x y, valV a x → valV b y → resV (typG o ts) (opR o x y)) → resV (typG o ts) (combR o rs) := fun {a b} e n1 n2 hx => by
  rw [e] at hl
  match rs, hl with
  | [r, s], _ =>
   have k1 := h 0 a r (by rw [e]; rfl) rfl
   have k2 := h 1 b s (by rw [e]; rfl) rfl
   cases r with
   | inl c => exact k1
   | inr x =>
    simp only [combR]
    rw [if_neg (by omega), if_neg (by omega)]
    cases s with
    | inl c => exact k2
    | inr y => exact hx x y k1 k2
 rcases typG_cases hk h1 hz with ⟨ho, e, ht⟩ | ⟨ho, e, ht⟩ | ⟨ho, e, ht⟩ | ⟨ho, e, ht⟩ | ⟨ho, e, ht⟩ | ⟨ho, ⟨a, e⟩, ht⟩ | ⟨ho, e, ht⟩ | ⟨ho, e, ht⟩ | ⟨ho, e, ht⟩ | ⟨ho, e, ht⟩ | ⟨ho, a, e, ht⟩
 ·exact one e fun x hx => by rw [ht]; exact opR_res (.inl ⟨ho, hx, rfl⟩)
 ·exact one e fun x hx => by rw [ht]; exact opR_res (.inr (.inl ⟨ho, rfl⟩))
 ·exact one e fun x hx => by rw [ht]; exact opR_res (.inr (.inr (.inl ⟨ho, hx, rfl⟩)))
 ·exact two e (by omega) (by omega) fun x y hx hy => by rw [ht]; exact opR_res (.inr (.inr (.inr (.inl ⟨ho, rfl⟩))))
 ·exact two e (by omega) (by omega) fun x y hx hy => by rw [ht]; exact opR_res (.inr (.inr (.inr (.inr (.inl ⟨ho, hx, hy, rfl⟩)))))
 ·exact two e (by omega) (by omega) fun x y hx hy => by rw [ht]; exact opR_res (.inr (.inr (.inr (.inr (.inr ⟨by omega, rfl⟩)))))
 ·exact two e (by omega) (by omega) fun x y hx hy => by rw [ht]; exact opR_res (.inr (.inr (.inr (.inr (.inr ⟨by omega, rfl⟩)))))
 ·exact two e (by omega) (by omega) fun x y hx hy => by rw [ht]; exact opR_res (.inr (.inr (.inr (.inr (.inr ⟨by omega, rfl⟩)))))
 ·exact two e (by omega) (by omega) fun x y hx hy => by rw [ht]; exact opR_res (.inr (.inr (.inr (.inr (.inr ⟨by omega, rfl⟩)))))
 ·rw [ht]
  rw [e] at hl
  match rs, hl with
  | [r, s], _ =>
   have k1 := h 0 1 r (by rw [e]; rfl) rfl
   have k2 := h 1 1 s (by rw [e]; rfl) rfl
   cases r with
   | inl c => exact k1
   | inr x =>
    simp only [combR]
    split
    ·exact k1
    ·exact k2
 ·rw [ht]
  rw [e] at hl
  match rs, hl with
  | [r, s, u], _ =>
   have k1 := h 0 1 r (by rw [e]; rfl) rfl
   have k2 := h 1 a s (by rw [e]; rfl) rfl
   have k3 := h 2 a u (by rw [e]; rfl) rfl
   cases r with
   | inl c => exact k1
   | inr x =>
    simp only [combR]
    split
    ·exact k2
    ·exact k3
mutual
def conOK : Tr → Prop
 | .con k n tx xs _ => valV k ⟨k, n, tx, xs⟩
 | .nam _ _ => False
 | .op _ kids _ => conOKs kids
 | _ => True
def conOKs : List Tr → Prop
 | [] => True
 | t :: l => conOK t ∧ conOKs l
end
structure LetsV (tys : List Int) (lets : List PV) : Prop where
 len : lets.length = tys.length
 val : ∀ (i : Nat) (ty : Int) (v : PV), tys[i]? = some ty → lets[i]? = some v → valV ty v
def ReqV (rq : List PV) : Prop := rq.length = 6 ∧ ∀ (i : Nat) (v : PV), rq[i]? = some v → valV (attrF i) v
mutual
theorem ev_ok {names : List ByteArray} {tys : List Int} {rq lets : List PV} (hq : ReqV rq) (hl : LetsV tys lets) : ∀ t : Tr, goodT tys.length t → conOK t → (tyT names tys t).2 = 0 → resV (tyT names tys t).1 (evT rq lets t)
 | .con k n tx xs at_, hg, hc, ht => by simp only [conOK] at hc; simp only [tyT, evT]; exact hc
 | .nam tx at_, hg, hc, ht => by simp only [conOK] at hc
 | .att n, hg, hc, ht => by
  simp only [goodT] at hg
  simp only [tyT, evT]
  have hlt : n.toNat < rq.length := by rw [hq.1]; omega
  have := hq.2 n.toNat _ (g2_ hlt)
  rw [show ((n.toNat : Nat) : Int) = n by omega] at this
  rw [List.getD_eq_getElem?_getD, g2_ hlt]
  exact this
 | .lt n, hg, hc, ht => by
  simp only [goodT] at hg
  simp only [tyT, evT, tyLt] at ht ⊢
  rw [if_neg (by omega)]
  have h1 : n.toNat < tys.length := by omega
  have h2 : n.toNat < lets.length := by rw [hl.len]; exact h1
  have := hl.val n.toNat _ _ (g2_ h1) (g2_ h2)
  rw [List.getD_eq_getElem?_getD, g2_ h1, List.getD_eq_getElem?_getD, g2_ h2]
  exact this
 | .op o kids at_, hg, hc, ht => by
  simp only [goodT] at hg
  simp only [conOK] at hc
  rw [tyT] at ht ⊢
  split at ht
  ·rename_i h; exact absurd ht h
  ·rename_i h
   rw [if_neg h]
   split at ht
   ·cases ht
   ·rename_i h2
    rw [if_neg h2]
    obtain ⟨k1, k2, k3⟩ := evs_ok hq hl kids hg.2.2 hc (Classical.byContradiction h)
    rw [evT]
    exact combR_res (by rw [k1]; exact hg.1) (by rw [k1]; exact hg.2.1) h2 (by rw [k2, k1]) k3
theorem evs_ok {names : List ByteArray} {tys : List Int} {rq lets : List PV} (hq : ReqV rq) (hl : LetsV tys lets) : ∀ l : List Tr, goodTs tys.length l → conOKs l → (tyTs names tys l).1 = 0 → (tyTs names tys l).2.length = l.length ∧ (evTs rq lets l).length = l.length ∧ ∀ (i : Nat) (t : Int) (r : Int ⊕ PV), (tyTs names tys l).2[i]? = some t → (evTs rq lets l)[i]? = some r → resV t r
 | [], _, _, _ => by simp [tyTs, evTs]
 | t :: l, hg, hc, ht => by
  simp only [goodTs] at hg
  simp only [conOKs] at hc
  rw [tyTs] at ht ⊢
  split at ht
  ·rename_i h; exact absurd ht h
  ·rename_i h
   rw [if_neg h]
   simp only at ht
   have h0 := ev_ok hq hl t hg.1 hc.1 (Classical.byContradiction h)
   obtain ⟨k1, k2, k3⟩ := evs_ok hq hl l hg.2 hc.2 ht
   rw [evTs]
   refine ⟨by simp [k1], by simp [k2], fun i x r hx hr => ?_⟩
   cases i with
   | zero => simp at hx hr; subst hx; subst hr; exact h0
   | succ i => exact k3 i x r (by simpa using hx) (by simpa using hr)
end
inductive Out where
 | deny
 | grant (xs : List ByteArray)
 | err (c : Int)
def grantR (r : Int ⊕ PV) : Out := match r with
 | .inl c => .err c
 | .inr v => .grant v.xs
def decR (rq : List PV) : List (PS × PT) → List PV → Out
 | [], _ => .err 0
 | (s, p) :: l, lets =>
  let last := match p.g with
   | none => Out.deny
   | some g => grantR (evT rq lets g)
  match p.c with
  | none => last
  | some c => match evT rq lets c with
   | .inl e => .err e
   | .inr v => if s.k = 1 then decR rq l (lets ++ [v]) else if v.n = 0 then decR rq l lets else last
theorem strEq_q {w : World} {A A1 : Option Addr} {n c n1 c1 : Nat} {zs ys : List ByteArray} (h : Strs w A n c zs) (h1 : Strs w A1 n1 c1 ys) :
  QB Tryz.prog 269 [.slice A n c, .slice A1 n1 c1] w (zs = ys) := by
 refine QB.intro (cs := []) Tryz.func269 (by kernel_rfl) fun w0 hx0 w1 hs E R hE hr hR => ?_
 replace h := (h.ext hx0).ext hs.ext
 replace h1 := (h1.ext hx0).ext hs.ext
 have hl := h.len
 have hl1 := h1.len
 have hle := h.le
 conv => cbv
 refine st_len hE tStrs fun x hx => ?_
 conv => cbv
 refine st_len hE tStrs fun x1 hx1 => ?_
 conv => cbv
 refine br (fun g => ?_) (fun g => ?_)
 ·have g : x ≠ x1 := by simpa [hE.cmp, cmpR] using g
  conv => cbv
  exact hR _ _ hs (by simp only [Bool.false_eq_true, false_iff]; exact fun e => g (by rw [e] at hl; omega))
 have g : n = n1 := by
  have : x = x1 := by simpa [hE.cmp, cmpR] using g
  omega
 subst g
 conv => cbv
 refine st_len hE tStrs fun x2 hx2 => ?_
 conv => cbv
 refine loop_rule hr (fun (s : Nat × Int) w' => s.1 ≤ n ∧ s.2 = (s.1 : Int) ∧ Same w1 w' ∧ zs.take s.1 = ys.take s.1) (fun s => [(0, .slice A n c), (1, .slice A1 n c1), (12, .int .i64 x2), (13, .int .i64 s.2)]) (fun s => n - s.1) (0, 0)
  (by simp [Fits, lk]) ⟨by simp, by simp, Same.refl _, by simp⟩ ?_
 rintro I hI ⟨i, ii⟩ w' ⟨hi, hii, hxw, hall⟩
 simp only at hi hii hall
 obtain ⟨ii', hii'⟩ : ∃ z, z = ii + 1 := ⟨_, rfl⟩
 conv => cbv
 refine br (fun g => ?_) (fun g => ?_)
 ·have g : i < n := by
   have : ii < x2 := by simpa [hE.cmp, cmpR] using g
   omega
  have e1 : E.ar .add .i64 ii 1 = ii' := by rw [hE.ar, hii']; exact wrap_in (by omega) (by omega)
  conv => cbv
  refine draw_q hr fol (by kernel_rfl) fun E' hE' => ?_
  conv => cbv
  refine st_str hE' tStrs (h.ext hxw.ext) (k := i) (by omega) g fun p u hu _ hp => ?_
  conv => cbv
  refine st_load hE' cStr hp ?_
  conv => cbv
  refine st_str hE' tStrs (h1.ext hxw.ext) (k := i) (by omega) g fun p2 y hy _ hp2 => ?_
  conv => cbv
  refine st_load hE' cStr hp2 ?_
  conv => cbv
  intro w2 hs2
  replace hxw := hxw.trans hs2
  conv => cbv
  refine br (fun g2 => ?_) (fun g2 => ?_)
  ·have g2 : u ≠ y := by have g3 : E'.scmp .neq u y = true := g2; rw [hE'.scmp, scmp_neq] at g3; exact g3
   conv => cbv
   exact hR _ _ (hs.trans hxw) (by
    simp only [Bool.false_eq_true, false_iff]
    intro e
    rw [e, hy] at hu
    exact g2 (Option.some.inj hu).symm)
  ·have g2 : u = y := by have g3 : ¬ E'.scmp .neq u y = true := g2; rw [hE'.scmp, scmp_neq] at g3; exact Classical.byContradiction g3
   conv => cbv
   simp only [e1]
   refine ⟨(i + 1, ii'), by simp [Fits, lk], hI _ _ ⟨by simp only; omega, by simp only; omega, hxw, ?_⟩, by simp only; omega⟩
   simp only
   rw [g4_, g4_, hall, hu, hy, g2]
 ·have g : i = n := by
   have : ¬ ii < x2 := by simpa [hE.cmp, cmpR] using g
   omega
  rw [g3_ (by omega), g3_ (by omega)] at hall
  conv => cbv
  exact hR _ _ (hs.trans hxw) (by simp [hall])
def ValM (w : World) (v : VV) : Prop := Strs w v.A v.m v.c v.p.xs ∧ v.p.tx.size ≤ 9223372036854775807
theorem ValM.ext {w w' : World} {v : VV} (h : ValM w v) (hx : Ext w w') : ValM w' v := ⟨h.1.ext hx, h.2⟩
theorem equal_f {w : World} {a b : VV} (ha : ValM w a) (hb : ValM w b) : FC Tryz.prog 198 [.agg ⟨vC a⟩, .agg ⟨vC b⟩] w fun v _ => ∃ r : Bool, v = .bool r ∧ (r = true ↔ a.p = b.p) := by
 refine FC.intro (cs := []) Tryz.func198 (by kernel_rfl) fun E R hE hr hR => ?_
 obtain ⟨⟨k, n, tx, xs⟩, A, m, c⟩ := a
 obtain ⟨⟨k', n', tx', xs'⟩, A', m', c'⟩ := b
 obtain ⟨ha, _⟩ := ha
 obtain ⟨hb, _⟩ := hb
 simp only at ha hb
 have no : ∀ {w'}, Ext w w' → ¬ (k = k' ∧ n = n' ∧ tx = tx' ∧ xs = xs') → R (.bool false) w' := fun hx q => by
  rw [hR]; exact ⟨hx, false, rfl, (fun z => by cases z), fun z => absurd (by cases z; exact ⟨rfl, rfl, rfl, rfl⟩) q⟩
 conv => cbv
 refine st_box hr fun a w1 hx h10 => ?_
 have h1 := h10 _ (n1_ _)
 conv => cbv
 refine st_box hr fun b w2 hx2 h20 => ?_
 have h2 := h20 _ hx.size
 replace h1 := h1.bel hx2
 replace hx := hx.trans hx2
 clear h10 h20 hx2
 conv => cbv
 (refine st_fld hE fIV0 fun p hp => ?_; (conv => cbv); refine st_load hE cInt (by rw [hp]; exact (h1).at _ _ rfl) ?_; clear hp; (conv => cbv))
 (refine st_fld hE fIV0 fun p hp => ?_; (conv => cbv); refine st_load hE cInt (by rw [hp]; exact (h2).at _ _ rfl) ?_; clear hp; (conv => cbv))
 refine br (fun g => ?_) (fun g => ?_)
 rotate_left
 ·have g : k ≠ k' := by simpa [hE.cmp, cmpR] using g
  conv => cbv
  exact no hx (fun q => g q.1)
 have g1 : k = k' := by simpa [hE.cmp, cmpR] using g
 conv => cbv
 (refine st_fld hE fIV1 fun p hp => ?_; (conv => cbv); refine st_load hE cI64 (by rw [hp]; exact (h1).at _ _ rfl) ?_; clear hp; (conv => cbv))
 (refine st_fld hE fIV1 fun p hp => ?_; (conv => cbv); refine st_load hE cI64 (by rw [hp]; exact (h2).at _ _ rfl) ?_; clear hp; (conv => cbv))
 refine br (fun g => ?_) (fun g => ?_)
 rotate_left
 ·have g : n ≠ n' := by simpa [hE.cmp, cmpR] using g
  conv => cbv
  exact no hx (fun q => g q.2.1)
 have g2 : n = n' := by simpa [hE.cmp, cmpR] using g
 conv => cbv
 (refine st_fld hE fIV2 fun p hp => ?_; (conv => cbv); refine st_load hE cStr (by rw [hp]; exact (h1).at _ _ rfl) ?_; clear hp; (conv => cbv))
 (refine st_fld hE fIV2 fun p hp => ?_; (conv => cbv); refine st_load hE cStr (by rw [hp]; exact (h2).at _ _ rfl) ?_; clear hp; (conv => cbv))
 refine br (fun g => ?_) (fun g => ?_)
 rotate_left
 ·have g : tx ≠ tx' := by have g3 : ¬ E.scmp .eql tx tx' = true := g; rw [hE.scmp, scmp_eql] at g3; exact g3
  conv => cbv
  exact no hx (fun q => g q.2.2.1)
 have g3 : tx = tx' := by have g3 : E.scmp .eql tx tx' = true := g; rw [hE.scmp, scmp_eql] at g3; exact g3
 conv => cbv
 (refine st_fld hE fIV3 fun p hp => ?_; (conv => cbv); refine st_load hE cStrs (by rw [hp]; exact (h1).at _ _ rfl) ?_; clear hp; (conv => cbv))
 (refine st_fld hE fIV3 fun p hp => ?_; (conv => cbv); refine st_load hE cStrs (by rw [hp]; exact (h2).at _ _ rfl) ?_; clear hp; (conv => cbv))
 refine st_qb hE (strEq_q (ha.ext hx) (hb.ext hx)) fun r hrr w3 hs => ?_
 conv => cbv
 rw [hR]
 refine ⟨hx.trans hs.ext, r, rfl, ?_⟩
 rw [hrr, g1, g2, g3]
 simp
section
variable {E : Sym} {w : World} {K : Value → World → Prop} {d : Option Tmp} {ty : TypeId} {pos : String} {aft : Array Edge} {g : Option (Nat × Bool)} {bq : Bool}
theorem run_bVt (k z : Int) (w : World) : (Instr.build 153 #[(0, .int .i64 k), (1, .int .i64 z)]).run Tryz.prog w = .ok (.agg #[.int .i64 k, .int .i64 z, .string ⟨#[]⟩, .slice none 0 0]) w := by kernel_rfl
theorem st_bVt (hE : EngB bq Tryz.prog E) {k z : Int} {x y : Operand} (hk : K (.agg ⟨[.int .i64 k, .int .i64 z, .string ⟨#[]⟩, .slice none 0 0]⟩) w) : E.stop ⟨d, .build 153 ⟨[(0, x), (1, y)]⟩, ty, pos, aft, g⟩ [.int .i64 k, .int .i64 z] w K := by
 refine hE.det (v := .agg ⟨[.int .i64 k, .int .i64 z, .string ⟨#[]⟩, .slice none 0 0]⟩) (fun w1 _ ρ hρ => ?_) hk
 simp only [opnds, b2_, b3_, b1_, and_true] at hρ
 have := run_bVt k z w1
 simp [execOp, hρ, this]
theorem run_bVk (k : Int) (w : World) : (Instr.build 153 #[(0, .int .i64 k)]).run Tryz.prog w = .ok (.agg #[.int .i64 k, .int .i64 0, .string ⟨#[]⟩, .slice none 0 0]) w := by kernel_rfl
theorem st_bVk (hE : EngB bq Tryz.prog E) {k : Int} {x : Operand} (hk : K (.agg ⟨[.int .i64 k, .int .i64 0, .string ⟨#[]⟩, .slice none 0 0]⟩) w) : E.stop ⟨d, .build 153 ⟨[(0, x)]⟩, ty, pos, aft, g⟩ [.int .i64 k] w K := by
 refine hE.det (v := .agg ⟨[.int .i64 k, .int .i64 0, .string ⟨#[]⟩, .slice none 0 0]⟩) (fun w1 _ ρ hρ => ?_) hk
 simp only [opnds, b2_, b3_, b1_, and_true] at hρ
 have := run_bVk k w1
 simp [execOp, hρ, this]
end
def trV (b : Bool) : VV := ⟨⟨1, if b = true then 1 else 0, ⟨#[]⟩, []⟩, none, 0, 0⟩
theorem trV_m (b : Bool) (w : World) : ValM w (trV b) := ⟨⟨rfl, by simp [trV], by simp [trV], ⟨by simp [trV], by simp [trV]⟩, by simp [trV]⟩, by simp [trV, ByteArray.size]⟩
theorem truth_f {w : World} (b : Bool) : FC Tryz.prog 211 [.bool b] w fun v _ => v = .agg ⟨vC (trV b)⟩ := by
 refine FC.intro (cs := []) Tryz.func211 (by kernel_rfl) fun E R hE hr hR => ?_
 cases b with
 | true =>
  conv => cbv
  refine st_alloc hr tIV rfl fun q w1 hx1 hq0 => ?_
  have hq := hq0 _ (n1_ _)
  conv => cbv
  refine st_bVt hE ?_
  conv => cbv
  refine st_putS hr (by kernel_rfl) hq (add_zero _).symm (by simp [zV]) (by simp [Value.oneCell']) fun w2 hw2 hq2 => ?_
  simp only [zV, a1_, a2_, a3_, a4_, a5_, a6_, a7_] at hq2
  conv => cbv
  refine st_cell hr tIV rfl hq2.at ?_
  rw [hR]; exact ⟨hx1.then (hw2.bel hq hx1.size), rfl⟩
 | false =>
  conv => cbv
  refine st_alloc hr tIV rfl fun q w1 hx1 hq0 => ?_
  have hq := hq0 _ (n1_ _)
  conv => cbv
  refine st_bVk hE ?_
  conv => cbv
  refine st_putS hr (by kernel_rfl) hq (add_zero _).symm (by simp [zV]) (by simp [Value.oneCell']) fun w2 hw2 hq2 => ?_
  simp only [zV, a1_, a2_, a3_, a4_, a5_, a6_, a7_] at hq2
  conv => cbv
  refine st_cell hr tIV rfl hq2.at ?_
  rw [hR]; exact ⟨hx1.then (hw2.bel hq hx1.size), rfl⟩
end Go.Proofs.YtkedmcebngachaaGreatDoor
namespace Go.Eng
set_option linter.unusedVariables false
set_option linter.unusedSimpArgs false
inductive Kz where
 | c
 | w
 | p
def ePh2Z (E : Sym) (S : World → Prop) (all : List Oper) : List (Nat × Kz) → Fr → World → (Fr → World → Prop) → Prop
 | [], F, w, K => K F w
 | (k, .c) :: l, F, w, K => match all[k]? with
  | none => False
  | some o => eOps E all [o] F w fun F' w' => S w' ∧ ePh2Z E S all l F' w' K
 | (k, .w) :: l, F, w, K => match all[k]? with
  | none => False
  | some o => eOps E all [o] F w fun F' w' => ePh2Z E S all l F' w' K
 | (k, .p) :: l, F, w, K => match all[k]? with
  | none => False
  | some o => eOps E.dull all [o] F w fun F' w' => ePh2Z E S all l F' w' K
def planZ2 (ops : Array Oper) (l0 : List Nat) : List (Nat × Kz) → Array Bool → Bool
 | [], listed => Region.ready .any ops listed == []
 | (k, .c) :: l, listed => Region.ready .any ops listed == [k] && planZ2 ops l0 l (listed.setIfInBounds k true)
 | (k, .w) :: l, listed => Region.ready .any ops listed == [k] && !(needS .any ops l0 k) && planZ2 ops l0 l (listed.setIfInBounds k true)
 | (k, .p) :: l, listed => Region.free .any ops listed k && (Region.ready .any ops listed).contains k && planZ2 ops l0 l (listed.setIfInBounds k true)
def planZ1 (ops : Array Oper) (l0 : List Nat) : List Nat → List (Nat × Kz) → Array Bool → Bool
 | [], l2, listed => planZ2 ops l0 l2 listed
 | k :: l, l2, listed => (l0.contains k || calmAt ops k) && Region.free .any ops listed k && (Region.ready .any ops listed).contains k && planZ1 ops l0 l l2 (listed.setIfInBounds k true)
def planZ (ops : Array Oper) (l0 l1 : List Nat) (l2 : List (Nat × Kz)) : Bool :=
 Region.noSelect ops && Nat.beq (l1.length + l2.length) ops.size && planZ1 ops l0 l1 l2 (Array.replicate ops.size false)
section
variable {P : Program} {Pn : List PanicEntry → World → Prop} {n : Nat}
theorem ePh2Z_sound {S : World → Prop} {all : List Oper} {l0 : List Nat} (hs : Region.noSelect all.toArray = true) (hd : ∀ o ∈ all, ∀ t, o.dst = some t → t < n) {K : Exit → Fr → World → Prop} : ∀ (l : List (Nat × Kz)) (listed : Array Bool) (F : Fr) (a : Act) (w : World), Kn n F a → planZ2 all.toArray l0 l listed = true → ePh2Z (real P Pn n) S all l F w (K .normal) → wpAnyU P .any all.toArray (QK Pn n K) S l0 l.length listed a w
 | [], listed, F, a, w, hk, hB, h => by
  have hr : Region.ready .any all.toArray listed = [] := by simpa [planZ2] using hB
  exact wpAnyU_done hr ⟨F, hk, h⟩ _
 | (k, .c) :: l, listed, F, a, w, hk, hB, h => by
  simp only [planZ2, Bool.and_eq_true] at hB
  obtain ⟨hr, hB⟩ := hB
  have hr : Region.ready .any all.toArray listed = [k] := by simpa using hr
  simp only [ePh2Z] at h
  split at h
  ·exact h.elim
  ·rename_i o ho
   refine ⟨fun q => (by rw [hr] at q; cases q), fun i hi => ?_⟩
   obtain rfl : i = k := by rw [hr] at hi; simpa using hi
   exact step_op (Pn := Pn) ho (hd o (m1_ ho)) hk (fun c w h => ⟨hk.defers, h⟩) (fun F' a' w' hk' ⟨h1, h2⟩ => ⟨fun _ _ => h1, ePh2Z_sound hs hd l _ F' a' w' hk' hB h2⟩) h
 | (k, .w) :: l, listed, F, a, w, hk, hB, h => by
  simp only [planZ2, Bool.and_eq_true, Bool.not_eq_true'] at hB
  obtain ⟨⟨hr, hn⟩, hB⟩ := hB
  have hr : Region.ready .any all.toArray listed = [k] := by simpa using hr
  simp only [ePh2Z] at h
  split at h
  ·exact h.elim
  ·rename_i o ho
   refine ⟨fun q => (by rw [hr] at q; cases q), fun i hi => ?_⟩
   obtain rfl : i = k := by rw [hr] at hi; simpa using hi
   exact step_op (Pn := Pn) ho (hd o (m1_ ho)) hk (fun c w h => ⟨hk.defers, h⟩) (fun F' a' w' hk' h2 => ⟨fun q => (by rw [hn] at q; cases q), ePh2Z_sound hs hd l _ F' a' w' hk' hB h2⟩) h
 | (k, .p) :: l, listed, F, a, w, hk, hB, h => by
  simp only [planZ2, Bool.and_eq_true] at hB
  obtain ⟨⟨hf, hr⟩, hB⟩ := hB
  simp only [ePh2Z] at h
  split at h
  ·exact h.elim
  ·rename_i o ho
   obtain ⟨v, F', hy, hk', h⟩ := step_yields (P := P) (n := n) (S := fun _ => True) (E' := (real P Pn n).dull) (fun _ _ => rfl) (fun _ _ _ h => h.elim) (hd o (m1_ ho)) hk h
   exact wpAnyU_takeP (by simpa using ho) hs hf hr panic_put hy (ePh2Z_sound hs hd l _ F' _ w hk' hB h)
theorem ePh1Z_sound {S : World → Prop} {w : World} (hSE : ∀ w1, S w1 → Ext w w1) {all : List Oper} {l0 : List Nat} (hs : Region.noSelect all.toArray = true) (hd : ∀ o ∈ all, ∀ t, o.dst = some t → t < n) {K : Exit → Fr → World → Prop} {w0 : World} (hS : S w0) (l2 : List (Nat × Kz)) (K1 : Fr → World → Prop) : ∀ (l : List Nat) (listed : Array Bool) (F : Fr) (a : Act), Kn n F a → Closed .any all.toArray listed → planZ1 all.toArray l0 l l2 listed = true → ePh1 (hreal P) all l F w K1 →
  (∀ F a listed, Kn n F a → planZ2 all.toArray l0 l2 listed = true → K1 F w → wpAnyU P .any all.toArray (QK Pn n K) S l0 l2.length listed a w0) → wpAnyU P .any all.toArray (QK Pn n K) S l0 (l.length + l2.length) listed a w0
 | [], listed, F, a, hk, hcl, hB, h, h2 => by simpa using h2 F a listed hk hB h
 | k :: l, listed, F, a, hk, hcl, hB, h, h2 => by
  simp only [planZ1, Bool.and_eq_true] at hB
  obtain ⟨⟨⟨hl, hf⟩, hr⟩, hB⟩ := hB
  simp only [ePh1] at h
  split at h
  ·exact h.elim
  ·rename_i o ho
   by_cases hl0 : l0.contains k = true
   ·obtain ⟨v, F', hy, hk', h⟩ := step_yields (P := P) (n := n) (S := S) (E' := hreal P) (fun _ _ => rfl) (fun _ _ _ ⟨v, h1, h2⟩ => ⟨v, fun w1 hw1 => h1 w1 (hSE w1 hw1), h2⟩) (hd o (m1_ ho)) hk h
    have := wpAnyU_take (l := l0) (by simpa using ho) (by simpa using hl0) hs hf hr hcl panic_put hy hS (ePh1Z_sound hSE hs hd hS l2 K1 l _ F' _ hk' (closed_set hcl hr) hB h h2)
    simpa [Nat.add_right_comm] using this
   ·have hc : calmAt all.toArray k = true := by
     rcases Bool.or_eq_true_iff.1 hl with q | q
     ·exact absurd q hl0
     ·exact q
    obtain ⟨x, hx⟩ : ∃ x, o.op = .move x := by
     unfold calmAt at hc
     rw [show all.toArray[k]? = some o by simpa using ho] at hc
     simp only at hc
     split at hc
     ·rename_i x hx; exact ⟨x, hx⟩
     ·cases hc
    obtain ⟨v, F', hy, hk', h⟩ := step_yields (P := P) (n := n) (S := fun _ => True) (E' := (hreal P).dull) (fun _ _ => rfl) (fun _ _ _ h => h.elim) (hd o (m1_ ho)) hk (eOps_calm hx h)
    have := wpAnyU_takeP (S := S) (l := l0) (by simpa using ho) hs hf hr panic_put hy (ePh1Z_sound hSE hs hd hS l2 K1 l _ F' _ hk' (closed_set hcl hr) hB h h2)
    simpa [Nat.add_right_comm] using this
theorem draw_z (l0 l1 : List Nat) (l2 : List (Nat × Kz)) {E : Sym} (hE : E = real P Pn n) {id : Nat} {ops : Array Oper} {F : Fr} {w : World} {K : Exit → Fr → World → Prop} (hm : P.follows .mixedOrders = true) (hB : planZ ops l0 l1 l2 = true)
  (h : ∀ E', EngB false P E' → ∀ w0, Same w w0 → ∀ S : World → Prop, (∀ w', Ext w0 w' → S w') → ePh1 E' ops.toList l1 F w0 (fun F' w' => ePh2Z E S ops.toList l2 F' w' (K .normal))) : E.draw id ops F w K := by
 subst hE
 intro hd a hk
 simp only [planZ, Bool.and_eq_true, Nat.beq_eq] at hB
 obtain ⟨⟨hs, hl⟩, hB⟩ := hB
 have hs' : Region.noSelect ops.toList.toArray = true := by simpa using hs
 have := ePh1Z_sound (Pn := Pn) (K := K) (n := n) (l0 := l0) (S := Ext { w with drawn := w.drawn + 1 }) (w := { w with drawn := w.drawn + 1 }) (fun _ h => h) hs' (okDst_ops hd) (Ext.refl _) l2 _ l1 (Array.replicate ops.size false) F a hk (fun k o _ h => by simp only [Array.getD_eq_getD_getElem?, Array.getElem?_replicate] at h; split at h <;> simp at h) (by simpa using hB) (h (hreal P) (Eng.h P) _ (Same.drew w) _ (fun _ h => h))
  (fun F a listed hk hB h => ePh2Z_sound hs' (okDst_ops hd) l2 listed F a _ hk hB h)
 rw [hl] at this
 exact wp_region_any hm (wpAny_of_U _ _ _ _ (by simpa using this))
end
section
variable {P : Program} {S : World → Prop} {E : Sym} {w : World} {K : Value → World → Prop}
theorem sw_det (hE : EngW S P E) {o : Oper} {vals : List Value} {v : Value} (h : ∀ w1, ∀ ρ : Operand → Value, (opnds o.op).map ρ = vals → (execOp ρ o).run P w1 = .ok (.value v) w1) (hk : K v w) : E.stop o vals w K := hE.det (fun w1 _ ρ hρ => h w1 ρ hρ) hk
end
end Go.Eng
namespace Go.Proofs.YtkedmcebngachaaGreatDoor
open Go.Eng
set_option linter.unusedVariables false
set_option linter.unusedSimpArgs false
theorem IndexS_q {w : World} {A : Option Addr} {n c : Nat} {xs : List ByteArray} (h : Strs w A n c xs) (s : ByteArray) : FC Tryz.prog 288 [.slice A n c, .string s] w fun v _ => ∃ r : Int, v = .int .i64 r ∧ (0 ≤ r ↔ s ∈ xs) := by
 refine FC.intro (cs := []) Tryz.func288 (by kernel_rfl) fun E R hE hr hR => ?_
 have hl := h.len
 have hle := h.le
 conv => cbv
 refine st_len hE tStrs fun x hx' => ?_
 conv => cbv
 refine loop_rule hr (fun (q : Nat × Int) w' => q.1 ≤ n ∧ q.2 = (q.1 : Int) ∧ Ext w w' ∧ s ∉ xs.take q.1) (fun q => [(0, .slice A n c), (1, .string s), (7, .int .i64 x), (8, .int .i64 q.2)]) (fun q => n - q.1) (0, 0)
  (by simp [Fits, lk]) ⟨by simp, by simp, Ext.refl _, by simp⟩ ?_
 rintro J hJ ⟨j, jj⟩ w' ⟨hj, hjj, hx, hno⟩
 simp only at hj hjj hno
 obtain ⟨jk, hjk⟩ : ∃ z, z = jj + 1 := ⟨_, rfl⟩
 conv => cbv
 refine br (fun g => ?_) (fun g => ?_)
 ·have g : j < n := by
   have : jj < x := by simpa [hE.cmp, cmpR] using g
   omega
  have ej : E.ar .add .i64 jj 1 = jk := by rw [hE.ar, hjk]; exact wrap_in (by omega) (by omega)
  conv => cbv
  refine st_str hE tStrs (h.ext hx) hjj g fun p u hsx hz hp => ?_
  conv => cbv
  refine st_load hE cStr hp ?_
  conv => cbv
  refine br (fun g2 => ?_) (fun g2 => ?_)
  ·have g2 : s = u := by
    have h : E.scmp .eql s u = true := g2
    rw [hE.scmp] at h
    exact (scmp_eql s u).1 h
   conv => cbv
   rw [hR]; exact ⟨hx, jj, rfl, iff_of_true (by omega) (by rw [g2]; exact m1_ hsx)⟩
  ·have g2 : s ≠ u := by
    intro e
    have h : ¬ E.scmp .eql s u = true := g2
    rw [hE.scmp] at h
    exact h ((scmp_eql s u).2 e)
   conv => cbv
   simp only [ej]
   refine ⟨(j + 1, jk), by simp [Fits, lk], hJ _ _ ⟨by simp only; omega, by simp only; omega, hx, ?_⟩, by simp only; omega⟩
   simp only
   rw [g4_, hsx, Option.toList_some, List.mem_append]
   rintro (q | q)
   ·exact hno q
   ·exact g2 (by simpa using q)
 ·have g : j = n := by
   have : ¬ jj < x := by simpa [hE.cmp, cmpR] using g
   omega
  rw [g3_ (by omega)] at hno
  conv => cbv
  rw [hR]; exact ⟨hx, -1, rfl, iff_of_false (by omega) hno⟩
theorem Contains_f {w : World} {A : Option Addr} {n c : Nat} {xs : List ByteArray} (h : Strs w A n c xs) (s : ByteArray) : FC Tryz.prog 256 [.slice A n c, .string s] w fun v _ => ∃ b : Bool, v = .bool b ∧ (b = true ↔ s ∈ xs) := by
 refine FC.intro (cs := []) Tryz.func256 (by kernel_rfl) fun E R hE hr hR => ?_
 conv => cbv
 refine st_f hr (IndexS_q h s) fun v w1 hx ⟨r, ev, hr2⟩ => ?_
 subst ev
 conv => cbv
 rw [hR]; exact ⟨hx, E.cmp .geq r 0, rfl, by rw [← hr2]; simp [hE.cmp, cmpR]⟩
section
variable {E : Sym} {w : World} {K : Value → World → Prop} {d : Option Tmp} {ty : TypeId} {pos : String} {aft : Array Edge} {g : Option (Nat × Bool)} {bq : Bool}
theorem run_bV0 (w : World) : (Instr.build 153 #[]).run Tryz.prog w = .ok (.agg ⟨zV⟩) w := by kernel_rfl
theorem run_bV2 (z : Int) (w : World) : (Instr.build 153 #[(0, .int .i64 2), (1, .int .i64 z)]).run Tryz.prog w = .ok (.agg ⟨[.int .i64 2, .int .i64 z, .string ⟨#[]⟩, .slice none 0 0]⟩) w := by kernel_rfl
theorem run_bV4 (A : Option Addr) (m c : Nat) (w : World) : (Instr.build 153 #[(0, .int .i64 4), (3, .slice A m c)]).run Tryz.prog w = .ok (.agg ⟨[.int .i64 4, .int .i64 0, .string ⟨#[]⟩, .slice A m c]⟩) w := by kernel_rfl
theorem run_bWw (op : Int) (v : Value) (w : World) : (Instr.build 337 #[(0, .int .i64 op), (1, .iface 391 v)]).run Tryz.prog w = .ok (.agg ⟨[.int .i64 op, .iface 391 v]⟩) w := by kernel_rfl
theorem st_bV2 (hE : EngB bq Tryz.prog E) {z : Int} {c : Value} {x : Operand} (hk : K (.agg ⟨[.int .i64 2, .int .i64 z, .string ⟨#[]⟩, .slice none 0 0]⟩) w) : E.stop ⟨d, .build 153 ⟨[(0, .const c), (1, x)]⟩, ty, pos, aft, g⟩ [.int .i64 2, .int .i64 z] w K := by
 refine hE.det (v := .agg ⟨[.int .i64 2, .int .i64 z, .string ⟨#[]⟩, .slice none 0 0]⟩) (fun w1 _ ρ hρ => ?_) hk
 simp only [opnds, b2_, b3_, b1_, and_true] at hρ
 have := run_bV2 z w1
 simp [execOp, hρ, this]
theorem st_bV4 (hE : EngB bq Tryz.prog E) {A : Option Addr} {m cc : Nat} {c : Value} {x : Operand} (hk : K (.agg ⟨[.int .i64 4, .int .i64 0, .string ⟨#[]⟩, .slice A m cc]⟩) w) : E.stop ⟨d, .build 153 ⟨[(0, .const c), (3, x)]⟩, ty, pos, aft, g⟩ [.int .i64 4, .slice A m cc] w K := by
 refine hE.det (v := .agg ⟨[.int .i64 4, .int .i64 0, .string ⟨#[]⟩, .slice A m cc]⟩) (fun w1 _ ρ hρ => ?_) hk
 simp only [opnds, b2_, b3_, b1_, and_true] at hρ
 have := run_bV4 A m cc w1
 simp [execOp, hρ, this]
variable {S : World → Prop}
theorem sw_bV0 (hE : EngW S Tryz.prog E) (hk : K (.agg ⟨zV⟩) w) : E.stop ⟨d, .build 153 ⟨[]⟩, ty, pos, aft, g⟩ [] w K := by
 refine sw_det hE (v := .agg ⟨zV⟩) (fun w1 ρ hρ => ?_) hk
 have := run_bV0 w1
 simp [execOp, this]
theorem sw_bWw (hE : EngW S Tryz.prog E) {op : Int} {v : Value} {x y : Operand} (hk : K (.agg ⟨[.int .i64 op, .iface 391 v]⟩) w) : E.stop ⟨d, .build 337 ⟨[(0, x), (1, y)]⟩, ty, pos, aft, g⟩ [.int .i64 op, .iface 391 v] w K := by
 refine sw_det hE (v := .agg ⟨[.int .i64 op, .iface 391 v]⟩) (fun w1 ρ hρ => ?_) hk
 simp only [opnds, b2_, b3_, b1_, and_true] at hρ
 have := run_bWw op v w1
 simp [execOp, hρ, this]
end
theorem uWw : ∃ u, Tryz.prog.underlying 337 = some u ∧ ∀ ms, u ≠ .interface ms := ⟨_, Tryz.underlying337, by simp⟩
def numX (z : Int) : VV := ⟨⟨2, z, ⟨#[]⟩, []⟩, none, 0, 0⟩
def setX (A : Option Addr) (m c : Nat) (xs : List ByteArray) : VV := ⟨⟨4, 0, ⟨#[]⟩, xs⟩, A, m, c⟩
def zX : VV := ⟨⟨0, 0, ⟨#[]⟩, []⟩, none, 0, 0⟩
theorem number_f {w : World} {q a : Addr} {op n : Int} {e : Value} (hq : w.cell? q = some (.int .i64 op)) (he : e = .nilIface ∨ e = .iface 391 (.pointer (some a))) :
  FC Tryz.prog 250 [.int .i64 n, e, .pointer (some q)] w fun r _ => (e = .nilIface ∧ r = .tuple ⟨[.agg ⟨vC (numX n)⟩, .nilIface]⟩) ∨ (e = .iface 391 (.pointer (some a)) ∧ r = .tuple ⟨[.agg ⟨vC zX⟩, wwV op a]⟩) := by
 refine FC.intro (cs := []) Tryz.func250 (by kernel_rfl) fun E R hE hr hR => ?_
 obtain ⟨ms, hu⟩ := uErr
 conv => cbv
 refine st_alloc hr tIV rfl fun q4 w1 hx1 hb0 => ?_
 have hb := hb0 _ (n1_ _)
 clear hb0
 have hq1 := hx1.cell hq
 rcases he with rfl | rfl
 ·conv => cbv
  refine st_neNil hE hu ?_
  conv => cbv
  refine st_bV2 hE ?_
  conv => cbv
  refine st_putS hr (by kernel_rfl) hb (add_zero _).symm (by simp [zV]) (by simp [Value.oneCell']) fun w2 hw2 hb2 => ?_
  simp only [zV, a1_, a2_, a3_, a4_, a5_, a6_, a7_] at hb2
  conv => cbv
  refine st_cell hr tIV rfl hb2.at ?_
  rw [hR]; exact ⟨hx1.then (hw2.bel hb hx1.size), .inl ⟨rfl, rfl⟩⟩
 ·conv => cbv
  refine st_neSome hE hu ?_
  conv => cbv
  have hqb : q.block < w.heap.size := by
   obtain ⟨bq, oq, xq⟩ := q
   rcases Nat.lt_or_ge bq w.heap.size with h | h
   ·exact h
   ·simp [World.cell?, Array.getElem?_eq_none h] at hq
  have f4 := bx_form hb
  refine draw_s (fun w' => w'.cell? q = some (.int .i64 op)) [0, 1, 2, 3, 4] [(5, false), (6, true)] hr fol (by kernel_rfl) (fun w0 hs => by rw [hs.cell]; exact hq1) fun E' hE' w2 hs2 => ?_
  replace hb := hb.bel hs2.ext
  have hq2 := hs2.ext.cell hq1
  have hx2 := hx1.trans hs2.ext
  conv => cbv
  refine sw_bV0 hE' ?_
  conv => cbv
  refine sw_load hE' cInt (fun _ h => h) ?_
  conv => cbv
  refine sw_bWw hE' ?_
  conv => cbv
  refine sw_mk hE' uWw ?_
  conv => cbv
  refine st_putS hr (by kernel_rfl) hb (add_zero _).symm (by simp [zV]) (by simp [Value.oneCell']) fun w3 hw3 hb3 => ?_
  simp only [zV, a1_, a2_, a3_, a4_, a5_, a6_, a7_] at hb3
  have hx3 := hx2.then (hw3.bel hb hx2.size)
  refine ⟨hx3.cell hq, ?_⟩
  conv => cbv
  refine st_cell hr tIV rfl hb3.at ?_
  rw [hR]; exact ⟨hx3, .inr ⟨rfl, rfl⟩⟩
theorem setOf_f {w : World} {A : Option Addr} {m c : Nat} {xs : List ByteArray} : FC Tryz.prog 251 [.slice A m c] w fun r _ => r = .agg ⟨vC (setX A m c xs)⟩ := by
 refine FC.intro (cs := []) Tryz.func251 (by kernel_rfl) fun E R hE hr hR => ?_
 conv => cbv
 refine st_alloc hr tIV rfl fun q4 w1 hx1 hb0 => ?_
 have hb := hb0 _ (n1_ _)
 clear hb0
 conv => cbv
 refine st_bV4 hE ?_
 conv => cbv
 refine st_putS hr (by kernel_rfl) hb (add_zero _).symm (by simp [zV]) (by simp [Value.oneCell']) fun w2 hw2 hb2 => ?_
 simp only [zV, a1_, a2_, a3_, a4_, a5_, a6_, a7_] at hb2
 conv => cbv
 refine st_cell hr tIV rfl hb2.at ?_
 rw [hR]; exact ⟨hx1.then (hw2.bel hb hx1.size), rfl⟩
end Go.Proofs.YtkedmcebngachaaGreatDoor
