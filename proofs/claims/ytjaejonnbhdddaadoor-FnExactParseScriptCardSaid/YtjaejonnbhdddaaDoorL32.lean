/- One line of a script, read as an operation (printed by gen32.py). -/
import Derived.Test.YtjaejonnbhdddaaDoorL26
import Derived.Test.YtjaejonnbhdddaaDoorEng10
namespace Go.Proofs.YtjaejonnbhdddaaDoor
open Go.Eng
set_option linter.unusedVariables false
set_option linter.unusedSimpArgs false
/-- What is ahead of the first space, and what is behind it. -/
def cutP (l : List UInt8) : List UInt8 × List UInt8 := ((Lib.cut l [32]).1, (Lib.cut l [32]).2.1)
theorem cutP_hit {a b : List UInt8} (h : ¬ (32 : UInt8) ∈ a) : cutP (a ++ 32 :: b) = (a, b) := by unfold cutP; rw [cut_hit h]
theorem cutP_miss {a : List UInt8} (h : ¬ (32 : UInt8) ∈ a) : cutP a = (a, []) := by unfold cutP; rw [cut_miss h]
instance (l : List UInt8) : Decidable (isDig l) := inferInstanceAs (Decidable (∀ b ∈ l, 48 ≤ b.toNat ∧ b.toNat ≤ 57))
/-- The number of a tick; -1 of none. -/
def tickN (l : List UInt8) : Int := if isDig l ∧ l ≠ [] ∧ l.length ≤ 12 then (dv l 0 : Nat) else -1
structure OpV where
  k : Int
  nm : ByteArray
  ot : ByteArray
  tx : ByteArray
  nu : Int
def opC (o : OpV) : List Value := [.int .i64 o.k, .string o.nm, .string o.ot, .string o.tx, .int .i64 o.nu]
def policyB : List UInt8 := [112, 111, 108, 105, 99, 121]
def clientB : List UInt8 := [99, 108, 105, 101, 110, 116]
def consentB : List UInt8 := [99, 111, 110, 115, 101, 110, 116]
def withdrawB : List UInt8 := [119, 105, 116, 104, 100, 114, 97, 119]
def tokenB : List UInt8 := [116, 111, 107, 101, 110]
def lookB : List UInt8 := [108, 111, 111, 107]
def revokeB : List UInt8 := [114, 101, 118, 111, 107, 101]
def tickB : List UInt8 := [116, 105, 99, 107]
/-- The operation of a line. -/
def opOf (l : List UInt8) : OpV :=
  if (cutP l).1 = policyB then ⟨1, ⟨#[]⟩, ⟨#[]⟩, mkB (cutP l).2, 0⟩
  else if (cutP l).1 = clientB then ⟨2, mkB (cutP (cutP l).2).1, ⟨#[]⟩, mkB (cutP (cutP l).2).2, 0⟩
  else if (cutP l).1 = consentB then ⟨3, mkB (cutP (cutP l).2).1, mkB (cutP (cutP (cutP l).2).2).1, mkB (cutP (cutP (cutP l).2).2).2, 0⟩
  else if (cutP l).1 = withdrawB then ⟨4, mkB (cutP (cutP l).2).1, mkB (cutP (cutP l).2).2, ⟨#[]⟩, 0⟩
  else if (cutP l).1 = tokenB then ⟨5, mkB (cutP (cutP l).2).1, ⟨#[]⟩, mkB (cutP (cutP l).2).2, 0⟩
  else if (cutP l).1 = lookB then ⟨6, mkB (cutP l).2, ⟨#[]⟩, ⟨#[]⟩, 0⟩
  else if (cutP l).1 = revokeB then ⟨7, mkB (cutP l).2, ⟨#[]⟩, ⟨#[]⟩, 0⟩
  else if (cutP l).1 = tickB then ⟨8, ⟨#[]⟩, ⟨#[]⟩, ⟨#[]⟩, tickN (cutP l).2⟩
  else ⟨0, ⟨#[]⟩, ⟨#[]⟩, ⟨#[]⟩, 0⟩
theorem tOp : Stc Tryd.prog 53 5 [.int .i64 0, .string ⟨#[]⟩, .string ⟨#[]⟩, .string ⟨#[]⟩, .int .i64 0] := ⟨by kernel_rfl, by kernel_rfl⟩
theorem zOp : (Tryd.prog.info? 53).map (·.size) = some 5 := by kernel_rfl
theorem zInO : (Tryd.prog.info? 3).map (·.size) = some 1 := by kernel_rfl
theorem fO0 : Fld Tryd.prog 53 0 0 := ⟨by kernel_rfl⟩
theorem fO1 : Fld Tryd.prog 53 1 1 := ⟨by kernel_rfl⟩
theorem fO2 : Fld Tryd.prog 53 2 2 := ⟨by kernel_rfl⟩
theorem fO3 : Fld Tryd.prog 53 3 3 := ⟨by kernel_rfl⟩
theorem fO4 : Fld Tryd.prog 53 4 4 := ⟨by kernel_rfl⟩
theorem tFs : Stc Tryd.prog 87 1 [.string ⟨#[]⟩] := ⟨by kernel_rfl, by kernel_rfl⟩
theorem fF0 : Fld Tryd.prog 87 0 0 := ⟨by kernel_rfl⟩
theorem run_st_op  (w : World) : (Instr.build 53 #[]).run Tryd.prog w = .ok (.agg #[.int .i64 0, .string ⟨#[]⟩, .string ⟨#[]⟩, .string ⟨#[]⟩, .int .i64 0]) w := by kernel_rfl
theorem st_op {E : Sym} {w : World} {K : Value → World → Prop} {d : Option Tmp} {ty : TypeId} {pos : String} {aft : Array Edge} {g : Option (Nat × Bool)} {bq : Bool} (hE : EngB bq Tryd.prog E)   (hk : K (.agg ⟨[.int .i64 0, .string ⟨#[]⟩, .string ⟨#[]⟩, .string ⟨#[]⟩, .int .i64 0]⟩) w) : E.stop ⟨d, .build 53 ⟨[]⟩, ty, pos, aft, g⟩ [] w K := by
  refine hE.det (v := .agg ⟨[.int .i64 0, .string ⟨#[]⟩, .string ⟨#[]⟩, .string ⟨#[]⟩, .int .i64 0]⟩) (fun w1 _ ρ hρ => ?_) hk
  simp only [opnds, List.map_cons, List.map_nil, List.cons.injEq, and_true] at hρ
  have := run_st_op  w1
  simp [execOp, this]
theorem run_st_op03 (k : Int) (t : ByteArray) (w : World) : (Instr.build 53 #[(0, .int .i64 k), (3, .string t)]).run Tryd.prog w = .ok (.agg #[.int .i64 k, .string ⟨#[]⟩, .string ⟨#[]⟩, .string t, .int .i64 0]) w := by kernel_rfl
theorem st_op03 {E : Sym} {w : World} {K : Value → World → Prop} {d : Option Tmp} {ty : TypeId} {pos : String} {aft : Array Edge} {g : Option (Nat × Bool)} {bq : Bool} (hE : EngB bq Tryd.prog E) {k : Int} {t : ByteArray} {x0 x3 : Operand} (hk : K (.agg ⟨[.int .i64 k, .string ⟨#[]⟩, .string ⟨#[]⟩, .string t, .int .i64 0]⟩) w) : E.stop ⟨d, .build 53 ⟨[(0, x0), (3, x3)]⟩, ty, pos, aft, g⟩ [.int .i64 k, .string t] w K := by
  refine hE.det (v := .agg ⟨[.int .i64 k, .string ⟨#[]⟩, .string ⟨#[]⟩, .string t, .int .i64 0]⟩) (fun w1 _ ρ hρ => ?_) hk
  simp only [opnds, List.map_cons, List.map_nil, List.cons.injEq, and_true] at hρ
  have := run_st_op03 k t w1
  simp [execOp, hρ.1, hρ.2, this]
theorem run_st_op013 (k : Int) (a : ByteArray) (t : ByteArray) (w : World) : (Instr.build 53 #[(0, .int .i64 k), (1, .string a), (3, .string t)]).run Tryd.prog w = .ok (.agg #[.int .i64 k, .string a, .string ⟨#[]⟩, .string t, .int .i64 0]) w := by kernel_rfl
theorem st_op013 {E : Sym} {w : World} {K : Value → World → Prop} {d : Option Tmp} {ty : TypeId} {pos : String} {aft : Array Edge} {g : Option (Nat × Bool)} {bq : Bool} (hE : EngB bq Tryd.prog E) {k : Int} {a : ByteArray} {t : ByteArray} {x0 x1 x3 : Operand} (hk : K (.agg ⟨[.int .i64 k, .string a, .string ⟨#[]⟩, .string t, .int .i64 0]⟩) w) : E.stop ⟨d, .build 53 ⟨[(0, x0), (1, x1), (3, x3)]⟩, ty, pos, aft, g⟩ [.int .i64 k, .string a, .string t] w K := by
  refine hE.det (v := .agg ⟨[.int .i64 k, .string a, .string ⟨#[]⟩, .string t, .int .i64 0]⟩) (fun w1 _ ρ hρ => ?_) hk
  simp only [opnds, List.map_cons, List.map_nil, List.cons.injEq, and_true] at hρ
  have := run_st_op013 k a t w1
  simp [execOp, hρ.1, hρ.2.1, hρ.2.2, this]
theorem run_st_op0123 (k : Int) (a : ByteArray) (b : ByteArray) (t : ByteArray) (w : World) : (Instr.build 53 #[(0, .int .i64 k), (1, .string a), (2, .string b), (3, .string t)]).run Tryd.prog w = .ok (.agg #[.int .i64 k, .string a, .string b, .string t, .int .i64 0]) w := by kernel_rfl
theorem st_op0123 {E : Sym} {w : World} {K : Value → World → Prop} {d : Option Tmp} {ty : TypeId} {pos : String} {aft : Array Edge} {g : Option (Nat × Bool)} {bq : Bool} (hE : EngB bq Tryd.prog E) {k : Int} {a : ByteArray} {b : ByteArray} {t : ByteArray} {x0 x1 x2 x3 : Operand} (hk : K (.agg ⟨[.int .i64 k, .string a, .string b, .string t, .int .i64 0]⟩) w) : E.stop ⟨d, .build 53 ⟨[(0, x0), (1, x1), (2, x2), (3, x3)]⟩, ty, pos, aft, g⟩ [.int .i64 k, .string a, .string b, .string t] w K := by
  refine hE.det (v := .agg ⟨[.int .i64 k, .string a, .string b, .string t, .int .i64 0]⟩) (fun w1 _ ρ hρ => ?_) hk
  simp only [opnds, List.map_cons, List.map_nil, List.cons.injEq, and_true] at hρ
  have := run_st_op0123 k a b t w1
  simp [execOp, hρ.1, hρ.2.1, hρ.2.2.1, hρ.2.2.2, this]
theorem run_st_op012 (k : Int) (a : ByteArray) (b : ByteArray) (w : World) : (Instr.build 53 #[(0, .int .i64 k), (1, .string a), (2, .string b)]).run Tryd.prog w = .ok (.agg #[.int .i64 k, .string a, .string b, .string ⟨#[]⟩, .int .i64 0]) w := by kernel_rfl
theorem st_op012 {E : Sym} {w : World} {K : Value → World → Prop} {d : Option Tmp} {ty : TypeId} {pos : String} {aft : Array Edge} {g : Option (Nat × Bool)} {bq : Bool} (hE : EngB bq Tryd.prog E) {k : Int} {a : ByteArray} {b : ByteArray} {x0 x1 x2 : Operand} (hk : K (.agg ⟨[.int .i64 k, .string a, .string b, .string ⟨#[]⟩, .int .i64 0]⟩) w) : E.stop ⟨d, .build 53 ⟨[(0, x0), (1, x1), (2, x2)]⟩, ty, pos, aft, g⟩ [.int .i64 k, .string a, .string b] w K := by
  refine hE.det (v := .agg ⟨[.int .i64 k, .string a, .string b, .string ⟨#[]⟩, .int .i64 0]⟩) (fun w1 _ ρ hρ => ?_) hk
  simp only [opnds, List.map_cons, List.map_nil, List.cons.injEq, and_true] at hρ
  have := run_st_op012 k a b w1
  simp [execOp, hρ.1, hρ.2.1, hρ.2.2, this]
theorem run_st_op01 (k : Int) (a : ByteArray) (w : World) : (Instr.build 53 #[(0, .int .i64 k), (1, .string a)]).run Tryd.prog w = .ok (.agg #[.int .i64 k, .string a, .string ⟨#[]⟩, .string ⟨#[]⟩, .int .i64 0]) w := by kernel_rfl
theorem st_op01 {E : Sym} {w : World} {K : Value → World → Prop} {d : Option Tmp} {ty : TypeId} {pos : String} {aft : Array Edge} {g : Option (Nat × Bool)} {bq : Bool} (hE : EngB bq Tryd.prog E) {k : Int} {a : ByteArray} {x0 x1 : Operand} (hk : K (.agg ⟨[.int .i64 k, .string a, .string ⟨#[]⟩, .string ⟨#[]⟩, .int .i64 0]⟩) w) : E.stop ⟨d, .build 53 ⟨[(0, x0), (1, x1)]⟩, ty, pos, aft, g⟩ [.int .i64 k, .string a] w K := by
  refine hE.det (v := .agg ⟨[.int .i64 k, .string a, .string ⟨#[]⟩, .string ⟨#[]⟩, .int .i64 0]⟩) (fun w1 _ ρ hρ => ?_) hk
  simp only [opnds, List.map_cons, List.map_nil, List.cons.injEq, and_true] at hρ
  have := run_st_op01 k a w1
  simp [execOp, hρ.1, hρ.2, this]
theorem run_st_op04 (k : Int) (u : Int) (w : World) : (Instr.build 53 #[(0, .int .i64 k), (4, .int .i64 u)]).run Tryd.prog w = .ok (.agg #[.int .i64 k, .string ⟨#[]⟩, .string ⟨#[]⟩, .string ⟨#[]⟩, .int .i64 u]) w := by kernel_rfl
theorem st_op04 {E : Sym} {w : World} {K : Value → World → Prop} {d : Option Tmp} {ty : TypeId} {pos : String} {aft : Array Edge} {g : Option (Nat × Bool)} {bq : Bool} (hE : EngB bq Tryd.prog E) {k : Int} {u : Int} {x0 x4 : Operand} (hk : K (.agg ⟨[.int .i64 k, .string ⟨#[]⟩, .string ⟨#[]⟩, .string ⟨#[]⟩, .int .i64 u]⟩) w) : E.stop ⟨d, .build 53 ⟨[(0, x0), (4, x4)]⟩, ty, pos, aft, g⟩ [.int .i64 k, .int .i64 u] w K := by
  refine hE.det (v := .agg ⟨[.int .i64 k, .string ⟨#[]⟩, .string ⟨#[]⟩, .string ⟨#[]⟩, .int .i64 u]⟩) (fun w1 _ ρ hρ => ?_) hk
  simp only [opnds, List.map_cons, List.map_nil, List.cons.injEq, and_true] at hρ
  have := run_st_op04 k u w1
  simp [execOp, hρ.1, hρ.2, this]
theorem run_fs (a : ByteArray) (w : World) : (Instr.build 87 #[(0, .string a)]).run Tryd.prog w = .ok (.agg #[.string a]) w := by kernel_rfl
theorem st_fs {E : Sym} {w : World} {K : Value → World → Prop} {d : Option Tmp} {ty : TypeId} {pos : String} {aft : Array Edge} {g : Option (Nat × Bool)} {bq : Bool} (hE : EngB bq Tryd.prog E) {a : ByteArray} {x : Operand} (hk : K (.agg ⟨[.string a]⟩) w) : E.stop ⟨d, .build 87 ⟨[(0, x)]⟩, ty, pos, aft, g⟩ [.string a] w K := by
  refine hE.det (v := .agg ⟨[.string a]⟩) (fun w1 _ ρ hρ => ?_) hk
  simp only [opnds, List.map_cons, List.map_nil, List.cons.injEq, and_true] at hρ
  have := run_fs a w1
  simp [execOp, hρ, this]
theorem l7cut_f {w : World} (s : ByteArray) (hs : s.size ≤ 1048576) :
    FC Tryd.prog 65 [.string s] w fun v _ => ∃ a b, v = .tuple ⟨[.string a, .string b]⟩ ∧ a = mkB (cutP s.data.toList).1 ∧ b = mkB (cutP s.data.toList).2 ∧ a.size ≤ s.size ∧ b.size ≤ s.size := by
  refine FC.intro (cs := []) Tryd.func65 (by kernel_rfl) fun E R hE hr hR => ?_
  obtain ⟨l, hl⟩ : ∃ l, l = s.data.toList := ⟨_, rfl⟩
  have hll : l.length = s.size := by rw [hl, data_len]
  rw [← hl] at hR
  conv => cbv
  refine loop_rule hr (fun (t : Nat × Int) w' => w' = w ∧ t.1 ≤ s.size ∧ t.2 = (t.1 : Int) ∧ ¬ (32 : UInt8) ∈ l.take t.1) (fun t => [(0, .string s), (4, .int .i64 t.2)]) (fun t => s.size - t.1) (0, 0)
    (by simp [Fits, lk]) ⟨rfl, by simp, by simp, by simp⟩ ?_
  rintro I hI ⟨i, ii⟩ w' ⟨rfl, h1, h2, h3⟩
  simp only at h1 h2 h3
  obtain ⟨i', hi'⟩ : ∃ z, z = ii + 1 := ⟨_, rfl⟩
  conv => cbv
  refine st_slen hE uStr fun x hx => ?_
  conv => cbv
  refine br (fun g => ?_) (fun g => ?_)
  · have g : i < s.size := by
      have : ii < x := by simpa [hE.cmp, cmpR] using g
      omega
    have e1 : E.ar .add .i64 ii 1 = i' := by rw [hE.ar, hi']; exact wrap_in (by omega) (by omega)
    have hget : l[i]? = some (s[i]'g) := by rw [hl]; exact get_byte g
    conv => cbv
    refine st_byte hE uStr (by omega) (by omega) fun b hb b0 b1 => ?_
    have hb' : b = ((s[i]'g).toNat : Int) := by rw [hb]; congr 2; simp only [show ii.toNat = i by omega]
    conv => cbv
    refine br (fun g2 => ?_) (fun g2 => ?_)
    · have g2 : b = 32 := by simpa [hE.cmp, cmpR] using g2
      have ecb : s[i]'g = 32 := UInt8.toNat_inj.1 (by rw [hb'] at g2; exact_mod_cast g2)
      have hsp : l = l.take i ++ 32 :: l.drop (i + 1) := by
        have e := List.take_append_drop i l
        rw [List.drop_eq_getElem_cons (by omega)] at e
        have := List.getElem?_eq_getElem (l := l) (i := i) (by omega)
        rw [this] at hget
        rw [Option.some.inj hget, ecb] at e
        exact e.symm
      have hcp : cutP l = (l.take i, l.drop (i + 1)) := by
        conv => lhs; rw [hsp]
        exact cutP_hit h3
      conv => cbv
      refine draw_q hr fol (by kernel_rfl) fun E' hE' => ?_
      have e1' : E'.ar .add .i64 ii 1 = i' := by rw [hE'.ar, hi']; exact wrap_in (by omega) (by omega)
      conv => cbv
      refine st_upTo hE' uStr (by omega) (by omega) fun u1 hu1 => ?_
      conv => cbv
      simp only [e1']
      refine st_onFrom hE' uStr (by omega) (by omega) fun u2 hu2 => ?_
      conv => cbv
      intro w2 hs2
      have d1 : u1 = mkB (l.take i) := by
        apply toList_inj; rw [hu1, ext_data, data_mkB, ← hl]; simp [show ii.toNat = i by omega]
      have d2 : u2 = mkB (l.drop (i + 1)) := by
        apply toList_inj; rw [hu2, ext_data, data_mkB, ← hl, show i'.toNat = i + 1 by omega, List.take_of_length_le (by simp [hll])]
      conv => cbv
      rw [hR]; refine ⟨hs2.ext, u1, u2, rfl, by rw [hcp]; exact d1, by rw [hcp]; exact d2, ?_, ?_⟩
      · rw [d1]; simp only [mkB, ByteArray.size, List.size_toArray, List.length_take] at hll ⊢; omega
      · rw [d2]; simp only [mkB, ByteArray.size, List.size_toArray, List.length_drop] at hll ⊢; omega
    · have g2 : b ≠ 32 := by simpa [hE.cmp, cmpR] using g2
      have ecb : s[i]'g ≠ 32 := fun e => g2 (by rw [hb', e]; rfl)
      conv => cbv
      simp only [e1]
      refine ⟨(i + 1, i'), by simp [Fits, lk], hI _ _ ⟨rfl, by simp only; omega, by simp only; omega, ?_⟩, by simp only; omega⟩
      simp only
      rw [List.take_add_one, hget]
      exact no_app h3 (by simp [Ne.symm ecb])
  · have g : i = s.size := by
      have : ¬ ii < x := by simpa [hE.cmp, cmpR] using g
      omega
    rw [List.take_of_length_le (by omega)] at h3
    conv => cbv
    rw [hR]; exact ⟨Ext.refl _, s, ⟨#[]⟩, rfl, by rw [cutP_miss h3, hl, mkB_data], by rw [cutP_miss h3]; rfl, Nat.le_refl _, Nat.zero_le _⟩
theorem isDigit_q (c : Int) (w : World) : QB Tryd.prog 69 [.int .u8 c] w (48 ≤ c ∧ c ≤ 57) := by
  refine QB.intro (cs := []) Tryd.func69 (by kernel_rfl) fun w hx0 w1 hs E R hE hr hR => ?_
  conv => cbv
  refine br (fun g => ?_) (fun g => ?_)
  · have g : 48 ≤ c := by simpa [hE.cmp, cmpR] using g
    conv => cbv
    exact hR _ _ hs (by rw [show (E.2 BinOp.leq c 57 = true) = (E.cmp .leq c 57 = true) from rfl, hE.cmp]; simp [cmpR, g])
  · have g : ¬ 48 ≤ c := by simpa [hE.cmp, cmpR] using g
    conv => cbv
    exact hR _ _ hs (by simp [g])
theorem run_f {w : World} (s : ByteArray) (hs : s.size ≤ 1048576) :
    FC Tryd.prog 68 [.string s, .func (.func 69) #[] #[]] w fun v _ => ∃ u, v = .string u ∧ (u = s ↔ isDig s.data.toList) := by
  refine FC.intro (cs := []) Tryd.func68 (by kernel_rfl) fun E R hE hr hR => ?_
  obtain ⟨l, hl⟩ : ∃ l, l = s.data.toList := ⟨_, rfl⟩
  have hll : l.length = s.size := by rw [hl, data_len]
  rw [← hl] at hR
  conv => cbv
  refine loop_rule hr (fun (t : Nat × Int) w' => Ext w w' ∧ t.1 ≤ s.size ∧ t.2 = (t.1 : Int) ∧ isDig (l.take t.1)) (fun t => [(0, .string s), (1, .func (.func 69) ⟨[]⟩ ⟨[]⟩), (5, .int .i64 t.2)]) (fun t => s.size - t.1) (0, 0)
    (by simp [Fits, lk]) ⟨Ext.refl _, by simp, by simp, by simp [isDig]⟩ ?_
  rintro I hI ⟨i, ii⟩ w' ⟨hx0, h1, h2, h3⟩
  simp only at h1 h2 h3
  obtain ⟨i', hi'⟩ : ∃ z, z = ii + 1 := ⟨_, rfl⟩
  have stop : ∀ w2, Ext w w2 → (i = s.size ∨ ∃ b ∈ l, ¬ (48 ≤ b.toNat ∧ b.toNat ≤ 57)) → (i < s.size → ∃ b ∈ l, ¬ (48 ≤ b.toNat ∧ b.toNat ≤ 57)) → ∀ u, u = s.extract 0 ii.toNat → R (.string u) w2 := fun w2 hx hq hq2 u hu => by
    have d1 : u.data.toList = l.take i := by rw [hu, ext_data, ← hl]; simp [show ii.toNat = i by omega]
    rw [hR]; refine ⟨hx, u, rfl, ⟨fun e => ?_, fun e => ?_⟩⟩
    · rcases Nat.lt_or_ge i s.size with h | h
      · have := congrArg List.length d1
        rw [e, ← hl, List.length_take] at this; omega
      · rwa [List.take_of_length_le (by omega)] at h3
    · rcases Nat.lt_or_ge i s.size with h | h
      · obtain ⟨b, hb, hb2⟩ := hq2 h
        exact absurd (e b hb) hb2
      · apply toList_inj; rw [d1, List.take_of_length_le (by omega), hl]
  conv => cbv
  refine st_slen hE uStr fun x hx => ?_
  conv => cbv
  obtain ⟨q, hq⟩ : ∃ q, q = E.cmp .lss ii x := ⟨_, rfl⟩
  have hq' : q = true ↔ ii < x := by rw [hq, hE.cmp]; simp [cmpR]
  simp only [← hq]
  cases q with
  | false =>
    have g : i = s.size := by
      have : ¬ ii < x := fun k => by simpa using hq'.2 k
      omega
    conv => cbv
    refine st_upTo hE uStr (by omega) (by omega) fun u hu => ?_
    conv => cbv
    exact stop _ hx0 (.inl g) (fun k => absurd k (by omega)) u hu
  | true =>
    have g : i < s.size := by have := hq'.1 rfl; omega
    have e1 : E.ar .add .i64 ii 1 = i' := by rw [hE.ar, hi']; exact wrap_in (by omega) (by omega)
    have hget : l[i]? = some (s[i]'g) := by rw [hl]; exact get_byte g
    conv => cbv
    refine st_byte hE uStr (by omega) (by omega) fun b hb b0 b1 => ?_
    have hb' : b = ((s[i]'g).toNat : Int) := by rw [hb]; congr 2; simp only [show ii.toNat = i by omega]
    conv => cbv
    refine st_qb hE (isDigit_q b _) fun q2 hq2 w2 hs2 => ?_
    cases q2 with
    | false =>
      have hn : ¬ (48 ≤ b ∧ b ≤ 57) := fun k => by simpa using hq2.2 k
      conv => cbv
      refine st_upTo hE uStr (by omega) (by omega) fun u hu => ?_
      conv => cbv
      have bad : ∃ b ∈ l, ¬ (48 ≤ b.toNat ∧ b.toNat ≤ 57) := ⟨s[i]'g, List.mem_of_getElem? hget, fun k => hn ⟨by omega, by omega⟩⟩
      exact stop _ (hx0.trans hs2.ext) (.inr bad) (fun _ => bad) u hu
    | true =>
      have hd := hq2.1 rfl
      conv => cbv
      simp only [e1]
      refine ⟨(i + 1, i'), by simp [Fits, lk], hI _ _ ⟨hx0.trans hs2.ext, by simp only; omega, by simp only; omega, ?_⟩, by simp only; omega⟩
      simp only
      rw [List.take_add_one, hget]
      intro c hc
      rcases List.mem_append.1 hc with hc | hc
      · exact h3 c hc
      · simp at hc; rw [hc]; omega
theorem parseUL : ∀ (l : List UInt8) (a : Nat), isDig l → dv l a ≤ 1000000000000000 → Lib.parseUintM (2 ^ 64 - 1) a l = .ok (dv l a)
  | [], a, _, _ => rfl
  | c :: r, a, h, hb => by
    have hc := h c (by simp)
    have h1 := dv_ge (c :: r) a
    have h2 := dv_ge r (a * 10 + (c.toNat - 48))
    rw [dv] at hb
    unfold Lib.parseUintM
    rw [if_pos hc, if_neg (by rw [dv] at h1; omega), if_neg (by omega), dv]
    exact parseUL r _ (fun b hb => h b (by simp [hb])) hb
theorem parse_dv {l : List UInt8} (hd : isDig l) (hne : l ≠ []) (hl : l.length ≤ 12) : Lib.parseIntB 64 l = .ok (dv l 0 : Nat) := by
  have hv := dv_lt l 0 hd
  have hp : 10 ^ l.length ≤ 10 ^ 12 := Nat.pow_le_pow_right (by omega) hl
  cases l with
  | nil => exact absurd rfl hne
  | cons c r =>
    have hc := hd c (by simp)
    have hu := parseUL (c :: r) 0 hd (by omega)
    have e43 : (if c.toNat = 43 ∨ c.toNat = 45 then r else c :: r) = c :: r := if_neg (by omega)
    have : Lib.parseUintB 64 (c :: r) = .ok (dv (c :: r) 0) := by unfold Lib.parseUintB; rw [if_neg (by simp)]; exact hu
    unfold Lib.parseIntB
    simp only [e43, this]
    rw [if_neg (by omega), if_neg (by omega), if_neg (by omega)]
theorem tickN_in {l : List UInt8} : fits (tickN l) := by
  unfold tickN fits
  split
  · rename_i h
    have hv := dv_lt l 0 h.1
    have hp : 10 ^ l.length ≤ 10 ^ 12 := Nat.pow_le_pow_right (by omega) h.2.2
    omega
  · omega
set_option maxHeartbeats 1000000 in
theorem l7op_f {w : World} (s : ByteArray) (hs : s.size ≤ 1048576) :
    FC Tryd.prog 36 [.string s] w fun v _ => ∃ k nm ot tx nu, v = .agg ⟨[.int .i64 k, .string nm, .string ot, .string tx, .int .i64 nu]⟩ ∧ opOf s.data.toList = ⟨k, nm, ot, tx, nu⟩ := by
  refine FC.intro (cs := []) Tryd.func36 (by kernel_rfl) fun E R hE hr hR => ?_
  obtain ⟨l, hl⟩ : ∃ l, l = s.data.toList := ⟨_, rfl⟩
  rw [← hl] at hR
  have SE : ∀ x y : ByteArray, x = y → E.scmp .eql x y = true := fun x y h => by rw [hE.scmp, scmp_eql]; exact h
  conv => cbv
  refine st_alloc hr tOp rfl fun a w1 hx hb0 => ?_
  have hb := hb0 _ (Nat.le_refl _)
  clear hb0
  conv => cbv
  refine st_f hr (l7cut_f s hs) fun v w2 hx2 ⟨wd, rs, ev, e1, e2, z1, z2⟩ => ?_
  subst ev
  rw [← hl] at e1 e2
  have d1 : wd.data.toList = (cutP l).1 := by rw [e1, data_mkB]
  have d2 : rs.data.toList = (cutP l).2 := by rw [e2, data_mkB]
  replace hb := hb.bel hx2
  replace hx := hx.trans hx2
  conv => cbv
  refine st_f hr (l7cut_f rs (by omega)) fun v w3 hx3 ⟨fd, mo, ev, e3, e4, z3, z4⟩ => ?_
  subst ev
  rw [d2] at e3 e4
  have d4 : mo.data.toList = (cutP (cutP l).2).2 := by rw [e4, data_mkB]
  replace hb := hb.bel hx3
  replace hx := hx.trans hx3
  conv => cbv
  refine br (fun g => ?_) (fun g => ?_)
  · have g : (cutP l).1 = policyB := by
      have : wd = ⟨⟨[112, 111, 108, 105, 99, 121]⟩⟩ := by simpa [hE.scmp, scmp_eql] using g
      rw [← d1, this]; rfl
    conv => cbv
    refine st_op03 hE ?_
    conv => cbv
    refine st_putS hr zOp hb (add_zero _).symm (by simp) (by simp [Value.oneCell']) fun wf hwf hb2 => ?_
    simp only [List.take_zero, List.nil_append, List.length_cons, List.length_nil, List.drop_succ_cons, List.drop_nil, List.append_nil] at hb2
    conv => cbv
    refine st_cell hr tOp rfl hb2.at ?_
    rw [hR]; exact ⟨(hx).then (hwf.bel hb (hx).size), 1, ⟨#[]⟩, ⟨#[]⟩, rs, 0, rfl, by unfold opOf; rw [if_pos g, ← e2]⟩
  have n0 : (cutP l).1 ≠ policyB := fun e => g (SE _ _ (by apply toList_inj; rw [d1, e]; rfl))
  clear g
  conv => cbv
  refine br (fun g => ?_) (fun g => ?_)
  · have g : (cutP l).1 = clientB := by
      have : wd = ⟨⟨[99, 108, 105, 101, 110, 116]⟩⟩ := by simpa [hE.scmp, scmp_eql] using g
      rw [← d1, this]; rfl
    conv => cbv
    refine st_op013 hE ?_
    conv => cbv
    refine st_putS hr zOp hb (add_zero _).symm (by simp) (by simp [Value.oneCell']) fun wf hwf hb2 => ?_
    simp only [List.take_zero, List.nil_append, List.length_cons, List.length_nil, List.drop_succ_cons, List.drop_nil, List.append_nil] at hb2
    conv => cbv
    refine st_cell hr tOp rfl hb2.at ?_
    rw [hR]; exact ⟨(hx).then (hwf.bel hb (hx).size), 2, fd, ⟨#[]⟩, mo, 0, rfl, by unfold opOf; rw [if_neg n0, if_pos g, ← e3, ← e4]⟩
  have n1 : (cutP l).1 ≠ clientB := fun e => g (SE _ _ (by apply toList_inj; rw [d1, e]; rfl))
  clear g
  conv => cbv
  refine br (fun g => ?_) (fun g => ?_)
  · have g : (cutP l).1 = consentB := by
      have : wd = ⟨⟨[99, 111, 110, 115, 101, 110, 116]⟩⟩ := by simpa [hE.scmp, scmp_eql] using g
      rw [← d1, this]; rfl
    conv => cbv
    refine st_f hr (l7cut_f mo (by omega)) fun v w4 hx4 ⟨o5, o6, ev, e5, e6, z5, z6⟩ => ?_
    subst ev
    rw [d4] at e5 e6
    replace hb := hb.bel hx4
    replace hx := hx.trans hx4
    conv => cbv
    refine st_op0123 hE ?_
    conv => cbv
    refine st_putS hr zOp hb (add_zero _).symm (by simp) (by simp [Value.oneCell']) fun wf hwf hb2 => ?_
    simp only [List.take_zero, List.nil_append, List.length_cons, List.length_nil, List.drop_succ_cons, List.drop_nil, List.append_nil] at hb2
    conv => cbv
    refine st_cell hr tOp rfl hb2.at ?_
    rw [hR]; exact ⟨(hx).then (hwf.bel hb (hx).size), 3, fd, o5, o6, 0, rfl, by unfold opOf; rw [if_neg n0, if_neg n1, if_pos g, ← e3, ← e5, ← e6]⟩
  have n2 : (cutP l).1 ≠ consentB := fun e => g (SE _ _ (by apply toList_inj; rw [d1, e]; rfl))
  clear g
  conv => cbv
  refine br (fun g => ?_) (fun g => ?_)
  · have g : (cutP l).1 = withdrawB := by
      have : wd = ⟨⟨[119, 105, 116, 104, 100, 114, 97, 119]⟩⟩ := by simpa [hE.scmp, scmp_eql] using g
      rw [← d1, this]; rfl
    conv => cbv
    refine st_op012 hE ?_
    conv => cbv
    refine st_putS hr zOp hb (add_zero _).symm (by simp) (by simp [Value.oneCell']) fun wf hwf hb2 => ?_
    simp only [List.take_zero, List.nil_append, List.length_cons, List.length_nil, List.drop_succ_cons, List.drop_nil, List.append_nil] at hb2
    conv => cbv
    refine st_cell hr tOp rfl hb2.at ?_
    rw [hR]; exact ⟨(hx).then (hwf.bel hb (hx).size), 4, fd, mo, ⟨#[]⟩, 0, rfl, by unfold opOf; rw [if_neg n0, if_neg n1, if_neg n2, if_pos g, ← e3, ← e4]⟩
  have n3 : (cutP l).1 ≠ withdrawB := fun e => g (SE _ _ (by apply toList_inj; rw [d1, e]; rfl))
  clear g
  conv => cbv
  refine br (fun g => ?_) (fun g => ?_)
  · have g : (cutP l).1 = tokenB := by
      have : wd = ⟨⟨[116, 111, 107, 101, 110]⟩⟩ := by simpa [hE.scmp, scmp_eql] using g
      rw [← d1, this]; rfl
    conv => cbv
    refine st_op013 hE ?_
    conv => cbv
    refine st_putS hr zOp hb (add_zero _).symm (by simp) (by simp [Value.oneCell']) fun wf hwf hb2 => ?_
    simp only [List.take_zero, List.nil_append, List.length_cons, List.length_nil, List.drop_succ_cons, List.drop_nil, List.append_nil] at hb2
    conv => cbv
    refine st_cell hr tOp rfl hb2.at ?_
    rw [hR]; exact ⟨(hx).then (hwf.bel hb (hx).size), 5, fd, ⟨#[]⟩, mo, 0, rfl, by unfold opOf; rw [if_neg n0, if_neg n1, if_neg n2, if_neg n3, if_pos g, ← e3, ← e4]⟩
  have n4 : (cutP l).1 ≠ tokenB := fun e => g (SE _ _ (by apply toList_inj; rw [d1, e]; rfl))
  clear g
  conv => cbv
  refine br (fun g => ?_) (fun g => ?_)
  · have g : (cutP l).1 = lookB := by
      have : wd = ⟨⟨[108, 111, 111, 107]⟩⟩ := by simpa [hE.scmp, scmp_eql] using g
      rw [← d1, this]; rfl
    conv => cbv
    refine st_op01 hE ?_
    conv => cbv
    refine st_putS hr zOp hb (add_zero _).symm (by simp) (by simp [Value.oneCell']) fun wf hwf hb2 => ?_
    simp only [List.take_zero, List.nil_append, List.length_cons, List.length_nil, List.drop_succ_cons, List.drop_nil, List.append_nil] at hb2
    conv => cbv
    refine st_cell hr tOp rfl hb2.at ?_
    rw [hR]; exact ⟨(hx).then (hwf.bel hb (hx).size), 6, rs, ⟨#[]⟩, ⟨#[]⟩, 0, rfl, by unfold opOf; rw [if_neg n0, if_neg n1, if_neg n2, if_neg n3, if_neg n4, if_pos g, ← e2]⟩
  have n5 : (cutP l).1 ≠ lookB := fun e => g (SE _ _ (by apply toList_inj; rw [d1, e]; rfl))
  clear g
  conv => cbv
  refine br (fun g => ?_) (fun g => ?_)
  · have g : (cutP l).1 = revokeB := by
      have : wd = ⟨⟨[114, 101, 118, 111, 107, 101]⟩⟩ := by simpa [hE.scmp, scmp_eql] using g
      rw [← d1, this]; rfl
    conv => cbv
    refine st_op01 hE ?_
    conv => cbv
    refine st_putS hr zOp hb (add_zero _).symm (by simp) (by simp [Value.oneCell']) fun wf hwf hb2 => ?_
    simp only [List.take_zero, List.nil_append, List.length_cons, List.length_nil, List.drop_succ_cons, List.drop_nil, List.append_nil] at hb2
    conv => cbv
    refine st_cell hr tOp rfl hb2.at ?_
    rw [hR]; exact ⟨(hx).then (hwf.bel hb (hx).size), 7, rs, ⟨#[]⟩, ⟨#[]⟩, 0, rfl, by unfold opOf; rw [if_neg n0, if_neg n1, if_neg n2, if_neg n3, if_neg n4, if_neg n5, if_pos g, ← e2]⟩
  have n6 : (cutP l).1 ≠ revokeB := fun e => g (SE _ _ (by apply toList_inj; rw [d1, e]; rfl))
  clear g
  conv => cbv
  refine br (fun g => ?_) (fun g => ?_)
  · have g : (cutP l).1 = tickB := by
      have : wd = ⟨⟨[116, 105, 99, 107]⟩⟩ := by simpa [hE.scmp, scmp_eql] using g
      rw [← d1, this]; rfl
    conv => cbv
    refine st_f hr (l1digits_f rs (by omega)) fun v w4 hx4 ⟨n, ok, ev, hdg⟩ => ?_
    subst ev
    rw [d2] at hdg
    have lrs : rs.size = (cutP l).2.length := by rw [← d2, data_len]
    replace hb := hb.bel hx4
    replace hx := hx.trans hx4
    rcases hdg with ⟨rfl, j1, j2, j3, j4⟩ | ⟨rfl, hdg⟩
    · conv => cbv
      refine st_slen hE uStr fun y hy => ?_
      conv => cbv
      refine br (fun g2 => ?_) (fun g2 => ?_)
      · have g2 : 12 < y := by simpa [hE.cmp, cmpR] using g2
        have tk : tickN (cutP l).2 = (-1) := by
          unfold tickN; rw [if_neg (fun k => by have := k.2.2; omega)]
        conv => cbv
        refine st_op04 hE ?_
        conv => cbv
        refine st_putS hr zOp hb (add_zero _).symm (by simp) (by simp [Value.oneCell']) fun wf hwf hb2 => ?_
        simp only [List.take_zero, List.nil_append, List.length_cons, List.length_nil, List.drop_succ_cons, List.drop_nil, List.append_nil] at hb2
        conv => cbv
        refine st_cell hr tOp rfl hb2.at ?_
        rw [hR]; exact ⟨(hx).then (hwf.bel hb (hx).size), 8, ⟨#[]⟩, ⟨#[]⟩, ⟨#[]⟩, (-1), rfl, by unfold opOf; rw [if_neg n0, if_neg n1, if_neg n2, if_neg n3, if_neg n4, if_neg n5, if_neg n6, if_pos g, tk]⟩
      · have g2 : y ≤ 12 := by simp [hE.cmp, cmpR] at g2; omega
        have tk : tickN (cutP l).2 = n := by
          unfold tickN; rw [if_pos ⟨j1, j2, by omega⟩]; exact j4.symm
        conv => cbv
        refine st_op04 hE ?_
        conv => cbv
        refine st_putS hr zOp hb (add_zero _).symm (by simp) (by simp [Value.oneCell']) fun wf hwf hb2 => ?_
        simp only [List.take_zero, List.nil_append, List.length_cons, List.length_nil, List.drop_succ_cons, List.drop_nil, List.append_nil] at hb2
        conv => cbv
        refine st_cell hr tOp rfl hb2.at ?_
        rw [hR]; exact ⟨(hx).then (hwf.bel hb (hx).size), 8, ⟨#[]⟩, ⟨#[]⟩, ⟨#[]⟩, n, rfl, by unfold opOf; rw [if_neg n0, if_neg n1, if_neg n2, if_neg n3, if_neg n4, if_neg n5, if_neg n6, if_pos g, tk]⟩
    · skip
      have tk : tickN (cutP l).2 = (-1) := by
        unfold tickN; rw [if_neg (fun k => hdg ⟨k.1, k.2.1, by have := k.2.2; omega⟩)]
      conv => cbv
      refine st_op04 hE ?_
      conv => cbv
      refine st_putS hr zOp hb (add_zero _).symm (by simp) (by simp [Value.oneCell']) fun wf hwf hb2 => ?_
      simp only [List.take_zero, List.nil_append, List.length_cons, List.length_nil, List.drop_succ_cons, List.drop_nil, List.append_nil] at hb2
      conv => cbv
      refine st_cell hr tOp rfl hb2.at ?_
      rw [hR]; exact ⟨(hx).then (hwf.bel hb (hx).size), 8, ⟨#[]⟩, ⟨#[]⟩, ⟨#[]⟩, (-1), rfl, by unfold opOf; rw [if_neg n0, if_neg n1, if_neg n2, if_neg n3, if_neg n4, if_neg n5, if_neg n6, if_pos g, tk]⟩
  have n7 : (cutP l).1 ≠ tickB := fun e => g (SE _ _ (by apply toList_inj; rw [d1, e]; rfl))
  clear g
  conv => cbv
  refine st_op hE ?_
  conv => cbv
  refine st_putS hr zOp hb (add_zero _).symm (by simp) (by simp [Value.oneCell']) fun wf hwf hb2 => ?_
  simp only [List.take_zero, List.nil_append, List.length_cons, List.length_nil, List.drop_succ_cons, List.drop_nil, List.append_nil] at hb2
  conv => cbv
  refine st_cell hr tOp rfl hb2.at ?_
  rw [hR]; exact ⟨(hx).then (hwf.bel hb (hx).size), 0, ⟨#[]⟩, ⟨#[]⟩, ⟨#[]⟩, 0, rfl, by unfold opOf; rw [if_neg n0, if_neg n1, if_neg n2, if_neg n3, if_neg n4, if_neg n5, if_neg n6, if_neg n7]⟩
theorem Cut2_f {w : World} (hl : LibV w) (s p : ByteArray) (hp : p = ⟨#[32]⟩) (hs : s.size ≤ 1048576) :
    FC Tryd.prog 47 [.string s, .string p] w fun v _ => ∃ a b ok, v = .tuple ⟨[.string a, .string b, .bool ok]⟩ ∧ a = mkB (cutP s.data.toList).1 ∧ b = mkB (cutP s.data.toList).2 ∧ a.size ≤ s.size ∧ b.size ≤ s.size := by
  subst hp
  obtain ⟨m, hm⟩ := hl.mx
  refine ⟨⟨_, Tryd.func47, by kernel_rfl⟩, (Any.strings_Cut { Tryd.laysM145 with } s ⟨#[32]⟩ m w (by omega) hm).mono fun e w' ⟨he, k, hw⟩ => ?_⟩
  have hx : Ext w w' := by rw [hw]; exact ⟨rfl, rfl, rfl, Nat.le_refl _, fun _ _ => rfl⟩
  refine ⟨_, he, hx, mkB (cutP s.data.toList).1, mkB (cutP s.data.toList).2, _, rfl, rfl, rfl, ?_, ?_⟩
  · rcases cut_at 32 s.data.toList with h | ⟨a, r, h1, h2⟩
    · rw [cutP_miss h, mkB_data]; exact Nat.le_refl _
    · have hlen := congrArg List.length h1
      rw [data_len] at hlen
      simp at hlen
      rw [h1, cutP_hit h2]
      simp only [mkB, ByteArray.size, List.size_toArray] at hlen ⊢; omega
  · rcases cut_at 32 s.data.toList with h | ⟨a, r, h1, h2⟩
    · rw [cutP_miss h]; exact Nat.zero_le _
    · have hlen := congrArg List.length h1
      rw [data_len] at hlen
      simp at hlen
      rw [h1, cutP_hit h2]
      simp only [mkB, ByteArray.size, List.size_toArray] at hlen ⊢; omega
theorem fld_g {w : World} (hlv : LibV w) {B : Nat} {pf : Addr} {s : ByteArray} (hp : Box B 87 1 w pf [.string s]) (hs : s.size ≤ 1048576) :
    GC Tryd.prog 67 [.pointer (some pf)] w fun v w' => ∃ a b w1, v = .string a ∧ a = mkB (cutP s.data.toList).1 ∧ b = mkB (cutP s.data.toList).2 ∧ a.size ≤ s.size ∧ b.size ≤ s.size ∧ Ext w w1 ∧ Wr (some pf) w1 w' ∧ Box B 87 1 w1 pf [.string s] ∧ Box B 87 1 w' pf [.string b] := by
  refine GC.intro (cs := []) Tryd.func67 (by kernel_rfl) fun E R hE hr hR => ?_
  conv => cbv
  refine st_nil hE ?_
  conv => cbv
  refine st_fld hE fF0 fun q hq => ?_
  conv => cbv
  refine st_load hE cStr (v := .string s) (by rw [hq]; exact hp.at _ _ rfl) ?_
  conv => cbv
  refine st_f hr (Cut2_f hlv s _ rfl hs) fun v w1 hx ⟨a, b, ok, ev, ca, cb, za, zb⟩ => ?_
  subst ev
  have hp1 := hp.bel hx
  conv => cbv
  refine st_nil hE ?_
  conv => cbv
  refine st_fld hE fF0 fun q2 hq2 => ?_
  conv => cbv
  refine st_put hr (by kernel_rfl) hp1 hq2 (by simp) rfl fun w2 hw2 hp2 => ?_
  simp only [List.set_cons_zero] at hp2
  conv => cbv
  rw [hR]; exact ⟨a, b, w1, rfl, ca, cb, za, zb, hx, hw2, hp1, hp2⟩
set_option maxHeartbeats 1000000 in
theorem readOp_f {w : World} (hlv : LibV w) (s : ByteArray) (hs : s.size ≤ 1048576) :
    FC Tryd.prog 38 [.string s] w fun v _ => ∃ k nm ot tx nu, v = .agg ⟨[.int .i64 k, .string nm, .string ot, .string tx, .int .i64 nu]⟩ ∧ opOf s.data.toList = ⟨k, nm, ot, tx, nu⟩ := by
  refine FC.intro (cs := []) Tryd.func38 (by kernel_rfl) fun E R hE hr hR => ?_
  obtain ⟨l, hl⟩ : ∃ l, l = s.data.toList := ⟨_, rfl⟩
  rw [← hl] at hR
  have SE : ∀ x y : ByteArray, x = y → E.scmp .eql x y = true := fun x y h => by rw [hE.scmp, scmp_eql]; exact h
  conv => cbv
  refine st_alloc hr tOp rfl fun a w1 hx hb0 => ?_
  have hb := hb0 _ (Nat.le_refl _)
  clear hb0
  conv => cbv
  refine st_f hr (Cut2_f (hlv.ext hx) s _ rfl hs) fun v w2 hx2 ⟨wd, rs, ok0, ev, e1, e2, z1, z2⟩ => ?_
  subst ev
  rw [← hl] at e1 e2
  have d1 : wd.data.toList = (cutP l).1 := by rw [e1, data_mkB]
  have d2 : rs.data.toList = (cutP l).2 := by rw [e2, data_mkB]
  replace hb := hb.bel hx2
  replace hx := hx.trans hx2
  conv => cbv
  refine st_fs hE ?_
  conv => cbv
  refine st_box hr fun pf w3 hx3 hp0 => ?_
  have hp : Box w.heap.size 87 1 w3 pf [.string rs] := hp0 _ hx.size
  have apb := hb.apart (hp0 w2.heap.size (Nat.le_refl _)) (Nat.le_refl _)
  replace hb := hb.bel hx3
  replace hx := hx.trans hx3
  clear hp0 hx2 hx3
  conv => cbv
  refine br (fun g => ?_) (fun g => ?_)
  · have g : (cutP l).1 = policyB := by
      have : wd = ⟨⟨[112, 111, 108, 105, 99, 121]⟩⟩ := by simpa [hE.scmp, scmp_eql] using g
      rw [← d1, this]; rfl
    conv => cbv
    refine st_op03 hE ?_
    conv => cbv
    refine st_putS hr zOp hb (add_zero _).symm (by simp) (by simp [Value.oneCell']) fun wf hwf hb2 => ?_
    simp only [List.take_zero, List.nil_append, List.length_cons, List.length_nil, List.drop_succ_cons, List.drop_nil, List.append_nil] at hb2
    conv => cbv
    refine st_cell hr tOp rfl hb2.at ?_
    rw [hR]; exact ⟨(hx).then (hwf.bel hb (hx).size), 1, ⟨#[]⟩, ⟨#[]⟩, rs, 0, rfl, by unfold opOf; rw [if_pos g, ← e2]⟩
  have n0 : (cutP l).1 ≠ policyB := fun e => g (SE _ _ (by apply toList_inj; rw [d1, e]; rfl))
  clear g
  conv => cbv
  refine br (fun g => ?_) (fun g => ?_)
  · have g : (cutP l).1 = clientB := by
      have : wd = ⟨⟨[99, 108, 105, 101, 110, 116]⟩⟩ := by simpa [hE.scmp, scmp_eql] using g
      rw [← d1, this]; rfl
    conv => cbv
    refine st_g hr (fld_g (hlv.ext hx) hp (by omega)) fun v wz1 ⟨f1, g1, wy1, ev, c1, k1, zf1, zg1, m1, m2, m3, hp'⟩ => ?_
    subst ev
    rw [d2] at c1 k1
    have dg1 : g1.data.toList = (cutP (cutP l).2).2 := by rw [k1, data_mkB]
    replace hb := (hb.bel m1).wr m2 apb.1
    replace hx := (hx.trans m1).then (m2.bel m3 (Nat.le_trans hx.size m1.size))
    replace hp := hp'
    clear m1 m2 m3 hp'
    conv => cbv
    refine st_op01 hE ?_
    conv => cbv
    refine st_alloc hr tOp rfl fun a7 w7 hx7 h70 => ?_
    have h7 := h70 _ hx.size
    have ab7 := hb.apart (h70 _ (Nat.le_refl _)) (Nat.le_refl _)
    have ap7 := hp.apart (h70 _ (Nat.le_refl _)) (Nat.le_refl _)
    replace hb := hb.bel hx7
    replace hp := hp.bel hx7
    replace hx := hx.trans hx7
    clear h70 hx7
    conv => cbv
    refine st_putS hr zOp h7 (add_zero _).symm (by simp) (by simp [Value.oneCell']) fun w8 hw8 h72 => ?_
    simp only [List.take_zero, List.nil_append, List.length_cons, List.length_nil, List.drop_succ_cons, List.drop_nil, List.append_nil] at h72
    replace hx := hx.then (hw8.bel h7 hx.size)
    replace hb := hb.wr hw8 ab7.1
    replace hp := hp.wr hw8 ap7.1
    replace h7 := h72
    clear h72 hw8
    conv => cbv
    refine st_nil hE ?_
    conv => cbv
    refine st_fld hE fF0 fun qf hqf => ?_
    conv => cbv
    refine st_load hE cStr (v := .string g1) (by rw [hqf]; exact hp.at _ _ rfl) ?_
    conv => cbv
    refine st_fld hE fO3 fun qo hqo => ?_
    conv => cbv
    refine st_put hr (by kernel_rfl) h7 hqo (by simp) rfl fun w9 hw9 h72 => ?_
    simp only [List.set_cons_zero, List.set_cons_succ] at h72
    replace hx := hx.then (hw9.bel h7 hx.size)
    replace hb := hb.wr hw9 ab7.1
    replace h7 := h72
    conv => cbv
    refine st_loadS hE tOp rfl h7.at ?_
    conv => cbv
    refine st_putS hr zOp hb (add_zero _).symm (by simp) (by simp [Value.oneCell']) fun wf hwf hb2 => ?_
    simp only [List.take_zero, List.nil_append, List.length_cons, List.length_nil, List.drop_succ_cons, List.drop_nil, List.append_nil] at hb2
    conv => cbv
    refine st_cell hr tOp rfl hb2.at ?_
    rw [hR]; exact ⟨(hx).then (hwf.bel hb (hx).size), 2, f1, ⟨#[]⟩, g1, 0, rfl, by unfold opOf; rw [if_neg n0, if_pos g, ← c1, ← k1]⟩
  have n1 : (cutP l).1 ≠ clientB := fun e => g (SE _ _ (by apply toList_inj; rw [d1, e]; rfl))
  clear g
  conv => cbv
  refine br (fun g => ?_) (fun g => ?_)
  · have g : (cutP l).1 = consentB := by
      have : wd = ⟨⟨[99, 111, 110, 115, 101, 110, 116]⟩⟩ := by simpa [hE.scmp, scmp_eql] using g
      rw [← d1, this]; rfl
    conv => cbv
    refine st_g hr (fld_g (hlv.ext hx) hp (by omega)) fun v wz1 ⟨f1, g1, wy1, ev, c1, k1, zf1, zg1, m1, m2, m3, hp'⟩ => ?_
    subst ev
    rw [d2] at c1 k1
    have dg1 : g1.data.toList = (cutP (cutP l).2).2 := by rw [k1, data_mkB]
    replace hb := (hb.bel m1).wr m2 apb.1
    replace hx := (hx.trans m1).then (m2.bel m3 (Nat.le_trans hx.size m1.size))
    replace hp := hp'
    clear m1 m2 m3 hp'
    conv => cbv
    refine st_g hr (fld_g (hlv.ext hx) hp (by omega)) fun v wz2 ⟨f2, g2, wy2, ev, c2, k2, zf2, zg2, m1, m2, m3, hp'⟩ => ?_
    subst ev
    rw [dg1] at c2 k2
    have dg2 : g2.data.toList = (cutP (cutP (cutP l).2).2).2 := by rw [k2, data_mkB]
    replace hb := (hb.bel m1).wr m2 apb.1
    replace hx := (hx.trans m1).then (m2.bel m3 (Nat.le_trans hx.size m1.size))
    replace hp := hp'
    clear m1 m2 m3 hp'
    conv => cbv
    refine st_op012 hE ?_
    conv => cbv
    refine st_alloc hr tOp rfl fun a7 w7 hx7 h70 => ?_
    have h7 := h70 _ hx.size
    have ab7 := hb.apart (h70 _ (Nat.le_refl _)) (Nat.le_refl _)
    have ap7 := hp.apart (h70 _ (Nat.le_refl _)) (Nat.le_refl _)
    replace hb := hb.bel hx7
    replace hp := hp.bel hx7
    replace hx := hx.trans hx7
    clear h70 hx7
    conv => cbv
    refine st_putS hr zOp h7 (add_zero _).symm (by simp) (by simp [Value.oneCell']) fun w8 hw8 h72 => ?_
    simp only [List.take_zero, List.nil_append, List.length_cons, List.length_nil, List.drop_succ_cons, List.drop_nil, List.append_nil] at h72
    replace hx := hx.then (hw8.bel h7 hx.size)
    replace hb := hb.wr hw8 ab7.1
    replace hp := hp.wr hw8 ap7.1
    replace h7 := h72
    clear h72 hw8
    conv => cbv
    refine st_nil hE ?_
    conv => cbv
    refine st_fld hE fF0 fun qf hqf => ?_
    conv => cbv
    refine st_load hE cStr (v := .string g2) (by rw [hqf]; exact hp.at _ _ rfl) ?_
    conv => cbv
    refine st_fld hE fO3 fun qo hqo => ?_
    conv => cbv
    refine st_put hr (by kernel_rfl) h7 hqo (by simp) rfl fun w9 hw9 h72 => ?_
    simp only [List.set_cons_zero, List.set_cons_succ] at h72
    replace hx := hx.then (hw9.bel h7 hx.size)
    replace hb := hb.wr hw9 ab7.1
    replace h7 := h72
    conv => cbv
    refine st_loadS hE tOp rfl h7.at ?_
    conv => cbv
    refine st_putS hr zOp hb (add_zero _).symm (by simp) (by simp [Value.oneCell']) fun wf hwf hb2 => ?_
    simp only [List.take_zero, List.nil_append, List.length_cons, List.length_nil, List.drop_succ_cons, List.drop_nil, List.append_nil] at hb2
    conv => cbv
    refine st_cell hr tOp rfl hb2.at ?_
    rw [hR]; exact ⟨(hx).then (hwf.bel hb (hx).size), 3, f1, f2, g2, 0, rfl, by unfold opOf; rw [if_neg n0, if_neg n1, if_pos g, ← c1, ← c2, ← k2]⟩
  have n2 : (cutP l).1 ≠ consentB := fun e => g (SE _ _ (by apply toList_inj; rw [d1, e]; rfl))
  clear g
  conv => cbv
  refine br (fun g => ?_) (fun g => ?_)
  · have g : (cutP l).1 = withdrawB := by
      have : wd = ⟨⟨[119, 105, 116, 104, 100, 114, 97, 119]⟩⟩ := by simpa [hE.scmp, scmp_eql] using g
      rw [← d1, this]; rfl
    conv => cbv
    refine st_g hr (fld_g (hlv.ext hx) hp (by omega)) fun v wz1 ⟨f1, g1, wy1, ev, c1, k1, zf1, zg1, m1, m2, m3, hp'⟩ => ?_
    subst ev
    rw [d2] at c1 k1
    have dg1 : g1.data.toList = (cutP (cutP l).2).2 := by rw [k1, data_mkB]
    replace hb := (hb.bel m1).wr m2 apb.1
    replace hx := (hx.trans m1).then (m2.bel m3 (Nat.le_trans hx.size m1.size))
    replace hp := hp'
    clear m1 m2 m3 hp'
    conv => cbv
    refine st_op01 hE ?_
    conv => cbv
    refine st_alloc hr tOp rfl fun a7 w7 hx7 h70 => ?_
    have h7 := h70 _ hx.size
    have ab7 := hb.apart (h70 _ (Nat.le_refl _)) (Nat.le_refl _)
    have ap7 := hp.apart (h70 _ (Nat.le_refl _)) (Nat.le_refl _)
    replace hb := hb.bel hx7
    replace hp := hp.bel hx7
    replace hx := hx.trans hx7
    clear h70 hx7
    conv => cbv
    refine st_putS hr zOp h7 (add_zero _).symm (by simp) (by simp [Value.oneCell']) fun w8 hw8 h72 => ?_
    simp only [List.take_zero, List.nil_append, List.length_cons, List.length_nil, List.drop_succ_cons, List.drop_nil, List.append_nil] at h72
    replace hx := hx.then (hw8.bel h7 hx.size)
    replace hb := hb.wr hw8 ab7.1
    replace hp := hp.wr hw8 ap7.1
    replace h7 := h72
    clear h72 hw8
    conv => cbv
    refine st_nil hE ?_
    conv => cbv
    refine st_fld hE fF0 fun qf hqf => ?_
    conv => cbv
    refine st_load hE cStr (v := .string g1) (by rw [hqf]; exact hp.at _ _ rfl) ?_
    conv => cbv
    refine st_fld hE fO2 fun qo hqo => ?_
    conv => cbv
    refine st_put hr (by kernel_rfl) h7 hqo (by simp) rfl fun w9 hw9 h72 => ?_
    simp only [List.set_cons_zero, List.set_cons_succ] at h72
    replace hx := hx.then (hw9.bel h7 hx.size)
    replace hb := hb.wr hw9 ab7.1
    replace h7 := h72
    conv => cbv
    refine st_loadS hE tOp rfl h7.at ?_
    conv => cbv
    refine st_putS hr zOp hb (add_zero _).symm (by simp) (by simp [Value.oneCell']) fun wf hwf hb2 => ?_
    simp only [List.take_zero, List.nil_append, List.length_cons, List.length_nil, List.drop_succ_cons, List.drop_nil, List.append_nil] at hb2
    conv => cbv
    refine st_cell hr tOp rfl hb2.at ?_
    rw [hR]; exact ⟨(hx).then (hwf.bel hb (hx).size), 4, f1, g1, ⟨#[]⟩, 0, rfl, by unfold opOf; rw [if_neg n0, if_neg n1, if_neg n2, if_pos g, ← c1, ← k1]⟩
  have n3 : (cutP l).1 ≠ withdrawB := fun e => g (SE _ _ (by apply toList_inj; rw [d1, e]; rfl))
  clear g
  conv => cbv
  refine br (fun g => ?_) (fun g => ?_)
  · have g : (cutP l).1 = tokenB := by
      have : wd = ⟨⟨[116, 111, 107, 101, 110]⟩⟩ := by simpa [hE.scmp, scmp_eql] using g
      rw [← d1, this]; rfl
    conv => cbv
    refine st_g hr (fld_g (hlv.ext hx) hp (by omega)) fun v wz1 ⟨f1, g1, wy1, ev, c1, k1, zf1, zg1, m1, m2, m3, hp'⟩ => ?_
    subst ev
    rw [d2] at c1 k1
    have dg1 : g1.data.toList = (cutP (cutP l).2).2 := by rw [k1, data_mkB]
    replace hb := (hb.bel m1).wr m2 apb.1
    replace hx := (hx.trans m1).then (m2.bel m3 (Nat.le_trans hx.size m1.size))
    replace hp := hp'
    clear m1 m2 m3 hp'
    conv => cbv
    refine st_op01 hE ?_
    conv => cbv
    refine st_alloc hr tOp rfl fun a7 w7 hx7 h70 => ?_
    have h7 := h70 _ hx.size
    have ab7 := hb.apart (h70 _ (Nat.le_refl _)) (Nat.le_refl _)
    have ap7 := hp.apart (h70 _ (Nat.le_refl _)) (Nat.le_refl _)
    replace hb := hb.bel hx7
    replace hp := hp.bel hx7
    replace hx := hx.trans hx7
    clear h70 hx7
    conv => cbv
    refine st_putS hr zOp h7 (add_zero _).symm (by simp) (by simp [Value.oneCell']) fun w8 hw8 h72 => ?_
    simp only [List.take_zero, List.nil_append, List.length_cons, List.length_nil, List.drop_succ_cons, List.drop_nil, List.append_nil] at h72
    replace hx := hx.then (hw8.bel h7 hx.size)
    replace hb := hb.wr hw8 ab7.1
    replace hp := hp.wr hw8 ap7.1
    replace h7 := h72
    clear h72 hw8
    conv => cbv
    refine st_nil hE ?_
    conv => cbv
    refine st_fld hE fF0 fun qf hqf => ?_
    conv => cbv
    refine st_load hE cStr (v := .string g1) (by rw [hqf]; exact hp.at _ _ rfl) ?_
    conv => cbv
    refine st_fld hE fO3 fun qo hqo => ?_
    conv => cbv
    refine st_put hr (by kernel_rfl) h7 hqo (by simp) rfl fun w9 hw9 h72 => ?_
    simp only [List.set_cons_zero, List.set_cons_succ] at h72
    replace hx := hx.then (hw9.bel h7 hx.size)
    replace hb := hb.wr hw9 ab7.1
    replace h7 := h72
    conv => cbv
    refine st_loadS hE tOp rfl h7.at ?_
    conv => cbv
    refine st_putS hr zOp hb (add_zero _).symm (by simp) (by simp [Value.oneCell']) fun wf hwf hb2 => ?_
    simp only [List.take_zero, List.nil_append, List.length_cons, List.length_nil, List.drop_succ_cons, List.drop_nil, List.append_nil] at hb2
    conv => cbv
    refine st_cell hr tOp rfl hb2.at ?_
    rw [hR]; exact ⟨(hx).then (hwf.bel hb (hx).size), 5, f1, ⟨#[]⟩, g1, 0, rfl, by unfold opOf; rw [if_neg n0, if_neg n1, if_neg n2, if_neg n3, if_pos g, ← c1, ← k1]⟩
  have n4 : (cutP l).1 ≠ tokenB := fun e => g (SE _ _ (by apply toList_inj; rw [d1, e]; rfl))
  clear g
  conv => cbv
  refine br (fun g => ?_) (fun g => ?_)
  · have g : (cutP l).1 = lookB := by
      have : wd = ⟨⟨[108, 111, 111, 107]⟩⟩ := by simpa [hE.scmp, scmp_eql] using g
      rw [← d1, this]; rfl
    conv => cbv
    refine st_op01 hE ?_
    conv => cbv
    refine st_putS hr zOp hb (add_zero _).symm (by simp) (by simp [Value.oneCell']) fun wf hwf hb2 => ?_
    simp only [List.take_zero, List.nil_append, List.length_cons, List.length_nil, List.drop_succ_cons, List.drop_nil, List.append_nil] at hb2
    conv => cbv
    refine st_cell hr tOp rfl hb2.at ?_
    rw [hR]; exact ⟨(hx).then (hwf.bel hb (hx).size), 6, rs, ⟨#[]⟩, ⟨#[]⟩, 0, rfl, by unfold opOf; rw [if_neg n0, if_neg n1, if_neg n2, if_neg n3, if_neg n4, if_pos g, ← e2]⟩
  have n5 : (cutP l).1 ≠ lookB := fun e => g (SE _ _ (by apply toList_inj; rw [d1, e]; rfl))
  clear g
  conv => cbv
  refine br (fun g => ?_) (fun g => ?_)
  · have g : (cutP l).1 = revokeB := by
      have : wd = ⟨⟨[114, 101, 118, 111, 107, 101]⟩⟩ := by simpa [hE.scmp, scmp_eql] using g
      rw [← d1, this]; rfl
    conv => cbv
    refine st_op01 hE ?_
    conv => cbv
    refine st_putS hr zOp hb (add_zero _).symm (by simp) (by simp [Value.oneCell']) fun wf hwf hb2 => ?_
    simp only [List.take_zero, List.nil_append, List.length_cons, List.length_nil, List.drop_succ_cons, List.drop_nil, List.append_nil] at hb2
    conv => cbv
    refine st_cell hr tOp rfl hb2.at ?_
    rw [hR]; exact ⟨(hx).then (hwf.bel hb (hx).size), 7, rs, ⟨#[]⟩, ⟨#[]⟩, 0, rfl, by unfold opOf; rw [if_neg n0, if_neg n1, if_neg n2, if_neg n3, if_neg n4, if_neg n5, if_pos g, ← e2]⟩
  have n6 : (cutP l).1 ≠ revokeB := fun e => g (SE _ _ (by apply toList_inj; rw [d1, e]; rfl))
  clear g
  conv => cbv
  refine br (fun g => ?_) (fun g => ?_)
  · have g : (cutP l).1 = tickB := by
      have : wd = ⟨⟨[116, 105, 99, 107]⟩⟩ := by simpa [hE.scmp, scmp_eql] using g
      rw [← d1, this]; rfl
    have lrs : rs.size = (cutP l).2.length := by rw [← d2, data_len]
    conv => cbv
    refine st_f hr (ParseInt_f (hlv.ext hx) rs (by omega)) fun v w4 hx4 hpi => ?_
    rw [d2] at hpi
    replace hb := hb.bel hx4
    replace hx := hx.trans hx4
    rcases hpi with ⟨n, ev, hpn, hfn⟩ | ⟨n, te, pe, ev, hpn⟩ <;> subst ev
    · conv => cbv
      refine st_neNil hE Tryd.underlying46 ?_
      conv => cbv
      refine st_f hr (run_f rs (by omega)) fun v w5 hx5 ⟨u, ev, hru⟩ => ?_
      subst ev
      rw [d2] at hru
      replace hb := hb.bel hx5
      replace hx := hx.trans hx5
      conv => cbv
      refine br (fun g2 => ?_) (fun g2 => ?_)
      · have g2 : u ≠ rs := by simpa [hE.scmp, scmp_neq] using g2
        have tk : tickN (cutP l).2 = (-1) := by
          unfold tickN; rw [if_neg (fun k => g2 (hru.2 k.1))]
        conv => cbv
        refine st_op04 hE ?_
        conv => cbv
        refine st_putS hr zOp hb (add_zero _).symm (by simp) (by simp [Value.oneCell']) fun wf hwf hb2 => ?_
        simp only [List.take_zero, List.nil_append, List.length_cons, List.length_nil, List.drop_succ_cons, List.drop_nil, List.append_nil] at hb2
        conv => cbv
        refine st_cell hr tOp rfl hb2.at ?_
        rw [hR]; exact ⟨(hx).then (hwf.bel hb (hx).size), 8, ⟨#[]⟩, ⟨#[]⟩, ⟨#[]⟩, (-1), rfl, by unfold opOf; rw [if_neg n0, if_neg n1, if_neg n2, if_neg n3, if_neg n4, if_neg n5, if_neg n6, if_pos g, tk]⟩
      have g2 : u = rs := by simpa [hE.scmp, scmp_neq] using g2
      have hdg := hru.1 g2
      conv => cbv
      refine st_slen hE uStr fun y hy => ?_
      conv => cbv
      refine br (fun g3 => ?_) (fun g3 => ?_)
      · have g3 : 12 < y := by simpa [hE.cmp, cmpR] using g3
        have tk : tickN (cutP l).2 = (-1) := by
          unfold tickN; rw [if_neg (fun k => by have := k.2.2; omega)]
        conv => cbv
        refine st_op04 hE ?_
        conv => cbv
        refine st_putS hr zOp hb (add_zero _).symm (by simp) (by simp [Value.oneCell']) fun wf hwf hb2 => ?_
        simp only [List.take_zero, List.nil_append, List.length_cons, List.length_nil, List.drop_succ_cons, List.drop_nil, List.append_nil] at hb2
        conv => cbv
        refine st_cell hr tOp rfl hb2.at ?_
        rw [hR]; exact ⟨(hx).then (hwf.bel hb (hx).size), 8, ⟨#[]⟩, ⟨#[]⟩, ⟨#[]⟩, (-1), rfl, by unfold opOf; rw [if_neg n0, if_neg n1, if_neg n2, if_neg n3, if_neg n4, if_neg n5, if_neg n6, if_pos g, tk]⟩
      · have g3 : y ≤ 12 := by simp [hE.cmp, cmpR] at g3; omega
        have hne : (cutP l).2 ≠ [] := fun e => by rw [e] at hpn; simp [Lib.parseIntB] at hpn
        have hpd := parse_dv hdg hne (by omega)
        rw [hpn] at hpd
        have hnn : n = (dv (cutP l).2 0 : Nat) := Lib.NumEnd.ok.inj hpd
        have tk : tickN (cutP l).2 = n := by
          unfold tickN; rw [if_pos ⟨hdg, hne, by omega⟩]; exact hnn.symm
        conv => cbv
        refine st_op04 hE ?_
        conv => cbv
        refine st_putS hr zOp hb (add_zero _).symm (by simp) (by simp [Value.oneCell']) fun wf hwf hb2 => ?_
        simp only [List.take_zero, List.nil_append, List.length_cons, List.length_nil, List.drop_succ_cons, List.drop_nil, List.append_nil] at hb2
        conv => cbv
        refine st_cell hr tOp rfl hb2.at ?_
        rw [hR]; exact ⟨(hx).then (hwf.bel hb (hx).size), 8, ⟨#[]⟩, ⟨#[]⟩, ⟨#[]⟩, n, rfl, by unfold opOf; rw [if_neg n0, if_neg n1, if_neg n2, if_neg n3, if_neg n4, if_neg n5, if_neg n6, if_pos g, tk]⟩
    · conv => cbv
      refine st_neSome hE Tryd.underlying46 ?_
      have tk : tickN (cutP l).2 = (-1) := by
        unfold tickN; rw [if_neg (fun k => hpn _ (parse_dv k.1 k.2.1 k.2.2))]
      conv => cbv
      refine st_op04 hE ?_
      conv => cbv
      refine st_putS hr zOp hb (add_zero _).symm (by simp) (by simp [Value.oneCell']) fun wf hwf hb2 => ?_
      simp only [List.take_zero, List.nil_append, List.length_cons, List.length_nil, List.drop_succ_cons, List.drop_nil, List.append_nil] at hb2
      conv => cbv
      refine st_cell hr tOp rfl hb2.at ?_
      rw [hR]; exact ⟨(hx).then (hwf.bel hb (hx).size), 8, ⟨#[]⟩, ⟨#[]⟩, ⟨#[]⟩, (-1), rfl, by unfold opOf; rw [if_neg n0, if_neg n1, if_neg n2, if_neg n3, if_neg n4, if_neg n5, if_neg n6, if_pos g, tk]⟩
  have n7 : (cutP l).1 ≠ tickB := fun e => g (SE _ _ (by apply toList_inj; rw [d1, e]; rfl))
  clear g
  conv => cbv
  refine st_op hE ?_
  conv => cbv
  refine st_putS hr zOp hb (add_zero _).symm (by simp) (by simp [Value.oneCell']) fun wf hwf hb2 => ?_
  simp only [List.take_zero, List.nil_append, List.length_cons, List.length_nil, List.drop_succ_cons, List.drop_nil, List.append_nil] at hb2
  conv => cbv
  refine st_cell hr tOp rfl hb2.at ?_
  rw [hR]; exact ⟨(hx).then (hwf.bel hb (hx).size), 0, ⟨#[]⟩, ⟨#[]⟩, ⟨#[]⟩, 0, rfl, by unfold opOf; rw [if_neg n0, if_neg n1, if_neg n2, if_neg n3, if_neg n4, if_neg n5, if_neg n6, if_neg n7]⟩
end Go.Proofs.YtjaejonnbhdddaaDoor
