/- The reader of the draws: a byte, a number. -/
import Derived.Test.YtjaejonnbhdddaaGreatDoorEng6
import Derived.Test.YtjaejonnbhdddaaGreatDoorSt
namespace Go.Proofs.YtjaejonnbhdddaaGreatDoor
open Go.Eng
set_option linter.unusedVariables false
theorem uI64n : Tryz.prog.underlying 2 = some (.int .i64) := Tryz.underlying2
theorem cInt : Cel Tryz.prog 3 := ⟨_, uInt, by simp, by simp⟩
theorem cU8 : Cel Tryz.prog 5 := ⟨_, uU8, by simp, by simp⟩
theorem cBytes : Cel Tryz.prog 22 := ⟨_, Tryz.underlying22, by simp, by simp⟩
theorem tRd : Stc Tryz.prog 35 2 [.slice none 0 0, .int .i64 0] := ⟨by kernel_rfl, by kernel_rfl⟩
theorem fR0 : Fld Tryz.prog 35 0 0 := ⟨by kernel_rfl⟩
theorem fR1 : Fld Tryz.prog 35 1 1 := ⟨by kernel_rfl⟩
theorem zInt : (Tryz.prog.info? 3).map (·.size) = some 1 := by kernel_rfl
/-- A reader over the bytes zs, at p. -/
structure Rd (w0 w : World) (r : Addr) (A : Option Addr) (n c : Nat) (zs : List Int) (p : Int) : Prop where
  ext : Ext w0 w
  box : Box w0.heap.size 35 2 w r [.slice A n c, .int .i64 p]
  byts : Byts w0 A n c zs
  p0 : 0 ≤ p
  p1 : p ≤ n
theorem Rd.bel {w0 w w' : World} {r A n c zs p} (h : Rd w0 w r A n c zs p) (hx : Ext w w') : Rd w0 w' r A n c zs p := ⟨h.ext.trans hx, h.box.bel hx, h.byts, h.p0, h.p1⟩
/-- The byte at p, 0 behind the end; the place behind it. -/
def nx (zs : List Int) (p : Int) : Int := if p < zs.length then zs.getD p.toNat 0 else 0
def up (zs : List Int) (p : Int) : Int := if p < zs.length then p + 1 else p
theorem next_g {w0 w : World} {r : Addr} {A : Option Addr} {n c : Nat} {zs : List Int} {p : Int} (h : Rd w0 w r A n c zs p) :
    GC Tryz.prog 11 [.pointer (some r)] w fun v w' => ∃ k q, v = .int .i64 k ∧ 0 ≤ k ∧ k ≤ 255 ∧ (k = nx zs p ∧ q = up zs p) ∧ Rd w0 w' r A n c zs q ∧ Wr (some r) w w' := by
  have hlen := h.byts.len
  refine GC.intro (cs := []) Tryz.func11 (by kernel_rfl) fun E R hE hr hR => ?_
  have hp0 := h.p0
  have hp1 := h.p1
  have hle := h.byts.le
  conv => cbv
  refine draw_q hr fol (by kernel_rfl) fun E' hE' => ?_
  conv => cbv
  refine st_nil hE' ?_
  conv => cbv
  (refine st_fld hE' fR1 fun pf hpf => ?_; (conv => cbv); refine st_load hE' cInt (by rw [hpf]; exact (h.box).at _ _ rfl) ?_; clear hpf; (conv => cbv))
  refine st_nil hE' ?_
  conv => cbv
  (refine st_fld hE' fR0 fun pf hpf => ?_; (conv => cbv); refine st_load hE' cBytes (by rw [hpf]; exact (h.box).at _ _ rfl) ?_; clear hpf; (conv => cbv))
  refine st_len hE' tBytes fun x hx => ?_
  conv => cbv
  intro w2 hs2
  have h2 := h.bel hs2.ext
  conv => cbv
  refine br (fun g => ?_) (fun g => ?_)
  · conv => cbv
    have g : ¬ p < zs.length := by simp [hE'.cmp, cmpR] at g; omega
    rw [hR]; exact ⟨0, p, rfl, by omega, by omega, ⟨by unfold nx; rw [if_neg g], by unfold up; rw [if_neg g]⟩, h2, hs2.ext.wr _⟩
  have g : p < n := by simp [hE'.cmp, cmpR] at g; omega
  conv => cbv
  refine draw_q hr fol (by kernel_rfl) fun E2 hE2 => ?_
  conv => cbv
  refine st_nil hE2 ?_
  conv => cbv
  refine st_fld hE2 fR0 fun a ha => ?_
  conv => cbv
  refine st_load hE2 cBytes (by rw [ha]; exact h2.box.at _ _ rfl) ?_
  conv => cbv
  refine st_nil hE2 ?_
  conv => cbv
  refine st_fld hE2 fR1 fun a2 ha2 => ?_
  conv => cbv
  refine st_load hE2 cInt (by rw [ha2]; exact h2.box.at _ _ rfl) ?_
  conv => cbv
  refine st_bt hE2 tBytes (h2.byts.ext h2.ext) hp0 g fun a3 z hz z0 z1 hc => ?_
  conv => cbv
  refine st_load hE2 cU8 hc ?_
  conv => cbv
  refine st_conv hE2 ⟨_, uU8⟩ uInt fun k hk => ?_
  obtain rfl : k = z := by rw [hk]; exact wrap_in (by omega) (by omega)
  conv => cbv
  intro w3 hs3
  have h3 := h2.bel hs3.ext
  obtain ⟨q, hq⟩ : ∃ q, q = p + 1 := ⟨_, rfl⟩
  have eq1 : E.ar .add .i64 p 1 = q := by rw [hE.ar, hq]; exact wrap_in (by omega) (by omega)
  conv => cbv
  refine st_nil hE ?_
  conv => cbv
  refine st_fld hE fR1 fun a4 ha4 => ?_
  conv => cbv
  refine st_load hE cInt (by rw [ha4]; exact h3.box.at _ _ rfl) ?_
  conv => cbv
  simp only [eq1]
  refine st_nil hE ?_
  conv => cbv
  refine st_fld hE fR1 fun a5 ha5 => ?_
  conv => cbv
  refine st_put hr zInt h3.box ha5 (by simp) rfl fun wn hw hq2 => ?_
  simp only [List.set_cons_zero, List.set_cons_succ] at hq2
  conv => cbv
  have g' : p < zs.length := by omega
  rw [hR]; exact ⟨k, q, rfl, z0, z1, ⟨by unfold nx; rw [if_pos g', List.getD_eq_getElem?_getD, hz]; rfl, by unfold up; rw [if_pos g']; exact hq⟩, ⟨h3.ext.then (hw.bel h3.box h3.ext.size), hq2, h.byts, by omega, by omega⟩, ((hs2.ext.trans hs3.ext).wr _).trans hw⟩
theorem run_rd (A : Option Addr) (n c : Nat) (w : World) : (Instr.build 35 #[(0, .slice A n c)]).run Tryz.prog w = .ok (.agg #[.slice A n c, .int .i64 0]) w := by kernel_rfl
section
variable {E : Sym} {w : World} {K : Value → World → Prop} {d : Option Tmp} {ty : TypeId} {pos : String} {aft : Array Edge} {g : Option (Nat × Bool)}
theorem st_rd {bq : Bool} (hE : EngB bq Tryz.prog E) {A : Option Addr} {n c : Nat} {x : Operand} (hk : K (.agg ⟨[.slice A n c, .int .i64 0]⟩) w) : E.stop ⟨d, .build 35 ⟨[(0, x)]⟩, ty, pos, aft, g⟩ [.slice A n c] w K := by
  refine hE.det (v := .agg ⟨[.slice A n c, .int .i64 0]⟩) (fun w1 _ ρ hρ => ?_) hk
  simp only [opnds, List.map_cons, List.map_nil, List.cons.injEq, and_true] at hρ
  have := run_rd A n c w1
  simp [execOp, hρ, this]
end
end Go.Proofs.YtjaejonnbhdddaaGreatDoor
