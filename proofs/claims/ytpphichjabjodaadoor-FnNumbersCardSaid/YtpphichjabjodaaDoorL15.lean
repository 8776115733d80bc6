/- The reader of the draws: a byte, a number. -/
import Derived.Test.YtpphichjabjodaaDoorEng6
import Derived.Test.YtpphichjabjodaaDoorSt
namespace Go.Proofs.YtpphichjabjodaaDoor
open Go.Eng
set_option linter.unusedVariables false
theorem uI64n : Tryd.prog.underlying 2 = some (.int .i64) := Tryd.underlying2
theorem cInt : Cel Tryd.prog 3 := ⟨_, uInt, by simp, by simp⟩
theorem cU8 : Cel Tryd.prog 5 := ⟨_, uU8, by simp, by simp⟩
theorem cBytes : Cel Tryd.prog 25 := ⟨_, Tryd.underlying25, by simp, by simp⟩
theorem tRd : Stc Tryd.prog 58 2 [.slice none 0 0, .int .i64 0] := ⟨by kernel_rfl, by kernel_rfl⟩
theorem fR0 : Fld Tryd.prog 58 0 0 := ⟨by kernel_rfl⟩
theorem fR1 : Fld Tryd.prog 58 1 1 := ⟨by kernel_rfl⟩
theorem zInt : (Tryd.prog.info? 3).map (·.size) = some 1 := by kernel_rfl
/-- A reader over the bytes zs, at p. -/
structure Rd (w0 w : World) (r : Addr) (A : Option Addr) (n c : Nat) (zs : List Int) (p : Int) : Prop where
  ext : Ext w0 w
  box : Box w0.heap.size 58 2 w r [.slice A n c, .int .i64 p]
  byts : Byts w0 A n c zs
  p0 : 0 ≤ p
  p1 : p ≤ n
theorem Rd.bel {w0 w w' : World} {r A n c zs p} (h : Rd w0 w r A n c zs p) (hx : Ext w w') : Rd w0 w' r A n c zs p := ⟨h.ext.trans hx, h.box.bel hx, h.byts, h.p0, h.p1⟩
theorem next_g {w0 w : World} {r : Addr} {A : Option Addr} {n c : Nat} {zs : List Int} {p : Int} (h : Rd w0 w r A n c zs p) :
    GC Tryd.prog 28 [.pointer (some r)] w fun v w' => ∃ k q, v = .int .i64 k ∧ 0 ≤ k ∧ k ≤ 255 ∧ p ≤ q ∧ Rd w0 w' r A n c zs q ∧ Wr (some r) w w' := by
  refine GC.intro (cs := []) Tryd.func28 (by kernel_rfl) fun E R hE hr hR => ?_
  have hp0 := h.p0
  have hp1 := h.p1
  have hle := h.byts.le
  conv => cbv
  refine draw_q hr fol (by kernel_rfl) fun E' hE' => ?_
  conv => cbv
  refine st_nil hE' ?_
  conv => cbv
  (refine st_fld hE' fR1 fun pf hpf => ?_; (conv => cbv); refine st_load hE' cInt (by rw [hpf]; exact (h.box).at _ _ rfl) ?_; clear hpf; (conv => cbv))
  refine st_nil hE' ?_
  conv => cbv
  (refine st_fld hE' fR0 fun pf hpf => ?_; (conv => cbv); refine st_load hE' cBytes (by rw [hpf]; exact (h.box).at _ _ rfl) ?_; clear hpf; (conv => cbv))
  refine st_len hE' tBytes fun x hx => ?_
  conv => cbv
  intro w2 hs2
  have h2 := h.bel hs2.ext
  conv => cbv
  refine br (fun g => ?_) (fun g => ?_)
  · conv => cbv
    rw [hR]; exact ⟨0, p, rfl, by omega, by omega, by omega, h2, hs2.ext.wr _⟩
  have g : p < n := by simp [hE'.cmp, cmpR] at g; omega
  conv => cbv
  refine draw_q hr fol (by kernel_rfl) fun E2 hE2 => ?_
  conv => cbv
  refine st_nil hE2 ?_
  conv => cbv
  refine st_fld hE2 fR0 fun a ha => ?_
  conv => cbv
  refine st_load hE2 cBytes (by rw [ha]; exact h2.box.at _ _ rfl) ?_
  conv => cbv
  refine st_nil hE2 ?_
  conv => cbv
  refine st_fld hE2 fR1 fun a2 ha2 => ?_
  conv => cbv
  refine st_load hE2 cInt (by rw [ha2]; exact h2.box.at _ _ rfl) ?_
  conv => cbv
  refine st_bt hE2 tBytes (h2.byts.ext h2.ext) hp0 g fun a3 z hz z0 z1 hc => ?_
  conv => cbv
  refine st_load hE2 cU8 hc ?_
  conv => cbv
  refine st_conv hE2 ⟨_, uU8⟩ uInt fun k hk => ?_
  obtain rfl : k = z := by rw [hk]; exact wrap_in (by omega) (by omega)
  conv => cbv
  intro w3 hs3
  have h3 := h2.bel hs3.ext
  obtain ⟨q, hq⟩ : ∃ q, q = p + 1 := ⟨_, rfl⟩
  have eq1 : E.ar .add .i64 p 1 = q := by rw [hE.ar, hq]; exact wrap_in (by omega) (by omega)
  conv => cbv
  refine st_nil hE ?_
  conv => cbv
  refine st_fld hE fR1 fun a4 ha4 => ?_
  conv => cbv
  refine st_load hE cInt (by rw [ha4]; exact h3.box.at _ _ rfl) ?_
  conv => cbv
  simp only [eq1]
  refine st_nil hE ?_
  conv => cbv
  refine st_fld hE fR1 fun a5 ha5 => ?_
  conv => cbv
  refine st_put hr zInt h3.box ha5 (by simp) rfl fun wn hw hq2 => ?_
  simp only [List.set_cons_zero, List.set_cons_succ] at hq2
  conv => cbv
  rw [hR]; exact ⟨k, q, rfl, z0, z1, by omega, ⟨h3.ext.then (hw.bel h3.box h3.ext.size), hq2, h.byts, by omega, by omega⟩, ((hs2.ext.trans hs3.ext).wr _).trans hw⟩
theorem num_g {w0 w : World} {r : Addr} {A : Option Addr} {n c : Nat} {zs : List Int} {p : Int} (h : Rd w0 w r A n c zs p) :
    GC Tryd.prog 29 [.pointer (some r)] w fun v w' => ∃ k q, v = .int .i64 k ∧ fits k ∧ Rd w0 w' r A n c zs q ∧ Wr (some r) w w' := by
  refine GC.intro (cs := []) Tryd.func29 (by kernel_rfl) fun E R hE hr hR => ?_
  have af : ∀ op a b, fits (E.ar op .i64 a b) := fun op a b => by rw [hE.ar]; exact arR_fits _ _ _
  conv => cbv
  refine st_g hr (next_g h) fun v w1 ⟨k, q, ev, k0, k1, _, h1, hw1⟩ => ?_
  subst ev
  clear h
  conv => cbv
  refine st_rem hE (by decide) fun m hm => ?_
  conv => cbv
  refine br (fun _ => ?_) (fun _ => ?_)
  · conv => cbv
    refine st_quo hE (by decide) fun x1 hx1 => ?_
    conv => cbv
    refine st_rem hE (by decide) fun x2 hx2 => ?_
    conv => cbv
    rw [hR]; exact ⟨_, q, rfl, af _ _ _, h1, hw1⟩
  conv => cbv
  refine br (fun _ => ?_) (fun _ => ?_)
  · conv => cbv
    refine st_quo hE (by decide) fun x1 hx1 => ?_
    conv => cbv
    refine st_rem hE (by decide) fun x2 hx2 => ?_
    conv => cbv
    rw [hR]; exact ⟨_, q, rfl, af _ _ _, h1, hw1⟩
  conv => cbv
  refine br (fun _ => ?_) (fun _ => ?_)
  · conv => cbv
    refine st_quo hE (by decide) fun x1 hx1 => ?_
    conv => cbv
    refine st_rem hE (by decide) fun x2 hx2 => ?_
    conv => cbv
    rw [hR]; exact ⟨_, q, rfl, by rw [hx2]; exact rem_ok (by simp [fits]) (by decide), h1, hw1⟩
  conv => cbv
  refine br (fun _ => ?_) (fun _ => ?_)
  · conv => cbv
    refine st_quo hE (by decide) fun x1 hx1 => ?_
    conv => cbv
    refine st_rem hE (by decide) fun x2 hx2 => ?_
    conv => cbv
    refine st_neg hE fun x3 hx3 => ?_
    conv => cbv
    rw [hR]; exact ⟨_, q, rfl, by rw [hx3]; exact wrap_fits _, h1, hw1⟩
  conv => cbv
  refine br (fun _ => ?_) (fun _ => ?_)
  · conv => cbv
    refine st_g hr (next_g h1) fun v w2 ⟨k2, q2, ev, _, _, _, h2, hw2⟩ => ?_
    subst ev
    conv => cbv
    refine st_shl hE (by decide) fun x1 hx1 => ?_
    conv => cbv
    refine st_g hr (next_g h2) fun v w3 ⟨k3, q3, ev, _, _, _, h3, hw3⟩ => ?_
    subst ev
    conv => cbv
    rw [hR]; exact ⟨_, q3, rfl, af _ _ _, h3, (hw1.trans hw2).trans hw3⟩
  conv => cbv
  refine br (fun _ => ?_) (fun _ => ?_)
  · conv => cbv
    refine loop_rule hr (fun (s : Int × Int × Int) w' => 0 ≤ s.1 ∧ s.1 ≤ 8 ∧ fits s.2.1 ∧ Rd w0 w' r A n c zs s.2.2 ∧ Wr (some r) w w') (fun s => [(0, .pointer (some r)), (5, .int .i64 s.2.1), (6, .int .i64 s.1)]) (fun s => (8 - s.1).toNat) (0, 0, q)
      (by simp [Fits, lk]) ⟨by simp, by simp, by simp [fits], h1, hw1⟩ ?_
    rintro I hI ⟨i, z, q2⟩ w2 ⟨i0, i8, hz, h2, hw2⟩
    simp only at i0 i8 hz h2 hw2
    conv => cbv
    refine br (fun g => ?_) (fun g => ?_)
    · have g : i < 8 := by simpa [hE.cmp, cmpR] using g
      obtain ⟨i', hi'⟩ : ∃ j, j = i + 1 := ⟨_, rfl⟩
      have e1 : E.ar .add .i64 i 1 = i' := by rw [hE.ar, hi']; exact wrap_in (by omega) (by omega)
      conv => cbv
      refine st_shl hE (by decide) fun x1 hx1 => ?_
      conv => cbv
      refine st_g hr (next_g h2) fun v w3 ⟨k3, q3, ev, _, _, _, h3, hw3⟩ => ?_
      subst ev
      conv => cbv
      refine st_ori hE fun x2 hx2 => ?_
      conv => cbv
      simp only [e1]
      exact ⟨(i', x2, q3), by simp [Fits, lk], hI _ _ ⟨by simp only; omega, by simp only; omega, hx2, h3, hw2.trans hw3⟩, by simp only; omega⟩
    · conv => cbv
      rw [hR]; exact ⟨z, q2, rfl, hz, h2, hw2⟩
  conv => cbv
  refine br (fun _ => ?_) (fun _ => ?_)
  · conv => cbv
    refine st_quo hE (by decide) fun x1 hx1 => ?_
    conv => cbv
    refine st_rem hE (by decide) fun x2 hx2 => ?_
    conv => cbv
    rw [hR]; exact ⟨_, q, rfl, af _ _ _, h1, hw1⟩
  conv => cbv
  rw [hR]; exact ⟨_, q, rfl, af _ _ _, h1, hw1⟩
theorem run_rd (A : Option Addr) (n c : Nat) (w : World) : (Instr.build 58 #[(0, .slice A n c)]).run Tryd.prog w = .ok (.agg #[.slice A n c, .int .i64 0]) w := by kernel_rfl
section
variable {E : Sym} {w : World} {K : Value → World → Prop} {d : Option Tmp} {ty : TypeId} {pos : String} {aft : Array Edge} {g : Option (Nat × Bool)}
theorem st_rd {bq : Bool} (hE : EngB bq Tryd.prog E) {A : Option Addr} {n c : Nat} {x : Operand} (hk : K (.agg ⟨[.slice A n c, .int .i64 0]⟩) w) : E.stop ⟨d, .build 58 ⟨[(0, x)]⟩, ty, pos, aft, g⟩ [.slice A n c] w K := by
  refine hE.det (v := .agg ⟨[.slice A n c, .int .i64 0]⟩) (fun w1 _ ρ hρ => ?_) hk
  simp only [opnds, List.map_cons, List.map_nil, List.cons.injEq, and_true] at hρ
  have := run_rd A n c w1
  simp [execOp, hρ, this]
end
theorem DrawCalc_f {w : World} {A : Option Addr} {n c : Nat} {zs : List Int} (h : Byts w A n c zs) :
    FC Tryd.prog 9 [.slice A n c] w fun v _ => ∃ o a b, v = .tuple ⟨[.int .i64 o, .int .i64 a, .int .i64 b]⟩ ∧ fits a ∧ fits b := by
  refine FC.intro (cs := []) Tryd.func9 (by kernel_rfl) fun E R hE hr hR => ?_
  conv => cbv
  refine st_rd hE ?_
  conv => cbv
  refine st_box hr fun r w1 hx hb0 => ?_
  have h0 : Rd w w1 r A n c zs 0 := ⟨hx, hb0 _ (Nat.le_refl _), h, by omega, by omega⟩
  conv => cbv
  refine st_g hr (next_g h0) fun v w2 ⟨k, q, ev, k0, k1, _, h2, hw2⟩ => ?_
  subst ev
  conv => cbv
  refine st_g hr (num_g h2) fun v w3 ⟨a, q3, ev, ha, h3, hw3⟩ => ?_
  subst ev
  conv => cbv
  refine st_g hr (num_g h3) fun v w4 ⟨b, q4, ev, hb, h4, hw4⟩ => ?_
  subst ev
  conv => cbv
  refine br (fun _ => ?_) (fun _ => ?_)
  · conv => cbv
    rw [hR]; exact ⟨h4.ext, _, a, b, rfl, ha, hb⟩
  · conv => cbv
    refine st_rem hE (by decide) fun m hm => ?_
    conv => cbv
    rw [hR]; exact ⟨h4.ext, _, a, b, rfl, ha, hb⟩
end Go.Proofs.YtpphichjabjodaaDoor
