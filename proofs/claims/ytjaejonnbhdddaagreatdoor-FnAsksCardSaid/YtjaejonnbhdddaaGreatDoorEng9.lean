/- A region that draws its order: reads that stand whatever is done to one row, then a call that writes into this row. No condition. -/
import Derived.Test.YtjaejonnbhdddaaGreatDoorEng8
namespace Go.Eng
set_option linter.unusedVariables false
def wreal (S : World → Prop) (P : Program) : Sym where
  ar := arR
  cmp := cmpR
  scmp := scmpR
  nat := Int.ofNat
  len := ByteArray.size
  stop o vals w K := ∃ v, (∀ w1, S w1 → ∀ ρ : Operand → Value, (opnds o.op).map ρ = vals → (execOp ρ o).run P w1 = .ok (.value v) w1) ∧ K v w
  loop _ _ _ _ := False
  draw _ _ _ _ _ := False
  cut _ _ _ _ _ := False
  cell _ _ _ _ := False
structure EngW (S : World → Prop) (P : Program) (E : Sym) : Prop where
  det : ∀ {o vals w v K}, (∀ w1, S w1 → ∀ ρ : Operand → Value, (opnds o.op).map ρ = vals → (execOp ρ o).run P w1 = .ok (.value v) w1) → K v w → E.stop o vals w K
section
variable {P : Program} {Pn : List PanicEntry → World → Prop} {n : Nat}
theorem ePh1_soundW {S : World → Prop} {w : World} {all : List Oper} (hs : Region.noSelect all.toArray = true) (hd : ∀ o ∈ all, ∀ t, o.dst = some t → t < n) {K : Exit → Fr → World → Prop} {w0 : World} (hS : S w0) (l2 : List (Nat × Bool)) (K1 : Fr → World → Prop) : ∀ (l : List Nat) (listed : Array Bool) (F : Fr) (a : Act), Kn n F a → planB1 all.toArray l l2 listed = true → ePh1 (wreal S P) all l F w K1 →
    (∀ F a listed, Kn n F a → planB2 all.toArray l2 listed = true → K1 F w → wpAnyH P .any all.toArray (QK Pn n K) S l2.length listed a w0) → wpAnyH P .any all.toArray (QK Pn n K) S (l.length + l2.length) listed a w0
  | [], listed, F, a, hk, hB, h, h2 => by simpa using h2 F a listed hk hB h
  | k :: l, listed, F, a, hk, hB, h, h2 => by
    simp only [planB1, Bool.and_eq_true] at hB
    obtain ⟨⟨hf, hr⟩, hB⟩ := hB
    simp only [ePh1] at h
    split at h
    · exact h.elim
    · rename_i o ho
      obtain ⟨v, F', hy, hk', h⟩ := step_yields (P := P) (n := n) (S := S) (E' := wreal S P) (fun _ _ => rfl) (fun _ _ _ ⟨v, h1, h2⟩ => ⟨v, fun w1 hw1 => h1 w1 hw1, h2⟩) (hd o (List.mem_of_getElem? ho)) hk h
      have := wpAnyH_take (by simpa using ho) hs hf hr panic_put hy hS (ePh1_soundW hs hd hS l2 K1 l _ F' _ hk' hB h h2)
      simpa [Nat.add_right_comm] using this
theorem draw_w (R : Option Addr) (l1 : List Nat) (l2 : List (Nat × Bool)) {E : Sym} (hE : E = real P Pn n) {id : Nat} {ops : Array Oper} {F : Fr} {w : World} {K : Exit → Fr → World → Prop} (hm : P.follows .mixedOrders = true) (hB : planB ops l1 l2 = true)
    (h : ∀ E', EngW (Wr R w) P E' → ∀ w0, Same w w0 → ePh1 E' ops.toList l1 F w0 (fun F' w' => ePh2 E (Wr R w) ops.toList l2 F' w' (K .normal))) : E.draw id ops F w K := by
  subst hE
  intro hd a hk
  simp only [planB, Bool.and_eq_true, Nat.beq_eq] at hB
  obtain ⟨⟨hs, hl⟩, hB⟩ := hB
  have hs' : Region.noSelect ops.toList.toArray = true := by simpa using hs
  have h0 : Wr R w { w with drawn := w.drawn + 1 } := (Same.drew w).ext.wr R
  refine wp_region_held (S := Wr R w) hm ?_
  have := ePh1_soundW (Pn := Pn) (K := K) (n := n) (S := Wr R w) (w := { w with drawn := w.drawn + 1 }) hs' (okDst_ops hd) h0 l2 _ l1 (Array.replicate ops.size false) F a hk (by simpa using hB) (h (wreal (Wr R w) P) ⟨fun {_ _ _ v _} h hk => ⟨v, h, hk⟩⟩ _ (Same.drew w))
    (fun F a listed hk hB h => ePh2_sound hs' (okDst_ops hd) l2 listed F a _ h0 hk hB h)
  rw [hl] at this
  simpa using this
section
variable {S : World → Prop} {E : Sym} {w : World} {K : Value → World → Prop} {d : Option Tmp} {ty : TypeId} {pos : String} {aft : Array Edge} {g : Option (Nat × Bool)}
theorem sw_fld (hE : EngW S P E) {t : TypeId} {i off : Nat} (ht : Fld P t i off) {a : Addr} {x : Operand} (hk : ∀ p, p = a.add off → K (.pointer (some p)) w) : E.stop ⟨d, .fieldAddr t x i, ty, pos, aft, g⟩ [.pointer (some a)] w K := by
  obtain ⟨dd, h1, h2⟩ := Option.bind_eq_some_iff.1 ht.e
  split at h2
  · rename_i fs
    obtain ⟨f, h3, h4⟩ := Option.bind_eq_some_iff.1 h2
    obtain ⟨j, h5, h6⟩ := Option.map_eq_some_iff.1 h4
    simp only [Prod.mk.injEq] at h6
    obtain ⟨rfl, h7⟩ := h6
    have h7 : ¬ j.size = 0 := by intro e; rw [e] at h7; simp at h7
    refine hE.det (v := .pointer (some (a.add f.offset))) (fun w1 _ ρ hρ => ?_) (hk _ rfl)
    simp only [opnds, List.map_cons, List.map_nil, List.cons.injEq, and_true] at hρ
    simp [execOp, hρ, Instr.fieldAt, underlying, h1, h3, Instr.sureAddr, fieldPlace, sizeOf, typeInfo, h5, h7]
  · cases h2
theorem sw_load (hE : EngW S P E) {t : TypeId} (ht : Cel P t) {p : Addr} {v : Value} {x : Operand} (hc : ∀ w1, S w1 → w1.cell? p = some v) (hk : K v w) : E.stop ⟨d, .load t x, ty, pos, aft, g⟩ [.pointer (some p)] w K := by
  obtain ⟨d0, hu, h1, h2⟩ := ht.a
  refine hE.det (v := v) (fun w1 hs ρ hρ => ?_) hk
  simp only [opnds, List.map_cons, List.map_nil, List.cons.injEq, and_true] at hρ
  have hc' : w1.cell? p = some v := hc w1 hs
  have : (isAgg t).run P w1 = .ok false w1 := by
    simp only [isAgg, underlying, Sem.run_bind, run_program, Result.andThen_ok, hu, Sem.run_pure]
  simp [execOp, hρ, Instr.loadAt, Instr.sureAddr, loadVar, this, hc']
theorem sw_idx (hE : EngW S P E) {t e : TypeId} {z : Value} {k b : Nat} (ht : Slc P t e z k b) {a : Addr} {A : Option Addr} {m c : Nat} {ik : IntKind} {i : Int} {x y : Operand}
    (hA : A = some a) (h0 : 0 ≤ i) (h1 : i < m) (hk : ∀ p, p = a.add (i.toNat * k) → K (.pointer (some p)) w) : E.stop ⟨d, .indexAddr t x y, ty, pos, aft, g⟩ [.slice A m c, .int ik i] w K := by
  obtain ⟨i0, hi, _, hs, _⟩ := ht.info
  refine hE.det (v := .pointer (some (a.add (i.toNat * k)))) (fun w1 _ ρ hρ => ?_) (hk _ rfl)
  simp only [opnds, List.map_cons, List.map_nil, List.cons.injEq, and_true] at hρ
  subst hA
  simp [execOp, hρ.1, hρ.2, Instr.indexAt, asIntOf, underlying, ht.u, h0, h1, sizeOf, typeInfo, hi, hs]
theorem sw_cat (hE : EngW S P E) {t t' : TypeId} {a b : ByteArray} {x y : Operand} (hb : a.size + b.size ≤ 9223372036854775807) (hk : ∀ s : ByteArray, s = a ++ b → K (.string s) w) : E.stop ⟨d, .binOp .add t x y t', ty, pos, aft, g⟩ [.string a, .string b] w K := by
  refine hE.det (v := .string (a ++ b)) (fun w1 _ ρ hρ => ?_) (hk _ rfl)
  simp only [opnds, List.map_cons, List.map_nil, List.cons.injEq, and_true] at hρ
  have h1 : ¬ (((a.size + b.size : Nat) : Int) > IntKind.i64.max) := by
    have : IntKind.i64.max = 9223372036854775807 := by decide
    omega
  have h2 : (Op.stringOp .add a b).run P w1 = .ok (.string (a ++ b)) w1 := by
    simp only [Op.stringOp]; rw [if_neg h1]; rfl
  simp only [execOp, hρ.1, hρ.2, eqGuard, binOp, Sem.run_bind]
  simp [h2]
end
end
end Go.Eng
