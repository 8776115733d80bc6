/- The law FnExactCalc holds of every argument that can be read: the call returns true, and the arguments read as they did. No condition. -/
import Derived.Test.YtpphichjabjodaaDoorRowE
import Derived.Test.YtpphichjabjodaaDoorTie
import Derived.Test.YtpphichjabjodaaDoorCards
import Derived.SevenTiedAt
import Derived.Test.YtpphichjabjodaaDoorL14
namespace Go.Proofs.YtpphichjabjodaaDoor.fnExactCalc
open Go.ChangeShapes Go.WideShapes Go.ChangeAt Go.RowKit Go.Eng
open Go.ChangeMaps (open_string shut_string)
set_option linter.unusedVariables false
set_option maxRecDepth 100000 in
theorem door_met (os : Os) (args : Array Value) : laidMetH Tryd.prog Rows.fnExactCalcRow.laid ((World.doorLaid Tryd.prog 4000 os).forCall (fun _ _ => 0) ⟨#[], args, []⟩).memory :=
  laidMetH_of_parts3 (fuel := 8) (laidMet_of_run' 8 (by kernel_rfl) (by kernel_rfl)) (by kernel_rfl) (by kernel_rfl)
set_option maxRecDepth 100000 in
theorem lifted (os : Os) (started : os.Started) (H : Type) (enc : TypeId × Value → H) :
    ReturnsInHanded {} Tryd.checked os 3 .any (fun w args => (Rows.fnExactCalcSpec.pre enc Tryd.prog Tryd.f3 [] false w args ∧ laidMetH Tryd.prog Rows.fnExactCalcRow.laid w) ∧ sizedMet enc Tryd.prog Tryd.f3 (OpenSpec.ofChange Rows.fnExactCalcSpec) false w args) (Rows.fnExactCalcSpec.post enc Tryd.prog Tryd.f3 false true false false) := by
  refine returnsInHanded_of_change_and (C := Tryd.checked) (X := fun w _ => laidMetH Tryd.prog Rows.fnExactCalcRow.laid w) (fun _ _ _ hh h => h.of_heap hh) own started (by kernel_rfl) Tryd.func3
    (ChangeSpec.witness_shaped (enc := enc) (C := Tryd.checked) (os := os) (X := fun w _ => laidMetH Tryd.prog Rows.fnExactCalcRow.laid w) false (World.doorLaid Tryd.prog 4000 os) #[.int .i64 0, .int .i64 0, .int .i64 0] 8 rfl (World.shaped_of_RefB (by kernel_rfl) (by kernel_rfl)) (by kernel_rfl) (by kernel_rfl) (by kernel_rfl) (door_met os _)) ?_
  intro W base args ds gs before hval0 hW _ _ hL _
  have hval : ∀ (j : Nat) t v, Tryd.f3.params[j]? = some t → args[j]? = some v → Value.okWide Tryd.prog W .any base t v := hval0
  have hW' := hW
  obtain ⟨p, q, hA0, hV0, rfl, hfz, hnd⟩ := hW
  have hA : DataW.TrodAll enc Tryd.prog W 0 (fun _ => true) true Tryd.f3.params.toList args.toList ds p := hA0
  have hV : DataW.TrodVars enc Tryd.prog W (fun _ => true) ["loop.example/s01308/impl.errZero", "loop.example/s01308/impl.errOverflow", "loop.example/s01308/impl.errWide"] gs q := hV0
  rw [Tryd.params3] at hA hval
  rw [MakeChecks.laidMetH_plain _ _ _ (by kernel_rfl)] at hL
  obtain ⟨ez, eo, ev, he, vz, vo, vw⟩ := errs_of_laid hL
  have vr : ∀ {X : World}, Ext W X → ∀ sp : Nat → Bool, DataW.TrodVars enc Tryd.prog X sp ["loop.example/s01308/impl.errZero", "loop.example/s01308/impl.errOverflow", "loop.example/s01308/impl.errWide"] [tok enc (errV ez), tok enc (errV eo), tok enc (errV ev)] [.cell 0 0, .cell 1 0, .cell 2 0] :=
    fun hx sp => vars3 enc gZ yZ Tryd.underlying52 (var_ext hx vz) trivial gO yO Tryd.underlying52 (var_ext hx vo) trivial gW yW Tryd.underlying52 (var_ext hx vw) trivial sp
  obtain ⟨rfl, rfl⟩ := hV.unique (vr (Ext.refl W) _)
  clear hV0
  obtain ⟨v0, vs0, d0, ds0, p0, q0, hargs, rfl, rfl, h0, r0⟩ := trodAll_cons hA
  obtain ⟨v1, vs1, d1, ds1, p1, q1, rfl, rfl, rfl, h1, r1⟩ := trodAll_cons r0
  obtain ⟨v2, vs2, d2, ds2, p2, q2, rfl, rfl, rfl, h2, r2⟩ := trodAll_cons r1
  obtain ⟨rfl, rfl, rfl⟩ := trodAll_nil r2
  obtain rfl : args = #[v0, v1, v2] := by cases args; simp_all
  clear hA0 hval0
  have hlt0 : ∀ x ∈ p0, x.block < W.heap.size := fun x hx => hW'.lt x (by simp [hx])
  have hlt1 : ∀ x ∈ p1, x.block < W.heap.size := fun x hx => hW'.lt x (by simp [hx])
  have hlt2 : ∀ x ∈ p2, x.block < W.heap.size := fun x hx => hW'.lt x (by simp [hx])
  have k0 := h0
  obtain ⟨x0, rfl, rfl, _, y0⟩ := open_int Tryd.underlying3 (hval 0 3 v0 rfl rfl) h0
  have k1 := h1
  obtain ⟨x1, rfl, rfl, _, y1⟩ := open_int Tryd.underlying2 (hval 1 2 v1 rfl rfl) h1
  have k2 := h2
  obtain ⟨x2, rfl, rfl, _, y2⟩ := open_int Tryd.underlying2 (hval 2 2 v2 rfl rfl) h2
  refine (lawCalc x0 x1 x2 W he  (fits_of y1) (fits_of y2)).row.mono fun e W' ⟨hr, bel⟩ => ?_
  subst hr
  exact ⟨_, rfl, _, _, _, [], _, [.cell 0 0, .cell 1 0, .cell 2 0], hW', trodAll_mk1 (shut_bool Tryd.underlying4 _), (trodAll_cons_mk (Below.trod laidOut (by kernel_rfl) (of_decide_eq_true (by kernel_rfl)) k0 bel hlt0) (trodAll_cons_mk (Below.trod laidOut (by kernel_rfl) (of_decide_eq_true (by kernel_rfl)) k1 bel hlt1) (trodAll_cons_mk (Below.trod laidOut (by kernel_rfl) (of_decide_eq_true (by kernel_rfl)) k2 bel hlt2) trodAll_mk0))), vr bel _, bel.frame _, fun h => by cases h⟩
theorem over : Rows.fnExactCalcRow.holds Tryd.pinned (OpenSpec.ofChange Rows.fnExactCalcSpec) :=
  OpenClaim.holds_of_wide 3 Tryd.f3 rfl rfl rfl rfl rfl rfl rfl ⟨rfl, rfl, rfl, rfl, rfl⟩ rfl rfl rfl rfl rfl (by kernel_rfl) Tryd.func3 (by kernel_rfl)
    (of_decide_eq_true (by kernel_rfl)) (by unfold Func.isWrapper; first | (rw [if_pos (by decide +kernel)]; kernel_rfl) | (rw [if_neg (by decide +kernel)]; exact ⟨rfl, rfl⟩))
    (fun os started H enc _ => lifted os started H enc)
end Go.Proofs.YtpphichjabjodaaDoor.fnExactCalc
namespace Go.Proofs.YtpphichjabjodaaDoor
theorem fnExactCalc_holds : Rows.FnExactCalcCardSaid :=
  Claim7.holds_tied_plain_at .later [] [.sentinel, .sentinel, .sentinel] true (true, "70bee3e99e82c03002aadd03b01b1f257afa79bb382df9cde41983a02deac652") true
    fnExactCalc.over (fun _ h => by cases h) (by kernel_rfl) (fun _ h => by cases h) fnExactCalc_row_tie rfl ⟨rfl, rfl⟩ (by kernel_rfl) rfl
    (fun f fn hf hfn => by
      obtain rfl : f = 3 := Option.some.inj ((show Tryd.prog.funcNamed "loop.example/s01308/laws.FnExactCalc" = some 3 by kernel_rfl).symm.trans hf) |>.symm
      obtain rfl : fn = Tryd.f3 := (Option.some.inj (Tryd.func3.symm.trans hfn)).symm
      exact ⟨by kernel_rfl, fun j t ht => by
        rw [Tryd.params3] at ht
        have hm : t ∈ [3, 2, 2] := by simpa using Array.mem_of_getElem? ht
        have hall : ([3, 2, 2].all fun u => !Tryd.prog.wantsStandIn u) = true := by kernel_rfl
        exact (show Tryd.prog.wantsStandIn t = false by simpa using List.all_eq_true.1 hall t hm)⟩)
    (by kernel_rfl)
end Go.Proofs.YtpphichjabjodaaDoor
