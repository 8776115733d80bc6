/- The law FnExactCheck holds of every argument that can be read: the call returns true, and the arguments read as they did. No condition. -/
import Derived.Test.YtgnjkdkedjljjaaGreatDoorMFnExactCheck7
import Derived.Test.YtgnjkdkedjljjaaGreatDoorTie
import Derived.Test.YtgnjkdkedjljjaaGreatDoorCards
import Derived.SevenTiedAt
import Derived.LaidMore
import Derived.Stop.Joined
import Derived.Stop.LaidTwo
import Derived.Lay
import Derived.HandedShaped
namespace Go.Proofs.YtgnjkdkedjljjaaGreatDoor.fnExactCheck
open Go.ChangeShapes Go.WideShapes Go.ChangeAt Go.RowKit Go.Eng
open Go.ChangeMaps (open_string shut_string)
set_option linter.unusedVariables false
set_option maxRecDepth 100000 in
theorem door_met (os : Os) (args : Array Value) : laidMetH Tryz.prog Rows.fnExactCheckRow.laid ((World.doorLaid Tryz.prog 4000 os).forCall (fun _ _ => 0) ⟨#[], args, []⟩).memory :=
  laidMetH_of_parts3 (fuel := 8) (laidMet_of_run' 8 (by kernel_rfl) (by kernel_rfl)) (by kernel_rfl) (by kernel_rfl)
set_option maxRecDepth 100000 in
theorem lifted (os : Os) (started : os.Started) (H : Type) (enc : TypeId × Value → H) :
    ReturnsInHanded {} Tryz.checked os 3 .any (fun w args => (Rows.fnExactCheckSpec.pre enc Tryz.prog Tryz.f3 [] false w args ∧ laidMetH Tryz.prog Rows.fnExactCheckRow.laid w) ∧ sizedMet enc Tryz.prog Tryz.f3 (OpenSpec.ofChange Rows.fnExactCheckSpec) false w args) (Rows.fnExactCheckSpec.post enc Tryz.prog Tryz.f3 false true false false) := by
  refine returnsInHanded_of_change_and (C := Tryz.checked) (X := fun w _ => laidMetH Tryz.prog Rows.fnExactCheckRow.laid w) (fun _ _ _ hh h => h.of_heap hh) own started (by kernel_rfl) Tryz.func3
    (ChangeSpec.witness_shaped (enc := enc) (C := Tryz.checked) (os := os) (X := fun w _ => laidMetH Tryz.prog Rows.fnExactCheckRow.laid w) false (World.doorLaid Tryz.prog 4000 os) #[.agg #[.slice none 0 0, .slice none 0 0]] 8 rfl (World.shaped_of_RefB (by kernel_rfl) (by kernel_rfl)) (by kernel_rfl) (by kernel_rfl) (by kernel_rfl) (door_met os _)) ?_
  intro W base args ds gs before hval0 hW _ _ hL _
  have hval : ∀ (j : Nat) t v, Tryz.f3.params[j]? = some t → args[j]? = some v → Value.okWide Tryz.prog W .any base t v := hval0
  have hW' := hW
  obtain ⟨p, q, hA0, hV0, rfl, hfz, hnd⟩ := hW
  have hA : DataW.TrodAll enc Tryz.prog W 0 (fun _ => true) true Tryz.f3.params.toList args.toList ds p := hA0
  rw [Tryz.params3] at hA hval
  have hL0 : laidMet Tryz.prog [("loop.example/s01308/impl.reserved", Rows.laid_loop_example_s01308_impl_reserved), ("loop.example/s01308/impl.constOps", Rows.laid_loop_example_s01308_impl_constOps)] W ∧ handlesMet Tryz.prog [("errors.errorType", Rows.laid_errors_errorType)] W := hL
  have hEr : ErrTy W := errTy_of hL0.2
  replace hL := hL0.1
  clear hL0
  obtain ⟨psL, ⟨g0, t0, cs0, f0, p0, q0, hg0, ht0, hv0, hd0, ⟨g1, t1, cs1, f1, p1, q1, hg1, ht1, hv1, hd1, _, e2⟩, e1⟩, hndL, hrowsL⟩ := id hL
  obtain rfl := Option.some.inj ((show Tryz.prog.globalNamed "loop.example/s01308/impl.reserved" = some 4 by kernel_rfl).symm.trans hg0)
  obtain rfl := Option.some.inj ((show (Tryz.prog.globals[4]?).map (·.type) = some 272 by kernel_rfl).symm.trans ht0)
  have hT0 : STab W 4 words := res_words (stab_of_trod hg0 Tryz.underlying272 uStr uBool hv0 hd0 resL rfl)
  obtain rfl := Option.some.inj ((show Tryz.prog.globalNamed "loop.example/s01308/impl.constOps" = some 6 by kernel_rfl).symm.trans hg1)
  obtain rfl := Option.some.inj ((show (Tryz.prog.globals[6]?).map (·.type) = some 316 by kernel_rfl).symm.trans ht1)
  have hT1 : Tab W 6 constF := tab_of_trod hg1 Tryz.underlying316 uInt uInt hv1 hd1 constF rfl
  have hgl : ∀ {sp : Nat → Bool} {X : World} {ns : List String} {gs : List (DataW H)} {ps : List MemPlace}, DataW.TrodVars enc Tryz.prog X sp ns gs ps → gs.length = ns.length := by
    intro sp X ns
    induction ns with
    | nil => intro gs ps h; cases gs with
      | nil => rfl
      | cons _ _ => exact h.elim
    | cons n ns ih => intro gs ps h; cases gs with
      | nil => exact h.elim
      | cons d ds =>
        obtain ⟨_, _, _, _, _, _, _, _, _, _, hs, _⟩ := h
        simp [ih hs]
  have hgl := hgl hV0
  obtain ⟨v0, vs0, d0, ds0, p0, q0, hargs, rfl, rfl, h0, r0⟩ := trodAll_cons hA
  obtain ⟨rfl, rfl, rfl⟩ := trodAll_nil r0
  obtain rfl : args = #[v0] := by cases args; simp_all
  obtain ⟨u0, u1, rfl⟩ : ∃ u0 u1, gs = [u0, u1] := by
    match gs, hgl with
    | [u0, u1], _ => exact ⟨u0, u1, rfl⟩
  clear hA0 hval0 hgl
  have hlt0 : ∀ x ∈ p0, x.block < W.heap.size := fun x hx => hW'.lt x (by simp [hx])
  have k0 := h0
  obtain ⟨A0, n0, c0, B0, m0, e0, nv0, sv0, rfl, h0x, y0, z0⟩ := open_lpolicy (hval 0 25 v0 rfl rfl) h0
  refine (lawCheck W ⟨hT0, hT1, hEr⟩ h0x y0 z0).row.mono fun e W' ⟨hr, bel⟩ => ?_
  subst hr
  exact ⟨_, rfl, _, _, _, [], _, _, hW', trodAll_mk1 (shut_bool Tryz.underlying4 _), (trodAll_cons_mk (Below.trod laidOut (by kernel_rfl) (of_decide_eq_true (by kernel_rfl)) k0 bel hlt0) trodAll_mk0), Below.trodVars laidOut bel (by kernel_rfl) hV0, bel.frame _, fun h => by cases h⟩
theorem over : Rows.fnExactCheckRow.holds Tryz.pinned (OpenSpec.ofChange Rows.fnExactCheckSpec) :=
  OpenClaim.holds_of_wide 3 Tryz.f3 rfl rfl rfl rfl rfl rfl rfl ⟨rfl, rfl, rfl, rfl, rfl⟩ rfl rfl rfl rfl rfl (by kernel_rfl) Tryz.func3 jf_FnExactCheck
    (of_decide_eq_true (by kernel_rfl)) (by unfold Func.isWrapper; first | (rw [if_pos (by decide +kernel)]; kernel_rfl) | (rw [if_neg (by decide +kernel)]; exact ⟨rfl, rfl⟩))
    (fun os started H enc _ => lifted os started H enc)
end Go.Proofs.YtgnjkdkedjljjaaGreatDoor.fnExactCheck
namespace Go.Proofs.YtgnjkdkedjljjaaGreatDoor
theorem fnExactCheck_holds : Rows.FnExactCheckCardSaid :=
  Claim7.holds_tied_plain_at .later [] [.handle, .mapped, .mapped] true (true, "4c414d0fddbeacdea9228f66edaf34b3637c41280084be25b8b2e436fe8bb89c") true
    fnExactCheck.over (fun _ h => by cases h) (by kernel_rfl) (fun _ h => by cases h) fnExactCheck_row_tie rfl ⟨rfl, rfl⟩ (by kernel_rfl) rfl
    (fun f fn hf hfn => by
      obtain rfl : f = 3 := Option.some.inj ((show Tryz.prog.funcNamed "loop.example/s01308/laws.FnExactCheck" = some 3 by kernel_rfl).symm.trans hf) |>.symm
      obtain rfl : fn = Tryz.f3 := (Option.some.inj (Tryz.func3.symm.trans hfn)).symm
      exact ⟨by kernel_rfl, fun j t ht => by
        rw [Tryz.params3] at ht
        have hm : t ∈ [25] := by simpa using Array.mem_of_getElem? ht
        have hall : ([25].all fun u => !Tryz.prog.wantsStandIn u) = true := by kernel_rfl
        exact (show Tryz.prog.wantsStandIn t = false by simpa using List.all_eq_true.1 hall t hm)⟩)
    (by kernel_rfl)
end Go.Proofs.YtgnjkdkedjljjaaGreatDoor
