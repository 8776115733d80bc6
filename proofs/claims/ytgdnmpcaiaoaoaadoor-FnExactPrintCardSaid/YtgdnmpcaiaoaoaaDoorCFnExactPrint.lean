/- The law FnExactPrint holds of every argument that can be read: the call returns true, and the arguments read as they did. No condition. -/
import Derived.Test.YtgdnmpcaiaoaoaaDoorMFnExactPrint4
import Derived.Test.YtgdnmpcaiaoaoaaDoorTie
import Derived.Test.YtgdnmpcaiaoaoaaDoorCards
import Derived.SevenTiedAt
import Derived.LaidMore
import Derived.Stop.Joined
import Derived.Stop.LaidTwo
import Derived.Lay
import Derived.HandedShaped
namespace Go.Proofs.YtgdnmpcaiaoaoaaDoor.fnExactPrint
open Go.ChangeShapes Go.WideShapes Go.ChangeAt Go.RowKit Go.Eng
open Go.ChangeMaps (open_string shut_string)
set_option linter.unusedVariables false
set_option maxRecDepth 100000 in
theorem door_met (os : Os) (args : Array Value) : laidMetH Tryd.prog Rows.fnExactPrintRow.laid ((World.doorLaid Tryd.prog 4000 os).forCall (fun _ _ => 0) ⟨#[], args, []⟩).memory :=
  laidMetH_of_parts3 (fuel := 8) (laidMet_of_run' 8 (by kernel_rfl) (by kernel_rfl)) (by kernel_rfl) (by kernel_rfl)
set_option maxRecDepth 100000 in
theorem lifted (os : Os) (started : os.Started) (H : Type) (enc : TypeId × Value → H) :
    ReturnsInHanded {} Tryd.checked os 3 .any (fun w args => (Rows.fnExactPrintSpec.pre enc Tryd.prog Tryd.f3 [] false w args ∧ laidMetH Tryd.prog Rows.fnExactPrintRow.laid w) ∧ sizedMet enc Tryd.prog Tryd.f3 (OpenSpec.ofChange Rows.fnExactPrintSpec) false w args) (Rows.fnExactPrintSpec.post enc Tryd.prog Tryd.f3 false true false false) := by
  refine returnsInHanded_of_change_and (C := Tryd.checked) (X := fun w _ => laidMetH Tryd.prog Rows.fnExactPrintRow.laid w) (fun _ _ _ hh h => h.of_heap hh) own started (by kernel_rfl) Tryd.func3
    (ChangeSpec.witness_shaped (enc := enc) (C := Tryd.checked) (os := os) (X := fun w _ => laidMetH Tryd.prog Rows.fnExactPrintRow.laid w) false (World.doorLaid Tryd.prog 4000 os) #[.agg #[.slice none 0 0, .slice none 0 0]] 8 rfl (World.shaped_of_RefB (by kernel_rfl) (by kernel_rfl)) (by kernel_rfl) (by kernel_rfl) (by kernel_rfl) (door_met os _)) ?_
  intro W base args ds gs before hval0 hW _ _ hL _
  have hval : ∀ (j : Nat) t v, Tryd.f3.params[j]? = some t → args[j]? = some v → Value.okWide Tryd.prog W .any base t v := hval0
  have hW' := hW
  obtain ⟨p, q, hA0, hV0, rfl, hfz, hnd⟩ := hW
  have hA : DataW.TrodAll enc Tryd.prog W 0 (fun _ => true) true Tryd.f3.params.toList args.toList ds p := hA0
  rw [Tryd.params3] at hA hval
  rw [MakeChecks.laidMetH_plain _ _ _ (by kernel_rfl)] at hL
  obtain ⟨psL, ⟨g0, t0, cs0, f0, p0, q0, hg0, ht0, hv0, hd0, ⟨g1, t1, cs1, f1, p1, q1, hg1, ht1, hv1, hd1, ⟨g2, t2, cs2, f2, p2, q2, hg2, ht2, hv2, hd2, ⟨g3, t3, cs3, f3, p3, q3, hg3, ht3, hv3, hd3, ⟨g4, t4, cs4, f4, p4, q4, hg4, ht4, hv4, hd4, ⟨g5, t5, cs5, f5, p5, q5, hg5, ht5, hv5, hd5, _, e6⟩, e5⟩, e4⟩, e3⟩, e2⟩, e1⟩, hndL, hrowsL⟩ := id hL
  have hT2 : PowK W := powK_of_trod hg2 ht2 hv2 hd2
  obtain rfl := Option.some.inj ((show Tryd.prog.globalNamed "loop.example/s01308/impl.reserved" = some 1 by kernel_rfl).symm.trans hg3)
  obtain rfl := Option.some.inj ((show (Tryd.prog.globals[1]?).map (·.type) = some 103 by kernel_rfl).symm.trans ht3)
  have hT3 : STab W 1 words := res_words (stab_of_trod hg3 Tryd.underlying103 uStr uBool hv3 hd3 resL rfl)
  obtain rfl := Option.some.inj ((show Tryd.prog.globalNamed "loop.example/s01308/impl.constOps" = some 2 by kernel_rfl).symm.trans hg4)
  obtain rfl := Option.some.inj ((show (Tryd.prog.globals[2]?).map (·.type) = some 128 by kernel_rfl).symm.trans ht4)
  have hT4 : Tab W 2 constF := tab_of_trod hg4 Tryd.underlying128 uInt uInt hv4 hd4 constF rfl
  obtain rfl := Option.some.inj ((show Tryd.prog.globalNamed "loop.example/s01308/impl.signs" = some 0 by kernel_rfl).symm.trans hg5)
  obtain rfl := Option.some.inj ((show (Tryd.prog.globals[0]?).map (·.type) = some 84 by kernel_rfl).symm.trans ht5)
  have hT5 : NTab W 0 signF := by rw [← signF_eq]; exact ntab_of_trod hg5 Tryd.underlying84 uInt uStr hv5 hd5 signB rfl
  have hgl : ∀ {sp : Nat → Bool} {X : World} {ns : List String} {gs : List (DataW H)} {ps : List MemPlace}, DataW.TrodVars enc Tryd.prog X sp ns gs ps → gs.length = ns.length := by
    intro sp X ns
    induction ns with
    | nil => intro gs ps h; cases gs with
      | nil => rfl
      | cons _ _ => exact h.elim
    | cons n ns ih => intro gs ps h; cases gs with
      | nil => exact h.elim
      | cons d ds =>
        obtain ⟨_, _, _, _, _, _, _, _, _, _, hs, _⟩ := h
        simp [ih hs]
  have hgl := hgl hV0
  obtain ⟨v0, vs0, d0, ds0, p0, q0, hargs, rfl, rfl, h0, r0⟩ := trodAll_cons hA
  obtain ⟨rfl, rfl, rfl⟩ := trodAll_nil r0
  obtain rfl : args = #[v0] := by cases args; simp_all
  obtain ⟨u0, u1, u2, rfl⟩ : ∃ u0 u1 u2, gs = [u0, u1, u2] := by
    match gs, hgl with
    | [u0, u1, u2], _ => exact ⟨u0, u1, u2, rfl⟩
  clear hA0 hval0 hgl
  have hlt0 : ∀ x ∈ p0, x.block < W.heap.size := fun x hx => hW'.lt x (by simp [hx])
  have k0 := h0
  obtain ⟨A0, n0, c0, B0, m0, e0, nv0, sv0, rfl, h0x, y0, z0, f0x⟩ := open_lpolicyF (hval 0 25 v0 rfl rfl) h0
  refine (lawPrint W ⟨hT2, hT3, hT4, hT5⟩ h0x y0 z0 f0x).row.mono fun e W' ⟨hr, bel⟩ => ?_
  subst hr
  exact ⟨_, rfl, _, _, _, [], _, _, hW', trodAll_mk1 (shut_bool Tryd.underlying4 _), (trodAll_cons_mk (Below.trod laidOut (by kernel_rfl) (of_decide_eq_true (by kernel_rfl)) k0 bel hlt0) trodAll_mk0), Below.trodVars laidOut bel (by kernel_rfl) hV0, bel.frame _, fun h => by cases h⟩
theorem over : Rows.fnExactPrintRow.holds Tryd.pinned (OpenSpec.ofChange Rows.fnExactPrintSpec) :=
  OpenClaim.holds_of_wide 3 Tryd.f3 rfl rfl rfl rfl rfl rfl rfl ⟨rfl, rfl, rfl, rfl, rfl⟩ rfl rfl rfl rfl rfl (by kernel_rfl) Tryd.func3 (by kernel_rfl)
    (of_decide_eq_true (by kernel_rfl)) (by unfold Func.isWrapper; first | (rw [if_pos (by decide +kernel)]; kernel_rfl) | (rw [if_neg (by decide +kernel)]; exact ⟨rfl, rfl⟩))
    (fun os started H enc _ => lifted os started H enc)
end Go.Proofs.YtgdnmpcaiaoaoaaDoor.fnExactPrint
namespace Go.Proofs.YtgdnmpcaiaoaoaaDoor
theorem fnExactPrint_holds : Rows.FnExactPrintCardSaid :=
  Claim7.holds_tied_plain_at .later [] [.data, .data, .data, .mapped, .mapped, .mapped] true (true, "60584dceb6b66123daf9c6bf16ab0e85eb4de62513796c74d09f3678dddf2732") true
    fnExactPrint.over (fun _ h => by cases h) (by kernel_rfl) (fun _ h => by cases h) fnExactPrint_row_tie rfl ⟨rfl, rfl⟩ (by kernel_rfl) rfl
    (fun f fn hf hfn => by
      obtain rfl : f = 3 := Option.some.inj ((show Tryd.prog.funcNamed "loop.example/s01308/laws.FnExactPrint" = some 3 by kernel_rfl).symm.trans hf) |>.symm
      obtain rfl : fn = Tryd.f3 := (Option.some.inj (Tryd.func3.symm.trans hfn)).symm
      exact ⟨by kernel_rfl, fun j t ht => by
        rw [Tryd.params3] at ht
        have hm : t ∈ [25] := by simpa using Array.mem_of_getElem? ht
        have hall : ([25].all fun u => !Tryd.prog.wantsStandIn u) = true := by kernel_rfl
        exact (show Tryd.prog.wantsStandIn t = false by simpa using List.all_eq_true.1 hall t hm)⟩)
    (by kernel_rfl)
end Go.Proofs.YtgdnmpcaiaoaoaaDoor
