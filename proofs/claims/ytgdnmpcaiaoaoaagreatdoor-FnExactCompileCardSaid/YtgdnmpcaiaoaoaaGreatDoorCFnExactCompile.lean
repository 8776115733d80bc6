/- The law FnExactCompile holds of every argument that can be read: the call returns true, and the arguments read as they did. No condition. -/
import Derived.Test.YtgdnmpcaiaoaoaaGreatDoorMFnExactCompile7
import Derived.Test.YtgdnmpcaiaoaoaaGreatDoorTie
import Derived.Test.YtgdnmpcaiaoaoaaGreatDoorCards
import Derived.SevenTiedAt
import Derived.LaidMore
import Derived.Stop.Joined
import Derived.Stop.LaidTwo
import Derived.Lay
import Derived.HandedShaped
namespace Go.Proofs.YtgdnmpcaiaoaoaaGreatDoor.fnExactCompile
open Go.ChangeShapes Go.WideShapes Go.ChangeAt Go.RowKit Go.Eng
open Go.ChangeMaps (open_string shut_string)
set_option linter.unusedVariables false
set_option maxRecDepth 100000 in
theorem door_met (os : Os) (args : Array Value) : laidMetH Tryz.prog Rows.fnExactCompileRow.laid ((World.doorLaid Tryz.prog 4000 os).forCall (fun _ _ => 0) ⟨#[], args, []⟩).memory :=
  laidMetH_of_parts3 (fuel := 8) (laidMet_of_run' 8 (by kernel_rfl) (by kernel_rfl)) (by kernel_rfl) (by kernel_rfl)
set_option maxRecDepth 100000 in
theorem lifted (os : Os) (started : os.Started) (H : Type) (enc : TypeId × Value → H) :
    ReturnsInHanded {} Tryz.checked os 4 .any (fun w args => (Rows.fnExactCompileSpec.pre enc Tryz.prog Tryz.f4 [] false w args ∧ laidMetH Tryz.prog Rows.fnExactCompileRow.laid w) ∧ sizedMet enc Tryz.prog Tryz.f4 (OpenSpec.ofChange Rows.fnExactCompileSpec) false w args) (Rows.fnExactCompileSpec.post enc Tryz.prog Tryz.f4 false true false false) := by
  refine returnsInHanded_of_change_and (C := Tryz.checked) (X := fun w _ => laidMetH Tryz.prog Rows.fnExactCompileRow.laid w) (fun _ _ _ hh h => h.of_heap hh) own started (by kernel_rfl) Tryz.func4
    (ChangeSpec.witness_shaped (enc := enc) (C := Tryz.checked) (os := os) (X := fun w _ => laidMetH Tryz.prog Rows.fnExactCompileRow.laid w) false (World.doorLaid Tryz.prog 4000 os) #[.agg #[.slice none 0 0, .slice none 0 0, .slice none 0 0]] 8 rfl (World.shaped_of_RefB (by kernel_rfl) (by kernel_rfl)) (by kernel_rfl) (by kernel_rfl) (by kernel_rfl) (door_met os _)) ?_
  intro W base args ds gs before hval0 hW _ _ hL _
  have hval : ∀ (j : Nat) t v, Tryz.f4.params[j]? = some t → args[j]? = some v → Value.okWide Tryz.prog W .any base t v := hval0
  have hW' := hW
  obtain ⟨p, q, hA0, hV0, rfl, hfz, hnd⟩ := hW
  have hA : DataW.TrodAll enc Tryz.prog W 0 (fun _ => true) true Tryz.f4.params.toList args.toList ds p := hA0
  rw [Tryz.params4] at hA hval
  rw [MakeChecks.laidMetH_plain _ _ _ (by kernel_rfl)] at hL
  obtain ⟨psL, ⟨g0, t0, cs0, f0, p0, q0, hg0, ht0, hv0, hd0, ⟨g1, t1, cs1, f1, p1, q1, hg1, ht1, hv1, hd1, ⟨g2, t2, cs2, f2, p2, q2, hg2, ht2, hv2, hd2, _, e3⟩, e2⟩, e1⟩, hndL, hrowsL⟩ := id hL
  obtain rfl := Option.some.inj ((show Tryz.prog.globalNamed "loop.example/s01308/impl.reserved" = some 4 by kernel_rfl).symm.trans hg0)
  obtain rfl := Option.some.inj ((show (Tryz.prog.globals[4]?).map (·.type) = some 286 by kernel_rfl).symm.trans ht0)
  have hT0 : STab W 4 words := res_words (stab_of_trod hg0 Tryz.underlying286 uStr uBool hv0 hd0 resL rfl)
  obtain rfl := Option.some.inj ((show Tryz.prog.globalNamed "loop.example/s01308/impl.constOps" = some 6 by kernel_rfl).symm.trans hg1)
  obtain rfl := Option.some.inj ((show (Tryz.prog.globals[6]?).map (·.type) = some 332 by kernel_rfl).symm.trans ht1)
  have hT1 : Tab W 6 constF := tab_of_trod hg1 Tryz.underlying332 uInt uInt hv1 hd1 constF rfl
  obtain rfl := Option.some.inj ((show Tryz.prog.globalNamed "loop.example/s01308/impl.opcodes" = some 5 by kernel_rfl).symm.trans hg2)
  obtain rfl := Option.some.inj ((show (Tryz.prog.globals[5]?).map (·.type) = some 332 by kernel_rfl).symm.trans ht2)
  have hT2 : Tab W 5 opF := tab_of_trod hg2 Tryz.underlying332 uInt uInt hv2 hd2 opF rfl
  have hgl : ∀ {sp : Nat → Bool} {X : World} {ns : List String} {gs : List (DataW H)} {ps : List MemPlace}, DataW.TrodVars enc Tryz.prog X sp ns gs ps → gs.length = ns.length := by
    intro sp X ns
    induction ns with
    | nil => intro gs ps h; cases gs with
      | nil => rfl
      | cons _ _ => exact h.elim
    | cons n ns ih => intro gs ps h; cases gs with
      | nil => exact h.elim
      | cons d ds =>
        obtain ⟨_, _, _, _, _, _, _, _, _, _, hs, _⟩ := h
        simp [ih hs]
  have hgl := hgl hV0
  obtain ⟨v0, vs0, d0, ds0, p0, q0, hargs, rfl, rfl, h0, r0⟩ := trodAll_cons hA
  obtain ⟨rfl, rfl, rfl⟩ := trodAll_nil r0
  obtain rfl : args = #[v0] := by cases args; simp_all
  obtain ⟨u0, u1, u2, rfl⟩ : ∃ u0 u1 u2, gs = [u0, u1, u2] := by
    match gs, hgl with
    | [u0, u1, u2], _ => exact ⟨u0, u1, u2, rfl⟩
  clear hA0 hval0 hgl
  have hlt0 : ∀ x ∈ p0, x.block < W.heap.size := fun x hx => hW'.lt x (by simp [hx])
  have k0 := h0
  obtain ⟨A0, n0, c0, B0, m0, e0, C0, l0, i0, nv0, sv0, tv0, rfl, h0x, y0, z0⟩ := open_ltyped (hval 0 46 v0 rfl rfl) h0
  refine (lawCompile W ⟨hT0, hT1, hT2⟩ h0x y0 z0).row.mono fun e W' ⟨hr, bel⟩ => ?_
  subst hr
  exact ⟨_, rfl, _, _, _, [], _, _, hW', trodAll_mk1 (shut_bool Tryz.underlying4 _), (trodAll_cons_mk (Below.trod laidOut (by kernel_rfl) (of_decide_eq_true (by kernel_rfl)) k0 bel hlt0) trodAll_mk0), Below.trodVars laidOut bel (by kernel_rfl) hV0, bel.frame _, fun h => by cases h⟩
theorem over : Rows.fnExactCompileRow.holds Tryz.pinned (OpenSpec.ofChange Rows.fnExactCompileSpec) :=
  OpenClaim.holds_of_wide 4 Tryz.f4 rfl rfl rfl rfl rfl rfl rfl ⟨rfl, rfl, rfl, rfl, rfl⟩ rfl rfl rfl rfl rfl (by kernel_rfl) Tryz.func4 jf_FnExactCompile
    (of_decide_eq_true (by kernel_rfl)) (by unfold Func.isWrapper; first | (rw [if_pos (by decide +kernel)]; kernel_rfl) | (rw [if_neg (by decide +kernel)]; exact ⟨rfl, rfl⟩))
    (fun os started H enc _ => lifted os started H enc)
end Go.Proofs.YtgdnmpcaiaoaoaaGreatDoor.fnExactCompile
namespace Go.Proofs.YtgdnmpcaiaoaoaaGreatDoor
theorem fnExactCompile_holds : Rows.FnExactCompileCardSaid :=
  Claim7.holds_tied_plain_at .later [] [.mapped, .mapped, .mapped] true (true, "d6fbc72acb038b1b96ea0e7cea07e407cee2543095243ecc5059f56c8c60efe1") true
    fnExactCompile.over (fun _ h => by cases h) (by kernel_rfl) (fun _ h => by cases h) fnExactCompile_row_tie rfl ⟨rfl, rfl⟩ (by kernel_rfl) rfl
    (fun f fn hf hfn => by
      obtain rfl : f = 4 := Option.some.inj ((show Tryz.prog.funcNamed "loop.example/s01308/laws.FnExactCompile" = some 4 by kernel_rfl).symm.trans hf) |>.symm
      obtain rfl : fn = Tryz.f4 := (Option.some.inj (Tryz.func4.symm.trans hfn)).symm
      exact ⟨by kernel_rfl, fun j t ht => by
        rw [Tryz.params4] at ht
        have hm : t ∈ [46] := by simpa using Array.mem_of_getElem? ht
        have hall : ([46].all fun u => !Tryz.prog.wantsStandIn u) = true := by kernel_rfl
        exact (show Tryz.prog.wantsStandIn t = false by simpa using List.all_eq_true.1 hall t hm)⟩)
    (by kernel_rfl)
end Go.Proofs.YtgdnmpcaiaoaoaaGreatDoor
