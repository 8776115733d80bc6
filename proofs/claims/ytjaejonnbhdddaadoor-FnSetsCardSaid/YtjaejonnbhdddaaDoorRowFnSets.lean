/- The law FnSets holds of every argument that can be read: the call returns true, and the arguments read as they did. No condition. -/
import Derived.Test.YtjaejonnbhdddaaDoorRowE
import Derived.Test.YtjaejonnbhdddaaDoorTie
import Derived.Test.YtjaejonnbhdddaaDoorCards
import Derived.SevenTiedAt
import Derived.LaidMore
import Derived.Stop.Joined
import Derived.Stop.LaidTwo
import Derived.Test.YtjaejonnbhdddaaDoorRowE
import Derived.Test.YtjaejonnbhdddaaDoorRowB
import Derived.Test.YtjaejonnbhdddaaDoorL22
namespace Go.Proofs.YtjaejonnbhdddaaDoor.fnSets
open Go.ChangeShapes Go.WideShapes Go.ChangeAt Go.RowKit Go.Eng
open Go.ChangeMaps (open_string shut_string)
set_option linter.unusedVariables false
set_option maxRecDepth 100000 in
theorem door_met (os : Os) (args : Array Value) : laidMetH Tryd.prog Rows.fnSetsRow.laid ((World.doorLaid Tryd.prog 4000 os).forCall (fun _ _ => 0) ⟨#[], args, []⟩).memory :=
  laidMetH_of_parts3 (fuel := 8) (laidMet_of_run' 8 (by kernel_rfl) (by kernel_rfl)) (by kernel_rfl) (by kernel_rfl)
set_option maxRecDepth 100000 in
theorem lifted (os : Os) (started : os.Started) (H : Type) (enc : TypeId × Value → H) :
    ReturnsInHanded {} Tryd.checked os 3 .any (fun w args => (Rows.fnSetsSpec.pre enc Tryd.prog Tryd.f3 [] false w args ∧ laidMetH Tryd.prog Rows.fnSetsRow.laid w) ∧ sizedMet enc Tryd.prog Tryd.f3 (OpenSpec.ofChange Rows.fnSetsSpec) false w args) (Rows.fnSetsSpec.post enc Tryd.prog Tryd.f3 false true false false) := by
  refine returnsInHanded_of_change_and (C := Tryd.checked) (X := fun w _ => laidMetH Tryd.prog Rows.fnSetsRow.laid w) (fun _ _ _ hh h => h.of_heap hh) own started (by kernel_rfl) Tryd.func3
    (ChangeSpec.witness_shaped (enc := enc) (C := Tryd.checked) (os := os) (X := fun w _ => laidMetH Tryd.prog Rows.fnSetsRow.laid w) false (World.doorLaid Tryd.prog 4000 os) #[.slice none 0 0] 8 rfl (World.shaped_of_RefB (by kernel_rfl) (by kernel_rfl)) (by kernel_rfl) (by kernel_rfl) (by kernel_rfl) (door_met os _)) ?_
  intro W base args ds gs before hval0 hW _ _ hL _
  have hval : ∀ (j : Nat) t v, Tryd.f3.params[j]? = some t → args[j]? = some v → Value.okWide Tryd.prog W .any base t v := hval0
  have hW' := hW
  obtain ⟨p, q, hA0, hV0, rfl, hfz, hnd⟩ := hW
  have hA : DataW.TrodAll enc Tryd.prog W 0 (fun _ => true) true Tryd.f3.params.toList args.toList ds p := hA0
  rw [Tryd.params3] at hA hval
  rw [MakeChecks.laidMetH_plain _ _ _ (by kernel_rfl)] at hL
  have hV : DataW.TrodVars enc Tryd.prog W (fun _ => true) ["loop.example/s01308/impl.errWide", "loop.example/s01308/impl.errOverflow", "loop.example/s01308/impl.errZero"] gs q := hV0
  obtain ⟨ez, eo, ev, he, vz, vo, vw⟩ := errs_of_laid hL
  have vr : ∀ {X : World}, Ext W X → ∀ sp : Nat → Bool, DataW.TrodVars enc Tryd.prog X sp ["loop.example/s01308/impl.errWide", "loop.example/s01308/impl.errOverflow", "loop.example/s01308/impl.errZero"] [tok enc (errV ev), tok enc (errV eo), tok enc (errV ez)] [.cell 0 0, .cell 1 0, .cell 2 0] :=
    fun hx sp => vars3 enc gW yW Tryd.underlying46 (var_ext hx vw) trivial gO yO Tryd.underlying46 (var_ext hx vo) trivial gZ yZ Tryd.underlying46 (var_ext hx vz) trivial sp
  obtain ⟨rfl, rfl⟩ := hV.unique (vr (Ext.refl W) _)
  clear hV0
  obtain ⟨v0, vs0, d0, ds0, p0, q0, hargs, rfl, rfl, h0, r0⟩ := trodAll_cons hA
  obtain ⟨rfl, rfl, rfl⟩ := trodAll_nil r0
  obtain rfl : args = #[v0] := by cases args; simp_all
  clear hA0 hval0
  have hlt0 : ∀ x ∈ p0, x.block < W.heap.size := fun x hx => hW'.lt x (by simp [hx])
  have k0 := h0
  obtain ⟨A0, n0, c0, x0, rfl, y0⟩ := open_bytes (hval 0 22 v0 rfl rfl) h0
  refine (lawSets A0 n0 c0 x0 W he y0).row.mono fun e W' ⟨hr, bel⟩ => ?_
  subst hr
  exact ⟨_, rfl, _, _, _, [], _, [.cell 0 0, .cell 1 0, .cell 2 0], hW', trodAll_mk1 (shut_bool Tryd.underlying4 _), (trodAll_cons_mk (Below.trod laidOut (by kernel_rfl) (of_decide_eq_true (by kernel_rfl)) k0 bel hlt0) trodAll_mk0), vr bel _, bel.frame _, fun h => by cases h⟩
theorem over : Rows.fnSetsRow.holds Tryd.pinned (OpenSpec.ofChange Rows.fnSetsSpec) :=
  OpenClaim.holds_of_wide 3 Tryd.f3 rfl rfl rfl rfl rfl rfl rfl ⟨rfl, rfl, rfl, rfl, rfl⟩ rfl rfl rfl rfl rfl (by kernel_rfl) Tryd.func3 (by kernel_rfl)
    (of_decide_eq_true (by kernel_rfl)) (by unfold Func.isWrapper; first | (rw [if_pos (by decide +kernel)]; kernel_rfl) | (rw [if_neg (by decide +kernel)]; exact ⟨rfl, rfl⟩))
    (fun os started H enc _ => lifted os started H enc)
end Go.Proofs.YtjaejonnbhdddaaDoor.fnSets
namespace Go.Proofs.YtjaejonnbhdddaaDoor
theorem fnSets_holds : Rows.FnSetsCardSaid :=
  Claim7.holds_tied_plain_at .later [] [.sentinel, .sentinel, .sentinel] true (true, "b90e3099244bbee0716d1c1c176ea9f6fa1733e2467bdf7eec514eac950aed4f") true
    fnSets.over (fun _ h => by cases h) (by kernel_rfl) (fun _ h => by cases h) fnSets_row_tie rfl ⟨rfl, rfl⟩ (by kernel_rfl) rfl
    (fun f fn hf hfn => by
      obtain rfl : f = 3 := Option.some.inj ((show Tryd.prog.funcNamed "loop.example/s01308/laws.FnSets" = some 3 by kernel_rfl).symm.trans hf) |>.symm
      obtain rfl : fn = Tryd.f3 := (Option.some.inj (Tryd.func3.symm.trans hfn)).symm
      exact ⟨by kernel_rfl, fun j t ht => by
        rw [Tryd.params3] at ht
        have hm : t ∈ [22] := by simpa using Array.mem_of_getElem? ht
        have hall : ([22].all fun u => !Tryd.prog.wantsStandIn u) = true := by kernel_rfl
        exact (show Tryd.prog.wantsStandIn t = false by simpa using List.all_eq_true.1 hall t hm)⟩)
    (by kernel_rfl)
end Go.Proofs.YtjaejonnbhdddaaDoor
