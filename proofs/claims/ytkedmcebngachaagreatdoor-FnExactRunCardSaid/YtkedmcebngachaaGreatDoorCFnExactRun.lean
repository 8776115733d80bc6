/- The law FnExactRun holds of every argument that can be read: the call returns true, and the arguments read as they did. No condition. -/
import Derived.Test.YtkedmcebngachaaGreatDoorMFnExactRun11
import Derived.Test.YtkedmcebngachaaGreatDoorTie
import Derived.Test.YtkedmcebngachaaGreatDoorCards
import Derived.SevenTiedAt
import Derived.LaidMore
import Derived.Stop.Joined
import Derived.Stop.LaidTwo
import Derived.Lay
import Derived.HandedShaped
namespace Go.Proofs.YtkedmcebngachaaGreatDoor.fnExactRun
open Go.ChangeShapes Go.WideShapes Go.ChangeAt Go.RowKit Go.Eng
open Go.ChangeMaps (open_string shut_string)
set_option linter.unusedVariables false
set_option maxRecDepth 100000 in
theorem door_met (os : Os) (args : Array Value) : laidMetH Tryz.prog Rows.fnExactRunRow.laid ((World.doorLaid Tryz.prog 4000 os).forCall (fun _ _ => 0) ⟨#[], args, []⟩).memory :=
  laidMetH_of_parts3 (fuel := 8) (laidMet_of_run' 8 (by kernel_rfl) (by kernel_rfl)) (by kernel_rfl) (by kernel_rfl)
set_option maxRecDepth 100000 in
theorem lifted (os : Os) (started : os.Started) (H : Type) (enc : TypeId × Value → H) :
    ReturnsInHanded {} Tryz.checked os 3 .any (fun w args => (Rows.fnExactRunSpec.pre enc Tryz.prog Tryz.f3 [] false w args ∧ laidMetH Tryz.prog Rows.fnExactRunRow.laid w) ∧ sizedMet enc Tryz.prog Tryz.f3 (OpenSpec.ofChange Rows.fnExactRunSpec) false w args) (Rows.fnExactRunSpec.post enc Tryz.prog Tryz.f3 false true false false) := by
  refine returnsInHanded_of_change_and (C := Tryz.checked) (X := fun w _ => laidMetH Tryz.prog Rows.fnExactRunRow.laid w) (fun _ _ _ hh h => h.of_heap hh) own started (by kernel_rfl) Tryz.func3
    (ChangeSpec.witness_shaped (enc := enc) (C := Tryz.checked) (os := os) (X := fun w _ => laidMetH Tryz.prog Rows.fnExactRunRow.laid w) false (World.doorLaid Tryz.prog 4000 os) #[.agg #[.slice none 0 0, .int .i64 0, .slice none 0 0], .agg #[.string ByteArray.empty, .string ByteArray.empty, .int .i64 0, .int .i64 0, .slice none 0 0, .slice none 0 0]] 8 rfl (World.shaped_of_RefB (by kernel_rfl) (by kernel_rfl)) (by kernel_rfl) (by kernel_rfl) (by kernel_rfl) (door_met os _)) ?_
  intro W base args ds gs before hval0 hW _ _ hL _
  have hval : ∀ (j : Nat) t v, Tryz.f3.params[j]? = some t → args[j]? = some v → Value.okWide Tryz.prog W .any base t v := hval0
  have hW' := hW
  obtain ⟨p, q, hA0, hV0, rfl, hfz, hnd⟩ := hW
  have hA : DataW.TrodAll enc Tryz.prog W 0 (fun _ => true) true Tryz.f3.params.toList args.toList ds p := hA0
  rw [Tryz.params3] at hA hval
  rw [MakeChecks.laidMetH_plain _ _ _ (by kernel_rfl)] at hL
  obtain ⟨psL, ⟨g0, t0, cs0, f0, p0, q0, hg0, ht0, hv0, hd0, ⟨g1, t1, cs1, f1, p1, q1, hg1, ht1, hv1, hd1, ⟨g2, t2, cs2, f2, p2, q2, hg2, ht2, hv2, hd2, ⟨g3, t3, cs3, f3, p3, q3, hg3, ht3, hv3, hd3, ⟨g4, t4, cs4, f4, p4, q4, hg4, ht4, hv4, hd4, ⟨g5, t5, cs5, f5, p5, q5, hg5, ht5, hv5, hd5, _, e6⟩, e5⟩, e4⟩, e3⟩, e2⟩, e1⟩, hndL, hrowsL⟩ := id hL
  obtain ⟨ez, eo, ev, he, vz, vo, vw⟩ := errs_of_laid (laidMet_take (l := [_, _, _]) hL)
  obtain rfl := Option.some.inj ((show Tryz.prog.globalNamed "loop.example/s01308/impl.constOps" = some 4 by kernel_rfl).symm.trans hg3)
  obtain rfl := Option.some.inj ((show (Tryz.prog.globals[4]?).map (·.type) = some 262 by kernel_rfl).symm.trans ht3)
  have hT3 : Tab W 4 constF := tab_of_trod hg3 Tryz.underlying262 uInt uInt hv3 hd3 constF rfl
  obtain rfl := Option.some.inj ((show Tryz.prog.globalNamed "loop.example/s01308/impl.calcOps" = some 5 by kernel_rfl).symm.trans hg4)
  obtain rfl := Option.some.inj ((show (Tryz.prog.globals[5]?).map (·.type) = some 262 by kernel_rfl).symm.trans ht4)
  have hT4 : Tab W 5 calcF := tab_of_trod hg4 Tryz.underlying262 uInt uInt hv4 hd4 calcF rfl
  obtain rfl := Option.some.inj ((show Tryz.prog.globalNamed "loop.example/s01308/impl.opcodes" = some 3 by kernel_rfl).symm.trans hg5)
  obtain rfl := Option.some.inj ((show (Tryz.prog.globals[3]?).map (·.type) = some 262 by kernel_rfl).symm.trans ht5)
  have hT5 : Tab W 3 opF := tab_of_trod hg5 Tryz.underlying262 uInt uInt hv5 hd5 opF rfl
  have hgl : ∀ {sp : Nat → Bool} {X : World} {ns : List String} {gs : List (DataW H)} {ps : List MemPlace}, DataW.TrodVars enc Tryz.prog X sp ns gs ps → gs.length = ns.length := by
    intro sp X ns
    induction ns with
    | nil => intro gs ps h; cases gs with
      | nil => rfl
      | cons _ _ => exact h.elim
    | cons n ns ih => intro gs ps h; cases gs with
      | nil => exact h.elim
      | cons d ds =>
        obtain ⟨_, _, _, _, _, _, _, _, _, _, hs, _⟩ := h
        simp [ih hs]
  have hgl := hgl hV0
  obtain ⟨v0, vs0, d0, ds0, p0, q0, hargs, rfl, rfl, h0, r0⟩ := trodAll_cons hA
  obtain ⟨v1, vs1, d1, ds1, p1, q1, rfl, rfl, rfl, h1, r1⟩ := trodAll_cons r0
  obtain ⟨rfl, rfl, rfl⟩ := trodAll_nil r1
  obtain rfl : args = #[v0, v1] := by cases args; simp_all
  obtain ⟨u0, u1, u2, u3, u4, u5, rfl⟩ : ∃ u0 u1 u2 u3 u4 u5, gs = [u0, u1, u2, u3, u4, u5] := by
    match gs, hgl with
    | [u0, u1, u2, u3, u4, u5], _ => exact ⟨u0, u1, u2, u3, u4, u5, rfl⟩
  clear hA0 hval0 hgl
  have hlt0 : ∀ x ∈ p0, x.block < W.heap.size := fun x hx => hW'.lt x (by simp [hx])
  have hlt1 : ∀ x ∈ p1, x.block < W.heap.size := fun x hx => hW'.lt x (by simp [hx])
  have k0 := h0
  obtain ⟨A0, n0, c0, sl0, B0, m0, e0, pv0, is0, rfl, h0x, y0, z0, f0x⟩ := open_lcodeF (hval 0 25 v0 rfl rfl) h0
  have k1 := h1
  obtain ⟨cl1, us1, lv1, nw1, A1, n1, c1, x1, B1, m1, e1, z1, rfl, ya1, yb1, yc1, yd1, ye1, yf1⟩ := open_lreqF (hval 1 28 v1 rfl rfl) h1
  refine (lawRun W ⟨hT3, hT5, hT4, he⟩ h0x y0 z0 f0x ya1 yb1 yc1 yd1 ye1 yf1).row.mono fun e W' ⟨hr, bel⟩ => ?_
  subst hr
  exact ⟨_, rfl, _, _, _, [], _, _, hW', trodAll_mk1 (shut_bool Tryz.underlying4 _), (trodAll_cons_mk (Below.trod laidOut (by kernel_rfl) (of_decide_eq_true (by kernel_rfl)) k0 bel hlt0) (trodAll_cons_mk (Below.trod laidOut (by kernel_rfl) (of_decide_eq_true (by kernel_rfl)) k1 bel hlt1) trodAll_mk0)), Below.trodVars laidOut bel (by kernel_rfl) hV0, bel.frame _, fun h => by cases h⟩
theorem over : Rows.fnExactRunRow.holds Tryz.pinned (OpenSpec.ofChange Rows.fnExactRunSpec) :=
  OpenClaim.holds_of_wide 3 Tryz.f3 rfl rfl rfl rfl rfl rfl rfl ⟨rfl, rfl, rfl, rfl, rfl⟩ rfl rfl rfl rfl rfl (by kernel_rfl) Tryz.func3 jf_FnExactRun
    (of_decide_eq_true (by kernel_rfl)) (by unfold Func.isWrapper; first | (rw [if_pos (by decide +kernel)]; kernel_rfl) | (rw [if_neg (by decide +kernel)]; exact ⟨rfl, rfl⟩))
    (fun os started H enc _ => lifted os started H enc)
end Go.Proofs.YtkedmcebngachaaGreatDoor.fnExactRun
namespace Go.Proofs.YtkedmcebngachaaGreatDoor
theorem fnExactRun_holds : Rows.FnExactRunCardSaid :=
  Claim7.holds_tied_plain_at .later [] [.sentinel, .sentinel, .sentinel, .mapped, .mapped, .mapped] true (true, "4acfad3590a19c5ba8979b48e3eea8c685efe8f362bf030ee8736b9a041f17b6") true
    fnExactRun.over (fun _ h => by cases h) (by kernel_rfl) (fun _ h => by cases h) fnExactRun_row_tie rfl ⟨rfl, rfl⟩ (by kernel_rfl) rfl
    (fun f fn hf hfn => by
      obtain rfl : f = 3 := Option.some.inj ((show Tryz.prog.funcNamed "loop.example/s01308/laws.FnExactRun" = some 3 by kernel_rfl).symm.trans hf) |>.symm
      obtain rfl : fn = Tryz.f3 := (Option.some.inj (Tryz.func3.symm.trans hfn)).symm
      exact ⟨by kernel_rfl, fun j t ht => by
        rw [Tryz.params3] at ht
        have hm : t ∈ [25, 28] := by simpa using Array.mem_of_getElem? ht
        have hall : ([25, 28].all fun u => !Tryz.prog.wantsStandIn u) = true := by kernel_rfl
        exact (show Tryz.prog.wantsStandIn t = false by simpa using List.all_eq_true.1 hall t hm)⟩)
    (by kernel_rfl)
end Go.Proofs.YtkedmcebngachaaGreatDoor
