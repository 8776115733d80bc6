/- The law FnExactSafe holds of every argument that can be read: the call returns true, and the arguments read as they did. No condition. -/
import Derived.Test.YtmbonalhbibppaaDoorMFnExactSafe5
import Derived.Test.YtmbonalhbibppaaDoorTie
import Derived.Test.YtmbonalhbibppaaDoorCards
import Derived.SevenTiedAt
import Derived.LaidMore
import Derived.Stop.Joined
import Derived.Stop.LaidTwo
import Derived.Lay
import Derived.HandedShaped
namespace Go.Proofs.YtmbonalhbibppaaDoor.fnExactSafe
open Go.ChangeShapes Go.WideShapes Go.ChangeAt Go.RowKit Go.Eng
open Go.ChangeMaps (open_string shut_string)
set_option linter.unusedVariables false
set_option maxRecDepth 100000 in
theorem door_met (os : Os) (args : Array Value) : laidMetH Tryd.prog Rows.fnExactSafeRow.laid ((World.doorLaid Tryd.prog 4000 os).forCall (fun _ _ => 0) ⟨#[], args, []⟩).memory :=
  laidMetH_of_parts3 (fuel := 8) (laidMet_of_run' 8 (by kernel_rfl) (by kernel_rfl)) (by kernel_rfl) (by kernel_rfl)
set_option maxRecDepth 100000 in
theorem lifted (os : Os) (started : os.Started) (H : Type) (enc : TypeId × Value → H) :
    ReturnsInHanded {} Tryd.checked os 7 .any (fun w args => (Rows.fnExactSafeSpec.pre enc Tryd.prog Tryd.f7 [] false w args ∧ laidMetH Tryd.prog Rows.fnExactSafeRow.laid w) ∧ sizedMet enc Tryd.prog Tryd.f7 (OpenSpec.ofChange Rows.fnExactSafeSpec) false w args) (Rows.fnExactSafeSpec.post enc Tryd.prog Tryd.f7 false true false false) := by
  refine returnsInHanded_of_change_and (C := Tryd.checked) (X := fun w _ => laidMetH Tryd.prog Rows.fnExactSafeRow.laid w) (fun _ _ _ hh h => h.of_heap hh) own started (by kernel_rfl) Tryd.func7
    (ChangeSpec.witness_shaped (enc := enc) (C := Tryd.checked) (os := os) (X := fun w _ => laidMetH Tryd.prog Rows.fnExactSafeRow.laid w) false (World.doorLaid Tryd.prog 4000 os) #[.agg #[.slice none 0 0, .slice none 0 0, .slice none 0 0], .int .i64 0] 8 rfl (World.shaped_of_RefB (by kernel_rfl) (by kernel_rfl)) (by kernel_rfl) (by kernel_rfl) (by kernel_rfl) (door_met os _)) ?_
  intro W base args ds gs before hval0 hW _ _ hL _
  have hval : ∀ (j : Nat) t v, Tryd.f7.params[j]? = some t → args[j]? = some v → Value.okWide Tryd.prog W .any base t v := hval0
  have hW' := hW
  obtain ⟨p, q, hA0, hV0, rfl, hfz, hnd⟩ := hW
  have hA : DataW.TrodAll enc Tryd.prog W 0 (fun _ => true) true Tryd.f7.params.toList args.toList ds p := hA0
  rw [Tryd.params7] at hA hval
  rw [MakeChecks.laidMetH_plain _ _ _ (by kernel_rfl)] at hL
  obtain ⟨psL, ⟨g0, t0, cs0, f0, p0, q0, hg0, ht0, hv0, hd0, ⟨g1, t1, cs1, f1, p1, q1, hg1, ht1, hv1, hd1, _, e2⟩, e1⟩, hndL, hrowsL⟩ := id hL
  obtain rfl := Option.some.inj ((show Tryd.prog.globalNamed "loop.example/s01308/impl.reserved" = some 5 by kernel_rfl).symm.trans hg0)
  obtain rfl := Option.some.inj ((show (Tryd.prog.globals[5]?).map (·.type) = some 205 by kernel_rfl).symm.trans ht0)
  have hT0 : STab W 5 words := res_words (stab_of_trod hg0 Tryd.underlying205 uStr uBool hv0 hd0 resL rfl)
  obtain rfl := Option.some.inj ((show Tryd.prog.globalNamed "loop.example/s01308/impl.constOps" = some 6 by kernel_rfl).symm.trans hg1)
  obtain rfl := Option.some.inj ((show (Tryd.prog.globals[6]?).map (·.type) = some 209 by kernel_rfl).symm.trans ht1)
  have hT1 : Tab W 6 constF := tab_of_trod hg1 Tryd.underlying209 uInt uInt hv1 hd1 constF rfl
  have hgl : ∀ {sp : Nat → Bool} {X : World} {ns : List String} {gs : List (DataW H)} {ps : List MemPlace}, DataW.TrodVars enc Tryd.prog X sp ns gs ps → gs.length = ns.length := by
    intro sp X ns
    induction ns with
    | nil => intro gs ps h; cases gs with
      | nil => rfl
      | cons _ _ => exact h.elim
    | cons n ns ih => intro gs ps h; cases gs with
      | nil => exact h.elim
      | cons d ds =>
        obtain ⟨_, _, _, _, _, _, _, _, _, _, hs, _⟩ := h
        simp [ih hs]
  have hgl := hgl hV0
  obtain ⟨v0, vs0, d0, ds0, p0, q0, hargs, rfl, rfl, h0, r0⟩ := trodAll_cons hA
  obtain ⟨v1, vs1, d1, ds1, p1, q1, rfl, rfl, rfl, h1, r1⟩ := trodAll_cons r0
  obtain ⟨rfl, rfl, rfl⟩ := trodAll_nil r1
  obtain rfl : args = #[v0, v1] := by cases args; simp_all
  obtain ⟨u0, u1, rfl⟩ : ∃ u0 u1, gs = [u0, u1] := by
    match gs, hgl with
    | [u0, u1], _ => exact ⟨u0, u1, rfl⟩
  clear hA0 hval0 hgl
  have hlt0 : ∀ x ∈ p0, x.block < W.heap.size := fun x hx => hW'.lt x (by simp [hx])
  have hlt1 : ∀ x ∈ p1, x.block < W.heap.size := fun x hx => hW'.lt x (by simp [hx])
  have k0 := h0
  obtain ⟨A0, n0, c0, B0, m0, e0, C0, l0, i0, nv0, sv0, tv0, rfl, h0x, y0, z0⟩ := open_ltyped (hval 0 51 v0 rfl rfl) h0
  have k1 := h1
  obtain ⟨x1, rfl, rfl, _, y1⟩ := open_int Tryd.underlying3 (hval 1 3 v1 rfl rfl) h1
  refine (lawSafe W ⟨hT0, hT1⟩ h0x y0 z0 x1 trivial).row.mono fun e W' ⟨hr, bel⟩ => ?_
  subst hr
  exact ⟨_, rfl, _, _, _, [], _, _, hW', trodAll_mk1 (shut_bool Tryd.underlying4 _), (trodAll_cons_mk (Below.trod laidOut (by kernel_rfl) (of_decide_eq_true (by kernel_rfl)) k0 bel hlt0) (trodAll_cons_mk (Below.trod laidOut (by kernel_rfl) (of_decide_eq_true (by kernel_rfl)) k1 bel hlt1) trodAll_mk0)), Below.trodVars laidOut bel (by kernel_rfl) hV0, bel.frame _, fun h => by cases h⟩
theorem over : Rows.fnExactSafeRow.holds Tryd.pinned (OpenSpec.ofChange Rows.fnExactSafeSpec) :=
  OpenClaim.holds_of_wide 7 Tryd.f7 rfl rfl rfl rfl rfl rfl rfl ⟨rfl, rfl, rfl, rfl, rfl⟩ rfl rfl rfl rfl rfl (by kernel_rfl) Tryd.func7 (by kernel_rfl)
    (of_decide_eq_true (by kernel_rfl)) (by unfold Func.isWrapper; first | (rw [if_pos (by decide +kernel)]; kernel_rfl) | (rw [if_neg (by decide +kernel)]; exact ⟨rfl, rfl⟩))
    (fun os started H enc _ => lifted os started H enc)
end Go.Proofs.YtmbonalhbibppaaDoor.fnExactSafe
namespace Go.Proofs.YtmbonalhbibppaaDoor
theorem fnExactSafe_holds : Rows.FnExactSafeCardSaid :=
  Claim7.holds_tied_plain_at .later [] [.mapped, .mapped] true (true, "8c6f60545359395145a2da8ccb72832c58bc6ffff5c48c35fd90c1b6eb179055") true
    fnExactSafe.over (fun _ h => by cases h) (by kernel_rfl) (fun _ h => by cases h) fnExactSafe_row_tie rfl ⟨rfl, rfl⟩ (by kernel_rfl) rfl
    (fun f fn hf hfn => by
      obtain rfl : f = 7 := Option.some.inj ((show Tryd.prog.funcNamed "loop.example/s01308/laws.FnExactSafe" = some 7 by kernel_rfl).symm.trans hf) |>.symm
      obtain rfl : fn = Tryd.f7 := (Option.some.inj (Tryd.func7.symm.trans hfn)).symm
      exact ⟨by kernel_rfl, fun j t ht => by
        rw [Tryd.params7] at ht
        have hm : t ∈ [51, 3] := by simpa using Array.mem_of_getElem? ht
        have hall : ([51, 3].all fun u => !Tryd.prog.wantsStandIn u) = true := by kernel_rfl
        exact (show Tryd.prog.wantsStandIn t = false by simpa using List.all_eq_true.1 hall t hm)⟩)
    (by kernel_rfl)
end Go.Proofs.YtmbonalhbibppaaDoor
