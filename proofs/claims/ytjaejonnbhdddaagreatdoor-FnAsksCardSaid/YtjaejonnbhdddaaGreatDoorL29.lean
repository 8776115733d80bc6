/- The draws of asks (printed by gen29.py). -/
import Derived.Test.YtjaejonnbhdddaaGreatDoorL28
import Derived.Test.YtjaejonnbhdddaaGreatDoorL19
import Derived.Test.YtjaejonnbhdddaaGreatDoorEng9
namespace Go.Proofs.YtjaejonnbhdddaaGreatDoor
open Go.Eng
set_option linter.unusedVariables false
set_option linter.unusedSimpArgs false
theorem run_ask3 (a b : ByteArray) (A : Option Addr) (n c : Nat) (w : World) : (Instr.build 25 #[(0, .string a), (1, .string b), (3, .slice A n c)]).run Tryz.prog w = .ok (.agg #[.string a, .string b, .int .i64 0, .slice A n c]) w := by kernel_rfl
theorem st_ask3 {E : Sym} {w : World} {K : Value → World → Prop} {d : Option Tmp} {ty : TypeId} {pos : String} {aft : Array Edge} {g : Option (Nat × Bool)} {bq : Bool} (hE : EngB bq Tryz.prog E) {a b : ByteArray} {A : Option Addr} {n c : Nat} {x y v : Operand} (hk : K (.agg ⟨[.string a, .string b, .int .i64 0, .slice A n c]⟩) w) : E.stop ⟨d, .build 25 ⟨[(0, x), (1, y), (3, v)]⟩, ty, pos, aft, g⟩ [.string a, .string b, .slice A n c] w K := by
  refine hE.det (v := .agg ⟨[.string a, .string b, .int .i64 0, .slice A n c]⟩) (fun w1 _ ρ hρ => ?_) hk
  simp only [opnds, List.map_cons, List.map_nil, List.cons.injEq, and_true] at hρ
  have := run_ask3 a b A n c w1
  simp [execOp, hρ.1, hρ.2.1, hρ.2.2, this]
/-- The ask that is read at p. -/
def AskR (zs : List Int) (p : Int) (cl us : ByteArray) (lv : Int) (xs : List ByteArray) (q : Int) : Prop :=
  cl = (wordS zs p).1 ∧ us = (wordS zs (wordS zs p).2).1 ∧ ∃ q2, SetR zs (wordS zs (wordS zs p).2).2 xs q2 ∧ lv = (if 240 < nx zs q2 then 9999999 else nx zs q2 % 12) ∧ q = up zs q2
theorem AskR.same {zs : List Int} {p : Int} {cl us cl' us' : ByteArray} {lv lv' : Int} {xs xs' : List ByteArray} {q q' : Int} (h : AskR zs p cl us lv xs q) (h' : AskR zs p cl' us' lv' xs' q') : cl = cl' ∧ us = us' ∧ lv = lv' ∧ xs = xs' ∧ q = q' := by
  obtain ⟨rfl, rfl, q2, h1, rfl, rfl⟩ := h
  obtain ⟨rfl, rfl, q3, k1, rfl, rfl⟩ := h'
  obtain ⟨rfl, rfl⟩ := h1.same k1
  exact ⟨rfl, rfl, rfl, rfl, rfl⟩
theorem SpoilR.same {zs : List Int} {p : Int} {xs r r' : List ByteArray} {q q' : Int} (h : SpoilR zs p xs r q) (h' : SpoilR zs p xs r' q') : r = r' := by
  obtain ⟨_, h⟩ := h
  obtain ⟨_, h'⟩ := h'
  rcases h with ⟨a, h⟩ | ⟨a, h⟩ | ⟨a, h⟩ | ⟨a, h⟩ | ⟨a, h⟩ <;> rcases h' with ⟨b, h'⟩ | ⟨b, h'⟩ | ⟨b, h'⟩ | ⟨b, h'⟩ | ⟨b, h'⟩ <;> first | omega | (rw [h, h']; done) | skip
  rcases h with ⟨h1, h2⟩ | ⟨s, h1, h2⟩ <;> rcases h' with ⟨k1, k2⟩ | ⟨t, k1, k2⟩
  · rw [h2, k2]
  · rw [h1] at k1; cases k1
  · rw [k1] at h1; cases h1
  · rw [h1] at k1; cases k1; rw [h2, k2]
set_option maxHeartbeats 1000000 in
theorem ask_g {w0 w : World} {r : Addr} {A : Option Addr} {n c : Nat} {zs : List Int} {p : Int} (h : Rd w0 w r A n c zs p) :
    GC Tryz.prog 12 [.pointer (some r)] w fun v w' => ∃ cl us lv A1 n1 c1 xs q, v = askV cl us lv A1 n1 c1 ∧ AskR zs p cl us lv xs q ∧ cl.size ≤ 60 ∧ us.size ≤ 60 ∧ 0 ≤ lv ∧ lv ≤ 9999999 ∧ xs.length ≤ 64 ∧ (∀ s ∈ xs, s.size ≤ 60) ∧ Own w.heap.size 9 1 w' A1 n1 c1 (xs.map .string) ∧ Rd w0 w' r A n c zs q ∧ Wr (some r) w w' := by
  refine GC.intro (cs := []) Tryz.func12 (by kernel_rfl) fun E R hE hr hR => ?_
  have hsz0 := h.ext.size
  conv => cbv
  refine st_alloc hr tIAsk rfl fun a2 w1 hx1 hb0 => ?_
  have hb := hb0 _ (Nat.le_refl _)
  have ab := h.box.apart hb (Nat.le_refl _)
  replace h := h.bel hx1
  have hw : Wr (some r) w w1 := hx1.wr _
  clear hb0
  conv => cbv
  refine st_g hr (word_g h) fun v w2 ⟨cl, q1, ev, ⟨e1, e1'⟩, z1, h2, hw2⟩ => ?_
  subst ev
  replace hb := hb.wr hw2 ab.2
  replace hw := hw.trans hw2
  conv => cbv
  refine st_g hr (word_g h2) fun v w3 ⟨us, q2, ev, ⟨e2, e2'⟩, z2, h3, hw3⟩ => ?_
  subst ev
  replace hb := hb.wr hw3 ab.2
  replace hw := hw.trans hw3
  conv => cbv
  refine st_g hr (set_g h3) fun v w4 ⟨xs, q3, hset, l4, z4, ⟨A4, n4, c4, ev, s4, o4⟩, h4, hw4⟩ => ?_
  subst ev
  have ar4 := (h3.box.apart o4 (Nat.le_refl _)).2
  have ab4 := (hb.apart o4 (Nat.le_refl _)).2
  have h34 := hw.size
  replace hb := hb.wr hw4 ab.2
  replace o4 := o4.mono h34
  replace hw := hw.trans hw4
  conv => cbv
  refine st_ask3 hE ?_
  conv => cbv
  refine st_alloc hr tIAsk rfl fun a5 w5 hx5 h50 => ?_
  have h5 := h50 _ hw.size
  have ar5 := h4.box.apart (h50 _ (Nat.le_refl _)) (Nat.le_refl _)
  have ab5 := hb.apart (h50 _ (Nat.le_refl _)) (Nat.le_refl _)
  have ao5 := o4.apart (h50 _ (Nat.le_refl _)) (Nat.le_refl _)
  replace h4 := h4.bel hx5
  replace hb := hb.bel hx5
  replace o4 := o4.bel hx5
  replace hw := hw.trans (hx5.wr _)
  clear h50
  conv => cbv
  refine st_putS hr (by kernel_rfl) h5 (add_zero _).symm (by simp) (by simp [Value.oneCell']) fun w6 hw6 h52 => ?_
  simp only [List.take_zero, List.nil_append, List.length_cons, List.length_nil, List.drop_succ_cons, List.drop_nil, List.append_nil] at h52
  replace hw := wr_own hw hw6 h5
  replace h4 := h4.wr hw6 h5 hsz0 ar5.1
  replace hb := hb.wr hw6 ab5.1
  replace o4 := o4.wr hw6 ao5.1
  replace h5 := h52
  clear h52 hw6
  conv => cbv
  refine st_g hr (next_g h4) fun v w7 ⟨k, q4, ev, k0, k1, ⟨ek, eq4⟩, h7, hw7⟩ => ?_
  subst ev
  replace hb := hb.wr hw7 ab.2
  replace o4 := o4.wr hw7 ar4
  replace h5 := h5.wr hw7 ar5.2
  replace hw := hw.trans hw7
  conv => cbv
  refine st_rem hE (by decide) fun m hm => ?_
  have hm : m = k % 12 := by rw [hm, Int.tmod_eq_emod_of_nonneg k0]
  conv => cbv
  refine st_fld hE fK2 fun pf hpf => ?_
  conv => cbv
  refine st_put hr zI6 h5 hpf (by simp) rfl fun w8 hw8 h52 => ?_
  simp only [List.set_cons_zero, List.set_cons_succ] at h52
  replace hw := wr_own hw hw8 h5
  replace h7 := h7.wr hw8 h5 hsz0 ar5.1
  replace hb := hb.wr hw8 ab5.1
  replace o4 := o4.wr hw8 ao5.1
  replace h5 := h52
  clear h52 hw8 hpf
  conv => cbv
  refine br (fun g => ?_) (fun g => ?_)
  · have g : 240 < k := by simpa [hE.cmp, cmpR] using g
    conv => cbv
    refine st_fld hE fK2 fun pf hpf => ?_
    conv => cbv
    refine st_put hr zI6 h5 hpf (by simp) rfl fun w9 hw9 h52 => ?_
    simp only [List.set_cons_zero, List.set_cons_succ] at h52
    replace hw := wr_own hw hw9 h5
    replace h7 := h7.wr hw9 h5 hsz0 ar5.1
    replace hb := hb.wr hw9 ab5.1
    replace o4 := o4.wr hw9 ao5.1
    replace h5 := h52
    clear h52 hw9 hpf
    conv => cbv
    refine st_loadS hE tIAsk rfl h5.at ?_
    conv => cbv
    refine st_putS hr (by kernel_rfl) hb (add_zero _).symm (by simp) (by simp [Value.oneCell']) fun wf hwf hb2 => ?_
    simp only [List.take_zero, List.nil_append, List.length_cons, List.length_nil, List.drop_succ_cons, List.drop_nil, List.append_nil] at hb2
    replace hw := wr_own hw hwf hb
    replace h7 := h7.wr hwf hb hsz0 ab.1
    replace o4 := o4.wr hwf ab4
    conv => cbv
    refine st_cell hr tIAsk rfl hb2.at ?_
    rw [hR]; refine ⟨cl, us, 9999999, A4, n4, c4, xs, q4, rfl, ⟨e1, by rw [e1'] at e2; exact e2, q3, by rw [e1'] at e2'; rw [e2'] at hset; exact hset, ?_, eq4⟩, z1, z2, by omega, by omega, l4, z4, o4, h7, hw⟩
    rw [← ek, if_pos g]
  · have g : ¬ 240 < k := by simpa [hE.cmp, cmpR] using g
    conv => cbv
    refine st_loadS hE tIAsk rfl h5.at ?_
    conv => cbv
    refine st_putS hr (by kernel_rfl) hb (add_zero _).symm (by simp) (by simp [Value.oneCell']) fun wf hwf hb2 => ?_
    simp only [List.take_zero, List.nil_append, List.length_cons, List.length_nil, List.drop_succ_cons, List.drop_nil, List.append_nil] at hb2
    replace hw := wr_own hw hwf hb
    replace h7 := h7.wr hwf hb hsz0 ab.1
    replace o4 := o4.wr hwf ab4
    conv => cbv
    refine st_cell hr tIAsk rfl hb2.at ?_
    rw [hR]; refine ⟨cl, us, m, A4, n4, c4, xs, q4, rfl, ⟨e1, by rw [e1'] at e2; exact e2, q3, by rw [e1'] at e2'; rw [e2'] at hset; exact hset, ?_, eq4⟩, z1, z2, by omega, by omega, l4, z4, o4, h7, hw⟩
    rw [← ek, if_neg g]; exact hm
/-- The ask that FormatAsk's draw gives. -/
def DFA (zs : List Int) (cl us : ByteArray) (lv : Int) (xs : List ByteArray) : Prop :=
  ∃ cl0 us0 lv0 xs0 q, AskR zs (up zs 0) cl0 us0 lv0 xs0 q ∧
    ((nx zs 0 % 25 = 0 ∧ cl = cl0 ∧ us = us0 ∧ lv = 10000000 ∧ xs = xs0) ∨ (nx zs 0 % 25 = 1 ∧ cl = cl0 ∧ us = us0 ∧ lv = -1 ∧ xs = xs0) ∨ (nx zs 0 % 25 = 2 ∧ cl = ⟨#[]⟩ ∧ us = us0 ∧ lv = lv0 ∧ xs = xs0) ∨
     (nx zs 0 % 25 = 3 ∧ cl = cl0 ∧ us = us0 ++ ⟨#[32]⟩ ∧ lv = lv0 ∧ xs = xs0) ∨ (nx zs 0 % 25 = 4 ∧ cl = cl0 ∧ us = us0 ∧ lv = lv0 ∧ ∃ q', SpoilR zs q xs0 xs q') ∨
     ((nx zs 0 % 25 ≠ 0 ∧ nx zs 0 % 25 ≠ 1 ∧ nx zs 0 % 25 ≠ 2 ∧ nx zs 0 % 25 ≠ 3 ∧ nx zs 0 % 25 ≠ 4) ∧ cl = cl0 ∧ us = us0 ∧ lv = lv0 ∧ xs = xs0))
theorem DFA.same {zs : List Int} {cl us cl' us' : ByteArray} {lv lv' : Int} {xs xs' : List ByteArray} (h : DFA zs cl us lv xs) (h' : DFA zs cl' us' lv' xs') : cl = cl' ∧ us = us' ∧ lv = lv' ∧ xs = xs' := by
  obtain ⟨cl0, us0, lv0, xs0, q, h1, h2⟩ := h
  obtain ⟨cl1, us1, lv1, xs1, q1, k1, k2⟩ := h'
  obtain ⟨rfl, rfl, rfl, rfl, rfl⟩ := h1.same k1
  rcases h2 with ⟨a, rfl, rfl, rfl, rfl⟩ | ⟨a, rfl, rfl, rfl, rfl⟩ | ⟨a, rfl, rfl, rfl, rfl⟩ | ⟨a, rfl, rfl, rfl, rfl⟩ | ⟨a, rfl, rfl, rfl, qa, sa⟩ | ⟨a, rfl, rfl, rfl, rfl⟩ <;>
    rcases k2 with ⟨b, rfl, rfl, rfl, rfl⟩ | ⟨b, rfl, rfl, rfl, rfl⟩ | ⟨b, rfl, rfl, rfl, rfl⟩ | ⟨b, rfl, rfl, rfl, rfl⟩ | ⟨b, rfl, rfl, rfl, qb, sb⟩ | ⟨b, rfl, rfl, rfl, rfl⟩ <;>
    first
    | exact ⟨rfl, rfl, rfl, rfl⟩
    | exact ⟨rfl, rfl, rfl, sa.same sb⟩
    | (exfalso; omega)
set_option maxHeartbeats 1000000 in
theorem DrawFormatAsk_f {w : World} {A : Option Addr} {n c : Nat} {zs : List Int} (hby : Byts w A n c zs) :
    FC Tryz.prog 4 [.slice A n c] w fun v w' => ∃ cl us lv A1 n1 c1 xs, v = askV cl us lv A1 n1 c1 ∧ DFA zs cl us lv xs ∧ cl.size ≤ 60 ∧ us.size ≤ 61 ∧ fits lv ∧ xs.length ≤ 128 ∧ (∀ s ∈ xs, s.size ≤ 60) ∧ Own w.heap.size 9 1 w' A1 n1 c1 (xs.map .string) := by
  refine FC.intro (cs := []) Tryz.func4 (by kernel_rfl) fun E R hE hr hR => ?_
  conv => cbv
  refine st_alloc hr tIAsk rfl fun a2 w1 hx1 hb0 => ?_
  have hb := hb0 _ (Nat.le_refl _)
  clear hb0
  conv => cbv
  refine st_rd hE ?_
  conv => cbv
  refine st_box hr fun r w2 hx2 hr0 => ?_
  have h : Rd w w2 r A n c zs 0 := ⟨hx1.trans hx2, hr0 _ hx1.size, hby, by omega, by omega⟩
  have ab := hb.apart (hr0 _ (Nat.le_refl _)) (Nat.le_refl _)
  replace hb := hb.bel hx2
  clear hr0
  conv => cbv
  refine st_g hr (next_g h) fun v w3 ⟨k, q, ev, k0, k1, ⟨ek, eq⟩, h3, hw3⟩ => ?_
  subst ev
  replace hb := hb.wr hw3 ab.1
  conv => cbv
  refine st_g hr (ask_g h3) fun v w4 ⟨cl, us, lv, A4, n4, c4, xs, q4, ev, har, z1, z2, lv0, lv1, l4, z4, o4, h4, hw4⟩ => ?_
  subst ev
  rw [eq] at har
  have ar4 := (h3.box.apart o4 (Nat.le_refl _)).2
  have ab4 := (hb.apart o4 (Nat.le_refl _)).2
  replace hb := hb.wr hw4 ab.1
  replace o4 := o4.mono h3.ext.size
  conv => cbv
  refine st_alloc hr tIAsk rfl fun a5 w5 hx5 h50 => ?_
  have h5 := h50 _ h4.ext.size
  have ar5 := h4.box.apart (h50 _ (Nat.le_refl _)) (Nat.le_refl _)
  have ab5 := hb.apart (h50 _ (Nat.le_refl _)) (Nat.le_refl _)
  have ao5 := o4.apart (h50 _ (Nat.le_refl _)) (Nat.le_refl _)
  replace h4 := h4.bel hx5
  replace hb := hb.bel hx5
  replace o4 := o4.bel hx5
  clear h50
  conv => cbv
  refine st_putS hr (by kernel_rfl) h5 (add_zero _).symm (by simp) (by simp [Value.oneCell']) fun w6 hw6 h52 => ?_
  simp only [List.take_zero, List.nil_append, List.length_cons, List.length_nil, List.drop_succ_cons, List.drop_nil, List.append_nil] at h52
  replace h4 := h4.wr hw6 h5 (Nat.le_refl _) ar5.1
  replace hb := hb.wr hw6 ab5.1
  replace o4 := o4.wr hw6 ao5.1
  replace h5 := h52
  clear h52 hw6
  conv => cbv
  refine st_rem hE (by decide) fun m hm => ?_
  have hm : m = k % 25 := by rw [hm, Int.tmod_eq_emod_of_nonneg k0]
  rw [ek] at hm
  have P : ∀ x y : Int, E.cmp .eql x y = true → x = y := fun x y h => by rw [hE.cmp] at h; simpa [cmpR] using h
  have N : ∀ x y : Int, ¬ E.cmp .eql x y = true → x ≠ y := fun x y h => by rw [hE.cmp] at h; simpa [cmpR] using h
  conv => cbv
  refine br (fun g => ?_) (fun g => ?_)
  · have g : m = 0 := P _ _ g
    conv => cbv
    refine st_fld hE fK2 fun pf hpf => ?_
    conv => cbv
    refine st_put hr zI6 h5 hpf (by simp) rfl fun w8 hw8 h52 => ?_
    simp only [List.set_cons_zero, List.set_cons_succ] at h52
    replace h4 := h4.wr hw8 h5 (Nat.le_refl _) ar5.1
    replace hb := hb.wr hw8 ab5.1
    replace o4 := o4.wr hw8 ao5.1
    replace h5 := h52
    conv => cbv
    refine st_loadS hE tIAsk rfl h5.at ?_
    conv => cbv
    refine st_putS hr (by kernel_rfl) hb (add_zero _).symm (by simp) (by simp [Value.oneCell']) fun wf hwf hb2 => ?_
    simp only [List.take_zero, List.nil_append, List.length_cons, List.length_nil, List.drop_succ_cons, List.drop_nil, List.append_nil] at hb2
    have hof := o4.wr hwf ab4
    have hxf := h4.ext.then (hwf.bel hb h4.ext.size)
    conv => cbv
    refine st_cell hr tIAsk rfl hb2.at ?_
    rw [hR]; exact ⟨hxf, cl, us, 10000000, A4, n4, c4, xs, rfl, ⟨cl, us, lv, xs, q4, har, .inl ⟨by omega, rfl, rfl, rfl, rfl⟩⟩, z1, by omega, by unfold fits; omega, by omega, z4, hof⟩
  have g0 := N _ _ g
  clear g
  conv => cbv
  refine br (fun g => ?_) (fun g => ?_)
  · have g : m = 1 := P _ _ g
    conv => cbv
    refine st_fld hE fK2 fun pf hpf => ?_
    conv => cbv
    refine st_put hr zI6 h5 hpf (by simp) rfl fun w8 hw8 h52 => ?_
    simp only [List.set_cons_zero, List.set_cons_succ] at h52
    replace h4 := h4.wr hw8 h5 (Nat.le_refl _) ar5.1
    replace hb := hb.wr hw8 ab5.1
    replace o4 := o4.wr hw8 ao5.1
    replace h5 := h52
    conv => cbv
    refine st_loadS hE tIAsk rfl h5.at ?_
    conv => cbv
    refine st_putS hr (by kernel_rfl) hb (add_zero _).symm (by simp) (by simp [Value.oneCell']) fun wf hwf hb2 => ?_
    simp only [List.take_zero, List.nil_append, List.length_cons, List.length_nil, List.drop_succ_cons, List.drop_nil, List.append_nil] at hb2
    have hof := o4.wr hwf ab4
    have hxf := h4.ext.then (hwf.bel hb h4.ext.size)
    conv => cbv
    refine st_cell hr tIAsk rfl hb2.at ?_
    rw [hR]; exact ⟨hxf, cl, us, (-1), A4, n4, c4, xs, rfl, ⟨cl, us, lv, xs, q4, har, .inr (.inl ⟨by omega, rfl, rfl, rfl, rfl⟩)⟩, z1, by omega, by unfold fits; omega, by omega, z4, hof⟩
  have g1 := N _ _ g
  clear g
  conv => cbv
  refine br (fun g => ?_) (fun g => ?_)
  · have g : m = 2 := P _ _ g
    conv => cbv
    refine st_fld hE fK0 fun pf hpf => ?_
    conv => cbv
    refine st_put hr zSt h5 hpf (by simp) rfl fun w8 hw8 h52 => ?_
    simp only [List.set_cons_zero, List.set_cons_succ] at h52
    replace h4 := h4.wr hw8 h5 (Nat.le_refl _) ar5.1
    replace hb := hb.wr hw8 ab5.1
    replace o4 := o4.wr hw8 ao5.1
    replace h5 := h52
    conv => cbv
    refine st_loadS hE tIAsk rfl h5.at ?_
    conv => cbv
    refine st_putS hr (by kernel_rfl) hb (add_zero _).symm (by simp) (by simp [Value.oneCell']) fun wf hwf hb2 => ?_
    simp only [List.take_zero, List.nil_append, List.length_cons, List.length_nil, List.drop_succ_cons, List.drop_nil, List.append_nil] at hb2
    have hof := o4.wr hwf ab4
    have hxf := h4.ext.then (hwf.bel hb h4.ext.size)
    conv => cbv
    refine st_cell hr tIAsk rfl hb2.at ?_
    rw [hR]; exact ⟨hxf, ⟨#[]⟩, us, lv, A4, n4, c4, xs, rfl, ⟨cl, us, lv, xs, q4, har, .inr (.inr (.inl ⟨by omega, rfl, rfl, rfl, rfl⟩))⟩, Nat.zero_le _, by omega, by unfold fits; omega, by omega, z4, hof⟩
  have g2 := N _ _ g
  clear g
  conv => cbv
  refine br (fun g => ?_) (fun g => ?_)
  · have g : m = 3 := P _ _ g
    conv => cbv
    refine st_fld hE fK1 fun pf1 hpf1 => ?_
    conv => cbv
    refine st_load hE cStr (by rw [hpf1]; exact h5.at _ _ rfl) ?_
    conv => cbv
    refine st_cat hE (cat_ok z2 (n := 1) (by decide) (by decide)) fun u2 hu2 => ?_
    conv => cbv
    refine st_fld hE fK1 fun pf hpf => ?_
    conv => cbv
    refine st_put hr zSt h5 hpf (by simp) rfl fun w8 hw8 h52 => ?_
    simp only [List.set_cons_zero, List.set_cons_succ] at h52
    replace h4 := h4.wr hw8 h5 (Nat.le_refl _) ar5.1
    replace hb := hb.wr hw8 ab5.1
    replace o4 := o4.wr hw8 ao5.1
    replace h5 := h52
    conv => cbv
    refine st_loadS hE tIAsk rfl h5.at ?_
    conv => cbv
    refine st_putS hr (by kernel_rfl) hb (add_zero _).symm (by simp) (by simp [Value.oneCell']) fun wf hwf hb2 => ?_
    simp only [List.take_zero, List.nil_append, List.length_cons, List.length_nil, List.drop_succ_cons, List.drop_nil, List.append_nil] at hb2
    have hof := o4.wr hwf ab4
    have hxf := h4.ext.then (hwf.bel hb h4.ext.size)
    conv => cbv
    refine st_cell hr tIAsk rfl hb2.at ?_
    rw [hR]; exact ⟨hxf, cl, u2, lv, A4, n4, c4, xs, rfl, ⟨cl, us, lv, xs, q4, har, .inr (.inr (.inr (.inl ⟨by omega, rfl, hu2, rfl, rfl⟩)))⟩, z1, by have := cat_le hu2 z2 (n := 1) (by decide); omega, by unfold fits; omega, by omega, z4, hof⟩
  have g3 := N _ _ g
  clear g
  conv => cbv
  refine br (fun g => ?_) (fun g => ?_)
  · have g : m = 4 := P _ _ g
    conv => cbv
    refine st_fld hE fK3 fun pf1 hpf1 => ?_
    conv => cbv
    refine st_load hE cStrsa (by rw [hpf1]; exact h5.at _ _ rfl) ?_
    conv => cbv
    refine st_g hr (spoil_g h4 o4 ar4 z4 l4) fun v w7 ⟨ys, q7, hsp, l7, z7, ⟨A7, n7, c7, ev, s7, o7⟩, h7, hw7⟩ => ?_
    subst ev
    have ab7 := (hb.apart o7 (Nat.le_refl _)).2
    have a57 := (h5.apart o7 (Nat.le_refl _)).2
    replace o7 := o7.mono h4.ext.size
    replace hb := hb.wr hw7 ab.1
    replace h5 := h5.wr hw7 ar5.2
    replace h4 := h7
    conv => cbv
    refine st_fld hE fK3 fun pf hpf => ?_
    conv => cbv
    refine st_put hr zSts h5 hpf (by simp) rfl fun w8 hw8 h52 => ?_
    simp only [List.set_cons_zero, List.set_cons_succ] at h52
    replace h4 := h4.wr hw8 h5 (Nat.le_refl _) ar5.1
    replace hb := hb.wr hw8 ab5.1
    replace o7 := o7.wr hw8 a57
    replace h5 := h52
    conv => cbv
    refine st_loadS hE tIAsk rfl h5.at ?_
    conv => cbv
    refine st_putS hr (by kernel_rfl) hb (add_zero _).symm (by simp) (by simp [Value.oneCell']) fun wf hwf hb2 => ?_
    simp only [List.take_zero, List.nil_append, List.length_cons, List.length_nil, List.drop_succ_cons, List.drop_nil, List.append_nil] at hb2
    have hof := o7.wr hwf ab7
    have hxf := h4.ext.then (hwf.bel hb h4.ext.size)
    conv => cbv
    refine st_cell hr tIAsk rfl hb2.at ?_
    rw [hR]; exact ⟨hxf, cl, us, lv, A7, n7, c7, ys, rfl, ⟨cl, us, lv, xs, q4, har, .inr (.inr (.inr (.inr (.inl ⟨by omega, rfl, rfl, rfl, q7, hsp⟩))))⟩, z1, by omega, by unfold fits; omega, l7, z7, hof⟩
  have g4 := N _ _ g
  clear g
  conv => cbv
  refine st_loadS hE tIAsk rfl h5.at ?_
  conv => cbv
  refine st_putS hr (by kernel_rfl) hb (add_zero _).symm (by simp) (by simp [Value.oneCell']) fun wf hwf hb2 => ?_
  simp only [List.take_zero, List.nil_append, List.length_cons, List.length_nil, List.drop_succ_cons, List.drop_nil, List.append_nil] at hb2
  have hof := o4.wr hwf ab4
  have hxf := h4.ext.then (hwf.bel hb h4.ext.size)
  conv => cbv
  refine st_cell hr tIAsk rfl hb2.at ?_
  rw [hR]; exact ⟨hxf, cl, us, lv, A4, n4, c4, xs, rfl, ⟨cl, us, lv, xs, q4, har, .inr (.inr (.inr (.inr (.inr ⟨⟨by omega, by omega, by omega, by omega, by omega⟩, rfl, rfl, rfl, rfl⟩))))⟩, z1, by omega, by unfold fits; omega, by omega, z4, hof⟩
end Go.Proofs.YtjaejonnbhdddaaGreatDoor
