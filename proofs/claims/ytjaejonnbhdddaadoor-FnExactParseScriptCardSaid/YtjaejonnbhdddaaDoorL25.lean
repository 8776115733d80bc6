/- The reference's reading of an ask, whole (printed by gen25.py). -/
import Derived.Test.YtjaejonnbhdddaaDoorL24
namespace Go.Proofs.YtjaejonnbhdddaaDoor
open Go.Eng
set_option linter.unusedVariables false
theorem run_ask0 (w : World) : (Instr.build 39 #[]).run Tryd.prog w = .ok (.agg #[.string ⟨#[]⟩, .string ⟨#[]⟩, .int .i64 0, .slice none 0 0]) w := by kernel_rfl
theorem run_ask2 (a b : ByteArray) (w : World) : (Instr.build 39 #[(0, .string a), (1, .string b)]).run Tryd.prog w = .ok (.agg #[.string a, .string b, .int .i64 0, .slice none 0 0]) w := by kernel_rfl
theorem run_ask4 (a b : ByteArray) (z : Int) (A : Option Addr) (n c : Nat) (w : World) : (Instr.build 39 #[(0, .string a), (1, .string b), (2, .int .i64 z), (3, .slice A n c)]).run Tryd.prog w = .ok (.agg #[.string a, .string b, .int .i64 z, .slice A n c]) w := by kernel_rfl
section
variable {E : Sym} {w : World} {K : Value → World → Prop} {d : Option Tmp} {ty : TypeId} {pos : String} {aft : Array Edge} {g : Option (Nat × Bool)}
theorem st_ask0 {bq : Bool} (hE : EngB bq Tryd.prog E) (hk : K (.agg ⟨[.string ⟨#[]⟩, .string ⟨#[]⟩, .int .i64 0, .slice none 0 0]⟩) w) : E.stop ⟨d, .build 39 ⟨[]⟩, ty, pos, aft, g⟩ [] w K := by
  refine hE.det (v := .agg ⟨[.string ⟨#[]⟩, .string ⟨#[]⟩, .int .i64 0, .slice none 0 0]⟩) (fun w1 _ ρ hρ => ?_) hk
  have := run_ask0 w1
  simp [execOp, this]
theorem st_ask2 {bq : Bool} (hE : EngB bq Tryd.prog E) {a b : ByteArray} {x y : Operand} (hk : K (.agg ⟨[.string a, .string b, .int .i64 0, .slice none 0 0]⟩) w) : E.stop ⟨d, .build 39 ⟨[(0, x), (1, y)]⟩, ty, pos, aft, g⟩ [.string a, .string b] w K := by
  refine hE.det (v := .agg ⟨[.string a, .string b, .int .i64 0, .slice none 0 0]⟩) (fun w1 _ ρ hρ => ?_) hk
  simp only [opnds, List.map_cons, List.map_nil, List.cons.injEq, and_true] at hρ
  have := run_ask2 a b w1
  simp [execOp, hρ.1, hρ.2, this]
theorem st_ask4 {bq : Bool} (hE : EngB bq Tryd.prog E) {a b : ByteArray} {z : Int} {A : Option Addr} {n c : Nat} {x y u v : Operand} (hk : K (.agg ⟨[.string a, .string b, .int .i64 z, .slice A n c]⟩) w) : E.stop ⟨d, .build 39 ⟨[(0, x), (1, y), (2, u), (3, v)]⟩, ty, pos, aft, g⟩ [.string a, .string b, .int .i64 z, .slice A n c] w K := by
  refine hE.det (v := .agg ⟨[.string a, .string b, .int .i64 z, .slice A n c]⟩) (fun w1 _ ρ hρ => ?_) hk
  simp only [opnds, List.map_cons, List.map_nil, List.cons.injEq, and_true] at hρ
  have := run_ask4 a b z A n c w1
  simp [execOp, hρ.1, hρ.2.1, hρ.2.2.1, hρ.2.2.2, this]
end
theorem four_of {l p0 p1 p2 p3 : List UInt8} (h : spl 32 l = [p0, p1, p2, p3]) : l = p0 ++ 32 :: (p1 ++ 32 :: (p2 ++ 32 :: p3)) := by
  rcases spl_inv h with ⟨h1, _⟩ | ⟨l1, e1, h1⟩
  · cases h1
  rcases spl_inv h1 with ⟨h2, _⟩ | ⟨l2, e2, h2⟩
  · cases h2
  rcases spl_inv h2 with ⟨h3, _⟩ | ⟨l3, e3, h3⟩
  · cases h3
  rcases spl_inv h3 with ⟨_, h4⟩ | ⟨l4, e4, h4⟩
  · rw [e1, e2, e3, h4]
  · exact absurd h4 (spl_ne _ _)
theorem AskP.parts {t cl us : ByteArray} {lv : Int} {xs : List ByteArray} (h : AskP t cl us lv xs) {p0 p1 p2 p3 : List UInt8} (hs : spl 32 t.data.toList = [p0, p1, p2, p3]) :
    p0 = cliB ++ cl.data.toList ∧ p1 = usrB ++ us.data.toList ∧ p2 = levB ++ Lib.itoa lv ∧ ∃ L, p3 = askB ++ L ∧ ListOf L xs := by
  obtain ⟨L, h1, h2⟩ := h.four
  rw [hs] at h1
  simp only [List.cons.injEq, and_true] at h1
  exact ⟨h1.1, h1.2.1, h1.2.2.1, L, h1.2.2.2, h2⟩
theorem itoa_dig {n : Int} (h0 : 0 ≤ n) (h1 : n ≤ 9999999) : isDig (Lib.itoa n) ∧ Lib.itoa n ≠ [] ∧ (Lib.itoa n).length ≤ 7 ∧ ((Lib.itoa n).length = 1 ∨ (Lib.itoa n).head? ≠ some 48) := by
  rw [itoa_pos h0]
  refine ⟨dig_dec _ _ (Nat.le_refl _), dec_ne _, decD_len 6 n.toNat (by omega), ?_⟩
  rcases Nat.eq_zero_or_pos n.toNat with h | h
  · rw [h, dec_small (by omega)]; exact .inl rfl
  · exact .inr (head_dec _ _ (Nat.le_refl _) h)
theorem lists4 {α : Type} : ∀ {l : List α}, l.length = 4 → ∃ a b c d, l = [a, b, c, d]
  | [a, b, c, d], _ => ⟨a, b, c, d, rfl⟩
set_option maxHeartbeats 1000000 in
theorem sParseAsk_f {w : World} (t : ByteArray) (ht : t.size ≤ 1048576) :
    FC Tryd.prog 19 [.string t] w fun v w' => ∃ cl us lv A n c xs o, v = .tuple ⟨[askV cl us lv A n c, .bool o]⟩ ∧ ParseOf t o cl us lv xs ∧ Strs w' A n c xs ∧ Own w.heap.size 9 1 w' A n c (xs.map .string) := by
  refine FC.intro (cs := []) Tryd.func19 (by kernel_rfl) fun E R hE hr hR => ?_
  have lt := data_len t
  conv => cbv
  refine st_alloc hr tIAsk rfl fun a w1 hx hb0 => ?_
  have hb := hb0 _ (Nat.le_refl _)
  clear hb0
  conv => cbv
  refine st_slen hE uStr fun x hx0 => ?_
  conv => cbv
  refine br (fun g => ?_) (fun g => ?_)
  · have g : 4000 < x := by simpa [hE.cmp, cmpR] using g
    conv => cbv
    refine st_ask0 hE ?_
    conv => cbv
    refine st_putS hr (by kernel_rfl) hb (add_zero _).symm (by simp) (by simp [Value.oneCell']) fun wf hwf hb2 => ?_
    simp only [List.take_zero, List.nil_append, List.length_cons, List.length_nil, List.drop_succ_cons, List.drop_nil, List.append_nil] at hb2
    conv => cbv
    refine st_cell hr tIAsk rfl hb2.at ?_
    conv => cbv
    rw [hR]; exact ⟨hx.then (hwf.bel hb hx.size), ⟨#[]⟩, ⟨#[]⟩, 0, none, 0, 0, [], false, rfl, .inr ⟨rfl, rfl, rfl, rfl, rfl, fun a b c d k => by have := k.1; omega⟩, strs_nil _, Own.nil⟩
  have g : x ≤ 4000 := by simp [hE.cmp, cmpR] at g; omega
  conv => cbv
  refine st_f hr (l1split_f t 32 32 (by decide) (by omega)) fun v w2 hx2 ⟨A1, n1, c1, ev, h1, _⟩ => ?_
  subst ev
  have hl1 := h1.len
  simp only [List.length_map] at hl1
  replace hb := hb.bel hx2
  replace hx := hx.trans hx2
  conv => cbv
  refine st_len hE tStrs fun x2 hx3 => ?_
  conv => cbv
  refine br (fun g2 => ?_) (fun g2 => ?_)
  · have g2 : x2 ≠ 4 := by simpa [hE.cmp, cmpR] using g2
    conv => cbv
    refine st_ask0 hE ?_
    conv => cbv
    refine st_putS hr (by kernel_rfl) hb (add_zero _).symm (by simp) (by simp [Value.oneCell']) fun wf hwf hb2 => ?_
    simp only [List.take_zero, List.nil_append, List.length_cons, List.length_nil, List.drop_succ_cons, List.drop_nil, List.append_nil] at hb2
    conv => cbv
    refine st_cell hr tIAsk rfl hb2.at ?_
    conv => cbv
    rw [hR]; exact ⟨hx.then (hwf.bel hb hx.size), ⟨#[]⟩, ⟨#[]⟩, 0, none, 0, 0, [], false, rfl, .inr ⟨rfl, rfl, rfl, rfl, rfl, fun a b c d k => by obtain ⟨L, k1, _⟩ := k.four; rw [k1] at hl1; simp at hl1; omega⟩, strs_nil _, Own.nil⟩
  have g2 : x2 = 4 := by simpa [hE.cmp, cmpR] using g2
  obtain ⟨p0, p1, p2, p3, hsp⟩ := lists4 (l := spl 32 t.data.toList) (by omega)
  have hjoin := four_of hsp
  have hlen := congrArg List.length hjoin
  simp only [List.length_append, List.length_cons, lt] at hlen
  rw [hsp] at h1
  conv => cbv
  refine st_str hE tStrs h1 (k := 0) rfl (by omega) fun pa0 s0 hs0 hz0 hp0 => ?_
  obtain rfl : mkB p0 = s0 := by simpa using hs0
  conv => cbv
  refine st_load hE cStr hp0 ?_
  obtain ⟨u0, hu0⟩ : ∃ u, u = mkB p0 := ⟨_, rfl⟩
  have hd0 : u0.data.toList = p0 := by rw [hu0, data_mkB]
  have hm0 := congrArg List.length hd0
  rw [data_len] at hm0
  rw [← hu0]
  conv => cbv
  refine st_f hr (l1after_f u0 (mkB cliB) (by omega) (by decide)) fun v wa0 hxa0 ⟨r0, ok0, ev, hrs0, ha0⟩ => ?_
  subst ev
  rw [data_mkB, hd0] at ha0
  replace hb := hb.bel hxa0
  replace hx := hx.trans hxa0
  replace h1 := h1.ext hxa0
  conv => cbv
  refine st_str hE tStrs h1 (k := 1) rfl (by omega) fun pa1 s1 hs1 hz1 hp1 => ?_
  obtain rfl : mkB p1 = s1 := by simpa using hs1
  conv => cbv
  refine st_load hE cStr hp1 ?_
  obtain ⟨u1, hu1⟩ : ∃ u, u = mkB p1 := ⟨_, rfl⟩
  have hd1 : u1.data.toList = p1 := by rw [hu1, data_mkB]
  have hm1 := congrArg List.length hd1
  rw [data_len] at hm1
  rw [← hu1]
  conv => cbv
  refine st_f hr (l1after_f u1 (mkB usrB) (by omega) (by decide)) fun v wa1 hxa1 ⟨r1, ok1, ev, hrs1, ha1⟩ => ?_
  subst ev
  rw [data_mkB, hd1] at ha1
  replace hb := hb.bel hxa1
  replace hx := hx.trans hxa1
  replace h1 := h1.ext hxa1
  conv => cbv
  refine st_str hE tStrs h1 (k := 2) rfl (by omega) fun pa2 s2 hs2 hz2 hp2 => ?_
  obtain rfl : mkB p2 = s2 := by simpa using hs2
  conv => cbv
  refine st_load hE cStr hp2 ?_
  obtain ⟨u2, hu2⟩ : ∃ u, u = mkB p2 := ⟨_, rfl⟩
  have hd2 : u2.data.toList = p2 := by rw [hu2, data_mkB]
  have hm2 := congrArg List.length hd2
  rw [data_len] at hm2
  rw [← hu2]
  conv => cbv
  refine st_f hr (l1after_f u2 (mkB levB) (by omega) (by decide)) fun v wa2 hxa2 ⟨r2, ok2, ev, hrs2, ha2⟩ => ?_
  subst ev
  rw [data_mkB, hd2] at ha2
  replace hb := hb.bel hxa2
  replace hx := hx.trans hxa2
  replace h1 := h1.ext hxa2
  conv => cbv
  refine st_str hE tStrs h1 (k := 3) rfl (by omega) fun pa3 s3 hs3 hz3 hp3 => ?_
  obtain rfl : mkB p3 = s3 := by simpa using hs3
  conv => cbv
  refine st_load hE cStr hp3 ?_
  obtain ⟨u3, hu3⟩ : ∃ u, u = mkB p3 := ⟨_, rfl⟩
  have hd3 : u3.data.toList = p3 := by rw [hu3, data_mkB]
  have hm3 := congrArg List.length hd3
  rw [data_len] at hm3
  rw [← hu3]
  conv => cbv
  refine st_f hr (l1after_f u3 (mkB askB) (by omega) (by decide)) fun v wa3 hxa3 ⟨r3, ok3, ev, hrs3, ha3⟩ => ?_
  subst ev
  rw [data_mkB, hd3] at ha3
  replace hb := hb.bel hxa3
  replace hx := hx.trans hxa3
  replace h1 := h1.ext hxa3
  rcases ha0 with ⟨rfl, ha0⟩ | ⟨rfl, ha0⟩
  rotate_left
  · skip
    conv => cbv
    refine st_ask0 hE ?_
    conv => cbv
    refine st_putS hr (by kernel_rfl) hb (add_zero _).symm (by simp) (by simp [Value.oneCell']) fun wf hwf hb2 => ?_
    simp only [List.take_zero, List.nil_append, List.length_cons, List.length_nil, List.drop_succ_cons, List.drop_nil, List.append_nil] at hb2
    conv => cbv
    refine st_cell hr tIAsk rfl hb2.at ?_
    conv => cbv
    rw [hR]; exact ⟨hx.then (hwf.bel hb hx.size), ⟨#[]⟩, ⟨#[]⟩, 0, none, 0, 0, [], false, rfl, .inr ⟨rfl, rfl, rfl, rfl, rfl, fun a b c d k => by obtain ⟨k1, _⟩ := k.parts hsp; exact ha0 _ k1⟩, strs_nil _, Own.nil⟩
  rcases ha1 with ⟨rfl, ha1⟩ | ⟨rfl, ha1⟩
  rotate_left
  · skip
    conv => cbv
    refine st_ask0 hE ?_
    conv => cbv
    refine st_putS hr (by kernel_rfl) hb (add_zero _).symm (by simp) (by simp [Value.oneCell']) fun wf hwf hb2 => ?_
    simp only [List.take_zero, List.nil_append, List.length_cons, List.length_nil, List.drop_succ_cons, List.drop_nil, List.append_nil] at hb2
    conv => cbv
    refine st_cell hr tIAsk rfl hb2.at ?_
    conv => cbv
    rw [hR]; exact ⟨hx.then (hwf.bel hb hx.size), ⟨#[]⟩, ⟨#[]⟩, 0, none, 0, 0, [], false, rfl, .inr ⟨rfl, rfl, rfl, rfl, rfl, fun a b c d k => by obtain ⟨_, k2, _⟩ := k.parts hsp; exact ha1 _ k2⟩, strs_nil _, Own.nil⟩
  rcases ha2 with ⟨rfl, ha2⟩ | ⟨rfl, ha2⟩
  rotate_left
  · skip
    conv => cbv
    refine st_ask0 hE ?_
    conv => cbv
    refine st_putS hr (by kernel_rfl) hb (add_zero _).symm (by simp) (by simp [Value.oneCell']) fun wf hwf hb2 => ?_
    simp only [List.take_zero, List.nil_append, List.length_cons, List.length_nil, List.drop_succ_cons, List.drop_nil, List.append_nil] at hb2
    conv => cbv
    refine st_cell hr tIAsk rfl hb2.at ?_
    conv => cbv
    rw [hR]; exact ⟨hx.then (hwf.bel hb hx.size), ⟨#[]⟩, ⟨#[]⟩, 0, none, 0, 0, [], false, rfl, .inr ⟨rfl, rfl, rfl, rfl, rfl, fun a b c d k => by obtain ⟨_, _, k3, _⟩ := k.parts hsp; exact ha2 _ k3⟩, strs_nil _, Own.nil⟩
  rcases ha3 with ⟨rfl, ha3⟩ | ⟨rfl, ha3⟩
  rotate_left
  · skip
    conv => cbv
    refine st_ask0 hE ?_
    conv => cbv
    refine st_putS hr (by kernel_rfl) hb (add_zero _).symm (by simp) (by simp [Value.oneCell']) fun wf hwf hb2 => ?_
    simp only [List.take_zero, List.nil_append, List.length_cons, List.length_nil, List.drop_succ_cons, List.drop_nil, List.append_nil] at hb2
    conv => cbv
    refine st_cell hr tIAsk rfl hb2.at ?_
    conv => cbv
    rw [hR]; exact ⟨hx.then (hwf.bel hb hx.size), ⟨#[]⟩, ⟨#[]⟩, 0, none, 0, 0, [], false, rfl, .inr ⟨rfl, rfl, rfl, rfl, rfl, fun a b c d k => by obtain ⟨_, _, _, L, k4, _⟩ := k.parts hsp; exact ha3 _ k4⟩, strs_nil _, Own.nil⟩
  conv => cbv
  refine st_qb hE (sValidName_q r0 _ (by omega)) fun b0 hbv0 wv0 hsv0 => ?_
  replace hb := hb.bel hsv0.ext
  replace hx := hx.trans hsv0.ext
  replace h1 := h1.ext hsv0.ext
  cases b0
  · skip
    conv => cbv
    refine st_ask0 hE ?_
    conv => cbv
    refine st_putS hr (by kernel_rfl) hb (add_zero _).symm (by simp) (by simp [Value.oneCell']) fun wf hwf hb2 => ?_
    simp only [List.take_zero, List.nil_append, List.length_cons, List.length_nil, List.drop_succ_cons, List.drop_nil, List.append_nil] at hb2
    conv => cbv
    refine st_cell hr tIAsk rfl hb2.at ?_
    conv => cbv
    rw [hR]; exact ⟨hx.then (hwf.bel hb hx.size), ⟨#[]⟩, ⟨#[]⟩, 0, none, 0, 0, [], false, rfl, .inr ⟨rfl, rfl, rfl, rfl, rfl, fun a b c d k => by obtain ⟨k1, _⟩ := k.parts hsp; rw [ha0] at k1; have e := toList_inj (List.append_cancel_left k1); have := hbv0.2 (by rw [e]; exact k.2.1); simp at this⟩, strs_nil _, Own.nil⟩
  have hv0 := hbv0.1 rfl
  conv => cbv
  refine st_qb hE (sValidName_q r1 _ (by omega)) fun b1 hbv1 wv1 hsv1 => ?_
  replace hb := hb.bel hsv1.ext
  replace hx := hx.trans hsv1.ext
  replace h1 := h1.ext hsv1.ext
  cases b1
  · skip
    conv => cbv
    refine st_ask0 hE ?_
    conv => cbv
    refine st_putS hr (by kernel_rfl) hb (add_zero _).symm (by simp) (by simp [Value.oneCell']) fun wf hwf hb2 => ?_
    simp only [List.take_zero, List.nil_append, List.length_cons, List.length_nil, List.drop_succ_cons, List.drop_nil, List.append_nil] at hb2
    conv => cbv
    refine st_cell hr tIAsk rfl hb2.at ?_
    conv => cbv
    rw [hR]; exact ⟨hx.then (hwf.bel hb hx.size), ⟨#[]⟩, ⟨#[]⟩, 0, none, 0, 0, [], false, rfl, .inr ⟨rfl, rfl, rfl, rfl, rfl, fun a b c d k => by obtain ⟨_, k2, _⟩ := k.parts hsp; rw [ha1] at k2; have e := toList_inj (List.append_cancel_left k2); have := hbv1.2 (by rw [e]; exact k.2.2.1); simp at this⟩, strs_nil _, Own.nil⟩
  have hv1 := hbv1.1 rfl
  conv => cbv
  refine st_f hr (l1digits_f r2 (by omega)) fun v wd hxd ⟨n, okd, ev, hdg⟩ => ?_
  subst ev
  replace hb := hb.bel hxd
  replace hx := hx.trans hxd
  replace h1 := h1.ext hxd
  have lev : ∀ {a b : ByteArray} {c : Int} {d : List ByteArray}, AskP t a b c d → r2.data.toList = Lib.itoa c ∧ isDig (Lib.itoa c) ∧ Lib.itoa c ≠ [] ∧ (Lib.itoa c).length ≤ 7 ∧ ((Lib.itoa c).length = 1 ∨ (Lib.itoa c).head? ≠ some 48) := fun k => by
    obtain ⟨_, _, k3, _⟩ := k.parts hsp
    rw [ha2] at k3
    exact ⟨List.append_cancel_left k3, itoa_dig k.2.2.2.1 k.2.2.2.2.1⟩
  have lr2 := data_len r2
  rcases hdg with ⟨rfl, d1, d2, d3, d4⟩ | ⟨rfl, hdg⟩
  rotate_left
  · skip
    conv => cbv
    refine st_ask0 hE ?_
    conv => cbv
    refine st_putS hr (by kernel_rfl) hb (add_zero _).symm (by simp) (by simp [Value.oneCell']) fun wf hwf hb2 => ?_
    simp only [List.take_zero, List.nil_append, List.length_cons, List.length_nil, List.drop_succ_cons, List.drop_nil, List.append_nil] at hb2
    conv => cbv
    refine st_cell hr tIAsk rfl hb2.at ?_
    conv => cbv
    rw [hR]; exact ⟨hx.then (hwf.bel hb hx.size), ⟨#[]⟩, ⟨#[]⟩, 0, none, 0, 0, [], false, rfl, .inr ⟨rfl, rfl, rfl, rfl, rfl, fun a b c d k => by obtain ⟨j1, j2, j3, j4, _⟩ := lev k; exact hdg (by rw [j1]; exact ⟨j2, j3, by omega⟩)⟩, strs_nil _, Own.nil⟩
  conv => cbv
  refine st_slen hE uStr fun y1 hy1 => ?_
  conv => cbv
  refine br (fun g3 => ?_) (fun g3 => ?_)
  · have g3 : 7 < y1 := by simpa [hE.cmp, cmpR] using g3
    conv => cbv
    refine st_ask0 hE ?_
    conv => cbv
    refine st_putS hr (by kernel_rfl) hb (add_zero _).symm (by simp) (by simp [Value.oneCell']) fun wf hwf hb2 => ?_
    simp only [List.take_zero, List.nil_append, List.length_cons, List.length_nil, List.drop_succ_cons, List.drop_nil, List.append_nil] at hb2
    conv => cbv
    refine st_cell hr tIAsk rfl hb2.at ?_
    conv => cbv
    rw [hR]; exact ⟨hx.then (hwf.bel hb hx.size), ⟨#[]⟩, ⟨#[]⟩, 0, none, 0, 0, [], false, rfl, .inr ⟨rfl, rfl, rfl, rfl, rfl, fun a b c d k => by obtain ⟨j1, j2, j3, j4, _⟩ := lev k; rw [← j1] at j4; omega⟩, strs_nil _, Own.nil⟩
  have g3 : y1 ≤ 7 := by simp [hE.cmp, cmpR] at g3; omega
  conv => cbv
  refine st_slen hE uStr fun y2 hy2 => ?_
  conv => cbv
  refine br (fun g4 => ?_) (fun g4 => ?_)
  · have g4 : 1 < y2 := by simpa [hE.cmp, cmpR] using g4
    conv => cbv
    refine st_byte hE uStr (by omega) (by omega) fun b hbb b0 b1 => ?_
    have hget : r2.data.toList[0]? = some (r2[0]'(by omega)) := get_byte (by omega)
    conv => cbv
    refine br (fun g5 => ?_) (fun g5 => ?_)
    · have g5 : b = 48 := by simpa [hE.cmp, cmpR] using g5
      have e48 : r2[0]'(by omega) = 48 := UInt8.toNat_inj.1 (by rw [hbb] at g5; exact_mod_cast g5)
      conv => cbv
      refine st_ask0 hE ?_
      conv => cbv
      refine st_putS hr (by kernel_rfl) hb (add_zero _).symm (by simp) (by simp [Value.oneCell']) fun wf hwf hb2 => ?_
      simp only [List.take_zero, List.nil_append, List.length_cons, List.length_nil, List.drop_succ_cons, List.drop_nil, List.append_nil] at hb2
      conv => cbv
      refine st_cell hr tIAsk rfl hb2.at ?_
      conv => cbv
      rw [hR]; exact ⟨hx.then (hwf.bel hb hx.size), ⟨#[]⟩, ⟨#[]⟩, 0, none, 0, 0, [], false, rfl, .inr ⟨rfl, rfl, rfl, rfl, rfl, fun a b c d k => by obtain ⟨j1, j2, j3, j4, j5⟩ := lev k; rw [← j1] at j5; exact j5.elim (fun j => by omega) (fun j => j (by rw [List.head?_eq_getElem?, hget, e48]))⟩, strs_nil _, Own.nil⟩
    · have g5 : b ≠ 48 := by simpa [hE.cmp, cmpR] using g5
      have hlz : r2.data.toList.length = 1 ∨ r2.data.toList.head? ≠ some 48 := .inr (by
        rw [List.head?_eq_getElem?, hget]; intro e
        apply g5; rw [hbb]
        have e2 : r2[0]'(by omega) = 48 := Option.some.inj e
        show ((r2[0]'(by omega)).toNat : Int) = 48
        rw [e2]; rfl)
      have hn7 := dv_lt r2.data.toList 0 d1
      have hp7 : 10 ^ r2.data.toList.length ≤ 10 ^ 7 := Nat.pow_le_pow_right (by omega) (by omega)
      have hit : r2.data.toList = Lib.itoa n := by rw [itoa_pos (by omega), d4, Int.toNat_natCast]; exact (dec_dv _ _ (Nat.le_refl _) d1 d2 hlz).symm
      conv => cbv
      refine st_f hr (l1list_f r3 (by omega)) fun v wl hxl ⟨A4, n4, c4, xs, okl, ev, hls, h4, o4⟩ => ?_
      subst ev
      have apl := (hb.apart o4 (Nat.le_refl _)).2
      have hxp := hx.size
      replace hb := hb.bel hxl
      replace hx := hx.trans hxl
      rcases hls with ⟨rfl, hls⟩ | ⟨rfl, hls⟩
      rotate_left
      · skip
        conv => cbv
        refine st_ask0 hE ?_
        conv => cbv
        refine st_putS hr (by kernel_rfl) hb (add_zero _).symm (by simp) (by simp [Value.oneCell']) fun wf hwf hb2 => ?_
        simp only [List.take_zero, List.nil_append, List.length_cons, List.length_nil, List.drop_succ_cons, List.drop_nil, List.append_nil] at hb2
        conv => cbv
        refine st_cell hr tIAsk rfl hb2.at ?_
        conv => cbv
        rw [hR]; exact ⟨hx.then (hwf.bel hb hx.size), ⟨#[]⟩, ⟨#[]⟩, 0, none, 0, 0, [], false, rfl, .inr ⟨rfl, rfl, rfl, rfl, rfl, fun a b c d k => by obtain ⟨_, _, _, L, k4, k5⟩ := k.parts hsp; rw [ha3] at k4; rw [← List.append_cancel_left k4] at k5; exact hls _ k5⟩, strs_nil _, Own.nil⟩
      conv => cbv
      refine st_ask4 hE ?_
      conv => cbv
      refine st_putS hr (by kernel_rfl) hb (add_zero _).symm (by simp) (by simp [Value.oneCell']) fun wf hwf hb2 => ?_
      simp only [List.take_zero, List.nil_append, List.length_cons, List.length_nil, List.drop_succ_cons, List.drop_nil, List.append_nil] at hb2
      conv => cbv
      refine st_cell hr tIAsk rfl hb2.at ?_
      conv => cbv
      have o5 := (o4.mono hxp).wr hwf apl
      rw [hR]; exact ⟨hx.then (hwf.bel hb hx.size), r0, r1, n, A4, n4, c4, xs, true, rfl, .inl ⟨rfl, by omega, hv0, hv1, by omega, by omega, r3.data.toList, by rw [hjoin, ha0, ha1, ha2, ha3, hit], hls⟩, o5.strs h4.small, o5⟩
  · have g4 : y2 ≤ 1 := by simp [hE.cmp, cmpR] at g4; omega
    have hlz : r2.data.toList.length = 1 ∨ r2.data.toList.head? ≠ some 48 := .inl (by have := List.length_pos_iff.2 d2; omega)
    have hn7 := dv_lt r2.data.toList 0 d1
    have hp7 : 10 ^ r2.data.toList.length ≤ 10 ^ 7 := Nat.pow_le_pow_right (by omega) (by omega)
    have hit : r2.data.toList = Lib.itoa n := by rw [itoa_pos (by omega), d4, Int.toNat_natCast]; exact (dec_dv _ _ (Nat.le_refl _) d1 d2 hlz).symm
    conv => cbv
    refine st_f hr (l1list_f r3 (by omega)) fun v wl hxl ⟨A4, n4, c4, xs, okl, ev, hls, h4, o4⟩ => ?_
    subst ev
    have apl := (hb.apart o4 (Nat.le_refl _)).2
    have hxp := hx.size
    replace hb := hb.bel hxl
    replace hx := hx.trans hxl
    rcases hls with ⟨rfl, hls⟩ | ⟨rfl, hls⟩
    rotate_left
    · skip
      conv => cbv
      refine st_ask0 hE ?_
      conv => cbv
      refine st_putS hr (by kernel_rfl) hb (add_zero _).symm (by simp) (by simp [Value.oneCell']) fun wf hwf hb2 => ?_
      simp only [List.take_zero, List.nil_append, List.length_cons, List.length_nil, List.drop_succ_cons, List.drop_nil, List.append_nil] at hb2
      conv => cbv
      refine st_cell hr tIAsk rfl hb2.at ?_
      conv => cbv
      rw [hR]; exact ⟨hx.then (hwf.bel hb hx.size), ⟨#[]⟩, ⟨#[]⟩, 0, none, 0, 0, [], false, rfl, .inr ⟨rfl, rfl, rfl, rfl, rfl, fun a b c d k => by obtain ⟨_, _, _, L, k4, k5⟩ := k.parts hsp; rw [ha3] at k4; rw [← List.append_cancel_left k4] at k5; exact hls _ k5⟩, strs_nil _, Own.nil⟩
    conv => cbv
    refine st_ask4 hE ?_
    conv => cbv
    refine st_putS hr (by kernel_rfl) hb (add_zero _).symm (by simp) (by simp [Value.oneCell']) fun wf hwf hb2 => ?_
    simp only [List.take_zero, List.nil_append, List.length_cons, List.length_nil, List.drop_succ_cons, List.drop_nil, List.append_nil] at hb2
    conv => cbv
    refine st_cell hr tIAsk rfl hb2.at ?_
    conv => cbv
    have o5 := (o4.mono hxp).wr hwf apl
    rw [hR]; exact ⟨hx.then (hwf.bel hb hx.size), r0, r1, n, A4, n4, c4, xs, true, rfl, .inl ⟨rfl, by omega, hv0, hv1, by omega, by omega, r3.data.toList, by rw [hjoin, ha0, ha1, ha2, ha3, hit], hls⟩, o5.strs h4.small, o5⟩
end Go.Proofs.YtjaejonnbhdddaaDoor
