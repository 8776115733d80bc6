/- MakeSet: the program sorts by the library and drops what comes twice; the reference takes the next name again and again. -/
import Derived.Test.YtjaejonnbhdddaaDoorSh192
import Derived.Sort.OwnSorted
import Derived.Test.YtjaejonnbhdddaaDoorEng4
import Derived.Test.YtjaejonnbhdddaaDoorL9
namespace Go.Proofs.YtjaejonnbhdddaaDoor
open Go.Eng
def bl (s : ByteArray) : List UInt8 := s.data.toList
theorem enc_bl (s : ByteArray) : encStr (bl s) = .string s := by simp [encStr, bl]
theorem map_enc (xs : List ByteArray) : (xs.map bl).map encStr = xs.map .string := by simp [List.map_map, Function.comp_def, enc_bl]
def unbl (l : List UInt8) : ByteArray := ⟨l.toArray⟩
theorem unbl_bl (s : ByteArray) : unbl (bl s) = s := by simp [unbl, bl]
theorem bl_unbl (l : List UInt8) : bl (unbl l) = l := by simp [unbl, bl]
/-- In order, what is alike allowed. -/
def Srt (ts : List ByteArray) : Prop := ts.Pairwise fun a b => ¬ blt b a
theorem sorted_of (xs : List ByteArray) : ∃ ts : List ByteArray, (xs.map bl).mergeSort (fun x y => decide (x ≤ y)) = ts.map bl ∧ ts.length = xs.length ∧ (∀ s, s ∈ ts ↔ s ∈ xs) ∧ Srt ts := by
  let l := (xs.map bl).mergeSort (fun x y => decide (x ≤ y))
  have hp : l.Perm (xs.map bl) := List.mergeSort_perm _ _
  have e : (l.map unbl).map bl = l := by simp [List.map_map, Function.comp_def, bl_unbl]
  refine ⟨l.map unbl, e.symm, by rw [List.length_map, hp.length_eq, List.length_map], fun s => ?_, ?_⟩
  · rw [List.mem_map]
    constructor
    · rintro ⟨y, hy, rfl⟩
      obtain ⟨x, hx, rfl⟩ := List.mem_map.1 (hp.mem_iff.1 hy)
      rw [unbl_bl]; exact hx
    · intro hs
      exact ⟨bl s, hp.mem_iff.2 (List.mem_map.2 ⟨s, hs, rfl⟩), unbl_bl s⟩
  · have hs : l.Pairwise fun a b => decide (a ≤ b) = true := List.pairwise_mergeSort (le := fun x y : List UInt8 => decide (x ≤ y)) (fun a b c h1 h2 => by simp only [decide_eq_true_eq] at *; exact List.le_trans h1 h2) (fun a b => by simp only [Bool.or_eq_true, decide_eq_true_eq]; exact List.le_total a b) _
    unfold Srt
    rw [List.pairwise_map]
    refine hs.imp fun {a b} h => ?_
    simp only [decide_eq_true_eq] at h
    unfold blt
    show ¬ bl (unbl b) < bl (unbl a)
    rw [bl_unbl, bl_unbl]
    exact List.not_lt.2 h
theorem sortStrings_g {w : World} {B : Nat} {A : Option Addr} {n c : Nat} {xs : List ByteArray} (h : Own B 9 1 w A n c (xs.map .string)) (hn : n ≤ 1048576) :
    GC Tryd.prog 64 [.slice A n c] w fun v w' => ∃ ts, ts.length = n ∧ (∀ s, s ∈ ts ↔ s ∈ xs) ∧ Srt ts ∧ Own B 9 1 w' A n c (ts.map .string) ∧ Wr A w w' := by
  refine ⟨⟨_, Tryd.func64, by kernel_rfl⟩, ?_⟩
  have hl := h.len
  rw [List.length_map, Nat.mul_one] at hl
  obtain ⟨ts, e, h1, h2, h3⟩ := sorted_of xs
  rcases h.2 with ⟨hv, h0⟩ | ⟨g, cap, cur, hv, hb, hg, hc, hm, hs, ht⟩
  · cases hv
    refine (Any.sort_Strings_none Tryd.lays192 none 0 w).mono fun e w' he => ?_
    obtain ⟨rfl, rfl⟩ := he
    have : xs = [] := List.length_eq_zero_iff.1 hl
    subst this
    exact ⟨_, rfl, [], rfl, by simp, List.Pairwise.nil, h, Wr.refl _ _⟩
  · cases hv
    have hlen : (xs.map bl).length = n := by simp [hl]
    have key := Any.sort_Strings Tryd.lays192 g 0 c (xs.map bl) w (holds_of_block hg (by rw [hlen, map_enc]; simpa using ht)) (Array.getElem?_eq_some_iff.1 hg).1 (by rw [hlen]; omega)
    rw [hlen] at key
    refine key.mono fun ex w' he => ?_
    obtain ⟨rfl, k, os, rfl⟩ := he
    rw [e]
    have hts : (ts.map bl).length = (xs.map bl).length := by simp [h1]
    have ho := ownsRow_sorted (n := k) (os := os) (ss := xs.map bl) (ts := ts.map bl) hts hb hg (by rw [hlen]; exact hc) hm (by simpa using hs)
    rw [hlen, map_enc] at ho
    exact ⟨_, rfl, ts, by rw [h1, hl], h2, h3, ho, grownBy_sorted _⟩
theorem dec {P : Program} {E : Sym} {bq : Bool} (hE : EngB bq P E) {k : Nat} (h0 : 0 < k) (h : k ≤ 9223372036854775807) : E.ar .sub .i64 (E.nat k) 1 = E.nat (k - 1) := by
  rw [hE.ar, nk hE, nk hE]
  show IntKind.i64.wrap ((k : Int) - 1) = _
  rw [wrap_in (by omega) (by omega)]
  omega
/-- What the program has done when it stands at place i, k names kept. -/
def Ded (xs ts : List ByteArray) (i k : Nat) (row : List ByteArray) : Prop :=
  row.length = ts.length ∧ (∀ s ∈ row, s ∈ xs) ∧ row.drop i = ts.drop i ∧ (row.take k).Pairwise blt ∧ (∀ s, s ∈ row.take k ↔ s ∈ ts.take i) ∧ (0 < i → 0 < k ∧ row[k - 1]? = ts[i - 1]?)
theorem ded_at {xs ts row : List ByteArray} {i k : Nat} (h : Ded xs ts i k row) : row[i]? = ts[i]? := by
  have := congrArg (fun l : List ByteArray => l[0]?) h.2.2.1
  simpa using this
theorem ded_keep {xs ts row : List ByteArray} {i k : Nat} {s : ByteArray} (hs : Srt ts) (h : Ded xs ts i k row) (hk : k ≤ i) (hi : i < ts.length) (hg : row[i]? = some s) (hne : 0 < i → row[k - 1]? ≠ some s) : Ded xs ts (i + 1) (k + 1) (row.set k s) := by
  have hti : ts[i]? = some s := by rw [← ded_at h]; exact hg
  obtain ⟨h1, h2, h3, h4, h5, h6⟩ := h
  have et : (row.set k s).take (k + 1) = row.take k ++ [s] := by
    rw [take_succ_get (s := s) (by rw [List.getElem?_set_self (by omega)]), List.take_set_of_le (Nat.le_refl _)]
  have e2 : ts.take (i + 1) = ts.take i ++ [s] := take_succ_get hti
  refine ⟨by rw [List.length_set, h1], fun t ht => ?_, ?_, ?_, fun t => ?_, fun _ => ⟨by omega, ?_⟩⟩
  · rcases List.mem_or_eq_of_mem_set ht with ht | rfl
    · exact h2 t ht
    · exact h2 _ (List.mem_of_getElem? hg)
  · rw [List.drop_set_of_lt (by omega)]
    have := congrArg (List.drop 1) h3
    simpa [List.drop_drop, Nat.add_comm] using this
  · rw [et]
    refine List.pairwise_append.2 ⟨h4, by simp, fun t ht u hu => ?_⟩
    rw [List.mem_singleton.1 hu]
    rcases Nat.eq_zero_or_pos i with h0 | h0
    · have : k = 0 := by omega
      subst this; simp at ht
    · obtain ⟨k0, kl⟩ := h6 h0
      obtain ⟨m, hm⟩ : ∃ m, row[k - 1]? = some m := ⟨row[k - 1]'(by omega), List.getElem?_eq_getElem _⟩
      have hms : m ≠ s := fun e => hne h0 (by rw [hm, e])
      have hmt : ts[i - 1]? = some m := by rw [← kl]; exact hm
      have hle : ¬ blt s m := by
        obtain ⟨ha, ha'⟩ := List.getElem?_eq_some_iff.1 hmt
        obtain ⟨hb, hb'⟩ := List.getElem?_eq_some_iff.1 hti
        rw [← ha', ← hb']
        exact List.pairwise_iff_getElem.1 hs (i - 1) i ha hb (by omega)
      have hmlt : blt m s := blt_tri hle hms.symm
      have ek : row.take k = row.take (k - 1) ++ [m] := by
        have := take_succ_get hm
        rwa [Nat.sub_add_cancel k0] at this
      rw [ek] at ht h4
      rcases List.mem_append.1 ht with ht | ht
      · exact blt_trans ((List.pairwise_append.1 h4).2.2 t ht m (by simp)) hmlt
      · rw [List.mem_singleton.1 ht]; exact hmlt
  · rw [et, e2, List.mem_append, List.mem_append, h5]
  · simp only [Nat.add_sub_cancel]; rw [List.getElem?_set_self (by omega), hti]
theorem ded_skip {xs ts row : List ByteArray} {i k : Nat} {s : ByteArray} (h : Ded xs ts i k row) (h0 : 0 < i) (hk : k ≤ i) (hi : i < ts.length) (hg : row[i]? = some s) (he : row[k - 1]? = some s) : Ded xs ts (i + 1) k row := by
  have hti : ts[i]? = some s := by rw [← ded_at h]; exact hg
  obtain ⟨h1, h2, h3, h4, h5, h6⟩ := h
  obtain ⟨k0, kl⟩ := h6 h0
  have e2 : ts.take (i + 1) = ts.take i ++ [s] := take_succ_get hti
  have hmem : s ∈ row.take k := List.mem_of_getElem? (i := k - 1) (by rw [List.getElem?_take_of_lt (by omega)]; exact he)
  refine ⟨h1, h2, ?_, h4, fun t => ?_, fun _ => ⟨k0, by simp only [Nat.add_sub_cancel]; rw [he, hti]⟩⟩
  · have := congrArg (List.drop 1) h3
    simpa [List.drop_drop, Nat.add_comm] using this
  · rw [e2, List.mem_append, ← h5]
    constructor
    · exact .inl
    · rintro (h | h)
      · exact h
      · rw [List.mem_singleton.1 h]; exact hmem
theorem sortedNames_f {w : World} {A : Option Addr} {n c : Nat} {xs : List ByteArray} (h : Strs w A n c xs) (hn : n ≤ 1048576) :
    FC Tryd.prog 34 [.slice A n c] w fun v w' => ∃ r, SortOf xs r ∧ Copied w r v w' := by
  refine FC.intro (cs := []) Tryd.func34 (by kernel_rfl) fun E R hE hr hR => ?_
  have hl := h.len
  conv => cbv
  refine st_none hr tStrs fun A0 w1 hx h0 => ?_
  have ho := h0 _ (Nat.le_refl _)
  clear h0
  conv => cbv
  refine st_apps hr tStrs rfl ho (h.ext hx).cells (by simp [hl]) (by simp [Value.oneCell']) hx.size (by omega) (by omega) fun A2 c2 m2 w2 em hw ho2 => ?_
  obtain rfl : m2 = n := by omega
  rw [List.nil_append] at ho2
  replace hx := hx.then (hw.bel ho hx.size)
  clear ho hw
  conv => cbv
  refine st_g hr (sortStrings_g ho2 hn) fun v w3 ⟨ts, t1, t2, t3, ho3, hw⟩ => ?_
  replace hx := hx.then (hw.bel ho2 hx.size)
  clear ho2 hw
  conv => cbv
  refine st_len hE tStrs fun x hxl => ?_
  conv => cbv
  refine loop_rule hr (fun (s : Nat × Nat × List ByteArray) w' => s.1 ≤ m2 ∧ s.2.1 ≤ s.1 ∧ Ded xs ts s.1 s.2.1 s.2.2 ∧ Ext w w' ∧ Own w.heap.size 9 1 w' A2 m2 c2 (s.2.2.map .string)) (fun s => [(3, .slice A2 m2 c2), (4, .int .i64 (E.nat s.2.1)), (12, .slice A2 m2 c2), (13, .int .i64 x), (14, .int .i64 (E.nat s.1))]) (fun s => m2 - s.1) (0, 0, ts)
    (by simp [Fits, lk, hE.nat]) ⟨by simp, by simp, ⟨rfl, fun s hs => (t2 s).1 hs, rfl, by simp, by simp, by simp⟩, hx, ho3⟩ ?_
  clear hx ho3
  rintro I hI ⟨i, k, row⟩ w' ⟨hi, hk, hd, hx, ho⟩
  simp only at hi hk hd ho
  have hsm : ∀ s ∈ row, s.size ≤ 9223372036854775807 := fun s hs => h.small s (hd.2.1 s hs)
  conv => cbv
  refine br (fun h1 => ?_) (fun h1 => ?_)
  · have h1 : i < m2 := by simpa [hE.cmp, cmpR, hE.nat, hxl] using h1
    conv => cbv
    refine st_str hE tStrs (ho.strs hsm) (nk hE i) h1 fun p s gk _ hp => ?_
    conv => cbv
    refine st_load hE cStr hp ?_
    have keep : (0 < i → row[k - 1]? ≠ some s) → ∀ w'', Wr A2 w' w'' → Own w.heap.size 9 1 w'' A2 m2 c2 ((row.map Value.string).set k (.string s)) → I (i + 1, k + 1, row.set k s) w'' := fun hne w'' hw' ho' =>
      hI _ _ ⟨by simp only; omega, by simp only; omega, ded_keep t3 hd hk (by omega) gk hne, hx.then (hw'.bel ho hx.size), by simp only [List.map_set]; exact ho'⟩
    have skip : 0 < i → row[k - 1]? = some s → I (i + 1, k, row) w' := fun h0 he => hI _ _ ⟨by simp only; omega, by simp only; omega, ded_skip hd h0 hk (by omega) gk he, hx, ho⟩
    have ei : E.ar .add .i64 (E.nat i) 1 = E.nat (i + 1) := inc hE (by omega)
    have ek : E.ar .add .i64 (E.nat k) 1 = E.nat (k + 1) := inc hE (by omega)
    obtain ⟨g, hg, _⟩ := ho.addr (by omega)
    rcases Nat.eq_zero_or_pos i with h0 | h0
    · have ez : E.cmp .eql (E.nat i) 0 = true := by rw [hE.cmp, nk hE]; simp [cmpR, h0]
      conv => cbv
      simp only [ez]
      conv => cbv
      refine st_idx hE tStrs hg (by simp [hE.nat]) (by simp [hE.nat]; omega) fun q hq => ?_
      conv => cbv
      refine st_set hr tStrs ho hg (j := k) (by omega) (by simpa [hE.nat] using hq) rfl fun w4 _ hw4 ho4 => ?_
      conv => cbv
      exact ⟨(i + 1, k + 1, row.set k s), by simp [Fits, lk, ei, ek], keep (fun h => by omega) _ hw4 ho4, by simp only; omega⟩
    · obtain ⟨k0, _⟩ := hd.2.2.2.2.2 h0
      have ez : E.cmp .eql (E.nat i) 0 = false := by rw [hE.cmp, nk hE]; simp [cmpR]; omega
      have ed : E.ar .sub .i64 (E.nat k) 1 = E.nat (k - 1) := dec hE k0 (by omega)
      conv => cbv
      simp only [ez]
      conv => cbv
      simp only [ed]
      refine st_str hE tStrs (ho.strs hsm) (nk hE (k - 1)) (by omega) fun p2 m gm _ hp2 => ?_
      conv => cbv
      refine st_load hE cStr hp2 ?_
      conv => cbv
      refine br (fun g1 => ?_) (fun g1 => ?_)
      · have g1 : m ≠ s := by simp only [hE.scmp] at g1; exact (scmp_neq _ _).1 g1
        conv => cbv
        refine st_idx hE tStrs hg (by simp [hE.nat]) (by simp [hE.nat]; omega) fun q hq => ?_
        conv => cbv
        refine st_set hr tStrs ho hg (j := k) (by omega) (by simpa [hE.nat] using hq) rfl fun w4 _ hw4 ho4 => ?_
        conv => cbv
        exact ⟨(i + 1, k + 1, row.set k s), by simp [Fits, lk, ei, ek], keep (fun _ e => by rw [gm] at e; exact g1 (Option.some.inj e)) _ hw4 ho4, by simp only; omega⟩
      · have g1 : m = s := by simp only [hE.scmp] at g1; rw [scmp_neq] at g1; exact Classical.not_not.1 g1
        conv => cbv
        exact ⟨(i + 1, k, row), by simp [Fits, lk, ei], skip h0 (by rw [gm, g1]), by simp only; omega⟩
  · have h1 : i = m2 := by simp [hE.cmp, cmpR, hE.nat, hxl] at h1; omega
    subst h1
    obtain ⟨d1, d2, d3, d4, d5, d6⟩ := hd
    conv => cbv
    refine st_upto hE tStrs ho (nk hE k) hk fun hu => ?_
    rw [Nat.mul_one, ← List.map_take] at hu
    conv => cbv
    rw [hR]; refine ⟨hx, row.take k, ⟨d4, fun s => ?_⟩, A2, k, c2, rfl, hu.strs fun s hs => hsm s (List.mem_of_mem_take hs), hu⟩
    rw [d5, List.take_of_length_le (by omega), t2]
end Go.Proofs.YtjaejonnbhdddaaDoor
