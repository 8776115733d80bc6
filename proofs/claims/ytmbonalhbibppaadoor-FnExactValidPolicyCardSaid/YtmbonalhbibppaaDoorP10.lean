/- The program's trees as they lie in memory; their depth. -/
import Derived.Test.YtmbonalhbibppaaDoorEng16
import Derived.Test.YtmbonalhbibppaaDoorP5
import Derived.Test.YtmbonalhbibppaaDoorP8
namespace Go.Proofs.YtmbonalhbibppaaDoor
open Go.Eng
set_option linter.unusedVariables false
set_option linter.unusedSimpArgs false
/-- What lies at A is in blocks of D. -/
def InD (D : Nat → Prop) (A : Option Addr) (m : Nat) : Prop := ∀ a, A = some a → 0 < m → D a.block
mutual
def TreeV (D : Nat → Prop) (w : World) : Tr → Value → Prop
  | .con k n tx xs at_, v => ∃ A m c, v = .iface 276 (.agg ⟨[.int .i64 k, .int .i64 n, .string tx, .slice A m c, .int .i64 at_]⟩) ∧ Strs w A m c xs ∧ InD D A m ∧ tx.size ≤ 9223372036854775807
  | .nam tx at_, v => v = .iface 274 (.agg ⟨[.string tx, .int .i64 at_]⟩) ∧ tx.size ≤ 9223372036854775807
  | .att n, v => v = .iface 251 (.agg ⟨[.int .i64 n]⟩)
  | .lt n, v => v = .iface 255 (.agg ⟨[.int .i64 n]⟩)
  | .op o kids at_, v => ∃ A m c vs, v = .iface 191 (.agg ⟨[.int .i64 o, .slice A m c, .int .i64 at_]⟩) ∧ vs.length = m ∧ m ≤ c ∧ m ≤ 9223372036854775807 ∧ Cells w A vs ∧ InD D A m ∧ TreesV D w kids vs
def TreesV (D : Nat → Prop) (w : World) : List Tr → List Value → Prop
  | [], [] => True
  | t :: ts, v :: vs => TreeV D w t v ∧ TreesV D w ts vs
  | _, _ => False
end
theorem TreesV.len {D : Nat → Prop} {w : World} : ∀ {ts : List Tr} {vs : List Value}, TreesV D w ts vs → ts.length = vs.length
  | [], [], _ => rfl
  | t :: ts, v :: vs, h => by simp only [TreesV] at h; simp [TreesV.len h.2]
  | [], _ :: _, h => by simp only [TreesV] at h
  | _ :: _, [], h => by simp only [TreesV] at h
theorem TreesV.get {D : Nat → Prop} {w : World} : ∀ {ts : List Tr} {vs : List Value}, TreesV D w ts vs → ∀ (i : Nat) (t : Tr) (v : Value), ts[i]? = some t → vs[i]? = some v → TreeV D w t v
  | t :: ts, v :: vs, h, 0, t', v', h1, h2 => by simp at h1 h2; subst h1; subst h2; simp only [TreesV] at h; exact h.1
  | t :: ts, v :: vs, h, i + 1, t', v', h1, h2 => by simp only [TreesV] at h; exact TreesV.get h.2 i t' v' (by simpa using h1) (by simpa using h2)
  | [], [], _, i, t, v, h1, _ => by simp at h1
  | [], _ :: _, h, _, _, _, _, _ => by simp only [TreesV] at h
  | _ :: _, [], h, _, _, _, _, _ => by simp only [TreesV] at h
theorem TreesV.of_get {D : Nat → Prop} {w : World} : ∀ {ts : List Tr} {vs : List Value}, ts.length = vs.length → (∀ (i : Nat) (t : Tr) (v : Value), ts[i]? = some t → vs[i]? = some v → TreeV D w t v) → TreesV D w ts vs
  | [], [], _, _ => by simp only [TreesV]
  | t :: ts, v :: vs, h, hq => by
    simp only [TreesV]
    exact ⟨hq 0 t v rfl rfl, TreesV.of_get (by simpa using h) fun i t v h1 h2 => hq (i + 1) t v (by simpa using h1) (by simpa using h2)⟩
  | [], _ :: _, h, _ => by simp at h
  | _ :: _, [], h, _ => by simp at h
theorem TreeV.one {D : Nat → Prop} {w : World} {t : Tr} {v : Value} (h : TreeV D w t v) : v.oneCell' = true ∧ v ≠ .nilIface := by
  cases t <;> simp only [TreeV] at h
  · obtain ⟨A, m, c, rfl, _⟩ := h; exact ⟨rfl, by simp⟩
  · rw [h.1]; exact ⟨rfl, by simp⟩
  · rw [h]; exact ⟨rfl, by simp⟩
  · rw [h]; exact ⟨rfl, by simp⟩
  · obtain ⟨A, m, c, vs, rfl, _⟩ := h; exact ⟨rfl, by simp⟩
/-! ### Worlds in which these blocks stand -/
def Keeps (D : Nat → Prop) (w w' : World) : Prop := ∀ b, D b → w'.heap[b]? = w.heap[b]?
theorem add_block (a : Addr) (j : Nat) : (a.add j).block = a.block := by unfold Addr.add; split <;> rfl
theorem cell_keep {w w' : World} {a : Addr} (h : w'.heap[a.block]? = w.heap[a.block]?) : w'.cell? a = w.cell? a := by simp only [World.cell?, h]
theorem cells_keep {D : Nat → Prop} {w w' : World} {A : Option Addr} {vs : List Value} (h : Cells w A vs) (hD : InD D A vs.length) (hk : Keeps D w w') : Cells w' A vs :=
  ⟨h.1, fun a ha j v hv => by
    have hlt := (List.getElem?_eq_some_iff.1 hv).1
    exact (cell_keep (by rw [add_block]; exact hk _ (hD a ha (by omega)))).trans (h.2 a ha j v hv)⟩
theorem strs_keep {D : Nat → Prop} {w w' : World} {A : Option Addr} {m c : Nat} {xs : List ByteArray} (h : Strs w A m c xs) (hD : InD D A m) (hk : Keeps D w w') : Strs w' A m c xs :=
  ⟨h.1, h.2, h.3, cells_keep h.4 (by rw [List.length_map, h.len]; exact hD) hk, h.5⟩
mutual
theorem TreeV.keep {D D' : Nat → Prop} {w w' : World} (hk : Keeps D w w') (hD : ∀ b, D b → D' b) : ∀ (t : Tr) (v : Value), TreeV D w t v → TreeV D' w' t v
  | .con k n tx xs at_, v, h => by
    simp only [TreeV] at h ⊢
    obtain ⟨A, m, c, e, h1, h2, h3⟩ := h
    exact ⟨A, m, c, e, strs_keep h1 h2 hk, fun a ha hm => hD _ (h2 a ha hm), h3⟩
  | .nam tx at_, v, h => by simp only [TreeV] at h ⊢; exact h
  | .att n, v, h => by simp only [TreeV] at h ⊢; exact h
  | .lt n, v, h => by simp only [TreeV] at h ⊢; exact h
  | .op o kids at_, v, h => by
    simp only [TreeV] at h ⊢
    obtain ⟨A, m, c, vs, e, h1, h2, h3, h4, h5, h6⟩ := h
    exact ⟨A, m, c, vs, e, h1, h2, h3, cells_keep h4 (by rw [h1]; exact h5) hk, fun a ha hm => hD _ (h5 a ha hm), TreesV.keep hk hD kids vs h6⟩
theorem TreesV.keep {D D' : Nat → Prop} {w w' : World} (hk : Keeps D w w') (hD : ∀ b, D b → D' b) : ∀ (ts : List Tr) (vs : List Value), TreesV D w ts vs → TreesV D' w' ts vs
  | [], [], _ => by simp only [TreesV]
  | t :: ts, v :: vs, h => by simp only [TreesV] at h ⊢; exact ⟨TreeV.keep hk hD t v h.1, TreesV.keep hk hD ts vs h.2⟩
  | [], _ :: _, h => by simp only [TreesV] at h
  | _ :: _, [], h => by simp only [TreesV] at h
end
theorem TreeV.ext {D : Nat → Prop} {w w' : World} {t : Tr} {v : Value} (h : TreeV D w t v) (hD : ∀ b, D b → b < w.heap.size) (hx : Ext w w') : TreeV D w' t v := h.keep (fun b hb => hx.block b (hD b hb)) (fun _ h => h)
/-! ### Depth -/
theorem tOp : Stc Tryd.prog 191 3 [.int .i64 0, .slice none 0 0, .int .i64 0] := ⟨by kernel_rfl, by kernel_rfl⟩
theorem fOp0 : Fld Tryd.prog 191 0 0 := ⟨by kernel_rfl⟩
theorem fOp1 : Fld Tryd.prog 191 1 1 := ⟨by kernel_rfl⟩
theorem fOp2 : Fld Tryd.prog 191 2 2 := ⟨by kernel_rfl⟩
theorem cTrs : Cel Tryd.prog 129 := ⟨_, Tryd.underlying129, by simp, by simp⟩
theorem zTrs : (Tryd.prog.info? 129).map (·.size) = some 1 := by kernel_rfl
theorem sTrs : Slc Tryd.prog 129 128 .nilIface 1 16 := ⟨Tryd.underlying129, by kernel_rfl⟩
theorem cTr : Cel Tryd.prog 128 := ⟨_, Tryd.underlying128, by simp, by simp⟩
theorem zTr : (Tryd.prog.info? 128).map (·.size) = some 1 := by kernel_rfl
theorem cmCon (v : Value) (w : World) : (callMethod (.iface 276 v) "loop.example/s01308/impl.depth" #[]).run Tryd.prog w = .ok (.enter 231 #[v]) w := by kernel_rfl
theorem cmNam (v : Value) (w : World) : (callMethod (.iface 274 v) "loop.example/s01308/impl.depth" #[]).run Tryd.prog w = .ok (.enter 230 #[v]) w := by kernel_rfl
theorem cmAtt (v : Value) (w : World) : (callMethod (.iface 251 v) "loop.example/s01308/impl.depth" #[]).run Tryd.prog w = .ok (.enter 217 #[v]) w := by kernel_rfl
theorem cmLt (v : Value) (w : World) : (callMethod (.iface 255 v) "loop.example/s01308/impl.depth" #[]).run Tryd.prog w = .ok (.enter 218 #[v]) w := by kernel_rfl
theorem cmOp (v : Value) (w : World) : (callMethod (.iface 191 v) "loop.example/s01308/impl.depth" #[]).run Tryd.prog w = .ok (.enter 213 #[v]) w := by kernel_rfl
section
variable {P : Program} {E : Sym} {w : World} {K : Value → World → Prop} {d : Option Tmp} {ty : TypeId} {pos : String} {aft : Array Edge} {g : Option (Nat × Bool)}
theorem st_max2 {bq : Bool} (hE : EngB bq P E) {ao : Array Operand} {ts : Array TypeId} {a b : Int} (hk : ∀ r : Int, r = max a b → K (.int .i64 r) w) : E.stop ⟨d, .call ⟨.builtin .max, ao, ts⟩, ty, pos, aft, g⟩ [.int .i64 a, .int .i64 b] w K := by
  refine hE.det (v := .int .i64 (max a b)) (fun w1 _ ρ hρ => ?_) (hk _ rfl)
  have h3 := map_of (ao := ao) (ρ := ρ) (l := [.int .i64 a, .int .i64 b]) (by simpa [opnds] using hρ)
  have e : ∀ x y : Int, (if y > x then y else x) = max x y := fun x y => by rw [Int.max_def]; split <;> split <;> omega
  simp [execOp, resolve, invoke, builtin, h3, Builtin.max_, Builtin.max2, e]
end
theorem deps_take {kids : List Tr} {j : Nat} {t : Tr} (h : kids[j]? = some t) : deps (kids.take (j + 1)) = max (deps (kids.take j)) (dep t) := by
  rw [List.take_add_one, h]
  have : ∀ l : List Tr, deps (l ++ [t]) = max (deps l) (dep t) := by
    intro l
    induction l with
    | nil => simp [deps]
    | cons x l ih => rw [List.cons_append, deps, ih, deps]; omega
  exact this _
theorem dep_f : ∀ (n : Nat) (t : Tr) (v : Value) (w : World) (D : Nat → Prop), dep t ≤ n → n ≤ 1000000 → TreeV D w t v → (∀ b, D b → b < w.heap.size) →
    ∃ f l, (∀ w, (callMethod v "loop.example/s01308/impl.depth" #[]).run Tryd.prog w = .ok (.enter f #[l]) w) ∧ FC Tryd.prog f [l] w fun r _ => r = .int .i64 (dep t : Int) := by
  intro n
  induction n with
  | zero => intro t v w D h; cases t <;> simp [dep] at h
  | succ n ih =>
    intro t v w D hn hn2 ht hD
    cases t with
    | con k z tx xs at_ =>
      simp only [TreeV] at ht
      obtain ⟨A, m, c, rfl, _⟩ := ht
      refine ⟨_, _, cmCon _, FC.intro (cs := []) Tryd.func231 (by kernel_rfl) fun E R hE hr hR => ?_⟩
      conv => cbv
      refine st_box hr fun a w1 hx hb0 => ?_
      conv => cbv
      rw [hR]; exact ⟨hx, rfl⟩
    | nam tx at_ =>
      simp only [TreeV] at ht
      obtain ⟨rfl, _⟩ := ht
      refine ⟨_, _, cmNam _, FC.intro (cs := []) Tryd.func230 (by kernel_rfl) fun E R hE hr hR => ?_⟩
      conv => cbv
      refine st_box hr fun a w1 hx hb0 => ?_
      conv => cbv
      rw [hR]; exact ⟨hx, rfl⟩
    | att z =>
      simp only [TreeV] at ht
      obtain rfl := ht
      refine ⟨_, _, cmAtt _, FC.intro (cs := []) Tryd.func217 (by kernel_rfl) fun E R hE hr hR => ?_⟩
      conv => cbv
      refine st_box hr fun a w1 hx hb0 => ?_
      conv => cbv
      rw [hR]; exact ⟨hx, rfl⟩
    | lt z =>
      simp only [TreeV] at ht
      obtain rfl := ht
      refine ⟨_, _, cmLt _, FC.intro (cs := []) Tryd.func218 (by kernel_rfl) fun E R hE hr hR => ?_⟩
      conv => cbv
      refine st_box hr fun a w1 hx hb0 => ?_
      conv => cbv
      rw [hR]; exact ⟨hx, rfl⟩
    | op o kids at_ =>
      simp only [TreeV] at ht
      obtain ⟨A, m, c, vs, rfl, hvl, hmc, hmm, hcl, hin, hts⟩ := ht
      refine ⟨_, _, cmOp _, FC.intro (cs := []) Tryd.func213 (by kernel_rfl) fun E R hE hr hR => ?_⟩
      have hkl := hts.len
      rw [dep] at hn
      obtain ⟨DD, hDD⟩ : ∃ DD : Int, DD = (dep (.op o kids at_) : Int) := ⟨_, rfl⟩
      rw [← hDD] at hR
      rw [dep] at hDD
      conv => cbv
      refine st_box hr fun a w1 hx hb0 => ?_
      have hb := hb0 _ (Nat.le_refl _)
      conv => cbv
      (refine st_fld hE fOp1 fun p hp => ?_; (conv => cbv); refine st_load hE cTrs (by rw [hp]; exact (hb).at _ _ rfl) ?_; clear hp; (conv => cbv))
      refine st_len hE sTrs fun x hx1 => ?_
      conv => cbv
      refine loop_rule hr (fun (s : Nat × Int × Int) w' => s.1 ≤ m ∧ s.2.1 = (s.1 : Int) ∧ Ext w w' ∧ s.2.2 = (deps (kids.take s.1) : Int))
        (fun s => [(3, .int .i64 s.2.2), (7, .slice A m c), (8, .int .i64 x), (9, .int .i64 s.2.1)]) (fun s => m - s.1) (0, 0, 0)
        (by simp [Fits, lk]) ⟨by simp, by simp, hx, by simp [deps]⟩ ?_
      rintro I hI ⟨j, jj, d⟩ w' ⟨hj, hjj, hxw, hd⟩
      simp only at hj hjj hd
      obtain ⟨jk, hjk⟩ : ∃ z, z = jj + 1 := ⟨_, rfl⟩
      have dle : deps (kids.take j) ≤ deps kids := deps_le fun t ht => deps_mem (List.mem_of_mem_take ht)
      conv => cbv
      refine br (fun g => ?_) (fun g => ?_)
      · have g : j < m := by
          have : jj < x := by simpa [hE.cmp, cmpR] using g
          omega
        have ej : E.ar .add .i64 jj 1 = jk := by rw [hE.ar, hjk]; exact wrap_in (by omega) (by omega)
        obtain ⟨u, hu⟩ : ∃ u, vs[j]? = some u := ⟨_, List.getElem?_eq_getElem (by omega)⟩
        obtain ⟨t', ht'⟩ : ∃ t', kids[j]? = some t' := ⟨_, List.getElem?_eq_getElem (by omega)⟩
        have htu := (hts.get j t' u ht' hu).ext hD hxw
        have hdt := deps_mem (List.mem_of_getElem? ht')
        conv => cbv
        refine st_elem hE sTrs (hcl.ext hxw) hvl.symm (by omega) (by omega) fun p v hv hp => ?_
        rw [show jj.toNat = j by omega, hu] at hv
        cases hv
        conv => cbv
        refine st_load hE cTr hp ?_
        obtain ⟨f, l, hcm, hf⟩ := ih t' u w' D (by omega) (by omega) htu (fun b hb => Nat.lt_of_lt_of_le (hD b hb) hxw.size)
        obtain ⟨dt, hdt2⟩ : ∃ dt : Int, dt = (dep t' : Int) := ⟨_, rfl⟩
        rw [← hdt2] at hf
        conv => cbv
        refine st_if hr (args := []) (l := [l]) hcm hf fun r w2 hx2 ev => ?_
        subst ev
        conv => cbv
        refine st_max2 hE fun y hy => ?_
        conv => cbv
        simp only [ej]
        exact ⟨(j + 1, jk, y), by simp [Fits, lk], hI _ _ ⟨by simp only; omega, by simp only; omega, hxw.trans hx2, by simp only; rw [deps_take ht']; omega⟩, by simp only; omega⟩
      · have g : j = m := by
          have : ¬ jj < x := by simpa [hE.cmp, cmpR] using g
          omega
        rw [List.take_of_length_le (by omega)] at hd
        have ed : E.ar .add .i64 d 1 = DD := by rw [hE.ar, show arR .add .i64 d 1 = IntKind.i64.wrap (d + 1) from rfl, wrap_in (by omega) (by omega)]; omega
        conv => cbv
        simp only [ed]
        rw [hR]; exact ⟨hxw, rfl⟩
end Go.Proofs.YtmbonalhbibppaaDoor
