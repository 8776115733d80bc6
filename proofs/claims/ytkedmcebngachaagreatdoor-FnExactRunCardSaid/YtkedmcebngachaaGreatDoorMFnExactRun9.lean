/- Texts that the law FnExactRun leans on, part 9 of 11: contracts of the functions that it reaches and plain lemmas. Each holds under the conditions that it states. -/
import Derived.Test.YtkedmcebngachaaGreatDoorMFnExactRun8
set_option maxHeartbeats 16000000
set_option linter.unusedVariables false
set_option linter.unusedSimpArgs false
namespace Go.Proofs.YtkedmcebngachaaGreatDoor
open Go.Eng
set_option linter.unusedVariables false
set_option linter.unusedSimpArgs false
section
variable {α : Type} {e : TypeId} {k : Nat} {f : α → List Value} {sb : α → List Sub} {B : Nat} {w w' : World} {A A' : Option Addr} {n c c' : Nat} {vs : List α}
theorem gro_dj {X : Option Addr} (hg : Gro w A w' A') (hd : Dj A X) (hX : ∀ g, blk X = some g → g < w.heap.size) : Dj A' X := fun g h1 h2 => by
 rcases hg.at_ with q | ⟨b, q1, q2⟩
 ·exact hd g (by rw [← q]; exact h1) h2
 ·rw [q1] at h1; cases h1; have := hX _ h2; omega
theorem RO.wr (h : RO e k f sb B w A n c vs) {X : Option Addr} (hw : Wr X w w') (hd : ∀ a ∈ roA sb A vs, Dj X a) : RO e k f sb B w' A n c vs :=
 h.keepR (CSt.of_wr (R := [X]) hw (by simp)) fun r hr a ha => by simp at hr; subst hr; exact hd a ha
theorem RO.snoc (h : RO e k f sb B w A n c vs) {y : α} (hg : Gro w A w' A') (ho : Own B e k w' A' (n + 1) c' ((vs ++ [y]).flatMap f)) (hy : ∀ s ∈ sb y, Own B s.e 1 w s.A s.m s.c s.xs) (d1 : ∀ a ∈ adr sb y, Dj A a) (d2 : (adr sb y).Pairwise Dj) (d3 : ∀ v ∈ vs, ∀ a ∈ adr sb v, ∀ b ∈ adr sb y, Dj a b) :
  RO e k f sb B w' A' (n + 1) c' (vs ++ [y]) := by
 have lt : ∀ v, (v ∈ vs ∨ v = y) → ∀ s ∈ sb v, Own B s.e 1 w s.A s.m s.c s.xs ∧ Dj A s.A := fun v hv s hs => by
  rcases hv with hv | rfl
  ·exact ⟨h.sub v hv s hs, h.dj.rowd _ (List.mem_map.2 ⟨v, hv, rfl⟩) _ (List.mem_map.2 ⟨s, hs, rfl⟩)⟩
  ·exact ⟨hy s hs, d1 _ (List.mem_map.2 ⟨s, hs, rfl⟩)⟩
 have mem : ∀ v ∈ vs ++ [y], v ∈ vs ∨ v = y := fun v hv => by simpa using hv
 refine ⟨ho, fun v hv s hs => ?_, ?_⟩
 ·obtain ⟨k1, k2⟩ := lt v (mem v hv) s hs
  exact k1.wr hg.wr (dj_apart k1 k2.symm)
 ·rw [List.map_append]
  have base : DJ A' (vs.map (adr sb)) := ⟨fun l hl a ha => by
   obtain ⟨v, hv, rfl⟩ := List.mem_map.1 hl
   obtain ⟨s, hs, rfl⟩ := List.mem_map.1 ha
   obtain ⟨k1, k2⟩ := lt v (.inl hv) s hs
   exact gro_dj hg k2 fun g hgb => (own_blk k1 g hgb).2, h.dj.own, h.dj.pw⟩
  refine base.snoc (fun a ha => ?_) d2 fun l hl b hb a ha => ?_
  ·obtain ⟨s, hs, rfl⟩ := List.mem_map.1 ha
   obtain ⟨k1, k2⟩ := lt y (.inr rfl) s hs
   exact gro_dj hg k2 fun g hgb => (own_blk k1 g hgb).2
  ·obtain ⟨v, hv, rfl⟩ := List.mem_map.1 hl
   exact d3 v hv a ha b hb
end
structure LD (w0s : Nat) (w : World) (q : Addr) (A : Option Addr) (n c : Nat) (vs : List VN) (T : Option Addr) (nt ct : Nat) (ts : List Int) : Prop where
 box : Box w0s 209 2 w q [.slice A n c, .slice T nt ct]
 nd : RO 193 5 cN sbNode w0s w A n c vs
 pl : Own w0s 3 1 w T nt ct (ts.map (.int .i64))
 dq : ∀ r ∈ roA sbNode A vs, Dj (some q) r
 dT : ∀ r ∈ roA sbNode A vs, Dj r T
 qT : Dj (some q) T
 sm : ∀ v ∈ vs, v.p.tx.size ≤ 9223372036854775807 ∧ ∀ u ∈ v.p.xs, u.size ≤ 9223372036854775807
 le : w0s ≤ w.heap.size
def ldA (q : Addr) (A T : Option Addr) (vs : List VN) : List (Option Addr) := some q :: T :: roA sbNode A vs
section
variable {w0s : Nat} {w w' : World} {q : Addr} {A T : Option Addr} {n c nt ct : Nat} {vs : List VN} {ts : List Int}
theorem LD.ext (h : LD w0s w q A n c vs T nt ct ts) (hx : Ext w w') : LD w0s w' q A n c vs T nt ct ts :=
 ⟨h.box.bel hx, h.nd.ext hx, h.pl.bel hx, h.dq, h.dT, h.qT, h.sm, n2_ h.le hx.size⟩
theorem LD.len (h : LD w0s w q A n c vs T nt ct ts) : vs.length = n := h.nd.len cN_len (by omega)
theorem LD.low (h : LD w0s w q A n c vs T nt ct ts) : ∀ r ∈ ldA q A T vs, ∀ g, blk r = some g → w0s ≤ g ∧ g < w.heap.size := fun r hr g hg => by
 rcases List.mem_cons.1 hr with rfl | hr
 ·exact own_blk h.box g hg
 ·rcases List.mem_cons.1 hr with rfl | hr
  ·exact own_blk h.pl g hg
  ·exact h.nd.lo r hr g hg
end
theorem sIt : Slc Tryz.prog 85 171 .nilIface 1 16 := ⟨Tryz.underlying85, by kernel_rfl⟩
theorem cIts : Cel Tryz.prog 85 := ⟨_, Tryz.underlying85, by simp, by simp⟩
theorem zIts : (Tryz.prog.info? 85).map (·.size) = some 1 := by kernel_rfl
theorem cIt : Cel Tryz.prog 171 := ⟨_, Tryz.underlying171, by simp, by simp⟩
theorem zIt : (Tryz.prog.info? 171).map (·.size) = some 1 := by kernel_rfl
theorem fMa0 : Fld Tryz.prog 87 0 0 := ⟨by kernel_rfl⟩
theorem fMa1 : Fld Tryz.prog 87 1 3 := ⟨by kernel_rfl⟩
theorem fMa2 : Fld Tryz.prog 87 2 4 := ⟨by kernel_rfl⟩
theorem fMa3 : Fld Tryz.prog 87 3 5 := ⟨by kernel_rfl⟩
theorem fMa4 : Fld Tryz.prog 87 4 6 := ⟨by kernel_rfl⟩
theorem fMa5 : Fld Tryz.prog 87 5 7 := ⟨by kernel_rfl⟩
structure IM (lo hi B : Nat) (w : World) (SA : Option Addr) (sn sc : Nat) (sv : List VV) (LA : Option Addr) (ln lc : Nat) (lv : List VV) : Prop where
 st : Own B 171 1 w SA sn sc (sv.map itV)
 sl : Own B 171 1 w LA ln lc (lv.map itV)
 d : Dj SA LA
 vals : ∀ x, (x ∈ sv ∨ x ∈ lv) → ValM w x ∧ InD (DR lo hi w SA LA) x.A x.m
section
variable {lo hi B : Nat} {w w' : World} {SA LA : Option Addr} {sn sc ln lc : Nat} {sv lv : List VV}
theorem IM.slen (h : IM lo hi B w SA sn sc sv LA ln lc lv) : sv.length = sn := by have := h.st.len; rw [List.length_map] at this; omega
theorem IM.llen (h : IM lo hi B w SA sn sc sv LA ln lc lv) : lv.length = ln := by have := h.sl.len; rw [List.length_map] at this; omega
theorem IM.ext (h : IM lo hi B w SA sn sc sv LA ln lc lv) (hx : Ext w w') : IM lo hi B w' SA sn sc sv LA ln lc lv :=
 ⟨h.st.bel hx, h.sl.bel hx, h.d, fun x hm => ⟨(h.vals x hm).1.ext hx, (h.vals x hm).2.mono fun b hb => ⟨n3_ hb.1 hx.size, hb.2⟩⟩⟩
theorem IM.box (h : IM lo hi B w SA sn sc sv LA ln lc lv) {q : Addr} (hw : Wr (some q) w w') (hq : blk (some q) = some q.block) (h1 : lo ≤ q.block) (h2 : q.block < hi) (hS : ∀ g, blk SA = some g → g ≠ q.block) (hL : ∀ g, blk LA = some g → g ≠ q.block) : IM lo hi B w' SA sn sc sv LA ln lc lv :=
 ⟨h.st.wr hw (dj_apart h.st fun g e1 e2 => by rw [hq] at e2; cases e2; exact hS _ e1 rfl), h.sl.wr hw (dj_apart h.sl fun g e1 e2 => by rw [hq] at e2; cases e2; exact hL _ e1 rfl), h.d, fun x hm =>
  ⟨valm_wr hw (h.vals x hm).1 (h.vals x hm).2 fun b hb => ⟨hb.1, fun e => by rw [hq] at e; cases e; have := hb.2.2.2; omega⟩, (h.vals x hm).2.mono fun b hb => ⟨n3_ hb.1 hw.size, hb.2⟩⟩⟩
theorem IM.take (h : IM lo hi B w SA sn sc sv LA ln lc lv) {k : Nat} (ho : Own B 171 1 w SA k sc ((sv.map itV).take (k * 1))) : IM lo hi B w SA k sc (sv.take k) LA ln lc lv :=
 ⟨by rw [List.map_take]; simpa using ho, h.sl, h.d, fun x hm => h.vals x (hm.imp (fun q => List.mem_of_mem_take q) id)⟩
theorem IM.push (h : IM lo hi B w SA sn sc sv LA ln lc lv) {x : VV} (hx : ValM w x ∧ InD (DR lo hi w SA LA) x.A x.m) {SA' : Option Addr} {m' sc' : Nat} (hw : Wr SA w w') (ho : Own B 171 1 w' SA' m' sc' (sv.map itV ++ [itV x])) (hk : blk SA' = blk SA ∨ blk SA' = some w.heap.size) : IM lo hi B w' SA' m' sc' (sv ++ [x]) LA ln lc lv := by
 have hd : Dj SA' LA := fun g h1 h2 => by
  rcases hk with e | e
  ·exact h.d g (by rw [← e]; exact h1) h2
  ·rw [e] at h1; cases h1
   have := (own_blk h.sl _ h2).2; omega
 refine ⟨by rw [List.map_append]; simpa using ho, h.sl.wr hw (dj_apart h.sl h.d.symm), hd, fun y hy => ?_⟩
 have hyv : ValM w y ∧ InD (DR lo hi w SA LA) y.A y.m := by
  rcases hy with hy | hy
  ·rcases List.mem_append.1 hy with hy | hy
   ·exact h.vals y (.inl hy)
   ·simp at hy; subst hy; exact hx
  ·exact h.vals y (.inr hy)
 refine ⟨valm_wr hw hyv.1 hyv.2 fun b hb => ⟨hb.1, hb.2.1⟩, hyv.2.mono fun b hb => ⟨n3_ hb.1 hw.size, fun e => ?_, hb.2.2⟩⟩
 rcases hk with e2 | e2
 ·exact hb.2.1 (by rw [← e2]; exact e)
 ·rw [e2] at e; cases e; have := hb.1; omega
theorem IM.set (h : IM lo hi B w SA sn sc sv LA ln lc lv) {x : VV} (hx : ValM w x ∧ InD (DR lo hi w SA LA) x.A x.m) {i : Nat} (hw : Wr LA w w') (ho : Own B 171 1 w' LA ln lc ((lv.set i x).map itV)) : IM lo hi B w' SA sn sc sv LA ln lc (lv.set i x) := by
 refine ⟨h.st.wr hw (dj_apart h.st h.d), ho, h.d, fun y hy => ?_⟩
 have hyv : ValM w y ∧ InD (DR lo hi w SA LA) y.A y.m := by
  rcases hy with hy | hy
  ·exact h.vals y (.inl hy)
  ·rcases List.mem_or_eq_of_mem_set hy with hy | rfl
   ·exact h.vals y (.inr hy)
   ·exact hx
 exact ⟨valm_wr hw hyv.1 hyv.2 fun b hb => ⟨hb.1, hb.2.2.1⟩, hyv.2.mono fun b hb => ⟨n3_ hb.1 hw.size, hb.2⟩⟩
end
structure MM (B : Nat) (w : World) (q ra : Addr) (A : Option Addr) (n c : Nat) (sl : Int) (A2 : Option Addr) (n2 c2 : Nat) (z k cd : Int) (N : Option Addr) (nm nc : Nat) (s p : Int) (SA : Option Addr) (sn sc : Nat) (sv : List VV) (LA : Option Addr) (ln lc : Nat) (lv : List VV) : Prop where
 box : Box B 87 12 w q [.slice A n c, .int .i64 sl, .slice A2 n2 c2, .pointer (some ra), .slice SA sn sc, .slice LA ln lc, .int .i64 z, .int .i64 k, .int .i64 cd, .slice N nm nc, .int .i64 s, .int .i64 p]
 im : IM q.block (q.block + 1) B w SA sn sc sv LA ln lc lv
 dS : Dj (some q) SA
 dL : Dj (some q) LA
section
variable {B : Nat} {w w' : World} {q ra : Addr} {A : Option Addr} {n c : Nat} {sl : Int} {A2 : Option Addr} {n2 c2 : Nat} {z k cd : Int} {N : Option Addr} {nm nc : Nat} {s p : Int} {SA : Option Addr} {sn sc : Nat} {sv : List VV} {LA : Option Addr} {ln lc : Nat} {lv : List VV}
theorem MM.ext (h : MM B w q ra A n c sl A2 n2 c2 z k cd N nm nc s p SA sn sc sv LA ln lc lv) (hx : Ext w w') : MM B w' q ra A n c sl A2 n2 c2 z k cd N nm nc s p SA sn sc sv LA ln lc lv := ⟨h.box.bel hx, h.im.ext hx, h.dS, h.dL⟩
theorem MM.put (h : MM B w q ra A n c sl A2 n2 c2 z k cd N nm nc s p SA sn sc sv LA ln lc lv) {z' k' cd' : Int} {N' : Option Addr} {nm' nc' : Nat} {s' p' : Int} (hw : Wr (some q) w w')
  (hb : Box B 87 12 w' q [.slice A n c, .int .i64 sl, .slice A2 n2 c2, .pointer (some ra), .slice SA sn sc, .slice LA ln lc, .int .i64 z', .int .i64 k', .int .i64 cd', .slice N' nm' nc', .int .i64 s', .int .i64 p']) : MM B w' q ra A n c sl A2 n2 c2 z' k' cd' N' nm' nc' s' p' SA sn sc sv LA ln lc lv := by
 have f := bx_form h.box
 exact ⟨hb, h.im.box hw f.2.2 (n1_ _) (by omega) (fun g hg e => h.dS g (by rw [f.2.2, e]) hg) (fun g hg e => h.dL g (by rw [f.2.2, e]) hg), h.dS, h.dL⟩
theorem push_g (h : MM B w q ra A n c sl A2 n2 c2 z k cd N nm nc s p SA sn sc sv LA ln lc lv) (hB : B ≤ w.heap.size) (hs : sn ≤ 1000000) {x : VV} (hx : ValM w x ∧ InD (DR q.block (q.block + 1) w SA LA) x.A x.m) :
  GC Tryz.prog 105 [.pointer (some q), itV x] w fun _ w' => ∃ SA' sc' sn', sn' = sn + 1 ∧ MM B w' q ra A n c sl A2 n2 c2 z k cd N nm nc s p SA' sn' sc' (sv ++ [x]) LA ln lc lv ∧ CSt w [some q, SA, LA] w' [some q, SA', LA] := by
 refine GC.intro (cs := []) Tryz.func105 (by kernel_rfl) fun E R hE hr hR => ?_
 obtain ⟨iv, hiv⟩ : ∃ iv, iv = itV x := ⟨_, rfl⟩
 have h1 : iv.oneCell' = true := by rw [hiv]; exact itV_one x
 rw [← hiv]
 conv => cbv
 refine st_nil hE ?_
 conv => cbv
 refine st_fld hE fMa2 fun p1 hp1 => ?_
 conv => cbv
 refine st_load hE cIts (by rw [hp1]; exact h.box.at 4 _ rfl) ?_
 conv => cbv
 refine st_one hr sIt rfl h1 fun A1 w1 hx1 hc1 => ?_
 have hh := h.ext hx1
 conv => cbv
 refine st_appsG hr sIt rfl hh.im.st hc1 rfl (by intro v hv; simp at hv; subst hv; exact h1) (by have := hx1.size; omega) (by omega) (by omega) fun S1 c1 m1 w2 hm1 hw2 ho2 hk2 => ?_
 have hI := hh.im.push (x := x) ⟨hx.1.ext hx1, hx.2.mono fun b hb => ⟨n3_ hb.1 hx1.size, hb.2⟩⟩ hw2 (by rw [← hiv]; exact ho2) hk2
 have hb2 := hh.box.wr hw2 (dj_apart hh.box hh.dS)
 have hgro : Gro w1 SA w2 S1 := ⟨hw2, hk2.imp id fun e => ⟨_, e, n1_ _⟩⟩
 have d1 : Dj (some q) S1 := (gro_dj hgro hh.dS.symm fun g hg => (own_blk hh.box g hg).2).symm
 conv => cbv
 refine st_nil hE ?_
 conv => cbv
 refine st_fld hE fMa2 fun p2 hp2 => ?_
 conv => cbv
 refine st_put hr zIts hb2 hp2 (by simp) rfl fun w3 hw3 hb3 => ?_
 simp only [b4_, b5_] at hb3
 have f := bx_form h.box
 have hI3 := hI.box hw3 f.2.2 (n1_ _) (by omega) (fun g hg e => d1 g (by rw [f.2.2, e]) hg) (fun g hg e => h.dL g (by rw [f.2.2, e]) hg)
 conv => cbv
 rw [hR]
 refine ⟨S1, c1, m1, hm1, ⟨hb3, hI3, d1, h.dL⟩, ?_⟩
 exact ((CSt.of_ext hx1 [some q, SA, LA]).trans (CSt.of_gro hgro (by simp) (fun x hx => by
  simp only [List.mem_cons, List.not_mem_nil, or_false] at hx ⊢
  rcases hx with h | h | h
  ·simp [h]
  ·simp [h]
  ·simp [h]))).trans (CSt.of_wr hw3 (by simp))
theorem pop_g (h : MM B w q ra A n c sl A2 n2 c2 z k cd N nm nc s p SA sn sc sv LA ln lc lv) (hB : B ≤ w.heap.size) (hs : sn ≤ 1000000) (h0 : 1 ≤ sn) {x : VV} (hx : sv[sn - 1]? = some x) {sm : Nat} (hsm : sm = sn - 1) :
  GC Tryz.prog 108 [.pointer (some q)] w fun r w' => r = itV x ∧ MM B w' q ra A n c sl A2 n2 c2 z k cd N nm nc s p SA sm sc (sv.take sm) LA ln lc lv ∧ CSt w [some q, SA, LA] w' [some q, SA, LA] := by
 refine GC.intro (cs := []) Tryz.func108 (by kernel_rfl) fun E R hE hr hR => ?_
 obtain ⟨iv, hiv⟩ : ∃ iv, iv = itV x := ⟨_, rfl⟩
 rw [← hiv] at hR
 have hcell : ∃ a, SA = some a ∧ w.cell? (a.add (sn - 1)) = some iv := by
  have hl := h.im.slen
  obtain ⟨a, ha⟩ := h.im.st.cells.1 (by rw [List.length_map]; omega)
  exact ⟨a, ha, h.im.st.cells.2 a ha _ _ (by rw [List.getElem?_map, hx, hiv]; rfl)⟩
 obtain ⟨aS, hSA, hcS⟩ := hcell
 obtain ⟨sz, hsz⟩ : ∃ y : Int, y = (sn : Int) - 1 := ⟨_, rfl⟩
 conv => cbv
 refine st_nil hE ?_
 conv => cbv
 refine st_fld hE fMa2 fun p1 hp1 => ?_
 conv => cbv
 refine st_load hE cIts (by rw [hp1]; exact h.box.at 4 _ rfl) ?_
 conv => cbv
 refine st_len hE sIt fun x1 hx1 => ?_
 have ex1 : E.ar .sub .i64 x1 1 = sz := by rw [hE.ar, show arR .sub .i64 x1 1 = IntKind.i64.wrap (x1 - 1) from rfl, wrap_in (by omega) (by omega)]; omega
 conv => cbv
 simp only [ex1]
 conv => cbv
 refine st_nil hE ?_
 conv => cbv
 refine st_fld hE fMa2 fun p2 hp2 => ?_
 conv => cbv
 refine st_load hE cIts (by rw [hp2]; exact h.box.at 4 _ rfl) ?_
 conv => cbv
 refine st_idx hE sIt hSA (by omega) (by omega) fun p3 hp3 => ?_
 rw [show sz.toNat * 1 = sn - 1 by omega] at hp3
 conv => cbv
 refine st_load hE cIt (by rw [hp3]; exact hcS) ?_
 conv => cbv
 refine st_nil hE ?_
 conv => cbv
 refine st_fld hE fMa2 fun p4 hp4 => ?_
 conv => cbv
 refine st_load hE cIts (by rw [hp4]; exact h.box.at 4 _ rfl) ?_
 conv => cbv
 refine st_upto hE sIt h.im.st (hi := sm) (by omega) (by omega) fun hot => ?_
 conv => cbv
 refine st_nil hE ?_
 conv => cbv
 refine st_fld hE fMa2 fun p5 hp5 => ?_
 conv => cbv
 refine st_put hr zIts h.box hp5 (by simp) rfl fun w3 hw3 hb3 => ?_
 simp only [b4_, b5_] at hb3
 have f := bx_form h.box
 have hI3 := (h.im.take hot).box hw3 f.2.2 (n1_ _) (by omega) (fun g hg e => h.dS g (by rw [f.2.2, e]) hg) (fun g hg e => h.dL g (by rw [f.2.2, e]) hg)
 conv => cbv
 rw [hR]
 exact ⟨rfl, ⟨hb3, hI3, h.dS, h.dL⟩, CSt.of_wr hw3 (by simp)⟩
end
theorem cmBool (v : Value) (w : World) : (callMethod (.iface 179 v) "loop.example/s01308/impl.value" #[]).run Tryz.prog w = .ok (.enter 310 #[v]) w := by kernel_rfl
theorem cmInt (v : Value) (w : World) : (callMethod (.iface 258 v) "loop.example/s01308/impl.value" #[]).run Tryz.prog w = .ok (.enter 312 #[v]) w := by kernel_rfl
theorem cmText (v : Value) (w : World) : (callMethod (.iface 259 v) "loop.example/s01308/impl.value" #[]).run Tryz.prog w = .ok (.enter 313 #[v]) w := by kernel_rfl
theorem cmSet (v : Value) (w : World) : (callMethod (.iface 180 v) "loop.example/s01308/impl.value" #[]).run Tryz.prog w = .ok (.enter 311 #[v]) w := by kernel_rfl
theorem itv_call {ty : Int} {x : VV} (hv : valV ty x.p) : ∃ (T : TypeId) (u : Value) (f : FuncId), itV x = .iface T u ∧ (∀ w, (callMethod (.iface T u) "loop.example/s01308/impl.value" #[]).run Tryz.prog w = .ok (.enter f #[u]) w) ∧ ∀ w, FC Tryz.prog f [u] w fun v _ => v = .agg ⟨vC (cnV x)⟩ := by
 obtain ⟨⟨k, n, tx, xs⟩, A, m, c⟩ := x
 obtain ⟨hk, hv⟩ := hv
 simp only at hk hv
 rcases hv with ⟨e, h1, h2, h3⟩ | ⟨e, h1, h2, h3⟩ | ⟨e, h1, h2, h3⟩ | ⟨e, h1, h2, h3⟩
 ·subst e; subst hk; subst h2; subst h3
  refine ⟨_, _, _, rfl, cmBool _, fun w => (boolV_f _).mono fun v w' hx ev => ?_⟩
  rw [ev]
  rcases h1 with rfl | rfl <;> rfl
 ·subst e; subst hk; subst h2; subst h3
  exact ⟨_, _, _, rfl, cmInt _, fun w => intV_f _⟩
 ·subst e; subst hk; subst h1; subst h2
  exact ⟨_, _, _, rfl, cmText _, fun w => textV_f _⟩
 ·subst e; subst hk; subst h1; subst h2
  exact ⟨_, _, _, rfl, cmSet _, fun w => setV_f _ _ _⟩
theorem cnV_m {w : World} {D : Nat → Prop} {ty : Int} {x : VV} (hv : valV ty x.p) (h : ValM w x ∧ InD D x.A x.m) : ValM w (cnV x) ∧ InD D (cnV x).A (cnV x).m := by
 unfold cnV
 split
 ·exact h
 ·rename_i h4
  refine ⟨nil_m ?_ h.1.2, inD_none⟩
  rcases hv.2 with ⟨e, _, _, q⟩ | ⟨e, _, _, q⟩ | ⟨e, _, q, _⟩ | ⟨e, _⟩
  ·exact q
  ·exact q
  ·exact q
  ·exact absurd (hv.1.trans e) h4
theorem IM.far {lo hi B M : Nat} {w w' : World} {SA LA X : Option Addr} {sn sc ln lc : Nat} {sv lv : List VV} (h : IM lo hi B w SA sn sc sv LA ln lc lv) (hw : Wr X w w') (hX : ∀ g, blk X = some g → M ≤ g) (hS : ∀ g, blk SA = some g → g < M) (hL : ∀ g, blk LA = some g → g < M) (hv : ∀ x, (x ∈ sv ∨ x ∈ lv) → InD (fun b => b < M) x.A x.m) : IM lo hi B w' SA sn sc sv LA ln lc lv :=
 ⟨h.st.wr hw (dj_apart h.st fun g h1 h2 => by have := hS g h1; have := hX g h2; omega), h.sl.wr hw (dj_apart h.sl fun g h1 h2 => by have := hL g h1; have := hX g h2; omega), h.d, fun x hm =>
  ⟨valm_wr hw (h.vals x hm).1 (D := fun b => b < M ∧ b < w.heap.size) (fun a ha h0 => ⟨hv x hm a ha h0, ((h.vals x hm).2 a ha h0).1⟩) fun b hb => ⟨hb.2, fun e => by have := hX b e; omega⟩, (h.vals x hm).2.mono fun b hb => ⟨n3_ hb.1 hw.size, hb.2⟩⟩⟩
theorem CSt.far {w w' w'' : World} {R R' : List (Option Addr)} {X : Option Addr} (h : CSt w R w' R') (hw : Wr X w' w'') (hX : ∀ g, blk X = some g → w.heap.size ≤ g) : CSt w R w'' R' :=
 ⟨hw.os.trans h.os, hw.tape.trans h.tape, hw.output.trans h.output, n2_ h.size hw.size, fun b hb hn => by
  rw [hw.block b (n3_ hb h.size) fun e => by have := hX b e.symm; omega]
  exact h.keep b hb hn, h.new⟩
theorem valm_cst {w w' : World} {R R' : List (Option Addr)} {D : Nat → Prop} {x : VV} (hc : CSt w R w' R') (h : ValM w x) (hi : InD D x.A x.m) (hD : ∀ b, D b → b < w.heap.size ∧ ∀ r ∈ R, blk r ≠ some b) : ValM w' x := by
 obtain ⟨h1, h2⟩ := h
 refine ⟨⟨h1.len, h1.le, h1.cap, ⟨h1.cells.1, fun a ha j v hv => ?_⟩, h1.small⟩, h2⟩
 have hcc := h1.cells.2 a ha j v hv
 have hj := (List.getElem?_eq_some_iff.1 hv).1
 rw [List.length_map, h1.len] at hj
 obtain ⟨b1, b2⟩ := hD _ (hi a ha (by omega))
 have eb : (a.add j).block = a.block := by unfold Addr.add; split <;> rfl
 have hb := hc.keep a.block b1 b2
 unfold World.cell? at hcc ⊢
 rw [eb] at hcc ⊢
 rw [hb]; exact hcc
section
variable {B : Nat} {w0 w w' : World} {q ra : Addr} {A : Option Addr} {n c : Nat} {sl : Int} {A2 : Option Addr} {n2 c2 : Nat} {z k cd : Int} {N : Option Addr} {nm nc : Nat} {s p : Int} {SA : Option Addr} {sn sc : Nat} {sv : List VV} {LA : Option Addr} {ln lc : Nat} {lv : List VV}
theorem MM.lo (h : MM B w q ra A n c sl A2 n2 c2 z k cd N nm nc s p SA sn sc sv LA ln lc lv) : ∀ r ∈ [some q, SA, LA], ∀ g, blk r = some g → B ≤ g ∧ g < w.heap.size := fun r hr g hg => by
 simp only [List.mem_cons, List.not_mem_nil, or_false] at hr
 rcases hr with rfl | rfl | rfl
 ·exact own_blk h.box g hg
 ·exact own_blk h.im.st g hg
 ·exact own_blk h.im.sl g hg
theorem row_step {sv : List VV} {sn np j : Nat} {v0 x : VV} (hl : sv.length = sn) (hj : j < np) (hn : np ≤ sn) (hx : sv[sn - j - 1]? = some x) :
  (List.replicate (np - j) v0 ++ (sv.drop (sn - j)).map cnV).set (np - 1 - j) (cnV x) = List.replicate (np - (j + 1)) v0 ++ (sv.drop (sn - (j + 1))).map cnV := by
 rw [show np - j = (np - (j + 1)) + 1 by omega, List.replicate_succ', List.append_assoc, List.set_append_right _ _ (by rw [List.length_replicate]; omega), List.length_replicate, show np - 1 - j - (np - (j + 1)) = 0 by omega]
 rw [show sn - (j + 1) = sn - j - 1 by omega, drop_cons hx, show sn - j - 1 + 1 = sn - j by omega]
 rfl
theorem apply_g {zz oo vv : Addr} (h0 : Ext w0 w) (he : Errs w0 zz oo vv) (hT : Tab w0 5 calcF) (h : MM w0.heap.size w q ra A n c sl A2 n2 c2 z k cd N nm nc s p SA sn sc sv LA ln lc lv) (hs : sn ≤ 1000000) {op : Int} (h8 : 8 ≤ op) (h24 : op ≤ 24) {np : Nat} (hnp : (np : Int) = kidsF op) (hn1 : 1 ≤ np) (hn3 : np ≤ 2) (hnp2 : 11 ≤ op → np = 2) (hle : np ≤ sn)
  (hty : ∀ (i : Nat) (v : VV), sn - np ≤ i → sv[i]? = some v → ∃ ty, valV ty v.p) {x y : VV} (hx : sv[sn - np]? = some x) (hy : sv[sn - 1]? = some y) (hok : opOK op x.p y.p) (hrk : ∀ r, opR op x.p y.p = .inr r → 1 ≤ r.k ∧ r.k ≤ 4) :
  GC Tryz.prog 109 [.pointer (some q), .int .i64 op] w fun r w' => match opR op x.p y.p with
   | .inl cc => (cc = 1 ∨ cc = 2 ∨ cc = 3) ∧ (∃ op', r = wwV op' (sentA zz oo vv cc)) ∧ (∃ sm, MM w0.heap.size w' q ra A n c sl A2 n2 c2 z k cd N nm nc s p SA sm sc (sv.take sm) LA ln lc lv) ∧ CSt w [some q, SA, LA] w' [some q, SA, LA]
   | .inr r' => r = .nilIface ∧ ∃ SA' sc' sn' X, sn' = sn - np + 1 ∧ X.p = r' ∧ MM w0.heap.size w' q ra A n c sl A2 n2 c2 z k cd N nm nc s p SA' sn' sc' (sv.take (sn - np) ++ [X]) LA ln lc lv ∧ CSt w [some q, SA, LA] w' [some q, SA', LA] := by
 refine GC.intro (cs := []) Tryz.func109 (by kernel_rfl) fun E R hE hr hR => ?_
 have hl := h.im.slen
 have hlo := h.lo
 have hs0 := h0.size
 have vold : ∀ v, (v ∈ sv ∨ v ∈ lv) → InD (fun b => b < w.heap.size) v.A v.m := fun v hv => (h.im.vals v hv).2.mono fun b hb => hb.1
 obtain ⟨npz, hnpz⟩ : ∃ y : Int, y = (np : Int) := ⟨_, rfl⟩
 have hko := kidsOf_f (w := w) op
 rw [← hnp, ← hnpz] at hko
 conv => cbv
 refine st_f hr hko fun v w1 hx1 ev => ?_
 subst ev
 conv => cbv
 refine st_makeK hr sIV rfl (m := np) (by omega) (by omega) (by omega) fun AA w2 hx2 ho0 => ?_
 obtain ⟨v0, hv0⟩ : ∃ v0 : VV, v0 = ⟨nonV, none, 0, 0⟩ := ⟨_, rfl⟩
 have hA := ho0 _ (n1_ _)
 clear ho0
 rw [show (Value.agg ⟨zV⟩).cells = ⟨vC v0⟩ from by rw [hv0]; rfl, made_fl (f := vC) v0 np 4 rfl (by omega)] at hA
 have hx12 := hx1.trans hx2
 have k1 := hx1.size
 have hAlo : ∀ g, blk AA = some g → w.heap.size ≤ g := fun g hg => by have := (own_blk hA g hg).1; omega
 obtain ⟨i0, hi0⟩ : ∃ y : Int, y = npz - 1 := ⟨_, rfl⟩
 conv => cbv
 refine st_len hE sIV fun x1 hx1' => ?_
 have ex1 : E.ar .sub .i64 x1 1 = i0 := by rw [hE.ar, show arR .sub .i64 x1 1 = IntKind.i64.wrap (x1 - 1) from rfl, wrap_in (by omega) (by omega)]; omega
 conv => cbv
 simp only [ex1]
 conv => cbv
 refine loop_rule hr (fun (t : Nat × Int) w' => t.1 ≤ np ∧ t.2 = npz - 1 - (t.1 : Int) ∧ MM w0.heap.size w' q ra A n c sl A2 n2 c2 z k cd N nm nc s p SA (sn - t.1) sc (sv.take (sn - t.1)) LA ln lc lv ∧ CSt w [some q, SA, LA] w' [some q, SA, LA] ∧ Own w1.heap.size 153 4 w' AA np np ((List.replicate (np - t.1) v0 ++ (sv.drop (sn - t.1)).map cnV).flatMap vC))
  (fun t => [(0, .pointer (some q)), (1, .int .i64 op), (5, .slice AA np np), (6, .int .i64 t.2)]) (fun t => np - t.1) (0, i0)
  (by simp [Fits, lk]) ⟨by simp, by simp only; omega, by simpa [hl, g3_ (Nat.le_of_eq hl)] using h.ext hx12, CSt.of_ext hx12 _, by rw [Nat.sub_zero, Nat.sub_zero, List.drop_eq_nil_of_le (by omega)]; simpa using hA⟩ ?_
 rintro I hI ⟨j, ij⟩ w' ⟨hj, hij, hM, hC, hRow⟩
 simp only at hj hij hM hC hRow
 obtain ⟨ij', hij'⟩ : ∃ y : Int, y = ij - 1 := ⟨_, rfl⟩
 have eij : E.ar .sub .i64 ij 1 = ij' := by rw [hE.ar, show arR .sub .i64 ij 1 = IntKind.i64.wrap (ij - 1) from rfl, wrap_in (by omega) (by omega)]; omega
 have hx0' : Ext w0 w' := hC.ext0 h0 fun r hr g hg => (hlo r hr g hg).1
 have kC := hC.size
 have vtk : ∀ k v, (v ∈ sv.take k ∨ v ∈ lv) → InD (fun b => b < w.heap.size) v.A v.m := fun k v hv => vold v (hv.imp (fun q => List.mem_of_mem_take q) id)
 conv => cbv
 refine br (fun g2 => ?_) (fun g2 => ?_)
 ·have g2 : j < np := by
   have : 0 ≤ ij := by simpa [hE.cmp, cmpR] using g2
   omega
  obtain ⟨v, hv⟩ : ∃ v, sv[sn - j - 1]? = some v := ⟨_, g2_ (by omega)⟩
  have hvt : (sv.take (sn - j))[sn - j - 1]? = some v := by rw [List.getElem?_take, if_pos (by omega)]; exact hv
  obtain ⟨ty, hvty⟩ := hty _ v (by omega) hv
  obtain ⟨T, u, f, eiv, hcm, hfc⟩ := itv_call hvty
  obtain ⟨sm, hsm⟩ : ∃ y, y = sn - (j + 1) := ⟨_, rfl⟩
  have hpop := pop_g hM hx0'.size (by omega) (by omega) hvt (sm := sm) (by omega)
  rw [eiv, List.take_take, Nat.min_eq_left (by omega)] at hpop
  conv => cbv
  refine st_g hr hpop fun r w3 ⟨ev, hM3, hC3⟩ => ?_
  subst ev
  have hRow3 := (hC3.own hRow fun r hr g h1 h2 => by have := (hlo r hr g h1).2; have := hAlo g h2; omega).1
  have k3 := hC3.size
  conv => cbv
  refine st_if hr hcm (hfc w3) fun r w4 hx4 ev => ?_
  subst ev
  have k4 := hx4.size
  have hRow4 := hRow3.bel hx4
  have hM4 := hM3.ext hx4
  obtain ⟨gA, hAe, _⟩ := hRow4.addr (by omega)
  obtain ⟨y, hy⟩ : ∃ y, y = cnV v := ⟨_, rfl⟩
  have hrs := row_step (v0 := v0) hl g2 hle hv
  rw [← hy] at hrs ⊢
  obtain ⟨⟨yk, yn, yt, yx⟩, yA, ym, yc⟩ := y
  rw [hAe] at hRow4
  conv => cbv
  refine st_idx hE sIV hAe (by omega) (by omega) fun p3 hp3 => ?_
  rw [show ij.toNat = np - 1 - j by omega] at hp3
  conv => cbv
  refine st_putS hr (vs := [.int .i64 yk, .int .i64 yn, .string yt, .slice yA ym yc]) (by kernel_rfl) hRow4 (j := (np - 1 - j) * 4) hp3 (by rw [fl_len vC_len]; simp; omega) (by simp [Value.oneCell']) fun w5 hw5 ho5 => ?_
  rw [show ([.int .i64 yk, .int .i64 yn, .string yt, .slice yA ym yc] : List Value) = vC ⟨⟨yk, yn, yt, yx⟩, yA, ym, yc⟩ from rfl, fl_put vC_len _ (np - 1 - j) _ (by simp; omega), hrs] at ho5
  rw [← hAe] at hw5 ho5
  have far : ∀ r ∈ [some q, SA, LA], ∀ g, blk r = some g → g < w.heap.size := fun r hr g hg => (hlo r hr g hg).2
  have hM5 : MM w0.heap.size w5 q ra A n c sl A2 n2 c2 z k cd N nm nc s p SA sm sc (sv.take sm) LA ln lc lv := ⟨hM4.box.wr hw5 (dj_apart hM4.box fun g h1 h2 => by have := far _ (by simp) g h1; have := hAlo g h2; omega), hM4.im.far hw5 hAlo (far _ (by simp)) (far _ (by simp)) (vtk sm), hM4.dS, hM4.dL⟩
  have hC5 : CSt w [some q, SA, LA] w5 [some q, SA, LA] := ((hC.trans hC3).trans (CSt.of_ext hx4 _)).far hw5 hAlo
  conv => cbv
  simp only [eij]
  refine ⟨(j + 1, ij'), by simp [Fits, lk], hI _ _ ⟨by simp only; omega, by simp only; omega, by simp only; rw [← hsm]; exact hM5, hC5, ho5⟩, by simp only; omega⟩
 ·have g2 : j = np := by
   have : ¬ 0 ≤ ij := by simpa [hE.cmp, cmpR] using g2
   omega
  rw [g2] at hM hRow
  rw [Nat.sub_self, List.replicate_zero, a2_] at hRow
  have hdl : ((sv.drop (sn - np)).map cnV).length = np := by rw [List.length_map, List.length_drop]; omega
  obtain ⟨tx, hvx⟩ := hty _ x (by omega) hx
  obtain ⟨ty', hvy⟩ := hty _ y (by omega) hy
  have f := bx_form h.box
  have dr : ∀ b, DR q.block (q.block + 1) w SA LA b → b < w.heap.size ∧ ∀ r ∈ [some q, SA, LA], blk r ≠ some b := fun b hb => ⟨hb.1, fun r hr e => by
   simp only [List.mem_cons, List.not_mem_nil, or_false] at hr
   rcases hr with rfl | rfl | rfl
   ·rw [f.2.2] at e; cases e; have := hb.2.2.2; omega
   ·exact hb.2.1 e
   ·exact hb.2.2.1 e⟩
  have hxv := h.im.vals x (.inl (m1_ hx))
  have hyv := h.im.vals y (.inl (m1_ hy))
  have hxw := cnV_m hvx ⟨valm_cst hC hxv.1 hxv.2 dr, hxv.2⟩
  have hyw := cnV_m hvy ⟨valm_cst hC hyv.1 hyv.2 dr, hyv.2⟩
  have hop := operate_f (he.ext hx0') (hT.ext hx0') h8 h24 (c := np) hRow.cells hdl (by omega) (x := cnV x) (y := cnV y) (by rw [List.getElem?_map, List.getElem?_drop, Nat.add_zero, hx]; rfl) (fun h11 => by rw [List.getElem?_map, List.getElem?_drop, show sn - np + 1 = sn - 1 by have := hnp2 h11; omega, hy]; rfl) hxw.1 (fun _ => hyw.1) (by rw [cnV_p, cnV_p]; exact hok)
  rw [cnV_p, cnV_p] at hop
  have hlo' := hM.lo
  conv => cbv
  refine st_f hr hop fun r w4 hx4 hres => ?_
  have hM4 := hM.ext hx4
  have hC4 := hC.trans (CSt.of_ext hx4 _)
  cases hR0 : opR op x.p y.p with
  | inl cc =>
   rw [hR0] at hres hR
   simp only at hR
   obtain ⟨hc3, X, op', hre⟩ := hres
   obtain ⟨⟨Xk, Xn, Xt, Xx⟩, XA, Xm, Xc⟩ := X
   obtain ⟨ea, hea⟩ : ∃ a, a = sentA zz oo vv cc := ⟨_, rfl⟩
   rw [← hea] at hre hR
   subst hre
   conv => cbv
   refine st_alloc hr tIV rfl fun q7 w5 hx5 hq0 => ?_
   conv => cbv
   refine st_putS hr (by kernel_rfl) (hq0 _ (n1_ _)) (add_zero _).symm (by simp [zV]) (by simp [Value.oneCell']) fun w6 hw6 h7 => ?_
   have hx56 := hx5.then (hw6.bel (hq0 _ (n1_ _)) hx5.size)
   conv => cbv
   refine st_neSome hE Tryz.underlying134 ?_
   conv => cbv
   rw [hR]
   exact ⟨hc3, ⟨op', rfl⟩, ⟨sn - np, hM4.ext hx56⟩, hC4.trans (CSt.of_ext hx56 _)⟩
  | inr rp =>
   rw [hR0] at hres hR
   simp only at hR
   obtain ⟨h1k, h4k⟩ := hrk rp hR0
   obtain ⟨X, hre, hXp, hXm, hXi⟩ := hres
   rw [← hXp] at h1k h4k
   have hit := fun w => itemOf_f (w := w) X h1k h4k
   obtain ⟨⟨Xk, Xn, Xt, Xx⟩, XA, Xm, Xc⟩ := X
   subst hre
   conv => cbv
   refine st_alloc hr tIV rfl fun q7 w5 hx5 hq0 => ?_
   conv => cbv
   refine st_putS hr (by kernel_rfl) (hq0 _ (n1_ _)) (add_zero _).symm (by simp [zV]) (by simp [Value.oneCell']) fun w6 hw6 h7 => ?_
   simp only [zV, a1_, a2_, a3_, a4_, a5_, a6_, a7_] at h7
   have hx56 := hx5.then (hw6.bel (hq0 _ (n1_ _)) hx5.size)
   conv => cbv
   refine st_neNil hE Tryz.underlying134 ?_
   conv => cbv
   refine st_loadS hE tIV rfl h7.at ?_
   conv => cbv
   obtain ⟨iv, hiv⟩ : ∃ iv, iv = itV ⟨⟨Xk, Xn, Xt, Xx⟩, XA, Xm, Xc⟩ := ⟨_, rfl⟩
   have hitw := hit w6
   rw [← hiv] at hitw
   refine st_f hr hitw fun r w7 hx7 ev => ?_
   subst ev
   have hx67 := hx56.trans hx7
   have hM7 := hM4.ext hx67
   have kk := hx67.size
   have k44 := hx4.size
   obtain ⟨sm, hsm⟩ : ∃ y, y = sn - np := ⟨_, rfl⟩
   rw [← hsm] at hM7
   have hpu := push_g hM7 (by have := hx0'.size; omega) (by omega) (x := ⟨⟨Xk, Xn, Xt, Xx⟩, XA, Xm, Xc⟩) ⟨hXm.ext hx67, hXi.mono fun b hb => ⟨by have := hb.2; omega, fun e => by have := (hlo' _ (by simp) b e).2; have := hb.1; omega, fun e => by have := (hlo' _ (by simp) b e).2; have := hb.1; omega, .inr (by have := (hlo' (some q) (by simp) _ f.2.2).2; have := hb.1; omega)⟩⟩
   rw [← hiv] at hpu
   conv => cbv
   refine st_g hr hpu fun _ w8 ⟨S1, c1, n1, hn1', hM8, hC8⟩ => ?_
   conv => cbv
   rw [hR]
   exact ⟨rfl, S1, c1, n1, _, by omega, hXp, by rw [← hsm]; exact hM8, (hC4.trans (CSt.of_ext hx67 _)).trans hC8⟩
end
end Go.Proofs.YtkedmcebngachaaGreatDoor
namespace Go.Eng
set_option linter.unusedVariables false
set_option linter.unusedSimpArgs false
section
variable {P : Program} {Pn : List PanicEntry → World → Prop} {n : Nat}
variable {E : Sym} {w : World} {K : Value → World → Prop} {d : Option Tmp} {ty : TypeId} {pos : String} {aft : Array Edge} {g : Option (Nat × Bool)}
theorem append_types {t t2 e e2 : TypeId} (ht : P.underlying t = some (.slice e)) (h2 : P.underlying t2 = some (.slice e2)) (ty : TypeId) (v x : Value) (w : World) : (Builtin.append_ #[t, t2] ty #[v, x]).run P w = (Builtin.append_ #[t, t] ty #[v, x]).run P w := by
 cases v <;> simp [Builtin.append_, run_underlying ht, run_underlying h2]
theorem st_appsT (hE : E = real P Pn n) {t t2 e e2 : TypeId} {z : Value} {b : Nat} (ht : Slc P t e z 1 b) (h2t : P.underlying t2 = some (.slice e2)) (hz : z.cells = #[z]) {B : Nat} {A A1 : Option Addr} {m c m1 c1 : Nat} {xs vs : List Value} {ao : Array Operand} (h : Own B e 1 w A m c xs) (hn : Cells w A1 vs) (hl : vs.length = m1) (hv : ∀ v ∈ vs, v.oneCell' = true)
  (hB : B ≤ w.heap.size) (hb : (m + m1) * b ≤ 140737488355328) (hm : m + m1 ≤ 9223372036854775807)
  (hk : ∀ A' c' m' w', m' = m + m1 → Wr A w w' → Own B e 1 w' A' m' c' (xs ++ vs) → K (.slice A' m' c') w') : E.stop ⟨d, .call ⟨.builtin .append, ao, #[t, t2]⟩, ty, pos, aft, g⟩ [.slice A m c, .slice A1 m1 c1] w K := by
 obtain ⟨i0, h1, h2, h3, h4⟩ := ht.info
 cases A1 with
 | none =>
  have h0 : vs = [] := by
   rcases Nat.eq_zero_or_pos vs.length with h0 | h0
   ·exact List.length_eq_zero_iff.1 h0
   ·obtain ⟨a, ha⟩ := hn.1 h0; cases ha
  subst h0
  simp only [a4_] at hl
  subst hl
  refine st_run hE (v := .slice A m c) (w' := w) (fun ρ hρ => ?_) (hk _ _ _ _ rfl (Wr.refl _ _) (by simpa using h))
  have h3' := map_of (ao := ao) hρ
  simp [execOp, resolve, invoke, builtin, h3', append_types ht.u h2t, run_append_none ht.u h1 h]
 | some a1 =>
  obtain ⟨v', w', hr, hown, hg, _, _⟩ := run_append_own_at (P := P) w B t ty e i0 z 1 b ht.u h1 h2 h3 h4 (by rw [hz]; rfl) (by omega) (.slice A m c) m xs h a1 m1 c1 vs (by omega)
   (fun j u hu => hn.2 a1 rfl j u hu) hv (by unfold maxLen; omega) hb hB
  have hform : ∃ A' c', v' = .slice A' (m + m1) c' := by
   rcases hown.2 with ⟨h5, h6⟩ | ⟨g, cap, cur, h5, _⟩
   ·exact ⟨none, 0, by rw [h5, h6]⟩
   ·exact ⟨_, _, h5⟩
  obtain ⟨A', c', rfl⟩ := hform
  refine st_run hE (v := .slice A' (m + m1) c') (w' := w') (fun ρ hρ => ?_) (hk _ _ _ _ rfl ?_ hown)
  ·have h3' := map_of (ao := ao) hρ
   simp [execOp, resolve, invoke, builtin, h3', append_types ht.u h2t, hr]
  ·cases A <;> exact hg
end
end Go.Eng
namespace Go.Proofs.YtkedmcebngachaaGreatDoor
open Go.Eng
set_option linter.unusedVariables false
set_option linter.unusedSimpArgs false
theorem sw_max2 {P : Program} {S : World → Prop} {E : Sym} {w : World} {K : Value → World → Prop} {d : Option Tmp} {ty : TypeId} {pos : String} {aft : Array Edge} {g : Option (Nat × Bool)} (hE : EngW S P E) {ao : Array Operand} {ts : Array TypeId} {a b : Int} (hk : ∀ r : Int, r = max a b → K (.int .i64 r) w) : E.stop ⟨d, .call ⟨.builtin .max, ao, ts⟩, ty, pos, aft, g⟩ [.int .i64 a, .int .i64 b] w K := by
 refine hE.det (v := .int .i64 (max a b)) (fun w1 hs ρ hρ => ?_) (hk _ rfl)
 have h3 := map_of (ao := ao) (ρ := ρ) (l := [.int .i64 a, .int .i64 b]) (by simpa [opnds] using hρ)
 have e : ∀ x y : Int, (if y > x then y else x) = max x y := fun x y => by rw [Int.max_def]; split <;> split <;> omega
 simp [execOp, resolve, invoke, builtin, h3, Builtin.max_, Builtin.max2, e]
theorem top_ty {pv : List PV} {sl : Int} {is : List (Int × Int)} {m : Int} {F : Sts} (hV : VerS pv sl is m F) {a : Nat} {o g : Int} (ha : is[a]? = some (o, g)) {s : St} (hs : F a = some s) {st ss : List PV} (hT : StT s st ss) {x : PV} (hx : st[st.length - 1]? = some x) : (o = 23 → valV 1 x) ∧ (o = 25 → valV 4 x) := by
 obtain ⟨s0, k1, k2, k3, k4, k5, k6⟩ := hV.step a o g ha
 rw [hs] at k1
 cases k1
 obtain ⟨r1, r2, r3, r4, r5⟩ := stepF_ok k2
 have hlen := hT.len
 have w23 : (wantF 23).length = 1 := by decide
 have w25 : (wantF 25).length = 1 := by decide
 refine ⟨fun e => ?_, fun e => ?_⟩
 ·subst e
  have h4 := r3.2.1 rfl
  rw [w23, List.getElem?_drop, Nat.add_zero, ← hlen] at h4
  exact hT.val _ 1 x h4 hx
 ·subst e
  have h4 := r3.2.2.1 rfl
  rw [w25, List.getElem?_drop, Nat.add_zero, ← hlen] at h4
  exact hT.val _ 4 x h4 hx
theorem taBool (v : Value) (w : World) : (Instr.typeAssert (.iface 179 v) 171 179 false).run Tryz.prog w = .ok v w := by kernel_rfl
theorem taSet (v : Value) (w : World) : (Instr.typeAssert (.iface 180 v) 171 180 false).run Tryz.prog w = .ok v w := by kernel_rfl
theorem st_tas {bq : Bool} {E : Sym} {w : World} {K : Value → World → Prop} {d : Option Tmp} {ty : TypeId} {pos : String} {aft : Array Edge} {g : Option (Nat × Bool)} (hE : EngB bq Tryz.prog E) {xt t : TypeId} {x : Operand} {v r : Value} (hr : ∀ w, (Instr.typeAssert v xt t false).run Tryz.prog w = .ok r w) (hk : K r w) : E.stop ⟨d, .typeAssert x xt t false, ty, pos, aft, g⟩ [v] w K := by
 refine hE.det (v := r) (fun w1 _ ρ hρ => ?_) hk
 simp only [opnds, b2_, b3_, b1_, and_true] at hρ
 simp [execOp, hρ, hr]
section
variable {w0 w w' : World} {q ra : Addr} {A : Option Addr} {n c : Nat} {sl : Int} {A2 : Option Addr} {n2 c2 : Nat} {z : Int} {SA : Option Addr} {sn sc : Nat} {sv : List VV} {LA : Option Addr} {ln lc : Nat} {lv : List VV}
def StepR (w0 w : World) (q ra : Addr) (A : Option Addr) (n c : Nat) (sl : Int) (A2 : Option Addr) (n2 c2 : Nat) (stp pk : Nat) (SA LA : Option Addr) (ln lc : Nat) (R : RS) (r : Value) (w' : World) : Prop := match R with
 | .done oc => r = .bool false ∧ Ext w0 w' ∧ ∃ (N : Option Addr) (nm nc : Nat) (V : List Value), V.length = 7 ∧ Box w0.heap.size 87 12 w' q (V ++ [.int .i64 (ocOf oc).1, .int .i64 (ocOf oc).2.1, .slice N nm nc, .int .i64 ((stp + 1 : Nat) : Int), .int .i64 (pk : Int)]) ∧ Own w.heap.size 9 1 w' N nm nc ((ocOf oc).2.2.map .string) ∧ (∀ s ∈ (ocOf oc).2.2, s.size ≤ 9223372036854775807) ∧ (ocOf oc).2.2.length ≤ 64
 | .go a' st' sl' => r = .bool true ∧ ∃ SA' sn' sc' sv' lv', MM w0.heap.size w' q ra A n c sl A2 n2 c2 (a' : Int) 0 0 none 0 0 ((stp + 1 : Nat) : Int) ((max pk sn' : Nat) : Int) SA' sn' sc' sv' LA ln lc lv' ∧ sv'.map (·.p) = st' ∧ lv'.map (·.p) = sl' ∧ CSt w [some q, SA, LA] w' [some q, SA', LA]
theorem step_g {zz oo vv : Addr} (h0 : Ext w0 w) (he : Errs w0 zz oo vv) (hT : Tab w0 5 calcF) (hT2 : Tab w0 3 opF) {pv : List PV} {is : List (Int × Int)} (hcode : CodeR w0 A n A2 n2 pv is) {rq : RQ} (hrq : RqR (fun b => b < w0.heap.size) w0 ra rq) (hqv : ReqV (rqP rq)) (hpv : PoolV pv)
  {m : Int} {F : Sts} (hV : VerS pv sl is m F) (hsh : shapeP pv sl is) {a : Nat} (hz : z = (a : Int)) {o g : Int} (hio : is[a]? = some (o, g)) {s : St} (hFa : F a = some s) (hST : StT s (sv.map (·.p)) (lv.map (·.p))) (hln : (lv.length : Int) = sl) {stp pk : Nat} (hstp : stp ≤ a) (hpk : pk ≤ a) (hsa : sn ≤ a)
  (h : MM w0.heap.size w q ra A n c sl A2 n2 c2 z 0 0 none 0 0 stp pk SA sn sc sv LA ln lc lv) :
  GC Tryz.prog 45 [.pointer (some q)] w (StepR w0 w q ra A n c sl A2 n2 c2 stp pk SA LA ln lc (stepV pv (rqP rq) a o g (sv.map (·.p)) (lv.map (·.p)))) := by
 have hok := stepV_ok hV hsh hio hFa hST (by rw [List.length_map]; exact hln)
 have htyp := (step_typ hV hsh hpv hqv hio hFa hST (by rw [List.length_map]; exact hln)).2
 have hil := hcode.ins.len
 have hpl := hcode.pool.len
 have his := hsh.2.2.2.1
 have ha := (List.getElem?_eq_some_iff.1 hio).1
 obtain ⟨aI, o', g', hA2, hio', hcI⟩ := hcode.ins.get (i := a) (by omega)
 rw [hio] at hio'
 cases hio'
 have hlo := h.lo
 have hl := h.im.slen
 have hll := h.im.llen
 have f := bx_form h.box
 have s00 := h0.size
 obtain ⟨SV, hSV⟩ : ∃ R, R = stepV pv (rqP rq) a o g (sv.map (·.p)) (lv.map (·.p)) := ⟨_, rfl⟩
 rw [← hSV]
 refine GC.intro (cs := [28]) Tryz.func45 (by kernel_rfl) fun E R hE hr hR => ?_
 obtain ⟨stpz, hstpz⟩ : ∃ y : Int, y = (stp : Int) := ⟨_, rfl⟩
 obtain ⟨pkz, hpkz⟩ : ∃ y : Int, y = (pk : Int) := ⟨_, rfl⟩
 obtain ⟨z1, hz1⟩ : ∃ y : Int, y = z + 1 := ⟨_, rfl⟩
 obtain ⟨s1, hs1'⟩ : ∃ y : Int, y = stpz + 1 := ⟨_, rfl⟩
 have ez1 : E.ar .add .i64 z 1 = z1 := by rw [hE.ar, hz1]; exact wrap_in (by omega) (by omega)
 have es1 : E.ar .add .i64 stpz 1 = s1 := by rw [hE.ar, hs1']; exact wrap_in (by omega) (by omega)
 rw [← hstpz, ← hpkz] at h
 conv => cbv
 refine draw_zsa (fun w1 => Ext w w1) [1, 2, 3, 4, 6, 7, 8, 9, 10] [0, 1, 2, 3, 4, 5, 6, 7, 8, 9, 10] [(11, .c), (12, .w)] hr fol (by kernel_rfl) (fun w1 hs => hs.ext) fun E' hE' har w1 hs1 => ?_
 conv => cbv
 refine sw_nil hE' ?_
 conv => cbv
 refine sw_fld hE' fMa0 fun p1 hp1 => ?_
 rw [add_zero] at hp1
 rw [hp1]
 conv => cbv
 refine sw_fld hE' fIC2 fun p2 hp2 => ?_
 conv => cbv
 refine sw_load hE' cIIs (v := .slice A2 n2 c2) (fun w1 h1 => by rw [hp2]; exact h1.cell (h.box.at 2 _ rfl)) ?_
 conv => cbv
 refine sw_nil hE' ?_
 conv => cbv
 refine sw_fld hE' fMa4 fun p3 hp3 => ?_
 conv => cbv
 refine sw_load hE' cInt (v := .int .i64 z) (fun w1 h1 => by rw [hp3]; exact h1.cell (h.box.at 6 _ rfl)) ?_
 conv => cbv
 refine sw_idx hE' sII hA2 (by omega) (by omega) fun p4 hp4 => ?_
 rw [show z.toNat = a by omega] at hp4
 conv => cbv
 refine sw_loadS hE' tII (vs := [.int .i64 o, .int .i64 g]) rfl (fun w1 h1 => by rw [hp4]; exact fun j u hu => (h0.trans h1).cell (hcI j u hu)) ?_
 conv => cbv
 have x1 := hs1.ext
 refine st_alloc hr tII rfl fun q3 w2 hx2 hq0 => ?_
 have h3 := hq0 _ (n1_ _)
 have f3 := bx_form h3
 clear hq0
 refine ⟨x1.trans hx2, ?_⟩
 conv => cbv
 refine st_putS hr (by kernel_rfl) h3 (add_zero _).symm (by simp) (by simp [Value.oneCell']) fun w3 hw3 h3' => ?_
 simp only [a1_, a2_, a3_, a4_, a5_, a6_, a7_] at h3'
 have x3 := (x1.trans hx2).then (hw3.bel (h3.mono x1.size) (x1.trans hx2).size)
 have h3 := h3'
 clear h3' hw3 hx2
 have hM3 := h.ext x3
 have k1 := x1.size
 conv => cbv
 refine st_nil hE ?_
 conv => cbv
 refine st_fld hE fMa4 fun p5 hp5 => ?_
 conv => cbv
 refine st_load hE cInt (by rw [hp5]; exact hM3.box.at 6 _ rfl) ?_
 conv => cbv
 simp only [ez1]
 conv => cbv
 refine st_nil hE ?_
 conv => cbv
 refine st_fld hE fMa4 fun p6 hp6 => ?_
 conv => cbv
 refine st_put hr zInt hM3.box hp6 (by simp) rfl fun w4 hw4 hb4 => ?_
 simp only [b4_, b5_] at hb4
 have hM4 := hM3.put hw4 hb4
 have h34 := h3.wr hw4 (bx_apart f3.2.2 f.2.2 (by omega))
 have hC4 := (CSt.of_ext x3 [some q, SA, LA]).trans (CSt.of_wr hw4 (by simp))
 clear hb4 hw4 hM3
 conv => cbv
 refine st_nil hE ?_
 conv => cbv
 refine st_fld hE fMa5 fun p7 hp7 => ?_
 conv => cbv
 refine st_fld hE fTr1 fun p8 hp8 => ?_
 rw [hp7, add_add, show 7 + 3 = 10 from rfl] at hp8
 conv => cbv
 refine st_load hE cInt (by rw [hp8]; exact hM4.box.at 10 _ rfl) ?_
 conv => cbv
 simp only [es1]
 conv => cbv
 refine st_nil hE ?_
 conv => cbv
 refine st_fld hE fMa5 fun p9 hp9 => ?_
 conv => cbv
 refine st_fld hE fTr1 fun p10 hp10 => ?_
 rw [hp9, add_add, show 7 + 3 = 10 from rfl] at hp10
 conv => cbv
 refine st_put hr zInt hM4.box hp10 (by simp) rfl fun w5 hw5 hb5 => ?_
 simp only [b4_, b5_] at hb5
 have hM5 := hM4.put hw5 hb5
 have h35 := h34.wr hw5 (bx_apart f3.2.2 f.2.2 (by omega))
 have hC5 := hC4.trans (CSt.of_wr hw5 (by simp))
 clear hb5 hw5 hM4 h34 hC4
 have hx05 : Ext w0 w5 := hC5.ext0 h0 fun r hr g hg => (hlo r hr g hg).1
 have k5 := hC5.size
 conv => cbv
 refine cut_rule [] [] hr (fun (t : Int × Option Addr × Nat × Nat × List VV × List VV) wc => MM w0.heap.size wc q ra A n c sl A2 n2 c2 t.1 0 0 none 0 0 s1 pkz t.2.1 t.2.2.1 t.2.2.2.1 t.2.2.2.2.1 LA ln lc t.2.2.2.2.2 ∧ CSt w [some q, SA, LA] wc [some q, t.2.1, LA] ∧ ∃ a' : Nat, t.1 = (a' : Int) ∧ SV = .go a' (t.2.2.2.2.1.map (·.p)) (t.2.2.2.2.2.map (·.p)))
  (fun _ => [(0, .pointer (some q))]) (fun J hJ => ?_) ?_
 ·have ko1 := hok.o1
  have ko2 := hok.o2
  have kg1 := hok.g1
  have kg2 := hok.g2
  have hpl' := hok.pool
  have hsl' := hok.slot
  have hon' := hok.one
  rw [List.length_map] at hsl' hon'
  have oldD : ∀ {wc : World} {S1 : Option Addr}, w0.heap.size ≤ wc.heap.size → (∀ g, blk S1 = some g → w0.heap.size ≤ g) → ∀ b, b < w0.heap.size → DR q.block (q.block + 1) wc S1 LA b := fun h1 h2 b hb => ⟨by omega, fun e => by have := h2 b e; omega, fun e => by have := (hlo _ (by simp) b e).1; omega, .inl (by have := f.1; omega)⟩
  have hS0 : ∀ g, blk SA = some g → w0.heap.size ≤ g := fun g hg => (hlo _ (by simp) g hg).1
  have hx05s := hx05.size
  conv => cbv
  (refine st_fld hE fII0 fun p hp => ?_; (conv => cbv); refine st_load hE cInt (by rw [hp]; exact (h35).at _ _ rfl) ?_; clear hp; (conv => cbv))
  by_cases eo1 : o = 1
  ·obtain ⟨aP, vk, vz, vt, vx, AP, mP, cP, hAP, hpe, hcP, hsP, htP⟩ := hcode.pool.get (i := g.toNat) (by have := hpl' eo1; omega)
   have hvk := val_ty (hpv _ (m1_ hpe))
   simp only at hvk
   obtain ⟨iv, hiv⟩ : ∃ iv, iv = itV ⟨⟨vk, vz, vt, vx⟩, AP, mP, cP⟩ := ⟨_, rfl⟩
   have hit := fun w => itemOf_f (w := w) ⟨⟨vk, vz, vt, vx⟩, AP, mP, cP⟩ (by simp only; omega) (by simp only; omega)
   rw [← hiv] at hit
   (refine br (fun _ => ?_) (fun q => absurd (show E.cmp .eql o 1 = true by rw [hE.cmp, eo1]; simp [cmpR]) q); (conv => cbv))
   refine draw_zsa (fun w1 => Ext w5 w1) [2, 3, 4, 5, 6, 7, 8, 9] [0, 1, 2, 3, 4, 5, 6, 7, 8, 9] [(10, .c), (11, .w)] hr fol (by kernel_rfl) (fun w1 hs => hs.ext) fun E' hE' har w6 hs6 => ?_
   conv => cbv
   refine sw_nil hE' ?_
   conv => cbv
   refine sw_fld hE' fMa0 fun p1 hp1 => ?_
   rw [add_zero] at hp1
   rw [hp1]
   conv => cbv
   refine sw_fld hE' fIC0 fun p2 hp2 => ?_
   conv => cbv
   refine sw_load hE' cIVs (v := .slice A n c) (fun w1 h1 => by rw [hp2]; exact h1.cell (hM5.box.at 0 _ rfl)) ?_
   conv => cbv
   refine sw_fld hE' fII1 fun p3 hp3 => ?_
   conv => cbv
   refine sw_load hE' cInt (v := .int .i64 g) (fun w1 h1 => by rw [hp3]; exact h1.cell (h35.at 1 _ rfl)) ?_
   conv => cbv
   refine sw_idx hE' sIV hAP kg1 (by have := hpl' eo1; omega) fun p4 hp4 => ?_
   conv => cbv
   refine sw_loadS hE' tIV (vs := [.int .i64 vk, .int .i64 vz, .string vt, .slice AP mP cP]) rfl (fun w1 h1 => by rw [hp4]; exact fun j u hu => (hx05.trans h1).cell (hcP j u hu)) ?_
   conv => cbv
   refine st_f hr (hit w6) fun r w7 hx7 ev => ?_
   subst ev
   have x57 := hs6.ext.trans hx7
   have hM7 := hM5.ext x57
   have k57 := x57.size
   refine ⟨x57, ?_⟩
   have hpu := push_g hM7 (by omega) (by omega) (x := ⟨⟨vk, vz, vt, vx⟩, AP, mP, cP⟩) ⟨⟨hsP.ext (hx05.trans x57), htP⟩, (strs_in hsP).mono (oldD (by omega) hS0)⟩
   rw [← hiv] at hpu
   conv => cbv
   refine st_g hr hpu fun _ w8 ⟨S1, c1, n1, hn1', hM8, hC8⟩ => ?_
   conv => cbv
   refine ⟨(z1, S1, n1, c1, sv ++ [⟨⟨vk, vz, vt, vx⟩, AP, mP, cP⟩], lv), by simp [Fits, lk], hJ _ _ ⟨hM8, (hC5.trans (CSt.of_ext x57 _)).trans hC8, a + 1, by simp only; omega, ?_⟩⟩
   rw [hSV]
   unfold stepV
   rw [if_pos eo1, List.getD_eq_getElem?_getD, hpe]
   simp
  (refine br (fun q => absurd (show o = 1 by simpa [hE.cmp, cmpR] using q) (by omega)) (fun _ => ?_); (conv => cbv))
  by_cases eo2 : o = 2
  ·have hg6 := hok.attr eo2
   (refine br (fun _ => ?_) (fun q => absurd (show E.cmp .eql o 2 = true by rw [hE.cmp, eo2]; simp [cmpR]) q); (conv => cbv))
   refine draw_t [0, 2, 3, 7, 8, 9, 10] [(1, true), (4, true), (5, true), (6, true), (11, true), (12, true), (13, false)] hr fol (by kernel_rfl) fun E' hE' w6 hs6 S hS => ?_
   have x56 := hs6.ext
   conv => cbv
   refine st_fld hE' fII1 fun p1 hp1 => ?_
   conv => cbv
   refine st_load hE' cInt (by rw [hp1]; exact x56.cell (h35.at 1 _ rfl)) ?_
   conv => cbv
   refine st_nil hE' ?_
   conv => cbv
   refine st_fld hE' fMa1 fun p2 hp2 => ?_
   conv => cbv
   refine st_load hE' cPrq (by rw [hp2]; exact x56.cell (hM5.box.at 3 _ rfl)) ?_
   conv => cbv
   refine st_f hr (attributes_f w6) fun u w7 hx7 ⟨aa, ev, hat⟩ => ?_
   subst ev
   refine ⟨hS _ hx7, ?_⟩
   have x57 := x56.trans hx7
   obtain ⟨s5, t5, f5, hf5, hcall⟩ := attr_f (hrq.ext (hx05.trans x57)) (i := g.toNat) (by omega)
   obtain ⟨ab, hab, hcell⟩ := fl_at aC_len hat.cells (by omega) hf5
   cases hab
   conv => cbv
   refine st_idx hE sAr rfl (by omega) (by omega) fun p hp => ?_
   refine ⟨hS _ hx7, ?_⟩
   conv => cbv
   refine st_fld hE fAr2 fun p3 hp3 => ?_
   refine ⟨hS _ hx7, ?_⟩
   conv => cbv
   refine st_load hE cFat (by rw [hp3, hp]; exact hcell 2 _ rfl) ?_
   refine ⟨hS _ hx7, ?_⟩
   conv => cbv
   refine st_f hr hcall fun r w8 hx8 ⟨x, ev, hxp, hxm, hxi⟩ => ?_
   have hvk := val_ty (hqv.2 _ _ hxp)
   obtain ⟨iv, hiv⟩ : ∃ iv, iv = itV x := ⟨_, rfl⟩
   have hit := fun w => itemOf_f (w := w) x (by omega) (by omega)
   rw [← hiv] at hit
   have x58 := x57.trans hx8
   have k58 := x58.size
   have hpu := fun w9 (hx9 : Ext w8 w9) => push_g (hM5.ext (x58.trans hx9)) (by have := hx9.size; omega) (by omega) (x := x) ⟨hxm.ext hx9, hxi.mono (oldD (by have := hx9.size; omega) hS0)⟩
   rw [← hiv] at hpu
   obtain ⟨⟨xk, xn, xt, xx⟩, xA, xm, xc⟩ := x
   subst ev
   refine ⟨hS _ (hx7.trans hx8), ?_⟩
   conv => cbv
   refine st_f hr (hit w8) fun r w9 hx9 ev => ?_
   subst ev
   refine ⟨hS _ ((hx7.trans hx8).trans hx9), ?_⟩
   conv => cbv
   refine st_g hr (hpu w9 hx9) fun _ w10 ⟨S1, c1, n1, hn1', hM8, hC8⟩ => ?_
   conv => cbv
   refine ⟨(z1, S1, n1, c1, sv ++ [⟨⟨xk, xn, xt, xx⟩, xA, xm, xc⟩], lv), by simp [Fits, lk], hJ _ _ ⟨hM8, (hC5.trans (CSt.of_ext (x58.trans hx9) _)).trans hC8, a + 1, by simp only; omega, ?_⟩⟩
   rw [hSV]
   unfold stepV
   rw [if_neg eo1, if_pos eo2, List.getD_eq_getElem?_getD, hxp]
   simp
  (refine br (fun q => absurd (show o = 2 by simpa [hE.cmp, cmpR] using q) (by omega)) (fun _ => ?_); (conv => cbv))
  by_cases eo3 : o = 3
  ·have hgs := hsl' (.inl eo3)
   obtain ⟨x, hxq⟩ : ∃ x, lv[g.toNat]? = some x := ⟨_, g2_ hgs⟩
   obtain ⟨iv, hiv⟩ : ∃ iv, iv = itV x := ⟨_, rfl⟩
   obtain ⟨aL, hLA⟩ := hM5.im.sl.cells.1 (by rw [List.length_map]; omega)
   have hcL := hM5.im.sl.cells.2 aL hLA g.toNat iv (by rw [List.getElem?_map, hxq, hiv]; rfl)
   (refine br (fun _ => ?_) (fun q => absurd (show E.cmp .eql o 3 = true by rw [hE.cmp, eo3]; simp [cmpR]) q); (conv => cbv))
   refine draw_zsa (fun w1 => Ext w5 w1) [2, 3, 4, 5, 6, 7, 8] [0, 1, 2, 3, 4, 5, 6, 7, 8] [(9, .w)] hr fol (by kernel_rfl) (fun w1 hs => hs.ext) fun E' hE' har w6 hs6 => ?_
   conv => cbv
   refine sw_nil hE' ?_
   conv => cbv
   refine sw_fld hE' fMa3 fun p1 hp1 => ?_
   conv => cbv
   refine sw_load hE' cIts (v := .slice LA ln lc) (fun w1 h1 => by rw [hp1]; exact h1.cell (hM5.box.at 5 _ rfl)) ?_
   conv => cbv
   refine sw_fld hE' fII1 fun p3 hp3 => ?_
   conv => cbv
   refine sw_load hE' cInt (v := .int .i64 g) (fun w1 h1 => by rw [hp3]; exact h1.cell (h35.at 1 _ rfl)) ?_
   conv => cbv
   refine sw_idx hE' sIt hLA kg1 (by omega) fun p4 hp4 => ?_
   rw [Nat.mul_one] at hp4
   conv => cbv
   refine sw_load hE' cIt (v := iv) (fun w1 h1 => by rw [hp4]; exact h1.cell hcL) ?_
   have x56 := hs6.ext
   have hM6 := hM5.ext x56
   have hpu := push_g hM6 (by have := x56.size; omega) (by omega) (x := x) (hM6.im.vals x (.inr (m1_ hxq)))
   rw [← hiv] at hpu
   conv => cbv
   refine st_g hr hpu fun _ w8 ⟨S1, c1, n1, hn1', hM8, hC8⟩ => ?_
   conv => cbv
   refine ⟨(z1, S1, n1, c1, sv ++ [x], lv), by simp [Fits, lk], hJ _ _ ⟨hM8, (hC5.trans (CSt.of_ext x56 _)).trans hC8, a + 1, by simp only; omega, ?_⟩⟩
   rw [hSV]
   unfold stepV
   rw [if_neg eo1, if_neg eo2, if_pos eo3, List.getD_eq_getElem?_getD, List.getElem?_map, hxq]
   simp
  (refine br (fun q => absurd (show o = 3 by simpa [hE.cmp, cmpR] using q) (by omega)) (fun _ => ?_); (conv => cbv))
  have popAt : ∀ {wc : World}, Ext w5 wc → ∀ {x : VV}, 1 ≤ sn → sv[sn - 1]? = some x → ∀ {sm : Nat}, sm = sn - 1 → GC Tryz.prog 108 [.pointer (some q)] wc fun r w' => r = itV x ∧ MM w0.heap.size w' q ra A n c sl A2 n2 c2 z1 0 0 none 0 0 s1 pkz SA sm sc (sv.take sm) LA ln lc lv ∧ CSt wc [some q, SA, LA] w' [some q, SA, LA] := fun {wc} hx {x} h1 hxq {sm} hsm => pop_g (hM5.ext hx) (by have := hx.size; omega) (by omega) h1 hxq hsm
  have mapT : (sv.take (sn - 1)).map (·.p) = (sv.map (·.p)).dropLast := by rw [List.dropLast_eq_take, List.map_take, List.length_map, hl]
  have topP : ∀ {x : VV}, 1 ≤ sn → sv[sn - 1]? = some x → (sv.map (·.p)).getLastD nonV = x.p := fun {x} h1 hxq => by
   have := getLastD_get (l := sv.map (·.p)) (d := nonV) (by rw [List.length_map]; omega)
   rw [List.length_map, List.getElem?_map, hl, hxq] at this
   exact (Option.some.inj this).symm
  by_cases eo4 : o = 4
  ·have hgs := hsl' (.inr eo4)
   have hsv1 : 1 ≤ sn := by have := hon' (.inl eo4); omega
   obtain ⟨x, hxq⟩ : ∃ x, sv[sn - 1]? = some x := ⟨_, g2_ (by omega)⟩
   have hxl := topP hsv1 hxq
   obtain ⟨sm, hsm⟩ : ∃ y, y = sn - 1 := ⟨_, rfl⟩
   obtain ⟨gL, hLe, _⟩ := hM5.im.sl.addr (by omega)
   obtain ⟨iv, hiv⟩ : ∃ iv, iv = itV x := ⟨_, rfl⟩
   have hi1 : iv.oneCell' = true := by rw [hiv]; exact itV_one x
   (refine br (fun _ => ?_) (fun q => absurd (show E.cmp .eql o 4 = true by rw [hE.cmp, eo4]; simp [cmpR]) q); (conv => cbv))
   refine draw_sa (fun w1 => w1.cell? (q.add 5) = some (.slice LA ln lc) ∧ ∀ i u, ([.int .i64 o, .int .i64 g] : List Value)[i]? = some u → w1.cell? (q3.add i) = some u) [0, 1, 2, 3, 4, 5, 6] [(7, false), (8, false), (9, false)] hr fol (by kernel_rfl) (fun w1 hs => ⟨hs.ext.cell (hM5.box.at 5 _ rfl), (h35.bel hs.ext).at⟩) fun E' hE' har w6 hs6 => ?_
   have x56 := hs6.ext
   conv => cbv
   refine sw_nil hE' ?_
   conv => cbv
   refine sw_fld hE' fMa3 fun p1 hp1 => ?_
   conv => cbv
   refine sw_load hE' cIts (v := .slice LA ln lc) (fun w1 h1 => by rw [hp1]; exact h1.1) ?_
   conv => cbv
   refine sw_fld hE' fII1 fun p3 hp3 => ?_
   conv => cbv
   refine sw_load hE' cInt (v := .int .i64 g) (fun w1 h1 => by rw [hp3]; exact h1.2 1 _ rfl) ?_
   have hpop := popAt x56 hsv1 hxq hsm
   rw [← hiv] at hpop
   conv => cbv
   refine st_g hr hpop fun r w7 ⟨ev, hM7, hC7⟩ => ?_
   subst ev
   have dq3 : ∀ {wz : World} (hz : w5.heap.size ≤ wz.heap.size), ∀ r ∈ [some q, SA, LA], Dj r (some q3) := fun _ r hr g1 e1 e2 => by rw [f3.2.2] at e2; cases e2; have := (hlo r hr _ e1).2; omega
   have h37 := (hC7.own (h35.bel x56) (dq3 (n1_ _))).1
   refine ⟨⟨hM7.box.at 5 _ rfl, h37.at⟩, ?_⟩
   conv => cbv
   refine st_idx hE sIt hLe kg1 (by omega) fun p4 hp4 => ?_
   rw [Nat.mul_one] at hp4
   refine ⟨⟨hM7.box.at 5 _ rfl, h37.at⟩, ?_⟩
   conv => cbv
   have hsl7 := hM7.im.sl
   rw [hLe] at hsl7
   refine st_put hr zIt hsl7 hp4 (by rw [List.length_map]; exact hgs) hi1 fun w8 hw8 ho8 => ?_
   rw [hiv, ← List.map_set] at ho8
   rw [← hLe] at hw8 ho8
   have hb8 := hM7.box.wr hw8 (dj_apart hM7.box hM7.dL)
   have hxv := hM5.im.vals x (.inl (m1_ hxq))
   have dr5 : ∀ b, DR q.block (q.block + 1) w5 SA LA b → b < w6.heap.size ∧ ∀ r ∈ [some q, SA, LA], blk r ≠ some b := fun b hb => ⟨by have := hb.1; have := x56.size; omega, fun r hr e => by
    simp only [List.mem_cons, List.not_mem_nil, or_false] at hr
    rcases hr with rfl | rfl | rfl
    ·rw [f.2.2] at e; cases e; have := hb.2.2.2; omega
    ·exact hb.2.1 e
    ·exact hb.2.2.1 e⟩
   have hI8 := hM7.im.set (x := x) ⟨valm_cst hC7 (hxv.1.ext x56) hxv.2 dr5, hxv.2.mono fun b hb => ⟨by have := hb.1; have := x56.size; have := hC7.size; omega, hb.2⟩⟩ (i := g.toNat) hw8 ho8
   refine ⟨⟨hb8.at 5 _ rfl, (h37.wr hw8 (dj_apart h37 (dq3 (n1_ _) LA (by simp)).symm)).at⟩, ?_⟩
   conv => cbv
   refine ⟨(z1, SA, sm, sc, sv.take sm, lv.set g.toNat x), by simp [Fits, lk], hJ _ _ ⟨⟨hb8, hI8, hM7.dS, hM7.dL⟩, ((hC5.trans (CSt.of_ext x56 _)).trans hC7).trans (CSt.of_wr hw8 (by simp)), a + 1, by simp only; omega, ?_⟩⟩
   rw [hSV]
   unfold stepV
   rw [if_neg eo1, if_neg eo2, if_neg eo3, if_pos eo4, hxl]
   simp only [hsm, mapT, List.map_set]
  (refine br (fun q => absurd (show o = 4 by simpa [hE.cmp, cmpR] using q) (by omega)) (fun _ => ?_); (conv => cbv))
  by_cases eo22 : o = 22
  ·(refine br (fun _ => ?_) (fun q => absurd (show E.cmp .eql o 22 = true by rw [hE.cmp, eo22]; simp [cmpR]) q); (conv => cbv))
   (refine st_fld hE fII1 fun p hp => ?_; (conv => cbv); refine st_load hE cInt (by rw [hp]; exact (h35).at _ _ rfl) ?_; clear hp; (conv => cbv))
   refine st_nil hE ?_
   conv => cbv
   refine st_fld hE fMa4 fun p6 hp6 => ?_
   conv => cbv
   refine st_put hr zInt hM5.box hp6 (by simp) rfl fun w6 hw6 hb6 => ?_
   simp only [b4_, b5_] at hb6
   conv => cbv
   refine ⟨(g, SA, sn, sc, sv, lv), by simp [Fits, lk], hJ _ _ ⟨hM5.put hw6 hb6, hC5.trans (CSt.of_wr hw6 (by simp)), g.toNat, by simp only; omega, ?_⟩⟩
   rw [hSV]
   unfold stepV
   rw [if_neg eo1, if_neg eo2, if_neg eo3, if_neg eo4, if_pos eo22]
  (refine br (fun q => absurd (show o = 22 by simpa [hE.cmp, cmpR] using q) (by omega)) (fun _ => ?_); (conv => cbv))
  by_cases eo23 : o = 23
  ·have hsv1 : 1 ≤ sn := by have := hon' (.inr (.inl eo23)); omega
   obtain ⟨x, hxq⟩ : ∃ x, sv[sn - 1]? = some x := ⟨_, g2_ (by omega)⟩
   have hxl := topP hsv1 hxq
   have hvx := (top_ty hV hio hFa hST (x := x.p) (by rw [List.length_map, hl, List.getElem?_map, hxq]; rfl)).1 eo23
   obtain ⟨sm, hsm⟩ : ∃ y, y = sn - 1 := ⟨_, rfl⟩
   obtain ⟨b, hb⟩ : ∃ b : Bool, b = decide (x.p.n = 1) := ⟨_, rfl⟩
   have eiv : itV x = .iface 179 (.bool b) := by
    unfold itV
    rw [if_neg (by rw [hvx.1]; omega), if_pos hvx.1, hb]
   have hpop := popAt (Ext.refl w5) hsv1 hxq hsm
   rw [eiv] at hpop
   (refine br (fun _ => ?_) (fun q => absurd (show E.cmp .eql o 23 = true by rw [hE.cmp, eo23]; simp [cmpR]) q); (conv => cbv))
   refine st_g hr hpop fun r w6 ⟨ev, hM6, hC6⟩ => ?_
   subst ev
   conv => cbv
   refine st_tas hE (taBool _) ?_
   have h36 := (hC6.own h35 fun r hr g1 e1 e2 => by rw [f3.2.2] at e2; cases e2; have := (hlo r hr _ e1).2; omega).1
   cases b with
   | false =>
    have hn0 : x.p.n = 0 := by
     have := (val1 hvx).2.1
     have : ¬ x.p.n = 1 := fun e => by rw [e] at hb; simp at hb
     omega
    conv => cbv
    (refine st_fld hE fII1 fun p hp => ?_; (conv => cbv); refine st_load hE cInt (by rw [hp]; exact (h36).at _ _ rfl) ?_; clear hp; (conv => cbv))
    refine st_nil hE ?_
    conv => cbv
    refine st_fld hE fMa4 fun p6 hp6 => ?_
    conv => cbv
    refine st_put hr zInt hM6.box hp6 (by simp) rfl fun w7 hw7 hb7 => ?_
    simp only [b4_, b5_] at hb7
    conv => cbv
    refine ⟨(g, SA, sm, sc, sv.take sm, lv), by simp [Fits, lk], hJ _ _ ⟨hM6.put hw7 hb7, (hC5.trans hC6).trans (CSt.of_wr hw7 (by simp)), g.toNat, by simp only; omega, ?_⟩⟩
    rw [hSV]
    unfold stepV
    rw [if_neg eo1, if_neg eo2, if_neg eo3, if_neg eo4, if_neg eo22, if_pos eo23, hxl, if_pos hn0]
    simp only [hsm, mapT]
   | true =>
    have hn1 : x.p.n ≠ 0 := fun e => by rw [e] at hb; simp at hb
    conv => cbv
    refine ⟨(z1, SA, sm, sc, sv.take sm, lv), by simp [Fits, lk], hJ _ _ ⟨hM6, hC5.trans hC6, a + 1, by simp only; omega, ?_⟩⟩
    rw [hSV]
    unfold stepV
    rw [if_neg eo1, if_neg eo2, if_neg eo3, if_neg eo4, if_neg eo22, if_pos eo23, hxl, if_neg hn1]
    simp only [hsm, mapT]
  (refine br (fun q => absurd (show o = 23 by simpa [hE.cmp, cmpR] using q) (by omega)) (fun _ => ?_); (conv => cbv))
  by_cases eo24 : o = 24
  ·(refine br (fun _ => ?_) (fun q => absurd (show E.cmp .eql o 24 = true by rw [hE.cmp, eo24]; simp [cmpR]) q); (conv => cbv))
   refine st_bO1 hE ?_
   conv => cbv
   refine st_nil hE ?_
   conv => cbv
   refine st_fld hE fMa5 fun p6 hp6 => ?_
   conv => cbv
   refine st_fld hE fTr0 fun p7 hp7 => ?_
   rw [hp6, add_zero] at hp7
   conv => cbv
   refine st_putS hr (vs := [.int .i64 1, .int .i64 0, .slice none 0 0]) (by kernel_rfl) hM5.box hp7 (by simp) (by simp [Value.oneCell']) fun w6 hw6 hb6 => ?_
   have hst : SV = .done .deny := by
    rw [hSV]
    unfold stepV
    rw [if_neg eo1, if_neg eo2, if_neg eo3, if_neg eo4, if_neg eo22, if_neg eo23, if_pos eo24]
   conv => cbv
   rw [hR, hst]
   refine ⟨rfl, hx05.then (hw6.bel hM5.box hx05.size), none, 0, 0, [.slice A n c, .int .i64 sl, .slice A2 n2 c2, .pointer (some ra), .slice SA sn sc, .slice LA ln lc, .int .i64 z1], rfl, ?_, Own.nil, by simp [ocOf], by simp [ocOf]⟩
   rw [show ((stp + 1 : Nat) : Int) = s1 by omega, ← hpkz]
   exact hb6
  (refine br (fun q => absurd (show o = 24 by simpa [hE.cmp, cmpR] using q) (by omega)) (fun _ => ?_); (conv => cbv))
  by_cases eo25 : o = 25
  ·have hsv1 : 1 ≤ sn := by have := hon' (.inr (.inr eo25)); omega
   obtain ⟨x, hxq⟩ : ∃ x, sv[sn - 1]? = some x := ⟨_, g2_ (by omega)⟩
   have hxl := topP hsv1 hxq
   have hvx := (top_ty hV hio hFa hST (x := x.p) (by rw [List.length_map, hl, List.getElem?_map, hxq]; rfl)).2 eo25
   have hgr := hok.gr eo25
   rw [hxl] at hgr
   have hx64 := hgr.2.2
   obtain ⟨sm, hsm⟩ : ∃ y, y = sn - 1 := ⟨_, rfl⟩
   have hxv := hM5.im.vals x (.inl (m1_ hxq))
   have hst : SV = .done (.grant x.p.xs) := by
    rw [hSV]
    unfold stepV
    rw [if_neg eo1, if_neg eo2, if_neg eo3, if_neg eo4, if_neg eo22, if_neg eo23, if_neg eo24, if_pos eo25, hxl]
   have eiv : itV x = .iface 180 (.slice x.A x.m x.c) := by
    unfold itV
    rw [if_neg (by rw [hvx.1]; omega), if_neg (by rw [hvx.1]; omega), if_neg (by rw [hvx.1]; omega), if_neg (by rw [hvx.1]; omega)]
   have hpo := fun {wc : World} (hx : Ext w5 wc) => popAt hx hsv1 hxq hsm
   rw [eiv] at hpo
   obtain ⟨⟨xk, xn, xt, xx⟩, xA, xm, xc⟩ := x
   simp only at hpo hst hx64
   (refine br (fun _ => ?_) (fun q => absurd (show E.cmp .eql o 25 = true by rw [hE.cmp, eo25]; simp [cmpR]) q); (conv => cbv))
   refine st_none hr tStrs fun AA w6 hx6 hoA0 => ?_
   have hoA := hoA0 _ (n1_ _)
   clear hoA0
   conv => cbv
   refine st_g hr (hpo hx6) fun r w7 ⟨ev, hM7, hC7⟩ => ?_
   subst ev
   have dr5 : ∀ b, DR q.block (q.block + 1) w5 SA LA b → b < w6.heap.size ∧ ∀ r ∈ [some q, SA, LA], blk r ≠ some b := fun b hb => ⟨by have := hb.1; have := hx6.size; omega, fun r hr e => by
    simp only [List.mem_cons, List.not_mem_nil, or_false] at hr
    rcases hr with rfl | rfl | rfl
    ·rw [f.2.2] at e; cases e; have := hb.2.2.2; omega
    ·exact hb.2.1 e
    ·exact hb.2.2.1 e⟩
   have hxs7 := (valm_cst hC7 (hxv.1.ext hx6) hxv.2 dr5).1
   simp only at hxs7
   have hxsl := hxs7.len
   have hoA7 := (hC7.own hoA fun r hr g1 e1 e2 => by have := (hlo r hr _ e1).2; have := (own_blk hoA _ e2).1; omega).1
   have k7 := hC7.size
   have k6 := hx6.size
   conv => cbv
   refine st_tas hE (taSet _) ?_
   conv => cbv
   refine st_appsT hr tStrs Tryz.underlying180 rfl hoA7 hxs7.cells (by rw [List.length_map]; exact hxsl) (by simp [Value.oneCell']) (by omega) (by omega) (by omega) fun NA nc2 nm2 w8 hnm hw8 hoN => ?_
   rw [Nat.zero_add] at hnm
   rw [hnm] at hoN ⊢
   rw [a2_] at hoN
   have x78 : Ext w0 w8 := ((hC7.ext0 (hx05.trans hx6) fun r hr g hg => (hlo r hr g hg).1)).then (hw8.bel (hoA7.mono (by omega)) (by have := hx05.size; omega))
   have hb8 := hM7.box.wr hw8 (dj_apart hM7.box fun g1 e1 e2 => by rw [f.2.2] at e1; cases e1; have := (own_blk hoA7 _ e2).1; omega)
   conv => cbv
   refine hE.det (v := .agg ⟨[.int .i64 2, .int .i64 0, .slice NA xm nc2]⟩) (fun w1 _ ρ hρ => ?_) ?_
   ·simp only [opnds, b2_, b3_, b1_, and_true] at hρ
    have := run_bO2 2 NA xm nc2 w1
    simp [execOp, hρ.1, hρ.2, this]
   conv => cbv
   refine st_nil hE ?_
   conv => cbv
   refine st_fld hE fMa5 fun p6 hp6 => ?_
   conv => cbv
   refine st_fld hE fTr0 fun p7 hp7 => ?_
   rw [hp6, add_zero] at hp7
   conv => cbv
   refine st_putS hr (vs := [.int .i64 2, .int .i64 0, .slice NA xm nc2]) (by kernel_rfl) hb8 hp7 (by simp) (by simp [Value.oneCell']) fun w9 hw9 hb9 => ?_
   conv => cbv
   rw [hR, hst]
   refine ⟨rfl, x78.then (hw9.bel hb8 x78.size), NA, xm, nc2, [.slice A n c, .int .i64 sl, .slice A2 n2 c2, .pointer (some ra), .slice SA sm sc, .slice LA ln lc, .int .i64 z1], rfl, ?_, (hoN.wr hw9 (dj_apart hoN fun g1 e1 e2 => by rw [f.2.2] at e2; cases e2; have := (own_blk hoN _ e1).1; omega)).mono (by omega), hxs7.small, hx64⟩
   rw [show ((stp + 1 : Nat) : Int) = s1 by omega, ← hpkz]
   exact hb9
  (refine br (fun q => absurd (show o = 25 by simpa [hE.cmp, cmpR] using q) (by omega)) (fun _ => ?_); (conv => cbv))
  have ko5 : 5 ≤ o := by omega
  have ko21 : o ≤ 21 := by omega
  obtain ⟨hpo, hops⟩ := hok.ops ko5 ko21
  rw [List.length_map, hl] at hpo hops
  have hpop : popN o = 1 ∨ popN o = 2 := by unfold popN; split <;> simp
  have hkw := kids_want ko5 ko21
  rw [want_pop ko5 ko21] at hkw
  have hop3 : oprF o = o + 3 := by unfold oprF; (repeat' split) <;> omega
  obtain ⟨x, hxq⟩ : ∃ x, sv[sn - popN o]? = some x := ⟨_, g2_ (by omega)⟩
  obtain ⟨y, hyq⟩ : ∃ y, sv[sn - 1]? = some y := ⟨_, g2_ (by omega)⟩
  obtain ⟨hopk, hcomb⟩ := hops x.p y.p (by rw [List.getElem?_map, hxq]; rfl) (by rw [List.getElem?_map, hyq]; rfl)
  have hst : SV = match opR (o + 3) x.p y.p with
    | .inl c => .done (.err c)
    | .inr v => .go (a + 1) ((sv.map (·.p)).take (sn - popN o) ++ [v]) (lv.map (·.p)) := by
   rw [hSV]
   unfold stepV
   rw [if_neg eo1, if_neg eo2, if_neg eo3, if_neg eo4, if_neg eo22, if_neg eo23, if_neg eo24, if_neg eo25, want_pop ko5 ko21, List.length_map, hl, hcomb]
   cases opR (o + 3) x.p y.p <;> rfl
  have hty : ∀ (i : Nat) (v : VV), sn - popN o ≤ i → sv[i]? = some v → ∃ ty, valV ty v.p := fun i v _ hv => by
   have hls := hST.len
   rw [List.length_map] at hls
   obtain ⟨ty, hty⟩ : ∃ ty, s.1[i]? = some ty := ⟨_, g2_ (by have := (List.getElem?_eq_some_iff.1 hv).1; omega)⟩
   exact ⟨ty, hST.val i ty v.p hty (by rw [List.getElem?_map, hv]; rfl)⟩
  have hrk : ∀ r, opR (o + 3) x.p y.p = .inr r → 1 ≤ r.k ∧ r.k ≤ 4 := fun r hr2 => by
   rw [← hSV, hst, hr2] at htyp
   obtain ⟨_, _, s', _, hT', _⟩ := htyp
   have hl' := hT'.len
   have hli : ((sv.map (·.p)).take (sn - popN o)).length = sn - popN o := by rw [List.length_take, List.length_map, hl]; omega
   rw [List.length_append, hli] at hl'
   obtain ⟨ty, hty⟩ : ∃ ty, s'.1[sn - popN o]? = some ty := ⟨_, g2_ (by simp at hl'; omega)⟩
   have hv := hT'.val _ ty r hty (by rw [List.getElem?_append_right (by omega), hli, Nat.sub_self]; rfl)
   have := val_ty hv
   omega
  obtain ⟨o3, ho3⟩ : ∃ y : Int, y = o + 3 := ⟨_, rfl⟩
  rw [← ho3] at hop3 hst hrk hopk hkw
  have hap := apply_g hx05 he hT hM5 (by omega) (op := o3) (by omega) (by omega) hkw.symm (by omega) (by omega) (fun h11 => by unfold popN; rw [if_neg (by omega)]) hpo hty hxq hyq hopk.1 hrk
  have hopr := operatorOf_f (hT2.ext hx05) o
  rw [hop3] at hopr
  (refine st_fld hE fII0 fun p hp => ?_; (conv => cbv); refine st_load hE cInt (by rw [hp]; exact (h35).at _ _ rfl) ?_; clear hp; (conv => cbv))
  refine st_f hr hopr fun r w6 hx6 ev => ?_
  subst ev
  have hap := apply_g (hx05.trans hx6) he hT (hM5.ext hx6) (by omega) (op := o3) (by omega) (by omega) hkw.symm (by omega) (by omega) (fun h11 => by unfold popN; rw [if_neg (by omega)]) hpo hty hxq hyq hopk.1 hrk
  conv => cbv
  refine st_g hr hap fun r w7 hres => ?_
  cases hR0 : opR o3 x.p y.p with
  | inl cc =>
   rw [hR0] at hres hst
   obtain ⟨hc3, ⟨op', ev⟩, ⟨sm, hM7⟩, hC7⟩ := hres
   obtain ⟨ea, hea⟩ : ∃ a, a = sentA zz oo vv cc := ⟨_, rfl⟩
   rw [← hea] at ev
   subst ev
   have hx07 : Ext w0 w7 := hC7.ext0 (hx05.trans hx6) fun r hr g hg => (hlo r hr g hg).1
   have hcod := codeW_f (he.ext hx07) hc3 op'
   rw [← hea] at hcod
   have k7 := hC7.size
   conv => cbv
   refine st_neSome hE Tryz.underlying134 ?_
   conv => cbv
   refine st_f hr hcod fun r w8 hx8 ev => ?_
   subst ev
   have hM8 := hM7.ext hx8
   conv => cbv
   refine hE.det (v := .agg ⟨[.int .i64 3, .int .i64 cc, .slice none 0 0]⟩) (fun w1 _ ρ hρ => ?_) ?_
   ·simp only [opnds, b2_, b3_, b1_, and_true] at hρ
    have := run_bO3 3 cc w1
    simp [execOp, hρ.1, hρ.2, this]
   conv => cbv
   refine st_nil hE ?_
   conv => cbv
   refine st_fld hE fMa5 fun p6 hp6 => ?_
   conv => cbv
   refine st_fld hE fTr0 fun p7 hp7 => ?_
   rw [hp6, add_zero] at hp7
   conv => cbv
   refine st_putS hr (vs := [.int .i64 3, .int .i64 cc, .slice none 0 0]) (by kernel_rfl) hM8.box hp7 (by simp) (by simp [Value.oneCell']) fun w9 hw9 hb9 => ?_
   conv => cbv
   rw [hR, hst]
   have hx08 := hx07.trans hx8
   refine ⟨rfl, hx08.then (hw9.bel hM8.box hx08.size), none, 0, 0, [.slice A n c, .int .i64 sl, .slice A2 n2 c2, .pointer (some ra), .slice SA sm sc, .slice LA ln lc, .int .i64 z1], rfl, ?_, Own.nil, by simp [ocOf], by simp [ocOf]⟩
   rw [show ((stp + 1 : Nat) : Int) = s1 by omega, ← hpkz]
   exact hb9
  | inr rp =>
   rw [hR0] at hres hst
   obtain ⟨ev, S1, c1, n1, X, hn1', hXp, hM7, hC7⟩ := hres
   subst ev
   conv => cbv
   refine st_neNil hE Tryz.underlying134 ?_
   conv => cbv
   refine ⟨(z1, S1, n1, c1, sv.take (sn - popN o) ++ [X], lv), by simp [Fits, lk], hJ _ _ ⟨hM7, (hC5.trans (CSt.of_ext hx6 _)).trans hC7, a + 1, by simp only; omega, ?_⟩⟩
   rw [hst, List.map_append, List.map_take, ← hXp]
   rfl
 ·rintro ⟨nx, S1, n1, c1, sv1, lv1⟩ wc ⟨hM, hC, a', ea', hgo⟩
  simp only at hM hC ea' hgo
  have fl1 := hM.im.slen
  conv => cbv
  refine draw_zsa (fun w1 => Ext wc w1) [2, 3, 4, 5, 7, 8, 9, 10, 11, 12, 13, 14] [0, 1, 2, 3, 4, 5, 6, 7, 8, 9, 10, 11, 12, 13, 14] [(15, .w)] hr fol (by kernel_rfl) (fun w1 hs => hs.ext) fun E' hE' har w7 hs7 => ?_
  conv => cbv
  refine sw_nil hE' ?_
  conv => cbv
  refine sw_fld hE' fMa5 fun p1 hp1 => ?_
  conv => cbv
  refine sw_fld hE' fTr2 fun p2 hp2 => ?_
  rw [hp1, add_add, show 7 + 4 = 11 from rfl] at hp2
  conv => cbv
  refine sw_load hE' cInt (v := .int .i64 pkz) (fun w1 h1 => by rw [hp2]; exact h1.cell (hM.box.at 11 _ rfl)) ?_
  conv => cbv
  refine sw_nil hE' ?_
  conv => cbv
  refine sw_fld hE' fMa2 fun p3 hp3 => ?_
  conv => cbv
  refine sw_load hE' cIts (v := .slice S1 n1 c1) (fun w1 h1 => by rw [hp3]; exact h1.cell (hM.box.at 4 _ rfl)) ?_
  conv => cbv
  refine sw_len hE' sIt fun x1 hx1 => ?_
  conv => cbv
  refine sw_max2 hE' fun y hy => ?_
  conv => cbv
  refine sw_nil hE' ?_
  conv => cbv
  refine sw_fld hE' fMa5 fun p4 hp4 => ?_
  conv => cbv
  refine sw_fld hE' fTr2 fun p5 hp5 => ?_
  rw [hp4, add_add, show 7 + 4 = 11 from rfl] at hp5
  conv => cbv
  have hM7 := hM.ext hs7.ext
  refine st_put hr zInt hM7.box hp5 (by simp) rfl fun w8 hw8 hb8 => ?_
  simp only [b4_, b5_] at hb8
  have hM8 := hM7.put hw8 hb8
  conv => cbv
  rw [hR, hgo]
  refine ⟨rfl, S1, n1, c1, sv1, lv1, ?_, rfl, rfl, (hC.trans (CSt.of_ext hs7.ext _)).trans (CSt.of_wr hw8 (by simp))⟩
  rw [← ea', show ((stp + 1 : Nat) : Int) = s1 by omega, show ((max pk n1 : Nat) : Int) = y by omega]
  exact hM8
end
theorem run_bL123 (z : Int) (s : ByteArray) (A : Option Addr) (m c : Nat) (w : World) : (Instr.build 155 #[(1, .int .i64 z), (2, .string s), (3, .slice A m c)]).run Tryz.prog w = .ok (.agg ⟨[.int .i64 0, .int .i64 z, .string s, .slice A m c]⟩) w := by kernel_rfl
def TrL (B : Nat) (w : World) (R : Out × Nat × Nat) (r : Value) : Prop := ∃ N nm nc, r = .agg ⟨[.int .i64 (ocOf R.1).1, .int .i64 (ocOf R.1).2.1, .slice N nm nc, .int .i64 R.2.1, .int .i64 R.2.2]⟩ ∧ Own B 9 1 w N nm nc ((ocOf R.1).2.2.map .string) ∧ (∀ s ∈ (ocOf R.1).2.2, s.size ≤ 9223372036854775807) ∧ (ocOf R.1).2.2.length ≤ 64
abbrev trcV (k cd : Int) (N : Option Addr) (nm nc : Nat) (n p : Int) : Value := .agg ⟨[.int .i64 k, .int .i64 cd, .slice N nm nc, .int .i64 n, .int .i64 p]⟩
theorem Wr.up2 {w0 w w' : World} {X A : Option Addr} (h : Wr X w0 w) (k : Wr A w w') (hA : ∀ g, blk A = some g → w0.heap.size ≤ g) : Wr X w0 w' :=
 ⟨k.os.trans h.os, k.tape.trans h.tape, k.output.trans h.output, n2_ h.size k.size, fun i hi hn => by
  rw [k.block i (n3_ hi h.size) fun e => by have := hA i e.symm; omega]
  exact h.block i hi hn⟩
def L6 (wt : World) (A : Option Addr) (n c : Nat) (sl : Int) (A2 : Option Addr) (n2 c2 : Nat) (pv : List PV) (is : List (Int × Int)) (cl us : ByteArray) (lvl nw : Int) (Q : Option Addr) (m d : Nat) (Q2 : Option Addr) (m2 d2 : Nat) (xs ys : List ByteArray) (F : Sts) (mx : Int) (f : Nat) : Prop :=
 ∀ (a : Nat) (z : Int) (w : World) (SA : Option Addr) (sn sc : Nat) (LA : Option Addr) (ln lc : Nat) (sv lv : List VV) (s : St) (stp pk : Nat), z = (a : Int) → is.length ≤ a + f → a < is.length → Ext wt w → Cells w SA (sv.flatMap lC) → sv.length = sn → sn ≤ sc → sn ≤ a → Own wt.heap.size 155 4 w LA ln lc (lv.flatMap lC) →
  (∀ x, (x ∈ sv ∨ x ∈ lv) → ValM w x ∧ InD (DL2 w LA) x.A x.m) → F a = some s → StT s (sv.map (·.p)) (lv.map (·.p)) → (ln : Int) = sl → stp ≤ a → pk ≤ a →
  GC Tryz.prog 39 [codeV A n c sl A2 n2 c2, reqV cl us lvl nw Q m d Q2 m2 d2, .int .i64 z, .slice SA sn sc, .slice LA ln lc, trcV 0 0 none 0 0 stp pk] w fun r w' => TrL w.heap.size w' (runV pv (rqL cl us lvl nw xs ys) is f a (sv.map (·.p)) (lv.map (·.p)) stp pk) r ∧ Wr LA w w'
theorem l6run_all {wt : World} {A A2 : Option Addr} {n c n2 c2 : Nat} {sl : Int} {pv : List PV} {is : List (Int × Int)} (h : CodeR wt A n A2 n2 pv is) {cl us : ByteArray} {lvl nw : Int} {Q Q2 : Option Addr} {m d m2 d2 : Nat} {xs ys : List ByteArray} (hc : cl.size ≤ 9223372036854775807) (hu : us.size ≤ 9223372036854775807) (hs1 : Strs wt Q m d xs) (hs2 : Strs wt Q2 m2 d2 ys)
  {F : Sts} {mx : Int} (hV : VerS pv sl is mx F) (hsh : shapeP pv sl is) (hpv : PoolV pv) (hrq : ReqV (rqL cl us lvl nw xs ys)) : ∀ f, L6 wt A n c sl A2 n2 c2 pv is cl us lvl nw Q m d Q2 m2 d2 xs ys F mx f := by
 intro f
 induction f with
 | zero => intro a z w SA sn sc LA ln lc sv lv s stp pk hz hf ha; omega
 | succ f ih =>
 intro a z w SA sn sc LA ln lc sv lv s stp pk hz hf ha hx0 hSc hsl hscap hsa hL hvals hFa hST hln hstp hpk
 have hpl := h.pool.len
 have hil := h.ins.len
 have his := hsh.2.2.2.1
 have hsl6 := hsh.2.2.1
 have hlvl : lv.length = ln := by have := hL.len; rw [fl_len lC_len] at this; omega
 obtain ⟨aI, o, g, hA2, hio, hcI⟩ := h.ins.get (i := a) (by omega)
 have hok := stepV_ok hV hsh hio hFa hST (by rw [List.length_map, hlvl]; exact hln)
 have htyp := (step_typ hV hsh hpv hrq hio hFa hST (by rw [List.length_map, hlvl]; exact hln)).2
 obtain ⟨RUN, hRUN⟩ : ∃ R, R = runV pv (rqL cl us lvl nw xs ys) is (f + 1) a (sv.map (·.p)) (lv.map (·.p)) stp pk := ⟨_, rfl⟩
 have hrun := hRUN
 rw [runV, hio] at hrun
 simp only at hrun
 refine GC.intro (cs := [38, 40]) Tryz.func39 (by kernel_rfl) fun E R hE hr hR => ?_
 rw [← hRUN] at hR
 obtain ⟨stpz, hstpz⟩ : ∃ y : Int, y = (stp : Int) := ⟨_, rfl⟩
 obtain ⟨pkz, hpkz⟩ : ∃ y : Int, y = (pk : Int) := ⟨_, rfl⟩
 obtain ⟨z1, hz1⟩ : ∃ y : Int, y = z + 1 := ⟨_, rfl⟩
 obtain ⟨s1, hs1'⟩ : ∃ y : Int, y = stpz + 1 := ⟨_, rfl⟩
 have ez1 : E.ar .add .i64 z 1 = z1 := by rw [hE.ar, hz1]; exact wrap_in (by omega) (by omega)
 have es1 : E.ar .add .i64 stpz 1 = s1 := by rw [hE.ar, hs1']; exact wrap_in (by omega) (by omega)
 rw [← hstpz, ← hpkz]
 have hl0 := own_blk hL
 have s00 := hx0.size
 conv => cbv
 refine st_box hr fun q6 w1 hx1 h60 => ?_
 have h6 := h60 _ (n1_ _)
 have f6 := bx_form (h60 _ (n1_ _))
 clear h60
 have k1 := hx1.size
 conv => cbv
 refine st_box hr fun q7 w2 hx2 h70 => ?_
 have h7 := h70 _ hx1.size
 have f7 := bx_form (h70 _ (n1_ _))
 clear h70
 have k2 := hx2.size
 replace h6 := h6.bel hx2
 have hx := hx1.trans hx2
 clear hx1 hx2
 conv => cbv
 refine st_box hr fun q11 w3 hx3 h110 => ?_
 have h11 := h110 _ hx.size
 have f11 := bx_form (h110 _ (n1_ _))
 clear h110
 have k3 := hx3.size
 replace h6 := h6.bel hx3
 replace h7 := h7.bel hx3
 replace hx := hx.trans hx3
 clear hx3
 conv => cbv
 refine st_alloc hr tTr rfl fun q12 w4 hx4 h120 => ?_
 have h12 := h120 _ hx.size
 have f12 := bx_form (h120 _ (n1_ _))
 clear h120
 have k4 := hx4.size
 replace h6 := h6.bel hx4
 replace h7 := h7.bel hx4
 replace h11 := h11.bel hx4
 replace hx := hx.trans hx4
 clear hx4
 conv => cbv
 (refine st_fld hE fIC2 fun p hp => ?_; (conv => cbv); refine st_load hE cIIs (by rw [hp]; exact (h6).at _ _ rfl) ?_; clear hp; (conv => cbv))
 refine st_idx hE sII hA2 (by omega) (by omega) fun q hq => ?_
 rw [show z.toNat = a by omega] at hq
 conv => cbv
 refine st_loadS hE tII (vs := [.int .i64 o, .int .i64 g]) rfl (by rw [hq]; exact fun j u hu => (hx0.trans hx).cell (hcI j u hu)) ?_
 clear hq
 conv => cbv
 refine st_alloc hr tII rfl fun q13 w5 hx5 h130 => ?_
 have h13 := h130 _ hx.size
 have f13 := bx_form (h130 _ (n1_ _))
 clear h130
 have k5 := hx5.size
 replace h6 := h6.bel hx5
 replace h7 := h7.bel hx5
 replace h11 := h11.bel hx5
 replace h12 := h12.bel hx5
 replace hx := hx.trans hx5
 clear hx5
 conv => cbv
 refine st_putS hr (by kernel_rfl) h13 (add_zero _).symm (by simp) (by simp [Value.oneCell']) fun w6 hw6 hq9 => ?_
 simp only [a1_, a2_, a3_, a4_, a5_, a6_, a7_] at hq9
 replace h6 := h6.wr hw6 (bx_apart f6.2.2 f13.2.2 (by omega))
 replace h7 := h7.wr hw6 (bx_apart f7.2.2 f13.2.2 (by omega))
 replace h11 := h11.wr hw6 (bx_apart f11.2.2 f13.2.2 (by omega))
 replace h12 := h12.wr hw6 (bx_apart f12.2.2 f13.2.2 (by omega))
 replace hx := hx.then (hw6.bel h13 hx.size)
 have k6 := hw6.size
 clear h13 hw6
 have h13 := hq9
 clear hq9
 conv => cbv
 simp only [ez1]
 conv => cbv
 (refine st_fld hE fTr1 fun p hp => ?_; (conv => cbv); refine st_load hE cInt (by rw [hp]; exact (h11).at _ _ rfl) ?_; clear hp; (conv => cbv))
 simp only [es1]
 conv => cbv
 refine st_fld hE fTr1 fun p hp => ?_
 conv => cbv
 refine st_put hr zInt h11 hp (by simp) rfl fun w7 hw7 hq9 => ?_
 simp only [b4_, b5_] at hq9
 clear hp
 replace h6 := h6.wr hw7 (bx_apart f6.2.2 f11.2.2 (by omega))
 replace h7 := h7.wr hw7 (bx_apart f7.2.2 f11.2.2 (by omega))
 replace h13 := h13.wr hw7 (bx_apart f13.2.2 f11.2.2 (by omega))
 replace h12 := h12.wr hw7 (bx_apart f12.2.2 f11.2.2 (by omega))
 replace hx := hx.then (hw7.bel h11 hx.size)
 have k7 := hw7.size
 clear h11 hw7
 have h11 := hq9
 clear hq9
 have l6 := own_blk h6
 have kx := hx.size
 conv => cbv
 refine st_appsKA hr sL3 rfl (by omega) (Own.nil (B := wt.heap.size) (e := 155) (k := 4) (w := w7)) (hSc.ext hx) (by rw [fl_len lC_len]; omega) (lCs_one sv) (by omega) (by omega) (by omega) fun S0 c0 n0 w8 hn0 hw8 ho8 hk8 => ?_
 rw [Nat.zero_add] at hn0
 rw [hn0] at ho8 ⊢
 rw [a2_] at ho8
 have hx78 : Ext w7 w8 := (Ext.refl _).then (hw8.bel (Own.nil (B := w7.heap.size) (e := 155) (k := 4) (w := w7)) (n1_ _))
 have hS0 : ∀ g, blk S0 = some g → w7.heap.size ≤ g := fun g hg => by
  rcases hk8 with e | e
  ·rw [e] at hg; cases hg
  ·rw [e] at hg; cases hg; exact n1_ _
 have hM8 : RM w.heap.size w7.heap.size wt.heap.size w8 S0 sn c0 sv LA ln lc lv := ⟨ho8, hL.bel (hx.trans hx78), fun g h1 h2 => by have := hS0 g h1; have := (hl0 g h2).2; omega, fun x hm => ⟨(hvals x hm).1.ext (hx.trans hx78), (hvals x hm).2.mono fun b hb => ⟨by have := hb.1; have := (hx.trans hx78).size; omega, fun e => by have := hS0 b e; have := hb.1; omega, hb.2, .inl hb.1⟩⟩⟩
 have hW8 : Wr LA w7 w8 := hx78.wr _
 clear hw8 ho8 hk8 hx78
 have keep : ∀ {wc : World} {e : TypeId} {kk : Nat} {q : Addr} {vs : List Value}, Wr LA w7 wc → Own w.heap.size e kk w7 (some q) 1 1 vs → Own w.heap.size e kk wc (some q) 1 1 vs := fun hw ho => ho.wr hw (dj_apart ho fun g h1 h2 => by have := (own_blk ho g h1).1; have := (hl0 g h2).2; omega)
 have old : ∀ {wc : World}, Wr LA w7 wc → Ext wt wc := fun hw => (hx0.trans hx).then (hw.bel (hL.bel hx) (by omega))
 conv => cbv
 refine cut_rule [9] [40] hr (fun (s : Int × Option Addr × Nat × Nat × List VV × List VV) wc => Wr LA w7 wc ∧ RM w.heap.size w7.heap.size wt.heap.size wc s.2.1 s.2.2.1 s.2.2.2.1 s.2.2.2.2.1 LA ln lc s.2.2.2.2.2 ∧ (∀ g, blk s.2.1 = some g → w7.heap.size ≤ g) ∧ s.2.2.1 ≤ sn + 1 ∧ ∃ a' : Nat, s.1 = (a' : Int) ∧ stepV pv (rqL cl us lvl nw xs ys) a o g (sv.map (·.p)) (lv.map (·.p)) = .go a' (s.2.2.2.2.1.map (·.p)) (s.2.2.2.2.2.map (·.p)))
  (fun s => [(4, .slice LA ln lc), (6, .pointer (some q6)), (7, .pointer (some q7)), (11, .pointer (some q11)), (12, .pointer (some q12)), (14, .int .i64 s.1), (15, .slice s.2.1 s.2.2.1 s.2.2.2.1)]) (fun J hJ => ?_) ?_
 ·have e0l := hM8.slen
  have e0m := hM8.llen
  have h6c := keep hW8 h6
  have h7c := keep hW8 h7
  have h11c := keep hW8 h11
  have h12c := keep hW8 h12
  have h13c := keep hW8 h13
  have hxt := old hW8
  have k8 := hW8.size
  have ko1 := hok.o1
  have ko2 := hok.o2
  have kg1 := hok.g1
  have kg2 := hok.g2
  have hpl' := hok.pool
  have hsl' := hok.slot
  have hon' := hok.one
  rw [List.length_map] at hsl' hon'
  have oldD : ∀ {wc : World} {S : Option Addr}, w7.heap.size ≤ wc.heap.size → (∀ g, blk S = some g → w7.heap.size ≤ g) → ∀ b, b < wt.heap.size → DR w.heap.size w7.heap.size wc S LA b := fun h1 h2 b hb => ⟨by omega, fun e => by have := h2 b e; omega, fun e => by have := (hl0 b e).1; omega, .inl (by omega)⟩
  conv => cbv
  by_cases eo1 : o = 1
  ·-- a constant
   obtain ⟨aP, vk, vz, vt, vx, AP, mP, cP, hAP, hpe, hcP, hsP, htP⟩ := h.pool.get (i := g.toNat) (by have := hpl' eo1; omega)
   (refine st_fld hE fII0 fun p hp => ?_; (conv => cbv); refine st_load hE cInt (by rw [hp]; exact (h13c).at _ _ rfl) ?_; clear hp; (conv => cbv); refine br (fun _ => ?_) (fun q => absurd (show E.cmp .eql o 1 = true by rw [hE.cmp, eo1]; simp [cmpR]) q); (conv => cbv))
   (refine st_fld hE fIC0 fun p hp => ?_; (conv => cbv); refine st_load hE cIVs (by rw [hp]; exact (h6c).at _ _ rfl) ?_; clear hp; (conv => cbv))
   (refine st_fld hE fII1 fun p hp => ?_; (conv => cbv); refine st_load hE cInt (by rw [hp]; exact (h13c).at _ _ rfl) ?_; clear hp; (conv => cbv))
   refine st_idx hE sIV hAP kg1 (by have := hpl' eo1; omega) fun q hq => ?_
   conv => cbv
   refine st_loadS hE tIV (vs := [.int .i64 vk, .int .i64 vz, .string vt, .slice AP mP cP]) rfl (by rw [hq]; exact fun j u hu => hxt.cell (hcP j u hu)) ?_
   clear hq
   conv => cbv
   refine st_alloc hr tIV rfl fun q16 w9 hx9 hq0 => ?_
   conv => cbv
   refine st_putS hr (by kernel_rfl) (hq0 _ (n1_ _)) (add_zero _).symm (by simp) (by simp [Value.oneCell']) fun w10 hw10 h16 => ?_
   simp only [a1_, a2_, a3_, a4_, a5_, a6_, a7_] at h16
   have hx10 := hx9.then (hw10.bel (hq0 _ (n1_ _)) hx9.size)
   clear hq0 hw10 hx9
   conv => cbv
   (refine st_fld hE fIV1 fun p hp => ?_; (conv => cbv); refine st_load hE cI64 (by rw [hp]; exact (h16).at _ _ rfl) ?_; clear hp; (conv => cbv))
   (refine st_fld hE fIV2 fun p hp => ?_; (conv => cbv); refine st_load hE cStr (by rw [hp]; exact (h16).at _ _ rfl) ?_; clear hp; (conv => cbv))
   (refine st_fld hE fIV3 fun p hp => ?_; (conv => cbv); refine st_load hE cStrs (by rw [hp]; exact (h16).at _ _ rfl) ?_; clear hp; (conv => cbv))
   refine hE.det (v := .agg ⟨[.int .i64 0, .int .i64 vz, .string vt, .slice AP mP cP]⟩) (fun w1 _ ρ hρ => ?_) ?_
   ·simp only [opnds, b2_, b3_, b1_, and_true] at hρ
    have := run_bL123 vz vt AP mP cP w1
    simp [execOp, hρ.1, hρ.2.1, hρ.2.2, this]
   conv => cbv
   refine st_oneS hr sL3 rfl (by omega) (by omega) rfl fun A1 w11 hx11 hc11 => ?_
   have hx811 := hx10.trans hx11
   have hW11 := hW8.trans (hx811.wr _)
   conv => cbv
   refine st_pushL hr (hM8.ext hx811) (x := ⟨⟨vk, vz, vt, vx⟩, AP, mP, cP⟩) ⟨⟨hsP.ext (hxt.trans hx811), htP⟩, (strs_in hsP).mono (oldD hW11.size hS0)⟩ hc11 (by have := hW11.size; omega) (by omega) fun S1 c1 m' w12 hm' hw12 hM12 hk12 => ?_
   conv => cbv
   refine ⟨(z1, S1, m', c1, sv ++ [⟨⟨vk, vz, vt, vx⟩, AP, mP, cP⟩], lv), by simp [Fits, lk], hJ _ _ ⟨Wr.up2 hW11 hw12 hS0, hM12, fun g hg => ?_, by simp only; omega, a + 1, by simp only; omega, ?_⟩⟩
   ·rcases hk12 with e | e
    ·exact hS0 g (by rw [← e]; exact hg)
    ·rw [e] at hg; cases hg; exact hW11.size
   ·unfold stepV
    rw [if_pos eo1, List.getD_eq_getElem?_getD, hpe]
    simp
  (refine st_fld hE fII0 fun p hp => ?_; (conv => cbv); refine st_load hE cInt (by rw [hp]; exact (h13c).at _ _ rfl) ?_; clear hp; (conv => cbv); refine br (fun q => absurd (show o = 1 by simpa [hE.cmp, cmpR] using q) (by omega)) (fun _ => ?_); (conv => cbv))
  by_cases eo2 : o = 2
  ·-- an attribute
   have hg6 := hok.attr eo2
   obtain ⟨x, hxq⟩ : ∃ x, (rqW cl us lvl nw Q m d Q2 m2 d2 xs ys)[g.toNat]? = some x := ⟨_, g2_ (by simp [rqW]; omega)⟩
   have hxm := rqW_val (lv := lvl) (nw := nw) hc hu hs1 hs2 x (m1_ hxq)
   have hxr : (rqL cl us lvl nw xs ys)[g.toNat]? = some x.p := by rw [← rqW_map (Q := Q) (m := m) (d := d) (Q2 := Q2) (m2 := m2) (d2 := d2), List.getElem?_map, hxq]; rfl
   have hla := fun w' => l6attr_f (w := w') kg1 hg6 hxq
   obtain ⟨⟨xk, xn, xt, xx⟩, xA, xm, xc⟩ := x
   (refine st_fld hE fII0 fun p hp => ?_; (conv => cbv); refine st_load hE cInt (by rw [hp]; exact (h13c).at _ _ rfl) ?_; clear hp; (conv => cbv); refine br (fun _ => ?_) (fun q => absurd (show E.cmp .eql o 2 = true by rw [hE.cmp, eo2]; simp [cmpR]) q); (conv => cbv))
   refine st_loadS hE tIReq rfl h7c.at ?_
   conv => cbv
   (refine st_fld hE fII1 fun p hp => ?_; (conv => cbv); refine st_load hE cInt (by rw [hp]; exact (h13c).at _ _ rfl) ?_; clear hp; (conv => cbv))
   refine st_f hr (hla _) fun v w9 hx9 ev => ?_
   subst ev
   conv => cbv
   refine st_oneS hr sL3 rfl (by omega) (by omega) rfl fun A1 w11 hx11 hc11 => ?_
   have hx811 := hx9.trans hx11
   have hW11 := hW8.trans (hx811.wr _)
   conv => cbv
   refine st_pushL hr (hM8.ext hx811) (x := ⟨⟨xk, xn, xt, xx⟩, xA, xm, xc⟩) ⟨hxm.1.ext (hxt.trans hx811), hxm.2.mono (oldD hW11.size hS0)⟩ hc11 (by have := hW11.size; omega) (by omega) fun S1 c1 m' w12 hm' hw12 hM12 hk12 => ?_
   conv => cbv
   refine ⟨(z1, S1, m', c1, sv ++ [⟨⟨xk, xn, xt, xx⟩, xA, xm, xc⟩], lv), by simp [Fits, lk], hJ _ _ ⟨Wr.up2 hW11 hw12 hS0, hM12, fun g hg => ?_, by simp only; omega, a + 1, by simp only; omega, ?_⟩⟩
   ·rcases hk12 with e | e
    ·exact hS0 g (by rw [← e]; exact hg)
    ·rw [e] at hg; cases hg; exact hW11.size
   ·unfold stepV
    rw [if_neg eo1, if_pos eo2, List.getD_eq_getElem?_getD, hxr]
    simp
  (refine st_fld hE fII0 fun p hp => ?_; (conv => cbv); refine st_load hE cInt (by rw [hp]; exact (h13c).at _ _ rfl) ?_; clear hp; (conv => cbv); refine br (fun q => absurd (show o = 2 by simpa [hE.cmp, cmpR] using q) (by omega)) (fun _ => ?_); (conv => cbv))
  by_cases eo3 : o = 3
  ·-- a slot
   have hgs := hsl' (.inl eo3)
   obtain ⟨x, hxq⟩ : ∃ x, lv[g.toNat]? = some x := ⟨_, g2_ hgs⟩
   have hxm := hM8.vals x (.inr (m1_ hxq))
   obtain ⟨aL, hLA, hcL⟩ := fl_at lC_len hM8.sl.cells (by omega) hxq
   obtain ⟨⟨xk, xn, xt, xx⟩, xA, xm, xc⟩ := x
   (refine st_fld hE fII0 fun p hp => ?_; (conv => cbv); refine st_load hE cInt (by rw [hp]; exact (h13c).at _ _ rfl) ?_; clear hp; (conv => cbv); refine br (fun _ => ?_) (fun q => absurd (show E.cmp .eql o 3 = true by rw [hE.cmp, eo3]; simp [cmpR]) q); (conv => cbv))
   (refine st_fld hE fII1 fun p hp => ?_; (conv => cbv); refine st_load hE cInt (by rw [hp]; exact (h13c).at _ _ rfl) ?_; clear hp; (conv => cbv))
   refine st_idx hE sL3 hLA kg1 (by omega) fun q hq => ?_
   conv => cbv
   refine st_loadS hE tL3 (vs := [.int .i64 0, .int .i64 xn, .string xt, .slice xA xm xc]) rfl (by rw [hq]; exact hcL) ?_
   clear hq
   conv => cbv
   refine st_oneS hr sL3 rfl (by omega) (by omega) rfl fun A1 w11 hx11 hc11 => ?_
   have hW11 := hW8.trans (hx11.wr _)
   conv => cbv
   have hM11 := hM8.ext hx11
   refine st_pushL hr hM11 (x := ⟨⟨xk, xn, xt, xx⟩, xA, xm, xc⟩) (hM11.vals _ (.inr (m1_ hxq))) hc11 (by have := hW11.size; omega) (by omega) fun S1 c1 m' w12 hm' hw12 hM12 hk12 => ?_
   conv => cbv
   refine ⟨(z1, S1, m', c1, sv ++ [⟨⟨xk, xn, xt, xx⟩, xA, xm, xc⟩], lv), by simp [Fits, lk], hJ _ _ ⟨Wr.up2 hW11 hw12 hS0, hM12, fun g hg => ?_, by simp only; omega, a + 1, by simp only; omega, ?_⟩⟩
   ·rcases hk12 with e | e
    ·exact hS0 g (by rw [← e]; exact hg)
    ·rw [e] at hg; cases hg; exact hW11.size
   ·unfold stepV
    rw [if_neg eo1, if_neg eo2, if_pos eo3, List.getD_eq_getElem?_getD, List.getElem?_map, hxq]
    simp
  (refine st_fld hE fII0 fun p hp => ?_; (conv => cbv); refine st_load hE cInt (by rw [hp]; exact (h13c).at _ _ rfl) ?_; clear hp; (conv => cbv); refine br (fun q => absurd (show o = 3 by simpa [hE.cmp, cmpR] using q) (by omega)) (fun _ => ?_); (conv => cbv))
  obtain ⟨sz, hsz⟩ : ∃ y : Int, y = (sn : Int) - 1 := ⟨_, rfl⟩
  have esz : ∀ x : Int, x = (sn : Int) → arR .sub .i64 x 1 = sz := fun x hx => by rw [show arR .sub .i64 x 1 = IntKind.i64.wrap (x - 1) from rfl, wrap_in (by omega) (by omega)]; omega
  have popW : ∀ {wc : World} {lv' : List VV}, 1 ≤ sn → RM w.heap.size w7.heap.size wt.heap.size wc S0 sn c0 sv LA ln lc lv' → RM w.heap.size w7.heap.size wt.heap.size wc S0 (sn - 1) c0 (sv.take (sn - 1)) LA ln lc lv' := fun h1 hM => by
   refine hM.take ⟨by rw [List.length_take, hM.st.len]; exact Nat.min_eq_left (Nat.mul_le_mul_right _ (by omega)), ?_⟩
   rcases hM.st.2 with ⟨h1, h2⟩ | ⟨gb, cap, cur, h1, h2, h3, h4, h5, h6, h7⟩
   ·omega
   ·cases h1
    exact .inr ⟨gb, c0, cur, rfl, h2, h3, by omega, h5, h6, by rw [← h7, List.take_take, Nat.min_eq_left (Nat.mul_le_mul_right _ (by omega))]⟩
  have mapT : (sv.take (sn - 1)).map (·.p) = (sv.map (·.p)).dropLast := by rw [List.dropLast_eq_take, List.map_take, List.length_map, e0l]
  by_cases eo4 : o = 4
  ·-- a slot is set
   have hgs := hsl' (.inr eo4)
   have hsv1 : 1 ≤ sn := by have := hon' (.inl eo4); omega
   obtain ⟨x, hxq⟩ : ∃ x, sv[sn - 1]? = some x := ⟨_, g2_ (by omega)⟩
   have hxm := hM8.vals x (.inl (m1_ hxq))
   obtain ⟨aS, hSA, hcS⟩ := fl_at lC_len hM8.st.cells (by omega) hxq
   obtain ⟨gL, hLe, _⟩ := hM8.sl.addr (by omega)
   have hslL := hM8.sl
   rw [hLe] at hslL
   have hxl : (sv.map (·.p)).getLastD nonV = x.p := by
    have := getLastD_get (l := sv.map (·.p)) (d := nonV) (by rw [List.length_map]; omega)
    rw [List.length_map, List.getElem?_map, e0l, hxq] at this
    exact (Option.some.inj this).symm
   obtain ⟨⟨xk, xn, xt, xx⟩, xA, xm, xc⟩ := x
   have hcS' : ∀ j u, ([.int .i64 0, .int .i64 xn, .string xt, .slice xA xm xc] : List Value)[j]? = some u → w8.cell? ((aS.add ((sn - 1) * 4)).add j) = some u := hcS
   (refine st_fld hE fII0 fun p hp => ?_; (conv => cbv); refine st_load hE cInt (by rw [hp]; exact (h13c).at _ _ rfl) ?_; clear hp; (conv => cbv); refine br (fun _ => ?_) (fun q => absurd (show E.cmp .eql o 4 = true by rw [hE.cmp, eo4]; simp [cmpR]) q); (conv => cbv))
   refine draw_sa (fun w1 => (∀ i u, ([.int .i64 o, .int .i64 g] : List Value)[i]? = some u → w1.cell? (q13.add i) = some u) ∧ ∀ j u, ([.int .i64 0, .int .i64 xn, .string xt, .slice xA xm xc] : List Value)[j]? = some u → w1.cell? ((aS.add ((sn - 1) * 4)).add j) = some u) [0, 1, 2, 3, 4, 5, 6, 7, 8, 9] [(10, false)] hr fol (by kernel_rfl) (fun w1 hs => ⟨(h13c.bel hs.ext).at, fun j u hu => hs.ext.cell (hcS' j u hu)⟩) fun E' hE' har w9 hs9 => ?_
   have x9 := hs9.ext
   conv => cbv
   (refine sw_fld hE' fII1 fun p hp => ?_; (conv => cbv); refine sw_load hE' cInt (v := (.int .i64 g)) (fun w1 h1 => by rw [hp]; exact h1.1 1 _ rfl) ?_; clear hp; (conv => cbv))
   refine sw_len hE' sL3 fun x1 hx1 => ?_
   conv => cbv
   have ex1 : E'.ar .sub .i64 x1 1 = sz := by rw [har]; exact esz x1 hx1
   simp only [ex1]
   conv => cbv
   refine sw_idx hE' sL3 hSA (by omega) (by omega) fun q hq => ?_
   rw [show sz.toNat = sn - 1 by omega] at hq
   conv => cbv
   refine sw_loadS hE' tL3 (vs := [.int .i64 0, .int .i64 xn, .string xt, .slice xA xm xc]) rfl (fun w1 h1 => by rw [hq]; exact h1.2) ?_
   conv => cbv
   refine sw_idx hE' sL3 hLe kg1 (by omega) fun q2 hq2 => ?_
   conv => cbv
   have hslL9 := hslL.bel x9
   refine st_putS hr (vs := [.int .i64 0, .int .i64 xn, .string xt, .slice xA xm xc]) (by kernel_rfl) hslL9 (j := g.toNat * 4) hq2 (by rw [fl_len lC_len]; simp; omega) (by simp [Value.oneCell']) fun w10 hw10 ho10 => ?_
   rw [show ([.int .i64 0, .int .i64 xn, .string xt, .slice xA xm xc] : List Value) = lC ⟨⟨xk, xn, xt, xx⟩, xA, xm, xc⟩ from rfl, fl_put lC_len _ g.toNat _ (by omega)] at ho10
   rw [← hLe] at hw10 ho10
   have hM9 := hM8.ext x9
   have hM10 := hM9.set (x := ⟨⟨xk, xn, xt, xx⟩, xA, xm, xc⟩) (hM9.vals _ (.inl (m1_ hxq))) (i := g.toNat) hw10 ho10
   have hW10 := (hW8.trans (x9.wr _)).trans hw10
   obtain ⟨aS2, hSA2, hcS2⟩ := fl_at lC_len hM10.st.cells (by omega) hxq
   obtain rfl : aS2 = aS := by rw [hSA] at hSA2; exact (Option.some.inj hSA2).symm
   refine ⟨⟨(keep hW10 h13).at, hcS2⟩, ?_⟩
   conv => cbv
   refine st_len hE sL3 fun x2 hx2 => ?_
   conv => cbv
   have ex2 : E.ar .sub .i64 x2 1 = sz := by rw [hE.ar]; exact esz x2 hx2
   simp only [ex2]
   conv => cbv
   refine st_upto hE sL3 hM10.st (hi := sn - 1) (by omega) (by omega) fun _ => ?_
   obtain ⟨sm, hsm⟩ : ∃ y, y = sn - 1 := ⟨_, rfl⟩
   have hM11 := popW hsv1 hM10
   rw [← hsm] at hM11 ⊢
   conv => cbv
   refine ⟨(z1, S0, sm, c0, sv.take (sn - 1), lv.set g.toNat ⟨⟨xk, xn, xt, xx⟩, xA, xm, xc⟩), by simp [Fits, lk], hJ _ _ ⟨hW10, by rw [hsm] at hM11 ⊢; exact hM11, hS0, by simp only; omega, a + 1, by simp only; omega, ?_⟩⟩
   unfold stepV
   rw [if_neg eo1, if_neg eo2, if_neg eo3, if_pos eo4, hxl]
   simp only [mapT, List.map_set]
  (refine st_fld hE fII0 fun p hp => ?_; (conv => cbv); refine st_load hE cInt (by rw [hp]; exact (h13c).at _ _ rfl) ?_; clear hp; (conv => cbv); refine br (fun q => absurd (show o = 4 by simpa [hE.cmp, cmpR] using q) (by omega)) (fun _ => ?_); (conv => cbv))
  by_cases eo22 : o = 22
  ·(refine st_fld hE fII0 fun p hp => ?_; (conv => cbv); refine st_load hE cInt (by rw [hp]; exact (h13c).at _ _ rfl) ?_; clear hp; (conv => cbv); refine br (fun _ => ?_) (fun q => absurd (show E.cmp .eql o 22 = true by rw [hE.cmp, eo22]; simp [cmpR]) q); (conv => cbv))
   (refine st_fld hE fII1 fun p hp => ?_; (conv => cbv); refine st_load hE cInt (by rw [hp]; exact (h13c).at _ _ rfl) ?_; clear hp; (conv => cbv))
   refine ⟨(g, S0, sn, c0, sv, lv), by simp [Fits, lk], hJ _ _ ⟨hW8, hM8, hS0, by simp only; omega, g.toNat, by simp only; omega, ?_⟩⟩
   unfold stepV
   rw [if_neg eo1, if_neg eo2, if_neg eo3, if_neg eo4, if_pos eo22]
  (refine st_fld hE fII0 fun p hp => ?_; (conv => cbv); refine st_load hE cInt (by rw [hp]; exact (h13c).at _ _ rfl) ?_; clear hp; (conv => cbv); refine br (fun q => absurd (show o = 22 by simpa [hE.cmp, cmpR] using q) (by omega)) (fun _ => ?_); (conv => cbv))
  by_cases eo23 : o = 23
  ·have hsv1 : 1 ≤ sn := by have := hon' (.inr (.inl eo23)); omega
   obtain ⟨x, hxq⟩ : ∃ x, sv[sn - 1]? = some x := ⟨_, g2_ (by omega)⟩
   obtain ⟨aS, hSA, hcS⟩ := fl_at lC_len hM8.st.cells (by omega) hxq
   have hxl : (sv.map (·.p)).getLastD nonV = x.p := by
    have := getLastD_get (l := sv.map (·.p)) (d := nonV) (by rw [List.length_map]; omega)
    rw [List.length_map, List.getElem?_map, e0l, hxq] at this
    exact (Option.some.inj this).symm
   obtain ⟨⟨xk, xn, xt, xx⟩, xA, xm, xc⟩ := x
   have hcS' : ∀ j u, ([.int .i64 0, .int .i64 xn, .string xt, .slice xA xm xc] : List Value)[j]? = some u → w8.cell? ((aS.add ((sn - 1) * 4)).add j) = some u := hcS
   obtain ⟨sm, hsm⟩ : ∃ y, y = sn - 1 := ⟨_, rfl⟩
   have hM11 := popW hsv1 hM8
   (refine st_fld hE fII0 fun p hp => ?_; (conv => cbv); refine st_load hE cInt (by rw [hp]; exact (h13c).at _ _ rfl) ?_; clear hp; (conv => cbv); refine br (fun _ => ?_) (fun q => absurd (show E.cmp .eql o 23 = true by rw [hE.cmp, eo23]; simp [cmpR]) q); (conv => cbv))
   refine st_len hE sL3 fun x1 hx1 => ?_
   conv => cbv
   have ex1 : E.ar .sub .i64 x1 1 = sz := by rw [hE.ar]; exact esz x1 hx1
   simp only [ex1]
   conv => cbv
   refine st_idx hE sL3 hSA (by omega) (by omega) fun q hq => ?_
   rw [show sz.toNat = sn - 1 by omega] at hq
   conv => cbv
   refine st_fld hE fL3v1 fun p hp => ?_
   conv => cbv
   refine st_load hE cI64 (by rw [hp, hq]; exact hcS' 1 _ rfl) ?_
   conv => cbv
   refine br (fun gq => ?_) (fun gq => ?_)
   ·have gq : xn = 0 := by simpa [hE.cmp, cmpR] using gq
    conv => cbv
    (refine st_fld hE fII1 fun p hp => ?_; (conv => cbv); refine st_load hE cInt (by rw [hp]; exact (h13c).at _ _ rfl) ?_; clear hp; (conv => cbv))
    refine st_len hE sL3 fun x2 hx2 => ?_
    conv => cbv
    have ex2 : E.ar .sub .i64 x2 1 = sz := by rw [hE.ar]; exact esz x2 hx2
    simp only [ex2]
    conv => cbv
    refine st_upto hE sL3 hM8.st (hi := sn - 1) (by omega) (by omega) fun _ => ?_
    rw [← hsm] at hM11 ⊢
    conv => cbv
    refine ⟨(g, S0, sm, c0, sv.take (sn - 1), lv), by simp [Fits, lk], hJ _ _ ⟨hW8, by rw [hsm] at hM11 ⊢; exact hM11, hS0, by simp only; omega, g.toNat, by simp only; omega, ?_⟩⟩
    unfold stepV
    rw [if_neg eo1, if_neg eo2, if_neg eo3, if_neg eo4, if_neg eo22, if_pos eo23, hxl, if_pos gq]
    simp only [mapT]
   ·have gq : xn ≠ 0 := by simpa [hE.cmp, cmpR] using gq
    conv => cbv
    refine st_len hE sL3 fun x2 hx2 => ?_
    conv => cbv
    have ex2 : E.ar .sub .i64 x2 1 = sz := by rw [hE.ar]; exact esz x2 hx2
    simp only [ex2]
    conv => cbv
    refine st_upto hE sL3 hM8.st (hi := sn - 1) (by omega) (by omega) fun _ => ?_
    rw [← hsm] at hM11 ⊢
    conv => cbv
    refine ⟨(z1, S0, sm, c0, sv.take (sn - 1), lv), by simp [Fits, lk], hJ _ _ ⟨hW8, by rw [hsm] at hM11 ⊢; exact hM11, hS0, by simp only; omega, a + 1, by simp only; omega, ?_⟩⟩
    unfold stepV
    rw [if_neg eo1, if_neg eo2, if_neg eo3, if_neg eo4, if_neg eo22, if_pos eo23, hxl, if_neg gq]
    simp only [mapT]
  (refine st_fld hE fII0 fun p hp => ?_; (conv => cbv); refine st_load hE cInt (by rw [hp]; exact (h13c).at _ _ rfl) ?_; clear hp; (conv => cbv); refine br (fun q => absurd (show o = 23 by simpa [hE.cmp, cmpR] using q) (by omega)) (fun _ => ?_); (conv => cbv))
  by_cases eo24 : o = 24
  ·have hst : stepV pv (rqL cl us lvl nw xs ys) a o g (sv.map (·.p)) (lv.map (·.p)) = .done .deny := by
    unfold stepV
    rw [if_neg eo1, if_neg eo2, if_neg eo3, if_neg eo4, if_neg eo22, if_neg eo23, if_pos eo24]
   rw [hst] at hrun
   simp only at hrun
   (refine st_fld hE fII0 fun p hp => ?_; (conv => cbv); refine st_load hE cInt (by rw [hp]; exact (h13c).at _ _ rfl) ?_; clear hp; (conv => cbv); refine br (fun _ => ?_) (fun q => absurd (show E.cmp .eql o 24 = true by rw [hE.cmp, eo24]; simp [cmpR]) q); (conv => cbv))
   refine st_bO1 hE ?_
   conv => cbv
   refine st_fld hE fTr0 fun p hp => ?_
   conv => cbv
   refine st_putS hr (vs := [.int .i64 1, .int .i64 0, .slice none 0 0]) (by kernel_rfl) h11c hp (by simp) (by simp [Value.oneCell']) fun w9 hw9 h11z => ?_
   simp only [a1_, a2_, a3_, a4_, a5_, a6_, a7_] at h11z
   have h12z := h12c.wr hw9 (bx_apart f12.2.2 f11.2.2 (by omega))
   conv => cbv
   (refine st_loadS hE tTr rfl (h11z).at ?_; (conv => cbv); refine st_putS hr (by kernel_rfl) h12z (add_zero _).symm (by simp [zTrc]) (by simp [Value.oneCell']) fun wf hwf h12f => ?_; simp only [zTrc, a1_, a2_, a3_, a4_, a5_, a6_, a7_] at h12f; (conv => cbv); refine st_cell hr tTr rfl h12f.at ?_; rw [hR, hrun])
   exact ⟨⟨none, 0, 0, by simp only [ocOf, hs1', hstpz, hpkz]; rfl, Own.nil, by simp [ocOf], by simp [ocOf]⟩, Wr.up2 (Wr.up2 ((hx.wr LA).trans hW8) hw9 fun g hg => by rw [f11.2.2] at hg; cases hg; omega) hwf fun g hg => by rw [f12.2.2] at hg; cases hg; omega⟩
  (refine st_fld hE fII0 fun p hp => ?_; (conv => cbv); refine st_load hE cInt (by rw [hp]; exact (h13c).at _ _ rfl) ?_; clear hp; (conv => cbv); refine br (fun q => absurd (show o = 24 by simpa [hE.cmp, cmpR] using q) (by omega)) (fun _ => ?_); (conv => cbv))
  by_cases eo25 : o = 25
  ·have hsv1 : 1 ≤ sn := by have := hon' (.inr (.inr eo25)); omega
   obtain ⟨x, hxq⟩ : ∃ x, sv[sn - 1]? = some x := ⟨_, g2_ (by omega)⟩
   have hxm := hM8.vals x (.inl (m1_ hxq))
   obtain ⟨aS, hSA, hcS⟩ := fl_at lC_len hM8.st.cells (by omega) hxq
   have hxl : (sv.map (·.p)).getLastD nonV = x.p := by
    have := getLastD_get (l := sv.map (·.p)) (d := nonV) (by rw [List.length_map]; omega)
    rw [List.length_map, List.getElem?_map, e0l, hxq] at this
    exact (Option.some.inj this).symm
   have hgr := hok.gr eo25
   rw [hxl] at hgr
   obtain ⟨⟨xk, xn, xt, xx⟩, xA, xm, xc⟩ := x
   simp only at hgr hxl
   have hcS' : ∀ j u, ([.int .i64 0, .int .i64 xn, .string xt, .slice xA xm xc] : List Value)[j]? = some u → w8.cell? ((aS.add ((sn - 1) * 4)).add j) = some u := hcS
   have hst : stepV pv (rqL cl us lvl nw xs ys) a o g (sv.map (·.p)) (lv.map (·.p)) = .done (.grant xx) := by
    unfold stepV
    rw [if_neg eo1, if_neg eo2, if_neg eo3, if_neg eo4, if_neg eo22, if_neg eo23, if_neg eo24, if_pos eo25, hxl]
   rw [hst] at hrun
   simp only at hrun
   have hxs8 : Strs w8 xA xm xc xx := hxm.1.1
   have hxsl := hxs8.len
   have hx64 : xx.length ≤ 64 := hgr.2.2
   (refine st_fld hE fII0 fun p hp => ?_; (conv => cbv); refine st_load hE cInt (by rw [hp]; exact (h13c).at _ _ rfl) ?_; clear hp; (conv => cbv); refine br (fun _ => ?_) (fun q => absurd (show E.cmp .eql o 25 = true by rw [hE.cmp, eo25]; simp [cmpR]) q); (conv => cbv))
   refine st_bO1 hE ?_
   conv => cbv
   refine st_fld hE fTr0 fun p hp => ?_
   conv => cbv
   refine st_putS hr (vs := [.int .i64 2, .int .i64 0, .slice none 0 0]) (by kernel_rfl) h11c hp (by simp) (by simp [Value.oneCell']) fun w9 hw9 h11y => ?_
   simp only [a1_, a2_, a3_, a4_, a5_, a6_, a7_] at h11y
   have h12y := h12c.wr hw9 (bx_apart f12.2.2 f11.2.2 (by omega))
   have hM9 := hM8.box hw9 f11.2.2 (by omega) (by omega) (fun g hg => by have := hS0 g hg; omega) (fun g hg => by have := (hl0 g hg).2; omega)
   have hW9 := Wr.up2 ((hx.wr LA).trans hW8) hw9 fun g hg => by rw [f11.2.2] at hg; cases hg; omega
   have k9 := hw9.size
   obtain ⟨aS2, hSA2, hcS2⟩ := fl_at lC_len hM9.st.cells (by omega) hxq
   obtain rfl : aS2 = aS := by rw [hSA] at hSA2; exact (Option.some.inj hSA2).symm
   have hxm9 := hM9.vals _ (.inl (m1_ hxq))
   clear hp
   conv => cbv
   have hcS9 : ∀ j u, ([.int .i64 0, .int .i64 xn, .string xt, .slice xA xm xc] : List Value)[j]? = some u → w9.cell? ((aS2.add ((sn - 1) * 4)).add j) = some u := hcS2
   refine draw_zsa (fun w1 => (∀ i u, ([.int .i64 2, .int .i64 0, .slice none 0 0, .int .i64 s1, .int .i64 pkz] : List Value)[i]? = some u → w1.cell? (q11.add i) = some u) ∧ ∀ j u, ([.int .i64 0, .int .i64 xn, .string xt, .slice xA xm xc] : List Value)[j]? = some u → w1.cell? ((aS2.add ((sn - 1) * 4)).add j) = some u) [0, 1, 2, 5, 6, 7, 8, 9] [0, 1, 2, 3, 4, 5, 6, 7, 8, 9] [(10, .c), (11, .w), (12, .w), (13, .w)] hr fol (by kernel_rfl) (fun w1 hs => ⟨(h11y.bel hs.ext).at, fun j u hu => hs.ext.cell (hcS9 j u hu)⟩) fun E' hE' har w10 hs10 => ?_
   have x10 := hs10.ext
   conv => cbv
   refine sw_fld hE' fTr0 fun p1 hp1 => ?_
   rw [add_zero] at hp1
   subst hp1
   conv => cbv
   refine sw_fld hE' fOc2 fun p2 hp2 => ?_
   conv => cbv
   refine sw_load hE' cStrs (v := .slice none 0 0) (fun w1 h1 => by rw [hp2]; exact h1.1 2 _ rfl) ?_
   conv => cbv
   refine sw_len hE' sL3 fun x1 hx1 => ?_
   conv => cbv
   have ex1 : E'.ar .sub .i64 x1 1 = sz := by rw [har]; exact esz x1 hx1
   simp only [ex1]
   conv => cbv
   refine sw_idx hE' sL3 hSA (by omega) (by omega) fun q hq => ?_
   rw [show sz.toNat = sn - 1 by omega] at hq
   conv => cbv
   refine sw_fld hE' fL3v3 fun p3 hp3 => ?_
   conv => cbv
   refine sw_load hE' cStrs (v := .slice xA xm xc) (fun w1 h1 => by rw [hp3, hq]; exact h1.2 3 _ rfl) ?_
   conv => cbv
   refine st_apps hr tStrs rfl (Own.nil (B := w10.heap.size)) ((hxm9.1.1.ext x10).cells) (by rw [List.length_map]; exact hxsl) (by simp [Value.oneCell']) (n1_ _) (by omega) (by omega) fun B0 bc bn w11 hbn hw11 hoB => ?_
   rw [Nat.zero_add] at hbn
   rw [hbn] at hoB ⊢
   rw [a2_] at hoB
   have hx11 : Ext w10 w11 := (Ext.refl _).then (hw11.bel (Own.nil (B := w10.heap.size) (e := 9) (k := 1) (w := w10)) (n1_ _))
   have hx911 := x10.trans hx11
   have h11x := h11y.bel hx911
   have h12x := h12y.bel hx911
   refine ⟨⟨h11x.at, fun j u hu => hx911.cell (hcS9 j u hu)⟩, ?_⟩
   conv => cbv
   refine st_fld hE fTr0 fun p1 hp1 => ?_
   rw [add_zero] at hp1
   subst hp1
   conv => cbv
   refine st_fld hE fOc2 fun p2 hp2 => ?_
   conv => cbv
   refine st_put hr zStrs h11x hp2 (by simp) rfl fun w12 hw12 h11z => ?_
   (try simp only [b4_, b5_] at h11z)
   have h12z := h12x.wr hw12 (bx_apart f12.2.2 f11.2.2 (by omega))
   have hoB12 := hoB.wr hw12 (dj_apart hoB fun g h1 h2 => by rw [f11.2.2] at h2; cases h2; have := (own_blk hoB _ h1).1; have := x10.size; omega)
   conv => cbv
   (refine st_loadS hE tTr rfl (h11z).at ?_; (conv => cbv); refine st_putS hr (by kernel_rfl) h12z (add_zero _).symm (by simp [zTrc]) (by simp [Value.oneCell']) fun wf hwf h12f => ?_; simp only [zTrc, a1_, a2_, a3_, a4_, a5_, a6_, a7_] at h12f; (conv => cbv); refine st_cell hr tTr rfl h12f.at ?_; rw [hR, hrun])
   refine ⟨⟨B0, xm, bc, by simp only [ocOf, hs1', hstpz, hpkz]; rfl, (hoB12.wr hwf (dj_apart hoB12 fun g h1 h2 => by rw [f12.2.2] at h2; cases h2; have := (own_blk hoB12 _ h1).1; have := x10.size; omega)).mono (by have := x10.size; omega), hxs8.small, hx64⟩, Wr.up2 (Wr.up2 (hW9.trans (hx911.wr _)) hw12 fun g hg => by rw [f11.2.2] at hg; cases hg; omega) hwf fun g hg => by rw [f12.2.2] at hg; cases hg; omega⟩
  (refine st_fld hE fII0 fun p hp => ?_; (conv => cbv); refine st_load hE cInt (by rw [hp]; exact (h13c).at _ _ rfl) ?_; clear hp; (conv => cbv); refine br (fun q => absurd (show o = 25 by simpa [hE.cmp, cmpR] using q) (by omega)) (fun _ => ?_); (conv => cbv))
  have ko5 : 5 ≤ o := by omega
  have ko21 : o ≤ 21 := by omega
  obtain ⟨hpo, hops⟩ := hok.ops ko5 ko21
  rw [List.length_map, e0l] at hpo hops
  have hpop : popN o = 1 ∨ popN o = 2 := by unfold popN; split <;> simp
  obtain ⟨lo, hlo⟩ : ∃ y, y = sn - popN o := ⟨_, rfl⟩
  rw [← hlo] at hops
  obtain ⟨x, hxq⟩ : ∃ x, sv[lo]? = some x := ⟨_, g2_ (by omega)⟩
  obtain ⟨y, hyq⟩ : ∃ y, sv[sn - 1]? = some y := ⟨_, g2_ (by omega)⟩
  obtain ⟨hopk, hcomb⟩ := hops x.p y.p (by rw [List.getElem?_map, hxq]; rfl) (by rw [List.getElem?_map, hyq]; rfl)
  have hst : stepV pv (rqL cl us lvl nw xs ys) a o g (sv.map (·.p)) (lv.map (·.p)) = match opR (o + 3) x.p y.p with
    | .inl c => .done (.err c)
    | .inr v => .go (a + 1) ((sv.map (·.p)).take lo ++ [v]) (lv.map (·.p)) := by
   unfold stepV
   rw [if_neg eo1, if_neg eo2, if_neg eo3, if_neg eo4, if_neg eo22, if_neg eo23, if_neg eo24, if_neg eo25, want_pop ko5 ko21, List.length_map, e0l, ← hlo, hcomb]
   cases opR (o + 3) x.p y.p <;> rfl
  obtain ⟨o3, ho3⟩ : ∃ y : Int, y = o + 3 := ⟨_, rfl⟩
  obtain ⟨v1, hv1⟩ : ∃ y : Int, y = 11 + o := ⟨_, rfl⟩
  obtain ⟨v2, hv2⟩ : ∃ y : Int, y = 8 + o := ⟨_, rfl⟩
  have ev1 : E.ar .add .i64 11 o = v1 := by rw [hE.ar, hv1]; exact wrap_in (by omega) (by omega)
  have ev2 : E.ar .add .i64 8 o = v2 := by rw [hE.ar, hv2]; exact wrap_in (by omega) (by omega)
  have ev3 : E.ar .sub .i64 v1 8 = o3 := by rw [hE.ar, show arR .sub .i64 v1 8 = IntKind.i64.wrap (v1 - 8) from rfl, wrap_in (by omega) (by omega)]; omega
  have ev4 : E.ar .sub .i64 v2 5 = o3 := by rw [hE.ar, show arR .sub .i64 v2 5 = IntKind.i64.wrap (v2 - 5) from rfl, wrap_in (by omega) (by omega)]; omega
  (refine st_fld hE fII0 fun p hp => ?_; (conv => cbv); refine st_load hE cInt (by rw [hp]; exact (h13c).at _ _ rfl) ?_; clear hp; (conv => cbv))
  simp only [ev1, ev3]
  conv => cbv
  refine cut_rule [] [] hr (fun (y : Int) wc => y = o3 ∧ wc = w8) (fun y => [(4, .slice LA ln lc), (6, .pointer (some q6)), (7, .pointer (some q7)), (11, .pointer (some q11)), (12, .pointer (some q12)), (13, .pointer (some q13)), (14, .int .i64 z1), (15, .slice S0 sn c0), (17, .int .i64 y)]) (fun J2 hJ2 => ?_) ?_
  ·conv => cbv
   (refine st_fld hE fII0 fun p hp => ?_; (conv => cbv); refine st_load hE cInt (by rw [hp]; exact (h13c).at _ _ rfl) ?_; clear hp; (conv => cbv))
   refine br (fun _ => ?_) (fun _ => ?_)
   ·conv => cbv
    (refine st_fld hE fII0 fun p hp => ?_; (conv => cbv); refine st_load hE cInt (by rw [hp]; exact (h13c).at _ _ rfl) ?_; clear hp; (conv => cbv))
    simp only [ev2, ev4]
    conv => cbv
    exact ⟨o3, by simp [Fits, lk], hJ2 _ _ ⟨rfl, rfl⟩⟩
   ·conv => cbv
    exact ⟨o3, by simp [Fits, lk], hJ2 _ _ ⟨rfl, rfl⟩⟩
  ·rintro o3' w8' ⟨e1, e2⟩
   rw [e1, e2]
   clear e1 e2
   rw [← ho3] at hst
   conv => cbv
   refine st_len hE sL3 fun x1 hx1 => ?_
   conv => cbv
   (refine st_fld hE fII0 fun p hp => ?_; (conv => cbv); refine st_load hE cInt (by rw [hp]; exact (h13c).at _ _ rfl) ?_; clear hp; (conv => cbv))
   refine st_f hr (l6pops_f o) fun v w9 hx9 ev => ?_
   have epop : (if o ≤ 7 then (1 : Int) else 2) = (popN o : Int) := by unfold popN; split <;> rfl
   rw [epop] at ev
   obtain ⟨pz, hpz⟩ : ∃ y : Int, y = popN o := ⟨_, rfl⟩
   rw [← hpz] at ev
   subst ev
   obtain ⟨loz, hloz⟩ : ∃ y : Int, y = (lo : Int) := ⟨_, rfl⟩
   have ex : E.ar .sub .i64 x1 pz = loz := by rw [hE.ar, show arR .sub .i64 x1 pz = IntKind.i64.wrap (x1 - pz) from rfl, wrap_in (by omega) (by omega)]; omega
   conv => cbv
   simp only [ex]
   conv => cbv
   have hM9 := hM8.ext hx9
   refine st_from hE sL3 hM9.st.cells hM9.st.len hM9.st.cap hloz (by omega) fun A' c' hcA hcap => ?_
   obtain ⟨pn, hpn⟩ : ∃ y, y = sn - lo := ⟨_, rfl⟩
   rw [← hpn]
   rw [fl_drop lC_len] at hcA
   have hap := l3apply_f (op := o3) (by omega) (by omega) (A := A') (n := pn) (c := c') (vs := sv.drop lo) hcA (by rw [List.length_drop]; omega) (by omega) (x := x) (y := y) (by rw [List.getElem?_drop]; exact hxq) (by rw [List.getElem?_drop, show lo + (pn - 1) = sn - 1 by omega]; exact hyq) (hM9.vals x (.inl (m1_ hxq))).1 (hM9.vals y (.inl (m1_ hyq))).1 (by rw [ho3]; exact hopk)
   conv => cbv
   refine st_f hr hap fun r w10 hx10 hres => ?_
   have hM10 := hM9.ext hx10
   have hx810 := hx9.trans hx10
   cases hop : opR o3 x.p y.p with
   | inl cc =>
    rw [hop] at hres hst
    obtain ⟨hc3, rn, rt, rA, rm, rcc, hre⟩ := hres
    subst hre
    rw [hst] at hrun
    simp only at hrun
    conv => cbv
    refine st_alloc hr tL3 rfl fun q19 w11 hx11 hq0 => ?_
    conv => cbv
    refine st_putS hr (by kernel_rfl) (hq0 _ (n1_ _)) (add_zero _).symm (by simp [zL3]) (by simp [Value.oneCell']) fun w12 hw12 h19 => ?_
    simp only [zL3, a1_, a2_, a3_, a4_, a5_, a6_, a7_] at h19
    have hx12 := hx810.trans (hx11.then (hw12.bel (hq0 _ (n1_ _)) hx11.size))
    clear hq0 hw12 hx11
    have hW12 := hW8.trans (hx12.wr _)
    have h11z0 := keep hW12 h11
    have h12z0 := keep hW12 h12
    have k12 := hx12.size
    conv => cbv
    (refine st_fld hE fL3v0 fun p hp => ?_; (conv => cbv); refine st_load hE cInt (by rw [hp]; exact (h19).at _ _ rfl) ?_; clear hp; (conv => cbv))
    refine br (fun _ => ?_) (fun g => absurd (show E.cmp .neq cc 0 = true by rw [hE.cmp]; simp [cmpR]; omega) g)
    conv => cbv
    (refine st_fld hE fL3v0 fun p hp => ?_; (conv => cbv); refine st_load hE cInt (by rw [hp]; exact (h19).at _ _ rfl) ?_; clear hp; (conv => cbv))
    refine hE.det (v := .agg ⟨[.int .i64 3, .int .i64 cc, .slice none 0 0]⟩) (fun w1 _ ρ hρ => ?_) ?_
    ·simp only [opnds, b2_, b3_, b1_, and_true] at hρ
     have := run_bO3 3 cc w1
     simp [execOp, hρ.1, hρ.2, this]
    conv => cbv
    refine st_fld hE fTr0 fun p hp => ?_
    conv => cbv
    refine st_putS hr (vs := [.int .i64 3, .int .i64 cc, .slice none 0 0]) (by kernel_rfl) h11z0 hp (by simp) (by simp [Value.oneCell']) fun w13 hw13 h11z => ?_
    simp only [a1_, a2_, a3_, a4_, a5_, a6_, a7_] at h11z
    have h12z := h12z0.wr hw13 (bx_apart f12.2.2 f11.2.2 (by omega))
    conv => cbv
    (refine st_loadS hE tTr rfl (h11z).at ?_; (conv => cbv); refine st_putS hr (by kernel_rfl) h12z (add_zero _).symm (by simp [zTrc]) (by simp [Value.oneCell']) fun wf hwf h12f => ?_; simp only [zTrc, a1_, a2_, a3_, a4_, a5_, a6_, a7_] at h12f; (conv => cbv); refine st_cell hr tTr rfl h12f.at ?_; rw [hR, hrun])
    exact ⟨⟨none, 0, 0, by simp only [ocOf, hs1', hstpz, hpkz]; rfl, Own.nil, by simp [ocOf], by simp [ocOf]⟩, Wr.up2 (Wr.up2 ((hx.wr LA).trans hW12) hw13 fun g hg => by rw [f11.2.2] at hg; cases hg; omega) hwf fun g hg => by rw [f12.2.2] at hg; cases hg; omega⟩
   | inr p =>
    rw [hop] at hres hst
    obtain ⟨rA, rm, rcc, hre, hrv, hrd⟩ := hres
    obtain ⟨pk', pn', pt, px⟩ := p
    subst hre
    simp only at hst
    conv => cbv
    refine st_alloc hr tL3 rfl fun q19 w11 hx11 hq0 => ?_
    have f19 := bx_form (hq0 _ (n1_ _))
    conv => cbv
    refine st_putS hr (by kernel_rfl) (hq0 _ (n1_ _)) (add_zero _).symm (by simp [zL3]) (by simp [Value.oneCell']) fun w12 hw12 h19 => ?_
    simp only [zL3, a1_, a2_, a3_, a4_, a5_, a6_, a7_] at h19
    have hx1012 := hx11.then (hw12.bel (hq0 _ (n1_ _)) hx11.size)
    have hx12 := hx810.trans hx1012
    clear hq0 hw12 hx11
    have hW12 := hW8.trans (hx12.wr _)
    have hM12 := hM10.ext hx1012
    have hS8 := own_blk hM8.st
    have hL8 := own_blk hM8.sl
    have k10 := hx810.size
    have k12 := hx1012.size
    have k89 := hx9.size
    conv => cbv
    (refine st_fld hE fL3v0 fun p hp => ?_; (conv => cbv); refine st_load hE cInt (by rw [hp]; exact (h19).at _ _ rfl) ?_; clear hp; (conv => cbv))
    refine br (fun g => absurd g (show ¬ E.cmp .neq 0 0 = true by rw [hE.cmp]; simp [cmpR])) (fun _ => ?_)
    conv => cbv
    refine draw_sa (fun w1 => ∀ i u, ([.int .i64 0, .int .i64 pn', .string pt, .slice rA rm rcc] : List Value)[i]? = some u → w1.cell? (q19.add i) = some u) [0, 1, 2, 3] [(4, false), (5, false), (6, true)] hr fol (by kernel_rfl) (fun w1 hs => (h19.bel hs.ext).at) fun E' hE' har w13 hs13 => ?_
    have x13 := hs13.ext
    have hM13 := hM12.ext x13
    conv => cbv
    refine sw_upto hE' sL3 hM13.st (hi := lo) (by omega) (by omega) fun hot => ?_
    conv => cbv
    refine sw_loadS hE' tL3 (vs := [.int .i64 0, .int .i64 pn', .string pt, .slice rA rm rcc]) rfl (fun w1 h1 => h1) ?_
    conv => cbv
    refine st_oneS hr sL3 rfl (by omega) (by omega) rfl fun A1 w14 hx14 hc14 => ?_
    have hx1214 := x13.trans hx14
    refine ⟨(h19.bel hx1214).at, ?_⟩
    have hMt := (hM13.take hot).ext hx14
    have hW14 := hW12.trans (hx1214.wr _)
    have k14 := hx1214.size
    conv => cbv
    refine st_pushL hr hMt (x := ⟨⟨pk', pn', pt, px⟩, rA, rm, rcc⟩) ⟨hrv.ext (hx1012.trans hx1214), hrd.mono fun b hb => ⟨by have := hb.2; omega, fun e => by have := (hS8 b e).2; have := hb.1; omega, fun e => by have := (hL8 b e).2; have := hb.1; omega, .inr (by have := hb.1; omega)⟩⟩ hc14 (by have := hW14.size; omega) (by omega) fun S1 c1 m' w15 hm' hw15 hM15 hk15 => ?_
    refine ⟨fun i u hu => ?_, ?_⟩
    ·have := (h19.bel hx1214).wr hw15 (dj_apart (h19.bel hx1214) fun g h1 h2 => by rw [f19.2.2] at h1; cases h1; have := (hS8 _ h2).2; omega)
     exact this.at i u hu
    conv => cbv
    refine ⟨(z1, S1, m', c1, sv.take lo ++ [⟨⟨pk', pn', pt, px⟩, rA, rm, rcc⟩], lv), by simp [Fits, lk], hJ _ _ ⟨Wr.up2 hW14 hw15 hS0, hM15, fun g hg => ?_, by simp only; omega, a + 1, by simp only; omega, ?_⟩⟩
    ·rcases hk15 with e | e
     ·exact hS0 g (by rw [← e]; exact hg)
     ·rw [e] at hg; cases hg; exact hW14.size
    ·rw [hst, List.map_append, List.map_take]
     rfl
 ·rintro ⟨nx, S1, n1, c1, sv1, lv1⟩ wc ⟨hW, hM, hS1, hn1, a', ea', hstep⟩
  simp only at hM hS1 hn1 ea' hstep
  rw [hstep] at htyp hrun
  simp only at hrun
  obtain ⟨q1, q2, s', q3, q4, q5, q6'⟩ := htyp
  have e1l := hM.slen
  have e2l := hM.llen
  rw [List.length_map, e1l] at hrun
  have h6c := keep hW h6
  have h7c := keep hW h7
  have h11c := keep hW h11
  have h12c := keep hW h12
  have hxt := old hW
  have kc := hW.size
  have hSb := own_blk hM.st
  conv => cbv
  obtain ⟨px, hpx⟩ : ∃ px, px = max pk n1 := ⟨_, rfl⟩
  rw [← hpx] at hrun
  refine cut_rule [] [] hr (fun (y : Int) wd => y = (px : Int) ∧ w7.heap.size ≤ wd.heap.size ∧ Wr LA w wd ∧ Ext wt wd ∧ RM w.heap.size w7.heap.size wt.heap.size wd S1 n1 c1 sv1 LA ln lc lv1 ∧ Box w.heap.size 39 3 wd q6 [.slice A n c, .int .i64 sl, .slice A2 n2 c2] ∧ Box w.heap.size 41 6 wd q7 [.string cl, .string us, .int .i64 lvl, .int .i64 nw, .slice Q m d, .slice Q2 m2 d2] ∧ Box w.heap.size 34 5 wd q11 [.int .i64 0, .int .i64 0, .slice none 0 0, .int .i64 s1, .int .i64 y] ∧ Box w.heap.size 34 5 wd q12 zTrc)
   (fun y => [(4, .slice LA ln lc), (6, .pointer (some q6)), (7, .pointer (some q7)), (11, .pointer (some q11)), (12, .pointer (some q12)), (14, .int .i64 nx), (15, .slice S1 n1 c1)]) (fun J hJ => ?_) ?_
  ·conv => cbv
   refine st_len hE sL3 fun x1 hx1 => ?_
   conv => cbv
   (refine st_fld hE fTr2 fun p hp => ?_; (conv => cbv); refine st_load hE cInt (by rw [hp]; exact (h11c).at _ _ rfl) ?_; clear hp; (conv => cbv))
   refine br (fun g => ?_) (fun g => ?_)
   ·have g : pkz < x1 := by simpa [hE.cmp, cmpR] using g
    conv => cbv
    refine st_len hE sL3 fun x2 hx2 => ?_
    conv => cbv
    refine st_fld hE fTr2 fun p hp => ?_
    conv => cbv
    refine st_put hr zInt h11c hp (by simp) rfl fun wd hw hq9 => ?_
    simp only [b4_, b5_] at hq9
    conv => cbv
    refine ⟨x2, by simp [Fits, lk], hJ _ _ ⟨by omega, by have := hw.size; omega, ?_, ?_, hM.box hw f11.2.2 (by omega) (by omega) (fun g hg => by have := hS1 g hg; omega) (fun g hg => by have := (hl0 g hg).2; omega), h6c.wr hw (bx_apart f6.2.2 f11.2.2 (by omega)), h7c.wr hw (bx_apart f7.2.2 f11.2.2 (by omega)), hq9, h12c.wr hw (bx_apart f12.2.2 f11.2.2 (by omega))⟩⟩
    ·exact Wr.up2 ((hx.wr LA).trans hW) hw fun g hg => by rw [f11.2.2] at hg; cases hg; omega
    ·exact hxt.then (hw.bel (h11c.mono s00) (by omega))
   ·have g : ¬ pkz < x1 := by simpa [hE.cmp, cmpR] using g
    conv => cbv
    refine ⟨pkz, by simp [Fits, lk], hJ _ _ ⟨by omega, kc, (hx.wr LA).trans hW, hxt, hM, h6c, h7c, h11c, h12c⟩⟩
  ·rintro y wd ⟨hy, k7d, hWd, hxd, hMd, h6d, h7d, h11d, h12d⟩
   have kd := hWd.size
   conv => cbv
   refine st_loadS hE tIC rfl h6d.at ?_
   conv => cbv
   refine st_loadS hE tIReq rfl h7d.at ?_
   conv => cbv
   refine st_loadS hE tTr rfl h11d.at ?_
   conv => cbv
   have hI := ih a' nx wd S1 n1 c1 LA ln lc sv1 lv1 s' (stp + 1) px ea' (by omega) q2 hxd hMd.st.cells e1l hMd.st.cap (by omega) hMd.sl (fun x hm => ⟨(hMd.vals x hm).1, (hMd.vals x hm).2.mono fun b hb => ⟨hb.1, hb.2.2.1⟩⟩) q3 q4 (by rw [List.length_map, e2l] at q6'; rw [List.length_map, hlvl] at q6'; exact hln) (by omega) (by omega)
   rw [← hrun, show ((stp + 1 : Nat) : Int) = s1 by omega, ← hy] at hI
   refine st_g hr hI fun r we ⟨⟨N, nm, nc, ev, hoN, hN1, hN2⟩, hWe⟩ => ?_
   obtain ⟨⟨OO, nS, nP⟩, hOO⟩ : ∃ x, x = RUN := ⟨_, rfl⟩
   rw [← hOO] at ev hoN hN1 hN2
   simp only at ev hoN hN1 hN2
   obtain ⟨kk, hkk⟩ : ∃ y : Int, y = (ocOf OO).1 := ⟨_, rfl⟩
   obtain ⟨kc2, hkc2⟩ : ∃ y : Int, y = (ocOf OO).2.1 := ⟨_, rfl⟩
   obtain ⟨nSz, hnS⟩ : ∃ y : Int, y = (nS : Int) := ⟨_, rfl⟩
   obtain ⟨nPz, hnP⟩ : ∃ y : Int, y = (nP : Int) := ⟨_, rfl⟩
   rw [← hkk, ← hkc2, ← hnS, ← hnP] at ev
   subst ev
   have h12e := h12d.wr hWe (dj_apart h12d fun g h1 h2 => by rw [f12.2.2] at h1; cases h1; have := (hl0 _ h2).2; omega)
   have ke := hWe.size
   conv => cbv
   refine st_putS hr (by kernel_rfl) h12e (add_zero _).symm (by simp [zTrc]) (by simp [Value.oneCell']) fun wf hwf h12f => ?_
   simp only [zTrc, a1_, a2_, a3_, a4_, a5_, a6_, a7_] at h12f
   conv => cbv
   refine st_cell hr tTr rfl h12f.at ?_
   rw [hR, ← hOO]
   refine ⟨⟨N, nm, nc, by simp only [hkk, hkc2, hnS, hnP]; rfl, (hoN.wr hwf (dj_apart hoN fun g h1 h2 => by rw [f12.2.2] at h2; cases h2; have := (own_blk hoN _ h1).1; omega)).mono (by omega), hN1, hN2⟩, Wr.up2 (hWd.trans hWe) hwf fun g hg => by rw [f12.2.2] at hg; cases hg; omega⟩
abbrev zLS : List Value := [.bool false, .slice none 0 0, .slice none 0 0]
theorem tLS : Stc Tryz.prog 145 3 zLS := ⟨by kernel_rfl, by kernel_rfl⟩
theorem sLS : Slc Tryz.prog 143 145 (.agg ⟨zLS⟩) 3 56 := ⟨Tryz.underlying143, by kernel_rfl⟩
theorem fLS0 : Fld Tryz.prog 145 0 0 := ⟨by kernel_rfl⟩
theorem fLS1 : Fld Tryz.prog 145 1 1 := ⟨by kernel_rfl⟩
theorem fLS2 : Fld Tryz.prog 145 2 2 := ⟨by kernel_rfl⟩
theorem run_bLS (b : Bool) (w : World) : (Instr.build 145 #[(0, .bool b)]).run Tryz.prog w = .ok (.agg #[.bool b, .slice none 0 0, .slice none 0 0]) w := by kernel_rfl
theorem st_bLS {E : Sym} {w : World} {K : Value → World → Prop} {d : Option Tmp} {ty : TypeId} {pos : String} {aft : Array Edge} {g : Option (Nat × Bool)} {bq : Bool} (hE : EngB bq Tryz.prog E) {b : Bool} {x : Operand} (hk : K (.agg ⟨[.bool b, .slice none 0 0, .slice none 0 0]⟩) w) : E.stop ⟨d, .build 145 ⟨[(0, x)]⟩, ty, pos, aft, g⟩ [.bool b] w K := by
 refine hE.det (v := .agg ⟨[.bool b, .slice none 0 0, .slice none 0 0]⟩) (fun w1 _ ρ hρ => ?_) hk
 simp only [opnds, b2_, b3_, b1_, and_true] at hρ
 have := run_bLS b w1
 simp [execOp, hρ, this]
theorem ne_get {a b : List Int} {i : Nat} {x y : Int} (ha : a[i]? = some x) (hb : b[i]? = some y) (h : x ≠ y) : a ≠ b := fun e => by
 rw [e] at ha; rw [ha] at hb; exact h (Option.some.inj hb)
theorem take_step {a b : List Int} {i : Nat} {x : Int} (h : a.take i = b.take i) (ha : a[i]? = some x) (hb : b[i]? = some x) : a.take (i + 1) = b.take (i + 1) := by
 rw [g4_, g4_, h, ha, hb]
theorem l5sameInts_q {w : World} {A A1 : Option Addr} {n c n1 c1 : Nat} {zs ys : List Int} (h : Ints w A n c zs) (h1 : Ints w A1 n1 c1 ys) :
  QB Tryz.prog 93 [.slice A n c, .slice A1 n1 c1] w (zs = ys) := by
 refine QB.intro (cs := []) Tryz.func93 (by kernel_rfl) fun w0 hx0 w1 hs E R hE hr hR => ?_
 replace h := (h.ext hx0).ext hs.ext
 replace h1 := (h1.ext hx0).ext hs.ext
 have hl := h.len
 have hl1 := h1.len
 have hle := h.le
 conv => cbv
 refine st_len hE tInts fun x hx => ?_
 conv => cbv
 refine st_len hE tInts fun x1 hx1 => ?_
 conv => cbv
 refine br (fun g => ?_) (fun g => ?_)
 ·have g : x ≠ x1 := by simpa [hE.cmp, cmpR] using g
  conv => cbv
  exact hR _ _ hs (by simp only [Bool.false_eq_true, false_iff]; exact fun e => g (by rw [e] at hl; omega))
 have g : n = n1 := by
  have : x = x1 := by simpa [hE.cmp, cmpR] using g
  omega
 subst g
 conv => cbv
 refine st_len hE tInts fun x2 hx2 => ?_
 conv => cbv
 refine loop_rule hr (fun (s : Nat × Int) w' => s.1 ≤ n ∧ s.2 = (s.1 : Int) ∧ Same w1 w' ∧ zs.take s.1 = ys.take s.1) (fun s => [(0, .slice A n c), (1, .slice A1 n c1), (12, .slice A n c), (13, .int .i64 x2), (14, .int .i64 s.2)]) (fun s => n - s.1) (0, 0)
  (by simp [Fits, lk]) ⟨by simp, by simp, Same.refl _, by simp⟩ ?_
 rintro I hI ⟨i, ii⟩ w' ⟨hi, hii, hxw, hall⟩
 simp only at hi hii hall
 obtain ⟨ii', hii'⟩ : ∃ z, z = ii + 1 := ⟨_, rfl⟩
 conv => cbv
 refine br (fun g => ?_) (fun g => ?_)
 ·have g : i < n := by
   have : ii < x2 := by simpa [hE.cmp, cmpR] using g
   omega
  have e1 : E.ar .add .i64 ii 1 = ii' := by rw [hE.ar, hii']; exact wrap_in (by omega) (by omega)
  conv => cbv
  refine st_int hE tInts (h.ext hxw.ext) (k := i) (by omega) g fun p u hu hp => ?_
  conv => cbv
  refine st_load hE cInt hp ?_
  conv => cbv
  refine st_int hE tInts (h1.ext hxw.ext) (k := i) (by omega) g fun p2 y hy hp2 => ?_
  conv => cbv
  refine st_load hE cInt hp2 ?_
  conv => cbv
  refine br (fun g2 => ?_) (fun g2 => ?_)
  ·have g2 : u ≠ y := by simpa [hE.cmp, cmpR] using g2
   conv => cbv
   exact hR _ _ (hs.trans hxw) (by simp only [Bool.false_eq_true, false_iff]; exact ne_get hu hy g2)
  ·have g2 : u = y := by simpa [hE.cmp, cmpR] using g2
   conv => cbv
   simp only [e1]
   exact ⟨(i + 1, ii'), by simp [Fits, lk], hI _ _ ⟨by simp only; omega, by simp only; omega, hxw, take_step hall hu (by rw [g2]; exact hy)⟩, by simp only; omega⟩
 ·have g : i = n := by
   have : ¬ ii < x2 := by simpa [hE.cmp, cmpR] using g
   omega
  rw [g3_ (by omega), g3_ (by omega)] at hall
  conv => cbv
  exact hR _ _ (hs.trans hxw) (by simp [hall])
theorem Equal_q {w : World} {A A1 : Option Addr} {n c n1 c1 : Nat} {zs ys : List Int} (h : Ints w A n c zs) (h1 : Ints w A1 n1 c1 ys) :
  QB Tryz.prog 283 [.slice A n c, .slice A1 n1 c1] w (zs = ys) := by
 refine QB.intro (cs := []) Tryz.func283 (by kernel_rfl) fun w0 hx0 w1 hs E R hE hr hR => ?_
 replace h := (h.ext hx0).ext hs.ext
 replace h1 := (h1.ext hx0).ext hs.ext
 have hl := h.len
 have hl1 := h1.len
 have hle := h.le
 conv => cbv
 refine st_len hE tInts fun x hx => ?_
 conv => cbv
 refine st_len hE tInts fun x1 hx1 => ?_
 conv => cbv
 refine br (fun g => ?_) (fun g => ?_)
 ·have g : x ≠ x1 := by simpa [hE.cmp, cmpR] using g
  conv => cbv
  exact hR _ _ hs (by simp only [Bool.false_eq_true, false_iff]; exact fun e => g (by rw [e] at hl; omega))
 have g : n = n1 := by
  have : x = x1 := by simpa [hE.cmp, cmpR] using g
  omega
 subst g
 conv => cbv
 refine st_len hE tInts fun x2 hx2 => ?_
 conv => cbv
 refine loop_rule hr (fun (s : Nat × Int) w' => s.1 ≤ n ∧ s.2 = (s.1 : Int) ∧ Same w1 w' ∧ zs.take s.1 = ys.take s.1) (fun s => [(0, .slice A n c), (1, .slice A1 n c1), (12, .int .i64 x2), (13, .int .i64 s.2)]) (fun s => n - s.1) (0, 0)
  (by simp [Fits, lk]) ⟨by simp, by simp, Same.refl _, by simp⟩ ?_
 rintro I hI ⟨i, ii⟩ w' ⟨hi, hii, hxw, hall⟩
 simp only at hi hii hall
 obtain ⟨ii', hii'⟩ : ∃ z, z = ii + 1 := ⟨_, rfl⟩
 conv => cbv
 refine br (fun g => ?_) (fun g => ?_)
 ·have g : i < n := by
   have : ii < x2 := by simpa [hE.cmp, cmpR] using g
   omega
  have e1 : E.ar .add .i64 ii 1 = ii' := by rw [hE.ar, hii']; exact wrap_in (by omega) (by omega)
  conv => cbv
  refine draw_q hr fol (by kernel_rfl) fun E' hE' => ?_
  conv => cbv
  refine st_int hE' tInts (h.ext hxw.ext) (k := i) (by omega) g fun p u hu hp => ?_
  conv => cbv
  refine st_load hE' cInt hp ?_
  conv => cbv
  refine st_int hE' tInts (h1.ext hxw.ext) (k := i) (by omega) g fun p2 y hy hp2 => ?_
  conv => cbv
  refine st_load hE' cInt hp2 ?_
  conv => cbv
  intro w2 hs2
  replace hxw := hxw.trans hs2
  conv => cbv
  refine br (fun g2 => ?_) (fun g2 => ?_)
  ·have g2 : u ≠ y := by simpa [hE'.cmp, cmpR] using g2
   conv => cbv
   exact hR _ _ (hs.trans hxw) (by simp only [Bool.false_eq_true, false_iff]; exact ne_get hu hy g2)
  ·have g2 : u = y := by simpa [hE'.cmp, cmpR] using g2
   conv => cbv
   simp only [e1]
   exact ⟨(i + 1, ii'), by simp [Fits, lk], hI _ _ ⟨by simp only; omega, by simp only; omega, hxw, take_step hall hu (by rw [g2]; exact hy)⟩, by simp only; omega⟩
 ·have g : i = n := by
   have : ¬ ii < x2 := by simpa [hE.cmp, cmpR] using g
   omega
  rw [g3_ (by omega), g3_ (by omega)] at hall
  conv => cbv
  exact hR _ _ (hs.trans hxw) (by simp [hall])
theorem l5range_f {w : World} {A A2 : Option Addr} {n c n2 c2 : Nat} {sl : Int} {pv : List PV} {is : List (Int × Int)} (h : CodeR w A n A2 n2 pv is) (hn : n ≤ 9223372036854775807) (hn2 : n2 ≤ 9223372036854775807) {i : Nat} {ii o gg : Int} (hii : ii = (i : Int)) (hi : i < n2) (hi2 : is[i]? = some (o, gg)) :
  FC Tryz.prog 152 [codeV A n c sl A2 n2 c2, .int .i64 ii] w fun v _ => ∃ b : Bool, v = .bool b ∧ (b = true ↔ rangeF pv.length sl n2 i o gg) := by
 refine FC.intro (cs := []) Tryz.func152 (by kernel_rfl) fun E R hE hr hR => ?_
 have hpl := h.pool.len
 conv => cbv
 refine st_box hr fun a0 w1 hx hb0 => ?_
 have hb := hb0 _ (n1_ _)
 clear hb0
 conv => cbv
 (refine st_fld hE fIC2 fun p hp => ?_; (conv => cbv); refine st_load hE cIIs (by rw [hp]; exact (hb).at _ _ rfl) ?_; clear hp; (conv => cbv))
 obtain ⟨ai, o', g', hA, hg, hc⟩ := (h.ins.ext hx).get hi
 rw [hi2] at hg
 cases hg
 refine st_idx hE sII hA (by omega) (by omega) fun q hq => ?_
 rw [show ii.toNat = i by omega] at hq
 conv => cbv
 refine st_loadS hE tII rfl (by rw [hq]; exact hc) ?_
 conv => cbv
 refine st_alloc hr tII rfl fun q2 w2 hx2 hq0 => ?_
 have hq2 := hq0 _ hx.size
 have aq := (hb.apart (hq0 _ (n1_ _)) (n1_ _)).1
 replace hb := hb.bel hx2
 replace hx := hx.trans hx2
 conv => cbv
 refine st_putS hr (by kernel_rfl) hq2 (add_zero _).symm (by simp) (by simp [Value.oneCell']) fun w3 hw3 hq3 => ?_
 simp only [a1_, a2_, a3_, a4_, a5_, a6_, a7_] at hq3
 replace hx := hx.then (hw3.bel hq2 hx.size)
 replace hb := hb.wr hw3 aq
 clear hq2 hq0 hw3 hx2
 conv => cbv
 (refine st_fld hE fII0 fun p hp => ?_; (conv => cbv); refine st_load hE cInt (by rw [hp]; exact (hq3).at _ _ rfl) ?_; clear hp; (conv => cbv))
 refine br (fun g => ?_) (fun g => ?_)
 ·have g0 := g
  have g : o = 1 := by simpa [hE.cmp, cmpR] using g
  conv => cbv
  (refine st_fld hE fII1 fun p hp => ?_; (conv => cbv); refine st_load hE cInt (by rw [hp]; exact (hq3).at _ _ rfl) ?_; clear hp; (conv => cbv))
  (refine st_fld hE fIC0 fun p hp => ?_; (conv => cbv); refine st_load hE cIVs (by rw [hp]; exact (hb).at _ _ rfl) ?_; clear hp; (conv => cbv))
  refine st_len hE sIV fun x hx4 => ?_
  conv => cbv
  obtain ⟨q4, hq4⟩ : ∃ q4, q4 = E.cmp .lss gg x := ⟨_, rfl⟩
  have hq5 : q4 = true ↔ gg < x := by rw [hq4, hE.cmp]; simp [cmpR]
  simp only [← hq4]
  conv => cbv
  rw [hR]; exact ⟨hx, q4, rfl, by rw [hq5]; simp [rangeF, g]; try omega⟩
 have g1 : o ≠ 1 := by simpa [hE.cmp, cmpR] using g
 clear g
 conv => cbv
 refine br (fun g => ?_) (fun g => ?_)
 ·have g0 := g
  have g : o = 2 := by simpa [hE.cmp, cmpR] using g
  conv => cbv
  (refine st_fld hE fII1 fun p hp => ?_; (conv => cbv); refine st_load hE cInt (by rw [hp]; exact (hq3).at _ _ rfl) ?_; clear hp; (conv => cbv))
  obtain ⟨q4, hq4⟩ : ∃ q4, q4 = E.cmp .leq gg 5 := ⟨_, rfl⟩
  have hq5 : q4 = true ↔ gg ≤ 5 := by rw [hq4, hE.cmp]; simp [cmpR]
  simp only [← hq4]
  conv => cbv
  rw [hR]; exact ⟨hx, q4, rfl, by rw [hq5]; simp [rangeF, g]; try omega⟩
 have g2 : o ≠ 2 := by simpa [hE.cmp, cmpR] using g
 clear g
 conv => cbv
 refine br (fun g => ?_) (fun g => ?_)
 ·have g0 := g
  have g : o = 3 := by simpa [hE.cmp, cmpR] using g
  conv => cbv
  refine br (fun _ => ?_) (fun q => absurd g0 q)
  conv => cbv
  (refine st_fld hE fII1 fun p hp => ?_; (conv => cbv); refine st_load hE cInt (by rw [hp]; exact (hq3).at _ _ rfl) ?_; clear hp; (conv => cbv))
  (refine st_fld hE fIC1 fun p hp => ?_; (conv => cbv); refine st_load hE cInt (by rw [hp]; exact (hb).at _ _ rfl) ?_; clear hp; (conv => cbv))
  obtain ⟨q4, hq4⟩ : ∃ q4, q4 = E.cmp .lss gg sl := ⟨_, rfl⟩
  have hq5 : q4 = true ↔ gg < sl := by rw [hq4, hE.cmp]; simp [cmpR]
  simp only [← hq4]
  conv => cbv
  rw [hR]; exact ⟨hx, q4, rfl, by rw [hq5]; simp [rangeF, g]; try omega⟩
 have g3 : o ≠ 3 := by simpa [hE.cmp, cmpR] using g
 clear g
 conv => cbv
 refine br (fun g => ?_) (fun g => ?_)
 ·have g0 := g
  have g : o = 4 := by simpa [hE.cmp, cmpR] using g
  conv => cbv
  (refine st_fld hE fII1 fun p hp => ?_; (conv => cbv); refine st_load hE cInt (by rw [hp]; exact (hq3).at _ _ rfl) ?_; clear hp; (conv => cbv))
  (refine st_fld hE fIC1 fun p hp => ?_; (conv => cbv); refine st_load hE cInt (by rw [hp]; exact (hb).at _ _ rfl) ?_; clear hp; (conv => cbv))
  obtain ⟨q4, hq4⟩ : ∃ q4, q4 = E.cmp .lss gg sl := ⟨_, rfl⟩
  have hq5 : q4 = true ↔ gg < sl := by rw [hq4, hE.cmp]; simp [cmpR]
  simp only [← hq4]
  conv => cbv
  rw [hR]; exact ⟨hx, q4, rfl, by rw [hq5]; simp [rangeF, g]; try omega⟩
 have g4 : o ≠ 4 := by simpa [hE.cmp, cmpR] using g
 clear g
 conv => cbv
 refine br (fun g => ?_) (fun g => ?_)
 ·have g0 := g
  have g : o = 22 := by simpa [hE.cmp, cmpR] using g
  conv => cbv
  refine br (fun _ => ?_) (fun q => absurd g0 q)
  conv => cbv
  (refine st_fld hE fII1 fun p hp => ?_; (conv => cbv); refine st_load hE cInt (by rw [hp]; exact (hq3).at _ _ rfl) ?_; clear hp; (conv => cbv))
  refine br (fun g2 => ?_) (fun g2 => ?_)
  ·have g2 : ii < gg := by simpa [hE.cmp, cmpR] using g2
   conv => cbv
   (refine st_fld hE fII1 fun p hp => ?_; (conv => cbv); refine st_load hE cInt (by rw [hp]; exact (hq3).at _ _ rfl) ?_; clear hp; (conv => cbv))
   (refine st_fld hE fIC2 fun p hp => ?_; (conv => cbv); refine st_load hE cIIs (by rw [hp]; exact (hb).at _ _ rfl) ?_; clear hp; (conv => cbv))
   refine st_len hE sII fun x hx4 => ?_
   conv => cbv
   obtain ⟨q4, hq4⟩ : ∃ q4, q4 = E.cmp .lss gg x := ⟨_, rfl⟩
   have hq5 : q4 = true ↔ gg < x := by rw [hq4, hE.cmp]; simp [cmpR]
   simp only [← hq4]
   conv => cbv
   rw [hR]; exact ⟨hx, q4, rfl, by rw [hq5]; simp [rangeF, g]; try omega⟩
  ·have g2 : ¬ ii < gg := by simpa [hE.cmp, cmpR] using g2
   conv => cbv
   rw [hR]; exact ⟨hx, false, rfl, by simp [rangeF, g]; omega⟩
 have g22 : o ≠ 22 := by simpa [hE.cmp, cmpR] using g
 clear g
 conv => cbv
 refine br (fun g => ?_) (fun g => ?_)
 ·have g0 := g
  have g : o = 23 := by simpa [hE.cmp, cmpR] using g
  conv => cbv
  (refine st_fld hE fII1 fun p hp => ?_; (conv => cbv); refine st_load hE cInt (by rw [hp]; exact (hq3).at _ _ rfl) ?_; clear hp; (conv => cbv))
  refine br (fun g2 => ?_) (fun g2 => ?_)
  ·have g2 : ii < gg := by simpa [hE.cmp, cmpR] using g2
   conv => cbv
   (refine st_fld hE fII1 fun p hp => ?_; (conv => cbv); refine st_load hE cInt (by rw [hp]; exact (hq3).at _ _ rfl) ?_; clear hp; (conv => cbv))
   (refine st_fld hE fIC2 fun p hp => ?_; (conv => cbv); refine st_load hE cIIs (by rw [hp]; exact (hb).at _ _ rfl) ?_; clear hp; (conv => cbv))
   refine st_len hE sII fun x hx4 => ?_
   conv => cbv
   obtain ⟨q4, hq4⟩ : ∃ q4, q4 = E.cmp .lss gg x := ⟨_, rfl⟩
   have hq5 : q4 = true ↔ gg < x := by rw [hq4, hE.cmp]; simp [cmpR]
   simp only [← hq4]
   conv => cbv
   rw [hR]; exact ⟨hx, q4, rfl, by rw [hq5]; simp [rangeF, g]; try omega⟩
  ·have g2 : ¬ ii < gg := by simpa [hE.cmp, cmpR] using g2
   conv => cbv
   rw [hR]; exact ⟨hx, false, rfl, by simp [rangeF, g]; omega⟩
 have g23 : o ≠ 23 := by simpa [hE.cmp, cmpR] using g
 clear g
 conv => cbv
 rw [hR]; exact ⟨hx, true, rfl, by simp [rangeF, g1, g2, g3, g4, g22, g23]⟩
theorem l5next_f {w : World} {A A2 : Option Addr} {n c n2 c2 : Nat} {sl : Int} {pv : List PV} {is : List (Int × Int)} (h : CodeR w A n A2 n2 pv is) (hn : n ≤ 9223372036854775807) (hn2 : n2 ≤ 9223372036854775807) {i : Nat} {ii o gg : Int} (hii : ii = (i : Int)) (hi : i < n2) (hi2 : is[i]? = some (o, gg)) (hg0 : 0 ≤ gg) (hib : i ≤ 100000) :
  FC Tryz.prog 92 [codeV A n c sl A2 n2 c2, .int .i64 ii] w fun v w' => ∃ A1 n1 c1, v = .slice A1 n1 c1 ∧ Own w.heap.size 3 1 w' A1 n1 c1 ((nexts i o gg).map (.int .i64)) := by
 refine FC.intro (cs := []) Tryz.func92 (by kernel_rfl) fun E R hE hr hR => ?_
 conv => cbv
 refine st_box hr fun a0 w1 hx hb0 => ?_
 have hb := hb0 _ (n1_ _)
 clear hb0
 conv => cbv
 (refine st_fld hE fIC2 fun p hp => ?_; (conv => cbv); refine st_load hE cIIs (by rw [hp]; exact (hb).at _ _ rfl) ?_; clear hp; (conv => cbv))
 obtain ⟨ai, o', g', hA, hg, hc⟩ := (h.ins.ext hx).get hi
 rw [hi2] at hg
 cases hg
 refine st_idx hE sII hA (by omega) (by omega) fun q hq => ?_
 rw [show ii.toNat = i by omega] at hq
 conv => cbv
 refine st_loadS hE tII rfl (by rw [hq]; exact hc) ?_
 conv => cbv
 refine st_alloc hr tII rfl fun q2 w2 hx2 hq0 => ?_
 have hq2 := hq0 _ hx.size
 have aq := (hb.apart (hq0 _ (n1_ _)) (n1_ _)).1
 replace hb := hb.bel hx2
 replace hx := hx.trans hx2
 conv => cbv
 refine st_putS hr (by kernel_rfl) hq2 (add_zero _).symm (by simp) (by simp [Value.oneCell']) fun w3 hw3 hq3 => ?_
 simp only [a1_, a2_, a3_, a4_, a5_, a6_, a7_] at hq3
 replace hx := hx.then (hw3.bel hq2 hx.size)
 replace hb := hb.wr hw3 aq
 clear hq2 hq0 hw3 hx2
 conv => cbv
 (refine st_fld hE fII0 fun p hp => ?_; (conv => cbv); refine st_load hE cInt (by rw [hp]; exact (hq3).at _ _ rfl) ?_; clear hp; (conv => cbv))
 obtain ⟨ij, hij⟩ : ∃ z, z = ii + 1 := ⟨_, rfl⟩
 have ei : E.ar .add .i64 ii 1 = ij := by rw [hE.ar, hij]; exact wrap_in (by omega) (by omega)
 refine br (fun g => ?_) (fun g => ?_)
 ·have g0 := g
  have g : o = 24 := by simpa [hE.cmp, cmpR] using g
  conv => cbv
  refine br (fun _ => ?_) (fun q => absurd g0 q)
  conv => cbv
  rw [hR]; exact ⟨hx, none, 0, 0, rfl, by simp [nexts, g]; exact Own.nil⟩
 have g24 : o ≠ 24 := by simpa [hE.cmp, cmpR] using g
 clear g
 conv => cbv
 refine br (fun g => ?_) (fun g => ?_)
 ·have g0 := g
  have g : o = 25 := by simpa [hE.cmp, cmpR] using g
  conv => cbv
  rw [hR]; exact ⟨hx, none, 0, 0, rfl, by simp [nexts, g]; exact Own.nil⟩
 have g25 : o ≠ 25 := by simpa [hE.cmp, cmpR] using g
 clear g
 conv => cbv
 refine br (fun g => ?_) (fun g => ?_)
 ·have g0 := g
  have g : o = 22 := by simpa [hE.cmp, cmpR] using g
  conv => cbv
  (refine st_fld hE fII1 fun p hp => ?_; (conv => cbv); refine st_load hE cInt (by rw [hp]; exact (hq3).at _ _ rfl) ?_; clear hp; (conv => cbv))
  refine st_lits hr tInts rfl (vs := [.int .i64 gg]) (m := 1) rfl (by omega) (by omega) rfl (by simp [Value.cells]) fun A5 w5 hx5 ho => ?_
  conv => cbv
  rw [hR]; refine ⟨hx.trans hx5, A5, 1, 1, rfl, ?_⟩
  have := ho _ hx.size
  simpa [nexts, g, hij, hii] using this
 have g22 : o ≠ 22 := by simpa [hE.cmp, cmpR] using g
 clear g
 conv => cbv
 refine br (fun g => ?_) (fun g => ?_)
 ·have g0 := g
  have g : o = 23 := by simpa [hE.cmp, cmpR] using g
  conv => cbv
  simp only [ei]
  (refine st_fld hE fII1 fun p hp => ?_; (conv => cbv); refine st_load hE cInt (by rw [hp]; exact (hq3).at _ _ rfl) ?_; clear hp; (conv => cbv))
  refine st_lits hr tInts rfl (vs := [.int .i64 ij, .int .i64 gg]) (m := 2) rfl (by omega) (by omega) rfl (by simp [Value.cells]) fun A5 w5 hx5 ho => ?_
  conv => cbv
  rw [hR]; refine ⟨hx.trans hx5, A5, 2, 2, rfl, ?_⟩
  have := ho _ hx.size
  simpa [nexts, g, hij, hii] using this
 have g23 : o ≠ 23 := by simpa [hE.cmp, cmpR] using g
 clear g
 conv => cbv
 simp only [ei]
 refine st_lits hr tInts rfl (vs := [.int .i64 ij]) (m := 1) rfl (by omega) (by omega) rfl (by simp [Value.cells]) fun A5 w5 hx5 ho => ?_
 conv => cbv
 rw [hR]; refine ⟨hx.trans hx5, A5, 1, 1, rfl, ?_⟩
 have := ho _ hx.size
 simpa [nexts, g22, g23, g24, g25, hij, hii] using this
theorem l5takes_f {w : World} {A A2 A3 A4 : Option Addr} {n c n2 c2 n3 c3 n4 c4 : Nat} {sl : Int} {pv : List PV} {is : List (Int × Int)} (h : CodeR w A n A2 n2 pv is) (hn : n ≤ 9223372036854775807) {ni a : Nat} {o gg : Int} {kn : Bool} {sls : List Int} (hs : Ints w A4 n4 c4 sls) (hsl : (n4 : Int) = sl)
  (h1 : 1 ≤ o) (h2 : o ≤ 25) (hg0 : 0 ≤ gg) (hrg : rangeF pv.length sl ni a o gg) :
  FC Tryz.prog 153 [codeV A n c sl A2 n2 c2, .agg ⟨[.int .i64 o, .int .i64 gg]⟩, .agg ⟨[.bool kn, .slice A3 n3 c3, .slice A4 n4 c4]⟩] w fun v w' => ∃ A1 n1 c1 t, v = .tuple ⟨[.slice A1 n1 c1, .int .i64 t]⟩ ∧ Ints w' A1 n1 c1 (wantF o) ∧ t = pushF pv sls o gg := by
 refine FC.intro (cs := []) Tryz.func153 (by kernel_rfl) fun E R hE hr hR => ?_
 have hpl := h.pool.len
 have hsn := hs.len
 obtain ⟨r1, r2, r3, r4⟩ := hrg
 conv => cbv
 refine st_box hr fun a0 w1 hx hb0 => ?_
 have hb := hb0 _ (n1_ _)
 clear hb0
 conv => cbv
 refine st_box hr fun a1 w2 hx2 hq0 => ?_
 have hq := hq0 _ hx.size
 replace hb := hb.bel hx2
 replace hx := hx.trans hx2
 clear hq0 hx2
 conv => cbv
 refine st_box hr fun a2 w3 hx3 hy0 => ?_
 have hy := hy0 _ hx.size
 replace hb := hb.bel hx3
 replace hq := hq.bel hx3
 replace hx := hx.trans hx3
 clear hy0 hx3
 conv => cbv
 (refine st_fld hE fII0 fun p hp => ?_; (conv => cbv); refine st_load hE cInt (by rw [hp]; exact (hq).at _ _ rfl) ?_; clear hp; (conv => cbv))
 refine br (fun g => ?_) (fun g => ?_)
 ·have g0 := g
  have g : o = 1 := by simpa [hE.cmp, cmpR] using g
  conv => cbv
  have hgn := r1 g
  obtain ⟨gn, hgn2⟩ : ∃ gn : Nat, gg = gn := ⟨gg.toNat, by omega⟩
  refine draw_q hr fol (by kernel_rfl) fun E' hE' => ?_
  obtain ⟨ap, k, z, tx, xs, A5, m5, c5, hA, hpg, hc, _, _⟩ := (h.pool.ext hx).get (i := gn) (by omega)
  conv => cbv
  (refine st_fld hE' fIC0 fun p hp => ?_; (conv => cbv); refine st_load hE' cIVs (by rw [hp]; exact (hb).at _ _ rfl) ?_; clear hp; (conv => cbv))
  (refine st_fld hE' fII1 fun p hp => ?_; (conv => cbv); refine st_load hE' cInt (by rw [hp]; exact (hq).at _ _ rfl) ?_; clear hp; (conv => cbv))
  refine st_idx hE' sIV hA (by omega) (by omega) fun q hq1 => ?_
  rw [show gg.toNat = gn by omega] at hq1
  conv => cbv
  refine st_fld hE' fIV0 fun q2 hq2 => ?_
  conv => cbv
  refine st_load hE' cInt (v := .int .i64 k) (by rw [hq2, hq1]; exact hc _ _ rfl) ?_
  conv => cbv
  intro w4 hs4
  conv => cbv
  rw [hR]; refine ⟨hx.trans hs4.ext, none, 0, 0, k, rfl, by simp [wantF, g]; exact ints_nil _, ?_⟩
  simp [pushF, g, kindF, show gg.toNat = gn by omega, hpg]
 have g1 : o ≠ 1 := by simpa [hE.cmp, cmpR] using g
 clear g
 conv => cbv
 refine br (fun g => ?_) (fun g => ?_)
 ·have g0 := g
  have g : o = 2 := by simpa [hE.cmp, cmpR] using g
  conv => cbv
  (refine st_fld hE fII1 fun p hp => ?_; (conv => cbv); refine st_load hE cInt (by rw [hp]; exact (hq).at _ _ rfl) ?_; clear hp; (conv => cbv))
  refine st_f hr (l3attrType_f gg) fun v w4 hx4 ev => ?_
  subst ev
  obtain ⟨z, hz⟩ : ∃ z, z = attrF gg := ⟨_, rfl⟩
  rw [← hz]
  conv => cbv
  rw [hR]; exact ⟨hx.trans hx4, none, 0, 0, z, rfl, by simp [wantF, g]; exact ints_nil _, by simp [pushF, g, hz]⟩
 have g2 : o ≠ 2 := by simpa [hE.cmp, cmpR] using g
 clear g
 conv => cbv
 refine br (fun g => ?_) (fun g => ?_)
 ·have g0 := g
  have g : o = 3 := by simpa [hE.cmp, cmpR] using g
  conv => cbv
  have hgn := r3 (.inl g)
  obtain ⟨gn, hgn2⟩ : ∃ gn : Nat, gg = gn := ⟨gg.toNat, by omega⟩
  refine draw_q hr fol (by kernel_rfl) fun E' hE' => ?_
  conv => cbv
  (refine st_fld hE' fLS2 fun p hp => ?_; (conv => cbv); refine st_load hE' cInts (by rw [hp]; exact (hy).at _ _ rfl) ?_; clear hp; (conv => cbv))
  (refine st_fld hE' fII1 fun p hp => ?_; (conv => cbv); refine st_load hE' cInt (by rw [hp]; exact (hq).at _ _ rfl) ?_; clear hp; (conv => cbv))
  refine st_int hE' tInts (hs.ext hx) (k := gn) (by omega) (by omega) fun p u hu hp => ?_
  conv => cbv
  refine st_load hE' cInt hp ?_
  conv => cbv
  intro w4 hs4
  conv => cbv
  rw [hR]; refine ⟨hx.trans hs4.ext, none, 0, 0, u, rfl, by simp [wantF, g]; exact ints_nil _, ?_⟩
  simp [pushF, g, slotF, show gg.toNat = gn by omega, hu]
 have g3 : o ≠ 3 := by simpa [hE.cmp, cmpR] using g
 clear g
 conv => cbv
 refine br (fun g => ?_) (fun g => ?_)
 ·have g0 := g
  have g : o = 4 := by simpa [hE.cmp, cmpR] using g
  conv => cbv
  refine st_lits hr tInts rfl (vs := [.int .i64 (-1)]) (m := 1) rfl (by omega) (by omega) rfl (by simp [Value.cells]) fun A5 w5 hx5 ho => ?_
  conv => cbv
  rw [hR]; exact ⟨hx.trans hx5, A5, 1, 1, 0, rfl, by simp [wantF, g]; exact Own.ints (zs := [-1]) (ho _ (n1_ _)), by simp [pushF, g]⟩
 have g4 : o ≠ 4 := by simpa [hE.cmp, cmpR] using g
 clear g
 conv => cbv
 refine br (fun g => ?_) (fun g => ?_)
 ·have g0 := g
  have g : o = 22 := by simpa [hE.cmp, cmpR] using g
  conv => cbv
  refine br (fun _ => ?_) (fun q => absurd g0 q)
  conv => cbv
  rw [hR]; exact ⟨hx, none, 0, 0, 0, rfl, by simp [wantF, g]; exact ints_nil _, by simp [pushF, g]⟩
 have g22 : o ≠ 22 := by simpa [hE.cmp, cmpR] using g
 clear g
 conv => cbv
 refine br (fun g => ?_) (fun g => ?_)
 ·have g0 := g
  have g : o = 24 := by simpa [hE.cmp, cmpR] using g
  conv => cbv
  rw [hR]; exact ⟨hx, none, 0, 0, 0, rfl, by simp [wantF, g]; exact ints_nil _, by simp [pushF, g]⟩
 have g24 : o ≠ 24 := by simpa [hE.cmp, cmpR] using g
 clear g
 conv => cbv
 refine br (fun g => ?_) (fun g => ?_)
 ·have g0 := g
  have g : o = 23 := by simpa [hE.cmp, cmpR] using g
  conv => cbv
  refine st_lits hr tInts rfl (vs := [.int .i64 (1)]) (m := 1) rfl (by omega) (by omega) rfl (by simp [Value.cells]) fun A5 w5 hx5 ho => ?_
  conv => cbv
  rw [hR]; exact ⟨hx.trans hx5, A5, 1, 1, 0, rfl, by simp [wantF, g]; exact Own.ints (zs := [1]) (ho _ (n1_ _)), by simp [pushF, g]⟩
 have g23 : o ≠ 23 := by simpa [hE.cmp, cmpR] using g
 clear g
 conv => cbv
 refine br (fun g => ?_) (fun g => ?_)
 ·have g0 := g
  have g : o = 25 := by simpa [hE.cmp, cmpR] using g
  conv => cbv
  refine st_lits hr tInts rfl (vs := [.int .i64 (4)]) (m := 1) rfl (by omega) (by omega) rfl (by simp [Value.cells]) fun A5 w5 hx5 ho => ?_
  conv => cbv
  rw [hR]; exact ⟨hx.trans hx5, A5, 1, 1, 0, rfl, by simp [wantF, g]; exact Own.ints (zs := [4]) (ho _ (n1_ _)), by simp [pushF, g]⟩
 have g25 : o ≠ 25 := by simpa [hE.cmp, cmpR] using g
 clear g
 conv => cbv
 obtain ⟨o3, ho3⟩ : ∃ z, z = o + 3 := ⟨_, rfl⟩
 have e1 : ∀ z, z = 11 + o → E.ar .sub .i64 z 8 = o3 := fun z hz => by rw [hE.ar, hz, ho3]; rw [show arR .sub .i64 (11 + o) 8 = IntKind.i64.wrap (11 + o - 8) from rfl, wrap_in (by omega) (by omega)]; omega
 have e2 : ∀ z, z = 8 + o → E.ar .sub .i64 z 5 = o3 := fun z hz => by rw [hE.ar, hz, ho3]; rw [show arR .sub .i64 (8 + o) 5 = IntKind.i64.wrap (8 + o - 5) from rfl, wrap_in (by omega) (by omega)]; omega
 have e3 : E.ar .add .i64 11 o = 11 + o := by rw [hE.ar]; exact wrap_in (by omega) (by omega)
 have e4 : E.ar .add .i64 8 o = 8 + o := by rw [hE.ar]; exact wrap_in (by omega) (by omega)
 have e5 : E.ar .sub .i64 (E.ar .add .i64 11 o) 8 = o3 := e1 _ e3
 have e6 : E.ar .sub .i64 (E.ar .add .i64 8 o) 5 = o3 := e2 _ e4
 (refine st_fld hE fII0 fun p hp => ?_; (conv => cbv); refine st_load hE cInt (by rw [hp]; exact (hq).at _ _ rfl) ?_; clear hp; (conv => cbv))
 simp only [e5]
 (refine st_fld hE fII0 fun p hp => ?_; (conv => cbv); refine st_load hE cInt (by rw [hp]; exact (hq).at _ _ rfl) ?_; clear hp; (conv => cbv))
 have last : ∀ (F : World), Ext w F → True := fun _ _ => trivial
 refine br (fun g => ?_) (fun g => ?_)
 ·conv => cbv
  (refine st_fld hE fII0 fun p hp => ?_; (conv => cbv); refine st_load hE cInt (by rw [hp]; exact (hq).at _ _ rfl) ?_; clear hp; (conv => cbv))
  simp only [e6]
  conv => cbv
  refine st_f hr (l3rowV_f o3 (by omega) (by omega)) fun v w4 hx4 ⟨A5, n5, c5, t5, want, ev, hrow, hw5⟩ => ?_
  subst ev
  conv => cbv
  rw [hR]; exact ⟨hx.trans hx4, A5, n5, c5, t5, rfl, by simp [wantF, g1, g2, g3, g4, g22, g23, g24, g25, ← ho3, hrow]; exact hw5, by simp [pushF, g1, g2, g3, g4, g22, g23, g24, g25, ← ho3, hrow]⟩
 ·conv => cbv
  refine st_f hr (l3rowV_f o3 (by omega) (by omega)) fun v w4 hx4 ⟨A5, n5, c5, t5, want, ev, hrow, hw5⟩ => ?_
  subst ev
  conv => cbv
  rw [hR]; exact ⟨hx.trans hx4, A5, n5, c5, t5, rfl, by simp [wantF, g1, g2, g3, g4, g22, g23, g24, g25, ← ho3, hrow]; exact hw5, by simp [pushF, g1, g2, g3, g4, g22, g23, g24, g25, ← ho3, hrow]⟩
theorem copyOf_f {w : World} {kn : Bool} {A A2 : Option Addr} {n c n2 c2 : Nat} {zs ys : List Int} (h : Ints w A n c zs) (h2 : Ints w A2 n2 c2 ys) (hn : n ≤ 100000) (hn2 : n2 ≤ 100000) :
  FC Tryz.prog 154 [.agg ⟨[.bool kn, .slice A n c, .slice A2 n2 c2]⟩] w fun v w' => ∃ A3 c3 A4 c4, v = .agg ⟨[.bool kn, .slice A3 n c3, .slice A4 n2 c4]⟩ ∧
   Own w.heap.size 3 1 w' A3 n c3 (zs.map (.int .i64)) ∧ Own w.heap.size 3 1 w' A4 n2 c4 (ys.map (.int .i64)) ∧ Apart A3 A4 ∧ Apart A4 A3 := by
 refine FC.intro (cs := []) Tryz.func154 (by kernel_rfl) fun E R hE hr hR => ?_
 have hl := h.len
 have hl2 := h2.len
 conv => cbv
 refine st_box hr fun a w1 hx hb0 => ?_
 have hb := hb0 _ (n1_ _)
 conv => cbv
 refine st_alloc hr tLS rfl fun o w2 hx2 ho0 => ?_
 have ho := ho0 _ hx.size
 replace hb := hb.bel hx2
 replace hx := hx.trans hx2
 conv => cbv
 (refine st_fld hE fLS0 fun p hp => ?_; (conv => cbv); refine st_load hE cBool (by rw [hp]; exact (hb).at _ _ rfl) ?_; clear hp; (conv => cbv))
 refine st_bLS hE ?_
 conv => cbv
 refine st_alloc hr tLS rfl fun q w3 hx3 hq0 => ?_
 have hq := hq0 _ hx.size
 have aq := (hb.apart (hq0 _ (n1_ _)) (n1_ _)).1
 have oq := (ho.apart (hq0 _ (n1_ _)) (n1_ _)).1
 replace hb := hb.bel hx3
 replace ho := ho.bel hx3
 replace hx := hx.trans hx3
 clear hb0 ho0 hq0 hx2 hx3
 conv => cbv
 refine st_putS hr (by kernel_rfl) hq (add_zero _).symm (by simp) (by simp [Value.oneCell']) fun w4 hw4 hq4 => ?_
 simp only [a1_, a2_, a3_, a4_, a5_, a6_, a7_] at hq4
 replace hx := hx.then (hw4.bel hq hx.size)
 replace hb := hb.wr hw4 aq
 replace ho := ho.wr hw4 oq
 replace hq := hq4
 clear hq4 hw4
 conv => cbv
 (refine st_fld hE fLS1 fun p hp => ?_; (conv => cbv); refine st_load hE cInts (by rw [hp]; exact (hq).at _ _ rfl) ?_; clear hp; (conv => cbv))
 (refine st_fld hE fLS1 fun p hp => ?_; (conv => cbv); refine st_load hE cInts (by rw [hp]; exact (hb).at _ _ rfl) ?_; clear hp; (conv => cbv))
 refine st_apps hr tInts rfl (Own.nil (B := w4.heap.size)) (h.ext hx).cells (by simp [hl]) (by simp [Value.oneCell']) (n1_ _) (by omega) (by omega) fun A5 c5 n5 w5 hn5 hw5 o5 => ?_
 rw [Nat.zero_add] at hn5
 subst hn5
 have hx5 : Ext w4 w5 := by
  refine (Ext.refl w4).then ⟨hw5.os, hw5.tape, hw5.output, hw5.size, fun i hi => hw5.block i hi ?_⟩
  simp [Eng.blk, Value.ownBlock]
 have q5 := (hq.apart o5 (n1_ _))
 have x5 := (ho.apart o5 (n1_ _))
 replace o5 := o5.mono hx.size
 rw [a2_] at o5
 replace hb := hb.bel hx5
 replace ho := ho.bel hx5
 replace hq := hq.bel hx5
 replace hx := hx.trans hx5
 clear hw5 hx5
 conv => cbv
 refine st_fld hE fLS1 fun p hp => ?_
 conv => cbv
 refine st_put hr zInts hq hp (by simp) rfl fun w6 hw6 hq6 => ?_
 simp only [b4_, b5_] at hq6
 replace hx := hx.then (hw6.bel hq hx.size)
 replace hb := hb.wr hw6 aq
 replace ho := ho.wr hw6 oq
 replace o5 := o5.wr hw6 q5.2
 replace hq := hq6
 clear hq6 hw6
 conv => cbv
 (refine st_fld hE fLS2 fun p hp => ?_; (conv => cbv); refine st_load hE cInts (by rw [hp]; exact (hq).at _ _ rfl) ?_; clear hp; (conv => cbv))
 (refine st_fld hE fLS2 fun p hp => ?_; (conv => cbv); refine st_load hE cInts (by rw [hp]; exact (hb).at _ _ rfl) ?_; clear hp; (conv => cbv))
 refine st_apps hr tInts rfl (Own.nil (B := w6.heap.size)) (h2.ext hx).cells (by simp [hl2]) (by simp [Value.oneCell']) (n1_ _) (by omega) (by omega) fun A7 c7 n7 w7 hn7 hw7 o7 => ?_
 rw [Nat.zero_add] at hn7
 subst hn7
 have hx7 : Ext w6 w7 := by
  refine (Ext.refl w6).then ⟨hw7.os, hw7.tape, hw7.output, hw7.size, fun i hi => hw7.block i hi ?_⟩
  simp [Eng.blk, Value.ownBlock]
 have q7 := (hq.apart o7 (n1_ _))
 have x7 := (ho.apart o7 (n1_ _))
 have s57 := (o5.apart o7 (n1_ _))
 replace o7 := o7.mono hx.size
 rw [a2_] at o7
 replace ho := ho.bel hx7
 replace hq := hq.bel hx7
 replace o5 := o5.bel hx7
 replace hx := hx.trans hx7
 clear hw7 hx7
 conv => cbv
 refine st_fld hE fLS2 fun p hp => ?_
 conv => cbv
 refine st_put hr zInts hq hp (by simp) rfl fun w8 hw8 hq8 => ?_
 simp only [b4_, b5_] at hq8
 replace hx := hx.then (hw8.bel hq hx.size)
 replace ho := ho.wr hw8 oq
 replace o5 := o5.wr hw8 q5.2
 replace o7 := o7.wr hw8 q7.2
 conv => cbv
 refine st_loadS hE tLS rfl hq8.at ?_
 conv => cbv
 refine st_putS hr (by kernel_rfl) ho (add_zero _).symm (by simp) (by simp [Value.oneCell']) fun w9 hw9 ho9 => ?_
 simp only [a1_, a2_, a3_, a4_, a5_, a6_, a7_] at ho9
 conv => cbv
 refine st_cell hr tLS rfl ho9.at ?_
 rw [hR]; exact ⟨hx.then (hw9.bel ho hx.size), A5, c5, A7, c7, rfl, o5.wr hw9 x5.2, o7.wr hw9 x7.2, s57.1, s57.2⟩
theorem chk_at {o : Int} {gi : Nat} {want args : List Int} {any : Int} {sls : List Int} {k : Nat} {wv u : Int} (h1 : want[k]? = some wv) (h2 : args[k]? = some u) : chkV o gi (want.drop k) (args.drop k) any sls =
  if (wv = 0 ∧ u ≠ (if wv = 0 ∧ any = 0 then u else any)) ∨ (0 < wv ∧ u ≠ wv) then none
  else if o = 4 then (if (sls[gi]?).getD 0 ≠ 0 ∧ (sls[gi]?).getD 0 ≠ u then none else chkV o gi (want.drop (k + 1)) (args.drop (k + 1)) (if wv = 0 ∧ any = 0 then u else any) (sls.set gi u))
  else chkV o gi (want.drop (k + 1)) (args.drop (k + 1)) (if wv = 0 ∧ any = 0 then u else any) sls := by
 obtain ⟨p1, q1⟩ := List.getElem?_eq_some_iff.1 h1
 obtain ⟨p2, q2⟩ := List.getElem?_eq_some_iff.1 h2
 rw [List.drop_eq_getElem_cons p1, List.drop_eq_getElem_cons p2, q1, q2, chkV]
theorem chk_end {o : Int} {gi : Nat} {want args : List Int} {any : Int} {sls : List Int} {k : Nat} (h1 : want.length ≤ k) : chkV o gi (want.drop k) (args.drop k) any sls = some sls := by
 rw [List.drop_eq_nil_of_le h1]; rfl
theorem row_pos (op : Int) : 0 ≤ (rowV op).2 := by unfold rowV; (repeat' split) <;> simp
theorem push_nn {pv : List PV} {sls : List Int} {o g : Int} (hk : ∀ p ∈ pv, 0 < p.k) (hs : ∀ x ∈ sls, 0 ≤ x) : 0 ≤ pushF pv sls o g := by
 unfold pushF
 split
 ·unfold kindF
  cases h : pv[g.toNat]? with
  | none => simp
  | some p => have := hk p (m1_ h); simp; omega
 split
 ·unfold attrF; (repeat' split) <;> omega
 split
 ·unfold slotF
  cases h : sls[g.toNat]? with
  | none => simp
  | some p => have := hs p (m1_ h); simp; exact this
 split
 ·omega
 ·exact row_pos _
theorem l5step_f {w : World} {A A2 A3 A4 : Option Addr} {n c n2 c2 n3 c3 n4 c4 : Nat} {sl : Int} {pv : List PV} {is : List (Int × Int)} (h : CodeR w A n A2 n2 pv is) (hn : n ≤ 9223372036854775807) (hn2 : n2 ≤ 9223372036854775807) {i : Nat} {ii o gg : Int} (hii : ii = (i : Int)) (hi : i < n2) (hi2 : is[i]? = some (o, gg))
  (h1 : 1 ≤ o) (h2 : o ≤ 25) (hg0 : 0 ≤ gg) {kn : Bool} {st sls : List Int} (hs : Ints w A3 n3 c3 st) (hs2 : Ints w A4 n4 c4 sls) (hsl : (n4 : Int) = sl) (hpos : ∀ x ∈ st, 0 < x) (hnn : ∀ x ∈ sls, 0 ≤ x) (hk : ∀ p ∈ pv, 0 < p.k) (hb3 : n3 ≤ 1000) (hb4 : n4 ≤ 1000) :
  FC Tryz.prog 91 [codeV A n c sl A2 n2 c2, .int .i64 ii, .agg ⟨[.bool kn, .slice A3 n3 c3, .slice A4 n4 c4]⟩] w fun v w' => ∃ kn' A5 n5 c5 A6 n6 c6 cd, v = .tuple ⟨[.agg ⟨[.bool kn', .slice A5 n5 c5, .slice A6 n6 c6]⟩, .int .i64 cd]⟩ ∧ cd = (stepF pv sl n2 i o gg (st, sls)).1 ∧
   (cd = 0 → kn' = kn ∧ Own w.heap.size 3 1 w' A5 n5 c5 ((stepF pv sl n2 i o gg (st, sls)).2.1.map (.int .i64)) ∧ Own w.heap.size 3 1 w' A6 n6 c6 ((stepF pv sl n2 i o gg (st, sls)).2.2.map (.int .i64))) := by
 refine FC.intro (cs := []) Tryz.func91 (by kernel_rfl) fun E R hE hr hR => ?_
 have hpl := h.pool.len
 have hstl := hs.len
 have hsll := hs2.len
 have en : ∀ x y : Int, ¬ x ≠ y → ¬ E.cmp .neq x y = true := fun x y h => by rw [hE.cmp]; simpa [cmpR] using h
 have eg : ∀ x y : Int, ¬ y < x → ¬ E.cmp .gtr x y = true := fun x y h => by rw [hE.cmp]; simpa [cmpR] using h
 conv => cbv
 refine st_box hr fun a0 w1 hx hb0 => ?_
 have hb := hb0 _ (n1_ _)
 clear hb0
 conv => cbv
 refine st_box hr fun a5 w2 hx2 h50 => ?_
 have h5 := h50 _ hx.size
 replace hb := hb.bel hx2
 replace hx := hx.trans hx2
 clear h50 hx2
 conv => cbv
 refine st_alloc hr tLS rfl fun a6 w3 hx3 h60 => ?_
 have h6 := h60 _ hx.size
 have ap56 := h5.apart (h60 _ (n1_ _)) (n1_ _)
 have ap06 := hb.apart (h60 _ (n1_ _)) (n1_ _)
 replace hb := hb.bel hx3
 replace h5 := h5.bel hx3
 replace hx := hx.trans hx3
 clear h60 hx3
 conv => cbv
 (refine st_fld hE fIC2 fun p hp => ?_; (conv => cbv); refine st_load hE cIIs (by rw [hp]; exact (hb).at _ _ rfl) ?_; clear hp; (conv => cbv))
 obtain ⟨ai, o', g', hA, hg, hc⟩ := (h.ins.ext hx).get hi
 rw [hi2] at hg
 cases hg
 refine st_idx hE sII hA (by omega) (by omega) fun q hq => ?_
 rw [show ii.toNat = i by omega] at hq
 conv => cbv
 refine st_loadS hE tII rfl (by rw [hq]; exact hc) ?_
 conv => cbv
 refine st_alloc hr tII rfl fun q2 w2 hx2 hq0 => ?_
 have hq2 := hq0 _ hx.size
 have aq := (hb.apart (hq0 _ (n1_ _)) (n1_ _)).1
 have a5q := (h5.apart (hq0 _ (n1_ _)) (n1_ _)).1
 have a6q := (h6.apart (hq0 _ (n1_ _)) (n1_ _)).1
 replace hb := hb.bel hx2
 replace h5 := h5.bel hx2
 replace h6 := h6.bel hx2
 replace hx := hx.trans hx2
 conv => cbv
 refine st_putS hr (by kernel_rfl) hq2 (add_zero _).symm (by simp) (by simp [Value.oneCell']) fun w3 hw3 hq3 => ?_
 simp only [a1_, a2_, a3_, a4_, a5_, a6_, a7_] at hq3
 replace hx := hx.then (hw3.bel hq2 hx.size)
 replace hb := hb.wr hw3 aq
 replace h5 := h5.wr hw3 a5q
 replace h6 := h6.wr hw3 a6q
 clear hq2 hq0 hw3 hx2
 conv => cbv
 refine st_loadS hE tIC rfl hb.at ?_
 conv => cbv
 refine st_f hr (l5range_f (sl := sl) (c := c) (c2 := c2) (h.ext hx) hn hn2 hii hi hi2) fun v w4 hx4 ⟨b, ev, hrg⟩ => ?_
 subst ev
 replace hb := hb.bel hx4
 replace h5 := h5.bel hx4
 replace h6 := h6.bel hx4
 replace hq3 := hq3.bel hx4
 replace hx := hx.trans hx4
 clear hx4
 cases b with
 | false =>
  have hrg : ¬ rangeF pv.length sl n2 i o gg := fun q => absurd (hrg.2 q) (by simp)
  conv => cbv
  refine st_loadS hE tLS rfl h5.at ?_
  conv => cbv
  refine st_putS hr (by kernel_rfl) h6 (add_zero _).symm (by simp) (by simp [Value.oneCell']) fun wf hwf h6f => ?_
  simp only [a1_, a2_, a3_, a4_, a5_, a6_, a7_] at h6f
  conv => cbv
  refine st_cell hr tLS rfl h6f.at ?_
  rw [hR]; exact ⟨hx.then (hwf.bel h6 hx.size), kn, A3, n3, c3, A4, n4, c4, 3, rfl, by unfold stepF; rw [if_pos hrg], fun e => absurd e (by decide)⟩
 | true =>
 have hrg := hrg.1 rfl
 conv => cbv
 refine st_loadS hE tIC rfl hb.at ?_
 conv => cbv
 refine st_loadS hE tII rfl hq3.at ?_
 conv => cbv
 refine st_loadS hE tLS rfl h5.at ?_
 conv => cbv
 refine st_f hr (l5takes_f (c := c) (c2 := c2) (kn := kn) (A3 := A3) (n3 := n3) (c3 := c3) (h.ext hx) hn (hs2.ext hx) hsl h1 h2 hg0 hrg) fun v wq hx5 ⟨A1, n1, c1, t, ev, hwant, ht⟩ => ?_
 subst ev
 have hwl := hwant.len
 replace h5 := h5.bel hx5
 replace h6 := h6.bel hx5
 replace hq3 := hq3.bel hx5
 replace hx := hx.trans hx5
 clear hx5 hb
 conv => cbv
 refine st_loadS hE tLS rfl h5.at ?_
 conv => cbv
 refine st_f hr (copyOf_f (kn := kn) (hs.ext hx) (hs2.ext hx) (by omega) (by omega)) fun v w6 hx6 ⟨A5, c5, A6, c6, ev, o5, o6, ap1, ap2⟩ => ?_
 subst ev
 have hq6 := hx6
 have ap65 := h6.apart o5 (n1_ _)
 have ap66 := h6.apart o6 (n1_ _)
 conv => cbv
 refine st_alloc hr tLS rfl fun a7 w7 hx7 h70 => ?_
 have h7 := h70 _ hq6.size
 have ap57 := o5.apart (h70 _ (n1_ _)) (n1_ _)
 have ap67 := o6.apart (h70 _ (n1_ _)) (n1_ _)
 replace o5 := o5.bel hx7
 replace o6 := o6.bel hx7
 replace hq6 := hq6.trans hx7
 clear h70 hx7 hx6
 conv => cbv
 refine st_putS hr (by kernel_rfl) h7 (add_zero _).symm (by simp) (by simp [Value.oneCell']) fun w8 hw8 h72 => ?_
 simp only [a1_, a2_, a3_, a4_, a5_, a6_, a7_] at h72
 replace hq6 := hq6.then (hw8.bel h7 hq6.size)
 replace o5 := o5.wr hw8 ap57.1
 replace o6 := o6.wr hw8 ap67.1
 replace h7 := h72
 clear h72 hw8
 obtain ⟨gi, hgi⟩ : ∃ gi : Nat, gi = gg.toNat := ⟨_, rfl⟩
 conv => cbv
 (refine st_fld hE fLS1 fun p hp => ?_; (conv => cbv); refine st_load hE cInts (by rw [hp]; exact (h7).at _ _ rfl) ?_; clear hp; (conv => cbv))
 refine st_len hE tInts fun x1 hx1 => ?_
 conv => cbv
 refine st_len hE tInts fun x2 hx2 => ?_
 conv => cbv
 refine br (fun g => ?_) (fun g => ?_)
 ·have g : st.length < (wantF o).length := by
   have : x1 < x2 := by simpa [hE.cmp, cmpR] using g
   omega
  replace h5 := h5.bel hq6
  replace h6 := h6.bel hq6
  replace hx := hx.trans hq6
  conv => cbv
  refine st_loadS hE tLS rfl h5.at ?_
  conv => cbv
  refine st_putS hr (by kernel_rfl) h6 (add_zero _).symm (by simp) (by simp [Value.oneCell']) fun wf hwf h6f => ?_
  simp only [a1_, a2_, a3_, a4_, a5_, a6_, a7_] at h6f
  conv => cbv
  refine st_cell hr tLS rfl h6f.at ?_
  rw [hR]; exact ⟨hx.then (hwf.bel h6 hx.size), kn, A3, n3, c3, A4, n4, c4, 4, rfl, by unfold stepF; rw [if_neg (fun q => q hrg), if_pos g], fun e => absurd e (by decide)⟩
 have g : n1 ≤ n3 := by
  have : ¬ x1 < x2 := by simpa [hE.cmp, cmpR] using g
  omega
 have hlt : ¬ (st, sls).1.length < (wantF o).length := by simp only; omega
 conv => cbv
 (refine st_fld hE fLS1 fun p hp => ?_; (conv => cbv); refine st_load hE cInts (by rw [hp]; exact (h7).at _ _ rfl) ?_; clear hp; (conv => cbv))
 refine st_len hE tInts fun x3 hx3 => ?_
 conv => cbv
 refine st_len hE tInts fun x4 hx4 => ?_
 obtain ⟨base, hbase⟩ : ∃ base, base = n3 - n1 := ⟨_, rfl⟩
 obtain ⟨bi, hbi⟩ : ∃ z : Int, z = (base : Int) := ⟨_, rfl⟩
 have eb : E.ar .sub .i64 x3 x4 = bi := by rw [hE.ar, hbi, show arR .sub .i64 x3 x4 = IntKind.i64.wrap (x3 - x4) from rfl, wrap_in (by omega) (by omega)]; omega
 conv => cbv
 simp only [eb]
 refine st_len hE tInts fun x5 hx5 => ?_
 obtain ⟨args, hargs⟩ : ∃ args, args = st.drop base := ⟨_, rfl⟩
 have hal : args.length = (wantF o).length := by rw [hargs, List.length_drop]; omega
 have hap : ∀ x ∈ args, 0 < x := fun x hx => hpos x (by rw [hargs] at hx; exact List.mem_of_mem_drop hx)
 have hfit := chk_fit (gi := gi) (sls := sls) h1 h2 hal hap
 obtain ⟨C, hC0⟩ : ∃ C, C = chkV o gi (wantF o) args 0 sls := ⟨_, rfl⟩
 rw [← hC0] at hfit
 have hbs : st.length - (wantF o).length = base := by omega
 have hfe : fitF o (slotF (st, sls).2 gg) ((st, sls).1.drop ((st, sls).1.length - (wantF o).length)) = fitF o ((sls[gi]?).getD 0) args := by simp only [hbs, ← hargs, slotF, ← hgi]
 have hno : C = none → ¬ fitF o (slotF (st, sls).2 gg) ((st, sls).1.drop ((st, sls).1.length - (wantF o).length)) := fun q f => by
  rw [hfe] at f
  rw [if_pos f] at hfit
  rw [hfit] at q; cases q
 conv => cbv
 refine loop_rule hr (fun (s : Nat × Int × Int × List Int) w' => s.1 ≤ n1 ∧ s.2.1 = (s.1 : Int) ∧ Ext wq w' ∧ Box wq.heap.size 145 3 w' a7 [.bool kn, .slice A5 n3 c5, .slice A6 n4 c6] ∧
   Own wq.heap.size 3 1 w' A5 n3 c5 (st.map (.int .i64)) ∧ Own wq.heap.size 3 1 w' A6 n4 c6 (s.2.2.2.map (.int .i64)) ∧ s.2.2.2.length = n4 ∧ chkV o gi ((wantF o).drop s.1) (args.drop s.1) s.2.2.1 s.2.2.2 = C)
  (fun s => [(5, .pointer (some a5)), (6, .pointer (some a6)), (8, .pointer (some q2)), (10, .int .i64 t), (11, .pointer (some a7)), (12, .int .i64 bi), (13, .int .i64 s.2.2.1), (49, .slice A1 n1 c1), (50, .int .i64 x5), (51, .int .i64 s.2.1)]) (fun s => n1 - s.1) (0, 0, 0, sls)
  (by simp [Fits, lk]) ⟨by simp, by simp, hq6, h7, o5, o6, hsll, by simpa using hC0.symm⟩ ?_
 clear h7 o5 o6 hq6
 rintro I hI ⟨k, kk, any, sl2⟩ w' ⟨hk1, hkk, hq6, h7, o5, o6, hs2l, hC⟩
 simp only at hk1 hkk o6 hs2l hC
 obtain ⟨kj, hkj⟩ : ∃ z, z = kk + 1 := ⟨_, rfl⟩
 conv => cbv
 refine br (fun g2 => ?_) (fun g2 => ?_)
 ·have g2 : k < n1 := by
   have : kk < x5 := by simpa [hE.cmp, cmpR] using g2
   omega
  have ek : E.ar .add .i64 kk 1 = kj := by rw [hE.ar, hkj]; exact wrap_in (by omega) (by omega)
  conv => cbv
  refine st_int hE tInts (hwant.ext hq6) (k := k) (by omega) g2 fun p wv hwv hp => ?_
  conv => cbv
  refine st_load hE cInt hp ?_
  conv => cbv
  (refine st_fld hE fLS1 fun p hp => ?_; (conv => cbv); refine st_load hE cInts (by rw [hp]; exact (h7).at _ _ rfl) ?_; clear hp; (conv => cbv))
  obtain ⟨bk, hbk⟩ : ∃ z, z = bi + kk := ⟨_, rfl⟩
  have ebk : E.ar .add .i64 bi kk = bk := by rw [hE.ar, hbk]; exact wrap_in (by omega) (by omega)
  simp only [ebk]
  refine st_int hE tInts o5.ints (k := base + k) (by omega) (by omega) fun p2 u hu hp2 => ?_
  have hua : args[k]? = some u := by rw [hargs, List.getElem?_drop]; exact hu
  rw [chk_at hwv hua] at hC
  conv => cbv
  refine st_load hE cInt hp2 ?_
  conv => cbv
  have hq3f := hq3.bel hq6
  refine br (fun g3 => ?_) (fun g3 => ?_)
  ·have g30 := g3
   have g3 : wv = 0 := by simpa [hE.cmp, cmpR] using g3
   conv => cbv
   refine br (fun g4 => ?_) (fun g4 => ?_)
   ·have g4 : any = 0 := by simpa [hE.cmp, cmpR] using g4
    have ea : (if wv = 0 ∧ any = 0 then u else any) = u := if_pos ⟨g3, g4⟩
    rw [ea, if_neg (by omega)] at hC
    conv => cbv
    refine br (fun _ => ?_) (fun q => absurd g30 q)
    conv => cbv
    refine br (fun q => absurd q (en u u (by simp))) (fun _ => ?_)
    conv => cbv
    refine br (fun q => absurd q (eg wv 0 (by omega))) (fun _ => ?_)
    conv => cbv
    (refine st_fld hE fII0 fun p hp => ?_; (conv => cbv); refine st_load hE cInt (by rw [hp]; exact (hq3f).at _ _ rfl) ?_; clear hp; (conv => cbv))
    refine br (fun g5 => ?_) (fun g5 => ?_)
    ·have g5 : o = 4 := by simpa [hE.cmp, cmpR] using g5
     rw [if_pos g5] at hC
     have hgs := hrg.2.2.1 (.inr g5)
     obtain ⟨u4, hu4⟩ : ∃ u4, sl2[gi]? = some u4 := ⟨_, g2_ (by omega)⟩
     rw [hu4, Option.getD_some] at hC
     have nx : ∀ w9, Wr A6 w' w9 → Own wq.heap.size 3 1 w9 A6 n4 c6 ((sl2.set gi u).map (.int .i64)) → ¬ (u4 ≠ 0 ∧ u4 ≠ u) → I (k + 1, kj, u, sl2.set gi u) w9 := fun w9 hw9 ho9 hne => by
      rw [if_neg hne] at hC
      exact hI _ _ ⟨by simp only; omega, by simp only; omega, hq6.then (hw9.bel o6 hq6.size), h7.wr hw9 ap67.2, o5.wr hw9 ap1, ho9, by simp only; rw [List.length_set]; exact hs2l, hC⟩
     conv => cbv
     (refine st_fld hE fLS2 fun p hp => ?_; (conv => cbv); refine st_load hE cInts (by rw [hp]; exact (h7).at _ _ rfl) ?_; clear hp; (conv => cbv))
     (refine st_fld hE fII1 fun p hp => ?_; (conv => cbv); refine st_load hE cInt (by rw [hp]; exact (hq3f).at _ _ rfl) ?_; clear hp; (conv => cbv))
     refine st_int hE tInts o6.ints (k := gi) (by omega) (by omega) fun p3 y hy hp3 => ?_
     rw [hu4] at hy
     cases hy
     conv => cbv
     refine st_load hE cInt hp3 ?_
     conv => cbv
     refine br (fun g6 => ?_) (fun g6 => ?_)
     ·have g6 : u4 ≠ 0 := by simpa [hE.cmp, cmpR] using g6
      conv => cbv
      (refine st_fld hE fLS2 fun p hp => ?_; (conv => cbv); refine st_load hE cInts (by rw [hp]; exact (h7).at _ _ rfl) ?_; clear hp; (conv => cbv))
      (refine st_fld hE fII1 fun p hp => ?_; (conv => cbv); refine st_load hE cInt (by rw [hp]; exact (hq3f).at _ _ rfl) ?_; clear hp; (conv => cbv))
      refine st_int hE tInts o6.ints (k := gi) (by omega) (by omega) fun p4 y hy hp4 => ?_
      rw [hu4] at hy
      cases hy
      conv => cbv
      refine st_load hE cInt hp4 ?_
      conv => cbv
      refine br (fun g7 => ?_) (fun g7 => ?_)
      ·have g7 : u4 ≠ u := by simpa [hE.cmp, cmpR] using g7
       rw [if_pos ⟨g6, g7⟩] at hC
       replace h5 := h5.bel hq6
       replace h6 := h6.bel hq6
       replace hx := hx.trans hq6
       conv => cbv
       refine st_loadS hE tLS rfl h5.at ?_
       conv => cbv
       refine st_putS hr (by kernel_rfl) h6 (add_zero _).symm (by simp) (by simp [Value.oneCell']) fun wf hwf h6f => ?_
       simp only [a1_, a2_, a3_, a4_, a5_, a6_, a7_] at h6f
       conv => cbv
       refine st_cell hr tLS rfl h6f.at ?_
       rw [hR]; exact ⟨hx.then (hwf.bel h6 hx.size), kn, A3, n3, c3, A4, n4, c4, 5, rfl, by unfold stepF; rw [if_neg (fun q => q hrg), if_neg hlt, if_pos (hno hC.symm)], fun e => absurd e (by decide)⟩
      ·have g7 : u4 = u := by simpa [hE.cmp, cmpR] using g7
       conv => cbv
       (refine st_fld hE fLS2 fun p hp => ?_; (conv => cbv); refine st_load hE cInts (by rw [hp]; exact (h7).at _ _ rfl) ?_; clear hp; (conv => cbv))
       (refine st_fld hE fII1 fun p hp => ?_; (conv => cbv); refine st_load hE cInt (by rw [hp]; exact (hq3f).at _ _ rfl) ?_; clear hp; (conv => cbv))
       obtain ⟨gb, hgb, _⟩ := o6.addr (by omega)
       refine st_idx hE tInts hgb (by omega) (by omega) fun p5 hp5 => ?_
       rw [show gg.toNat = gi by omega] at hp5
       conv => cbv
       refine st_set hr tInts o6 hgb (j := gi) (by omega) hp5 rfl fun w9 _ hw9 ho9 => ?_
       rw [← List.map_set] at ho9
       conv => cbv
       simp only [ek]
       exact ⟨(k + 1, kj, u, sl2.set gi u), by simp [Fits, lk], nx w9 hw9 ho9 (fun q => q.2 g7), by simp only; omega⟩
     ·have g6 : u4 = 0 := by simpa [hE.cmp, cmpR] using g6
      conv => cbv
      (refine st_fld hE fLS2 fun p hp => ?_; (conv => cbv); refine st_load hE cInts (by rw [hp]; exact (h7).at _ _ rfl) ?_; clear hp; (conv => cbv))
      (refine st_fld hE fII1 fun p hp => ?_; (conv => cbv); refine st_load hE cInt (by rw [hp]; exact (hq3f).at _ _ rfl) ?_; clear hp; (conv => cbv))
      obtain ⟨gb, hgb, _⟩ := o6.addr (by omega)
      refine st_idx hE tInts hgb (by omega) (by omega) fun p5 hp5 => ?_
      rw [show gg.toNat = gi by omega] at hp5
      conv => cbv
      refine st_set hr tInts o6 hgb (j := gi) (by omega) hp5 rfl fun w9 _ hw9 ho9 => ?_
      rw [← List.map_set] at ho9
      conv => cbv
      simp only [ek]
      exact ⟨(k + 1, kj, u, sl2.set gi u), by simp [Fits, lk], nx w9 hw9 ho9 (fun q => q.1 g6), by simp only; omega⟩
    ·have g5 : o ≠ 4 := by simpa [hE.cmp, cmpR] using g5
     rw [if_neg g5] at hC
     conv => cbv
     simp only [ek]
     exact ⟨(k + 1, kj, u, sl2), by simp [Fits, lk], hI _ _ ⟨by simp only; omega, by simp only; omega, hq6, h7, o5, o6, hs2l, hC⟩, by simp only; omega⟩
   ·have g4 : any ≠ 0 := by simpa [hE.cmp, cmpR] using g4
    have ea : (if wv = 0 ∧ any = 0 then u else any) = any := if_neg (fun q => g4 q.2)
    rw [ea] at hC
    conv => cbv
    refine br (fun _ => ?_) (fun q => absurd g30 q)
    conv => cbv
    refine br (fun g5 => ?_) (fun g5 => ?_)
    ·have g5 : u ≠ any := by simpa [hE.cmp, cmpR] using g5
     rw [if_pos (.inl ⟨g3, g5⟩)] at hC
     replace h5 := h5.bel hq6
     replace h6 := h6.bel hq6
     replace hx := hx.trans hq6
     conv => cbv
     refine st_loadS hE tLS rfl h5.at ?_
     conv => cbv
     refine st_putS hr (by kernel_rfl) h6 (add_zero _).symm (by simp) (by simp [Value.oneCell']) fun wf hwf h6f => ?_
     simp only [a1_, a2_, a3_, a4_, a5_, a6_, a7_] at h6f
     conv => cbv
     refine st_cell hr tLS rfl h6f.at ?_
     rw [hR]; exact ⟨hx.then (hwf.bel h6 hx.size), kn, A3, n3, c3, A4, n4, c4, 5, rfl, by unfold stepF; rw [if_neg (fun q => q hrg), if_neg hlt, if_pos (hno hC.symm)], fun e => absurd e (by decide)⟩
    ·have g5 : u = any := by simpa [hE.cmp, cmpR] using g5
     rw [if_neg (by omega)] at hC
     conv => cbv
     refine br (fun q => absurd q (eg wv 0 (by omega))) (fun _ => ?_)
     conv => cbv
     (refine st_fld hE fII0 fun p hp => ?_; (conv => cbv); refine st_load hE cInt (by rw [hp]; exact (hq3f).at _ _ rfl) ?_; clear hp; (conv => cbv))
     refine br (fun g5 => ?_) (fun g5 => ?_)
     ·have g5 : o = 4 := by simpa [hE.cmp, cmpR] using g5
      rw [if_pos g5] at hC
      have hgs := hrg.2.2.1 (.inr g5)
      obtain ⟨u4, hu4⟩ : ∃ u4, sl2[gi]? = some u4 := ⟨_, g2_ (by omega)⟩
      rw [hu4, Option.getD_some] at hC
      have nx : ∀ w9, Wr A6 w' w9 → Own wq.heap.size 3 1 w9 A6 n4 c6 ((sl2.set gi u).map (.int .i64)) → ¬ (u4 ≠ 0 ∧ u4 ≠ u) → I (k + 1, kj, any, sl2.set gi u) w9 := fun w9 hw9 ho9 hne => by
       rw [if_neg hne] at hC
       exact hI _ _ ⟨by simp only; omega, by simp only; omega, hq6.then (hw9.bel o6 hq6.size), h7.wr hw9 ap67.2, o5.wr hw9 ap1, ho9, by simp only; rw [List.length_set]; exact hs2l, hC⟩
      conv => cbv
      (refine st_fld hE fLS2 fun p hp => ?_; (conv => cbv); refine st_load hE cInts (by rw [hp]; exact (h7).at _ _ rfl) ?_; clear hp; (conv => cbv))
      (refine st_fld hE fII1 fun p hp => ?_; (conv => cbv); refine st_load hE cInt (by rw [hp]; exact (hq3f).at _ _ rfl) ?_; clear hp; (conv => cbv))
      refine st_int hE tInts o6.ints (k := gi) (by omega) (by omega) fun p3 y hy hp3 => ?_
      rw [hu4] at hy
      cases hy
      conv => cbv
      refine st_load hE cInt hp3 ?_
      conv => cbv
      refine br (fun g6 => ?_) (fun g6 => ?_)
      ·have g6 : u4 ≠ 0 := by simpa [hE.cmp, cmpR] using g6
       conv => cbv
       (refine st_fld hE fLS2 fun p hp => ?_; (conv => cbv); refine st_load hE cInts (by rw [hp]; exact (h7).at _ _ rfl) ?_; clear hp; (conv => cbv))
       (refine st_fld hE fII1 fun p hp => ?_; (conv => cbv); refine st_load hE cInt (by rw [hp]; exact (hq3f).at _ _ rfl) ?_; clear hp; (conv => cbv))
       refine st_int hE tInts o6.ints (k := gi) (by omega) (by omega) fun p4 y hy hp4 => ?_
       rw [hu4] at hy
       cases hy
       conv => cbv
       refine st_load hE cInt hp4 ?_
       conv => cbv
       refine br (fun g7 => ?_) (fun g7 => ?_)
       ·have g7 : u4 ≠ u := by simpa [hE.cmp, cmpR] using g7
        rw [if_pos ⟨g6, g7⟩] at hC
        replace h5 := h5.bel hq6
        replace h6 := h6.bel hq6
        replace hx := hx.trans hq6
        conv => cbv
        refine st_loadS hE tLS rfl h5.at ?_
        conv => cbv
        refine st_putS hr (by kernel_rfl) h6 (add_zero _).symm (by simp) (by simp [Value.oneCell']) fun wf hwf h6f => ?_
        simp only [a1_, a2_, a3_, a4_, a5_, a6_, a7_] at h6f
        conv => cbv
        refine st_cell hr tLS rfl h6f.at ?_
        rw [hR]; exact ⟨hx.then (hwf.bel h6 hx.size), kn, A3, n3, c3, A4, n4, c4, 5, rfl, by unfold stepF; rw [if_neg (fun q => q hrg), if_neg hlt, if_pos (hno hC.symm)], fun e => absurd e (by decide)⟩
       ·have g7 : u4 = u := by simpa [hE.cmp, cmpR] using g7
        conv => cbv
        (refine st_fld hE fLS2 fun p hp => ?_; (conv => cbv); refine st_load hE cInts (by rw [hp]; exact (h7).at _ _ rfl) ?_; clear hp; (conv => cbv))
        (refine st_fld hE fII1 fun p hp => ?_; (conv => cbv); refine st_load hE cInt (by rw [hp]; exact (hq3f).at _ _ rfl) ?_; clear hp; (conv => cbv))
        obtain ⟨gb, hgb, _⟩ := o6.addr (by omega)
        refine st_idx hE tInts hgb (by omega) (by omega) fun p5 hp5 => ?_
        rw [show gg.toNat = gi by omega] at hp5
        conv => cbv
        refine st_set hr tInts o6 hgb (j := gi) (by omega) hp5 rfl fun w9 _ hw9 ho9 => ?_
        rw [← List.map_set] at ho9
        conv => cbv
        simp only [ek]
        exact ⟨(k + 1, kj, any, sl2.set gi u), by simp [Fits, lk], nx w9 hw9 ho9 (fun q => q.2 g7), by simp only; omega⟩
      ·have g6 : u4 = 0 := by simpa [hE.cmp, cmpR] using g6
       conv => cbv
       (refine st_fld hE fLS2 fun p hp => ?_; (conv => cbv); refine st_load hE cInts (by rw [hp]; exact (h7).at _ _ rfl) ?_; clear hp; (conv => cbv))
       (refine st_fld hE fII1 fun p hp => ?_; (conv => cbv); refine st_load hE cInt (by rw [hp]; exact (hq3f).at _ _ rfl) ?_; clear hp; (conv => cbv))
       obtain ⟨gb, hgb, _⟩ := o6.addr (by omega)
       refine st_idx hE tInts hgb (by omega) (by omega) fun p5 hp5 => ?_
       rw [show gg.toNat = gi by omega] at hp5
       conv => cbv
       refine st_set hr tInts o6 hgb (j := gi) (by omega) hp5 rfl fun w9 _ hw9 ho9 => ?_
       rw [← List.map_set] at ho9
       conv => cbv
       simp only [ek]
       exact ⟨(k + 1, kj, any, sl2.set gi u), by simp [Fits, lk], nx w9 hw9 ho9 (fun q => q.1 g6), by simp only; omega⟩
     ·have g5 : o ≠ 4 := by simpa [hE.cmp, cmpR] using g5
      rw [if_neg g5] at hC
      conv => cbv
      simp only [ek]
      exact ⟨(k + 1, kj, any, sl2), by simp [Fits, lk], hI _ _ ⟨by simp only; omega, by simp only; omega, hq6, h7, o5, o6, hs2l, hC⟩, by simp only; omega⟩
  ·have g30 := g3
   have g3 : wv ≠ 0 := by simpa [hE.cmp, cmpR] using g3
   have ea : (if wv = 0 ∧ any = 0 then u else any) = any := if_neg (fun q => g3 q.1)
   rw [ea] at hC
   conv => cbv
   refine br (fun q => absurd q g30) (fun _ => ?_)
   conv => cbv
   refine br (fun g4 => ?_) (fun g4 => ?_)
   ·have g4 : 0 < wv := by simpa [hE.cmp, cmpR] using g4
    conv => cbv
    refine br (fun g5 => ?_) (fun g5 => ?_)
    ·have g5 : u ≠ wv := by simpa [hE.cmp, cmpR] using g5
     rw [if_pos (.inr ⟨g4, g5⟩)] at hC
     replace h5 := h5.bel hq6
     replace h6 := h6.bel hq6
     replace hx := hx.trans hq6
     conv => cbv
     refine st_loadS hE tLS rfl h5.at ?_
     conv => cbv
     refine st_putS hr (by kernel_rfl) h6 (add_zero _).symm (by simp) (by simp [Value.oneCell']) fun wf hwf h6f => ?_
     simp only [a1_, a2_, a3_, a4_, a5_, a6_, a7_] at h6f
     conv => cbv
     refine st_cell hr tLS rfl h6f.at ?_
     rw [hR]; exact ⟨hx.then (hwf.bel h6 hx.size), kn, A3, n3, c3, A4, n4, c4, 5, rfl, by unfold stepF; rw [if_neg (fun q => q hrg), if_neg hlt, if_pos (hno hC.symm)], fun e => absurd e (by decide)⟩
    ·have g5 : u = wv := by simpa [hE.cmp, cmpR] using g5
     rw [if_neg (by omega)] at hC
     conv => cbv
     (refine st_fld hE fII0 fun p hp => ?_; (conv => cbv); refine st_load hE cInt (by rw [hp]; exact (hq3f).at _ _ rfl) ?_; clear hp; (conv => cbv))
     refine br (fun g5 => ?_) (fun g5 => ?_)
     ·have g5 : o = 4 := by simpa [hE.cmp, cmpR] using g5
      rw [if_pos g5] at hC
      have hgs := hrg.2.2.1 (.inr g5)
      obtain ⟨u4, hu4⟩ : ∃ u4, sl2[gi]? = some u4 := ⟨_, g2_ (by omega)⟩
      rw [hu4, Option.getD_some] at hC
      have nx : ∀ w9, Wr A6 w' w9 → Own wq.heap.size 3 1 w9 A6 n4 c6 ((sl2.set gi u).map (.int .i64)) → ¬ (u4 ≠ 0 ∧ u4 ≠ u) → I (k + 1, kj, any, sl2.set gi u) w9 := fun w9 hw9 ho9 hne => by
       rw [if_neg hne] at hC
       exact hI _ _ ⟨by simp only; omega, by simp only; omega, hq6.then (hw9.bel o6 hq6.size), h7.wr hw9 ap67.2, o5.wr hw9 ap1, ho9, by simp only; rw [List.length_set]; exact hs2l, hC⟩
      conv => cbv
      (refine st_fld hE fLS2 fun p hp => ?_; (conv => cbv); refine st_load hE cInts (by rw [hp]; exact (h7).at _ _ rfl) ?_; clear hp; (conv => cbv))
      (refine st_fld hE fII1 fun p hp => ?_; (conv => cbv); refine st_load hE cInt (by rw [hp]; exact (hq3f).at _ _ rfl) ?_; clear hp; (conv => cbv))
      refine st_int hE tInts o6.ints (k := gi) (by omega) (by omega) fun p3 y hy hp3 => ?_
      rw [hu4] at hy
      cases hy
      conv => cbv
      refine st_load hE cInt hp3 ?_
      conv => cbv
      refine br (fun g6 => ?_) (fun g6 => ?_)
      ·have g6 : u4 ≠ 0 := by simpa [hE.cmp, cmpR] using g6
       conv => cbv
       (refine st_fld hE fLS2 fun p hp => ?_; (conv => cbv); refine st_load hE cInts (by rw [hp]; exact (h7).at _ _ rfl) ?_; clear hp; (conv => cbv))
       (refine st_fld hE fII1 fun p hp => ?_; (conv => cbv); refine st_load hE cInt (by rw [hp]; exact (hq3f).at _ _ rfl) ?_; clear hp; (conv => cbv))
       refine st_int hE tInts o6.ints (k := gi) (by omega) (by omega) fun p4 y hy hp4 => ?_
       rw [hu4] at hy
       cases hy
       conv => cbv
       refine st_load hE cInt hp4 ?_
       conv => cbv
       refine br (fun g7 => ?_) (fun g7 => ?_)
       ·have g7 : u4 ≠ u := by simpa [hE.cmp, cmpR] using g7
        rw [if_pos ⟨g6, g7⟩] at hC
        replace h5 := h5.bel hq6
        replace h6 := h6.bel hq6
        replace hx := hx.trans hq6
        conv => cbv
        refine st_loadS hE tLS rfl h5.at ?_
        conv => cbv
        refine st_putS hr (by kernel_rfl) h6 (add_zero _).symm (by simp) (by simp [Value.oneCell']) fun wf hwf h6f => ?_
        simp only [a1_, a2_, a3_, a4_, a5_, a6_, a7_] at h6f
        conv => cbv
        refine st_cell hr tLS rfl h6f.at ?_
        rw [hR]; exact ⟨hx.then (hwf.bel h6 hx.size), kn, A3, n3, c3, A4, n4, c4, 5, rfl, by unfold stepF; rw [if_neg (fun q => q hrg), if_neg hlt, if_pos (hno hC.symm)], fun e => absurd e (by decide)⟩
       ·have g7 : u4 = u := by simpa [hE.cmp, cmpR] using g7
        conv => cbv
        (refine st_fld hE fLS2 fun p hp => ?_; (conv => cbv); refine st_load hE cInts (by rw [hp]; exact (h7).at _ _ rfl) ?_; clear hp; (conv => cbv))
        (refine st_fld hE fII1 fun p hp => ?_; (conv => cbv); refine st_load hE cInt (by rw [hp]; exact (hq3f).at _ _ rfl) ?_; clear hp; (conv => cbv))
        obtain ⟨gb, hgb, _⟩ := o6.addr (by omega)
        refine st_idx hE tInts hgb (by omega) (by omega) fun p5 hp5 => ?_
        rw [show gg.toNat = gi by omega] at hp5
        conv => cbv
        refine st_set hr tInts o6 hgb (j := gi) (by omega) hp5 rfl fun w9 _ hw9 ho9 => ?_
        rw [← List.map_set] at ho9
        conv => cbv
        simp only [ek]
        exact ⟨(k + 1, kj, any, sl2.set gi u), by simp [Fits, lk], nx w9 hw9 ho9 (fun q => q.2 g7), by simp only; omega⟩
      ·have g6 : u4 = 0 := by simpa [hE.cmp, cmpR] using g6
       conv => cbv
       (refine st_fld hE fLS2 fun p hp => ?_; (conv => cbv); refine st_load hE cInts (by rw [hp]; exact (h7).at _ _ rfl) ?_; clear hp; (conv => cbv))
       (refine st_fld hE fII1 fun p hp => ?_; (conv => cbv); refine st_load hE cInt (by rw [hp]; exact (hq3f).at _ _ rfl) ?_; clear hp; (conv => cbv))
       obtain ⟨gb, hgb, _⟩ := o6.addr (by omega)
       refine st_idx hE tInts hgb (by omega) (by omega) fun p5 hp5 => ?_
       rw [show gg.toNat = gi by omega] at hp5
       conv => cbv
       refine st_set hr tInts o6 hgb (j := gi) (by omega) hp5 rfl fun w9 _ hw9 ho9 => ?_
       rw [← List.map_set] at ho9
       conv => cbv
       simp only [ek]
       exact ⟨(k + 1, kj, any, sl2.set gi u), by simp [Fits, lk], nx w9 hw9 ho9 (fun q => q.1 g6), by simp only; omega⟩
     ·have g5 : o ≠ 4 := by simpa [hE.cmp, cmpR] using g5
      rw [if_neg g5] at hC
      conv => cbv
      simp only [ek]
      exact ⟨(k + 1, kj, any, sl2), by simp [Fits, lk], hI _ _ ⟨by simp only; omega, by simp only; omega, hq6, h7, o5, o6, hs2l, hC⟩, by simp only; omega⟩
   ·have g4 : wv ≤ 0 := by simpa [hE.cmp, cmpR] using g4
    rw [if_neg (by omega)] at hC
    conv => cbv
    (refine st_fld hE fII0 fun p hp => ?_; (conv => cbv); refine st_load hE cInt (by rw [hp]; exact (hq3f).at _ _ rfl) ?_; clear hp; (conv => cbv))
    refine br (fun g5 => ?_) (fun g5 => ?_)
    ·have g5 : o = 4 := by simpa [hE.cmp, cmpR] using g5
     rw [if_pos g5] at hC
     have hgs := hrg.2.2.1 (.inr g5)
     obtain ⟨u4, hu4⟩ : ∃ u4, sl2[gi]? = some u4 := ⟨_, g2_ (by omega)⟩
     rw [hu4, Option.getD_some] at hC
     have nx : ∀ w9, Wr A6 w' w9 → Own wq.heap.size 3 1 w9 A6 n4 c6 ((sl2.set gi u).map (.int .i64)) → ¬ (u4 ≠ 0 ∧ u4 ≠ u) → I (k + 1, kj, any, sl2.set gi u) w9 := fun w9 hw9 ho9 hne => by
      rw [if_neg hne] at hC
      exact hI _ _ ⟨by simp only; omega, by simp only; omega, hq6.then (hw9.bel o6 hq6.size), h7.wr hw9 ap67.2, o5.wr hw9 ap1, ho9, by simp only; rw [List.length_set]; exact hs2l, hC⟩
     conv => cbv
     (refine st_fld hE fLS2 fun p hp => ?_; (conv => cbv); refine st_load hE cInts (by rw [hp]; exact (h7).at _ _ rfl) ?_; clear hp; (conv => cbv))
     (refine st_fld hE fII1 fun p hp => ?_; (conv => cbv); refine st_load hE cInt (by rw [hp]; exact (hq3f).at _ _ rfl) ?_; clear hp; (conv => cbv))
     refine st_int hE tInts o6.ints (k := gi) (by omega) (by omega) fun p3 y hy hp3 => ?_
     rw [hu4] at hy
     cases hy
     conv => cbv
     refine st_load hE cInt hp3 ?_
     conv => cbv
     refine br (fun g6 => ?_) (fun g6 => ?_)
     ·have g6 : u4 ≠ 0 := by simpa [hE.cmp, cmpR] using g6
      conv => cbv
      (refine st_fld hE fLS2 fun p hp => ?_; (conv => cbv); refine st_load hE cInts (by rw [hp]; exact (h7).at _ _ rfl) ?_; clear hp; (conv => cbv))
      (refine st_fld hE fII1 fun p hp => ?_; (conv => cbv); refine st_load hE cInt (by rw [hp]; exact (hq3f).at _ _ rfl) ?_; clear hp; (conv => cbv))
      refine st_int hE tInts o6.ints (k := gi) (by omega) (by omega) fun p4 y hy hp4 => ?_
      rw [hu4] at hy
      cases hy
      conv => cbv
      refine st_load hE cInt hp4 ?_
      conv => cbv
      refine br (fun g7 => ?_) (fun g7 => ?_)
      ·have g7 : u4 ≠ u := by simpa [hE.cmp, cmpR] using g7
       rw [if_pos ⟨g6, g7⟩] at hC
       replace h5 := h5.bel hq6
       replace h6 := h6.bel hq6
       replace hx := hx.trans hq6
       conv => cbv
       refine st_loadS hE tLS rfl h5.at ?_
       conv => cbv
       refine st_putS hr (by kernel_rfl) h6 (add_zero _).symm (by simp) (by simp [Value.oneCell']) fun wf hwf h6f => ?_
       simp only [a1_, a2_, a3_, a4_, a5_, a6_, a7_] at h6f
       conv => cbv
       refine st_cell hr tLS rfl h6f.at ?_
       rw [hR]; exact ⟨hx.then (hwf.bel h6 hx.size), kn, A3, n3, c3, A4, n4, c4, 5, rfl, by unfold stepF; rw [if_neg (fun q => q hrg), if_neg hlt, if_pos (hno hC.symm)], fun e => absurd e (by decide)⟩
      ·have g7 : u4 = u := by simpa [hE.cmp, cmpR] using g7
       conv => cbv
       (refine st_fld hE fLS2 fun p hp => ?_; (conv => cbv); refine st_load hE cInts (by rw [hp]; exact (h7).at _ _ rfl) ?_; clear hp; (conv => cbv))
       (refine st_fld hE fII1 fun p hp => ?_; (conv => cbv); refine st_load hE cInt (by rw [hp]; exact (hq3f).at _ _ rfl) ?_; clear hp; (conv => cbv))
       obtain ⟨gb, hgb, _⟩ := o6.addr (by omega)
       refine st_idx hE tInts hgb (by omega) (by omega) fun p5 hp5 => ?_
       rw [show gg.toNat = gi by omega] at hp5
       conv => cbv
       refine st_set hr tInts o6 hgb (j := gi) (by omega) hp5 rfl fun w9 _ hw9 ho9 => ?_
       rw [← List.map_set] at ho9
       conv => cbv
       simp only [ek]
       exact ⟨(k + 1, kj, any, sl2.set gi u), by simp [Fits, lk], nx w9 hw9 ho9 (fun q => q.2 g7), by simp only; omega⟩
     ·have g6 : u4 = 0 := by simpa [hE.cmp, cmpR] using g6
      conv => cbv
      (refine st_fld hE fLS2 fun p hp => ?_; (conv => cbv); refine st_load hE cInts (by rw [hp]; exact (h7).at _ _ rfl) ?_; clear hp; (conv => cbv))
      (refine st_fld hE fII1 fun p hp => ?_; (conv => cbv); refine st_load hE cInt (by rw [hp]; exact (hq3f).at _ _ rfl) ?_; clear hp; (conv => cbv))
      obtain ⟨gb, hgb, _⟩ := o6.addr (by omega)
      refine st_idx hE tInts hgb (by omega) (by omega) fun p5 hp5 => ?_
      rw [show gg.toNat = gi by omega] at hp5
      conv => cbv
      refine st_set hr tInts o6 hgb (j := gi) (by omega) hp5 rfl fun w9 _ hw9 ho9 => ?_
      rw [← List.map_set] at ho9
      conv => cbv
      simp only [ek]
      exact ⟨(k + 1, kj, any, sl2.set gi u), by simp [Fits, lk], nx w9 hw9 ho9 (fun q => q.1 g6), by simp only; omega⟩
    ·have g5 : o ≠ 4 := by simpa [hE.cmp, cmpR] using g5
     rw [if_neg g5] at hC
     conv => cbv
     simp only [ek]
     exact ⟨(k + 1, kj, any, sl2), by simp [Fits, lk], hI _ _ ⟨by simp only; omega, by simp only; omega, hq6, h7, o5, o6, hs2l, hC⟩, by simp only; omega⟩
 have g2 : k = n1 := by
  have : ¬ kk < x5 := by simpa [hE.cmp, cmpR] using g2
  omega
 rw [chk_end (by omega)] at hC
 have hfy : fitF o (slotF (st, sls).2 gg) ((st, sls).1.drop ((st, sls).1.length - (wantF o).length)) := by
  rw [hfe]
  by_cases f : fitF o ((sls[gi]?).getD 0) args
  ·exact f
  ·rw [if_neg f, ← hC] at hfit; cases hfit
 have hsl2 : sl2 = if o = 4 then sls.set gi ((args[0]?).getD 0) else sls := by
  rw [hfe] at hfy
  rw [if_pos hfy, ← hC] at hfit
  exact Option.some.inj hfit
 have hsn : sl2 = (nextS o gg (st, sls) base t).2 := by
  rw [hsl2]; unfold nextS; simp only [← hgi]
  rw [hargs, List.getElem?_drop, Nat.add_zero]
 have hwx : w.heap.size ≤ wq.heap.size := hx.size
 have hpn := push_nn (o := o) (g := gg) hk hnn
 rw [← ht] at hpn
 have hq3f := hq3.bel hq6
 conv => cbv
 (refine st_fld hE fII0 fun p hp => ?_; (conv => cbv); refine st_load hE cInt (by rw [hp]; exact (hq3f).at _ _ rfl) ?_; clear hp; (conv => cbv))
 refine br (fun g9 => ?_) (fun g9 => ?_)
 ·have g9 : o = 3 := by simpa [hE.cmp, cmpR] using g9
  conv => cbv
  refine br (fun g10 => ?_) (fun g10 => ?_)
  ·have g10 : t = 0 := by simpa [hE.cmp, cmpR] using g10
   replace h5 := h5.bel hq6
   replace h6 := h6.bel hq6
   replace hx := hx.trans hq6
   conv => cbv
   refine st_loadS hE tLS rfl h5.at ?_
   conv => cbv
   refine st_putS hr (by kernel_rfl) h6 (add_zero _).symm (by simp) (by simp [Value.oneCell']) fun wf hwf h6f => ?_
   simp only [a1_, a2_, a3_, a4_, a5_, a6_, a7_] at h6f
   conv => cbv
   refine st_cell hr tLS rfl h6f.at ?_
   rw [hR]; exact ⟨hx.then (hwf.bel h6 hx.size), kn, A3, n3, c3, A4, n4, c4, 6, rfl, by unfold stepF; rw [if_neg (fun q => q hrg), if_neg hlt, if_neg (fun q => q hfy), if_pos ⟨g9, by rw [show pushF pv (st, sls).2 o gg = t from ht.symm]; exact g10⟩], fun e => absurd e (by decide)⟩
  ·have g10 : t ≠ 0 := by simpa [hE.cmp, cmpR] using g10
   have hno3 : ¬ (o = 3 ∧ pushF pv (st, sls).2 o gg = 0) := by rw [show pushF pv (st, sls).2 o gg = t from ht.symm]; exact fun q => g10 q.2
   conv => cbv
   (refine st_fld hE fLS1 fun p hp => ?_; (conv => cbv); refine st_load hE cInts (by rw [hp]; exact (h7).at _ _ rfl) ?_; clear hp; (conv => cbv))
   refine st_upto hE tInts (hi := base) o5 hbi (by omega) fun os => ?_
   rw [Nat.mul_one, ← List.map_take] at os
   conv => cbv
   refine st_fld hE fLS1 fun p6 hp6 => ?_
   conv => cbv
   refine st_put hr zInts h7 hp6 (by simp) rfl fun w10 hw10 h73 => ?_
   simp only [b4_, b5_] at h73
   replace hq6 := hq6.then (hw10.bel h7 hq6.size)
   replace os := os.wr hw10 ap57.1
   replace o6 := o6.wr hw10 ap67.1
   replace h7 := h73
   clear h73 hw10 hC
   conv => cbv
   refine br (fun g7 => ?_) (fun g7 => ?_)
   ·have g7 : 0 < t := by simpa [hE.cmp, cmpR] using g7
    have hn1 : (nextS o gg (st, sls) base t).1 = st.take base ++ [t] := by unfold nextS; rw [if_neg (by omega)]
    conv => cbv
    (refine st_fld hE fLS1 fun p hp => ?_; (conv => cbv); refine st_load hE cInts (by rw [hp]; exact (h7).at _ _ rfl) ?_; clear hp; (conv => cbv))
    refine st_one hr tInts rfl rfl fun A8 w11 hx11 hc11 => ?_
    replace h7 := h7.bel hx11
    replace os := os.bel hx11
    replace o6 := o6.bel hx11
    replace hq6 := hq6.trans hx11
    conv => cbv
    refine st_appsG hr tInts rfl os hc11 (m1 := 1) rfl (by simp [Value.oneCell']) hq6.size (by omega) (by omega) fun A9 c9 n9 w12 hn9 hw12 os2 hbk => ?_
    rw [show [Value.int .i64 t] = [t].map (Value.int .i64) from rfl, ← List.map_append] at os2
    have ap97 := apart_grow h7 ap57.1 hbk
    have ap96 := apart_grow (h6.bel hq6) ap65.2 hbk
    replace hq6 := hq6.then (hw12.bel os hq6.size)
    replace h7 := h7.wr hw12 ap57.2
    replace o6 := o6.wr hw12 ap2
    clear hc11 hx11
    conv => cbv
    refine st_fld hE fLS1 fun p7 hp7 => ?_
    conv => cbv
    refine st_put hr zInts h7 hp7 (by simp) rfl fun w13 hw13 h74 => ?_
    simp only [b4_, b5_] at h74
    replace hq6 := hq6.then (hw13.bel h7 hq6.size)
    replace os2 := os2.wr hw13 ap97
    replace o6 := o6.wr hw13 ap67.1
    replace h7 := h74
    clear h74 hw13 hw12
    conv => cbv
    (refine st_fld hE fLS1 fun p hp => ?_; (conv => cbv); refine st_load hE cInts (by rw [hp]; exact (h7).at _ _ rfl) ?_; clear hp; (conv => cbv))
    refine st_len hE tInts fun x6 hx6 => ?_
    conv => cbv
    refine br (fun g8 => ?_) (fun g8 => ?_)
    ·have g8 : 100 < x6 := by simpa [hE.cmp, cmpR] using g8
     replace h5 := h5.bel hq6
     replace h6 := h6.bel hq6
     replace hx := hx.trans hq6
     conv => cbv
     refine st_loadS hE tLS rfl h5.at ?_
     conv => cbv
     refine st_putS hr (by kernel_rfl) h6 (add_zero _).symm (by simp) (by simp [Value.oneCell']) fun wf hwf h6f => ?_
     simp only [a1_, a2_, a3_, a4_, a5_, a6_, a7_] at h6f
     conv => cbv
     refine st_cell hr tLS rfl h6f.at ?_
     rw [hR]; exact ⟨hx.then (hwf.bel h6 hx.size), kn, A3, n3, c3, A4, n4, c4, 7, rfl, by unfold stepF; rw [if_neg (fun q => q hrg), if_neg hlt, if_neg (fun q => q hfy), if_neg hno3, hbs, ← ht, if_pos (by rw [hn1]; simp; omega)], fun e => absurd e (by decide)⟩
    have g8 : x6 ≤ 100 := by simpa [hE.cmp, cmpR] using g8
    have hst : stepF pv sl n2 i o gg (st, sls) = (0, nextS o gg (st, sls) base t) := by
     unfold stepF
     rw [if_neg (fun q => q hrg), if_neg hlt, if_neg (fun q => q hfy), if_neg hno3, hbs, ← ht, if_neg (by rw [hn1]; simp; omega)]
    conv => cbv
    refine st_loadS hE tLS rfl h7.at ?_
    replace h6 := h6.bel hq6
    replace hx := hx.trans hq6
    conv => cbv
    refine st_putS hr (by kernel_rfl) h6 (add_zero _).symm (by simp) (by simp [Value.oneCell']) fun wf hwf h6f => ?_
    simp only [a1_, a2_, a3_, a4_, a5_, a6_, a7_] at h6f
    conv => cbv
    refine st_cell hr tLS rfl h6f.at ?_
    rw [hR, hst]; exact ⟨hx.then (hwf.bel h6 hx.size), kn, _, _, _, _, _, _, 0, rfl, rfl, fun _ => ⟨rfl, by simp only [hn1]; exact (os2.mono hwx).wr hwf ap96, by simp only [← hsn]; exact (o6.mono hwx).wr hwf ap66.2⟩⟩
   ·have g7 : t = 0 := by
     have : ¬ 0 < t := by simpa [hE.cmp, cmpR] using g7
     omega
    have hn1 : (nextS o gg (st, sls) base t).1 = st.take base := by unfold nextS; rw [if_pos g7, a7_]
    conv => cbv
    (refine st_fld hE fLS1 fun p hp => ?_; (conv => cbv); refine st_load hE cInts (by rw [hp]; exact (h7).at _ _ rfl) ?_; clear hp; (conv => cbv))
    refine st_len hE tInts fun x6 hx6 => ?_
    conv => cbv
    refine br (fun g8 => ?_) (fun g8 => ?_)
    ·have g8 : 100 < x6 := by simpa [hE.cmp, cmpR] using g8
     replace h5 := h5.bel hq6
     replace h6 := h6.bel hq6
     replace hx := hx.trans hq6
     conv => cbv
     refine st_loadS hE tLS rfl h5.at ?_
     conv => cbv
     refine st_putS hr (by kernel_rfl) h6 (add_zero _).symm (by simp) (by simp [Value.oneCell']) fun wf hwf h6f => ?_
     simp only [a1_, a2_, a3_, a4_, a5_, a6_, a7_] at h6f
     conv => cbv
     refine st_cell hr tLS rfl h6f.at ?_
     rw [hR]; exact ⟨hx.then (hwf.bel h6 hx.size), kn, A3, n3, c3, A4, n4, c4, 7, rfl, by unfold stepF; rw [if_neg (fun q => q hrg), if_neg hlt, if_neg (fun q => q hfy), if_neg hno3, hbs, ← ht, if_pos (by rw [hn1]; simp; omega)], fun e => absurd e (by decide)⟩
    have g8 : x6 ≤ 100 := by simpa [hE.cmp, cmpR] using g8
    have hst : stepF pv sl n2 i o gg (st, sls) = (0, nextS o gg (st, sls) base t) := by
     unfold stepF
     rw [if_neg (fun q => q hrg), if_neg hlt, if_neg (fun q => q hfy), if_neg hno3, hbs, ← ht, if_neg (by rw [hn1]; simp; omega)]
    conv => cbv
    refine st_loadS hE tLS rfl h7.at ?_
    replace h6 := h6.bel hq6
    replace hx := hx.trans hq6
    conv => cbv
    refine st_putS hr (by kernel_rfl) h6 (add_zero _).symm (by simp) (by simp [Value.oneCell']) fun wf hwf h6f => ?_
    simp only [a1_, a2_, a3_, a4_, a5_, a6_, a7_] at h6f
    conv => cbv
    refine st_cell hr tLS rfl h6f.at ?_
    rw [hR, hst]; exact ⟨hx.then (hwf.bel h6 hx.size), kn, _, _, _, _, _, _, 0, rfl, rfl, fun _ => ⟨rfl, by simp only [hn1]; exact (os.mono hwx).wr hwf ap65.2, by simp only [← hsn]; exact (o6.mono hwx).wr hwf ap66.2⟩⟩
 ·have g9 : o ≠ 3 := by simpa [hE.cmp, cmpR] using g9
  have hno3 : ¬ (o = 3 ∧ pushF pv (st, sls).2 o gg = 0) := by rw [show pushF pv (st, sls).2 o gg = t from ht.symm]; exact fun q => g9 q.1
  conv => cbv
  (refine st_fld hE fLS1 fun p hp => ?_; (conv => cbv); refine st_load hE cInts (by rw [hp]; exact (h7).at _ _ rfl) ?_; clear hp; (conv => cbv))
  refine st_upto hE tInts (hi := base) o5 hbi (by omega) fun os => ?_
  rw [Nat.mul_one, ← List.map_take] at os
  conv => cbv
  refine st_fld hE fLS1 fun p6 hp6 => ?_
  conv => cbv
  refine st_put hr zInts h7 hp6 (by simp) rfl fun w10 hw10 h73 => ?_
  simp only [b4_, b5_] at h73
  replace hq6 := hq6.then (hw10.bel h7 hq6.size)
  replace os := os.wr hw10 ap57.1
  replace o6 := o6.wr hw10 ap67.1
  replace h7 := h73
  clear h73 hw10 hC
  conv => cbv
  refine br (fun g7 => ?_) (fun g7 => ?_)
  ·have g7 : 0 < t := by simpa [hE.cmp, cmpR] using g7
   have hn1 : (nextS o gg (st, sls) base t).1 = st.take base ++ [t] := by unfold nextS; rw [if_neg (by omega)]
   conv => cbv
   (refine st_fld hE fLS1 fun p hp => ?_; (conv => cbv); refine st_load hE cInts (by rw [hp]; exact (h7).at _ _ rfl) ?_; clear hp; (conv => cbv))
   refine st_one hr tInts rfl rfl fun A8 w11 hx11 hc11 => ?_
   replace h7 := h7.bel hx11
   replace os := os.bel hx11
   replace o6 := o6.bel hx11
   replace hq6 := hq6.trans hx11
   conv => cbv
   refine st_appsG hr tInts rfl os hc11 (m1 := 1) rfl (by simp [Value.oneCell']) hq6.size (by omega) (by omega) fun A9 c9 n9 w12 hn9 hw12 os2 hbk => ?_
   rw [show [Value.int .i64 t] = [t].map (Value.int .i64) from rfl, ← List.map_append] at os2
   have ap97 := apart_grow h7 ap57.1 hbk
   have ap96 := apart_grow (h6.bel hq6) ap65.2 hbk
   replace hq6 := hq6.then (hw12.bel os hq6.size)
   replace h7 := h7.wr hw12 ap57.2
   replace o6 := o6.wr hw12 ap2
   clear hc11 hx11
   conv => cbv
   refine st_fld hE fLS1 fun p7 hp7 => ?_
   conv => cbv
   refine st_put hr zInts h7 hp7 (by simp) rfl fun w13 hw13 h74 => ?_
   simp only [b4_, b5_] at h74
   replace hq6 := hq6.then (hw13.bel h7 hq6.size)
   replace os2 := os2.wr hw13 ap97
   replace o6 := o6.wr hw13 ap67.1
   replace h7 := h74
   clear h74 hw13 hw12
   conv => cbv
   (refine st_fld hE fLS1 fun p hp => ?_; (conv => cbv); refine st_load hE cInts (by rw [hp]; exact (h7).at _ _ rfl) ?_; clear hp; (conv => cbv))
   refine st_len hE tInts fun x6 hx6 => ?_
   conv => cbv
   refine br (fun g8 => ?_) (fun g8 => ?_)
   ·have g8 : 100 < x6 := by simpa [hE.cmp, cmpR] using g8
    replace h5 := h5.bel hq6
    replace h6 := h6.bel hq6
    replace hx := hx.trans hq6
    conv => cbv
    refine st_loadS hE tLS rfl h5.at ?_
    conv => cbv
    refine st_putS hr (by kernel_rfl) h6 (add_zero _).symm (by simp) (by simp [Value.oneCell']) fun wf hwf h6f => ?_
    simp only [a1_, a2_, a3_, a4_, a5_, a6_, a7_] at h6f
    conv => cbv
    refine st_cell hr tLS rfl h6f.at ?_
    rw [hR]; exact ⟨hx.then (hwf.bel h6 hx.size), kn, A3, n3, c3, A4, n4, c4, 7, rfl, by unfold stepF; rw [if_neg (fun q => q hrg), if_neg hlt, if_neg (fun q => q hfy), if_neg hno3, hbs, ← ht, if_pos (by rw [hn1]; simp; omega)], fun e => absurd e (by decide)⟩
   have g8 : x6 ≤ 100 := by simpa [hE.cmp, cmpR] using g8
   have hst : stepF pv sl n2 i o gg (st, sls) = (0, nextS o gg (st, sls) base t) := by
    unfold stepF
    rw [if_neg (fun q => q hrg), if_neg hlt, if_neg (fun q => q hfy), if_neg hno3, hbs, ← ht, if_neg (by rw [hn1]; simp; omega)]
   conv => cbv
   refine st_loadS hE tLS rfl h7.at ?_
   replace h6 := h6.bel hq6
   replace hx := hx.trans hq6
   conv => cbv
   refine st_putS hr (by kernel_rfl) h6 (add_zero _).symm (by simp) (by simp [Value.oneCell']) fun wf hwf h6f => ?_
   simp only [a1_, a2_, a3_, a4_, a5_, a6_, a7_] at h6f
   conv => cbv
   refine st_cell hr tLS rfl h6f.at ?_
   rw [hR, hst]; exact ⟨hx.then (hwf.bel h6 hx.size), kn, _, _, _, _, _, _, 0, rfl, rfl, fun _ => ⟨rfl, by simp only [hn1]; exact (os2.mono hwx).wr hwf ap96, by simp only [← hsn]; exact (o6.mono hwx).wr hwf ap66.2⟩⟩
  ·have g7 : t = 0 := by
    have : ¬ 0 < t := by simpa [hE.cmp, cmpR] using g7
    omega
   have hn1 : (nextS o gg (st, sls) base t).1 = st.take base := by unfold nextS; rw [if_pos g7, a7_]
   conv => cbv
   (refine st_fld hE fLS1 fun p hp => ?_; (conv => cbv); refine st_load hE cInts (by rw [hp]; exact (h7).at _ _ rfl) ?_; clear hp; (conv => cbv))
   refine st_len hE tInts fun x6 hx6 => ?_
   conv => cbv
   refine br (fun g8 => ?_) (fun g8 => ?_)
   ·have g8 : 100 < x6 := by simpa [hE.cmp, cmpR] using g8
    replace h5 := h5.bel hq6
    replace h6 := h6.bel hq6
    replace hx := hx.trans hq6
    conv => cbv
    refine st_loadS hE tLS rfl h5.at ?_
    conv => cbv
    refine st_putS hr (by kernel_rfl) h6 (add_zero _).symm (by simp) (by simp [Value.oneCell']) fun wf hwf h6f => ?_
    simp only [a1_, a2_, a3_, a4_, a5_, a6_, a7_] at h6f
    conv => cbv
    refine st_cell hr tLS rfl h6f.at ?_
    rw [hR]; exact ⟨hx.then (hwf.bel h6 hx.size), kn, A3, n3, c3, A4, n4, c4, 7, rfl, by unfold stepF; rw [if_neg (fun q => q hrg), if_neg hlt, if_neg (fun q => q hfy), if_neg hno3, hbs, ← ht, if_pos (by rw [hn1]; simp; omega)], fun e => absurd e (by decide)⟩
   have g8 : x6 ≤ 100 := by simpa [hE.cmp, cmpR] using g8
   have hst : stepF pv sl n2 i o gg (st, sls) = (0, nextS o gg (st, sls) base t) := by
    unfold stepF
    rw [if_neg (fun q => q hrg), if_neg hlt, if_neg (fun q => q hfy), if_neg hno3, hbs, ← ht, if_neg (by rw [hn1]; simp; omega)]
   conv => cbv
   refine st_loadS hE tLS rfl h7.at ?_
   replace h6 := h6.bel hq6
   replace hx := hx.trans hq6
   conv => cbv
   refine st_putS hr (by kernel_rfl) h6 (add_zero _).symm (by simp) (by simp [Value.oneCell']) fun wf hwf h6f => ?_
   simp only [a1_, a2_, a3_, a4_, a5_, a6_, a7_] at h6f
   conv => cbv
   refine st_cell hr tLS rfl h6f.at ?_
   rw [hR, hst]; exact ⟨hx.then (hwf.bel h6 hx.size), kn, _, _, _, _, _, _, 0, rfl, rfl, fun _ => ⟨rfl, by simp only [hn1]; exact (os.mono hwx).wr hwf ap65.2, by simp only [← hsn]; exact (o6.mono hwx).wr hwf ap66.2⟩⟩
end Go.Proofs.YtkedmcebngachaaGreatDoor
