/- Texts that the law FnExactRun leans on, part 1 of 11: contracts of the functions that it reaches and plain lemmas. Each holds under the conditions that it states. -/
import Derived.WalkKit
import Derived.Deep.Quiet
import Derived.OrdersHeld
import Derived.Maps.AppendAt
import Derived.Laws.MakeOwn
import Derived.IntWalk
import Derived.Laws.BytesString
import Derived.Test.YtkedmcebngachaaGreatDoorRows
import Derived.ProofKit
import Derived.OpenShut
import Derived.ShutString
import Derived.ChangeOld
import Derived.SizedLaws
import Derived.SliceStrings
import Derived.Laws.OwnMore
import Derived.Laws.Bits64b
import Derived.Great.BuildSlice
import Derived.Laws.IdiomRangeMap
set_option maxHeartbeats 16000000
set_option linter.unusedVariables false
set_option linter.unusedSimpArgs false
namespace Go.Eng
theorem a1_ {α : Type} {l : List α} : l.take 0 = [] := List.take_zero
theorem a2_ {α : Type} {l : List α} : [] ++ l = l := List.nil_append l
theorem a3_ {α : Type} {a : α} {l : List α} : (a :: l).length = l.length + 1 := List.length_cons
theorem a4_ {α : Type} : ([] : List α).length = 0 := List.length_nil
theorem a5_ {α : Type} {a : α} {l : List α} {i : Nat} : (a :: l).drop (i + 1) = l.drop i := List.drop_succ_cons
theorem a6_ {α : Type} {i : Nat} : ([] : List α).drop i = [] := List.drop_nil
theorem a7_ {α : Type} {l : List α} : l ++ [] = l := List.append_nil l
theorem b1_ {α : Type} {a b : α} {l m : List α} : (a :: l = b :: m) = (a = b ∧ l = m) := List.cons.injEq ..
theorem b2_ {α β : Type} {f : α → β} {a : α} {l : List α} : (a :: l).map f = f a :: l.map f := List.map_cons
theorem b3_ {α β : Type} {f : α → β} : ([] : List α).map f = [] := List.map_nil
theorem b4_ {α : Type} {a b : α} {l : List α} : (a :: l).set 0 b = b :: l := List.set_cons_zero
theorem b5_ {α : Type} {a b : α} {l : List α} {i : Nat} : (a :: l).set (i + 1) b = a :: l.set i b := List.set_cons_succ
theorem n1_ (n : Nat) : n ≤ n := Nat.le_refl n
theorem m1_ {α : Type} {l : List α} {i : Nat} {a : α} (h : l[i]? = some a) : a ∈ l := List.mem_of_getElem? h
theorem g2_ {α : Type} {l : List α} {i : Nat} (h : i < l.length) : l[i]? = some l[i] := List.getElem?_eq_getElem h
theorem g4_ {α : Type} {l : List α} {i : Nat} : l.take (i + 1) = l.take i ++ l[i]?.toList := List.take_add_one
theorem n2_ {a b c : Nat} (h : a ≤ b) (k : b ≤ c) : a ≤ c := Nat.le_trans h k
theorem n3_ {a b c : Nat} (h : a < b) (k : b ≤ c) : a < c := Nat.lt_of_lt_of_le h k
theorem g3_ {α : Type} {l : List α} {i : Nat} (h : l.length ≤ i) : l.take i = l := List.take_of_length_le h
end Go.Eng
namespace Go.Eng
abbrev Fr := List (Nat × Value)
def lk : Fr → Nat → Option Value
 | [], _ => none
 | (k, v) :: r, t => if k = t then some v else lk r t
def ev (F : Fr) : Operand → Option Value
 | .tmp t => lk F t
 | .const v => some v
 | .global g => some (.pointer (some ⟨g, 0, none⟩))
 | .func f => some (.func (.func f) #[] #[])
def evs (F : Fr) : List Operand → Option (List Value)
 | [] => some []
 | x :: xs => match ev F x with
  | none => none
  | some v => match evs F xs with
   | none => none
   | some vs => some (v :: vs)
def opnds : Op → List Operand
 | .alloc _ | .ready _ | .waits _ => []
 | .move x | .assign x | .box _ x | .load _ x | .nilCheck x | .unOp _ _ x | .convert _ _ x | .sliceToArrayPointer _ x | .makeInterface _ x
 | .makeChan _ x | .fieldAddr _ x _ | .field _ x _ | .range _ x | .next x _ | .entry x | .typeAssert x _ _ _ | .extract x _ | .panic x | .recv _ x _ => [x]
 | .pick c a b => [c, a, b]
 | .build _ ps | .buildSlice _ _ ps => ps.toList.map (·.2)
 | .store _ a v | .binOp _ _ a v _ | .makeSlice _ a v | .indexAddr _ a v | .index _ a v | .lookup _ a v _ | .mapEntry _ a v | .send a v => [a, v]
 | .makeFunc _ first captured => first.toList ++ captured.toList
 | .makeMap _ r => r.toList
 | .slice _ x l h m => x :: (l.toList ++ h.toList ++ m.toList)
 | .mapUpdate _ m k v | .entryStore _ m k v | .insert _ m k v => [m, k, v]
 | .call c | .go c | .defer c => (match c.callee with | .value f => [f] | .invoke r _ => [r] | .builtin _ => []) ++ c.args.toList
 | .select _ _ => []
structure Sym where
 ar : BinOp → IntKind → Int → Int → Int
 cmp : BinOp → Int → Int → Bool
 scmp : BinOp → ByteArray → ByteArray → Bool
 nat : Nat → Int
 len : ByteArray → Nat
 stop : Oper → List Value → World → (Value → World → Prop) → Prop
 loop : Code → Fr → World → (Exit → Fr → World → Prop) → Prop
 draw : Nat → Array Oper → Fr → World → (Exit → Fr → World → Prop) → Prop
 cut : Code → Code → Fr → World → (Exit → Fr → World → Prop) → Prop
 cell : TypeId → Value → World → (Value → World → Prop) → Prop
inductive Pk where
 | v (x : Value)      -- a value, at once
 | p (b : Bool) (x y : Value)      -- one of two
 | no      -- left to the proof
def Pk.un : UnOp → Value → Pk
 | .not, .bool b => .v (.bool (if b = true then false else true))
 | _, _ => .no
def sameK : IntKind → IntKind → Bool
 | .i64, .i64 | .u8, .u8 | .u64, .u64 | .i32, .i32 | .u16, .u16 | .u32, .u32 | .i8, .i8 | .i16, .i16 => true
 | _, _ => false
def Pk.bin (E : Sym) : BinOp → Value → Value → Pk
 | op, .int k a, .int k' b => if sameK k k' = true then (match op with
  | .add => .v (.int k (E.ar .add k a b))
  | .sub => .v (.int k (E.ar .sub k a b))
  | .mul => .v (.int k (E.ar .mul k a b))
  | .eql => .v (.bool (E.cmp .eql a b))
  | .neq => .v (.bool (E.cmp .neq a b))
  | .lss => .v (.bool (E.cmp .lss a b))
  | .leq => .v (.bool (E.cmp .leq a b))
  | .gtr => .v (.bool (E.cmp .gtr a b))
  | .geq => .v (.bool (E.cmp .geq a b))
  | _ => .no) else .no
 | op, .string a, .string b => match op with
  | .eql => .v (.bool (E.scmp .eql a b))
  | .neq => .v (.bool (E.scmp .neq a b))
  | .lss => .v (.bool (E.scmp .lss a b))
  | .leq => .v (.bool (E.scmp .leq a b))
  | .gtr => .v (.bool (E.scmp .gtr a b))
  | .geq => .v (.bool (E.scmp .geq a b))
  | _ => .no
 | _, _, _ => .no
def pure1 (E : Sym) (F : Fr) : Op → Pk
 | .move x | .assign x => match ev F x with | some v => .v v | none => .no
 | .pick c a b => match ev F c, ev F a, ev F b with
  | some (.bool c), some x, some y => .p c x y
  | some (.bool c), some x, none => if c = true then .v x else .no
  | some (.bool c), none, some y => if c = true then .no else .v y
  | _, _, _ => .no
 | .binOp op _ x y _ => match ev F x, ev F y with
  | some v, some u => Pk.bin E op v u
  | _, _ => .no
 | .unOp op _ x => match ev F x with
  | some v => Pk.un op v
  | none => .no
 | .extract x i => match ev F x with
  | some (.tuple vs) => match vs.toList[i]? with | some v => .v v | none => .no
  | _ => .no
 | .makeFunc fn first captured => match evs F first.toList, evs F captured.toList with
  | some a, some b => .v (.func fn a.toArray b.toArray)
  | _, _ => .no
 | _ => .no
def put (F : Fr) : Option Tmp → Value → Fr
 | some d, v => (d, v) :: F
 | none, _ => F
def dstOf : List Oper → Nat → Option Tmp
 | [], _ => none
 | o :: _, 0 => o.dst
 | _ :: os, n + 1 => dstOf os n
def eOp (E : Sym) (o : Oper) (F : Fr) (w : World) (K : Value → World → Prop) : Prop :=
 match pure1 E F o.op with
 | .v x => K x w
 | .p b x y => if b = true then K x w else K y w
 | .no => match evs F (opnds o.op) with
  | some vs => E.stop o vs w K
  | none => False
def eOps (E : Sym) (all : List Oper) : List Oper → Fr → World → (Fr → World → Prop) → Prop
 | [], F, w, K => K F w
 | o :: os, F, w, K =>
  match o.guard with
  | none => eOp E o F w fun v w => eOps E all os (put F o.dst v) w K
  | some (j, want) =>
   match dstOf all j with
   | none => False
   | some s => match lk F s with
    | some (.bool b) =>
     if b = true then
      (if want = true then eOp E o ((s, .bool true) :: F) w fun v w => eOps E all os (put ((s, .bool true) :: F) o.dst v) w K
       else eOps E all os (put ((s, .bool true) :: F) o.dst undef) w K)
     else
      (if want = true then eOps E all os (put ((s, .bool false) :: F) o.dst undef) w K
       else eOp E o ((s, .bool false) :: F) w fun v w => eOps E all os (put ((s, .bool false) :: F) o.dst v) w K)
    | some (.tuple vs) => if vs.size = 0 then eOps E all os (put F o.dst undef) w K else False
    | _ => False
def firstId : Code → Nat
 | .region id _ _ => id
 | .seq a _ => firstId a
 | .cond _ a _ => firstId a
 | .block _ c => firstId c
 | .loop c => firstId c
 | _ => 1000000
def memb : List Nat → Nat → Bool
 | [], _ => false
 | x :: xs, n => if x = n then true else memb xs n
def eCode (E : Sym) (cs : List Nat) : Code → Fr → World → (Exit → Fr → World → Prop) → Prop
 | .skip, F, w, K => K .normal F w
 | .label _, F, w, K => K .normal F w
 | .region id ops draw, F, w, K =>
  match draw with
  | false => eOps E ops.toList ops.toList F w (K .normal)
  | true => E.draw id ops F w K
 | .seq a b, F, w, K => if memb cs (firstId b) = true then E.cut a b F w K else eCode E cs a F w fun e F w => match e with
  | .normal => eCode E cs b F w K
  | e => K e F w
 | .cond c x y, F, w, K => match ev F c with
  | some (.bool b) => if b = true then eCode E cs x F w K else eCode E cs y F w K
  | _ => False
 | .block id c, F, w, K => eCode E cs c F w fun e F w => match e with
  | .exit i => if i = id then K .normal F w else K (.exit i) F w
  | e => K e F w
 | .loop c, F, w, K => E.loop c F w K
 | .exit id, F, w, K => K (.exit id) F w
 | .ret, F, w, K => K .ret F w
 | _, _, _, _ => False
structure Kn (n : Nat) (F : Fr) (a : Act) : Prop where
 size : a.tmps.size = n
 defers : a.defers = []
 get : ∀ k v, lk F k = some v → a.tmps[k]? = some v
theorem Kn.ev {n : Nat} {F : Fr} {a : Act} (h : Kn n F a) {x : Operand} {v : Value} (hx : ev F x = some v) : a.eval x = v := by
 cases x with
 | tmp t =>
  have := h.get t v hx
  simp [Act.eval, Array.getD_eq_getD_getElem?, this]
 | const u => simpa [Eng.ev, Act.eval] using hx
 | global g => simpa [Eng.ev, Act.eval] using hx
 | func f => simpa [Eng.ev, Act.eval] using hx
theorem Kn.evs {n : Nat} {F : Fr} {a : Act} (h : Kn n F a) : ∀ {xs : List Operand} {vs : List Value}, Eng.evs F xs = some vs → xs.map a.eval = vs
 | [], vs, hx => by simp only [Eng.evs, Option.some.injEq] at hx; simp [← hx]
 | x :: xs, vs, hx => by
  simp only [Eng.evs] at hx
  split at hx
  ·cases hx
  ·rename_i v hv
   split at hx
   ·cases hx
   ·rename_i us hus
    simp only [Option.some.injEq] at hx
    subst hx
    simp [h.ev hv, Kn.evs h hus]
theorem look_cons_self (k : Nat) (v : Value) (F : Fr) : lk ((k, v) :: F) k = some v := by simp [lk]
theorem look_cons_ne {k t : Nat} (v : Value) (F : Fr) (h : k ≠ t) : lk ((k, v) :: F) t = lk F t := by simp [lk, h]
theorem Kn.put {n : Nat} {F : Fr} {a : Act} (h : Kn n F a) (d : Option Tmp) (hd : ∀ t, d = some t → t < n) (v : Value) : Kn n (put F d v) (a.put d v) := by
 cases d with
 | none => exact h
 | some d =>
  have hd' : d < a.tmps.size := by rw [h.size]; exact hd d rfl
  refine ⟨by simpa [Act.put] using h.size, h.defers, fun k u hk => ?_⟩
  simp only [Eng.put] at hk
  by_cases e : d = k
  ·subst e
   rw [look_cons_self] at hk
   cases hk
   simp only [Act.put]
   rw [Array.getElem?_setIfInBounds_self_of_lt hd']
  ·rw [look_cons_ne _ _ e] at hk
   have := h.get k u hk
   simpa [Act.put, e] using this
theorem Kn.lay {n : Nat} {F : Fr} {a : Act} (h : Kn n F a) {s : Nat} {v : Value} (hs : lk F s = some v) : Kn n ((s, v) :: F) a :=
 ⟨h.size, h.defers, fun k u hk => by
  by_cases e : s = k
  ·subst e; rw [look_cons_self] at hk; cases hk; exact h.get s v hs
  ·rw [look_cons_ne _ _ e] at hk; exact h.get k u hk⟩
def arR : BinOp → IntKind → Int → Int → Int
 | .add, k, a, b => k.wrap (a + b)
 | .sub, k, a, b => k.wrap (a - b)
 | _, k, a, b => k.wrap (a * b)
def cmpR : BinOp → Int → Int → Bool
 | .eql, a, b => a == b
 | .neq, a, b => a != b
 | .lss, a, b => decide (a < b)
 | .leq, a, b => decide (a ≤ b)
 | .gtr, a, b => decide (b < a)
 | _, a, b => decide (b ≤ a)
def scmpR : BinOp → ByteArray → ByteArray → Bool
 | .eql, x, y => x.toList == y.toList
 | .neq, x, y => !(x.toList == y.toList)
 | .lss, x, y => Op.bytesLess x.toList y.toList
 | .leq, x, y => Op.bytesLess x.toList y.toList || x.toList == y.toList
 | .gtr, x, y => !(Op.bytesLess x.toList y.toList || x.toList == y.toList)
 | _, x, y => !Op.bytesLess x.toList y.toList
def sat (P : Program) (Pn : List PanicEntry → World → Prop) (K : Value → World → Prop) : Result Next → Prop
 | .ok (.value v) w => K v w
 | .ok .skip w => K undef w
 | .ok (.enter f args) w => Calls P f args w fun e w' => match e with | .returned v => K v w' | .panicked c => Pn c w' | .outgrown => False
 | .halt (.panic v) w => Pn [{ v, recovered := false }] w
 | _ => False
def QK (Pn : List PanicEntry → World → Prop) (n : Nat) (K : Exit → Fr → World → Prop) (e : Exit) (a : Act) (w : World) : Prop :=
 match e with
 | .panic c => a.defers = [] ∧ Pn c w
 | .outgrown => False
 | e => ∃ F, Kn n F a ∧ K e F w
def okDst (n : Nat) : Code → Bool
 | .region _ ops _ => ops.toList.all fun o => match o.dst with | some d => Nat.blt d n | none => true
 | .seq a b | .cond _ a b => okDst n a && okDst n b
 | .block _ c | .loop c => okDst n c
 | .skip | .exit _ | .ret => true
 | _ => false
def real (P : Program) (Pn : List PanicEntry → World → Prop) (n : Nat) : Sym where
 ar := arR
 cmp := cmpR
 scmp := scmpR
 nat := Int.ofNat
 len := ByteArray.size
 stop o vals w K := ∀ ρ : Operand → Value, (opnds o.op).map ρ = vals → sat P Pn K ((execOp ρ o).run P w)
 loop c F w K := okDst n c = true → ∀ a, Kn n F a → (Code.loop c).wp P (QK Pn n K) a w
 draw id ops F w K := okDst n (.region id ops true) = true → ∀ a, Kn n F a → (Code.region id ops true).wp P (QK Pn n K) a w
 cut x y F w K := okDst n x = true → okDst n y = true → ∀ a, Kn n F a → (Code.seq x y).wp P (QK Pn n K) a w
 cell t x w K := ∃ a v, x = .pointer (some a) ∧ (loadVar t a).run P w = .ok v w ∧ K v w
section
variable {P : Program} {Pn : List PanicEntry → World → Prop} {n : Nat}
theorem sameK_eq : ∀ {k k' : IntKind}, sameK k k' = true → k = k' := by
 intro k k'; cases k <;> cases k' <;> simp [sameK]
theorem bin_sound {op : BinOp} {t t' : TypeId} {x y : Operand} {a b : Value} {r : Pk} (ρ : Operand → Value) (ha : ρ x = a) (hb : ρ y = b) (h : Pk.bin (real P Pn n) op a b = r) (w : World) (o : Oper) (ho : o.op = .binOp op t x y t') :
  (∀ v, r = .v v → (execOp ρ o).run P w = .ok (.value v) w) ∧ (∀ c u v, r ≠ .p c u v) := by
 subst h
 cases a <;> cases b <;> try (refine ⟨fun v h => ?_, fun _ _ _ h => ?_⟩ <;> simp only [Pk.bin] at h <;> cases h; done)
 case int.int k a k' b =>
  by_cases hk : sameK k k' = true
  ·have := sameK_eq hk
   subst this
   refine ⟨fun v h => ?_, fun c u v h => ?_⟩
   ·simp only [Pk.bin, hk, if_true] at h
    cases op <;> simp only [Pk.v.injEq, reduceCtorEq] at h <;> subst h <;> simp [execOp, ho, ha, hb, eqGuard, binOp, Op.intArith, Op.intCmp, real, arR, cmpR]
   ·simp only [Pk.bin, hk, if_true] at h
    cases op <;> simp only [reduceCtorEq] at h
  ·refine ⟨fun v h => ?_, fun c u v h => ?_⟩ <;> simp only [Pk.bin, hk] at h <;> cases h
 case string.string a b =>
  refine ⟨fun v h => ?_, fun c u v h => ?_⟩
  ·cases op <;> simp only [Pk.bin, Pk.v.injEq, reduceCtorEq] at h <;> subst h <;> simp [execOp, ho, ha, hb, eqGuard, binOp, Op.stringOp, real, scmpR]
  ·cases op <;> simp only [Pk.bin, reduceCtorEq] at h
theorem pure1_sound {F : Fr} {a : Act} (hk : Kn n F a) {o : Oper} (w : World) :
  (∀ v, pure1 (real P Pn n) F o.op = .v v → (execOp a.eval o).run P w = .ok (.value v) w) ∧
  (∀ b x y, pure1 (real P Pn n) F o.op = .p b x y → (execOp a.eval o).run P w = .ok (.value (if b = true then x else y)) w) := by
 obtain ⟨d, op, ty, pos, aft, g⟩ := o
 cases op <;> try (refine ⟨fun v h => ?_, fun b x y h => ?_⟩ <;> simp only [pure1] at h <;> cases h; done)
 case move x =>
  refine ⟨fun v h => ?_, fun b x y h => ?_⟩ <;> simp only [pure1] at h <;> split at h <;> cases h
  rename_i hx
  simp [execOp, hk.ev hx]
 case assign x =>
  refine ⟨fun v h => ?_, fun b x y h => ?_⟩ <;> simp only [pure1] at h <;> split at h <;> cases h
  rename_i hx
  simp [execOp, hk.ev hx]
 case pick c x y =>
  refine ⟨fun v h => ?_, fun b u v h => ?_⟩ <;> simp only [pure1] at h
  ·split at h
   ·cases h
   ·rename_i c' x' hc hx _
    split at h <;> cases h
    rename_i hc'
    simp [execOp, hk.ev hc, asBool, hk.ev hx, hc']
   ·rename_i c' y' hc _ hy
    split at h <;> cases h
    rename_i hc'
    simp [execOp, hk.ev hc, asBool, hk.ev hy, hc']
   ·cases h
  ·split at h
   ·cases h
    rename_i hc hx hy
    simp [execOp, hk.ev hc, asBool, hk.ev hx, hk.ev hy]
   ·split at h <;> cases h
   ·split at h <;> cases h
   ·cases h
 case binOp op t x y t' =>
  refine ⟨fun v h => ?_, fun b p q h => ?_⟩ <;> simp only [pure1] at h <;> split at h
  ·rename_i hx hy
   exact (bin_sound a.eval (hk.ev hx) (hk.ev hy) rfl w ⟨d, .binOp op t x y t', ty, pos, aft, g⟩ rfl).1 v h
  ·cases h
  ·rename_i hx hy
   exact ((bin_sound a.eval (hk.ev hx) (hk.ev hy) rfl w ⟨d, .binOp op t x y t', ty, pos, aft, g⟩ rfl).2 _ _ _ h).elim
  ·cases h
 case unOp op t x =>
  refine ⟨fun v h => ?_, fun b u y h => ?_⟩ <;> simp only [pure1] at h <;> split at h
  ·rename_i x' hx
   cases op <;> cases x' <;> simp only [Pk.un, Pk.v.injEq, reduceCtorEq] at h
   subst h
   rename_i b
   cases b <;> simp [execOp, hk.ev hx, Op.unary]
  ·cases h
  ·rename_i x' hx
   cases op <;> cases x' <;> simp only [Pk.un, reduceCtorEq] at h
  ·cases h
 case extract x i =>
  refine ⟨fun v h => ?_, fun b u y h => ?_⟩ <;> simp only [pure1] at h <;> split at h
  ·rename_i vs hx
   split at h <;> cases h
   rename_i hv
   have hv' : vs[i]? = some v := by simpa using hv
   simp [execOp, hk.ev hx, Instr.extract, hv']
  ·cases h
  ·split at h <;> cases h
  ·cases h
 case makeFunc fn first captured =>
  refine ⟨fun v h => ?_, fun b u y h => ?_⟩ <;> simp only [pure1] at h <;> split at h <;> cases h
  rename_i hx hy
  have h1 := hk.evs hx
  have h2 := hk.evs hy
  subst h1; subst h2
  have e1 : ∀ l : Array Operand, l.map a.eval = (l.toList.map a.eval).toArray := fun l => by rw [← Array.toList_map, Array.toArray_toList]
  simp [execOp, Instr.makeFunc, e1]
theorem eOp_sound {F : Fr} {a : Act} (hk : Kn n F a) {o : Oper} {w : World} {K : Value → World → Prop} (h : eOp (real P Pn n) o F w K) : sat P Pn K ((execOp a.eval o).run P w) := by
 simp only [eOp] at h
 split at h
 ·rename_i x hx
  rw [(pure1_sound hk w).1 _ hx]; exact h
 ·rename_i b x y hx
  rw [(pure1_sound hk w).2 _ _ _ hx]
  split at h
  ·rename_i hb; simp only [hb, if_true]; exact h
  ·rename_i hb; simp only [hb]; exact h
 ·split at h
  ·rename_i vs hvs
   exact h a.eval (hk.evs hvs)
  ·exact h.elim
theorem dstOf_eq : ∀ (l : List Oper) (j : Nat), dstOf l j = (l[j]?).bind (·.dst)
 | [], _ => by simp [dstOf]
 | o :: _, 0 => by simp [dstOf]
 | _ :: os, j + 1 => by simp [dstOf, dstOf_eq os j]
theorem wanted_of {all : List Oper} {a : Act} {F : Fr} (hk : Kn n F a) {o : Oper} {j : Nat} {want : Bool} {s : Nat} {v : Value} (hg : o.guard = some (j, want)) (hs : dstOf all j = some s) (hv : lk F s = some v) :
  Region.wanted o (yielded all.toArray a.tmps) = (match v with | .bool b => b == want | _ => false) := by
 have h1 : (all[j]?).bind (·.dst) = some s := by rw [← dstOf_eq]; exact hs
 have h2 := hk.get s v hv
 simp only [Region.wanted, hg, yielded, List.getElem?_toArray, h1, Option.bind_some, h2]
 cases v <;> simp
theorem wpList_of_sat {all : List Oper} {os : List Oper} {o : Oper} {a : Act} {w : World} {Q : Exit → Act → World → Prop} {K : Value → World → Prop} (hw : Region.wanted o (yielded all.toArray a.tmps) = true)
  (h : sat P Pn K ((execOp a.eval o).run P w)) (hK : ∀ v w, K v w → wpList P all.toArray Q os (a.put o.dst v) w) (hP : ∀ c w, Pn c w → Q (.panic c) a w) : wpList P all.toArray Q (o :: os) a w := by
 unfold wpList
 rw [if_pos hw]
 refine .inl ?_
 unfold Oper.wp
 generalize (execOp a.eval o).run P w = r at h
 cases r with
 | ok x w' =>
  cases x <;> simp only [sat] at h <;> simp only [Oper.upon]
  case value => exact hK _ _ h
  case skip => exact hK _ _ h
  case enter => exact h.mono fun e w' he => by cases e <;> first | exact hK _ _ he | exact hP _ _ he | exact he.elim
 | halt x w' =>
  cases x <;> simp only [sat] at h <;> simp only [Oper.upon]
  case panic => exact hP _ _ h
theorem wpList_pass {all : List Oper} {os : List Oper} {o : Oper} {a : Act} {w : World} {Q : Exit → Act → World → Prop} (hw : Region.wanted o (yielded all.toArray a.tmps) = false) (h : wpList P all.toArray Q os (a.put o.dst undef) w) : wpList P all.toArray Q (o :: os) a w := by
 unfold wpList
 rw [hw]
 exact h
theorem eOps_sound {all : List Oper} {K : Exit → Fr → World → Prop} : ∀ (os : List Oper) (F : Fr) (a : Act) (w : World), (∀ o ∈ os, ∀ t, o.dst = some t → t < n) → Kn n F a → eOps (real P Pn n) all os F w (K .normal) → wpList P all.toArray (QK Pn n K) os a w
 | [], F, a, w, _, hk, h => by
  simp only [eOps] at h
  exact ⟨F, hk, h⟩
 | o :: os, F, a, w, hd, hk, h => by
  have hdo : ∀ t, o.dst = some t → t < n := hd o (by simp)
  have hds : ∀ o' ∈ os, ∀ t, o'.dst = some t → t < n := fun o' ho' => hd o' (by simp [ho'])
  have hP : ∀ c w, Pn c w → QK Pn n K (.panic c) a w := fun c w h => ⟨hk.defers, h⟩
  simp only [eOps] at h
  split at h
  ·rename_i hg
   exact wpList_of_sat (by simp [Region.wanted, hg]) (eOp_sound hk h) (fun v w' h' => eOps_sound os _ _ _ hds (hk.put o.dst hdo v) h') hP
  ·rename_i j want hg
   split at h
   ·exact h.elim
   ·rename_i s hs
    split at h
    ·rename_i b hv
     have hwt := wanted_of (all := all) hk hg hs hv
     simp only at hwt
     split at h
     ·rename_i hb
      subst hb
      have hk' := hk.lay hv
      split at h
      ·rename_i hwn
       subst hwn
       exact wpList_of_sat (by simpa using hwt) (eOp_sound hk' h) (fun v w' h' => eOps_sound os _ _ _ hds (hk'.put o.dst hdo v) h') hP
      ·rename_i hwn
       have : want = false := by simpa using hwn
       subst this
       exact wpList_pass (by simpa using hwt) (eOps_sound os _ _ _ hds (hk'.put o.dst hdo undef) h)
     ·rename_i hb
      have : b = false := by simpa using hb
      subst this
      have hk' := hk.lay hv
      split at h
      ·rename_i hwn
       subst hwn
       exact wpList_pass (by simpa using hwt) (eOps_sound os _ _ _ hds (hk'.put o.dst hdo undef) h)
      ·rename_i hwn
       have : want = false := by simpa using hwn
       subst this
       exact wpList_of_sat (by simpa using hwt) (eOp_sound hk' h) (fun v w' h' => eOps_sound os _ _ _ hds (hk'.put o.dst hdo v) h') hP
    ·rename_i vs hv
     have hwt := wanted_of (all := all) hk hg hs hv
     split at h
     ·exact wpList_pass (by simpa using hwt) (eOps_sound os _ _ _ hds (hk.put o.dst hdo undef) h)
     ·exact h.elim
    ·exact h.elim
theorem okDst_ops {id : Nat} {ops : Array Oper} {d : Bool} (h : okDst n (.region id ops d) = true) : ∀ o ∈ ops.toList, ∀ t, o.dst = some t → t < n := by
 intro o ho t ht
 simp only [okDst, List.all_eq_true] at h
 have := h o ho
 simp only [ht] at this
 simpa [Nat.blt_eq] using this
theorem eCode_sound {cs : List Nat} : ∀ (c : Code) {K : Exit → Fr → World → Prop} {F : Fr} {a : Act} {w : World}, okDst n c = true → Kn n F a → eCode (real P Pn n) cs c F w K → c.wp P (QK Pn n K) a w
 | .skip, K, F, a, w, _, hk, h => wp_skip ⟨F, hk, h⟩
 | .region id ops false, K, F, a, w, hd, hk, h => by
  simp only [eCode] at h
  exact wp_region_list (by have := eOps_sound ops.toList F a w (okDst_ops hd) hk h; simpa using this)
 | .region id ops true, K, F, a, w, hd, hk, h => h hd a hk
 | .seq x y, K, F, a, w, hd, hk, h => by
  simp only [okDst, Bool.and_eq_true] at hd
  simp only [eCode] at h
  split at h
  ·exact h hd.1 hd.2 a hk
  refine wp_seq (Code.wp_mono (fun e a' w' hq => ?_) (eCode_sound x hd.1 hk h))
  cases e with
  | normal => obtain ⟨F', hk', h'⟩ := hq; exact eCode_sound y hd.2 hk' h'
  | panic c => exact hq
  | outgrown => exact hq.elim
  | exit id => exact hq
  | goto l => exact hq
  | ret => exact hq
 | .cond c x y, K, F, a, w, hd, hk, h => by
  simp only [okDst, Bool.and_eq_true] at hd
  simp only [eCode] at h
  split at h
  ·rename_i b hb
   refine wp_cond (hk.ev hb) ?_
   split at h
   ·rename_i ht; subst ht; exact eCode_sound x hd.1 hk h
   ·rename_i ht
    have : b = false := by simpa using ht
    subst this; exact eCode_sound y hd.2 hk h
  ·exact h.elim
 | .block id c, K, F, a, w, hd, hk, h => by
  simp only [okDst] at hd
  simp only [eCode] at h
  refine wp_block (Code.wp_mono (fun e a' w' hq => ?_) (eCode_sound c hd hk h))
  cases e with
  | exit i =>
   obtain ⟨F', hk', h'⟩ := hq
   simp only at h'
   simp only [Exit.inBlock]
   split at h'
   ·rename_i hi; rw [if_pos hi]; exact ⟨F', hk', h'⟩
   ·rename_i hi; rw [if_neg hi]; exact ⟨F', hk', h'⟩
  | normal => exact hq
  | panic c => exact hq
  | outgrown => exact hq.elim
  | goto l => exact hq
  | ret => exact hq
 | .loop c, K, F, a, w, hd, hk, h => h hd a hk
 | .exit id, K, F, a, w, _, hk, h => wp_exit ⟨F, hk, h⟩
 | .ret, K, F, a, w, _, hk, h => wp_ret ⟨F, hk, h⟩
end
def eRes (E : Sym) (F : Fr) : List ResultVar → World → (List Value → Prop) → Prop
 | [], _, K => K []
 | .tmp t :: rs, w, K => match lk F t with
  | none => False
  | some v => eRes E F rs w fun vs => K (v :: vs)
 | .cell a t :: rs, w, K => match lk F a with
  | none => False
  | some x => E.cell t x w fun v w => eRes E F rs w fun vs => K (v :: vs)
def one : List Value → Value
 | [v] => v
 | vs => .tuple vs.toArray
def ePost (E : Sym) (rs : List ResultVar) (R : Value → World → Prop) : Exit → Fr → World → Prop
 | .normal, F, w | .ret, F, w => eRes E F rs w fun vs => R (one vs) w
 | _, _, _ => False
def frame : Nat → List Value → Fr
 | _, [] => []
 | k, v :: vs => (k, v) :: frame (k + 1) vs
def eBody (E : Sym) (cs : List Nat) (fn : Func) (args : List Value) (w : World) (R : Value → World → Prop) : Prop :=
 match fn.body with
 | none => False
 | some c => if okDst fn.ntmps c = true then (if Nat.ble args.length fn.ntmps = true then eCode E cs c (frame 0 args) w (ePost E fn.results.toList R) else False) else False
theorem eRes_sound {P : Program} {Pn : List PanicEntry → World → Prop} {n : Nat} {F : Fr} {a : Act} (hk : Kn n F a) {w : World} (g : ResultVar → Sem Value) (hg : ∀ t, g (.tmp t) = pure (a.tmps.getD t undef))
  (hc : ∀ t ty, g (.cell t ty) = do loadVar ty (← asAddr (a.tmps.getD t undef))) : ∀ (rs : List ResultVar) (K : List Value → Prop), eRes (real P Pn n) F rs w K → ∃ vs, (rs.mapM g).run P w = .ok vs w ∧ K vs
 | [], K, h => ⟨[], rfl, h⟩
 | .tmp t :: rs, K, h => by
  simp only [eRes] at h
  split at h
  ·exact h.elim
  ·rename_i v hv
   obtain ⟨vs, h1, h2⟩ := eRes_sound hk g hg hc rs _ h
   have h3 := hk.get t v hv
   refine ⟨v :: vs, ?_, h2⟩
   rw [List.mapM_cons, hg, Sem.run_bind, Sem.run_pure]
   simp only [Result.andThen]
   rw [Sem.run_bind, h1]
   simp [Array.getD_eq_getD_getElem?, h3]
 | .cell t ty :: rs, K, h => by
  simp only [eRes] at h
  split at h
  ·exact h.elim
  ·rename_i x hx
   obtain ⟨ad, v, rfl, hl, h⟩ := h
   obtain ⟨vs, h1, h2⟩ := eRes_sound hk g hg hc rs _ h
   have h3 := hk.get t _ hx
   refine ⟨v :: vs, ?_, h2⟩
   rw [List.mapM_cons, hc, Sem.run_bind]
   simp only [Array.getD_eq_getD_getElem?, h3, Option.getD_some, asAddr, Sem.run_bind, Sem.run_pure, Result.andThen_ok, hl, h1]
theorem results_of {P : Program} {Pn : List PanicEntry → World → Prop} {n : Nat} {fn : Func} {F : Fr} {a : Act} {w : World} (hk : Kn n F a) {R : Value → World → Prop} (h : eRes (real P Pn n) F fn.results.toList w fun vs => R (one vs) w) :
  ∃ v, (results fn a.tmps).run P w = .ok v w ∧ R v w := by
 obtain ⟨vs, h1, h2⟩ := eRes_sound hk (fun | .tmp t => pure (a.tmps.getD t undef) | .cell t ty => do loadVar ty (← asAddr (a.tmps.getD t undef))) (fun _ => rfl) (fun _ _ => rfl) _ _ h
 refine ⟨one vs, ?_, h2⟩
 have e : fn.results = fn.results.toList.toArray := by simp
 unfold results
 rw [e, List.mapM_toArray]
 rw [Sem.run_bind, Sem.run_map]
 erw [h1]
 match vs with
 | [] => rfl
 | [t] => rfl
 | t :: u :: ts => simp [one, Result.andThen]
theorem frame_look : ∀ (k : Nat) (vs : List Value) (t : Nat) (v : Value), lk (frame k vs) t = some v → k ≤ t ∧ vs[t - k]? = some v
 | k, [], t, v, h => by simp [frame, lk] at h
 | k, u :: vs, t, v, h => by
  simp only [frame, lk] at h
  split at h
  ·rename_i e; subst e; simp at h; simp [h]
  ·rename_i e
   have ⟨h1, h2⟩ := frame_look (k + 1) vs t v h
   have : t - k = (t - (k + 1)) + 1 := by omega
   exact ⟨by omega, by rw [this]; simpa using h2⟩
theorem body_calls {P : Program} {f : FuncId} {fn : Func} {args : List Value} {w : World} {Pn : List PanicEntry → World → Prop} {R : Value → World → Prop} (cs : List Nat)
  (hf : P.funcs[f]? = some fn) (h : ∀ E R', E = real P Pn fn.ntmps → R' = R → eBody E cs fn args w R') :
  Calls P f args.toArray w fun e w' => match e with | .returned v => R v w' | .panicked c => Pn c w' | .outgrown => False := by
 have h := h _ _ rfl rfl
 simp only [eBody] at h
 split at h
 ·exact h.elim
 ·rename_i c hb
  split at h
  ·rename_i hd
   split at h
   ·rename_i hlen
    have hlen : args.length ≤ fn.ntmps := by simpa [Nat.ble_eq] using hlen
    refine calls_of_wp hf hb (Code.wp_mono (fun e a w' hq => ?_) (eCode_sound c hd (F := frame 0 args) ?_ h))
    ·have key : ∀ e, (e = Exit.normal ∨ e = Exit.ret) → (∃ F, Kn fn.ntmps F a ∧ ePost (real P Pn fn.ntmps) fn.results.toList R e F w') → a.defers = [] ∧ ∃ v, (results fn a.tmps).run P w' = .ok v w' ∧ R v w' := by
      intro e he hq
      obtain ⟨F, hk, hp⟩ := hq
      refine ⟨hk.defers, ?_⟩
      have hp' : eRes (real P Pn fn.ntmps) F fn.results.toList w' fun vs => R (one vs) w' := by rcases he with rfl | rfl <;> exact hp
      exact results_of hk hp'
     cases e with
     | normal => exact key _ (.inl rfl) hq
     | ret => exact key _ (.inr rfl) hq
     | panic c => exact hq
     | outgrown => exact hq.elim
     | exit id => obtain ⟨_, _, h⟩ := hq; exact h.elim
     | goto id => obtain ⟨_, _, h⟩ := hq; exact h.elim
    ·refine ⟨by simp; omega, rfl, fun k v hv => ?_⟩
     have ⟨_, h2⟩ := frame_look 0 args k v hv
     have h2 : args[k]? = some v := by simpa using h2
     have h3 : k < args.length := (List.getElem?_eq_some_iff.1 h2).1
     simp [Array.getElem?_append, h3]
     exact (List.getElem?_eq_some_iff.1 h2).2
   ·exact h.elim
  ·exact h.elim
structure Same (w w' : World) : Prop where
 heap : w'.heap = w.heap
 os : w'.os = w.os
 tape : w'.tape = w.tape
 output : w'.output = w.output
theorem Same.refl (w : World) : Same w w := ⟨rfl, rfl, rfl, rfl⟩
theorem Same.trans {a b c : World} (h : Same a b) (k : Same b c) : Same a c := ⟨k.heap.trans h.heap, k.os.trans h.os, k.tape.trans h.tape, k.output.trans h.output⟩
theorem Same.symm {a b : World} (h : Same a b) : Same b a := ⟨h.heap.symm, h.os.symm, h.tape.symm, h.output.symm⟩
theorem Same.cell {w w' : World} (h : Same w w') (a : Addr) : w'.cell? a = w.cell? a := by simp [World.cell?, h.heap]
theorem Same.drew (w : World) : Same w { w with drawn := w.drawn + 1 } := ⟨rfl, rfl, rfl, rfl⟩
def Ext (w w' : World) : Prop := RowKit.Below w.heap.size w w'
theorem Ext.refl (w : World) : Ext w w := RowKit.Below.refl _ _
theorem Ext.trans {a b c : World} (h : Ext a b) (k : Ext b c) : Ext a c := RowKit.Below.trans h (RowKit.Below.mono k h.size)
theorem Same.ext {w w' : World} (h : Same w w') : Ext w w' := ⟨h.os, h.tape, h.output, by rw [h.heap]; exact n1_ _, fun k _ => by rw [h.heap]⟩
theorem Ext.cell {w w' : World} (h : Ext w w') {a : Addr} {v : Value} (hc : w.cell? a = some v) : w'.cell? a = some v :=
 (RowKit.Below.cell h (World.block_lt_of_cell? w a hc)).trans hc
def quietStop (P : Program) (o : Oper) (vals : List Value) (w : World) (v : Value) : Prop :=
 ∀ w1, Ext w w1 → ∀ ρ : Operand → Value, (opnds o.op).map ρ = vals → Oper.quietUpon P (Same w1) w1 v ((execOp ρ o).run P w1)
structure Rel (Rl : World → World → Prop) : Prop where
 refl : ∀ w, Rl w w
 same : ∀ {a b c}, Rl a b → Same b c → Rl a c
 ext : ∀ {a b}, Rl a b → Ext a b
theorem Rel.s : Rel Same := ⟨Same.refl, Same.trans, Same.ext⟩
theorem Rel.x : Rel Ext := ⟨Ext.refl, fun h k => h.trans k.ext, fun h => h⟩
structure EngB (b : Bool) (P : Program) (E : Sym) : Prop where
 ar : E.ar = arR
 cmp : E.cmp = cmpR
 scmp : E.scmp = scmpR
 nat : E.nat = Int.ofNat
 len : E.len = ByteArray.size
 quiet : b = true → ∀ {o vals w v K}, quietStop P o vals w v → (∀ w', Same w w' → K v w') → E.stop o vals w K
 det : ∀ {o vals w v K}, (∀ w1, Ext w w1 → ∀ ρ : Operand → Value, (opnds o.op).map ρ = vals → (execOp ρ o).run P w1 = .ok (.value v) w1) → K v w → E.stop o vals w K
abbrev Eng := EngB true
def qreal (P : Program) (Rl : World → World → Prop) : Sym where
 ar := arR
 cmp := cmpR
 scmp := scmpR
 nat := Int.ofNat
 len := ByteArray.size
 stop o vals w K := ∃ v, (∀ w1, Rl w w1 → ∀ ρ : Operand → Value, (opnds o.op).map ρ = vals → Oper.quietUpon P (Rl w) w1 v ((execOp ρ o).run P w1)) ∧ K v w
 loop _ _ _ _ := False
 draw _ _ _ _ _ := False
 cut _ _ _ _ _ := False
 cell _ _ _ _ := False
theorem quietUpon_mono {P : Program} {C C' : World → Prop} {w : World} {v : Value} (h : ∀ w', C w' → C' w') : ∀ {r : Result Next}, Oper.quietUpon P C w v r → Oper.quietUpon P C' w v r := by
 intro r hr
 cases r with
 | ok x w' =>
  cases x <;> simp only [Oper.quietUpon] at hr ⊢
  case value => exact hr
  case skip => exact hr
  case enter => exact ⟨hr.1, hr.2.mono fun e w' he => ⟨he.1, h _ he.2⟩⟩
 | halt x w' => simp only [Oper.quietUpon] at hr
theorem Eng.q (P : Program) {Rl : World → World → Prop} (hR : Rel Rl) : Eng P (qreal P Rl) :=
 ⟨rfl, rfl, rfl, rfl, rfl, fun _ {_ _ w v _} h hk => ⟨v, fun w1 hw ρ hρ => quietUpon_mono (fun _ h => hR.same hw h) (h w1 (hR.ext hw) ρ hρ), hk w (Same.refl w)⟩,
  fun {_ _ w v _} h hk => ⟨v, fun w1 hw ρ hρ => by rw [h w1 (hR.ext hw) ρ hρ]; exact ⟨rfl, rfl⟩, hk⟩⟩
theorem Eng.r (P : Program) (Pn : List PanicEntry → World → Prop) (n : Nat) : Eng P (real P Pn n) :=
 ⟨rfl, rfl, rfl, rfl, rfl, fun _ {o vals w v K} h hk ρ hρ => by
  have := h w (Ext.refl w) ρ hρ
  generalize (execOp ρ o).run P w = r at this
  cases r with
  | ok x w' =>
   cases x <;> simp only [Oper.quietUpon] at this <;> simp only [sat]
   case value => obtain ⟨rfl, rfl⟩ := this; exact hk _ (Same.refl _)
   case skip => obtain ⟨rfl, rfl⟩ := this; exact hk _ (Same.refl _)
   case enter => obtain ⟨rfl, h⟩ := this; exact h.mono fun e w' he => by obtain ⟨rfl, hs⟩ := he; exact hk _ hs
  | halt x w' => simp only [Oper.quietUpon] at this, fun {_ _ w _ _} h hk ρ hρ => by rw [h w (Ext.refl w) ρ hρ]; exact hk⟩
section
variable {P : Program} {Pn : List PanicEntry → World → Prop} {n : Nat}
theorem eOps_quiet {Rl : World → World → Prop} {w : World} {all : List Oper} {K : Fr → World → Prop} {Q : Act → Prop} (hQ : ∀ F a, Kn n F a → K F w → Q a) : ∀ (os : List Oper) (F : Fr) (a : Act), (∀ o ∈ os, ∀ t, o.dst = some t → t < n) → Kn n F a → eOps (qreal P Rl) all os F w K → wpQuiet P all.toArray (Rl w) Q os a
 | [], F, a, _, hk, h => hQ F a hk h
 | o :: os, F, a, hd, hk, h => by
  have hdo : ∀ t, o.dst = some t → t < n := hd o (by simp)
  have hds : ∀ o' ∈ os, ∀ t, o'.dst = some t → t < n := fun o' ho' => hd o' (by simp [ho'])
  have run : ∀ F, Kn n F a → eOp (qreal P Rl) o F w (fun v w => eOps (qreal P Rl) all os (put F o.dst v) w K) → o.quiet P a (Rl w) (wpQuiet P all.toArray (Rl w) Q os) := by
   intro F hk h
   simp only [eOp] at h
   split at h
   ·rename_i x hx
    refine ⟨x, fun w1 _ => ?_, eOps_quiet hQ os _ _ hds (hk.put o.dst hdo x) h⟩
    have e : (pure1 (qreal P Rl) F o.op) = pure1 (real P (fun _ _ => False) n) F o.op := rfl
    rw [e] at hx
    simp only [Oper.quietAt, (pure1_sound hk w1).1 _ hx, Oper.quietUpon, and_self]
   ·rename_i b x y hx
    have e : (pure1 (qreal P Rl) F o.op) = pure1 (real P (fun _ _ => False) n) F o.op := rfl
    rw [e] at hx
    refine ⟨if b = true then x else y, fun w1 _ => ?_, ?_⟩
    ·simp only [Oper.quietAt, (pure1_sound hk w1).2 _ _ _ hx, Oper.quietUpon, and_self]
    ·split at h
     ·rename_i hb; rw [if_pos hb]; exact eOps_quiet hQ os _ _ hds (hk.put o.dst hdo x) h
     ·rename_i hb; rw [if_neg hb]; exact eOps_quiet hQ os _ _ hds (hk.put o.dst hdo y) h
   ·split at h
    ·rename_i vs hvs
     obtain ⟨v, hv, hK⟩ := h
     exact ⟨v, fun w1 hw1 => hv w1 hw1 a.eval (hk.evs hvs), eOps_quiet hQ os _ _ hds (hk.put o.dst hdo v) hK⟩
    ·exact h.elim
  have pass : ∀ F, Kn n F a → eOps (qreal P Rl) all os (put F o.dst undef) w K → wpQuiet P all.toArray (Rl w) Q os (a.put o.dst undef) := fun F hk h => eOps_quiet hQ os _ _ hds (hk.put o.dst hdo undef) h
  simp only [eOps] at h
  unfold wpQuiet
  split at h
  ·rename_i hg
   rw [if_pos (by simp [Region.wanted, hg])]
   exact run F hk h
  ·rename_i j want hg
   split at h
   ·exact h.elim
   ·rename_i s hs
    split at h
    ·rename_i b hv
     have hwt := wanted_of (all := all) hk hg hs hv
     simp only at hwt
     rw [hwt]
     have hk' := hk.lay hv
     split at h
     ·rename_i hb
      subst hb
      split at h
      ·rename_i hwn; subst hwn; simpa using run _ hk' h
      ·rename_i hwn
       have : want = false := by simpa using hwn
       subst this; simpa using pass _ hk' h
     ·rename_i hb
      have : b = false := by simpa using hb
      subst this
      split at h
      ·rename_i hwn; subst hwn; simpa using pass _ hk' h
      ·rename_i hwn
       have : want = false := by simpa using hwn
       subst this; simpa using run _ hk' h
    ·rename_i vs hv
     have hwt := wanted_of (all := all) hk hg hs hv
     simp only at hwt
     rw [hwt]
     split at h
     ·simpa using pass _ hk h
     ·exact h.elim
    ·exact h.elim
theorem draw_r {Rl : World → World → Prop} (hR : Rel Rl) {E : Sym} (hE : E = real P Pn n) {id : Nat} {ops : Array Oper} {F : Fr} {w : World} {K : Exit → Fr → World → Prop} (hm : P.follows .mixedOrders = true) (hB : Region.lexB .any ops = true)
  (h : ∀ E', Eng P E' → E' = qreal P Rl → eOps E' ops.toList ops.toList F w (fun F' _ => ∀ w', Rl w w' → K .normal F' w')) : E.draw id ops F w K := by
 subst hE
 intro hd a hk
 refine wp_region_quiet (C := Rl w) hm hB (hR.same (hR.refl w) (Same.drew w)) ?_
 have := eOps_quiet (Rl := Rl) (n := n) (Q := fun a' => ∀ w', Rl w w' → QK Pn n K .normal a' w') (fun F' a' hk' h' w' hw' => ⟨F', hk', h' w' hw'⟩) ops.toList F a (okDst_ops hd) hk (h _ (Eng.q P hR) rfl)
 simpa using this
theorem draw_q {E : Sym} (hE : E = real P Pn n) {id : Nat} {ops : Array Oper} {F : Fr} {w : World} {K : Exit → Fr → World → Prop} (hm : P.follows .mixedOrders = true) (hB : Region.lexB .any ops = true)
  (h : ∀ E', Eng P E' → eOps E' ops.toList ops.toList F w (fun F' _ => ∀ w', Same w w' → K .normal F' w')) : E.draw id ops F w K := draw_r Rel.s hE hm hB fun E' h1 _ => h E' h1
theorem draw_x {E : Sym} (hE : E = real P Pn n) {id : Nat} {ops : Array Oper} {F : Fr} {w : World} {K : Exit → Fr → World → Prop} (hm : P.follows .mixedOrders = true) (hB : Region.lexB .any ops = true)
  (h : ∀ E', Eng P E' → E' = qreal P Ext → eOps E' ops.toList ops.toList F w (fun F' _ => ∀ w', Ext w w' → K .normal F' w')) : E.draw id ops F w K := draw_r Rel.x hE hm hB h
def hreal (P : Program) : Sym where
 ar := arR
 cmp := cmpR
 scmp := scmpR
 nat := Int.ofNat
 len := ByteArray.size
 stop o vals w K := ∃ v, (∀ w1, Ext w w1 → ∀ ρ : Operand → Value, (opnds o.op).map ρ = vals → (execOp ρ o).run P w1 = .ok (.value v) w1) ∧ K v w
 loop _ _ _ _ := False
 draw _ _ _ _ _ := False
 cut _ _ _ _ _ := False
 cell _ _ _ _ := False
def Sym.dull (E : Sym) : Sym := ⟨E.ar, E.cmp, E.scmp, E.nat, E.len, fun _ _ _ _ => False, fun _ _ _ _ => False, fun _ _ _ _ _ => False, fun _ _ _ _ _ => False, fun _ _ _ _ => False⟩
def ePh1 (E : Sym) (all : List Oper) : List Nat → Fr → World → (Fr → World → Prop) → Prop
 | [], F, w, K => K F w
 | k :: l, F, w, K => match all[k]? with
  | none => False
  | some o => eOps E all [o] F w fun F' w' => ePh1 E all l F' w' K
def ePh2 (E : Sym) (S : World → Prop) (all : List Oper) : List (Nat × Bool) → Fr → World → (Fr → World → Prop) → Prop
 | [], F, w, K => K F w
 | (k, true) :: l, F, w, K => match all[k]? with
  | none => False
  | some o => eOps E.dull all [o] F w fun F' w' => ePh2 E S all l F' w' K
 | (k, false) :: l, F, w, K => match all[k]? with
  | none => False
  | some o => eOps E all [o] F w fun F' w' => S w' ∧ ePh2 E S all l F' w' K
def planB2 (ops : Array Oper) : List (Nat × Bool) → Array Bool → Bool
 | [], listed => Region.ready .any ops listed == []
 | (k, true) :: l, listed => Region.free .any ops listed k && (Region.ready .any ops listed).contains k && planB2 ops l (listed.setIfInBounds k true)
 | (k, false) :: l, listed => Region.ready .any ops listed == [k] && planB2 ops l (listed.setIfInBounds k true)
def planB1 (ops : Array Oper) : List Nat → List (Nat × Bool) → Array Bool → Bool
 | [], l2, listed => planB2 ops l2 listed
 | k :: l, l2, listed => Region.free .any ops listed k && (Region.ready .any ops listed).contains k && planB1 ops l l2 (listed.setIfInBounds k true)
def planB (ops : Array Oper) (l1 : List Nat) (l2 : List (Nat × Bool)) : Bool :=
 Region.noSelect ops && Nat.beq (l1.length + l2.length) ops.size && planB1 ops l1 l2 (Array.replicate ops.size false)
theorem step_yields {E' : Sym} {S : World → Prop} {w : World} (hp : ∀ F op, pure1 E' F op = pure1 (real P (fun _ _ => False) n) F op)
  (hst : ∀ o vals K, E'.stop o vals w K → ∃ v, (∀ w1, S w1 → ∀ ρ : Operand → Value, (opnds o.op).map ρ = vals → (execOp ρ o).run P w1 = .ok (.value v) w1) ∧ K v w)
  {all : List Oper} {o : Oper} (hd : ∀ t, o.dst = some t → t < n) {F : Fr} {a : Act} (hk : Kn n F a) {K : Fr → World → Prop} (h : eOps E' all [o] F w K) :
  ∃ v F', YieldsIf P all.toArray S o v a ∧ Kn n F' (a.put o.dst v) ∧ K F' w := by
 have run : ∀ F, Kn n F a → Region.wanted o (yielded all.toArray a.tmps) = true → eOp E' o F w (fun v w => eOps E' all [] (put F o.dst v) w K) → ∃ v F', YieldsIf P all.toArray S o v a ∧ Kn n F' (a.put o.dst v) ∧ K F' w := by
  intro F hk hw h
  simp only [eOp, eOps] at h
  split at h
  ·rename_i x hx
   rw [hp] at hx
   exact ⟨x, _, .inl ⟨hw, fun w1 _ => (pure1_sound hk w1).1 _ hx⟩, hk.put o.dst hd x, h⟩
  ·rename_i b x y hx
   rw [hp] at hx
   refine ⟨if b = true then x else y, _, .inl ⟨hw, fun w1 _ => (pure1_sound hk w1).2 _ _ _ hx⟩, hk.put o.dst hd _, ?_⟩
   split at h
   ·rename_i hb; rw [if_pos hb]; exact h
   ·rename_i hb; rw [if_neg hb]; exact h
  ·split at h
   ·rename_i vs hvs
    obtain ⟨v, hv, hK⟩ := hst _ _ _ h
    exact ⟨v, _, .inl ⟨hw, fun w1 hw1 => hv w1 hw1 a.eval (hk.evs hvs)⟩, hk.put o.dst hd v, hK⟩
   ·exact h.elim
 have pass : ∀ F, Kn n F a → Region.wanted o (yielded all.toArray a.tmps) = false → K (put F o.dst undef) w → ∃ v F', YieldsIf P all.toArray S o v a ∧ Kn n F' (a.put o.dst v) ∧ K F' w :=
  fun F hk hw h => ⟨undef, _, .inr ⟨hw, rfl⟩, hk.put o.dst hd undef, h⟩
 simp only [eOps] at h
 split at h
 ·rename_i hg
  exact run F hk (by simp [Region.wanted, hg]) h
 ·rename_i j want hg
  split at h
  ·exact h.elim
  ·rename_i s hs
   split at h
   ·rename_i b hv
    have hwt := wanted_of (all := all) hk hg hs hv
    simp only at hwt
    have hk' := hk.lay hv
    split at h
    ·rename_i hb
     subst hb
     split at h
     ·rename_i hwn; subst hwn; exact run _ hk' (by rw [hwt]; rfl) h
     ·rename_i hwn
      have : want = false := by simpa using hwn
      subst this; exact pass _ hk' (by rw [hwt]; rfl) h
    ·rename_i hb
     have : b = false := by simpa using hb
     subst this
     split at h
     ·rename_i hwn; subst hwn; exact pass _ hk' (by rw [hwt]; rfl) h
     ·rename_i hwn
      have : want = false := by simpa using hwn
      subst this; exact run _ hk' (by rw [hwt]; rfl) h
   ·rename_i vs hv
    have hwt := wanted_of (all := all) hk hg hs hv
    simp only at hwt
    split at h
    ·exact pass _ hk hwt h
    ·exact h.elim
   ·exact h.elim
theorem sat_upon {o : Oper} {a : Act} {w : World} {Q : Exit → Act → World → Prop} {K : Value → World → Prop} {K' : Act → World → Prop} (h : sat P Pn K ((execOp a.eval o).run P w)) (hK : ∀ v w, K v w → K' (a.put o.dst v) w) (hP : ∀ c w, Pn c w → Q (.panic c) a w) : o.wp P a w K' Q := by
 unfold Oper.wp
 generalize (execOp a.eval o).run P w = r at h
 cases r with
 | ok x w' =>
  cases x <;> simp only [sat] at h <;> simp only [Oper.upon]
  case value => exact hK _ _ h
  case skip => exact hK _ _ h
  case enter => exact h.mono fun e w' he => by cases e <;> first | exact hK _ _ he | exact hP _ _ he | exact he.elim
 | halt x w' =>
  cases x <;> simp only [sat] at h <;> simp only [Oper.upon]
  case panic => exact hP _ _ h
theorem step_op {all : List Oper} {k : Nat} {o : Oper} (ho : all[k]? = some o) (hd : ∀ t, o.dst = some t → t < n) {F : Fr} {a : Act} {w : World} (hk : Kn n F a) {K : Fr → World → Prop} {K' : Act → World → Prop} {Q : Exit → Act → World → Prop} (hP : ∀ c w, Pn c w → Q (.panic c) a w)
  (hKK : ∀ F' a' w', Kn n F' a' → K F' w' → K' a' w') (h : eOps (real P Pn n) all [o] F w K) : wpOp P all.toArray Q k K' a w := by
 unfold wpOp
 simp only [List.getElem?_toArray, ho]
 have run : ∀ F, Kn n F a → Region.wanted o (yielded all.toArray a.tmps) = true → eOp (real P Pn n) o F w (fun v w => eOps (real P Pn n) all [] (put F o.dst v) w K) → (if Region.wanted o (yielded all.toArray a.tmps) = true then o.wp P a w K' Q ∨ (o.asks P a w ∧ LetsOut Q) else K' (a.put o.dst undef) w) := by
  intro F hk hw h
  rw [if_pos hw]
  exact .inl (sat_upon (eOp_sound hk h) (fun v w' hv => hKK _ _ _ (hk.put o.dst hd v) hv) hP)
 have pass : ∀ F, Kn n F a → Region.wanted o (yielded all.toArray a.tmps) = false → K (put F o.dst undef) w → (if Region.wanted o (yielded all.toArray a.tmps) = true then o.wp P a w K' Q ∨ (o.asks P a w ∧ LetsOut Q) else K' (a.put o.dst undef) w) := by
  intro F hk hw h
  rw [hw]
  exact hKK _ _ _ (hk.put o.dst hd undef) h
 simp only [eOps] at h
 split at h
 ·rename_i hg
  exact run F hk (by simp [Region.wanted, hg]) h
 ·rename_i j want hg
  split at h
  ·exact h.elim
  ·rename_i s hs
   split at h
   ·rename_i b hv
    have hwt := wanted_of (all := all) hk hg hs hv
    simp only at hwt
    have hk' := hk.lay hv
    split at h
    ·rename_i hb
     subst hb
     split at h
     ·rename_i hwn; subst hwn; exact run _ hk' (by rw [hwt]; rfl) h
     ·rename_i hwn
      have : want = false := by simpa using hwn
      subst this; exact pass _ hk' (by rw [hwt]; rfl) h
    ·rename_i hb
     have : b = false := by simpa using hb
     subst this
     split at h
     ·rename_i hwn; subst hwn; exact pass _ hk' (by rw [hwt]; rfl) h
     ·rename_i hwn
      have : want = false := by simpa using hwn
      subst this; exact run _ hk' (by rw [hwt]; rfl) h
   ·rename_i vs hv
    have hwt := wanted_of (all := all) hk hg hs hv
    simp only at hwt
    split at h
    ·exact pass _ hk hwt h
    ·exact h.elim
   ·exact h.elim
theorem panic_put {K : Exit → Fr → World → Prop} {d : Option Tmp} {v : Value} (c : List PanicEntry) (a : Act) (w : World) (h : QK Pn n K (.panic c) (a.put d v) w) : QK Pn n K (.panic c) a w := by
 cases d <;> exact h
theorem ePh2_sound {S : World → Prop} {all : List Oper} (hs : Region.noSelect all.toArray = true) (hd : ∀ o ∈ all, ∀ t, o.dst = some t → t < n) {K : Exit → Fr → World → Prop} : ∀ (l : List (Nat × Bool)) (listed : Array Bool) (F : Fr) (a : Act) (w : World), S w → Kn n F a → planB2 all.toArray l listed = true → ePh2 (real P Pn n) S all l F w (K .normal) → wpAnyH P .any all.toArray (QK Pn n K) S l.length listed a w
 | [], listed, F, a, w, _, hk, hB, h => by
  have hr : Region.ready .any all.toArray listed = [] := by simpa [planB2] using hB
  exact wpAnyH_done hr ⟨F, hk, h⟩ _
 | (k, true) :: l, listed, F, a, w, hS, hk, hB, h => by
  simp only [planB2, Bool.and_eq_true] at hB
  obtain ⟨⟨hf, hr⟩, hB⟩ := hB
  simp only [ePh2] at h
  split at h
  ·exact h.elim
  ·rename_i o ho
   obtain ⟨v, F', hy, hk', h⟩ := step_yields (P := P) (n := n) (S := S) (E' := (real P Pn n).dull) (fun _ _ => rfl) (fun _ _ _ h => h.elim) (hd o (m1_ ho)) hk h
   exact wpAnyH_take (by simpa using ho) hs hf hr panic_put hy hS (ePh2_sound hs hd l _ F' _ w hS hk' hB h)
 | (k, false) :: l, listed, F, a, w, hS, hk, hB, h => by
  simp only [planB2, Bool.and_eq_true] at hB
  obtain ⟨hr, hB⟩ := hB
  have hr : Region.ready .any all.toArray listed = [k] := by simpa using hr
  simp only [ePh2] at h
  split at h
  ·exact h.elim
  ·rename_i o ho
   refine wpAnyH_all hr (by simp) fun i hi => ?_
   obtain rfl : i = k := by simpa using hi
   exact step_op (Pn := Pn) ho (hd o (m1_ ho)) hk (fun c w h => ⟨hk.defers, h⟩) (fun F' a' w' hk' ⟨h1, h2⟩ => ⟨h1, ePh2_sound hs hd l _ F' a' w' h1 hk' hB h2⟩) h
theorem ePh1_sound {S : World → Prop} {w : World} (hSE : ∀ w1, S w1 → Ext w w1) {all : List Oper} (hs : Region.noSelect all.toArray = true) (hd : ∀ o ∈ all, ∀ t, o.dst = some t → t < n) {K : Exit → Fr → World → Prop} {w0 : World} (hS : S w0) (l2 : List (Nat × Bool)) (K1 : Fr → World → Prop) : ∀ (l : List Nat) (listed : Array Bool) (F : Fr) (a : Act), Kn n F a → planB1 all.toArray l l2 listed = true → ePh1 (hreal P) all l F w K1 →
  (∀ F a listed, Kn n F a → planB2 all.toArray l2 listed = true → K1 F w → wpAnyH P .any all.toArray (QK Pn n K) S l2.length listed a w0) → wpAnyH P .any all.toArray (QK Pn n K) S (l.length + l2.length) listed a w0
 | [], listed, F, a, hk, hB, h, h2 => by simpa using h2 F a listed hk hB h
 | k :: l, listed, F, a, hk, hB, h, h2 => by
  simp only [planB1, Bool.and_eq_true] at hB
  obtain ⟨⟨hf, hr⟩, hB⟩ := hB
  simp only [ePh1] at h
  split at h
  ·exact h.elim
  ·rename_i o ho
   obtain ⟨v, F', hy, hk', h⟩ := step_yields (P := P) (n := n) (S := S) (E' := hreal P) (fun _ _ => rfl) (fun _ _ _ ⟨v, h1, h2⟩ => ⟨v, fun w1 hw1 => h1 w1 (hSE w1 hw1), h2⟩) (hd o (m1_ ho)) hk h
   have := wpAnyH_take (by simpa using ho) hs hf hr panic_put hy hS (ePh1_sound hSE hs hd hS l2 K1 l _ F' _ hk' hB h h2)
   simpa [Nat.add_right_comm] using this
theorem Eng.h (P : Program) : EngB false P (hreal P) :=
 ⟨rfl, rfl, rfl, rfl, rfl, fun hf => (by cases hf), fun {_ _ _ v _} h hk => ⟨v, h, hk⟩⟩
theorem draw_h (l1 : List Nat) (l2 : List (Nat × Bool)) {E : Sym} (hE : E = real P Pn n) {id : Nat} {ops : Array Oper} {F : Fr} {w : World} {K : Exit → Fr → World → Prop} (hm : P.follows .mixedOrders = true) (hB : planB ops l1 l2 = true)
  (h : ∀ E', EngB false P E' → ∀ w0, Same w w0 → ∀ S : World → Prop, (∀ w', Ext w0 w' → S w') → ePh1 E' ops.toList l1 F w0 (fun F' w' => ePh2 E S ops.toList l2 F' w' (K .normal))) : E.draw id ops F w K := by
 subst hE
 intro hd a hk
 simp only [planB, Bool.and_eq_true, Nat.beq_eq] at hB
 obtain ⟨⟨hs, hl⟩, hB⟩ := hB
 have hs' : Region.noSelect ops.toList.toArray = true := by simpa using hs
 refine wp_region_held (S := Ext { w with drawn := w.drawn + 1 }) hm ?_
 have := ePh1_sound (Pn := Pn) (K := K) (n := n) (S := Ext { w with drawn := w.drawn + 1 }) (w := { w with drawn := w.drawn + 1 }) (fun _ h => h) hs' (okDst_ops hd) (Ext.refl _) l2 _ l1 (Array.replicate ops.size false) F a hk (by simpa using hB) (h (hreal P) (Eng.h P) _ (Same.drew w) _ (fun _ h => h))
  (fun F a listed hk hB h => ePh2_sound hs' (okDst_ops hd) l2 listed F a _ (Ext.refl _) hk hB h)
 rw [hl] at this
 simpa using this
def Fits : Fr → Fr → Prop
 | [], _ => True
 | (k, v) :: r, F => lk F k = some v ∧ Fits r F
theorem Fits.lk : ∀ {G F : Fr}, Fits G F → ∀ {k v}, lk G k = some v → Eng.lk F k = some v
 | [], _, _, _, _, hk => by simp [Eng.lk] at hk
 | (j, u) :: r, F, h, k, v, hk => by
  simp only [Eng.lk] at hk
  split at hk
  ·rename_i e; subst e; cases hk; exact h.1
  ·exact Fits.lk h.2 hk
theorem Kn.sub {G F : Fr} {a : Act} (hk : Kn n F a) (h : Fits G F) : Kn n G a := ⟨hk.size, hk.defers, fun k v hv => hk.get k v (h.lk hv)⟩
theorem cut_rule (cs cs' : List Nat) {E : Sym} (hE : E = real P Pn n) {x y : Code} {F : Fr} {w : World} {K : Exit → Fr → World → Prop} {S : Type} (I : S → World → Prop) (G : S → Fr)
  (h1 : ∀ I' : S → World → Prop, (∀ s w, I s w → I' s w) → eCode E cs x F w fun e F' w' => match e with
   | .normal => ∃ s, Fits (G s) F' ∧ I' s w'
   | e => K e F' w')
  (h2 : ∀ s w, I s w → eCode E cs' y (G s) w K) : E.cut x y F w K := by
 subst hE
 intro hx hy a hk
 refine wp_seq (Code.wp_mono (fun e a' w' hq => ?_) (eCode_sound x hx hk (h1 I fun _ _ h => h)))
 cases e with
 | normal => obtain ⟨F', hk', s, hf, hi⟩ := hq; exact eCode_sound y hy (hk'.sub hf) (h2 s w' hi)
 | panic c => exact hq
 | outgrown => exact hq.elim
 | exit id => exact hq
 | goto l => exact hq
 | ret => exact hq
theorem draw_c {E : Sym} (hE : E = real P Pn n) {id : Nat} {ops : Array Oper} {F : Fr} {w : World} {K : Exit → Fr → World → Prop} (hm : P.follows .mixedOrders = true) (hB : Region.lexB .any ops = true) {S : Type} (I : S → Prop) (G : S → Fr)
  (h : ∀ E', Eng P E' → ∀ I' : S → Prop, (∀ s, I s → I' s) → eOps E' ops.toList ops.toList F w (fun F' _ => ∃ s, Fits (G s) F' ∧ I' s)) (hk : ∀ s w', I s → Same w w' → K .normal (G s) w') : E.draw id ops F w K := by
 subst hE
 intro hd a hka
 refine wp_region_quiet (C := Same w) hm hB (Same.drew w) ?_
 have := eOps_quiet (Rl := Same) (n := n) (K := fun F' _ => ∃ s, Fits (G s) F' ∧ I s) (Q := fun a' => ∀ w', Same w w' → QK Pn n K .normal a' w') (fun F' a' hk' ⟨s, hf, hi⟩ w' hw' => ⟨G s, hk'.sub hf, hk s w' hi hw'⟩) ops.toList F a (okDst_ops hd) hka (h _ (Eng.q P Rel.s) I fun _ h => h)
 simpa using this
theorem loop_rulec (cs : List Nat) {E : Sym} (hE : E = real P Pn n) {c : Code} {F : Fr} {w : World} {K : Exit → Fr → World → Prop} {S : Type} (I : S → World → Prop) (G : S → Fr) (μ : S → Nat) (s : S)
  (hF : Fits (G s) F) (h0 : I s w)
  (round : ∀ I' : S → World → Prop, (∀ s w, I s w → I' s w) → ∀ s w, I s w → eCode E cs c (G s) w fun e F' w' => match e with
   | .normal => ∃ s', Fits (G s') F' ∧ I' s' w' ∧ μ s' < μ s
   | e => K e F' w') : E.loop c F w K := by
 subst hE
 intro hd a hk
 have key : ∀ m a w, (∃ s, Kn n (G s) a ∧ I s w ∧ μ s = m) → ∀ (b : Frame) (k : List Item) (cs : List Frame),
   ∃ e a' w', QK Pn n K e a' w' ∧ Arrives P (lone (b.at a (.code c :: .inLoop c :: k)) cs w) b k cs e a' w' := by
  intro m
  induction m using Nat.strongRecOn with
  | _ m ih =>
   rintro a w ⟨s, hk, hI, rfl⟩ b k cs
   obtain ⟨e, a₁, w₁, hq, harr⟩ := eCode_sound c hd hk (round I (fun _ _ h => h) s w hI) b (.inLoop c :: k) cs
   cases e with
   | normal =>
    obtain ⟨F', hk', s', hsub, hI', hlt⟩ := hq
    obtain ⟨e₂, a₂, w₂, hq₂, harr₂⟩ := ih (μ s') hlt a₁ w₁ ⟨s', hk'.sub hsub, hI', rfl⟩ b k cs
    exact ⟨e₂, a₂, w₂, hq₂, .of_steps (Steps.trans harr (.one step_inLoop)) harr₂⟩
   | exit id => exact ⟨.exit id, a₁, w₁, hq, .pass (x := .inLoop c) rfl (fun _ _ => .inl (by simp)) harr⟩
   | goto l => exact ⟨.goto l, a₁, w₁, hq, .pass (x := .inLoop c) rfl (fun _ _ => .inl (by simp)) harr⟩
   | ret => exact ⟨.ret, a₁, w₁, hq, .pass (x := .inLoop c) rfl (fun _ _ => .inl (by simp)) harr⟩
   | panic ch => exact ⟨.panic ch, a₁, w₁, hq, .pass (x := .inLoop c) rfl (fun _ _ => .inl (by simp)) harr⟩
   | outgrown => exact hq.elim
 intro b k cs
 obtain ⟨e, a', w', hq, harr⟩ := key _ a w ⟨s, hk.sub hF, h0, rfl⟩ b k cs
 exact ⟨e, a', w', hq, .of_steps (.one step_loop) harr⟩
theorem loop_rule {E : Sym} (hE : E = real P Pn n) {c : Code} {F : Fr} {w : World} {K : Exit → Fr → World → Prop} {S : Type} (I : S → World → Prop) (G : S → Fr) (μ : S → Nat) (s : S)
  (hF : Fits (G s) F) (h0 : I s w)
  (round : ∀ I' : S → World → Prop, (∀ s w, I s w → I' s w) → ∀ s w, I s w → eCode E [] c (G s) w fun e F' w' => match e with
   | .normal => ∃ s', Fits (G s') F' ∧ I' s' w' ∧ μ s' < μ s
   | e => K e F' w') : E.loop c F w K := loop_rulec [] hE I G μ s hF h0 round
end
def entF (fn : Func) : Bool := fn.body.isSome && !(fn.name == "runtime.NumGoroutine")
theorem callFunc_run {P : Program} {f : FuncId} {fn : Func} (hf : P.funcs[f]? = some fn) (he : entF fn = true) (args : Array Value) (w : World) : (callFunc f args).run P w = .ok (.enter f args) w := by
 simp only [entF, Bool.and_eq_true, Bool.not_eq_true'] at he
 obtain ⟨h1, h2⟩ := he
 have h3 : ¬ fn.body = none := by intro h; rw [h] at h1; cases h1
 have h4 : ¬ fn.name = "runtime.NumGoroutine" := by simpa using h2
 simp [callFunc, hf, h3, h4]
def QF (P : Program) (f : FuncId) (args : List Value) (w : World) (v : Value) : Prop :=
 (∃ fn, P.funcs[f]? = some fn ∧ entF fn = true) ∧ ∀ w1, Ext w w1 → Calls P f args.toArray w1 fun e w' => e = .returned v ∧ Same w1 w'
def VF (P : Program) (f : FuncId) (args : List Value) (w : World) (v : Value) : Prop :=
 (∃ fn, P.funcs[f]? = some fn ∧ entF fn = true) ∧ ∀ w1, Ext w w1 → Calls P f args.toArray w1 fun e w' => e = .returned v ∧ Ext w1 w'
def FC (P : Program) (f : FuncId) (args : List Value) (w : World) (R : Value → World → Prop) : Prop :=
 (∃ fn, P.funcs[f]? = some fn ∧ entF fn = true) ∧ Calls P f args.toArray w fun e w' => ∃ v, e = .returned v ∧ Ext w w' ∧ R v w'
section
variable {P : Program} {Pn : List PanicEntry → World → Prop} {n : Nat}
theorem QF.intro {cs : List Nat} {f : FuncId} {fn : Func} {args : List Value} {w : World} {v : Value} (hf : P.funcs[f]? = some fn) (he : entF fn = true)
  (h : ∀ w0, Ext w w0 → ∀ w1, Same w0 w1 → ∀ E R, Eng P E → E = real P (fun _ _ => False) fn.ntmps → R = (fun v' w' => v' = v ∧ Same w0 w') → eBody E cs fn args w1 R) : QF P f args w v :=
 ⟨⟨fn, hf, he⟩, fun w1 hs => (body_calls cs hf (fun E R hE hR => h w1 hs w1 (Same.refl w1) E R (hE ▸ Eng.r P _ _) hE hR)).mono fun e w' he => by
  cases e with
  | returned v' => obtain ⟨rfl, h2⟩ := he; exact ⟨rfl, h2⟩
  | panicked c => exact he.elim
  | outgrown => exact he.elim⟩
theorem FC.intro {cs : List Nat} {f : FuncId} {fn : Func} {args : List Value} {w : World} {R : Value → World → Prop} (hf : P.funcs[f]? = some fn) (he : entF fn = true)
  (h : ∀ E R', Eng P E → E = real P (fun _ _ => False) fn.ntmps → R' = (fun v w' => Ext w w' ∧ R v w') → eBody E cs fn args w R') : FC P f args w R :=
 ⟨⟨fn, hf, he⟩, (body_calls cs hf (fun E R hE hR => h E R (hE ▸ Eng.r P _ _) hE hR)).mono fun e w' he => by
  cases e with
  | returned v' => exact ⟨v', rfl, he⟩
  | panicked c => exact he.elim
  | outgrown => exact he.elim⟩
def QB (P : Program) (f : FuncId) (args : List Value) (w : World) (p : Prop) : Prop := ∀ v : Bool, (v = true ↔ p) → QF P f args w (.bool v)
theorem QB.intro {cs : List Nat} {f : FuncId} {fn : Func} {args : List Value} {w : World} {p : Prop} (hf : P.funcs[f]? = some fn) (he : entF fn = true)
  (h : ∀ w0, Ext w w0 → ∀ w1, Same w0 w1 → ∀ E R, Eng P E → E = real P (fun _ _ => False) fn.ntmps → (∀ v : Bool, ∀ w', Same w0 w' → (v = true ↔ p) → R (.bool v) w') → eBody E cs fn args w1 R) : QB P f args w p :=
 fun v hv => QF.intro hf he fun w0 hx w1 hs E R hE hr hR => h w0 hx w1 hs E R hE hr fun u w' hs' hu => by
  have : u = v := by rw [Bool.eq_iff_iff, hu, hv]
  subst this; rw [hR]; exact ⟨rfl, hs'⟩
theorem FC.mono {f : FuncId} {args : List Value} {w : World} {R R' : Value → World → Prop} (h : FC P f args w R) (hr : ∀ v w', Ext w w' → R v w' → R' v w') : FC P f args w R' :=
 ⟨h.1, h.2.mono fun _ _ ⟨v, he, hx, hR⟩ => ⟨v, he, hx, hr _ _ hx hR⟩⟩
theorem QF.row {f : FuncId} {args : List Value} {w : World} {v : Value} (h : QF P f args w v) : Calls P f args.toArray w fun e w' => e = .returned v ∧ RowKit.Below w.heap.size w w' :=
 (h.2 w (Ext.refl w)).mono fun _ _ ⟨he, hs⟩ => ⟨he, hs.ext⟩
def Law (P : Program) (f : FuncId) (args : List Value) (w : World) : Prop := FC P f args w fun v _ => v = .bool true
theorem Law.row {f : FuncId} {args : List Value} {w : World} (h : Law P f args w) : Calls P f args.toArray w fun e w' => e = .returned (.bool true) ∧ RowKit.Below w.heap.size w w' :=
 Calls.mono h.2 fun _ _ ⟨_, he, hx, hv⟩ => ⟨by rw [he, hv], hx⟩
theorem resolve_value {ρ : Operand → Value} {fo : Operand} {ao : Array Operand} {at_ : Array TypeId} {f : FuncId} {fst cap : Array Value} {args : List Value} (hv : (fo :: ao.toList).map ρ = .func (.func f) fst cap :: args) (ty : TypeId) (w : World) :
  (resolve ρ ⟨.value fo, ao, at_⟩ ty).run P w = .ok { target := .fn (.func f) cap, args := fst ++ args.toArray } w := by
 simp only [b2_, b1_] at hv
 obtain ⟨h1, h2⟩ := hv
 have h3 : ao.map ρ = args.toArray := by rw [← h2, ← Array.toList_map, Array.toArray_toList]
 simp [resolve, Deferred.ofValue, h1, h3]
theorem run_call {ρ : Operand → Value} {d : Option Tmp} {fo : Operand} {ao : Array Operand} {at_ : Array TypeId} {ty : TypeId} {pos : String} {aft : Array Edge} {g : Option (Nat × Bool)} {f : FuncId} {fst cap : Array Value} {args l : List Value} {fn : Func}
  (hf : P.funcs[f]? = some fn) (he : entF fn = true) (hl : fst.toList ++ args ++ cap.toList = l) (hv : (opnds (.call ⟨.value fo, ao, at_⟩)).map ρ = .func (.func f) fst cap :: args) (w : World) :
  (execOp ρ ⟨d, .call ⟨.value fo, ao, at_⟩, ty, pos, aft, g⟩).run P w = .ok (.enter f l.toArray) w := by
 subst hl
 have h1 := resolve_value (P := P) (at_ := at_) (fo := fo) (ao := ao) (by simpa [opnds] using hv) ty w
 have e : ∀ x y : Array Value, ∀ l : List Value, (x ++ l.toArray) ++ y = (x.toList ++ l ++ y.toList).toArray := by intro x y l; simp
 simp only [execOp, Sem.run_bind, h1, Result.andThen_ok, invoke, callFunc_run hf he, e]
theorem st_q {E : Sym} (hE : Eng P E) {f : FuncId} {fst cap : Array Value} {args l : List Value} {w : World} {v : Value} {K : Value → World → Prop} {d : Option Tmp} {fo : Operand} {ao : Array Operand} {at_ : Array TypeId} {ty : TypeId} {pos : String} {aft : Array Edge} {g : Option (Nat × Bool)}
  (h : QF P f l w v) (hk : ∀ w', Same w w' → K v w') (hl : fst.toList ++ args ++ cap.toList = l := by rfl) : E.stop ⟨d, .call ⟨.value fo, ao, at_⟩, ty, pos, aft, g⟩ (.func (.func f) fst cap :: args) w K := by
 obtain ⟨⟨fn, hf, he⟩, hc⟩ := h
 refine hE.quiet rfl (v := v) (fun w1 hs ρ hρ => ?_) hk
 rw [run_call hf he hl hρ]
 exact ⟨rfl, hc w1 hs⟩
theorem st_qb {E : Sym} (hE : Eng P E) {f : FuncId} {fst cap : Array Value} {args l : List Value} {w : World} {p : Prop} {K : Value → World → Prop} {d : Option Tmp} {fo : Operand} {ao : Array Operand} {at_ : Array TypeId} {ty : TypeId} {pos : String} {aft : Array Edge} {g : Option (Nat × Bool)}
  (h : QB P f l w p) (hk : ∀ v : Bool, (v = true ↔ p) → ∀ w', Same w w' → K (.bool v) w') (hl : fst.toList ++ args ++ cap.toList = l := by rfl) : E.stop ⟨d, .call ⟨.value fo, ao, at_⟩, ty, pos, aft, g⟩ (.func (.func f) fst cap :: args) w K := by
 classical
 exact st_q hE (h (decide p) (by simp)) (hk _ (by simp)) hl
theorem st_qi {E : Sym} (hE : Eng P E) {f : FuncId} {fst cap : Array Value} {args l : List Value} {w : World} {k : IntKind} {z : Int} {K : Value → World → Prop} {d : Option Tmp} {fo : Operand} {ao : Array Operand} {at_ : Array TypeId} {ty : TypeId} {pos : String} {aft : Array Edge} {g : Option (Nat × Bool)}
  (h : QF P f l w (.int k z)) (hk : ∀ x : Int, x = z → ∀ w', Same w w' → K (.int k x) w') (hl : fst.toList ++ args ++ cap.toList = l := by rfl) : E.stop ⟨d, .call ⟨.value fo, ao, at_⟩, ty, pos, aft, g⟩ (.func (.func f) fst cap :: args) w K := st_q hE h (hk _ rfl) hl
theorem VF.intro {cs : List Nat} {f : FuncId} {fn : Func} {args : List Value} {w : World} {v : Value} (hf : P.funcs[f]? = some fn) (he : entF fn = true)
  (h : ∀ w0, Ext w w0 → ∀ E R, Eng P E → E = real P (fun _ _ => False) fn.ntmps → R = (fun v' w' => v' = v ∧ Ext w0 w') → eBody E cs fn args w0 R) : VF P f args w v :=
 ⟨⟨fn, hf, he⟩, fun w1 hx => (body_calls cs hf (fun E R hE hR => h w1 hx E R (hE ▸ Eng.r P _ _) hE hR)).mono fun e w' he => by
  cases e with
  | returned v' => obtain ⟨rfl, h2⟩ := he; exact ⟨rfl, h2⟩
  | panicked c => exact he.elim
  | outgrown => exact he.elim⟩
def GC (P : Program) (f : FuncId) (args : List Value) (w : World) (R : Value → World → Prop) : Prop :=
 (∃ fn, P.funcs[f]? = some fn ∧ entF fn = true) ∧ Calls P f args.toArray w fun e w' => ∃ v, e = .returned v ∧ R v w'
theorem GC.intro {cs : List Nat} {f : FuncId} {fn : Func} {args : List Value} {w : World} {R : Value → World → Prop} (hf : P.funcs[f]? = some fn) (he : entF fn = true)
  (h : ∀ E R', Eng P E → E = real P (fun _ _ => False) fn.ntmps → R' = R → eBody E cs fn args w R') : GC P f args w R :=
 ⟨⟨fn, hf, he⟩, (body_calls cs hf (fun E R hE hR => h E R (hE ▸ Eng.r P _ _) hE hR)).mono fun e w' he => by
  cases e with
  | returned v' => exact ⟨v', rfl, he⟩
  | panicked c => exact he.elim
  | outgrown => exact he.elim⟩
theorem st_g {E : Sym} (hE : E = real P Pn n) {f : FuncId} {fst cap : Array Value} {args l : List Value} {w : World} {R : Value → World → Prop} {K : Value → World → Prop} {d : Option Tmp} {fo : Operand} {ao : Array Operand} {at_ : Array TypeId} {ty : TypeId} {pos : String} {aft : Array Edge} {g : Option (Nat × Bool)}
  (h : GC P f l w R) (hk : ∀ v w', R v w' → K v w') (hl : fst.toList ++ args ++ cap.toList = l := by rfl) : E.stop ⟨d, .call ⟨.value fo, ao, at_⟩, ty, pos, aft, g⟩ (.func (.func f) fst cap :: args) w K := by
 obtain ⟨⟨fn, hf, he⟩, hc⟩ := h
 subst hE
 intro ρ hρ
 rw [run_call hf he hl hρ]
 exact hc.mono fun e w' ⟨v, he, hr⟩ => by subst he; exact hk _ _ hr
theorem st_v {E : Sym} (hE : E = real P Pn n) {f : FuncId} {fst cap : Array Value} {args l : List Value} {w : World} {v : Value} {K : Value → World → Prop} {d : Option Tmp} {fo : Operand} {ao : Array Operand} {at_ : Array TypeId} {ty : TypeId} {pos : String} {aft : Array Edge} {g : Option (Nat × Bool)}
  (h : VF P f l w v) (hk : ∀ w', Ext w w' → K v w') (hl : fst.toList ++ args ++ cap.toList = l := by rfl) : E.stop ⟨d, .call ⟨.value fo, ao, at_⟩, ty, pos, aft, g⟩ (.func (.func f) fst cap :: args) w K := by
 obtain ⟨⟨fn, hf, he⟩, hc⟩ := h
 subst hE
 intro ρ hρ
 rw [run_call hf he hl hρ]
 exact (hc w (Ext.refl w)).mono fun e w' ⟨he, hr⟩ => by subst he; exact hk _ hr
theorem st_vx {E : Sym} (hE : E = qreal P Ext) {f : FuncId} {fst cap : Array Value} {args l : List Value} {w : World} {v : Value} {K : Value → World → Prop} {d : Option Tmp} {fo : Operand} {ao : Array Operand} {at_ : Array TypeId} {ty : TypeId} {pos : String} {aft : Array Edge} {g : Option (Nat × Bool)}
  (h : VF P f l w v) (hk : K v w) (hl : fst.toList ++ args ++ cap.toList = l := by rfl) : E.stop ⟨d, .call ⟨.value fo, ao, at_⟩, ty, pos, aft, g⟩ (.func (.func f) fst cap :: args) w K := by
 obtain ⟨⟨fn, hf, he⟩, hc⟩ := h
 subst hE
 refine ⟨v, fun w1 hs ρ hρ => ?_, hk⟩
 rw [run_call hf he hl hρ]
 exact ⟨rfl, (hc w1 hs).mono fun e w' he => ⟨he.1, hs.trans he.2⟩⟩
theorem st_f {E : Sym} (hE : E = real P Pn n) {f : FuncId} {fst cap : Array Value} {args l : List Value} {w : World} {R : Value → World → Prop} {K : Value → World → Prop} {d : Option Tmp} {fo : Operand} {ao : Array Operand} {at_ : Array TypeId} {ty : TypeId} {pos : String} {aft : Array Edge} {g : Option (Nat × Bool)}
  (h : FC P f l w R) (hk : ∀ v w', Ext w w' → R v w' → K v w') (hl : fst.toList ++ args ++ cap.toList = l := by rfl) : E.stop ⟨d, .call ⟨.value fo, ao, at_⟩, ty, pos, aft, g⟩ (.func (.func f) fst cap :: args) w K := by
 obtain ⟨⟨fn, hf, he⟩, hc⟩ := h
 subst hE
 intro ρ hρ
 rw [run_call hf he hl hρ]
 exact hc.mono fun e w' ⟨v, he, hx, hr⟩ => by subst he; exact hk _ _ hx hr
end
theorem br {c : Prop} [Decidable c] {A B : Prop} (ha : c → A) (hb : ¬ c → B) : if c then A else B := by
 by_cases h : c
 ·rw [if_pos h]; exact ha h
 ·rw [if_neg h]; exact hb h
theorem brn {b : Bool} {A B : Prop} (ha : b = true → B) (hb : ¬ b = true → A) : if (if b = true then false else true) = true then A else B := by
 cases b
 ·exact hb (by simp)
 ·exact ha rfl
structure Slc (P : Program) (t e : TypeId) (z : Value) (k b : Nat) : Prop where
 u : P.underlying t = some (.slice e)
 i : (P.info? e).map (fun i => (i.zero, i.size, i.bytes)) = some (some z, k, b)
theorem Slc.info {P : Program} {t e : TypeId} {z : Value} {k b : Nat} (h : Slc P t e z k b) : ∃ i, P.info? e = some i ∧ i.zero = some z ∧ i.size = k ∧ i.bytes = b := by
 obtain ⟨i, h1, h2⟩ := Option.map_eq_some_iff.1 h.i
 simp only [Prod.mk.injEq] at h2
 exact ⟨i, h1, h2.1, h2.2.1, h2.2.2⟩
structure Cel (P : Program) (t : TypeId) : Prop where
 a : ∃ d, P.underlying t = some d ∧ (∀ fs, d ≠ .struct fs) ∧ ∀ n e, d ≠ .array n e
theorem wrap_in {z : Int} (h0 : -9223372036854775808 ≤ z) (h1 : z ≤ 9223372036854775807) : IntKind.i64.wrap z = z := by rw [IntKind.wrap_i64]; omega
theorem inc {P : Program} {E : Sym} {bq : Bool} (hE : EngB bq P E) {k : Nat} (h : k < 9223372036854775807) : E.ar .add .i64 (E.nat k) 1 = E.nat (k + 1) := by
 simp only [hE.ar, arR, hE.nat, Int.ofNat_eq_natCast]
 rw [wrap_in (by omega) (by omega)]
 simp
def Cells (w : World) (A : Option Addr) (vs : List Value) : Prop :=
 (0 < vs.length → ∃ a, A = some a) ∧ ∀ a, A = some a → ∀ j v, vs[j]? = some v → w.cell? (a.add j) = some v
theorem Cells.ext {w w' : World} {A : Option Addr} {vs : List Value} (h : Cells w A vs) (hx : Ext w w') : Cells w' A vs :=
 ⟨h.1, fun a ha j v hv => hx.cell (h.2 a ha j v hv)⟩
theorem Cells.same {w w' : World} {A : Option Addr} {vs : List Value} (h : Cells w A vs) (hx : Same w w') : Cells w' A vs := h.ext hx.ext
theorem Cells.at {w : World} {A : Option Addr} {vs : List Value} (h : Cells w A vs) {i : Nat} (hi : i < vs.length) : ∃ a, A = some a ∧ w.cell? (a.add i) = some vs[i] := by
 obtain ⟨a, ha⟩ := h.1 (by omega)
 exact ⟨a, ha, h.2 a ha i _ (by simp [hi])⟩
section
variable {P : Program} {Pn : List PanicEntry → World → Prop} {n : Nat}
theorem map_of {ao : Array Operand} {ρ : Operand → Value} {l : List Value} (h : ao.toList.map ρ = l) : ao.map ρ = l.toArray := by
 rw [← Array.toArray_toList (xs := ao.map ρ), Array.toList_map, h]
section
variable {E : Sym} {w : World} {K : Value → World → Prop} {d : Option Tmp} {ty : TypeId} {pos : String} {aft : Array Edge} {g : Option (Nat × Bool)}
theorem st_len {bq : Bool} (hE : EngB bq P E) {t e : TypeId} {z : Value} {k b : Nat} (ht : Slc P t e z k b) {A : Option Addr} {m c : Nat} {ao : Array Operand}
  (hk : ∀ x : Int, x = m → K (.int .i64 x) w) : E.stop ⟨d, .call ⟨.builtin .len, ao, #[t]⟩, ty, pos, aft, g⟩ [.slice A m c] w K := by
 refine hE.det (v := .int .i64 (m : Int)) (fun w1 hs ρ hρ => ?_) (hk _ rfl)
 have h3 := map_of (ao := ao) hρ
 simp [execOp, resolve, invoke, builtin, h3, Builtin.len_, underlying, ht.u, goInt]
theorem st_slen {bq : Bool} (hE : EngB bq P E) {t : TypeId} (ht : P.underlying t = some .string) {s : ByteArray} {ao : Array Operand}
  (hk : ∀ x : Int, x = s.size → K (.int .i64 x) w) : E.stop ⟨d, .call ⟨.builtin .len, ao, #[t]⟩, ty, pos, aft, g⟩ [.string s] w K := by
 refine hE.det (v := .int .i64 (s.size : Int)) (fun w1 hs ρ hρ => ?_) (hk _ rfl)
 have h3 := map_of (ao := ao) hρ
 simp [execOp, resolve, invoke, builtin, h3, Builtin.len_, underlying, ht, goInt]
theorem st_idx {bq : Bool} (hE : EngB bq P E) {t e : TypeId} {z : Value} {k b : Nat} (ht : Slc P t e z k b) {a : Addr} {A : Option Addr} {m c : Nat} {ik : IntKind} {i : Int} {x y : Operand}
  (hA : A = some a) (h0 : 0 ≤ i) (h1 : i < m) (hk : ∀ p, p = a.add (i.toNat * k) → K (.pointer (some p)) w) : E.stop ⟨d, .indexAddr t x y, ty, pos, aft, g⟩ [.slice A m c, .int ik i] w K := by
 obtain ⟨i0, hi, _, hs, _⟩ := ht.info
 refine hE.det (v := .pointer (some (a.add (i.toNat * k)))) (fun w1 _ ρ hρ => ?_) (hk _ rfl)
 simp only [opnds, b2_, b3_, b1_, and_true] at hρ
 subst hA
 simp [execOp, hρ.1, hρ.2, Instr.indexAt, asIntOf, underlying, ht.u, h0, h1, sizeOf, typeInfo, hi, hs]
theorem st_load {bq : Bool} (hE : EngB bq P E) {t : TypeId} (ht : Cel P t) {p : Addr} {v : Value} {x : Operand} (hc : w.cell? p = some v) (hk : K v w) : E.stop ⟨d, .load t x, ty, pos, aft, g⟩ [.pointer (some p)] w K := by
 obtain ⟨d0, hu, h1, h2⟩ := ht.a
 refine hE.det (v := v) (fun w1 hs ρ hρ => ?_) hk
 simp only [opnds, b2_, b3_, b1_, and_true] at hρ
 have hc' : w1.cell? p = some v := hs.cell hc
 have : (isAgg t).run P w1 = .ok false w1 := by
  simp only [isAgg, underlying, Sem.run_bind, run_program, Result.andThen_ok, hu, Sem.run_pure]
 simp [execOp, hρ, Instr.loadAt, Instr.sureAddr, loadVar, this, hc']
theorem st_elem {bq : Bool} (hE : EngB bq P E) {t e : TypeId} {z : Value} {b : Nat} (ht : Slc P t e z 1 b) {A : Option Addr} {c : Nat} {ik : IntKind} {i : Int} {x y : Operand} {vs : List Value} (h : Cells w A vs) {m : Nat} (hm : m = vs.length)
  (h0 : 0 ≤ i) (h1 : i < m) (hk : ∀ p v, vs[i.toNat]? = some v → w.cell? p = some v → K (.pointer (some p)) w) : E.stop ⟨d, .indexAddr t x y, ty, pos, aft, g⟩ [.slice A m c, .int ik i] w K := by
 have hi : i.toNat < vs.length := by omega
 obtain ⟨a, hA, hc⟩ := h.at hi
 exact st_idx hE ht hA h0 h1 (fun p hp => hk p vs[i.toNat] (g2_ hi) (by subst hp; simpa using hc))
theorem run_equalIn_bool (w : World) {t : TypeId} (ht : P.underlying t = some .bool) (k : Nat) (a b : Bool) : (Op.equalIn (k + 1) t (.bool a) (.bool b)).run P w = .ok (a == b) w := by
 simp [Op.equalIn, run_underlying ht]
theorem run_equal_bool (w : World) {t : TypeId} (ht : P.underlying t = some .bool) (a b : Bool) : (Op.equal t (.bool a) (.bool b)).run P w = .ok (a == b) w := run_equalIn_bool w ht 9999 a b
theorem st_bne {bq : Bool} (hE : EngB bq P E) {t t' : TypeId} (ht : P.underlying t = some .bool) {a b : Bool} {x y : Operand} (hk : ∀ v : Bool, (v = true ↔ ¬ (a = true ↔ b = true)) → K (.bool v) w) : E.stop ⟨d, .binOp .neq t x y t', ty, pos, aft, g⟩ [.bool a, .bool b] w K := by
 refine hE.det (v := .bool (!(a == b))) (fun w1 _ ρ hρ => ?_) (hk _ (by cases a <;> cases b <;> simp))
 simp only [opnds, b2_, b3_, b1_, and_true] at hρ
 have h1 := run_equal_bool (P := P) w1 ht a b
 simp only [execOp, hρ.1, hρ.2, eqGuard, binOp, Sem.run_bind]
 simp [h1]
theorem st_beq {bq : Bool} (hE : EngB bq P E) {t t' : TypeId} (ht : P.underlying t = some .bool) {a b : Bool} {x y : Operand} (hk : ∀ v : Bool, (v = true ↔ (a = true ↔ b = true)) → K (.bool v) w) : E.stop ⟨d, .binOp .eql t x y t', ty, pos, aft, g⟩ [.bool a, .bool b] w K := by
 refine hE.det (v := .bool (a == b)) (fun w1 _ ρ hρ => ?_) (hk _ (by cases a <;> cases b <;> simp))
 simp only [opnds, b2_, b3_, b1_, and_true] at hρ
 have h1 := run_equal_bool (P := P) w1 ht a b
 simp only [execOp, hρ.1, hρ.2, eqGuard, binOp, Sem.run_bind]
 simp [h1]
theorem st_byte {bq : Bool} (hE : EngB bq P E) {t : TypeId} (ht : P.underlying t = some .string) {s : ByteArray} {ik : IntKind} {i : Int} {x y : Operand}
  (h0 : 0 ≤ i) (h1 : i < s.size) (hk : ∀ c : Int, c = ((s[i.toNat]'(by omega)).toNat : Int) → 0 ≤ c → c ≤ 255 → K (.int .u8 c) w) : E.stop ⟨d, .index t x y, ty, pos, aft, g⟩ [.string s, .int ik i] w K := by
 refine hE.det (v := .int .u8 ((s[i.toNat]'(by omega)).toNat : Int)) (fun w1 _ ρ hρ => ?_) (hk _ rfl (by omega) (by have := UInt8.toNat_lt (s[i.toNat]'(by omega)); omega))
 simp only [opnds, b2_, b3_, b1_, and_true] at hρ
 have h2 : s[i.toNat]? = some (s[i.toNat]'(by omega)) := by rw [getElem?_pos]
 simp [execOp, hρ.1, hρ.2, Instr.index, asIntOf, underlying, ht, h0, h2]
end
structure Strs (w : World) (A : Option Addr) (n c : Nat) (xs : List ByteArray) : Prop where
 len : xs.length = n
 le : n ≤ 9223372036854775807
 cap : n ≤ c
 cells : Cells w A (xs.map .string)
 small : ∀ s ∈ xs, s.size ≤ 9223372036854775807
theorem Strs.ext {w w' : World} {A : Option Addr} {n c : Nat} {xs : List ByteArray} (h : Strs w A n c xs) (hx : Ext w w') : Strs w' A n c xs := ⟨h.1, h.2, h.3, h.4.ext hx, h.5⟩
theorem Strs.same {w w' : World} {A : Option Addr} {n c : Nat} {xs : List ByteArray} (h : Strs w A n c xs) (hx : Same w w') : Strs w' A n c xs := h.ext hx.ext
theorem nk {E : Sym} {bq : Bool} (hE : EngB bq P E) (k : Nat) : E.nat k = (k : Int) := by rw [hE.nat]; rfl
theorem st_str {E : Sym} {w : World} {K : Value → World → Prop} {d : Option Tmp} {ty : TypeId} {pos : String} {aft : Array Edge} {g : Option (Nat × Bool)} {bq : Bool} (hE : EngB bq P E) {t e : TypeId} {z : Value} {b : Nat} (ht : Slc P t e z 1 b) {A : Option Addr} {m c k : Nat} {ik : IntKind} {i : Int} {x y : Operand} {xs : List ByteArray} (h : Strs w A m c xs)
  (hi : i = k) (hk : k < m) (hK : ∀ p s, xs[k]? = some s → s.size ≤ 9223372036854775807 → w.cell? p = some (.string s) → K (.pointer (some p)) w) : E.stop ⟨d, .indexAddr t x y, ty, pos, aft, g⟩ [.slice A m c, .int ik i] w K := by
 subst hi
 have hl := h.len
 refine st_elem hE ht h.cells (by simp [hl]) (by omega) (by omega) fun p v hv hp => ?_
 simp only [Int.toNat_natCast, List.getElem?_map, Option.map_eq_some_iff] at hv
 obtain ⟨s, hs, rfl⟩ := hv
 exact hK p s hs (h.small s (m1_ hs)) hp
abbrev Bel := RowKit.Below
theorem Ext.then {w0 w w' : World} (h : Ext w0 w) (k : Bel w0.heap.size w w') : Ext w0 w' := RowKit.Below.trans h k
theorem Ext.bel {w0 w w' : World} (h : Ext w0 w) (k : Ext w w') : Bel w0.heap.size w w' := RowKit.Below.mono k h.size
def Own (B : Nat) (e : TypeId) (k : Nat) (w : World) (A : Option Addr) (m c : Nat) (xs : List Value) : Prop := w.ownsRow B e k (.slice A m c) m xs
theorem Own.nil {B : Nat} {e : TypeId} {k : Nat} {w : World} : Own B e k w none 0 0 [] := World.ownsRow_nil _ _ _ _
theorem Own.len {B e k} {w : World} {A : Option Addr} {m c : Nat} {xs : List Value} (h : Own B e k w A m c xs) : xs.length = m * k := h.1
theorem Own.le {B e k} {w : World} {A : Option Addr} {m c : Nat} {xs : List Value} (h : Own B e k w A m c xs) : m ≤ 9223372036854775807 := by
 rcases h.2 with ⟨_, h1⟩ | ⟨g, cap, cur, _, _, _, h1, h2, _⟩
 ·omega
 ·unfold maxLen at h2; omega
theorem Own.addr {B e k} {w : World} {A : Option Addr} {m c : Nat} {xs : List Value} (h : Own B e k w A m c xs) (h0 : 0 < m) : ∃ g, A = some ⟨g, 0, none⟩ ∧ B ≤ g ∧ g < w.heap.size := by
 rcases h.2 with ⟨h1, h2⟩ | ⟨g, cap, cur, h1, h2, h3, _⟩
 ·omega
 ·simp only [Value.slice.injEq] at h1
  exact ⟨g, h1.1, h2, (Array.getElem?_eq_some_iff.1 h3).1⟩
theorem Own.blk {B e k} {w : World} {A : Option Addr} {m c : Nat} {xs : List Value} (h : Own B e k w A m c xs) : A = none ∨ ∃ g, A = some ⟨g, 0, none⟩ ∧ B ≤ g ∧ g < w.heap.size := by
 rcases h.2 with ⟨h1, h2⟩ | ⟨g, cap, cur, h1, h2, h3, _⟩
 ·simp only [Value.slice.injEq] at h1; exact .inl h1.1
 ·simp only [Value.slice.injEq] at h1
  exact .inr ⟨g, h1.1, h2, (Array.getElem?_eq_some_iff.1 h3).1⟩
theorem Own.cells {B e k} {w : World} {A : Option Addr} {m c : Nat} {xs : List Value} (h : Own B e k w A m c xs) : Cells w A xs := by
 refine ⟨fun h0 => ?_, fun a ha j v hv => ?_⟩
 ·have hl := h.len
  have : 0 < m := by
   rcases Nat.eq_zero_or_pos m with e0 | e0
   ·subst e0; rw [Nat.zero_mul] at hl; omega
   ·exact e0
  obtain ⟨g, hg, _⟩ := h.addr this
  exact ⟨_, hg⟩
 ·subst ha
  rcases h.2 with ⟨h1, _⟩ | ⟨g, cap, cur, h1, _⟩
  ·simp at h1
  ·simp only [Value.slice.injEq, Option.some.injEq] at h1
   obtain ⟨rfl, _, _⟩ := h1
   exact World.ownsRow.cells h (g := g) rfl j v hv
theorem Own.bel {B e k} {w w' : World} {A : Option Addr} {m c : Nat} {xs : List Value} (h : Own B e k w A m c xs) (hx : Ext w w') : Own B e k w' A m c xs :=
 World.ownsRow.kept h (row := none) ⟨hx.os, hx.tape, hx.output, hx.size, fun i hi _ => hx.block i hi⟩ (by cases A <;> simp [Value.ownBlock])
theorem Own.mono {B B' e k} {w : World} {A : Option Addr} {m c : Nat} {xs : List Value} (h : Own B e k w A m c xs) (hB : B' ≤ B) : Own B' e k w A m c xs := by
 refine ⟨h.1, ?_⟩
 rcases h.2 with h1 | ⟨g, cap, cur, h1, h2, h3⟩
 ·exact .inl h1
 ·exact .inr ⟨g, cap, cur, h1, by omega, h3⟩
section
variable {E : Sym} {w : World} {K : Value → World → Prop} {d : Option Tmp} {ty : TypeId} {pos : String} {aft : Array Edge} {g : Option (Nat × Bool)}
theorem st_run (hE : E = real P Pn n) {o : Oper} {vals : List Value} {v : Value} {w' : World} (h : ∀ ρ : Operand → Value, (opnds o.op).map ρ = vals → (execOp ρ o).run P w = .ok (.value v) w') (hk : K v w') : E.stop o vals w K := by
 subst hE
 intro ρ hρ
 rw [h ρ hρ]
 exact hk
theorem st_runu (hE : E = real P Pn n) {o : Oper} {vals : List Value} {w' : World} (h : ∀ ρ : Operand → Value, (opnds o.op).map ρ = vals → (execOp ρ o).run P w = .ok .skip w') (hk : K undef w') : E.stop o vals w K := by
 subst hE
 intro ρ hρ
 rw [h ρ hρ]
 exact hk
theorem st_make (hE : E = real P Pn n) {t e : TypeId} {z : Value} {b : Nat} (ht : Slc P t e z 1 b) (hz : z.cells = #[z]) {ik ik' : IntKind} {i : Int} {m : Nat} {x y : Operand} (hi : i = m) (hb : b * m ≤ 140737488355328) (hm : m ≤ 9223372036854775807)
  (hk : ∀ A w', Ext w w' → (∀ B, B ≤ w.heap.size → Own B e 1 w' A m m (List.replicate m z)) → K (.slice A m m) w') : E.stop ⟨d, .makeSlice t x y, ty, pos, aft, g⟩ [.int ik i, .int ik' i] w K := by
 obtain ⟨i0, h1, h2, h3, h4⟩ := ht.info
 subst hi
 have hr := run_make w t e i0 z ht.u h1 h2 ik ik' m m (by omega) (by omega) (by rw [h4]; have : ((b * m : Nat) : Int) ≤ 281474976710656 := by omega
                                                                                rwa [Int.natCast_mul] at this) (by omega)
 simp only [Int.toNat_natCast, h3, Nat.mul_one, hz] at hr
 refine st_run hE (v := .slice (some ⟨w.heap.size, 0, none⟩) m m) (w' := w.alloc (.cells (madeCells #[z] m) e)) (fun ρ hρ => ?_) (hk _ _ ((Ext.refl w).alloc (n1_ _) _) fun B hB => ?_)
 ·simp only [opnds, b2_, b3_, b1_, and_true] at hρ
  simp [execOp, hρ.1, hρ.2, hr]
 ·have := World.ownsRow_lit (e := e) (size := 1) w (madeCells #[z] m) m hB (by unfold maxLen; omega) (by rw [size_madeCells, Nat.mul_one])
  rw [toList_madeCells_one] at this
  exact this
def blk (A : Option Addr) : Option Nat := (Value.slice A 0 0).ownBlock
def Wr (A : Option Addr) (w w' : World) : Prop := w.grownBy w' (blk A)
theorem Wr.refl (A : Option Addr) (w : World) : Wr A w w := ⟨rfl, rfl, rfl, n1_ _, fun _ _ _ => rfl⟩
theorem Wr.trans {A : Option Addr} {a b c : World} (h : Wr A a b) (k : Wr A b c) : Wr A a c := World.grownBy.trans h k
theorem Ext.wr {w w' : World} (h : Ext w w') (A : Option Addr) : Wr A w w' := ⟨h.os, h.tape, h.output, h.size, fun i hi _ => h.block i hi⟩
def Apart (A A' : Option Addr) : Prop := A = none ∨ blk A ≠ blk A'
theorem Own.wr {B e k} {w w' : World} {A A' : Option Addr} {m c : Nat} {xs : List Value} (h : Own B e k w A m c xs) (hw : Wr A' w w') (ha : Apart A A') : Own B e k w' A m c xs := by
 refine World.ownsRow.kept h hw ?_
 rcases ha with rfl | ha
 ·exact .inl rfl
 ·refine .inr fun e0 => ha ?_
  cases A <;> exact e0
theorem Own.apart {B B' e e' k k'} {w w' : World} {A A' : Option Addr} {m c m' c' : Nat} {xs ys : List Value} (h : Own B e k w A m c xs) (h' : Own B' e' k' w' A' m' c' ys) (hB : w.heap.size ≤ B') : Apart A A' ∧ Apart A' A := by
 obtain rfl | ⟨g, rfl, _, hg⟩ := h.blk
 ·obtain rfl | ⟨g', rfl, _, _⟩ := h'.blk
  ·exact ⟨.inl rfl, .inl rfl⟩
  ·exact ⟨.inl rfl, .inr (by simp [Eng.blk, Value.ownBlock])⟩
 ·obtain rfl | ⟨g', rfl, hB', _⟩ := h'.blk
  ·exact ⟨.inr (by simp [Eng.blk, Value.ownBlock]), .inl rfl⟩
  ·have : g ≠ g' := by omega
   exact ⟨.inr (by simpa [Eng.blk, Value.ownBlock] using this), .inr (by simpa [Eng.blk, Value.ownBlock] using this.symm)⟩
theorem Wr.bel {B e k} {w w' w0 : World} {A : Option Addr} {m c : Nat} {xs : List Value} (hw : Wr A w w') (h : Own B e k w0 A m c xs) (hB : B ≤ w.heap.size) : Bel B w w' := by
 refine (RowKit.Below.refl B w).grown hw hB fun g hg => ?_
 obtain rfl | ⟨g', rfl, hB', _⟩ := h.blk
 ·simp [Eng.blk, Value.ownBlock] at hg
 ·simp [Eng.blk, Value.ownBlock] at hg; omega
theorem st_set (hE : E = real P Pn n) {t e : TypeId} {z : Value} {b : Nat} (ht : Slc P t e z 1 b) {B : Nat} {A : Option Addr} {m c j : Nat} {xs : List Value} {a p : Addr} {v : Value} {x y : Operand} (h : Own B e 1 w A m c xs) (hA : A = some a) (hj : j < m) (hp : p = a.add (j * 1)) (hv : v.oneCell' = true)
  (hk : ∀ w', Bel B w w' → Wr A w w' → Own B e 1 w' A m c (xs.set j v) → K undef w') : E.stop ⟨d, .store e x y, ty, pos, aft, g⟩ [.pointer (some p), v] w K := by
 obtain ⟨i0, h1, h2, h3, h4⟩ := ht.info
 obtain ⟨gb, hg, hB, _⟩ := h.addr (by omega)
 rw [hA] at hg
 cases hg
 have hp' : p = ⟨gb, j, none⟩ := by
  rw [hp, Nat.mul_one]; unfold Addr.add; split
  ·rename_i e0; subst e0; rfl
  ·simp
 have hl := h.len
 subst hA
 have hc0 : w.cell? p = some (xs[j]'(by omega)) := by rw [hp', World.ownsRow.cellAt h j (by omega)]; simp
 have hf : w.frozen? p = false := by rw [hp']; exact World.ownsRow.frozenAt h j
 have hs := World.ownsRow.stored h j v
 rw [← hp'] at hs
 have hvc : v.cells = #[v] := by cases v <;> first | rfl | simp [Value.oneCell'] at hv
 refine st_runu hE (w' := w.setCell p v) (fun ρ hρ => ?_) (hk _ ((RowKit.Below.refl B w).setCell (by rw [hp']; exact hB) v) (by rw [hp'] at hs ⊢; exact hs.2) hs.1)
 simp only [opnds, b2_, b3_, b1_, and_true] at hρ
 have hst := run_store P w p v .plain hv
 rw [hc0] at hst
 simp only [hf] at hst
 simp [execOp, hρ.1, hρ.2, Instr.storeAt, Instr.sureAddr, storeVar, sizeOf, typeInfo, h1, h3, hvc, storeCells, Addr.add, hst]
theorem st_one (hE : E = real P Pn n) {t e : TypeId} {z : Value} {b : Nat} (ht : Slc P t e z 1 b) (hz : z.cells = #[z]) {v : Value} {x : Operand} (hv : v.oneCell' = true)
  (hk : ∀ A w', Ext w w' → Cells w' A [v] → K (.slice A 1 1) w') : E.stop ⟨d, .buildSlice t 1 #[(0, x)], ty, pos, aft, g⟩ [v] w K := by
 obtain ⟨i0, h1, h2, h3, h4⟩ := ht.info
 have hvc : v.cells = #[v] := by cases v <;> first | rfl | simp [Value.oneCell'] at hv
 refine st_run hE (v := .slice (some ⟨w.heap.size, 0, none⟩) 1 1) (w' := w.alloc (.cells #[v] e)) (fun ρ hρ => ?_) (hk _ _ ((Ext.refl w).alloc (n1_ _) _) ?_)
 ·simp only [opnds, b2_, b3_, b1_, and_true] at hρ
  simp [execOp, hρ, Instr.buildSlice, underlying, ht.u, sizeOf, typeInfo, h1, h3, zeroValue, h2, hz, Instr.fill, hvc, newRow]
  rw [show Array.range 1 = #[0] from rfl]; simp
 ·refine ⟨fun _ => ⟨_, rfl⟩, fun a ha j u hu => ?_⟩
  cases ha
  exact cell_one_new w v e j u hu
theorem st_none (hE : E = real P Pn n) {t e : TypeId} {z : Value} {k b : Nat} (ht : Slc P t e z k b)
  (hk : ∀ A w', Ext w w' → (∀ B, B ≤ w.heap.size → Own B e k w' A 0 0 []) → K (.slice A 0 0) w') : E.stop ⟨d, .buildSlice t 0 #[], ty, pos, aft, g⟩ [] w K := by
 obtain ⟨i0, h1, h2, h3, h4⟩ := ht.info
 refine st_run hE (v := .slice (some ⟨w.heap.size, 0, none⟩) 0 0) (w' := w.alloc (.cells #[] e)) (fun ρ hρ => ?_) (hk _ _ ((Ext.refl w).alloc (n1_ _) _) fun B hB => ?_)
 ·simp [execOp, Instr.buildSlice, underlying, ht.u, sizeOf, typeInfo, h1, Instr.fill, newRow]
  rw [show Array.range 0 = #[] from rfl]; simp
 ·exact World.ownsRow_lit (e := e) (size := k) w #[] 0 hB (by unfold maxLen; omega) (by simp)
theorem st_app (hE : E = real P Pn n) {t e : TypeId} {z : Value} {b : Nat} (ht : Slc P t e z 1 b) (hz : z.cells = #[z]) {B : Nat} {A A1 : Option Addr} {m c : Nat} {xs : List Value} {v : Value} {ao : Array Operand} (h : Own B e 1 w A m c xs) (hn : Cells w A1 [v]) (hv : v.oneCell' = true)
  (hB : B ≤ w.heap.size) (hb : (m + 1) * b ≤ 140737488355328) (hm : m + 1 ≤ 9223372036854775807)
  (hk : ∀ A' c' m' w', m' = m + 1 → Bel B w w' → Own B e 1 w' A' m' c' (xs ++ [v]) → K (.slice A' m' c') w') : E.stop ⟨d, .call ⟨.builtin .append, ao, #[t, t]⟩, ty, pos, aft, g⟩ [.slice A m c, .slice A1 1 1] w K := by
 obtain ⟨i0, h1, h2, h3, h4⟩ := ht.info
 obtain ⟨a1, ha1, hc1⟩ := hn.at (i := 0) (by simp)
 subst ha1
 obtain ⟨v', w', hr, hown, hg, _, _⟩ := run_append_own_at (P := P) w B t ty e i0 z 1 b ht.u h1 h2 h3 h4 (by rw [hz]; rfl) (by omega) (.slice A m c) m xs h a1 1 1 [v] rfl
  (fun j u hu => hn.2 a1 rfl j u hu) (by simpa using hv) (by unfold maxLen; omega) hb hB
 have hform : ∃ A' c', v' = .slice A' (m + 1) c' := by
  rcases hown.2 with ⟨_, h5⟩ | ⟨g, cap, cur, h5, _⟩
  ·omega
  ·exact ⟨_, _, h5⟩
 obtain ⟨A', c', rfl⟩ := hform
 refine st_run hE (v := .slice A' (m + 1) c') (w' := w') (fun ρ hρ => ?_) (hk _ _ _ _ rfl ?_ hown)
 ·have h3' := map_of (ao := ao) hρ
  simp [execOp, resolve, invoke, builtin, h3', hr]
 ·refine (RowKit.Below.refl B w).grown hg hB fun k hk => ?_
  obtain rfl | ⟨gb, rfl, hB', _⟩ := h.blk
  ·simp [Value.ownBlock] at hk
  ·simp [Value.ownBlock] at hk
   omega
theorem Own.cap {B e k} {w : World} {A : Option Addr} {m c : Nat} {xs : List Value} (h : Own B e k w A m c xs) : m ≤ c := by
 rcases h.2 with ⟨h1, h2⟩ | ⟨g, cap, cur, h1, _, _, h4, _⟩
 ·omega
 ·simp only [Value.slice.injEq] at h1; omega
theorem Own.strs {B e} {w : World} {A : Option Addr} {m c : Nat} {xs : List ByteArray} (h : Own B e 1 w A m c (xs.map .string)) (hs : ∀ s ∈ xs, s.size ≤ 9223372036854775807) : Strs w A m c xs :=
 ⟨by have := h.len; simpa using this, h.le, h.cap, h.cells, hs⟩
theorem add_add (a : Addr) (x y : Nat) : (a.add x).add y = a.add (x + y) := by
 unfold Addr.add
 by_cases hx : x = 0
 ·subst hx; simp
 ·by_cases hy : y = 0
  ·subst hy; simp [hx]
  ·simp [hx, hy, Nat.add_assoc]
theorem run_from {t e : TypeId} {z : Value} {k b : Nat} (ht : Slc P t e z k b) (w : World) {A : Option Addr} {m c lo : Nat} {ik : IntKind} (hlo : lo ≤ m) :
  (Instr.sliceAt t (.slice A m c) (some (.int ik lo)) none none).run P w = .ok (.slice (if c = lo then A else A.map (·.add (lo * k))) (m - lo) (c - lo)) w := by
 obtain ⟨i0, h1, h2, h3, h4⟩ := ht.info
 simp [Instr.sliceAt, Instr.slice, underlying, ht.u, Instr.sliceBounds, Instr.sliceBound, asIntOf, sizeOf, typeInfo, h1, h3, hlo]
theorem Cells.from {w : World} {A : Option Addr} {vs : List Value} (h : Cells w A vs) {c lo k m : Nat} (hl : vs.length = m * k) (hlo : lo ≤ m) (hc : lo < m → c ≠ lo) : Cells w (if c = lo then A else A.map (·.add (lo * k))) (vs.drop (lo * k)) := by
 refine ⟨fun h0 => ?_, fun a ha j v hv => ?_⟩
 ·obtain ⟨a, ha⟩ := h.1 (by rw [List.length_drop] at h0; omega)
  subst ha
  split
  ·exact ⟨_, rfl⟩
  ·exact ⟨_, rfl⟩
 ·have hj : j < vs.length - lo * k := by
   have := (List.getElem?_eq_some_iff.1 hv).1
   rwa [List.length_drop] at this
  have hlm : lo < m := by
   rcases Nat.lt_or_ge lo m with h1 | h1
   ·exact h1
   ·have : lo = m := by omega
    subst this; omega
  rw [if_neg (hc hlm)] at ha
  cases A with
  | none => cases ha
  | some a0 =>
   simp only [Option.map_some, Option.some.injEq] at ha
   subst ha
   rw [add_add]
   rw [List.getElem?_drop] at hv
   exact h.2 a0 rfl _ v hv
theorem st_strsFrom {bq : Bool} (hE : EngB bq P E) {t e : TypeId} {z : Value} {b : Nat} (ht : Slc P t e z 1 b) {A : Option Addr} {m c lo : Nat} {ik : IntKind} {i : Int} {xs : List ByteArray} {x y : Operand} {w0 : World} (h : Strs w0 A m c xs) (hi : i = lo) (hlo : lo ≤ m)
  (hk : ∀ A' m' c', m' = m - lo → Strs w0 A' m' c' (xs.drop lo) → K (.slice A' m' c') w) : E.stop ⟨d, .slice t x (some y) none none, ty, pos, aft, g⟩ [.slice A m c, .int ik i] w K := by
 subst hi
 refine hE.det (v := .slice (if c = lo then A else A.map (·.add (lo * 1))) (m - lo) (c - lo)) (fun w1 _ ρ hρ => ?_) (hk _ _ _ rfl ?_)
 ·simp only [opnds, Option.toList, b2_, b3_, a7_, b1_, and_true] at hρ
  simp only [execOp, hρ.1, hρ.2, Option.map_some, Option.map_none, Sem.run_bind, run_from ht w1 hlo]
  rfl
 ·have hcap := h.cap
  refine ⟨by simp [h.len], by have := h.le; omega, by omega, ?_, fun s hs => h.small s (List.mem_of_mem_drop hs)⟩
  have := h.cells.from (c := c) (lo := lo) (k := 1) (m := m) (by simp [h.len]) hlo (fun h1 h2 => by omega)
  rw [Nat.mul_one, ← List.map_drop] at this
  rw [Nat.mul_one]; exact this
theorem st_rem {bq : Bool} (hE : EngB bq P E) {t t' : TypeId} {ik : IntKind} {a b : Int} {x y : Operand} (hb : b ≠ 0) (hk : ∀ r : Int, r = a.tmod b → K (.int ik r) w) : E.stop ⟨d, .binOp .rem t x y t', ty, pos, aft, g⟩ [.int ik a, .int ik b] w K := by
 refine hE.det (v := .int ik (a.tmod b)) (fun w1 _ ρ hρ => ?_) (hk _ rfl)
 simp only [opnds, b2_, b3_, b1_, and_true] at hρ
 simp [execOp, hρ.1, hρ.2, eqGuard, binOp, Op.intDiv, hb]
theorem st_quo {bq : Bool} (hE : EngB bq P E) {t t' : TypeId} {ik : IntKind} {a b : Int} {x y : Operand} (hb : b ≠ 0) (hk : ∀ r : Int, r = ik.wrap (a.tdiv b) → K (.int ik r) w) : E.stop ⟨d, .binOp .quo t x y t', ty, pos, aft, g⟩ [.int ik a, .int ik b] w K := by
 refine hE.det (v := .int ik (ik.wrap (a.tdiv b))) (fun w1 _ ρ hρ => ?_) (hk _ rfl)
 simp only [opnds, b2_, b3_, b1_, and_true] at hρ
 simp [execOp, hρ.1, hρ.2, eqGuard, binOp, Op.intDiv, hb]
theorem st_conv {bq : Bool} (hE : EngB bq P E) {s t : TypeId} {k' : IntKind} (hs : ∃ d, P.underlying s = some d) (ht : P.underlying t = some (.int k')) {ik : IntKind} {a : Int} {x : Operand} (hk : ∀ r : Int, r = k'.wrap a → K (.int k' r) w) : E.stop ⟨d, .convert s t x, ty, pos, aft, g⟩ [.int ik a] w K := by
 obtain ⟨d0, hs⟩ := hs
 refine hE.det (v := .int k' (k'.wrap a)) (fun w1 _ ρ hρ => ?_) (hk _ rfl)
 simp only [opnds, b2_, b3_, b1_, and_true] at hρ
 simp [execOp, hρ, convert, run_underlying hs, run_underlying ht, Conv.intToInt]
theorem push_bytes' : ∀ (bs : List UInt8) (r : ByteArray), (bs.map fun b => (b.toNat : Int)).foldl (fun r n => r.push (UInt8.ofNat n.toNat)) r = ⟨r.data ++ bs.toArray⟩
 | [], r => by simp
 | b :: bs, r => by
  rw [b2_, List.foldl_cons, push_bytes' bs]
  simp [ByteArray.push]
theorem push_bytes (bs : List UInt8) : (bs.map fun b => (b.toNat : Int)).foldl (fun r n => r.push (UInt8.ofNat n.toNat)) ByteArray.empty = ⟨bs.toArray⟩ := by
 rw [push_bytes' bs]; show (⟨#[] ++ bs.toArray⟩ : ByteArray) = _; simp
theorem st_b2s {bq : Bool} (hE : EngB bq P E) {s t e : TypeId} (hs : P.underlying s = some (.slice e)) (he : P.underlying e = some (.int .u8)) (ht : P.underlying t = some .string) {A : Option Addr} {m c : Nat} {bs : List UInt8} {x : Operand} (hm : m = bs.length) (h : Cells w A (bs.map fun b => .int .u8 b.toNat))
  (hk : K (.string ⟨bs.toArray⟩) w) : E.stop ⟨d, .convert s t x, ty, pos, aft, g⟩ [.slice A m c] w K := by
 refine hE.det (v := .string ⟨bs.toArray⟩) (fun w1 hx ρ hρ => ?_) hk
 have h := h.ext hx
 simp only [opnds, b2_, b3_, b1_, and_true] at hρ
 have hr : (Conv.bytesToString (.slice A m c)).run P w1 = .ok (.string ⟨bs.toArray⟩) w1 := by
  cases A with
  | none =>
   have : bs = [] := by
    cases bs with
    | nil => rfl
    | cons b l => obtain ⟨a, ha⟩ := h.1 (by simp); cases ha
   subst this
   simp [Conv.bytesToString]
   rfl
  | some a =>
   have hl := run_loadCells_list (P := P) w1 a (bs.map fun b => .int .u8 b.toNat) (h.2 a rfl)
   have := run_bytesToString (P := P) w1 a m c (bs.map fun b => (b.toNat : Int)) (by rw [hm]; simpa [Function.comp_def] using hl)
   rw [this, push_bytes]
 simp [execOp, hρ, convert, run_underlying hs, run_underlying ht, run_underlying he, hr]
theorem st_cat {bq : Bool} (hE : EngB bq P E) {t t' : TypeId} {a b : ByteArray} {x y : Operand} (hb : a.size + b.size ≤ 9223372036854775807) (hk : ∀ s : ByteArray, s = a ++ b → K (.string s) w) : E.stop ⟨d, .binOp .add t x y t', ty, pos, aft, g⟩ [.string a, .string b] w K := by
 refine hE.det (v := .string (a ++ b)) (fun w1 _ ρ hρ => ?_) (hk _ rfl)
 simp only [opnds, b2_, b3_, b1_, and_true] at hρ
 have h1 : ¬ (((a.size + b.size : Nat) : Int) > IntKind.i64.max) := by
  have : IntKind.i64.max = 9223372036854775807 := by decide
  omega
 have h2 : (Op.stringOp .add a b).run P w1 = .ok (.string (a ++ b)) w1 := by
  simp only [Op.stringOp]; rw [if_neg h1]; rfl
 simp only [execOp, hρ.1, hρ.2, eqGuard, binOp, Sem.run_bind]
 simp [h2]
end
end
end Go.Eng
namespace Go.Proofs.YtkedmcebngachaaGreatDoor
open Go.Eng
theorem fol : Tryz.prog.follows .mixedOrders = true := by kernel_rfl
theorem uStr : Tryz.prog.underlying 9 = some .string := Tryz.underlying9
theorem uBool : Tryz.prog.underlying 4 = some .bool := Tryz.underlying4
theorem cStr : Cel Tryz.prog 9 := ⟨_, uStr, by simp, by simp⟩
theorem tStrs : Slc Tryz.prog 26 9 (.string ⟨#[]⟩) 1 16 := ⟨Tryz.underlying26, by kernel_rfl⟩
theorem uU8 : Tryz.prog.underlying 5 = some (.int .u8) := Tryz.underlying5
theorem uInt : Tryz.prog.underlying 3 = some (.int .i64) := Tryz.underlying3
theorem tBytes : Slc Tryz.prog 65 5 (.int .u8 0) 1 1 := ⟨Tryz.underlying65, by kernel_rfl⟩
open Go.ChangeShapes Go.WideShapes Go.ChangeAt Go.RowKit Go.Eng
open Go.ChangeMaps (open_string shut_string)
set_option maxRecDepth 100000
theorem own : ownKnob Tryz.prog.godebug = none := by kernel_rfl
theorem laidOut : laidOutB Tryz.prog = true := by kernel_rfl
section
variable {H : Type} {enc : TypeId × Value → H} {w : World} {base : Nat} {held : Bool}
end
end Go.Proofs.YtkedmcebngachaaGreatDoor
namespace Go.Eng
structure Stc (P : Program) (t : TypeId) (k : Nat) (zs : List Value) : Prop where
 u : (P.underlying t).map (fun d => match d with | .struct _ => true | _ => false) = some true
 i : (P.info? t).map (fun i => (i.zero, i.size)) = some (some (.agg ⟨zs⟩), k)
structure Fld (P : Program) (t : TypeId) (i off : Nat) : Prop where
 e : ((P.underlying t).bind fun d => match d with
  | .struct fs => (fs[i]?).bind fun f => (P.info? f.type).map fun j => (f.offset, Nat.beq j.size 0)
  | _ => none) = some (off, false)
section
variable {P : Program} {Pn : List PanicEntry → World → Prop} {n : Nat}
variable {E : Sym} {w : World} {K : Value → World → Prop} {d : Option Tmp} {ty : TypeId} {pos : String} {aft : Array Edge} {g : Option (Nat × Bool)}
theorem st_fld {bq : Bool} (hE : EngB bq P E) {t : TypeId} {i off : Nat} (ht : Fld P t i off) {a : Addr} {x : Operand} (hk : ∀ p, p = a.add off → K (.pointer (some p)) w) : E.stop ⟨d, .fieldAddr t x i, ty, pos, aft, g⟩ [.pointer (some a)] w K := by
 obtain ⟨dd, h1, h2⟩ := Option.bind_eq_some_iff.1 ht.e
 split at h2
 ·rename_i fs
  obtain ⟨f, h3, h4⟩ := Option.bind_eq_some_iff.1 h2
  obtain ⟨j, h5, h6⟩ := Option.map_eq_some_iff.1 h4
  simp only [Prod.mk.injEq] at h6
  obtain ⟨rfl, h7⟩ := h6
  have h7 : ¬ j.size = 0 := by intro e; rw [e] at h7; simp at h7
  refine hE.det (v := .pointer (some (a.add f.offset))) (fun w1 _ ρ hρ => ?_) (hk _ rfl)
  simp only [opnds, b2_, b3_, b1_, and_true] at hρ
  simp [execOp, hρ, Instr.fieldAt, underlying, h1, h3, Instr.sureAddr, fieldPlace, sizeOf, typeInfo, h5, h7]
 ·cases h2
theorem add_zero (a : Addr) : a.add 0 = a := by unfold Addr.add; simp
theorem run_loadVar_agg {t : TypeId} {vs : List Value} {k : Nat} {zs : List Value} (ht : Stc P t k zs) (hl : vs.length = k) {p : Addr} {w : World} (hc : ∀ j v, vs[j]? = some v → w.cell? (p.add j) = some v) : (loadVar t p).run P w = .ok (.agg ⟨vs⟩) w := by
 obtain ⟨dd, h1, h2⟩ := Option.map_eq_some_iff.1 ht.u
 obtain ⟨i, h3, h4⟩ := Option.map_eq_some_iff.1 ht.i
 simp only [Prod.mk.injEq] at h4
 have h5 := run_loadCells_list (P := P) (w := w) p vs hc
 have hag : (isAgg t).run P w = .ok true w := by
  cases dd <;> simp at h2
  simp [isAgg, underlying, h1]
 simp [loadVar, hag, sizeOf, typeInfo, h3, h4.2, ← hl, h5]
theorem st_loadS {bq : Bool} (hE : EngB bq P E) {t : TypeId} {k : Nat} {zs vs : List Value} (ht : Stc P t k zs) (hl : vs.length = k) {p : Addr} {x : Operand} (hc : ∀ j v, vs[j]? = some v → w.cell? (p.add j) = some v) (hk : K (.agg ⟨vs⟩) w) : E.stop ⟨d, .load t x, ty, pos, aft, g⟩ [.pointer (some p)] w K := by
 refine hE.det (v := .agg ⟨vs⟩) (fun w1 hs ρ hρ => ?_) hk
 simp only [opnds, b2_, b3_, b1_, and_true] at hρ
 have := run_loadVar_agg ht hl (p := p) (w := w1) fun j v hv => hs.cell (hc j v hv)
 simp [execOp, hρ, Instr.loadAt, Instr.sureAddr, this]
abbrev Box (B : Nat) (t : TypeId) (k : Nat) (w : World) (a : Addr) (cs : List Value) : Prop := Own B t k w (some a) 1 1 cs
theorem Own.at {B e k} {w : World} {a : Addr} {m c : Nat} {xs : List Value} (h : Own B e k w (some a) m c xs) : ∀ j v, xs[j]? = some v → w.cell? (a.add j) = some v := h.cells.2 a rfl
theorem st_box (hE : E = real P Pn n) {t : TypeId} {cs : List Value} {x : Operand} (hk : ∀ a w', Ext w w' → (∀ B, B ≤ w.heap.size → Box B t cs.length w' a cs) → K (.pointer (some a)) w') : E.stop ⟨d, .box t x, ty, pos, aft, g⟩ [.agg ⟨cs⟩] w K := by
 refine st_run hE (v := .pointer (some ⟨w.heap.size, 0, none⟩)) (w' := w.alloc (.cells ⟨cs⟩ t)) (fun ρ hρ => ?_) (hk _ _ ((Ext.refl w).alloc (n1_ _) _) fun B hB => ?_)
 ·simp only [opnds, b2_, b3_, b1_, and_true] at hρ
  simp [execOp, hρ, Instr.box, newVar, newRow, Value.cells]
 ·have := World.ownsRow_lit (e := t) (size := cs.length) w ⟨cs⟩ 1 hB (by unfold maxLen; omega) (by simp)
  exact this
theorem st_box1 (hE : E = real P Pn n) {t : TypeId} {v : Value} {x : Operand} (hv : v.oneCell' = true) (hk : ∀ a w', Ext w w' → (∀ B, B ≤ w.heap.size → Box B t 1 w' a [v]) → K (.pointer (some a)) w') : E.stop ⟨d, .box t x, ty, pos, aft, g⟩ [v] w K := by
 have hvc : v.cells = #[v] := by cases v <;> first | rfl | simp [Value.oneCell'] at hv
 refine st_run hE (v := .pointer (some ⟨w.heap.size, 0, none⟩)) (w' := w.alloc (.cells #[v] t)) (fun ρ hρ => ?_) (hk _ _ ((Ext.refl w).alloc (n1_ _) _) fun B hB => ?_)
 ·simp only [opnds, b2_, b3_, b1_, and_true] at hρ
  simp [execOp, hρ, Instr.box, newVar, newRow, hvc]
 ·have := World.ownsRow_lit (e := t) (size := 1) w #[v] 1 hB (by unfold maxLen; omega) (by simp)
  exact this
theorem st_alloc (hE : E = real P Pn n) {t : TypeId} {k : Nat} {zs : List Value} (ht : Stc P t k zs) (hz : zs.length = k) (hk : ∀ a w', Ext w w' → (∀ B, B ≤ w.heap.size → Box B t k w' a zs) → K (.pointer (some a)) w') : E.stop ⟨d, .alloc t, ty, pos, aft, g⟩ [] w K := by
 obtain ⟨i, h3, h4⟩ := Option.map_eq_some_iff.1 ht.i
 simp only [Prod.mk.injEq] at h4
 refine st_run hE (v := .pointer (some ⟨w.heap.size, 0, none⟩)) (w' := w.alloc (.cells ⟨zs⟩ t)) (fun ρ hρ => ?_) (hk _ _ ((Ext.refl w).alloc (n1_ _) _) fun B hB => ?_)
 ·simp [execOp, Instr.alloc, zeroValue, typeInfo, h3, h4.1, newVar, newRow, Value.cells]
 ·have := World.ownsRow_lit (e := t) (size := k) w ⟨zs⟩ 1 hB (by unfold maxLen; omega) (by simp [hz])
  exact this
theorem Own.form {B e k} {w : World} {a : Addr} {m c : Nat} {xs : List Value} (h : Own B e k w (some a) m c xs) : ∃ gb, a = ⟨gb, 0, none⟩ ∧ B ≤ gb ∧ gb < w.heap.size := by
 obtain h1 | ⟨gb, h1, h2, h3⟩ := h.blk
 ·cases h1
 ·cases h1; exact ⟨gb, rfl, h2, h3⟩
theorem add_plain (gb o i : Nat) : (⟨gb, o, none⟩ : Addr).add i = ⟨gb, o + i, none⟩ := by unfold Addr.add; split <;> simp_all
theorem own_stores {B e k} {gb m c o : Nat} : ∀ (vs : List Value) (i : Nat) (w : World) (xs : List Value), Own B e k w (some ⟨gb, 0, none⟩) m c xs → o + i + vs.length ≤ xs.length → (∀ v ∈ vs, v.oneCell' = true) →
  ∃ w', (storeCells ⟨gb, o, none⟩ vs i).run P w = .ok () w' ∧ Own B e k w' (some ⟨gb, 0, none⟩) m c (xs.take (o + i) ++ vs ++ xs.drop (o + i + vs.length)) ∧ Wr (some ⟨gb, 0, none⟩) w w'
 | [], i, w, xs, h, hl, _ => ⟨w, rfl, by simpa using h, Wr.refl _ _⟩
 | v :: vs, i, w, xs, h, hl, h1 => by
  simp only [a3_] at hl
  have hlen := h.len
  have hc0 : w.cell? ⟨gb, o + i, none⟩ = some (xs[o + i]'(by omega)) := by rw [World.ownsRow.cellAt h (o + i) (by omega)]; simp
  have hf : w.frozen? ⟨gb, o + i, none⟩ = false := World.ownsRow.frozenAt h (o + i)
  have hs := World.ownsRow.stored h (o + i) v
  have hst := run_store P w ⟨gb, o + i, none⟩ v .plain (h1 v (by simp))
  rw [hc0] at hst
  simp only [hf] at hst
  obtain ⟨w', h2, h3, h4⟩ := own_stores (o := o) vs (i + 1) _ _ hs.1 (by rw [List.length_set]; omega) fun u hu => h1 u (by simp [hu])
  refine ⟨w', ?_, ?_, Wr.trans hs.2 h4⟩
  ·simp only [storeCells, Sem.run_bind, add_plain]
   simp [hst, h2]
  ·have e : (xs.set (o + i) v).take (o + (i + 1)) ++ vs ++ (xs.set (o + i) v).drop (o + (i + 1) + vs.length) = xs.take (o + i) ++ (v :: vs) ++ xs.drop (o + i + (vs.length + 1)) := by
    rw [List.take_set, List.drop_set_of_lt (by omega), ← Nat.add_assoc o i 1, List.take_succ_eq_append_getElem (show o + i < xs.length by omega), List.set_append_right _ _ (by simp; omega)]
    have e2 : o + i - (xs.take (o + i)).length = 0 := by rw [List.length_take]; omega
    rw [e2]
    simp [Nat.add_assoc, Nat.add_comm 1]
   rw [e] at h3
   exact h3
theorem st_put (hE : E = real P Pn n) {t : TypeId} (ht : (P.info? t).map (·.size) = some 1) {B e k m c j : Nat} {a p : Addr} {xs : List Value} {v : Value} {x y : Operand} (h : Own B e k w (some a) m c xs) (hp : p = a.add j) (hj : j < xs.length) (hv : v.oneCell' = true)
  (hk : ∀ w', Wr (some a) w w' → Own B e k w' (some a) m c (xs.set j v) → K undef w') : E.stop ⟨d, .store t x y, ty, pos, aft, g⟩ [.pointer (some p), v] w K := by
 obtain ⟨i, h3, h4⟩ := Option.map_eq_some_iff.1 ht
 obtain ⟨gb, rfl, _, _⟩ := h.form
 have hvc : v.cells = #[v] := by cases v <;> first | rfl | simp [Value.oneCell'] at hv
 have hp' : p = ⟨gb, j, none⟩ := by rw [hp, add_plain]; simp
 obtain ⟨w', h5, h6, h7⟩ := own_stores (P := P) (o := j) [v] 0 w xs h (by simp; omega) (by simpa using hv)
 refine st_runu hE (w' := w') (fun ρ hρ => ?_) (hk _ h7 ?_)
 ·simp only [opnds, b2_, b3_, b1_, and_true] at hρ
  simp [execOp, hρ.1, hρ.2, Instr.storeAt, Instr.sureAddr, storeVar, sizeOf, typeInfo, h3, h4, hvc, hp', h5]
 ·rw [List.set_eq_take_append_cons_drop, if_pos hj]
  simpa using h6
theorem st_putS (hE : E = real P Pn n) {t : TypeId} {vs : List Value} (ht : (P.info? t).map (·.size) = some vs.length) {B e k m c j : Nat} {a p : Addr} {xs : List Value} {x y : Operand} (h : Own B e k w (some a) m c xs) (hp : p = a.add j) (hj : j + vs.length ≤ xs.length) (hv : ∀ v ∈ vs, v.oneCell' = true)
  (hk : ∀ w', Wr (some a) w w' → Own B e k w' (some a) m c (xs.take j ++ vs ++ xs.drop (j + vs.length)) → K undef w') : E.stop ⟨d, .store t x y, ty, pos, aft, g⟩ [.pointer (some p), .agg ⟨vs⟩] w K := by
 obtain ⟨i, h3, h4⟩ := Option.map_eq_some_iff.1 ht
 obtain ⟨gb, rfl, _, _⟩ := h.form
 have hp' : p = ⟨gb, j, none⟩ := by rw [hp, add_plain]; simp
 obtain ⟨w', h5, h6, h7⟩ := own_stores (P := P) (o := j) vs 0 w xs h (by omega) hv
 refine st_runu hE (w' := w') (fun ρ hρ => ?_) (hk _ h7 h6)
 simp only [opnds, b2_, b3_, b1_, and_true] at hρ
 simp [execOp, hρ.1, hρ.2, Instr.storeAt, Instr.sureAddr, storeVar, sizeOf, typeInfo, h3, h4, Value.cells, hp', h5]
theorem st_cell (hE : E = real P Pn n) {t : TypeId} {k : Nat} {zs vs : List Value} (ht : Stc P t k zs) (hl : vs.length = k) {a : Addr} (hc : ∀ j v, vs[j]? = some v → w.cell? (a.add j) = some v) (hk : K (.agg ⟨vs⟩) w) : E.cell t (.pointer (some a)) w K := by
 subst hE
 exact ⟨a, _, rfl, run_loadVar_agg ht hl hc, hk⟩
end
end Go.Eng
namespace Go.Proofs.YtkedmcebngachaaGreatDoor
open Go.Eng
def nb (c : Int) : Prop := (97 ≤ c ∧ c ≤ 122) ∨ (48 ≤ c ∧ c ≤ 57) ∨ c = 46 ∨ c = 95 ∨ c = 45 ∨ c = 58
def nameBytes (s : ByteArray) : Prop := (∀ i (h : i < s.size), nb (s[i].toNat)) ∧ s.size ≤ 32
def validName (s : ByteArray) : Prop := s.size ≠ 0 ∧ nameBytes s
theorem nameByte_q (c : Int) (w : World) : QB Tryz.prog 249 [.int .u8 c] w (nb c) := by
 refine QB.intro (cs := []) Tryz.func249 (by kernel_rfl) fun w hx0 w1 hs E R hE hr hR => ?_
 conv => cbv
 repeat' (split <;> conv => cbv)
 all_goals (refine hR _ _ hs ?_; simp only [hE.cmp, cmpR, decide_eq_true_eq, beq_iff_eq] at *; simp [nb]; omega)
theorem l1nameByte_q (c : Int) (w : World) : QB Tryz.prog 155 [.int .u8 c] w (nb c) := by
 refine QB.intro (cs := []) Tryz.func155 (by kernel_rfl) fun w hx0 w1 hs E R hE hr hR => ?_
 conv => cbv
 repeat' (split <;> conv => cbv)
 all_goals (refine hR _ _ hs ?_; simp only [hE.cmp, cmpR, decide_eq_true_eq, beq_iff_eq] at *; simp [nb]; omega)
theorem nameBytes_q (s : ByteArray) (w : World) (hl : s.size ≤ 9223372036854775807) : QB Tryz.prog 171 [.string s] w (nameBytes s) := by
 refine QB.intro (cs := []) Tryz.func171 (by kernel_rfl) fun w hx0 w1 hs E R hE hr hR => ?_
 conv => cbv
 refine st_slen hE uStr fun x hx => ?_
 conv => cbv
 refine loop_rule hr (fun k w' => Same w w' ∧ k ≤ s.size ∧ ∀ i (h : i < s.size), i < k → nb (s[i].toNat)) (fun k => [(0, .string s), (5, .int .i64 x), (6, .int .i64 (E.nat k))]) (fun k => s.size - k) 0
  (by simp [Fits, lk, hE.nat]) (by simp [hs]) ?_
 clear hs
 rintro I hI k w' ⟨hs, hk, hall⟩
 conv => cbv
 split
 ·rename_i hlt
  have hlt : k < s.size := by simpa [hE.cmp, cmpR, hE.nat, hx] using hlt
  conv => cbv
  refine st_byte hE uStr (by simp [hE.nat]) (by simp [hE.nat, hlt]) fun c hc h0 h1 => ?_
  conv => cbv
  refine st_qb hE (nameByte_q c _) fun b hb w2 hs2 => ?_
  have hs := hs.trans hs2
  simp only [hE.nat, Int.ofNat_eq_natCast, Int.toNat_natCast] at hc
  conv => cbv
  split
  ·rename_i hn
   conv => cbv
   refine ⟨k + 1, by simp [Fits, lk, inc hE (show k < 9223372036854775807 by omega)], hI _ _ ⟨hs, by omega, fun i hi h => ?_⟩, by omega⟩
   rcases Nat.lt_or_ge i k with h | h
   ·exact hall i hi h
   ·obtain rfl : i = k := by omega
    rw [← hc]; exact hb.1 hn
  ·rename_i hn
   conv => cbv
   refine hR _ _ hs ?_
   simp only [Bool.false_eq_true, false_iff]
   exact fun h => hn (hb.2 (hc ▸ h.1 k hlt))
 ·rename_i hlt
  have hlt : s.size ≤ k := by simpa [hE.cmp, cmpR, hE.nat, hx] using hlt
  conv => cbv
  refine st_slen hE uStr fun y hy => ?_
  conv => cbv
  refine hR _ _ hs ?_
  simp only [hE.cmp, cmpR, nameBytes, hy, decide_eq_true_eq]
  exact ⟨fun h => ⟨fun i hi => hall i hi (by omega), by omega⟩, fun h => by omega⟩
theorem ne_empty (s : ByteArray) : scmpR .neq s ⟨#[]⟩ = true ↔ s.size ≠ 0 := by
 simp only [scmpR, ByteArray.toList_eq, Bool.not_eq_true', beq_eq_false_iff_ne, ne_eq]
 rw [← ByteArray.size_data, ← Array.length_toList]
 exact not_congr ⟨fun h => by rw [h]; rfl, fun h => by have := List.eq_nil_of_length_eq_zero h; rw [this]⟩
theorem ValidName_q (s : ByteArray) (w : World) (hl : s.size ≤ 9223372036854775807) : QB Tryz.prog 103 [.string s] w (validName s) := by
 refine QB.intro (cs := []) Tryz.func103 (by kernel_rfl) fun w hx0 w1 hs E R hE hr hR => ?_
 conv => cbv
 have h0 : E.scmp .neq s ⟨#[]⟩ = true ↔ s.size ≠ 0 := by rw [hE.scmp]; exact ne_empty s
 split
 ·rename_i h
  conv => cbv
  refine st_qb hE (nameBytes_q s _ hl) fun b hb w2 hs2 => ?_
  conv => cbv
  exact hR _ _ (hs.trans hs2) (by rw [hb, validName]; exact ⟨fun h' => ⟨h0.1 h, h'⟩, fun h' => h'.2⟩)
 ·rename_i h
  conv => cbv
  exact hR _ _ hs (by simp only [Bool.false_eq_true, false_iff]; exact fun h' => h (h0.2 h'.1))
theorem sValidName_q (s : ByteArray) (w : World) (hl : s.size ≤ 9223372036854775807) : QB Tryz.prog 94 [.string s] w (validName s) := by
 refine QB.intro (cs := []) Tryz.func94 (by kernel_rfl) fun w hx0 w1 hs E R hE hr hR => ?_
 conv => cbv
 refine st_slen hE uStr fun x hx => ?_
 conv => cbv
 split
 ·rename_i h
  have h : s.size = 0 := by simp [hE.cmp, cmpR, hx] at h; omega
  conv => cbv
  exact hR _ _ hs (by simp [validName, h])
 rename_i h
 have hp : s.size ≠ 0 := by simp [hE.cmp, cmpR, hx] at h; omega
 conv => cbv
 refine st_slen hE uStr fun x hx => ?_
 conv => cbv
 split
 ·rename_i h
  have h : 32 < s.size := by simp [hE.cmp, cmpR, hx] at h; omega
  conv => cbv
  exact hR _ _ hs (by simp [validName, nameBytes]; omega)
 rename_i h
 have hq : s.size ≤ 32 := by simp [hE.cmp, cmpR, hx] at h; omega
 clear h
 conv => cbv
 refine loop_rule hr (fun k w' => Same w w' ∧ k ≤ s.size ∧ ∀ i (h : i < s.size), i < k → nb (s[i].toNat)) (fun k => [(0, .string s), (3, .int .i64 (E.nat k))]) (fun k => s.size - k) 0
  (by simp [Fits, lk, hE.nat]) (by simp [hs]) ?_
 clear hs hx x
 rintro I hI k w' ⟨hs, hk, hall⟩
 conv => cbv
 refine st_slen hE uStr fun x hx => ?_
 conv => cbv
 split
 ·rename_i hlt
  have hlt : k < s.size := by simpa [hE.cmp, cmpR, hE.nat, hx] using hlt
  conv => cbv
  refine st_byte hE uStr (by simp [hE.nat]) (by simp [hE.nat, hlt]) fun c hc h0 h1 => ?_
  conv => cbv
  refine st_qb hE (l1nameByte_q c _) fun b hb w2 hs2 => ?_
  have hs := hs.trans hs2
  simp only [hE.nat, Int.ofNat_eq_natCast, Int.toNat_natCast] at hc
  conv => cbv
  split
  ·rename_i hn
   conv => cbv
   refine ⟨k + 1, by simp [Fits, lk, inc hE (show k < 9223372036854775807 by omega)], hI _ _ ⟨hs, by omega, fun i hi h => ?_⟩, by omega⟩
   rcases Nat.lt_or_ge i k with h | h
   ·exact hall i hi h
   ·obtain rfl : i = k := by omega
    rw [← hc]; exact hb.1 hn
  ·rename_i hn
   conv => cbv
   refine hR _ _ hs ?_
   simp only [Bool.false_eq_true, false_iff]
   exact fun h => hn (hb.2 (hc ▸ h.2.1 k hlt))
 ·rename_i hlt
  have hlt : s.size ≤ k := by simpa [hE.cmp, cmpR, hE.nat, hx] using hlt
  conv => cbv
  refine hR _ _ hs ?_
  simp only [true_iff]
  exact ⟨hp, fun i hi => hall i hi (by omega), hq⟩
end Go.Proofs.YtkedmcebngachaaGreatDoor
namespace Go.Eng
def blt (s t : ByteArray) : Prop := s.data.toList < t.data.toList
theorem toList_inj {s t : ByteArray} (h : s.data.toList = t.data.toList) : s = t := by
 cases s; cases t; simp only [Array.toList_inj] at h; rw [h]
theorem bytesLess_eq : ∀ x y : List UInt8, Op.bytesLess x y = true ↔ x < y
 | _, [] => by simp [Op.bytesLess]
 | [], _ :: _ => by simp [Op.bytesLess]
 | a :: x, b :: y => by
  simp only [Op.bytesLess, Bool.or_eq_true, decide_eq_true_eq, Bool.and_eq_true, beq_iff_eq, bytesLess_eq x y, List.cons_lt_cons_iff]
theorem u8_irrefl (a : UInt8) : ¬ a < a := by rw [UInt8.lt_iff_toNat_lt]; omega
theorem u8_tri {a b : UInt8} (h : ¬ a < b) (h' : a ≠ b) : b < a := by
 rw [UInt8.lt_iff_toNat_lt] at *
 have : a.toNat ≠ b.toNat := fun e => h' (UInt8.toNat_inj.1 e)
 omega
theorem llt_irrefl : ∀ x : List UInt8, ¬ x < x
 | [], h => by simp at h
 | a :: x, h => by
  rw [List.cons_lt_cons_iff] at h
  rcases h with h | ⟨_, h⟩
  ·exact u8_irrefl a h
  ·exact llt_irrefl x h
theorem llt_trans : ∀ {x y z : List UInt8}, x < y → y < z → x < z
 | _, [], _, h, _ => by simp at h
 | _, _ :: _, [], _, h => by simp at h
 | [], _ :: _, _ :: _, _, _ => by simp
 | a :: x, b :: y, c :: z, h, k => by
  rw [List.cons_lt_cons_iff] at *
  rcases h with h | ⟨rfl, h⟩ <;> rcases k with k | ⟨rfl, k⟩
  ·left; rw [UInt8.lt_iff_toNat_lt] at *; omega
  ·exact .inl h
  ·exact .inl k
  ·exact .inr ⟨rfl, llt_trans h k⟩
theorem llt_tri : ∀ {x y : List UInt8}, ¬ x < y → x ≠ y → y < x
 | [], [], _, h => absurd rfl h
 | [], _ :: _, h, _ => absurd (by simp) h
 | _ :: _, [], _, _ => by simp
 | a :: x, b :: y, h, k => by
  rw [List.cons_lt_cons_iff] at *
  by_cases e : a = b
  ·subst e
   refine .inr ⟨rfl, llt_tri (fun h' => h (.inr ⟨rfl, h'⟩)) fun e => k (by rw [e])⟩
  ·exact .inl (u8_tri (fun h' => h (.inl h')) e)
theorem blt_irrefl (s : ByteArray) : ¬ blt s s := llt_irrefl _
theorem blt_trans {r s t : ByteArray} (h : blt r s) (k : blt s t) : blt r t := llt_trans h k
theorem blt_tri {s t : ByteArray} (h : ¬ blt s t) (k : s ≠ t) : blt t s := llt_tri h fun e => k (toList_inj e)
theorem blt_asymm {s t : ByteArray} (h : blt s t) : ¬ blt t s := fun k => blt_irrefl s (blt_trans h k)
theorem blt_ne {s t : ByteArray} (h : blt s t) : s ≠ t := fun e => blt_irrefl s (by rw [e] at h ⊢; exact h)
theorem beq_list {s t : ByteArray} : (s.data.toList = t.data.toList) ↔ s = t := ⟨toList_inj, fun h => by rw [h]⟩
theorem scmp_eql (s t : ByteArray) : scmpR .eql s t = true ↔ s = t := by simp only [scmpR, ByteArray.toList_eq, beq_iff_eq, beq_list]
theorem scmp_neq (s t : ByteArray) : scmpR .neq s t = true ↔ s ≠ t := by simp only [scmpR, ByteArray.toList_eq, Bool.not_eq_true', beq_eq_false_iff_ne, ne_eq, beq_list]
theorem scmp_lss (s t : ByteArray) : scmpR .lss s t = true ↔ blt s t := by simp only [scmpR, ByteArray.toList_eq, bytesLess_eq, blt]
theorem blt_le {s t : ByteArray} : (blt s t ∨ s = t) ↔ ¬ blt t s := by
 constructor
 ·rintro (h | rfl)
  ·exact blt_asymm h
  ·exact blt_irrefl _
 ·intro h
  by_cases e : s = t
  ·exact .inr e
  ·exact .inl (blt_tri h fun e' => e e'.symm)
theorem scmp_leq (s t : ByteArray) : scmpR .leq s t = true ↔ ¬ blt t s := by
 rw [← blt_le]; simp only [scmpR, ByteArray.toList_eq, Bool.or_eq_true, bytesLess_eq, beq_iff_eq, beq_list, blt]
theorem scmp_geq (s t : ByteArray) : scmpR .geq s t = true ↔ ¬ blt s t := by
 rw [← scmp_lss]; simp [scmpR]
instance : LawfulBEq ByteArray where
 eq_of_beq {a b} h := by
  have : (a.data == b.data) = true := h
  cases a; cases b; simpa using this
 rfl {a} := by show (a.data == a.data) = true; simp
instance (s t : ByteArray) : Decidable (blt s t) := inferInstanceAs (Decidable (s.data.toList < t.data.toList))
theorem rise_ext : ∀ {xs ys : List ByteArray}, xs.Pairwise blt → ys.Pairwise blt → (∀ s, s ∈ xs ↔ s ∈ ys) → xs = ys
 | [], [], _, _, _ => rfl
 | [], y :: ys, _, _, h => absurd ((h y).2 (by simp)) (by simp)
 | x :: xs, [], _, _, h => absurd ((h x).1 (by simp)) (by simp)
 | x :: xs, y :: ys, hx, hy, h => by
  rw [List.pairwise_cons] at hx hy
  have e : x = y := by
   have h1 := (h x).1 (by simp)
   have h2 := (h y).2 (by simp)
   rw [List.mem_cons] at h1 h2
   rcases h1 with h1 | h1
   ·exact h1
   ·rcases h2 with h2 | h2
    ·exact h2.symm
    ·exact absurd (hx.1 y h2) (blt_asymm (hy.1 x h1))
  subst e
  rw [rise_ext hx.2 hy.2 fun s => ?_]
  have := h s
  rw [List.mem_cons, List.mem_cons] at this
  constructor
  ·intro h1
   rcases this.1 (.inr h1) with h2 | h2
   ·subst h2; exact absurd (hx.1 s h1) (blt_irrefl s)
   ·exact h2
  ·intro h1
   rcases this.2 (.inr h1) with h2 | h2
   ·subst h2; exact absurd (hy.1 s h1) (blt_irrefl s)
   ·exact h2
def mrg (keep : Bool → Bool → Bool) : List ByteArray → List ByteArray → List ByteArray
 | [], [] => []
 | x :: xs, [] => (if keep true false = true then [x] else []) ++ mrg keep xs []
 | [], y :: ys => (if keep false true = true then [y] else []) ++ mrg keep [] ys
 | x :: xs, y :: ys =>
  if x = y then (if keep true true = true then [x] else []) ++ mrg keep xs ys
  else if blt x y then (if keep true false = true then [x] else []) ++ mrg keep xs (y :: ys)
  else (if keep false true = true then [y] else []) ++ mrg keep (x :: xs) ys
termination_by xs ys => xs.length + ys.length
theorem mem_kept {c : Prop} [Decidable c] {s x : ByteArray} : s ∈ (if c then [x] else []) ↔ c ∧ s = x := by split <;> simp_all
theorem mrg_mem (keep : Bool → Bool → Bool) (xs ys : List ByteArray) (hx : xs.Pairwise blt) (hy : ys.Pairwise blt) (s : ByteArray) :
  s ∈ mrg keep xs ys ↔ (s ∈ xs ∨ s ∈ ys) ∧ keep (decide (s ∈ xs)) (decide (s ∈ ys)) = true := by
 induction xs, ys using mrg.induct with
 | case1 => simp [mrg]
 | case2 x xs ih =>
  rw [List.pairwise_cons] at hx
  have := ih hx.2 hy
  rw [mrg, List.mem_append, mem_kept, this]
  by_cases h : s = x
  ·subst h
   have : s ∉ xs := fun h => blt_irrefl s (hx.1 s h)
   simp [this]
  ·simp [h]
 | case3 y ys ih =>
  rw [List.pairwise_cons] at hy
  have := ih hx hy.2
  rw [mrg, List.mem_append, mem_kept, this]
  by_cases h : s = y
  ·subst h
   have : s ∉ ys := fun h => blt_irrefl s (hy.1 s h)
   simp [this]
  ·simp [h]
 | case4 xs y ys ih =>
  rw [List.pairwise_cons] at hx hy
  have := ih hx.2 hy.2
  rw [mrg, if_pos rfl, List.mem_append, mem_kept, this]
  by_cases h : s = y
  ·subst h
   have h1 : s ∉ xs := fun h => blt_irrefl s (hx.1 s h)
   have h2 : s ∉ ys := fun h => blt_irrefl s (hy.1 s h)
   simp [h1, h2]
  ·simp [h]
 | case5 x xs y ys hne hlt ih =>
  have hx' := hx
  rw [List.pairwise_cons] at hx
  have := ih hx.2 hy
  rw [mrg, if_neg hne, if_pos hlt, List.mem_append, mem_kept, this]
  by_cases h : s = x
  ·subst h
   have h1 : s ∉ xs := fun h => blt_irrefl s (hx.1 s h)
   have h2 : s ∉ y :: ys := fun h => by
    rw [List.mem_cons] at h
    rcases h with h | h
    ·exact hne h
    ·exact blt_irrefl s (blt_trans hlt ((List.pairwise_cons.1 hy).1 s h))
   simp only [h1, h2, List.mem_cons, decide_true, decide_false, or_self, false_and, or_false, and_true, true_and]
  ·simp [h]
 | case6 x xs y ys hne hlt ih =>
  have hx' := hx
  rw [List.pairwise_cons] at hy
  have := ih hx hy.2
  rw [mrg, if_neg hne, if_neg hlt, List.mem_append, mem_kept, this]
  have hyx := blt_tri hlt hne
  by_cases h : s = y
  ·subst h
   have h1 : s ∉ ys := fun h => blt_irrefl s (hy.1 s h)
   have h2 : s ∉ x :: xs := fun h => by
    rw [List.mem_cons] at h
    rcases h with h | h
    ·exact hne h.symm
    ·exact blt_irrefl s (blt_trans hyx ((List.pairwise_cons.1 hx').1 s h))
   simp only [h1, h2, List.mem_cons, or_true, decide_true, decide_false, or_self, false_and, or_false, and_true, true_and]
  ·simp [h]
theorem mrg_rise (keep : Bool → Bool → Bool) (xs ys : List ByteArray) (hx : xs.Pairwise blt) (hy : ys.Pairwise blt) : (mrg keep xs ys).Pairwise blt := by
 have app : ∀ {c : Prop} [Decidable c] {x : ByteArray} {l : List ByteArray}, l.Pairwise blt → (∀ s ∈ l, blt x s) → ((if c then [x] else []) ++ l).Pairwise blt := by
  intro c _ x l hl hm
  split
  ·rw [List.singleton_append, List.pairwise_cons]; exact ⟨hm, hl⟩
  ·simpa using hl
 induction xs, ys using mrg.induct with
 | case1 => simp [mrg]
 | case2 x xs ih =>
  rw [List.pairwise_cons] at hx
  rw [mrg]
  exact app (ih hx.2 hy) fun s hs => by
   rw [mrg_mem keep _ _ hx.2 hy] at hs
   rcases hs.1 with h | h
   ·exact hx.1 s h
   ·cases h
 | case3 y ys ih =>
  rw [List.pairwise_cons] at hy
  rw [mrg]
  exact app (ih hx hy.2) fun s hs => by
   rw [mrg_mem keep _ _ hx hy.2] at hs
   rcases hs.1 with h | h
   ·cases h
   ·exact hy.1 s h
 | case4 xs y ys ih =>
  rw [List.pairwise_cons] at hx hy
  rw [mrg, if_pos rfl]
  exact app (ih hx.2 hy.2) fun s hs => by
   rw [mrg_mem keep _ _ hx.2 hy.2] at hs
   rcases hs.1 with h | h
   ·exact hx.1 s h
   ·exact hy.1 s h
 | case5 x xs y ys hne hlt ih =>
  rw [List.pairwise_cons] at hx
  rw [mrg, if_neg hne, if_pos hlt]
  exact app (ih hx.2 hy) fun s hs => by
   rw [mrg_mem keep _ _ hx.2 hy] at hs
   rcases hs.1 with h | h
   ·exact hx.1 s h
   ·rw [List.mem_cons] at h
    rcases h with h | h
    ·rw [h]; exact hlt
    ·exact blt_trans hlt ((List.pairwise_cons.1 hy).1 s h)
 | case6 x xs y ys hne hlt ih =>
  rw [List.pairwise_cons] at hy
  rw [mrg, if_neg hne, if_neg hlt]
  have hyx := blt_tri hlt hne
  exact app (ih hx hy.2) fun s hs => by
   rw [mrg_mem keep _ _ hx hy.2] at hs
   rcases hs.1 with h | h
   ·rw [List.mem_cons] at h
    rcases h with h | h
    ·rw [h]; exact hyx
    ·exact blt_trans hyx ((List.pairwise_cons.1 hx).1 s h)
   ·exact hy.1 s h
end Go.Eng
namespace Go.Proofs.YtkedmcebngachaaGreatDoor
open Go.Eng
theorem _root_.Go.Eng.Strs.get {w : World} {A : Option Addr} {n c : Nat} {xs : List ByteArray} (h : Strs w A n c xs) {i : Nat} (hi : i < n) : xs[i]? = some (xs[i]'(by rw [h.len]; exact hi)) := by simp [h.len, hi]
def bulk : List ByteArray → Nat
 | [] => 0
 | s :: xs => 1 + s.size + bulk xs
def letters : List ByteArray → Nat
 | [] => 0
 | s :: xs => s.size + letters xs
theorem bulk_eq : ∀ xs, bulk xs = xs.length + letters xs
 | [] => rfl
 | s :: xs => by simp [bulk, letters, bulk_eq xs]; omega
theorem letters_take_succ : ∀ (xs : List ByteArray) (k : Nat) (h : k < xs.length), letters (xs.take (k + 1)) = letters (xs.take k) + xs[k].size
 | [], k, h => by simp at h
 | s :: xs, 0, h => by simp [letters]
 | s :: xs, k + 1, h => by
  have := letters_take_succ xs k (by simpa using h)
  simp only [List.take_succ_cons, letters, this, List.getElem_cons_succ]; omega
theorem letters_take_le : ∀ (xs : List ByteArray) (k : Nat), letters (xs.take k) ≤ letters xs
 | [], k => by simp
 | s :: xs, 0 => by simp [letters]
 | s :: xs, k + 1 => by simp [letters]; exact letters_take_le xs k
def room (l : Int) (b : Nat) : Int := if l < b then -1 else l - b
set_option maxRecDepth 100000 in
theorem szStringS_q {w : World} {A : Option Addr} {n c : Nat} {xs : List ByteArray} (h : Strs w A n c xs) (l : Int) (h0 : 0 ≤ l) (h1 : l ≤ 1048576) :
  QF Tryz.prog 36 [.slice A n c, .int .i64 l] w (.int .i64 (room l (bulk xs))) := by
 refine QF.intro (cs := []) Tryz.func36 (by kernel_rfl) fun w hx0 w1 hs E R hE hr hR => ?_
 have h := h.ext hx0
 have hl := h.len
 have hle := h.le
 conv => cbv
 refine st_len hE tStrs fun x hx => ?_
 conv => cbv
 obtain ⟨y, hy⟩ : ∃ y, y = l - x := ⟨_, rfl⟩
 have e1 : E.ar .sub .i64 l x = y := by rw [hE.ar, hy]; exact wrap_in (by omega) (by omega)
 simp only [e1]
 split
 ·rename_i hlt
  have hlt : y < 0 := by simpa [hE.cmp, cmpR] using hlt
  conv => cbv
  rw [hR]; refine ⟨?_, hs⟩
  simp only [one, room, bulk_eq]; rw [if_pos (by omega)]
 rename_i hlt
 have hlt : 0 ≤ y := by simpa [hE.cmp, cmpR] using hlt
 conv => cbv
 refine loop_rule hr (fun (s : Nat × Int) w' => Same w w' ∧ s.1 ≤ n ∧ 0 ≤ s.2 ∧ s.2 = y - letters (xs.take s.1)) (fun s => [(0, .slice A n c), (1, .int .i64 s.2), (5, .int .i64 (E.nat s.1))]) (fun s => n - s.1) (0, y)
  (by simp [Fits, lk, hE.nat]) (by simp [hs, letters, hlt]) ?_
 clear hs
 rintro I hI ⟨k, z⟩ w' ⟨hs, hk, hz, hz'⟩
 simp only at hk hz hz'
 conv => cbv
 refine st_len hE tStrs fun x' hx' => ?_
 conv => cbv
 split
 ·rename_i hkn
  have hkn : k < n := by simpa [hE.cmp, cmpR, hE.nat, hx'] using hkn
  conv => cbv
  refine st_elem hE tStrs (h.same hs).cells (by simp [hl]) (by simp [hE.nat]) (by simp [hE.nat, hkn]) fun p v hv hp => ?_
  obtain rfl : v = .string (xs[k]'(by omega)) := by simpa [hE.nat, hl, hkn] using hv.symm
  have hsm := h.small xs[k] (List.getElem_mem _)
  have ht := letters_take_succ xs k (by omega)
  generalize xs[k]'(by omega) = sk at *
  conv => cbv
  refine st_load hE cStr hp ?_
  conv => cbv
  refine st_slen hE uStr fun m hm => ?_
  conv => cbv
  obtain ⟨z', hzz⟩ : ∃ z', z' = z - m := ⟨_, rfl⟩
  have e1 : E.ar .sub .i64 z m = z' := by rw [hE.ar, hzz]; exact wrap_in (by omega) (by omega)
  simp only [e1]
  split
  ·rename_i hn
   have hn : z' < 0 := by simpa [hE.cmp, cmpR] using hn
   conv => cbv
   rw [hR]; refine ⟨?_, hs⟩
   have := letters_take_le xs (k + 1)
   simp only [one, room, bulk_eq]; rw [if_pos (by omega)]
  ·rename_i hn
   have hn : 0 ≤ z' := by simpa [hE.cmp, cmpR] using hn
   conv => cbv
   exact ⟨(k + 1, z'), by simp [Fits, lk, inc hE (show k < 9223372036854775807 by omega)], hI _ _ ⟨hs, by omega, by omega, by simp only; omega⟩, by simp only; omega⟩
 ·rename_i hkn
  have hkn : n ≤ k := by simpa [hE.cmp, cmpR, hE.nat, hx'] using hkn
  conv => cbv
  rw [hR]; refine ⟨?_, hs⟩
  rw [g3_ (by omega)] at hz'
  simp only [one, room, bulk_eq]; rw [if_neg (by omega)]
  congr 1; omega
def Copied (w : World) (xs : List ByteArray) (v : Value) (w' : World) : Prop :=
 ∃ A n c, v = .slice A n c ∧ Strs w' A n c xs ∧ Own w.heap.size 9 1 w' A n c (xs.map .string)
theorem toStringS_f {w : World} {A : Option Addr} {n c : Nat} {xs : List ByteArray} (h : Strs w A n c xs) (hb : n ≤ 1048576) :
  FC Tryz.prog 42 [.slice A n c] w (Copied w xs) := by
 refine FC.intro (cs := []) Tryz.func42 (by kernel_rfl) fun E R hE hr hR => ?_
 have hl := h.len
 conv => cbv
 refine st_len hE tStrs fun x hx => ?_
 conv => cbv
 refine st_make hr tStrs rfl hx (by omega) (by omega) fun A1 w1 hx1 hown => ?_
 have ho := hown _ (n1_ _)
 conv => cbv
 refine loop_rule hr (fun k w' => Ext w w' ∧ k ≤ n ∧ Own w.heap.size 9 1 w' A1 n n ((xs.take k).map .string ++ List.replicate (n - k) (.string ⟨#[]⟩))) (fun k => [(0, .slice A n c), (3, .slice A1 n n), (4, .int .i64 (E.nat k))]) (fun k => n - k) 0
  (by simp [Fits, lk, hE.nat]) ⟨hx1, by omega, by simpa using ho⟩ ?_
 clear ho hown hx1
 rintro I hI k w' ⟨hxt, hk, ho⟩
 conv => cbv
 refine st_len hE tStrs fun x' hx' => ?_
 conv => cbv
 split
 ·rename_i hkn
  have hkn : k < n := by simpa [hE.cmp, cmpR, hE.nat, hx'] using hkn
  conv => cbv
  refine st_elem hE tStrs (h.ext hxt).cells (by simp [hl]) (by simp [hE.nat]) (by simp [hE.nat, hkn]) fun p v hv hp => ?_
  obtain rfl : v = .string (xs[k]'(by omega)) := by simpa [hE.nat, hl, hkn] using hv.symm
  have ht : xs.take (k + 1) = xs.take k ++ [xs[k]'(by omega)] := by rw [List.take_succ_eq_append_getElem]
  generalize xs[k]'(by omega) = sk at *
  conv => cbv
  refine st_load hE cStr hp ?_
  conv => cbv
  obtain ⟨gb, hgb, _⟩ := ho.addr (by omega)
  refine st_idx hE tStrs hgb (by simp [hE.nat]) (by simp [hE.nat, hkn]) fun q hq => ?_
  conv => cbv
  refine st_set hr tStrs ho hgb hkn (by simpa [hE.nat] using hq) rfl fun w2 hb2 _ ho2 => ?_
  conv => cbv
  refine ⟨k + 1, by simp [Fits, lk, inc hE (show k < 9223372036854775807 by omega)], hI _ _ ⟨hxt.then hb2, by omega, ?_⟩, by omega⟩
  have e : ((xs.take k).map Value.string ++ List.replicate (n - k) (Value.string ⟨#[]⟩)).set k (.string sk) = (xs.take (k + 1)).map Value.string ++ List.replicate (n - (k + 1)) (Value.string ⟨#[]⟩) := by
   rw [ht, List.set_append_right _ _ (by simp; omega)]
   have : n - k = (n - (k + 1)) + 1 := by omega
   rw [this, List.replicate_succ]
   have e0 : k - ((xs.take k).map Value.string).length = 0 := by simp; omega
   rw [e0]; simp
  rw [← e]; exact ho2
 ·rename_i hkn
  have hkn : n ≤ k := by simpa [hE.cmp, cmpR, hE.nat, hx'] using hkn
  obtain rfl : k = n := by omega
  rw [g3_ (by omega)] at ho
  simp only [Nat.sub_self, List.replicate_zero, a7_] at ho
  conv => cbv
  rw [hR]; exact ⟨hxt, A1, k, k, rfl, ⟨hl, h.le, n1_ _, ho.cells, h.small⟩, ho⟩
theorem eqStringS_q {w : World} {A A' : Option Addr} {n n' c c' : Nat} {xs ys : List ByteArray} (h : Strs w A n c xs) (h' : Strs w A' n' c' ys) :
  QB Tryz.prog 49 [.slice A n c, .slice A' n' c'] w (xs = ys) := by
 refine QB.intro (cs := []) Tryz.func49 (by kernel_rfl) fun w hx0 w1 hs E R hE hr hR => ?_
 have h := h.ext hx0
 have h' := h'.ext hx0
 have hl := h.len
 have hl' := h'.len
 have hle := h.le
 conv => cbv
 refine st_len hE tStrs fun x hx => ?_
 conv => cbv
 refine st_len hE tStrs fun y hy => ?_
 conv => cbv
 split
 ·rename_i hn
  have hn : n ≠ n' := by simp [hE.cmp, cmpR] at hn; omega
  conv => cbv
  exact hR _ _ hs (by simp; intro e; subst e; omega)
 rename_i hn
 obtain rfl : n = n' := by simp [hE.cmp, cmpR] at hn; omega
 clear hn
 conv => cbv
 refine loop_rule hr (fun k w' => Same w w' ∧ k ≤ n ∧ xs.take k = ys.take k) (fun k => [(0, .slice A n c), (1, .slice A' n c'), (5, .int .i64 (E.nat k))]) (fun k => n - k) 0
  (by simp [Fits, lk, hE.nat]) (by simp [hs]) ?_
 clear hs
 rintro I hI k w' ⟨hs, hk, heq⟩
 conv => cbv
 refine st_len hE tStrs fun x' hx' => ?_
 conv => cbv
 split
 ·rename_i hkn
  have hkn : k < n := by simpa [hE.cmp, cmpR, hE.nat, hx'] using hkn
  conv => cbv
  refine draw_q hr fol (by kernel_rfl) fun E' hE' => ?_
  have gx := h.get hkn
  have gy := h'.get hkn
  conv => cbv
  refine st_elem hE' tStrs (h.same hs).cells (by simp [hl]) (by simp [hE.nat]) (by simp [hE.nat, hkn]) fun p v hv hp => ?_
  obtain rfl : v = .string (xs[k]'(by omega)) := by simpa [hE.nat, hl, hkn] using hv.symm
  generalize xs[k]'(by omega) = sk at *
  conv => cbv
  refine st_load hE' cStr hp ?_
  conv => cbv
  refine st_elem hE' tStrs (h'.same hs).cells (by simp [hl']) (by simp [hE.nat]) (by simp [hE.nat, hkn]) fun p v hv hp => ?_
  obtain rfl : v = .string (ys[k]'(by omega)) := by simpa [hE.nat, hl', hkn] using hv.symm
  generalize ys[k]'(by omega) = tk at *
  conv => cbv
  refine st_load hE' cStr hp ?_
  conv => cbv
  intro w2 hs2
  have hs := hs.trans hs2
  conv => cbv
  have hne : E'.scmp .neq sk tk = true ↔ sk ≠ tk := by rw [hE'.scmp]; exact scmp_neq _ _
  split
  ·rename_i hn
   conv => cbv
   refine hR _ _ hs ?_
   simp only [Bool.false_eq_true, false_iff]
   intro e; subst e; rw [gx] at gy; cases gy; exact hne.1 hn rfl
  ·rename_i hn
   have hn : sk = tk := Classical.not_not.1 (fun h => hn (hne.2 h))
   subst hn
   conv => cbv
   refine ⟨k + 1, by simp [Fits, lk, inc hE (show k < 9223372036854775807 by omega)], hI _ _ ⟨hs, by omega, ?_⟩, by omega⟩
   rw [g4_, g4_, heq, gx, gy]
 ·rename_i hkn
  have hkn : n ≤ k := by simpa [hE.cmp, cmpR, hE.nat, hx'] using hkn
  conv => cbv
  exact hR _ _ hs (by simpa [g3_ (show xs.length ≤ k by omega), g3_ (show ys.length ≤ k by omega)] using heq)
def isSet (xs : List ByteArray) : Prop := (∀ s ∈ xs, validName s) ∧ xs.Pairwise blt ∧ xs.length ≤ 64
theorem rise_snoc {xs : List ByteArray} {k : Nat} {s : ByteArray} (hs : xs[k]? = some s) (h : (xs.take k).Pairwise blt) (hk : 0 < k → ∃ t, xs[k - 1]? = some t ∧ blt t s) : (xs.take (k + 1)).Pairwise blt := by
 rw [g4_, hs, List.pairwise_append]
 refine ⟨h, by simp, fun a ha b hb => ?_⟩
 simp only [Option.toList_some, List.mem_singleton] at hb
 subst hb
 obtain ⟨i, hi⟩ := List.mem_iff_getElem?.1 ha
 rw [List.getElem?_take] at hi
 split at hi
 ·skip
  obtain ⟨t, ht, htb⟩ := hk (by omega)
  rcases Nat.lt_or_ge i (k - 1) with h1 | h1
  ·have hp := List.pairwise_iff_getElem.1 h i (k - 1)
   obtain ⟨hil, hie⟩ := List.getElem?_eq_some_iff.1 hi
   obtain ⟨htl, hte⟩ := List.getElem?_eq_some_iff.1 ht
   have := hp (by simp; omega) (by simp; omega) h1
   simp only [List.getElem_take] at this
   rw [hie, hte] at this
   exact blt_trans this htb
  ·obtain rfl : i = k - 1 := by omega
   rw [ht] at hi; cases hi; exact htb
 ·cases hi
theorem isSet_at {xs : List ByteArray} (h : xs.Pairwise blt) {i j : Nat} {s t : ByteArray} (hi : xs[i]? = some s) (hj : xs[j]? = some t) (hij : i < j) : blt s t := by
 obtain ⟨hil, hie⟩ := List.getElem?_eq_some_iff.1 hi
 obtain ⟨hjl, hje⟩ := List.getElem?_eq_some_iff.1 hj
 rw [← hie, ← hje]; exact List.pairwise_iff_getElem.1 h i j hil hjl hij
theorem IsSet_q {w : World} {A : Option Addr} {n c : Nat} {xs : List ByteArray} (h : Strs w A n c xs) : QB Tryz.prog 104 [.slice A n c] w (isSet xs) := by
 refine QB.intro (cs := []) Tryz.func104 (by kernel_rfl) fun w hx0 w1 hs E R hE hr hR => ?_
 have h := h.ext hx0
 have hl := h.len
 have hle := h.le
 conv => cbv
 refine st_len hE tStrs fun x hx => ?_
 conv => cbv
 refine loop_rule hr (fun k w' => Same w w' ∧ k ≤ n ∧ (∀ s ∈ xs.take k, validName s) ∧ (xs.take k).Pairwise blt) (fun k => [(0, .slice A n c), (5, .slice A n c), (6, .int .i64 x), (7, .int .i64 (E.nat k))]) (fun k => n - k) 0
  (by simp [Fits, lk, hE.nat]) (by simp [hs]) ?_
 clear hs
 rintro I hI k w' ⟨hs, hk, hv, hp⟩
 conv => cbv
 refine br (fun hkn => ?_) (fun hkn => ?_)
 ·skip
  have hkn : k < n := by simpa [hE.cmp, cmpR, hE.nat, hx] using hkn
  conv => cbv
  have gk := h.get hkn
  refine st_elem hE tStrs (h.same hs).cells (by simp [hl]) (by simp [hE.nat]) (by simp [hE.nat, hkn]) fun p v hv' hp' => ?_
  obtain rfl : v = .string (xs[k]'(by omega)) := by simpa [hE.nat, hl, hkn] using hv'.symm
  have hsm := h.small xs[k] (List.getElem_mem _)
  generalize xs[k]'(by omega) = sk at *
  conv => cbv
  refine st_load hE cStr hp' ?_
  conv => cbv
  refine st_qb hE (ValidName_q sk _ hsm) fun b hb w2 hs2 => ?_
  have hs := hs.trans hs2
  conv => cbv
  refine brn (fun hbt => ?_) (fun hbt => ?_)
  ·skip
   have hvs : validName sk := hb.1 hbt
   have hv1 : ∀ s ∈ xs.take (k + 1), validName s := by
    intro s hs'
    rw [g4_, gk] at hs'
    simp only [Option.toList_some, List.mem_append, List.mem_singleton] at hs'
    rcases hs' with h1 | rfl
    ·exact hv s h1
    ·exact hvs
   conv => cbv
   refine br (fun hk0 => ?_) (fun hk0 => ?_)
   ·skip
    have hk0 : 0 < k := by simpa [hE.cmp, cmpR, hE.nat] using hk0
    obtain ⟨k1, rfl⟩ : ∃ k1, k = k1 + 1 := ⟨k - 1, by omega⟩
    have e1 : E.ar .sub .i64 (E.nat (k1 + 1)) 1 = E.nat k1 := by simp only [hE.ar, arR, hE.nat, Int.ofNat_eq_natCast]; rw [wrap_in (by omega) (by omega)]; omega
    conv => cbv
    simp only [e1]
    have gk1 := h.get (show k1 < n by omega)
    refine st_elem hE tStrs (h.same hs).cells (by simp [hl]) (by simp [hE.nat]) (by simp [hE.nat]; omega) fun p v hv' hp' => ?_
    obtain rfl : v = .string (xs[k1]'(by omega)) := by
     simp only [hE.nat, Int.ofNat_eq_natCast, Int.toNat_natCast, List.getElem?_map, gk1, Option.map_some, Option.some.injEq] at hv'
     exact hv'.symm
    generalize xs[k1]'(by omega) = tk at *
    conv => cbv
    refine st_load hE cStr hp' ?_
    conv => cbv
    have hge : E.scmp .geq tk sk = true ↔ ¬ blt tk sk := by rw [hE.scmp]; exact scmp_geq _ _
    refine br (fun hn => ?_) (fun hn => ?_)
    ·skip
     have hn := hge.1 hn
     conv => cbv
     refine hR _ _ hs ?_
     simp only [Bool.false_eq_true, false_iff]
     exact fun hset => hn (isSet_at hset.2.1 gk1 gk (by omega))
    ·skip
     have hn : blt tk sk := Classical.not_not.1 (fun h' => hn (hge.2 h'))
     conv => cbv
     refine ⟨k1 + 1 + 1, by simp [Fits, lk, inc hE (show k1 + 1 < 9223372036854775807 by omega)], hI _ _ ⟨hs, by omega, hv1, rise_snoc gk hp fun _ => ⟨tk, gk1, hn⟩⟩, by omega⟩
   ·skip
    have hk0 : k = 0 := by simp [hE.cmp, cmpR, hE.nat] at hk0; omega
    conv => cbv
    refine ⟨k + 1, by simp [Fits, lk, inc hE (show k < 9223372036854775807 by omega)], hI _ _ ⟨hs, by omega, hv1, rise_snoc gk hp fun h0 => by omega⟩, by omega⟩
  ·skip
   conv => cbv
   refine hR _ _ hs ?_
   simp only [Bool.false_eq_true, false_iff]
   exact fun hset => hbt (hb.2 (hset.1 sk (m1_ gk)))
 ·skip
  have hkn : n ≤ k := by simpa [hE.cmp, cmpR, hE.nat, hx] using hkn
  rw [g3_ (by omega)] at hv hp
  conv => cbv
  refine st_len hE tStrs fun y hy => ?_
  conv => cbv
  refine hR _ _ hs ?_
  simp only [hE.cmp, cmpR, hy, decide_eq_true_eq, isSet]
  exact ⟨fun h1 => ⟨hv, hp, by omega⟩, fun h1 => by omega⟩
theorem sIsSet_q {w : World} {A : Option Addr} {n c : Nat} {xs : List ByteArray} (h : Strs w A n c xs) : QB Tryz.prog 95 [.slice A n c] w (isSet xs) := by
 refine QB.intro (cs := []) Tryz.func95 (by kernel_rfl) fun w hx0 w1 hs E R hE hr hR => ?_
 have h := h.ext hx0
 have hl := h.len
 have hle := h.le
 conv => cbv
 refine st_len hE tStrs fun x hx => ?_
 conv => cbv
 refine br (fun hn => ?_) (fun hn => ?_)
 ·skip
  have hn : 64 < n := by simp [hE.cmp, cmpR, hx] at hn; omega
  conv => cbv
  exact hR _ _ hs (by simp only [Bool.false_eq_true, false_iff]; exact fun h1 => by have := h1.2.2; omega)
 have hn : n ≤ 64 := by simp [hE.cmp, cmpR, hx] at hn; omega
 conv => cbv
 refine st_len hE tStrs fun x hx => ?_
 conv => cbv
 refine loop_rule hr (fun k w' => Same w w' ∧ k ≤ n ∧ (∀ s ∈ xs.take k, validName s) ∧ ∀ i j s t, i < k → i < j → xs[i]? = some s → xs[j]? = some t → blt s t) (fun k => [(0, .slice A n c), (9, .slice A n c), (10, .int .i64 x), (11, .int .i64 (E.nat k))]) (fun k => n - k) 0
  (by simp [Fits, lk, hE.nat]) (by simp [hs]) ?_
 clear hs
 rintro I hI k w' ⟨hs, hk, hv, hp⟩
 conv => cbv
 refine br (fun hkn => ?_) (fun hkn => ?_)
 ·skip
  have hkn : k < n := by simpa [hE.cmp, cmpR, hE.nat, hx] using hkn
  conv => cbv
  have gk := h.get hkn
  refine st_elem hE tStrs (h.same hs).cells (by simp [hl]) (by simp [hE.nat]) (by simp [hE.nat, hkn]) fun p v hv' hp' => ?_
  obtain rfl : v = .string (xs[k]'(by omega)) := by simpa [hE.nat, hl, hkn] using hv'.symm
  have hsm := h.small xs[k] (List.getElem_mem _)
  generalize xs[k]'(by omega) = sk at *
  conv => cbv
  refine st_load hE cStr hp' ?_
  conv => cbv
  refine st_qb hE (sValidName_q sk _ hsm) fun b hb w2 hs2 => ?_
  have hs := hs.trans hs2
  conv => cbv
  refine brn (fun hbt => ?_) (fun hbt => ?_)
  ·skip
   have hvs : validName sk := hb.1 hbt
   have hv1 : ∀ s ∈ xs.take (k + 1), validName s := by
    intro s hs'
    rw [g4_, gk] at hs'
    simp only [Option.toList_some, List.mem_append, List.mem_singleton] at hs'
    rcases hs' with h1 | rfl
    ·exact hv s h1
    ·exact hvs
   conv => cbv
   refine loop_rule hr (fun j w' => Same w w' ∧ k < j ∧ j ≤ n ∧ ∀ i t, k < i → i < j → xs[i]? = some t → blt sk t) (fun j => [(0, .slice A n c), (9, .slice A n c), (10, .int .i64 x), (11, .int .i64 (E.nat k)), (4, .string sk), (5, .int .i64 (E.nat j))]) (fun j => n - j) (k + 1)
    (by simp [Fits, lk, inc hE (show k < 9223372036854775807 by omega)]) ⟨hs, by omega, by omega, fun i t h1 h2 => by omega⟩ ?_
   clear hs
   rintro J hJ j w' ⟨hs, hkj, hj, hp2⟩
   conv => cbv
   refine st_len hE tStrs fun y hy => ?_
   conv => cbv
   refine br (fun hjn => ?_) (fun hjn => ?_)
   ·skip
    have hjn : j < n := by simpa [hE.cmp, cmpR, hE.nat, hy] using hjn
    conv => cbv
    have gj := h.get hjn
    refine st_elem hE tStrs (h.same hs).cells (by simp [hl]) (by simp [hE.nat]) (by simp [hE.nat, hjn]) fun p v hv' hp' => ?_
    obtain rfl : v = .string (xs[j]'(by omega)) := by simpa [hE.nat, hl, hjn] using hv'.symm
    generalize xs[j]'(by omega) = tk at *
    conv => cbv
    refine st_load hE cStr hp' ?_
    conv => cbv
    have hge : E.scmp .geq sk tk = true ↔ ¬ blt sk tk := by rw [hE.scmp]; exact scmp_geq _ _
    refine br (fun hn => ?_) (fun hn => ?_)
    ·skip
     have hn := hge.1 hn
     conv => cbv
     refine hR _ _ hs ?_
     simp only [Bool.false_eq_true, false_iff]
     exact fun hset => hn (isSet_at hset.2.1 gk gj hkj)
    ·skip
     have hn : blt sk tk := Classical.not_not.1 (fun h' => hn (hge.2 h'))
     conv => cbv
     refine ⟨j + 1, by simp [Fits, lk, inc hE (show j < 9223372036854775807 by omega)], hJ _ _ ⟨hs, by omega, by omega, fun i t h1 h2 h3 => ?_⟩, by omega⟩
     rcases Nat.lt_or_ge i j with h4 | h4
     ·exact hp2 i t h1 h4 h3
     ·obtain rfl : i = j := by omega
      rw [gj] at h3; cases h3; exact hn
   ·skip
    have hjn : n ≤ j := by simpa [hE.cmp, cmpR, hE.nat, hy] using hjn
    conv => cbv
    refine ⟨k + 1, by simp [Fits, lk, inc hE (show k < 9223372036854775807 by omega)], hI _ _ ⟨hs, by omega, hv1, fun i i' s t h1 h2 h3 h4 => ?_⟩, by omega⟩
    rcases Nat.lt_or_ge i k with h5 | h5
    ·exact hp i i' s t h5 h2 h3 h4
    ·obtain rfl : i = k := by omega
     rw [gk] at h3; cases h3
     exact hp2 i' t h2 (by have := (List.getElem?_eq_some_iff.1 h4).1; omega) h4
  ·skip
   conv => cbv
   refine hR _ _ hs ?_
   simp only [Bool.false_eq_true, false_iff]
   exact fun hset => hbt (hb.2 (hset.1 sk (m1_ gk)))
 ·skip
  have hkn : n ≤ k := by simpa [hE.cmp, cmpR, hE.nat, hx] using hkn
  rw [g3_ (by omega)] at hv
  conv => cbv
  refine hR _ _ hs ?_
  simp only [true_iff]
  exact ⟨hv, List.pairwise_iff_getElem.2 fun i j hi hj hij => hp i j _ _ (by omega) hij (g2_ hi) (g2_ hj), by omega⟩
theorem l1has_q {w : World} {A : Option Addr} {n c : Nat} {xs : List ByteArray} (h : Strs w A n c xs) (s : ByteArray) : QB Tryz.prog 162 [.slice A n c, .string s] w (s ∈ xs) := by
 refine QB.intro (cs := []) Tryz.func162 (by kernel_rfl) fun w hx0 w1 hs E R hE hr hR => ?_
 have h := h.ext hx0
 have hl := h.len
 have hle := h.le
 conv => cbv
 refine st_len hE tStrs fun x hx => ?_
 conv => cbv
 refine loop_rule hr (fun k w' => Same w w' ∧ k ≤ n ∧ s ∉ xs.take k) (fun k => [(0, .slice A n c), (1, .string s), (7, .slice A n c), (8, .int .i64 x), (9, .int .i64 (E.nat k))]) (fun k => n - k) 0
  (by simp [Fits, lk, hE.nat]) (by simp [hs]) ?_
 clear hs
 rintro I hI k w' ⟨hs, hk, hv⟩
 conv => cbv
 refine br (fun hkn => ?_) (fun hkn => ?_)
 ·have hkn : k < n := by simpa [hE.cmp, cmpR, hE.nat, hx] using hkn
  conv => cbv
  refine st_str hE tStrs (h.same hs) (nk hE k) hkn fun p t gk hsm hp => ?_
  conv => cbv
  refine st_load hE cStr hp ?_
  conv => cbv
  have heq : E.scmp .eql t s = true ↔ t = s := by rw [hE.scmp]; exact scmp_eql _ _
  refine br (fun he => ?_) (fun he => ?_)
  ·conv => cbv
   exact hR _ _ hs (by simp only [true_iff]; rw [← heq.1 he]; exact m1_ gk)
  ·conv => cbv
   refine ⟨k + 1, by simp [Fits, lk, inc hE (show k < 9223372036854775807 by omega)], hI _ _ ⟨hs, by omega, ?_⟩, by omega⟩
   rw [g4_, gk]
   simp only [Option.toList_some, List.mem_append, List.mem_singleton, not_or]
   exact ⟨hv, fun e => he (heq.2 e.symm)⟩
 ·have hkn : n ≤ k := by simpa [hE.cmp, cmpR, hE.nat, hx] using hkn
  rw [g3_ (by omega)] at hv
  conv => cbv
  exact hR _ _ hs (by simp only [Bool.false_eq_true, false_iff]; exact hv)
def picked (xs ys : List ByteArray) (b : Bool) : List ByteArray := xs.filter fun s => decide (s ∈ ys) == b
theorem l1pick_f {w : World} {A A' : Option Addr} {n c n' c' : Nat} {xs ys : List ByteArray} (h : Strs w A n c xs) (h' : Strs w A' n' c' ys) (b : Bool) (hb : n ≤ 1048576) :
  FC Tryz.prog 246 [.slice A n c, .slice A' n' c', .bool b] w (Copied w (picked xs ys b)) := by
 refine FC.intro (cs := []) Tryz.func246 (by kernel_rfl) fun E R hE hr hR => ?_
 have hl := h.len
 conv => cbv
 refine st_len hE tStrs fun x hx => ?_
 conv => cbv
 refine loop_rule hr (fun (s : Nat × Option Addr × Nat × Nat) w' => Ext w w' ∧ s.1 ≤ n ∧ s.2.2.1 ≤ s.1 ∧ Own w.heap.size 9 1 w' s.2.1 s.2.2.1 s.2.2.2 ((picked (xs.take s.1) ys b).map .string))
  (fun s => [(0, .slice A n c), (1, .slice A' n' c'), (2, .bool b), (7, .slice s.2.1 s.2.2.1 s.2.2.2), (10, .slice A n c), (11, .int .i64 x), (12, .int .i64 (E.nat s.1))]) (fun s => n - s.1) (0, none, 0, 0)
  (by simp [Fits, lk, hE.nat]) ⟨Ext.refl w, by simp, by simp, by simpa [picked] using Own.nil⟩ ?_
 rintro I hI ⟨k, A1, n1, c1⟩ w' ⟨hxt, hk, hn1, ho⟩
 simp only at hk hn1 ho
 conv => cbv
 refine br (fun hkn => ?_) (fun hkn => ?_)
 ·have hkn : k < n := by simpa [hE.cmp, cmpR, hE.nat, hx] using hkn
  conv => cbv
  refine st_str hE tStrs (h.ext hxt) (nk hE k) hkn fun p s gk hsm hp => ?_
  conv => cbv
  refine st_load hE cStr hp ?_
  conv => cbv
  refine st_qb hE (l1has_q (h'.ext hxt) s) fun v hv w2 hs2 => ?_
  have hxt := hxt.trans hs2.ext
  have ho := ho.bel hs2.ext
  conv => cbv
  refine st_beq hE uBool fun u hu => ?_
  conv => cbv
  have ht : picked (xs.take (k + 1)) ys b = picked (xs.take k) ys b ++ if u = true then [s] else [] := by
   rw [g4_, gk, picked, List.filter_append]
   congr 1
   have : (decide (s ∈ ys) == b) = u := by rw [Bool.eq_iff_iff, hu, hv, beq_iff_eq, Bool.eq_iff_iff, decide_eq_true_eq]
   simp [this, List.filter_cons]
  refine br (fun he => ?_) (fun he => ?_)
  ·rw [if_pos he] at ht
   conv => cbv
   refine st_one hr tStrs rfl rfl fun A2 w3 hx3 hc3 => ?_
   have hxt := hxt.trans hx3
   conv => cbv
   refine st_app hr tStrs rfl (ho.bel hx3) hc3 rfl hxt.size (by omega) (by omega) fun A3 c3 n3 w4 hn3 hb4 ho4 => ?_
   conv => cbv
   refine ⟨(k + 1, A3, n3, c3), by simp [Fits, lk, inc hE (show k < 9223372036854775807 by omega)], hI _ _ ⟨hxt.then hb4, by simp only; omega, by simp only; omega, ?_⟩, by simp only; omega⟩
   simp only; rw [ht, List.map_append]; exact ho4
  ·rw [if_neg he, a7_] at ht
   conv => cbv
   refine ⟨(k + 1, A1, n1, c1), by simp [Fits, lk, inc hE (show k < 9223372036854775807 by omega)], hI _ _ ⟨hxt, by simp only; omega, by simp only; omega, by simp only; rw [ht]; exact ho⟩, by simp only; omega⟩
 ·have hkn : n ≤ k := by simpa [hE.cmp, cmpR, hE.nat, hx] using hkn
  rw [g3_ (by omega)] at ho
  conv => cbv
  rw [hR]; exact ⟨hxt, A1, n1, c1, rfl, ho.strs fun s hs => h.small s ((List.mem_filter.1 hs).1), ho⟩
structure MS where
 A1 : Option Addr
 n1 : Nat
 c1 : Nat
 r1 : List ByteArray
 A2 : Option Addr
 n2 : Nat
 c2 : Nat
 r2 : List ByteArray
 A3 : Option Addr
 n3 : Nat
 c3 : Nat
 out : List ByteArray
def ahead : List ByteArray → List ByteArray → Prop
 | _, [] => True
 | [], _ => False
 | x :: _, y :: _ => ¬ blt y x
theorem ahead_iff {w : World} {A1 A2 : Option Addr} {n1 c1 n2 c2 : Nat} {r1 r2 : List ByteArray} (h1 : Strs w A1 n1 c1 r1) (h2 : Strs w A2 n2 c2 r2) :
  (n2 = 0 → ahead r1 r2) ∧ (n2 ≠ 0 → n1 = 0 → ¬ ahead r1 r2) ∧ ∀ x y, r1[0]? = some x → r2[0]? = some y → (ahead r1 r2 ↔ ¬ blt y x) := by
 have l1 := h1.len
 have l2 := h2.len
 cases r1 <;> cases r2 <;> simp [ahead] at * <;> omega
set_option maxRecDepth 100000 in
theorem merge_f {w : World} {A A' : Option Addr} {n c n' c' : Nat} {xs ys : List ByteArray} (h : Strs w A n c xs) (h' : Strs w A' n' c' ys) (keep : Bool → Bool → Bool) {kf : FuncId} (hkf : ∀ a b w, QB Tryz.prog kf [.bool a, .bool b] w (keep a b = true)) (hb : n + n' ≤ 2097152) :
  FC Tryz.prog 284 [.slice A n c, .slice A' n' c', .func (.func kf) #[] #[]] w (Copied w (mrg keep xs ys)) := by
 refine FC.intro (cs := [3, 8, 10]) Tryz.func284 (by kernel_rfl) fun E R hE hr hR => ?_
 conv => cbv
 refine st_none hr tStrs fun A0 w0 hx0 ho0 => ?_
 conv => cbv
 let I : MS → World → Prop := fun s w' => Ext w w' ∧ Strs w s.A1 s.n1 s.c1 s.r1 ∧ Strs w s.A2 s.n2 s.c2 s.r2 ∧ Own w.heap.size 9 1 w' s.A3 s.n3 s.c3 (s.out.map .string) ∧ s.out ++ mrg keep s.r1 s.r2 = mrg keep xs ys ∧ s.n1 + s.n2 + s.n3 ≤ 2097152 ∧ ∀ t ∈ s.out, t.size ≤ 9223372036854775807
 refine loop_rulec [3, 8, 10] hr I (fun s => [(0, .slice s.A1 s.n1 s.c1), (1, .slice s.A2 s.n2 s.c2), (2, .func (.func kf) #[] #[]), (7, .slice s.A3 s.n3 s.c3)]) (fun s => s.n1 + s.n2) ⟨A, n, c, xs, A', n', c', ys, A0, 0, 0, []⟩ (by simp [Fits, lk]) ⟨hx0, h, h', ho0 _ (n1_ _), by simp, by simpa using hb, by simp⟩ ?_
 clear hx0 ho0
 rintro J hJ ⟨A1, n1, c1, r1, A2, n2, c2, r2, A3, n3, c3, out⟩ w' ⟨hxt, g1, g2, ho, hm, hbd, hsz⟩
 simp only at hxt g1 g2 ho hm hbd hsz
 conv => cbv
 refine cut_rule [3, 8, 10] [3, 8, 10] hr (fun (_ : Unit) w'' => w'' = w' ∧ (n1 ≠ 0 ∨ n2 ≠ 0)) (fun _ => [(0, .slice A1 n1 c1), (1, .slice A2 n2 c2), (2, .func (.func kf) #[] #[]), (7, .slice A3 n3 c3)]) ?_ ?_
 ·intro I' hI'
  conv => cbv
  refine st_len hE tStrs fun x hx => ?_
  conv => cbv
  refine br (fun h0 => ?_) (fun h0 => ?_)
  ·conv => cbv
   exact ⟨(), by simp [Fits, lk], hI' _ _ ⟨rfl, .inl (by simp [hE.cmp, cmpR, hx] at h0; omega)⟩⟩
  ·have h0 : n1 = 0 := by simp [hE.cmp, cmpR, hx] at h0; omega
   conv => cbv
   refine st_len hE tStrs fun y hy => ?_
   conv => cbv
   refine br (fun h1 => ?_) (fun h1 => ?_)
   ·conv => cbv
    exact ⟨(), by simp [Fits, lk], hI' _ _ ⟨rfl, .inr (by simp [hE.cmp, cmpR, hy] at h1; omega)⟩⟩
   ·have h1 : n2 = 0 := by simp [hE.cmp, cmpR, hy] at h1; omega
    conv => cbv
    have e1 : r1 = [] := List.eq_nil_of_length_eq_zero (by rw [g1.len, h0])
    have e2 : r2 = [] := List.eq_nil_of_length_eq_zero (by rw [g2.len, h1])
    rw [e1, e2] at hm
    simp only [mrg, a7_] at hm
    rw [hR]; exact ⟨hxt, A3, n3, c3, rfl, by rw [← hm]; exact ho.strs hsz, by rw [← hm]; exact ho⟩
 rintro _ _ ⟨rfl, hne⟩
 have hA := ahead_iff g1 g2
 have hB := ahead_iff g2 g1
 conv => cbv
 refine draw_c hr fol (by kernel_rfl) (fun v : Bool => v = true ↔ ahead r1 r2) (fun v => [(0, .slice A1 n1 c1), (1, .slice A2 n2 c2), (2, .func (.func kf) #[] #[]), (7, .slice A3 n3 c3), (8, .bool v)]) (fun E' hE' I' hI' => ?_) ?_
 ·conv => cbv
  refine st_len hE' tStrs fun x hx => ?_
  conv => cbv
  refine br (fun h0 => ?_) (fun h0 => ?_)
  ·conv => cbv
   have h0 : n2 = 0 := by simp [hE'.cmp, cmpR, hx] at h0; omega
   exact ⟨true, by simp [Fits, lk], hI' _ (by simp [hA.1 h0])⟩
  ·have h0 : n2 ≠ 0 := by simp [hE'.cmp, cmpR, hx] at h0; omega
   conv => cbv
   refine st_len hE' tStrs fun y hy => ?_
   conv => cbv
   refine br (fun h1 => ?_) (fun h1 => ?_)
   ·have h1 : 0 < n1 := by simp [hE'.cmp, cmpR, hy] at h1; omega
    conv => cbv
    refine st_str hE' tStrs (g1.ext hxt) (k := 0) rfl h1 fun p1 s1 gk1 _ hp1 => ?_
    conv => cbv
    refine st_load hE' cStr hp1 ?_
    conv => cbv
    refine st_str hE' tStrs (g2.ext hxt) (k := 0) rfl (by omega) fun p2 s2 gk2 _ hp2 => ?_
    conv => cbv
    refine st_load hE' cStr hp2 ?_
    conv => cbv
    exact ⟨E'.scmp .leq s1 s2, by simp [Fits, lk], hI' _ (by rw [hE'.scmp, scmp_leq, hA.2.2 _ _ gk1 gk2])⟩
   ·have h1 : n1 = 0 := by simp [hE'.cmp, cmpR, hy] at h1; omega
    conv => cbv
    exact ⟨false, by simp [Fits, lk], hI' _ (by simp [hA.2.1 h0 h1])⟩
 intro pa w1 hpa hs1
 conv => cbv
 refine draw_c hr fol (by kernel_rfl) (fun v : Bool => v = true ↔ ahead r2 r1) (fun v => [(0, .slice A1 n1 c1), (1, .slice A2 n2 c2), (2, .func (.func kf) #[] #[]), (7, .slice A3 n3 c3), (8, .bool pa), (9, .bool v)]) (fun E' hE' I' hI' => ?_) ?_
 ·conv => cbv
  refine st_len hE' tStrs fun x hx => ?_
  conv => cbv
  refine br (fun h0 => ?_) (fun h0 => ?_)
  ·conv => cbv
   have h0 : n1 = 0 := by simp [hE'.cmp, cmpR, hx] at h0; omega
   exact ⟨true, by simp [Fits, lk], hI' _ (by simp [hB.1 h0])⟩
  ·have h0 : n1 ≠ 0 := by simp [hE'.cmp, cmpR, hx] at h0; omega
   conv => cbv
   refine st_len hE' tStrs fun y hy => ?_
   conv => cbv
   refine br (fun h1 => ?_) (fun h1 => ?_)
   ·have h1 : 0 < n2 := by simp [hE'.cmp, cmpR, hy] at h1; omega
    conv => cbv
    refine st_str hE' tStrs (g2.ext (hxt.trans hs1.ext)) (k := 0) rfl h1 fun p1 s1 gk1 _ hp1 => ?_
    conv => cbv
    refine st_load hE' cStr hp1 ?_
    conv => cbv
    refine st_str hE' tStrs (g1.ext (hxt.trans hs1.ext)) (k := 0) rfl (by omega) fun p2 s2 gk2 _ hp2 => ?_
    conv => cbv
    refine st_load hE' cStr hp2 ?_
    conv => cbv
    exact ⟨E'.scmp .leq s1 s2, by simp [Fits, lk], hI' _ (by rw [hE'.scmp, scmp_leq, hB.2.2 _ _ gk1 gk2])⟩
   ·have h1 : n2 = 0 := by simp [hE'.cmp, cmpR, hy] at h1; omega
    conv => cbv
    exact ⟨false, by simp [Fits, lk], hI' _ (by simp [hB.2.1 h0 h1])⟩
 intro pb w2 hpb hs2
 have hs := hs1.trans hs2
 conv => cbv
 refine cut_rule [3, 8, 10] [3, 8, 10] hr (fun (q : ByteArray × Option Addr × Nat × Nat × List ByteArray) w'' => Same w2 w'' ∧ Strs w q.2.1 q.2.2.1 q.2.2.2.1 q.2.2.2.2 ∧ q.1.size ≤ 9223372036854775807 ∧ (pa = true → r1 = q.1 :: q.2.2.2.2) ∧ (pa = false → r1 = q.2.2.2.2))
  (fun q => [(0, .slice q.2.1 q.2.2.1 q.2.2.2.1), (1, .slice A2 n2 c2), (2, .func (.func kf) #[] #[]), (7, .slice A3 n3 c3), (8, .bool pa), (9, .bool pb), (10, .string q.1)]) ?_ ?_
 ·intro I' hI'
  conv => cbv
  refine br (fun ht => ?_) (fun ht => ?_)
  ·have h1 : n1 ≠ 0 := fun e => by
    rcases hne with h | h
    ·exact h e
    ·exact hA.2.1 h e (hpa.1 ht)
   conv => cbv
   refine draw_q hr fol (by kernel_rfl) fun E' hE' => ?_
   conv => cbv
   refine st_str hE' tStrs (g1.ext (hxt.trans hs.ext)) (k := 0) rfl (by omega) fun p1 s1 gk1 hsm hp1 => ?_
   conv => cbv
   refine st_load hE' cStr hp1 ?_
   conv => cbv
   refine st_strsFrom hE' tStrs g1 (lo := 1) rfl (by omega) fun A5 n5 c5 _ h5 => ?_
   conv => cbv
   intro w3 hs3
   conv => cbv
   refine ⟨(s1, A5, n5, c5, r1.drop 1), by simp [Fits, lk], hI' _ _ ⟨hs3, h5, hsm, fun _ => ?_, fun h => (by rw [ht] at h; cases h)⟩⟩
   cases hr1 : r1 with
   | nil => rw [hr1] at gk1; cases gk1
   | cons a l => rw [hr1] at gk1; simp at gk1; simp [gk1]
  ·have ht : pa = false := by simpa using ht
   conv => cbv
   exact ⟨(⟨#[]⟩, A1, n1, c1, r1), by simp [Fits, lk], hI' _ _ ⟨Same.refl _, g1, Nat.zero_le _, fun h => (by rw [ht] at h; cases h), fun _ => rfl⟩⟩
 rintro ⟨x, A5, n5, c5, r5⟩ w3 ⟨hs3, g5, hxs, hpt, hpf⟩
 simp only at g5 hxs hpt hpf
 have hs := hs.trans hs3
 conv => cbv
 refine cut_rule [3, 8, 10] [3, 8, 10] hr (fun (q : ByteArray × Option Addr × Nat × Nat × List ByteArray) w'' => Same w3 w'' ∧ Strs w q.2.1 q.2.2.1 q.2.2.2.1 q.2.2.2.2 ∧ q.1.size ≤ 9223372036854775807 ∧ (pb = true → r2 = q.1 :: q.2.2.2.2) ∧ (pb = false → r2 = q.2.2.2.2 ∧ q.1 = x))
  (fun q => [(0, .slice A5 n5 c5), (1, .slice q.2.1 q.2.2.1 q.2.2.2.1), (2, .func (.func kf) #[] #[]), (7, .slice A3 n3 c3), (8, .bool pa), (9, .bool pb), (10, .string q.1)]) ?_ ?_
 ·intro I' hI'
  conv => cbv
  refine br (fun ht => ?_) (fun ht => ?_)
  ·have h1 : n2 ≠ 0 := fun e => by
    rcases hne with h | h
    ·exact hB.2.1 h e (hpb.1 ht)
    ·exact h e
   conv => cbv
   refine draw_q hr fol (by kernel_rfl) fun E' hE' => ?_
   conv => cbv
   refine st_str hE' tStrs (g2.ext (hxt.trans hs.ext)) (k := 0) rfl (by omega) fun p1 s1 gk1 hsm hp1 => ?_
   conv => cbv
   refine st_load hE' cStr hp1 ?_
   conv => cbv
   refine st_strsFrom hE' tStrs g2 (lo := 1) rfl (by omega) fun A6 n6 c6 _ h6 => ?_
   conv => cbv
   intro w4 hs4
   conv => cbv
   refine ⟨(s1, A6, n6, c6, r2.drop 1), by simp [Fits, lk], hI' _ _ ⟨hs4, h6, hsm, fun _ => ?_, fun h => (by rw [ht] at h; cases h)⟩⟩
   cases hr2 : r2 with
   | nil => rw [hr2] at gk1; cases gk1
   | cons a l => rw [hr2] at gk1; simp at gk1; simp [gk1]
  ·have ht : pb = false := by simpa using ht
   conv => cbv
   exact ⟨(x, A2, n2, c2, r2), by simp [Fits, lk], hI' _ _ ⟨Same.refl _, g2, hxs, fun h => (by rw [ht] at h; cases h), fun _ => ⟨rfl, rfl⟩⟩⟩
 rintro ⟨y, A6, n6, c6, r6⟩ w4 ⟨hs4, g6, hys, hqt, hqf⟩
 simp only at g6 hys hqt hqf
 have hs := hs.trans hs4
 have ho := ho.bel hs.ext
 have hxt := hxt.trans hs.ext
 have l5 := g5.len
 have l6 := g6.len
 have l1 := g1.len
 have l2 := g2.len
 have key : mrg keep r1 r2 = (if keep pa pb = true then [y] else []) ++ mrg keep r5 r6 ∧ n5 + n6 < n1 + n2 := by
  cases pa <;> cases pb
  ·have e1 := hpf rfl
   obtain ⟨e2, _⟩ := hqf rfl
   exfalso
   rcases Nat.eq_zero_or_pos n2 with h0 | h0
   ·exact absurd (hpa.2 (hA.1 h0)) (by simp)
   ·rcases Nat.eq_zero_or_pos n1 with h1 | h1
    ·exact absurd (hpb.2 (hB.1 h1)) (by simp)
    ·obtain ⟨a, ha⟩ : ∃ a, r1[0]? = some a := ⟨_, g2_ (by omega)⟩
     obtain ⟨b, hb⟩ : ∃ b, r2[0]? = some b := ⟨_, g2_ (by omega)⟩
     have k1 : blt b a := Classical.not_not.1 fun k => absurd (hpa.2 ((hA.2.2 a b ha hb).2 k)) (by simp)
     have k2 : blt a b := Classical.not_not.1 fun k => absurd (hpb.2 ((hB.2.2 b a hb ha).2 k)) (by simp)
     exact blt_asymm k1 k2
  ·have e1 := hpf rfl
   have e2 := hqt rfl
   subst e1 e2
   refine ⟨?_, by simp only [a3_] at l2; omega⟩
   have k1 : ¬ ahead r1 (y :: r6) := fun k => absurd (hpa.2 k) (by simp)
   cases r1 with
   | nil => rw [mrg]
   | cons a l =>
    have k2 : blt y a := Classical.not_not.1 k1
    rw [mrg, if_neg (fun e => blt_ne k2 e.symm), if_neg (blt_asymm k2)]
  ·have e1 := hpt rfl
   obtain ⟨e2, e3⟩ := hqf rfl
   subst e1 e2 e3
   refine ⟨?_, by simp only [a3_] at l1; omega⟩
   have k1 : ¬ ahead r2 (y :: r5) := fun k => absurd (hpb.2 k) (by simp)
   cases r2 with
   | nil => rw [mrg]
   | cons b l =>
    have k2 : blt y b := Classical.not_not.1 k1
    rw [mrg, if_neg (blt_ne k2), if_pos k2]
  ·have e1 := hpt rfl
   have e2 := hqt rfl
   subst e1 e2
   refine ⟨?_, by simp only [a3_] at l1 l2; omega⟩
   have k1 : ¬ blt y x := hpa.1 rfl
   have k2 : ¬ blt x y := hpb.1 rfl
   have e : x = y := Classical.byContradiction fun k => k1 (blt_tri k2 k)
   rw [mrg, if_pos e, e]
 obtain ⟨key, hless⟩ := key
 rw [key] at hm
 clear hA hB hpa hpb hpt hpf hqt hqf g1 g2 hne key
 conv => cbv
 refine st_qb hE (hkf pa pb _) fun v hv w5 hs5 => ?_
 have hxt := hxt.trans hs5.ext
 have ho := ho.bel hs5.ext
 conv => cbv
 refine br (fun ht => ?_) (fun ht => ?_)
 ·rw [if_pos (hv.1 ht)] at hm
  conv => cbv
  refine st_one hr tStrs rfl rfl fun A7 w6 hx6 hc6 => ?_
  have hxt := hxt.trans hx6
  conv => cbv
  refine st_app hr tStrs rfl (ho.bel hx6) hc6 rfl hxt.size (by omega) (by omega) fun A8 c8 n8 w7 hn8 hb7 ho7 => ?_
  conv => cbv
  refine ⟨⟨A5, n5, c5, r5, A6, n6, c6, r6, A8, n8, c8, out ++ [y]⟩, by simp [Fits, lk], hJ _ _ ⟨hxt.then hb7, ?_, ?_, ?_, ?_, ?_, ?_⟩, hless⟩
  ·exact g5
  ·exact g6
  ·simp only; rw [List.map_append]; exact ho7
  ·simp only; rw [← hm, List.append_assoc]
  ·simp only; omega
  ·simp only [List.mem_append, List.mem_singleton]
   rintro t (h | rfl)
   ·exact hsz t h
   ·exact hys
 ·rw [if_neg (fun h => ht (hv.2 h)), a2_] at hm
  conv => cbv
  exact ⟨⟨A5, n5, c5, r5, A6, n6, c6, r6, A3, n3, c3, out⟩, by simp [Fits, lk], hJ _ _ ⟨hxt, g5, g6, ho, hm, by simp only; omega, hsz⟩, hless⟩
def digs : Nat → List UInt8
 | 0 => []
 | n + 1 => digs ((n + 1) / 10) ++ [UInt8.ofNat (48 + (n + 1) % 10)]
termination_by n => n
decreasing_by omega
theorem digs_pos {n : Nat} (h : 0 < n) : digs n = digs (n / 10) ++ [UInt8.ofNat (48 + n % 10)] := by
 obtain ⟨m, rfl⟩ : ∃ m, n = m + 1 := ⟨n - 1, by omega⟩
 rw [digs]
theorem digs_len (n : Nat) (k : Nat) (h : n < 10 ^ k) : (digs n).length ≤ k := by
 induction k generalizing n with
 | zero => have : n = 0 := by omega
           subst this; simp [digs]
 | succ k ih =>
  rcases Nat.eq_zero_or_pos n with h0 | h0
  ·subst h0; simp [digs]
  ·rw [digs_pos h0]
   have := ih (n / 10) (by rw [Nat.pow_succ] at h; omega)
   simp; omega
def mkText (k : Int) : ByteArray := if k ≤ 0 then ⟨#[109, 48]⟩ else ⟨#[109]⟩ ++ ⟨(digs k.toNat).toArray⟩
theorem append_size (a b : ByteArray) : (a ++ b).size = a.size + b.size := ByteArray.size_append
theorem mk_append (a b : List UInt8) : (⟨a.toArray⟩ : ByteArray) ++ ⟨b.toArray⟩ = ⟨(a ++ b).toArray⟩ := by
 apply ByteArray.ext; simp
theorem mkText_size (k : Int) (h : k ≤ 9223372036854775807) : (mkText k).size ≤ 100 := by
 unfold mkText
 split
 ·decide
 ·rw [append_size]
  have := digs_len k.toNat 19 (by omega)
  simp only [ByteArray.size, List.size_toArray, a3_, a4_]
  omega
theorem markText_v (k0 : Int) (w : World) (hk0 : k0 ≤ 9223372036854775807) : VF Tryz.prog 113 [.int .i64 k0] w (.string (mkText k0)) := by
 refine VF.intro (cs := []) Tryz.func113 (by kernel_rfl) fun w hx0 E R hE hr hR => ?_
 clear hx0
 conv => cbv
 refine br (fun h0 => ?_) (fun h0 => ?_)
 ·have h0 : k0 ≤ 0 := by simpa [hE.cmp, cmpR] using h0
  conv => cbv
  rw [hR]; exact ⟨by simp only [one, mkText]; rw [if_pos h0], Ext.refl w⟩
 have h0 : 0 < k0 := by simp [hE.cmp, cmpR] at h0; omega
 conv => cbv
 refine loop_rule hr (fun (s : Nat × ByteArray) w' => Ext w w' ∧ ∃ l, s.2 = ⟨l.toArray⟩ ∧ digs s.1 ++ l = digs k0.toNat ∧ s.1 ≤ k0.toNat) (fun s => [(0, .int .i64 (E.nat s.1)), (3, .string s.2)]) (fun s => s.1) (k0.toNat, ⟨#[]⟩)
  (by simp [Fits, lk, hE.nat]; omega) ⟨Ext.refl w, [], rfl, by simp, by simp⟩ ?_
 rintro I hI ⟨k, out⟩ w' ⟨hx, l, hl, hd, hk⟩
 simp only at hl hd hk
 conv => cbv
 refine br (fun h1 => ?_) (fun h1 => ?_)
 ·have h1 : 0 < k := by simpa [hE.cmp, cmpR, hE.nat] using h1
  conv => cbv
  refine st_rem hE (by omega) fun r hr' => ?_
  simp only [nk hE] at hr'
  have hr2 : r = ((k % 10 : Nat) : Int) := by rw [hr', Int.tmod_eq_emod_of_nonneg (by omega)]; omega
  conv => cbv
  obtain ⟨y, hy⟩ : ∃ y, y = 48 + r := ⟨_, rfl⟩
  have e1 : E.ar .add .i64 48 r = y := by rw [hE.ar, hy]; exact wrap_in (by omega) (by omega)
  simp only [e1]
  refine st_conv hE ⟨_, uInt⟩ uU8 fun z hz => ?_
  have hz2 : z = ((UInt8.ofNat (48 + k % 10)).toNat : Int) := by
   rw [hz, hy, hr2]; simp [IntKind.wrap, IntKind.signed, IntKind.bits]
  conv => cbv
  refine st_one hr tBytes rfl rfl fun A1 w1 hx1 hc1 => ?_
  conv => cbv
  refine st_b2s hE Tryz.underlying65 uU8 uStr (bs := [UInt8.ofNat (48 + k % 10)]) rfl (by rw [hz2] at hc1; exact hc1) ?_
  obtain ⟨u, hu⟩ : ∃ u : ByteArray, u = ⟨[UInt8.ofNat (48 + k % 10)].toArray⟩ := ⟨_, rfl⟩
  rw [← hu]
  conv => cbv
  have hlen : l.length ≤ 19 := by
   have := digs_len k0.toNat 19 (by omega)
   rw [← hd] at this; simp at this; omega
  refine st_cat hE (by rw [hu, hl]; simp [ByteArray.size]; omega) fun v hv => ?_
  conv => cbv
  refine st_quo hE (by omega) fun q hq => ?_
  simp only [nk hE] at hq
  have hq2 : q = ((k / 10 : Nat) : Int) := by
   rw [hq, Int.tdiv_eq_ediv_of_nonneg (by omega), wrap_in] <;> omega
  conv => cbv
  refine ⟨(k / 10, v), by simp [Fits, lk, hE.nat, hq2], hI _ _ ⟨hx.trans hx1, UInt8.ofNat (48 + k % 10) :: l, ?_, ?_, ?_⟩, by simp only; omega⟩
  ·simp only; rw [hv, hu, hl, mk_append]; rfl
  ·simp only; rw [← hd, digs_pos h1]; simp
  ·simp only; omega
 ·have h1 : k = 0 := by simp [hE.cmp, cmpR, hE.nat] at h1; omega
  subst h1
  conv => cbv
  have hlen : l.length ≤ 19 := by
   have := digs_len k0.toNat 19 (by omega)
   rw [← hd] at this; simp at this; omega
  refine st_cat hE (by rw [hl]; simp [ByteArray.size]; omega) fun v hv => ?_
  conv => cbv
  rw [hR]; refine ⟨?_, hx⟩
  simp only [one, mkText]; rw [if_neg (by omega), hv, hl]
  rw [show l = digs k0.toNat by rw [← hd]; simp [digs]]
def marks (k : Int) (n : Nat) : List ByteArray := (List.range n).map fun (i : Nat) => mkText (k + i)
theorem marks_len (k : Int) (n : Nat) : (marks k n).length = n := by simp [marks]
theorem marks_get {k : Int} {n i : Nat} (h : i < n) : (marks k n)[i]? = some (mkText (k + i)) := by simp [marks, h]
theorem marks_small {k : Int} {n : Nat} (h : k + n ≤ 9223372036854775807) : ∀ s ∈ marks k n, s.size ≤ 9223372036854775807 := by
 intro s hs
 simp only [marks, List.mem_map, List.mem_range] at hs
 obtain ⟨i, hi, rfl⟩ := hs
 have := mkText_size (k + i) (by omega)
 omega
theorem inc' {E : Sym} (hE : Eng Tryz.prog E) {z : Int} (h0 : -9223372036854775808 ≤ z) (h : z < 9223372036854775807) : E.ar .add .i64 z 1 = z + 1 := by
 rw [hE.ar]; exact wrap_in (by omega) (by omega)
theorem markStringS_g {w : World} {B : Nat} {A : Option Addr} {n c : Nat} {xs : List ByteArray} (h : Own B 9 1 w A n c (xs.map .string)) (k : Int) (hk : 0 ≤ k) (hkn : k + n < 9223372036854775807) :
  GC Tryz.prog 52 [.slice A n c, .int .i64 k] w fun v w' => v = .int .i64 (k + n) ∧ Own B 9 1 w' A n c ((marks k n).map .string) ∧ Wr A w w' := by
 refine GC.intro (cs := []) Tryz.func52 (by kernel_rfl) fun E R hE hr hR => ?_
 have hl := h.len
 rw [List.length_map, Nat.mul_one] at hl
 conv => cbv
 refine loop_rule hr (fun (s : Nat × Int) w' => s.1 ≤ n ∧ s.2 = k + s.1 ∧ Wr A w w' ∧ Own B 9 1 w' A n c ((marks k s.1 ++ xs.drop s.1).map .string)) (fun s => [(0, .slice A n c), (1, .int .i64 s.2), (5, .int .i64 (E.nat s.1))]) (fun s => n - s.1) (0, k)
  (by simp [Fits, lk, hE.nat]) ⟨by simp, by simp, Wr.refl _ _, by simpa [marks] using h⟩ ?_
 rintro I hI ⟨i, z⟩ w' ⟨hi, hz, hw, ho⟩
 simp only at hi hz ho
 conv => cbv
 refine st_len hE tStrs fun x hx => ?_
 conv => cbv
 refine br (fun h1 => ?_) (fun h1 => ?_)
 ·have h1 : i < n := by simpa [hE.cmp, cmpR, hE.nat, hx] using h1
  conv => cbv
  obtain ⟨u, hu⟩ : ∃ u, u = mkText z := ⟨_, rfl⟩
  refine st_v hr (v := .string u) (by rw [hu]; exact markText_v z _ (by omega)) fun w2 hx2 => ?_
  have hw := hw.trans (hx2.wr A)
  have ho := ho.bel hx2
  conv => cbv
  obtain ⟨g, hg, _⟩ := ho.addr (by omega)
  refine st_idx hE tStrs hg (by simp [hE.nat]) (by simp [hE.nat, h1]) fun q hq => ?_
  conv => cbv
  refine st_set hr tStrs ho hg h1 (by simpa [hE.nat] using hq) rfl fun w3 _ hw3 ho3 => ?_
  have hw := hw.trans hw3
  obtain ⟨z', hz'⟩ : ∃ z', z' = z + 1 := ⟨_, rfl⟩
  have e1 : E.ar .add .i64 z 1 = z' := by rw [hz']; exact inc' hE (by omega) (by omega)
  conv => cbv
  refine ⟨(i + 1, z'), by simp [Fits, lk, inc hE (show i < 9223372036854775807 by omega), e1], hI _ _ ⟨by simp only; omega, by simp only; omega, hw, ?_⟩, by simp only; omega⟩
  have e : (marks k (i + 1) ++ xs.drop (i + 1)).map Value.string = ((marks k i ++ xs.drop i).map Value.string).set i (.string u) := by
   rw [← List.map_set, List.set_append_right _ _ (by rw [marks_len]; omega), marks_len, Nat.sub_self, List.drop_eq_getElem_cons (show i < xs.length by omega)]
   simp only [b4_, marks, List.range_succ, List.map_append, b2_, b3_, List.append_assoc, List.cons_append, a2_]
   rw [hu, hz]
  simp only; rw [e]; exact ho3
 ·have h1 : i = n := by simp [hE.cmp, cmpR, hE.nat, hx] at h1; omega
  subst h1
  rw [List.drop_of_length_le (by omega), a7_] at ho
  conv => cbv
  rw [hR]; exact ⟨by rw [hz]; rfl, ho, hw⟩
theorem heldStringS_v {w : World} {A : Option Addr} {n c : Nat} {k : Int} (h : Strs w A n c (marks k n)) (hk : 0 ≤ k) (hkn : k + n < 9223372036854775807) :
  VF Tryz.prog 114 [.slice A n c, .int .i64 k] w (.int .i64 (k + n)) := by
 refine VF.intro (cs := []) Tryz.func114 (by kernel_rfl) fun w hx0 E R hE hr hR => ?_
 have h := h.ext hx0
 clear hx0
 conv => cbv
 refine loop_rule hr (fun (s : Nat × Int) w' => s.1 ≤ n ∧ s.2 = k + s.1 ∧ Ext w w') (fun s => [(0, .slice A n c), (1, .int .i64 s.2), (5, .int .i64 (E.nat s.1))]) (fun s => n - s.1) (0, k)
  (by simp [Fits, lk, hE.nat]) ⟨by simp, by simp, Ext.refl _⟩ ?_
 rintro I hI ⟨i, z⟩ w' ⟨hi, hz, hx⟩
 simp only at hi hz
 conv => cbv
 refine st_len hE tStrs fun x hxl => ?_
 conv => cbv
 refine br (fun h1 => ?_) (fun h1 => ?_)
 ·have h1 : i < n := by simpa [hE.cmp, cmpR, hE.nat, hxl] using h1
  obtain ⟨u, hu⟩ : ∃ u, u = mkText z := ⟨_, rfl⟩
  conv => cbv
  refine draw_x hr fol (by kernel_rfl) fun E' hE' hX => ?_
  conv => cbv
  refine st_str hE' tStrs (h.ext hx) (nk hE i) h1 fun p s gk hsm hp => ?_
  rw [marks_get h1, ← hz, ← hu] at gk
  cases gk
  conv => cbv
  refine st_load hE' cStr hp ?_
  conv => cbv
  refine st_vx hX (v := .string u) (by rw [hu]; exact markText_v z _ (by omega)) ?_
  conv => cbv
  intro w2 hx2
  have hx := hx.trans hx2
  conv => cbv
  have hne : ¬ E'.scmp .neq u u = true := by rw [hE'.scmp, scmp_neq]; simp
  refine br (fun h2 => absurd h2 hne) (fun _ => ?_)
  obtain ⟨z', hz'⟩ : ∃ z', z' = z + 1 := ⟨_, rfl⟩
  have e1 : E.ar .add .i64 z 1 = z' := by rw [hz']; exact inc' hE (by omega) (by omega)
  conv => cbv
  exact ⟨(i + 1, z'), by simp [Fits, lk, inc hE (show i < 9223372036854775807 by omega), e1], hI _ _ ⟨by simp only; omega, by simp only; omega, hx⟩, by simp only; omega⟩
 ·have h1 : i = n := by simp [hE.cmp, cmpR, hE.nat, hxl] at h1; omega
  subst h1
  conv => cbv
  rw [hR]; exact ⟨by rw [hz]; rfl, hx⟩
theorem picked_sub {xs ys : List ByteArray} {b : Bool} {s : ByteArray} (h : s ∈ picked xs ys b) : s ∈ xs := (List.mem_filter.1 h).1
theorem picked_len (xs ys : List ByteArray) (b : Bool) : (picked xs ys b).length ≤ xs.length := List.length_filter_le _ _
theorem mrg_picked {xs ys : List ByteArray} (hx : xs.Pairwise blt) (hy : ys.Pairwise blt) (b : Bool) : mrg (fun p q => p && (q == b)) xs ys = picked xs ys b :=
 rise_ext (mrg_rise _ _ _ hx hy) (hx.filter _) fun s => by
  rw [mrg_mem _ _ _ hx hy, picked, List.mem_filter]
  constructor
  ·rintro ⟨_, h⟩
   simp only [Bool.and_eq_true, decide_eq_true_eq] at h
   exact h
  ·rintro ⟨h1, h2⟩
   exact ⟨.inl h1, by simp only [Bool.and_eq_true, decide_eq_true_eq]; exact ⟨h1, h2⟩⟩
theorem isSet_picked {xs ys : List ByteArray} (b : Bool) (h : isSet xs) : isSet (picked xs ys b) :=
 ⟨fun s hs => h.1 s (picked_sub hs), h.2.1.filter _, n2_ (picked_len _ _ _) h.2.2⟩
theorem meet1_q (p q : Bool) (w : World) : QB Tryz.prog 286 [.bool p, .bool q] w ((p && (q == true)) = true) := by
 refine QB.intro (cs := []) Tryz.func286 (by kernel_rfl) fun w hx0 w1 hs E R hE hr hR => ?_
 cases p <;> cases q <;> (conv => cbv) <;> exact hR _ _ hs (by simp)
theorem meet_f {w : World} {A A' : Option Addr} {n c n' c' : Nat} {xs ys : List ByteArray} (h : Strs w A n c xs) (h' : Strs w A' n' c' ys) (hx : xs.Pairwise blt) (hy : ys.Pairwise blt) (hb : n + n' ≤ 2097152) :
  FC Tryz.prog 254 [.slice A n c, .slice A' n' c'] w (Copied w (picked xs ys true)) := by
 refine FC.intro (cs := []) Tryz.func254 (by kernel_rfl) fun E R hE hr hR => ?_
 conv => cbv
 refine st_f hr (merge_f h h' (fun p q => p && (q == true)) meet1_q hb) fun v w' hx' hc => ?_
 rw [mrg_picked hx hy] at hc
 obtain ⟨A1, n1, c1, rfl, hc⟩ := hc
 conv => cbv
 rw [hR]; exact ⟨hx', A1, n1, c1, rfl, hc⟩
theorem minus1_q (p q : Bool) (w : World) : QB Tryz.prog 287 [.bool p, .bool q] w ((p && (q == false)) = true) := by
 refine QB.intro (cs := []) Tryz.func287 (by kernel_rfl) fun w hx0 w1 hs E R hE hr hR => ?_
 cases p <;> cases q <;> (conv => cbv) <;> exact hR _ _ hs (by simp)
theorem minus_f {w : World} {A A' : Option Addr} {n c n' c' : Nat} {xs ys : List ByteArray} (h : Strs w A n c xs) (h' : Strs w A' n' c' ys) (hx : xs.Pairwise blt) (hy : ys.Pairwise blt) (hb : n + n' ≤ 2097152) :
  FC Tryz.prog 255 [.slice A n c, .slice A' n' c'] w (Copied w (picked xs ys false)) := by
 refine FC.intro (cs := []) Tryz.func255 (by kernel_rfl) fun E R hE hr hR => ?_
 conv => cbv
 refine st_f hr (merge_f h h' (fun p q => p && (q == false)) minus1_q hb) fun v w' hx' hc => ?_
 rw [mrg_picked hx hy] at hc
 obtain ⟨A1, n1, c1, rfl, hc⟩ := hc
 conv => cbv
 rw [hR]; exact ⟨hx', A1, n1, c1, rfl, hc⟩
theorem within_q {w : World} {A A' : Option Addr} {n c n' c' : Nat} {xs ys : List ByteArray} (h : Strs w A n c xs) (h' : Strs w A' n' c' ys) (hx : xs.Pairwise blt) (hy : ys.Pairwise blt) (hb : n + n' ≤ 2097152) :
  FC Tryz.prog 257 [.slice A n c, .slice A' n' c'] w fun v _ => ∃ b : Bool, v = .bool b ∧ (b = true ↔ picked xs ys false = []) := by
 refine FC.intro (cs := []) Tryz.func257 (by kernel_rfl) fun E R hE hr hR => ?_
 conv => cbv
 refine st_f hr (minus_f h h' hx hy hb) fun v w' hx' hc => ?_
 obtain ⟨A1, n1, c1, rfl, hc, _⟩ := hc
 conv => cbv
 refine st_len hE tStrs fun x hxl => ?_
 conv => cbv
 rw [hR]; refine ⟨hx', _, rfl, ?_⟩
 simp only [hE.cmp]
 rw [← List.length_eq_zero_iff, hc.len]; simp [cmpR, hxl]
def Op2 (b : Bool) (xs ys r : List ByteArray) : Prop := (isSet xs ∧ isSet ys ∧ r = picked xs ys b) ∨ (¬ (isSet xs ∧ isSet ys) ∧ r = [])
theorem Op2.same {b : Bool} {xs ys r r' : List ByteArray} (h : Op2 b xs ys r) (h' : Op2 b xs ys r') : r = r' := by
 rcases h with ⟨h1, h2, h3⟩ | ⟨h1, h3⟩ <;> rcases h' with ⟨k1, k2, k3⟩ | ⟨k1, k3⟩
 ·rw [h3, k3]
 ·exact absurd ⟨h1, h2⟩ k1
 ·exact absurd ⟨k1, k2⟩ h1
 ·rw [h3, k3]
theorem Op2.len {b : Bool} {xs ys r : List ByteArray} (h : Op2 b xs ys r) : r.length ≤ xs.length := by
 rcases h with ⟨_, _, rfl⟩ | ⟨_, rfl⟩
 ·exact picked_len _ _ _
 ·simp
theorem copied_nil (w : World) : Copied w [] (.slice none 0 0) w := ⟨none, 0, 0, rfl, ⟨rfl, by omega, by omega, ⟨by simp, by simp⟩, by simp⟩, Own.nil⟩
theorem Copied.ext0 {w w1 w' : World} {xs : List ByteArray} {v : Value} (h : Copied w1 xs v w') (hx : Ext w w1) : Copied w xs v w' := by
 obtain ⟨A, n, c, rfl, h1, h2⟩ := h
 exact ⟨A, n, c, rfl, h1, h2.mono hx.size⟩
theorem sMeet_f {w : World} {A A' : Option Addr} {n c n' c' : Nat} {xs ys : List ByteArray} (h : Strs w A n c xs) (h' : Strs w A' n' c' ys) (hn : n ≤ 1048576) (_ : n' ≤ 1048576) :
  FC Tryz.prog 158 [.slice A n c, .slice A' n' c'] w (fun v w' => ∃ r, Op2 true xs ys r ∧ Copied w r v w') := by
 refine FC.intro (cs := []) Tryz.func158 (by kernel_rfl) fun E R hE hr hR => ?_
 conv => cbv
 refine st_qb hE (sIsSet_q h) fun b1 hb1 w1 hs1 => ?_
 conv => cbv
 refine brn (fun g1 => ?_) (fun g1 => ?_)
 ·conv => cbv
  refine st_qb hE (sIsSet_q (h'.ext hs1.ext)) fun b2 hb2 w2 hs2 => ?_
  conv => cbv
  refine brn (fun g2 => ?_) (fun g2 => ?_)
  ·conv => cbv
   refine st_f hr (l1pick_f (h.ext (hs1.trans hs2).ext) (h'.ext (hs1.trans hs2).ext) true (by omega)) fun v w3 hx3 hc => ?_
   have hd := hc.ext0 (hs1.trans hs2).ext
   obtain ⟨A1, n1, c1, rfl, g3, g4⟩ := hd
   conv => cbv
   rw [hR]; exact ⟨(hs1.trans hs2).ext.trans hx3, _, .inl ⟨hb1.1 g1, hb2.1 g2, rfl⟩, A1, n1, c1, rfl, g3, g4⟩
  ·conv => cbv
   rw [hR]; exact ⟨(hs1.trans hs2).ext, [], .inr ⟨fun k => g2 (hb2.2 k.2), rfl⟩, (copied_nil _).ext0 (hs1.trans hs2).ext⟩
 ·conv => cbv
  rw [hR]; exact ⟨hs1.ext, [], .inr ⟨fun k => g1 (hb1.2 k.1), rfl⟩, (copied_nil _).ext0 hs1.ext⟩
theorem sMinus_f {w : World} {A A' : Option Addr} {n c n' c' : Nat} {xs ys : List ByteArray} (h : Strs w A n c xs) (h' : Strs w A' n' c' ys) (hn : n ≤ 1048576) (_ : n' ≤ 1048576) :
  FC Tryz.prog 159 [.slice A n c, .slice A' n' c'] w (fun v w' => ∃ r, Op2 false xs ys r ∧ Copied w r v w') := by
 refine FC.intro (cs := []) Tryz.func159 (by kernel_rfl) fun E R hE hr hR => ?_
 conv => cbv
 refine st_qb hE (sIsSet_q h) fun b1 hb1 w1 hs1 => ?_
 conv => cbv
 refine brn (fun g1 => ?_) (fun g1 => ?_)
 ·conv => cbv
  refine st_qb hE (sIsSet_q (h'.ext hs1.ext)) fun b2 hb2 w2 hs2 => ?_
  conv => cbv
  refine brn (fun g2 => ?_) (fun g2 => ?_)
  ·conv => cbv
   refine st_f hr (l1pick_f (h.ext (hs1.trans hs2).ext) (h'.ext (hs1.trans hs2).ext) false (by omega)) fun v w3 hx3 hc => ?_
   have hd := hc.ext0 (hs1.trans hs2).ext
   obtain ⟨A1, n1, c1, rfl, g3, g4⟩ := hd
   conv => cbv
   rw [hR]; exact ⟨(hs1.trans hs2).ext.trans hx3, _, .inl ⟨hb1.1 g1, hb2.1 g2, rfl⟩, A1, n1, c1, rfl, g3, g4⟩
  ·conv => cbv
   rw [hR]; exact ⟨(hs1.trans hs2).ext, [], .inr ⟨fun k => g2 (hb2.2 k.2), rfl⟩, (copied_nil _).ext0 (hs1.trans hs2).ext⟩
 ·conv => cbv
  rw [hR]; exact ⟨hs1.ext, [], .inr ⟨fun k => g1 (hb1.2 k.1), rfl⟩, (copied_nil _).ext0 hs1.ext⟩
theorem sWithin_f {w : World} {A A' : Option Addr} {n c n' c' : Nat} {xs ys : List ByteArray} (h : Strs w A n c xs) (h' : Strs w A' n' c' ys) (hn : n ≤ 1048576) (_ : n' ≤ 1048576) :
  FC Tryz.prog 163 [.slice A n c, .slice A' n' c'] w fun v _ => ∃ b : Bool, v = .bool b ∧ (b = true ↔ isSet xs ∧ isSet ys ∧ picked xs ys false = []) := by
 refine FC.intro (cs := []) Tryz.func163 (by kernel_rfl) fun E R hE hr hR => ?_
 conv => cbv
 refine st_qb hE (sIsSet_q h) fun b1 hb1 w1 hs1 => ?_
 conv => cbv
 refine br (fun g1 => ?_) (fun g1 => ?_)
 ·conv => cbv
  refine st_qb hE (sIsSet_q (h'.ext hs1.ext)) fun b2 hb2 w2 hs2 => ?_
  conv => cbv
  refine br (fun g2 => ?_) (fun g2 => ?_)
  ·conv => cbv
   refine st_f hr (l1pick_f (h.ext (hs1.trans hs2).ext) (h'.ext (hs1.trans hs2).ext) false (by omega)) fun v w3 hx3 hc => ?_
   obtain ⟨A1, n1, c1, rfl, hc, _⟩ := hc
   conv => cbv
   refine st_len hE tStrs fun x hxl => ?_
   conv => cbv
   rw [hR]; refine ⟨(hs1.trans hs2).ext.trans hx3, _, rfl, ?_⟩
   simp only [hE.cmp]
   have e : cmpR .eql x 0 = true ↔ picked xs ys false = [] := by
    rw [← List.length_eq_zero_iff, hc.len]; simp [cmpR, hxl]
   rw [e]; exact ⟨fun k => ⟨hb1.1 g1, hb2.1 g2, k⟩, fun k => k.2.2⟩
  ·conv => cbv
   rw [hR]; exact ⟨(hs1.trans hs2).ext, false, rfl, by simp only [Bool.false_eq_true, false_iff]; exact fun k => g2 (hb2.2 k.2.1)⟩
 ·conv => cbv
  rw [hR]; exact ⟨hs1.ext, false, rfl, by simp only [Bool.false_eq_true, false_iff]; exact fun k => g1 (hb1.2 k.1)⟩
theorem room_bulk {n : Nat} {l : Int} {xs : List ByteArray} (hl : xs.length = n) (h : 0 ≤ room l (bulk xs)) : n + room l (bulk xs) ≤ l := by
 rw [bulk_eq] at *; unfold room at *; split at h
 ·omega
 ·rename_i h1; rw [if_neg h1]; omega
theorem uI64 : Tryz.prog.underlying 2 = some (.int .i64) := Tryz.underlying2
theorem cI64 : Cel Tryz.prog 2 := ⟨_, uI64, by simp, by simp⟩
theorem cStrs : Cel Tryz.prog 26 := ⟨_, Tryz.underlying26, by simp, by simp⟩
theorem zI64 : (Tryz.prog.info? 2).map (·.size) = some 1 := by kernel_rfl
theorem zStr : (Tryz.prog.info? 9).map (·.size) = some 1 := by kernel_rfl
theorem zStrs : (Tryz.prog.info? 26).map (·.size) = some 1 := by kernel_rfl
theorem cBool : Cel Tryz.prog 4 := ⟨_, uBool, by simp, by simp⟩
theorem uErr : ∃ ms, Tryz.prog.underlying 134 = some (.interface ms) := ⟨_, Tryz.underlying134⟩
end Go.Proofs.YtkedmcebngachaaGreatDoor
namespace Go.Eng
section
variable {P : Program} {Pn : List PanicEntry → World → Prop} {n : Nat}
variable {E : Sym} {w : World} {K : Value → World → Prop} {d : Option Tmp} {ty : TypeId} {pos : String} {aft : Array Edge} {g : Option (Nat × Bool)}
theorem run_append_none {B : Nat} {t e : TypeId} {i : TypeInfo} {k : Nat} (ht : P.underlying t = some (.slice e)) (hi : P.info? e = some i) {v : Value} {m c1 : Nat} {xs : List Value} (h : w.ownsRow B e k v m xs) :
  (Builtin.append_ #[t, t] ty #[v, .slice none 0 c1]).run P w = .ok v w := by
 rcases h.2 with ⟨rfl, rfl⟩ | ⟨g, cap, cur, rfl, _, _, hnc, _⟩
 ·simp [Builtin.append_, run_underlying ht, sizeOf, typeInfo, hi, Builtin.lenOf, Builtin.firstCells]
 ·simp [Builtin.append_, run_underlying ht, sizeOf, typeInfo, hi, Builtin.lenOf, Builtin.firstCells, hnc, storeCells]
theorem st_apps (hE : E = real P Pn n) {t e : TypeId} {z : Value} {b : Nat} (ht : Slc P t e z 1 b) (hz : z.cells = #[z]) {B : Nat} {A A1 : Option Addr} {m c m1 c1 : Nat} {xs vs : List Value} {ao : Array Operand} (h : Own B e 1 w A m c xs) (hn : Cells w A1 vs) (hl : vs.length = m1) (hv : ∀ v ∈ vs, v.oneCell' = true)
  (hB : B ≤ w.heap.size) (hb : (m + m1) * b ≤ 140737488355328) (hm : m + m1 ≤ 9223372036854775807)
  (hk : ∀ A' c' m' w', m' = m + m1 → Wr A w w' → Own B e 1 w' A' m' c' (xs ++ vs) → K (.slice A' m' c') w') : E.stop ⟨d, .call ⟨.builtin .append, ao, #[t, t]⟩, ty, pos, aft, g⟩ [.slice A m c, .slice A1 m1 c1] w K := by
 obtain ⟨i0, h1, h2, h3, h4⟩ := ht.info
 cases A1 with
 | none =>
  have h0 : vs = [] := by
   rcases Nat.eq_zero_or_pos vs.length with h0 | h0
   ·exact List.length_eq_zero_iff.1 h0
   ·obtain ⟨a, ha⟩ := hn.1 h0; cases ha
  subst h0
  simp only [a4_] at hl
  subst hl
  refine st_run hE (v := .slice A m c) (w' := w) (fun ρ hρ => ?_) (hk _ _ _ _ rfl (Wr.refl _ _) (by simpa using h))
  have h3' := map_of (ao := ao) hρ
  simp [execOp, resolve, invoke, builtin, h3', run_append_none ht.u h1 h]
 | some a1 =>
  obtain ⟨v', w', hr, hown, hg, _, _⟩ := run_append_own_at (P := P) w B t ty e i0 z 1 b ht.u h1 h2 h3 h4 (by rw [hz]; rfl) (by omega) (.slice A m c) m xs h a1 m1 c1 vs (by omega)
   (fun j u hu => hn.2 a1 rfl j u hu) hv (by unfold maxLen; omega) hb hB
  have hform : ∃ A' c', v' = .slice A' (m + m1) c' := by
   rcases hown.2 with ⟨h5, h6⟩ | ⟨g, cap, cur, h5, _⟩
   ·exact ⟨none, 0, by rw [h5, h6]⟩
   ·exact ⟨_, _, h5⟩
  obtain ⟨A', c', rfl⟩ := hform
  refine st_run hE (v := .slice A' (m + m1) c') (w' := w') (fun ρ hρ => ?_) (hk _ _ _ _ rfl ?_ hown)
  ·have h3' := map_of (ao := ao) hρ
   simp [execOp, resolve, invoke, builtin, h3', hr]
  ·cases A <;> exact hg
theorem run_upto {t e : TypeId} {z : Value} {k b : Nat} (ht : Slc P t e z k b) (w : World) {A : Option Addr} {m c hi : Nat} {ik : IntKind} (hhi : hi ≤ c) :
  (Instr.sliceAt t (.slice A m c) none (some (.int ik hi)) none).run P w = .ok (.slice A hi c) w := by
 obtain ⟨i0, h1, h2, h3, h4⟩ := ht.info
 cases A <;> simp [Instr.sliceAt, Instr.slice, underlying, ht.u, Instr.sliceBounds, Instr.sliceBound, asIntOf, sizeOf, typeInfo, h1, hhi, add_zero]
theorem st_upto {bq : Bool} (hE : EngB bq P E) {t e : TypeId} {z : Value} {k b : Nat} (ht : Slc P t e z k b) {B : Nat} {A : Option Addr} {m c hi : Nat} {ik : IntKind} {i : Int} {xs : List Value} {x y : Operand} {w0 : World} (h : Own B e k w0 A m c xs) (hi' : i = hi) (hm : hi ≤ m)
  (hk : Own B e k w0 A hi c (xs.take (hi * k)) → K (.slice A hi c) w) : E.stop ⟨d, .slice t x none (some y) none, ty, pos, aft, g⟩ [.slice A m c, .int ik i] w K := by
 subst hi'
 refine hE.det (v := .slice A hi c) (fun w1 _ ρ hρ => ?_) (hk ?_)
 ·simp only [opnds, Option.toList, b2_, b3_, a7_, a2_, List.cons_append, b1_, and_true] at hρ
  simp only [execOp, hρ.1, hρ.2, Option.map_some, Option.map_none, Sem.run_bind, run_upto ht w1 (n2_ hm h.cap)]
  rfl
 ·refine ⟨by rw [List.length_take, h.len]; exact Nat.min_eq_left (Nat.mul_le_mul_right _ hm), ?_⟩
  rcases h.2 with ⟨h1, h2⟩ | ⟨gb, cap, cur, h1, h2, h3, h4, h5, h6, h7⟩
  ·cases h1
   exact .inl ⟨by rw [show hi = 0 by omega], by omega⟩
  ·cases h1
   exact .inr ⟨gb, c, cur, rfl, h2, h3, by omega, h5, h6, by rw [← h7, List.take_take, Nat.min_eq_left (Nat.mul_le_mul_right _ hm)]⟩
end
section
variable {P : Program} {E : Sym} {w : World} {K : Value → World → Prop} {d : Option Tmp} {ty : TypeId} {pos : String} {aft : Array Edge} {g : Option (Nat × Bool)}
theorem st_shl {bq : Bool} (hE : EngB bq P E) {t t' : TypeId} {ik yk : IntKind} {a b : Int} {x y : Operand} (hb : 0 ≤ b) (hk : ∀ r : Int, r = ik.wrap (a * 2 ^ (min b.toNat ik.bits)) → K (.int ik r) w) : E.stop ⟨d, .binOp .shl t x y t', ty, pos, aft, g⟩ [.int ik a, .int yk b] w K := by
 refine hE.det (v := .int ik (ik.wrap (a * 2 ^ (min b.toNat ik.bits)))) (fun w1 _ ρ hρ => ?_) (hk _ rfl)
 simp only [opnds, b2_, b3_, b1_, and_true] at hρ
 have : ¬ b < 0 := by omega
 simp [execOp, hρ.1, hρ.2, eqGuard, binOp, Op.shift, this]
theorem st_shr {bq : Bool} (hE : EngB bq P E) {t t' : TypeId} {ik yk : IntKind} {a b : Int} {x y : Operand} (hb : 0 ≤ b) (hk : ∀ r : Int, r = a.fdiv (2 ^ (min b.toNat ik.bits)) → K (.int ik r) w) : E.stop ⟨d, .binOp .shr t x y t', ty, pos, aft, g⟩ [.int ik a, .int yk b] w K := by
 refine hE.det (v := .int ik (a.fdiv (2 ^ (min b.toNat ik.bits)))) (fun w1 _ ρ hρ => ?_) (hk _ rfl)
 simp only [opnds, b2_, b3_, b1_, and_true] at hρ
 have : ¬ b < 0 := by omega
 simp [execOp, hρ.1, hρ.2, eqGuard, binOp, Op.shift, this]
theorem ofInt_nat {a : Int} (h0 : 0 ≤ a) (h1 : a < 18446744073709551616) : (BitVec.ofInt 64 a).toNat = a.toNat := by
 obtain ⟨n, rfl⟩ := Int.eq_ofNat_of_zero_le h0
 rw [BitVec.ofInt_natCast, BitVec.toNat_ofNat]
 simp only [Int.toNat_natCast]
 exact Nat.mod_eq_of_lt (by omega)
theorem st_or {bq : Bool} (hE : EngB bq P E) {t t' : TypeId} {a b : Int} {x y : Operand} (ha : 0 ≤ a) (ha' : a < 18446744073709551616) (hb : 0 ≤ b) (hb' : b < 18446744073709551616) (hk : ∀ r : Int, r = ((a.toNat ||| b.toNat : Nat) : Int) → K (.int .u64 r) w) : E.stop ⟨d, .binOp .or t x y t', ty, pos, aft, g⟩ [.int .u64 a, .int .u64 b] w K := by
 have e : IntKind.u64.wrap ((BitVec.ofInt 64 a ||| BitVec.ofInt 64 b).toNat : Int) = ((a.toNat ||| b.toNat : Nat) : Int) := by
  rw [BitVec.toNat_or, ofInt_nat ha ha', ofInt_nat hb hb', IntKind.wrap_u64]
  have : a.toNat ||| b.toNat < 2 ^ 64 := Nat.or_lt_two_pow (by omega) (by omega)
  omega
 refine hE.det (v := .int .u64 ((a.toNat ||| b.toNat : Nat) : Int)) (fun w1 _ ρ hρ => ?_) (hk _ rfl)
 simp only [opnds, b2_, b3_, b1_, and_true] at hρ
 have h2 : (binOp .or t (.int .u64 a) (.int .u64 b)).run P w1 = .ok (.int .u64 (IntKind.u64.wrap ((BitVec.ofInt 64 a ||| BitVec.ofInt 64 b).toNat : Int))) w1 := rfl
 rw [e] at h2
 simp [execOp, hρ.1, hρ.2, eqGuard, h2]
theorem st_and {bq : Bool} (hE : EngB bq P E) {t t' : TypeId} {a b : Int} {x y : Operand} (ha : 0 ≤ a) (ha' : a < 18446744073709551616) (hb : 0 ≤ b) (hb' : b < 18446744073709551616) (hk : ∀ r : Int, r = ((a.toNat &&& b.toNat : Nat) : Int) → K (.int .u64 r) w) : E.stop ⟨d, .binOp .and t x y t', ty, pos, aft, g⟩ [.int .u64 a, .int .u64 b] w K := by
 have e : IntKind.u64.wrap ((BitVec.ofInt 64 a &&& BitVec.ofInt 64 b).toNat : Int) = ((a.toNat &&& b.toNat : Nat) : Int) := by
  rw [BitVec.toNat_and, ofInt_nat ha ha', ofInt_nat hb hb', IntKind.wrap_u64]
  have : a.toNat &&& b.toNat ≤ a.toNat := Nat.and_le_left
  omega
 refine hE.det (v := .int .u64 ((a.toNat &&& b.toNat : Nat) : Int)) (fun w1 _ ρ hρ => ?_) (hk _ rfl)
 simp only [opnds, b2_, b3_, b1_, and_true] at hρ
 have h2 : (binOp .and t (.int .u64 a) (.int .u64 b)).run P w1 = .ok (.int .u64 (IntKind.u64.wrap ((BitVec.ofInt 64 a &&& BitVec.ofInt 64 b).toNat : Int))) w1 := rfl
 rw [e] at h2
 simp [execOp, hρ.1, hρ.2, eqGuard, h2]
theorem st_neg {bq : Bool} (hE : EngB bq P E) {t : TypeId} {ik : IntKind} {a : Int} {x : Operand} (hk : ∀ r : Int, r = ik.wrap (0 - a) → K (.int ik r) w) : E.stop ⟨d, .unOp .neg t x, ty, pos, aft, g⟩ [.int ik a] w K := by
 refine hE.det (v := .int ik (ik.wrap (0 - a))) (fun w1 _ ρ hρ => ?_) (hk _ rfl)
 simp only [opnds, b2_, b3_, b1_, and_true] at hρ
 simp [execOp, hρ, Op.unary, Op.intArith]
end
theorem u64_in {z : Int} (h0 : 0 ≤ z) (h1 : z < 18446744073709551616) : IntKind.u64.wrap z = z := by rw [IntKind.wrap_u64]; omega
def fits (v : Int) : Prop := -9223372036854775808 ≤ v ∧ v ≤ 9223372036854775807
instance (v : Int) : Decidable (fits v) := by unfold fits; infer_instance
theorem even_or {a b : Nat} (ha : a % 2 = 0) (hb : b < 2) : a ||| b = a + b := by
 have h : a = 2 * (a / 2) := by omega
 have : b = 0 ∨ b = 1 := by omega
 rcases this with rfl | rfl
 ·simp
 ·apply Nat.eq_of_testBit_eq
  intro i
  rw [Nat.testBit_or]
  cases i with
  | zero => simp [Nat.testBit_zero]; omega
  | succ i =>
   rw [Nat.testBit_succ, Nat.testBit_succ, Nat.testBit_succ]
   have e1 : (a + 1) / 2 = a / 2 := by omega
   rw [e1]; simp
theorem add_ok {a b : Int} (ha : fits a) (hb : fits b) : (IntKind.i64.wrap (a + b) > a ↔ b > 0) ↔ fits (a + b) := by
 unfold fits at *; rw [IntKind.wrap_i64]; omega
theorem sub_ok {a b : Int} (ha : fits a) (hb : fits b) : (IntKind.i64.wrap (a - b) < a ↔ b > 0) ↔ fits (a - b) := by
 unfold fits at *; rw [IntKind.wrap_i64]; omega
theorem tmod_abs {a b : Int} (hb : b ≠ 0) : (a.tmod b).natAbs < b.natAbs := by
 rw [Int.natAbs_tmod]; exact Nat.mod_lt _ (by omega)
theorem mul_ok {a b : Int} (ha : fits a) (hb : fits b) (hb0 : b ≠ 0) :
  (IntKind.i64.wrap ((IntKind.i64.wrap (a * b)).tdiv b) = a ∧ ¬ (b = -1 ∧ a = -9223372036854775808) ∧ ¬ (a = -1 ∧ b = -9223372036854775808)) ↔ fits (a * b) := by
 constructor
 ·rintro ⟨h1, h2, h3⟩
  obtain ⟨m, hm⟩ : ∃ m, m = IntKind.i64.wrap (a * b) := ⟨_, rfl⟩
  rw [← hm] at h1
  have hmod := tmod_abs (a := m) hb0
  have hdiv := Int.mul_tdiv_add_tmod m b
  have hmr : fits m := by rw [hm, IntKind.wrap_i64]; unfold fits; omega
  have hmw : ∃ k : Int, m = a * b + k * 18446744073709551616 := by
   rw [IntKind.wrap_i64] at hm
   exact ⟨-((a * b + 9223372036854775808) / 18446744073709551616), by omega⟩
  obtain ⟨k, hk⟩ := hmw
  have hq : m.tdiv b = a := by
   have habs : (m.tdiv b).natAbs ≤ m.natAbs := by rw [Int.natAbs_tdiv]; exact Nat.div_le_self _ _
   rw [IntKind.wrap_i64] at h1
   unfold fits at hmr ha
   by_cases hx : m.tdiv b = 9223372036854775808
   ·exfalso
    rw [hx] at h1 hdiv
    have ha1 : a = -9223372036854775808 := by omega
    have : b ≠ -1 := fun e => h2 ⟨e, ha1⟩
    have hm2 : m.natAbs = 9223372036854775808 := by rw [hx] at habs; omega
    have : m = -9223372036854775808 := by omega
    omega
   ·omega
  rw [hq] at hdiv
  have e : k * 18446744073709551616 = m.tmod b := by
   have : b * a = a * b := Int.mul_comm b a
   omega
  have hk0 : k = 0 := by unfold fits at hb; omega
  rw [hk0] at hk
  have : m = a * b := by omega
  rw [← this]; exact hmr
 ·intro h
  have hw : IntKind.i64.wrap (a * b) = a * b := by unfold fits at h; rw [IntKind.wrap_i64]; omega
  rw [hw, Int.mul_tdiv_cancel _ hb0]
  unfold fits at h ha
  refine ⟨by rw [IntKind.wrap_i64]; omega, ?_, ?_⟩
  ·rintro ⟨rfl, rfl⟩; omega
  ·rintro ⟨rfl, rfl⟩; omega
theorem div_ok {a b : Int} (ha : fits a) (hb0 : b ≠ 0) : (a ≠ -9223372036854775808 ∨ b ≠ -1) ↔ fits (a.tdiv b) := by
 have habs : (a.tdiv b).natAbs = a.natAbs / b.natAbs := Int.natAbs_tdiv _ _
 unfold fits at *
 constructor
 ·intro h
  by_cases h1 : b.natAbs = 1
  ·have : b = 1 ∨ b = -1 := by omega
   rcases this with rfl | rfl
   ·rw [Int.tdiv_one]; omega
   ·rw [Int.tdiv_neg, Int.tdiv_one]; omega
  ·have : a.natAbs / b.natAbs ≤ a.natAbs / 2 := Nat.div_le_div_left (by omega) (by omega)
   omega
 ·intro h
  by_cases h1 : b = -1
  ·subst h1
   rw [Int.tdiv_neg, Int.tdiv_one] at h
   omega
  ·exact .inr h1
theorem rem_ok {a b : Int} (hb : fits b) (hb0 : b ≠ 0) : fits (a.tmod b) := by
 have := tmod_abs (a := a) hb0
 unfold fits at *; omega
section
variable {P : Program} {E : Sym} {w : World} {K : Value → World → Prop} {d : Option Tmp} {ty : TypeId} {pos : String} {aft : Array Edge} {g : Option (Nat × Bool)}
theorem st_nil {bq : Bool} (hE : EngB bq P E) {a : Addr} {x : Operand} (hk : K (.pointer (some a)) w) : E.stop ⟨d, .nilCheck x, ty, pos, aft, g⟩ [.pointer (some a)] w K := by
 refine hE.det (v := .pointer (some a)) (fun w1 _ ρ hρ => ?_) hk
 simp only [opnds, b2_, b3_, b1_, and_true] at hρ
 simp [execOp, hρ]
structure Byts (w : World) (A : Option Addr) (n c : Nat) (zs : List Int) : Prop where
 len : zs.length = n
 le : n ≤ 9223372036854775807
 cap : n ≤ c
 cells : Cells w A (zs.map (Value.int .u8))
 rng : ∀ z ∈ zs, 0 ≤ z ∧ z ≤ 255
theorem Byts.ext {w w' : World} {A : Option Addr} {n c : Nat} {zs : List Int} (h : Byts w A n c zs) (hx : Ext w w') : Byts w' A n c zs := ⟨h.1, h.2, h.3, h.4.ext hx, h.5⟩
end
set_option linter.unusedVariables false
theorem parts_zip {ρ : Operand → Value} {vs : List Value} {m : Nat} {ps : List (Nat × Operand)} (hp : ps.map (·.1) = List.range m) (hρ : ps.map (fun x => ρ x.2) = vs) :
  ps.map (fun x => (x.1, ρ x.2)) = (vs.zipIdx 0).map fun x => (x.2, x.1) := by
 apply List.ext_getElem?
 intro k
 have a := congrArg (·[k]?) hp
 have b := congrArg (·[k]?) hρ
 simp only [List.getElem?_map, List.getElem?_zipIdx] at a b ⊢
 cases h : ps[k]? with
 | none => rw [h] at b; simp only [Option.map_none] at b; rw [← b]; rfl
 | some x =>
  rw [h] at a b
  simp only [Option.map_some] at a b
  have : x.1 = k := by
   have hk := (List.getElem?_eq_some_iff.1 a.symm)
   obtain ⟨h1, h2⟩ := hk
   simpa using h2.symm
  rw [← b]; simp [this]
section
variable {P : Program} {Pn : List PanicEntry → World → Prop} {n : Nat} {E : Sym} {w : World} {K : Value → World → Prop} {d : Option Tmp} {ty : TypeId} {pos : String} {aft : Array Edge} {g : Option (Nat × Bool)}
theorem st_lits (hE : E = real P Pn n) {t e : TypeId} {z : Value} {b : Nat} (ht : Slc P t e z 1 b) (hz : z.cells = #[z]) {vs : List Value} {m : Nat} {parts : Array (Nat × Operand)} (hm : vs.length = m) (h0 : 0 < m) (hsm : m ≤ 16777216) (hp : parts.toList.map (·.1) = List.range m) (h1 : ∀ v ∈ vs, v.cells = #[v])
  (hk : ∀ A w', Ext w w' → (∀ B, B ≤ w.heap.size → Own B e 1 w' A m m vs) → K (.slice A m m) w') : E.stop ⟨d, .buildSlice t m parts, ty, pos, aft, g⟩ vs w K := by
 obtain ⟨i0, hi1, hi2, hi3, hi4⟩ := ht.info
 refine st_run hE (v := .slice (some ⟨w.heap.size, 0, none⟩) m m) (w' := w.alloc (.cells ⟨vs⟩ e)) (fun ρ hρ => ?_) (hk _ _ ((Ext.refl w).alloc (n1_ _) _) fun B hB => World.ownsRow_lit (e := e) (size := 1) w ⟨vs⟩ m hB (by unfold maxLen; omega) (by simp [hm]))
 have hρ' : parts.toList.map (fun x => ρ x.2) = vs := by simpa [opnds, Function.comp_def] using hρ
 have hf := run_buildSlice (P := P) w t e m (parts.map fun (i, x) => (i, ρ x)) vs.toArray i0 z ht.u hi1 hi2 (by rw [hi3]; omega) (by rw [hi3]; omega) (by
  rw [hi3, Array.toList_map]
  rw [show (parts.toList.map fun (x : Nat × Operand) => match x with | (i, x) => (i, ρ x)) = parts.toList.map (fun x => (x.1, ρ x.2)) from rfl, parts_zip hp hρ']
  exact Go.Great.fill_flat vs _ h1 (by simp [hm]))
 simp only [execOp, Sem.run_bind, hf, Result.andThen_ok]
 rfl
end
set_option linter.unusedSimpArgs false
section
variable {P : Program} {Pn : List PanicEntry → World → Prop} {n : Nat} {E : Sym} {w : World} {K : Value → World → Prop} {d : Option Tmp} {ty : TypeId} {pos : String} {aft : Array Edge} {g : Option (Nat × Bool)}
theorem run_nil_ne {t : TypeId} {ms : Array (String × TypeId)} (ht : P.underlying t = some (.interface ms)) (w : World) (k : Nat) : (Op.equalIn (k + 1) t .nilIface .nilIface).run P w = .ok true w := by
 simp [Op.equalIn, run_underlying ht]
theorem run_some_ne {t u : TypeId} {v : Value} {ms : Array (String × TypeId)} (ht : P.underlying t = some (.interface ms)) (w : World) (k : Nat) : (Op.equalIn (k + 1) t (.iface u v) .nilIface).run P w = .ok false w := by
 simp [Op.equalIn, run_underlying ht]
theorem st_neNil {bq : Bool} (hE : EngB bq P E) {t t' : TypeId} {ms : Array (String × TypeId)} (ht : P.underlying t = some (.interface ms)) {x : Operand} {c : Value} (hk : K (.bool false) w) : E.stop ⟨d, .binOp .neq t x (.const c) t', ty, pos, aft, g⟩ [.nilIface, .nilIface] w K := by
 refine hE.det (v := .bool false) (fun w1 _ ρ hρ => ?_) hk
 simp only [opnds, b2_, b3_, b1_, and_true] at hρ
 have h1 : (Op.equal t .nilIface .nilIface).run P w1 = .ok true w1 := run_nil_ne ht w1 9999
 simp only [execOp, hρ.1, hρ.2, eqGuard, binOp, Sem.run_bind]
 simp [h1]
theorem st_neSome {bq : Bool} (hE : EngB bq P E) {t t' u : TypeId} {v : Value} {ms : Array (String × TypeId)} (ht : P.underlying t = some (.interface ms)) {x y : Operand} (hk : K (.bool true) w) : E.stop ⟨d, .binOp .neq t x y t', ty, pos, aft, g⟩ [.iface u v, .nilIface] w K := by
 refine hE.det (v := .bool true) (fun w1 _ ρ hρ => ?_) hk
 simp only [opnds, b2_, b3_, b1_, and_true] at hρ
 have h1 : (Op.equal t (.iface u v) .nilIface).run P w1 = .ok false w1 := run_some_ne ht w1 9999
 simp only [execOp, hρ.1, hρ.2, eqGuard, binOp, Sem.run_bind]
 simp [h1]
end
section
variable {P : Program} {Pn : List PanicEntry → World → Prop} {n : Nat} {E : Sym} {w : World} {K : Value → World → Prop} {d : Option Tmp} {ty : TypeId} {pos : String} {aft : Array Edge} {g : Option (Nat × Bool)}
theorem st_oneS (hE : E = real P Pn n) {t e : TypeId} {z : Value} {k b : Nat} (ht : Slc P t e z k b) (hz : z.cells.size = k) (hk0 : 0 < k) (hk1 : k ≤ 1000) {cs : List Value} (hc : cs.length = k) {x : Operand}
  (hk : ∀ A w', Ext w w' → Cells w' A cs → K (.slice A 1 1) w') : E.stop ⟨d, .buildSlice t 1 #[(0, x)], ty, pos, aft, g⟩ [.agg ⟨cs⟩] w K := by
 obtain ⟨i0, h1, h2, h3, h4⟩ := ht.info
 refine st_run hE (v := .slice (some ⟨w.heap.size, 0, none⟩) 1 1) (w' := w.alloc (.cells ⟨cs⟩ e)) (fun ρ hρ => ?_) (hk _ _ ((Ext.refl w).alloc (n1_ _) _) ?_)
 ·simp only [opnds, b2_, b3_, b1_, and_true] at hρ
  have hf := run_buildSlice (P := P) w t e 1 #[(0, ρ x)] ⟨cs⟩ i0 z ht.u h1 h2 (by rw [h3]; omega) (by rw [h3]; omega) (by
   rw [h3]
   have := Go.Great.fill_whole hk0 [Value.agg ⟨cs⟩] ((Array.range (1 * k)).map (z.cells[· % z.cells.size]!)) (by intro v hv; rw [List.mem_singleton.1 hv]; simpa [Value.cells] using hc) (by simp)
   rw [hρ]
   have e1 : ([Value.agg ⟨cs⟩].flatMap fun v => v.cells.toList).toArray = ⟨cs⟩ := by simp [Value.cells]
   rw [e1] at this
   exact this)
  simp only [execOp, Sem.run_bind]
  rw [show (Instr.buildSlice t 1 ((#[(0, x)] : Array (Nat × Operand)).map fun (p : Nat × Operand) => match p with | (i, x) => (i, ρ x))) = Instr.buildSlice t 1 #[(0, ρ x)] by simp, hf]
  rfl
 ·refine ⟨fun _ => ⟨_, rfl⟩, fun a ha j u hu => ?_⟩
  cases ha
  have := World.ownsRow_lit (e := e) (size := k) (base := w.heap.size) w ⟨cs⟩ 1 (n1_ _) (by unfold maxLen; omega) (by simp [hc])
  have ho : Own w.heap.size e k (w.alloc (.cells ⟨cs⟩ e)) (some ⟨w.heap.size, 0, none⟩) 1 1 cs := this
  exact ho.at j u hu
end
structure Ints (w : World) (A : Option Addr) (n c : Nat) (zs : List Int) : Prop where
 len : zs.length = n
 le : n ≤ 9223372036854775807
 cap : n ≤ c
 cells : Cells w A (zs.map (.int .i64))
theorem Ints.ext {w w' : World} {A : Option Addr} {n c : Nat} {zs : List Int} (h : Ints w A n c zs) (hx : Ext w w') : Ints w' A n c zs := ⟨h.1, h.2, h.3, h.4.ext hx⟩
theorem Own.ints {B e} {w : World} {A : Option Addr} {m c : Nat} {zs : List Int} (h : Own B e 1 w A m c (zs.map (.int .i64))) : Ints w A m c zs :=
 ⟨by have := h.len; simpa using this, h.le, h.cap, h.cells⟩
theorem ints_nil (w : World) : Ints w none 0 0 [] := ⟨rfl, by omega, by omega, by simp [Cells], by simp⟩
section
variable {P : Program} {Pn : List PanicEntry → World → Prop} {n : Nat} {E : Sym} {w : World} {K : Value → World → Prop} {d : Option Tmp} {ty : TypeId} {pos : String} {aft : Array Edge} {g : Option (Nat × Bool)}
theorem st_int {bq : Bool} (hE : EngB bq P E) {t e : TypeId} {z : Value} {b : Nat} (ht : Slc P t e z 1 b) {A : Option Addr} {m c k : Nat} {ik : IntKind} {i : Int} {x y : Operand} {zs : List Int} (h : Ints w A m c zs)
  (hi : i = k) (hk : k < m) (hK : ∀ p u, zs[k]? = some u → w.cell? p = some (.int .i64 u) → K (.pointer (some p)) w) : E.stop ⟨d, .indexAddr t x y, ty, pos, aft, g⟩ [.slice A m c, .int ik i] w K := by
 subst hi
 have hl := h.len
 refine st_elem hE ht h.cells (by simp [hl]) (by omega) (by omega) fun p v hv hp => ?_
 simp only [Int.toNat_natCast, List.getElem?_map, Option.map_eq_some_iff] at hv
 obtain ⟨s, hs, rfl⟩ := hv
 exact hK p s hs hp
theorem st_intsUpto {bq : Bool} (hE : EngB bq P E) {t e : TypeId} {z : Value} {b : Nat} (ht : Slc P t e z 1 b) {A : Option Addr} {m c hi : Nat} {ik : IntKind} {i : Int} {zs : List Int} {x y : Operand} {w0 : World} (h : Ints w0 A m c zs) (hi' : i = hi) (hm : hi ≤ m)
  (hk : Ints w0 A hi c (zs.take hi) → K (.slice A hi c) w) : E.stop ⟨d, .slice t x none (some y) none, ty, pos, aft, g⟩ [.slice A m c, .int ik i] w K := by
 subst hi'
 have hl := h.len
 refine hE.det (v := .slice A hi c) (fun w1 _ ρ hρ => ?_) (hk ⟨by simp [hl]; omega, by have := h.le; omega, by have := h.cap; omega, ?_⟩)
 ·simp only [opnds, Option.toList, b2_, b3_, a7_, a2_, List.cons_append, b1_, and_true] at hρ
  simp only [execOp, hρ.1, hρ.2, Option.map_some, Option.map_none, Sem.run_bind, run_upto ht w1 (n2_ hm h.cap)]
  rfl
 ·refine ⟨fun h0 => h.cells.1 (by simp at h0 ⊢; omega), fun a ha j v hv => h.cells.2 a ha j v ?_⟩
  rw [List.map_take, List.getElem?_take] at hv
  split at hv
  ·exact hv
  ·cases hv
theorem st_intsFrom {bq : Bool} (hE : EngB bq P E) {t e : TypeId} {z : Value} {b : Nat} (ht : Slc P t e z 1 b) {A : Option Addr} {m c lo : Nat} {ik : IntKind} {i : Int} {zs : List Int} {x y : Operand} {w0 : World} (h : Ints w0 A m c zs) (hi : i = lo) (hlo : lo ≤ m)
  (hk : ∀ A' m' c', m' = m - lo → Ints w0 A' m' c' (zs.drop lo) → K (.slice A' m' c') w) : E.stop ⟨d, .slice t x (some y) none none, ty, pos, aft, g⟩ [.slice A m c, .int ik i] w K := by
 subst hi
 refine hE.det (v := .slice (if c = lo then A else A.map (·.add (lo * 1))) (m - lo) (c - lo)) (fun w1 _ ρ hρ => ?_) (hk _ _ _ rfl ?_)
 ·simp only [opnds, Option.toList, b2_, b3_, a7_, b1_, and_true] at hρ
  simp only [execOp, hρ.1, hρ.2, Option.map_some, Option.map_none, Sem.run_bind, run_from ht w1 hlo]
  rfl
 ·have hcap := h.cap
  refine ⟨by simp [h.len], by have := h.le; omega, by omega, ?_⟩
  have := h.cells.from (c := c) (lo := lo) (k := 1) (m := m) (by simp [h.len]) hlo (fun h1 h2 => by omega)
  rw [Nat.mul_one, ← List.map_drop] at this
  rw [Nat.mul_one]; exact this
theorem st_pnil {bq : Bool} (hE : EngB bq P E) {t t' u : TypeId} (ht : P.underlying t = some (.pointer u)) {x : Operand} {c : Value} {p : Option Addr} (hk : ∀ b : Bool, (b = true ↔ p = none) → K (.bool b) w) : E.stop ⟨d, .binOp .eql t x (.const c) t', ty, pos, aft, g⟩ [.pointer p, .pointer none] w K := by
 refine hE.det (v := .bool p.isNone) (fun w1 _ ρ hρ => ?_) (hk _ (by simp))
 simp only [opnds, b2_, b3_, b1_, and_true] at hρ
 have h0 : ∀ k : Nat, (Op.equalIn (k + 1) t (.pointer p) (.pointer none)).run P w1 = .ok p.isNone w1 := fun k => by
  cases p <;> simp [Op.equalIn, run_underlying ht]
 have h1 : (Op.equal t (.pointer p) (.pointer none)).run P w1 = .ok p.isNone w1 := h0 9999
 simp only [execOp, hρ.1, hρ.2, eqGuard, binOp, Sem.run_bind]
 simp [h1]
theorem st_max3 {bq : Bool} (hE : EngB bq P E) {ao : Array Operand} {ts : Array TypeId} {a b c : Int} (hk : ∀ r : Int, r = max (max a b) c → K (.int .i64 r) w) : E.stop ⟨d, .call ⟨.builtin .max, ao, ts⟩, ty, pos, aft, g⟩ [.int .i64 a, .int .i64 b, .int .i64 c] w K := by
 refine hE.det (v := .int .i64 (max (max a b) c)) (fun w1 _ ρ hρ => ?_) (hk _ rfl)
 have h3 := map_of (ao := ao) (ρ := ρ) (l := [.int .i64 a, .int .i64 b, .int .i64 c]) (by simpa [opnds] using hρ)
 have e : ∀ x y : Int, (if y > x then y else x) = max x y := fun x y => by rw [Int.max_def]; split <;> split <;> omega
 simp [execOp, resolve, invoke, builtin, h3, Builtin.max_, Builtin.max2, e]
theorem st_makeK (hE : E = real P Pn n) {t e : TypeId} {z : Value} {k b : Nat} (ht : Slc P t e z k b) (hz : z.cells.size = k) {ik ik' : IntKind} {i : Int} {m : Nat} {x y : Operand} (hi : i = m) (hb : b * m ≤ 140737488355328) (hm : m ≤ 9223372036854775807)
  (hk : ∀ A w', Ext w w' → (∀ B, B ≤ w.heap.size → Own B e k w' A m m (madeCells z.cells (m * k)).toList) → K (.slice A m m) w') : E.stop ⟨d, .makeSlice t x y, ty, pos, aft, g⟩ [.int ik i, .int ik' i] w K := by
 obtain ⟨i0, h1, h2, h3, h4⟩ := ht.info
 subst hi
 have hr := run_make w t e i0 z ht.u h1 h2 ik ik' m m (by omega) (by omega) (by rw [h4]; have : ((b * m : Nat) : Int) ≤ 281474976710656 := by omega
                                                                                rwa [Int.natCast_mul] at this) (by omega)
 simp only [Int.toNat_natCast, h3] at hr
 refine st_run hE (v := .slice (some ⟨w.heap.size, 0, none⟩) m m) (w' := w.alloc (.cells (madeCells z.cells (m * k)) e)) (fun ρ hρ => ?_) (hk _ _ ((Ext.refl w).alloc (n1_ _) _) fun B hB => ?_)
 ·simp only [opnds, b2_, b3_, b1_, and_true] at hρ
  simp [execOp, hρ.1, hρ.2, hr]
 ·exact World.ownsRow_lit (e := e) (size := k) w (madeCells z.cells (m * k)) m hB (by unfold maxLen; omega) (by rw [size_madeCells])
structure Tab (w : World) (v : Nat) (f : List (Int × Int)) : Prop where
 ex : ∃ bm es clock, w.cell? ⟨v, 0, none⟩ = some (.map (some bm)) ∧ w.heap[bm]? = some (.map es clock) ∧ (∀ e ∈ es.toList, ∃ k z, e.key = .int .i64 k ∧ e.val = .int .i64 z ∧ (k, z) ∈ f) ∧ (∀ k z, (k, z) ∈ f → ∃ e ∈ es.toList, e.key = .int .i64 k ∧ e.val = .int .i64 z) ∧ (es.toList.map (·.born)).Nodup ∧ ∀ e ∈ es.toList, e.born < clock
theorem Ext.getMap {w w' : World} (h : Ext w w') {r : Nat} {es : Array MapEntry} {clock : Nat} (hb : w.heap[r]? = some (.map es clock)) : w'.heap[r]? = some (.map es clock) := by
 have hlt : r < w.heap.size := by
  rcases Nat.lt_or_ge r w.heap.size with h | h
  ·exact h
  ·simp [Array.getElem?_eq_none h] at hb
 rw [h.block r hlt]; exact hb
theorem Tab.ext {w w' : World} {v : Nat} {f : List (Int × Int)} (h : Tab w v f) (hx : Ext w w') : Tab w' v f := by
 obtain ⟨bm, es, clock, h1, h2, h3⟩ := h.ex
 exact ⟨bm, es, clock, hx.cell h1, hx.getMap h2, h3⟩
theorem find_int (k : Int) : ∀ (es : List MapEntry) (i : Nat), (∀ e ∈ es, ∃ q z, e.key = .int .i64 q ∧ e.val = .int .i64 z) → ∃ r, Instr.findNow (.int .i64) (.int .i64 k) es i = some r ∧ ((r = none ∧ ∀ e ∈ es, e.key ≠ .int .i64 k) ∨ ∃ j, ∃ e ∈ es, r = some (j, e.val) ∧ e.key = .int .i64 k)
 | [], i, _ => ⟨none, rfl, .inl ⟨rfl, by simp⟩⟩
 | e :: es, i, h => by
  obtain ⟨q, z, h1, h2⟩ := h e (by simp)
  by_cases hq : k = q
  ·subst hq
   exact ⟨some (i, e.val), by simp [Instr.findNow, Instr.sameNow, h1], .inr ⟨i, e, by simp, rfl, h1⟩⟩
  ·obtain ⟨r, hr, hr2⟩ := find_int k es (i + 1) fun e he => h e (by simp [he])
   have hb : (k == q) = false := by simp [hq]
   refine ⟨r, by simp [Instr.findNow, Instr.sameNow, h1, hb, hr], ?_⟩
   rcases hr2 with ⟨h3, h4⟩ | ⟨j, e', he', h3, h4⟩
   ·refine .inl ⟨h3, fun e' he' => ?_⟩
    rcases List.mem_cons.1 he' with rfl | he'
    ·rw [h1]; simp [Ne.symm hq]
    ·exact h4 e' he'
   ·exact .inr ⟨j, e', by simp [he'], h3, h4⟩
theorem st_tab {bq : Bool} (hE : EngB bq P E) {t kt et : TypeId} (ht : P.underlying t = some (.map kt et)) (hkt : P.underlying kt = some (.int .i64)) (hz : (P.info? et).map (·.zero) = some (some (.int .i64 0))) {bm : Nat} {f : List (Int × Int)} {es : Array MapEntry} {clock : Nat} (hb : w.heap[bm]? = some (.map es clock))
  (h1 : ∀ e ∈ es.toList, ∃ k z, e.key = .int .i64 k ∧ e.val = .int .i64 z ∧ (k, z) ∈ f) (h2 : ∀ k z, (k, z) ∈ f → ∃ e ∈ es.toList, e.key = .int .i64 k ∧ e.val = .int .i64 z) {k : Int} {x y : Operand}
  (hk : ∀ z, (k, z) ∈ f ∨ (z = 0 ∧ ∀ q, (k, q) ∉ f) → K (.int .i64 z) w) : E.stop ⟨d, .lookup t x y false, ty, pos, aft, g⟩ [.map (some bm), .int .i64 k] w K := by
 obtain ⟨i0, hi, hz⟩ := Option.map_eq_some_iff.1 hz
 obtain ⟨r, hr, hr2⟩ := find_int k es.toList 0 fun e he => by obtain ⟨q, z, h3, h4, _⟩ := h1 e he; exact ⟨q, z, h3, h4⟩
 have hck0 : ∀ (q : Nat) (w1 : World), (Instr.checkKey es.isEmpty (q + 1) kt (.int .i64 k)).run P w1 = .ok () w1 := fun q w1 => by simp [Instr.checkKey, run_underlying hkt]
 have hck : ∀ w1 : World, (Instr.checkKey es.isEmpty 10000 kt (.int .i64 k)).run P w1 = .ok () w1 := hck0 9999
 rcases hr2 with ⟨rfl, hno⟩ | ⟨j, e, he, rfl, hke⟩
 ·refine hE.det (v := .int .i64 0) (fun w1 hx ρ hρ => ?_) (hk 0 (.inr ⟨rfl, fun q hq => ?_⟩))
  ·simp only [opnds, b2_, b3_, b1_, and_true] at hρ
   have hb1 : w1.heap[bm]? = some (.map es clock) := hx.getMap hb
   have hg := MapKept.run_getObj_map (P := P) hb1
   simp [execOp, hρ.1, hρ.2, Instr.lookup, run_underlying ht, hg, hck, Instr.findKey, run_underlying hkt, hr, zeroValue, typeInfo, hi, hz]
  ·obtain ⟨e, he, h3, _⟩ := h2 k q hq
   exact hno e he h3
 ·obtain ⟨q, z, h3, h4, h5⟩ := h1 e he
  rw [hke] at h3
  cases h3
  refine hE.det (v := .int .i64 z) (fun w1 hx ρ hρ => ?_) (hk z (.inl h5))
  simp only [opnds, b2_, b3_, b1_, and_true] at hρ
  have hb1 : w1.heap[bm]? = some (.map es clock) := hx.getMap hb
  have hg := MapKept.run_getObj_map (P := P) hb1
  simp [execOp, hρ.1, hρ.2, Instr.lookup, run_underlying ht, hg, hck, Instr.findKey, run_underlying hkt, hr, h4]
end
end Go.Eng
