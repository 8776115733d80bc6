/- An engine for walks: what a piece of code owes is reckoned by a function on the code (eCode), and that function is sound (eCode_sound); contracts of functions (QF, QB, FC). No condition. -/
import Derived.WalkKit
import Derived.Deep.Quiet
import Derived.OrdersHeld
namespace Go.Eng

/-! ### Frames: what is known of the temporaries -/
abbrev Fr := List (Nat × Value)

def lk : Fr → Nat → Option Value
  | [], _ => none
  | (k, v) :: r, t => if k = t then some v else lk r t

def ev (F : Fr) : Operand → Option Value
  | .tmp t => lk F t
  | .const v => some v
  | .global g => some (.pointer (some ⟨g, 0, none⟩))
  | .func f => some (.func (.func f) #[] #[])

def evs (F : Fr) : List Operand → Option (List Value)
  | [] => some []
  | x :: xs => match ev F x with
    | none => none
    | some v => match evs F xs with
      | none => none
      | some vs => some (v :: vs)

/-- The operands of an operation, in a list. -/
def opnds : Op → List Operand
  | .alloc _ | .ready _ | .waits _ => []
  | .move x | .assign x | .box _ x | .load _ x | .nilCheck x | .unOp _ _ x | .convert _ _ x | .sliceToArrayPointer _ x | .makeInterface _ x
  | .makeChan _ x | .fieldAddr _ x _ | .field _ x _ | .range _ x | .next x _ | .entry x | .typeAssert x _ _ _ | .extract x _ | .panic x | .recv _ x _ => [x]
  | .pick c a b => [c, a, b]
  | .build _ ps | .buildSlice _ _ ps => ps.toList.map (·.2)
  | .store _ a v | .binOp _ _ a v _ | .makeSlice _ a v | .indexAddr _ a v | .index _ a v | .lookup _ a v _ | .mapEntry _ a v | .send a v => [a, v]
  | .makeFunc _ first captured => first.toList ++ captured.toList
  | .makeMap _ r => r.toList
  | .slice _ x l h m => x :: (l.toList ++ h.toList ++ m.toList)
  | .mapUpdate _ m k v | .entryStore _ m k v | .insert _ m k v => [m, k, v]
  | .call c | .go c | .defer c => (match c.callee with | .value f => [f] | .invoke r _ => [r] | .builtin _ => []) ++ c.args.toList
  | .select _ _ => []

/-- What the engine leaves to the proof. -/
structure Sym where
  ar : BinOp → IntKind → Int → Int → Int
  cmp : BinOp → Int → Int → Bool
  scmp : BinOp → ByteArray → ByteArray → Bool
  nat : Nat → Int
  len : ByteArray → Nat
  stop : Oper → List Value → World → (Value → World → Prop) → Prop
  loop : Code → Fr → World → (Exit → Fr → World → Prop) → Prop
  draw : Nat → Array Oper → Fr → World → (Exit → Fr → World → Prop) → Prop
  cut : Code → Code → Fr → World → (Exit → Fr → World → Prop) → Prop
  cell : TypeId → Value → World → (Value → World → Prop) → Prop

inductive Pk where
  | v (x : Value)      -- a value, at once
  | p (b : Bool) (x y : Value)      -- one of two
  | no      -- left to the proof
def Pk.un : UnOp → Value → Pk
  | .not, .bool b => .v (.bool (if b = true then false else true))
  | _, _ => .no
def sameK : IntKind → IntKind → Bool
  | .i64, .i64 | .u8, .u8 | .u64, .u64 | .i32, .i32 | .u16, .u16 | .u32, .u32 | .i8, .i8 | .i16, .i16 => true
  | _, _ => false
def Pk.bin (E : Sym) : BinOp → Value → Value → Pk
  | op, .int k a, .int k' b => if sameK k k' = true then (match op with
    | .add => .v (.int k (E.ar .add k a b))
    | .sub => .v (.int k (E.ar .sub k a b))
    | .mul => .v (.int k (E.ar .mul k a b))
    | .eql => .v (.bool (E.cmp .eql a b))
    | .neq => .v (.bool (E.cmp .neq a b))
    | .lss => .v (.bool (E.cmp .lss a b))
    | .leq => .v (.bool (E.cmp .leq a b))
    | .gtr => .v (.bool (E.cmp .gtr a b))
    | .geq => .v (.bool (E.cmp .geq a b))
    | _ => .no) else .no
  | op, .string a, .string b => match op with
    | .eql => .v (.bool (E.scmp .eql a b))
    | .neq => .v (.bool (E.scmp .neq a b))
    | .lss => .v (.bool (E.scmp .lss a b))
    | .leq => .v (.bool (E.scmp .leq a b))
    | .gtr => .v (.bool (E.scmp .gtr a b))
    | .geq => .v (.bool (E.scmp .geq a b))
    | _ => .no
  | _, _, _ => .no

def pure1 (E : Sym) (F : Fr) : Op → Pk
  | .move x | .assign x => match ev F x with | some v => .v v | none => .no
  | .pick c a b => match ev F c, ev F a, ev F b with
    | some (.bool c), some x, some y => .p c x y
    | some (.bool c), some x, none => if c = true then .v x else .no
    | some (.bool c), none, some y => if c = true then .no else .v y
    | _, _, _ => .no
  | .binOp op _ x y _ => match ev F x, ev F y with
    | some v, some u => Pk.bin E op v u
    | _, _ => .no
  | .unOp op _ x => match ev F x with
    | some v => Pk.un op v
    | none => .no
  | .extract x i => match ev F x with
    | some (.tuple vs) => match vs.toList[i]? with | some v => .v v | none => .no
    | _ => .no
  | .makeFunc fn first captured => match evs F first.toList, evs F captured.toList with
    | some a, some b => .v (.func fn a.toArray b.toArray)
    | _, _ => .no
  | _ => .no

def put (F : Fr) : Option Tmp → Value → Fr
  | some d, v => (d, v) :: F
  | none, _ => F

def dstOf : List Oper → Nat → Option Tmp
  | [], _ => none
  | o :: _, 0 => o.dst
  | _ :: os, n + 1 => dstOf os n

def eOp (E : Sym) (o : Oper) (F : Fr) (w : World) (K : Value → World → Prop) : Prop :=
  match pure1 E F o.op with
  | .v x => K x w
  | .p b x y => if b = true then K x w else K y w
  | .no => match evs F (opnds o.op) with
    | some vs => E.stop o vs w K
    | none => False

def eOps (E : Sym) (all : List Oper) : List Oper → Fr → World → (Fr → World → Prop) → Prop
  | [], F, w, K => K F w
  | o :: os, F, w, K =>
    match o.guard with
    | none => eOp E o F w fun v w => eOps E all os (put F o.dst v) w K
    | some (j, want) =>
      match dstOf all j with
      | none => False
      | some s => match lk F s with
        | some (.bool b) =>
          if b = true then
            (if want = true then eOp E o ((s, .bool true) :: F) w fun v w => eOps E all os (put ((s, .bool true) :: F) o.dst v) w K
             else eOps E all os (put ((s, .bool true) :: F) o.dst undef) w K)
          else
            (if want = true then eOps E all os (put ((s, .bool false) :: F) o.dst undef) w K
             else eOp E o ((s, .bool false) :: F) w fun v w => eOps E all os (put ((s, .bool false) :: F) o.dst v) w K)
        | some (.tuple vs) => if vs.size = 0 then eOps E all os (put F o.dst undef) w K else False
        | _ => False

/-- The number of the first region of a piece of code. -/
def firstId : Code → Nat
  | .region id _ _ => id
  | .seq a _ => firstId a
  | .cond _ a _ => firstId a
  | .block _ c => firstId c
  | .loop c => firstId c
  | _ => 1000000
def memb : List Nat → Nat → Bool
  | [], _ => false
  | x :: xs, n => if x = n then true else memb xs n
/-- What code owes. 'cs': the regions ahead of which the engine stops (to bring ways together). -/
def eCode (E : Sym) (cs : List Nat) : Code → Fr → World → (Exit → Fr → World → Prop) → Prop
  | .skip, F, w, K => K .normal F w
  | .label _, F, w, K => K .normal F w
  | .region id ops draw, F, w, K =>
    match draw with
    | false => eOps E ops.toList ops.toList F w (K .normal)
    | true => E.draw id ops F w K
  | .seq a b, F, w, K => if memb cs (firstId b) = true then E.cut a b F w K else eCode E cs a F w fun e F w => match e with
    | .normal => eCode E cs b F w K
    | e => K e F w
  | .cond c x y, F, w, K => match ev F c with
    | some (.bool b) => if b = true then eCode E cs x F w K else eCode E cs y F w K
    | _ => False
  | .block id c, F, w, K => eCode E cs c F w fun e F w => match e with
    | .exit i => if i = id then K .normal F w else K (.exit i) F w
    | e => K e F w
  | .loop c, F, w, K => E.loop c F w K
  | .exit id, F, w, K => K (.exit id) F w
  | .ret, F, w, K => K .ret F w
  | _, _, _, _ => False

/-! ### The same, said of the machine -/
structure Kn (n : Nat) (F : Fr) (a : Act) : Prop where
  size : a.tmps.size = n
  defers : a.defers = []
  get : ∀ k v, lk F k = some v → a.tmps[k]? = some v

theorem Kn.ev {n : Nat} {F : Fr} {a : Act} (h : Kn n F a) {x : Operand} {v : Value} (hx : ev F x = some v) : a.eval x = v := by
  cases x with
  | tmp t =>
    have := h.get t v hx
    simp [Act.eval, Array.getD_eq_getD_getElem?, this]
  | const u => simpa [Eng.ev, Act.eval] using hx
  | global g => simpa [Eng.ev, Act.eval] using hx
  | func f => simpa [Eng.ev, Act.eval] using hx

theorem Kn.evs {n : Nat} {F : Fr} {a : Act} (h : Kn n F a) : ∀ {xs : List Operand} {vs : List Value}, Eng.evs F xs = some vs → xs.map a.eval = vs
  | [], vs, hx => by simp only [Eng.evs, Option.some.injEq] at hx; simp [← hx]
  | x :: xs, vs, hx => by
    simp only [Eng.evs] at hx
    split at hx
    · cases hx
    · rename_i v hv
      split at hx
      · cases hx
      · rename_i us hus
        simp only [Option.some.injEq] at hx
        subst hx
        simp [h.ev hv, Kn.evs h hus]

theorem look_cons_self (k : Nat) (v : Value) (F : Fr) : lk ((k, v) :: F) k = some v := by simp [lk]
theorem look_cons_ne {k t : Nat} (v : Value) (F : Fr) (h : k ≠ t) : lk ((k, v) :: F) t = lk F t := by simp [lk, h]

theorem Kn.put {n : Nat} {F : Fr} {a : Act} (h : Kn n F a) (d : Option Tmp) (hd : ∀ t, d = some t → t < n) (v : Value) : Kn n (put F d v) (a.put d v) := by
  cases d with
  | none => exact h
  | some d =>
    have hd' : d < a.tmps.size := by rw [h.size]; exact hd d rfl
    refine ⟨by simpa [Act.put] using h.size, h.defers, fun k u hk => ?_⟩
    simp only [Eng.put] at hk
    by_cases e : d = k
    · subst e
      rw [look_cons_self] at hk
      cases hk
      simp only [Act.put]
      rw [Array.getElem?_setIfInBounds_self_of_lt hd']
    · rw [look_cons_ne _ _ e] at hk
      have := h.get k u hk
      simpa [Act.put, e] using this
theorem Kn.lay {n : Nat} {F : Fr} {a : Act} (h : Kn n F a) {s : Nat} {v : Value} (hs : lk F s = some v) : Kn n ((s, v) :: F) a :=
  ⟨h.size, h.defers, fun k u hk => by
    by_cases e : s = k
    · subst e; rw [look_cons_self] at hk; cases hk; exact h.get s v hs
    · rw [look_cons_ne _ _ e] at hk; exact h.get k u hk⟩


/-! ### What the symbols mean -/
def arR : BinOp → IntKind → Int → Int → Int
  | .add, k, a, b => k.wrap (a + b)
  | .sub, k, a, b => k.wrap (a - b)
  | _, k, a, b => k.wrap (a * b)
def cmpR : BinOp → Int → Int → Bool
  | .eql, a, b => a == b
  | .neq, a, b => a != b
  | .lss, a, b => decide (a < b)
  | .leq, a, b => decide (a ≤ b)
  | .gtr, a, b => decide (b < a)
  | _, a, b => decide (b ≤ a)
def scmpR : BinOp → ByteArray → ByteArray → Bool
  | .eql, x, y => x.toList == y.toList
  | .neq, x, y => !(x.toList == y.toList)
  | .lss, x, y => Op.bytesLess x.toList y.toList
  | .leq, x, y => Op.bytesLess x.toList y.toList || x.toList == y.toList
  | .gtr, x, y => !(Op.bytesLess x.toList y.toList || x.toList == y.toList)
  | _, x, y => !Op.bytesLess x.toList y.toList

def sat (P : Program) (Pn : List PanicEntry → World → Prop) (K : Value → World → Prop) : Result Next → Prop
  | .ok (.value v) w => K v w
  | .ok .skip w => K undef w
  | .ok (.enter f args) w => Calls P f args w fun e w' => match e with | .returned v => K v w' | .panicked c => Pn c w' | .outgrown => False
  | .halt (.panic v) w => Pn [{ v, recovered := false }] w
  | _ => False
theorem sat_mono {P : Program} {Pn : List PanicEntry → World → Prop} {K K' : Value → World → Prop} (h : ∀ v w, K v w → K' v w) : ∀ {r : Result Next}, sat P Pn K r → sat P Pn K' r
  | .ok (.value _) _, hr => h _ _ hr
  | .ok .skip _, hr => h _ _ hr
  | .ok (.enter _ _) _, hr => hr.mono fun e w' he => by cases e <;> first | exact h _ _ he | exact he
  | .halt (.panic _) _, hr => hr
  | .ok (.round ..) _, hr | .ok (.defer _) _, hr | .ok .recover _, hr | .ok (.spawn _) _, hr | .ok (.comm ..) _, hr | .ok .numGoroutine _, hr
  | .ok .collect _, hr | .ok (.watch _) _, hr | .ok (.newcoro ..) _, hr | .ok (.coroswitch ..) _, hr | .ok (.sleep _) _, hr | .ok (.timer _) _, hr
  | .ok (.alone ..) _, hr | .ok (.callThen ..) _, hr | .ok (.row ..) _, hr | .ok (.stack ..) _, hr
  | .halt .blocked _, hr | .halt .waiting _, hr | .halt (.exit _) _, hr | .halt (.fatal _) _, hr | .halt (.throw _) _, hr | .halt .goexit _, hr
  | .halt (.unsupported _) _, hr | .halt (.stuck _) _, hr => hr.elim

/-- The post that an exit owes. -/
def QK (Pn : List PanicEntry → World → Prop) (n : Nat) (K : Exit → Fr → World → Prop) (e : Exit) (a : Act) (w : World) : Prop :=
  match e with
  | .panic c => a.defers = [] ∧ Pn c w
  | .outgrown => False
  | e => ∃ F, Kn n F a ∧ K e F w

def okDst (n : Nat) : Code → Bool
  | .region _ ops _ => ops.toList.all fun o => match o.dst with | some d => Nat.blt d n | none => true
  | .seq a b | .cond _ a b => okDst n a && okDst n b
  | .block _ c | .loop c => okDst n c
  | .skip | .exit _ | .ret => true
  | _ => false

def real (P : Program) (Pn : List PanicEntry → World → Prop) (n : Nat) : Sym where
  ar := arR
  cmp := cmpR
  scmp := scmpR
  nat := Int.ofNat
  len := ByteArray.size
  stop o vals w K := ∀ ρ : Operand → Value, (opnds o.op).map ρ = vals → sat P Pn K ((execOp ρ o).run P w)
  loop c F w K := okDst n c = true → ∀ a, Kn n F a → (Code.loop c).wp P (QK Pn n K) a w
  draw id ops F w K := okDst n (.region id ops true) = true → ∀ a, Kn n F a → (Code.region id ops true).wp P (QK Pn n K) a w
  cut x y F w K := okDst n x = true → okDst n y = true → ∀ a, Kn n F a → (Code.seq x y).wp P (QK Pn n K) a w
  cell t x w K := ∃ a v, x = .pointer (some a) ∧ (loadVar t a).run P w = .ok v w ∧ K v w

section
variable {P : Program} {Pn : List PanicEntry → World → Prop} {n : Nat}

theorem sameK_eq : ∀ {k k' : IntKind}, sameK k k' = true → k = k' := by
  intro k k'; cases k <;> cases k' <;> simp [sameK]

/-- What an operation yields at once. -/
theorem bin_sound {op : BinOp} {t t' : TypeId} {x y : Operand} {a b : Value} {r : Pk} (ρ : Operand → Value) (ha : ρ x = a) (hb : ρ y = b) (h : Pk.bin (real P Pn n) op a b = r) (w : World) (o : Oper) (ho : o.op = .binOp op t x y t') :
    (∀ v, r = .v v → (execOp ρ o).run P w = .ok (.value v) w) ∧ (∀ c u v, r ≠ .p c u v) := by
  subst h
  cases a <;> cases b <;> try (refine ⟨fun v h => ?_, fun _ _ _ h => ?_⟩ <;> simp only [Pk.bin] at h <;> cases h; done)
  case int.int k a k' b =>
    by_cases hk : sameK k k' = true
    · have := sameK_eq hk
      subst this
      refine ⟨fun v h => ?_, fun c u v h => ?_⟩
      · simp only [Pk.bin, hk, if_true] at h
        cases op <;> simp only [Pk.v.injEq, reduceCtorEq] at h <;> subst h <;> simp [execOp, ho, ha, hb, eqGuard, binOp, Op.intArith, Op.intCmp, real, arR, cmpR]
      · simp only [Pk.bin, hk, if_true] at h
        cases op <;> simp only [reduceCtorEq] at h
    · refine ⟨fun v h => ?_, fun c u v h => ?_⟩ <;> simp only [Pk.bin, hk] at h <;> cases h
  case string.string a b =>
    refine ⟨fun v h => ?_, fun c u v h => ?_⟩
    · cases op <;> simp only [Pk.bin, Pk.v.injEq, reduceCtorEq] at h <;> subst h <;> simp [execOp, ho, ha, hb, eqGuard, binOp, Op.stringOp, real, scmpR]
    · cases op <;> simp only [Pk.bin, reduceCtorEq] at h

theorem pure1_sound {F : Fr} {a : Act} (hk : Kn n F a) {o : Oper} (w : World) :
    (∀ v, pure1 (real P Pn n) F o.op = .v v → (execOp a.eval o).run P w = .ok (.value v) w) ∧
    (∀ b x y, pure1 (real P Pn n) F o.op = .p b x y → (execOp a.eval o).run P w = .ok (.value (if b = true then x else y)) w) := by
  obtain ⟨d, op, ty, pos, aft, g⟩ := o
  cases op <;> try (refine ⟨fun v h => ?_, fun b x y h => ?_⟩ <;> simp only [pure1] at h <;> cases h; done)
  case move x =>
    refine ⟨fun v h => ?_, fun b x y h => ?_⟩ <;> simp only [pure1] at h <;> split at h <;> cases h
    rename_i hx
    simp [execOp, hk.ev hx]
  case assign x =>
    refine ⟨fun v h => ?_, fun b x y h => ?_⟩ <;> simp only [pure1] at h <;> split at h <;> cases h
    rename_i hx
    simp [execOp, hk.ev hx]
  case pick c x y =>
    refine ⟨fun v h => ?_, fun b u v h => ?_⟩ <;> simp only [pure1] at h
    · split at h
      · cases h
      · rename_i c' x' hc hx _
        split at h <;> cases h
        rename_i hc'
        simp [execOp, hk.ev hc, asBool, hk.ev hx, hc']
      · rename_i c' y' hc _ hy
        split at h <;> cases h
        rename_i hc'
        simp [execOp, hk.ev hc, asBool, hk.ev hy, hc']
      · cases h
    · split at h
      · cases h
        rename_i hc hx hy
        simp [execOp, hk.ev hc, asBool, hk.ev hx, hk.ev hy]
      · split at h <;> cases h
      · split at h <;> cases h
      · cases h
  case binOp op t x y t' =>
    refine ⟨fun v h => ?_, fun b p q h => ?_⟩ <;> simp only [pure1] at h <;> split at h
    · rename_i hx hy
      exact (bin_sound a.eval (hk.ev hx) (hk.ev hy) rfl w ⟨d, .binOp op t x y t', ty, pos, aft, g⟩ rfl).1 v h
    · cases h
    · rename_i hx hy
      exact ((bin_sound a.eval (hk.ev hx) (hk.ev hy) rfl w ⟨d, .binOp op t x y t', ty, pos, aft, g⟩ rfl).2 _ _ _ h).elim
    · cases h
  case unOp op t x =>
    refine ⟨fun v h => ?_, fun b u y h => ?_⟩ <;> simp only [pure1] at h <;> split at h
    · rename_i x' hx
      cases op <;> cases x' <;> simp only [Pk.un, Pk.v.injEq, reduceCtorEq] at h
      subst h
      rename_i b
      cases b <;> simp [execOp, hk.ev hx, Op.unary]
    · cases h
    · rename_i x' hx
      cases op <;> cases x' <;> simp only [Pk.un, reduceCtorEq] at h
    · cases h
  case extract x i =>
    refine ⟨fun v h => ?_, fun b u y h => ?_⟩ <;> simp only [pure1] at h <;> split at h
    · rename_i vs hx
      split at h <;> cases h
      rename_i hv
      have hv' : vs[i]? = some v := by simpa using hv
      simp [execOp, hk.ev hx, Instr.extract, hv']
    · cases h
    · split at h <;> cases h
    · cases h
  case makeFunc fn first captured =>
    refine ⟨fun v h => ?_, fun b u y h => ?_⟩ <;> simp only [pure1] at h <;> split at h <;> cases h
    rename_i hx hy
    have h1 := hk.evs hx
    have h2 := hk.evs hy
    subst h1; subst h2
    have e1 : ∀ l : Array Operand, l.map a.eval = (l.toList.map a.eval).toArray := fun l => by rw [← Array.toList_map, Array.toArray_toList]
    simp [execOp, Instr.makeFunc, e1]

theorem eOp_sound {F : Fr} {a : Act} (hk : Kn n F a) {o : Oper} {w : World} {K : Value → World → Prop} (h : eOp (real P Pn n) o F w K) : sat P Pn K ((execOp a.eval o).run P w) := by
  simp only [eOp] at h
  split at h
  · rename_i x hx
    rw [(pure1_sound hk w).1 _ hx]; exact h
  · rename_i b x y hx
    rw [(pure1_sound hk w).2 _ _ _ hx]
    split at h
    · rename_i hb; simp only [hb, if_true]; exact h
    · rename_i hb; simp only [hb]; exact h
  · split at h
    · rename_i vs hvs
      exact h a.eval (hk.evs hvs)
    · exact h.elim

/-- A list of operations. -/
theorem dstOf_eq : ∀ (l : List Oper) (j : Nat), dstOf l j = (l[j]?).bind (·.dst)
  | [], _ => by simp [dstOf]
  | o :: _, 0 => by simp [dstOf]
  | _ :: os, j + 1 => by simp [dstOf, dstOf_eq os j]
theorem wanted_of {all : List Oper} {a : Act} {F : Fr} (hk : Kn n F a) {o : Oper} {j : Nat} {want : Bool} {s : Nat} {v : Value} (hg : o.guard = some (j, want)) (hs : dstOf all j = some s) (hv : lk F s = some v) :
    Region.wanted o (yielded all.toArray a.tmps) = (match v with | .bool b => b == want | _ => false) := by
  have h1 : (all[j]?).bind (·.dst) = some s := by rw [← dstOf_eq]; exact hs
  have h2 := hk.get s v hv
  simp only [Region.wanted, hg, yielded, List.getElem?_toArray, h1, Option.bind_some, h2]
  cases v <;> simp
theorem wpList_of_sat {all : List Oper} {os : List Oper} {o : Oper} {a : Act} {w : World} {Q : Exit → Act → World → Prop} {K : Value → World → Prop} (hw : Region.wanted o (yielded all.toArray a.tmps) = true)
    (h : sat P Pn K ((execOp a.eval o).run P w)) (hK : ∀ v w, K v w → wpList P all.toArray Q os (a.put o.dst v) w) (hP : ∀ c w, Pn c w → Q (.panic c) a w) : wpList P all.toArray Q (o :: os) a w := by
  unfold wpList
  rw [if_pos hw]
  refine .inl ?_
  unfold Oper.wp
  generalize (execOp a.eval o).run P w = r at h
  cases r with
  | ok x w' =>
    cases x <;> simp only [sat] at h <;> simp only [Oper.upon]
    case value => exact hK _ _ h
    case skip => exact hK _ _ h
    case enter => exact h.mono fun e w' he => by cases e <;> first | exact hK _ _ he | exact hP _ _ he | exact he.elim
  | halt x w' =>
    cases x <;> simp only [sat] at h <;> simp only [Oper.upon]
    case panic => exact hP _ _ h
theorem wpList_pass {all : List Oper} {os : List Oper} {o : Oper} {a : Act} {w : World} {Q : Exit → Act → World → Prop} (hw : Region.wanted o (yielded all.toArray a.tmps) = false) (h : wpList P all.toArray Q os (a.put o.dst undef) w) : wpList P all.toArray Q (o :: os) a w := by
  unfold wpList
  rw [hw]
  exact h

theorem eOps_sound {all : List Oper} {K : Exit → Fr → World → Prop} : ∀ (os : List Oper) (F : Fr) (a : Act) (w : World), (∀ o ∈ os, ∀ t, o.dst = some t → t < n) → Kn n F a → eOps (real P Pn n) all os F w (K .normal) → wpList P all.toArray (QK Pn n K) os a w
  | [], F, a, w, _, hk, h => by
    simp only [eOps] at h
    exact ⟨F, hk, h⟩
  | o :: os, F, a, w, hd, hk, h => by
    have hdo : ∀ t, o.dst = some t → t < n := hd o (by simp)
    have hds : ∀ o' ∈ os, ∀ t, o'.dst = some t → t < n := fun o' ho' => hd o' (by simp [ho'])
    have hP : ∀ c w, Pn c w → QK Pn n K (.panic c) a w := fun c w h => ⟨hk.defers, h⟩
    simp only [eOps] at h
    split at h
    · rename_i hg
      exact wpList_of_sat (by simp [Region.wanted, hg]) (eOp_sound hk h) (fun v w' h' => eOps_sound os _ _ _ hds (hk.put o.dst hdo v) h') hP
    · rename_i j want hg
      split at h
      · exact h.elim
      · rename_i s hs
        split at h
        · rename_i b hv
          have hwt := wanted_of (all := all) hk hg hs hv
          simp only at hwt
          split at h
          · rename_i hb
            subst hb
            have hk' := hk.lay hv
            split at h
            · rename_i hwn
              subst hwn
              exact wpList_of_sat (by simpa using hwt) (eOp_sound hk' h) (fun v w' h' => eOps_sound os _ _ _ hds (hk'.put o.dst hdo v) h') hP
            · rename_i hwn
              have : want = false := by simpa using hwn
              subst this
              exact wpList_pass (by simpa using hwt) (eOps_sound os _ _ _ hds (hk'.put o.dst hdo undef) h)
          · rename_i hb
            have : b = false := by simpa using hb
            subst this
            have hk' := hk.lay hv
            split at h
            · rename_i hwn
              subst hwn
              exact wpList_pass (by simpa using hwt) (eOps_sound os _ _ _ hds (hk'.put o.dst hdo undef) h)
            · rename_i hwn
              have : want = false := by simpa using hwn
              subst this
              exact wpList_of_sat (by simpa using hwt) (eOp_sound hk' h) (fun v w' h' => eOps_sound os _ _ _ hds (hk'.put o.dst hdo v) h') hP
        · rename_i vs hv
          have hwt := wanted_of (all := all) hk hg hs hv
          split at h
          · exact wpList_pass (by simpa using hwt) (eOps_sound os _ _ _ hds (hk.put o.dst hdo undef) h)
          · exact h.elim
        · exact h.elim

theorem okDst_ops {id : Nat} {ops : Array Oper} {d : Bool} (h : okDst n (.region id ops d) = true) : ∀ o ∈ ops.toList, ∀ t, o.dst = some t → t < n := by
  intro o ho t ht
  simp only [okDst, List.all_eq_true] at h
  have := h o ho
  simp only [ht] at this
  simpa [Nat.blt_eq] using this

/-- THE ENGINE IS SOUND. -/
theorem eCode_sound {cs : List Nat} : ∀ (c : Code) {K : Exit → Fr → World → Prop} {F : Fr} {a : Act} {w : World}, okDst n c = true → Kn n F a → eCode (real P Pn n) cs c F w K → c.wp P (QK Pn n K) a w
  | .skip, K, F, a, w, _, hk, h => wp_skip ⟨F, hk, h⟩
  | .region id ops false, K, F, a, w, hd, hk, h => by
    simp only [eCode] at h
    exact wp_region_list (by have := eOps_sound ops.toList F a w (okDst_ops hd) hk h; simpa using this)
  | .region id ops true, K, F, a, w, hd, hk, h => h hd a hk
  | .seq x y, K, F, a, w, hd, hk, h => by
    simp only [okDst, Bool.and_eq_true] at hd
    simp only [eCode] at h
    split at h
    · exact h hd.1 hd.2 a hk
    refine wp_seq (Code.wp_mono (fun e a' w' hq => ?_) (eCode_sound x hd.1 hk h))
    cases e with
    | normal => obtain ⟨F', hk', h'⟩ := hq; exact eCode_sound y hd.2 hk' h'
    | panic c => exact hq
    | outgrown => exact hq.elim
    | exit id => exact hq
    | goto l => exact hq
    | ret => exact hq
  | .cond c x y, K, F, a, w, hd, hk, h => by
    simp only [okDst, Bool.and_eq_true] at hd
    simp only [eCode] at h
    split at h
    · rename_i b hb
      refine wp_cond (hk.ev hb) ?_
      split at h
      · rename_i ht; subst ht; exact eCode_sound x hd.1 hk h
      · rename_i ht
        have : b = false := by simpa using ht
        subst this; exact eCode_sound y hd.2 hk h
    · exact h.elim
  | .block id c, K, F, a, w, hd, hk, h => by
    simp only [okDst] at hd
    simp only [eCode] at h
    refine wp_block (Code.wp_mono (fun e a' w' hq => ?_) (eCode_sound c hd hk h))
    cases e with
    | exit i =>
      obtain ⟨F', hk', h'⟩ := hq
      simp only at h'
      simp only [Exit.inBlock]
      split at h'
      · rename_i hi; rw [if_pos hi]; exact ⟨F', hk', h'⟩
      · rename_i hi; rw [if_neg hi]; exact ⟨F', hk', h'⟩
    | normal => exact hq
    | panic c => exact hq
    | outgrown => exact hq.elim
    | goto l => exact hq
    | ret => exact hq
  | .loop c, K, F, a, w, hd, hk, h => h hd a hk
  | .exit id, K, F, a, w, _, hk, h => wp_exit ⟨F, hk, h⟩
  | .ret, K, F, a, w, _, hk, h => wp_ret ⟨F, hk, h⟩
end

/-! ### A function -/
def eRes (E : Sym) (F : Fr) : List ResultVar → World → (List Value → Prop) → Prop
  | [], _, K => K []
  | .tmp t :: rs, w, K => match lk F t with
    | none => False
    | some v => eRes E F rs w fun vs => K (v :: vs)
  | .cell a t :: rs, w, K => match lk F a with
    | none => False
    | some x => E.cell t x w fun v w => eRes E F rs w fun vs => K (v :: vs)
def one : List Value → Value
  | [v] => v
  | vs => .tuple vs.toArray
def ePost (E : Sym) (rs : List ResultVar) (R : Value → World → Prop) : Exit → Fr → World → Prop
  | .normal, F, w | .ret, F, w => eRes E F rs w fun vs => R (one vs) w
  | _, _, _ => False
def frame : Nat → List Value → Fr
  | _, [] => []
  | k, v :: vs => (k, v) :: frame (k + 1) vs
def eBody (E : Sym) (cs : List Nat) (fn : Func) (args : List Value) (w : World) (R : Value → World → Prop) : Prop :=
  match fn.body with
  | none => False
  | some c => if okDst fn.ntmps c = true then (if Nat.ble args.length fn.ntmps = true then eCode E cs c (frame 0 args) w (ePost E fn.results.toList R) else False) else False

theorem eRes_sound {P : Program} {Pn : List PanicEntry → World → Prop} {n : Nat} {F : Fr} {a : Act} (hk : Kn n F a) {w : World} (g : ResultVar → Sem Value) (hg : ∀ t, g (.tmp t) = pure (a.tmps.getD t undef))
    (hc : ∀ t ty, g (.cell t ty) = do loadVar ty (← asAddr (a.tmps.getD t undef))) : ∀ (rs : List ResultVar) (K : List Value → Prop), eRes (real P Pn n) F rs w K → ∃ vs, (rs.mapM g).run P w = .ok vs w ∧ K vs
  | [], K, h => ⟨[], rfl, h⟩
  | .tmp t :: rs, K, h => by
    simp only [eRes] at h
    split at h
    · exact h.elim
    · rename_i v hv
      obtain ⟨vs, h1, h2⟩ := eRes_sound hk g hg hc rs _ h
      have h3 := hk.get t v hv
      refine ⟨v :: vs, ?_, h2⟩
      rw [List.mapM_cons, hg, Sem.run_bind, Sem.run_pure]
      simp only [Result.andThen]
      rw [Sem.run_bind, h1]
      simp [Array.getD_eq_getD_getElem?, h3]
  | .cell t ty :: rs, K, h => by
    simp only [eRes] at h
    split at h
    · exact h.elim
    · rename_i x hx
      obtain ⟨ad, v, rfl, hl, h⟩ := h
      obtain ⟨vs, h1, h2⟩ := eRes_sound hk g hg hc rs _ h
      have h3 := hk.get t _ hx
      refine ⟨v :: vs, ?_, h2⟩
      rw [List.mapM_cons, hc, Sem.run_bind]
      simp only [Array.getD_eq_getD_getElem?, h3, Option.getD_some, asAddr, Sem.run_bind, Sem.run_pure, Result.andThen_ok, hl, h1]
theorem results_of {P : Program} {Pn : List PanicEntry → World → Prop} {n : Nat} {fn : Func} {F : Fr} {a : Act} {w : World} (hk : Kn n F a) {R : Value → World → Prop} (h : eRes (real P Pn n) F fn.results.toList w fun vs => R (one vs) w) :
    ∃ v, (results fn a.tmps).run P w = .ok v w ∧ R v w := by
  obtain ⟨vs, h1, h2⟩ := eRes_sound hk (fun | .tmp t => pure (a.tmps.getD t undef) | .cell t ty => do loadVar ty (← asAddr (a.tmps.getD t undef))) (fun _ => rfl) (fun _ _ => rfl) _ _ h
  refine ⟨one vs, ?_, h2⟩
  have e : fn.results = fn.results.toList.toArray := by simp
  unfold results
  rw [e, List.mapM_toArray]
  rw [Sem.run_bind, Sem.run_map]
  erw [h1]
  match vs with
  | [] => rfl
  | [t] => rfl
  | t :: u :: ts => simp [one, Result.andThen]

theorem frame_look : ∀ (k : Nat) (vs : List Value) (t : Nat) (v : Value), lk (frame k vs) t = some v → k ≤ t ∧ vs[t - k]? = some v
  | k, [], t, v, h => by simp [frame, lk] at h
  | k, u :: vs, t, v, h => by
    simp only [frame, lk] at h
    split at h
    · rename_i e; subst e; simp at h; simp [h]
    · rename_i e
      have ⟨h1, h2⟩ := frame_look (k + 1) vs t v h
      have : t - k = (t - (k + 1)) + 1 := by omega
      exact ⟨by omega, by rw [this]; simpa using h2⟩

theorem body_calls {P : Program} {f : FuncId} {fn : Func} {args : List Value} {w : World} {Pn : List PanicEntry → World → Prop} {R : Value → World → Prop} (cs : List Nat)
    (hf : P.funcs[f]? = some fn) (h : ∀ E R', E = real P Pn fn.ntmps → R' = R → eBody E cs fn args w R') :
    Calls P f args.toArray w fun e w' => match e with | .returned v => R v w' | .panicked c => Pn c w' | .outgrown => False := by
  have h := h _ _ rfl rfl
  simp only [eBody] at h
  split at h
  · exact h.elim
  · rename_i c hb
    split at h
    · rename_i hd
      split at h
      · rename_i hlen
        have hlen : args.length ≤ fn.ntmps := by simpa [Nat.ble_eq] using hlen
        refine calls_of_wp hf hb (Code.wp_mono (fun e a w' hq => ?_) (eCode_sound c hd (F := frame 0 args) ?_ h))
        · have key : ∀ e, (e = Exit.normal ∨ e = Exit.ret) → (∃ F, Kn fn.ntmps F a ∧ ePost (real P Pn fn.ntmps) fn.results.toList R e F w') → a.defers = [] ∧ ∃ v, (results fn a.tmps).run P w' = .ok v w' ∧ R v w' := by
            intro e he hq
            obtain ⟨F, hk, hp⟩ := hq
            refine ⟨hk.defers, ?_⟩
            have hp' : eRes (real P Pn fn.ntmps) F fn.results.toList w' fun vs => R (one vs) w' := by rcases he with rfl | rfl <;> exact hp
            exact results_of hk hp'
          cases e with
          | normal => exact key _ (.inl rfl) hq
          | ret => exact key _ (.inr rfl) hq
          | panic c => exact hq
          | outgrown => exact hq.elim
          | exit id => obtain ⟨_, _, h⟩ := hq; exact h.elim
          | goto id => obtain ⟨_, _, h⟩ := hq; exact h.elim
        · refine ⟨by simp; omega, rfl, fun k v hv => ?_⟩
          have ⟨_, h2⟩ := frame_look 0 args k v hv
          have h2 : args[k]? = some v := by simpa using h2
          have h3 : k < args.length := (List.getElem?_eq_some_iff.1 h2).1
          simp [Array.getElem?_append, h3]
          exact (List.getElem?_eq_some_iff.1 h2).2
      · exact h.elim
    · exact h.elim

/-! ### Worlds -/
/-- The same memory (some orders may have been drawn). -/
structure Same (w w' : World) : Prop where
  heap : w'.heap = w.heap
  os : w'.os = w.os
  tape : w'.tape = w.tape
  output : w'.output = w.output
theorem Same.refl (w : World) : Same w w := ⟨rfl, rfl, rfl, rfl⟩
theorem Same.trans {a b c : World} (h : Same a b) (k : Same b c) : Same a c := ⟨k.heap.trans h.heap, k.os.trans h.os, k.tape.trans h.tape, k.output.trans h.output⟩
theorem Same.symm {a b : World} (h : Same a b) : Same b a := ⟨h.heap.symm, h.os.symm, h.tape.symm, h.output.symm⟩
theorem Same.cell {w w' : World} (h : Same w w') (a : Addr) : w'.cell? a = w.cell? a := by simp [World.cell?, h.heap]
theorem Same.drew (w : World) : Same w { w with drawn := w.drawn + 1 } := ⟨rfl, rfl, rfl, rfl⟩
/-- All that there was is as it was; new blocks. -/
def Ext (w w' : World) : Prop := RowKit.Below w.heap.size w w'
theorem Ext.refl (w : World) : Ext w w := RowKit.Below.refl _ _
theorem Ext.trans {a b c : World} (h : Ext a b) (k : Ext b c) : Ext a c := RowKit.Below.trans h (RowKit.Below.mono k h.size)
theorem Same.ext {w w' : World} (h : Same w w') : Ext w w' := ⟨h.os, h.tape, h.output, by rw [h.heap]; exact Nat.le_refl _, fun k _ => by rw [h.heap]⟩
theorem Ext.cell {w w' : World} (h : Ext w w') {a : Addr} {v : Value} (hc : w.cell? a = some v) : w'.cell? a = some v :=
  (RowKit.Below.cell h (World.block_lt_of_cell? w a hc)).trans hc

/-! ### What both engines know -/
def quietStop (P : Program) (o : Oper) (vals : List Value) (w : World) (v : Value) : Prop :=
  ∀ w1, Ext w w1 → ∀ ρ : Operand → Value, (opnds o.op).map ρ = vals → Oper.quietUpon P (Same w1) w1 v ((execOp ρ o).run P w1)
/-- A class of worlds in which reading goes on. -/
structure Rel (Rl : World → World → Prop) : Prop where
  refl : ∀ w, Rl w w
  same : ∀ {a b c}, Rl a b → Same b c → Rl a c
  ext : ∀ {a b}, Rl a b → Ext a b
theorem Rel.s : Rel Same := ⟨Same.refl, Same.trans, Same.ext⟩
theorem Rel.x : Rel Ext := ⟨Ext.refl, fun h k => h.trans k.ext, fun h => h⟩
structure EngB (b : Bool) (P : Program) (E : Sym) : Prop where
  ar : E.ar = arR
  cmp : E.cmp = cmpR
  scmp : E.scmp = scmpR
  nat : E.nat = Int.ofNat
  len : E.len = ByteArray.size
  quiet : b = true → ∀ {o vals w v K}, quietStop P o vals w v → (∀ w', Same w w' → K v w') → E.stop o vals w K
  det : ∀ {o vals w v K}, (∀ w1, Ext w w1 → ∀ ρ : Operand → Value, (opnds o.op).map ρ = vals → (execOp ρ o).run P w1 = .ok (.value v) w1) → K v w → E.stop o vals w K
abbrev Eng := EngB true
def qreal (P : Program) (Rl : World → World → Prop) : Sym where
  ar := arR
  cmp := cmpR
  scmp := scmpR
  nat := Int.ofNat
  len := ByteArray.size
  stop o vals w K := ∃ v, (∀ w1, Rl w w1 → ∀ ρ : Operand → Value, (opnds o.op).map ρ = vals → Oper.quietUpon P (Rl w) w1 v ((execOp ρ o).run P w1)) ∧ K v w
  loop _ _ _ _ := False
  draw _ _ _ _ _ := False
  cut _ _ _ _ _ := False
  cell _ _ _ _ := False
theorem quietUpon_mono {P : Program} {C C' : World → Prop} {w : World} {v : Value} (h : ∀ w', C w' → C' w') : ∀ {r : Result Next}, Oper.quietUpon P C w v r → Oper.quietUpon P C' w v r := by
  intro r hr
  cases r with
  | ok x w' =>
    cases x <;> simp only [Oper.quietUpon] at hr ⊢
    case value => exact hr
    case skip => exact hr
    case enter => exact ⟨hr.1, hr.2.mono fun e w' he => ⟨he.1, h _ he.2⟩⟩
  | halt x w' => simp only [Oper.quietUpon] at hr
theorem Eng.q (P : Program) {Rl : World → World → Prop} (hR : Rel Rl) : Eng P (qreal P Rl) :=
  ⟨rfl, rfl, rfl, rfl, rfl, fun _ {_ _ w v _} h hk => ⟨v, fun w1 hw ρ hρ => quietUpon_mono (fun _ h => hR.same hw h) (h w1 (hR.ext hw) ρ hρ), hk w (Same.refl w)⟩,
    fun {_ _ w v _} h hk => ⟨v, fun w1 hw ρ hρ => by rw [h w1 (hR.ext hw) ρ hρ]; exact ⟨rfl, rfl⟩, hk⟩⟩
theorem Eng.r (P : Program) (Pn : List PanicEntry → World → Prop) (n : Nat) : Eng P (real P Pn n) :=
  ⟨rfl, rfl, rfl, rfl, rfl, fun _ {o vals w v K} h hk ρ hρ => by
    have := h w (Ext.refl w) ρ hρ
    generalize (execOp ρ o).run P w = r at this
    cases r with
    | ok x w' =>
      cases x <;> simp only [Oper.quietUpon] at this <;> simp only [sat]
      case value => obtain ⟨rfl, rfl⟩ := this; exact hk _ (Same.refl _)
      case skip => obtain ⟨rfl, rfl⟩ := this; exact hk _ (Same.refl _)
      case enter => obtain ⟨rfl, h⟩ := this; exact h.mono fun e w' he => by obtain ⟨rfl, hs⟩ := he; exact hk _ hs
    | halt x w' => simp only [Oper.quietUpon] at this, fun {_ _ w _ _} h hk ρ hρ => by rw [h w (Ext.refl w) ρ hρ]; exact hk⟩

section
variable {P : Program} {Pn : List PanicEntry → World → Prop} {n : Nat}
/-- A region that draws its order and only reads. -/
theorem eOps_quiet {Rl : World → World → Prop} {w : World} {all : List Oper} {K : Fr → World → Prop} {Q : Act → Prop} (hQ : ∀ F a, Kn n F a → K F w → Q a) : ∀ (os : List Oper) (F : Fr) (a : Act), (∀ o ∈ os, ∀ t, o.dst = some t → t < n) → Kn n F a → eOps (qreal P Rl) all os F w K → wpQuiet P all.toArray (Rl w) Q os a
  | [], F, a, _, hk, h => hQ F a hk h
  | o :: os, F, a, hd, hk, h => by
    have hdo : ∀ t, o.dst = some t → t < n := hd o (by simp)
    have hds : ∀ o' ∈ os, ∀ t, o'.dst = some t → t < n := fun o' ho' => hd o' (by simp [ho'])
    have run : ∀ F, Kn n F a → eOp (qreal P Rl) o F w (fun v w => eOps (qreal P Rl) all os (put F o.dst v) w K) → o.quiet P a (Rl w) (wpQuiet P all.toArray (Rl w) Q os) := by
      intro F hk h
      simp only [eOp] at h
      split at h
      · rename_i x hx
        refine ⟨x, fun w1 _ => ?_, eOps_quiet hQ os _ _ hds (hk.put o.dst hdo x) h⟩
        have e : (pure1 (qreal P Rl) F o.op) = pure1 (real P (fun _ _ => False) n) F o.op := rfl
        rw [e] at hx
        simp only [Oper.quietAt, (pure1_sound hk w1).1 _ hx, Oper.quietUpon, and_self]
      · rename_i b x y hx
        have e : (pure1 (qreal P Rl) F o.op) = pure1 (real P (fun _ _ => False) n) F o.op := rfl
        rw [e] at hx
        refine ⟨if b = true then x else y, fun w1 _ => ?_, ?_⟩
        · simp only [Oper.quietAt, (pure1_sound hk w1).2 _ _ _ hx, Oper.quietUpon, and_self]
        · split at h
          · rename_i hb; rw [if_pos hb]; exact eOps_quiet hQ os _ _ hds (hk.put o.dst hdo x) h
          · rename_i hb; rw [if_neg hb]; exact eOps_quiet hQ os _ _ hds (hk.put o.dst hdo y) h
      · split at h
        · rename_i vs hvs
          obtain ⟨v, hv, hK⟩ := h
          exact ⟨v, fun w1 hw1 => hv w1 hw1 a.eval (hk.evs hvs), eOps_quiet hQ os _ _ hds (hk.put o.dst hdo v) hK⟩
        · exact h.elim
    have pass : ∀ F, Kn n F a → eOps (qreal P Rl) all os (put F o.dst undef) w K → wpQuiet P all.toArray (Rl w) Q os (a.put o.dst undef) := fun F hk h => eOps_quiet hQ os _ _ hds (hk.put o.dst hdo undef) h
    simp only [eOps] at h
    unfold wpQuiet
    split at h
    · rename_i hg
      rw [if_pos (by simp [Region.wanted, hg])]
      exact run F hk h
    · rename_i j want hg
      split at h
      · exact h.elim
      · rename_i s hs
        split at h
        · rename_i b hv
          have hwt := wanted_of (all := all) hk hg hs hv
          simp only at hwt
          rw [hwt]
          have hk' := hk.lay hv
          split at h
          · rename_i hb
            subst hb
            split at h
            · rename_i hwn; subst hwn; simpa using run _ hk' h
            · rename_i hwn
              have : want = false := by simpa using hwn
              subst this; simpa using pass _ hk' h
          · rename_i hb
            have : b = false := by simpa using hb
            subst this
            split at h
            · rename_i hwn; subst hwn; simpa using pass _ hk' h
            · rename_i hwn
              have : want = false := by simpa using hwn
              subst this; simpa using run _ hk' h
        · rename_i vs hv
          have hwt := wanted_of (all := all) hk hg hs hv
          simp only at hwt
          rw [hwt]
          split at h
          · simpa using pass _ hk h
          · exact h.elim
        · exact h.elim

theorem draw_r {Rl : World → World → Prop} (hR : Rel Rl) {E : Sym} (hE : E = real P Pn n) {id : Nat} {ops : Array Oper} {F : Fr} {w : World} {K : Exit → Fr → World → Prop} (hm : P.follows .mixedOrders = true) (hB : Region.lexB .any ops = true)
    (h : ∀ E', Eng P E' → E' = qreal P Rl → eOps E' ops.toList ops.toList F w (fun F' _ => ∀ w', Rl w w' → K .normal F' w')) : E.draw id ops F w K := by
  subst hE
  intro hd a hk
  refine wp_region_quiet (C := Rl w) hm hB (hR.same (hR.refl w) (Same.drew w)) ?_
  have := eOps_quiet (Rl := Rl) (n := n) (Q := fun a' => ∀ w', Rl w w' → QK Pn n K .normal a' w') (fun F' a' hk' h' w' hw' => ⟨F', hk', h' w' hw'⟩) ops.toList F a (okDst_ops hd) hk (h _ (Eng.q P hR) rfl)
  simpa using this
theorem draw_q {E : Sym} (hE : E = real P Pn n) {id : Nat} {ops : Array Oper} {F : Fr} {w : World} {K : Exit → Fr → World → Prop} (hm : P.follows .mixedOrders = true) (hB : Region.lexB .any ops = true)
    (h : ∀ E', Eng P E' → eOps E' ops.toList ops.toList F w (fun F' _ => ∀ w', Same w w' → K .normal F' w')) : E.draw id ops F w K := draw_r Rel.s hE hm hB fun E' h1 _ => h E' h1
/-- A region that draws its order, reads, and calls what makes memory and answers the same in every later world. -/
theorem draw_x {E : Sym} (hE : E = real P Pn n) {id : Nat} {ops : Array Oper} {F : Fr} {w : World} {K : Exit → Fr → World → Prop} (hm : P.follows .mixedOrders = true) (hB : Region.lexB .any ops = true)
    (h : ∀ E', Eng P E' → E' = qreal P Ext → eOps E' ops.toList ops.toList F w (fun F' _ => ∀ w', Ext w w' → K .normal F' w')) : E.draw id ops F w K := draw_r Rel.x hE hm hB h

/-! ### A region that draws its order: what only reads is taken first, the rest can come up in one order alone -/
/-- What reads at the start: one value in every world from here on. -/
def hreal (P : Program) : Sym where
  ar := arR
  cmp := cmpR
  scmp := scmpR
  nat := Int.ofNat
  len := ByteArray.size
  stop o vals w K := ∃ v, (∀ w1, Ext w w1 → ∀ ρ : Operand → Value, (opnds o.op).map ρ = vals → (execOp ρ o).run P w1 = .ok (.value v) w1) ∧ K v w
  loop _ _ _ _ := False
  draw _ _ _ _ _ := False
  cut _ _ _ _ _ := False
  cell _ _ _ _ := False
def Sym.dull (E : Sym) : Sym := ⟨E.ar, E.cmp, E.scmp, E.nat, E.len, fun _ _ _ _ => False, fun _ _ _ _ => False, fun _ _ _ _ _ => False, fun _ _ _ _ _ => False, fun _ _ _ _ => False⟩
def ePh1 (E : Sym) (all : List Oper) : List Nat → Fr → World → (Fr → World → Prop) → Prop
  | [], F, w, K => K F w
  | k :: l, F, w, K => match all[k]? with
    | none => False
    | some o => eOps E all [o] F w fun F' w' => ePh1 E all l F' w' K
def ePh2 (E : Sym) (S : World → Prop) (all : List Oper) : List (Nat × Bool) → Fr → World → (Fr → World → Prop) → Prop
  | [], F, w, K => K F w
  | (k, true) :: l, F, w, K => match all[k]? with
    | none => False
    | some o => eOps E.dull all [o] F w fun F' w' => ePh2 E S all l F' w' K
  | (k, false) :: l, F, w, K => match all[k]? with
    | none => False
    | some o => eOps E all [o] F w fun F' w' => S w' ∧ ePh2 E S all l F' w' K
def planB2 (ops : Array Oper) : List (Nat × Bool) → Array Bool → Bool
  | [], listed => Region.ready .any ops listed == []
  | (k, true) :: l, listed => Region.free .any ops listed k && (Region.ready .any ops listed).contains k && planB2 ops l (listed.setIfInBounds k true)
  | (k, false) :: l, listed => Region.ready .any ops listed == [k] && planB2 ops l (listed.setIfInBounds k true)
def planB1 (ops : Array Oper) : List Nat → List (Nat × Bool) → Array Bool → Bool
  | [], l2, listed => planB2 ops l2 listed
  | k :: l, l2, listed => Region.free .any ops listed k && (Region.ready .any ops listed).contains k && planB1 ops l l2 (listed.setIfInBounds k true)
def planB (ops : Array Oper) (l1 : List Nat) (l2 : List (Nat × Bool)) : Bool :=
  Region.noSelect ops && Nat.beq (l1.length + l2.length) ops.size && planB1 ops l1 l2 (Array.replicate ops.size false)

theorem step_yields {E' : Sym} {S : World → Prop} {w : World} (hp : ∀ F op, pure1 E' F op = pure1 (real P (fun _ _ => False) n) F op)
    (hst : ∀ o vals K, E'.stop o vals w K → ∃ v, (∀ w1, S w1 → ∀ ρ : Operand → Value, (opnds o.op).map ρ = vals → (execOp ρ o).run P w1 = .ok (.value v) w1) ∧ K v w)
    {all : List Oper} {o : Oper} (hd : ∀ t, o.dst = some t → t < n) {F : Fr} {a : Act} (hk : Kn n F a) {K : Fr → World → Prop} (h : eOps E' all [o] F w K) :
    ∃ v F', YieldsIf P all.toArray S o v a ∧ Kn n F' (a.put o.dst v) ∧ K F' w := by
  have run : ∀ F, Kn n F a → Region.wanted o (yielded all.toArray a.tmps) = true → eOp E' o F w (fun v w => eOps E' all [] (put F o.dst v) w K) → ∃ v F', YieldsIf P all.toArray S o v a ∧ Kn n F' (a.put o.dst v) ∧ K F' w := by
    intro F hk hw h
    simp only [eOp, eOps] at h
    split at h
    · rename_i x hx
      rw [hp] at hx
      exact ⟨x, _, .inl ⟨hw, fun w1 _ => (pure1_sound hk w1).1 _ hx⟩, hk.put o.dst hd x, h⟩
    · rename_i b x y hx
      rw [hp] at hx
      refine ⟨if b = true then x else y, _, .inl ⟨hw, fun w1 _ => (pure1_sound hk w1).2 _ _ _ hx⟩, hk.put o.dst hd _, ?_⟩
      split at h
      · rename_i hb; rw [if_pos hb]; exact h
      · rename_i hb; rw [if_neg hb]; exact h
    · split at h
      · rename_i vs hvs
        obtain ⟨v, hv, hK⟩ := hst _ _ _ h
        exact ⟨v, _, .inl ⟨hw, fun w1 hw1 => hv w1 hw1 a.eval (hk.evs hvs)⟩, hk.put o.dst hd v, hK⟩
      · exact h.elim
  have pass : ∀ F, Kn n F a → Region.wanted o (yielded all.toArray a.tmps) = false → K (put F o.dst undef) w → ∃ v F', YieldsIf P all.toArray S o v a ∧ Kn n F' (a.put o.dst v) ∧ K F' w :=
    fun F hk hw h => ⟨undef, _, .inr ⟨hw, rfl⟩, hk.put o.dst hd undef, h⟩
  simp only [eOps] at h
  split at h
  · rename_i hg
    exact run F hk (by simp [Region.wanted, hg]) h
  · rename_i j want hg
    split at h
    · exact h.elim
    · rename_i s hs
      split at h
      · rename_i b hv
        have hwt := wanted_of (all := all) hk hg hs hv
        simp only at hwt
        have hk' := hk.lay hv
        split at h
        · rename_i hb
          subst hb
          split at h
          · rename_i hwn; subst hwn; exact run _ hk' (by rw [hwt]; rfl) h
          · rename_i hwn
            have : want = false := by simpa using hwn
            subst this; exact pass _ hk' (by rw [hwt]; rfl) h
        · rename_i hb
          have : b = false := by simpa using hb
          subst this
          split at h
          · rename_i hwn; subst hwn; exact pass _ hk' (by rw [hwt]; rfl) h
          · rename_i hwn
            have : want = false := by simpa using hwn
            subst this; exact run _ hk' (by rw [hwt]; rfl) h
      · rename_i vs hv
        have hwt := wanted_of (all := all) hk hg hs hv
        simp only at hwt
        split at h
        · exact pass _ hk hwt h
        · exact h.elim
      · exact h.elim

theorem sat_upon {o : Oper} {a : Act} {w : World} {Q : Exit → Act → World → Prop} {K : Value → World → Prop} {K' : Act → World → Prop} (h : sat P Pn K ((execOp a.eval o).run P w)) (hK : ∀ v w, K v w → K' (a.put o.dst v) w) (hP : ∀ c w, Pn c w → Q (.panic c) a w) : o.wp P a w K' Q := by
  unfold Oper.wp
  generalize (execOp a.eval o).run P w = r at h
  cases r with
  | ok x w' =>
    cases x <;> simp only [sat] at h <;> simp only [Oper.upon]
    case value => exact hK _ _ h
    case skip => exact hK _ _ h
    case enter => exact h.mono fun e w' he => by cases e <;> first | exact hK _ _ he | exact hP _ _ he | exact he.elim
  | halt x w' =>
    cases x <;> simp only [sat] at h <;> simp only [Oper.upon]
    case panic => exact hP _ _ h
theorem step_op {all : List Oper} {k : Nat} {o : Oper} (ho : all[k]? = some o) (hd : ∀ t, o.dst = some t → t < n) {F : Fr} {a : Act} {w : World} (hk : Kn n F a) {K : Fr → World → Prop} {K' : Act → World → Prop} {Q : Exit → Act → World → Prop} (hP : ∀ c w, Pn c w → Q (.panic c) a w)
    (hKK : ∀ F' a' w', Kn n F' a' → K F' w' → K' a' w') (h : eOps (real P Pn n) all [o] F w K) : wpOp P all.toArray Q k K' a w := by
  unfold wpOp
  simp only [List.getElem?_toArray, ho]
  have run : ∀ F, Kn n F a → Region.wanted o (yielded all.toArray a.tmps) = true → eOp (real P Pn n) o F w (fun v w => eOps (real P Pn n) all [] (put F o.dst v) w K) → (if Region.wanted o (yielded all.toArray a.tmps) = true then o.wp P a w K' Q ∨ (o.asks P a w ∧ LetsOut Q) else K' (a.put o.dst undef) w) := by
    intro F hk hw h
    rw [if_pos hw]
    exact .inl (sat_upon (eOp_sound hk h) (fun v w' hv => hKK _ _ _ (hk.put o.dst hd v) hv) hP)
  have pass : ∀ F, Kn n F a → Region.wanted o (yielded all.toArray a.tmps) = false → K (put F o.dst undef) w → (if Region.wanted o (yielded all.toArray a.tmps) = true then o.wp P a w K' Q ∨ (o.asks P a w ∧ LetsOut Q) else K' (a.put o.dst undef) w) := by
    intro F hk hw h
    rw [hw]
    exact hKK _ _ _ (hk.put o.dst hd undef) h
  simp only [eOps] at h
  split at h
  · rename_i hg
    exact run F hk (by simp [Region.wanted, hg]) h
  · rename_i j want hg
    split at h
    · exact h.elim
    · rename_i s hs
      split at h
      · rename_i b hv
        have hwt := wanted_of (all := all) hk hg hs hv
        simp only at hwt
        have hk' := hk.lay hv
        split at h
        · rename_i hb
          subst hb
          split at h
          · rename_i hwn; subst hwn; exact run _ hk' (by rw [hwt]; rfl) h
          · rename_i hwn
            have : want = false := by simpa using hwn
            subst this; exact pass _ hk' (by rw [hwt]; rfl) h
        · rename_i hb
          have : b = false := by simpa using hb
          subst this
          split at h
          · rename_i hwn; subst hwn; exact pass _ hk' (by rw [hwt]; rfl) h
          · rename_i hwn
            have : want = false := by simpa using hwn
            subst this; exact run _ hk' (by rw [hwt]; rfl) h
      · rename_i vs hv
        have hwt := wanted_of (all := all) hk hg hs hv
        simp only at hwt
        split at h
        · exact pass _ hk hwt h
        · exact h.elim
      · exact h.elim

theorem panic_put {K : Exit → Fr → World → Prop} {d : Option Tmp} {v : Value} (c : List PanicEntry) (a : Act) (w : World) (h : QK Pn n K (.panic c) (a.put d v) w) : QK Pn n K (.panic c) a w := by
  cases d <;> exact h
theorem ePh2_sound {S : World → Prop} {all : List Oper} (hs : Region.noSelect all.toArray = true) (hd : ∀ o ∈ all, ∀ t, o.dst = some t → t < n) {K : Exit → Fr → World → Prop} : ∀ (l : List (Nat × Bool)) (listed : Array Bool) (F : Fr) (a : Act) (w : World), S w → Kn n F a → planB2 all.toArray l listed = true → ePh2 (real P Pn n) S all l F w (K .normal) → wpAnyH P .any all.toArray (QK Pn n K) S l.length listed a w
  | [], listed, F, a, w, _, hk, hB, h => by
    have hr : Region.ready .any all.toArray listed = [] := by simpa [planB2] using hB
    exact wpAnyH_done hr ⟨F, hk, h⟩ _
  | (k, true) :: l, listed, F, a, w, hS, hk, hB, h => by
    simp only [planB2, Bool.and_eq_true] at hB
    obtain ⟨⟨hf, hr⟩, hB⟩ := hB
    simp only [ePh2] at h
    split at h
    · exact h.elim
    · rename_i o ho
      obtain ⟨v, F', hy, hk', h⟩ := step_yields (P := P) (n := n) (S := S) (E' := (real P Pn n).dull) (fun _ _ => rfl) (fun _ _ _ h => h.elim) (hd o (List.mem_of_getElem? ho)) hk h
      exact wpAnyH_take (by simpa using ho) hs hf hr panic_put hy hS (ePh2_sound hs hd l _ F' _ w hS hk' hB h)
  | (k, false) :: l, listed, F, a, w, hS, hk, hB, h => by
    simp only [planB2, Bool.and_eq_true] at hB
    obtain ⟨hr, hB⟩ := hB
    have hr : Region.ready .any all.toArray listed = [k] := by simpa using hr
    simp only [ePh2] at h
    split at h
    · exact h.elim
    · rename_i o ho
      refine wpAnyH_all hr (by simp) fun i hi => ?_
      obtain rfl : i = k := by simpa using hi
      exact step_op (Pn := Pn) ho (hd o (List.mem_of_getElem? ho)) hk (fun c w h => ⟨hk.defers, h⟩) (fun F' a' w' hk' ⟨h1, h2⟩ => ⟨h1, ePh2_sound hs hd l _ F' a' w' h1 hk' hB h2⟩) h
theorem ePh1_sound {S : World → Prop} {w : World} (hSE : ∀ w1, S w1 → Ext w w1) {all : List Oper} (hs : Region.noSelect all.toArray = true) (hd : ∀ o ∈ all, ∀ t, o.dst = some t → t < n) {K : Exit → Fr → World → Prop} {w0 : World} (hS : S w0) (l2 : List (Nat × Bool)) (K1 : Fr → World → Prop) : ∀ (l : List Nat) (listed : Array Bool) (F : Fr) (a : Act), Kn n F a → planB1 all.toArray l l2 listed = true → ePh1 (hreal P) all l F w K1 →
    (∀ F a listed, Kn n F a → planB2 all.toArray l2 listed = true → K1 F w → wpAnyH P .any all.toArray (QK Pn n K) S l2.length listed a w0) → wpAnyH P .any all.toArray (QK Pn n K) S (l.length + l2.length) listed a w0
  | [], listed, F, a, hk, hB, h, h2 => by simpa using h2 F a listed hk hB h
  | k :: l, listed, F, a, hk, hB, h, h2 => by
    simp only [planB1, Bool.and_eq_true] at hB
    obtain ⟨⟨hf, hr⟩, hB⟩ := hB
    simp only [ePh1] at h
    split at h
    · exact h.elim
    · rename_i o ho
      obtain ⟨v, F', hy, hk', h⟩ := step_yields (P := P) (n := n) (S := S) (E' := hreal P) (fun _ _ => rfl) (fun _ _ _ ⟨v, h1, h2⟩ => ⟨v, fun w1 hw1 => h1 w1 (hSE w1 hw1), h2⟩) (hd o (List.mem_of_getElem? ho)) hk h
      have := wpAnyH_take (by simpa using ho) hs hf hr panic_put hy hS (ePh1_sound hSE hs hd hS l2 K1 l _ F' _ hk' hB h h2)
      simpa [Nat.add_right_comm] using this
theorem Eng.h (P : Program) : EngB false P (hreal P) :=
  ⟨rfl, rfl, rfl, rfl, rfl, fun hf => (by cases hf), fun {_ _ _ v _} h hk => ⟨v, h, hk⟩⟩
/-- Everything in l1 only reads, and is taken first; of l2 each is the only one that may come up (false), or reckons alone (true). -/
theorem draw_h (l1 : List Nat) (l2 : List (Nat × Bool)) {E : Sym} (hE : E = real P Pn n) {id : Nat} {ops : Array Oper} {F : Fr} {w : World} {K : Exit → Fr → World → Prop} (hm : P.follows .mixedOrders = true) (hB : planB ops l1 l2 = true)
    (h : ∀ E', EngB false P E' → ∀ w0, Same w w0 → ∀ S : World → Prop, (∀ w', Ext w0 w' → S w') → ePh1 E' ops.toList l1 F w0 (fun F' w' => ePh2 E S ops.toList l2 F' w' (K .normal))) : E.draw id ops F w K := by
  subst hE
  intro hd a hk
  simp only [planB, Bool.and_eq_true, Nat.beq_eq] at hB
  obtain ⟨⟨hs, hl⟩, hB⟩ := hB
  have hs' : Region.noSelect ops.toList.toArray = true := by simpa using hs
  refine wp_region_held (S := Ext { w with drawn := w.drawn + 1 }) hm ?_
  have := ePh1_sound (Pn := Pn) (K := K) (n := n) (S := Ext { w with drawn := w.drawn + 1 }) (w := { w with drawn := w.drawn + 1 }) (fun _ h => h) hs' (okDst_ops hd) (Ext.refl _) l2 _ l1 (Array.replicate ops.size false) F a hk (by simpa using hB) (h (hreal P) (Eng.h P) _ (Same.drew w) _ (fun _ h => h))
    (fun F a listed hk hB h => ePh2_sound hs' (okDst_ops hd) l2 listed F a _ (Ext.refl _) hk hB h)
  rw [hl] at this
  simpa using this

/-! ### A loop -/
def Fits : Fr → Fr → Prop
  | [], _ => True
  | (k, v) :: r, F => lk F k = some v ∧ Fits r F
theorem Fits.lk : ∀ {G F : Fr}, Fits G F → ∀ {k v}, lk G k = some v → Eng.lk F k = some v
  | [], _, _, _, _, hk => by simp [Eng.lk] at hk
  | (j, u) :: r, F, h, k, v, hk => by
    simp only [Eng.lk] at hk
    split at hk
    · rename_i e; subst e; cases hk; exact h.1
    · exact Fits.lk h.2 hk
theorem Kn.sub {G F : Fr} {a : Act} (hk : Kn n F a) (h : Fits G F) : Kn n G a := ⟨hk.size, hk.defers, fun k v hv => hk.get k v (h.lk hv)⟩
/-- Two ways brought together: what is known behind x. -/
theorem cut_rule (cs cs' : List Nat) {E : Sym} (hE : E = real P Pn n) {x y : Code} {F : Fr} {w : World} {K : Exit → Fr → World → Prop} {S : Type} (I : S → World → Prop) (G : S → Fr)
    (h1 : ∀ I' : S → World → Prop, (∀ s w, I s w → I' s w) → eCode E cs x F w fun e F' w' => match e with
      | .normal => ∃ s, Fits (G s) F' ∧ I' s w'
      | e => K e F' w')
    (h2 : ∀ s w, I s w → eCode E cs' y (G s) w K) : E.cut x y F w K := by
  subst hE
  intro hx hy a hk
  refine wp_seq (Code.wp_mono (fun e a' w' hq => ?_) (eCode_sound x hx hk (h1 I fun _ _ h => h)))
  cases e with
  | normal => obtain ⟨F', hk', s, hf, hi⟩ := hq; exact eCode_sound y hy (hk'.sub hf) (h2 s w' hi)
  | panic c => exact hq
  | outgrown => exact hq.elim
  | exit id => exact hq
  | goto l => exact hq
  | ret => exact hq
/-- A region that draws its order and only reads, its ways brought together. -/
theorem draw_c {E : Sym} (hE : E = real P Pn n) {id : Nat} {ops : Array Oper} {F : Fr} {w : World} {K : Exit → Fr → World → Prop} (hm : P.follows .mixedOrders = true) (hB : Region.lexB .any ops = true) {S : Type} (I : S → Prop) (G : S → Fr)
    (h : ∀ E', Eng P E' → ∀ I' : S → Prop, (∀ s, I s → I' s) → eOps E' ops.toList ops.toList F w (fun F' _ => ∃ s, Fits (G s) F' ∧ I' s)) (hk : ∀ s w', I s → Same w w' → K .normal (G s) w') : E.draw id ops F w K := by
  subst hE
  intro hd a hka
  refine wp_region_quiet (C := Same w) hm hB (Same.drew w) ?_
  have := eOps_quiet (Rl := Same) (n := n) (K := fun F' _ => ∃ s, Fits (G s) F' ∧ I s) (Q := fun a' => ∀ w', Same w w' → QK Pn n K .normal a' w') (fun F' a' hk' ⟨s, hf, hi⟩ w' hw' => ⟨G s, hk'.sub hf, hk s w' hi hw'⟩) ops.toList F a (okDst_ops hd) hka (h _ (Eng.q P Rel.s) I fun _ h => h)
  simpa using this
theorem loop_rulec (cs : List Nat) {E : Sym} (hE : E = real P Pn n) {c : Code} {F : Fr} {w : World} {K : Exit → Fr → World → Prop} {S : Type} (I : S → World → Prop) (G : S → Fr) (μ : S → Nat) (s : S)
    (hF : Fits (G s) F) (h0 : I s w)
    (round : ∀ I' : S → World → Prop, (∀ s w, I s w → I' s w) → ∀ s w, I s w → eCode E cs c (G s) w fun e F' w' => match e with
      | .normal => ∃ s', Fits (G s') F' ∧ I' s' w' ∧ μ s' < μ s
      | e => K e F' w') : E.loop c F w K := by
  subst hE
  intro hd a hk
  have key : ∀ m a w, (∃ s, Kn n (G s) a ∧ I s w ∧ μ s = m) → ∀ (b : Frame) (k : List Item) (cs : List Frame),
      ∃ e a' w', QK Pn n K e a' w' ∧ Arrives P (lone (b.at a (.code c :: .inLoop c :: k)) cs w) b k cs e a' w' := by
    intro m
    induction m using Nat.strongRecOn with
    | _ m ih =>
      rintro a w ⟨s, hk, hI, rfl⟩ b k cs
      obtain ⟨e, a₁, w₁, hq, harr⟩ := eCode_sound c hd hk (round I (fun _ _ h => h) s w hI) b (.inLoop c :: k) cs
      cases e with
      | normal =>
        obtain ⟨F', hk', s', hsub, hI', hlt⟩ := hq
        obtain ⟨e₂, a₂, w₂, hq₂, harr₂⟩ := ih (μ s') hlt a₁ w₁ ⟨s', hk'.sub hsub, hI', rfl⟩ b k cs
        exact ⟨e₂, a₂, w₂, hq₂, .of_steps (Steps.trans harr (.one step_inLoop)) harr₂⟩
      | exit id => exact ⟨.exit id, a₁, w₁, hq, .pass (x := .inLoop c) rfl (fun _ _ => .inl (by simp)) harr⟩
      | goto l => exact ⟨.goto l, a₁, w₁, hq, .pass (x := .inLoop c) rfl (fun _ _ => .inl (by simp)) harr⟩
      | ret => exact ⟨.ret, a₁, w₁, hq, .pass (x := .inLoop c) rfl (fun _ _ => .inl (by simp)) harr⟩
      | panic ch => exact ⟨.panic ch, a₁, w₁, hq, .pass (x := .inLoop c) rfl (fun _ _ => .inl (by simp)) harr⟩
      | outgrown => exact hq.elim
  intro b k cs
  obtain ⟨e, a', w', hq, harr⟩ := key _ a w ⟨s, hk.sub hF, h0, rfl⟩ b k cs
  exact ⟨e, a', w', hq, .of_steps (.one step_loop) harr⟩
theorem loop_rule {E : Sym} (hE : E = real P Pn n) {c : Code} {F : Fr} {w : World} {K : Exit → Fr → World → Prop} {S : Type} (I : S → World → Prop) (G : S → Fr) (μ : S → Nat) (s : S)
    (hF : Fits (G s) F) (h0 : I s w)
    (round : ∀ I' : S → World → Prop, (∀ s w, I s w → I' s w) → ∀ s w, I s w → eCode E [] c (G s) w fun e F' w' => match e with
      | .normal => ∃ s', Fits (G s') F' ∧ I' s' w' ∧ μ s' < μ s
      | e => K e F' w') : E.loop c F w K := loop_rulec [] hE I G μ s hF h0 round
end

/-! ### Contracts -/
/-- A function that is entered as it stands. -/
def entF (fn : Func) : Bool := fn.body.isSome && !(fn.name == "runtime.NumGoroutine")
theorem callFunc_run {P : Program} {f : FuncId} {fn : Func} (hf : P.funcs[f]? = some fn) (he : entF fn = true) (args : Array Value) (w : World) : (callFunc f args).run P w = .ok (.enter f args) w := by
  simp only [entF, Bool.and_eq_true, Bool.not_eq_true'] at he
  obtain ⟨h1, h2⟩ := he
  have h3 : ¬ fn.body = none := by intro h; rw [h] at h1; cases h1
  have h4 : ¬ fn.name = "runtime.NumGoroutine" := by simpa using h2
  simp [callFunc, hf, h3, h4]
/-- It reads alone, and returns v. -/
def QF (P : Program) (f : FuncId) (args : List Value) (w : World) (v : Value) : Prop :=
  (∃ fn, P.funcs[f]? = some fn ∧ entF fn = true) ∧ ∀ w1, Ext w w1 → Calls P f args.toArray w1 fun e w' => e = .returned v ∧ Same w1 w'
/-- It returns v, in every later world, and leaves all that there was. -/
def VF (P : Program) (f : FuncId) (args : List Value) (w : World) (v : Value) : Prop :=
  (∃ fn, P.funcs[f]? = some fn ∧ entF fn = true) ∧ ∀ w1, Ext w w1 → Calls P f args.toArray w1 fun e w' => e = .returned v ∧ Ext w1 w'
/-- It returns something of which R holds, and leaves all that there was. -/
def FC (P : Program) (f : FuncId) (args : List Value) (w : World) (R : Value → World → Prop) : Prop :=
  (∃ fn, P.funcs[f]? = some fn ∧ entF fn = true) ∧ Calls P f args.toArray w fun e w' => ∃ v, e = .returned v ∧ Ext w w' ∧ R v w'
section
variable {P : Program} {Pn : List PanicEntry → World → Prop} {n : Nat}
theorem QF.intro {cs : List Nat} {f : FuncId} {fn : Func} {args : List Value} {w : World} {v : Value} (hf : P.funcs[f]? = some fn) (he : entF fn = true)
    (h : ∀ w0, Ext w w0 → ∀ w1, Same w0 w1 → ∀ E R, Eng P E → E = real P (fun _ _ => False) fn.ntmps → R = (fun v' w' => v' = v ∧ Same w0 w') → eBody E cs fn args w1 R) : QF P f args w v :=
  ⟨⟨fn, hf, he⟩, fun w1 hs => (body_calls cs hf (fun E R hE hR => h w1 hs w1 (Same.refl w1) E R (hE ▸ Eng.r P _ _) hE hR)).mono fun e w' he => by
    cases e with
    | returned v' => obtain ⟨rfl, h2⟩ := he; exact ⟨rfl, h2⟩
    | panicked c => exact he.elim
    | outgrown => exact he.elim⟩
theorem FC.intro {cs : List Nat} {f : FuncId} {fn : Func} {args : List Value} {w : World} {R : Value → World → Prop} (hf : P.funcs[f]? = some fn) (he : entF fn = true)
    (h : ∀ E R', Eng P E → E = real P (fun _ _ => False) fn.ntmps → R' = (fun v w' => Ext w w' ∧ R v w') → eBody E cs fn args w R') : FC P f args w R :=
  ⟨⟨fn, hf, he⟩, (body_calls cs hf (fun E R hE hR => h E R (hE ▸ Eng.r P _ _) hE hR)).mono fun e w' he => by
    cases e with
    | returned v' => exact ⟨v', rfl, he⟩
    | panicked c => exact he.elim
    | outgrown => exact he.elim⟩
/-- A reader that answers a bool: whether p. -/
def QB (P : Program) (f : FuncId) (args : List Value) (w : World) (p : Prop) : Prop := ∀ v : Bool, (v = true ↔ p) → QF P f args w (.bool v)
theorem QB.intro {cs : List Nat} {f : FuncId} {fn : Func} {args : List Value} {w : World} {p : Prop} (hf : P.funcs[f]? = some fn) (he : entF fn = true)
    (h : ∀ w0, Ext w w0 → ∀ w1, Same w0 w1 → ∀ E R, Eng P E → E = real P (fun _ _ => False) fn.ntmps → (∀ v : Bool, ∀ w', Same w0 w' → (v = true ↔ p) → R (.bool v) w') → eBody E cs fn args w1 R) : QB P f args w p :=
  fun v hv => QF.intro hf he fun w0 hx w1 hs E R hE hr hR => h w0 hx w1 hs E R hE hr fun u w' hs' hu => by
    have : u = v := by rw [Bool.eq_iff_iff, hu, hv]
    subst this; rw [hR]; exact ⟨rfl, hs'⟩
theorem FC.mono {f : FuncId} {args : List Value} {w : World} {R R' : Value → World → Prop} (h : FC P f args w R) (hr : ∀ v w', Ext w w' → R v w' → R' v w') : FC P f args w R' :=
  ⟨h.1, h.2.mono fun _ _ ⟨v, he, hx, hR⟩ => ⟨v, he, hx, hr _ _ hx hR⟩⟩
theorem QF.row {f : FuncId} {args : List Value} {w : World} {v : Value} (h : QF P f args w v) : Calls P f args.toArray w fun e w' => e = .returned v ∧ RowKit.Below w.heap.size w w' :=
  (h.2 w (Ext.refl w)).mono fun _ _ ⟨he, hs⟩ => ⟨he, hs.ext⟩
/-- What a law's call owes to its row. -/
def Law (P : Program) (f : FuncId) (args : List Value) (w : World) : Prop := FC P f args w fun v _ => v = .bool true
theorem Law.row {f : FuncId} {args : List Value} {w : World} (h : Law P f args w) : Calls P f args.toArray w fun e w' => e = .returned (.bool true) ∧ RowKit.Below w.heap.size w w' :=
  Calls.mono h.2 fun _ _ ⟨_, he, hx, hv⟩ => ⟨by rw [he, hv], hx⟩
theorem QF.fn {f : FuncId} {args : List Value} {w : World} {v : Value} (h : QF P f args w v) : FC P f args w (fun v' w' => v' = v ∧ Same w w') :=
  ⟨h.1, (h.2 w (Ext.refl w)).mono fun _ _ ⟨he, hs⟩ => ⟨v, he, hs.ext, rfl, hs⟩⟩

theorem resolve_value {ρ : Operand → Value} {fo : Operand} {ao : Array Operand} {at_ : Array TypeId} {f : FuncId} {fst cap : Array Value} {args : List Value} (hv : (fo :: ao.toList).map ρ = .func (.func f) fst cap :: args) (ty : TypeId) (w : World) :
    (resolve ρ ⟨.value fo, ao, at_⟩ ty).run P w = .ok { target := .fn (.func f) cap, args := fst ++ args.toArray } w := by
  simp only [List.map_cons, List.cons.injEq] at hv
  obtain ⟨h1, h2⟩ := hv
  have h3 : ao.map ρ = args.toArray := by rw [← h2, ← Array.toList_map, Array.toArray_toList]
  simp [resolve, Deferred.ofValue, h1, h3]
theorem run_call {ρ : Operand → Value} {d : Option Tmp} {fo : Operand} {ao : Array Operand} {at_ : Array TypeId} {ty : TypeId} {pos : String} {aft : Array Edge} {g : Option (Nat × Bool)} {f : FuncId} {fst cap : Array Value} {args l : List Value} {fn : Func}
    (hf : P.funcs[f]? = some fn) (he : entF fn = true) (hl : fst.toList ++ args ++ cap.toList = l) (hv : (opnds (.call ⟨.value fo, ao, at_⟩)).map ρ = .func (.func f) fst cap :: args) (w : World) :
    (execOp ρ ⟨d, .call ⟨.value fo, ao, at_⟩, ty, pos, aft, g⟩).run P w = .ok (.enter f l.toArray) w := by
  subst hl
  have h1 := resolve_value (P := P) (at_ := at_) (fo := fo) (ao := ao) (by simpa [opnds] using hv) ty w
  have e : ∀ x y : Array Value, ∀ l : List Value, (x ++ l.toArray) ++ y = (x.toList ++ l ++ y.toList).toArray := by intro x y l; simp
  simp only [execOp, Sem.run_bind, h1, Result.andThen_ok, invoke, callFunc_run hf he, e]
theorem st_q {E : Sym} (hE : Eng P E) {f : FuncId} {fst cap : Array Value} {args l : List Value} {w : World} {v : Value} {K : Value → World → Prop} {d : Option Tmp} {fo : Operand} {ao : Array Operand} {at_ : Array TypeId} {ty : TypeId} {pos : String} {aft : Array Edge} {g : Option (Nat × Bool)}
    (h : QF P f l w v) (hk : ∀ w', Same w w' → K v w') (hl : fst.toList ++ args ++ cap.toList = l := by rfl) : E.stop ⟨d, .call ⟨.value fo, ao, at_⟩, ty, pos, aft, g⟩ (.func (.func f) fst cap :: args) w K := by
  obtain ⟨⟨fn, hf, he⟩, hc⟩ := h
  refine hE.quiet rfl (v := v) (fun w1 hs ρ hρ => ?_) hk
  rw [run_call hf he hl hρ]
  exact ⟨rfl, hc w1 hs⟩
theorem st_qb {E : Sym} (hE : Eng P E) {f : FuncId} {fst cap : Array Value} {args l : List Value} {w : World} {p : Prop} {K : Value → World → Prop} {d : Option Tmp} {fo : Operand} {ao : Array Operand} {at_ : Array TypeId} {ty : TypeId} {pos : String} {aft : Array Edge} {g : Option (Nat × Bool)}
    (h : QB P f l w p) (hk : ∀ v : Bool, (v = true ↔ p) → ∀ w', Same w w' → K (.bool v) w') (hl : fst.toList ++ args ++ cap.toList = l := by rfl) : E.stop ⟨d, .call ⟨.value fo, ao, at_⟩, ty, pos, aft, g⟩ (.func (.func f) fst cap :: args) w K := by
  classical
  exact st_q hE (h (decide p) (by simp)) (hk _ (by simp)) hl
theorem st_qi {E : Sym} (hE : Eng P E) {f : FuncId} {fst cap : Array Value} {args l : List Value} {w : World} {k : IntKind} {z : Int} {K : Value → World → Prop} {d : Option Tmp} {fo : Operand} {ao : Array Operand} {at_ : Array TypeId} {ty : TypeId} {pos : String} {aft : Array Edge} {g : Option (Nat × Bool)}
    (h : QF P f l w (.int k z)) (hk : ∀ x : Int, x = z → ∀ w', Same w w' → K (.int k x) w') (hl : fst.toList ++ args ++ cap.toList = l := by rfl) : E.stop ⟨d, .call ⟨.value fo, ao, at_⟩, ty, pos, aft, g⟩ (.func (.func f) fst cap :: args) w K := st_q hE h (hk _ rfl) hl
theorem VF.intro {cs : List Nat} {f : FuncId} {fn : Func} {args : List Value} {w : World} {v : Value} (hf : P.funcs[f]? = some fn) (he : entF fn = true)
    (h : ∀ w0, Ext w w0 → ∀ E R, Eng P E → E = real P (fun _ _ => False) fn.ntmps → R = (fun v' w' => v' = v ∧ Ext w0 w') → eBody E cs fn args w0 R) : VF P f args w v :=
  ⟨⟨fn, hf, he⟩, fun w1 hx => (body_calls cs hf (fun E R hE hR => h w1 hx E R (hE ▸ Eng.r P _ _) hE hR)).mono fun e w' he => by
    cases e with
    | returned v' => obtain ⟨rfl, h2⟩ := he; exact ⟨rfl, h2⟩
    | panicked c => exact he.elim
    | outgrown => exact he.elim⟩
theorem VF.fc {f : FuncId} {args : List Value} {w : World} {v : Value} (h : VF P f args w v) : FC P f args w (fun v' _ => v' = v) :=
  ⟨h.1, (h.2 w (Ext.refl w)).mono fun _ _ ⟨he, hs⟩ => ⟨v, he, hs, rfl⟩⟩
/-- It returns something of which R holds, with the world; it may write. -/
def GC (P : Program) (f : FuncId) (args : List Value) (w : World) (R : Value → World → Prop) : Prop :=
  (∃ fn, P.funcs[f]? = some fn ∧ entF fn = true) ∧ Calls P f args.toArray w fun e w' => ∃ v, e = .returned v ∧ R v w'
theorem GC.intro {cs : List Nat} {f : FuncId} {fn : Func} {args : List Value} {w : World} {R : Value → World → Prop} (hf : P.funcs[f]? = some fn) (he : entF fn = true)
    (h : ∀ E R', Eng P E → E = real P (fun _ _ => False) fn.ntmps → R' = R → eBody E cs fn args w R') : GC P f args w R :=
  ⟨⟨fn, hf, he⟩, (body_calls cs hf (fun E R hE hR => h E R (hE ▸ Eng.r P _ _) hE hR)).mono fun e w' he => by
    cases e with
    | returned v' => exact ⟨v', rfl, he⟩
    | panicked c => exact he.elim
    | outgrown => exact he.elim⟩
theorem st_g {E : Sym} (hE : E = real P Pn n) {f : FuncId} {fst cap : Array Value} {args l : List Value} {w : World} {R : Value → World → Prop} {K : Value → World → Prop} {d : Option Tmp} {fo : Operand} {ao : Array Operand} {at_ : Array TypeId} {ty : TypeId} {pos : String} {aft : Array Edge} {g : Option (Nat × Bool)}
    (h : GC P f l w R) (hk : ∀ v w', R v w' → K v w') (hl : fst.toList ++ args ++ cap.toList = l := by rfl) : E.stop ⟨d, .call ⟨.value fo, ao, at_⟩, ty, pos, aft, g⟩ (.func (.func f) fst cap :: args) w K := by
  obtain ⟨⟨fn, hf, he⟩, hc⟩ := h
  subst hE
  intro ρ hρ
  rw [run_call hf he hl hρ]
  exact hc.mono fun e w' ⟨v, he, hr⟩ => by subst he; exact hk _ _ hr
theorem st_v {E : Sym} (hE : E = real P Pn n) {f : FuncId} {fst cap : Array Value} {args l : List Value} {w : World} {v : Value} {K : Value → World → Prop} {d : Option Tmp} {fo : Operand} {ao : Array Operand} {at_ : Array TypeId} {ty : TypeId} {pos : String} {aft : Array Edge} {g : Option (Nat × Bool)}
    (h : VF P f l w v) (hk : ∀ w', Ext w w' → K v w') (hl : fst.toList ++ args ++ cap.toList = l := by rfl) : E.stop ⟨d, .call ⟨.value fo, ao, at_⟩, ty, pos, aft, g⟩ (.func (.func f) fst cap :: args) w K := by
  obtain ⟨⟨fn, hf, he⟩, hc⟩ := h
  subst hE
  intro ρ hρ
  rw [run_call hf he hl hρ]
  exact (hc w (Ext.refl w)).mono fun e w' ⟨he, hr⟩ => by subst he; exact hk _ hr
theorem st_vx {E : Sym} (hE : E = qreal P Ext) {f : FuncId} {fst cap : Array Value} {args l : List Value} {w : World} {v : Value} {K : Value → World → Prop} {d : Option Tmp} {fo : Operand} {ao : Array Operand} {at_ : Array TypeId} {ty : TypeId} {pos : String} {aft : Array Edge} {g : Option (Nat × Bool)}
    (h : VF P f l w v) (hk : K v w) (hl : fst.toList ++ args ++ cap.toList = l := by rfl) : E.stop ⟨d, .call ⟨.value fo, ao, at_⟩, ty, pos, aft, g⟩ (.func (.func f) fst cap :: args) w K := by
  obtain ⟨⟨fn, hf, he⟩, hc⟩ := h
  subst hE
  refine ⟨v, fun w1 hs ρ hρ => ?_, hk⟩
  rw [run_call hf he hl hρ]
  exact ⟨rfl, (hc w1 hs).mono fun e w' he => ⟨he.1, hs.trans he.2⟩⟩
theorem st_f {E : Sym} (hE : E = real P Pn n) {f : FuncId} {fst cap : Array Value} {args l : List Value} {w : World} {R : Value → World → Prop} {K : Value → World → Prop} {d : Option Tmp} {fo : Operand} {ao : Array Operand} {at_ : Array TypeId} {ty : TypeId} {pos : String} {aft : Array Edge} {g : Option (Nat × Bool)}
    (h : FC P f l w R) (hk : ∀ v w', Ext w w' → R v w' → K v w') (hl : fst.toList ++ args ++ cap.toList = l := by rfl) : E.stop ⟨d, .call ⟨.value fo, ao, at_⟩, ty, pos, aft, g⟩ (.func (.func f) fst cap :: args) w K := by
  obtain ⟨⟨fn, hf, he⟩, hc⟩ := h
  subst hE
  intro ρ hρ
  rw [run_call hf he hl hρ]
  exact hc.mono fun e w' ⟨v, he, hx, hr⟩ => by subst he; exact hk _ _ hx hr

end
end Go.Eng
