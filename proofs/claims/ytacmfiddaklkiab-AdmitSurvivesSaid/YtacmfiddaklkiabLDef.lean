/- The evaluator 'Lift': definitions alone. A typed, deterministic evaluator over loaded Go code, written so that at a concrete function it reduces to a plain Lean function. -/
import Derived.LoopN
import Derived.Orders
import Derived.Below
import Derived.KernelRfl
namespace Go.Proofs.Ytacmfiddaklkiab.Lift
open Go

/-! ### Types of values -/
inductive Ty where
  | bool
  | int (k : IntKind)
  | str
  | sl (e : Ty)
  | own (e : Ty)
  | arr (n : Nat) (e : Ty)
  | st (t : Ty)
  | unit
  | pair (a b : Ty)

@[reducible] def Ty.den : Ty → Type
  | .bool => Bool
  | .int _ => Int
  | .str => ByteArray
  | .sl e => List e.den
  | .own e => List e.den
  | .arr _ e => List e.den
  | .st t => t.den
  | .unit => Unit
  | .pair a b => a.den × b.den

def Ty.beq : Ty → Ty → Bool
  | .bool, .bool => true
  | .int k, .int l => decide (k = l)
  | .str, .str => true
  | .sl a, .sl b => Ty.beq a b
  | .own a, .own b => Ty.beq a b
  | .arr n a, .arr m b => Nat.beq n m && Ty.beq a b
  | .st a, .st b => Ty.beq a b
  | .unit, .unit => true
  | .pair a b, .pair c d => Ty.beq a c && Ty.beq b d
  | _, _ => false

theorem Ty.eq_of_beq : ∀ {a b : Ty}, Ty.beq a b = true → a = b := by
  intro a
  induction a with
  | bool => intro b h; cases b <;> simp_all [Ty.beq]
  | int k => intro b h; cases b <;> simp_all [Ty.beq]
  | str => intro b h; cases b <;> simp_all [Ty.beq]
  | sl e ih => intro b h; cases b <;> simp [Ty.beq] at h; rw [ih h]
  | own e ih => intro b h; cases b <;> simp [Ty.beq] at h; rw [ih h]
  | arr n e ih => intro b h; cases b <;> simp [Ty.beq] at h; rw [ih h.2, h.1]
  | st t ih => intro b h; cases b <;> simp [Ty.beq] at h; rw [ih h]
  | unit => intro b h; cases b <;> simp_all [Ty.beq]
  | pair a b iha ihb => intro c h; cases c <;> simp [Ty.beq] at h; rw [iha h.1, ihb h.2]

def Ty.size : Ty → Nat
  | .arr n e => n * e.size
  | .st t => t.size
  | .unit => 0
  | .pair a b => a.size + b.size
  | _ => 1

/-- A struct's or an array's value is an aggregate. -/
def Ty.agg : Ty → Bool
  | .st _ | .arr _ _ => true
  | _ => false

/-- No owned row anywhere. -/
def Ty.plain : Ty → Bool
  | .own _ => false
  | .sl e => e.plain
  | .arr _ e => e.plain
  | .st t => t.plain
  | .pair a b => a.plain && b.plain
  | _ => true

def Ty.dflt : (τ : Ty) → τ.den
  | .bool => false
  | .int _ => (0 : Int)
  | .str => (⟨#[]⟩ : ByteArray)
  | .sl _ => []
  | .own _ => []
  | .arr n e => List.replicate n e.dflt
  | .st t => t.dflt
  | .unit => ()
  | .pair a b => (a.dflt, b.dflt)

def Ty.decEq : (τ : Ty) → DecidableEq τ.den
  | .bool => inferInstanceAs (DecidableEq Bool)
  | .int _ => inferInstanceAs (DecidableEq Int)
  | .str => inferInstanceAs (DecidableEq ByteArray)
  | .sl e => @instDecidableEqList _ e.decEq
  | .own e => @instDecidableEqList _ e.decEq
  | .arr _ e => @instDecidableEqList _ e.decEq
  | .st t => t.decEq
  | .unit => inferInstanceAs (DecidableEq Unit)
  | .pair a b => @instDecidableEqProd _ _ a.decEq b.decEq

/-- The type of several values: no trailing unit. -/
def tup : List Ty → Ty
  | [] => .unit
  | [a] => a
  | a :: b :: r => .pair a (tup (b :: r))

/-! ### Words of the printed functions -/
/-- The element at an index (the default where there is none). -/
def nth {α : Type} (d : α) (xs : List α) (i : Int) : α := xs.getD i.toNat d
def put {α : Type} (xs : List α) (i : Int) (x : α) : List α := xs.set i.toNat x
def slc {α : Type} (xs : List α) (lo hi : Int) : List α := (xs.take hi.toNat).drop lo.toNat
def bt (s : ByteArray) (i : Int) : Int := (s.data.getD i.toNat 0).toNat
def cut (s : ByteArray) (lo hi : Int) : ByteArray := s.extract lo.toNat hi.toNat
def bytesOf (s : ByteArray) : List Int := s.data.toList.map fun b => (b.toNat : Int)
def strOf (xs : List Int) : ByteArray := ⟨(xs.map fun n => UInt8.ofNat n.toNat).toArray⟩
def andI (k : IntKind) (x y : Int) : Int := k.wrap ((BitVec.ofInt k.bits x &&& BitVec.ofInt k.bits y).toNat : Nat)
def orI (k : IntKind) (x y : Int) : Int := k.wrap ((BitVec.ofInt k.bits x ||| BitVec.ofInt k.bits y).toNat : Nat)
def xorI (k : IntKind) (x y : Int) : Int := k.wrap ((BitVec.ofInt k.bits x ^^^ BitVec.ofInt k.bits y).toNat : Nat)
def andNotI (k : IntKind) (x y : Int) : Int := k.wrap ((BitVec.ofInt k.bits x &&& ~~~ BitVec.ofInt k.bits y).toNat : Nat)
def shlI (k : IntKind) (x y : Int) : Int := k.wrap (x * 2 ^ (min y.toNat k.bits))
def shrI (k : IntKind) (x y : Int) : Int := x.fdiv (2 ^ (min y.toNat k.bits))

/-- Equality of large values. -/
def eqD {α : Type} (i : DecidableEq α) (x y : α) : Bool := @decide (x = y) (i x y)

/-! ### A loop without a bound on its rounds -/
def loopN {X Y : Type} (step : X → Option (X ⊕ Y)) : Nat → X → Option Y
  | 0, _ => none
  | n + 1, x => match step x with
    | some (.inl x') => loopN step n x'
    | some (.inr y) => some y
    | none => none

open Classical in
noncomputable def loop {X Y : Type} (step : X → Option (X ⊕ Y)) (x : X) : Option Y :=
  if h : ∃ n y, loopN step n x = some y then some (Classical.choose (Classical.choose_spec h)) else none

open Classical in
/-- Where a test's outcome isn't known: both ways must end alike. -/
noncomputable def both {ρ : Type} (a b : Option ρ) : Option ρ := if a = b then a else none

/-! ### Values, boxes, states -/
inductive Leaf where
  | undef
  | skp
  | anyb
  | bool (b : Bool)
  | int (k : IntKind) (n : Int)
  | str (s : ByteArray)
  | sl (e : Ty) (xs : List e.den)
  | nils
  | own (n : Nat)
  | view (n : Nat) (lo hi : Int)
  | ptr (n off : Nat)
  | aptr (n off : Nat) (i : Int) (m sz inner : Nat)
  | eptr (n : Nat) (i : Int) (inner : Nat)
  | eaptr (n : Nat) (i : Int) (off : Nat) (j : Int) (m sz : Nat)
  | rptr (e : Ty) (x : e.den) (inner : Nat)
  | arrv (n : Nat) (e : Ty) (xs : List e.den)

inductive Val where
  | v (agg : Bool) (cs : List Leaf)
  | tup (vs : List (Bool × List Leaf))
  | clo (f : Nat) (caps : List (Bool × List Leaf))
  | lst (ls : List Leaf)

inductive Entry where
  | box (cs : List Leaf)
  | arr (e : Ty) (xs : List e.den)

structure St where
  tmps : List (Nat × Val)
  kt : List (Nat × Val)
  tab : List (Nat × Option Entry)
  ktab : List (Nat × Option Entry)
  next : Nat

def lk {α : Type} : List (Nat × α) → Nat → Option α
  | [], _ => none
  | (k, x) :: r, n => match Nat.beq k n with
    | true => some x
    | false => lk r n

def St.tmp (σ : St) (t : Nat) : Val :=
  match lk σ.tmps t with
  | some x => x
  | none => match lk σ.kt t with
    | some x => x
    | none => .v false [.undef]

/-- An entry, and whether it may be written. -/
def St.ent (σ : St) (n : Nat) : Option (Bool × Entry) :=
  match lk σ.tab n with
  | some (some e) => some (true, e)
  | some none => none
  | none => match lk σ.ktab n with
    | some (some e) => some (false, e)
    | _ => none

def St.set (σ : St) (t : Nat) (x : Val) : St := { σ with tmps := (t, x) :: σ.tmps }
def St.put (σ : St) (u : List (Nat × Option Entry)) : St := { σ with tab := u ++ σ.tab }
def St.dst (σ : St) (d : Option Nat) (x : Val) : St :=
  match d with
  | some t => σ.set t x
  | none => σ

/-! ### Cells -/
/-- One known scalar (or an array's cells). -/
def Leaf.ok : Leaf → Bool
  | .undef => false
  | .skp => false
  | _ => true

def Leaf.width : Leaf → Nat
  | .arrv n e _ => n * e.size
  | _ => 1

def dropC : List Leaf → Nat → Option (List Leaf)
  | [], 0 => some []
  | [], _ + 1 => none
  | l :: cs, 0 => some (l :: cs)
  | l :: cs, n + 1 => match Nat.ble l.width (n + 1) with
    | true => dropC cs (n + 1 - l.width)
    | false => none

def takeC : List Leaf → Nat → Option (List Leaf)
  | _, 0 => some []
  | [], _ + 1 => none
  | l :: cs, n + 1 => match Nat.ble l.width (n + 1) with
    | true => (takeC cs (n + 1 - l.width)).map (l :: ·)
    | false => none

def getC (cs : List Leaf) (off w : Nat) : Option (List Leaf) := (dropC cs off).bind (takeC · w)

def setC (cs : List Leaf) (off w : Nat) (new : List Leaf) : Option (List Leaf) :=
  (takeC cs off).bind fun a => (dropC cs (off + w)).bind fun b => some (a ++ (new ++ b))

def widths : List Leaf → Nat
  | [] => 0
  | l :: cs => l.width + widths cs

def toC : (τ : Ty) → τ.den → List Leaf
  | .bool, b => [.bool b]
  | .int k, n => [.int k n]
  | .str, s => [.str s]
  | .sl e, xs => [.sl e xs]
  | .own _, _ => [.undef]
  | .arr n e, xs => [.arrv n e xs]
  | .st t, x => toC t x
  | .unit, _ => []
  | .pair a b, x => toC a x.1 ++ toC b x.2

def toV (τ : Ty) (x : τ.den) : Val := .v τ.agg (toC τ x)

def castL (e e' : Ty) (xs : List e'.den) : Option (List e.den) :=
  if h : Ty.beq e' e = true then some (Ty.eq_of_beq h ▸ xs) else none

abbrev Tab := Nat → Option (Bool × Entry)

/-- What a slice leaf holds. -/
def content (T : Tab) (e : Ty) : Leaf → Option (List e.den)
  | .sl e' xs => castL e e' xs
  | .nils => some []
  | .own n => match T n with
    | some (_, .arr e' xs) => castL e e' xs
    | _ => none
  | .view n lo hi => match T n with
    | some (_, .arr e' xs) => (castL e e' xs).map (slc · lo hi)
    | _ => none
  | _ => none

def ownContent (T : Tab) (e : Ty) : Leaf → Option (List e.den)
  | .nils => some []
  | .own n => match T n with
    | some (true, .arr e' xs) => castL e e' xs
    | _ => none
  | _ => none

/-- Reading a typed value off the front of cells. -/
def ofC (T : Tab) : (τ : Ty) → List Leaf → Option (τ.den × List Leaf)
  | .bool, cs => match cs with | .bool b :: r => some (b, r) | _ => none
  | .int k, cs => match cs with | .int k' n :: r => if k' = k then some (n, r) else none | _ => none
  | .str, cs => match cs with | .str s :: r => some (s, r) | _ => none
  | .sl e, cs => match cs with | l :: r => (content T e l).map fun xs => (xs, r) | _ => none
  | .own e, cs => match cs with | l :: r => (ownContent T e l).map fun xs => (xs, r) | _ => none
  | .arr n e, cs => match cs with
    | .arrv n' e' xs :: r => match Nat.beq n n' with | true => (castL e e' xs).map fun xs => (xs, r) | false => none
    | _ => none
  | .st t, cs => ofC T t cs
  | .unit, cs => some ((), cs)
  | .pair a b, cs => (ofC T a cs).bind fun x => (ofC T b x.2).bind fun y => some ((x.1, y.1), y.2)

/-- A whole value of a type. -/
def ofCs (T : Tab) (τ : Ty) (cs : List Leaf) : Option τ.den :=
  (ofC T τ cs).bind fun x => match x.2 with | [] => some x.1 | _ => none

/-- Names of owned rows in cells. -/
def ownNames : List Leaf → List Nat
  | [] => []
  | .own n :: r => n :: ownNames r
  | .view n _ _ :: r => n :: ownNames r
  | _ :: r => ownNames r

/-- Cells of a typed value whose owned rows become entries with the names c, c + 1, .. -/
def toCO : (τ : Ty) → τ.den → Nat → (List Leaf × List (Nat × Option Entry)) × Nat
  | .own e, xs, c => (([.own c], [(c, some (.arr e xs))]), c + 1)
  | .pair a b, x, c =>
    match toCO a x.1 c with
    | ((l1, u1), c1) => match toCO b x.2 c1 with
      | ((l2, u2), c2) => ((l1 ++ l2, u1 ++ u2), c2)
  | .st t, x, c => toCO t x c
  | τ, x, c => ((toC τ x, []), c)

def zeroC : Ty → List Leaf
  | .bool => [.bool false]
  | .int k => [.int k 0]
  | .str => [.str ⟨#[]⟩]
  | .sl _ => [.nils]
  | .own _ => [.nils]
  | .arr n e => [.arrv n e (List.replicate n e.dflt)]
  | .st t => zeroC t
  | .unit => []
  | .pair a b => zeroC a ++ zeroC b

/-- Offset and type of a field. -/
def fieldAt : Ty → Nat → Nat → Option (Nat × Ty)
  | .pair a _, 0, off => some (off, a)
  | .pair a b, j + 1, off => fieldAt b j (off + a.size)
  | .unit, _, _ => none
  | τ, 0, off => some (off, τ)
  | _, _ + 1, _ => none

/-! ### Functions that are called -/
structure FSpec where
  args : List Ty
  res : List Ty
  f : (tup args).den → Option (tup res).den

structure TI where
  ty : Ty
  bytes : Nat

structure LV where
  t : Nat
  box : Bool
  ty : Ty

structure Cut where
  keep : List Nat
  live : List LV
  out : List LV
  brk : Nat
  pin : Option (Nat × Ty) := none

structure Env where
  tys : List (Nat × TI)
  specs : List (Nat × FSpec)
  inls : List (Nat × Func)
  loops : List (Nat × Cut)
  joins : List (Nat × Cut)
  cuts : List (Nat × (List (Nat × Cut) × List (Nat × Cut))) := []
  nils : List (Nat × FSpec) := []

/-- Within a function that is walked in place: its cuts. -/
def Env.at (E : Env) (f : Nat) : Env :=
  match lk E.cuts f with
  | some c => { E with loops := c.1, joins := c.2 }
  | none => { E with loops := [], joins := [] }

def Env.ty (E : Env) (t : Nat) : Option Ty :=
  match lk E.tys t with
  | some i => some i.ty
  | none => none

/-! ### Operands -/
def constL : Value → Leaf
  | .bool b => .bool b
  | .int k n => .int k n
  | .string s => .str s
  | .slice none 0 0 => .nils
  | _ => .undef

def constV : Value → Val
  | .agg cs => .v true (cs.toList.map constL)
  | x => .v false [constL x]

def St.ev (σ : St) : Operand → Val
  | .tmp t => σ.tmp t
  | .const x => constV x
  | .func f => .clo f []
  | _ => .v false [.undef]

/-- The test's outcome is known from here on (where the temporary is this part's own). -/
def litK {ρ : Type} (σ : St) (c : Operand) (b : Bool) (K : St → Option ρ) : Option ρ :=
  match c with
  | .tmp t => match lk σ.tmps t with
    | some _ => K (σ.set t (.v false [.bool b]))
    | none => K σ
  | _ => K σ

/-! ### Operations that touch neither calls nor control -/
/-- Values of the type can be compared. -/
def Ty.cmp : Ty → Bool
  | .sl _ => false
  | .own _ => false
  | .arr _ e => e.cmp
  | .st t => t.cmp
  | .pair a b => a.cmp && b.cmp
  | _ => true

def Ty.deep : Ty → Nat
  | .sl e => e.deep + 1
  | .own e => e.deep + 1
  | .arr _ e => e.deep + 1
  | .st t => t.deep + 1
  | .pair a b => a.deep + b.deep + 1
  | _ => 1

section ops
variable {ρ : Type}

def intK (k : IntKind) (K : Val → Option ρ) (n : Int) : Option ρ := K (.v false [.int k n])
def boolK (K : Val → Option ρ) (b : Bool) : Option ρ := K (.v false [.bool b])

def binK (E : Env) (T : Tab) (t : Nat) (op : BinOp) (x y : Val) (K : Val → Option ρ) : Option ρ :=
  match x, y with
  | .v false [.int k a], .v false [.int k' b] =>
    match op with
    | .shl => if 0 ≤ b then K (.v false [.int k (shlI k a b)]) else none
    | .shr => if 0 ≤ b then K (.v false [.int k (shrI k a b)]) else none
    | .add => if k = k' then K (.v false [.int k (k.wrap (a + b))]) else none
    | .sub => if k = k' then K (.v false [.int k (k.wrap (a - b))]) else none
    | .mul => if k = k' then K (.v false [.int k (k.wrap (a * b))]) else none
    | .quo => if k = k' then (if b = 0 then none else K (.v false [.int k (k.wrap (a.tdiv b))])) else none
    | .rem => if k = k' then (if b = 0 then none else K (.v false [.int k (a.tmod b)])) else none
    | .and => if k = k' then K (.v false [.int k (andI k a b)]) else none
    | .or => if k = k' then K (.v false [.int k (orI k a b)]) else none
    | .xor => if k = k' then K (.v false [.int k (xorI k a b)]) else none
    | .andNot => if k = k' then K (.v false [.int k (andNotI k a b)]) else none
    | .eql => if k = k' then K (.v false [.bool (decide (a = b))]) else none
    | .neq => if k = k' then K (.v false [.bool (!decide (a = b))]) else none
    | .lss => if k = k' then K (.v false [.bool (decide (a < b))]) else none
    | .leq => if k = k' then K (.v false [.bool (decide (a ≤ b))]) else none
    | .gtr => if k = k' then K (.v false [.bool (decide (a > b))]) else none
    | .geq => if k = k' then K (.v false [.bool (decide (a ≥ b))]) else none
  | .v false [.str a], .v false [.str b] =>
    match op with
    | .add => if a.size + b.size ≤ 9223372036854775807 then K (.v false [.str (a ++ b)]) else none
    | .eql => K (.v false [.bool (decide (a = b))])
    | .neq => K (.v false [.bool (!decide (a = b))])
    | _ => none
  | .v false [.bool a], .v false [.bool b] =>
    match E.ty t, op with
    | some .bool, .eql => K (.v false [.bool (a == b)])
    | some .bool, .neq => K (.v false [.bool (!(a == b))])
    | _, _ => none
  | .v true xs, .v true ys =>
    match E.ty t with
    | some τ => match τ.agg && τ.cmp && Nat.ble τ.deep 1000 with
      | true => match ofCs T τ xs, ofCs T τ ys with
        | some x, some y => match op with
          | .eql => K (.v false [.bool (@decide (x = y) (τ.decEq x y))])
          | .neq => K (.v false [.bool (!@decide (x = y) (τ.decEq x y))])
          | _ => none
        | _, _ => none
      | false => none
    | none => none
  | .v false [.sl _ xs], .v false [.nils] =>
    match E.ty t, op with
    | some (.sl _), .eql => bif xs.isEmpty then K (.v false [.anyb]) else K (.v false [.bool false])
    | some (.sl _), .neq => bif xs.isEmpty then K (.v false [.anyb]) else K (.v false [.bool true])
    | _, _ => none
  | _, _ => none

def unK (op : UnOp) (x : Val) (K : Val → Option ρ) : Option ρ :=
  match op, x with
  | .neg, .v false [.int k n] => K (.v false [.int k (k.wrap (0 - n))])
  | .xor, .v false [.int k n] => K (.v false [.int k (xorI k (if k.signed then -1 else k.max) n)])
  | .not, .v false [.bool b] => K (.v false [.bool (!b)])
  | _, _ => none

def pickK (c x y : Val) (K : Val → Option ρ) : Option ρ :=
  match c with
  | .v false [.bool c] =>
    match x, y with
    | .v false [.bool x], .v false [.bool y] => K (.v false [.bool (bif c then x else y)])
    | .v false [.int k x], .v false [.int k' y] => if k = k' then K (.v false [.int k (bif c then x else y)]) else none
    | x, y => bif c then K x else K y
  | _ => none

def convK (E : Env) (T : Tab) (nm : Nat) (src dst : Nat) (x : Val) (K : Val → List (Nat × Option Entry) → Option ρ) : Option ρ :=
  match E.ty src, E.ty dst, x with
  | some (.int _), some (.int k), .v false [.int _ n] => K (.v false [.int k (k.wrap n)]) []
  | some .str, some .str, .v false [.str s] => K (.v false [.str s]) []
  | some .str, some (.sl (.int .u8)), .v false [.str s] => K (.v false [.own nm]) [(nm, some (.arr (.int .u8) (bytesOf s)))]
  | some (.sl (.int .u8)), some .str, .v false [l] => match content T (.int .u8) l with
    | some xs => K (.v false [.str (strOf xs)]) []
    | none => none
  | _, _, _ => none

def addrK (E : Env) (T : Tab) (t : Nat) (x : Val) (f : Nat) (K : Val → Option ρ) : Option ρ :=
  match E.ty t with
  | some (.st c) => match fieldAt c f 0 with
    | some (o, _) => match x with
      | .v false [.ptr n off] => match T n with
        | some _ => K (.v false [.ptr n (off + o)])
        | none => none
      | .v false [.aptr n off i m sz inner] => match T n with
        | some _ => K (.v false [.aptr n off i m sz (inner + o)])
        | none => none
      | .v false [.eptr n i inner] => match T n with
        | some _ => K (.v false [.eptr n i (inner + o)])
        | none => none
      | .v false [.rptr e y inner] => K (.v false [.rptr e y (inner + o)])
      | _ => none
    | none => none
  | _ => none

def loadK (E : Env) (T : Tab) (t : Nat) (a : Val) (K : Val → Option ρ) : Option ρ :=
  match E.ty t with
  | none => none
  | some τ =>
    let ret (cs : Option (List Leaf)) : Option ρ := match cs with | some cs => K (.v τ.agg cs) | none => none
    match a with
    | .v false [.ptr n off] => match T n with
      | some (_, .box cs) => ret (getC cs off τ.size)
      | _ => none
    | .v false [.aptr n off i m sz inner] => match T n with
      | some (_, .box cs) => match dropC cs off with
        | some (.arrv m' e xs :: _) => match Nat.beq m' m && Nat.beq e.size sz with
          | true => ret (getC (toC e (nth e.dflt xs i)) inner τ.size)
          | false => none
        | _ => none
      | _ => none
    | .v false [.eptr n i inner] => match T n with
      | some (_, .arr e xs) => ret (getC (toC e (nth e.dflt xs i)) inner τ.size)
      | _ => none
    | .v false [.eaptr n i off j m sz] => match T n with
      | some (_, .arr e xs) => match dropC (toC e (nth e.dflt xs i)) off with
        | some (.arrv m' e' ys :: _) => match Nat.beq m' m && Nat.beq e'.size sz with
          | true => ret (getC (toC e' (nth e'.dflt ys j)) 0 τ.size)
          | false => none
        | _ => none
      | _ => none
    | .v false [.rptr e y inner] => ret (getC (toC e y) inner τ.size)
    | _ => none

def storeK (E : Env) (T : Tab) (t : Nat) (a x : Val) (K : Val → List (Nat × Option Entry) → Option ρ) : Option ρ :=
  match E.ty t, x with
  | some τ, .v _ new =>
    match Nat.beq (widths new) τ.size && new.all Leaf.ok with
    | false => none
    | true => match a with
    | .v false [.ptr n off] => match T n with
      | some (true, .box cs) => match setC cs off τ.size new with
        | some cs' => K (.v false [.skp]) [(n, some (.box cs'))]
        | none => none
      | _ => none
    | .v false [.aptr n off i m sz inner] => match T n with
      | some (true, .box cs) => match takeC cs off, dropC cs off with
        | some before, some (.arrv m' e xs :: rest) => match (Nat.beq m' m && Nat.beq e.size sz) && e.plain with
          | true => match setC (toC e (nth e.dflt xs i)) inner τ.size new with
            | some cs' => match ofCs T e cs' with
              | some y => match ownNames new with
                | [] => K (.v false [.skp]) [(n, some (.box (before ++ (.arrv m' e (put xs i y) :: rest))))]
                | _ => none
              | none => none
            | none => none
          | false => none
        | _, _ => none
      | _ => none
    | .v false [.eptr n i inner] => match T n with
      | some (true, .arr e xs) => match e.plain with
        | true => match setC (toC e (nth e.dflt xs i)) inner τ.size new with
          | some cs' => match ofCs T e cs' with
            | some y => match ownNames new with
              | [] => K (.v false [.skp]) [(n, some (.arr e (put xs i y)))]
              | _ => none
            | none => none
          | none => none
        | false => none
      | _ => none
    | _ => none
  | _, _ => none

def fillC (τ : Ty) (vals : List (Nat × Val)) (cs : List Leaf) : Option (List Leaf) :=
  match vals with
  | [] => some cs
  | (j, x) :: r => match fieldAt τ j 0, x with
    | some (o, φ), .v _ new => match Nat.beq (widths new) φ.size && new.all Leaf.ok with
      | true => match setC cs o φ.size new with
        | some cs' => fillC τ r cs'
        | none => none
      | false => none
    | _, _ => none

def partVal (vals : List (Nat × Val)) (j : Nat) : Option Val := lk vals j

/-- The elements of a slice or array literal. -/
def elems (T : Tab) (e : Ty) (vals : List (Nat × Val)) : Nat → Nat → Option (List e.den)
  | 0, _ => some []
  | n + 1, j => match lk vals j with
    | none => (elems T e vals n (j + 1)).map (e.dflt :: ·)
    | some (.v _ cs) => match ownNames cs with
      | [] => (ofCs T e cs).bind fun x => (elems T e vals n (j + 1)).map (x :: ·)
      | _ => none
    | _ => none

/-- The elements of a slice literal, one cell each, some of them owned rows. -/
def lstOf (vals : List (Nat × Val)) : Nat → Nat → Option (List Leaf)
  | 0, _ => some []
  | n + 1, j => match lk vals j with
    | some (.v false [l]) => match l.ok && Nat.beq l.width 1 with
      | true => (lstOf vals n (j + 1)).map (l :: ·)
      | false => none
    | _ => none

/-- In ascending order, all below m. -/
def ascending {α : Type} (m : Nat) : List (Nat × α) → Nat → Bool
  | [], _ => true
  | (j, _) :: r, n => Nat.ble n j && Nat.blt j m && ascending m r (j + 1)

/-- The index of a value: within 0 ≤ i < n. -/
def rangeK (i : Val) (n : Int) (K : Int → Option ρ) : Option ρ :=
  match i with
  | .v false [.int _ i] => if 0 ≤ i ∧ i < n then K i else none
  | _ => none

def indexAddrK (E : Env) (T : Tab) (t : Nat) (x i : Val) (K : Val → Option ρ) : Option ρ :=
  match E.ty t, x with
  | some (.sl e0), .v false [.sl e xs] => match Nat.beq e0.size e.size with
    | true => rangeK i xs.length fun i => K (.v false [.rptr e (nth e.dflt xs i) 0])
    | false => none
  | some (.sl e), .v false [.own n] => match T n with
    | some (_, .arr e' xs) => match Nat.beq e.size e'.size with
      | true => rangeK i xs.length fun i => K (.v false [.eptr n i 0])
      | false => none
    | _ => none
  | some (.sl e), .v false [.view n lo hi] => match T n with
    | some (_, .arr e' _) => match Nat.beq e.size e'.size with
      | true => rangeK i (hi - lo) fun i => K (.v false [.eptr n (lo + i) 0])
      | false => none
    | _ => none
  | some (.arr m e), .v false [.ptr n off] => match T n with
    | some _ => rangeK i m fun i => K (.v false [.aptr n off i m e.size 0])
    | none => none
  | some (.arr m e), .v false [.eptr n i0 off] => match T n with
    | some _ => rangeK i m fun j => K (.v false [.eaptr n i0 off j m e.size])
    | none => none
  | some (.arr m e), .v false [.rptr e0 y off] => match dropC (toC e0 y) off with
    | some (.arrv m' e' ys :: _) => match Nat.beq m' m && Nat.beq e'.size e.size with
      | true => rangeK i m fun j => K (.v false [.rptr e' (nth e'.dflt ys j) 0])
      | false => none
    | _ => none
  | _, _ => none

def indexK (E : Env) (t : Nat) (x i : Val) (K : Val → Option ρ) : Option ρ :=
  match E.ty t, x with
  | some .str, .v false [.str s] => rangeK i s.size fun i => K (.v false [.int .u8 (bt s i)])
  | some (.arr m e'), .v true [.arrv n e xs] => match Nat.beq m n && Ty.beq e' e with
    | true => rangeK i n fun i => K (toV e (nth e.dflt xs i))
    | false => none
  | _, _ => none

def boundK (x : Option Val) (d : Int) (K : Int → Option ρ) : Option ρ :=
  match x with
  | none => K d
  | some (.v false [.int _ i]) => K i
  | _ => none

def sliceK (E : Env) (T : Tab) (t : Nat) (x : Val) (lo hi mx : Option Val) (K : Val → Option ρ) : Option ρ :=
  match mx with
  | some _ => none
  | none =>
    let go (n : Int) (R : Int → Int → Val) : Option ρ :=
      match lo, hi with
      | none, none => K (R 0 n)
      | some (.v false [.int _ l]), none => if 0 ≤ l ∧ l ≤ n then K (R l n) else none
      | none, some (.v false [.int _ h]) => if 0 ≤ h ∧ h ≤ n then K (R 0 h) else none
      | some (.v false [.int _ l]), some (.v false [.int _ h]) => if 0 ≤ l ∧ l ≤ h ∧ h ≤ n then K (R l h) else none
      | _, _ => none
    match x with
    | .v false [.str s] => match E.ty t with
      | some .str => go s.size fun l h => .v false [.str (cut s l h)]
      | _ => none
    | .v false [.sl e xs] => match E.ty t with
      | some (.sl e') => match Nat.beq e.size e'.size with
        | true => go xs.length fun l h => .v false [.sl e (slc xs l h)]
        | false => none
      | _ => none
    | .v false [.own n] => match E.ty t, T n with
      | some (.sl e'), some (_, .arr e xs) => match Nat.beq e.size e'.size with
        | true => match lo, hi with
          | none, none => K (.v false [.own n])
          | _, _ => go xs.length fun l h => .v false [.view n l h]
        | false => none
      | _, _ => none
    | .v false [.view n a b] => match E.ty t, T n with
      | some (.sl e'), some (_, .arr e _) => match Nat.beq e.size e'.size with
        | true => go (b - a) fun l h => .v false [.view n (a + l) (a + h)]
        | false => none
      | _, _ => none
    | _ => none

def lenK (E : Env) (T : Tab) (t : Nat) (x : Val) (K : Val → Option ρ) : Option ρ :=
  match E.ty t, x with
  | some .str, .v false [.str s] => K (.v false [.int .i64 s.size])
  | some (.sl _), .v false [.sl _ xs] => K (.v false [.int .i64 xs.length])
  | some (.sl _), .v false [.nils] => K (.v false [.int .i64 0])
  | some (.sl _), .v false [.own n] => match T n with
    | some (_, .arr _ xs) => K (.v false [.int .i64 xs.length])
    | _ => none
  | some (.sl _), .v false [.view n lo hi] => match T n with
    | some (_, .arr _ _) => K (.v false [.int .i64 (hi - lo)])
    | _ => none
  | some (.arr n _), .v true _ => K (.v false [.int .i64 n])
  | _, _ => none

/-- What an append takes: a slice's content, or a string's bytes. -/
def source (T : Tab) (e : Ty) : Val → Option (List e.den)
  | .v false [.str s] => castL e (.int .u8) (bytesOf s)
  | .v false [l] => content T e l
  | _ => none

/-- A slice or a string. -/
def Ty.seq : Option Ty → Bool
  | some (.sl _) => true
  | some .str => true
  | _ => false

def appendK (E : Env) (T : Tab) (nm : Nat) (t t2 : Nat) (s x : Val) (K : Val → List (Nat × Option Entry) → Option ρ) : Option ρ :=
  match Ty.seq (E.ty t2), lk E.tys t with
  | true, some ⟨.sl e, bytes⟩ =>
    match source T e x with
    | none => none
    | some ys => match s with
      | .v false [.nils] => if ys.length * bytes ≤ 70368744177664 then K (.v false [.own nm]) [(nm, some (.arr e ys))] else none
      | .v false [.own n] => match T n with
        | some (true, .arr e' xs) => match castL e e' xs with
          | some xs => if (xs.length + ys.length) * bytes ≤ 70368744177664 then K (.v false [.own nm]) [(n, none), (nm, some (.arr e (xs ++ ys)))] else none
          | none => none
        | _ => none
      | _ => none
  | _, _ => none

def copyK (E : Env) (T : Tab) (t : Nat) (d x : Val) (K : Val → List (Nat × Option Entry) → Option ρ) : Option ρ :=
  match E.ty t, d with
  | some (.sl e), .v false [.own n] => match T n, source T e x with
    | some (true, .arr e' xs), some ys => match castL e e' xs with
      | some xs => K (.v false [.int .i64 (min ys.length xs.length : Nat)]) [(n, some (.arr e (ys.take xs.length ++ xs.drop ys.length)))]
      | none => none
    | _, _ => none
  | _, _ => none

def makeK (E : Env) (nm : Nat) (t : Nat) (l c : Val) (K : Val → List (Nat × Option Entry) → Option ρ) : Option ρ :=
  match lk E.tys t, l, c with
  | some ⟨.sl e, bytes⟩, .v false [.int _ l], .v false [.int _ c] =>
    if 0 ≤ l ∧ l ≤ c ∧ c * bytes ≤ 70368744177664 then K (.v false [.own nm]) [(nm, some (.arr e (List.replicate l.toNat e.dflt)))] else none
  | _, _, _ => none

def minK (mx : Bool) (xs : List Val) (K : Val → Option ρ) : Option ρ :=
  match xs with
  | [.v false [.int k a], .v false [.int k' b]] => if k = k' then K (.v false [.int k (if mx then max a b else min a b)]) else none
  | _ => none

/-- A value of the type, taken as an aggregate or not, as the type has it. -/
def ofVal (T : Tab) (τ : Ty) (g : Bool) (cs : List Leaf) : Option τ.den :=
  match g, τ.agg with
  | true, true => ofCs T τ cs
  | false, false => ofCs T τ cs
  | _, _ => none

def lstL (T : Tab) (e : Ty) : List Leaf → Option (List e.den)
  | [] => some []
  | l :: r => (ofCs T e [l]).bind fun x => (lstL T e r).map (x :: ·)

/-- A slice of slices some of which are owned rows, as a value. -/
def lstVal (T : Tab) (τ : Ty) (ls : List Leaf) : Option τ.den :=
  match τ with
  | .sl e => match Nat.beq e.size 1 with
    | true => lstL T e ls
    | false => none
  | _ => none

/-- The values of a call's arguments. -/
def args1 (T : Tab) : (l : List Ty) → List Val → Option (tup l).den
  | [], [] => some ()
  | [a], [.v g cs] => ofVal T a g cs
  | a :: b :: r, .v g cs :: vs => (ofVal T a g cs).bind fun x => (args1 T (b :: r) vs).bind fun y => some (x, y)
  | [a], [.lst ls] => lstVal T a ls
  | a :: b :: r, .lst ls :: vs => (lstVal T a ls).bind fun x => (args1 T (b :: r) vs).bind fun y => some (x, y)
  | _, _ => none

/-- The results of a call, their owned rows under the names c, c + 1, .. -/
def res1 : (l : List Ty) → (tup l).den → Nat → List (Bool × List Leaf) × List (Nat × Option Entry)
  | [], _, _ => ([], [])
  | [a], x, c => match toCO a x c with | ((cs, u), _) => ([(a.agg, cs)], u)
  | a :: b :: r, x, c => match toCO a x.1 c with
    | ((cs, u), c1) => match res1 (b :: r) x.2 c1 with
      | (vs, u') => ((a.agg, cs) :: vs, u ++ u')

def resV (vs : List (Bool × List Leaf)) : Val :=
  match vs with
  | [(a, cs)] => .v a cs
  | vs => .tup vs

def Ty.hasSl : Ty → Bool
  | .sl _ => true
  | .arr _ e => e.hasSl
  | .st t => t.hasSl
  | .pair a b => a.hasSl || b.hasSl
  | .own e => e.hasSl
  | _ => false

def ownNamesL : List Val → List Nat
  | [] => []
  | .v _ cs :: r => ownNames cs ++ ownNamesL r
  | .lst ls :: r => ownNames ls ++ ownNamesL r
  | _ :: r => ownNamesL r

/-- The owned rows that a call's results may show: they are given up. -/
def killed (s : FSpec) (vs : List Val) : List Nat :=
  match s.res.any Ty.hasSl with
  | true => ownNamesL vs
  | false => []

def own (T : Tab) (n : Nat) : Bool :=
  match T n with
  | some (true, _) => true
  | _ => false

def callS (s : FSpec) (T : Tab) (nm : Nat) (vs : List Val) (K : Val → List (Nat × Option Entry) → Option ρ) : Option ρ :=
  match s.args.all Ty.plain && (killed s vs).all (own T) with
  | false => none
  | true => match args1 T s.args vs with
    | none => none
    | some x => (s.f x).bind fun y => match res1 s.res y nm with
      | (rs, u) => K (resV rs) ((killed s vs).map (fun n => (n, none)) ++ u)

/-- A function by its specification; or one whose first argument is the nil slice, by that for the others. -/
def callK (E : Env) (T : Tab) (nm : Nat) (f : Nat) (vs : List Val) (K : Val → List (Nat × Option Entry) → Option ρ) : Option ρ :=
  match lk E.specs f with
  | some s => callS s T nm vs K
  | none => match lk E.nils f, vs with
    | some s, .v false [.nils] :: vs' => callS s T nm vs' K
    | _, _ => none

/-- What a function literal captures. -/
def capsOf : List Val → Option (List (Bool × List Leaf))
  | [] => some []
  | .v g cs :: r => (capsOf r).map fun l => (g, cs) :: l
  | _ :: _ => none

def litVal (fn : Fn) (first : List Val) (caps : List Val) : Option Val :=
  match fn, first, capsOf caps with
  | .func f, [], some l => some (.clo f l)
  | _, _, _ => none

def extractK (x : Val) (j : Nat) (K : Val → Option ρ) : Option ρ :=
  match x with
  | .tup vs => match vs[j]? with
    | some (a, cs) => K (.v a cs)
    | none => none
  | _ => none

/-- One operation. -/
def opK (E : Env) (T : Tab) (nm : Nat) (ev : Operand → Val) (o : Op) (K : Val → List (Nat × Option Entry) → Option ρ) : Option ρ :=
  match o with
  | .move x | .assign x => K (ev x) []
  | .pick c a b => pickK (ev c) (ev a) (ev b) fun v => K v []
  | .alloc t => match E.ty t with
    | some τ => K (.v false [.ptr nm 0]) [(nm, some (.box (zeroC τ)))]
    | none => none
  | .box t x => match E.ty t, ev x with
    | some τ, .v _ cs => match Nat.beq (widths cs) τ.size && cs.all Leaf.ok with
      | true => K (.v false [.ptr nm 0]) [(nm, some (.box cs))]
      | false => none
    | _, _ => none
  | .build t ps => match E.ty t with
    | some (.st c) => match fillC c (ps.toList.map fun p => (p.1, ev p.2)) (zeroC c) with
      | some cs => K (.v true cs) []
      | none => none
    | some (.arr n e) => match ascending n (ps.toList.map fun p => (p.1, ev p.2)) 0, elems T e (ps.toList.map fun p => (p.1, ev p.2)) n 0 with
      | true, some xs => K (.v true [.arrv n e xs]) []
      | _, _ => none
    | _ => none
  | .buildSlice t n ps => match E.ty t with
    | some (.sl e) => match ascending n (ps.toList.map fun p => (p.1, ev p.2)) 0, elems T e (ps.toList.map fun p => (p.1, ev p.2)) n 0 with
      | true, some xs => match Nat.ble (n * e.size) 16777216 with
        | true => K (.v false [.own nm]) [(nm, some (.arr e xs))]
        | false => none
      | true, none => match Nat.beq e.size 1 && Nat.ble n 16777216, lstOf (ps.toList.map fun p => (p.1, ev p.2)) n 0 with
        | true, some ls => K (.lst ls) []
        | _, _ => none
      | _, _ => none
    | _ => none
  | .load t a => loadK E T t (ev a) fun v => K v []
  | .store t a x => storeK E T t (ev a) (ev x) K
  | .nilCheck x => match ev x with
    | .v false [.ptr n off] => match T n with
      | some _ => K (.v false [.ptr n off]) []
      | none => none
    | .v false [.eptr n i inner] => match T n with
      | some _ => K (.v false [.eptr n i inner]) []
      | none => none
    | _ => none
  | .binOp op t x y _ => binK E T t op (ev x) (ev y) fun v => K v []
  | .unOp op _ x => unK op (ev x) fun v => K v []
  | .convert s d x => convK E T nm s d (ev x) K
  | .makeSlice t l c => makeK E nm t (ev l) (ev c) K
  | .slice t x lo hi mx => sliceK E T t (ev x) (lo.map ev) (hi.map ev) (mx.map ev) fun v => K v []
  | .fieldAddr t x f => addrK E T t (ev x) f fun v => K v []
  | .field t x f => match E.ty t, ev x with
    | some (.st c), .v true cs => match fieldAt c f 0 with
      | some (o, φ) => match getC cs o φ.size with
        | some cs' => K (.v φ.agg cs') []
        | none => none
      | none => none
    | _, _ => none
  | .indexAddr t x i => indexAddrK E T t (ev x) (ev i) fun v => K v []
  | .index t x i => indexK E t (ev x) (ev i) fun v => K v []
  | .extract x j => extractK (ev x) j fun v => K v []
  | .makeFunc fn first caps => match litVal fn (first.toList.map ev) (caps.toList.map ev) with
    | some v => K v []
    | none => none
  | .call c => match c.callee with
    | .builtin .len => match c.args.toList, c.argTypes.toList with
      | [x], [t] => lenK E T t (ev x) fun v => K v []
      | _, _ => none
    | .builtin .append => match c.args.toList, c.argTypes.toList with
      | [s, x], [t, t2] => appendK E T nm t t2 (ev s) (ev x) K
      | _, _ => none
    | .builtin .copy => match c.args.toList, c.argTypes.toList with
      | [s, x], [t, _] => copyK E T t (ev s) (ev x) K
      | _, _ => none
    | .builtin .min => minK false (c.args.toList.map ev) fun v => K v []
    | .builtin .max => minK true (c.args.toList.map ev) fun v => K v []
    | .value (.func f) => callK E T nm f (c.args.toList.map ev) K
    | _ => none
  | _ => none
end ops

/-! ### Regions -/
def dstOf (all : List Oper) (g : Nat) : Option Nat :=
  match all[g]? with
  | some o => o.dst
  | none => none

/-- A call whose body is walked in place. -/
def inlOf (E : Env) (ev : Operand → Val) (o : Op) : Option (Nat × Func × List Val) :=
  match o with
  | .call c => match c.callee with
    | .value (.func f) => match lk E.inls f with
      | some fn => some (f, fn, c.args.toList.map ev)
      | none => none
    | .value (.tmp t) => match ev (.tmp t) with
      | .clo f caps => match lk E.inls f with
        | some fn => some (f, fn, c.args.toList.map ev ++ caps.map fun p => .v p.1 p.2)
        | none => none
      | _ => none
    | _ => none
  | _ => none

/-! Rows that are given up, and shown as slices from here on -/
def Leaf.frz (k : Nat) (e : Ty) (xs : List e.den) : Leaf → Leaf
  | .own n => match Nat.beq n k with | true => .sl e xs | false => .own n
  | .view n lo hi => match Nat.beq n k with | true => .sl e (slc xs lo hi) | false => .view n lo hi
  | .eptr n i inner => match Nat.beq n k with | true => .rptr e (nth e.dflt xs i) inner | false => .eptr n i inner
  | .eaptr n i off j m sz => match Nat.beq n k with | true => .undef | false => .eaptr n i off j m sz
  | l => l

def Val.frz (k : Nat) (e : Ty) (xs : List e.den) : Val → Val
  | .v g cs => .v g (cs.map (Leaf.frz k e xs))
  | .tup vs => .tup (vs.map fun p => (p.1, p.2.map (Leaf.frz k e xs)))
  | .clo f vs => .clo f (vs.map fun p => (p.1, p.2.map (Leaf.frz k e xs)))
  | .lst ls => .lst (ls.map (Leaf.frz k e xs))

def Entry.frz (k : Nat) (e : Ty) (xs : List e.den) : Entry → Entry
  | .box cs => .box (cs.map (Leaf.frz k e xs))
  | .arr e' ys => .arr e' ys

def St.frz1 (σ : St) (k : Nat) : St :=
  match lk σ.tab k with
  | some (some (.arr e xs)) => { σ with tmps := σ.tmps.map fun p => (p.1, p.2.frz k e xs), tab := (k, none) :: σ.tab.map fun p => (p.1, p.2.map (Entry.frz k e xs)) }
  | _ => σ

def St.frz (σ : St) : List Nat → St
  | [] => σ
  | k :: r => (σ.frz1 k).frz r

/-- Ahead of a call whose results may show its arguments' rows. -/
def frzOf (E : Env) (σ : St) (o : Op) : St :=
  match o with
  | .call c => match c.callee with
    | .value (.func f) => match lk E.specs f with
      | some s => match s.res.any Ty.hasSl with
        | true => σ.frz (ownNamesL (c.args.toList.map σ.ev))
        | false => σ
      | none => σ
    | _ => σ
  | _ => σ

abbrev Inl := {ρ : Type} → Nat → Func → List Val → St → (Val → St → Option ρ) → Option ρ

def opsK {ρ : Type} (E : Env) (inl : Inl) (base : Nat) (all : List Oper) : List Oper → Nat → St → (St → Option ρ) → Option ρ
  | [], _, σ, K => K σ
  | o :: r, i, σ, K =>
    let exec (σ : St) : Option ρ :=
      match inlOf E σ.ev o.op with
      | some (f, fn, vs) => inl f fn vs σ fun v σ' => opsK E inl base all r (i + 1) (σ'.dst o.dst v) K
      | none =>
        let σ := frzOf E σ o.op
        opK E σ.ent (base + 16 * i) σ.ev o.op fun v u => opsK E inl base all r (i + 1) ((σ.put u).dst o.dst v) K
    let skip (σ : St) : Option ρ := opsK E inl base all r (i + 1) (σ.dst o.dst (.v false [.skp])) K
    match o.guard with
    | none => exec σ
    | some (g, want) => match dstOf all g with
      | none => none
      | some t => match σ.tmp t with
        | .v false [.bool b] => bif b then litK σ (.tmp t) true (match want with | true => exec | false => skip)
            else litK σ (.tmp t) false (match want with | true => skip | false => exec)
        | .v false [.skp] => skip σ
        | _ => none

/-! #### A region whose order Go leaves open -/
/-- Masks: what an operation sets and looks at among the temporaries, reads and writes among the entries. -/
structure Rec where
  i : Nat
  d : Nat
  l : Nat
  r : Nat
  w : Nat

def namesV : List Leaf → List Nat
  | [] => []
  | .own n :: r => n :: namesV r
  | .view n _ _ :: r => n :: namesV r
  | .ptr n _ :: r => n :: namesV r
  | .aptr n _ _ _ _ _ :: r => n :: namesV r
  | .eptr n _ _ :: r => n :: namesV r
  | .eaptr n _ _ _ _ _ :: r => n :: namesV r
  | _ :: r => namesV r

def namesT : List (Bool × List Leaf) → List Nat
  | [] => []
  | p :: r => namesV p.2 ++ namesT r

def namesOf : Val → List Nat
  | .v _ cs => namesV cs
  | .tup vs => namesT vs
  | .clo _ l => namesT l
  | .lst ls => namesV ls

def namesL : List Val → List Nat
  | [] => []
  | v :: r => namesOf v ++ namesL r

def tmpsOf : List Operand → List Nat
  | [] => []
  | .tmp t :: r => t :: tmpsOf r
  | _ :: r => tmpsOf r

def looksOf (all : List Oper) (o : Oper) : List Nat :=
  match o.guard with
  | some (g, _) => match dstOf all g with
    | some t => t :: tmpsOf o.op.operands.toList
    | none => tmpsOf o.op.operands.toList
  | none => tmpsOf o.op.operands.toList

def bits : List Nat → Nat
  | [] => 0
  | n :: r => Nat.lor (Nat.shiftLeft 1 n) (bits r)

/-- The number is worked out here, once. -/
def forceN {α : Type} (n : Nat) (k : Nat → α) : α := Nat.rec (k 0) (fun m _ => k (m + 1)) n

def dstM (o : Oper) : Nat :=
  match o.dst with
  | some d => Nat.shiftLeft 1 d
  | none => 0

/-- The operations that must come before. -/
def befM (bs : List (Nat × Nat)) : List Edge → Nat
  | [] => 0
  | e :: r => match Region.binds .any e with
    | true => match lk bs e.on with
      | some m => Nat.lor (Nat.lor (Nat.shiftLeft 1 e.on) m) (befM bs r)
      | none => Nat.lor (Nat.shiftLeft 1 e.on) (befM bs r)
    | false => befM bs r

def conf (a b : Rec) : Nat :=
  Nat.lor (Nat.lor (Nat.land a.d (Nat.lor b.l b.d)) (Nat.land b.d a.l)) (Nat.lor (Nat.land a.w (Nat.lor b.r b.w)) (Nat.land b.w a.r))

/-- Whatever touches what this operation touches, must come before it. -/
def okAll (b : Rec) (m : Nat) : List Rec → Bool
  | [] => true
  | a :: r => match Nat.beq (conf a b) 0 with
    | true => okAll b m r
    | false => match Nat.beq (Nat.land (Nat.shiftRight m a.i) 1) 1 with
      | true => okAll b m r
      | false => false

def backward : List Oper → Nat → Bool
  | [], _ => true
  | o :: r, i => o.after.toList.all (fun e => !(Region.binds .any e) || Nat.blt e.on i) && backward r (i + 1)

def opsD {ρ : Type} (E : Env) (base : Nat) (all : List Oper) : List Oper → Nat → St → List Rec → List (Nat × Nat) → (St → Option ρ) → Option ρ
  | [], _, σ, _, _, K => K σ
  | o :: r, i, σ, rs, bs, K =>
    forceN (dstM o) fun d => forceN (bits (looksOf all o)) fun l => forceN (befM bs o.after.toList) fun m =>
    let exec (σ : St) : Option ρ :=
      forceN (bits (namesL (o.op.operands.toList.map σ.ev))) fun rd =>
      opK E σ.ent (base + 16 * i) σ.ev o.op fun v u =>
        forceN (bits (u.map (·.1))) fun w =>
        match okAll ⟨i, d, l, rd, w⟩ m rs with
        | true => opsD E base all r (i + 1) ((σ.put u).dst o.dst v) (⟨i, d, l, rd, w⟩ :: rs) ((i, m) :: bs) K
        | false => none
    let skip (σ : St) : Option ρ :=
      match okAll ⟨i, d, l, 0, 0⟩ m rs with
      | true => opsD E base all r (i + 1) (σ.dst o.dst (.v false [.skp])) (⟨i, d, l, 0, 0⟩ :: rs) ((i, m) :: bs) K
      | false => none
    match o.guard with
    | none => exec σ
    | some (g, want) => match dstOf all g with
      | none => none
      | some t => match σ.tmp t with
        | .v false [.bool b] => bif b then litK σ (.tmp t) true (match want with | true => exec | false => skip)
            else litK σ (.tmp t) false (match want with | true => skip | false => exec)
        | .v false [.skp] => skip σ
        | _ => none

/-! ### Cuts: loops and joins -/
def liveTy : List LV → Ty
  | [] => .unit
  | [a] => a.ty
  | a :: b :: r => .pair a.ty (liveTy (b :: r))

/-- The cells of a live variable; with the names that they take with them. -/
def lvCells (σ : St) (a : LV) : Option (List Leaf × List Nat) :=
  match a.box, σ.tmp a.t with
  | true, .v false [.ptr n 0] => match σ.ent n with
    | some (true, .box cs) => some (cs, n :: ownNames cs)
    | _ => none
  | false, .v g cs => match g, a.ty.agg with
    | true, true => some (cs, ownNames cs)
    | false, false => some (cs, ownNames cs)
    | _, _ => none
  | _, _ => none

def lvVal (σ : St) (a : LV) : Option a.ty.den := (lvCells σ a).bind fun c => ofCs σ.ent a.ty c.1

def lvNames (σ : St) : List LV → List Nat
  | [] => []
  | a :: r => (match lvCells σ a with | some c => c.2 | none => []) ++ lvNames σ r

def Ty.hasOwn : Ty → Bool
  | .own _ => true
  | .st t => t.hasOwn
  | .pair a b => a.hasOwn || b.hasOwn
  | _ => false

/-- The names that a variable takes as its own: all, where it holds rows; else a box alone. The others are seen as slices from here on. -/
def LV.cut (a : LV) (nms : List Nat) : Nat :=
  match a.ty.hasOwn, a.box with
  | true, _ => nms.length
  | false, true => 1
  | false, false => 0

def lvOwn (σ : St) : List LV → List Nat
  | [] => []
  | a :: r => (match lvCells σ a with | some c => c.2.take (a.cut c.2) | none => []) ++ lvOwn σ r

def lvPlain (σ : St) : List LV → List Nat
  | [] => []
  | a :: r => (match lvCells σ a with | some c => c.2.drop (a.cut c.2) | none => []) ++ lvPlain σ r

def proj1 (σ : St) : (l : List LV) → Option (liveTy l).den
  | [] => some ()
  | [a] => lvVal σ a
  | a :: b :: r => (lvVal σ a).bind fun x => (proj1 σ (b :: r)).bind fun y => some (x, y)

def nodupB : List Nat → Bool
  | [] => true
  | a :: r => !(r.any (Nat.beq a)) && nodupB r

def inTab (σ : St) (ns : List Nat) : Bool := ns.all fun n => match lk σ.tab n with | some (some _) => true | _ => false

/-- No variable that is kept has been assigned. -/
def kept (σ : St) (keep : List Nat) : Bool := keep.all fun t => match lk σ.tmps t with | some _ => false | none => true

/-- Nor one that was kept from further out. -/
def St.still (σ σ' : St) (keep : List Nat) : Bool := kept σ' keep && kept σ' (σ.kt.map (·.1))

/-- Nothing that was kept from further out has been assigned. -/
def St.clean (σ : St) : Bool := kept σ (σ.kt.map (·.1))

/-- The values of the live variables, if they hold all that they name. -/
def proj (σ : St) (l : List LV) : Option (liveTy l).den :=
  match (nodupB (lvOwn σ l) && (lvOwn σ l).all fun n => !((lvPlain σ l).any (Nat.beq n))) && inTab σ (lvNames σ l) with
  | true => proj1 σ l
  | false => none

def embed1 (a : LV) (x : a.ty.den) (c : Nat) : (Val × List (Nat × Option Entry)) × Nat :=
  match a.box with
  | true => match toCO a.ty x (c + 1) with
    | ((cs, u), c') => ((.v false [.ptr c 0], (c, some (.box cs)) :: u), c')
  | false => match toCO a.ty x c with
    | ((cs, u), c') => ((.v a.ty.agg cs, u), c')

def embed : (l : List LV) → (liveTy l).den → Nat → (List (Nat × Val) × List (Nat × Option Entry)) × Nat
  | [], _, c => (([], []), c)
  | [a], x, c => match embed1 a x c with | ((v, u), c') => (([(a.t, v)], u), c')
  | a :: b :: r, x, c => match embed1 a x.1 c with
    | ((v, u), c1) => match embed (b :: r) x.2 c1 with
      | ((vs, us), c2) => (((a.t, v) :: vs, u ++ us), c2)

def has (l : List Nat) (n : Nat) : Bool := l.any (Nat.beq n)

/-- The state at a loop's head. -/
def St.enter (σ : St) (c : Cut) (x : (liveTy c.live).den) : St :=
  match embed c.live x σ.next with
  | ((ts, u), n) =>
    { tmps := ts,
      kt := (σ.tmps.filter fun p => has c.keep p.1) ++ σ.kt,
      tab := u,
      ktab := (σ.tab ++ σ.ktab).filter fun p => !(has (lvNames σ c.live) p.1),
      next := n }

/-- The state behind a cut. -/
def St.after (σ : St) (c : Cut) (names : List Nat) (x : (liveTy c.out).den) : St :=
  match embed c.out x σ.next with
  | ((ts, u), n) =>
    { tmps := ts ++ σ.tmps.filter fun p => has c.keep p.1,
      kt := σ.kt,
      tab := u ++ σ.tab.filter fun p => !(has names p.1),
      ktab := σ.ktab,
      next := n }

/-- The state in which a part is walked whose end is a join. -/
def St.part (σ : St) (c : Cut) : St :=
  { tmps := σ.tmps.filter fun p => !(has c.keep p.1),
    kt := σ.tmps.filter (fun p => has c.keep p.1) ++ σ.kt,
    tab := σ.tab.filter fun p => has (lvNames σ c.live) p.1,
    ktab := σ.tab.filter (fun p => !(has (lvNames σ c.live) p.1)) ++ σ.ktab,
    next := σ.next }

/-! A row that a cut leaves where it is, under its name -/
abbrev Pin := Option (Nat × Ty)

def St.pinRow (σ : St) (m : Nat) (e : Ty) : Option (List e.den) :=
  match lk σ.tab m with
  | some (some (.arr e' xs)) => castL e e' xs
  | _ => none

def St.pinAt (σ : St) (c : Cut) : Option Pin :=
  match c.pin with
  | none => some none
  | some (t, e) => match σ.tmp t with
    | .v false [.own m] => match σ.pinRow m e with
      | some _ => some (some (m, e))
      | none => none
    | _ => none

def pinTy (p : Pin) (τ : Ty) : Ty :=
  match p with
  | none => τ
  | some q => .pair τ (.own q.2)

def St.get (σ : St) (p : Pin) (l : List LV) : Option (pinTy p (liveTy l)).den :=
  match p with
  | none => proj σ l
  | some q => match has (lvNames σ l) q.1 with
    | true => none
    | false => (proj σ l).bind fun x => (σ.pinRow q.1 q.2).bind fun y => some (x, y)

def St.hold (σ : St) (m : Nat) (e : Entry) : St :=
  { σ with tab := (m, some e) :: σ.tab, ktab := σ.ktab.filter fun q => !(Nat.beq q.1 m) }

def St.enterP (σ : St) (c : Cut) (p : Pin) (x : (pinTy p (liveTy c.live)).den) : St :=
  match p, x with
  | none, x => σ.enter c x
  | some q, x => (σ.enter c x.1).hold q.1 (.arr q.2 x.2)

def St.afterP (σ : St) (c : Cut) (names : List Nat) (p : Pin) (x : (pinTy p (liveTy c.out)).den) : St :=
  match p, x with
  | none, x => σ.after c names x
  | some q, x => { σ.after c names x.1 with tab := (q.1, some (.arr q.2 x.2)) :: (σ.after c names x.1).tab }

def St.partP (σ : St) (c : Cut) (p : Pin) : St :=
  match p with
  | none => σ.part c
  | some q => match lk σ.tab q.1 with
    | some (some e) => (σ.part c).hold q.1 e
    | _ => σ.part c

/-- The state at an exit out of a cut. -/
def St.leave (σ σ' : St) : St :=
  { tmps := σ'.tmps ++ σ'.kt, kt := σ.kt,
    tab := σ'.tab ++ σ'.ktab.filter fun p => match lk σ.ktab p.1 with | some _ => false | none => true,
    ktab := σ.ktab, next := σ'.next }

def firstReg : Code → Option Nat
  | .region id _ _ => some id
  | .seq a b => match firstReg a with | some n => some n | none => firstReg b
  | .cond _ a b => match firstReg a with | some n => some n | none => firstReg b
  | .block _ c => firstReg c
  | .loop c => firstReg c
  | _ => none

def cutAt (l : List (Nat × Cut)) (c : Code) : Option Cut :=
  match firstReg c with
  | some n => lk l n
  | none => none

inductive Ex where
  | normal
  | exit (id : Nat)
  | ret

/-! ### Code -/
noncomputable def evalC (E : Env) (inl : Inl) : Code → {ρ : Type} → St → (Ex → St → Option ρ) → Option ρ
  | .skip, _, σ, K => K .normal σ
  | .ret, _, σ, K => K .ret σ
  | .exit id, _, σ, K => K (.exit id) σ
  | .region _ ops draw, ρ, σ, K =>
    let σ' : St := { σ with next := σ.next + 16 * ops.size }
    match draw with
    | false => opsK E inl σ.next ops.toList ops.toList 0 σ' fun σ'' => K .normal σ''
    | true => match backward ops.toList 0 with
      | false => none
      | true => opsD (ρ := ρ) E σ.next ops.toList ops.toList 0 σ' [] [] fun σ'' => K .normal σ''
  | .seq a b, ρ, σ, K =>
    match cutAt E.joins b with
    | none => evalC E inl a σ fun ex σ' => match ex with
      | .normal => evalC E inl b σ' K
      | ex => K ex σ'
    | some c => match σ.clean, σ.pinAt c with
      | false, _ => none
      | true, none => none
      | true, some p => (evalC E inl a (ρ := (pinTy p (liveTy c.out)).den ⊕ ρ) (σ.partP c p) fun ex σ' => match ex with
        | .normal => match σ.still σ' c.keep with
          | true => (σ'.get p c.out).bind fun y => some (.inl y)
          | false => none
        | ex => (K ex (σ.leave σ')).bind fun r => some (.inr r)).bind fun o => match o with
      | .inl y => evalC E inl b (σ.afterP c (lvNames σ c.live) p y) K
      | .inr r => some r
  | .cond c a b, _, σ, K =>
    match σ.ev c with
    | .v false [.bool v] => bif v then litK σ c true fun σ' => evalC E inl a σ' K else litK σ c false fun σ' => evalC E inl b σ' K
    | .v false [.anyb] => both (evalC E inl a σ K) (evalC E inl b σ K)
    | _ => none
  | .block id c, _, σ, K =>
    evalC E inl c σ fun ex σ' => match ex with
      | .exit id' => match Nat.beq id' id with
        | true => K .normal σ'
        | false => K (.exit id') σ'
      | ex => K ex σ'
  | .loop body, ρ, σ, K =>
    match cutAt E.loops body with
    | none => none
    | some c => match σ.clean, σ.pinAt c with
      | false, _ => none
      | true, none => none
      | true, some p => match σ.get p c.live with
      | none => none
      | some x0 =>
        (loop (fun x : (pinTy p (liveTy c.live)).den =>
          evalC E inl body (ρ := (pinTy p (liveTy c.live)).den ⊕ ((pinTy p (liveTy c.out)).den ⊕ ρ)) (σ.enterP c p x) fun ex σ' => match ex with
            | .normal => match σ.still σ' c.keep with
              | true => (σ'.get p c.live).bind fun y => some (.inl y)
              | false => none
            | .exit id => match Nat.beq id c.brk with
              | true => match σ.still σ' c.keep with
                | true => (σ'.get p c.out).bind fun y => some (.inr (.inl y))
                | false => none
              | false => (K (.exit id) (σ.leave σ')).bind fun r => some (.inr (.inr r))
            | .ret => (K .ret (σ.leave σ')).bind fun r => some (.inr (.inr r))) x0).bind fun o => match o with
        | .inl y => K (.exit c.brk) (σ.afterP c (lvNames σ c.live) p y)
        | .inr r => some r
  | _, _, _, _ => none

/-! ### Functions -/
def resCells (E : Env) (σ : St) : ResultVar → Option (Bool × List Leaf)
  | .tmp t => match σ.tmp t with
    | .v a cs => some (a, cs)
    | _ => none
  | .cell a t => match E.ty t, σ.tmp a with
    | some τ, .v false [.ptr n off] => match σ.ent n with
      | some (_, .box cs) => (getC cs off τ.size).map fun cs => (τ.agg, cs)
      | _ => none
    | _, _ => none

def resCellsL (E : Env) (σ : St) : List ResultVar → Option (List (Bool × List Leaf))
  | [] => some []
  | r :: rs => (resCells E σ r).bind fun x => (resCellsL E σ rs).bind fun y => some (x :: y)

def ownPart : (τ : Ty) → List Leaf → List Nat
  | _, cs => ownNames cs

/-- The results, typed. Owned rows must be different ones, and none of them may also be handed out as a plain slice. -/
def retR (T : Tab) : (l : List Ty) → List (Bool × List Leaf) → Option (tup l).den
  | [], [] => some ()
  | [a], [(g, cs)] => ofVal T a g cs
  | a :: b :: r, (g, cs) :: vs => (ofVal T a g cs).bind fun x => (retR T (b :: r) vs).bind fun y => some (x, y)
  | _, _ => none

def retK (E : Env) (res : List Ty) (fn : Func) (σ : St) : Option (tup res).den :=
  match resCellsL E σ fn.results.toList with
  | none => none
  | some vs => match !(res.any Ty.hasOwn) || nodupB (vs.flatMap fun p => ownNames p.2) with
    | true => retR σ.ent res vs
    | false => none

def argTmps : (l : List Ty) → (tup l).den → Nat → List (Nat × Val)
  | [], _, _ => []
  | [a], x, i => [(i, toV a x)]
  | a :: b :: r, x, i => (i, toV a x.1) :: argTmps (b :: r) x.2 (i + 1)

noncomputable def inlK (E : Env) : Nat → Inl
  | 0, _, _, _, _, _, _ => none
  | d + 1, _, f, fn, vs, σ, K => match fn.body with
    | none => none
    | some c =>
      evalC (E.at f) (inlK E d) c { tmps := (List.range vs.length).zip vs, kt := [], tab := σ.tab, ktab := σ.ktab, next := σ.next } fun ex σ' =>
        match ex with
        | .exit _ => none
        | _ => match resCellsL E σ' fn.results.toList with
          | none => none
          | some rs => K (resV rs) { σ with tab := σ'.tab, next := σ'.next }

noncomputable def fnEval (E : Env) (args res : List Ty) (fn : Func) (x : (tup args).den) : Option (tup res).den :=
  match fn.body with
  | none => none
  | some c =>
    evalC E (inlK E 6) c { tmps := argTmps args x 0, kt := [], tab := [], ktab := [], next := 0 } fun ex σ =>
      match ex with
      | .exit _ => none
      | _ => retK E res fn σ

end Go.Proofs.Ytacmfiddaklkiab.Lift
