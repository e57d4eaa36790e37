import Derived.Calls
set_option linter.unusedVariables false
/-! Lf: a typed evaluator over the model's own code. The data. -/
namespace Go.Lf

/-- Codes of the types of what a frame holds. -/
inductive Ty where
  | int (k : IntKind)
  | bool
  | unit
  | pair (a b : Ty)
  | sl (a : Ty)      -- a slice whose cells nobody writes any more
  | ow (a : Ty)      -- a slice that is owned here
  | bx (a : Ty)      -- a pointer to a block that is owned here

abbrev Ty.den : Ty → Type
  | .int _ => Int
  | .bool => Bool
  | .unit => Unit
  | .pair a b => a.den × b.den
  | .sl a => List a.den
  | .ow a => List a.den
  | .bx a => a.den

def Ty.size : Ty → Nat
  | .unit => 0
  | .pair a b => a.size + b.size
  | _ => 1

def kbeq : IntKind → IntKind → Bool
  | .i8, .i8 | .i16, .i16 | .i32, .i32 | .i64, .i64 | .u8, .u8 | .u16, .u16 | .u32, .u32 | .u64, .u64 => true
  | _, _ => false

theorem kbeq_eq {a b : IntKind} (h : kbeq a b = true) : a = b := by
  cases a <;> cases b <;> first | rfl | cases h

def Ty.beq : Ty → Ty → Bool
  | .int k, .int k' => kbeq k k'
  | .bool, .bool => true
  | .unit, .unit => true
  | .pair a b, .pair a' b' => a.beq a' && b.beq b'
  | .sl a, .sl a' => a.beq a'
  | .ow a, .ow a' => a.beq a'
  | .bx a, .bx a' => a.beq a'
  | _, _ => false

theorem Ty.beq_eq : ∀ {a b : Ty}, Ty.beq a b = true → a = b
  | .int k, .int k', h => by rw [kbeq_eq h]
  | .bool, .bool, _ => rfl
  | .unit, .unit, _ => rfl
  | .pair a b, .pair a' b', h => by
    have h' : (a.beq a' && b.beq b') = true := h
    rw [Bool.and_eq_true] at h'
    rw [Ty.beq_eq h'.1, Ty.beq_eq h'.2]
  | .sl a, .sl a', h => by rw [Ty.beq_eq (a := a) (b := a') h]
  | .ow a, .ow a', h => by rw [Ty.beq_eq (a := a) (b := a') h]
  | .bx a, .bx a', h => by rw [Ty.beq_eq (a := a) (b := a') h]

/-- Nothing in it is owned. -/
def Ty.plain : Ty → Bool
  | .pair a b => a.plain && b.plain
  | .sl a => a.plain
  | .ow _ => false
  | .bx _ => false
  | _ => true

def castTo {a b : Ty} (h : Ty.beq a b = true) (x : a.den) : b.den := Ty.beq_eq h ▸ x
def castL {a b : Ty} (h : Ty.beq a b = true) (x : List a.den) : List b.den := Ty.beq_eq h ▸ x

structure Ref where
  root : Nat
  path : List (Nat × Nat)

inductive V where
  | undef
  | int (k : IntKind) (n : Int)
  | bool (b : Bool)
  | nilp
  | nils
  | sl (τ : Ty) (l : List τ.den)
  | ow (τ : Ty) (l : List τ.den)
  | bx (τ : Ty) (x : τ.den)
  | agg (fs : List V)
  | tup (vs : List V)
  | ip (τ : Ty) (x : τ.den) (j : Nat)
  | hs (r : Ref) (off n : Nat) (whole : Bool)
  | hp (r : Ref) (i j : Nat)
  | fn (f : FuncId) (caps : List V)

inductive Ob where
  | box (t : Option Ty) (fs : List V)
  | arr (τ : Ty) (l : List τ.den)

/-- The leaves of a value, one a cell. -/
def Ty.leaves : (τ : Ty) → τ.den → List V
  | .int k, n => [.int k n]
  | .bool, b => [.bool b]
  | .unit, _ => []
  | .pair a b, x => a.leaves x.1 ++ b.leaves x.2
  | .sl a, l => [.sl a l]
  | .ow a, l => [.ow a l]
  | .bx a, x => [.bx a x]

/-- A leaf as a value of a type of one cell. -/
def Ty.ofLeaf : (τ : Ty) → V → Option τ.den
  | .int k, .int k' n => if kbeq k' k = true then some n else none
  | .bool, .bool b => some b
  | .sl a, .sl a' l => if h : Ty.beq a' a = true then some (castL h l) else none
  | .sl a, .ow a' l => if h : Ty.beq a' a = true then if a.plain = true then some (castL h l) else none else none
  | .sl _, .nils => some []
  | .ow a, .ow a' l => if h : Ty.beq a' a = true then some (castL h l) else none
  | .ow _, .nils => some []
  | .bx a, .bx a' x => if h : Ty.beq a' a = true then some (castTo (a := a') (b := a) h x) else none
  | _, _ => none

def withRest {α : Type} (o : Option α) (vs : List V) : Option (α × List V) :=
  match o with
  | some x => some (x, vs)
  | none => none

/-- Leaves as a value, with those that are left over. -/
def Ty.ofLeaves : (τ : Ty) → List V → Option (τ.den × List V)
  | .unit, vs => some ((), vs)
  | .pair a b, vs => match a.ofLeaves vs with
    | some (x, vs) => match b.ofLeaves vs with
      | some (y, vs) => some ((x, y), vs)
      | none => none
    | none => none
  | .int k, v :: vs => withRest ((Ty.int k).ofLeaf v) vs
  | .bool, v :: vs => withRest (Ty.bool.ofLeaf v) vs
  | .sl a, v :: vs => withRest ((Ty.sl a).ofLeaf v) vs
  | .ow a, v :: vs => withRest ((Ty.ow a).ofLeaf v) vs
  | .bx a, v :: vs => withRest ((Ty.bx a).ofLeaf v) vs
  | _, _ => none

def Ty.ofAll (τ : Ty) (vs : List V) : Option τ.den :=
  match τ.ofLeaves vs with
  | some (x, []) => some x
  | _ => none

/-- A whole value: one leaf, or an aggregate. -/
def Ty.toV : (τ : Ty) → τ.den → V
  | .int k, n => .int k n
  | .bool, b => .bool b
  | .sl a, l => .sl a l
  | .ow a, l => .ow a l
  | .bx a, x => .bx a x
  | .unit, _ => .agg []
  | .pair a b, x => .agg (a.leaves x.1 ++ b.leaves x.2)

def V.fields : V → List V
  | .agg fs => fs
  | v => [v]

/-- Is it an aggregate? -/
def Ty.isA : Ty → Bool
  | .pair _ _ => true
  | .unit => true
  | _ => false

def V.isAgg : V → Bool
  | .agg _ => true
  | _ => false

/-- Is v an aggregate exactly if τ is? -/
def likeA (τ : Ty) (v : V) : Bool :=
  match τ.isA with
  | true => v.isAgg
  | false => !v.isAgg

def Ty.ofV (τ : Ty) (v : V) : Option τ.den := bif likeA τ v then τ.ofAll v.fields else none

def get {α : Type} (k : Nat) : List (Nat × α) → Option α
  | [] => none
  | (j, x) :: l => bif Nat.beq j k then some x else get k l

def put {α : Type} (k : Nat) (x : α) : List (Nat × α) → List (Nat × α)
  | [] => [(k, x)]
  | (j, y) :: l => bif Nat.beq j k then (k, x) :: l else (j, y) :: put k x l

def del {α : Type} (k : Nat) : List (Nat × α) → List (Nat × α)
  | [] => []
  | (j, y) :: l => bif Nat.beq j k then del k l else (j, y) :: del k l

def mem (k : Nat) : List Nat → Bool
  | [] => false
  | j :: l => bif Nat.beq j k then true else mem k l

structure St where
  tm : List (Nat × V)
  ob : List (Nat × Ob)
  nx : Nat

def ofValue : Value → V
  | .int k n => .int k n
  | .bool b => .bool b
  | .pointer none => .nilp
  | .slice none 0 0 => .nils
  | _ => .undef

def opnd (tm : List (Nat × V)) : Operand → V
  | .tmp t => (get t tm).getD .undef
  | .const v => ofValue v
  | .func f => .fn f []
  | .global _ => .undef

/-! ### Types of the program -/
inductive TK where
  | int (k : IntKind)
  | bool
  | struct (fs : List (Nat × Nat))      -- where each field begins, and its cells
  | slice (e : TypeId)
  | ptr (e : TypeId)
  | other

structure TI where
  size : Nat
  bytes : Nat
  k : TK
  zero : List V
  eq : List Bool                -- a struct of numbers (true) and bools (false) alone, that may be compared

/-! ### Parameters and results of a function that has been lifted -/
inductive PT where
  | imm (τ : Ty)
  | bor (τ : Ty) (rw : Bool)

abbrev PT.den : PT → Type
  | .imm τ => τ.den
  | .bor τ _ => τ.den

abbrev Args : List PT → Type
  | [] => Unit
  | p :: ps => p.den × Args ps

abbrev Upds : List PT → Type
  | [] => Unit
  | .imm _ :: ps => Upds ps
  | .bor τ true :: ps => τ.den × Upds ps
  | .bor _ false :: ps => Upds ps

abbrev Tys : List Ty → Type
  | [] => Unit
  | t :: ts => t.den × Tys ts

structure FSem where
  id : FuncId
  ps : List PT
  rs : List Ty
  f : Nat → Args ps → Option (Tys rs × Upds ps)

def findF (f : FuncId) : List FSem → Option FSem
  | [] => none
  | s :: l => bif Nat.beq s.id f then some s else findF f l

/-- What the evaluator is told beside the code. -/
structure Ctx where
  ti : List (TypeId × TI)
  ety : List (TypeId × Ty)      -- by the element's type: how its arrays are held
  env : List FSem
  keep : List Nat               -- the slots that live beyond a region
  pin : List Nat                -- the slots that are never written
  nt : Nat                      -- how many slots there are

/-! ### The objects of a frame -/

def Ob.leafK {R : Type} (o : Ob) (i j : Nat) (K : V → Option R) : Option R :=
  match o with
  | .box _ fs => match fs[j]? with
      | some v => K v
      | none => none
  | .arr τ l => (l[i]?).bind fun x => match (τ.leaves x)[j]? with
    | some v => K v
    | none => none

/-- n leaves from j on. -/
def Ob.leavesK {R : Type} (o : Ob) (i j n : Nat) (K : List V → Option R) : Option R :=
  match o with
  | .box _ fs => bif Nat.ble (j + n) fs.length then K ((fs.drop j).take n) else none
  | .arr τ l => bif Nat.ble (j + n) τ.size then (l[i]?).bind fun x => K (((τ.leaves x).drop j).take n) else none

def Ob.goK {R : Type} : List (Nat × Nat) → Ob → (Ob → Option R) → Option R
  | [], o, K => K o
  | (i, j) :: p, o, K => o.leafK i j fun
    | .ow τ l => goK p (.arr τ l) K
    | .bx τ x => goK p (.box (some τ) (τ.leaves x)) K
    | _ => none

def setAt (j : Nat) (vs : List V) (fs : List V) : List V := fs.take j ++ vs ++ fs.drop (j + vs.length)

/-- Leaves written from j on. -/
def Ob.writeK {R : Type} (o : Ob) (i j : Nat) (vs : List V) (K : Ob → Option R) : Option R :=
  match o with
  | .box t fs => bif Nat.ble (j + vs.length) fs.length then K (.box t (setAt j vs fs)) else none
  | .arr τ l => (l[i]?).bind fun x => match τ.ofAll (setAt j vs (τ.leaves x)) with
    | some y => K (.arr τ (l.set i y))
    | none => none

/-- An object at rest, as a leaf like the one it was. -/
def Ob.rest (o : Ob) (like : V) : Option V :=
  match o, like with
  | .arr τ l, .ow _ _ => some (.ow τ l)
  | .box _ fs, .bx τ _ => match τ.ofAll fs with
    | some x => some (.bx τ x)
    | none => none
  | _, _ => none

def Ob.updK {R : Type} : List (Nat × Nat) → Ob → (Ob → (Ob → Option R) → Option R) → (Ob → Option R) → Option R
  | [], o, F, K => F o K
  | (i, j) :: p, o, F, K => o.leafK i j fun v =>
    match v with
    | .ow τ l => updK p (.arr τ l) F fun o' => match o'.rest v with
      | some v' => o.writeK i j [v'] K
      | none => none
    | .bx τ x => updK p (.box (some τ) (τ.leaves x)) F fun o' => match o'.rest v with
      | some v' => o.writeK i j [v'] K
      | none => none
    | _ => none

/-- A leaf as it reads in a slot, found at (r, i, j). -/
def view (r : Ref) (i j : Nat) : V → V
  | .ow _ l => .hs ⟨r.root, r.path ++ [(i, j)]⟩ 0 l.length true
  | .bx _ _ => .hp ⟨r.root, r.path ++ [(i, j)]⟩ 0 0
  | v => v

def views (r : Ref) (i : Nat) : Nat → List V → List V
  | _, [] => []
  | j, v :: vs => view r i j v :: views r i (j + 1) vs

abbrev Delta := List (Nat × Option Ob)

def applyD : Delta → List (Nat × Ob) → List (Nat × Ob)
  | [], obs => obs
  | (k, some o) :: d, obs => applyD d (put k o obs)
  | (k, none) :: d, obs => applyD d (del k obs)

end Go.Lf
