import Derived.Test.YtgfhdajbgkpgkaaLfDefs
import Derived.Orders
set_option linter.unusedVariables false
/-! Lf: the evaluator. -/
namespace Go.Lf

def w64 (n : Int) : Int := IntKind.i64.wrap n

def Ty.hasSl : Ty → Bool
  | .pair a b => a.hasSl || b.hasSl
  | .sl _ => true
  | .ow a => a.hasSl
  | .bx a => a.hasSl
  | _ => false

def offAdd (off i : Nat) : Nat := i + off

def subL {α : Type} (l : List α) (off n : Nat) (whole : Bool) : List α :=
  match off, whole with
  | 0, true => l
  | 0, false => l.take n
  | _, _ => (l.drop off).take n

def disj : List Nat → List Nat → Bool
  | [], _ => true
  | x :: a, b => !mem x b && disj a b

def nodup : List Nat → Bool
  | [] => true
  | x :: a => !mem x a && nodup a

/-- What an operation comes to: its value, what becomes of the objects, which objects it looked at, through which places nothing may be reached any more (the flag: the place itself, too). -/
abbrev OpK (R : Type) := V → Delta → List Nat → List (Ref × Bool) → Option R

section
variable {R : Type}

/-- The object at r. -/
def atRef (obs : List (Nat × Ob)) (r : Ref) (K : Ob → Option R) : Option R :=
  match get r.root obs with
  | some o => o.goK r.path K
  | none => none

/-- A leaf out of a slot, as it lies at rest; what it takes from the objects. -/
def restK (obs : List (Nat × Ob)) : V → (V → Delta → Option R) → Option R
  | .int k n, K => K (.int k n) []
  | .bool b, K => K (.bool b) []
  | .nilp, K => K .nilp []
  | .nils, K => K .nils []
  | .sl τ l, K => K (.sl τ l) []
  | .hs ⟨k, []⟩ 0 _ true, K => match get k obs with
    | some (.arr τ l) => K (.ow τ l) [(k, none)]
    | _ => none
  | .hs ⟨k, [(0, j)]⟩ 0 _ true, K => match get k obs with
    | some (.box t fs) => match fs[j]? with
      | some (.ow τ l) => bif τ.plain then K (.sl τ l) [(k, some (.box t (setAt j [.sl τ l] fs)))] else none
      | _ => none
    | _ => none
  | .hp ⟨k, []⟩ 0 0, K => match get k obs with
    | some (.box (some τ) fs) => match τ.ofAll fs with
      | some x => K (.bx τ x) [(k, none)]
      | none => none
    | _ => none
  | _, _ => none

/-- Leaves at rest, one behind the other. -/
def restsK : List V → List (Nat × Ob) → (List V → Delta → Option R) → Option R
  | [], _, K => K [] []
  | v :: vs, obs, K => restK obs v fun v' d => restsK vs (applyD d obs) fun vs' d' => K (v' :: vs') (d ++ d')

/-- The content of a slice that is only read. -/
def readSl (obs : List (Nat × Ob)) : V → ((τ : Ty) → List τ.den → List Nat → Option R) → Option R
  | .sl τ l, K => K τ l []
  | .hs r off n w, K => atRef obs r fun
    | .arr τ l => K τ (subL l off n w) [r.root]
    | _ => none
  | _, _ => none

/-- A leaf of an argument that is handed over by value. -/
def argLeafK (obs : List (Nat × Ob)) (share : Bool) : V → (V → Delta → List Nat → Option R) → Option R
  | .int k n, K => K (.int k n) [] []
  | .bool b, K => K (.bool b) [] []
  | .nils, K => K .nils [] []
  | .sl τ l, K => K (.sl τ l) [] []
  | .hs r off n w, K => readSl obs (.hs r off n w) fun τ l rd => bif τ.plain then
      match share, r.path with
      | false, _ => K (.sl τ l) [] rd
      | true, [] => K (.sl τ l) [(r.root, none)] rd
      | _, _ => none
    else none
  | _, _ => none

def argLeavesK (share : Bool) : List V → List (Nat × Ob) → (List V → Delta → List Nat → Option R) → Option R
  | [], _, K => K [] [] []
  | v :: vs, obs, K => argLeafK obs share v fun v' d rd => argLeavesK share vs (applyD d obs) fun vs' d' rd' => K (v' :: vs') (d ++ d') (rd ++ rd')

/-- Arguments, as a lifted function takes them. bs: the borrowed blocks; sn: the objects that are read by value. -/
def argsK (share : Bool) : (ps : List PT) → List V → List (Nat × Ob) → (Args ps → List Nat → Delta → List Nat → Option R) → Option R
  | [], [], _, K => K () [] [] []
  | .imm τ :: ps, v :: vs, obs, K => bif τ.plain && likeA τ v then argLeavesK share v.fields obs fun fs d sn => match τ.ofAll fs with
    | some x => argsK share ps vs (applyD d obs) fun xs bs d' sn' => K (x, xs) bs (d ++ d') (sn ++ sn')
    | none => none
    else none
  | .bor τ _ :: ps, .hp ⟨k, []⟩ 0 0 :: vs, obs, K => match get k obs with
    | some (.box _ fs) => match τ.ofAll fs with
      | some x => argsK share ps vs obs fun xs bs d' sn' => K (x, xs) (k :: bs) d' sn'
      | none => none
    | _ => none
  | _, _, _, _ => none

/-- What comes back into the borrowed blocks. -/
def backD : (ps : List PT) → Upds ps → List Nat → Delta × List (Ref × Bool)
  | .imm _ :: ps, u, bs => backD ps u bs
  | .bor _ false :: ps, u, _ :: bs => backD ps u bs
  | .bor τ true :: ps, u, k :: bs => match backD ps u.2 bs with
    | (d, iv) => ((k, some (.box (some τ) (τ.leaves u.1))) :: d, (⟨k, []⟩, false) :: iv)
  | _, _, _ => ([], [])

/-- A result's leaves, in slots: what is owned gets objects of its own. -/
def freshLeaf (k : Nat) : V → V × Delta × Nat
  | .ow τ l => (.hs ⟨k, []⟩ 0 l.length true, [(k, some (.arr τ l))], k + 1)
  | .bx τ x => (.hp ⟨k, []⟩ 0 0, [(k, some (.box (some τ) (τ.leaves x)))], k + 1)
  | v => (v, [], k)

def freshLeaves : Nat → List V → List V × Delta × Nat
  | k, [] => ([], [], k)
  | k, v :: vs => match freshLeaf k v with
    | (v', d, k') => match freshLeaves k' vs with
      | (vs', d', k'') => (v' :: vs', d ++ d', k'')

def freshV (k : Nat) : V → V × Delta × Nat
  | .agg fs => match freshLeaves k fs with
    | (fs', d, k') => (.agg fs', d, k')
  | v => freshLeaf k v

def freshTup : (ts : List Ty) → Tys ts → Nat → List V × Delta × Nat
  | [], _, k => ([], [], k)
  | t :: ts, x, k => match freshV k (t.toV x.1) with
    | (v, d, k') => match freshTup ts x.2 k' with
      | (vs, d', k'') => (v :: vs, d ++ d', k'')

def one : List V → V
  | [v] => v
  | vs => .tup vs

def hasSl : List Ty → Bool
  | [] => false
  | t :: ts => t.hasSl || hasSl ts

def borSl : List PT → Bool
  | [] => false
  | .imm _ :: ps => borSl ps
  | .bor τ _ :: ps => τ.hasSl || borSl ps

/-- Every borrowed block is given back. -/
def allRw : List PT → Bool
  | [] => true
  | .imm _ :: ps => allRw ps
  | .bor _ rw :: ps => rw && allRw ps

def callK (S : FSem) (k fresh : Nat) (vs : List V) (obs : List (Nat × Ob)) (K : OpK R) : Option R :=
  argsK (hasSl S.rs || borSl S.ps) S.ps vs obs fun xs bs d sn => bif disj sn bs && nodup bs && allRw S.ps then (S.f k xs).bind fun y =>
    match freshTup S.rs y.1 fresh with
    | (rs, d', k') => bif Nat.ble k' (fresh + 4) then
        match backD S.ps y.2 bs with
        | (d'', iv) => K (one rs) (d ++ (d'' ++ d')) (sn ++ bs) iv
      else none
  else none

def kindOf (C : Ctx) (t : TypeId) : TK := match get t C.ti with | some i => i.k | none => .other

def binK (op : BinOp) (a b : V) (K : V → Option R) : Option R :=
  match op, a, b with
  | .shl, .int k x, .int _ y => if y < 0 then none else K (.int k (k.wrap (x * 2 ^ (min y.toNat k.bits))))
  | .shr, .int k x, .int _ y => if y < 0 then none else K (.int k (x.fdiv (2 ^ (min y.toNat k.bits))))
  | .add, .int k x, .int k' y => bif kbeq k k' then K (.int k (k.wrap (x + y))) else none
  | .sub, .int k x, .int k' y => bif kbeq k k' then K (.int k (k.wrap (x - y))) else none
  | .mul, .int k x, .int k' y => bif kbeq k k' then K (.int k (k.wrap (x * y))) else none
  | .quo, .int k x, .int k' y => bif kbeq k k' then if y = 0 then none else K (.int k (k.wrap (x.tdiv y))) else none
  | .rem, .int k x, .int k' y => bif kbeq k k' then if y = 0 then none else K (.int k (x.tmod y)) else none
  | .and, .int k x, .int k' y => bif kbeq k k' then K (.int k (k.wrap (BitVec.ofInt k.bits x &&& BitVec.ofInt k.bits y).toNat)) else none
  | .or, .int k x, .int k' y => bif kbeq k k' then K (.int k (k.wrap (BitVec.ofInt k.bits x ||| BitVec.ofInt k.bits y).toNat)) else none
  | .xor, .int k x, .int k' y => bif kbeq k k' then K (.int k (k.wrap (BitVec.ofInt k.bits x ^^^ BitVec.ofInt k.bits y).toNat)) else none
  | .eql, .int k x, .int k' y => bif kbeq k k' then K (.bool (x == y)) else none
  | .neq, .int k x, .int k' y => bif kbeq k k' then K (.bool (x != y)) else none
  | .lss, .int k x, .int k' y => bif kbeq k k' then K (.bool (decide (x < y))) else none
  | .leq, .int k x, .int k' y => bif kbeq k k' then K (.bool (decide (x ≤ y))) else none
  | .gtr, .int k x, .int k' y => bif kbeq k k' then K (.bool (decide (x > y))) else none
  | .geq, .int k x, .int k' y => bif kbeq k k' then K (.bool (decide (x ≥ y))) else none
  | _, _, _ => none

/-- '==' and '!=' of bools, and of pointers against nil. -/
def eqK (C : Ctx) (op : BinOp) (t : TypeId) (a b : V) (K : V → Option R) : Option R :=
  match kindOf C t, op, a, b with
  | .bool, .eql, .bool x, .bool y => K (.bool (x == y))
  | .bool, .neq, .bool x, .bool y => K (.bool (!(x == y)))
  | .ptr _, .eql, .nilp, .nilp => K (.bool true)
  | .ptr _, .neq, .nilp, .nilp => K (.bool false)
  | .ptr _, .eql, .hp .., .nilp => K (.bool false)
  | .ptr _, .eql, .nilp, .hp .. => K (.bool false)
  | .ptr _, .neq, .hp .., .nilp => K (.bool true)
  | .ptr _, .neq, .nilp, .hp .. => K (.bool true)
  | _, _, _, _ => none

/-- '==' of aggregates of numbers and bools. -/
def eqFs : List V → List V → Option Bool
  | [], [] => some true
  | .int k x :: l, .int k' y :: l' => bif kbeq k k' then match eqFs l l' with
    | some b => some ((x == y) && b)
    | none => none else none
  | .bool x :: l, .bool y :: l' => match eqFs l l' with
    | some b => some ((x == y) && b)
    | none => none
  | _, _ => none

/-- Are these numbers (true) and bools (false)? -/
def kinds : List Bool → List V → Bool
  | [], [] => true
  | true :: ks, .int _ _ :: l => kinds ks l
  | false :: ks, .bool _ :: l => kinds ks l
  | _, _ => false

def kinds1 (ks : List Bool) (l : List V) : Bool :=
  match ks with
  | [] => false
  | k :: ks => kinds (k :: ks) l

def unK (op : UnOp) (a : V) (K : V → Option R) : Option R :=
  match op, a with
  | .neg, .int k n => K (.int k (k.wrap (0 - n)))
  | .not, .bool b => K (.bool !b)
  | _, _ => none

def lenOf : V → Option Int
  | .sl _ l => some l.length
  | .hs _ _ n _ => some n
  | .nils => some 0
  | _ => none

def sliceK (x : V) (lo hi mx : Option V) (K : V → Option R) : Option R :=
  match x, lo, hi, mx with
  | x, none, none, none => K x
  | .sl τ l, some (.int _ a), none, none => if 0 ≤ a ∧ a ≤ l.length then K (.sl τ (l.drop a.toNat)) else none
  | .sl τ l, none, some (.int _ b), none => if 0 ≤ b ∧ b ≤ l.length then K (.sl τ (l.take b.toNat)) else none
  | .sl τ l, some (.int _ a), some (.int _ b), none => if 0 ≤ a ∧ a ≤ b ∧ b ≤ l.length then K (.sl τ ((l.drop a.toNat).take (b.toNat - a.toNat))) else none
  | .hs r off n _, some (.int _ a), none, none => if 0 ≤ a ∧ a ≤ n then K (.hs r (offAdd off a.toNat) (n - a.toNat) false) else none
  | .hs r off n _, none, some (.int _ b), none => if 0 ≤ b ∧ b ≤ n then K (.hs r off b.toNat false) else none
  | .hs r off n _, some (.int _ a), some (.int _ b), none => if 0 ≤ a ∧ a ≤ b ∧ b ≤ n then K (.hs r (offAdd off a.toNat) (b.toNat - a.toNat) false) else none
  | _, _, _, _ => none

def mm (isMax : Bool) (x y : Int) : Int := match isMax with
  | true => if y > x then y else x
  | false => if y < x then y else x

def minMaxFrom (isMax : Bool) (k : IntKind) : Int → List V → Option V
  | x, [] => some (.int k x)
  | x, .int k' y :: l => bif kbeq k k' then minMaxFrom isMax k (mm isMax x y) l else none
  | _, _ => none

def minMax (isMax : Bool) : List V → Option V
  | .int k x :: l => minMaxFrom isMax k x l
  | _ => none

/-- No aggregate, no function. -/
def leafy : V → Bool
  | .agg _ => false
  | .tup _ => false
  | .fn _ _ => false
  | .ow _ _ => false
  | .bx _ _ => false
  | .undef => false
  | _ => true

def leafies : List V → Bool
  | [] => true
  | v :: l => leafy v && leafies l

/-- Fields laid into an aggregate. -/
def fillAgg (fs : List (Nat × Nat)) : List (Nat × V) → List V → Option (List V)
  | [], cs => some cs
  | (f, v) :: l, cs => match fs[f]? with
    | some (off, n) => bif Nat.beq v.fields.length n && leafies v.fields && Nat.ble (off + n) cs.length then fillAgg fs l (setAt off v.fields cs) else none
    | none => none

/-- Parts numbered from n on, one behind the other. -/
def dense : Nat → List (Nat × V) → Bool
  | _, [] => true
  | n, (i, _) :: ps => Nat.beq i n && dense (n + 1) ps

def partsK (τ : Ty) : List (Nat × V) → List (Nat × Ob) → (List τ.den → Delta → Option R) → Option R
  | [], _, K => K [] []
  | (_, v) :: ps, obs, K => restsK v.fields obs fun fs d => match τ.ofAll fs with
    | some x => partsK τ ps (applyD d obs) fun xs d' => K (x :: xs) (d ++ d')
    | none => none

def elemOf (C : Ctx) (t : TypeId) : Option (TypeId × Nat × Ty × List V) :=
  match kindOf C t with
  | .slice e => match get e C.ti, get e C.ety with
    | some i, some τ => bif Nat.beq i.size τ.size && Nat.blt 0 i.bytes then some (e, i.bytes, τ, i.zero) else none
    | _, _ => none
  | _ => none

/-- Are the cells of t's elements those of τ? -/
def szOk (C : Ctx) (t : TypeId) (τ : Ty) : Bool :=
  match kindOf C t with
  | .slice e => match get e C.ti with
    | some i => Nat.beq i.size τ.size
    | none => false
  | _ => false

/-- What append takes from the objects. -/
def takeK (obs : List (Nat × Ob)) (r : Ref) (w : Bool) (K : Delta → Option R) : Option R :=
  match r.path, w with
  | [], _ => match get r.root obs with
    | some _ => K [(r.root, none)]
    | none => none
  | [(0, j)], true => match get r.root obs with
    | some (.box t fs) => K [(r.root, some (.box t (setAt j [.undef] fs)))]
    | _ => none
  | _, _ => none

/-- What append puts behind. -/
def moreK (obs : List (Nat × Ob)) (τ : Ty) (x : V) (K : List τ.den → Delta → List Nat → Option R) : Option R :=
  match x with
  | .nils => K [] [] []
  | .hs ⟨k, []⟩ 0 _ true => match get k obs with
    | some (.arr τ' l') => if h : Ty.beq τ' τ = true then K (castL h l') (match τ.plain with | true => [] | false => [(k, none)]) [k] else none
    | _ => none
  | x => readSl obs x fun τ' l' rd => if h : Ty.beq τ' τ = true then bif τ.plain then K (castL h l') [] rd else none else none

/-- append(s, x). -/
def appendK (C : Ctx) (t : TypeId) (fresh : Nat) (s x : V) (obs : List (Nat × Ob)) (K : OpK R) : Option R :=
  match elemOf C t with
  | none => none
  | some (_, bytes, τ, _) =>
    match s with
    | .nils => moreK obs τ x fun l d rd => if l.length * bytes ≤ 140737488355328 then K (.hs ⟨fresh, []⟩ 0 l.length true) (d ++ [(fresh, some (.arr τ l))]) rd [] else none
    | .hs r off n w => atRef obs r fun
      | .arr τ' l' => if h : Ty.beq τ' τ = true then moreK obs τ x fun l d rd =>
          if (subL (castL h l') off n w ++ l).length * bytes ≤ 140737488355328 then
            takeK (applyD d obs) r w fun d' => K (.hs ⟨fresh, []⟩ 0 (subL (castL h l') off n w ++ l).length true) (d ++ (d' ++ [(fresh, some (.arr τ (subL (castL h l') off n w ++ l)))])) (r.root :: rd) []
          else none else none
      | _ => none
    | _ => none

def notUndef (v : V) (K : V → Option R) : Option R :=
  match v with
  | .undef => none
  | v => K v

def isOwned : V → Bool
  | .ow _ _ => true
  | .bx _ _ => true
  | _ => false

def isObj (v : V) : Bool :=
  match v with
  | .nils => true
  | v => isOwned v

/-- The places among those that are written at which something owned now lies. -/
def placesOf (r : Ref) (i : Nat) : Nat → List V → List (Ref × Bool)
  | _, [] => []
  | j, v :: vs => bif isObj v then (⟨r.root, r.path ++ [(i, j)]⟩, true) :: placesOf r i (j + 1) vs else placesOf r i (j + 1) vs

def opK (C : Ctx) (k : Nat) (tm : List (Nat × V)) (obs : List (Nat × Ob)) (fresh : Nat) (o : Oper) (K : OpK R) : Option R :=
  let ρ := opnd tm
  match o.op with
  | .move x | .assign x => notUndef (ρ x) fun v => K v [] [] []
  | .pick c a b => match ρ c with
    | .bool c => bif c then notUndef (ρ a) (fun v => K v [] [] []) else notUndef (ρ b) (fun v => K v [] [] [])
    | _ => none
  | .alloc e => match get e C.ti with
    | some i => K (.hp ⟨fresh, []⟩ 0 0) [(fresh, some (.box (get e C.ety) i.zero))] [] []
    | none => none
  | .box e x => restsK (ρ x).fields obs fun fs d => K (.hp ⟨fresh, []⟩ 0 0) (d ++ [(fresh, some (.box (get e C.ety) fs))]) [] []
  | .build t parts => match get t C.ti with
    | some i => match i.k with
      | .struct fs => match fillAgg fs (parts.toList.map fun p => (p.1, ρ p.2)) i.zero with
        | some cs => K (.agg cs) [] [] []
        | none => none
      | _ => none
    | none => none
  | .buildSlice t n parts => match n with
    | 0 => match elemOf C t, parts.toList with
      | some _, [] => K .nils [] [] []
      | _, _ => none
    | n + 1 => match elemOf C t with
      | some (_, _, τ, _) => bif !(Nat.ble ((n + 1) * τ.size) 16777216 && Nat.blt 0 τ.size && Nat.beq parts.toList.length (n + 1) && dense 0 (parts.toList.map fun p => (p.1, ρ p.2))) then none else
        partsK τ (parts.toList.map fun p => (p.1, ρ p.2)) obs fun ps d =>
          K (.hs ⟨fresh, []⟩ 0 (n + 1) true) (d ++ [(fresh, some (.arr τ ps))]) [] []
      | none => none
  | .load t a => match get t C.ti with
    | none => none
    | some i => match ρ a with
      | .hp r e j => atRef obs r fun ob => match i.k with
        | .struct _ => ob.leavesK e j i.size fun vs => K (.agg (views r e j vs)) [] [r.root] []
        | .other => none
        | _ => ob.leafK e j fun v => notUndef v fun v => K (view r e j v) [] [r.root] []
      | .ip τ x j => bif !τ.plain then none else match i.k with
        | .struct _ => bif Nat.blt 0 i.size && Nat.ble (j + i.size) τ.size then K (.agg (((τ.leaves x).drop j).take i.size)) [] [] [] else none
        | .other => none
        | _ => match (τ.leaves x)[j]? with
          | some v => K v [] [] []
          | none => none
      | _ => none
  | .store t a x => match get t C.ti with
    | none => none
    | some i => match ρ a, ρ x with
      | .hp r e j, v => restsK v.fields obs fun fs d => bif Nat.beq fs.length i.size && Nat.blt 0 i.size then
          match get r.root (applyD d obs) with
          | some ob => Ob.updK r.path ob (fun o K' => o.writeK e j fs K') fun ob' => K .undef (d ++ [(r.root, some ob')]) [r.root] (placesOf r e j fs)
          | none => none else none
      | _, _ => none
  | .nilCheck x => match ρ x with
    | .hp r i j => K (.hp r i j) [] [] []
    | .ip τ x j => K (.ip τ x j) [] [] []
    | _ => none
  | .binOp op t x y _ => match ρ x with
    | .int k x => binK op (.int k x) (ρ y) fun v => K v [] [] []
    | .agg a => match ρ y, get t C.ti with
      | .agg b, some i => bif kinds1 i.eq a then match op, eqFs a b with
        | .eql, some c => K (.bool c) [] [] []
        | .neq, some c => K (.bool !c) [] [] []
        | _, _ => none else none
      | _, _ => none
    | a => eqK C op t a (ρ y) fun v => K v [] [] []
  | .unOp op _ x => unK op (ρ x) fun v => K v [] [] []
  | .convert s t x => match kindOf C s, kindOf C t, ρ x with
    | .int _, .int k, .int _ n => K (.int k (k.wrap n)) [] [] []
    | _, _, _ => none
  | .makeSlice t l c => match elemOf C t, ρ l, ρ c with
    | some (_, bytes, τ, zero), .int _ l, .int _ c => match τ.ofAll zero with
      | some z => if 0 ≤ l ∧ l ≤ c ∧ c * bytes ≤ 140737488355328 then K (.hs ⟨fresh, []⟩ 0 l.toNat true) [(fresh, some (.arr τ (List.replicate l.toNat z)))] [] [] else none
      | none => none
    | _, _, _ => none
  | .slice t x lo hi mx => match ρ x with
    | .sl τ l => bif szOk C t τ then sliceK (.sl τ l) (lo.map ρ) (hi.map ρ) (mx.map ρ) (fun v => K v [] [] []) else none
    | .hs r off n w => atRef obs r fun
      | .arr τ _ => bif szOk C t τ then sliceK (.hs r off n w) (lo.map ρ) (hi.map ρ) (mx.map ρ) (fun v => K v [] [r.root] []) else none
      | _ => none
    | _ => none
  | .fieldAddr s x f => match kindOf C s, ρ x with
    | .struct fs, .hp r i j => match fs[f]? with
      | some (off, _) => K (.hp r i (j + off)) [] [] []
      | none => none
    | .struct fs, .ip τ x j => match fs[f]? with
      | some (off, _) => K (.ip τ x (j + off)) [] [] []
      | none => none
    | _, _ => none
  | .field s x f => match kindOf C s, ρ x with
    | .struct fs, .agg vs => match fs[f]? with
      | some (off, n) => bif Nat.ble (off + n) vs.length then match Nat.beq n 1 with
        | true => match vs[off]? with
          | some v => K v [] [] []
          | none => none
        | false => K (.agg ((vs.drop off).take n)) [] [] [] else none
      | none => none
    | _, _ => none
  | .indexAddr t x ix => match ρ x, ρ ix with
    | .sl τ l, .int _ i => bif szOk C t τ then if 0 ≤ i then (l[i.toNat]?).bind fun x => K (.ip τ x 0) [] [] [] else none else none
    | .hs r off n _, .int _ i => atRef obs r fun
      | .arr τ _ => bif szOk C t τ then if 0 ≤ i ∧ i < n then K (.hp r (offAdd off i.toNat) 0) [] [r.root] [] else none else none
      | _ => none
    | _, _ => none
  | .extract x i => match ρ x with
    | .tup vs => match vs[i]? with
      | some v => K v [] [] []
      | none => none
    | _ => none
  | .makeFunc (.func f) first caps => match first.toList with
    | [] => bif leafies (caps.toList.map ρ) then K (.fn f (caps.toList.map ρ)) [] [] [] else none
    | _ => none
  | .call c => match c.callee with
    | .value f => match ρ f with
      | .fn f caps => match findF f C.env with
        | some S => callK S k fresh (c.args.toList.map ρ ++ caps) obs K
        | none => none
      | _ => none
    | .builtin .len => match c.args.toList, c.argTypes.toList with
      | [x], t :: _ => match kindOf C t, lenOf (ρ x) with
        | .slice _, some n => K (.int .i64 n) [] [] []
        | _, _ => none
      | _, _ => none
    | .builtin .append => match c.args.toList.map ρ, c.argTypes.toList with
      | [s, x], [t, tx] => match kindOf C tx with
        | .slice _ => appendK C t fresh s x obs K
        | _ => none
      | _, _ => none
    | .builtin .max => match minMax true (c.args.toList.map ρ) with
      | some v => K v [] [] []
      | none => none
    | .builtin .min => match minMax false (c.args.toList.map ρ) with
      | some v => K v [] [] []
      | none => none
    | _ => none
  | _ => none

/-! ### A region -/

def keysOf : Delta → List Nat
  | [] => []
  | (k, _) :: d => k :: keysOf d

/-- May an operation that looks at rd and turns d stand beside those before it that don't wait for it? before: a mask of those for which it waits. -/
def beside (mask : Nat) (rd wr : List Nat) : List (Nat × List Nat × List Nat) → Bool
  | [] => true
  | (j, rd', wr') :: l => (mask.testBit j || (disj wr' rd && disj wr rd' && disj wr wr')) && beside mask rd wr l

def putDst (dst : Option Nat) (v : V) (tm : List (Nat × V)) : List (Nat × V) :=
  match dst with
  | some d => put d v tm
  | none => tm

def pinned (C : Ctx) (dst : Option Nat) : Bool :=
  match dst with
  | some d => mem d C.pin || !Nat.blt d C.nt
  | none => false

def refsRoot (k : Nat) : V → Bool
  | .hs r _ _ _ => Nat.beq r.root k
  | .hp r _ _ => Nat.beq r.root k
  | _ => false

def refsAny (k : Nat) : List V → Bool
  | [] => false
  | v :: l => refsRoot k v || refsAny k l

def refsA (k : Nat) : V → Bool
  | .agg fs => refsAny k fs
  | .fn _ caps => refsAny k caps
  | v => refsRoot k v

def refsT (k : Nat) : List V → Bool
  | [] => false
  | v :: l => refsA k v || refsT k l

def refs (k : Nat) : V → Bool
  | .tup vs => refsT k vs
  | v => refsA k v

def keepOnly (keep : List Nat) : List (Nat × V) → List (Nat × V)
  | [] => []
  | (t, v) :: l => bif mem t keep then (t, v) :: keepOnly keep l else keepOnly keep l

/-- Does the way p lead over q? The elements' numbers are left out of it. -/
def over : List (Nat × Nat) → List (Nat × Nat) → Bool → Bool
  | _ :: _, [], _ => true
  | [], [], e => e
  | [], _ :: _, _ => false
  | (_, j) :: p, (_, j') :: q, e => Nat.beq j j' && over p q e

def overAny (r : Ref) : List (Ref × Bool) → Bool
  | [] => false
  | (q, e) :: l => (Nat.beq r.root q.root && over r.path q.path e) || overAny r l

def leads (iv : List (Ref × Bool)) : V → Bool
  | .hs r _ _ _ => overAny r iv
  | .hp r _ _ => overAny r iv
  | _ => false

def leadsAny (iv : List (Ref × Bool)) : List V → Bool
  | [] => false
  | v :: l => leads iv v || leadsAny iv l

def leadsA (iv : List (Ref × Bool)) : V → Bool
  | .agg fs => leadsAny iv fs
  | .fn _ fs => leadsAny iv fs
  | v => leads iv v

def leadsT (iv : List (Ref × Bool)) : List V → Bool
  | [] => false
  | v :: l => leadsA iv v || leadsT iv l

def leadsV (iv : List (Ref × Bool)) : V → Bool
  | .tup fs => leadsT iv fs
  | v => leadsA iv v

/-- A value, unless it leads over such a place. -/
def dropV (iv : List (Ref × Bool)) (v : V) : V := bif leadsV iv v then .undef else v

/-- The slots, those forgotten that lead over such places. -/
def dropOver (iv : List (Ref × Bool)) : List (Nat × V) → List (Nat × V)
  | [] => []
  | (t, v) :: l => (t, dropV iv v) :: dropOver iv l

def dropIv (iv : List (Ref × Bool)) (tm : List (Nat × V)) : List (Nat × V) :=
  match iv with
  | [] => tm
  | _ => dropOver iv tm

/-- The objects into which a value leads by a way of its own. -/
def wayRoot : V → List Nat
  | .hs ⟨k, _ :: _⟩ _ _ _ => [k]
  | .hp ⟨k, _ :: _⟩ _ _ => [k]
  | _ => []

def wayRoots : List V → List Nat
  | [] => []
  | v :: l => wayRoot v ++ wayRoots l

def wayRootsA : V → List Nat
  | .agg fs => wayRoots fs
  | .fn _ fs => wayRoots fs
  | v => wayRoot v

def wayRootsT : List V → List Nat
  | [] => []
  | v :: l => wayRootsA v ++ wayRootsT l

def wayRootsV : V → List Nat
  | .tup fs => wayRootsT fs
  | v => wayRootsA v

def opndRoots (tm : List (Nat × V)) : List Operand → List Nat
  | [] => []
  | x :: l => wayRootsV (opnd tm x) ++ opndRoots tm l

/-- No place with an empty way is closed itself. -/
def ivOk : List (Ref × Bool) → Bool
  | [] => true
  | (r, e) :: l => (match r.path with | [] => !e | _ => true) && ivOk l

def regionK (C : Ctx) (k : Nat) (ops : Array Oper) (draw : Bool) (masks : List Nat) (base : Nat) :
    List Oper → Nat → List (Nat × List Nat × List Nat) → List (Nat × V) → List (Nat × Ob) → (St → Option R) → Option R
  | [], _, _, tm, obs, K => K ⟨keepOnly C.keep tm, obs, base + 4 * ops.size⟩
  | o :: rest, i, log, tm, obs, K =>
    bif pinned C o.dst then none else
    let run (tm : List (Nat × V)) : Option R := opK C k tm obs (base + 4 * i) o fun v d rd iv =>
      match draw with
      | true => bif beside (masks.getD i 0) (rd ++ opndRoots tm o.op.operands.toList) (keysOf d) log && ivOk iv then
          regionK C k ops draw masks base rest (i + 1) ((i, rd ++ opndRoots tm o.op.operands.toList, keysOf d) :: log) (putDst o.dst v (dropIv iv tm)) (applyD d obs) K else none
      | false => regionK C k ops draw masks base rest (i + 1) log (putDst o.dst v (dropIv iv tm)) (applyD d obs) K
    match o.guard with
    | none => run tm
    | some (j, want) => match (ops[j]?).bind (·.dst) with
      | some t => match get t tm, want with
        | some (.bool b), true => bif b then run (put t (.bool true) tm) else regionK C k ops draw masks base rest (i + 1) log (putDst o.dst (.tup []) (put t (.bool false) tm)) obs K
        | some (.bool b), false => bif b then regionK C k ops draw masks base rest (i + 1) log (putDst o.dst (.tup []) (put t (.bool true) tm)) obs K else run (put t (.bool false) tm)
        | some (.tup []), _ => regionK C k ops draw masks base rest (i + 1) log (putDst o.dst (.tup []) tm) obs K
        | _, _ => none
      | none => none

def maskOf (acc : List Nat) : List Edge → Nat
  | [] => 0
  | e :: l => bif Region.binds .any e then (2 ^ e.on ||| acc.getD e.on 0) ||| maskOf acc l else maskOf acc l

def masksGo : List Nat → List Oper → List Nat
  | acc, [] => acc
  | acc, o :: l => masksGo (acc ++ [maskOf acc o.after.toList]) l

/-- For each operation those for which it waits. -/
def masksOf (ops : Array Oper) : List Nat := masksGo [] ops.toList

def backEs (i : Nat) : List Edge → Bool
  | [] => true
  | e :: l => (!Region.binds .any e || Nat.blt e.on i) && backEs i l

/-- An operation waits for those before it alone. -/
def backOk : Nat → List Oper → Bool
  | _, [] => true
  | i, o :: l => backEs i o.after.toList && backOk (i + 1) l

/-- Two operations of which neither waits for the other touch no slot together. -/
def slotsOk (ops : Array Oper) (masks : List Nat) : Bool :=
  backOk 0 ops.toList && (List.range ops.size).all fun j => (List.range j).all fun i =>
    (masks.getD j 0).testBit i || (match ops[i]?, ops[j]? with
      | some x, some y => x.apart ops y
      | _, _ => false)

/-! ### Loops -/
end

inductive SP where
  | val (τ : Ty)
  | ptr (i : Nat)
  | arr (i : Nat)

inductive RP where
  | box (t : Option Ty) (ts : List Ty)
  | arr (τ : Ty)

abbrev RP.den : RP → Type
  | .box _ ts => Tys ts
  | .arr τ => List τ.den

abbrev SPs : List (Nat × SP) → Type
  | [] => Unit
  | (_, .val τ) :: l => τ.den × SPs l
  | (_, .ptr _) :: l => SPs l
  | (_, .arr _) :: l => SPs l

abbrev RPs : List RP → Type
  | [] => Unit
  | p :: l => p.den × RPs l

structure Patt where
  slots : List (Nat × SP)
  roots : List RP

abbrev Patt.den (p : Patt) : Type := SPs p.slots × RPs p.roots

def boxOf : (ts : List Ty) → Tys ts → List V
  | [], _ => []
  | t :: ts, x => t.leaves x.1 ++ boxOf ts x.2

def RP.ob : (p : RP) → p.den → Ob
  | .box t ts, x => .box t (boxOf ts x)
  | .arr τ, l => .arr τ l

def RP.len : (p : RP) → p.den → Nat
  | .box _ _, _ => 0
  | .arr _, l => l.length

def rootLen : (l : List RP) → RPs l → Nat → Nat
  | [], _, _ => 0
  | p :: _, x, 0 => p.len x.1
  | _ :: l, x, i + 1 => rootLen l x.2 i

def buildS (rs : List RP) (ys : RPs rs) (base : Nat) : (l : List (Nat × SP)) → SPs l → List (Nat × V)
  | [], _ => []
  | (t, .val τ) :: l, x => (t, τ.toV x.1) :: buildS rs ys base l x.2
  | (t, .ptr i) :: l, x => (t, .hp ⟨base + i, []⟩ 0 0) :: buildS rs ys base l x
  | (t, .arr i) :: l, x => (t, .hs ⟨base + i, []⟩ 0 (rootLen rs ys i) true) :: buildS rs ys base l x

def buildR : Nat → (l : List RP) → RPs l → List (Nat × Ob)
  | _, [], _ => []
  | k, p :: l, x => (k, p.ob x.1) :: buildR (k + 1) l x.2

/-- Which object stands for a root of a pattern; none: an empty one. -/
abbrev RMap := List (Nat × Option Nat)

def bindR (i k : Nat) (m : RMap) : Option RMap :=
  match get i m with
  | none => some ((i, some k) :: m)
  | some (some k') => bif Nat.beq k k' then some m else none
  | some none => none

def matchS : (l : List (Nat × SP)) → List (Nat × V) → RMap → Option (SPs l × RMap)
  | [], _, m => some ((), m)
  | (t, .val τ) :: l, tm, m => match get t tm with
    | some v => match (bif τ.plain then τ.ofV v else none) with
      | some x => match matchS l tm m with
        | some (xs, m') => some ((x, xs), m')
        | none => none
      | none => none
    | none => none
  | (t, .ptr i) :: l, tm, m => match get t tm with
    | some (.hp ⟨k, []⟩ 0 0) => match bindR i k m with
      | some m' => matchS l tm m'
      | none => none
    | _ => none
  | (t, .arr i) :: l, tm, m => match get t tm with
    | some (.hs ⟨k, []⟩ 0 _ true) => match bindR i k m with
      | some m' => matchS l tm m'
      | none => none
    | some .nils => match get i m with
      | none => matchS l tm ((i, none) :: m)
      | _ => none
    | _ => none

def tysOf : (ts : List Ty) → List V → Option (Tys ts)
  | [], [] => some ()
  | t :: ts, vs => match t.ofLeaves vs with
    | some (x, vs') => match tysOf ts vs' with
      | some xs => some (x, xs)
      | none => none
    | none => none
  | _, _ => none

def RP.ofOb : (p : RP) → Option Ob → Option p.den
  | .box _ ts, some (.box _ fs) => tysOf ts fs
  | .arr τ, some (.arr τ' l) => if h : Ty.beq τ' τ = true then some (castL h l) else none
  | .arr _, none => some []
  | _, _ => none

/-- A root, out of the object that stands for it. -/
def RP.atK (p : RP) (obs : List (Nat × Ob)) : Option Nat → Option p.den
  | none => p.ofOb none
  | some k => match get k obs with
    | some o => p.ofOb (some o)
    | none => none

def matchR (m : RMap) (obs : List (Nat × Ob)) : Nat → (l : List RP) → Option (RPs l)
  | _, [] => some ()
  | i, p :: l => match get i m with
    | none => none
    | some k => match p.atK obs k with
      | some x => match matchR m obs (i + 1) l with
        | some xs => some (x, xs)
        | none => none
      | none => none

/-- The objects that stand for roots. -/
def mRoots : RMap → List Nat
  | [] => []
  | (_, some k) :: m => k :: mRoots m
  | (_, none) :: m => mRoots m

/-- The slots lead to roots of the pattern. -/
def okS (n : Nat) : List (Nat × SP) → Bool
  | [] => true
  | (_, .val _) :: l => okS n l
  | (_, .ptr i) :: l => Nat.blt i n && okS n l
  | (_, .arr i) :: l => Nat.blt i n && okS n l

def Patt.mtch (p : Patt) (S : St) : Option (p.den × RMap) :=
  bif okS p.roots.length p.slots then match matchS p.slots S.tm [] with
  | some (xs, m) => bif nodup (mRoots m) then match matchR m S.ob 0 p.roots with
    | some ys => some ((xs, ys), m)
    | none => none
    else none
  | none => none
  else none

def Patt.build (p : Patt) (base : Nat) (x : p.den) : St :=
  ⟨buildS p.roots x.2 base p.slots x.1, buildR base p.roots x.2, base + p.roots.length⟩

def refsM (v : V) : RMap → Bool
  | [] => false
  | (_, some k) :: m => refs k v || refsM v m
  | (_, none) :: m => refsM v m

def frameS (dsts : List Nat) (m : RMap) : List (Nat × V) → List (Nat × V)
  | [] => []
  | (t, v) :: l => bif mem t dsts then frameS dsts m l else (t, bif refsM v m then .undef else v) :: frameS dsts m l

def inM (k : Nat) : RMap → Bool
  | [] => false
  | (_, some j) :: m => bif Nat.beq j k then true else inM k m
  | (_, none) :: m => inM k m

def frameR (m : RMap) : List (Nat × Ob) → List (Nat × Ob)
  | [] => []
  | (k, o) :: l => bif inM k m then frameR m l else (k, o) :: frameR m l

/-- The slots that code writes. -/
def opsDsts : List Oper → List Nat
  | [] => []
  | o :: l => match o.dst with
    | some d => d :: opsDsts l
    | none => opsDsts l

def dsts : Code → List Nat
  | .region _ ops _ => opsDsts ops.toList
  | .seq a b => dsts a ++ dsts b
  | .cond _ a b => dsts a ++ dsts b
  | .block _ c => dsts c
  | .loop c => dsts c
  | .scope c => dsts c
  | .rangeFunc _ _ a b => dsts a ++ dsts b
  | _ => []

inductive EX where
  | normal | ex (id : Nat) | ret

def EX.exit : EX → Exit
  | .normal => .normal
  | .ex id => .exit id
  | .ret => .ret

def EX.of : Exit → Option EX
  | .normal => some .normal
  | .exit id => some (.ex id)
  | .ret => some .ret
  | _ => none

def EX.beq : EX → EX → Bool
  | .normal, .normal => true
  | .ret, .ret => true
  | .ex a, .ex b => Nat.beq a b
  | _, _ => false

/-- The ways out of a piece of code. -/
abbrev Outs : List (EX × Patt) → Type
  | [] => Empty
  | [(_, p)] => p.den
  | (_, p) :: l => p.den ⊕ Outs l

def outsMatch : (l : List (EX × Patt)) → EX → St → Option (Outs l)
  | [], _, _ => none
  | [(e, p)], e', S => bif e.beq e' then match p.mtch S with
      | some (x, _) => some x
      | none => none
    else none
  | (e, p) :: q :: l, e', S => bif e.beq e' then match p.mtch S with
      | some (x, _) => some (.inl x)
      | none => none
    else match outsMatch (q :: l) e' S with
      | some y => some (.inr y)
      | none => none

def outsBuild : (l : List (EX × Patt)) → Nat → Outs l → EX × St
  | [], _, y => nomatch y
  | [(e, p)], b, y => (e, p.build b y)
  | (e, p) :: _ :: _, b, .inl x => (e, p.build b x)
  | _ :: q :: l, b, .inr y => outsBuild (q :: l) b y

section
variable {R : Type}

/-- A loop that has been told: how it begins, how it ends. -/
structure LC (R : Type) where
  at_ : Nat
  inn : Patt
  outs : List (EX × Patt)
  run : inn.den → (Outs outs → Option R) → Option R

def findL (n : Nat) : List (LC R) → Option (LC R)
  | [] => none
  | c :: l => bif Nat.beq c.at_ n then some c else findL n l

def loops : Code → Nat
  | .seq a b => loops a + loops b
  | .cond _ a b => loops a + loops b
  | .block _ c => loops c
  | .loop c => loops c + 1
  | .scope c => loops c
  | _ => 0

def ev (C : Ctx) (k : Nat) (L : List (LC R)) : Code → Nat → St → (Exit → St → Option R) → Option R
  | .skip, _, S, K => K .normal S
  | .region _ ops draw, _, S, K =>
    match draw with
    | false => regionK C k ops false [] S.nx ops.toList 0 [] S.tm S.ob fun S' => K .normal S'
    | true => bif slotsOk ops (masksOf ops) then regionK C k ops true (masksOf ops) S.nx ops.toList 0 [] S.tm S.ob (fun S' => K .normal S') else none
  | .seq a b, n, S, K => ev C k L a n S fun
    | .normal, S' => ev C k L b (n + loops a) S' K
    | e, S' => K e S'
  | .cond c a b, n, S, K => match opnd S.tm c with
    | .bool x => bif x then ev C k L a n S K else ev C k L b (n + loops a) S K
    | _ => none
  | .block id c, n, S, K => ev C k L c n S fun
    | .exit id', S' => bif Nat.beq id' id then K .normal S' else K (.exit id') S'
    | e, S' => K e S'
  | .loop c, n, S, K => match findL n L with
    | some lc => match lc.inn.mtch S with
      | some (x, m) => lc.run x fun y => match outsBuild lc.outs S.nx y with
        | (e, T) => K e.exit ⟨T.tm ++ frameS (dsts c) m S.tm, T.ob ++ frameR m S.ob, T.nx⟩
      | none => none
    | none => none
  | .exit id, _, S, K => K (.exit id) S
  | .ret, _, S, K => K .ret S
  | _, _, _, _ => none

def nthLoop : Code → Nat → Option Code
  | .seq a b, n => bif Nat.blt n (loops a) then nthLoop a n else nthLoop b (n - loops a)
  | .cond _ a b, n => bif Nat.blt n (loops a) then nthLoop a n else nthLoop b (n - loops a)
  | .block _ c, n => nthLoop c n
  | .loop c, 0 => some c
  | .loop c, n + 1 => nthLoop c n
  | .scope c, n => nthLoop c n
  | _, _ => none

def loopOf (fn : Func) (n : Nat) : Code := match fn.body with
  | some c => (nthLoop c n).getD .skip
  | none => .skip

/-- One round of a loop. -/
def evRound (C : Ctx) (k : Nat) (L : List (LC R)) (inn : Patt) (outs : List (EX × Patt)) (c : Code) (n : Nat) (x : inn.den) (Kc : inn.den → Option R) (Ke : Outs outs → Option R) : Option R :=
  ev C k L c n (inn.build 0 x) fun
    | .normal, S => match inn.mtch S with
      | some (x', _) => Kc x'
      | none => none
    | e, S => match EX.of e with
      | some e => match outsMatch outs e S with
        | some y => Ke y
        | none => none
      | none => none

/-! ### A function -/
def startA : (ps : List PT) → Args ps → Nat → Nat → List (Nat × V) × List (Nat × Ob)
  | [], _, _, _ => ([], [])
  | .imm τ :: ps, x, t, r => match startA ps x.2 (t + 1) r with
    | (tm, ob) => ((t, τ.toV x.1) :: tm, ob)
  | .bor τ _ :: ps, x, t, r => match startA ps x.2 (t + 1) (r + 1) with
    | (tm, ob) => ((t, .hp ⟨r, []⟩ 0 0) :: tm, (r, .box (some τ) (τ.leaves x.1)) :: ob)

def borrowed : List PT → Nat
  | [] => 0
  | .imm _ :: ps => borrowed ps
  | .bor _ _ :: ps => borrowed ps + 1

/-- Does a variable of this kind hold what τ tells? -/
def cellOk : TK → Ty → Bool
  | .struct _, τ => τ.isA
  | .other, _ => false
  | _, τ => !τ.isA

/-- The results, out of their slots or cells. -/
def resultsK (C : Ctx) (f : List ResultVar) : (rs : List Ty) → List (Nat × V) → List (Nat × Ob) → (Tys rs → List (Nat × Ob) → Option R) → Option R
  | [], _, obs, K => match f with
    | [] => K () obs
    | _ => none
  | τ :: rs, tm, obs, K => match f with
    | .tmp t :: f => match get t tm with
      | some v => bif likeA τ v then restsK v.fields obs fun fs d => match τ.ofAll fs with
        | some x => resultsK C f rs tm (applyD d obs) fun xs obs' => K (x, xs) obs'
        | none => none
        else none
      | none => none
    | .cell a t :: f => match get t C.ti, get a tm with
      | some i, some (.hp ⟨q, []⟩ 0 0) => match get q obs with
        | some (.box _ fs) => bif Nat.beq fs.length i.size && cellOk i.k τ then match τ.ofAll fs with
          | some x => resultsK C f rs tm (del q obs) fun xs obs' => K (x, xs) obs'
          | none => none
          else none
        | _ => none
      | _, _ => none
    | [] => none

/-- What the borrowed blocks hold at the end. -/
def updsK : (ps : List PT) → Nat → List (Nat × V) → List (Nat × Ob) → (Upds ps → Option R) → Option R
  | [], _, _, _, K => K ()
  | .imm _ :: ps, t, tm, obs, K => updsK ps (t + 1) tm obs K
  | .bor _ false :: ps, t, tm, obs, K => updsK ps (t + 1) tm obs K
  | .bor τ true :: ps, t, tm, obs, K => match get t tm with
    | some (.hp ⟨k, []⟩ 0 0) => match get k obs with
      | some (.box _ fs) => match τ.ofAll fs with
        | some x => updsK ps (t + 1) tm (del k obs) fun xs => K (x, xs)
        | none => none
      | _ => none
    | _ => none

def finish (C : Ctx) (fn : Func) (ps : List PT) (rs : List Ty) (K : Tys rs × Upds ps → Option R) : Exit → St → Option R
  | .normal, S | .ret, S => resultsK C fn.results.toList rs S.tm S.ob fun y obs => updsK ps 0 S.tm obs fun u => K (y, u)
  | _, _ => none

/-- The slots of borrowed blocks are pinned. -/
def pinsOk (C : Ctx) : Nat → List PT → Bool
  | _, [] => true
  | t, .imm _ :: ps => pinsOk C (t + 1) ps
  | t, .bor _ rw :: ps => rw && mem t C.pin && pinsOk C (t + 1) ps

def evF (C : Ctx) (k : Nat) (L : List (LC R)) (fn : Func) (ps : List PT) (rs : List Ty) (x : Args ps) (K : Tys rs × Upds ps → Option R) : Option R :=
  match fn.body with
  | some c => bif !(pinsOk C 0 ps && Nat.beq C.nt fn.ntmps && Nat.ble ps.length C.nt) then none else match startA ps x 0 0 with
    | (tm, ob) => ev C k L c 0 ⟨tm, ob, borrowed ps⟩ (finish C fn ps rs K)
  | none => none
end
end Go.Lf
