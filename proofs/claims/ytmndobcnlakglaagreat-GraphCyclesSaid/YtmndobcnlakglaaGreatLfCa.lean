import Derived.Calls
import Derived.Orders
import Derived.Below
import Derived.Deep.AppendSrc
import Derived.Laws.StructEq
import Derived.Great.FillDense
import Derived.Laws.Tables
set_option linter.unusedVariables false
namespace Go.Lf
theorem y0 {p : Prop} [Decidable p] : ¬p -> decide p = false := decide_eq_false
theorem y135 {p : Prop} [Decidable p] : p -> decide p = true := decide_eq_true
theorem y136 {α : Sort _} (a b : α) : cond true a b = a := rfl
theorem y137 {α : Sort _} (a b : α) : cond false a b = b := rfl
theorem y138 {α : Type _} {β : Type _} (a : α) (f : α -> Option β) : (some a).bind f = f a := rfl
theorem y139 (n : Nat) : (n : Int).toNat = n := rfl
abbrev y140 := @List.getElem?_eq_getElem
abbrev y143 := @Nat.eq_of_beq_eq_true
abbrev y144 := @Bool.and_eq_true
abbrev y145 := @Bool.not_true
abbrev y146 := @Classical.byContradiction
abbrev y147 := @List.drop_eq_getElem_cons
abbrev y148 := @List.length_append
abbrev y149 := @List.getElem?_eq_some_iff
abbrev y150 := @Bool.not_false
abbrev y151 := @List.mem_append
abbrev y152 := @List.drop_zero
abbrev y153 := @List.eq_nil_of_length_eq_zero
abbrev y154 := @List.length_take
abbrev y155 := @List.mem_cons_of_mem
abbrev y156 := @Array.length_toList
abbrev y157 := @List.drop_length
abbrev y158 := @List.getElem?_eq_none
abbrev y159 := @List.length_singleton
abbrev y160 := @List.getElem_mem
abbrev y161 := @List.mem_singleton
abbrev y162 := @Nat.mul_le_mul_right
abbrev y163 := @Nat.add_sub_cancel_left
abbrev y164 := @List.getD_eq_getElem?_getD
abbrev y165 := @beq_eq_false_iff_ne
abbrev y166 := @List.mem_cons
abbrev y167 := @List.length_cons
abbrev y168 := @Nat.le_of_ble_eq_true
abbrev y169 := @List.mem_cons_self
abbrev y170 := @beq_self_eq_true
abbrev y171 := @List.getElem?_append
inductive Ty where
 | int (k : IntKind)
 | bool
 | unit
 | pair (a b : Ty)
 | sl (a : Ty)
 | ow (a : Ty)
 | bx (a : Ty)
 | mp (a : Ty)
abbrev Ty.den : Ty -> Type
 | .int _ => Int
 | .bool => Bool
 | .unit => Unit
 | .pair a b => a.den × b.den
 | .sl a => List a.den
 | .ow a => List a.den
 | .bx a => a.den
 | .mp a => List (Int × a.den)
def Ty.size : Ty -> Nat
 | .unit => 0
 | .pair a b => a.size + b.size
 | _ => 1
def kbeq : IntKind -> IntKind -> Bool
 | .i8, .i8 | .i16, .i16 | .i32, .i32 | .i64, .i64 | .u8, .u8 | .u16, .u16 | .u32, .u32 | .u64, .u64 => true
 | _, _ => false
theorem q202 {a b : IntKind} (h : kbeq a b = true) : a = b := by
 cases a <;> cases b <;> first | rfl | cases h
def Ty.beq : Ty -> Ty -> Bool
 | .int k, .int k' => kbeq k k'
 | .bool, .bool => true
 | .unit, .unit => true
 | .pair a b, .pair a' b' => a.beq a' && b.beq b'
 | .sl a, .sl a' => a.beq a'
 | .ow a, .ow a' => a.beq a'
 | .bx a, .bx a' => a.beq a'
 | .mp a, .mp a' => a.beq a'
 | _, _ => false
theorem Ty.beq_eq : ∀ {a b : Ty}, Ty.beq a b = true -> a = b
 | .int k, .int k', h => by rw [q202 h]
 | .bool, .bool, _ => rfl
 | .unit, .unit, _ => rfl
 | .pair a b, .pair a' b', h => by
  have h' : (a.beq a' && b.beq b') = true := h
  rw [y144] at h'
  rw [Ty.beq_eq h'.1, Ty.beq_eq h'.2]
 | .sl a, .sl a', h => by rw [Ty.beq_eq (a := a) (b := a') h]
 | .ow a, .ow a', h => by rw [Ty.beq_eq (a := a) (b := a') h]
 | .bx a, .bx a', h => by rw [Ty.beq_eq (a := a) (b := a') h]
 | .mp a, .mp a', h => by rw [Ty.beq_eq (a := a) (b := a') h]
def Ty.plain : Ty -> Bool
 | .pair a b => a.plain && b.plain
 | .sl a => a.plain
 | .ow _ => false
 | .bx _ => false
 | .mp _ => false
 | _ => true
def castTo {a b : Ty} (h : Ty.beq a b = true) (x : a.den) : b.den := Ty.beq_eq h ▸ x
def q266 {a b : Ty} (h : Ty.beq a b = true) (x : List a.den) : List b.den := Ty.beq_eq h ▸ x
def castM {a b : Ty} (h : Ty.beq a b = true) (x : List (Int × a.den)) : List (Int × b.den) := Ty.beq_eq h ▸ x
structure Ref where
 root : Nat
 path : List (Nat × Nat)
inductive V where
 | undef
 | int (k : IntKind) (n : Int)
 | bool (b : Bool)
 | nilp
 | nils
 | sl (τ : Ty) (l : List τ.den)
 | ow (τ : Ty) (l : List τ.den)
 | bx (τ : Ty) (x : τ.den)
 | mp (τ : Ty) (l : List (Int × τ.den))
 | nilm
 | nilz
 | hz (k n : Nat)
 | agg (fs : List V)
 | tup (vs : List V)
 | ip (τ : Ty) (x : τ.den) (j : Nat)
 | hs (r : Ref) (off n : Nat) (whole : Bool)
 | hp (r : Ref) (i j : Nat)
 | hm (r : Ref)
 | fn (f : FuncId) (caps : List V)
inductive Ob where
 | box (t : Option Ty) (fs : List V)
 | arr (τ : Ty) (l : List τ.den)
 | mp (τ : Ty) (l : List (Int × τ.den))
def Ty.leaves : (τ : Ty) -> τ.den -> List V
 | .int k, n => [.int k n]
 | .bool, b => [.bool b]
 | .unit, _ => []
 | .pair a b, x => a.leaves x.1 ++ b.leaves x.2
 | .sl a, l => [.sl a l]
 | .ow a, l => [.ow a l]
 | .bx a, x => [.bx a x]
 | .mp a, l => [.mp a l]
def Ty.ofLeaf : (τ : Ty) -> V -> Option τ.den
 | .int k, .int k' n => if kbeq k' k = true then some n else none
 | .bool, .bool b => some b
 | .sl a, .sl a' l => if h : Ty.beq a' a = true then some (q266 h l) else none
 | .sl a, .ow a' l => if h : Ty.beq a' a = true then if a.plain = true then some (q266 h l) else none else none
 | .sl _, .nils => some []
 | .ow a, .ow a' l => if h : Ty.beq a' a = true then some (q266 h l) else none
 | .ow _, .nils => some []
 | .bx a, .bx a' x => if h : Ty.beq a' a = true then some (castTo (a := a') (b := a) h x) else none
 | .mp a, .mp a' l => if h : Ty.beq a' a = true then some (castM h l) else none
 | _, _ => none
def q54 {α : Type} (o : Option α) (vs : List V) : Option (α × List V) :=
 match o with
 | some x => some (x, vs)
 | none => none
def Ty.ofLeaves : (τ : Ty) -> List V -> Option (τ.den × List V)
 | .unit, vs => some ((), vs)
 | .pair a b, vs => match a.ofLeaves vs with
  | some (x, vs) => match b.ofLeaves vs with
   | some (y, vs) => some ((x, y), vs)
   | none => none
  | none => none
 | .int k, v :: vs => q54 ((Ty.int k).ofLeaf v) vs
 | .bool, v :: vs => q54 (Ty.bool.ofLeaf v) vs
 | .sl a, v :: vs => q54 ((Ty.sl a).ofLeaf v) vs
 | .ow a, v :: vs => q54 ((Ty.ow a).ofLeaf v) vs
 | .bx a, v :: vs => q54 ((Ty.bx a).ofLeaf v) vs
 | .mp a, v :: vs => q54 ((Ty.mp a).ofLeaf v) vs
 | _, _ => none
def Ty.ofAll (τ : Ty) (vs : List V) : Option τ.den :=
 match τ.ofLeaves vs with
 | some (x, []) => some x
 | _ => none
def Ty.toV : (τ : Ty) -> τ.den -> V
 | .int k, n => .int k n
 | .bool, b => .bool b
 | .sl a, l => .sl a l
 | .ow a, l => .ow a l
 | .bx a, x => .bx a x
 | .mp a, l => .mp a l
 | .unit, _ => .agg []
 | .pair a b, x => .agg (a.leaves x.1 ++ b.leaves x.2)
def V.fields : V -> List V
 | .agg fs => fs
 | v => [v]
def Ty.isA : Ty -> Bool
 | .pair _ _ => true
 | .unit => true
 | _ => false
def V.isAgg : V -> Bool
 | .agg _ => true
 | _ => false
def q251 (τ : Ty) (v : V) : Bool :=
 match τ.isA with
 | true => v.isAgg
 | false => !v.isAgg
def Ty.ofV (τ : Ty) (v : V) : Option τ.den := bif q251 τ v then τ.ofAll v.fields else none
def get {α : Type} (k : Nat) : List (Nat × α) -> Option α
 | [] => none
 | (j, x) :: l => bif Nat.beq j k then some x else get k l
def put {α : Type} (k : Nat) (x : α) (l : List (Nat × α)) : List (Nat × α) := (k, x) :: l
def del {α : Type} (k : Nat) : List (Nat × α) -> List (Nat × α)
 | [] => []
 | (j, y) :: l => bif Nat.beq j k then del k l else (j, y) :: del k l
def mem (k : Nat) : List Nat -> Bool
 | [] => false
 | j :: l => bif Nat.beq j k then true else mem k l
structure St where
 tm : List (Nat × V)
 ob : List (Nat × Ob)
 nx : Nat
def ofValue : Value -> V
 | .int k n => .int k n
 | .bool b => .bool b
 | .pointer none => .nilp
 | .slice none 0 0 => .nilz
 | .map none => .nilm
 | _ => .undef
def un : V -> V
 | .nilz => .nils
 | .hz k n => .hs ⟨k, []⟩ 0 n true
 | v => v
def q152 (tm : List (Nat × V)) : Operand -> V
 | .tmp t => (get t tm).getD .undef
 | .const v => ofValue v
 | .func f => .fn f []
 | .global _ => .undef
def opnd (tm : List (Nat × V)) (x : Operand) : V := un (q152 tm x)
def getU (k : Nat) (tm : List (Nat × V)) : Option V :=
 match get k tm with
 | some v => some (un v)
 | none => none
inductive TK where
 | int (k : IntKind)
 | bool
 | struct (fs : List (Nat × Nat))
 | slice (e : TypeId)
 | ptr (e : TypeId)
 | map (k e : TypeId)
 | other
structure TI where
 size : Nat
 bytes : Nat
 k : TK
 zero : List V
 eq : List Bool
inductive PT where
 | imm (τ : Ty)
 | bor (τ : Ty) (rw : Bool)
 | clo (g : FuncId) (n : Nat)
abbrev Args : List PT -> Type
 | [] => Unit
 | .imm τ :: ps => τ.den × Args ps
 | .bor τ _ :: ps => τ.den × Args ps
 | .clo _ _ :: ps => Args ps
abbrev Upds : List PT -> Type
 | [] => Unit
 | .imm _ :: ps => Upds ps
 | .clo _ _ :: ps => Upds ps
 | .bor τ true :: ps => τ.den × Upds ps
 | .bor _ false :: ps => Upds ps
abbrev Tys : List Ty -> Type
 | [] => Unit
 | t :: ts => t.den × Tys ts
structure FSem where
 id : FuncId
 ps : List PT
 rs : List Ty
 f : Nat -> Args ps -> Option (Tys rs × Upds ps)
def fitsA : List PT -> List V -> Bool
 | .clo g _ :: ps, .fn g' vs :: l => Nat.beq g' g && fitsA ps (vs ++ l)
 | .clo _ _ :: _, _ => false
 | _ :: ps, _ :: l => fitsA ps l
 | _, _ => true
def q687 (f : FuncId) (vs : List V) : List FSem -> Option FSem
 | [] => none
 | s :: l => bif Nat.beq s.id f && fitsA s.ps vs then some s else q687 f vs l
structure Ctx where
 ti : List (TypeId × TI)
 ety : List (TypeId × Ty)
 env : List FSem
 keep : List Nat
 pin : List Nat
 nt : Nat
 take : List Nat
def Ob.leafK {R : Type} (o : Ob) (i j : Nat) (K : V -> Option R) : Option R :=
 match o with
 | .box _ fs => match fs[j]? with
   | some v => K v
   | none => none
 | .arr τ l => (l[i]?).bind fun x => match (τ.leaves x)[j]? with
  | some v => K v
  | none => none
 | .mp _ _ => none
def Ob.leavesK {R : Type} (o : Ob) (i j n : Nat) (K : List V -> Option R) : Option R :=
 match o with
 | .box _ fs => bif Nat.ble (j + n) fs.length then K ((fs.drop j).take n) else none
 | .arr τ l => bif Nat.ble (j + n) τ.size then (l[i]?).bind fun x => K (((τ.leaves x).drop j).take n) else none
 | .mp _ _ => none
def Ob.goK {R : Type} : List (Nat × Nat) -> Ob -> (Ob -> Option R) -> Option R
 | [], o, K => K o
 | (i, j) :: p, o, K => o.leafK i j fun
  | .ow τ l => goK p (.arr τ l) K
  | .bx τ x => goK p (.box (some τ) (τ.leaves x)) K
  | .mp τ l => goK p (.mp τ l) K
  | _ => none
def q43 (j : Nat) (vs : List V) (fs : List V) : List V := fs.take j ++ vs ++ fs.drop (j + vs.length)
def Ob.writeK {R : Type} (o : Ob) (i j : Nat) (vs : List V) (K : Ob -> Option R) : Option R :=
 match o with
 | .box t fs => bif Nat.ble (j + vs.length) fs.length then K (.box t (q43 j vs fs)) else none
 | .arr τ l => (l[i]?).bind fun x => match τ.ofAll (q43 j vs (τ.leaves x)) with
  | some y => K (.arr τ (l.set i y))
  | none => none
 | .mp _ _ => none
def Ob.rest (o : Ob) (like : V) : Option V :=
 match o, like with
 | .arr τ l, .ow _ _ => some (.ow τ l)
 | .mp τ l, .mp _ _ => some (.mp τ l)
 | .box _ fs, .bx τ _ => match τ.ofAll fs with
  | some x => some (.bx τ x)
  | none => none
 | _, _ => none
def Ob.updK {R : Type} : List (Nat × Nat) -> Ob -> (Ob -> (Ob -> Option R) -> Option R) -> (Ob -> Option R) -> Option R
 | [], o, F, K => F o K
 | (i, j) :: p, o, F, K => o.leafK i j fun v =>
  match v with
  | .ow τ l => updK p (.arr τ l) F fun o' => match o'.rest v with
   | some v' => o.writeK i j [v'] K
   | none => none
  | .bx τ x => updK p (.box (some τ) (τ.leaves x)) F fun o' => match o'.rest v with
   | some v' => o.writeK i j [v'] K
   | none => none
  | .mp τ l => updK p (.mp τ l) F fun o' => match o'.rest v with
   | some v' => o.writeK i j [v'] K
   | none => none
  | _ => none
def view (r : Ref) (i j : Nat) : V -> V
 | .ow _ l => .hs ⟨r.root, r.path ++ [(i, j)]⟩ 0 l.length true
 | .bx _ _ => .hp ⟨r.root, r.path ++ [(i, j)]⟩ 0 0
 | .mp _ _ => .hm ⟨r.root, r.path ++ [(i, j)]⟩
 | v => v
def q353 (r : Ref) (i : Nat) : Nat -> List V -> List V
 | _, [] => []
 | j, v :: vs => view r i j v :: q353 r i (j + 1) vs
abbrev q32 := List (Nat × Option Ob)
def q21 : q32 -> List (Nat × Ob) -> List (Nat × Ob)
 | [], obs => obs
 | (k, some o) :: d, obs => q21 d (put k o obs)
 | (k, none) :: d, obs => q21 d (del k obs)
end Go.Lf
namespace Go.Lf
def w64 (n : Int) : Int := IntKind.i64.wrap n
def Ty.hasSl : Ty -> Bool
 | .pair a b => a.hasSl || b.hasSl
 | .sl _ => true
 | .ow a => a.hasSl
 | .bx a => a.hasSl
 | .mp a => a.hasSl
 | _ => false
def mget {α : Type} (n : Int) (z : α) : List (Int × α) -> α
 | [] => z
 | (k, x) :: l => bif n == k then x else mget n z l
def mhas {α : Type} (n : Int) : List (Int × α) -> Bool
 | [] => false
 | (k, _) :: l => n == k || mhas n l
def mset {α : Type} (n : Int) (y : α) : List (Int × α) -> List (Int × α)
 | [] => [(n, y)]
 | (k, x) :: l => bif n == k then (k, y) :: l else (k, x) :: mset n y l
def q288 (off i : Nat) : Nat := i + off
def subL {α : Type} (l : List α) (off n : Nat) (whole : Bool) : List α :=
 match off, whole with
 | 0, true => l
 | 0, false => l.take n
 | _, _ => (l.drop off).take n
def disj : List Nat -> List Nat -> Bool
 | [], _ => true
 | x :: a, b => !mem x b && disj a b
def q517 : List Nat -> Bool
 | [] => true
 | x :: a => !mem x a && q517 a
abbrev OpK (R : Type) := V -> q32 -> List Nat -> List (Ref × Bool) -> Option R
section
variable {R : Type}
def q278 (obs : List (Nat × Ob)) (r : Ref) (K : Ob -> Option R) : Option R :=
 match get r.root obs with
 | some o => o.goK r.path K
 | none => none
def q243 (obs : List (Nat × Ob)) : V -> (V -> q32 -> Option R) -> Option R
 | .int k n, K => K (.int k n) []
 | .bool b, K => K (.bool b) []
 | .nilp, K => K .nilp []
 | .nils, K => K .nils []
 | .nilm, K => K .nilm []
 | .sl τ l, K => K (.sl τ l) []
 | .hs ⟨k, []⟩ 0 _ true, K => match get k obs with
  | some (.arr τ l) => K (.ow τ l) [(k, none)]
  | _ => none
 | .hs ⟨k, [(0, j)]⟩ 0 _ true, K => match get k obs with
  | some (.box t fs) => match fs[j]? with
   | some (.ow τ l) => bif τ.plain then K (.sl τ l) [(k, some (.box t (q43 j [.sl τ l] fs)))] else none
   | _ => none
  | _ => none
 | .hp ⟨k, []⟩ 0 0, K => match get k obs with
  | some (.box (some τ) fs) => match τ.ofAll fs with
   | some x => K (.bx τ x) [(k, none)]
   | none => none
  | _ => none
 | .hm ⟨k, []⟩, K => match get k obs with
  | some (.mp τ l) => K (.mp τ l) [(k, none)]
  | _ => none
 | _, _ => none
def q235 : List V -> List (Nat × Ob) -> (List V -> q32 -> Option R) -> Option R
 | [], _, K => K [] []
 | v :: vs, obs, K => q243 obs v fun v' d => q235 vs (q21 d obs) fun vs' d' => K (v' :: vs') (d ++ d')
def q225 (obs : List (Nat × Ob)) (v : V) (K : V -> q32 -> Option R) : Option R :=
 match v with
 | .hs ⟨k, [(0, j)]⟩ 0 n true => match get k obs with
  | some (.box t fs) => match fs[j]? with
   | some (.ow τ l) => K (.ow τ l) [(k, some (.box t (q43 j [.undef] fs)))]
   | _ => none
  | _ => none
 | v => q243 obs v K
def q201 : List V -> List (Nat × Ob) -> (List V -> q32 -> Option R) -> Option R
 | [], _, K => K [] []
 | v :: vs, obs, K => q225 obs v fun v' d => q201 vs (q21 d obs) fun vs' d' => K (v' :: vs') (d ++ d')
def q430 (x : Bool) (vs : List V) (obs : List (Nat × Ob)) (K : List V -> q32 -> Option R) : Option R :=
 match x with
 | true => q201 vs obs K
 | false => q235 vs obs K
def takes (C : Ctx) : Operand -> Bool
 | .tmp t => mem t C.take
 | _ => false
def q228 : TK -> Ty -> Bool
 | .struct _, τ => τ.isA
 | .other, _ => false
 | _, τ => !τ.isA
def q309 (obs : List (Nat × Ob)) : V -> ((τ : Ty) -> List τ.den -> List Nat -> Option R) -> Option R
 | .sl τ l, K => K τ l []
 | .hs r off n w, K => q278 obs r fun
  | .arr τ l => K τ (subL l off n w) [r.root]
  | _ => none
 | _, _ => none
def q159 (obs : List (Nat × Ob)) (share : Bool) : V -> (V -> q32 -> List Nat -> Option R) -> Option R
 | .int k n, K => K (.int k n) [] []
 | .bool b, K => K (.bool b) [] []
 | .nils, K => K .nils [] []
 | .sl τ l, K => K (.sl τ l) [] []
 | .hs r off n w, K => q309 obs (.hs r off n w) fun τ l rd => bif τ.plain then
   match share, r.path with
   | false, _ => K (.sl τ l) [] rd
   | true, [] => K (.sl τ l) [(r.root, none)] rd
   | _, _ => none
  else none
 | _, _ => none
def q114 (share : Bool) : List V -> List (Nat × Ob) -> (List V -> q32 -> List Nat -> Option R) -> Option R
 | [], _, K => K [] [] []
 | v :: vs, obs, K => q159 obs share v fun v' d rd => q114 share vs (q21 d obs) fun vs' d' rd' => K (v' :: vs') (d ++ d') (rd ++ rd')
def q195 (share : Bool) : (ps : List PT) -> List V -> List (Nat × Ob) -> (Args ps -> List Nat -> q32 -> List Nat -> Option R) -> Option R
 | [], [], _, K => K () [] [] []
 | .imm τ :: ps, v :: vs, obs, K => bif τ.plain && q251 τ v then q114 share v.fields obs fun fs d sn => match τ.ofAll fs with
  | some x => q195 share ps vs (q21 d obs) fun xs bs d' sn' => K (x, xs) bs (d ++ d') (sn ++ sn')
  | none => none
  else none
 | .bor τ _ :: ps, .hp ⟨k, []⟩ 0 0 :: vs, obs, K => match get k obs with
  | some (.box _ fs) => match τ.ofAll fs with
   | some x => q195 share ps vs obs fun xs bs d' sn' => K (x, xs) (k :: bs) d' sn'
   | none => none
  | _ => none
 | .clo g n :: ps, .fn g' cs :: vs, obs, K => bif Nat.beq g' g && Nat.beq cs.length n then q195 share ps (cs ++ vs) obs K else none
 | _, _, _, _ => none
def q483 : (ps : List PT) -> Upds ps -> List Nat -> q32 × List (Ref × Bool)
 | .imm _ :: ps, u, bs => q483 ps u bs
 | .clo _ _ :: ps, u, bs => q483 ps u bs
 | .bor _ false :: ps, u, _ :: bs => q483 ps u bs
 | .bor τ true :: ps, u, k :: bs => match q483 ps u.2 bs with
  | (d, iv) => ((k, some (.box (some τ) (τ.leaves u.1))) :: d, (⟨k, []⟩, false) :: iv)
 | _, _, _ => ([], [])
def q257 (k : Nat) : V -> V × q32 × Nat
 | .ow τ l => (.hs ⟨k, []⟩ 0 l.length true, [(k, some (.arr τ l))], k + 1)
 | .bx τ x => (.hp ⟨k, []⟩ 0 0, [(k, some (.box (some τ) (τ.leaves x)))], k + 1)
 | .mp τ l => (.hm ⟨k, []⟩, [(k, some (.mp τ l))], k + 1)
 | v => (v, [], k)
def q190 : Nat -> List V -> List V × q32 × Nat
 | k, [] => ([], [], k)
 | k, v :: vs => match q257 k v with
  | (v', d, k') => match q190 k' vs with
   | (vs', d', k'') => (v' :: vs', d ++ d', k'')
def q397 (k : Nat) : V -> V × q32 × Nat
 | .agg fs => match q190 k fs with
  | (fs', d, k') => (.agg fs', d, k')
 | v => q257 k v
def q270 : (ts : List Ty) -> Tys ts -> Nat -> List V × q32 × Nat
 | [], _, k => ([], [], k)
 | t :: ts, x, k => match q397 k (t.toV x.1) with
  | (v, d, k') => match q270 ts x.2 k' with
   | (vs, d', k'') => (v :: vs, d ++ d', k'')
def one : List V -> V
 | [v] => v
 | vs => .tup vs
def hasSl : List Ty -> Bool
 | [] => false
 | t :: ts => t.hasSl || hasSl ts
def q431 : List PT -> Bool
 | [] => false
 | .imm _ :: ps => q431 ps
 | .clo _ _ :: ps => q431 ps
 | .bor τ _ :: ps => τ.hasSl || q431 ps
def q727 : List PT -> Bool
 | [] => true
 | .imm _ :: ps => q727 ps
 | .clo _ _ :: ps => q727 ps
 | .bor _ rw :: ps => rw && q727 ps
def q721 (S : FSem) (k fresh : Nat) (vs : List V) (obs : List (Nat × Ob)) (K : OpK R) : Option R :=
 q195 (hasSl S.rs || q431 S.ps) S.ps vs obs fun xs bs d sn => bif disj sn bs && q517 bs && q727 S.ps then (S.f k xs).bind fun y =>
  match q270 S.rs y.1 fresh with
  | (rs, d', k') => bif Nat.ble k' (fresh + 4) then
    match q483 S.ps y.2 bs with
    | (d'', iv) => K (one rs) (d ++ (d'' ++ d')) (sn ++ bs) iv
   else none
 else none
def q110 (C : Ctx) (t : TypeId) : TK := match get t C.ti with | some i => i.k | none => .other
def binK (op : BinOp) (a b : V) (K : V -> Option R) : Option R :=
 match op, a, b with
 | .shl, .int k x, .int _ y => if y < 0 then none else K (.int k (k.wrap (x * 2 ^ (min y.toNat k.bits))))
 | .shr, .int k x, .int _ y => if y < 0 then none else K (.int k (x.fdiv (2 ^ (min y.toNat k.bits))))
 | .add, .int k x, .int k' y => bif kbeq k k' then K (.int k (k.wrap (x + y))) else none
 | .sub, .int k x, .int k' y => bif kbeq k k' then K (.int k (k.wrap (x - y))) else none
 | .mul, .int k x, .int k' y => bif kbeq k k' then K (.int k (k.wrap (x * y))) else none
 | .quo, .int k x, .int k' y => bif kbeq k k' then if y = 0 then none else K (.int k (k.wrap (x.tdiv y))) else none
 | .rem, .int k x, .int k' y => bif kbeq k k' then if y = 0 then none else K (.int k (x.tmod y)) else none
 | .and, .int k x, .int k' y => bif kbeq k k' then K (.int k (k.wrap (BitVec.ofInt k.bits x &&& BitVec.ofInt k.bits y).toNat)) else none
 | .or, .int k x, .int k' y => bif kbeq k k' then K (.int k (k.wrap (BitVec.ofInt k.bits x ||| BitVec.ofInt k.bits y).toNat)) else none
 | .xor, .int k x, .int k' y => bif kbeq k k' then K (.int k (k.wrap (BitVec.ofInt k.bits x ^^^ BitVec.ofInt k.bits y).toNat)) else none
 | .eql, .int k x, .int k' y => bif kbeq k k' then K (.bool (x == y)) else none
 | .neq, .int k x, .int k' y => bif kbeq k k' then K (.bool (x != y)) else none
 | .lss, .int k x, .int k' y => bif kbeq k k' then K (.bool (decide (x < y))) else none
 | .leq, .int k x, .int k' y => bif kbeq k k' then K (.bool (decide (x <= y))) else none
 | .gtr, .int k x, .int k' y => bif kbeq k k' then K (.bool (decide (x > y))) else none
 | .geq, .int k x, .int k' y => bif kbeq k k' then K (.bool (decide (x >= y))) else none
 | _, _, _ => none
def eqK (C : Ctx) (op : BinOp) (t : TypeId) (a b : V) (K : V -> Option R) : Option R :=
 match q110 C t, op, a, b with
 | .bool, .eql, .bool x, .bool y => K (.bool (x == y))
 | .bool, .neq, .bool x, .bool y => K (.bool (!(x == y)))
 | .ptr _, .eql, .nilp, .nilp => K (.bool true)
 | .ptr _, .neq, .nilp, .nilp => K (.bool false)
 | .ptr _, .eql, .hp .., .nilp => K (.bool false)
 | .ptr _, .eql, .nilp, .hp .. => K (.bool false)
 | .ptr _, .neq, .hp .., .nilp => K (.bool true)
 | .ptr _, .neq, .nilp, .hp .. => K (.bool true)
 | _, _, _, _ => none
def nilK (op : BinOp) (a b : V) (K : V -> Option R) : Option R :=
 match op, a, b with
 | .eql, .hz _ n, .nilz => K (.bool (Nat.beq n 0))
 | .neq, .hz _ n, .nilz => K (.bool (!Nat.beq n 0))
 | .eql, .nilz, .nilz => K (.bool true)
 | .neq, .nilz, .nilz => K (.bool false)
 | _, _, _ => none
def eqFs : List V -> List V -> Option Bool
 | [], [] => some true
 | .int k x :: l, .int k' y :: l' => bif kbeq k k' then match eqFs l l' with
  | some b => some ((x == y) && b)
  | none => none else none
 | .bool x :: l, .bool y :: l' => match eqFs l l' with
  | some b => some ((x == y) && b)
  | none => none
 | _, _ => none
def q252 : List Bool -> List V -> Bool
 | [], [] => true
 | true :: ks, .int _ _ :: l => q252 ks l
 | false :: ks, .bool _ :: l => q252 ks l
 | _, _ => false
def q737 (ks : List Bool) (l : List V) : Bool :=
 match ks with
 | [] => false
 | k :: ks => q252 (k :: ks) l
def unK (op : UnOp) (a : V) (K : V -> Option R) : Option R :=
 match op, a with
 | .neg, .int k n => K (.int k (k.wrap (0 - n)))
 | .not, .bool b => K (.bool !b)
 | _, _ => none
def lenOf : V -> Option Int
 | .sl _ l => some l.length
 | .hs _ _ n _ => some n
 | .nils => some 0
 | _ => none
def q155 (x : V) (lo hi mx : Option V) (K : V -> Option R) : Option R :=
 match x, lo, hi, mx with
 | x, none, none, none => K x
 | .sl τ l, some (.int _ a), none, none => if 0 <= a /\ a <= l.length then K (.sl τ (l.drop a.toNat)) else none
 | .sl τ l, none, some (.int _ b), none => if 0 <= b /\ b <= l.length then K (.sl τ (l.take b.toNat)) else none
 | .sl τ l, some (.int _ a), some (.int _ b), none => if 0 <= a /\ a <= b /\ b <= l.length then K (.sl τ ((l.drop a.toNat).take (b.toNat - a.toNat))) else none
 | .hs r off n _, some (.int _ a), none, none => if 0 <= a /\ a <= n then K (.hs r (q288 off a.toNat) (n - a.toNat) false) else none
 | .hs r off n _, none, some (.int _ b), none => if 0 <= b /\ b <= n then K (.hs r off b.toNat false) else none
 | .hs r off n _, some (.int _ a), some (.int _ b), none => if 0 <= a /\ a <= b /\ b <= n then K (.hs r (q288 off a.toNat) (b.toNat - a.toNat) false) else none
 | _, _, _, _ => none
def mm (isMax : Bool) (x y : Int) : Int := match isMax with
 | true => if y > x then y else x
 | false => if y < x then y else x
def q221 (isMax : Bool) (k : IntKind) : Int -> List V -> Option V
 | x, [] => some (.int k x)
 | x, .int k' y :: l => bif kbeq k k' then q221 isMax k (mm isMax x y) l else none
 | _, _ => none
def q562 (isMax : Bool) : List V -> Option V
 | .int k x :: l => q221 isMax k x l
 | _ => none
def q324 : V -> Bool
 | .agg _ => false
 | .tup _ => false
 | .fn _ _ => false
 | .ow _ _ => false
 | .bx _ _ => false
 | .mp _ _ => false
 | .undef => false
 | .nilz => false
 | .hz _ _ => false
 | _ => true
def q69 : List V -> Bool
 | [] => true
 | v :: l => q324 v && q69 l
def q426 (fs : List (Nat × Nat)) : List (Nat × V) -> List V -> Option (List V)
 | [], cs => some cs
 | (f, v) :: l, cs => match fs[f]? with
  | some (off, n) => bif Nat.beq v.fields.length n && q69 v.fields && Nat.ble (off + n) cs.length then q426 fs l (q43 off v.fields cs) else none
  | none => none
def q690 : Nat -> List (Nat × V) -> Bool
 | _, [] => true
 | n, (i, _) :: ps => Nat.beq i n && q690 (n + 1) ps
def q351 (τ : Ty) : List (Nat × V) -> List (Nat × Ob) -> (List τ.den -> q32 -> Option R) -> Option R
 | [], _, K => K [] []
 | (_, v) :: ps, obs, K => q235 v.fields obs fun fs d => match τ.ofAll fs with
  | some x => q351 τ ps (q21 d obs) fun xs d' => K (x :: xs) (d ++ d')
  | none => none
def q402 (C : Ctx) (t : TypeId) : Option (TypeId × Nat × Ty × List V) :=
 match q110 C t with
 | .slice e => match get e C.ti, get e C.ety with
  | some i, some τ => bif Nat.beq i.size τ.size && Nat.blt 0 i.bytes then some (e, i.bytes, τ, i.zero) else none
  | _, _ => none
 | _ => none
def szOk (C : Ctx) (t : TypeId) (τ : Ty) : Bool :=
 match q110 C t with
 | .slice e => match get e C.ti with
  | some i => Nat.beq i.size τ.size
  | none => false
 | _ => false
def q546 (obs : List (Nat × Ob)) (r : Ref) (w : Bool) (K : q32 -> Option R) : Option R :=
 match r.path, w with
 | [], _ => match get r.root obs with
  | some _ => K [(r.root, none)]
  | none => none
 | [(0, j)], true => match get r.root obs with
  | some (.box t fs) => K [(r.root, some (.box t (q43 j [.undef] fs)))]
  | _ => none
 | _, _ => none
def q366 (obs : List (Nat × Ob)) (τ : Ty) (x : V) (K : List τ.den -> q32 -> List Nat -> Option R) : Option R :=
 match x with
 | .nils => K [] [] []
 | .hs ⟨k, []⟩ 0 _ true => match get k obs with
  | some (.arr τ' l') => if h : Ty.beq τ' τ = true then K (q266 h l') (match τ.plain with | true => [] | false => [(k, none)]) [k] else none
  | _ => none
 | x => q309 obs x fun τ' l' rd => if h : Ty.beq τ' τ = true then bif τ.plain then K (q266 h l') [] rd else none else none
def q425 (C : Ctx) (t : TypeId) (fresh : Nat) (s x : V) (obs : List (Nat × Ob)) (K : OpK R) : Option R :=
 match q402 C t with
 | none => none
 | some (_, bytes, τ, _) =>
  match s with
  | .nils => q366 obs τ x fun l d rd => if l.length * bytes <= 140737488355328 then K (.hs ⟨fresh, []⟩ 0 l.length true) (d ++ [(fresh, some (.arr τ l))]) rd [] else none
  | .hs r off n w => q278 obs r fun
   | .arr τ' l' => if h : Ty.beq τ' τ = true then q366 obs τ x fun l d rd =>
     if (subL (q266 h l') off n w ++ l).length * bytes <= 140737488355328 then
      q546 (q21 d obs) r w fun d' => K (.hs ⟨fresh, []⟩ 0 (subL (q266 h l') off n w ++ l).length true) (d ++ (d' ++ [(fresh, some (.arr τ (subL (q266 h l') off n w ++ l)))])) (r.root :: rd) []
     else none else none
   | _ => none
  | _ => none
def q158 (fresh : Nat) (raw : List V) (v : V) : V :=
 match raw, v with
 | [_, .hz _ (_ + 1)], .hs ⟨_, []⟩ 0 n true => .hz fresh n
 | _, v => v
def q165 (v : V) (K : V -> Option R) : Option R :=
 match v with
 | .undef => none
 | v => K v
def q196 : V -> Bool
 | .ow _ _ => true
 | .bx _ _ => true
 | .mp _ _ => true
 | _ => false
def q604 (v : V) : Bool :=
 match v with
 | .nils => true
 | v => q196 v
def q128 (r : Ref) (i : Nat) : Nat -> List V -> List (Ref × Bool)
 | _, [] => []
 | j, v :: vs => bif q604 v then (⟨r.root, r.path ++ [(i, j)]⟩, true) :: q128 r i (j + 1) vs else q128 r i (j + 1) vs
def opK (C : Ctx) (k : Nat) (tm : List (Nat × V)) (obs : List (Nat × Ob)) (fresh : Nat) (o : Oper) (K : OpK R) : Option R :=
 let ρ := opnd tm
 let ρ' := q152 tm
 match o.op with
 | .move x | .assign x => q165 (ρ' x) fun v => K v [] [] []
 | .pick c a b => match ρ c with
  | .bool c => bif c then q165 (ρ' a) (fun v => K v [] [] []) else q165 (ρ' b) (fun v => K v [] [] [])
  | _ => none
 | .alloc e => match get e C.ti with
  | some i => K (.hp ⟨fresh, []⟩ 0 0) [(fresh, some (.box (get e C.ety) i.zero))] [] []
  | none => none
 | .box e x => q235 (ρ x).fields obs fun fs d => K (.hp ⟨fresh, []⟩ 0 0) (d ++ [(fresh, some (.box (get e C.ety) fs))]) [] []
 | .build t parts => match get t C.ti with
  | some i => match i.k with
   | .struct fs => match q426 fs (parts.toList.map fun p => (p.1, ρ p.2)) i.zero with
    | some cs => K (.agg cs) [] [] []
    | none => none
   | _ => none
  | none => none
 | .buildSlice t n parts => match n with
  | 0 => match q402 C t, parts.toList with
   | some _, [] => K .nils [] [] []
   | _, _ => none
  | n + 1 => match q402 C t with
   | some (_, _, τ, _) => bif !(Nat.ble ((n + 1) * τ.size) 16777216 && Nat.blt 0 τ.size && Nat.beq parts.toList.length (n + 1) && q690 0 (parts.toList.map fun p => (p.1, ρ p.2))) then none else
    q351 τ (parts.toList.map fun p => (p.1, ρ p.2)) obs fun ps d =>
     K (.hz fresh (n + 1)) (d ++ [(fresh, some (.arr τ ps))]) [] []
   | none => none
 | .load t a => match get t C.ti with
  | none => none
  | some i => match ρ a with
   | .hp r e j => q278 obs r fun ob => match i.k with
    | .struct _ => ob.leavesK e j i.size fun vs => K (.agg (q353 r e j vs)) [] [r.root] []
    | .other => none
    | _ => ob.leafK e j fun v => q165 v fun v => K (view r e j v) [] [r.root] []
   | .ip τ x j => bif !τ.plain then none else match i.k with
    | .struct _ => bif Nat.blt 0 i.size && Nat.ble (j + i.size) τ.size then K (.agg (((τ.leaves x).drop j).take i.size)) [] [] [] else none
    | .other => none
    | _ => match (τ.leaves x)[j]? with
     | some v => K v [] [] []
     | none => none
   | _ => none
 | .store t a x => match get t C.ti with
  | none => none
  | some i => match ρ a, ρ x with
   | .hp r e j, v => q430 (takes C x) v.fields obs fun fs d => bif Nat.beq fs.length i.size && Nat.blt 0 i.size then
     match get r.root (q21 d obs) with
     | some ob => Ob.updK r.path ob (fun o K' => o.writeK e j fs K') fun ob' => K .undef (d ++ [(r.root, some ob')]) [r.root] (q128 r e j fs)
     | none => none else none
   | _, _ => none
 | .nilCheck x => match ρ x with
  | .hp r i j => K (.hp r i j) [] [] []
  | .ip τ x j => K (.ip τ x j) [] [] []
  | _ => none
 | .binOp op t x y _ => match ρ x with
  | .int k x => binK op (.int k x) (ρ y) fun v => K v [] [] []
  | .agg a => match ρ y, get t C.ti with
   | .agg b, some i => bif q737 i.eq a then match op, eqFs a b with
    | .eql, some c => K (.bool c) [] [] []
    | .neq, some c => K (.bool !c) [] [] []
    | _, _ => none else none
   | _, _ => none
  | a => match q110 C t with
   | .slice _ => nilK op (ρ' x) (ρ' y) fun v => K v [] [] []
   | _ => eqK C op t a (ρ y) fun v => K v [] [] []
 | .unOp op _ x => unK op (ρ x) fun v => K v [] [] []
 | .convert s t x => match q110 C s, q110 C t, ρ x with
  | .int _, .int k, .int _ n => K (.int k (k.wrap n)) [] [] []
  | _, _, _ => none
 | .makeSlice t l c => match q402 C t, ρ l, ρ c with
  | some (_, bytes, τ, zero), .int _ l, .int _ c => match τ.ofAll zero with
   | some z => if 0 <= l /\ l <= c /\ c * bytes <= 140737488355328 then K (.hs ⟨fresh, []⟩ 0 l.toNat true) [(fresh, some (.arr τ (List.replicate l.toNat z)))] [] [] else none
   | none => none
  | _, _, _ => none
 | .slice t x lo hi mx => match ρ x with
  | .sl τ l => bif szOk C t τ then q155 (.sl τ l) (lo.map ρ) (hi.map ρ) (mx.map ρ) (fun v => K v [] [] []) else none
  | .hs r off n w => q278 obs r fun
   | .arr τ _ => bif szOk C t τ then q155 (.hs r off n w) (lo.map ρ) (hi.map ρ) (mx.map ρ) (fun v => K v [] [r.root] []) else none
   | _ => none
  | _ => none
 | .fieldAddr s x f => match q110 C s, ρ x with
  | .struct fs, .hp r i j => match fs[f]? with
   | some (off, _) => K (.hp r i (j + off)) [] [] []
   | none => none
  | .struct fs, .ip τ x j => match fs[f]? with
   | some (off, _) => K (.ip τ x (j + off)) [] [] []
   | none => none
  | _, _ => none
 | .field s x f => match q110 C s, ρ x with
  | .struct fs, .agg vs => match fs[f]? with
   | some (off, n) => bif Nat.ble (off + n) vs.length then match Nat.beq n 1 with
    | true => match vs[off]? with
     | some v => K v [] [] []
     | none => none
    | false => K (.agg ((vs.drop off).take n)) [] [] [] else none
   | none => none
  | _, _ => none
 | .indexAddr t x ix => match ρ x, ρ ix with
  | .sl τ l, .int _ i => bif szOk C t τ then if 0 <= i then (l[i.toNat]?).bind fun x => K (.ip τ x 0) [] [] [] else none else none
  | .hs r off n _, .int _ i => q278 obs r fun
   | .arr τ _ => bif szOk C t τ then if 0 <= i /\ i < n then K (.hp r (q288 off i.toNat) 0) [] [r.root] [] else none else none
   | _ => none
  | _, _ => none
 | .makeMap t none => match q110 C t with
  | .map kt e => match q110 C kt, get e C.ety with
   | .int .i64, some τ => bif τ.plain && !τ.isA then K (.hm ⟨fresh, []⟩) [(fresh, some (.mp τ []))] [] [] else none
   | _, _ => none
  | _ => none
 | .lookup t x ix ok => match q110 C t, ρ x, ρ ix with
  | .map kt e, .hm r, .int .i64 n => match q110 C kt, get e C.ti with
   | .int .i64, some i => q278 obs r fun
    | .mp τ l => bif τ.plain && !τ.isA && q228 i.k τ then match τ.ofAll i.zero with
     | some z => match ok with
      | true => K (.tup [τ.toV (mget n z l), .bool (mhas n l)]) [] [r.root] []
      | false => K (τ.toV (mget n z l)) [] [r.root] []
     | none => none else none
    | _ => none
   | _, _ => none
  | _, _, _ => none
 | .mapUpdate t x ix v => match q110 C t, ρ x, ρ ix with
  | .map kt _, .hm r, .int .i64 n => match q110 C kt with
   | .int .i64 => q235 (ρ v).fields obs fun fs d => match get r.root (q21 d obs) with
    | some ob => Ob.updK r.path ob (fun o K' => match o with
     | .mp τ l => bif τ.plain && !τ.isA && q251 τ (ρ v) then match τ.ofAll fs with
      | some y => K' (.mp τ (mset n y l))
      | none => none else none
     | _ => none) fun ob' => K .undef (d ++ [(r.root, some ob')]) [r.root] []
    | none => none
   | _ => none
  | _, _, _ => none
 | .extract x i => match ρ x with
  | .tup vs => match vs[i]? with
   | some v => K v [] [] []
   | none => none
  | _ => none
 | .makeFunc (.func f) first caps => match first.toList with
  | [] => bif q69 (caps.toList.map ρ) then K (.fn f (caps.toList.map ρ)) [] [] [] else none
  | _ => none
 | .call c => match c.callee with
  | .value f => match ρ f with
   | .fn f caps => match q687 f (c.args.toList.map ρ ++ caps) C.env with
    | some S => q721 S k fresh (c.args.toList.map ρ ++ caps) obs K
    | none => none
   | _ => none
  | .builtin .len => match c.args.toList, c.argTypes.toList with
   | [x], t :: _ => match q110 C t, lenOf (ρ x) with
    | .slice _, some n => K (.int .i64 n) [] [] []
    | _, _ => none
   | _, _ => none
  | .builtin .append => match c.args.toList.map ρ, c.argTypes.toList with
   | [s, x], [t, tx] => match q110 C tx with
    | .slice _ => q425 C t fresh s x obs fun v d rd iv => K (q158 fresh (c.args.toList.map ρ') v) d rd iv
    | _ => none
   | _, _ => none
  | .builtin .max => match q562 true (c.args.toList.map ρ) with
   | some v => K v [] [] []
   | none => none
  | .builtin .min => match q562 false (c.args.toList.map ρ) with
   | some v => K v [] [] []
   | none => none
  | _ => none
 | _ => none
def q15 : q32 -> List Nat
 | [] => []
 | (k, _) :: d => k :: q15 d
def beside (mask : Nat) (rd wr : List Nat) : List (Nat × List Nat × List Nat) -> Bool
 | [] => true
 | (j, rd', wr') :: l => (mask.testBit j || (disj wr' rd && disj wr rd' && disj wr wr')) && beside mask rd wr l
def q95 (dst : Option Nat) (v : V) (tm : List (Nat × V)) : List (Nat × V) :=
 match dst with
 | some d => put d v tm
 | none => tm
def pinned (C : Ctx) (dst : Option Nat) : Bool :=
 match dst with
 | some d => mem d C.pin || !Nat.blt d C.nt
 | none => false
def q333 (k : Nat) : V -> Bool
 | .hs r _ _ _ => Nat.beq r.root k
 | .hp r _ _ => Nat.beq r.root k
 | .hm r => Nat.beq r.root k
 | .hz k' _ => Nat.beq k' k
 | _ => false
def q354 (k : Nat) : List V -> Bool
 | [] => false
 | v :: l => q333 k v || q354 k l
def refsA (k : Nat) : V -> Bool
 | .agg fs => q354 k fs
 | .fn _ caps => q354 k caps
 | v => q333 k v
def refsT (k : Nat) : List V -> Bool
 | [] => false
 | v :: l => refsA k v || refsT k l
def refs (k : Nat) : V -> Bool
 | .tup vs => refsT k vs
 | v => refsA k v
def q73 (keep : List Nat) : List (Nat × V) -> List (Nat × V)
 | [] => []
 | (t, v) :: l => bif mem t keep then (t, v) :: q73 keep l else q73 keep l
def over : List (Nat × Nat) -> List (Nat × Nat) -> Bool -> Bool
 | _ :: _, [], _ => true
 | [], [], e => e
 | [], _ :: _, _ => false
 | (_, j) :: p, (_, j') :: q, e => Nat.beq j j' && over p q e
def q57 (r : Ref) : List (Ref × Bool) -> Bool
 | [] => false
 | (q, e) :: l => (Nat.beq r.root q.root && over r.path q.path e) || q57 r l
def leads (iv : List (Ref × Bool)) : V -> Bool
 | .hs r _ _ _ => q57 r iv
 | .hp r _ _ => q57 r iv
 | .hm r => q57 r iv
 | .hz k _ => q57 ⟨k, []⟩ iv
 | _ => false
def q280 (iv : List (Ref × Bool)) : List V -> Bool
 | [] => false
 | v :: l => leads iv v || q280 iv l
def q597 (iv : List (Ref × Bool)) : V -> Bool
 | .agg fs => q280 iv fs
 | .fn _ fs => q280 iv fs
 | v => leads iv v
def q552 (iv : List (Ref × Bool)) : List V -> Bool
 | [] => false
 | v :: l => q597 iv v || q552 iv l
def q126 (iv : List (Ref × Bool)) : V -> Bool
 | .tup fs => q552 iv fs
 | v => q597 iv v
def q135 (iv : List (Ref × Bool)) (v : V) : V := bif q126 iv v then .undef else v
def q335 (iv : List (Ref × Bool)) : List (Nat × V) -> List (Nat × V)
 | [] => []
 | (t, v) :: l => (t, q135 iv v) :: q335 iv l
def q229 (iv : List (Ref × Bool)) (tm : List (Nat × V)) : List (Nat × V) :=
 match iv with
 | [] => tm
 | _ => q335 iv tm
def q290 : V -> List Nat
 | .hs ⟨k, _ :: _⟩ _ _ _ => [k]
 | .hp ⟨k, _ :: _⟩ _ _ => [k]
 | .hm ⟨k, _ :: _⟩ => [k]
 | _ => []
def q328 : List V -> List Nat
 | [] => []
 | v :: l => q290 v ++ q328 l
def q378 : V -> List Nat
 | .agg fs => q328 fs
 | .fn _ fs => q328 fs
 | v => q290 v
def q380 : List V -> List Nat
 | [] => []
 | v :: l => q378 v ++ q380 l
def q376 : V -> List Nat
 | .tup fs => q380 fs
 | v => q378 v
def q99 (tm : List (Nat × V)) : List Operand -> List Nat
 | [] => []
 | x :: l => q376 (opnd tm x) ++ q99 tm l
def ivOk : List (Ref × Bool) -> Bool
 | [] => true
 | (r, e) :: l => (match r.path with | [] => !e | _ => true) && ivOk l
def q62 (C : Ctx) (k : Nat) (ops : Array Oper) (draw : Bool) (masks : List Nat) (base : Nat) :
  List Oper -> Nat -> List (Nat × List Nat × List Nat) -> List (Nat × V) -> List (Nat × Ob) -> (St -> Option R) -> Option R
 | [], _, _, tm, obs, K => K ⟨q73 C.keep tm, obs, base + 4 * ops.size⟩
 | o :: rest, i, log, tm, obs, K =>
  bif pinned C o.dst then none else
  let run (tm : List (Nat × V)) : Option R := opK C k tm obs (base + 4 * i) o fun v d rd iv =>
   match draw with
   | true => bif beside (masks.getD i 0) (rd ++ q99 tm o.op.operands.toList) (q15 d) log && ivOk iv then
     q62 C k ops draw masks base rest (i + 1) ((i, rd ++ q99 tm o.op.operands.toList, q15 d) :: log) (q95 o.dst v (q229 iv tm)) (q21 d obs) K else none
   | false => q62 C k ops draw masks base rest (i + 1) log (q95 o.dst v (q229 iv tm)) (q21 d obs) K
  match o.guard with
  | none => run tm
  | some (j, want) => match (ops[j]?).bind (·.dst) with
   | some t => match get t tm, want with
    | some (.bool b), true => bif b then run (put t (.bool true) tm) else q62 C k ops draw masks base rest (i + 1) log (q95 o.dst (.tup []) (put t (.bool false) tm)) obs K
    | some (.bool b), false => bif b then q62 C k ops draw masks base rest (i + 1) log (q95 o.dst (.tup []) (put t (.bool true) tm)) obs K else run (put t (.bool false) tm)
    | some (.tup []), _ => q62 C k ops draw masks base rest (i + 1) log (q95 o.dst (.tup []) tm) obs K
    | _, _ => none
   | none => none
def q236 (acc : List Nat) : List Edge -> Nat
 | [] => 0
 | e :: l => bif Region.binds .any e then (2 ^ e.on ||| acc.getD e.on 0) ||| q236 acc l else q236 acc l
def q197 : List Nat -> List Oper -> List Nat
 | acc, [] => acc
 | acc, o :: l => q197 (acc ++ [q236 acc o.after.toList]) l
def q53 (ops : Array Oper) : List Nat := q197 [] ops.toList
def q462 (i : Nat) : List Edge -> Bool
 | [] => true
 | e :: l => (!Region.binds .any e || Nat.blt e.on i) && q462 i l
def q589 : Nat -> List Oper -> Bool
 | _, [] => true
 | i, o :: l => q462 i o.after.toList && q589 (i + 1) l
def q244 (ops : Array Oper) (masks : List Nat) : Bool :=
 q589 0 ops.toList && (List.range ops.size).all fun j => (List.range j).all fun i =>
  (masks.getD j 0).testBit i || (match ops[i]?, ops[j]? with
   | some x, some y => x.apart ops y
   | _, _ => false)
end
inductive SP where
 | val (τ : Ty)
 | ptr (i : Nat)
 | arr (i : Nat)
 | arz (i : Nat)
 | fn (g : FuncId) (is : List Nat)
 | map (i : Nat)
inductive RP where
 | box (t : Option Ty) (ts : List Ty)
 | arr (τ : Ty)
 | mp (τ : Ty)
abbrev RP.den : RP -> Type
 | .box _ ts => Tys ts
 | .arr τ => List τ.den
 | .mp τ => List (Int × τ.den)
abbrev SPs : List (Nat × SP) -> Type
 | [] => Unit
 | (_, .val τ) :: l => τ.den × SPs l
 | (_, .ptr _) :: l => SPs l
 | (_, .arr _) :: l => SPs l
 | (_, .arz _) :: l => SPs l
 | (_, .fn _ _) :: l => SPs l
 | (_, .map _) :: l => SPs l
abbrev RPs : List RP -> Type
 | [] => Unit
 | p :: l => p.den × RPs l
structure Patt where
 slots : List (Nat × SP)
 roots : List RP
abbrev Patt.den (p : Patt) : Type := SPs p.slots × RPs p.roots
def boxOf : (ts : List Ty) -> Tys ts -> List V
 | [], _ => []
 | t :: ts, x => t.leaves x.1 ++ boxOf ts x.2
def RP.ob : (p : RP) -> p.den -> Ob
 | .box t ts, x => .box t (boxOf ts x)
 | .arr τ, l => .arr τ l
 | .mp τ, l => .mp τ l
def RP.len : (p : RP) -> p.den -> Nat
 | .box _ _, _ => 0
 | .arr _, l => l.length
 | .mp _, _ => 0
def q83 : (l : List RP) -> RPs l -> Nat -> Nat
 | [], _, _ => 0
 | p :: _, x, 0 => p.len x.1
 | _ :: l, x, i + 1 => q83 l x.2 i
def q413 (base : Nat) : List Nat -> List V
 | [] => []
 | i :: is => .hp ⟨base + i, []⟩ 0 0 :: q413 base is
def q72 (rs : List RP) (ys : RPs rs) (base : Nat) : (l : List (Nat × SP)) -> SPs l -> List (Nat × V)
 | [], _ => []
 | (t, .val τ) :: l, x => (t, τ.toV x.1) :: q72 rs ys base l x.2
 | (t, .ptr i) :: l, x => (t, .hp ⟨base + i, []⟩ 0 0) :: q72 rs ys base l x
 | (t, .arr i) :: l, x => (t, .hs ⟨base + i, []⟩ 0 (q83 rs ys i) true) :: q72 rs ys base l x
 | (t, .arz i) :: l, x => (t, .hz (base + i) (q83 rs ys i)) :: q72 rs ys base l x
 | (t, .fn g is) :: l, x => (t, .fn g (q413 base is)) :: q72 rs ys base l x
 | (t, .map i) :: l, x => (t, .hm ⟨base + i, []⟩) :: q72 rs ys base l x
def q111 : Nat -> (l : List RP) -> RPs l -> List (Nat × Ob)
 | _, [], _ => []
 | k, p :: l, x => (k, p.ob x.1) :: q111 (k + 1) l x.2
abbrev RMap := List (Nat × Option Nat)
def q297 (i k : Nat) (m : RMap) : Option RMap :=
 match get i m with
 | none => some ((i, some k) :: m)
 | some (some k') => bif Nat.beq k k' then some m else none
 | some none => none
def q249 : List Nat -> List V -> RMap -> Option RMap
 | [], [], m => some m
 | i :: is, .hp ⟨k, []⟩ 0 0 :: vs, m => match q297 i k m with
  | some m' => q249 is vs m'
  | none => none
 | _, _, _ => none
def q106 : (l : List (Nat × SP)) -> List (Nat × V) -> RMap -> Option (SPs l × RMap)
 | [], _, m => some ((), m)
 | (t, .val τ) :: l, tm, m => match getU t tm with
  | some v => match (bif τ.plain then τ.ofV v else none) with
   | some x => match q106 l tm m with
    | some (xs, m') => some ((x, xs), m')
    | none => none
   | none => none
  | none => none
 | (t, .ptr i) :: l, tm, m => match get t tm with
  | some (.hp ⟨k, []⟩ 0 0) => match q297 i k m with
   | some m' => q106 l tm m'
   | none => none
  | _ => none
 | (t, .arz i) :: l, tm, m => match get t tm with
  | some (.hz k _) => match q297 i k m with
   | some m' => q106 l tm m'
   | none => none
  | some .nilz => match get i m with
   | none => q106 l tm ((i, none) :: m)
   | _ => none
  | _ => none
 | (t, .arr i) :: l, tm, m => match getU t tm with
  | some (.hs ⟨k, []⟩ 0 _ true) => match q297 i k m with
   | some m' => q106 l tm m'
   | none => none
  | some .nils => match get i m with
   | none => q106 l tm ((i, none) :: m)
   | _ => none
  | _ => none
 | (t, .fn g is) :: l, tm, m => match get t tm with
  | some (.fn g' vs) => bif Nat.beq g' g then match q249 is vs m with
   | some m' => q106 l tm m'
   | none => none
   else none
  | _ => none
 | (t, .map i) :: l, tm, m => match get t tm with
  | some (.hm ⟨k, []⟩) => match q297 i k m with
   | some m' => q106 l tm m'
   | none => none
  | _ => none
def q683 : (ts : List Ty) -> List V -> Option (Tys ts)
 | [], [] => some ()
 | t :: ts, vs => match t.ofLeaves vs with
  | some (x, vs') => match q683 ts vs' with
   | some xs => some (x, xs)
   | none => none
  | none => none
 | _, _ => none
def RP.ofOb : (p : RP) -> Option Ob -> Option p.den
 | .box _ ts, some (.box _ fs) => q683 ts fs
 | .arr τ, some (.arr τ' l) => if h : Ty.beq τ' τ = true then some (q266 h l) else none
 | .arr _, none => some []
 | .mp τ, some (.mp τ' l) => if h : Ty.beq τ' τ = true then some (castM h l) else none
 | _, _ => none
def RP.atK (p : RP) (obs : List (Nat × Ob)) : Option Nat -> Option p.den
 | none => p.ofOb none
 | some k => match get k obs with
  | some o => p.ofOb (some o)
  | none => none
def q582 (m : RMap) (obs : List (Nat × Ob)) : Nat -> (l : List RP) -> Option (RPs l)
 | _, [] => some ()
 | i, p :: l => match get i m with
  | none => none
  | some k => match p.atK obs k with
   | some x => match q582 m obs (i + 1) l with
    | some xs => some (x, xs)
    | none => none
   | none => none
def q108 : RMap -> List Nat
 | [] => []
 | (_, some k) :: m => k :: q108 m
 | (_, none) :: m => q108 m
def okS (n : Nat) : List (Nat × SP) -> Bool
 | [] => true
 | (_, .val _) :: l => okS n l
 | (_, .ptr i) :: l => Nat.blt i n && okS n l
 | (_, .arr i) :: l => Nat.blt i n && okS n l
 | (_, .arz i) :: l => Nat.blt i n && okS n l
 | (_, .fn _ is) :: l => is.all (fun i => Nat.blt i n) && okS n l
 | (_, .map i) :: l => Nat.blt i n && okS n l
def Patt.mtch (p : Patt) (S : St) : Option (p.den × RMap) :=
 bif okS p.roots.length p.slots then match q106 p.slots S.tm [] with
 | some (xs, m) => bif q517 (q108 m) then match q582 m S.ob 0 p.roots with
  | some ys => some ((xs, ys), m)
  | none => none
  else none
 | none => none
 else none
def Patt.build (p : Patt) (base : Nat) (x : p.den) : St :=
 ⟨q72 p.roots x.2 base p.slots x.1, q111 base p.roots x.2, base + p.roots.length⟩
def q434 (v : V) : RMap -> Bool
 | [] => false
 | (_, some k) :: m => refs k v || q434 v m
 | (_, none) :: m => q434 v m
def q125 (dsts : List Nat) (m : RMap) : List (Nat × V) -> List (Nat × V)
 | [] => []
 | (t, v) :: l => bif mem t dsts then q125 dsts m l else (t, bif q434 v m then .undef else v) :: q125 dsts m l
def inM (k : Nat) : RMap -> Bool
 | [] => false
 | (_, some j) :: m => bif Nat.beq j k then true else inM k m
 | (_, none) :: m => inM k m
def q101 (m : RMap) : List (Nat × Ob) -> List (Nat × Ob)
 | [] => []
 | (k, o) :: l => bif inM k m then q101 m l else (k, o) :: q101 m l
def q64 : List Oper -> List Nat
 | [] => []
 | o :: l => match o.dst with
  | some d => d :: q64 l
  | none => q64 l
def dsts : Code -> List Nat
 | .region _ ops _ => q64 ops.toList
 | .seq a b => dsts a ++ dsts b
 | .cond _ a b => dsts a ++ dsts b
 | .block _ c => dsts c
 | .loop c => dsts c
 | .scope c => dsts c
 | .rangeFunc _ _ a b => dsts a ++ dsts b
 | _ => []
inductive EX where
 | normal | ex (id : Nat) | ret
def EX.exit : EX -> Exit
 | .normal => .normal
 | .ex id => .exit id
 | .ret => .ret
def EX.of : Exit -> Option EX
 | .normal => some .normal
 | .exit id => some (.ex id)
 | .ret => some .ret
 | _ => none
def EX.beq : EX -> EX -> Bool
 | .normal, .normal => true
 | .ret, .ret => true
 | .ex a, .ex b => Nat.beq a b
 | _, _ => false
abbrev Outs : List (EX × Patt) -> Type
 | [] => Empty
 | [(_, p)] => p.den
 | (_, p) :: l => p.den ⊕ Outs l
def q140 : (l : List (EX × Patt)) -> EX -> St -> Option (Outs l)
 | [], _, _ => none
 | [(
   e, p)], e', S => bif e.beq e' then match p.mtch S with
   | some (x, _) => some x
   | none => none
  else none
 | (e, p) :: q :: l, e', S => bif e.beq e' then match p.mtch S with
   | some (x, _) => some (.inl x)
   | none => none
  else match q140 (q :: l) e' S with
   | some y => some (.inr y)
   | none => none
def q151 : (l : List (EX × Patt)) -> Nat -> Outs l -> EX × St
 | [], _, y => nomatch y
 | [(e, p)], b, y => (e, p.build b y)
 | (e, p) :: _ :: _, b, .inl x => (e, p.build b x)
 | _ :: q :: l, b, .inr y => q151 (q :: l) b y
section
variable {R : Type}
structure LC (R : Type) where
 at_ : Nat
 inn : Patt
 outs : List (EX × Patt)
 run : inn.den -> (Outs outs -> Option R) -> Option R
def q389 (n : Nat) : List (LC R) -> Option (LC R)
 | [] => none
 | c :: l => bif Nat.beq c.at_ n then some c else q389 n l
def loops : Code -> Nat
 | .seq a b => loops a + loops b
 | .cond _ a b => loops a + loops b
 | .block _ c => loops c
 | .loop c => loops c + 1
 | .scope c => loops c
 | _ => 0
def q227 : Code -> Option Nat
 | .region id _ _ => some id
 | .seq a b => match q227 a with
  | some i => some i
  | none => q227 b
 | .cond _ a b => match q227 a with
  | some i => some i
  | none => q227 b
 | .block _ c => q227 c
 | .loop c => q227 c
 | _ => none
def q622 (c : Code) (L : List (LC R)) : Option (LC R) :=
 match L with
 | [] => none
 | L => match q227 c with
  | some id => q389 (2 * id + 1) L
  | none => none
def ev (C : Ctx) (k : Nat) (L : List (LC R)) : Code -> Nat -> St -> (Exit -> St -> Option R) -> Option R
 | .skip, _, S, K => K .normal S
 | .region _ ops draw, _, S, K =>
  match draw with
  | false => q62 C k ops false [] S.nx ops.toList 0 [] S.tm S.ob fun S' => K .normal S'
  | true => bif q244 ops (q53 ops) then q62 C k ops true (q53 ops) S.nx ops.toList 0 [] S.tm S.ob (fun S' => K .normal S') else none
 | .seq a b, n, S, K => ev C k L a n S fun
  | .normal, S' => match q622 b L with
   | none => ev C k L b (n + loops a) S' K
   | some lc => match lc.inn.mtch S' with
    | some (x, m) => lc.run x fun y => match q151 lc.outs S'.nx y with
     | (e, T) => K e.exit ⟨T.tm ++ q125 (dsts b) m S'.tm, T.ob ++ q101 m S'.ob, T.nx⟩
    | none => none
  | e, S' => K e S'
 | .cond c a b, n, S, K => match opnd S.tm c with
  | .bool x => bif x then ev C k L a n S K else ev C k L b (n + loops a) S K
  | _ => none
 | .block id c, n, S, K => ev C k L c n S fun
  | .exit id', S' => bif Nat.beq id' id then K .normal S' else K (.exit id') S'
  | e, S' => K e S'
 | .loop c, n, S, K => match q389 (2 * n) L with
  | some lc => match lc.inn.mtch S with
   | some (x, m) => lc.run x fun y => match q151 lc.outs S.nx y with
    | (e, T) => K e.exit ⟨T.tm ++ q125 (dsts c) m S.tm, T.ob ++ q101 m S.ob, T.nx⟩
   | none => none
  | none => none
 | .exit id, _, S, K => K (.exit id) S
 | .ret, _, S, K => K .ret S
 | _, _, _, _ => none
def q58 : Code -> Nat -> Option Code
 | .seq a b, n => bif Nat.blt n (loops a) then q58 a n else q58 b (n - loops a)
 | .cond _ a b, n => bif Nat.blt n (loops a) then q58 a n else q58 b (n - loops a)
 | .block _ c, n => q58 c n
 | .loop c, 0 => some c
 | .loop c, n + 1 => q58 c n
 | .scope c, n => q58 c n
 | _, _ => none
def q12 (fn : Func) (n : Nat) : Code := match fn.body with
 | some c => (q58 c n).getD .skip
 | none => .skip
def q279 : Code -> List Code
 | .seq a b => b :: (q279 a ++ q279 b)
 | .cond _ a b => q279 a ++ q279 b
 | .block _ c => q279 c
 | .loop c => q279 c
 | .scope c => q279 c
 | _ => []
def headIs (id : Nat) (c : Code) : Bool := match q227 c with
 | some i => Nat.beq i id
 | none => false
def q545 (id : Nat) (c : Code) : List Code := (q279 c).filter (headIs id)
def q41 (fn : Func) (id : Nat) : Code := match fn.body with
 | some c => match q545 id c with
  | [y] => y
  | _ => .skip
 | none => .skip
def q230 (C : Ctx) (k : Nat) (L : List (LC R)) (inn : Patt) (outs : List (EX × Patt)) (c : Code) (n : Nat) (x : inn.den) (Ke : Outs outs -> Option R) : Option R :=
 ev C k L c n (inn.build 0 x) fun e S => match EX.of e with
  | some e => match q140 outs e S with
   | some y => Ke y
   | none => none
  | none => none
def q27 (C : Ctx) (k : Nat) (L : List (LC R)) (inn : Patt) (outs : List (EX × Patt)) (c : Code) (n : Nat) (x : inn.den) (Kc : inn.den -> Option R) (Ke : Outs outs -> Option R) : Option R :=
 ev C k L c n (inn.build 0 x) fun
  | .normal, S => match inn.mtch S with
   | some (x', _) => Kc x'
   | none => none
  | e, S => match EX.of e with
   | some e => match q140 outs e S with
    | some y => Ke y
    | none => none
   | none => none
def q295 : Nat -> Nat -> List V
 | _, 0 => []
 | r, n + 1 => .hp ⟨r, []⟩ 0 0 :: q295 (r + 1) n
def q109 : (ps : List PT) -> Args ps -> Nat -> Nat -> Nat -> List (Nat × V) × List (Nat × Ob)
 | [], _, _, _, _ => ([], [])
 | .imm τ :: ps, x, t, r, p => match q109 ps x.2 (t + 1) r p with
  | (tm, ob) => ((t, τ.toV x.1) :: tm, ob)
 | .bor τ _ :: ps, x, t, r, 0 => match q109 ps x.2 (t + 1) (r + 1) 0 with
  | (tm, ob) => ((t, .hp ⟨r, []⟩ 0 0) :: tm, (r, .box (some τ) (τ.leaves x.1)) :: ob)
 | .bor τ _ :: ps, x, t, r, p + 1 => match q109 ps x.2 t (r + 1) p with
  | (tm, ob) => (tm, (r, .box (some τ) (τ.leaves x.1)) :: ob)
 | .clo g n :: ps, x, t, r, _ => match q109 ps x (t + 1) r n with
  | (tm, ob) => ((t, .fn g (q295 r n)) :: tm, ob)
def q127 : List PT -> Nat
 | [] => 0
 | .imm _ :: ps => q127 ps
 | .clo _ _ :: ps => q127 ps
 | .bor _ _ :: ps => q127 ps + 1
def q157 (C : Ctx) (f : List ResultVar) : (rs : List Ty) -> List (Nat × V) -> List (Nat × Ob) -> (Tys rs -> List (Nat × Ob) -> Option R) -> Option R
 | [], _, obs, K => match f with
  | [] => K () obs
  | _ => none
 | τ :: rs, tm, obs, K => match f with
  | .tmp t :: f => match getU t tm with
   | some v => bif q251 τ v then q201 v.fields obs fun fs d => match τ.ofAll fs with
    | some x => q157 C f rs tm (q21 d obs) fun xs obs' => K (x, xs) obs'
    | none => none
    else none
   | none => none
  | .cell a t :: f => match get t C.ti, get a tm with
   | some i, some (.hp ⟨q, []⟩ 0 0) => match get q obs with
    | some (.box _ fs) => bif Nat.beq fs.length i.size && q228 i.k τ then match τ.ofAll fs with
     | some x => q157 C f rs tm (del q obs) fun xs obs' => K (x, xs) obs'
     | none => none
     else none
    | _ => none
   | _, _ => none
  | [] => none
def q387 : (ps : List PT) -> Nat -> List V -> List (Nat × V) -> List (Nat × Ob) -> (Upds ps -> Option R) -> Option R
 | [], _, _, _, _, K => K ()
 | .imm _ :: ps, t, cs, tm, obs, K => q387 ps (t + 1) cs tm obs K
 | .bor _ false :: _, _, _, _, _, _ => none
 | .bor τ true :: ps, t, [], tm, obs, K => match get t tm with
  | some (.hp ⟨k, []⟩ 0 0) => match get k obs with
   | some (.box _ fs) => match τ.ofAll fs with
    | some x => q387 ps (t + 1) [] tm (del k obs) fun xs => K (x, xs)
    | none => none
   | _ => none
  | _ => none
 | .bor τ true :: ps, t, c :: cs, tm, obs, K => match c with
  | .hp ⟨k, []⟩ 0 0 => match get k obs with
   | some (.box _ fs) => match τ.ofAll fs with
    | some x => q387 ps t cs tm (del k obs) fun xs => K (x, xs)
    | none => none
   | _ => none
  | _ => none
 | .clo g n :: ps, t, _, tm, obs, K => match get t tm with
  | some (.fn g' cs) => bif Nat.beq g' g && Nat.beq cs.length n then q387 ps (t + 1) cs tm obs K else none
  | _ => none
def finish (C : Ctx) (fn : Func) (ps : List PT) (rs : List Ty) (K : Tys rs × Upds ps -> Option R) : Exit -> St -> Option R
 | .normal, S | .ret, S => q157 C fn.results.toList rs S.tm S.ob fun y obs => q387 ps 0 [] S.tm obs fun u => K (y, u)
 | _, _ => none
def q85 (C : Ctx) : Nat -> Nat -> List PT -> Bool
 | _, p, [] => Nat.beq p 0
 | t, p, .imm _ :: ps => Nat.beq p 0 && q85 C (t + 1) 0 ps
 | t, 0, .bor _ rw :: ps => rw && mem t C.pin && q85 C (t + 1) 0 ps
 | t, p + 1, .bor _ rw :: ps => rw && q85 C t p ps
 | t, p, .clo _ n :: ps => Nat.beq p 0 && mem t C.pin && q85 C (t + 1) n ps
def q170 : Nat -> List PT -> Nat
 | _, [] => 0
 | p, .imm _ :: ps => q170 p ps + 1
 | 0, .bor _ _ :: ps => q170 0 ps + 1
 | p + 1, .bor _ _ :: ps => q170 p ps
 | _, .clo _ n :: ps => q170 n ps + 1
def evF (C : Ctx) (k : Nat) (L : List (LC R)) (fn : Func) (ps : List PT) (rs : List Ty) (x : Args ps) (K : Tys rs × Upds ps -> Option R) : Option R :=
 match fn.body with
 | some c => bif !(q85 C 0 0 ps && Nat.beq C.nt fn.ntmps && Nat.ble (q170 0 ps) C.nt) then none else match q109 ps x 0 0 0 with
  | (tm, ob) => ev C k L c 0 ⟨tm, ob, q127 ps⟩ (finish C fn ps rs K)
 | none => none
end
end Go.Lf
namespace Go.Lf
abbrev Bs := Nat -> Prop
def Emp (G : Bs) : Prop := ∀ b, ¬ G b
def Dj (G H : Bs) : Prop := ∀ b, G b -> ¬ H b
def Row (w : World) (b : Nat) (row : Array Value) : Prop := ∃ t, w.heap[b]? = some (.cells row t (0, 0))
def RowS (w : World) (b : Nat) (row : Array Value) : Prop := ∃ t fr, w.heap[b]? = some (.cells row t fr)
def seg (row : Array Value) (o n : Nat) : List Value := (row.toList.drop o).take n
def q246 {α : Type} (w : World) (sz : Nat) (R : α -> List Value -> Bs -> Prop) (l : List α) : Option (Nat × Nat) -> Bs -> Prop
 | none, G => l = [] /\ Emp G
 | some (b, off), G => ∃ (row : Array Value) (Gs : Nat -> Bs), Row w b row /\ off + l.length * sz <= row.size /\
   (∀ i x, l[i]? = some x -> R x (seg row (off + i * sz) sz) (Gs i)) /\ (∀ i, l.length <= i -> Emp (Gs i)) /\
   (∀ i j, i ≠ j -> Dj (Gs i) (Gs j)) /\ (∀ i, ¬ Gs i b) /\ (∀ n, G n ↔ n = b \/ ∃ i, Gs i n)
def Hd (w : World) (sz : Nat) (loc : Option (Nat × Nat)) (off n : Nat) (u : Value) : Prop :=
 ∃ ad cap, u = .slice ad n cap /\ ((n = 0 /\ cap = 0) \/ ∃ b o row, loc = some (b, o) /\ Row w b row /\ ad = some ⟨b, o + off * sz, none⟩ /\ n <= cap /\ o + (off + cap) * sz <= row.size)
def q198 : Value -> Option (Nat × Nat)
 | .slice (some a) _ cap => if cap = 0 then none else some (a.block, a.off)
 | _ => none
def q525 {α : Type} (w : World) (R : α -> Value -> Prop) (l : List (Int × α)) (b : Nat) : Prop :=
 ∃ (es : Array MapEntry) (clock : Nat), w.heap[b]? = some (.map es clock) /\ es.size = l.length /\ ∀ (i : Nat) (k : Int) (x : α), l[i]? = some (k, x) -> ∃ e : MapEntry, es[i]? = some e /\ e.key = .int .i64 k /\ R x e.val
def LR (w : World) (F : Bs) : (τ : Ty) -> τ.den -> List Value -> Bs -> Prop
 | .int k, n, cs, G => cs = [.int k n] /\ Emp G
 | .bool, b, cs, G => cs = [.bool b] /\ Emp G
 | .unit, _, cs, G => cs = [] /\ Emp G
 | .pair a b, x, cs, G => ∃ c1 c2 G1 G2, cs = c1 ++ c2 /\ LR w F a x.1 c1 G1 /\ LR w F b x.2 c2 G2 /\ Dj G1 G2 /\ ∀ n, G n ↔ G1 n \/ G2 n
 | .sl a, l, cs, G => Emp G /\ ∃ ad cap, cs = [.slice ad l.length (l.length + cap)] /\ (l = [] \/ ∃ b off row, ad = some ⟨b, off, none⟩ /\ ¬ F b /\ RowS w b row /\ off + l.length * a.size <= row.size /\
   ∀ i x, l[i]? = some x -> ∃ G', Emp G' /\ LR w F a x (seg row (off + i * a.size) a.size) G')
 | .ow a, l, cs, G => ∃ u, cs = [u] /\ Hd w a.size (q198 u) 0 l.length u /\ q246 w a.size (LR w F a) l (q198 u) G
 | .bx a, x, cs, G => ∃ b row G', cs = [.pointer (some ⟨b, 0, none⟩)] /\ Row w b row /\ LR w F a x row.toList G' /\ ¬ G' b /\ ∀ n, G n ↔ n = b \/ G' n
 | .mp a, l, cs, G => ∃ b, cs = [.map (some b)] /\ q525 w (fun x u => LR w F a x [u] (fun _ => False)) l b /\ ∀ n, G n ↔ n = b
structure Stay (w : World) (F : Bs) (w' : World) (F' : Bs) (G : Bs) : Prop where
 size : w.heap.size <= w'.heap.size
 own : ∀ b, G b -> w'.heap[b]? = w.heap[b]?
 out : ∀ b, ¬ F b -> b < w.heap.size -> w'.heap[b]? = w.heap[b]?
 less : ∀ b, F' b -> F b \/ w.heap.size <= b
theorem Stay.mono {w w' : World} {F F' G G' : Bs} (h : Stay w F w' F' G) (hg : ∀ b, G' b -> G b) : Stay w F w' F' G' :=
 ⟨h.size, fun b hb => h.own b (hg b hb), h.out, h.less⟩
theorem Row.lt {w : World} {b : Nat} {row : Array Value} (h : Row w b row) : b < w.heap.size := by
 obtain ⟨t, h⟩ := h
 exact (Array.getElem?_eq_some_iff.1 h).1
theorem RowS.lt {w : World} {b : Nat} {row : Array Value} (h : RowS w b row) : b < w.heap.size := by
 obtain ⟨t, fr, h⟩ := h
 exact (Array.getElem?_eq_some_iff.1 h).1
theorem Row.s {w : World} {b : Nat} {row : Array Value} (h : Row w b row) : RowS w b row := let ⟨t, h⟩ := h; ⟨t, _, h⟩
theorem Row.eq {w : World} {b : Nat} {r r' : Array Value} (h : Row w b r) (h' : Row w b r') : r = r' := by
 obtain ⟨t, h⟩ := h; obtain ⟨t', h'⟩ := h'
 rw [h] at h'; injection h' with h'; injection h'
theorem Row.keep {w w' : World} {b : Nat} {row : Array Value} (h : Row w b row) (e : w'.heap[b]? = w.heap[b]?) : Row w' b row := let ⟨t, h⟩ := h; ⟨t, e.trans h⟩
theorem RowS.keep {w w' : World} {b : Nat} {row : Array Value} (h : RowS w b row) (e : w'.heap[b]? = w.heap[b]?) : RowS w' b row := let ⟨t, fr, h⟩ := h; ⟨t, fr, e.trans h⟩
theorem Hd.keep {w w' : World} {sz : Nat} {loc : Option (Nat × Nat)} {off n : Nat} {u : Value} (h : Hd w sz loc off n u) (e : ∀ b o, loc = some (b, o) -> w'.heap[b]? = w.heap[b]?) : Hd w' sz loc off n u := by
 obtain ⟨ad, cap, hu, h⟩ := h
 refine ⟨ad, cap, hu, h.imp id ?_⟩
 rintro ⟨b, o, row, hl, hr, ha, hn, hs⟩
 exact ⟨b, o, row, hl, hr.keep (e b o hl), ha, hn, hs⟩
theorem q246.keep {α : Type} {w w' : World} {sz : Nat} {R R' : α -> List Value -> Bs -> Prop} {l : List α} {loc : Option (Nat × Nat)} {G : Bs}
  (h : q246 w sz R l loc G) (e : ∀ b, G b -> w'.heap[b]? = w.heap[b]?) (hR : ∀ x cs G', R x cs G' -> (∀ b, G' b -> G b) -> R' x cs G') : q246 w' sz R' l loc G := by
 cases loc with
 | none => exact h
 | some p =>
  obtain ⟨b, off⟩ := p
  obtain ⟨row, Gs, hr, hs, hx, he, hd, hb, hG⟩ := h
  refine ⟨row, Gs, hr.keep (e b ((hG b).2 (.inl rfl))), hs, fun i x hi => hR _ _ _ (hx i x hi) fun n hn => (hG n).2 (.inr ⟨i, hn⟩), he, hd, hb, hG⟩
theorem q525.lt {α : Type} {w : World} {R : α -> Value -> Prop} {l : List (Int × α)} {b : Nat} (h : q525 w R l b) : b < w.heap.size := by
 obtain ⟨es, c, h, _⟩ := h
 exact (Array.getElem?_eq_some_iff.1 h).1
theorem q525.keep {α : Type} {w w' : World} {R R' : α -> Value -> Prop} {l : List (Int × α)} {b : Nat} (h : q525 w R l b) (e : w'.heap[b]? = w.heap[b]?) (hR : ∀ x u, R x u -> R' x u) : q525 w' R' l b := by
 obtain ⟨es, c, h, hs, hx⟩ := h
 refine ⟨es, c, e.trans h, hs, fun i k x hi => ?_⟩
 obtain ⟨en, h1, h2, h3⟩ := hx i k x hi
 exact ⟨en, h1, h2, hR _ _ h3⟩
theorem LR.keep {w w' : World} {F F' : Bs} : ∀ (τ : Ty) (x : τ.den) (cs : List Value) (G : Bs), LR w F τ x cs G -> Stay w F w' F' G -> LR w' F' τ x cs G
 | .int _, _, _, _, h, _ => h
 | .bool, _, _, _, h, _ => h
 | .unit, _, _, _, h, _ => h
 | .pair a b, x, _, _, ⟨c1, c2, G1, G2, hc, h1, h2, hd, hG⟩, hs =>
  ⟨c1, c2, G1, G2, hc, LR.keep a _ _ _ h1 (hs.mono fun n hn => (hG n).2 (.inl hn)), LR.keep b _ _ _ h2 (hs.mono fun n hn => (hG n).2 (.inr hn)), hd, hG⟩
 | .sl a, l, _, _, ⟨he, ad, cap, hc, h⟩, hs => by
  refine ⟨he, ad, cap, hc, h.imp id ?_⟩
  rintro ⟨b, off, row, ha, hF, hr, hz, hx⟩
  have e := hs.out b hF hr.lt
  refine ⟨b, off, row, ha, fun hb => ?_, hr.keep e, hz, fun i x hi => ?_⟩
  ·rcases hs.less b hb with h | h
   ·exact hF h
   ·exact absurd hr.lt (Nat.not_lt.2 h)
  ·obtain ⟨G', hG', hl⟩ := hx i x hi
   exact ⟨G', hG', LR.keep a _ _ _ hl ⟨hs.size, fun b hb => absurd hb (hG' b), hs.out, hs.less⟩⟩
 | .ow a, l, _, G, ⟨u, hc, hh, ha⟩, hs => by
  refine ⟨u, hc, hh.keep ?_, ha.keep hs.own fun x cs G' hl hG' => LR.keep a _ _ _ hl (hs.mono hG')⟩
  intro b o hl
  rw [hl] at ha
  obtain ⟨row, Gs, _, _, _, _, _, _, hG⟩ := ha
  exact hs.own b ((hG b).2 (.inl rfl))
 | .bx a, x, _, _, ⟨b, row, G', hc, hr, hl, hb, hG⟩, hs =>
  ⟨b, row, G', hc, hr.keep (hs.own b ((hG b).2 (.inl rfl))), LR.keep a _ _ _ hl (hs.mono fun n hn => (hG n).2 (.inr hn)), hb, hG⟩
 | .mp a, l, _, _, ⟨b, hc, hm, hG⟩, hs =>
  ⟨b, hc, hm.keep (hs.own b ((hG b).2 rfl)) fun x u h => LR.keep a x [u] _ h (hs.mono fun n hn => hn.elim), hG⟩
theorem q80 {row : Array Value} {o n : Nat} (h : o + n <= row.size) : (seg row o n).length = n := by
 simp only [seg, y154, List.length_drop, y156]
 omega
theorem LR.length {w : World} {F : Bs} : ∀ (τ : Ty) (x : τ.den) (cs : List Value) (G : Bs), LR w F τ x cs G -> cs.length = τ.size
 | .int _, _, _, _, h => by rw [h.1]; rfl
 | .bool, _, _, _, h => by rw [h.1]; rfl
 | .unit, _, _, _, h => by rw [h.1]; rfl
 | .pair a b, x, _, _, ⟨c1, c2, G1, G2, hc, h1, h2, _, _⟩ => by rw [hc, y148, LR.length a _ _ _ h1, LR.length b _ _ _ h2]; rfl
 | .sl a, l, _, _, ⟨_, _, _, hc, _⟩ => by rw [hc]; rfl
 | .ow a, l, _, _, ⟨_, hc, _, _⟩ => by rw [hc]; rfl
 | .bx a, x, _, _, ⟨_, _, _, hc, _⟩ => by rw [hc]; rfl
 | .mp a, x, _, _, ⟨_, hc, _⟩ => by rw [hc]; rfl
theorem LR.iff {w : World} {F : Bs} : ∀ (τ : Ty) (x : τ.den) (cs : List Value) (G H : Bs), LR w F τ x cs G -> (∀ n, H n ↔ G n) -> LR w F τ x cs H
 | .int _, _, _, _, _, h, e => ⟨h.1, fun n hn => h.2 n ((e n).1 hn)⟩
 | .bool, _, _, _, _, h, e => ⟨h.1, fun n hn => h.2 n ((e n).1 hn)⟩
 | .unit, _, _, _, _, h, e => ⟨h.1, fun n hn => h.2 n ((e n).1 hn)⟩
 | .pair a b, x, _, _, _, ⟨c1, c2, G1, G2, hc, h1, h2, hd, hG⟩, e => ⟨c1, c2, G1, G2, hc, h1, h2, hd, fun n => (e n).trans (hG n)⟩
 | .sl a, l, _, _, _, ⟨he, r⟩, e => ⟨fun n hn => he n ((e n).1 hn), r⟩
 | .ow a, l, _, G, H, ⟨u, hc, hh, ha⟩, e => by
  refine ⟨u, hc, hh, ?_⟩
  cases hl : q198 u with
  | none => rw [hl] at ha; exact ⟨ha.1, fun n hn => ha.2 n ((e n).1 hn)⟩
  | some p =>
   obtain ⟨b, off⟩ := p
   rw [hl] at ha
   obtain ⟨row, Gs, hr, hs, hx, he, hd, hb, hG⟩ := ha
   exact ⟨row, Gs, hr, hs, hx, he, hd, hb, fun n => (e n).trans (hG n)⟩
 | .bx a, x, _, _, _, ⟨b, row, G', hc, hr, hl, hb, hG⟩, e => ⟨b, row, G', hc, hr, hl, hb, fun n => (e n).trans (hG n)⟩
 | .mp a, x, _, _, _, ⟨b, hc, hm, hG⟩, e => ⟨b, hc, hm, fun n => (e n).trans (hG n)⟩
theorem LR.lt {w : World} {F : Bs} : ∀ (τ : Ty) (x : τ.den) (cs : List Value) (G : Bs), LR w F τ x cs G -> ∀ b, G b -> b < w.heap.size
 | .int _, _, _, _, h, b, hb => absurd hb (h.2 b)
 | .bool, _, _, _, h, b, hb => absurd hb (h.2 b)
 | .unit, _, _, _, h, b, hb => absurd hb (h.2 b)
 | .pair a c, x, _, _, ⟨c1, c2, G1, G2, hc, h1, h2, hd, hG⟩, b, hb => by
  rcases (hG b).1 hb with h | h
  ·exact LR.lt a _ _ _ h1 b h
  ·exact LR.lt c _ _ _ h2 b h
 | .sl a, l, _, _, h, b, hb => absurd hb (h.1 b)
 | .ow a, l, _, G, ⟨u, hc, hh, ha⟩, b, hb => by
  cases hl : q198 u with
  | none => rw [hl] at ha; exact absurd hb (ha.2 b)
  | some p =>
   obtain ⟨b', off⟩ := p
   rw [hl] at ha
   obtain ⟨row, Gs, hr, hs, hx, he, hd, hb', hG⟩ := ha
   rcases (hG b).1 hb with rfl | ⟨i, hi⟩
   ·exact hr.lt
   ·by_cases h : i < l.length
    ·exact LR.lt a _ _ _ (hx i l[i] (y140 h)) b hi
    ·exact absurd hi (he i (Nat.not_lt.1 h) b)
 | .bx a, x, _, _, ⟨b', row, G', hc, hr, hl, hb', hG⟩, b, hb => by
  rcases (hG b).1 hb with rfl | h
  ·exact hr.lt
  ·exact LR.lt a _ _ _ hl b h
 | .mp a, x, _, _, ⟨b', hc, hm, hG⟩, b, hb => by rw [(hG b).1 hb]; exact hm.lt
end Go.Lf
namespace Go.Lf
theorem q52 {a : Ty} (h : Ty.beq a a = true) (l : List a.den) : q266 h l = l := rfl
theorem q305 {a : Ty} (h : Ty.beq a a = true) (l : List (Int × a.den)) : castM h l = l := rfl
theorem q250 {a : Ty} (h : Ty.beq a a = true) (x : a.den) : castTo h x = x := rfl
theorem Stay.less' {w : World} {F F' G : Bs} (h : ∀ b, F' b -> F b) : Stay w F w F' G := ⟨Nat.le_refl _, fun _ _ => rfl, fun _ _ _ => rfl, fun b hb => .inl (h b hb)⟩
theorem LR.sub {w : World} {F F' : Bs} {τ : Ty} {x : τ.den} {cs : List Value} {G : Bs} (h : LR w F τ x cs G) (hF : ∀ b, F' b -> F b) : LR w F' τ x cs G :=
 LR.keep τ x cs G h (Stay.less' hF)
theorem LR.plain {w : World} {F : Bs} : ∀ (τ : Ty) (x : τ.den) (cs : List Value) (G : Bs), τ.plain = true -> LR w F τ x cs G -> Emp G
 | .int _, _, _, _, _, h => h.2
 | .bool, _, _, _, _, h => h.2
 | .unit, _, _, _, _, h => h.2
 | .pair a b, x, _, _, hp, ⟨c1, c2, G1, G2, hc, h1, h2, hd, hG⟩ => by
  have hp' : (a.plain && b.plain) = true := hp
  rw [y144] at hp'
  intro n hn
  rcases (hG n).1 hn with h | h
  ·exact LR.plain a _ _ _ hp'.1 h1 n h
  ·exact LR.plain b _ _ _ hp'.2 h2 n h
 | .sl a, _, _, _, _, h => h.1
 | .ow a, _, _, _, hp, _ => by cases hp
 | .bx a, _, _, _, hp, _ => by cases hp
 | .mp a, _, _, _, hp, _ => by cases hp
def LfR (w : World) (F : Bs) (v : V) (u : Value) (G : Bs) : Prop :=
 match v with
 | .undef => Emp G
 | .int k n => u = .int k n /\ Emp G
 | .bool b => u = .bool b /\ Emp G
 | .nilp => u = .pointer none /\ Emp G
 | .nils => (∃ ad, u = .slice ad 0 0) /\ Emp G
 | .sl τ l => LR w F (.sl τ) l [u] G
 | .ow τ l => LR w F (.ow τ) l [u] G
 | .bx τ x => LR w F (.bx τ) x [u] G
 | .mp τ l => LR w F (.mp τ) l [u] G
 | .nilm => u = .map none /\ Emp G
 | _ => False
theorem LfR.keep {w w' : World} {F F' : Bs} {v : V} {u : Value} {G : Bs} (h : LfR w F v u G) (hs : Stay w F w' F' G) : LfR w' F' v u G := by
 cases v with
 | sl τ l => exact LR.keep (.sl τ) l [u] G h hs
 | ow τ l => exact LR.keep (.ow τ) l [u] G h hs
 | bx τ x => exact LR.keep (.bx τ) x [u] G h hs
 | mp τ l => exact LR.keep (.mp τ) l [u] G h hs
 | _ => exact h
theorem LfR.sub {w : World} {F F' : Bs} {v : V} {u : Value} {G : Bs} (h : LfR w F v u G) (hF : ∀ b, F' b -> F b) : LfR w F' v u G := h.keep (Stay.less' hF)
theorem LfR.iff {w : World} {F : Bs} {v : V} {u : Value} {G H : Bs} (h : LfR w F v u G) (e : ∀ n, H n ↔ G n) : LfR w F v u H := by
 have he : Emp G -> Emp H := fun hG n hn => hG n ((e n).1 hn)
 cases v with
 | sl τ l => exact LR.iff (.sl τ) l [u] G H h e
 | ow τ l => exact LR.iff (.ow τ) l [u] G H h e
 | bx τ x => exact LR.iff (.bx τ) x [u] G H h e
 | mp τ l => exact LR.iff (.mp τ) l [u] G H h e
 | nilm => exact ⟨h.1, he h.2⟩
 | undef => exact he h
 | int => exact ⟨h.1, he h.2⟩
 | bool => exact ⟨h.1, he h.2⟩
 | nilp => exact ⟨h.1, he h.2⟩
 | nils => exact ⟨h.1, he h.2⟩
 | _ => exact h
theorem LfR.lt {w : World} {F : Bs} {v : V} {u : Value} {G : Bs} (h : LfR w F v u G) : ∀ b, G b -> b < w.heap.size := by
 intro b hb
 cases v with
 | sl τ l => exact LR.lt (.sl τ) l [u] G h b hb
 | ow τ l => exact LR.lt (.ow τ) l [u] G h b hb
 | bx τ x => exact LR.lt (.bx τ) x [u] G h b hb
 | mp τ l => exact LR.lt (.mp τ) l [u] G h b hb
 | nilm => exact absurd hb (h.2 b)
 | hm => exact h.elim
 | nilz => exact h.elim
 | hz => exact h.elim
 | undef => exact absurd hb (h b)
 | int => exact absurd hb (h.2 b)
 | bool => exact absurd hb (h.2 b)
 | nilp => exact absurd hb (h.2 b)
 | nils => exact absurd hb (h.2 b)
 | agg => exact h.elim
 | tup => exact h.elim
 | ip => exact h.elim
 | hs => exact h.elim
 | hp => exact h.elim
 | fn => exact h.elim
inductive LsR (w : World) (F : Bs) : List V -> List Value -> Bs -> Prop
 | nil {G : Bs} : Emp G -> LsR w F [] [] G
 | cons {v : V} {u : Value} {vs : List V} {us : List Value} {G G1 G2 : Bs} : LfR w F v u G1 -> LsR w F vs us G2 -> Dj G1 G2 -> (∀ n, G n ↔ G1 n \/ G2 n) -> LsR w F (v :: vs) (u :: us) G
theorem LsR.length {w : World} {F : Bs} {vs : List V} {us : List Value} {G : Bs} (h : LsR w F vs us G) : us.length = vs.length := by
 induction h with
 | nil => rfl
 | cons _ _ _ _ ih => simp [ih]
theorem LsR.keep {w w' : World} {F F' : Bs} {vs : List V} {us : List Value} {G : Bs} (h : LsR w F vs us G) (hs : Stay w F w' F' G) : LsR w' F' vs us G := by
 induction h with
 | nil h => exact .nil h
 | cons h1 _ hd hG ih => exact .cons (h1.keep (hs.mono fun n hn => (hG n).2 (.inl hn))) (ih (hs.mono fun n hn => (hG n).2 (.inr hn))) hd hG
theorem LsR.sub {w : World} {F F' : Bs} {vs : List V} {us : List Value} {G : Bs} (h : LsR w F vs us G) (hF : ∀ b, F' b -> F b) : LsR w F' vs us G := h.keep (Stay.less' hF)
theorem LsR.iff {w : World} {F : Bs} {vs : List V} {us : List Value} {G H : Bs} (h : LsR w F vs us G) (e : ∀ n, H n ↔ G n) : LsR w F vs us H := by
 cases h with
 | nil h => exact .nil fun n hn => h n ((e n).1 hn)
 | cons h1 h2 hd hG => exact .cons h1 h2 hd fun n => (e n).trans (hG n)
theorem LsR.lt {w : World} {F : Bs} {vs : List V} {us : List Value} {G : Bs} (h : LsR w F vs us G) : ∀ b, G b -> b < w.heap.size := by
 induction h with
 | nil h => exact fun b hb => absurd hb (h b)
 | cons h1 _ _ hG ih =>
  intro b hb
  rcases (hG b).1 hb with h | h
  ·exact h1.lt b h
  ·exact ih b h
theorem LsR.append {w : World} {F : Bs} {vs vs' : List V} {us us' : List Value} {G1 G2 : Bs} (h : LsR w F vs us G1) (h' : LsR w F vs' us' G2) (hd : Dj G1 G2) :
  LsR w F (vs ++ vs') (us ++ us') (fun n => G1 n \/ G2 n) := by
 induction h with
 | nil he => exact h'.iff fun n => ⟨fun hn => hn.resolve_left (he n), .inr⟩
 | cons h1 _ hd' hG ih =>
  rename_i Gt Ga Gb _
  have hdb : Dj Gb G2 := fun b hb hb' => hd b ((hG b).2 (.inr hb)) hb'
  refine .cons h1 (ih hdb) ?_ ?_
  ·intro b hb hb'
   rcases hb' with h | h
   ·exact hd' b hb h
   ·exact hd b ((hG b).2 (.inl hb)) h
  ·intro n
   constructor
   ·rintro (h | h)
    ·rcases (hG n).1 h with h | h
     ·exact .inl h
     ·exact .inr (.inl h)
    ·exact .inr (.inr h)
   ·rintro (h | h | h)
    ·exact .inl ((hG n).2 (.inl h))
    ·exact .inl ((hG n).2 (.inr h))
    ·exact .inr h
theorem LsR.split {w : World} {F : Bs} : ∀ {vs vs' : List V} {us : List Value} {G : Bs}, LsR w F (vs ++ vs') us G ->
  ∃ us1 us2 G1 G2, us = us1 ++ us2 /\ LsR w F vs us1 G1 /\ LsR w F vs' us2 G2 /\ Dj G1 G2 /\ ∀ n, G n ↔ G1 n \/ G2 n
 | [], vs', us, G, h => ⟨[], us, fun _ => False, G, rfl, .nil (fun _ h => h), h, fun _ h => h.elim, fun n => ⟨.inr, fun h => h.resolve_left id⟩⟩
 | v :: vs, vs', _, G, h => by
  cases h with
  | cons h1 h2 hd hG =>
   rename_i u us Ga Gb
   obtain ⟨us1, us2, G1, G2, he, ha, hb, hd2, hG2⟩ := LsR.split (vs := vs) h2
   refine ⟨u :: us1, us2, fun n => Ga n \/ G1 n, G2, by rw [he]; rfl, .cons h1 ha (fun b hb hb' => hd b hb ((hG2 b).2 (.inl hb'))) (fun n => Iff.rfl), hb, ?_, ?_⟩
   ·rintro b (h | h) hb'
    ·exact hd b h ((hG2 b).2 (.inr hb'))
    ·exact hd2 b h hb'
   ·intro n
    constructor
    ·intro h
     rcases (hG n).1 h with h | h
     ·exact .inl (.inl h)
     ·rcases (hG2 n).1 h with h | h
      ·exact .inl (.inr h)
      ·exact .inr h
    ·rintro ((h | h) | h)
     ·exact (hG n).2 (.inl h)
     ·exact (hG n).2 (.inr ((hG2 n).2 (.inl h)))
     ·exact (hG n).2 (.inr ((hG2 n).2 (.inr h)))
theorem LsR.one {w : World} {F : Bs} {v : V} {u : Value} {G : Bs} (h : LfR w F v u G) : LsR w F [v] [u] G :=
 .cons h (.nil (G := fun _ => False) fun _ h => h) (fun _ _ h => h) fun n => ⟨.inl, fun h => h.resolve_right id⟩
theorem LsR.one_inv {w : World} {F : Bs} {v : V} {us : List Value} {G : Bs} (h : LsR w F [v] us G) : ∃ u, us = [u] /\ LfR w F v u G := by
 cases h with
 | cons h1 h2 hd hG =>
  cases h2 with
  | nil he => exact ⟨_, rfl, h1.iff fun n => ⟨fun hn => ((hG n).1 hn).resolve_right (he n), fun hn => (hG n).2 (.inl hn)⟩⟩
theorem LR.leaves {w : World} {F : Bs} : ∀ (τ : Ty) (x : τ.den) (cs : List Value) (G : Bs), LR w F τ x cs G -> LsR w F (τ.leaves x) cs G
 | .int _, _, _, _, ⟨rfl, he⟩ => LsR.one ⟨rfl, he⟩
 | .bool, _, _, _, ⟨rfl, he⟩ => LsR.one ⟨rfl, he⟩
 | .unit, _, _, _, ⟨rfl, he⟩ => .nil he
 | .pair a b, x, _, _, ⟨c1, c2, G1, G2, hc, h1, h2, hd, hG⟩ => by
  subst hc
  exact ((LR.leaves a _ _ _ h1).append (LR.leaves b _ _ _ h2) hd).iff hG
 | .sl a, l, _, G, h => by
  obtain ⟨he, ad, cap, rfl, r⟩ := h
  exact LsR.one (v := .sl a l) (G := G) ⟨he, ad, cap, rfl, r⟩
 | .ow a, l, _, G, h => by
  obtain ⟨u, rfl, r⟩ := h
  exact LsR.one (v := .ow a l) (G := G) ⟨u, rfl, r⟩
 | .bx a, x, _, G, h => by
  obtain ⟨b, row, G', rfl, r⟩ := h
  exact LsR.one (v := .bx a x) (G := G) ⟨b, row, G', rfl, r⟩
 | .mp a, x, _, G, h => by
  obtain ⟨b, rfl, r⟩ := h
  exact LsR.one (v := .mp a x) (G := G) ⟨b, rfl, r⟩
theorem Ty.leaves_length : ∀ (τ : Ty) (x : τ.den), (τ.leaves x).length = τ.size
 | .int _, _ | .bool, _ | .unit, _ | .sl _, _ | .ow _, _ | .bx _, _ | .mp _, _ => rfl
 | .pair a b, x => by simp only [Ty.leaves, y148, Ty.leaves_length a, Ty.leaves_length b]; rfl
theorem q505 {w : World} {F : Bs} {τ : Ty} {v : V} {x : τ.den} {u : Value} {G : Bs} (h : τ.ofLeaf v = some x) (hl : LfR w F v u G) :
  ∃ G1 : Bs, (∀ n, G1 n -> G n) /\ ∀ F' : Bs, (∀ b, F' b -> F b) -> (∀ b, G b -> ¬ G1 b -> ¬ F' b) -> LR w F' τ x [u] G1 := by
 unfold Ty.ofLeaf at h
 split at h
 ·split at h
  ·rename_i k k' n hk
   have := q202 hk
   subst this
   injection h with h; subst h
   exact ⟨G, fun _ h => h, fun _ _ _ => ⟨by rw [hl.1], hl.2⟩⟩
  ·cases h
 ·injection h with h; subst h
  exact ⟨G, fun _ h => h, fun _ _ _ => ⟨by rw [hl.1], hl.2⟩⟩
 ·split at h
  ·rename_i a a' l hk
   have := Ty.beq_eq hk
   subst this
   injection h with h; subst h
   exact ⟨G, fun _ h => h, fun F' hF _ => LR.sub (τ := .sl a') hl hF⟩
  ·cases h
 ·split at h
  ·split at h
   ·rename_i a a' l hk hp
    have := Ty.beq_eq hk
    subst this
    injection h with h; subst h
    refine ⟨fun _ => False, fun _ h => h.elim, fun F' hF hout => ⟨fun _ h => h, ?_⟩⟩
    obtain ⟨u', hu, ⟨ad, cap, hu', hh⟩, ha⟩ := hl
    injection hu with hu; subst hu
    rw [q52]
    have hcap : l.length <= cap := by
     rcases hh with ⟨h0, _⟩ | ⟨_, _, _, _, _, _, hn, _⟩
     ·omega
     ·exact hn
    refine ⟨ad, cap - l.length, by rw [hu', Nat.add_sub_cancel' hcap], ?_⟩
    cases hl : q198 u with
    | none => rw [hl] at ha; exact .inl ha.1
    | some p =>
     obtain ⟨b, off⟩ := p
     rw [hl] at ha
     obtain ⟨row, Gs, hr, hs, hx, he, hd, hb, hG⟩ := ha
     rcases hh with ⟨h0, hc⟩ | ⟨b', o, row', hl', hr', had, hn, hs'⟩
     ·exact .inl (y153 h0)
     ·rw [hl] at hl'
      injection hl' with hl'; injection hl' with h1 h2; subst h1; subst h2
      refine .inr ⟨b, off, row, by simpa using had, hout b ((hG b).2 (.inl rfl)) id, hr.s, hs, fun i x hi => ?_⟩
      exact ⟨Gs i, LR.plain a' _ _ _ hp (hx i x hi), (hx i x hi).sub hF⟩
   ·cases h
  ·cases h
 ·injection h with h; subst h
  obtain ⟨⟨ad, hu⟩, he⟩ := hl
  exact ⟨G, fun _ h => h, fun _ _ _ => ⟨he, ad, 0, by rw [hu]; rfl, .inl rfl⟩⟩
 ·split at h
  ·rename_i a a' l hk
   have := Ty.beq_eq hk
   subst this
   injection h with h; subst h
   exact ⟨G, fun _ h => h, fun F' hF _ => LR.sub (τ := .ow a') hl hF⟩
  ·cases h
 ·injection h with h; subst h
  obtain ⟨⟨ad, hu⟩, he⟩ := hl
  subst hu
  refine ⟨G, fun _ h => h, fun _ _ _ => ⟨_, rfl, ⟨ad, 0, rfl, .inl ⟨rfl, rfl⟩⟩, ?_⟩⟩
  have : q198 (.slice ad 0 0) = none := by cases ad <;> rfl
  rw [this]
  exact ⟨rfl, he⟩
 ·split at h
  ·rename_i a a' x hk
   have := Ty.beq_eq hk
   subst this
   injection h with h; subst h
   exact ⟨G, fun _ h => h, fun F' hF _ => LR.sub (τ := .bx a') hl hF⟩
  ·cases h
 ·split at h
  ·rename_i a a' x hk
   have := Ty.beq_eq hk
   subst this
   injection h with h; subst h
   exact ⟨G, fun _ h => h, fun F' hF _ => LR.sub (τ := .mp a') hl hF⟩
  ·cases h
 ·cases h
end Go.Lf
namespace Go.Lf
theorem q91 {w : World} {F : Bs} {τ : Ty} {v : V} {vs rest : List V} {x : τ.den} {us : List Value} {G : Bs}
  (h : q54 (τ.ofLeaf v) vs = some (x, rest)) (hl : LsR w F (v :: vs) us G) :
  ∃ us1 us2 G1 G2, us = us1 ++ us2 /\ (∀ n, G1 n -> G n) /\ (∀ n, G2 n -> G n) /\ Dj G1 G2 /\
   ∀ F' : Bs, (∀ b, F' b -> F b) -> (∀ b, G b -> ¬ G1 b -> ¬ G2 b -> ¬ F' b) -> LR w F' τ x us1 G1 /\ LsR w F' rest us2 G2 := by
 cases hl with
 | cons h1 h2 hd hG =>
  rename_i u us Ga Gb
  unfold q54 at h
  split at h
  ·rename_i x' hx
   injection h with h; injection h with hx' hr
   subst hx'; subst hr
   obtain ⟨G1, hs, hF⟩ := q505 hx h1
   refine ⟨[u], us, G1, Gb, rfl, fun n hn => (hG n).2 (.inl (hs n hn)), fun n hn => (hG n).2 (.inr hn), fun b hb => hd b (hs b hb), fun F' hF' hout => ⟨hF F' hF' ?_, h2.sub hF'⟩⟩
   intro b hb hb1
   exact hout b ((hG b).2 (.inl hb)) hb1 (fun h => hd b hb h)
  ·cases h
theorem q116 {w : World} {F : Bs} : ∀ {τ : Ty} {vs rest : List V} {x : τ.den} {us : List Value} {G : Bs}, τ.ofLeaves vs = some (x, rest) -> LsR w F vs us G ->
  ∃ us1 us2 G1 G2, us = us1 ++ us2 /\ (∀ n, G1 n -> G n) /\ (∀ n, G2 n -> G n) /\ Dj G1 G2 /\
   ∀ F' : Bs, (∀ b, F' b -> F b) -> (∀ b, G b -> ¬ G1 b -> ¬ G2 b -> ¬ F' b) -> LR w F' τ x us1 G1 /\ LsR w F' rest us2 G2
 | .unit, vs, rest, x, us, G, h, hl => by
  have h' : some ((), vs) = some (x, rest) := h
  injection h' with h'; injection h' with _ h'; subst h'
  exact ⟨[], us, fun _ => False, G, rfl, fun _ h => h.elim, fun _ h => h, fun _ h => h.elim, fun F' hF _ => ⟨⟨rfl, fun _ h => h⟩, hl.sub hF⟩⟩
 | .pair a b, vs, rest, x, us, G, h, hl => by
  have h' : (match a.ofLeaves vs with
   | some (x, vs) => match b.ofLeaves vs with
    | some (y, vs) => some ((x, y), vs)
    | none => none
   | none => none) = some (x, rest) := h
  split at h'
  ·rename_i x1 vs1 ha
   split at h'
   ·rename_i x2 vs2 hb
    injection h' with h'; injection h' with hx hr
    subst hx; subst hr
    obtain ⟨us1, us', G1, G', he, hs1, hs', hd1, H1⟩ := q116 ha hl
    let F1 : Bs := fun n => F n /\ (G n -> G1 n \/ G' n)
    have hF1 : ∀ n, F1 n -> F n := fun n h => h.1
    have ho1 : ∀ n, G n -> ¬ G1 n -> ¬ G' n -> ¬ F1 n := fun n h h1 h2 hf => (hf.2 h).elim h1 h2
    have hl' := (H1 F1 hF1 ho1).2
    obtain ⟨us2, us3, G2, G3, he2, hs2, hs3, hd2, H2⟩ := q116 hb hl'
    have hd12 : Dj G1 G2 := fun n h1 h2 => hd1 n h1 (hs2 n h2)
    have hd13 : Dj G1 G3 := fun n h1 h2 => hd1 n h1 (hs3 n h2)
    refine ⟨us1 ++ us2, us3, fun n => G1 n \/ G2 n, G3, by rw [he, he2, List.append_assoc], ?_, fun n hn => hs' n (hs3 n hn), ?_, ?_⟩
    ·rintro n (h | h)
     ·exact hs1 n h
     ·exact hs' n (hs2 n h)
    ·rintro n (h | h) h3
     ·exact hd13 n h h3
     ·exact hd2 n h h3
    ·intro F' hF' hout
     have hF'1 : ∀ n, F' n -> F1 n := by
      intro n hn
      refine ⟨hF' n hn, fun hg => ?_⟩
      apply y146
      intro hc
      have hc1 : ¬ G1 n := fun h => hc (.inl h)
      have hc2 : ¬ G' n := fun h => hc (.inr h)
      exact hout n hg (fun h => h.elim hc1 fun h => hc2 (hs2 n h)) (fun h => hc2 (hs3 n h)) hn
     have hA := (H1 F' hF' fun n hg h1 h2 => fun hn => hout n hg (fun h => h.elim h1 fun h => h2 (hs2 n h)) (fun h => h2 (hs3 n h)) hn).1
     have hB := H2 F' hF'1 fun n hg h2 h3 hn => hout n (hs' n hg) (fun h => h.elim (fun h => hd1 n h hg) h2) h3 hn
     exact ⟨⟨us1, us2, G1, G2, rfl, hA, hB.1, hd12, fun _ => Iff.rfl⟩, hB.2⟩
   ·cases h'
  ·cases h'
 | .int k, [], _, _, _, _, h, _ => by cases h
 | .bool, [], _, _, _, _, h, _ => by cases h
 | .sl a, [], _, _, _, _, h, _ => by cases h
 | .ow a, [], _, _, _, _, h, _ => by cases h
 | .bx a, [], _, _, _, _, h, _ => by cases h
 | .mp a, [], _, _, _, _, h, _ => by cases h
 | .int k, v :: vs, _, _, _, _, h, hl => q91 (τ := .int k) h hl
 | .bool, v :: vs, _, _, _, _, h, hl => q91 (τ := .bool) h hl
 | .sl a, v :: vs, _, _, _, _, h, hl => q91 (τ := .sl a) h hl
 | .ow a, v :: vs, _, _, _, _, h, hl => q91 (τ := .ow a) h hl
 | .bx a, v :: vs, _, _, _, _, h, hl => q91 (τ := .bx a) h hl
 | .mp a, v :: vs, _, _, _, _, h, hl => q91 (τ := .mp a) h hl
theorem q49 {w : World} {F : Bs} {τ : Ty} {vs : List V} {x : τ.den} {us : List Value} {G : Bs} (h : τ.ofAll vs = some x) (hl : LsR w F vs us G) :
  ∃ G1 : Bs, (∀ n, G1 n -> G n) /\ ∀ F' : Bs, (∀ b, F' b -> F b) -> (∀ b, G b -> ¬ G1 b -> ¬ F' b) -> LR w F' τ x us G1 := by
 unfold Ty.ofAll at h
 split at h
 ·rename_i x' hx
  injection h with h; subst h
  obtain ⟨us1, us2, G1, G2, he, hs1, hs2, hd, H⟩ := q116 hx hl
  have hE : us2 = [] /\ Emp G2 := by
   have := (H (fun n => False) (fun _ h => h.elim) fun _ _ _ _ h => h).2
   cases this with
   | nil h => exact ⟨rfl, h⟩
  obtain ⟨rfl, hG2⟩ := hE
  rw [List.append_nil] at he
  subst he
  exact ⟨G1, hs1, fun F' hF hout => (H F' hF fun n hg h1 _ => hout n hg h1).1⟩
 ·cases h
end Go.Lf
namespace Go.Lf
def ObR (w : World) (F : Bs) : Ob -> Option (Nat × Nat) -> Bs -> Prop
 | .box _ fs, loc, G => ∃ b row G', loc = some (b, 0) /\ Row w b row /\ LsR w F fs row.toList G' /\ ¬ G' b /\ ∀ n, G n ↔ n = b \/ G' n
 | .arr τ l, loc, G => q246 w τ.size (LR w F τ) l loc G
 | .mp τ l, loc, G => ∃ b, loc = some (b, 0) /\ q525 w (fun x u => LR w F τ x [u] (fun _ => False)) l b /\ ∀ n, G n ↔ n = b
def q35 : Ob -> Nat -> Nat -> Option V
 | .box _ fs, _, j => fs[j]?
 | .arr τ l, i, j => (l[i]?).bind fun x => (τ.leaves x)[j]?
 | .mp _ _, _, _ => none
def ix : Ob -> Nat -> Nat -> Nat
 | .box _ _, _, j => j
 | .arr τ _, i, j => i * τ.size + j
 | .mp _ _, _, j => j
def way (w : World) : Ob -> Option (Nat × Nat) -> List (Nat × Nat) -> Option (Ob × Option (Nat × Nat))
 | o, loc, [] => some (o, loc)
 | o, loc, (i, j) :: p => match loc with
  | none => none
  | some (b, off) => match q35 o i j, w.cell? ⟨b, off + ix o i j, none⟩ with
   | some (.ow τ l), some u => way w (.arr τ l) (q198 u) p
   | some (.bx τ x), some (.pointer (some a)) => way w (.box (some τ) (τ.leaves x)) (some (a.block, 0)) p
   | some (.mp τ l), some (.map (some b)) => way w (.mp τ l) (some (b, 0)) p
   | _, _ => none
def q34 (w : World) (β : Nat -> Option (Nat × Nat)) (obs : List (Nat × Ob)) (r : Ref) : Option (Ob × Option (Nat × Nat)) :=
 match get r.root obs with
 | some o => way w o (β r.root) r.path
 | none => none
inductive All2 {α β : Type} (R : α -> β -> Prop) : List α -> List β -> Prop
 | nil : All2 R [] []
 | cons {a : α} {b : β} {as : List α} {bs : List β} : R a b -> All2 R as bs -> All2 R (a :: as) (b :: bs)
theorem All2.imp {α β : Type} {R R' : α -> β -> Prop} {as : List α} {bs : List β} (h : All2 R as bs) (f : ∀ a b, a ∈ as -> R a b -> R' a b) : All2 R' as bs := by
 induction h with
 | nil => exact .nil
 | cons h _ ih => exact .cons (f _ _ (by simp) h) (ih fun a b ha => f a b (by simp [ha]))
theorem All2.length {α β : Type} {R : α -> β -> Prop} {as : List α} {bs : List β} (h : All2 R as bs) : bs.length = as.length := by
 induction h with
 | nil => rfl
 | cons _ _ ih => simp [ih]
section
variable (w : World) (β : Nat -> Option (Nat × Nat)) (obs : List (Nat × Ob)) (F : Bs)
def VRl (v : V) (u : Value) : Prop :=
 match v with
 | .undef => True
 | .int k n => u = .int k n
 | .bool b => u = .bool b
 | .nilp => u = .pointer none
 | .nils => ∃ ad, u = .slice ad 0 0
 | .sl τ l => ∃ G, LR w F (.sl τ) l [u] G
 | .ip τ x j => ∃ b off row G, u = .pointer (some ⟨b, off + j, none⟩) /\ ¬ F b /\ RowS w b row /\ Emp G /\ LR w F τ x (seg row off τ.size) G
 | .hs r off n wh => ∃ ad cap, u = .slice ad n cap /\ ∀ o loc, q34 w β obs r = some (o, loc) -> ∃ τ l, o = .arr τ l /\ Hd w τ.size loc off n u /\ off + n <= l.length /\ (wh = true -> off = 0 /\ n = l.length)
 | .hp r i j => ∃ ad, u = .pointer (some ad) /\ ∀ o loc, q34 w β obs r = some (o, loc) -> ∃ b off, loc = some (b, off) /\ ad = ⟨b, off + ix o i j, none⟩
 | .hm r => ∃ b, u = .map (some b) /\ ∀ o loc, q34 w β obs r = some (o, loc) -> loc = some (b, 0)
 | .nilm => u = .map none
 | .nilz => u = .slice none 0 0
 | .hz k n => ∃ ad cap, u = .slice ad n cap /\ (ad = none ↔ n = 0) /\ ∀ o loc, q34 w β obs ⟨k, []⟩ = some (o, loc) -> ∃ τ l, o = .arr τ l /\ Hd w τ.size loc 0 n u /\ n = l.length
 | _ => False
def VRa (v : V) (u : Value) : Prop :=
 match v with
 | .agg fs => ∃ us, u = .agg us /\ All2 (VRl w β obs F) fs us.toList
 | .fn f caps => ∃ us, u = .func (.func f) #[] us /\ All2 (VRl w β obs F) caps us.toList
 | v => VRl w β obs F v u
def VR (v : V) (u : Value) : Prop :=
 match v with
 | .tup vs => ∃ us, u = .tuple us /\ All2 (VRa w β obs F) vs us.toList
 | v => VRa w β obs F v u
end
def q37 : V -> List Ref
 | .hs r _ _ _ => [r]
 | .hp r _ _ => [r]
 | .hm r => [r]
 | .hz k _ => [⟨k, []⟩]
 | _ => []
def q31 : V -> List Ref
 | .agg fs => fs.flatMap q37
 | .fn _ fs => fs.flatMap q37
 | v => q37 v
def q24 : V -> List Ref
 | .tup vs => vs.flatMap q31
 | v => q31 v
def Ob.like : Ob -> Ob -> Prop
 | .box _ _, .box _ _ => True
 | .arr τ l, .arr τ' l' => τ = τ' /\ l.length = l'.length
 | .mp _ _, .mp _ _ => True
 | _, _ => False
theorem Ob.like.refl : ∀ o : Ob, o.like o
 | .box _ _ => trivial
 | .arr _ _ => ⟨rfl, rfl⟩
 | .mp _ _ => trivial
theorem q520 {o o' : Ob} (h : o.like o') (i j : Nat) : ix o i j = ix o' i j := by
 cases o <;> cases o' <;> first | rfl | (obtain ⟨rfl, _⟩ := h; rfl) | exact h.elim
def q46 (w : World) (β : Nat -> Option (Nat × Nat)) (obs : List (Nat × Ob)) (w' : World) (β' : Nat -> Option (Nat × Nat)) (obs' : List (Nat × Ob)) (r : Ref) : Prop :=
 ∀ o' loc, q34 w' β' obs' r = some (o', loc) -> ∃ o, q34 w β obs r = some (o, loc) /\ o.like o' /\
  ∀ b off, loc = some (b, off) -> ∀ row, Row w b row -> ∃ row', Row w' b row' /\ row'.size = row.size
theorem Hd.keep' {w w' : World} {sz : Nat} {loc : Option (Nat × Nat)} {off n : Nat} {u : Value} (h : Hd w sz loc off n u)
  (e : ∀ b o, loc = some (b, o) -> ∀ row, Row w b row -> ∃ row', Row w' b row' /\ row'.size = row.size) : Hd w' sz loc off n u := by
 obtain ⟨ad, cap, hu, h⟩ := h
 refine ⟨ad, cap, hu, h.imp id ?_⟩
 rintro ⟨b, o, row, hl, hr, ha, hn, hs⟩
 obtain ⟨row', hr', hz⟩ := e b o hl row hr
 exact ⟨b, o, row', hl, hr', ha, hn, by rw [hz]; exact hs⟩
section
variable {w w' : World} {β β' : Nat -> Option (Nat × Nat)} {obs obs' : List (Nat × Ob)} {F F' : Bs}
theorem VRl.keep {v : V} {u : Value} (h : VRl w β obs F v u) (hs : Stay w F w' F' (fun _ => False)) (hr : ∀ r, r ∈ q37 v -> q46 w β obs w' β' obs' r) : VRl w' β' obs' F' v u := by
 cases v with
 | sl τ l =>
  obtain ⟨G, hl⟩ := h
  exact ⟨G, LR.keep (.sl τ) l [u] G hl ⟨hs.size, fun b hb => absurd hb (hl.1 b), hs.out, hs.less⟩⟩
 | ip τ x j =>
  obtain ⟨b, off, row, G, hu, hF, hrow, hE, hl⟩ := h
  have e := hs.out b hF hrow.lt
  refine ⟨b, off, row, G, hu, fun hb => ?_, hrow.keep e, hE, LR.keep τ x _ G hl ⟨hs.size, fun b hb => absurd hb (hE b), hs.out, hs.less⟩⟩
  rcases hs.less b hb with h | h
  ·exact hF h
  ·exact absurd hrow.lt (Nat.not_lt.2 h)
 | hs r off n wh =>
  obtain ⟨ad, cap, hu, h⟩ := h
  refine ⟨ad, cap, hu, fun o' loc hat => ?_⟩
  obtain ⟨o, hat0, hlike, hsz⟩ := hr r (by simp [q37]) o' loc hat
  obtain ⟨τ, l, rfl, hh, hn, hw⟩ := h o loc hat0
  cases o' with
  | box _ _ => exact hlike.elim
  | mp _ _ => exact hlike.elim
  | arr τ' l' =>
   obtain ⟨rfl, hlen⟩ := hlike
   exact ⟨τ, l', rfl, hh.keep' hsz, by rw [<- hlen]; exact hn, fun e => ⟨(hw e).1, by rw [<- hlen]; exact (hw e).2⟩⟩
 | hp r i j =>
  obtain ⟨ad, hu, h⟩ := h
  refine ⟨ad, hu, fun o' loc hat => ?_⟩
  obtain ⟨o, hat0, hlike, _⟩ := hr r (by simp [q37]) o' loc hat
  obtain ⟨b, off, hl, ha⟩ := h o loc hat0
  exact ⟨b, off, hl, by rw [<- q520 hlike]; exact ha⟩
 | hm r =>
  obtain ⟨b, hu, h⟩ := h
  refine ⟨b, hu, fun o' loc hat => ?_⟩
  obtain ⟨o, hat0, _, _⟩ := hr r (by simp [q37]) o' loc hat
  exact h o loc hat0
 | hz k n =>
  obtain ⟨ad, cap, hu, hn0, h⟩ := h
  refine ⟨ad, cap, hu, hn0, fun o' loc hat => ?_⟩
  obtain ⟨o, hat0, hlike, hsz⟩ := hr ⟨k, []⟩ (by simp [q37]) o' loc hat
  obtain ⟨τ, l, rfl, hh, hn⟩ := h o loc hat0
  cases o' with
  | box _ _ => exact hlike.elim
  | mp _ _ => exact hlike.elim
  | arr τ' l' =>
   obtain ⟨rfl, hlen⟩ := hlike
   exact ⟨τ, l', rfl, hh.keep' hsz, by rw [<- hlen]; exact hn⟩
 | _ => exact h
theorem VRa.keep {v : V} {u : Value} (h : VRa w β obs F v u) (hs : Stay w F w' F' (fun _ => False)) (hr : ∀ r, r ∈ q31 v -> q46 w β obs w' β' obs' r) : VRa w' β' obs' F' v u := by
 cases v with
 | agg fs =>
  obtain ⟨us, hu, h⟩ := h
  exact ⟨us, hu, h.imp fun a b ha hab => hab.keep hs fun r hm => hr r (List.mem_flatMap.2 ⟨a, ha, hm⟩)⟩
 | fn f fs =>
  obtain ⟨us, hu, h⟩ := h
  exact ⟨us, hu, h.imp fun a b ha hab => hab.keep hs fun r hm => hr r (List.mem_flatMap.2 ⟨a, ha, hm⟩)⟩
 | undef => trivial
 | int k n => exact VRl.keep (v := .int k n) h hs hr
 | bool b => exact VRl.keep (v := .bool b) h hs hr
 | nilp => exact VRl.keep (v := .nilp) h hs hr
 | nils => exact VRl.keep (v := .nils) h hs hr
 | sl τ l => exact VRl.keep (v := .sl τ l) h hs hr
 | ip τ x j => exact VRl.keep (v := .ip τ x j) h hs hr
 | hs r off n wh => exact VRl.keep (v := .hs r off n wh) h hs hr
 | hp r i j => exact VRl.keep (v := .hp r i j) h hs hr
 | hm r => exact VRl.keep (v := .hm r) h hs hr
 | nilm => exact h
 | nilz => exact h
 | hz k n => exact VRl.keep (v := .hz k n) h hs hr
 | ow => exact h.elim
 | bx => exact h.elim
 | mp => exact h.elim
 | tup => exact h.elim
theorem VR.keep {v : V} {u : Value} (h : VR w β obs F v u) (hs : Stay w F w' F' (fun _ => False)) (hr : ∀ r, r ∈ q24 v -> q46 w β obs w' β' obs' r) : VR w' β' obs' F' v u := by
 cases v with
 | tup vs =>
  obtain ⟨us, hu, h⟩ := h
  exact ⟨us, hu, h.imp fun a b ha hab => VRa.keep hab hs fun r hm => hr r (List.mem_flatMap.2 ⟨a, ha, hm⟩)⟩
 | undef => trivial
 | int k n => exact VRa.keep (v := .int k n) h hs hr
 | bool b => exact VRa.keep (v := .bool b) h hs hr
 | nilp => exact VRa.keep (v := .nilp) h hs hr
 | nils => exact VRa.keep (v := .nils) h hs hr
 | sl τ l => exact VRa.keep (v := .sl τ l) h hs hr
 | ip τ x j => exact VRa.keep (v := .ip τ x j) h hs hr
 | hs r off n wh => exact VRa.keep (v := .hs r off n wh) h hs hr
 | hp r i j => exact VRa.keep (v := .hp r i j) h hs hr
 | agg fs => exact VRa.keep (v := .agg fs) h hs hr
 | fn f fs => exact VRa.keep (v := .fn f fs) h hs hr
 | hm r => exact VRa.keep (v := .hm r) h hs hr
 | nilm => exact h
 | nilz => exact h
 | hz k n => exact VRa.keep (v := .hz k n) h hs hr
 | ow => exact h.elim
 | bx => exact h.elim
 | mp => exact h.elim
end
structure ObsR (w : World) (E F : Bs) (β : Nat -> Option (Nat × Nat)) (obs : List (Nat × Ob)) (Gk : Nat -> Bs) : Prop where
 rel : ∀ k o, get k obs = some o -> ObR w F o (β k) (Gk k)
 dj : ∀ k k' o o', get k obs = some o -> get k' obs = some o' -> k ≠ k' -> Dj (Gk k) (Gk k')
 cov : ∀ b, F b ↔ E b \/ ∃ k o, get k obs = some o /\ Gk k b
 out : ∀ k o, get k obs = some o -> Dj (Gk k) E
 elt : ∀ b, E b -> b < w.heap.size
theorem ObR.keep {w w' : World} {F F' : Bs} {o : Ob} {loc : Option (Nat × Nat)} {G : Bs} (h : ObR w F o loc G) (hs : Stay w F w' F' G) : ObR w' F' o loc G := by
 cases o with
 | box t fs =>
  obtain ⟨b, row, G', hl, hr, hls, hb, hG⟩ := h
  exact ⟨b, row, G', hl, hr.keep (hs.own b ((hG b).2 (.inl rfl))), hls.keep (hs.mono fun n hn => (hG n).2 (.inr hn)), hb, hG⟩
 | arr τ l =>
  exact q246.keep h hs.own fun x cs G' hl hG' => LR.keep τ _ _ _ hl (hs.mono hG')
 | mp τ l =>
  obtain ⟨b, hl, hm, hG⟩ := h
  exact ⟨b, hl, hm.keep (hs.own b ((hG b).2 rfl)) fun x u h => LR.keep τ x [u] _ h (hs.mono fun n hn => hn.elim), hG⟩
theorem ObR.iff {w : World} {F : Bs} {o : Ob} {loc : Option (Nat × Nat)} {G H : Bs} (h : ObR w F o loc G) (e : ∀ n, H n ↔ G n) : ObR w F o loc H := by
 cases o with
 | box t fs =>
  obtain ⟨b, row, G', hl, hr, hls, hb, hG⟩ := h
  exact ⟨b, row, G', hl, hr, hls, hb, fun n => (e n).trans (hG n)⟩
 | arr τ l =>
  cases loc with
  | none => exact ⟨h.1, fun n hn => h.2 n ((e n).1 hn)⟩
  | some p =>
   obtain ⟨row, Gs, hr, hs, hx, he, hd, hb, hG⟩ := h
   exact ⟨row, Gs, hr, hs, hx, he, hd, hb, fun n => (e n).trans (hG n)⟩
 | mp τ l =>
  obtain ⟨b, hl, hm, hG⟩ := h
  exact ⟨b, hl, hm, fun n => (e n).trans (hG n)⟩
theorem ObR.lt {w : World} {F : Bs} {o : Ob} {loc : Option (Nat × Nat)} {G : Bs} (h : ObR w F o loc G) : ∀ b, G b -> b < w.heap.size := by
 intro b hb
 cases o with
 | box t fs =>
  obtain ⟨b', row, G', hl, hr, hls, hb', hG⟩ := h
  rcases (hG b).1 hb with rfl | h
  ·exact hr.lt
  ·exact hls.lt b h
 | arr τ l =>
  cases loc with
  | none => exact absurd hb (h.2 b)
  | some p =>
   obtain ⟨b', off⟩ := p
   obtain ⟨row, Gs, hr, hs, hx, he, hd, hb', hG⟩ := h
   rcases (hG b).1 hb with rfl | ⟨i, hi⟩
   ·exact hr.lt
   ·by_cases h : i < l.length
    ·exact LR.lt τ _ _ _ (hx i l[i] (y140 h)) b hi
    ·exact absurd hi (he i (Nat.not_lt.1 h) b)
 | mp τ l =>
  obtain ⟨b', hl, hm, hG⟩ := h
  rw [(hG b).1 hb]
  exact hm.lt
theorem LsR.get {w : World} {F : Bs} : ∀ {vs : List V} {us : List Value} {G : Bs}, LsR w F vs us G -> ∀ (j : Nat) (v : V), vs[j]? = some v -> ∃ u G1, us[j]? = some u /\ LfR w F v u G1 /\ ∀ n, G1 n -> G n
 | _, _, _, .nil _, j, v, h => by simp at h
 | _, _, _, .cons (u := u) (G1 := G1) h1 h2 hd hG, j, v, h => by
  cases j with
  | zero =>
   simp at h
   subst h
   exact ⟨u, G1, rfl, h1, fun n hn => (hG n).2 (.inl hn)⟩
  | succ j =>
   obtain ⟨u', G', hu, hl, hs⟩ := LsR.get h2 j v (by simpa using h)
   exact ⟨u', G', by simpa using hu, hl, fun n hn => (hG n).2 (.inr (hs n hn))⟩
theorem q42 {w : World} {b i : Nat} {row : Array Value} {u : Value} (h : RowS w b row) (hi : row[i]? = some u) : w.cell? ⟨b, i, none⟩ = some u := by
 obtain ⟨t, fr, h⟩ := h
 simp [World.cell?, h, hi]
theorem q88 {row : Array Value} {o n j : Nat} {u : Value} (h : (seg row o n)[j]? = some u) : row[o + j]? = some u := by
 unfold seg at h
 rw [List.getElem?_take] at h
 split at h
 ·rw [List.getElem?_drop] at h
  simpa using h
 ·cases h
theorem q271 {w : World} {F : Bs} {o : Ob} {loc : Option (Nat × Nat)} {G : Bs} {i j : Nat} {v : V} (h : ObR w F o loc G) (hv : q35 o i j = some v) :
  ∃ b off u G1, loc = some (b, off) /\ G b /\ w.cell? ⟨b, off + ix o i j, none⟩ = some u /\ LfR w F v u G1 /\ (∀ n, G1 n -> G n) /\ (∀ n, G1 n -> n ≠ b) := by
 cases o with
 | box t fs =>
  obtain ⟨b, row, G', hl, hr, hls, hb, hG⟩ := h
  obtain ⟨u, G1, hu, hlf, hs⟩ := hls.get j v hv
  refine ⟨b, 0, u, G1, hl, (hG b).2 (.inl rfl), ?_, hlf, fun n hn => (hG n).2 (.inr (hs n hn)), fun n hn e => hb (e ▸ hs n hn)⟩
  simp only [ix, Nat.zero_add]
  exact q42 hr.s (by simpa using hu)
 | arr τ l =>
  simp only [q35] at hv
  cases hx : l[i]? with
  | none => rw [hx] at hv; cases hv
  | some x =>
   rw [hx] at hv
   cases loc with
   | none => rw [h.1] at hx; simp at hx
   | some p =>
    obtain ⟨b, off⟩ := p
    obtain ⟨row, Gs, hr, hs, hxs, he, hd, hb, hG⟩ := h
    obtain ⟨u, G1, hu, hlf, hsub⟩ := (LR.leaves τ x _ _ (hxs i x hx)).get j v hv
    refine ⟨b, off, u, G1, rfl, (hG b).2 (.inl rfl), ?_, hlf, fun n hn => (hG n).2 (.inr ⟨i, hsub n hn⟩), fun n hn e => hb i (e ▸ hsub n hn)⟩
    have := q88 hu
    simp only [ix]
    rw [<- Nat.add_assoc]
    exact q42 hr.s this
 | mp τ l => cases hv
end Go.Lf
namespace Go.Lf
def Lets (F G : Bs) (Φ : Bs -> Bs -> Prop) : Prop :=
 ∃ G1 : Bs, (∀ n, G1 n -> G n) /\ ∀ F' : Bs, (∀ n, F' n -> F n) -> (∀ n, G n -> ¬ G1 n -> ¬ F' n) -> Φ F' G1
theorem Lets.intro {F G : Bs} {Φ : Bs -> Bs -> Prop} (h : ∀ F' : Bs, (∀ n, F' n -> F n) -> Φ F' G) : Lets F G Φ := ⟨G, fun _ h => h, fun F' hF _ => h F' hF⟩
theorem Lets.imp {F G : Bs} {Φ Ψ : Bs -> Bs -> Prop} (h : Lets F G Φ) (f : ∀ F' G', (∀ n, F' n -> F n) -> (∀ n, G' n -> G n) -> Φ F' G' -> Ψ F' G') : Lets F G Ψ :=
 let ⟨G1, hs, H⟩ := h
 ⟨G1, hs, fun F' hF ho => f F' G1 hF hs (H F' hF ho)⟩
theorem Lets.bind {F G : Bs} {Φ Ψ : Bs -> Bs -> Prop} (h : Lets F G Φ) (f : ∀ F' G', (∀ n, F' n -> F n) -> (∀ n, G' n -> G n) -> Φ F' G' -> Lets F' G' Ψ) : Lets F G Ψ := by
 obtain ⟨G1, hs, H⟩ := h
 let Fm : Bs := fun n => F n /\ (G n -> G1 n)
 have hFm : ∀ n, Fm n -> F n := fun n h => h.1
 obtain ⟨G2, hs2, H2⟩ := f Fm G1 hFm hs (H Fm hFm fun n hg h1 hf => h1 (hf.2 hg))
 refine ⟨G2, fun n hn => hs n (hs2 n hn), fun F' hF ho => ?_⟩
 refine H2 F' (fun n hn => ⟨hF n hn, fun hg => y146 fun h1 => ho n hg (fun h2 => h1 (hs2 n h2)) hn⟩) fun n h1 h2 hn => ho n (hs n h1) h2 hn
theorem Lets.beside {F G K : Bs} {Φ Ψ : Bs -> Bs -> Prop} (h : Lets F G Φ) (hd : Dj G K)
  (f : ∀ F' G', (∀ n, F' n -> F n) -> (∀ n, G' n -> G n) -> Φ F' G' -> Ψ F' (fun n => G' n \/ K n)) : Lets F (fun n => G n \/ K n) Ψ := by
 obtain ⟨G1, hs, H⟩ := h
 refine ⟨fun n => G1 n \/ K n, fun n hn => hn.imp (hs n) id, fun F' hF ho => f F' G1 hF hs (H F' hF fun n hg h1 => ho n (.inl hg) fun h => h.elim h1 (hd n hg))⟩
theorem Lets.iff {F G H : Bs} {Φ : Bs -> Bs -> Prop} (h : Lets F G Φ) (e : ∀ n, H n ↔ G n) : Lets F H Φ :=
 let ⟨G1, hs, f⟩ := h
 ⟨G1, fun n hn => (e n).2 (hs n hn), fun F' hF ho => f F' hF fun n hg => ho n ((e n).2 hg)⟩
theorem Lets.less {F F1 G : Bs} {Φ : Bs -> Bs -> Prop} (h : Lets F G Φ) (hF : ∀ n, F1 n -> F n) : Lets F1 G Φ :=
 let ⟨G1, hs, f⟩ := h
 ⟨G1, hs, fun F' hF' ho => f F' (fun n hn => hF n (hF' n hn)) ho⟩
theorem Lets.more {F G H : Bs} {Φ : Bs -> Bs -> Prop} (h : Lets F G Φ) (e : ∀ n, G n -> H n) : Lets F H Φ :=
 let ⟨G1, hs, f⟩ := h
 ⟨G1, fun n hn => e n (hs n hn), fun F' hF ho => f F' hF fun n hg => ho n (e n hg)⟩
def q104 (row row' : Array Value) (a : Nat) (us : List Value) : Prop :=
 a + us.length <= row.size /\ row'.toList = row.toList.take a ++ us ++ row.toList.drop (a + us.length)
theorem q104.size {row row' : Array Value} {a : Nat} {us : List Value} (h : q104 row row' a us) : row'.size = row.size := by
 have := congrArg List.length h.2
 simp only [y156, y148, y154, List.length_drop] at this
 have := h.1
 omega
structure q403 (w : World) (F : Bs) (w' : World) (F' : Bs) (b : Nat) (G : Bs) : Prop where
 size : w.heap.size <= w'.heap.size
 own : ∀ c, G c -> c ≠ b -> w'.heap[c]? = w.heap[c]?
 out : ∀ c, ¬ F c -> c < w.heap.size -> w'.heap[c]? = w.heap[c]?
 less : ∀ c, F' c -> F c \/ w.heap.size <= c
theorem q403.stay {w w' : World} {F F' G H : Bs} {b : Nat} (h : q403 w F w' F' b G) (hs : ∀ c, H c -> G c) (hb : ¬ H b) : Stay w F w' F' H :=
 ⟨h.size, fun c hc => h.own c (hs c hc) fun e => hb (e ▸ hc), h.out, h.less⟩
theorem q403.sub {w w' : World} {F F' F'' G : Bs} {b : Nat} (h : q403 w F w' F' b G) (hs : ∀ c, F'' c -> F' c) : q403 w F w' F'' b G :=
 ⟨h.size, h.own, h.out, fun c hc => h.less c (hs c hc)⟩
theorem q87 {α : Type} (l : List α) (j n : Nat) : l = l.take j ++ ((l.drop j).take n ++ l.drop (j + n)) := by
 rw [<- List.drop_drop, List.take_append_drop, List.take_append_drop]
end Go.Lf
namespace Go.Lf
theorem q104.get {row row' : Array Value} {a : Nat} {us : List Value} (h : q104 row row' a us) (q : Nat) :
  row'.toList[q]? = if q < a then row.toList[q]? else if q < a + us.length then us[q - a]? else row.toList[q]? := by
 have hl := h.1
 rw [h.2, List.append_assoc, y171, y171]
 simp only [y154, y156, List.getElem?_take, List.getElem?_drop]
 have hm : min a row.size = a := by omega
 rw [hm]
 by_cases h1 : q < a
 ·simp [h1]
 ·simp only [h1, if_false]
  by_cases h2 : q < a + us.length
  ·have : q - a < us.length := by omega
   simp [h2, this]
  ·have : ¬ q - a < us.length := by omega
   simp only [h2, this, if_false]
   congr 1
   omega
theorem q168 (row : Array Value) (o n q : Nat) : (seg row o n)[q]? = if q < n then row.toList[o + q]? else none := by
 unfold seg
 rw [List.getElem?_take]
 split
 ·rw [List.getElem?_drop]
 ·rfl
theorem seg_in {row row' : Array Value} {o j n : Nat} {us : List Value} (h : q104 row row' (o + j) us) (hj : j + us.length <= n) (hn : o + n <= row.size) :
  seg row' o n = (seg row o n).take j ++ us ++ (seg row o n).drop (j + us.length) := by
 apply List.ext_getElem?
 intro q
 rw [q168, List.append_assoc, y171, y171]
 simp only [y154, q80 hn, List.getElem?_take, List.getElem?_drop, q168]
 have hm : min j n = j := by omega
 rw [hm, h.get]
 by_cases h0 : q < n
 ·rw [if_pos h0]
  by_cases h1 : q < j
  ·have : o + q < o + j := by omega
   simp only [this, if_true, h1, h0]
  ·have : ¬ o + q < o + j := by omega
   simp only [this, if_false, h1]
   by_cases h2 : q < j + us.length
   ·have e1 : o + q < o + j + us.length := by omega
    have e2 : q - j < us.length := by omega
    simp only [e1, if_true, e2]
    congr 1
    omega
   ·have e1 : ¬ o + q < o + j + us.length := by omega
    have e2 : ¬ q - j < us.length := by omega
    have e3 : j + us.length + (q - j - us.length) < n := by omega
    simp only [e1, if_false, e2, e3, if_true]
    congr 1
    omega
 ·rw [if_neg h0]
  have e1 : ¬ q < j := by omega
  have e2 : ¬ q - j < us.length := by omega
  have e3 : ¬ j + us.length + (q - j - us.length) < n := by omega
  simp only [e1, e2, e3, if_false]
theorem seg_out {row row' : Array Value} {o a n : Nat} {us : List Value} (h : q104 row row' a us) (ho : o + n <= a \/ a + us.length <= o) : seg row' o n = seg row o n := by
 apply List.ext_getElem?
 intro q
 rw [q168, q168]
 by_cases h0 : q < n
 ·rw [if_pos h0, if_pos h0, h.get]
  rcases ho with ho | ho
  ·rw [if_pos (by omega)]
  ·rw [if_neg (by omega), if_neg (by omega)]
 ·rw [if_neg h0, if_neg h0]
theorem q146 : ∀ {τ : Ty} {vs rest : List V} {x : τ.den}, τ.ofLeaves vs = some (x, rest) -> vs.length = τ.size + rest.length
 | .unit, vs, rest, x, h => by
  have h' : some ((), vs) = some (x, rest) := h
  injection h' with h'; injection h' with _ h'; subst h'
  exact (Nat.zero_add _).symm
 | .pair a b, vs, rest, x, h => by
  have h' : (match a.ofLeaves vs with
   | some (x, vs) => match b.ofLeaves vs with
    | some (y, vs) => some ((x, y), vs)
    | none => none
   | none => none) = some (x, rest) := h
  split at h'
  ·rename_i x1 vs1 ha
   split at h'
   ·rename_i x2 vs2 hb
    injection h' with h'; injection h' with _ hr
    subst hr
    rw [q146 ha, q146 hb, <- Nat.add_assoc]
    rfl
   ·cases h'
  ·cases h'
 | .int k, [], _, _, h => by cases h
 | .bool, [], _, _, h => by cases h
 | .sl a, [], _, _, h => by cases h
 | .ow a, [], _, _, h => by cases h
 | .bx a, [], _, _, h => by cases h
 | .mp a, [], _, _, h => by cases h
 | .int k, v :: vs, rest, x, h => one h
 | .bool, v :: vs, rest, x, h => one h
 | .sl a, v :: vs, rest, x, h => one h
 | .ow a, v :: vs, rest, x, h => one h
 | .bx a, v :: vs, rest, x, h => one h
 | .mp a, v :: vs, rest, x, h => one h
where
 one {α : Type} {o : Option α} {v : V} {vs rest : List V} {x : α} (h : q54 o vs = some (x, rest)) : (v :: vs).length = 1 + rest.length := by
  unfold q54 at h
  split at h
  ·injection h with h; injection h with _ h; subst h; exact Nat.add_comm _ _
  ·cases h
theorem q154 {τ : Ty} {vs : List V} {x : τ.den} (h : τ.ofAll vs = some x) : vs.length = τ.size := by
 unfold Ty.ofAll at h
 split at h
 ·rename_i x' hx
  have := q146 hx
  simpa using this
 ·cases h
theorem q490 {j : Nat} {vs fs : List V} (h : j + vs.length <= fs.length) : (q43 j vs fs).length = fs.length := by
 simp only [q43, y148, y154, List.length_drop]
 omega
theorem q222 {j : Nat} {vs fs : List V} (h : (q43 j vs fs).length = fs.length) (hv : vs ≠ []) : j + vs.length <= fs.length := by
 simp only [q43, y148, y154, List.length_drop] at h
 have : 0 < vs.length := List.length_pos_iff.2 hv
 omega
def fits : Ob -> Nat -> Nat -> Nat -> Prop
 | .box _ fs, _, j, n => j + n <= fs.length
 | .arr τ l, i, j, n => i < l.length /\ j + n <= τ.size
 | .mp _ _, _, _, _ => False
theorem q272 {o : Ob} {i j : Nat} {vs : List V} {R : Type} {K : Ob -> Option R} {r : R} (hv : vs ≠ []) (hw : o.writeK i j vs K = some r) : fits o i j vs.length := by
 cases o with
 | box t fs =>
  have hw' : (bif Nat.ble (j + vs.length) fs.length then K (.box t (q43 j vs fs)) else none) = some r := hw
  cases hj : Nat.ble (j + vs.length) fs.length with
  | false => rw [hj] at hw'; cases hw'
  | true => exact y168 hj
 | arr τ l =>
  have hw' : ((l[i]?).bind fun x => match τ.ofAll (q43 j vs (τ.leaves x)) with | some y => K (.arr τ (l.set i y)) | none => none) = some r := hw
  cases hx : l[i]? with
  | none => rw [hx] at hw'; cases hw'
  | some x =>
   rw [hx] at hw'
   have hw2 : (match τ.ofAll (q43 j vs (τ.leaves x)) with | some y => K (.arr τ (l.set i y)) | none => none) = some r := hw'
   split at hw2
   ·rename_i y hy
    have := q222 (j := j) (vs := vs) (fs := τ.leaves x) (by rw [q154 hy, Ty.leaves_length]) hv
    rw [Ty.leaves_length] at this
    exact ⟨(y149.1 hx).1, this⟩
   ·cases hw2
 | mp τ l => cases hw
theorem q479 {o : Ob} {i j : Nat} {v : V} (h : q35 o i j = some v) : fits o i j 1 := by
 cases o with
 | box t fs => exact (y149.1 (h : fs[j]? = some v)).1
 | arr τ l =>
  have h' : ((l[i]?).bind fun x => (τ.leaves x)[j]?) = some v := h
  cases hx : l[i]? with
  | none => rw [hx] at h'; cases h'
  | some x =>
   rw [hx] at h'
   have h2 : (τ.leaves x)[j]? = some v := h'
   have := (y149.1 h2).1
   rw [Ty.leaves_length] at this
   exact ⟨(y149.1 hx).1, this⟩
 | mp τ l => cases h
theorem q569 {w : World} {F : Bs} {o : Ob} {loc : Option (Nat × Nat)} {G : Bs} {i j n : Nat} (h : ObR w F o loc G) (hf : fits o i j n) :
  ∃ (b off : Nat) (row : Array Value) (Gm Gr : Bs) (old : List V), loc = some (b, off) /\ Row w b row /\ off + ix o i j + n <= row.size /\
   LsR w F old (seg row (off + ix o i j) n) Gm /\ (∀ n, G n ↔ n = b \/ Gm n \/ Gr n) /\ Dj Gm Gr /\ ¬ Gm b /\ ¬ Gr b /\
   (∀ v, q35 o i j = some v -> n = 1 -> old = [v]) /\
   ∀ (vs : List V) (_ : vs.length = n) (R : Type) (K : Ob -> Option R) (r : R), o.writeK i j vs K = some r ->
   ∃ o', K o' = some r /\ o.like o' /\ (∀ (R' : Type) (K' : Ob -> Option R'), o.writeK i j vs K' = K' o') /\
   ∀ (w' : World) (F' : Bs) (us : List Value) (row' : Array Value) (Gm' : Bs), Row w' b row' -> q104 row row' (off + ix o i j) us -> us.length = vs.length ->
    Lets F' Gm' (fun F'' H => LsR w' F'' vs us H) -> Dj Gm' (fun n => n = b \/ Gr n) -> q403 w F w' F' b Gr ->
    Lets F' (fun n => Gm' n \/ (n = b \/ Gr n)) (fun F'' H => ObR w' F'' o' loc H) := by
 cases o with
 | mp τ l => exact hf.elim
 | box t fs =>
  obtain ⟨b, row, G', hl, hr, hls, hb, hG⟩ := h
  have hj' : j + n <= fs.length := hf
  have hlen := hls.length
  refine (?_ : _)
  ·skip
   obtain ⟨c1, c23, G1, G23, hc, h1, h23, hd1, hG1⟩ := (by rw [q87 fs j n] at hls; exact hls.split :
    ∃ us1 us2 G1 G2, row.toList = us1 ++ us2 /\ LsR w F (fs.take j) us1 G1 /\ LsR w F ((fs.drop j).take n ++ fs.drop (j + n)) us2 G2 /\ Dj G1 G2 /\ ∀ n, G' n ↔ G1 n \/ G2 n)
   obtain ⟨c2, c3, G2, G3, hc', h2, h3, hd2, hG2⟩ := h23.split
   subst hc'
   have l1 : c1.length = j := by rw [h1.length, y154]; omega
   have l2 : c2.length = n := by rw [h2.length, y154, List.length_drop]; omega
   have e2 : seg row j n = c2 := by unfold seg; rw [hc, <- l1, List.drop_left, <- l2, List.take_left]
   have e1 : row.toList.take j = c1 := by rw [hc, <- l1, List.take_left]
   have e3 : row.toList.drop (j + n) = c3 := by rw [hc, <- List.drop_drop, <- l1, List.drop_left, <- l2, List.drop_left]
   have hsz : j + n <= row.size := by rw [<- y156, hlen]; exact hj'
   have hnb2 : ¬ G2 b := fun h => hb ((hG1 b).2 (.inr ((hG2 b).2 (.inl h))))
   have hnb13 : ¬ (G1 b \/ G3 b) := fun h => hb (h.elim (fun h => (hG1 b).2 (.inl h)) fun h => (hG1 b).2 (.inr ((hG2 b).2 (.inr h))))
   refine ⟨b, 0, row, G2, fun n => G1 n \/ G3 n, (fs.drop j).take n, hl, hr, by simpa [ix] using hsz, by simp only [ix, Nat.zero_add]; rw [e2]; exact h2, ?_, ?_, hnb2, hnb13, ?_, ?_⟩
   ·intro n
    rw [hG, hG1, hG2]
    constructor
    ·rintro (h | h | h | h)
     ·exact .inl h
     ·exact .inr (.inr (.inl h))
     ·exact .inr (.inl h)
     ·exact .inr (.inr (.inr h))
    ·rintro (h | h | h | h)
     ·exact .inl h
     ·exact .inr (.inr (.inl h))
     ·exact .inr (.inl h)
     ·exact .inr (.inr (.inr h))
   ·rintro n hn (h | h)
    ·exact hd1 n h ((hG2 n).2 (.inl hn))
    ·exact hd2 n hn h
   ·intro v hv1 hn
    have hv1' : fs[j]? = some v := hv1
    rw [hn]
    apply List.ext_getElem?
    intro q
    rw [List.getElem?_take, List.getElem?_drop]
    cases q with
    | zero => simpa using hv1'
    | succ q => simp
   ·intro vs hvn R K r hw
    subst hvn
    have hj : Nat.ble (j + vs.length) fs.length = true := Nat.ble_eq_true_of_le hj'
    have hw' : (bif Nat.ble (j + vs.length) fs.length then K (.box t (q43 j vs fs)) else none) = some r := hw
    rw [hj] at hw'
    refine ⟨.box t (q43 j vs fs), hw', trivial, fun R' K' => ?_, ?_⟩
    ·show (bif Nat.ble (j + vs.length) fs.length then K' (.box t (q43 j vs fs)) else none) = _
     rw [hj]; rfl
    intro w' F' us row' Gm' hr' hs hu hm' hdm hbe
    simp only [ix, Nat.zero_add] at hs
    refine (hm'.beside (K := fun n => n = b \/ (G1 n \/ G3 n)) hdm (Ψ := fun F'' H => ObR w' F'' (.box t (q43 j vs fs)) loc H) ?_)
    intro F'' H hF'' hH hls'
    have hst : Stay w F w' F'' (fun n => G1 n \/ G3 n) := (hbe.sub hF'').stay (fun c hc => hc) hnb13
    have k1 := h1.keep (hst.mono fun n hn => .inl hn)
    have k3 := h3.keep (hst.mono fun n hn => .inr hn)
    have hdH : ∀ n, H n -> ¬ (n = b \/ (G1 n \/ G3 n)) := fun n hn => hdm n (hH n hn)
    have d1 : Dj G1 H := fun n h1 h2 => hdH n h2 (.inr (.inl h1))
    have d3 : Dj (fun n => G1 n \/ H n) G3 := by
     rintro n (h | h) h'
     ·exact hd1 n h ((hG2 n).2 (.inr h'))
     ·exact hdH n h (.inr (.inr h'))
    have hall := (k1.append hls' d1).append k3 d3
    refine ⟨b, row', fun n => (G1 n \/ H n) \/ G3 n, hl, hr', ?_, ?_, ?_⟩
    ·rw [hs.2, hu, e1, e3]
     exact hall
    ·rintro ((h | h) | h)
     ·exact hnb13 (.inl h)
     ·exact hdH b h (.inl rfl)
     ·exact hnb13 (.inr h)
    ·intro n
     constructor
     ·rintro (h | h | h | h)
      ·exact .inr (.inl (.inr h))
      ·exact .inl h
      ·exact .inr (.inl (.inl h))
      ·exact .inr (.inr h)
     ·rintro (h | (h | h) | h)
      ·exact .inr (.inl h)
      ·exact .inr (.inr (.inl h))
      ·exact .inl h
      ·exact .inr (.inr (.inr h))
 | arr τ l =>
  obtain ⟨hi, hfit'⟩ := (hf : i < l.length /\ j + n <= τ.size)
  have hx : l[i]? = some l[i] := y140 hi
  generalize l[i] = x at hx
  refine (?_ : _)
  ·refine (?_ : _)
   ·skip
    cases loc with
    | none => rw [h.1] at hx; simp at hx
    | some p =>
     obtain ⟨b, off⟩ := p
     obtain ⟨row, Gs, hr, hs, hxs, he, hd, hb, hG⟩ := h
     have hfit : j + n <= (τ.leaves x).length := by rw [Ty.leaves_length]; exact hfit'
     have hls := LR.leaves τ x _ _ (hxs i x hx)
     have hmul : i * τ.size + τ.size <= l.length * τ.size := by
      have : (i + 1) * τ.size <= l.length * τ.size := y162 _ hi
      rwa [Nat.succ_mul] at this
     have hseg : off + i * τ.size + τ.size <= row.size := by omega
     obtain ⟨c1, c23, G1, G23, hc, h1, h23, hd1, hG1⟩ := (by rw [q87 (τ.leaves x) j n] at hls; exact hls.split :
      ∃ us1 us2 G1 G2, seg row (off + i * τ.size) τ.size = us1 ++ us2 /\ LsR w F ((τ.leaves x).take j) us1 G1 /\ LsR w F (((τ.leaves x).drop j).take n ++ (τ.leaves x).drop (j + n)) us2 G2 /\ Dj G1 G2 /\ ∀ n, Gs i n ↔ G1 n \/ G2 n)
     obtain ⟨c2, c3, G2, G3, hc', h2, h3, hd2, hG2⟩ := h23.split
     subst hc'
     have l1 : c1.length = j := by rw [h1.length, y154]; omega
     have l2 : c2.length = n := by rw [h2.length, y154, List.length_drop]; omega
     have e1 : (seg row (off + i * τ.size) τ.size).take j = c1 := by rw [hc, <- l1, List.take_left]
     have e3 : (seg row (off + i * τ.size) τ.size).drop (j + n) = c3 := by rw [hc, <- List.drop_drop, <- l1, List.drop_left, <- l2, List.drop_left]
     have e2 : seg row (off + (i * τ.size + j)) n = c2 := by
      have : ((seg row (off + i * τ.size) τ.size).drop j).take n = c2 := by rw [hc, <- l1, List.drop_left, <- l2, List.take_left]
      rw [<- this]
      apply List.ext_getElem?
      intro q
      rw [q168, List.getElem?_take, List.getElem?_drop, q168]
      by_cases hq : q < n
      ·rw [if_pos hq, if_pos hq, if_pos (by omega)]
       congr 1; omega
      ·rw [if_neg hq, if_neg hq]
     have hnbi : ∀ n, Gs i n -> n ≠ b := fun n hn e => hb i (e ▸ hn)
     have in1 : ∀ n, G1 n -> Gs i n := fun n h => (hG1 n).2 (.inl h)
     have in2 : ∀ n, G2 n -> Gs i n := fun n h => (hG1 n).2 (.inr ((hG2 n).2 (.inl h)))
     have in3 : ∀ n, G3 n -> Gs i n := fun n h => (hG1 n).2 (.inr ((hG2 n).2 (.inr h)))
     let Gr : Bs := fun n => (G1 n \/ G3 n) \/ ∃ q, q ≠ i /\ Gs q n
     have hGrb : ¬ Gr b := by
      rintro ((h | h) | ⟨q, _, h⟩)
      ·exact hb i (in1 b h)
      ·exact hb i (in3 b h)
      ·exact hb q h
     refine ⟨b, off, row, G2, Gr, ((τ.leaves x).drop j).take n, rfl, hr, by simp only [ix]; omega, by simp only [ix]; rw [e2]; exact h2, ?_, ?_, fun h => hb i (in2 b h), hGrb, ?_, ?_⟩
     ·intro n
      rw [hG]
      constructor
      ·rintro (h | ⟨q, h⟩)
       ·exact .inl h
       ·by_cases hq : q = i
        ·subst hq
         rcases (hG1 n).1 h with h | h
         ·exact .inr (.inr (.inl (.inl h)))
         ·rcases (hG2 n).1 h with h | h
          ·exact .inr (.inl h)
          ·exact .inr (.inr (.inl (.inr h)))
        ·exact .inr (.inr (.inr ⟨q, hq, h⟩))
      ·rintro (h | h | (h | h) | ⟨q, _, h⟩)
       ·exact .inl h
       ·exact .inr ⟨i, in2 n h⟩
       ·exact .inr ⟨i, in1 n h⟩
       ·exact .inr ⟨i, in3 n h⟩
       ·exact .inr ⟨q, h⟩
     ·rintro n hn ((h | h) | ⟨q, hq, h⟩)
      ·exact hd1 n h ((hG2 n).2 (.inl hn))
      ·exact hd2 n hn h
      ·exact hd i q (Ne.symm hq) n (in2 n hn) h
     ·intro v hv1 hn
      have hv1' : ((l[i]?).bind fun x => (τ.leaves x)[j]?) = some v := hv1
      rw [hx] at hv1'
      rw [hn]
      apply List.ext_getElem?
      intro q
      rw [List.getElem?_take, List.getElem?_drop]
      cases q with
      | zero => simpa using hv1'
      | succ q => simp
     ·intro vs hvn R K r hw
      subst hvn
      have hw' : ((l[i]?).bind fun x => match τ.ofAll (q43 j vs (τ.leaves x)) with | some y => K (.arr τ (l.set i y)) | none => none) = some r := hw
      rw [hx] at hw'
      have hw2 : (match τ.ofAll (q43 j vs (τ.leaves x)) with | some y => K (.arr τ (l.set i y)) | none => none) = some r := hw'
      cases hy : τ.ofAll (q43 j vs (τ.leaves x)) with
      | none => rw [hy] at hw2; cases hw2
      | some y =>
      rw [hy] at hw2
      refine ⟨.arr τ (l.set i y), hw2, ⟨rfl, by simp⟩, fun R' K' => ?_, ?_⟩
      ·show ((l[i]?).bind fun x => match τ.ofAll (q43 j vs (τ.leaves x)) with | some y => K' (.arr τ (l.set i y)) | none => none) = _
       rw [hx]
       show (match τ.ofAll (q43 j vs (τ.leaves x)) with | some y => K' (.arr τ (l.set i y)) | none => none) = _
       rw [hy]
      intro w' F' us row' Gm' hr' hsp hu hm' hdm hbe
      simp only [ix] at hsp
      rw [<- Nat.add_assoc] at hsp
      have hstR : ∀ F'' : Bs, (∀ n, F'' n -> F' n) -> Stay w F w' F'' Gr := fun F'' hF'' => (hbe.sub hF'').stay (fun c hc => hc) hGrb
      have hel : Lets F' (fun n => Gm' n \/ (G1 n \/ G3 n)) (fun F'' H => LR w' F'' τ y (seg row' (off + i * τ.size) τ.size) H) := by
       have hd13 : Dj Gm' (fun n => G1 n \/ G3 n) := fun n hn h => hdm n hn (.inr (.inl h))
       refine Lets.bind (Φ := fun F'' H => LsR w' F'' (q43 j vs (τ.leaves x)) (seg row' (off + i * τ.size) τ.size) H) (hm'.beside hd13 ?_) ?_
       ·intro F'' H hF'' hH hls'
        have k1 := h1.keep ((hstR F'' hF'').mono fun n hn => .inl (.inl hn))
        have k3 := h3.keep ((hstR F'' hF'').mono fun n hn => .inl (.inr hn))
        have d1 : Dj G1 H := fun n h1 h2 => hd13 n (hH n h2) (.inl h1)
        have d3 : Dj (fun n => G1 n \/ H n) G3 := by
         rintro n (h | h) h'
         ·exact hd1 n h ((hG2 n).2 (.inr h'))
         ·exact hd13 n (hH n h) (.inr h')
        have hall := (k1.append hls' d1).append k3 d3
        rw [seg_in hsp (by rw [hu]; exact hfit') hseg, hu, e1, e3]
        unfold q43
        exact hall.iff fun n => by
         constructor
         ·rintro (h | h | h)
          ·exact .inl (.inr h)
          ·exact .inl (.inl h)
          ·exact .inr h
         ·rintro ((h | h) | h)
          ·exact .inr (.inl h)
          ·exact .inl h
          ·exact .inr (.inr h)
       ·intro F'' H _ _ hls'
        exact q49 hy hls'
      let K0 : Bs := fun n => n = b \/ ∃ q, q ≠ i /\ Gs q n
      have hdK : Dj (fun n => Gm' n \/ (G1 n \/ G3 n)) K0 := by
       rintro n (h | h | h) (h' | ⟨q, hq, h'⟩)
       ·exact hdm n h (.inl h')
       ·exact hdm n h (.inr (.inr ⟨q, hq, h'⟩))
       ·exact hnbi n (in1 n h) h'
       ·exact hd i q (Ne.symm hq) n (in1 n h) h'
       ·exact hnbi n (in3 n h) h'
       ·exact hd i q (Ne.symm hq) n (in3 n h) h'
      refine (Lets.beside (Ψ := fun F'' H => ObR w' F'' (.arr τ (l.set i y)) (some (b, off)) H) hel hdK ?_).iff ?_
      ·intro F'' H hF'' hH hly
       refine ⟨row', fun q => if q = i then H else Gs q, hr', by rw [hsp.size, List.length_set]; exact hs, ?_, ?_, ?_, ?_, ?_⟩
       ·intro q z hq
        by_cases hqi : q = i
        ·subst hqi
         rw [List.getElem?_set_self hi] at hq
         injection hq with hq
         subst hq
         simpa using hly
        ·rw [List.getElem?_set_ne (Ne.symm hqi)] at hq
         simp only [hqi, if_false]
         have hql : q < l.length := (y149.1 hq).1
         rw [seg_out hsp]
         ·exact LR.keep τ _ _ _ (hxs q z hq) ((hstR F'' hF'').mono fun n hn => .inr ⟨q, hqi, hn⟩)
         ·rw [hu]
          rcases Nat.lt_or_gt_of_ne hqi with hlt | hgt
          ·have : (q + 1) * τ.size <= i * τ.size := y162 _ hlt
           rw [Nat.succ_mul] at this
           exact .inl (by omega)
          ·have : (i + 1) * τ.size <= q * τ.size := y162 _ hgt
           rw [Nat.succ_mul] at this
           exact .inr (by omega)
       ·intro q hq
        rw [List.length_set] at hq
        have : q ≠ i := by omega
        simp only [this, if_false]
        exact he q hq
       ·intro p q hpq
        by_cases hp : p = i
        ·subst hp
         simp only [if_true, Ne.symm hpq, if_false]
         exact fun n hn hn' => hdK n (hH n hn) (.inr ⟨q, Ne.symm hpq, hn'⟩)
        ·by_cases hq : q = i
         ·subst hq
          simp only [hp, if_false, if_true]
          exact fun n hn hn' => hdK n (hH n hn') (.inr ⟨p, hp, hn⟩)
         ·simp only [hp, hq, if_false]
          exact hd p q hpq
       ·intro q
        by_cases hq : q = i
        ·simp only [hq, if_true]
         exact fun h => hdK b (hH b h) (.inl rfl)
        ·simp only [hq, if_false]
         exact hb q
       ·intro n
        constructor
        ·rintro (h | h | ⟨q, hq, h⟩)
         ·exact .inr ⟨i, by simpa using h⟩
         ·exact .inl h
         ·exact .inr ⟨q, by simpa [hq] using h⟩
        ·rintro (h | ⟨q, h⟩)
         ·exact .inr (.inl h)
         ·by_cases hq : q = i
          ·simp only [hq, if_true] at h
           exact .inl h
          ·simp only [hq, if_false] at h
           exact .inr (.inr ⟨q, hq, h⟩)
      ·intro n
       constructor
       ·rintro (h | h | (h | h) | h)
        ·exact .inl (.inl h)
        ·exact .inr (.inl h)
        ·exact .inl (.inr (.inl h))
        ·exact .inl (.inr (.inr h))
        ·exact .inr (.inr h)
       ·rintro ((h | h | h) | (h | h))
        ·exact .inl h
        ·exact .inr (.inr (.inl (.inl h)))
        ·exact .inr (.inr (.inl (.inr h)))
        ·exact .inr (.inl h)
        ·exact .inr (.inr (.inr h))
end Go.Lf
namespace Go.Lf
theorem q103 {R : Type} {o : Ob} {i j : Nat} {v : V} (h : q35 o i j = some v) (K : V -> Option R) : o.leafK i j K = K v := by
 cases o with
 | box t fs =>
  have h' : fs[j]? = some v := h
  show (match fs[j]? with | some v => K v | none => none) = K v
  rw [h']
 | arr τ l =>
  have h' : ((l[i]?).bind fun x => (τ.leaves x)[j]?) = some v := h
  show ((l[i]?).bind fun x => match (τ.leaves x)[j]? with | some v => K v | none => none) = K v
  cases hx : l[i]? with
  | none => rw [hx] at h'; cases h'
  | some x =>
   rw [hx] at h'
   have h2 : (τ.leaves x)[j]? = some v := h'
   show (match (τ.leaves x)[j]? with | some v => K v | none => none) = K v
   rw [h2]
 | mp τ l => cases h
theorem q180 {R : Type} {o : Ob} {i j : Nat} {K : V -> Option R} {r : R} (h : o.leafK i j K = some r) : ∃ v, q35 o i j = some v /\ K v = some r := by
 cases hv : q35 o i j with
 | some v => exact ⟨v, rfl, by rw [<- q103 hv K]; exact h⟩
 | none =>
  exfalso
  cases o with
  | box t fs =>
   have h' : fs[j]? = none := hv
   have h2 : (match fs[j]? with | some v => K v | none => none) = some r := h
   rw [h'] at h2; cases h2
  | arr τ l =>
   have h' : ((l[i]?).bind fun x => (τ.leaves x)[j]?) = none := hv
   have h2 : ((l[i]?).bind fun x => match (τ.leaves x)[j]? with | some v => K v | none => none) = some r := h
   cases hx : l[i]? with
   | none => rw [hx] at h2; cases h2
   | some x =>
    rw [hx] at h' h2
    have h3 : (τ.leaves x)[j]? = none := h'
    have h4 : (match (τ.leaves x)[j]? with | some v => K v | none => none) = some r := h2
    rw [h3] at h4; cases h4
  | mp τ l => cases h
def obOf : V -> Option Ob
 | .ow τ l => some (.arr τ l)
 | .bx τ x => some (.box (some τ) (τ.leaves x))
 | .mp τ l => some (.mp τ l)
 | _ => none
def q231 : V -> Value -> Option (Nat × Nat)
 | .ow _ _, u => q198 u
 | .bx _ _, .pointer (some a) => some (a.block, 0)
 | .mp _ _, .map (some b) => some (b, 0)
 | _, _ => none
theorem q259 {R : Type} {i j : Nat} {p : List (Nat × Nat)} {o : Ob} {K : Ob -> Option R} :
  o.goK ((i, j) :: p) K = o.leafK i j fun v => match obOf v with | some o1 => o1.goK p K | none => none := by
 show (o.leafK i j fun
  | .ow τ l => Ob.goK p (.arr τ l) K
  | .bx τ x => Ob.goK p (.box (some τ) (τ.leaves x)) K
  | .mp τ l => Ob.goK p (.mp τ l) K
  | _ => none) = _
 congr 1
 funext v
 cases v <;> rfl
theorem q118 {R : Type} {i j : Nat} {p : List (Nat × Nat)} {o : Ob} {Fn : Ob -> (Ob -> Option R) -> Option R} {K : Ob -> Option R} :
  Ob.updK ((i, j) :: p) o Fn K = o.leafK i j fun v => match obOf v with
   | some o1 => Ob.updK p o1 Fn fun o' => match o'.rest v with
    | some v' => o.writeK i j [v'] K
    | none => none
   | none => none := by
 show (o.leafK i j fun v =>
  match v with
  | .ow τ l => Ob.updK p (.arr τ l) Fn fun o' => match o'.rest v with
   | some v' => o.writeK i j [v'] K
   | none => none
  | .bx τ x => Ob.updK p (.box (some τ) (τ.leaves x)) Fn fun o' => match o'.rest v with
   | some v' => o.writeK i j [v'] K
   | none => none
  | .mp τ l => Ob.updK p (.mp τ l) Fn fun o' => match o'.rest v with
   | some v' => o.writeK i j [v'] K
   | none => none
  | _ => none) = _
 congr 1
 funext v
 cases v <;> rfl
theorem q138 {w : World} {F : Bs} {v : V} {u : Value} {G : Bs} {o : Ob} (h : LfR w F v u G) (ho : obOf v = some o) : ObR w F o (q231 v u) G := by
 cases v with
 | ow τ l =>
  injection ho with ho; subst ho
  obtain ⟨u', hu, hh, ha⟩ := h
  injection hu with hu; subst hu
  exact ha
 | bx τ x =>
  injection ho with ho; subst ho
  obtain ⟨b, row, G', hu, hr, hl, hb, hG⟩ := h
  injection hu with hu; subst hu
  exact ⟨b, row, G', rfl, hr, LR.leaves τ x _ _ hl, hb, hG⟩
 | mp τ l =>
  injection ho with ho; subst ho
  obtain ⟨b, hu, hm, hG⟩ := h
  injection hu with hu; subst hu
  exact ⟨b, rfl, hm, hG⟩
 | _ => cases ho
theorem q709 {w w' : World} {F F' : Bs} {v v' : V} {u : Value} {G G' : Bs} {o o' : Ob} (h : LfR w F v u G) (ho : obOf v = some o) (hlike : o.like o')
  (hsz : ∀ b off, q231 v u = some (b, off) -> ∀ row, Row w b row -> ∃ row', Row w' b row' /\ row'.size = row.size)
  (hr : o'.rest v = some v') (h' : Lets F' G' (fun F'' H => ObR w' F'' o' (q231 v u) H)) : Lets F' G' (fun F'' H => LfR w' F'' v' u H) := by
 cases v with
 | ow τ l =>
  injection ho with ho; subst ho
  cases o' with
  | box _ _ => exact hlike.elim
  | mp _ _ => exact hlike.elim
  | arr τ' l' =>
   obtain ⟨rfl, hlen⟩ := hlike
   have hr' : some (V.ow τ l') = some v' := hr
   injection hr' with hr'; subst hr'
   obtain ⟨u', hu, hh, _⟩ := h
   injection hu with hu; subst hu
   refine h'.imp fun F'' H _ _ hob => ⟨u, rfl, ?_, hob⟩
   rw [<- hlen]
   exact hh.keep' hsz
 | bx τ x =>
  injection ho with ho; subst ho
  cases o' with
  | arr _ _ => exact hlike.elim
  | mp _ _ => exact hlike.elim
  | box t fs =>
   have hr' : (match τ.ofAll fs with | some x => some (V.bx τ x) | none => none) = some v' := hr
   split at hr'
   ·rename_i y hy
    injection hr' with hr'; subst hr'
    obtain ⟨b, row, G0, hu, _⟩ := h
    injection hu with hu; subst hu
    refine h'.bind fun F'' H _ _ hob => ?_
    obtain ⟨b', row', G1, hloc, hrow, hls, hb, hG⟩ := hob
    injection hloc with hloc; injection hloc with hloc _; subst hloc
    have this : Lets F'' G1 (fun F3 H => LR w' F3 τ y row'.toList H) := q49 hy hls
    have hd : Dj G1 (fun n => n = b) := fun n hn e => hb (e ▸ hn)
    refine (this.beside (Ψ := fun F3 H => LfR w' F3 (.bx τ y) (.pointer (some ⟨b, 0, none⟩)) H) hd ?_).iff ?_
    ·intro F3 H3 _ hs3 hl
     exact ⟨b, row', H3, rfl, hrow, hl, fun h => hb (hs3 b h), fun n => Or.comm⟩
    ·exact fun n => (hG n).trans Or.comm
   ·cases hr'
 | mp τ l =>
  injection ho with ho; subst ho
  cases o' with
  | box _ _ => exact hlike.elim
  | arr _ _ => exact hlike.elim
  | mp τ' l' =>
   have hr' : some (V.mp τ' l') = some v' := hr
   injection hr' with hr'; subst hr'
   obtain ⟨b, hu, _⟩ := h
   injection hu with hu; subst hu
   refine h'.imp fun F'' H _ _ hob => ?_
   obtain ⟨b', hloc, hm, hG⟩ := hob
   injection hloc with hloc; injection hloc with hloc _; subst hloc
   exact ⟨b, rfl, hm, hG⟩
 | _ => cases ho
theorem q223 {w : World} {o : Ob} {b off i j : Nat} {p : List (Nat × Nat)} {v : V} {u : Value} {o1 : Ob} {F G : _} (hv : q35 o i j = some v) (hu : w.cell? ⟨b, off + ix o i j, none⟩ = some u) (ho : obOf v = some o1) (hl : LfR w F v u G) :
  way w o (some (b, off)) ((i, j) :: p) = way w o1 (q231 v u) p := by
 simp only [way, hv, hu]
 cases v with
 | ow τ l => injection ho with ho; subst ho; rfl
 | bx τ x =>
  injection ho with ho; subst ho
  obtain ⟨b', row, G', hu', _⟩ := hl
  injection hu' with hu'; subst hu'
  rfl
 | mp τ l =>
  injection ho with ho; subst ho
  obtain ⟨b', hu', _⟩ := hl
  injection hu' with hu'; subst hu'
  rfl
 | _ => cases ho
theorem q488 {row : Array Value} {a n : Nat} (h : a + n <= row.size) : q104 row row a (seg row a n) := by
 have hl : (seg row a n).length = n := q80 h
 refine ⟨by rw [hl]; exact h, ?_⟩
 rw [hl]
 unfold seg
 rw [List.append_assoc]
 exact q87 row.toList a n
theorem q274 {w : World} {F : Bs} : ∀ (p : List (Nat × Nat)) {o0 : Ob} {loc0 : Option (Nat × Nat)} {G0 : Bs} {o1 : Ob}, ObR w F o0 loc0 G0 -> o0.goK p some = some o1 ->
  ∃ (loc1 : Option (Nat × Nat)) (G1 : Bs), way w o0 loc0 p = some (o1, loc1) /\ ObR w F o1 loc1 G1 /\ (∀ n, G1 n -> G0 n) /\ (∀ (R : Type) (K : Ob -> Option R), o0.goK p K = K o1) /\
   (∀ (R : Type) (Fn : Ob -> (Ob -> Option R) -> Option R) (K : Ob -> Option R), Ob.updK p o0 Fn K = Fn o1 fun o' => Ob.updK p o0 (fun _ K' => K' o') K) /\
   ∀ (o1' : Ob) (R : Type) (K : Ob -> Option R) (r : R), o1.like o1' -> Ob.updK p o0 (fun _ K' => K' o1') K = some r ->
    ∃ o0', K o0' = some r /\ o0.like o0' /\ (∀ (R' : Type) (K' : Ob -> Option R'), Ob.updK p o0 (fun _ K' => K' o1') K' = K' o0') /\
    ∀ (w' : World) (F' G1' : Bs), Lets F' G1' (fun F'' H => ObR w' F'' o1' loc1 H) -> Dj G1' (fun n => G0 n /\ ¬ G1 n) ->
     (∀ b row, Row w b row -> G0 b -> ∃ row', Row w' b row' /\ row'.size = row.size) -> Stay w F w' F' (fun n => G0 n /\ ¬ G1 n) ->
     Lets F' (fun n => G1' n \/ (G0 n /\ ¬ G1 n)) (fun F'' H => ObR w' F'' o0' loc0 H)
 | [], o0, loc0, G0, o1, h, hg => by
  have hg' : some o0 = some o1 := hg
  injection hg' with hg'; subst hg'
  refine ⟨loc0, G0, rfl, h, fun _ h => h, fun _ _ => rfl, fun _ _ _ => rfl, fun o1' R K r hlike hK => ⟨o1', hK, hlike, fun _ _ => rfl, fun w' F' G1' hl _ _ _ => hl.iff fun n => ?_⟩⟩
  exact ⟨fun h => h.elim id fun h => absurd h.1 h.2, .inl⟩
 | (i, j) :: p, o0, loc0, G0, o1, h, hg => by
  rw [q259] at hg
  obtain ⟨v, hv, hg⟩ := q180 hg
  cases hob : obOf v with
  | none => rw [hob] at hg; cases hg
  | some os =>
   rw [hob] at hg
   have hg' : os.goK p some = some o1 := hg
   obtain ⟨b, off, row, Gm, Gr, old, hloc, hrow, hfit, hold, hG, hd, hmb, hrb, hleaf, hwr⟩ := q569 h (q479 hv)
   have hov := hleaf v hv rfl
   subst hov
   obtain ⟨u, hseg, hlf⟩ := LsR.one_inv hold
   have hcell : w.cell? ⟨b, off + ix o0 i j, none⟩ = some u := by
    refine q42 hrow.s ?_
    have : (seg row (off + ix o0 i j) 1)[0]? = some u := by rw [hseg]; rfl
    simpa using q88 this
   have hsub := q138 hlf hob
   obtain ⟨loc1, G1, hway, hob1, hs1, hgo, hupd, hclose⟩ := q274 p hsub hg'
   subst hloc
   have hwc : way w o0 (some (b, off)) ((i, j) :: p) = some (o1, loc1) := by rw [q223 hcell (hv := hv) hob hlf]; exact hway
   refine ⟨loc1, G1, hwc, hob1, fun n hn => (hG n).2 (.inr (.inl (hs1 n hn))), fun R K => ?_, fun R Fn K => ?_, fun o1' R K r hlike hK => ?_⟩
   ·rw [q259, q103 hv]
    simp only [hob]
    exact hgo R K
   ·rw [q118, q103 hv]
    simp only [hob]
    rw [hupd]
    congr 1
    funext o'
    rw [q118, q103 hv]
    simp only [hob]
   ·rw [q118, q103 hv] at hK
    simp only [hob] at hK
    obtain ⟨os', hK2, hlike2, hst2, hcl2⟩ := hclose o1' R _ r hlike hK
    cases hre : os'.rest v with
    | none => rw [hre] at hK2; cases hK2
    | some v' =>
     rw [hre] at hK2
     have hK3 : o0.writeK i j [v'] K = some r := hK2
     obtain ⟨o0', hK4, hlike4, hst4, hcl4⟩ := hwr [v'] rfl R K r hK3
     refine ⟨o0', hK4, hlike4, fun R' K' => ?_, fun w' F' G1' hl hdj hsz hstay => ?_⟩
     ·rw [q118, q103 hv]
      simp only [hob]
      rw [hst2]
      simp only [hre]
      exact hst4 R' K'
     ·
      have out : ∀ n, (Gm n /\ ¬ G1 n) -> G0 n /\ ¬ G1 n := fun n h => ⟨(hG n).2 (.inr (.inl h.1)), h.2⟩
      have hA := hcl2 w' F' G1' hl (fun n hn h => hdj n hn (out n h)) (fun b' row' hr' hg' => hsz b' row' hr' ((hG b').2 (.inr (.inl hg')))) (hstay.mono out)
      have hB := q709 hlf hob hlike2 (fun b' off' hl' row' hr' => ?_) hre hA
      ·have hb1 : ¬ G1 b := fun h => hmb (hs1 b h)
       have hrow' : Row w' b row := hrow.keep (hstay.own b ⟨(hG b).2 (.inl rfl), hb1⟩)
       have hC := hcl4 w' F' [u] row (fun n => G1' n \/ (Gm n /\ ¬ G1 n)) hrow' (by rw [<- hseg]; exact q488 hfit) rfl (hB.imp fun F'' H _ _ h => LsR.one h) ?_ ?_
       ·refine hC.iff fun n => ?_
        constructor
        ·rintro (h | ⟨h, h1⟩)
         ·exact .inl (.inl h)
         ·rcases (hG n).1 h with h | h | h
          ·exact .inr (.inl h)
          ·exact .inl (.inr ⟨h, h1⟩)
          ·exact .inr (.inr h)
        ·rintro ((h | h) | (h | h))
         ·exact .inl h
         ·exact .inr (out n h)
         ·exact .inr ⟨(hG n).2 (.inl h), h ▸ hb1⟩
         ·exact .inr ⟨(hG n).2 (.inr (.inr h)), fun h1 => hd n (hs1 n h1) h⟩
       ·rintro n (h | h) (h' | h')
        ·exact hdj n h ⟨(hG n).2 (.inl h'), h' ▸ hb1⟩
        ·exact hdj n h ⟨(hG n).2 (.inr (.inr h')), fun h1 => hd n (hs1 n h1) h'⟩
        ·exact hmb (h' ▸ h.1)
        ·exact hd n h.1 h'
       ·exact ⟨hstay.size, fun c hc _ => hstay.own c ⟨(hG c).2 (.inr (.inr hc)), fun h1 => hd c (hs1 c h1) hc⟩, hstay.out, hstay.less⟩
      ·
       have hbm : Gm b' := by
        cases hobv : os with
        | box t fs =>
         rw [hobv] at hsub
         obtain ⟨b2, row2, G2, hl2, _, _, _, hG2⟩ := hsub
         rw [hl'] at hl2
         injection hl2 with hl2; injection hl2 with hl2 _; subst hl2
         exact (hG2 b').2 (.inl rfl)
        | arr τ l =>
         rw [hobv, hl'] at hsub
         obtain ⟨row2, Gs, _, _, _, _, _, _, hG2⟩ := hsub
         exact (hG2 b').2 (.inl rfl)
        | mp τ l =>
         rw [hobv] at hsub
         obtain ⟨b2, hl2, _, hG2⟩ := hsub
         rw [hl'] at hl2
         injection hl2 with hl2; injection hl2 with hl2 _; subst hl2
         exact (hG2 b').2 rfl
       exact hsz b' row' hr' ((hG b').2 (.inr (.inl hbm)))
end Go.Lf
namespace Go.Lf
theorem q129 (b o n : Nat) : (⟨b, o, none⟩ : Addr).add n = ⟨b, o + n, none⟩ := by
 unfold Addr.add
 split
 ·rename_i h; subst h; rfl
 ·rfl
structure q121 (w w' : World) : Prop where
 os : w'.os = w.os
 tape : w'.tape = w.tape
 output : w'.output = w.output
theorem q121.refl (w : World) : q121 w w := ⟨rfl, rfl, rfl⟩
theorem q121.trans {a b c : World} (h : q121 a b) (k : q121 b c) : q121 a c := ⟨k.os.trans h.os, k.tape.trans h.tape, k.output.trans h.output⟩
theorem q173 (b : Nat) : ∀ (us : List Value) (o : Nat) (w : World), q121 w (w.setCells b o us)
 | [], _, w => q121.refl w
 | u :: us, o, w => q121.trans (b := w.setCell ⟨b, o, none⟩ u) ⟨rfl, rfl, rfl⟩ (q173 b us (o + 1) _)
theorem q186 (b : Nat) : ∀ (us : List Value) (o : Nat) (w : World), (w.setCells b o us).heap.size = w.heap.size
 | [], _, _ => rfl
 | u :: us, o, w => by
  show ((w.setCell ⟨b, o, none⟩ u).setCells b (o + 1) us).heap.size = _
  rw [q186 b us]; exact World.size_setCell _ _ _
theorem q418 (w : World) (a : Addr) (u : Value) (c : Nat) (h : c ≠ a.block) : (w.setCell a u).heap[c]? = w.heap[c]? :=
 RowKit.Below.heap_setCell w a u c h
theorem q169 (b : Nat) : ∀ (us : List Value) (o : Nat) (w : World) (c : Nat), c ≠ b -> (w.setCells b o us).heap[c]? = w.heap[c]?
 | [], _, _, _, _ => rfl
 | u :: us, o, w, c, h => by
  show ((w.setCell ⟨b, o, none⟩ u).setCells b (o + 1) us).heap[c]? = _
  rw [q169 b us (o + 1) _ c h]
  exact q418 w ⟨b, o, none⟩ u c h
theorem q513 {w : World} {b : Nat} {row : Array Value} (h : Row w b row) (o : Nat) (u : Value) : Row (w.setCell ⟨b, o, none⟩ u) b (row.setIfInBounds o u) := by
 obtain ⟨t, h⟩ := h
 refine ⟨t, ?_⟩
 simp only [World.setCell]
 rw [Array.getElem?_modify]
 simp [h]
theorem q104.nil (row : Array Value) {a : Nat} (h : a <= row.size) : q104 row row a [] := by
 refine ⟨by simpa using h, ?_⟩
 simp
theorem q208 (b : Nat) : ∀ (us : List Value) (o : Nat) (w : World) (row : Array Value), Row w b row -> o + us.length <= row.size ->
  ∃ row', Row (w.setCells b o us) b row' /\ q104 row row' o us
 | [], o, w, row, h, hs => ⟨row, h, q104.nil row (by simpa using hs)⟩
 | u :: us, o, w, row, h, hs => by
  have hs' : o + (us.length + 1) <= row.size := hs
  obtain ⟨row', hr, hsp⟩ := q208 b us (o + 1) (w.setCell ⟨b, o, none⟩ u) _ (q513 h o u) (by simp; omega)
  refine ⟨row', hr, hs, ?_⟩
  apply List.ext_getElem?
  intro q
  rw [hsp.get, List.append_assoc, y171, y171]
  simp only [y154, y156, List.getElem?_take, List.getElem?_drop, y167]
  have hm : min o row.size = o := by omega
  rw [hm]
  have hset : ∀ q, (row.setIfInBounds o u).toList[q]? = if q = o then some u else row.toList[q]? := by
   intro q
   rw [Array.toList_setIfInBounds, List.getElem?_set]
   by_cases h : o = q
   ·subst h
    have : o < row.toList.length := by rw [y156]; omega
    simp
    omega
   ·have : ¬ q = o := fun e => h e.symm
    simp [h, this]
  rw [hset]
  by_cases h1 : q < o
  ·have : q < o + 1 := by omega
   have h2 : ¬ q = o := by omega
   simp [h1, this, h2]
  ·simp only [h1, if_false]
   by_cases h2 : q = o
   ·subst h2
    simp
   ·have h3 : ¬ q < o + 1 := by omega
    simp only [h3, if_false, h2]
    by_cases h4 : q < o + 1 + us.length
    ·have h5 : q - o < us.length + 1 := by omega
     simp only [h4, if_true, h5]
     have : q - o = (q - (o + 1)) + 1 := by omega
     rw [this, List.getElem?_cons_succ]
    ·have h5 : ¬ q - o < us.length + 1 := by omega
     simp only [h4, if_false, h5]
     congr 1; omega
theorem q399 {w : World} {b : Nat} {row : Array Value} (h : Row w b row) (i : Nat) : w.frozen? ⟨b, i, none⟩ = false := by
 obtain ⟨t, h⟩ := h
 simp [World.frozen?, h]
theorem q455 {w : World} {b i : Nat} {row : Array Value} (h : Row w b row) (hi : i < row.size) : (w.cell? ⟨b, i, none⟩).isSome = true := by
 rw [q42 h.s (Array.getElem?_eq_getElem hi)]
 rfl
theorem q415 {P : Program} {w : World} {b o : Nat} {row : Array Value} {us : List Value} (h : Row w b row) (hs : o + us.length <= row.size) (h1 : ∀ u ∈ us, u.oneCell' = true) :
  (storeCells ⟨b, o, none⟩ us).run P w = .ok () (w.setCells b o us) := by
 have := run_storeCells_cells (P := P) b o us 0 w (fun j hj => q455 h (by omega)) (fun j _ => q399 h _) h1
 simpa using this
theorem q323 {P : Program} {w : World} {b o n : Nat} {row : Array Value} (h : RowS w b row) (hs : o + n <= row.size) :
  (loadCells ⟨b, o, none⟩ n).run P w = .ok (seg row o n).toArray w := by
 have := run_loadCells_list (P := P) w ⟨b, o, none⟩ (seg row o n) (fun j v hv => by
  rw [q129]
  exact q42 h (q88 hv))
 rwa [q80 hs] at this
theorem q315 {w : World} {F : Bs} {v : V} {u : Value} {G : Bs} (h : LfR w F v u G) (hv : v ≠ .undef) : u.oneCell' = true := by
 cases v with
 | undef => exact absurd rfl hv
 | int => rw [h.1]; rfl
 | bool => rw [h.1]; rfl
 | nilp => rw [h.1]; rfl
 | nils => obtain ⟨⟨ad, hu⟩, _⟩ := h; rw [hu]; rfl
 | sl τ l => obtain ⟨_, ad, cap, hu, _⟩ := h; injection hu with hu; rw [hu]; rfl
 | ow τ l => obtain ⟨u', hu, ⟨ad, cap, hu', _⟩, _⟩ := h; injection hu with hu; rw [hu, hu']; rfl
 | bx τ x => obtain ⟨b, row, G', hu, _⟩ := h; injection hu with hu; rw [hu]; rfl
 | mp => obtain ⟨b, hu, _⟩ := h; injection hu with hu; subst hu; rfl
 | nilm => rw [h.1]; rfl
 | _ => exact h.elim
theorem q74 (w : World) (o : Obj) {c : Nat} (h : c < w.heap.size) : (w.alloc o).heap[c]? = w.heap[c]? := heap_alloc_old w o c h
theorem q204 (w : World) (row : Array Value) (t : TypeId) : Row (w.alloc (.cells row t)) w.heap.size row := ⟨t, heap_alloc_new w _⟩
end Go.Lf
namespace Go.Lf
def Z0 (v : V) (u : Value) : Prop :=
 match v with
 | .int k n => u = .int k n
 | .bool b => u = .bool b
 | .nilp => u = .pointer none
 | .nils => u = .slice none 0 0
 | .nilm => u = .map none
 | .undef => u.oneCell' = true
 | _ => False
def q89 : TypeDesc -> Bool
 | .struct _ | .array _ _ => true
 | _ => false
def q576 (P : Program) (t : TypeId) : TK -> Prop
 | .int k => P.underlying t = some (.int k)
 | .bool => P.underlying t = some .bool
 | .slice e => P.underlying t = some (.slice e)
 | .ptr e => P.underlying t = some (.pointer e)
 | .map k e => P.underlying t = some (.map k e)
 | .struct fs => ∃ fields, P.underlying t = some (.struct fields) /\ All2 (fun (p : Nat × Nat) (f : Field) => f.offset = p.1 /\ p.2 ≠ 0 /\
   (∃ inf, P.info? f.type = some inf /\ inf.size = p.2) /\ ∃ d, P.underlying f.type = some d /\ q89 d = !Nat.beq p.2 1) fs fields.toList
 | .other => True
def eqFields (rec : TypeId -> List Bool -> Bool) (P : Program) : Nat -> List Bool -> List Field -> Bool
 | _, ks, [] => ks.isEmpty
 | off, ks, f :: fs => f.name != "_" && f.offset == off && (match P.info? f.type with
  | some i => decide (i.size <= ks.length) && rec f.type (ks.take i.size) && eqFields rec P (off + i.size) (ks.drop i.size) fs
  | none => false)
def eqB (P : Program) : Nat -> TypeId -> List Bool -> Bool
 | 0, _, _ => false
 | n + 1, t, ks => match P.underlying t, P.info? t, ks with
  | some (.int _), some i, [true] => i.size == 1
  | some .bool, some i, [false] => i.size == 1
  | some (.struct fs), some i, ks => !P.stoodInHeld t && i.size == ks.length && eqFields (eqB P n) P 0 ks fs.toList
  | _, _, _ => false
structure TIok (P : Program) (t : TypeId) (i : TI) : Prop where
 info : ∃ z inf, P.info? t = some inf /\ inf.size = i.size /\ inf.bytes = i.bytes /\ inf.zero = some z /\ All2 Z0 i.zero z.cells.toList /\ i.zero.length = i.size
 kind : q576 P t i.k
 flat : (∃ fs, i.k = .struct fs) \/ i.k = .other \/ ∃ inf z, P.info? t = some inf /\ inf.zero = some z /\ ∀ us, z ≠ .agg us
 eq : i.eq ≠ [] -> P.eqGuardType P.depth t = false /\ eqB P 8 t i.eq = true /\ i.eq.length = i.size /\ ∃ fs, P.underlying t = some (.struct fs)
def q81 (P : Program) (C : Ctx) : Prop := ∀ t i, get t C.ti = some i -> TIok P t i
structure FR (C : Ctx) (w : World) (E : Bs) (β : Nat -> Option (Nat × Nat)) (tm : List (Nat × V)) (obs : List (Nat × Ob)) (a : Act) (F : Bs) (Gk : Nat -> Bs) : Prop where
 tm : ∀ t v, get t tm = some v -> ∃ u, a.tmps[t]? = some u /\ VR w β obs F v u
 ob : ObsR w E F β obs Gk
 nt : a.tmps.size = C.nt
theorem q46.refl (w : World) (β : Nat -> Option (Nat × Nat)) (obs : List (Nat × Ob)) (r : Ref) : q46 w β obs w β obs r :=
 fun o' _ h => ⟨o', h, Ob.like.refl o', fun _ _ _ row hr => ⟨row, hr, rfl⟩⟩
theorem Stay.refl (w : World) (F G : Bs) : Stay w F w F G := ⟨Nat.le_refl _, fun _ _ => rfl, fun _ _ _ => rfl, fun _ h => .inl h⟩
def inR (n : Nat) (r : Ref) : Prop := n <= r.root /\ r.root < n + 4
def Good (P : Program) (o : Oper) (a : Act) (w : World) (E : Bs) (β : Nat -> Option (Nat × Nat)) (obs : List (Nat × Ob)) (F : Bs) (fresh : Nat) (v : V) (d : q32) (iv : List (Ref × Bool)) : Prop :=
 ∀ (next : Act -> World -> Prop) (Q : Exit -> Act -> World -> Prop),
  (∀ u w' β' F' Gk', ObsR w' E F' β' (q21 d obs) Gk' -> VR w' β' (q21 d obs) F' v u -> q121 w w' -> Stay w F w' F' (fun _ => False) -> (∀ b, E b -> w'.heap[b]? = w.heap[b]?) ->
   (∀ r, ¬ inR fresh r -> q57 r iv = false -> q46 w β obs w' β' (q21 d obs) r) -> next (a.put o.dst u) w') -> o.wp P a w next Q
theorem q728 {P : Program} {o : Oper} {a : Act} {w : World} {E : Bs} {β : Nat -> Option (Nat × Nat)} {obs : List (Nat × Ob)} {F : Bs} {Gk : Nat -> Bs} {fresh : Nat} {v : V} {u : Value}
  (hob : ObsR w E F β obs Gk) (hr : (execOp a.eval o).run P w = .ok (.value u) w) (hv : VR w β obs F v u) : Good P o a w E β obs F fresh v [] [] := by
 intro next Q h
 unfold Oper.wp
 rw [hr, Oper.upon_value]
 exact h u w β F Gk hob hv (q121.refl w) (Stay.refl w F _) (fun _ _ => rfl) fun r _ _ => q46.refl w β obs r
def Src (tm : List (Nat × V)) (fresh : Nat) (o : Oper) (rd : List Nat) (v : V) : Prop :=
 ∀ r ∈ q24 v, (inR fresh r /\ r.path = []) \/ ∃ x ∈ o.op.operands, ∃ q ∈ q24 (opnd tm x), q.root = r.root /\ (r.path = [] \/ r.root ∈ rd \/ q.path ≠ [])
def Keys (obs : List (Nat × Ob)) (fresh : Nat) (d : q32) (iv : List (Ref × Bool)) : Prop :=
 (∀ k ∈ q15 d, get k obs ≠ none \/ (fresh <= k /\ k < fresh + 4)) /\ ∀ p ∈ iv, p.1.root ∈ q15 d
def Stab (C : Ctx) (k : Nat) (tm : List (Nat × V)) (obs : List (Nat × Ob)) (fresh : Nat) (o : Oper) (v : V) (d : q32) (rd : List Nat) (iv : List (Ref × Bool)) : Prop :=
 ∀ (tm' : List (Nat × V)) (obs' : List (Nat × Ob)), (∀ x, x ∈ o.op.operands -> opnd tm' x = opnd tm x) -> (∀ x, x ∈ o.op.operands -> q152 tm' x = q152 tm x) ->
  (∀ q, q ∈ rd \/ q ∈ q15 d -> get q obs' = get q obs) -> ∀ (R : Type) (K : OpK R), opK C k tm' obs' fresh o K = K v d rd iv
def OpOk (P : Program) (C : Ctx) (k : Nat) (tm : List (Nat × V)) (obs : List (Nat × Ob)) (fresh : Nat) (o : Oper) (a : Act) (w : World) (E : Bs) (β : Nat -> Option (Nat × Nat)) (F : Bs) : Prop :=
 ∃ v d rd iv, Stab C k tm obs fresh o v d rd iv /\ Src tm fresh o rd v /\ Keys obs fresh d iv /\ Good P o a w E β obs F fresh v d iv
section
variable {P : Program} {C : Ctx} {k : Nat} {tm : List (Nat × V)} {obs : List (Nat × Ob)} {fresh : Nat} {o : Oper} {a : Act} {w : World} {E : Bs} {β : Nat -> Option (Nat × Nat)} {F : Bs} {Gk : Nat -> Bs}
theorem VR.undef {u : Value} : VR w β obs F .undef u := trivial
theorem q741 {v : V} {u : Value} (h : VR w β obs F v u) : VR w β obs F (un v) u := by
 cases v with
 | nilz => exact ⟨none, h⟩
 | hz k n =>
  obtain ⟨ad, cap, hu, _, h⟩ := h
  refine ⟨ad, cap, hu, fun o loc hl => ?_⟩
  obtain ⟨τ, l, e, hh, hn⟩ := h o loc hl
  exact ⟨τ, l, e, hh, by omega, fun _ => ⟨rfl, hn⟩⟩
 | _ => exact h
theorem q510 (v : V) : q24 (un v) = q24 v := by
 cases v <;> first | rfl | simp [un, q24, q31, q37]
theorem q148 (h : FR C w E β tm obs a F Gk) (x : Operand) : VR w β obs F (q152 tm x) (a.eval x) := by
 cases x with
 | tmp t =>
  show VR w β obs F ((get t tm).getD .undef) (a.tmps.getD t undef)
  cases hg : get t tm with
  | none => exact VR.undef
  | some v =>
   obtain ⟨u, hu, hv⟩ := h.tm t v hg
   have : a.tmps.getD t undef = u := by rw [Array.getD_eq_getD_getElem?, hu]; rfl
   rw [this]
   exact hv
 | const v =>
  show VR w β obs F (ofValue v) v
  unfold ofValue
  split
  ·exact rfl
  ·exact rfl
  ·exact rfl
  ·exact rfl
  ·exact rfl
  ·exact VR.undef
 | func f => exact ⟨#[], rfl, .nil⟩
 | global g => exact VR.undef
theorem q30 (h : FR C w E β tm obs a F Gk) (x : Operand) : VR w β obs F (opnd tm x) (a.eval x) := q741 (q148 h x)
theorem Src.none {v : V} {rd : List Nat} (h : q24 v = []) : Src tm fresh o rd v := by
 intro r hr; rw [h] at hr; cases hr
theorem Src.same {x : Operand} {rd : List Nat} (hx : x ∈ o.op.operands) : Src tm fresh o rd (opnd tm x) := by
 intro r hr
 refine .inr ⟨x, hx, r, hr, rfl, ?_⟩
 by_cases h : r.path = []
 ·exact .inl h
 ·exact .inr (.inr h)
theorem Src.raw {x : Operand} {rd : List Nat} (hx : x ∈ o.op.operands) : Src tm fresh o rd (q152 tm x) := by
 intro r hr
 rw [<- q510] at hr
 exact Src.same hx r hr
theorem Keys.nil : Keys obs fresh [] [] := ⟨fun _ h => (by cases h), fun _ h => (by cases h)⟩
theorem q29 {v : V} {u : Value} {rd : List Nat} (hob : ObsR w E F β obs Gk)
  (hst : Stab C k tm obs fresh o v [] rd []) (hs : Src tm fresh o rd v) (hr : (execOp a.eval o).run P w = .ok (.value u) w) (hv : VR w β obs F v u) : OpOk P C k tm obs fresh o a w E β F :=
 ⟨v, [], rd, [], hst, hs, Keys.nil, q728 hob hr hv⟩
theorem q132 {R : Type} {v : V} {K : V -> Option R} {r : R} (h : q165 v K = some r) : ∀ (R' : Type) (K' : V -> Option R'), q165 v K' = K' v := by
 cases v <;> first
  | cases h
  | exact fun _ _ => rfl
theorem q44 {kk : IntKind} {n : Int} {u : Value} (h : VR w β obs F (.int kk n) u) : u = .int kk n := h
theorem q55 {b : Bool} {u : Value} (h : VR w β obs F (.bool b) u) : u = .bool b := h
theorem q743 {R : Type} {K : OpK R} {r : R} (hf : FR C w E β tm obs a F Gk) {x : Operand} (ho : o.op = .move x \/ o.op = .assign x) (h : opK C k tm obs fresh o K = some r) : OpOk P C k tm obs fresh o a w E β F := by
 have hx : x ∈ o.op.operands := by rcases ho with ho | ho <;> rw [ho] <;> simp [Op.operands]
 have e : ∀ (tm' : List (Nat × V)) (obs' : List (Nat × Ob)) (R' : Type) (K' : OpK R'), opK C k tm' obs' fresh o K' = q165 (q152 tm' x) fun v => K' v [] [] [] := by
  intro tm' obs' R' K'
  rcases ho with ho | ho <;> (unfold opK; simp only [ho])
 rw [e] at h
 refine q29 (rd := []) hf.ob (fun tm' obs' ht htR _ R' K' => ?_) (Src.raw hx) (u := a.eval x) ?_ (q148 hf x)
 ·rw [e, htR x hx]; exact q132 h R' _
 ·rcases ho with ho | ho <;> simp [execOp, ho]
theorem op_pick {R : Type} {K : OpK R} {r : R} (hf : FR C w E β tm obs a F Gk) {c x y : Operand} (ho : o.op = .pick c x y) (h : opK C k tm obs fresh o K = some r) : OpOk P C k tm obs fresh o a w E β F := by
 have hc : c ∈ o.op.operands := by rw [ho]; simp [Op.operands]
 have hx : x ∈ o.op.operands := by rw [ho]; simp [Op.operands]
 have hy : y ∈ o.op.operands := by rw [ho]; simp [Op.operands]
 unfold opK at h
 simp only [ho] at h
 have hcr := q30 hf c
 split at h
 ·rename_i b hb
  rw [hb] at hcr
  have hcr' := q55 hcr
  cases b with
  | true =>
   refine q29 (rd := []) hf.ob (fun tm' obs' ht htR _ R' K' => ?_) (Src.raw hx) (u := a.eval x) ?_ (q148 hf x)
   ·unfold opK; simp only [ho, ht c hc, hb, htR x hx]; exact q132 h R' _
   ·simp [execOp, ho, hcr', asBool]
  | false =>
   refine q29 (rd := []) hf.ob (fun tm' obs' ht htR _ R' K' => ?_) (Src.raw hy) (u := a.eval y) ?_ (q148 hf y)
   ·unfold opK; simp only [ho, ht c hc, hb, htR y hy]; exact q132 h R' _
   ·simp [execOp, ho, hcr', asBool]
 ·cases h
theorem q540 {R : Type} {K : OpK R} {r : R} (hf : FR C w E β tm obs a F Gk) {x : Operand} (ho : o.op = .nilCheck x) (h : opK C k tm obs fresh o K = some r) : OpOk P C k tm obs fresh o a w E β F := by
 have hx : x ∈ o.op.operands := by rw [ho]; simp [Op.operands]
 unfold opK at h
 simp only [ho] at h
 have hr := q30 hf x
 split at h
 ·rename_i q i j hb
  have hr' := hr
  rw [hb] at hr'
  obtain ⟨ad, hu, _⟩ := id hr'
  refine q29 (rd := []) hf.ob (fun tm' obs' ht htR _ R' K' => ?_) (Src.same hx) (u := a.eval x) ?_ hr
  ·unfold opK; simp only [ho, ht x hx, hb]
  ·simp [execOp, ho, hu]
 ·rename_i τ y j hb
  have hr' := hr
  rw [hb] at hr'
  obtain ⟨b, off, row, G, hu, _⟩ := id hr'
  refine q29 (rd := []) hf.ob (fun tm' obs' ht htR _ R' K' => ?_) (Src.same hx) (u := a.eval x) ?_ hr
  ·unfold opK; simp only [ho, ht x hx, hb]
  ·simp [execOp, ho, hu]
 ·cases h
theorem All2.get {α β : Type} {R : α -> β -> Prop} : ∀ {as : List α} {bs : List β}, All2 R as bs -> ∀ (i : Nat) (x : α), as[i]? = some x -> ∃ y, bs[i]? = some y /\ R x y
 | _, _, .nil, i, x, h => by simp at h
 | _, _, .cons h _, 0, x, hx => by simp at hx; subst hx; exact ⟨_, rfl, h⟩
 | _, _, .cons _ h, i + 1, x, hx => by simpa using All2.get h i x (by simpa using hx)
theorem q605 {vs : List V} {i : Nat} {v : V} (h : vs[i]? = some v) (hv : q24 v = q31 v) : ∀ r ∈ q24 v, r ∈ q24 (.tup vs) := by
 intro r hr
 rw [hv] at hr
 exact List.mem_flatMap.2 ⟨v, List.mem_of_getElem? h, hr⟩
theorem Src.of {x : Operand} {v : V} {rd : List Nat} (hx : x ∈ o.op.operands) (h : ∀ r ∈ q24 v, r ∈ q24 (opnd tm x)) : Src tm fresh o rd v :=
 fun r hr => Src.same hx r (h r hr)
theorem q630 {R : Type} {K : OpK R} {r : R} (hf : FR C w E β tm obs a F Gk) {x : Operand} {i : Nat} (ho : o.op = .extract x i) (h : opK C k tm obs fresh o K = some r) : OpOk P C k tm obs fresh o a w E β F := by
 have hx : x ∈ o.op.operands := by rw [ho]; simp [Op.operands]
 unfold opK at h
 simp only [ho] at h
 have hr := q30 hf x
 split at h
 ·rename_i vs hb
  rw [hb] at hr
  obtain ⟨us, hu, hall⟩ := hr
  split at h
  ·rename_i v hv
   obtain ⟨u, hu', hva⟩ := hall.get i v hv
   have hv2 : q24 v = q31 v := by cases v <;> first | rfl | exact hva.elim
   refine q29 (rd := []) hf.ob (fun tm' obs' ht htR _ R' K' => ?_) (Src.of hx (hb ▸ q605 hv hv2)) (u := u) ?_ ?_
   ·unfold opK; simp only [ho, ht x hx, hb, hv]
   ·have : us[i]? = some u := by simpa using hu'
    simp [execOp, ho, hu, Instr.extract, this]
   ·cases v <;> first | exact hva | exact hva.elim
  ·cases h
 ·cases h
theorem q593 {R : Type} (op : BinOp) (x y : V) (K : V -> Option R) : binK op x y K = (binK op x y some).bind K := by
 unfold binK
 split <;> first
  | rfl
  | (generalize kbeq _ _ = b; cases b <;> first | rfl | (dsimp only [cond]; split <;> rfl))
  | (split <;> rfl)
theorem q641 {op : BinOp} {t : TypeId} {x y v : V} {ux uy : Value} (h : binK op x y some = some v) (hx : VR w β obs F x ux) (hy : VR w β obs F y uy) :
  ∃ u, (binOp op t ux uy).run P w = .ok u w /\ VR w β obs F v u /\ q24 v = [] := by
 unfold binK at h
 split at h
 ·have e1 := q44 hx; have e2 := q44 hy; subst e1; subst e2
  split at h
  ·cases h
  ·injection h with h; subst h; refine ⟨_, ?_, rfl, rfl⟩; simp [binOp, Op.shift, *]
 ·have e1 := q44 hx; have e2 := q44 hy; subst e1; subst e2
  split at h
  ·cases h
  ·injection h with h; subst h; refine ⟨_, ?_, rfl, rfl⟩; simp [binOp, Op.shift, *]
 all_goals first
  | cases h
  | (
    rename_i k n k' n'
    have e1 := q44 hx; have e2 := q44 hy; subst e1; subst e2
    cases hk : kbeq k k' with
    | false => rw [hk] at h; cases h
    | true =>
     rw [hk] at h
     have := q202 hk
     subst this
     simp only [cond] at h
     first
      | (injection h with h; subst h; refine ⟨_, ?_, rfl, rfl⟩; simp [binOp, Op.intArith, Op.intBits, Op.intCmp])
      | (
       split at h
       ·cases h
       ·injection h with h; subst h; refine ⟨_, ?_, rfl, rfl⟩; simp [binOp, Op.intDiv, *]))
theorem q526 (op : BinOp) (t : TypeId) (x y : Operand) (kk : IntKind) (n : Int) (u : Value) : (eqGuard op t x y (.int kk n) u).run P w = .ok () w := by
 cases op <;> simp [eqGuard]
theorem q653 {R : Type} (op : UnOp) (x : V) (K : V -> Option R) : unK op x K = (unK op x some).bind K := by
 unfold unK
 split <;> rfl
end
end Go.Lf
namespace Go.Lf
theorem q429 {R : Type} : ∀ {p : List (Nat × Nat)} {o : Ob} {K : Ob -> Option R} {r : R}, o.goK p K = some r -> ∃ o1, o.goK p some = some o1 /\ K o1 = some r
 | [], o, K, r, h => ⟨o, rfl, h⟩
 | (i, j) :: p, o, K, r, h => by
  rw [q259] at h
  obtain ⟨v, hv, h⟩ := q180 h
  cases ho : obOf v with
  | none => rw [ho] at h; cases h
  | some o1 =>
   rw [ho] at h
   have h' : o1.goK p K = some r := h
   obtain ⟨o2, h2, hK⟩ := q429 h'
   refine ⟨o2, ?_, hK⟩
   rw [q259, q103 hv]
   simp only [ho]
   exact h2
theorem q90 {w : World} : ∀ (p q : List (Nat × Nat)) {o : Ob} {loc : Option (Nat × Nat)} {o1 : Ob} {loc1 : Option (Nat × Nat)}, way w o loc p = some (o1, loc1) -> way w o loc (p ++ q) = way w o1 loc1 q
 | [], q, o, loc, o1, loc1, h => by
  have h' : some (o, loc) = some (o1, loc1) := h
  injection h' with h'; injection h' with h1 h2; subst h1; subst h2; rfl
 | (i, j) :: p, q, o, loc, o1, loc1, h => by
  cases loc with
  | none => cases h
  | some bo =>
   obtain ⟨b, off⟩ := bo
   simp only [List.cons_append, way] at h ⊢
   split at h
   ·rename_i τ l u hv hu
    exact q90 p q h
   ·rename_i τ x ad hv hu
    exact q90 p q h
   ·rename_i τ x ad hv hu
    exact q90 p q h
   ·cases h
section
variable {P : Program} {C : Ctx} {w : World} {E : Bs} {β : Nat -> Option (Nat × Nat)} {obs : List (Nat × Ob)} {F : Bs} {Gk : Nat -> Bs}
theorem q267 {R : Type} (hob : ObsR w E F β obs Gk) {r : Ref} {K : Ob -> Option R} {x : R} (h : q278 obs r K = some x) :
  ∃ o loc G, q34 w β obs r = some (o, loc) /\ ObR w F o loc G /\ (∀ n, G n -> F n) /\ K o = some x /\
   ∀ (R' : Type) (K' : Ob -> Option R') (obs' : List (Nat × Ob)), get r.root obs' = get r.root obs -> q278 obs' r K' = K' o := by
 unfold q278 at h
 split at h
 ·rename_i o0 hg
  obtain ⟨o1, hgo, hK⟩ := q429 h
  obtain ⟨loc1, G1, hway, hob1, hs, hall, _⟩ := q274 r.path (hob.rel _ _ hg) hgo
  refine ⟨o1, loc1, G1, ?_, hob1, fun n hn => (hob.cov n).2 (.inr ⟨_, _, hg, hs n hn⟩), hK, fun R' K' obs' e => ?_⟩
  ·simp only [q34, hg]; exact hway
  ·unfold q278
   rw [e, hg]
   exact hall R' K'
 ·cases h
theorem leafVR {v : V} {u : Value} {G : Bs} (h : LfR w F v u G) (hv : q196 v = false) : VRl w β obs F v u := by
 cases v with
 | undef => trivial
 | int => exact h.1
 | bool => exact h.1
 | nilp => exact h.1
 | nils => exact h.1
 | sl τ l => exact ⟨G, h⟩
 | ow => cases hv
 | bx => cases hv
 | mp => cases hv
 | nilm => exact h.1
 | _ => exact h.elim
theorem q211 : ∀ (τ : Ty) (x : τ.den), τ.plain = true -> ∀ v ∈ τ.leaves x, q196 v = false
 | .int _, _, _, v, hv => by simp [Ty.leaves] at hv; subst hv; rfl
 | .bool, _, _, v, hv => by simp [Ty.leaves] at hv; subst hv; rfl
 | .unit, _, _, v, hv => by simp [Ty.leaves] at hv
 | .pair a b, x, h, v, hv => by
  have h' : (a.plain && b.plain) = true := h
  rw [y144] at h'
  rcases y151.1 (show v ∈ a.leaves x.1 ++ b.leaves x.2 from hv) with hv | hv
  ·exact q211 a x.1 h'.1 v hv
  ·exact q211 b x.2 h'.2 v hv
 | .sl _, _, _, v, hv => by simp [Ty.leaves] at hv; subst hv; rfl
theorem q578 {r : Ref} {o : Ob} {b off i j : Nat} {v : V} {u : Value} {G : Bs} (hat : q34 w β obs r = some (o, some (b, off))) (hv : q35 o i j = some v)
  (hu : w.cell? ⟨b, off + ix o i j, none⟩ = some u) (hl : LfR w F v u G) : VRl w β obs F (view r i j v) u := by
 have hat' : ∀ o1, obOf v = some o1 -> q34 w β obs ⟨r.root, r.path ++ [(i, j)]⟩ = some (o1, q231 v u) := by
  intro o1 ho
  unfold q34 at hat ⊢
  split at hat
  ·rename_i o0 hg
   simp only [hg]
   rw [q90 r.path [(i, j)] hat, q223 hv hu ho hl]
   rfl
  ·cases hat
 cases v with
 | ow τ l =>
  obtain ⟨u', hu', hh, ha⟩ := hl
  injection hu' with hu'
  subst hu'
  obtain ⟨ad, cap, e, h2⟩ := id hh
  refine ⟨ad, cap, e, fun o1 loc1 h1 => ?_⟩
  have h3 := hat' _ rfl
  have h1' : q34 w β obs ⟨r.root, r.path ++ [(i, j)]⟩ = some (o1, loc1) := h1
  rw [h3] at h1'
  injection h1' with h1'; injection h1' with e1 e2; subst e1; subst e2
  exact ⟨τ, l, rfl, hh, by simp, fun _ => ⟨rfl, rfl⟩⟩
 | bx τ x =>
  obtain ⟨b', row, G', hu', _⟩ := id hl
  injection hu' with hu'
  subst hu'
  refine ⟨⟨b', 0, none⟩, rfl, fun o1 loc1 h1 => ?_⟩
  have h3 := hat' _ rfl
  have h1' : q34 w β obs ⟨r.root, r.path ++ [(i, j)]⟩ = some (o1, loc1) := h1
  rw [h3] at h1'
  injection h1' with h1'; injection h1' with e1 e2; subst e1; subst e2
  exact ⟨b', 0, rfl, rfl⟩
 | mp τ l =>
  obtain ⟨b', hu', _⟩ := id hl
  injection hu' with hu'
  subst hu'
  refine ⟨b', rfl, fun o1 loc1 h1 => ?_⟩
  have h3 := hat' _ rfl
  have h1' : q34 w β obs ⟨r.root, r.path ++ [(i, j)]⟩ = some (o1, loc1) := h1
  rw [h3] at h1'
  injection h1' with h1'; injection h1' with e1 e2; subst e1; subst e2
  rfl
 | _ => exact leafVR hl rfl
theorem LsR.to {vs : List V} {us : List Value} {G : Bs} (h : LsR w F vs us G) : ∀ (q : Nat) (v : V), vs[q]? = some v -> ∃ u G1, us[q]? = some u /\ LfR w F v u G1 := by
 intro q v hv
 obtain ⟨u, G1, hu, hl, _⟩ := h.get q v hv
 exact ⟨u, G1, hu, hl⟩
theorem q613 {R : Type} {o : Ob} {loc : Option (Nat × Nat)} {G : Bs} {i j n : Nat} {K : List V -> Option R} {x : R} (h : ObR w F o loc G) (hk : o.leavesK i j n K = some x) :
  ∃ b off row Gm vs, loc = some (b, off) /\ Row w b row /\ off + ix o i j + n <= row.size /\ LsR w F vs (seg row (off + ix o i j) n) Gm /\ vs.length = n /\ (∀ q, q < n -> vs[q]? = q35 o i (j + q)) /\
   K vs = some x /\ ∀ (R' : Type) (K' : List V -> Option R'), o.leavesK i j n K' = K' vs := by
 cases o with
 | mp τ l => cases hk
 | box t fs =>
  unfold Ob.leavesK at hk
  simp only at hk
  cases hb : Nat.ble (j + n) fs.length with
  | false => rw [hb] at hk; cases hk
  | true =>
   rw [hb] at hk
   obtain ⟨b, row, G', hl, hr, hls, hnb, hG⟩ := h
   have hle := y168 hb
   have hlen := hls.length
   rw [q87 fs j n] at hls
   obtain ⟨c1, c23, G1, G23, hc, h1, h23, _, _⟩ := hls.split
   obtain ⟨c2, c3, G2, G3, hc', h2, h3, _, _⟩ := h23.split
   subst hc'
   have l1 : c1.length = j := by rw [h1.length, y154]; omega
   have l2 : c2.length = n := by rw [h2.length, y154, List.length_drop]; omega
   have e2 : seg row j n = c2 := by unfold seg; rw [hc, <- l1, List.drop_left, <- l2, List.take_left]
   refine ⟨b, 0, row, G2, (fs.drop j).take n, hl, hr, ?_, ?_, ?_, fun q hq => ?_, hk, fun R' K' => ?_⟩
   ·simp only [ix, Nat.zero_add]; rw [<- y156, hlen]; exact hle
   ·simp only [ix, Nat.zero_add]; rw [e2]; exact h2
   ·rw [y154, List.length_drop]; omega
   ·rw [List.getElem?_take, if_pos hq, List.getElem?_drop]; rfl
   ·unfold Ob.leavesK; simp only [hb, cond]
 | arr τ l =>
  unfold Ob.leavesK at hk
  simp only at hk
  cases hb : Nat.ble (j + n) τ.size with
  | false => rw [hb] at hk; cases hk
  | true =>
   rw [hb] at hk
   have hle := y168 hb
   cases hx : l[i]? with
   | none => rw [hx] at hk; cases hk
   | some y =>
    rw [hx] at hk
    cases loc with
    | none => rw [h.1] at hx; simp at hx
    | some bo =>
     obtain ⟨b, off⟩ := bo
     obtain ⟨row, Gs, hr, hs, hxs, he, hd, hnb, hG⟩ := h
     have hil : i < l.length := (y149.1 hx).1
     have hsz : off + i * τ.size + τ.size <= row.size := by
      have : (i + 1) * τ.size <= l.length * τ.size := y162 _ hil
      rw [Nat.add_mul, Nat.one_mul] at this
      omega
     have hls := LR.leaves τ y _ _ (hxs i y hx)
     have hlen := Ty.leaves_length τ y
     rw [q87 (τ.leaves y) j n] at hls
     obtain ⟨c1, c23, G1, G23, hc, h1, h23, _, _⟩ := hls.split
     obtain ⟨c2, c3, G2, G3, hc', h2, h3, _, _⟩ := h23.split
     subst hc'
     have l1 : c1.length = j := by rw [h1.length, y154]; omega
     have l2 : c2.length = n := by rw [h2.length, y154, List.length_drop]; omega
     have e2 : seg row (off + (i * τ.size + j)) n = c2 := by
      have : ((seg row (off + i * τ.size) τ.size).drop j).take n = c2 := by rw [hc, <- l1, List.drop_left, <- l2, List.take_left]
      rw [<- this]
      unfold seg
      rw [List.drop_take, List.take_take, List.drop_drop]
      have : min n (τ.size - j) = n := by omega
      rw [this]
      congr 2
      omega
     refine ⟨b, off, row, G2, ((τ.leaves y).drop j).take n, rfl, hr, ?_, ?_, ?_, fun q hq => ?_, hk, fun R' K' => ?_⟩
     ·simp only [ix]; omega
     ·simp only [ix]; rw [e2]; exact h2
     ·rw [y154, List.length_drop]; omega
     ·rw [List.getElem?_take, if_pos hq, List.getElem?_drop]; simp only [q35, hx, Option.bind]
     ·unfold Ob.leavesK; simp only [hb, cond, hx, Option.bind]
theorem q359 (r : Ref) (i : Nat) : ∀ (vs : List V) (j q : Nat), (q353 r i j vs)[q]? = (vs[q]?).map fun v => view r i (j + q) v
 | [], j, q => by simp [q353]
 | v :: vs, j, 0 => by simp [q353]
 | v :: vs, j, q + 1 => by
  simp only [q353, List.getElem?_cons_succ]
  rw [q359 r i vs (j + 1) q]
  have : j + 1 + q = j + (q + 1) := by omega
  rw [this]
theorem q322 (r : Ref) (i : Nat) : ∀ (vs : List V) (j : Nat), (q353 r i j vs).length = vs.length
 | [], _ => rfl
 | v :: vs, j => by simp [q353, q322 r i vs (j + 1)]
theorem All2.of_get {α β : Type} {R : α -> β -> Prop} : ∀ {as : List α} {bs : List β}, as.length = bs.length -> (∀ (i : Nat) (x : α) (y : β), as[i]? = some x -> bs[i]? = some y -> R x y) -> All2 R as bs
 | [], [], _, _ => .nil
 | a :: as, b :: bs, hl, h => .cons (h 0 a b rfl rfl) (All2.of_get (by simpa using hl) fun i x y hx hy => h (i + 1) x y (by simpa using hx) (by simpa using hy))
 | [], _ :: _, hl, _ => by cases hl
 | _ :: _, [], hl, _ => by cases hl
theorem q469 (r : Ref) (i j : Nat) {v : V} {u : Value} {G : Bs} (hl : LfR w F v u G) : ∀ q ∈ q24 (view r i j v), q.root = r.root := by
 cases v <;> intro q hq <;> first
  | (simp [view, q24, q31, q37] at hq; subst hq; rfl)
  | exact hl.elim
  | (simp [view, q24, q31, q37] at hq)
theorem q476 (r : Ref) (i j : Nat) {v : V} {u : Value} {G : Bs} (hl : LfR w F v u G) : q24 (view r i j v) = q37 (view r i j v) /\ (∀ u', VRl w β obs F (view r i j v) u' -> VR w β obs F (view r i j v) u') := by
 cases v <;> first
  | exact ⟨rfl, fun _ h => h⟩
  | exact hl.elim
theorem q658 {u : Value} {ad : Addr} {t : TypeId} {d : TypeDesc} (hu : P.underlying t = some d) (hd : q89 d = false) (hc : w.cell? ad = some u) :
  (Instr.loadAt t (.pointer (some ad))).run P w = .ok u w := by
 have : (isAgg t).run P w = .ok false w := by cases d <;> simp_all [isAgg, run_underlying hu, q89]
 simp [Instr.loadAt, Instr.sureAddr, loadVar, this, run_load, hc]
theorem q555 {b o n : Nat} {row : Array Value} {t : TypeId} {d : TypeDesc} {inf : TypeInfo} (hu : P.underlying t = some d) (hd : q89 d = true) (hi : P.info? t = some inf) (hn : inf.size = n)
  (hr : RowS w b row) (hs : o + n <= row.size) : (Instr.loadAt t (.pointer (some ⟨b, o, none⟩))).run P w = .ok (.agg (seg row o n).toArray) w := by
 have : (isAgg t).run P w = .ok true w := by cases d <;> simp_all [isAgg, run_underlying hu, q89]
 simp [Instr.loadAt, Instr.sureAddr, loadVar, this, sizeOf, typeInfo, hi, hn, q323 hr hs]
end
end Go.Lf
namespace Go.Lf
section
variable {P : Program} {w : World} {β : Nat -> Option (Nat × Nat)} {obs : List (Nat × Ob)} {F : Bs}
theorem q248 : ∀ {a1 a2 b1 b2 : List V} {c : Bool}, a1.length = b1.length -> eqFs (a1 ++ a2) (b1 ++ b2) = some c -> ∃ c1 c2, eqFs a1 b1 = some c1 /\ eqFs a2 b2 = some c2 /\ c = (c1 && c2)
 | [], a2, [], b2, c, _, h => ⟨true, c, rfl, h, rfl⟩
 | [], _, _ :: _, _, _, hl, _ => by cases hl
 | _ :: _, _, [], _, _, hl, _ => by cases hl
 | x :: a1, a2, y :: b1, b2, c, hl, h => by
  have hl' : a1.length = b1.length := by simpa using hl
  cases x <;> cases y <;> simp only [List.cons_append, eqFs] at h <;> try (cases h; done)
  ·rename_i k n k' n'
   cases hk : kbeq k k' with
   | false => rw [hk] at h; cases h
   | true =>
    rw [hk] at h
    simp only [cond] at h
    split at h
    ·rename_i c0 h0
     obtain ⟨c1, c2, e1, e2, e3⟩ := q248 hl' h0
     injection h with h
     refine ⟨(n == n') && c1, c2, by simp only [eqFs, hk, cond, e1], e2, ?_⟩
     rw [<- h, e3, Bool.and_assoc]
    ·cases h
  ·rename_i p q
   split at h
   ·rename_i c0 h0
    obtain ⟨c1, c2, e1, e2, e3⟩ := q248 hl' h0
    injection h with h
    refine ⟨(p == q) && c1, c2, by simp only [eqFs, e1], e2, ?_⟩
    rw [<- h, e3, Bool.and_assoc]
   ·cases h
theorem q264 : ∀ {a b : List V} {c : Bool}, eqFs a b = some c -> a.length = b.length
 | [], [], _, _ => rfl
 | [], _ :: _, _, h => by cases h
 | x :: a, [], _, h => by cases x <;> cases h
 | x :: a, y :: b, c, h => by
  cases x <;> cases y <;> simp only [eqFs] at h <;> try (cases h; done)
  ·rename_i k n k' n'
   cases hk : kbeq k k' with
   | false => rw [hk] at h; cases h
   | true =>
    rw [hk] at h
    simp only [cond] at h
    split at h
    ·rename_i c0 h0; simp [q264 h0]
    ·cases h
  ·split at h
   ·rename_i c0 h0; simp [q264 h0]
   ·cases h
theorem q306 : ∀ {k1 k2 : List Bool} {a1 a2 : List V}, k1.length = a1.length -> q252 (k1 ++ k2) (a1 ++ a2) = true -> q252 k1 a1 = true /\ q252 k2 a2 = true
 | [], _, [], _, _, h => ⟨rfl, h⟩
 | [], _, _ :: _, _, hl, _ => by cases hl
 | _ :: _, _, [], _, hl, _ => by cases hl
 | k :: k1, k2, x :: a1, a2, hl, h => by
  have hl' : k1.length = a1.length := by simpa using hl
  cases k <;> cases x <;> simp only [List.cons_append, q252] at h ⊢ <;> first
   | exact q306 hl' h
   | cases h
theorem q207 : ∀ {ks : List Bool} {a : List V}, q252 ks a = true -> a.length = ks.length
 | [], [], _ => rfl
 | [], _ :: _, h => by cases h
 | k :: _, [], h => by cases k <;> cases h
 | k :: ks, x :: a, h => by
  cases k <;> cases x <;> simp only [q252] at h <;> first
   | (simp [q207 h]; done)
   | cases h
def EqAt' (P : Program) (w : World) (n : Nat) (t : TypeId) (ks : List Bool) : Prop :=
 ∀ (i : TypeInfo) (d : Nat) (xs ys : Array Value) (off : Nat) (va vb : List V) (c : Bool) (β : Nat -> Option (Nat × Nat)) (obs : List (Nat × Ob)) (F : Bs), P.info? t = some i -> q252 ks va = true -> All2 (VRl w β obs F) va ((xs.toList.drop off).take i.size) -> All2 (VRl w β obs F) vb ((ys.toList.drop off).take i.size) -> eqFs va vb = some c ->
  ∃ A B, (part t xs off).run P w = .ok A w /\ (part t ys off).run P w = .ok B w /\ (Op.equalIn (d + n + 1) t A B).run P w = .ok c w
theorem All2.take_drop {α γ : Type} {R : α -> γ -> Prop} {as : List α} {bs : List γ} (h : All2 R as bs) : ∀ n : Nat, All2 R (as.take n) (bs.take n) /\ All2 R (as.drop n) (bs.drop n) := by
 induction h with
 | nil => intro n; simp only [List.take_nil, List.drop_nil]; exact ⟨.nil, .nil⟩
 | cons h t ih =>
  intro n
  cases n with
  | zero => exact ⟨.nil, .cons h t⟩
  | succ n => exact ⟨.cons h (ih n).1, (ih n).2⟩
theorem q318 {n d : Nat} (IH : ∀ t ks, eqB P n t ks = true -> EqAt' P w n t ks) {xs ys : Array Value} : ∀ (fs : List Field) (off : Nat) (ks : List Bool) {va vb : List V} {c : Bool}, eqFields (eqB P n) P off ks fs = true -> q252 ks va = true ->
  All2 (VRl w β obs F) va (xs.toList.drop off) -> All2 (VRl w β obs F) vb (ys.toList.drop off) -> eqFs va vb = some c -> (Op.eqFields (d + n + 1) xs ys fs).run P w = .ok c w
 | [], off, ks, va, vb, c, h, hk, ha, hb, hc => by
  have e : ks = [] := by simpa [eqFields] using h
  subst e
  have hl := q207 hk
  have : va = [] := y153 (by simpa using hl)
  subst this
  cases vb with
  | nil => injection hc with hc; subst hc; simp [Op.eqFields]
  | cons _ _ => cases hc
 | f :: fs, off, ks, va, vb, c, h, hk, ha, hb, hc => by
  simp only [eqFields, y144] at h
  obtain ⟨⟨h1, h2⟩, h4⟩ := h
  have hname : f.name ≠ "_" := by simpa using h1
  have hoff : f.offset = off := by simpa using h2
  cases hi : P.info? f.type with
  | none => rw [hi] at h4; cases h4
  | some i =>
   rw [hi] at h4
   simp only [y144, decide_eq_true_eq] at h4
   obtain ⟨⟨hle, h3⟩, h5⟩ := h4
   have hlb := q264 hc
   have hlk := q207 hk
   have e1 : va = va.take i.size ++ va.drop i.size := (List.take_append_drop _ _).symm
   have e2 : vb = vb.take i.size ++ vb.drop i.size := (List.take_append_drop _ _).symm
   have e3 : ks = ks.take i.size ++ ks.drop i.size := (List.take_append_drop _ _).symm
   rw [e1, e2] at hc
   rw [e1, e3] at hk
   obtain ⟨k1, k2⟩ := q306 (by rw [y154, y154, hlk]) hk
   obtain ⟨c1, c2, hc1, hc2, hcc⟩ := q248 (by rw [y154, y154, hlb]) hc
   obtain ⟨ha1, ha2⟩ := ha.take_drop i.size
   obtain ⟨hb1, hb2⟩ := hb.take_drop i.size
   rw [List.drop_drop] at ha2 hb2
   obtain ⟨A, B, hA, hB, hE⟩ := IH f.type _ h3 i d xs ys off _ _ c1 β obs F hi k1 ha1 hb1 hc1
   have hrest := q318 (d := d) IH fs (off + i.size) _ h5 k2 ha2 hb2 hc2
   simp only [Op.eqFields, hname, ne_eq, not_false_eq_true, if_true, hoff, Sem.run_bind, hA, hB, hE, Result.andThen_ok]
   cases c1 with
   | false => subst hcc; simp
   | true => subst hcc; simpa using hrest
theorem eqB_at : ∀ (n : Nat) (t : TypeId) (ks : List Bool), eqB P n t ks = true -> EqAt' P w n t ks := by
 have single : ∀ (n : Nat) (t : TypeId) (i0 : TypeInfo) (kb : Bool), P.info? t = some i0 -> (i0.size == 1) = true -> ((kb = true /\ ∃ k, P.underlying t = some (.int k)) \/ (kb = false /\ P.underlying t = some .bool)) -> EqAt' P w n t [kb] := by
  intro n t i0 kb hi0 hs hk i d xs ys off va vb c β obs F hi hkd ha hb hc
  rw [hi0] at hi; injection hi with hi; subst hi
  have hs1 : i0.size = 1 := by simpa using hs
  have hl := q207 hkd
  rw [hs1] at ha hb
  have hlb := q264 hc
  cases va with
  | nil => cases hl
  | cons x va =>
   have hva : va = [] := y153 (by simpa using hl)
   subst hva
   cases vb with
   | nil => cases hlb
   | cons y vb =>
    have hvb : vb = [] := y153 (by simpa using hlb.symm)
    subst hvb
    obtain ⟨u1, e1, r1⟩ := ha.get 0 x rfl
    obtain ⟨u2, e2, r2⟩ := hb.get 0 y rfl
    have f1 : xs[off]? = some u1 := by
     rw [List.getElem?_take, if_pos (by omega), List.getElem?_drop] at e1
     simpa using e1
    have f2 : ys[off]? = some u2 := by
     rw [List.getElem?_take, if_pos (by omega), List.getElem?_drop] at e2
     simpa using e2
    have hagg : ∃ dd, P.underlying t = some dd /\ q89 dd = false := by
     rcases hk with ⟨_, k, hk⟩ | ⟨_, hk⟩
     ·exact ⟨_, hk, rfl⟩
     ·exact ⟨_, hk, rfl⟩
    obtain ⟨dd, hdd, hia0⟩ := hagg
    have hia : (isAgg t).run P w = .ok false w := by cases dd <;> simp_all [isAgg, run_underlying hdd, q89]
    refine ⟨u1, u2, by simp [part, hia, f1], by simp [part, hia, f2], ?_⟩
    rcases hk with ⟨hkb, k0, hk⟩ | ⟨hkb, hk⟩
    ·subst hkb
     cases x <;> simp only [q252] at hkd <;> try (cases hkd; done)
     cases y <;> simp only [eqFs] at hc <;> try (cases hc; done)
     rename_i k a k' b
     cases hkk : kbeq k k' with
     | false => rw [hkk] at hc; cases hc
     | true =>
      rw [hkk] at hc
      have := q202 hkk
      subst this
      injection hc with hc
      have g1 : u1 = .int k a := r1
      have g2 : u2 = .int k b := r2
      subst g1; subst g2
      rw [run_equalIn_int w (d + n) t k k0 a b hk, <- hc]
      simp
    ·subst hkb
     cases x <;> simp only [q252] at hkd <;> try (cases hkd; done)
     cases y <;> simp only [eqFs] at hc <;> try (cases hc; done)
     rename_i a b
     injection hc with hc
     have g1 : u1 = .bool a := r1
     have g2 : u2 = .bool b := r2
     subst g1; subst g2
     rw [run_equalIn_bool' w (d + n) t a b hk, <- hc]
     simp
 intro n
 induction n with
 | zero => intro t ks h; cases h
 | succ n ih =>
  intro t ks h
  unfold eqB at h
  split at h
  ·rename_i k i hu hi; exact single (n + 1) t i true hi h (.inl ⟨rfl, k, hu⟩)
  ·rename_i i hu hi; exact single (n + 1) t i false hi h (.inr ⟨rfl, hu⟩)
  ·rename_i fs i0 hu hi0
   rw [y144, y144] at h
   have hst : P.stoodInHeld t = false := by simpa using h.1.1
   intro i d xs ys off va vb c β obs F hi hkd ha hb hc
   rw [hi0] at hi; injection hi with hi; subst hi
   have hia : (isAgg t).run P w = .ok true w := by simp [isAgg, run_underlying hu]
   have hfo : P.fieldsOf t = fs := by simp [Program.fieldsOf, hu]
   refine ⟨.agg (xs.extract off (off + i0.size)), .agg (ys.extract off (off + i0.size)), by simp [part, hia, sizeOf, typeInfo, hi0], by simp [part, hia, sizeOf, typeInfo, hi0], ?_⟩
   have e : d + (n + 1) + 1 = (d + n + 1) + 1 := by omega
   rw [e, run_equalIn_struct w (d + n + 1) t _ _ (by rw [hfo]; exact hu) hst, hfo]
   refine q318 (β := β) (obs := obs) (F := F) (d := d) ih fs.toList 0 _ h.2 hkd ?_ ?_ hc
   ·simpa using ha
   ·simpa using hb
  ·cases h
theorem q738 {t : TypeId} {i : TypeInfo} {ks : List Bool} {a b : List V} {us vs : Array Value} {c : Bool} (hB : eqB P 8 t ks = true) (hi : P.info? t = some i) (hk : q252 ks a = true) (hsz : ks.length = i.size)
  (ha : All2 (VRl w β obs F) a us.toList) (hb : All2 (VRl w β obs F) b vs.toList) (hc : eqFs a b = some c) (hst : ∃ fs, P.underlying t = some (.struct fs)) : (Op.equal t (.agg us) (.agg vs)).run P w = .ok c w := by
 have hl := q207 hk
 have hl2 := q264 hc
 have l1 := ha.length
 have l2 := hb.length
 rw [y156] at l1 l2
 obtain ⟨A, B, hA, hB2, hE⟩ := eqB_at (w := w) 8 t ks hB i 9991 us vs 0 a b c β obs F hi hk (by rw [y152, List.take_of_length_le (by rw [y156]; omega)]; exact ha) (by rw [y152, List.take_of_length_le (by rw [y156]; omega)]; exact hb) hc
 obtain ⟨fs, hu⟩ := hst
 have hia : (isAgg t).run P w = .ok true w := by simp [isAgg, run_underlying hu]
 have eA : A = .agg us := by
  simp [part, hia, sizeOf, typeInfo, hi] at hA
  have e : i.size = us.size := by omega
  rw [<- hA, e]; simp
 have eB : B = .agg vs := by
  simp [part, hia, sizeOf, typeInfo, hi] at hB2
  have e : i.size = vs.size := by omega
  rw [<- hB2, e]; simp
 subst eA; subst eB
 exact hE
end
end Go.Lf
namespace Go.Lf
section
variable {P : Program} {C : Ctx} {k : Nat} {tm : List (Nat × V)} {obs : List (Nat × Ob)} {fresh : Nat} {o : Oper} {a : Act} {w : World} {E : Bs} {β : Nat -> Option (Nat × Nat)} {F : Bs} {Gk : Nat -> Bs}
theorem q60 (hT : q81 P C) (t : TypeId) : q576 P t (q110 C t) := by
 unfold q110
 cases h : get t C.ti with
 | none => trivial
 | some i => exact (hT t i h).kind
theorem q682 {R : Type} (op : BinOp) (t : TypeId) (x y : V) (K : V -> Option R) : eqK C op t x y K = (eqK C op t x y some).bind K := by
 unfold eqK
 split <;> rfl
theorem q407 {t : TypeId} (x y : Bool) (hk : P.underlying t = some .bool) : (Op.equal t (.bool x) (.bool y)).run P w = .ok (x == y) w := by
 have : ∀ d, (Op.equalIn (d + 1) t (.bool x) (.bool y)).run P w = .ok (x == y) w := fun d => by simp only [Op.equalIn, Sem.run_bind, run_underlying hk, Result.andThen_ok, Sem.run_pure]
 exact this 9999
theorem q463 {t e : TypeId} (z : Option Addr) (hk : P.underlying t = some (.pointer e)) : (Op.equal t (.pointer none) (.pointer z)).run P w = .ok z.isNone w := by
 have : ∀ d, (Op.equalIn (d + 1) t (.pointer none) (.pointer z)).run P w = .ok z.isNone w := fun d => by simp only [Op.equalIn, Sem.run_bind, run_underlying hk, Result.andThen_ok, Sem.run_pure]
 exact this 9999
theorem q647 {t e : TypeId} (z : Addr) (hk : P.underlying t = some (.pointer e)) : (Op.equal t (.pointer (some z)) (.pointer none)).run P w = .ok false w := by
 have : ∀ d, (Op.equalIn (d + 1) t (.pointer (some z)) (.pointer none)).run P w = .ok false w := fun d => by simp only [Op.equalIn, Sem.run_bind, run_underlying hk, Result.andThen_ok, Sem.run_pure]
 exact this 9999
theorem q724 (hT : q81 P C) {op : BinOp} {t : TypeId} {x y v : V} {ux uy : Value} (h : eqK C op t x y some = some v) (hx : VR w β obs F x ux) (hy : VR w β obs F y uy) :
  ∃ u, (binOp op t ux uy).run P w = .ok u w /\ VR w β obs F v u /\ q24 v = [] /\ ∀ X Y, (eqGuard op t X Y ux uy).run P w = .ok () w := by
 have hk := q60 hT t
 unfold eqK at h
 split at h
 ·rename_i x y hkd
  rw [hkd] at hk
  have e1 := q55 hx; have e2 := q55 hy; subst e1; subst e2
  injection h with h; subst h
  exact ⟨_, by simp [binOp, q407 x y hk], rfl, rfl, fun X Y => by simp [eqGuard]⟩
 ·rename_i x y hkd
  rw [hkd] at hk
  have e1 := q55 hx; have e2 := q55 hy; subst e1; subst e2
  injection h with h; subst h
  exact ⟨_, by simp [binOp, q407 x y hk], rfl, rfl, fun X Y => by simp [eqGuard]⟩
 all_goals first
  | (cases h; done)
  | (
    rename_i hkd
    rw [hkd] at hk
    obtain ⟨e, hk'⟩ : ∃ e, P.underlying t = some (.pointer e) := ⟨_, hk⟩
    injection h with h; subst h
    first
     | (
      have e1 : ux = .pointer none := hx
      have e2 : uy = .pointer none := hy
      subst e1; subst e2
      exact ⟨_, by simp [binOp, q463 _ hk'], rfl, rfl, fun X Y => by simp [eqGuard]⟩)
     | (
      obtain ⟨z, e1, _⟩ : ∃ ad, ux = .pointer (some ad) /\ _ := hx
      have e2 : uy = .pointer none := hy
      subst e1; subst e2
      exact ⟨_, by simp [binOp, q647 _ hk'], rfl, rfl, fun X Y => by simp [eqGuard]⟩)
     | (
      obtain ⟨z, e2, _⟩ : ∃ ad, uy = .pointer (some ad) /\ _ := hy
      have e1 : ux = .pointer none := hx
      subst e1; subst e2
      exact ⟨_, by simp [binOp, q463 _ hk'], rfl, rfl, fun X Y => by simp [eqGuard]⟩))
theorem q188 {t e : TypeId} (ad : Option Addr) (n c : Nat) (hk : P.underlying t = some (.slice e)) : (Op.equal t (.slice ad n c) (.slice none 0 0)).run P w = .ok ad.isNone w := by
 have : ∀ d, (Op.equalIn (d + 1) t (.slice ad n c) (.slice none 0 0)).run P w = .ok ad.isNone w := fun d => by
  cases ad <;> simp only [Op.equalIn, Sem.run_bind, run_underlying hk, Result.andThen_ok, Sem.run_pure] <;> rfl
 exact this 9999
theorem q591 {R : Type} (op : BinOp) (x y : V) (K : V -> Option R) : nilK op x y K = (nilK op x y some).bind K := by
 unfold nilK
 split <;> rfl
theorem q639 {op : BinOp} {t e : TypeId} {x y v : V} {ux uy : Value} (hk : P.underlying t = some (.slice e)) (h : nilK op x y some = some v) (hx : VR w β obs F x ux) (hy : VR w β obs F y uy) :
  ∃ u, (binOp op t ux uy).run P w = .ok u w /\ VR w β obs F v u /\ q24 v = [] /\ ∀ X Y, (eqGuard op t X Y ux uy).run P w = .ok () w := by
 have iso : ∀ {ad : Option Addr} {n : Nat}, (ad = none ↔ n = 0) -> ad.isNone = Nat.beq n 0 := by
  intro ad n h
  cases ad with
  | none => rw [h.1 rfl]; rfl
  | some a =>
   cases n with
   | zero => cases h.2 rfl
   | succ n => rfl
 unfold nilK at h
 split at h
 ·injection h with h; subst h
  obtain ⟨ad, cap, e1, hn, _⟩ := hx
  have e2 : uy = .slice none 0 0 := hy
  subst e1; subst e2
  exact ⟨_, by simp [binOp, q188 _ _ _ hk], congrArg Value.bool (iso hn), rfl, fun X Y => by simp [eqGuard]⟩
 ·injection h with h; subst h
  obtain ⟨ad, cap, e1, hn, _⟩ := hx
  have e2 : uy = .slice none 0 0 := hy
  subst e1; subst e2
  exact ⟨_, by simp [binOp, q188 _ _ _ hk], congrArg (fun b => Value.bool (!b)) (iso hn), rfl, fun X Y => by simp [eqGuard]⟩
 ·injection h with h; subst h
  have e1 : ux = .slice none 0 0 := hx
  have e2 : uy = .slice none 0 0 := hy
  subst e1; subst e2
  exact ⟨_, by simp [binOp, q188 _ _ _ hk], rfl, rfl, fun X Y => by simp [eqGuard]⟩
 ·injection h with h; subst h
  have e1 : ux = .slice none 0 0 := hx
  have e2 : uy = .slice none 0 0 := hy
  subst e1; subst e2
  exact ⟨_, by simp [binOp, q188 _ _ _ hk], rfl, rfl, fun X Y => by simp [eqGuard]⟩
 ·cases h
theorem q51 {α β : Type} {x : Option α} {f : α -> Option β} {r : β} (h : x.bind f = some r) : ∃ y, x = some y /\ f y = some r := by
 cases x with
 | none => cases h
 | some y => exact ⟨y, rfl, h⟩
theorem op_binOp {R : Type} {K : OpK R} {r : R} (hT : q81 P C) (hf : FR C w E β tm obs a F Gk) {op : BinOp} {t t' : TypeId} {x y : Operand} (ho : o.op = .binOp op t x y t') (h : opK C k tm obs fresh o K = some r) : OpOk P C k tm obs fresh o a w E β F := by
 have hx : x ∈ o.op.operands := by rw [ho]; simp [Op.operands]
 have hy : y ∈ o.op.operands := by rw [ho]; simp [Op.operands]
 have rx := q30 hf x
 have ry := q30 hf y
 unfold opK at h
 simp only [ho] at h
 split at h
 ·rename_i kk n hb
  rw [q593] at h
  obtain ⟨v, hv, _⟩ := q51 h
  have rx' := rx; rw [hb] at rx'
  obtain ⟨u, hu, hvr, hrf⟩ := q641 (P := P) (t := t) hv (rx') ry
  refine q29 (rd := []) hf.ob (fun tm' obs' ht htR _ R' K' => ?_) (Src.none hrf) (u := u) ?_ hvr
  ·unfold opK; simp only [ho, ht x hx, hb, ht y hy]
   rw [q593, hv]; rfl
  ·have e := q44 rx'
   rw [e] at hu
   simp [execOp, ho, e, q526, hu]
 ·rename_i as hba
  rw [hba] at rx
  split at h
  ·rename_i bs i hbb hi
   rw [hbb] at ry
   cases hk1 : q737 i.eq as with
   | false => rw [hk1] at h; cases h
   | true =>
    rw [hk1] at h
    have heq : i.eq ≠ [] := fun e => by rw [e] at hk1; cases hk1
    have hk : q252 i.eq as = true := by
     unfold q737 at hk1
     split at hk1
     ·cases hk1
     ·rename_i e; rw [e]; exact hk1
    obtain ⟨us, hus, ha⟩ := rx
    obtain ⟨vs, hvs, hb⟩ := ry
    have hcore : ∀ c, eqFs as bs = some c -> i.eq ≠ [] -> (Op.equal t (.agg us) (.agg vs)).run P w = .ok c w /\ ∀ X Y, (eqGuard op t X Y (.agg us) (.agg vs)).run P w = .ok () w := by
     intro c hc hne
     obtain ⟨g1, g2, g3, g4⟩ := (hT t i hi).eq hne
     obtain ⟨z, inf, hinf, hsz, _⟩ := (hT t i hi).info
     refine ⟨q738 g2 hinf hk (g3.trans hsz.symm) ha hb hc g4, fun X Y => ?_⟩
     cases op <;> simp [eqGuard, g1]
    split at h
    ·rename_i c hc
     obtain ⟨h1, h2⟩ := hcore c hc heq
     refine q29 (rd := []) hf.ob (fun tm' obs' ht htR _ R' K' => ?_) (Src.none rfl) (v := .bool c) (u := .bool c) ?_ rfl
     ·unfold opK; simp only [ho, ht x hx, hba, ht y hy, hbb, hi, hk1, cond, hc]
     ·simp [execOp, ho, hus, hvs, h2, binOp, h1]
    ·rename_i c hc
     obtain ⟨h1, h2⟩ := hcore c hc heq
     refine q29 (rd := []) hf.ob (fun tm' obs' ht htR _ R' K' => ?_) (Src.none rfl) (v := .bool !c) (u := .bool !c) ?_ rfl
     ·unfold opK; simp only [ho, ht x hx, hba, ht y hy, hbb, hi, hk1, cond, hc]
     ·simp [execOp, ho, hus, hvs, h2, binOp, h1]
    ·cases h
  ·cases h
 ·rename_i hne hne2
  split at h
  ·rename_i e hks
   have hk := q60 hT t
   rw [hks] at hk
   rw [q591] at h
   obtain ⟨v, hv, _⟩ := q51 h
   obtain ⟨u, hu, hvr, hrf, hg⟩ := q639 hk hv (q148 hf x) (q148 hf y)
   refine q29 (rd := []) hf.ob (fun tm' obs' ht htR _ R' K' => ?_) (Src.none hrf) (u := u) ?_ hvr
   ·unfold opK; simp only [ho, ht x hx, htR x hx, htR y hy, hks]
    rw [q591, hv]; rfl
   ·simp [execOp, ho, hg, hu]
  ·rename_i hks
   rw [q682] at h
   obtain ⟨v, hv, _⟩ := q51 h
   obtain ⟨u, hu, hvr, hrf, hg⟩ := q724 hT hv rx ry
   refine q29 (rd := []) hf.ob (fun tm' obs' ht htR _ R' K' => ?_) (Src.none hrf) (u := u) ?_ hvr
   ·unfold opK; simp only [ho, ht x hx, ht y hy]
    rw [q682, hv]; rfl
   ·simp [execOp, ho, hg, hu]
theorem op_unOp {R : Type} {K : OpK R} {r : R} (hf : FR C w E β tm obs a F Gk) {op : UnOp} {t : TypeId} {x : Operand} (ho : o.op = .unOp op t x) (h : opK C k tm obs fresh o K = some r) : OpOk P C k tm obs fresh o a w E β F := by
 have hx : x ∈ o.op.operands := by rw [ho]; simp [Op.operands]
 have rx := q30 hf x
 unfold opK at h
 simp only [ho] at h
 rw [q653] at h
 obtain ⟨v, hv, _⟩ := q51 h
 have hst : Stab C k tm obs fresh o v [] [] [] := fun tm' obs' ht htR _ R' K' => by
  unfold opK; simp only [ho, ht x hx]; rw [q653, hv]; rfl
 unfold unK at hv
 split at hv
 ·rename_i kk n hb
  rw [hb] at rx
  have e := q44 rx
  injection hv with hv; subst hv
  exact q29 hf.ob hst (Src.none rfl) (u := .int kk (kk.wrap (0 - n))) (by simp [execOp, ho, e, Op.unary, Op.intArith]) rfl
 ·rename_i b hb
  rw [hb] at rx
  have e := q55 rx
  injection hv with hv; subst hv
  exact q29 hf.ob hst (Src.none rfl) (u := .bool !b) (by simp [execOp, ho, e, Op.unary]) rfl
 ·cases hv
theorem q612 {R : Type} {K : OpK R} {r : R} (hT : q81 P C) (hf : FR C w E β tm obs a F Gk) {s t : TypeId} {x : Operand} (ho : o.op = .convert s t x) (h : opK C k tm obs fresh o K = some r) : OpOk P C k tm obs fresh o a w E β F := by
 have hx : x ∈ o.op.operands := by rw [ho]; simp [Op.operands]
 have rx := q30 hf x
 unfold opK at h
 simp only [ho] at h
 split at h
 ·rename_i k1 k2 k3 n h1 h2 hb
  have hst : Stab C k tm obs fresh o (.int k2 (k2.wrap n)) [] [] [] := fun tm' obs' ht htR _ R' K' => by
   unfold opK; simp only [ho, ht x hx, h1, h2, hb]
  rw [hb] at rx
  have e := q44 rx
  have hs := q60 hT s; rw [h1] at hs
  have ht := q60 hT t; rw [h2] at ht
  exact q29 hf.ob hst (Src.none rfl) (u := .int k2 (k2.wrap n)) (by simp [execOp, ho, e, convert, run_underlying (P := P) hs, run_underlying (P := P) ht, Conv.intToInt]) rfl
 ·cases h
end
end Go.Lf
namespace Go.Lf
section
variable {P : Program} {C : Ctx} {k : Nat} {tm : List (Nat × V)} {obs : List (Nat × Ob)} {fresh : Nat} {o : Oper} {a : Act} {w : World} {E : Bs} {β : Nat -> Option (Nat × Nat)} {F : Bs} {Gk : Nat -> Bs}
theorem ix_add (o : Ob) (i j n : Nat) : ix o i (j + n) = ix o i j + n := by
 cases o <;> simp [ix, Nat.add_assoc]
theorem Src.via {x : Operand} {v : V} {rd : List Nat} {q : Ref} (hx : x ∈ o.op.operands) (hq : q ∈ q24 (opnd tm x)) (hrd : q.root ∈ rd) (h : ∀ r ∈ q24 v, r.root = q.root) : Src tm fresh o rd v :=
 fun r hr => .inr ⟨x, hx, q, hq, (h r hr).symm, .inr (.inl ((h r hr).symm ▸ hrd))⟩
theorem Src.eqRef {x : Operand} {v : V} {rd : List Nat} {q : Ref} (hx : x ∈ o.op.operands) (hq : q ∈ q24 (opnd tm x)) (h : ∀ r ∈ q24 v, r = q) : Src tm fresh o rd v :=
 Src.of hx fun r hr => (h r hr) ▸ hq
theorem q489 {R : Type} {K : OpK R} {r : R} (hT : q81 P C) (hf : FR C w E β tm obs a F Gk) {s : TypeId} {x : Operand} {f : Nat} (ho : o.op = .fieldAddr s x f) (h : opK C k tm obs fresh o K = some r) : OpOk P C k tm obs fresh o a w E β F := by
 have hx : x ∈ o.op.operands := by rw [ho]; simp [Op.operands]
 have rx := q30 hf x
 unfold opK at h
 simp only [ho] at h
 have hs := q60 hT s
 have step : ∀ (fs : List (Nat × Nat)) (off n : Nat) (ad : Addr), q576 P s (.struct fs) -> fs[f]? = some (off, n) -> (Instr.fieldAt s (.pointer (some ad)) f).run P w = .ok (.pointer (some (ad.add off))) w := by
  intro fs off n ad hk hfs
  obtain ⟨fields, hu, hall⟩ := hk
  obtain ⟨fd, hfd, ho1, hn0, ⟨inf, hi, hsz⟩, _⟩ := hall.get f (off, n) hfs
  have hfd' : fields[f]? = some fd := by simpa using hfd
  have hz : ¬ inf.size = 0 := by rw [hsz]; exact hn0
  simp [Instr.fieldAt, run_underlying hu, hfd', Instr.sureAddr, fieldPlace, sizeOf, typeInfo, hi, hz, ho1]
 split at h
 ·rename_i fs q i j hk hb
  rw [hk] at hs
  have rx' := rx
  rw [hb] at rx'
  obtain ⟨ad, hu, hat⟩ := rx'
  split at h
  ·rename_i off n hfs
   refine q29 (rd := []) hf.ob (fun tm' obs' ht htR _ R' K' => ?_) (Src.eqRef hx (q := q) (by rw [hb]; simp [q24, q31, q37]) (fun r hr => by simpa [q24, q31, q37] using hr)) (v := .hp q i (j + off)) (u := .pointer (some (ad.add off))) ?_ ?_
   ·unfold opK; simp only [ho, ht x hx, hk, hb, hfs]
   ·simp [execOp, ho, hu, step fs off n ad hs hfs]
   ·refine ⟨_, rfl, fun o loc hl => ?_⟩
    obtain ⟨b, c, hloc, had⟩ := hat o loc hl
    exact ⟨b, c, hloc, by rw [had, q129, ix_add, Nat.add_assoc]⟩
  ·cases h
 ·rename_i fs τ y j hk hb
  rw [hk] at hs
  have rx' := rx
  rw [hb] at rx'
  obtain ⟨b, c, row, G, hu, hF, hrow, hE, hl⟩ := rx'
  split at h
  ·rename_i off n hfs
   refine q29 (rd := []) hf.ob (fun tm' obs' ht htR _ R' K' => ?_) (Src.none rfl) (v := .ip τ y (j + off)) (u := .pointer (some ⟨b, c + j + off, none⟩)) ?_ ?_
   ·unfold opK; simp only [ho, ht x hx, hk, hb, hfs]
   ·simp [execOp, ho, hu, step fs off n _ hs hfs, q129]
   ·exact ⟨b, c, row, G, by rw [Nat.add_assoc], hF, hrow, hE, hl⟩
  ·cases h
 ·cases h
theorem q286 (hT : q81 P C) {t : TypeId} {τ : Ty} (h : szOk C t τ = true) : ∃ e inf, P.underlying t = some (.slice e) /\ P.info? e = some inf /\ inf.size = τ.size := by
 unfold szOk at h
 have hk := q60 hT t
 split at h
 ·rename_i e he
  rw [he] at hk
  split at h
  ·rename_i i hi
   obtain ⟨z, inf, h1, h2, _⟩ := (hT e i hi).info
   exact ⟨e, inf, hk, h1, h2.trans (y143 h)⟩
  ·cases h
 ·cases h
theorem q494 {R : Type} {K : OpK R} {r : R} (hT : q81 P C) (hf : FR C w E β tm obs a F Gk) {t : TypeId} {x y : Operand} (ho : o.op = .indexAddr t x y) (h : opK C k tm obs fresh o K = some r) : OpOk P C k tm obs fresh o a w E β F := by
 have hx : x ∈ o.op.operands := by rw [ho]; simp [Op.operands]
 have hy : y ∈ o.op.operands := by rw [ho]; simp [Op.operands]
 have rx := q30 hf x
 have ry := q30 hf y
 unfold opK at h
 simp only [ho] at h
 have step : ∀ (e : TypeId) (inf : TypeInfo) (ad : Addr) (n cap : Nat) (kk : IntKind) (i : Int), P.underlying t = some (.slice e) -> P.info? e = some inf -> 0 <= i -> i < n ->
   (Instr.indexAt t (.slice (some ad) n cap) (.int kk i)).run P w = .ok (.pointer (some (ad.add (i.toNat * inf.size)))) w := by
  intro e inf ad n cap kk i hu hi h0 hn
  simp [Instr.indexAt, asIntOf, run_underlying hu, sizeOf, typeInfo, hi, h0, hn]
 split at h
 ·rename_i τ l kk i hb hby
  have rx' := rx; rw [hb] at rx'
  have ry' := ry; rw [hby] at ry'
  have ey := q44 ry'
  cases hz : szOk C t τ with
  | false => rw [hz] at h; cases h
  | true =>
   rw [hz] at h
   simp only [cond] at h
   split at h
   ·rename_i h0
    obtain ⟨y', hy', _⟩ := q51 h
    obtain ⟨e, inf, hu, hi, hsz⟩ := q286 hT hz
    have hlt : i.toNat < l.length := (y149.1 hy').1
    obtain ⟨G, hE, ad, cap, hux, hd⟩ := rx'
    injection hux with hux
    rcases hd with hd | ⟨b, off, row, had, hF, hrow, hle, hel⟩
    ·subst hd; cases hlt
    ·obtain ⟨G', hE', hl'⟩ := hel i.toNat y' hy'
     refine q29 (rd := []) hf.ob (fun tm' obs' ht htR _ R' K' => ?_) (Src.none rfl) (v := .ip τ y' 0) (u := .pointer (some ⟨b, off + i.toNat * τ.size, none⟩)) ?_ ?_
     ·unfold opK; simp only [ho, ht x hx, ht y hy, hb, hby, hz, cond, h0, if_true, hy', Option.bind]
     ·have hlt' : i < (l.length : Int) := by omega
      simp [execOp, ho, ey, hux, had, step e inf _ l.length (l.length + cap) kk i hu hi h0 hlt', q129, hsz]
     ·exact ⟨b, off + i.toNat * τ.size, row, G', rfl, hF, hrow, hE', hl'⟩
   ·cases h
 ·rename_i q off n wh kk i hb hby
  have rx' := rx; rw [hb] at rx'
  have ry' := ry; rw [hby] at ry'
  have ey := q44 ry'
  obtain ⟨o1, loc, G, hat, hob1, _, hK, hst⟩ := q267 hf.ob h
  cases o1 with
  | box => cases hK
  | mp => cases hK
  | arr τ l =>
   simp only at hK
   cases hz : szOk C t τ with
   | false => rw [hz] at hK; cases hK
   | true =>
    rw [hz] at hK
    simp only [cond] at hK
    split at hK
    ·rename_i h0
     obtain ⟨e, inf, hu, hi, hsz⟩ := q286 hT hz
     obtain ⟨ad, cap, hux, hall⟩ := rx'
     obtain ⟨τ', l', e1, hh, hle, _⟩ := hall _ _ hat
     injection e1 with e1 e2; subst e1
     obtain ⟨ad', cap', hux', hd⟩ := hh
     rw [hux] at hux'; injection hux' with h1 h2 h3; subst h1; subst h3
     rcases hd with ⟨hn, _⟩ | ⟨b, c, row, hloc, hrow, had, hnc, hsize⟩
     ·omega
     ·refine q29 (rd := [q.root]) hf.ob (fun tm' obs' ht htR hr R' K' => ?_) (Src.eqRef hx (q := q) (by rw [hb]; simp [q24, q31, q37]) (fun r hr => by simpa [q24, q31, q37] using hr)) (v := .hp q (q288 off i.toNat) 0) (u := .pointer (some ⟨b, c + off * τ.size + i.toNat * τ.size, none⟩)) ?_ ?_
      ·unfold opK; simp only [ho, ht x hx, ht y hy, hb, hby]
       rw [hst R' _ obs' (hr _ (.inl (by simp)))]
       simp only [hz, cond, h0, and_self, if_true]
      ·simp [execOp, ho, ey, hux, had, step e inf _ n cap kk i hu hi h0.1 h0.2, q129, hsz]
      ·refine ⟨_, rfl, fun o2 loc2 hl2 => ?_⟩
       rw [hat] at hl2; injection hl2 with hl2; injection hl2 with h1 h2; subst h1; subst h2
       refine ⟨b, c, hloc, ?_⟩
       simp only [ix, q288, Nat.add_zero]
       rw [Nat.add_mul, Nat.add_comm (i.toNat * τ.size), Nat.add_assoc]
    ·cases hK
 ·cases h
theorem op_load {R : Type} {K : OpK R} {r : R} (hT : q81 P C) (hf : FR C w E β tm obs a F Gk) {t : TypeId} {x : Operand} (ho : o.op = .load t x) (h : opK C k tm obs fresh o K = some r) : OpOk P C k tm obs fresh o a w E β F := by
 have hx : x ∈ o.op.operands := by rw [ho]; simp [Op.operands]
 have rx := q30 hf x
 unfold opK at h
 simp only [ho] at h
 split at h
 ·cases h
 ·rename_i i hi
  have hk := (hT t i hi).kind
  obtain ⟨z, inf, hinf, hsz, _⟩ := (hT t i hi).info
  have one : ∀ {d : TypeDesc} {u : Value} {ad : Addr}, P.underlying t = some d -> q89 d = false -> a.eval x = .pointer (some ad) -> w.cell? ad = some u -> (execOp a.eval o).run P w = .ok (.value u) w := by
   intro d u ad hu hd he hc
   simp [execOp, ho, he, q658 hu hd hc]
  have flat : (∃ d, P.underlying t = some d /\ q89 d = false) \/ (∃ fs, i.k = .struct fs) \/ i.k = .other := by
   cases hik : i.k with
   | int kk => rw [hik] at hk; exact .inl ⟨_, hk, rfl⟩
   | bool => rw [hik] at hk; exact .inl ⟨_, hk, rfl⟩
   | slice e => rw [hik] at hk; exact .inl ⟨_, hk, rfl⟩
   | ptr e => rw [hik] at hk; exact .inl ⟨_, hk, rfl⟩
   | map _ e => rw [hik] at hk; exact .inl ⟨_, hk, rfl⟩
   | struct fs => exact .inr (.inl ⟨fs, rfl⟩)
   | other => exact .inr (.inr rfl)
  split at h
  ·rename_i q e j hb
   have rx' := rx; rw [hb] at rx'
   obtain ⟨ad, hux, hall⟩ := rx'
   obtain ⟨o1, loc, G, hat, hob1, _, hK, hst⟩ := q267 hf.ob h
   obtain ⟨b, off, hloc, had⟩ := hall _ _ hat
   subst hloc
   have hq : q ∈ q24 (opnd tm x) := by rw [hb]; simp [q24, q31, q37]
   rcases flat with ⟨d, hu, hd⟩ | ⟨fs, hik⟩ | hik
   ·have hK' : (o1.leafK e j fun v => q165 v fun v => K (view q e j v) [] [q.root] []) = some r := by
     cases hik : i.k with
     | struct fs => rw [hik] at hk; obtain ⟨fields, hu', _⟩ := hk; rw [hu] at hu'; injection hu' with hu'; subst hu'; cases hd
     | other => rw [hik] at hK; cases hK
     | _ => rw [hik] at hK; exact hK
    obtain ⟨v, hv, hK2⟩ := q180 hK'
    obtain ⟨b', off', u, G1, hl1, _, hcell, hlf, _, _⟩ := q271 hob1 hv
    injection hl1 with hl1; injection hl1 with h1 h2; subst h1; subst h2
    have hvr := q578 hat hv hcell hlf
    obtain ⟨hrf, hup⟩ := q476 (w := w) (β := β) (obs := obs) (F := F) q e j hlf
    refine q29 (rd := [q.root]) hf.ob (fun tm' obs' ht htR hr R' K' => ?_) (Src.via hx hq (by simp) (q469 q e j hlf)) (v := view q e j v) (u := u) (one hu hd (by rw [hux, had]) hcell) (hup u hvr)
    unfold opK; simp only [ho, hi, ht x hx, hb]
    rw [hst R' _ obs' (hr _ (.inl (by simp)))]
    have e1 : ∀ K2 : V -> Option R', o1.leafK e j K2 = K2 v := fun K2 => q103 hv K2
    cases hik : i.k with
    | struct fs => rw [hik] at hk; obtain ⟨fields, hu', _⟩ := hk; rw [hu] at hu'; injection hu' with hu'; subst hu'; cases hd
    | other => rw [hik] at hK; cases hK
    | _ => simp only; rw [e1]; exact q132 hK2 R' _
   ·rw [hik] at hK hk
    obtain ⟨fields, hu, hfl⟩ := hk
    simp only at hK
    obtain ⟨b', off', row, Gm, vs, hl1, hrow, hle, hls, hlen, hget, _, hst2⟩ := q613 hob1 hK
    injection hl1 with hl1; injection hl1 with h1 h2; subst h1; subst h2
    have hagg : All2 (VRl w β obs F) (q353 q e j vs) (seg row (off + ix o1 e j) i.size) := by
     refine All2.of_get (by rw [q322, hlen, q80 hle]) fun p v' u hv' hu' => ?_
     rw [q359] at hv'
     cases hp : vs[p]? with
     | none => rw [hp] at hv'; cases hv'
     | some v =>
      rw [hp] at hv'
      injection hv' with hv'; subst hv'
      obtain ⟨u2, G1, hu2, hlf⟩ := hls.to p v hp
      rw [hu'] at hu2; injection hu2 with hu2; subst hu2
      have hpn : p < i.size := by rw [<- hlen]; exact (y149.1 hp).1
      refine q578 hat ((hget p hpn).symm.trans hp) ?_ hlf
      have := q88 hu'
      rw [ix_add, <- Nat.add_assoc]
      exact q42 hrow.s this
    refine q29 (rd := [q.root]) hf.ob (fun tm' obs' ht htR hr R' K' => ?_) (Src.via hx hq (by simp) ?_) (v := .agg (q353 q e j vs)) (u := .agg (seg row (off + ix o1 e j) i.size).toArray) ?_ ?_
    ·unfold opK; simp only [ho, hi, ht x hx, hb]
     rw [hst R' _ obs' (hr _ (.inl (by simp)))]
     simp only [hik]
     exact hst2 R' _
    ·intro r hr
     obtain ⟨v', hv', hr'⟩ := List.mem_flatMap.1 (show r ∈ (q353 q e j vs).flatMap q37 from hr)
     obtain ⟨p, hp⟩ := List.getElem?_of_mem hv'
     rw [q359] at hp
     cases hp2 : vs[p]? with
     | none => rw [hp2] at hp; cases hp
     | some v =>
      rw [hp2] at hp
      injection hp with hp; subst hp
      obtain ⟨u2, G1, _, hlf⟩ := hls.to p v hp2
      have hrf := (q476 (w := w) (β := β) (obs := obs) (F := F) q e (j + p) hlf).1
      exact q469 q e (j + p) hlf r (hrf.symm ▸ hr')
    ·simp [execOp, ho, hux, had, q555 hu rfl hinf hsz hrow.s hle]
    ·exact ⟨_, rfl, by simpa using hagg⟩
   ·rw [hik] at hK; cases hK
  ·rename_i τ y j hb
   have rx' := rx; rw [hb] at rx'
   obtain ⟨b, off, row, G, hux, hF, hrow, hE, hl⟩ := rx'
   cases hpl : τ.plain with
   | false => rw [hpl] at h; cases h
   | true =>
    rw [hpl] at h
    have hls := LR.leaves τ y _ _ hl
    have hlen := Ty.leaves_length τ y
    have hsl : (seg row off τ.size).length = τ.size := by rw [hls.length, hlen]
    have leaf : ∀ (p : Nat) (v : V) (u : Value), (τ.leaves y)[p]? = some v -> (seg row off τ.size)[p]? = some u -> VRl w β obs F v u := by
     intro p v u hv hu
     obtain ⟨u2, G1, hu2, hlf⟩ := hls.to p v hv
     rw [hu] at hu2; injection hu2 with hu2; subst hu2
     exact leafVR hlf (q211 τ y hpl v (List.mem_of_getElem? hv))
    have noref : ∀ v ∈ τ.leaves y, q37 v = [] /\ q24 v = q37 v := by
     intro v hv
     obtain ⟨p, hp⟩ := List.getElem?_of_mem hv
     obtain ⟨u2, G1, _, hlf⟩ := hls.to p v hp
     cases v <;> first | exact ⟨rfl, rfl⟩ | exact hlf.elim
    rcases flat with ⟨d, hu, hd⟩ | ⟨fs, hik⟩ | hik
    ·have hK' : (match (τ.leaves y)[j]? with | some v => K v [] [] [] | none => none) = some r := by
      cases hik : i.k with
      | struct fs => rw [hik] at hk; obtain ⟨fields, hu', _⟩ := hk; rw [hu] at hu'; injection hu' with hu'; subst hu'; cases hd
      | other => rw [hik] at h; cases h
      | _ => rw [hik] at h; exact h
     cases hv : (τ.leaves y)[j]? with
     | none => rw [hv] at hK'; cases hK'
     | some v =>
      have hj : j < τ.size := by rw [<- hlen]; exact (y149.1 hv).1
      obtain ⟨u, hu2⟩ : ∃ u, (seg row off τ.size)[j]? = some u := ⟨_, y140 (by rw [hsl]; exact hj)⟩
      have hvr := leaf j v u hv hu2
      have hnr := noref v (List.mem_of_getElem? hv)
      refine q29 (rd := []) hf.ob (fun tm' obs' ht htR hr R' K' => ?_) (Src.none (hnr.2.trans hnr.1)) (v := v) (u := u) (one hu hd hux (q42 hrow (q88 hu2))) ?_
      ·unfold opK; simp only [ho, hi, ht x hx, hb, hpl]
       cases hik : i.k with
       | struct fs => rw [hik] at hk; obtain ⟨fields, hu', _⟩ := hk; rw [hu] at hu'; injection hu' with hu'; subst hu'; cases hd
       | other => rw [hik] at h; cases h
       | _ => simp only [hv]; rfl
      ·cases v <;> first | exact hvr | exact hvr.elim
    ·rw [hik] at h hk
     obtain ⟨fields, hu, hfl⟩ := hk
     have h' : (bif Nat.blt 0 i.size && Nat.ble (j + i.size) τ.size then K (.agg (((τ.leaves y).drop j).take i.size)) [] [] [] else none) = some r := h
     cases hb2 : Nat.blt 0 i.size && Nat.ble (j + i.size) τ.size with
     | false => rw [hb2] at h'; cases h'
     | true =>
      have hb3 := hb2
      rw [y144] at hb3
      have h0 : 0 < i.size := of_decide_eq_true (by simpa [Nat.blt_eq] using hb3.1)
      have hle := y168 hb3.2
      have hsr : off + τ.size <= row.size := by
       have := hsl
       unfold seg at this
       rw [y154, List.length_drop, y156] at this
       omega
      have hrs : off + j + i.size <= row.size := by omega
      have hagg : All2 (VRl w β obs F) (((τ.leaves y).drop j).take i.size) (seg row (off + j) i.size) := by
       refine All2.of_get (by rw [y154, List.length_drop, hlen, q80 hrs]; omega) fun p v u hv hu => ?_
       rw [List.getElem?_take] at hv
       split at hv
       ·rename_i hp
        rw [List.getElem?_drop] at hv
        refine leaf (j + p) v u hv ?_
        rw [q168] at hu ⊢
        rw [if_pos hp] at hu
        rw [if_pos (by omega), <- hu, Nat.add_assoc]
       ·cases hv
      refine q29 (rd := []) hf.ob (fun tm' obs' ht htR hr R' K' => ?_) (Src.none ?_) (v := .agg (((τ.leaves y).drop j).take i.size)) (u := .agg (seg row (off + j) i.size).toArray) ?_ ?_
      ·unfold opK; simp only [ho, hi, ht x hx, hb, hpl, hik]
       show (bif Nat.blt 0 i.size && Nat.ble (j + i.size) τ.size then _ else none) = _
       rw [hb2]; rfl
      ·refine List.flatMap_eq_nil_iff.2 fun v hv => (noref v ?_).1
       exact List.mem_of_mem_drop (List.mem_of_mem_take hv)
      ·simp [execOp, ho, hux, q555 hu rfl hinf hsz hrow hrs]
      ·exact ⟨_, rfl, by simpa using hagg⟩
    ·rw [hik] at h; cases h
  ·cases h
end
end Go.Lf
namespace Go.Lf
section
variable {P : Program} {C : Ctx} {k : Nat} {tm : List (Nat × V)} {obs : List (Nat × Ob)} {fresh : Nat} {o : Oper} {a : Act} {w : World} {E : Bs} {β : Nat -> Option (Nat × Nat)} {F : Bs} {Gk : Nat -> Bs}
theorem All2.drop {α β : Type} {R : α -> β -> Prop} : ∀ {as : List α} {bs : List β} (n : Nat), All2 R as bs -> All2 R (as.drop n) (bs.drop n)
 | _, _, 0, h => h
 | _, _, n + 1, .nil => .nil
 | _, _, n + 1, .cons _ h => h.drop n
theorem All2.take {α β : Type} {R : α -> β -> Prop} : ∀ {as : List α} {bs : List β} (n : Nat), All2 R as bs -> All2 R (as.take n) (bs.take n)
 | _, _, 0, _ => .nil
 | _, _, n + 1, .nil => .nil
 | _, _, n + 1, .cons h t => .cons h (t.take n)
theorem All2.append {α β : Type} {R : α -> β -> Prop} {as as' : List α} {bs bs' : List β} (h : All2 R as bs) (h' : All2 R as' bs') : All2 R (as ++ as') (bs ++ bs') := by
 induction h with
 | nil => exact h'
 | cons h _ ih => exact .cons h ih
theorem q491 {v : V} {u : Value} (h : VRl w β obs F v u) : q24 v = q37 v /\ (∀ u', VRl w β obs F v u' -> VR w β obs F v u') := by
 cases v <;> first
  | exact ⟨rfl, fun _ h => h⟩
  | exact h.elim
theorem op_field {R : Type} {K : OpK R} {r : R} (hT : q81 P C) (hf : FR C w E β tm obs a F Gk) {s : TypeId} {x : Operand} {f : Nat} (ho : o.op = .field s x f) (h : opK C k tm obs fresh o K = some r) : OpOk P C k tm obs fresh o a w E β F := by
 have hx : x ∈ o.op.operands := by rw [ho]; simp [Op.operands]
 have rx := q30 hf x
 unfold opK at h
 simp only [ho] at h
 have hs := q60 hT s
 split at h
 ·rename_i fs vs hk hb
  rw [hk] at hs
  have rx' := rx
  rw [hb] at rx'
  obtain ⟨us, hu, hall⟩ := rx'
  obtain ⟨fields, hun, hfl⟩ := hs
  split at h
  ·rename_i off n hfs
   obtain ⟨fd, hfd, ho1, hn0, ⟨inf, hi, hsz⟩, d, hud, hagg⟩ := hfl.get f (off, n) hfs
   have ho1 : fd.offset = off := ho1
   have hsz : inf.size = n := hsz
   have hfd' : fields[f]? = some fd := by simpa using hfd
   cases hle : Nat.ble (off + n) vs.length with
   | false => rw [hle] at h; cases h
   | true =>
    rw [hle] at h
    have hle' := y168 hle
    simp only [cond] at h
    have hin : ∀ v ∈ vs, ∀ r ∈ q37 v, r ∈ q24 (opnd tm x) := by
     intro v hv r hr
     rw [hb]
     exact List.mem_flatMap.2 ⟨v, hv, hr⟩
    cases h1 : Nat.beq n 1 with
    | true =>
     rw [h1] at h
     have hd : q89 d = false := by rw [hagg]; show (!Nat.beq n 1) = false; rw [h1]; rfl
     have hia : (isAgg fd.type).run P w = .ok false w := by cases d <;> simp_all [isAgg, run_underlying hud, q89]
     simp only at h
     cases hv : vs[off]? with
     | none => rw [hv] at h; cases h
     | some v =>
      obtain ⟨u, hu1, hvr⟩ := hall.get off v hv
      have hu2 : us[off]? = some u := by simpa using hu1
      obtain ⟨hrf, hup⟩ := q491 hvr
      refine q29 (rd := []) hf.ob (fun tm' obs' ht htR hr R' K' => ?_) (Src.of hx fun r hr => hin v (List.mem_of_getElem? hv) r (hrf ▸ hr)) (v := v) (u := u) ?_ (hup u hvr)
      ·unfold opK; simp only [ho, ht x hx, hk, hb, hfs, hle, cond, h1, hv]
      ·simp [execOp, ho, hu, Instr.field, run_underlying hun, hfd', asAgg, part, hia, ho1, hu2]
    | false =>
     have hd : q89 d = true := by rw [hagg]; show (!Nat.beq n 1) = true; rw [h1]; rfl
     have hia : (isAgg fd.type).run P w = .ok true w := by cases d <;> simp_all [isAgg, run_underlying hud, q89]
     refine q29 (rd := []) hf.ob (fun tm' obs' ht htR hr R' K' => ?_) (Src.of hx ?_) (v := .agg ((vs.drop off).take n)) (u := .agg (us.extract off (off + n))) ?_ ?_
     ·unfold opK; simp only [ho, ht x hx, hk, hb, hfs, hle, cond, h1]
     ·intro r hr
      obtain ⟨v, hv, hr⟩ := List.mem_flatMap.1 (show r ∈ ((vs.drop off).take n).flatMap q37 from hr)
      exact hin v (List.mem_of_mem_drop (List.mem_of_mem_take hv)) r hr
     ·simp [execOp, ho, hu, Instr.field, run_underlying hun, hfd', asAgg, part, hia, ho1, sizeOf, typeInfo, hi, hsz]
     ·refine ⟨_, rfl, ?_⟩
      have : (us.extract off (off + n)).toList = (us.toList.drop off).take n := by simp
      rw [this]
      exact (hall.drop off).take n
  ·cases h
 ·cases h
theorem q452 {vs : List V} (h : q69 vs = true) : ∀ v ∈ vs, q324 v = true := by
 induction vs with
 | nil => intro v hv; cases hv
 | cons x vs ih =>
  simp only [q69, y144] at h
  intro v hv
  rcases y166.1 hv with rfl | hv
  ·exact h.1
  ·exact ih h.2 v hv
theorem VR.leaf {v : V} {u : Value} (h : VR w β obs F v u) (hl : q324 v = true) : VRl w β obs F v u := by
 cases v <;> first | exact h | cases hl
theorem q511 {R : Type} {K : OpK R} {r : R} (hf : FR C w E β tm obs a F Gk) {f : FuncId} {first caps : Array Operand} (ho : o.op = .makeFunc (.func f) first caps) (h : opK C k tm obs fresh o K = some r) : OpOk P C k tm obs fresh o a w E β F := by
 unfold opK at h
 simp only [ho] at h
 split at h
 ·rename_i hfi
  have hfi' : first = #[] := Array.toList_eq_nil_iff.1 hfi
  subst hfi'
  cases hl : q69 (caps.toList.map (opnd tm)) with
  | false => rw [hl] at h; cases h
  | true =>
   have hop : ∀ x ∈ caps.toList, x ∈ o.op.operands := fun x hx => by rw [ho]; simp [Op.operands]; exact Array.mem_toList_iff.1 hx
   have hls := q452 hl
   refine q29 (rd := []) hf.ob (fun tm' obs' ht htR _ R' K' => ?_) ?_ (v := .fn f (caps.toList.map (opnd tm))) (u := .func (.func f) #[] (caps.map a.eval)) ?_ ?_
   ·unfold opK
    have : caps.toList.map (opnd tm') = caps.toList.map (opnd tm) := List.map_congr_left fun x hx => ht x (hop x hx)
    simp only [ho, this, hl, cond]
   ·intro r hr
    obtain ⟨v, hv, hr⟩ := List.mem_flatMap.1 (show r ∈ (caps.toList.map (opnd tm)).flatMap q37 from hr)
    obtain ⟨x, hx, rfl⟩ := List.mem_map.1 hv
    refine Src.same (o := o) (hop x hx) r ?_
    have := (q491 (VR.leaf (q30 hf x) (hls _ hv))).1
    rw [this]; exact hr
   ·simp [execOp, ho, Instr.makeFunc]
   ·refine ⟨caps.map a.eval, rfl, ?_⟩
    rw [Array.toList_map]
    refine All2.of_get (by simp) fun i v u hv hu => ?_
    rw [List.getElem?_map] at hv hu
    cases hx : caps.toList[i]? with
    | none => rw [hx] at hv; cases hv
    | some x =>
     rw [hx] at hv hu
     injection hv with hv; injection hu with hu; subst hv; subst hu
     exact VR.leaf (q30 hf x) (hls _ (List.mem_map.2 ⟨x, List.mem_of_getElem? hx, rfl⟩))
 ·cases h
end
end Go.Lf
namespace Go.Lf
section
variable {P : Program} {C : Ctx} {k : Nat} {tm : List (Nat × V)} {obs : List (Nat × Ob)} {fresh : Nat} {o : Oper} {a : Act} {w : World} {E : Bs} {β : Nat -> Option (Nat × Nat)} {F : Bs} {Gk : Nat -> Bs}
theorem q498 {n cap l h : Nat} {lo hi : Option Value} (hl : (lo = none /\ l = 0) \/ ∃ kk, lo = some (.int kk (l : Int))) (hh : (hi = none /\ h = n) \/ ((∃ kk, hi = some (.int kk (h : Int))) /\ h <= cap)) (hlh : l <= h) :
  (Instr.sliceBounds true n cap lo hi none).run P w = .ok (l, h, cap) w := by
 rcases hl with ⟨e1, e2⟩ | ⟨kk, e1⟩ <;> rcases hh with ⟨e3, e4⟩ | ⟨⟨kk', e3⟩, hc⟩
 ·subst e1; subst e2; subst e3; subst e4; simp [Instr.sliceBounds]
 ·subst e1; subst e2; subst e3
  simp [Instr.sliceBounds, Instr.sliceBound, asIntOf, hc]
 ·subst e1; subst e3; subst e4
  simp [Instr.sliceBounds, Instr.sliceBound, asIntOf, hlh]
 ·subst e1; subst e3
  simp [Instr.sliceBounds, Instr.sliceBound, asIntOf, hc, hlh]
theorem q456 {t e : TypeId} {inf : TypeInfo} {ad : Option Addr} {n cap l h : Nat} {lo hi : Option Value} (hu : P.underlying t = some (.slice e)) (hi' : P.info? e = some inf)
  (hl : (lo = none /\ l = 0) \/ ∃ kk, lo = some (.int kk (l : Int))) (hh : (hi = none /\ h = n) \/ ((∃ kk, hi = some (.int kk (h : Int))) /\ h <= cap)) (hlh : l <= h) :
  (Instr.sliceAt t (.slice ad n cap) lo hi none).run P w = .ok (.slice (if cap = l then ad else ad.map (·.add (l * inf.size))) (h - l) (cap - l)) w := by
 simp [Instr.sliceAt, Instr.slice, run_underlying hu, q498 hl hh hlh, sizeOf, typeInfo, hi']
def cut (n : Nat) (lo hi : Option V) : Option (Nat × Nat) :=
 match lo, hi with
 | none, none => some (0, n)
 | some (.int _ a), none => if 0 <= a /\ a <= n then some (a.toNat, n) else none
 | none, some (.int _ b) => if 0 <= b /\ b <= n then some (0, b.toNat) else none
 | some (.int _ a), some (.int _ b) => if 0 <= a /\ a <= b /\ b <= n then some (a.toNat, b.toNat) else none
 | _, _ => none
theorem q749 {R : Type} {q : Ref} {off n : Nat} {wh : Bool} {lo hi mx : Option V} {K : V -> Option R} {r : R} (h : q155 (.hs q off n wh) lo hi mx K = some r) :
  mx = none /\ ∃ l h off' wh', cut n lo hi = some (l, h) /\ l <= h /\ h <= n /\ off' = off + l /\ (wh' = true -> wh = true /\ l = 0 /\ h = n) /\ ∀ (R' : Type) (K' : V -> Option R'), q155 (.hs q off n wh) lo hi mx K' = K' (.hs q off' (h - l) wh') := by
 unfold q155 at h
 split at h
 ·exact ⟨rfl, 0, n, off, wh, rfl, Nat.zero_le _, Nat.le_refl _, rfl, fun h => ⟨h, rfl, rfl⟩, fun _ _ => rfl⟩
 ·rename_i e; cases e
 ·rename_i e; cases e
 ·rename_i e; cases e
 ·rename_i q' off' n' wh' kk x e
  injection e with e1 e2 e3 e4; subst e1; subst e2; subst e3; subst e4
  split at h
  ·rename_i hx
   refine ⟨rfl, x.toNat, n, q288 off x.toNat, false, by simp only [cut, hx, and_self, if_true], by omega, Nat.le_refl _, by simp only [q288]; omega, nofun, fun R' K' => ?_⟩
   unfold q155; simp only [hx, and_self, if_true]
  ·cases h
 ·rename_i q' off' n' wh' kk x e
  injection e with e1 e2 e3 e4; subst e1; subst e2; subst e3; subst e4
  split at h
  ·rename_i hx
   refine ⟨rfl, 0, x.toNat, off, false, by simp only [cut, hx, and_self, if_true], by omega, by omega, by omega, nofun, fun R' K' => ?_⟩
   unfold q155; simp only [hx, and_self, if_true, Nat.sub_zero]
  ·cases h
 ·rename_i q' off' n' wh' kk x kk' y e
  injection e with e1 e2 e3 e4; subst e1; subst e2; subst e3; subst e4
  split at h
  ·rename_i hx
   refine ⟨rfl, x.toNat, y.toNat, q288 off x.toNat, false, by simp only [cut, hx, and_self, if_true], by omega, by omega, by simp only [q288]; omega, nofun, fun R' K' => ?_⟩
   unfold q155; simp only [hx, and_self, if_true]
  ·cases h
 ·cases h
theorem q644 {R : Type} {τ : Ty} {c : List τ.den} {lo hi mx : Option V} {K : V -> Option R} {r : R} (h : q155 (.sl τ c) lo hi mx K = some r) :
  mx = none /\ ∃ l h c', cut c.length lo hi = some (l, h) /\ l <= h /\ h <= c.length /\ c' = (c.drop l).take (h - l) /\ ∀ (R' : Type) (K' : V -> Option R'), q155 (.sl τ c) lo hi mx K' = K' (.sl τ c') := by
 unfold q155 at h
 split at h
 ·exact ⟨rfl, 0, c.length, c, rfl, Nat.zero_le _, Nat.le_refl _, by simp, fun _ _ => rfl⟩
 ·rename_i τ' c' kk x e
  injection e with e1 e2; subst e1
  have e2 := eq_of_heq e2; subst e2
  split at h
  ·rename_i hx
   refine ⟨rfl, x.toNat, c.length, c.drop x.toNat, by simp only [cut, hx, and_self, if_true], by omega, Nat.le_refl _, ?_, fun R' K' => ?_⟩
   ·rw [List.take_of_length_le (by rw [List.length_drop]; omega)]
   ·unfold q155; simp only [hx, and_self, if_true]
  ·cases h
 ·rename_i τ' c' kk x e
  injection e with e1 e2; subst e1
  have e2 := eq_of_heq e2; subst e2
  split at h
  ·rename_i hx
   refine ⟨rfl, 0, x.toNat, c.take x.toNat, by simp only [cut, hx, and_self, if_true], by omega, by omega, ?_, fun R' K' => ?_⟩
   ·rw [y152, Nat.sub_zero]
   ·unfold q155; simp only [hx, and_self, if_true]
  ·cases h
 ·rename_i τ' c' kk x kk' y e
  injection e with e1 e2; subst e1
  have e2 := eq_of_heq e2; subst e2
  split at h
  ·rename_i hx
   refine ⟨rfl, x.toNat, y.toNat, (c.drop x.toNat).take (y.toNat - x.toNat), by simp only [cut, hx, and_self, if_true], by omega, by omega, rfl, fun R' K' => ?_⟩
   unfold q155; simp only [hx, and_self, if_true]
  ·cases h
 ·rename_i e; cases e
 ·rename_i e; cases e
 ·rename_i e; cases e
 ·cases h
theorem q579 (hf : FR C w E β tm obs a F Gk) {n cap l h : Nat} {lo hi : Option Operand} (hc : cut n (lo.map (opnd tm)) (hi.map (opnd tm)) = some (l, h)) (hcap : h <= cap) :
  ((lo.map a.eval = none /\ l = 0) \/ ∃ kk, lo.map a.eval = some (.int kk (l : Int))) /\ ((hi.map a.eval = none /\ h = n) \/ ((∃ kk, hi.map a.eval = some (.int kk (h : Int))) /\ h <= cap)) := by
 have val : ∀ (x : Operand) (kk : IntKind) (m : Int), opnd tm x = .int kk m -> a.eval x = .int kk m := fun x kk m e => by
  have := q30 hf x; rw [e] at this; exact q44 this
 unfold cut at hc
 split at hc
 ·rename_i h1 h2
  injection hc with hc; injection hc with e1 e2; subst e1; subst e2
  cases lo <;> cases hi <;> first | exact ⟨.inl ⟨rfl, rfl⟩, .inl ⟨rfl, rfl⟩⟩ | (cases h1; done) | (cases h2; done)
 ·rename_i kk x h1 h2
  split at hc
  ·rename_i hx
   injection hc with hc; injection hc with e1 e2; subst e1; subst e2
   cases lo with
   | none => cases h1
   | some lo =>
    cases hi with
    | some _ => cases h2
    | none =>
     injection h1 with h1
     exact ⟨.inr ⟨kk, by simp [val lo kk x h1]; omega⟩, .inl ⟨rfl, rfl⟩⟩
  ·cases hc
 ·rename_i kk x h1 h2
  split at hc
  ·rename_i hx
   injection hc with hc; injection hc with e1 e2; subst e1; subst e2
   cases hi with
   | none => cases h2
   | some hi =>
    cases lo with
    | some _ => cases h1
    | none =>
     injection h2 with h2
     exact ⟨.inl ⟨rfl, rfl⟩, .inr ⟨⟨kk, by simp [val hi kk x h2]; omega⟩, hcap⟩⟩
  ·cases hc
 ·rename_i kk x kk' y h1 h2
  split at hc
  ·rename_i hx
   injection hc with hc; injection hc with e1 e2; subst e1; subst e2
   cases hi with
   | none => cases h2
   | some hi =>
    cases lo with
    | none => cases h1
    | some lo =>
     injection h1 with h1
     injection h2 with h2
     exact ⟨.inr ⟨kk, by simp [val lo kk x h1]; omega⟩, .inr ⟨⟨kk', by simp [val hi kk' y h2]; omega⟩, hcap⟩⟩
  ·cases hc
 ·cases hc
theorem op_slice {R : Type} {K : OpK R} {r : R} (hT : q81 P C) (hf : FR C w E β tm obs a F Gk) {t : TypeId} {x : Operand} {lo hi mx : Option Operand} (ho : o.op = .slice t x lo hi mx) (h : opK C k tm obs fresh o K = some r) : OpOk P C k tm obs fresh o a w E β F := by
 have hx : x ∈ o.op.operands := by rw [ho]; simp [Op.operands]
 have hlo : ∀ y, lo = some y -> y ∈ o.op.operands := by intro y e; rw [ho, e]; simp [Op.operands]
 have hhi : ∀ y, hi = some y -> y ∈ o.op.operands := by intro y e; rw [ho, e]; simp [Op.operands]
 have hmx : ∀ y, mx = some y -> y ∈ o.op.operands := by intro y e; rw [ho, e]; simp [Op.operands]
 have same : ∀ (z : Option Operand) (tm' : List (Nat × V)), (∀ y, z = some y -> y ∈ o.op.operands) -> (∀ x, x ∈ o.op.operands -> opnd tm' x = opnd tm x) -> z.map (opnd tm') = z.map (opnd tm) := by
  intro z tm' hz ht
  cases z with
  | none => rfl
  | some y => simp [ht y (hz y rfl)]
 have rx := q30 hf x
 unfold opK at h
 simp only [ho] at h
 split at h
 ·rename_i τ l hb
  rw [hb] at rx
  cases hz : szOk C t τ with
  | false => rw [hz] at h; cases h
  | true =>
   rw [hz] at h
   simp only [cond] at h
   obtain ⟨hm, l1, h1, c', hcut, hlh, hhn, hc', hst⟩ := q644 h
   have hmn : mx = none := by cases mx <;> first | rfl | cases hm
   obtain ⟨e, inf, hu, hi', hsz⟩ := q286 hT hz
   obtain ⟨G, hE, ad, cap, hux, hd⟩ := rx
   injection hux with hux
   obtain ⟨hvl, hvh⟩ := q579 (cap := l.length + cap) hf hcut (by omega)
   have hrun := q456 (P := P) (w := w) (ad := ad) (n := l.length) hu hi' hvl hvh hlh
   refine q29 (rd := []) hf.ob (fun tm' obs' ht htR hr R' K' => ?_) (Src.none rfl) (v := .sl τ c') (u := .slice (if l.length + cap = l1 then ad else ad.map (·.add (l1 * inf.size))) (h1 - l1) (l.length + cap - l1)) ?_ ?_
   ·unfold opK; simp only [ho, ht x hx, hb, hz, cond, same lo tm' hlo ht, same hi tm' hhi ht, same mx tm' hmx ht]
    exact hst R' _
   ·simp only [execOp, ho, hux, hmn, Option.map_none, Sem.run_bind, hrun, Result.andThen_ok, Sem.run_pure]
   ·have hlen : c'.length = h1 - l1 := by rw [hc', y154, List.length_drop]; omega
    refine ⟨G, hE, (if l.length + cap = l1 then ad else ad.map (·.add (l1 * inf.size))), l.length + cap - l1 - (h1 - l1), by rw [hlen]; congr 2; omega, ?_⟩
    by_cases h0 : l1 = h1
    ·exact .inl (y153 (by omega))
    ·rcases hd with hd | ⟨b, off, row, had, hF, hrow, hle, hel⟩
     ·subst hd; have : h1 <= 0 := hhn; exact absurd (by omega : l1 = h1) h0
     ·refine .inr ⟨b, off + l1 * τ.size, row, ?_, hF, hrow, ?_, fun i y hy => ?_⟩
      ·rw [if_neg (by omega), had, hsz]; simp [q129]
      ·rw [hlen]
       have : (l1 + (h1 - l1)) * τ.size <= l.length * τ.size := y162 _ (by omega)
       rw [Nat.add_mul] at this
       omega
      ·rw [hc', List.getElem?_take] at hy
       split at hy
       ·rw [List.getElem?_drop] at hy
        obtain ⟨G', hE', hl'⟩ := hel (l1 + i) y hy
        refine ⟨G', hE', ?_⟩
        rw [Nat.add_mul, <- Nat.add_assoc] at hl'
        exact hl'
       ·cases hy
 ·rename_i q off n wh hb
  rw [hb] at rx
  obtain ⟨o1, loc, G, hat, hob1, _, hK, hst⟩ := q267 hf.ob h
  cases o1 with
  | mp => cases hK
  | box => cases hK
  | arr τ l =>
   simp only at hK
   cases hz : szOk C t τ with
   | false => rw [hz] at hK; cases hK
   | true =>
    rw [hz] at hK
    simp only [cond] at hK
    obtain ⟨hm, l1, h1, off', wh', hcut, hlh, hhn, hoff, hwh, hst2⟩ := q749 hK
    have hmn : mx = none := by cases mx <;> first | rfl | cases hm
    obtain ⟨e, inf, hu, hi', hsz⟩ := q286 hT hz
    obtain ⟨ad, cap, hux, hall⟩ := rx
    have hcapn : n <= cap := by
     obtain ⟨τ', l', e1, ⟨ad', cap', hux', hd⟩, hle, _⟩ := hall _ _ hat
     rw [hux] at hux'; injection hux' with e1 e2 e3; subst e3
     rcases hd with ⟨e1, _⟩ | ⟨_, _, _, _, _, _, hnc, _⟩ <;> omega
    obtain ⟨hvl, hvh⟩ := q579 (cap := cap) hf hcut (by omega)
    have hrun := q456 (P := P) (w := w) (ad := ad) (n := n) hu hi' hvl hvh hlh
    refine q29 (rd := [q.root]) hf.ob (fun tm' obs' ht htR hr R' K' => ?_) (Src.eqRef hx (q := q) (by rw [hb]; simp [q24, q31, q37]) (fun r hr => by simpa [q24, q31, q37] using hr)) (v := .hs q off' (h1 - l1) wh')
     (u := .slice (if cap = l1 then ad else ad.map (·.add (l1 * inf.size))) (h1 - l1) (cap - l1)) ?_ ?_
    ·unfold opK; simp only [ho, ht x hx, hb]
     rw [hst R' _ obs' (hr _ (.inl (by simp)))]
     simp only [hz, cond, same lo tm' hlo ht, same hi tm' hhi ht, same mx tm' hmx ht]
     exact hst2 R' _
    ·simp only [execOp, ho, hux, hmn, Option.map_none, Sem.run_bind, hrun, Result.andThen_ok, Sem.run_pure]
    ·refine ⟨_, _, rfl, fun o2 loc2 hl2 => ?_⟩
     obtain ⟨τ', l', e1, ⟨ad', cap', hux', hd⟩, hle, hw⟩ := hall o2 loc2 hl2
     rw [hl2] at hat; injection hat with hat; injection hat with e2 e3; subst e2; subst e3
     injection e1 with e1 e2; subst e1
     have e2 := eq_of_heq e2; subst e2
     rw [hux] at hux'; injection hux' with e1 e2 e3; subst e1; subst e3
     refine ⟨τ, l, rfl, ⟨_, _, rfl, ?_⟩, by rw [hoff]; omega, fun hw' => ?_⟩
     ·rcases hd with ⟨hn, hc⟩ | ⟨b, c, row, hloc, hrow, had, hnc, hsize⟩
      ·exact .inl ⟨by omega, by omega⟩
      ·by_cases hcl : cap = l1
       ·exact .inl ⟨by omega, by omega⟩
       ·refine .inr ⟨b, c, row, hloc, hrow, ?_, by omega, ?_⟩
        ·rw [if_neg hcl, had, hsz, hoff]; simp [q129, Nat.add_mul, Nat.add_assoc]
        ·rw [hoff]
         have : off + l1 + (cap - l1) = off + cap := by omega
         rw [this]; exact hsize
     ·obtain ⟨hw1, hw2, hw3⟩ := hwh hw'
      obtain ⟨e1, e2⟩ := hw hw1
      exact ⟨by omega, by omega⟩
 ·cases h
theorem q608 {v : V} {u : Value} {n : Int} (hv : VR w β obs F v u) (h : lenOf v = some n) : ∃ ad m cap, u = .slice ad m cap /\ n = (m : Int) := by
 unfold lenOf at h
 split at h
 ·injection h with h; subst h
  obtain ⟨G, hE, ad, cap, hux, _⟩ := hv
  injection hux with hux
  exact ⟨ad, _, _, hux, rfl⟩
 ·injection h with h; subst h
  obtain ⟨ad, cap, hux, _⟩ := hv
  exact ⟨ad, _, _, hux, rfl⟩
 ·injection h with h; subst h
  obtain ⟨ad, hux⟩ := hv
  exact ⟨ad, _, _, hux, rfl⟩
 ·cases h
theorem op_len {R : Type} {K : OpK R} {r : R} (hT : q81 P C) (hf : FR C w E β tm obs a F Gk) {c : Call} (ho : o.op = .call c) (hc : c.callee = .builtin .len) (h : opK C k tm obs fresh o K = some r) : OpOk P C k tm obs fresh o a w E β F := by
 unfold opK at h
 simp only [ho, hc] at h
 split at h
 ·rename_i x t ts ha hts
  split at h
  ·rename_i e n hk hn
   have hx : x ∈ o.op.operands := by
    rw [ho]; simp [Op.operands, Call.operands]
    exact .inr (Array.mem_toList_iff.1 (by rw [ha]; simp))
   have hs := q60 hT t
   rw [hk] at hs
   obtain ⟨ad, m, cap, hux, hm⟩ := q608 (q30 hf x) hn
   refine q29 (rd := []) hf.ob (fun tm' obs' ht htR hr R' K' => ?_) (Src.none rfl) (v := .int .i64 n) (u := .int .i64 n) ?_ rfl
   ·unfold opK; simp only [ho, hc, ha, hts, hk, ht x hx, hn]
   ·have h0 : c.args[0]? = some x := by rw [<- Array.getElem?_toList, ha]; rfl
    have h1 : c.argTypes[0]? = some t := by rw [<- Array.getElem?_toList, hts]; rfl
    simp [execOp, ho, resolve, hc, invoke, builtin, Builtin.len_, h0, h1, hux, run_underlying (P := P) hs, goInt, hm]
  ·cases h
 ·cases h
theorem q206 {isMax : Bool} {kk : IntKind} {g : Value -> Value -> Sem Value} (hg : ∀ (x y : Int) (k' : IntKind), g (.int kk x) (.int k' y) = pure (.int kk (mm isMax x y))) : ∀ (l : List V) (us : List Value) (x : Int) (v : V),
  q221 isMax kk x l = some v -> All2 (VR w β obs F) l us -> ∃ n, v = .int kk n /\ (us.foldlM g (.int kk x)).run P w = .ok (.int kk n) w
 | [], us, x, v, h, ha => by
  cases ha
  injection h with h
  exact ⟨x, h.symm, by simp⟩
 | y :: l, us, x, v, h, ha => by
  cases ha with
  | cons hy hl =>
   unfold q221 at h
   split at h
   ·rename_i e; cases e
   ·rename_i k' y' l' e
    injection e with e1 e2; subst e1; subst e2
    cases hk : kbeq kk k' with
    | false => rw [hk] at h; cases h
    | true =>
     rw [hk] at h
     have e := q44 hy; subst e
     obtain ⟨n, hn, hr⟩ := q206 hg l _ _ v h hl
     refine ⟨n, hn, ?_⟩
     rw [List.foldlM_cons, hg]
     simp only [pure_bind]
     exact hr
   ·cases h
theorem q365 {isMax : Bool} {g : Value -> Value -> Sem Value} (hg : ∀ (kk : IntKind) (x y : Int) (k' : IntKind), g (.int kk x) (.int k' y) = pure (.int kk (mm isMax x y))) {l : List V} {us : List Value} {v : V}
  (h : q562 isMax l = some v) (ha : All2 (VR w β obs F) l us) : ∃ kk n u0 us', v = .int kk n /\ us = u0 :: us' /\ (us'.foldlM g u0).run P w = .ok (.int kk n) w := by
 unfold q562 at h
 split at h
 ·rename_i kk x l
  cases ha with
  | cons hx hl =>
   have e := q44 hx; subst e
   obtain ⟨n, hn, hr⟩ := q206 (P := P) (hg kk) _ _ _ v h hl
   exact ⟨kk, n, _, _, hn, rfl, hr⟩
 ·cases h
theorem args_rel (hf : FR C w E β tm obs a F Gk) (l : List Operand) : All2 (VR w β obs F) (l.map (opnd tm)) (l.map a.eval) := by
 induction l with
 | nil => exact .nil
 | cons x l ih => exact .cons (q30 hf x) ih
theorem q493 {R : Type} {K : OpK R} {r : R} (hf : FR C w E β tm obs a F Gk) {c : Call} (ho : o.op = .call c) (hc : c.callee = .builtin .max \/ c.callee = .builtin .min) (h : opK C k tm obs fresh o K = some r) : OpOk P C k tm obs fresh o a w E β F := by
 have hop : ∀ x ∈ c.args.toList, x ∈ o.op.operands := by
  intro x hx
  rw [ho]; simp [Op.operands, Call.operands]
  exact .inr (Array.mem_toList_iff.1 hx)
 have hall := args_rel hf c.args.toList
 have hmap : ∀ tm', (∀ x, x ∈ o.op.operands -> opnd tm' x = opnd tm x) -> c.args.toList.map (opnd tm') = c.args.toList.map (opnd tm) := fun tm' ht => List.map_congr_left fun x hx => ht x (hop x hx)
 rcases hc with hc | hc
 ·unfold opK at h
  simp only [ho, hc] at h
  split at h
  ·rename_i v hv
   obtain ⟨kk, n, u0, us', hn, hus, hr⟩ := q365 (P := P) (g := Builtin.max2) (fun _ _ _ _ => rfl) hv hall
   refine q29 (rd := []) hf.ob (fun tm' obs' ht htR hr R' K' => ?_) (Src.none ?_) (v := v) (u := .int kk n) ?_ ?_
   ·unfold opK; simp only [ho, hc, hmap tm' ht, hv]
   ·rw [hn]; rfl
   ·simp [execOp, ho, resolve, hc, invoke, builtin, Builtin.max_, hus, hr]
   ·rw [hn]; rfl
  ·cases h
 ·unfold opK at h
  simp only [ho, hc] at h
  split at h
  ·rename_i v hv
   obtain ⟨kk, n, u0, us', hn, hus, hr⟩ := q365 (P := P) (g := Builtin.min2) (fun _ _ _ _ => rfl) hv hall
   refine q29 (rd := []) hf.ob (fun tm' obs' ht htR hr R' K' => ?_) (Src.none ?_) (v := v) (u := .int kk n) ?_ ?_
   ·unfold opK; simp only [ho, hc, hmap tm' ht, hv]
   ·rw [hn]; rfl
   ·simp [execOp, ho, resolve, hc, invoke, builtin, Builtin.min_, hus, hr]
   ·rw [hn]; rfl
  ·cases h
end
end Go.Lf
namespace Go.Lf
section
variable {P : Program} {C : Ctx} {k : Nat} {tm : List (Nat × V)} {obs : List (Nat × Ob)} {fresh : Nat} {o : Oper} {a : Act} {w : World} {E : Bs} {β : Nat -> Option (Nat × Nat)} {F : Bs} {Gk : Nat -> Bs}
theorem q178 {v : V} {u : Value} (h : VR w β obs F v u) (hl : q69 v.fields = true) : All2 (VRl w β obs F) v.fields u.cells.toList := by
 cases v with
 | agg fs =>
  obtain ⟨us, hu, hall⟩ := h
  subst hu
  exact hall
 | undef => simp [V.fields, q69, q324] at hl
 | int => have e := q44 h; subst e; exact .cons rfl .nil
 | bool => have e := q55 h; subst e; exact .cons rfl .nil
 | nilp => have e : u = .pointer none := h; subst e; exact .cons rfl .nil
 | nilm => have e : u = .map none := h; subst e; exact .cons rfl .nil
 | hm r => obtain ⟨b, e, h⟩ := h; subst e; exact .cons ⟨b, rfl, h⟩ .nil
 | mp => exact h.elim
 | nils =>
  obtain ⟨ad, e⟩ := h; subst e; exact .cons ⟨ad, rfl⟩ .nil
 | sl τ l =>
  obtain ⟨G, hE, ad, cap, e, hd⟩ := h
  injection e with e; subst e
  exact .cons ⟨G, hE, ad, cap, rfl, hd⟩ .nil
 | ip τ x j =>
  obtain ⟨b, off, row, G, e, h⟩ := h
  subst e
  exact .cons ⟨b, off, row, G, rfl, h⟩ .nil
 | hs r off n wh =>
  obtain ⟨ad, cap, e, h⟩ := h
  subst e
  exact .cons ⟨ad, cap, rfl, h⟩ .nil
 | hp r i j =>
  obtain ⟨ad, e, h⟩ := h
  subst e
  exact .cons ⟨ad, rfl, h⟩ .nil
 | ow => simp [V.fields, q69, q324] at hl
 | nilz => simp [V.fields, q69, q324] at hl
 | hz => simp [V.fields, q69, q324] at hl
 | bx => simp [V.fields, q69, q324] at hl
 | tup => simp [V.fields, q69, q324] at hl
 | fn => simp [V.fields, q69, q324] at hl
theorem All2.mem {α β : Type} {R : α -> β -> Prop} {as : List α} {bs : List β} (h : All2 R as bs) : ∀ a ∈ as, ∃ b, R a b := by
 induction h with
 | nil => intro a ha; cases ha
 | cons h _ ih =>
  intro a ha
  rcases y166.1 ha with rfl | ha
  ·exact ⟨_, h⟩
  ·exact ih a ha
theorem set_rel {R : V -> Value -> Prop} {cs vs : List V} {cells ucs : Array Value} {off : Nat} (h : All2 R cs cells.toList) (hv : All2 R vs ucs.toList) (hle : off + vs.length <= cs.length) :
  All2 R (q43 off vs cs) ((ucs.toList.zipIdx 0).foldl (fun cs (x : Value × Nat) => cs.setIfInBounds (off + x.2) x.1) cells).toList := by
 obtain ⟨h1, h2⟩ := Great.foldl_set off ucs.toList 0 cells
 have hl := h.length
 have hvl := hv.length
 have hsl := q490 (j := off) (vs := vs) (fs := cs) hle
 refine All2.of_get (by rw [hsl, <- hl]; simpa using h1.symm) fun q x y hx hy => ?_
 rw [Array.getElem?_toList, h2 q] at hy
 rw [y156] at hl
 unfold q43 at hx
 rw [y171, y171] at hx
 simp only [y148, y154] at hx
 have hm : min off cs.length = off := by omega
 rw [hm] at hx
 simp only [Nat.add_zero] at hy
 by_cases c1 : q < off
 ·rw [if_pos (by omega), if_pos c1, List.getElem?_take, if_pos c1] at hx
  rw [if_neg (by omega)] at hy
  obtain ⟨y', hy', hr⟩ := h.get q x hx
  rw [Array.getElem?_toList, hy] at hy'; injection hy' with hy'; subst hy'
  exact hr
 ·by_cases c2 : q < off + vs.length
  ·rw [if_pos c2, if_neg c1] at hx
   rw [if_pos (by omega)] at hy
   obtain ⟨y', hy', hr⟩ := hv.get (q - off) x hx
   rw [hy] at hy'; injection hy' with hy'; subst hy'
   exact hr
  ·rw [if_neg c2, List.getElem?_drop] at hx
   rw [if_neg (by omega)] at hy
   have e : off + vs.length + (q - (off + vs.length)) = q := by omega
   rw [e] at hx
   obtain ⟨y', hy', hr⟩ := h.get q x hx
   rw [Array.getElem?_toList, hy] at hy'; injection hy' with hy'; subst hy'
   exact hr
theorem q580 {fs : List (Nat × Nat)} {rf : V -> Prop} : ∀ (l : List (Nat × V)) (us : List (Nat × Value)) {cs cs' : List V} {cells : Array Value}, q426 fs l cs = some cs' -> All2 (fun (p : Nat × V) (q : Nat × Value) => p.1 = q.1 /\ VR w β obs F p.2 q.2) l us ->
  All2 (VRl w β obs F) cs cells.toList -> (∀ v ∈ cs, rf v) -> (∀ p ∈ l, ∀ v ∈ p.2.fields, q69 p.2.fields = true -> rf v) ->
  ∃ cells', Instr.fill (fun i => fs[i]?) cells us = some cells' /\ All2 (VRl w β obs F) cs' cells'.toList /\ ∀ v ∈ cs', rf v
 | [], us, cs, cs', cells, h, hu, hc, hr, _ => by
  cases hu
  injection h with h; subst h
  exact ⟨cells, rfl, hc, hr⟩
 | (f, v) :: l, us, cs, cs', cells, h, hu, hc, hr, hl => by
  cases hu with
  | cons hp hu =>
   rename_i q us
   obtain ⟨g, u⟩ := q
   obtain ⟨e, hv⟩ := hp
   have e : f = g := e
   have hv : VR w β obs F v u := hv
   subst e
   simp only [q426] at h
   split at h
   ·rename_i off n hf
    cases hb : Nat.beq v.fields.length n && q69 v.fields && Nat.ble (off + n) cs.length with
    | false => rw [hb] at h; cases h
    | true =>
     rw [hb] at h
     rw [y144, y144] at hb
     have hn : v.fields.length = n := y143 hb.1.1
     have hle := y168 hb.2
     have hvf : All2 (VRl w β obs F) v.fields u.cells.toList := q178 hv hb.1.2
     have hvl := hvf.length
     have hcl := hc.length
     have hset := set_rel (off := off) hc hvf (by omega)
     have hin : ∀ x ∈ q43 off v.fields cs, rf x := by
      intro x hx
      unfold q43 at hx
      rcases y151.1 hx with hx | hx
      ·rcases y151.1 hx with hx | hx
       ·exact hr x (List.mem_of_mem_take hx)
       ·exact hl (f, v) (by simp) x hx hb.1.2
      ·exact hr x (List.mem_of_mem_drop hx)
     obtain ⟨cells', h1, h2, h3⟩ := q580 (rf := rf) l us h hu hset hin (fun p hp => hl p (y155 _ hp))
     refine ⟨cells', ?_, h2, h3⟩
     simp only [Instr.fill, hf]
     rw [y156] at hvl hcl
     have c1 : u.cells.size = n := by omega
     have c2 : ¬ off + u.cells.size > cells.size := by omega
     simp only [c1, ne_eq, not_true_eq_false, decide_false, Bool.false_or]
     rw [if_neg (by simpa [c1] using c2), <- h1, <- Array.foldl_toList, Array.toList_zipIdx]
   ·cases h
theorem z0_rel {v : V} {u : Value} (h : Z0 v u) : VRl w β obs F v u := by
 cases v with
 | undef => trivial
 | int => exact h
 | bool => exact h
 | nilp => exact h
 | nils => exact ⟨none, h⟩
 | nilm => exact h
 | _ => exact h.elim
theorem z0_refs {v : V} {u : Value} (h : Z0 v u) : q37 v = [] := by
 cases v <;> first | rfl | exact h.elim
theorem q446 {x : Operand} {v : V} (hl : q69 (opnd tm x).fields = true) (hv : v ∈ (opnd tm x).fields) : ∀ r ∈ q37 v, r ∈ q24 (opnd tm x) := by
 intro r hr
 generalize opnd tm x = z at *
 cases z with
 | agg fs => exact List.mem_flatMap.2 ⟨v, hv, hr⟩
 | fn => simp [V.fields, q69, q324] at hl
 | tup => simp [V.fields, q69, q324] at hl
 | _ =>
  simp only [V.fields, y161] at hv
  subst hv
  exact hr
theorem op_build {R : Type} {K : OpK R} {r : R} (hT : q81 P C) (hf : FR C w E β tm obs a F Gk) {t : TypeId} {parts : Array (Nat × Operand)} (ho : o.op = .build t parts) (h : opK C k tm obs fresh o K = some r) : OpOk P C k tm obs fresh o a w E β F := by
 unfold opK at h
 simp only [ho] at h
 have hop : ∀ p ∈ parts.toList, p.2 ∈ o.op.operands := by
  intro p hp
  rw [ho]; simp [Op.operands]
  exact ⟨p.1, Array.mem_toList_iff.1 hp⟩
 split at h
 ·rename_i i hi
  have hk := (hT t i hi).kind
  obtain ⟨z, inf, hinf, hsz, _, hz, hza, _⟩ := (hT t i hi).info
  split at h
  ·rename_i fs hik
   rw [hik] at hk
   obtain ⟨fields, hu, hfl⟩ := hk
   split at h
   ·rename_i cs hcs
    have hpl : ∀ (fs : List (Nat × Nat)) (fl : List Field), All2 (fun (p : Nat × Nat) (f : Field) => f.offset = p.1 /\ p.2 ≠ 0 /\ (∃ inf, P.info? f.type = some inf /\ inf.size = p.2) /\ ∃ d, P.underlying f.type = some d /\ q89 d = !Nat.beq p.2 1) fs fl ->
      fl.mapM (fun f => (P.info? f.type).map fun i => (f.offset, i.size)) = some fs := by
     intro fs fl h
     induction h with
     | nil => rfl
     | cons h _ ih =>
      obtain ⟨e1, _, ⟨inf, e2, e3⟩, _⟩ := h
      simp [List.mapM_cons, e2, ih, e1, e3]
    obtain ⟨cells', hfill, hall, hrf⟩ := q580 (w := w) (β := β) (obs := obs) (F := F) (rf := fun v => ∀ r ∈ q37 v, ∃ x ∈ o.op.operands, r ∈ q24 (opnd tm x)) _ (parts.toList.map fun p => (p.1, a.eval p.2)) hcs
     (by
      refine All2.of_get (by simp) fun i x y hx hy => ?_
      rw [List.getElem?_map] at hx hy
      cases hp : parts.toList[i]? with
      | none => rw [hp] at hx; cases hx
      | some p =>
       rw [hp] at hx hy
       injection hx with hx; injection hy with hy; subst hx; subst hy
       exact ⟨rfl, q30 hf p.2⟩)
     (cells := z.cells) (hza.imp fun v u _ hvu => z0_rel hvu)
     (by
      intro v hv r hr
      obtain ⟨u, hu'⟩ := hza.mem v hv
      rw [z0_refs hu'] at hr; cases hr)
     (by
      intro p hp v hv hl r hr
      obtain ⟨q, hq, rfl⟩ := List.mem_map.1 hp
      exact ⟨q.2, hop q hq, q446 hl hv r hr⟩)
    have hb : P.built t (parts.map fun (i, x) => (i, a.eval x)).toList = some cells' := by
     unfold Program.built
     simp only [hinf, hu, hz, hpl fs _ hfl]
     rw [<- hfill]
     simp
    refine q29 (rd := []) hf.ob (fun tm' obs' ht htR hr R' K' => ?_) ?_ (v := .agg cs) (u := .agg cells') ?_ ⟨_, rfl, hall⟩
    ·unfold opK
     have : (parts.toList.map fun p => (p.1, opnd tm' p.2)) = parts.toList.map fun p => (p.1, opnd tm p.2) := List.map_congr_left fun p hp => by rw [ht p.2 (hop p hp)]
     simp only [ho, hi, hik, this, hcs]
    ·intro r hr
     obtain ⟨v, hv, hr⟩ := List.mem_flatMap.1 (show r ∈ cs.flatMap q37 from hr)
     obtain ⟨x, hx, hrx⟩ := hrf v hv r hr
     exact Src.same hx r hrx
    ·simp [execOp, ho, run_build w t _ cells' hb]
   ·cases h
  ·cases h
 ·cases h
end
end Go.Lf
