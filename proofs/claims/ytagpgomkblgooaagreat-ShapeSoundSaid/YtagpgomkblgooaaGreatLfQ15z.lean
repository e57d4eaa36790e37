import Derived.Test.YtagpgomkblgooaaGreatLfSh15z
import Derived.KernelRfl
/-! Lf: what was shown of functions, for another chapter. -/
set_option linter.unusedVariables false
set_option maxRecDepth 100000
namespace Go.Lf.T
open Go Go.Lf
noncomputable def F128 (k : Nat) (a0 : Int) (a1 : Int) : Option ((Int × Unit) × (Unit)) :=
  bif a1 == 0 then (some ((0, ()), ())) else (if a1 = 0 then none else if a1 = 0 then none else bif (a0.tmod a1) != 0 then (bif !((decide (a0 < 0)) == (decide (a1 < 0))) then (some ((w64 ((w64 (a0.tdiv a1)) - 1), ()), ())) else (some ((w64 (a0.tdiv a1), ()), ()))) else (some ((w64 (a0.tdiv a1), ()), ())))

noncomputable def F129 (k : Nat) (a0 : Int) (a1 : Int) (a2 : Int) : Option ((Int × Unit) × (Unit)) :=
  bif a0 == 3 then (some ((w64 (a1 + a2), ()), ())) else (bif a0 == 4 then (some ((w64 (a1 - a2), ()), ())) else (bif a0 == 5 then ((F55 k a1 a2).bind fun (y1 : (Int × Unit) × (Unit)) => some ((y1.1.1, ()), ())) else (bif a0 == 6 then (some ((mm false a1 a2, ()), ())) else (bif a0 == 7 then (some ((mm true a1 a2, ()), ())) else (bif a0 == 8 then ((F54 k (w64 (a1 - a2))).bind fun (y2 : (Int × Unit) × (Unit)) => some ((y2.1.1, ()), ())) else ((F128 k a1 a2).bind fun (y3 : (Int × Unit) × (Unit)) => some ((y3.1.1, ()), ())))))))

noncomputable def F130.loop0 {R : Type} (k : Nat) (j : Nat) : Int → Int → (List (Int × Int)) → Int → Int → (List Int) → (Int → Int → Option R) → ((List Int) → Option R) → Option R :=
  Nat.rec (motive := fun _ => Int → Int → (List (Int × Int)) → Int → Int → (List Int) → (Int → Int → Option R) → ((List Int) → Option R) → Option R)
    (fun _ _ _ _ _ _ _ _ => none)
    (fun _ ih (s1 : Int) (s2 : Int) (s17 : List (Int × Int)) (s18 : Int) (s19 : Int) (l8 : List Int) (e0 : Int → Int → Option R) (e1 : (List Int) → Option R) => bif decide (s19 < s18) then (if 0 ≤ s19 then (s17[s19.toNat]?).bind fun (x1 : Int × Int) => (F51 k x1.1).bind fun (y2 : (Int × Unit) × (Unit)) => if 0 ≤ w64 (((l8.length : Nat) : Int) - y2.1.1) ∧ w64 (((l8.length : Nat) : Int) - y2.1.1) ≤ ((l8.length : Nat) : Int) then if 0 ≤ (((w64 (((l8.length : Nat) : Int) - y2.1.1)).toNat : Nat) : Int) ∧ (((w64 (((l8.length : Nat) : Int) - y2.1.1)).toNat : Nat) : Int) ≤ ((l8.length : Nat) : Int) then bif x1.1 == 0 then ((F57 k s1).bind fun (y3 : (Bool × Unit) × (Unit)) => bif !y3.1.1 then (e0 0 11) else (if ((l8.take ((w64 (((l8.length : Nat) : Int) - y2.1.1)).toNat)) ++ [s1]).length * 8 ≤ 140737488355328 then ih s1 s2 s17 s18 (w64 (s19 + 1)) ((l8.take ((w64 (((l8.length : Nat) : Int) - y2.1.1)).toNat)) ++ [s1]) e0 e1 else none)) else (bif x1.1 == 1 then ((F57 k s2).bind fun (y4 : (Bool × Unit) × (Unit)) => bif !y4.1.1 then (e0 0 11) else (if ((l8.take ((w64 (((l8.length : Nat) : Int) - y2.1.1)).toNat)) ++ [s2]).length * 8 ≤ 140737488355328 then ih s1 s2 s17 s18 (w64 (s19 + 1)) ((l8.take ((w64 (((l8.length : Nat) : Int) - y2.1.1)).toNat)) ++ [s2]) e0 e1 else none)) else (bif x1.1 == 2 then ((F57 k x1.2).bind fun (y5 : (Bool × Unit) × (Unit)) => bif !y5.1.1 then (e0 0 11) else (if ((l8.take ((w64 (((l8.length : Nat) : Int) - y2.1.1)).toNat)) ++ [x1.2]).length * 8 ≤ 140737488355328 then ih s1 s2 s17 s18 (w64 (s19 + 1)) ((l8.take ((w64 (((l8.length : Nat) : Int) - y2.1.1)).toNat)) ++ [x1.2]) e0 e1 else none)) else (bif x1.1 == 10 then (if 0 ≤ (0 : Int) ∧ (0 : Int) < ((l8.length - (((w64 (((l8.length : Nat) : Int) - y2.1.1)).toNat : Nat) : Int).toNat : Nat) : Int) then (l8[0 + ((((w64 (((l8.length : Nat) : Int) - y2.1.1)).toNat : Nat) : Int).toNat)]?).bind fun (x6 : Int) => (F39 k x6 x1.2).bind fun (y7 : (Int × Unit) × (Unit)) => (F57 k y7.1.1).bind fun (y8 : (Bool × Unit) × (Unit)) => bif !y8.1.1 then (e0 0 11) else (if ((l8.take ((w64 (((l8.length : Nat) : Int) - y2.1.1)).toNat)) ++ [y7.1.1]).length * 8 ≤ 140737488355328 then ih s1 s2 s17 s18 (w64 (s19 + 1)) ((l8.take ((w64 (((l8.length : Nat) : Int) - y2.1.1)).toNat)) ++ [y7.1.1]) e0 e1 else none) else none) else (bif x1.1 == 11 then (if 0 ≤ (0 : Int) ∧ (0 : Int) < ((l8.length - (((w64 (((l8.length : Nat) : Int) - y2.1.1)).toNat : Nat) : Int).toNat : Nat) : Int) then (l8[0 + ((((w64 (((l8.length : Nat) : Int) - y2.1.1)).toNat : Nat) : Int).toNat)]?).bind fun (x9 : Int) => (F54 k x9).bind fun (y10 : (Int × Unit) × (Unit)) => (F57 k y10.1.1).bind fun (y11 : (Bool × Unit) × (Unit)) => bif !y11.1.1 then (e0 0 11) else (if ((l8.take ((w64 (((l8.length : Nat) : Int) - y2.1.1)).toNat)) ++ [y10.1.1]).length * 8 ≤ 140737488355328 then ih s1 s2 s17 s18 (w64 (s19 + 1)) ((l8.take ((w64 (((l8.length : Nat) : Int) - y2.1.1)).toNat)) ++ [y10.1.1]) e0 e1 else none) else none) else (if 0 ≤ (0 : Int) ∧ (0 : Int) < ((l8.length - (((w64 (((l8.length : Nat) : Int) - y2.1.1)).toNat : Nat) : Int).toNat : Nat) : Int) then (l8[0 + ((((w64 (((l8.length : Nat) : Int) - y2.1.1)).toNat : Nat) : Int).toNat)]?).bind fun (x12 : Int) => if 0 ≤ (1 : Int) ∧ (1 : Int) < ((l8.length - (((w64 (((l8.length : Nat) : Int) - y2.1.1)).toNat : Nat) : Int).toNat : Nat) : Int) then (l8[1 + ((((w64 (((l8.length : Nat) : Int) - y2.1.1)).toNat : Nat) : Int).toNat)]?).bind fun (x13 : Int) => (F129 k x1.1 x12 x13).bind fun (y14 : (Int × Unit) × (Unit)) => (F57 k y14.1.1).bind fun (y15 : (Bool × Unit) × (Unit)) => bif !y15.1.1 then (e0 0 11) else (if ((l8.take ((w64 (((l8.length : Nat) : Int) - y2.1.1)).toNat)) ++ [y14.1.1]).length * 8 ≤ 140737488355328 then ih s1 s2 s17 s18 (w64 (s19 + 1)) ((l8.take ((w64 (((l8.length : Nat) : Int) - y2.1.1)).toNat)) ++ [y14.1.1]) e0 e1 else none) else none else none))))) else none else none else none) else (e1 l8)) j

theorem F130.loop0_s {R : Type} (k : Nat) (j : Nat) (s1 : Int) (s2 : Int) (s17 : List (Int × Int)) (s18 : Int) (s19 : Int) (l8 : List Int) (e0 : Int → Int → Option R) (e1 : (List Int) → Option R) : F130.loop0 k (j + 1) s1 s2 s17 s18 s19 l8 e0 e1 =
    (bif decide (s19 < s18) then (if 0 ≤ s19 then (s17[s19.toNat]?).bind fun (x1 : Int × Int) => (F51 k x1.1).bind fun (y2 : (Int × Unit) × (Unit)) => if 0 ≤ w64 (((l8.length : Nat) : Int) - y2.1.1) ∧ w64 (((l8.length : Nat) : Int) - y2.1.1) ≤ ((l8.length : Nat) : Int) then if 0 ≤ (((w64 (((l8.length : Nat) : Int) - y2.1.1)).toNat : Nat) : Int) ∧ (((w64 (((l8.length : Nat) : Int) - y2.1.1)).toNat : Nat) : Int) ≤ ((l8.length : Nat) : Int) then bif x1.1 == 0 then ((F57 k s1).bind fun (y3 : (Bool × Unit) × (Unit)) => bif !y3.1.1 then (e0 0 11) else (if ((l8.take ((w64 (((l8.length : Nat) : Int) - y2.1.1)).toNat)) ++ [s1]).length * 8 ≤ 140737488355328 then F130.loop0 k j s1 s2 s17 s18 (w64 (s19 + 1)) ((l8.take ((w64 (((l8.length : Nat) : Int) - y2.1.1)).toNat)) ++ [s1]) e0 e1 else none)) else (bif x1.1 == 1 then ((F57 k s2).bind fun (y4 : (Bool × Unit) × (Unit)) => bif !y4.1.1 then (e0 0 11) else (if ((l8.take ((w64 (((l8.length : Nat) : Int) - y2.1.1)).toNat)) ++ [s2]).length * 8 ≤ 140737488355328 then F130.loop0 k j s1 s2 s17 s18 (w64 (s19 + 1)) ((l8.take ((w64 (((l8.length : Nat) : Int) - y2.1.1)).toNat)) ++ [s2]) e0 e1 else none)) else (bif x1.1 == 2 then ((F57 k x1.2).bind fun (y5 : (Bool × Unit) × (Unit)) => bif !y5.1.1 then (e0 0 11) else (if ((l8.take ((w64 (((l8.length : Nat) : Int) - y2.1.1)).toNat)) ++ [x1.2]).length * 8 ≤ 140737488355328 then F130.loop0 k j s1 s2 s17 s18 (w64 (s19 + 1)) ((l8.take ((w64 (((l8.length : Nat) : Int) - y2.1.1)).toNat)) ++ [x1.2]) e0 e1 else none)) else (bif x1.1 == 10 then (if 0 ≤ (0 : Int) ∧ (0 : Int) < ((l8.length - (((w64 (((l8.length : Nat) : Int) - y2.1.1)).toNat : Nat) : Int).toNat : Nat) : Int) then (l8[0 + ((((w64 (((l8.length : Nat) : Int) - y2.1.1)).toNat : Nat) : Int).toNat)]?).bind fun (x6 : Int) => (F39 k x6 x1.2).bind fun (y7 : (Int × Unit) × (Unit)) => (F57 k y7.1.1).bind fun (y8 : (Bool × Unit) × (Unit)) => bif !y8.1.1 then (e0 0 11) else (if ((l8.take ((w64 (((l8.length : Nat) : Int) - y2.1.1)).toNat)) ++ [y7.1.1]).length * 8 ≤ 140737488355328 then F130.loop0 k j s1 s2 s17 s18 (w64 (s19 + 1)) ((l8.take ((w64 (((l8.length : Nat) : Int) - y2.1.1)).toNat)) ++ [y7.1.1]) e0 e1 else none) else none) else (bif x1.1 == 11 then (if 0 ≤ (0 : Int) ∧ (0 : Int) < ((l8.length - (((w64 (((l8.length : Nat) : Int) - y2.1.1)).toNat : Nat) : Int).toNat : Nat) : Int) then (l8[0 + ((((w64 (((l8.length : Nat) : Int) - y2.1.1)).toNat : Nat) : Int).toNat)]?).bind fun (x9 : Int) => (F54 k x9).bind fun (y10 : (Int × Unit) × (Unit)) => (F57 k y10.1.1).bind fun (y11 : (Bool × Unit) × (Unit)) => bif !y11.1.1 then (e0 0 11) else (if ((l8.take ((w64 (((l8.length : Nat) : Int) - y2.1.1)).toNat)) ++ [y10.1.1]).length * 8 ≤ 140737488355328 then F130.loop0 k j s1 s2 s17 s18 (w64 (s19 + 1)) ((l8.take ((w64 (((l8.length : Nat) : Int) - y2.1.1)).toNat)) ++ [y10.1.1]) e0 e1 else none) else none) else (if 0 ≤ (0 : Int) ∧ (0 : Int) < ((l8.length - (((w64 (((l8.length : Nat) : Int) - y2.1.1)).toNat : Nat) : Int).toNat : Nat) : Int) then (l8[0 + ((((w64 (((l8.length : Nat) : Int) - y2.1.1)).toNat : Nat) : Int).toNat)]?).bind fun (x12 : Int) => if 0 ≤ (1 : Int) ∧ (1 : Int) < ((l8.length - (((w64 (((l8.length : Nat) : Int) - y2.1.1)).toNat : Nat) : Int).toNat : Nat) : Int) then (l8[1 + ((((w64 (((l8.length : Nat) : Int) - y2.1.1)).toNat : Nat) : Int).toNat)]?).bind fun (x13 : Int) => (F129 k x1.1 x12 x13).bind fun (y14 : (Int × Unit) × (Unit)) => (F57 k y14.1.1).bind fun (y15 : (Bool × Unit) × (Unit)) => bif !y15.1.1 then (e0 0 11) else (if ((l8.take ((w64 (((l8.length : Nat) : Int) - y2.1.1)).toNat)) ++ [y14.1.1]).length * 8 ≤ 140737488355328 then F130.loop0 k j s1 s2 s17 s18 (w64 (s19 + 1)) ((l8.take ((w64 (((l8.length : Nat) : Int) - y2.1.1)).toNat)) ++ [y14.1.1]) e0 e1 else none) else none else none))))) else none else none else none) else (e1 l8)) := rfl

noncomputable def F130 (k : Nat) (a0 : List (Int × Int)) (a1 : Int) (a2 : Int) : Option ((Int × Int × Unit) × (Unit)) :=
  if 0 ≤ (0 : Int) ∧ (0 : Int) ≤ (a0.length : Int) ∧ (a0.length : Int) * ((8 : Nat) : Int) ≤ 140737488355328 then F130.loop0 k k a1 a2 a0 (a0.length : Int) 0 (List.replicate 0 (0 : Int)) (fun (z16 : Int) (z17 : Int) => (some ((z16, z17, ()), ()))) (fun (z18 : List Int) => (if 0 ≤ (0 : Int) ∧ (0 : Int) < ((z18.length : Nat) : Int) then (z18[0]?).bind fun (x19 : Int) => some ((x19, 0, ()), ()) else none)) else none

noncomputable def F131 (k : Nat) (a0 : Int) (a1 : Int) (a2 : Int) : Option ((Bool × Unit) × (Unit)) :=
  (F25 k a0 a1 4096).bind fun (y1 : (Int × Bool × Unit) × (Unit)) => bif y1.1.2.1 then (bif decide (a0 ≥ 1) then (bif decide (a0 ≤ 128) then (bif decide (a1 ≥ 1) then (bif decide (a1 ≤ 128) then (bif decide (a2 ≥ 1) then (some ((decide (a2 ≤ 4294967296), ()), ())) else (some ((false, ()), ()))) else (some ((false, ()), ()))) else (some ((false, ()), ()))) else (some ((false, ()), ()))) else (some ((false, ()), ()))) else (some ((false, ()), ()))

noncomputable def F132.loop0 {R : Type} (k : Nat) (j : Nat) : (List Int) → Int → Int → Int → Int → Int → (List Int) → (Bool → Option R) → (Unit → Option R) → Option R :=
  Nat.rec (motive := fun _ => (List Int) → Int → Int → Int → Int → Int → (List Int) → (Bool → Option R) → (Unit → Option R) → Option R)
    (fun _ _ _ _ _ _ _ _ _ => none)
    (fun _ ih (s25 : List Int) (s26 : Int) (s27 : Int) (b1_0 : Int) (b1_1 : Int) (b1_2 : Int) (b1_3 : List Int) (e0 : Bool → Option R) (e1 : Unit → Option R) => bif decide (s27 < s26) then (if 0 ≤ s27 then (s25[s27.toNat]?).bind fun (x2 : Int) => bif decide (x2 < 0) then (e0 false) else (bif decide (x2 > b1_2) then (e0 false) else (ih s25 s26 (w64 (s27 + 1)) b1_0 b1_1 b1_2 b1_3 e0 e1)) else none) else (e1 ())) j

theorem F132.loop0_s {R : Type} (k : Nat) (j : Nat) (s25 : List Int) (s26 : Int) (s27 : Int) (b1_0 : Int) (b1_1 : Int) (b1_2 : Int) (b1_3 : List Int) (e0 : Bool → Option R) (e1 : Unit → Option R) : F132.loop0 k (j + 1) s25 s26 s27 b1_0 b1_1 b1_2 b1_3 e0 e1 =
    (bif decide (s27 < s26) then (if 0 ≤ s27 then (s25[s27.toNat]?).bind fun (x2 : Int) => bif decide (x2 < 0) then (e0 false) else (bif decide (x2 > b1_2) then (e0 false) else (F132.loop0 k j s25 s26 (w64 (s27 + 1)) b1_0 b1_1 b1_2 b1_3 e0 e1)) else none) else (e1 ())) := rfl

noncomputable def F132 (k : Nat) (a0 : Int × Int × Int × List Int) : Option ((Bool × Unit) × (Unit)) :=
  (F131 k a0.1 a0.2.1 a0.2.2.1).bind fun (y1 : (Bool × Unit) × (Unit)) => bif !y1.1.1 then (some ((false, ()), ())) else (bif (a0.2.2.2.length : Int) != (w64 (a0.1 * a0.2.1)) then (some ((false, ()), ())) else (F132.loop0 k k a0.2.2.2 (a0.2.2.2.length : Int) 0 a0.1 a0.2.1 a0.2.2.1 a0.2.2.2 (fun (z3 : Bool) => (some ((z3, ()), ()))) (fun (_ : Unit) => (some ((true, ()), ())))))

noncomputable def F133 (k : Nat) (a0 : Int × Int × Int × Int) : Option ((Bool × Unit) × (Unit)) :=
  some (((a0.1 == 0 && (a0.2.1 == 0 && (a0.2.2.1 == 0 && (a0.2.2.2 == 0 && true)))), ()), ())

noncomputable def F134 (k : Nat) (a0 : Int) : Option ((Bool × Unit) × (Unit)) :=
  bif decide (a0 ≥ (-1048576)) then (some ((decide (a0 ≤ 1048576), ()), ())) else (some ((false, ()), ()))

noncomputable def F135 (k : Nat) (a0 : Int × Int × Int × Int) : Option ((Bool × Unit) × (Unit)) :=
  (F133 k a0).bind fun (y1 : (Bool × Unit) × (Unit)) => bif y1.1.1 then (some ((true, ()), ())) else ((F134 k a0.1).bind fun (y2 : (Bool × Unit) × (Unit)) => bif y2.1.1 then ((F134 k a0.2.1).bind fun (y3 : (Bool × Unit) × (Unit)) => bif y3.1.1 then ((F134 k a0.2.2.1).bind fun (y4 : (Bool × Unit) × (Unit)) => bif y4.1.1 then ((F134 k a0.2.2.2).bind fun (y5 : (Bool × Unit) × (Unit)) => bif y5.1.1 then (bif decide (a0.1 < a0.2.2.1) then (some ((decide (a0.2.1 < a0.2.2.2), ()), ())) else (some ((false, ()), ()))) else (some ((false, ()), ()))) else (some ((false, ()), ()))) else (some ((false, ()), ()))) else (some ((false, ()), ())))

noncomputable def F136 (k : Nat) (a0 : Int × Int × Int × Int) (a1 : Int × Int × Int × Int) : Option (((Int × Int × Int × Int) × Unit) × (Unit)) :=
  (F135 k a0).bind fun (y1 : (Bool × Unit) × (Unit)) => bif !y1.1.1 then (some (((0, 0, 0, 0), ()), ())) else ((F135 k a1).bind fun (y2 : (Bool × Unit) × (Unit)) => bif !y2.1.1 then (some (((0, 0, 0, 0), ()), ())) else (bif decide ((mm true a0.1 a1.1) ≥ (mm false a0.2.2.1 a1.2.2.1)) then (some (((0, 0, 0, 0), ()), ())) else (bif decide ((mm true a0.2.1 a1.2.1) ≥ (mm false a0.2.2.2 a1.2.2.2)) then (some (((0, 0, 0, 0), ()), ())) else (some (((mm true a0.1 a1.1, mm true a0.2.1 a1.2.1, mm false a0.2.2.1 a1.2.2.1, mm false a0.2.2.2 a1.2.2.2), ()), ())))))

noncomputable def F137 (k : Nat) (a0 : Int × Int × Int × Int) (a1 : Int × Int × Int × Int) : Option ((Bool × Unit) × (Unit)) :=
  (F135 k a0).bind fun (y1 : (Bool × Unit) × (Unit)) => bif y1.1.1 then ((F135 k a1).bind fun (y2 : (Bool × Unit) × (Unit)) => bif y2.1.1 then ((F136 k a0 a1).bind fun (y3 : ((Int × Int × Int × Int) × Unit) × (Unit)) => some (((y3.1.1.1 == a0.1 && (y3.1.1.2.1 == a0.2.1 && (y3.1.1.2.2.1 == a0.2.2.1 && (y3.1.1.2.2.2 == a0.2.2.2 && true)))), ()), ())) else (some ((false, ()), ()))) else (some ((false, ()), ()))

noncomputable def F138 (k : Nat) (a0 : Int) (a1 : Int) : Option ((Int × Unit) × (Unit)) :=
  some ((mm true (mm false a0 a1) 0, ()), ())

noncomputable def F139.loop1 {R : Type} (k : Nat) (j : Nat) : Bool → (List (Int × Int)) → Int → Int → Int → Int → Int → Int → (List Int) → Int → Int → Int → (List Int) → Int → Int → Int → Int → Int → Int → Int → (List Int) → Int → Int → Int → (List Int) → (Int → Int → Int → Int → (List Int) → Option R) → (Int → Int → Int → (List Int) → Int → Int → Int → (List Int) → Int → Int → Int → Int → Int → Int → Int → (List Int) → Int → Int → Int → (List Int) → Option R) → Option R :=
  Nat.rec (motive := fun _ => Bool → (List (Int × Int)) → Int → Int → Int → Int → Int → Int → (List Int) → Int → Int → Int → (List Int) → Int → Int → Int → Int → Int → Int → Int → (List Int) → Int → Int → Int → (List Int) → (Int → Int → Int → Int → (List Int) → Option R) → (Int → Int → Int → (List Int) → Int → Int → Int → (List Int) → Int → Int → Int → Int → Int → Int → Int → (List Int) → Int → Int → Int → (List Int) → Option R) → Option R)
    (fun _ _ _ _ _ _ _ _ _ _ _ _ _ _ _ _ _ _ _ _ _ _ _ _ _ _ _ => none)
    (fun _ ih (s2 : Bool) (s3 : List (Int × Int)) (s4 : Int) (s20 : Int) (s21 : Int) (b6_0 : Int) (b6_1 : Int) (b6_2 : Int) (b6_3 : List Int) (b7_0 : Int) (b7_1 : Int) (b7_2 : Int) (b7_3 : List Int) (b11_0 : Int) (b11_1 : Int) (b11_2 : Int) (b11_3 : Int) (b12_0 : Int) (b12_1 : Int) (b12_2 : Int) (b12_3 : List Int) (b19_0 : Int) (b19_1 : Int) (b19_2 : Int) (b19_3 : List Int) (e0 : Int → Int → Int → Int → (List Int) → Option R) (e1 : Int → Int → Int → (List Int) → Int → Int → Int → (List Int) → Int → Int → Int → Int → Int → Int → Int → (List Int) → Int → Int → Int → (List Int) → Option R) => bif decide (s21 < b11_2) then (bif s2 then (if 0 ≤ w64 ((w64 (s20 * b6_0)) + s21) then (b7_3[(w64 ((w64 (s20 * b6_0)) + s21)).toNat]?).bind fun (x8 : Int) => if 0 ≤ w64 ((w64 (s20 * b6_0)) + s21) then (b6_3[(w64 ((w64 (s20 * b6_0)) + s21)).toNat]?).bind fun (x9 : Int) => (F130 k s3 x9 x8).bind fun (y10 : (Int × Int × Unit) × (Unit)) => bif y10.1.2.1 != 0 then (e0 y10.1.2.1 0 0 0 ([] : List Int)) else ((F138 k y10.1.1 s4).bind fun (y11 : (Int × Unit) × (Unit)) => if (b19_3 ++ [y11.1.1]).length * 8 ≤ 140737488355328 then ih s2 s3 s4 s20 (w64 (s21 + 1)) b6_0 b6_1 b6_2 b6_3 b7_0 b7_1 b7_2 b7_3 b11_0 b11_1 b11_2 b11_3 b12_0 b12_1 b12_2 b12_3 b19_0 b19_1 b19_2 (b19_3 ++ [y11.1.1]) e0 e1 else none) else none else none) else (if 0 ≤ w64 ((w64 (s20 * b6_0)) + s21) then (b6_3[(w64 ((w64 (s20 * b6_0)) + s21)).toNat]?).bind fun (x12 : Int) => (F130 k s3 x12 0).bind fun (y13 : (Int × Int × Unit) × (Unit)) => bif y13.1.2.1 != 0 then (e0 y13.1.2.1 0 0 0 ([] : List Int)) else ((F138 k y13.1.1 s4).bind fun (y14 : (Int × Unit) × (Unit)) => if (b19_3 ++ [y14.1.1]).length * 8 ≤ 140737488355328 then ih s2 s3 s4 s20 (w64 (s21 + 1)) b6_0 b6_1 b6_2 b6_3 b7_0 b7_1 b7_2 b7_3 b11_0 b11_1 b11_2 b11_3 b12_0 b12_1 b12_2 b12_3 b19_0 b19_1 b19_2 (b19_3 ++ [y14.1.1]) e0 e1 else none) else none)) else (e1 b6_0 b6_1 b6_2 b6_3 b7_0 b7_1 b7_2 b7_3 b11_0 b11_1 b11_2 b11_3 b12_0 b12_1 b12_2 b12_3 b19_0 b19_1 b19_2 b19_3)) j

theorem F139.loop1_s {R : Type} (k : Nat) (j : Nat) (s2 : Bool) (s3 : List (Int × Int)) (s4 : Int) (s20 : Int) (s21 : Int) (b6_0 : Int) (b6_1 : Int) (b6_2 : Int) (b6_3 : List Int) (b7_0 : Int) (b7_1 : Int) (b7_2 : Int) (b7_3 : List Int) (b11_0 : Int) (b11_1 : Int) (b11_2 : Int) (b11_3 : Int) (b12_0 : Int) (b12_1 : Int) (b12_2 : Int) (b12_3 : List Int) (b19_0 : Int) (b19_1 : Int) (b19_2 : Int) (b19_3 : List Int) (e0 : Int → Int → Int → Int → (List Int) → Option R) (e1 : Int → Int → Int → (List Int) → Int → Int → Int → (List Int) → Int → Int → Int → Int → Int → Int → Int → (List Int) → Int → Int → Int → (List Int) → Option R) : F139.loop1 k (j + 1) s2 s3 s4 s20 s21 b6_0 b6_1 b6_2 b6_3 b7_0 b7_1 b7_2 b7_3 b11_0 b11_1 b11_2 b11_3 b12_0 b12_1 b12_2 b12_3 b19_0 b19_1 b19_2 b19_3 e0 e1 =
    (bif decide (s21 < b11_2) then (bif s2 then (if 0 ≤ w64 ((w64 (s20 * b6_0)) + s21) then (b7_3[(w64 ((w64 (s20 * b6_0)) + s21)).toNat]?).bind fun (x8 : Int) => if 0 ≤ w64 ((w64 (s20 * b6_0)) + s21) then (b6_3[(w64 ((w64 (s20 * b6_0)) + s21)).toNat]?).bind fun (x9 : Int) => (F130 k s3 x9 x8).bind fun (y10 : (Int × Int × Unit) × (Unit)) => bif y10.1.2.1 != 0 then (e0 y10.1.2.1 0 0 0 ([] : List Int)) else ((F138 k y10.1.1 s4).bind fun (y11 : (Int × Unit) × (Unit)) => if (b19_3 ++ [y11.1.1]).length * 8 ≤ 140737488355328 then F139.loop1 k j s2 s3 s4 s20 (w64 (s21 + 1)) b6_0 b6_1 b6_2 b6_3 b7_0 b7_1 b7_2 b7_3 b11_0 b11_1 b11_2 b11_3 b12_0 b12_1 b12_2 b12_3 b19_0 b19_1 b19_2 (b19_3 ++ [y11.1.1]) e0 e1 else none) else none else none) else (if 0 ≤ w64 ((w64 (s20 * b6_0)) + s21) then (b6_3[(w64 ((w64 (s20 * b6_0)) + s21)).toNat]?).bind fun (x12 : Int) => (F130 k s3 x12 0).bind fun (y13 : (Int × Int × Unit) × (Unit)) => bif y13.1.2.1 != 0 then (e0 y13.1.2.1 0 0 0 ([] : List Int)) else ((F138 k y13.1.1 s4).bind fun (y14 : (Int × Unit) × (Unit)) => if (b19_3 ++ [y14.1.1]).length * 8 ≤ 140737488355328 then F139.loop1 k j s2 s3 s4 s20 (w64 (s21 + 1)) b6_0 b6_1 b6_2 b6_3 b7_0 b7_1 b7_2 b7_3 b11_0 b11_1 b11_2 b11_3 b12_0 b12_1 b12_2 b12_3 b19_0 b19_1 b19_2 (b19_3 ++ [y14.1.1]) e0 e1 else none) else none)) else (e1 b6_0 b6_1 b6_2 b6_3 b7_0 b7_1 b7_2 b7_3 b11_0 b11_1 b11_2 b11_3 b12_0 b12_1 b12_2 b12_3 b19_0 b19_1 b19_2 b19_3)) := rfl

noncomputable def F139.loop0 {R : Type} (k : Nat) (j : Nat) : Bool → (List (Int × Int)) → Int → Int → Int → Int → Int → (List Int) → Int → Int → Int → (List Int) → Int → Int → Int → Int → Int → Int → Int → (List Int) → Int → Int → Int → (List Int) → (Int → Int → Int → Int → (List Int) → Option R) → (Int → Int → Int → (List Int) → Int → Int → Int → (List Int) → Option R) → Option R :=
  Nat.rec (motive := fun _ => Bool → (List (Int × Int)) → Int → Int → Int → Int → Int → (List Int) → Int → Int → Int → (List Int) → Int → Int → Int → Int → Int → Int → Int → (List Int) → Int → Int → Int → (List Int) → (Int → Int → Int → Int → (List Int) → Option R) → (Int → Int → Int → (List Int) → Int → Int → Int → (List Int) → Option R) → Option R)
    (fun _ _ _ _ _ _ _ _ _ _ _ _ _ _ _ _ _ _ _ _ _ _ _ _ _ _ => none)
    (fun _ ih (s2 : Bool) (s3 : List (Int × Int)) (s4 : Int) (s20 : Int) (b6_0 : Int) (b6_1 : Int) (b6_2 : Int) (b6_3 : List Int) (b7_0 : Int) (b7_1 : Int) (b7_2 : Int) (b7_3 : List Int) (b11_0 : Int) (b11_1 : Int) (b11_2 : Int) (b11_3 : Int) (b12_0 : Int) (b12_1 : Int) (b12_2 : Int) (b12_3 : List Int) (b19_0 : Int) (b19_1 : Int) (b19_2 : Int) (b19_3 : List Int) (e0 : Int → Int → Int → Int → (List Int) → Option R) (e1 : Int → Int → Int → (List Int) → Int → Int → Int → (List Int) → Option R) => bif decide (s20 < b11_3) then (F139.loop1 k k s2 s3 s4 s20 b11_0 b6_0 b6_1 b6_2 b6_3 b7_0 b7_1 b7_2 b7_3 b11_0 b11_1 b11_2 b11_3 b12_0 b12_1 b12_2 b12_3 b19_0 b19_1 b19_2 b19_3 (fun (z8 : Int) (z9 : Int) (z10 : Int) (z11 : Int) (z12 : List Int) => (e0 z8 z9 z10 z11 z12)) (fun (z13 : Int) (z14 : Int) (z15 : Int) (z16 : List Int) (z17 : Int) (z18 : Int) (z19 : Int) (z20 : List Int) (z21 : Int) (z22 : Int) (z23 : Int) (z24 : Int) (z25 : Int) (z26 : Int) (z27 : Int) (z28 : List Int) (z29 : Int) (z30 : Int) (z31 : Int) (z32 : List Int) => (ih s2 s3 s4 (w64 (s20 + 1)) z13 z14 z15 z16 z17 z18 z19 z20 z21 z22 z23 z24 z25 z26 z27 z28 z29 z30 z31 z32 e0 e1))) else (e1 b12_0 b12_1 b12_2 b12_3 b19_0 b19_1 b19_2 b19_3)) j

theorem F139.loop0_s {R : Type} (k : Nat) (j : Nat) (s2 : Bool) (s3 : List (Int × Int)) (s4 : Int) (s20 : Int) (b6_0 : Int) (b6_1 : Int) (b6_2 : Int) (b6_3 : List Int) (b7_0 : Int) (b7_1 : Int) (b7_2 : Int) (b7_3 : List Int) (b11_0 : Int) (b11_1 : Int) (b11_2 : Int) (b11_3 : Int) (b12_0 : Int) (b12_1 : Int) (b12_2 : Int) (b12_3 : List Int) (b19_0 : Int) (b19_1 : Int) (b19_2 : Int) (b19_3 : List Int) (e0 : Int → Int → Int → Int → (List Int) → Option R) (e1 : Int → Int → Int → (List Int) → Int → Int → Int → (List Int) → Option R) : F139.loop0 k (j + 1) s2 s3 s4 s20 b6_0 b6_1 b6_2 b6_3 b7_0 b7_1 b7_2 b7_3 b11_0 b11_1 b11_2 b11_3 b12_0 b12_1 b12_2 b12_3 b19_0 b19_1 b19_2 b19_3 e0 e1 =
    (bif decide (s20 < b11_3) then (F139.loop1 k k s2 s3 s4 s20 b11_0 b6_0 b6_1 b6_2 b6_3 b7_0 b7_1 b7_2 b7_3 b11_0 b11_1 b11_2 b11_3 b12_0 b12_1 b12_2 b12_3 b19_0 b19_1 b19_2 b19_3 (fun (z8 : Int) (z9 : Int) (z10 : Int) (z11 : Int) (z12 : List Int) => (e0 z8 z9 z10 z11 z12)) (fun (z13 : Int) (z14 : Int) (z15 : Int) (z16 : List Int) (z17 : Int) (z18 : Int) (z19 : Int) (z20 : List Int) (z21 : Int) (z22 : Int) (z23 : Int) (z24 : Int) (z25 : Int) (z26 : Int) (z27 : Int) (z28 : List Int) (z29 : Int) (z30 : Int) (z31 : Int) (z32 : List Int) => (F139.loop0 k j s2 s3 s4 (w64 (s20 + 1)) z13 z14 z15 z16 z17 z18 z19 z20 z21 z22 z23 z24 z25 z26 z27 z28 z29 z30 z31 z32 e0 e1))) else (e1 b12_0 b12_1 b12_2 b12_3 b19_0 b19_1 b19_2 b19_3)) := rfl

noncomputable def F139 (k : Nat) (a0 : Int × Int × Int × List Int) (a1 : Int × Int × Int × List Int) (a2 : Bool) (a3 : List (Int × Int)) (a4 : Int) (a5 : Int × Int × Int × Int) : Option (((Int × Int × Int × List Int) × Int × Unit) × (Unit)) :=
  (F132 k a0).bind fun (y1 : (Bool × Unit) × (Unit)) => bif !y1.1.1 then (some (((0, 0, 0, []), 1, ()), ())) else (bif a2 then ((F132 k a1).bind fun (y2 : (Bool × Unit) × (Unit)) => bif !y2.1.1 then (some (((0, 0, 0, []), 1, ()), ())) else ((F53 k a3 a2).bind fun (y3 : (Int × Unit) × (Unit)) => bif y3.1.1 != 0 then (some (((0, 0, 0, []), y3.1.1, ()), ())) else ((F50 k a4 1 4294967296).bind fun (y4 : (Bool × Unit) × (Unit)) => bif !y4.1.1 then (some (((0, 0, 0, []), 2, ()), ())) else (bif a2 then ((F58 k a3 a0.2.2.1 a1.2.2.1).bind fun (y5 : (Int × Int × Int × Unit) × (Unit)) => bif y5.1.2.2.1 != 0 then (some (((0, 0, 0, []), y5.1.2.2.1, ()), ())) else (bif a2 then (bif a0.1 != a1.1 then (some (((0, 0, 0, []), 8, ()), ())) else (bif a0.2.1 != a1.2.1 then (some (((0, 0, 0, []), 8, ()), ())) else ((F133 k a5).bind fun (y6 : (Bool × Unit) × (Unit)) => bif y6.1.1 then (some (((0, 0, 0, []), 8, ()), ())) else ((F137 k a5 (0, 0, a0.1, a0.2.1)).bind fun (y7 : (Bool × Unit) × (Unit)) => bif !y7.1.1 then (some (((0, 0, 0, []), 8, ()), ())) else (F139.loop0 k k a2 a3 a4 a5.2.1 a0.1 a0.2.1 a0.2.2.1 a0.2.2.2 a1.1 a1.2.1 a1.2.2.1 a1.2.2.2 a5.1 a5.2.1 a5.2.2.1 a5.2.2.2 0 0 0 ([] : List Int) (w64 (a5.2.2.1 - a5.1)) (w64 (a5.2.2.2 - a5.2.1)) a4 ([] : List Int) (fun (z33 : Int) (z34 : Int) (z35 : Int) (z36 : Int) (z37 : List Int) => (some (((z34, z35, z36, z37), z33, ()), ()))) (fun (z38 : Int) (z39 : Int) (z40 : Int) (z41 : List Int) (z42 : Int) (z43 : Int) (z44 : Int) (z45 : List Int) => (some (((z42, z43, z44, z45), 0, ()), ())))))))) else ((F133 k a5).bind fun (y46 : (Bool × Unit) × (Unit)) => bif y46.1.1 then (some (((0, 0, 0, []), 8, ()), ())) else ((F137 k a5 (0, 0, a0.1, a0.2.1)).bind fun (y47 : (Bool × Unit) × (Unit)) => bif !y47.1.1 then (some (((0, 0, 0, []), 8, ()), ())) else (F139.loop0 k k a2 a3 a4 a5.2.1 a0.1 a0.2.1 a0.2.2.1 a0.2.2.2 a1.1 a1.2.1 a1.2.2.1 a1.2.2.2 a5.1 a5.2.1 a5.2.2.1 a5.2.2.2 0 0 0 ([] : List Int) (w64 (a5.2.2.1 - a5.1)) (w64 (a5.2.2.2 - a5.2.1)) a4 ([] : List Int) (fun (z48 : Int) (z49 : Int) (z50 : Int) (z51 : Int) (z52 : List Int) => (some (((z49, z50, z51, z52), z48, ()), ()))) (fun (z53 : Int) (z54 : Int) (z55 : Int) (z56 : List Int) (z57 : Int) (z58 : Int) (z59 : Int) (z60 : List Int) => (some (((z57, z58, z59, z60), 0, ()), ())))))))) else ((F58 k a3 a0.2.2.1 1).bind fun (y61 : (Int × Int × Int × Unit) × (Unit)) => bif y61.1.2.2.1 != 0 then (some (((0, 0, 0, []), y61.1.2.2.1, ()), ())) else (bif a2 then (bif a0.1 != a1.1 then (some (((0, 0, 0, []), 8, ()), ())) else (bif a0.2.1 != a1.2.1 then (some (((0, 0, 0, []), 8, ()), ())) else ((F133 k a5).bind fun (y62 : (Bool × Unit) × (Unit)) => bif y62.1.1 then (some (((0, 0, 0, []), 8, ()), ())) else ((F137 k a5 (0, 0, a0.1, a0.2.1)).bind fun (y63 : (Bool × Unit) × (Unit)) => bif !y63.1.1 then (some (((0, 0, 0, []), 8, ()), ())) else (F139.loop0 k k a2 a3 a4 a5.2.1 a0.1 a0.2.1 a0.2.2.1 a0.2.2.2 a1.1 a1.2.1 a1.2.2.1 a1.2.2.2 a5.1 a5.2.1 a5.2.2.1 a5.2.2.2 0 0 0 ([] : List Int) (w64 (a5.2.2.1 - a5.1)) (w64 (a5.2.2.2 - a5.2.1)) a4 ([] : List Int) (fun (z64 : Int) (z65 : Int) (z66 : Int) (z67 : Int) (z68 : List Int) => (some (((z65, z66, z67, z68), z64, ()), ()))) (fun (z69 : Int) (z70 : Int) (z71 : Int) (z72 : List Int) (z73 : Int) (z74 : Int) (z75 : Int) (z76 : List Int) => (some (((z73, z74, z75, z76), 0, ()), ())))))))) else ((F133 k a5).bind fun (y77 : (Bool × Unit) × (Unit)) => bif y77.1.1 then (some (((0, 0, 0, []), 8, ()), ())) else ((F137 k a5 (0, 0, a0.1, a0.2.1)).bind fun (y78 : (Bool × Unit) × (Unit)) => bif !y78.1.1 then (some (((0, 0, 0, []), 8, ()), ())) else (F139.loop0 k k a2 a3 a4 a5.2.1 a0.1 a0.2.1 a0.2.2.1 a0.2.2.2 a1.1 a1.2.1 a1.2.2.1 a1.2.2.2 a5.1 a5.2.1 a5.2.2.1 a5.2.2.2 0 0 0 ([] : List Int) (w64 (a5.2.2.1 - a5.1)) (w64 (a5.2.2.2 - a5.2.1)) a4 ([] : List Int) (fun (z79 : Int) (z80 : Int) (z81 : Int) (z82 : Int) (z83 : List Int) => (some (((z80, z81, z82, z83), z79, ()), ()))) (fun (z84 : Int) (z85 : Int) (z86 : Int) (z87 : List Int) (z88 : Int) (z89 : Int) (z90 : Int) (z91 : List Int) => (some (((z88, z89, z90, z91), 0, ()), ())))))))))))) else ((F53 k a3 a2).bind fun (y92 : (Int × Unit) × (Unit)) => bif y92.1.1 != 0 then (some (((0, 0, 0, []), y92.1.1, ()), ())) else ((F50 k a4 1 4294967296).bind fun (y93 : (Bool × Unit) × (Unit)) => bif !y93.1.1 then (some (((0, 0, 0, []), 2, ()), ())) else (bif a2 then ((F58 k a3 a0.2.2.1 a1.2.2.1).bind fun (y94 : (Int × Int × Int × Unit) × (Unit)) => bif y94.1.2.2.1 != 0 then (some (((0, 0, 0, []), y94.1.2.2.1, ()), ())) else (bif a2 then (bif a0.1 != a1.1 then (some (((0, 0, 0, []), 8, ()), ())) else (bif a0.2.1 != a1.2.1 then (some (((0, 0, 0, []), 8, ()), ())) else ((F133 k a5).bind fun (y95 : (Bool × Unit) × (Unit)) => bif y95.1.1 then (some (((0, 0, 0, []), 8, ()), ())) else ((F137 k a5 (0, 0, a0.1, a0.2.1)).bind fun (y96 : (Bool × Unit) × (Unit)) => bif !y96.1.1 then (some (((0, 0, 0, []), 8, ()), ())) else (F139.loop0 k k a2 a3 a4 a5.2.1 a0.1 a0.2.1 a0.2.2.1 a0.2.2.2 a1.1 a1.2.1 a1.2.2.1 a1.2.2.2 a5.1 a5.2.1 a5.2.2.1 a5.2.2.2 0 0 0 ([] : List Int) (w64 (a5.2.2.1 - a5.1)) (w64 (a5.2.2.2 - a5.2.1)) a4 ([] : List Int) (fun (z97 : Int) (z98 : Int) (z99 : Int) (z100 : Int) (z101 : List Int) => (some (((z98, z99, z100, z101), z97, ()), ()))) (fun (z102 : Int) (z103 : Int) (z104 : Int) (z105 : List Int) (z106 : Int) (z107 : Int) (z108 : Int) (z109 : List Int) => (some (((z106, z107, z108, z109), 0, ()), ())))))))) else ((F133 k a5).bind fun (y110 : (Bool × Unit) × (Unit)) => bif y110.1.1 then (some (((0, 0, 0, []), 8, ()), ())) else ((F137 k a5 (0, 0, a0.1, a0.2.1)).bind fun (y111 : (Bool × Unit) × (Unit)) => bif !y111.1.1 then (some (((0, 0, 0, []), 8, ()), ())) else (F139.loop0 k k a2 a3 a4 a5.2.1 a0.1 a0.2.1 a0.2.2.1 a0.2.2.2 a1.1 a1.2.1 a1.2.2.1 a1.2.2.2 a5.1 a5.2.1 a5.2.2.1 a5.2.2.2 0 0 0 ([] : List Int) (w64 (a5.2.2.1 - a5.1)) (w64 (a5.2.2.2 - a5.2.1)) a4 ([] : List Int) (fun (z112 : Int) (z113 : Int) (z114 : Int) (z115 : Int) (z116 : List Int) => (some (((z113, z114, z115, z116), z112, ()), ()))) (fun (z117 : Int) (z118 : Int) (z119 : Int) (z120 : List Int) (z121 : Int) (z122 : Int) (z123 : Int) (z124 : List Int) => (some (((z121, z122, z123, z124), 0, ()), ())))))))) else ((F58 k a3 a0.2.2.1 1).bind fun (y125 : (Int × Int × Int × Unit) × (Unit)) => bif y125.1.2.2.1 != 0 then (some (((0, 0, 0, []), y125.1.2.2.1, ()), ())) else (bif a2 then (bif a0.1 != a1.1 then (some (((0, 0, 0, []), 8, ()), ())) else (bif a0.2.1 != a1.2.1 then (some (((0, 0, 0, []), 8, ()), ())) else ((F133 k a5).bind fun (y126 : (Bool × Unit) × (Unit)) => bif y126.1.1 then (some (((0, 0, 0, []), 8, ()), ())) else ((F137 k a5 (0, 0, a0.1, a0.2.1)).bind fun (y127 : (Bool × Unit) × (Unit)) => bif !y127.1.1 then (some (((0, 0, 0, []), 8, ()), ())) else (F139.loop0 k k a2 a3 a4 a5.2.1 a0.1 a0.2.1 a0.2.2.1 a0.2.2.2 a1.1 a1.2.1 a1.2.2.1 a1.2.2.2 a5.1 a5.2.1 a5.2.2.1 a5.2.2.2 0 0 0 ([] : List Int) (w64 (a5.2.2.1 - a5.1)) (w64 (a5.2.2.2 - a5.2.1)) a4 ([] : List Int) (fun (z128 : Int) (z129 : Int) (z130 : Int) (z131 : Int) (z132 : List Int) => (some (((z129, z130, z131, z132), z128, ()), ()))) (fun (z133 : Int) (z134 : Int) (z135 : Int) (z136 : List Int) (z137 : Int) (z138 : Int) (z139 : Int) (z140 : List Int) => (some (((z137, z138, z139, z140), 0, ()), ())))))))) else ((F133 k a5).bind fun (y141 : (Bool × Unit) × (Unit)) => bif y141.1.1 then (some (((0, 0, 0, []), 8, ()), ())) else ((F137 k a5 (0, 0, a0.1, a0.2.1)).bind fun (y142 : (Bool × Unit) × (Unit)) => bif !y142.1.1 then (some (((0, 0, 0, []), 8, ()), ())) else (F139.loop0 k k a2 a3 a4 a5.2.1 a0.1 a0.2.1 a0.2.2.1 a0.2.2.2 a1.1 a1.2.1 a1.2.2.1 a1.2.2.2 a5.1 a5.2.1 a5.2.2.1 a5.2.2.2 0 0 0 ([] : List Int) (w64 (a5.2.2.1 - a5.1)) (w64 (a5.2.2.2 - a5.2.1)) a4 ([] : List Int) (fun (z143 : Int) (z144 : Int) (z145 : Int) (z146 : Int) (z147 : List Int) => (some (((z144, z145, z146, z147), z143, ()), ()))) (fun (z148 : Int) (z149 : Int) (z150 : Int) (z151 : List Int) (z152 : Int) (z153 : Int) (z154 : Int) (z155 : List Int) => (some (((z152, z153, z154, z155), 0, ()), ()))))))))))))

noncomputable def F140.loop0 {R : Type} (k : Nat) (j : Nat) : (List Int) → (List Int) → Int → (Bool → Option R) → (Unit → Option R) → Option R :=
  Nat.rec (motive := fun _ => (List Int) → (List Int) → Int → (Bool → Option R) → (Unit → Option R) → Option R)
    (fun _ _ _ _ _ => none)
    (fun _ ih (s0 : List Int) (s1 : List Int) (s5 : Int) (e0 : Bool → Option R) (e1 : Unit → Option R) => bif decide (s5 < (s0.length : Int)) then (if 0 ≤ s5 then (s0[s5.toNat]?).bind fun (x1 : Int) => if 0 ≤ s5 then (s1[s5.toNat]?).bind fun (x2 : Int) => bif x1 != x2 then (e0 false) else (ih s0 s1 (w64 (s5 + 1)) e0 e1) else none else none) else (e1 ())) j

theorem F140.loop0_s {R : Type} (k : Nat) (j : Nat) (s0 : List Int) (s1 : List Int) (s5 : Int) (e0 : Bool → Option R) (e1 : Unit → Option R) : F140.loop0 k (j + 1) s0 s1 s5 e0 e1 =
    (bif decide (s5 < (s0.length : Int)) then (if 0 ≤ s5 then (s0[s5.toNat]?).bind fun (x1 : Int) => if 0 ≤ s5 then (s1[s5.toNat]?).bind fun (x2 : Int) => bif x1 != x2 then (e0 false) else (F140.loop0 k j s0 s1 (w64 (s5 + 1)) e0 e1) else none else none) else (e1 ())) := rfl

noncomputable def F140 (k : Nat) (a0 : List Int) (a1 : List Int) : Option ((Bool × Unit) × (Unit)) :=
  bif (a0.length : Int) != (a1.length : Int) then (some ((false, ()), ())) else (F140.loop0 k k a0 a1 0 (fun (z3 : Bool) => (some ((z3, ()), ()))) (fun (_ : Unit) => (some ((true, ()), ()))))

theorem w64_id {n : Int} (h1 : -9223372036854775808 ≤ n) (h2 : n < 9223372036854775808) : w64 n = n := by
  unfold w64 IntKind.wrap
  simp [IntKind.bits, IntKind.signed] <;> omega
theorem tmod_gt (a m : Int) (h : 0 < m) : -m < a.tmod m := by
  by_cases h0 : 0 ≤ a
  · have := Int.tmod_nonneg m h0; omega
  · have h1 := Int.tmod_lt_of_pos (-a) h
    rw [Int.neg_tmod] at h1
    omega
theorem mod_ok (k : Nat) (a m : Int) (h1 : 0 < m) (h2 : m ≤ 4611686018427387904) : ∃ u, F5 k a m = some ((u, ()), ()) ∧ 0 ≤ u ∧ u < m := by
  have hlt := Int.tmod_lt_of_pos a h1
  have hgt := tmod_gt a m h1
  unfold F5
  rw [if_neg (by omega)]
  by_cases h : a.tmod m < 0
  · refine ⟨a.tmod m + m, ?_, by omega, by omega⟩
    simp only [h, decide_true, cond]
    rw [w64_id (by omega) (by omega)]
  · refine ⟨a.tmod m, ?_, by omega, by omega⟩
    simp only [h, decide_false, cond]
theorem abs_ok (k : Nat) {n : Int} (h1 : -9223372036854775808 < n) (h2 : n < 9223372036854775808) : F54 k n = some ((if n < 0 then -n else n, ()), ()) := by
  unfold F54 mm
  rw [w64_id (by omega) (by omega)]
  simp only
  congr 2
  split <;> split <;> first | rfl | omega | simp only [Prod.mk.injEq, and_true]; omega
def inM (n : Int) : Prop := -17592186044416 ≤ n ∧ n ≤ 17592186044416
instance (n : Int) : Decidable (inM n) := inferInstanceAs (Decidable (_ ∧ _))
def tk (c : Int) : Nat := if c = 0 ∨ c = 1 ∨ c = 2 then 0 else if c = 10 ∨ c = 11 then 1 else 2
def argB (o : Int × Int) : Bool := if o.1 = 2 then decide (-4294967296 ≤ o.2 ∧ o.2 ≤ 4294967296) else if o.1 = 10 then decide (0 ≤ o.2 ∧ o.2 ≤ 24) else decide (o.2 = 0)
theorem tk_le (c : Int) : tk c ≤ 2 := by unfold tk; split <;> (try split) <;> omega
theorem bt_ok (k : Nat) (n a b : Int) : F50 k n a b = some ((decide (a ≤ n ∧ n ≤ b), ()), ()) := by
  unfold F50
  by_cases h : a ≤ n
  · simp [h]
  · simp [h]
theorem sum_eq (k : Nat) (n : Int) : F57 k n = some ((decide (inM n), ()), ()) := by
  unfold F57
  rw [bt_ok]
  rfl
theorem takes_ok (k : Nat) (c : Int) : F51 k c = some ((((tk c : Nat) : Int), ()), ()) := by
  unfold F51 tk
  by_cases h0 : c = 0
  · subst h0; rfl
  by_cases h1 : c = 1
  · subst h1; rfl
  by_cases h2 : c = 2
  · subst h2; rfl
  by_cases h10 : c = 10
  · subst h10; rfl
  by_cases h11 : c = 11
  · subst h11; rfl
  have e0 : (c == 0) = false := by simpa using h0
  have e1 : (c == 1) = false := by simpa using h1
  have e2 : (c == 2) = false := by simpa using h2
  have e10 : (c == 10) = false := by simpa using h10
  have e11 : (c == 11) = false := by simpa using h11
  simp only [e0, e1, e2, e10, e11, cond]
  rw [if_neg (by omega), if_neg (by omega)]
  rfl
theorem arg_ok (k : Nat) (o : Int × Int) : F52 k o = some ((argB o, ()), ()) := by
  unfold F52 argB
  by_cases h2 : o.1 = 2
  · have e : (o.1 == 2) = true := by simpa using h2
    rw [e, if_pos h2, bt_ok]; rfl
  · have e : (o.1 == 2) = false := by simpa using h2
    rw [e, if_neg h2]
    by_cases h10 : o.1 = 10
    · have e : (o.1 == 10) = true := by simpa using h10
      simp [h10, bt_ok]
    · have e : (o.1 == 10) = false := by simpa using h10
      rw [e, if_neg h10]
      by_cases h : o.2 = 0 <;> simp [h]
/-- What Valid's loop does. -/
def vgo {R : Type} (two : Bool) (e0 e1 : Int → Option R) : List (Int × Int) → Int → Option R
  | [], h => e1 h
  | o :: l, h => if ¬ (0 ≤ o.1 ∧ o.1 ≤ 11) ∨ (o.1 = 1 ∧ two = false) ∨ h < tk o.1 then e0 1 else if argB o = false then e0 10 else vgo two e0 e1 l (h + (1 - tk o.1))
theorem w64_succ (n : Nat) (h : n < 9223372036854775807) : w64 ((n : Int) + 1) = ((n + 1 : Nat) : Int) := by rw [w64_id (by omega) (by omega)]; rfl
theorem valid_loop {R : Type} (k : Nat) (two : Bool) (l : List (Int × Int)) (e0 e1 : Int → Option R) (hl : l.length ≤ 4294967296) : ∀ (n i j : Nat) (h : Int), l.length - i = n → i ≤ l.length → n < j → -4294967296 * 2 ≤ h → h ≤ i →
    F53.loop0 k j two h l l.length i e0 e1 = vgo two e0 e1 (l.drop i) h := by
  intro n
  induction n with
  | zero =>
    intro i j h hn hi hj h1 h2
    have e : i = l.length := by omega
    obtain ⟨j, rfl⟩ : ∃ j', j = j' + 1 := ⟨j - 1, by omega⟩
    rw [F53.loop0_s, e, decide_eq_false (by omega), List.drop_length]
    rfl
  | succ n ih =>
    intro i j h hn hi hj h1 h2
    obtain ⟨j, rfl⟩ : ∃ j', j = j' + 1 := ⟨j - 1, by omega⟩
    have hlt : i < l.length := by omega
    rw [F53.loop0_s, decide_eq_true (by omega), List.drop_eq_getElem_cons hlt]
    simp only [cond]
    rw [if_pos (by omega), Int.toNat_natCast, List.getElem?_eq_getElem hlt]
    generalize hgo : l[i] = o
    simp only [Option.bind, bt_ok, takes_ok, arg_ok]
    have htk := tk_le o.1
    unfold vgo
    by_cases hb : 0 ≤ o.1 ∧ o.1 ≤ 11
    · rw [decide_eq_true hb]
      have next : argB o = true → ¬ h < tk o.1 → F53.loop0 k j two (w64 (h + (w64 (1 - ((tk o.1 : Nat) : Int))))) l l.length (w64 ((i : Int) + 1)) e0 e1 = vgo two e0 e1 (l.drop (i + 1)) (h + (1 - tk o.1)) := by
        intro _ hh
        rw [w64_succ i (by omega), w64_id (n := 1 - ((tk o.1 : Nat) : Int)) (by omega) (by omega), w64_id (n := h + (1 - ((tk o.1 : Nat) : Int))) (by omega) (by omega)]
        exact ih (i + 1) j _ (by omega) (by omega) (by omega) (by omega) (by omega)
      by_cases h11 : o.1 = 1
      · have e : (o.1 == 1) = true := by simpa using h11
        rw [e]
        cases two with
        | false => simp [h11]
        | true =>
          by_cases hh : h < tk o.1
          · simp [hb, hh]
          · cases ha : argB o with
            | false => simp [hb, hh]
            | true =>
              have := next ha hh
              simp [hb, hh, this]
      · have e : (o.1 == 1) = false := by simpa using h11
        rw [e]
        by_cases hh : h < tk o.1
        · simp [hb, hh]
        · cases ha : argB o with
          | false => simp [hb, hh, h11]
          | true =>
            have := next ha hh
            simp [hb, hh, h11, this]
    · rw [decide_eq_false hb, if_pos (.inl hb)]
      rfl
/-- Which programs are valid. -/
def vcode (l : List (Int × Int)) (two : Bool) : Int :=
  if 1 ≤ l.length ∧ l.length ≤ 32 then (vgo (R := Int) two some (fun h => some (if h ≠ 1 then 1 else 0)) l 0).getD 0 else 9
theorem vgo_map {R R' : Type} (two : Bool) (f : R → Option R') (e0 e1 : Int → Option R) : ∀ (l : List (Int × Int)) (h : Int), (vgo two e0 e1 l h).bind f = vgo two (fun x => (e0 x).bind f) (fun x => (e1 x).bind f) l h
  | [], h => rfl
  | o :: l, h => by
    unfold vgo
    split
    · rfl
    · split
      · rfl
      · exact vgo_map two f e0 e1 l _
theorem vgo_some (two : Bool) : ∀ (l : List (Int × Int)) (h : Int), ∃ c, vgo (R := Int) two some (fun h => some (if h ≠ 1 then 1 else 0)) l h = some c
  | [], h => ⟨_, rfl⟩
  | o :: l, h => by
    unfold vgo
    split
    · exact ⟨_, rfl⟩
    · split
      · exact ⟨_, rfl⟩
      · exact vgo_some two l _
theorem valid_ok (k : Nat) (l : List (Int × Int)) (two : Bool) (hk : 33 ≤ k) : F53 k l two = some ((vcode l two, ()), ()) := by
  unfold F53 vcode
  rw [bt_ok]
  simp only [Option.bind]
  by_cases hl : 1 ≤ l.length ∧ l.length ≤ 32
  · rw [decide_eq_true (by omega), if_pos hl]
    simp only [Bool.not_true, cond_false]
    have := valid_loop (R := (Int × Unit) × Unit) k two l (fun z => some ((z, ()), ())) (fun z => (bif z != 1 then (some ((1, ()), ())) else (some ((0, ()), ())))) (by omega) l.length 0 k 0 rfl (by omega) (by omega) (by omega) (by omega)
    rw [show ((0 : Nat) : Int) = 0 from rfl] at this
    rw [this, List.drop_zero]
    obtain ⟨c, hc⟩ := vgo_some two l 0
    rw [hc]
    have hm := vgo_map two (fun c => some ((c, ()), ())) some (fun h => some (if h ≠ 1 then 1 else 0)) l 0
    rw [hc] at hm
    have e : (fun x : Int => (some (if x ≠ 1 then (1 : Int) else 0)).bind fun c => some ((c, ()), ())) = fun z => (bif z != 1 then (some ((1, ()), ())) else (some ((0, ()), ()))) := by
      funext z
      by_cases h : z = 1
      · subst h; rfl
      · have e : (z != 1) = true := by simpa using h
        rw [e, if_pos h]; rfl
    rw [e] at hm
    exact hm.symm
  · rw [decide_eq_false (by omega), if_neg hl]
    rfl
/-- What is needed so that a program runs: enough values for each operation. -/
def hOk : List (Int × Int) → Nat → Prop
  | [], h => h = 1
  | o :: l, h => 0 ≤ o.1 ∧ o.1 ≤ 11 ∧ tk o.1 ≤ h ∧ argB o = true ∧ hOk l (h + 1 - tk o.1)
theorem vgo_hOk (two : Bool) : ∀ (l : List (Int × Int)) (h : Nat), vgo (R := Int) two some (fun h => some (if h ≠ 1 then 1 else 0)) l h = some 0 → hOk l h
  | [], h, hv => by
    have hv' : (some (if (h : Int) ≠ 1 then 1 else 0) : Option Int) = some 0 := hv
    injection hv' with hv'
    by_cases e : (h : Int) = 1
    · show h = 1; omega
    · rw [if_pos e] at hv'; cases hv'
  | o :: l, h, hv => by
    unfold vgo at hv
    split at hv
    · cases hv
    · rename_i hc
      split at hv
      · cases hv
      · rename_i ha
        have h1 : ¬ ((h : Int) < tk o.1) := fun e => hc (.inr (.inr e))
        have h2 : 0 ≤ o.1 ∧ o.1 ≤ 11 := Classical.byContradiction fun e => hc (.inl e)
        have htk : tk o.1 ≤ h := by omega
        refine ⟨h2.1, h2.2, htk, by simpa using ha, vgo_hOk two l _ ?_⟩
        rw [show ((h + 1 - tk o.1 : Nat) : Int) = (h : Int) + (1 - tk o.1) from by omega]
        exact hv
theorem vcode_hOk {l : List (Int × Int)} {two : Bool} (h : vcode l two = 0) : 1 ≤ l.length ∧ l.length ≤ 32 ∧ hOk l 0 := by
  unfold vcode at h
  split at h
  · rename_i hl
    obtain ⟨c, hc⟩ := vgo_some two l 0
    rw [hc] at h
    have : c = 0 := h
    subst this
    exact ⟨hl.1, hl.2, vgo_hOk two l 0 hc⟩
  · cases h
def ab (n : Int) : Int := if n < 0 then -n else n
def tms (x y : Int) : Int := if x ≠ 0 ∧ 17592186044416 / ab x < ab y then 17592186044417 else x * y
def dvd' (x y : Int) : Int := if y = 0 then 0 else if x.tmod y ≠ 0 ∧ ¬ (x < 0 ↔ y < 0) then x.tdiv y - 1 else x.tdiv y
def shf (x s : Int) : Int := if s = 0 then x else (x + 2 ^ (s.toNat - 1)).fdiv (2 ^ s.toNat)
def res (c x y : Int) : Int :=
  if c = 3 then x + y else if c = 4 then x - y else if c = 5 then tms x y else if c = 6 then mm false x y else if c = 7 then mm true x y else if c = 8 then ab (x - y) else dvd' x y
def estep (a b : Int) (o : Int × Int) (x y : Int) : Int :=
  if o.1 = 0 then a else if o.1 = 1 then b else if o.1 = 2 then o.2 else if o.1 = 10 then shf x o.2 else if o.1 = 11 then ab x else res o.1 x y
theorem ab_nonneg (n : Int) : 0 ≤ ab n := by unfold ab; split <;> omega
theorem ab_le {n m : Int} : ab n ≤ m ↔ -m ≤ n ∧ n ≤ m := by unfold ab; split <;> omega
theorem ab_zero {n : Int} : ab n = 0 ↔ n = 0 := by unfold ab; split <;> omega
theorem ab_mul (x y : Int) : ab (x * y) = ab x * ab y := by
  unfold ab
  by_cases hx : x < 0 <;> by_cases hy : y < 0
  · have := Int.mul_pos_of_neg_of_neg hx hy
    rw [if_neg (by omega), if_pos hx, if_pos hy, Int.neg_mul_neg]
  · rw [if_pos hx, if_neg hy]
    by_cases h0 : y = 0
    · subst h0; simp
    · have := Int.mul_neg_of_neg_of_pos hx (by omega : 0 < y)
      rw [if_pos this, Int.neg_mul]
  · rw [if_neg hx, if_pos hy]
    by_cases h0 : x = 0
    · subst h0; simp
    · have := Int.mul_neg_of_pos_of_neg (by omega : 0 < x) hy
      rw [if_pos this, Int.mul_neg]
  · have := Int.mul_nonneg (by omega : 0 ≤ x) (by omega : 0 ≤ y)
    rw [if_neg (by omega), if_neg hx, if_neg hy]
theorem inM_ab {n : Int} : inM n ↔ ab n ≤ 17592186044416 := by unfold inM; rw [ab_le]
theorem abs_eq (k : Nat) {n : Int} (h1 : -9223372036854775808 < n) (h2 : n < 9223372036854775808) : F54 k n = some ((ab n, ()), ()) := abs_ok k h1 h2
theorem div_le' {x : Int} (hx : x ≠ 0) : 0 ≤ 17592186044416 / ab x ∧ 17592186044416 / ab x ≤ 17592186044416 := by
  have h := ab_nonneg x
  exact ⟨Int.ediv_nonneg (by omega) h, Int.ediv_le_self _ (by omega)⟩
theorem tms_in {x y : Int} (h : ¬ (x ≠ 0 ∧ 17592186044416 / ab x < ab y)) : inM (x * y) := by
  rw [inM_ab, ab_mul]
  by_cases hx : x = 0
  · subst hx; simp [ab]
  · have h1 : ab y ≤ 17592186044416 / ab x := by
      refine Int.not_lt.1 fun h2 => h ⟨hx, h2⟩
    have h0 : 0 < ab x := by have := ab_nonneg x; have := mt ab_zero.1 hx; omega
    have := (Int.le_ediv_iff_mul_le h0).1 h1
    rw [Int.mul_comm]; exact this
theorem times_eq (k : Nat) {x y : Int} (hx : inM x) (hy : inM y) : F55 k x y = some ((tms x y, ()), ()) := by
  unfold inM at hx hy
  unfold F55
  rw [abs_eq k (n := y) (by omega) (by omega), abs_eq k (n := x) (by omega) (by omega)]
  unfold tms
  by_cases h : x = 0
  · subst h
    simp
    exact w64_id (by omega) (by omega)
  · have e : (x != 0) = true := by simpa using h
    have h0 : ab x ≠ 0 := mt ab_zero.1 h
    obtain ⟨d1, d2⟩ := div_le' h
    have hq : w64 ((17592186044416 : Int).tdiv (ab x)) = 17592186044416 / ab x := by
      rw [Int.tdiv_eq_ediv_of_nonneg (by omega)]
      exact w64_id (by omega) (by omega)
    simp only [e, cond_true, Option.bind_some, if_neg h0, hq]
    by_cases hg : 17592186044416 / ab x < ab y
    · rw [decide_eq_true hg, if_pos ⟨h, hg⟩]; rfl
    · have := tms_in (x := x) (y := y) fun hh => hg hh.2
      unfold inM at this
      rw [decide_eq_false hg, if_neg fun hh => hg hh.2, cond_false, w64_id (by omega) (by omega)]
theorem tdiv_ab {x y : Int} (hy : y ≠ 0) : ab (x.tdiv y) ≤ ab x := by
  have h1 : (x.tdiv y).natAbs ≤ x.natAbs := by rw [Int.natAbs_tdiv]; exact Nat.div_le_self _ _
  unfold ab
  split <;> split <;> omega
theorem dvd_ab {x y : Int} : ab (dvd' x y) ≤ ab x := by
  unfold dvd'
  by_cases hy : y = 0
  · rw [if_pos hy]; exact ab_nonneg x
  · rw [if_neg hy]
    have hq := tdiv_ab (x := x) hy
    split
    · rename_i h
      have hx : x ≠ 0 := by intro e; subst e; exact h.1 (by simp)
      have hlt : (x.tdiv y).natAbs < x.natAbs := by
        rw [Int.natAbs_tdiv]
        refine Nat.div_lt_self (by omega) ?_
        have : y.natAbs ≠ 1 := by
          intro e
          apply h.1
          rcases Int.natAbs_eq y with e' | e' <;> rw [e] at e' <;> rw [e'] <;> simp
        omega
      unfold ab
      split <;> split <;> omega
    · exact hq
theorem divided_eq (k : Nat) {x y : Int} (hx : inM x) : F128 k x y = some ((dvd' x y, ()), ()) := by
  unfold F128 dvd'
  by_cases hy : y = 0
  · subst hy; rfl
  · have e : (y == 0) = false := by simpa using hy
    have hq := tdiv_ab (x := x) hy
    have hx' := inM_ab.1 hx
    have hq2 : -17592186044416 ≤ x.tdiv y ∧ x.tdiv y ≤ 17592186044416 := ab_le.1 (by omega)
    simp only [e, cond_false, if_neg hy]
    rw [w64_id (n := x.tdiv y) (by omega) (by omega), w64_id (n := x.tdiv y - 1) (by omega) (by omega)]
    by_cases hm : x.tmod y = 0
    · have e : (x.tmod y != 0) = false := by simpa using hm
      rw [e, if_neg fun h => h.1 hm]; rfl
    · have e : (x.tmod y != 0) = true := by simpa using hm
      rw [e]
      by_cases h1 : x < 0 <;> by_cases h2 : y < 0 <;> simp [h1, h2, hm]
theorem fsum_eq (k : Nat) (n : Int) : F33 k n = some ((decide (inM n), ()), ()) := by
  unfold F33
  by_cases h : -17592186044416 ≤ n <;> simp [h, inM]
theorem pow_small {s : Nat} (h : s ≤ 23) : (1 : Int) ≤ 2 ^ s ∧ (2 : Int) ^ s ≤ 8388608 := by
  have h1 : 2 ^ s ≤ 2 ^ 23 := Nat.pow_le_pow_right (by omega) h
  have h2 : 1 ≤ 2 ^ s := Nat.one_le_two_pow
  have e : ((2 ^ s : Nat) : Int) = (2 : Int) ^ s := by simp
  omega
theorem shift_eq (k : Nat) {x s : Int} (hx : inM x) (h0 : 0 ≤ s) (h1 : s ≤ 24) : F39 k x s = some ((shf x s, ()), ()) := by
  have hx' := hx
  unfold inM at hx'
  unfold F39 shf
  rw [fsum_eq, decide_eq_true hx]
  simp only [Option.bind_some, Bool.not_true, cond_false]
  rw [decide_eq_false (by omega), decide_eq_false (by omega)]
  simp only [cond_false]
  by_cases hs : s = 0
  · subst hs; rfl
  · have e : (s == 0) = false := by simpa using hs
    rw [e, cond_false, if_neg hs, w64_id (n := s - 1) (by omega) (by omega), if_neg (by omega), if_neg (by omega)]
    have hm1 : min (s - 1).toNat IntKind.i64.bits = s.toNat - 1 := by
      show min (s - 1).toNat 64 = s.toNat - 1
      omega
    have hm2 : min s.toNat IntKind.i64.bits = s.toNat := by
      show min s.toNat 64 = s.toNat
      omega
    have hp := pow_small (s := s.toNat - 1) (by omega)
    rw [hm1, hm2, Int.one_mul, w64_id (n := (2 : Int) ^ (s.toNat - 1)) (by omega) (by omega), w64_id (n := x + 2 ^ (s.toNat - 1)) (by omega) (by omega)]
/-- One operation on values, the last one at the end. -/
def eone (a b : Int) (o : Int × Int) (st : List Int) : Int := estep a b o (st.getD (st.length - tk o.1) 0) (st.getD (st.length - tk o.1 + 1) 0)
def erun {R : Type} (a b : Int) (e0 : Option R) (e1 : List Int → Option R) : List (Int × Int) → List Int → Option R
  | [], st => e1 st
  | o :: l, st => if inM (eone a b o st) then erun a b e0 e1 l (st.take (st.length - tk o.1) ++ [eone a b o st]) else e0
theorem getD_of {st : List Int} {n : Nat} (h : n < st.length) : st[n]? = some (st.getD n 0) := by
  rw [List.getElem?_eq_getElem h, List.getD_eq_getElem?_getD, List.getElem?_eq_getElem h]; rfl
/-- What a valid program comes to. -/
def rv (l : List (Int × Int)) (a b : Int) : Int × Int := (erun (R := Int × Int) a b (some (0, 11)) (fun st => some (st.getD 0 0, 0)) l []).getD (0, 0)
def ev (l : List (Int × Int)) (a b : Int) : Int × Int :=
  if vcode l true ≠ 0 then (0, vcode l true) else if 0 ≤ a ∧ a ≤ 4294967296 ∧ 0 ≤ b ∧ b ≤ 4294967296 then rv l a b else (0, 2)
theorem erun_map {R R' : Type} (a b : Int) (f : R → Option R') (e0 : Option R) (e1 : List Int → Option R) : ∀ (l : List (Int × Int)) (st : List Int), (erun a b e0 e1 l st).bind f = erun a b (e0.bind f) (fun st => (e1 st).bind f) l st
  | [], st => rfl
  | o :: l, st => by
    unfold erun
    split
    · exact erun_map a b f e0 e1 l _
    · rfl
theorem erun_some (a b : Int) : ∀ (l : List (Int × Int)) (st : List Int), ∃ c, erun (R := Int × Int) a b (some (0, 11)) (fun st => some (st.getD 0 0, 0)) l st = some c
  | [], st => ⟨_, rfl⟩
  | o :: l, st => by
    unfold erun
    split
    · exact erun_some a b l _
    · exact ⟨_, rfl⟩
theorem erun_congr {R : Type} (a b : Int) (e0 : Option R) (e1 e2 : List Int → Option R) (h : ∀ st, st.length = 1 → e1 st = e2 st) : ∀ (l : List (Int × Int)) (st : List Int), hOk l st.length → erun a b e0 e1 l st = erun a b e0 e2 l st
  | [], st, hok => h st hok
  | o :: l, st, hok => by
    obtain ⟨c1, c2, htk, harg, hrest⟩ := hok
    unfold erun
    split
    · refine erun_congr a b e0 e1 e2 h l _ ?_
      have hlen : ((st.take (st.length - tk o.1)) ++ [eone a b o st]).length = st.length - tk o.1 + 1 := by rw [List.length_append, List.length_take]; simp
      rw [hlen, show st.length - tk o.1 + 1 = st.length + 1 - tk o.1 by omega]
      exact hrest
    · rfl
def Tp (t : List Int × Int) : Prop := 0 ≤ t.2 ∧ t.2 ≤ t.1.length ∧ t.1.length ≤ 9223372036854775807
theorem next_ok (k : Nat) {t : List Int × Int} (ht : Tp t) {n : Int} (h1 : 0 < n) (h2 : n ≤ 4611686018427387904) : ∃ v t', F6 k t n = some ((v, ()), (t', ())) ∧ 0 ≤ v ∧ v < n ∧ Tp t' := by
  obtain ⟨a1, a2, a3⟩ := ht
  unfold F6
  rw [decide_eq_false (by omega), cond_false]
  by_cases h : t.2 ≥ t.1.length
  · rw [decide_eq_true h, cond_true]
    exact ⟨0, t, rfl, by omega, h1, a1, a2, a3⟩
  · rw [decide_eq_false h, cond_false, w64_id (n := t.2 + 1) (by omega) (by omega), Int.add_sub_cancel, w64_id (n := t.2) (by omega) (by omega), if_pos a1]
    obtain ⟨v, hv, v1, v2⟩ := mod_ok k (t.1[t.2.toNat]'(by omega)) n h1 h2
    rw [List.getElem?_eq_getElem (by omega), Option.bind_some, hv]
    exact ⟨v, (t.1, t.2 + 1), rfl, v1, v2, show 0 ≤ t.2 + 1 by omega, show t.2 + 1 ≤ t.1.length by omega, a3⟩
theorem pick_ok (k : Nat) {t : List Int × Int} (ht : Tp t) {l : List Int} (h1 : 0 < l.length) (h2 : l.length ≤ 1000) : ∃ v t', F7 k t l = some ((v, ()), (t', ())) ∧ v ∈ l ∧ Tp t' := by
  obtain ⟨i, t', hn, i1, i2, ht'⟩ := next_ok k ht (n := (l.length : Int)) (by omega) (by omega)
  unfold F7
  rw [hn]
  simp only [Option.bind_some]
  rw [if_pos i1, List.getElem?_eq_getElem (by omega : i.toNat < l.length)]
  exact ⟨_, t', rfl, List.getElem_mem _, ht'⟩
def isChunk (c : List (Int × Int)) : Prop := (∃ x op, c = [(2, x), (op, 0)] ∧ -100 ≤ x ∧ x ≤ 199 ∧ 3 ≤ op ∧ op ≤ 9) ∨ (∃ s, c = [(10, s)] ∧ 0 ≤ s ∧ s ≤ 3) ∨ c = [(11, 0)]
theorem isChunk_length {c : List (Int × Int)} (h : isChunk c) : c.length ≤ 2 := by
  rcases h with ⟨x, op, rfl, _⟩ | ⟨s, rfl, _⟩ | rfl <;> simp
def ops37 : List Int := [3, 4, 5, 6, 7, 8, 9]
theorem ops37_mem {v : Int} (h : v ∈ ops37) : 3 ≤ v ∧ v ≤ 9 := by simp [ops37] at h; omega
theorem ops_loop {R : Type} (k : Nat) (e0 : List Int → Int → List (Int × Int) → Option R) : ∀ (n j : Nat) (t : List Int × Int) (l : List (Int × Int)), n < j → n ≤ 10 → Tp t → l.length + 2 * n ≤ 100 →
    ∃ (cs : List (List (Int × Int))) (t' : List Int × Int), F18.loop0 k j n t.1 t.2 l e0 = e0 t'.1 t'.2 (l ++ cs.flatten) ∧ cs.length = n ∧ (∀ c ∈ cs, isChunk c) ∧ Tp t' := by
  intro n
  induction n with
  | zero =>
    intro j t l hj hn ht hl
    obtain ⟨j, rfl⟩ : ∃ j', j = j' + 1 := ⟨j - 1, by omega⟩
    refine ⟨[], t, ?_, rfl, fun c hc => (by cases hc), ht⟩
    rw [F18.loop0_s, decide_eq_false (by omega), cond_false]
    simp
  | succ n ih =>
    intro j t l hj hn ht hl
    obtain ⟨j, rfl⟩ : ∃ j', j = j' + 1 := ⟨j - 1, by omega⟩
    have hw : w64 ((((n + 1 : Nat)) : Int) - 1) = (n : Int) := by rw [w64_id (by omega) (by omega)]; omega
    have go : ∀ (c : List (Int × Int)) (t1 : List Int × Int), isChunk c → Tp t1 → ∃ (cs : List (List (Int × Int))) (t' : List Int × Int), (if (l ++ c).length * 16 ≤ 140737488355328 then F18.loop0 k j (w64 ((((n + 1 : Nat)) : Int) - 1)) t1.1 t1.2 (l ++ c) e0 else none) = e0 t'.1 t'.2 (l ++ cs.flatten) ∧ cs.length = n + 1 ∧ (∀ c ∈ cs, isChunk c) ∧ Tp t' := by
      intro c t1 hc ht1
      have hcl := isChunk_length hc
      obtain ⟨cs, t', h1, h2, h3, h4⟩ := ih j t1 (l ++ c) (by omega) (by omega) ht1 (by rw [List.length_append]; omega)
      refine ⟨c :: cs, t', ?_, by rw [List.length_cons, h2], fun x hx => ?_, h4⟩
      · rw [if_pos (by rw [List.length_append]; omega), hw, h1, List.flatten_cons, List.append_assoc]
      · rcases List.mem_cons.1 hx with rfl | hx
        · exact hc
        · exact h3 x hx
    rw [F18.loop0_s, decide_eq_true (by omega), cond_true]
    obtain ⟨v, t1, e1, v1, v2, ht1⟩ := next_ok k (t := (t.1, t.2)) ht (n := 3) (by omega) (by omega)
    rw [e1, Option.bind_some]
    by_cases h0 : v = 0
    · have e : (v == 0) = true := by simpa using h0
      simp only [e, cond_true]
      obtain ⟨v3, t3, e3, a1, a2, ht3⟩ := next_ok k ht1 (n := 300) (by omega) (by omega)
      rw [e3, Option.bind_some]
      obtain ⟨v4, t4, e4, a3, ht4⟩ := pick_ok k ht3 (l := [w64 (v3 - 100), 0, 3, (-2)]) (by simp) (by simp)
      simp only [e4, Option.bind_some]
      obtain ⟨v5, t5, e5, a5, ht5⟩ := pick_ok k ht4 (l := [3, 4, 5, 6, 7, 8, 9]) (by simp) (by simp)
      simp only [e5, Option.bind_some]
      have hx : -100 ≤ v4 ∧ v4 ≤ 199 := by
        rw [w64_id (n := v3 - 100) (by omega) (by omega)] at a3
        simp at a3
        omega
      have hop := ops37_mem a5
      exact go [(2, v4), (v5, 0)] t5 (.inl ⟨v4, v5, rfl, hx.1, hx.2, hop.1, hop.2⟩) ht5
    · have e : (v == 0) = false := by simpa using h0
      simp only [e, cond_false]
      by_cases h1 : v = 1
      · have e : (v == 1) = true := by simpa using h1
        simp only [e, cond_true]
        obtain ⟨v3, t3, e3, a1, a2, ht3⟩ := next_ok k ht1 (n := 4) (by omega) (by omega)
        rw [e3, Option.bind_some]
        exact go [(10, v3)] t3 (.inr (.inl ⟨v3, rfl, a1, by omega⟩)) ht3
      · have e : (v == 1) = false := by simpa using h1
        simp only [e, cond_false]
        exact go [(11, 0)] t1 (.inr (.inr rfl)) ht1
theorem opsTrue (k : Nat) (hk : 5 ≤ k) {t : List Int × Int} (ht : Tp t) : ∃ (op : Int) (cs : List (List (Int × Int))) (t' : List Int × Int), F18 k t true = some (([(0, 0), (1, 0), (op, 0)] ++ cs.flatten, ()), (t', ())) ∧ 3 ≤ op ∧ op ≤ 9 ∧ cs.length ≤ 3 ∧ (∀ c ∈ cs, isChunk c) ∧ Tp t' := by
  unfold F18
  rw [cond_true]
  obtain ⟨op, t1, e1, a1, ht1⟩ := pick_ok k ht (l := [3, 4, 5, 6, 7, 8, 9]) (by simp) (by simp)
  obtain ⟨n, t2, e2, b1, b2, ht2⟩ := next_ok k ht1 (n := 4) (by omega) (by omega)
  have hop := ops37_mem a1
  rw [e1, Option.bind_some, if_pos (by simp)]
  simp only [e2, Option.bind_some]
  obtain ⟨m, rfl⟩ : ∃ m : Nat, n = m := ⟨n.toNat, by omega⟩
  obtain ⟨cs, t', h1, h2, h3, h4⟩ := ops_loop k (fun (z8 : List Int) (z9 : Int) (z10 : List (Int × Int)) => some ((z10, ()), ((z8, z9), ()))) m k t2 ([(0, 0)] ++ [(1, 0), (op, 0)]) (by omega) (by omega) ht2 (by simp; omega)
  exact ⟨op, cs, t', h1, hop.1, hop.2, by omega, h3, h4⟩
theorem opsFalse (k : Nat) (hk : 5 ≤ k) {t : List Int × Int} (ht : Tp t) : ∃ (cs : List (List (Int × Int))) (t' : List Int × Int), F18 k t false = some (([(0, 0)] ++ cs.flatten, ()), (t', ())) ∧ cs.length ≤ 3 ∧ (∀ c ∈ cs, isChunk c) ∧ Tp t' := by
  unfold F18
  rw [cond_false]
  obtain ⟨n, t2, e2, b1, b2, ht2⟩ := next_ok k ht (n := 4) (by omega) (by omega)
  simp only [e2, Option.bind_some]
  obtain ⟨m, rfl⟩ : ∃ m : Nat, n = m := ⟨n.toNat, by omega⟩
  obtain ⟨cs, t', h1, h2, h3, h4⟩ := ops_loop k (fun (z8 : List Int) (z9 : Int) (z10 : List (Int × Int)) => some ((z10, ()), ((z8, z9), ()))) m k t2 [(0, 0)] (by omega) (by omega) ht2 (by simp; omega)
  exact ⟨cs, t', h1, by omega, h3, h4⟩
theorem vgo_cons {R : Type} (two : Bool) (e0 e1 : Int → Option R) (o : Int × Int) (l : List (Int × Int)) (h : Int) : vgo two e0 e1 (o :: l) h =
    if ¬ (0 ≤ o.1 ∧ o.1 ≤ 11) ∨ (o.1 = 1 ∧ two = false) ∨ h < tk o.1 then e0 1 else if argB o = false then e0 10 else vgo two e0 e1 l (h + (1 - tk o.1)) := rfl
theorem flatten_length : ∀ (cs : List (List (Int × Int))), (∀ c ∈ cs, isChunk c) → cs.flatten.length ≤ 2 * cs.length
  | [], _ => by simp
  | c :: cs, hc => by
    have h1 := isChunk_length (hc c (by simp))
    have h2 := flatten_length cs fun x hx => hc x (by simp [hx])
    rw [List.flatten_cons, List.length_append, List.length_cons]
    omega
def comb (c : Int) (x y : Int × Int) : Int × Int :=
  if c = 3 then (x.1 + y.1, x.2 + y.2) else if c = 4 then (x.1 - y.2, x.2 - y.1)
  else if c = 5 then (mm false (mm false (mm false (tms x.1 y.1) (tms x.1 y.2)) (tms x.2 y.1)) (tms x.2 y.2), mm true (mm true (mm true (tms x.1 y.1) (tms x.1 y.2)) (tms x.2 y.1)) (tms x.2 y.2))
  else if c = 6 then (mm false x.1 y.1, mm false x.2 y.2) else if c = 7 then (mm true x.1 y.1, mm true x.2 y.2)
  else if c = 8 then (0, mm true (x.2 - y.1) (y.2 - x.1)) else (0 - mm true (ab x.1) (ab x.2), mm true (ab x.1) (ab x.2))
def istep (a b : Int) (o : Int × Int) (x y : Int × Int) : Int × Int :=
  if o.1 = 0 then (0, a) else if o.1 = 1 then (0, b) else if o.1 = 2 then (o.2, o.2) else if o.1 = 10 then (shf x.1 o.2, shf x.2 o.2) else if o.1 = 11 then (0, mm true (ab x.1) (ab x.2)) else comb o.1 x y
def inP (x : Int × Int) : Prop := inM x.1 ∧ inM x.2
instance (x : Int × Int) : Decidable (inP x) := inferInstanceAs (Decidable (_ ∧ _))
theorem mm_true (x y : Int) : mm true x y = if x < y then y else x := rfl
theorem mm_false (x y : Int) : mm false x y = if y < x then y else x := rfl
theorem combined_eq (k : Nat) (c : Int) {x y : Int × Int} (hx : inP x) (hy : inP y) : F56 k c x y = some ((comb c x y, ()), ()) := by
  obtain ⟨x1, x2⟩ := hx
  obtain ⟨y1, y2⟩ := hy
  have a1 := x1; have a2 := x2; have b1 := y1; have b2 := y2
  unfold inM at a1 a2 b1 b2
  unfold F56 comb
  have n1 := inM_ab.1 x1
  have n2 := inM_ab.1 x2
  have m1 := ab_nonneg x.1
  have m2 := ab_nonneg x.2
  have hn : 0 ≤ mm true (ab x.1) (ab x.2) ∧ mm true (ab x.1) (ab x.2) ≤ 17592186044416 := by rw [mm_true]; split <;> omega
  rw [times_eq k x1 y1, times_eq k x1 y2, times_eq k x2 y1, times_eq k x2 y2, abs_eq k (n := x.1) (by omega) (by omega), abs_eq k (n := x.2) (by omega) (by omega)]
  rw [w64_id (n := x.1 + y.1) (by omega) (by omega), w64_id (n := x.2 + y.2) (by omega) (by omega), w64_id (n := x.1 - y.2) (by omega) (by omega), w64_id (n := x.2 - y.1) (by omega) (by omega), w64_id (n := y.2 - x.1) (by omega) (by omega)]
  simp only [Option.bind_some]
  rw [w64_id (n := 0 - mm true (ab x.1) (ab x.2)) (by omega) (by omega)]
  by_cases h3 : c = 3
  · subst h3; rfl
  by_cases h4 : c = 4
  · subst h4; rfl
  by_cases h5 : c = 5
  · subst h5; rfl
  by_cases h6 : c = 6
  · subst h6; rfl
  by_cases h7 : c = 7
  · subst h7; rfl
  by_cases h8 : c = 8
  · subst h8; rfl
  have e3 : (c == 3) = false := by simpa using h3
  have e4 : (c == 4) = false := by simpa using h4
  have e5 : (c == 5) = false := by simpa using h5
  have e6 : (c == 6) = false := by simpa using h6
  have e7 : (c == 7) = false := by simpa using h7
  have e8 : (c == 8) = false := by simpa using h8
  simp [e3, e4, e5, e6, e7, e8, h3, h4, h5, h6, h7, h8]
def ione (a b : Int) (o : Int × Int) (st : List (Int × Int)) : Int × Int := istep a b o (st.getD (st.length - tk o.1) (0, 0)) (st.getD (st.length - tk o.1 + 1) (0, 0))
def irun {R : Type} (a b : Int) (e0 : Option R) (e1 : List (Int × Int) → Option R) : List (Int × Int) → List (Int × Int) → Option R
  | [], st => e1 st
  | o :: l, st => if inP (ione a b o st) then irun a b e0 e1 l (st.take (st.length - tk o.1) ++ [ione a b o st]) else e0
theorem getP_of {st : List (Int × Int)} {n : Nat} (h : n < st.length) : st[n]? = some (st.getD n (0, 0)) := by
  rw [List.getElem?_eq_getElem h, List.getD_eq_getElem?_getD, List.getElem?_eq_getElem h]; rfl
theorem span_eq (k : Nat) {x y s : Int} (hx : inM x) (hy : inM y) (h0 : 0 ≤ s) (h1 : s ≤ 24) : F40 k x y s = some ((shf x s, shf y s, ()), ()) := by
  unfold F40
  rw [shift_eq k hx h0 h1, shift_eq k hy h0 h1]
  rfl
theorem interval_loop {R : Type} (k : Nat) (l : List (Int × Int)) (a b : Int) (e0 : Int → Int → Int → Option R) (e1 : List (Int × Int) → Option R) (hl : l.length ≤ 32) : ∀ (n i j : Nat) (st : List (Int × Int)), l.length - i = n → i ≤ l.length → n < j → st.length ≤ i → hOk (l.drop i) st.length → (∀ x ∈ st, inP x) →
    F58.loop0 k j a b l l.length i st e0 e1 = irun a b (e0 0 0 11) e1 (l.drop i) st := by
  intro n
  induction n with
  | zero =>
    intro i j st hn hi hj hst hok hin
    have e : i = l.length := by omega
    obtain ⟨j, rfl⟩ : ∃ j', j = j' + 1 := ⟨j - 1, by omega⟩
    rw [F58.loop0_s, e, decide_eq_false (by omega), List.drop_length]
    rfl
  | succ n ih =>
    intro i j st hn hi hj hst hok hin
    obtain ⟨j, rfl⟩ : ∃ j', j = j' + 1 := ⟨j - 1, by omega⟩
    have hlt : i < l.length := by omega
    rw [List.drop_eq_getElem_cons hlt] at hok ⊢
    rw [F58.loop0_s, decide_eq_true (by omega)]
    simp only [cond_true]
    rw [if_pos (by omega), Int.toNat_natCast, List.getElem?_eq_getElem hlt]
    generalize hgo : l[i] = o at *
    obtain ⟨c1, c2, htk, harg, hrest⟩ := hok
    have htk2 := tk_le o.1
    have hw : w64 (((st.length : Nat) : Int) - ((tk o.1 : Nat) : Int)) = ((st.length - tk o.1 : Nat) : Int) := by rw [w64_id (by omega) (by omega)]; omega
    simp only [Option.bind_some, takes_ok, hw, Int.toNat_natCast]
    rw [if_pos (by omega), if_pos (by omega)]
    have fin : ∀ v, ione a b o st = v → ((F57 k v.1).bind fun (y3 : (Bool × Unit) × (Unit)) => bif !y3.1.1 then (e0 0 0 11) else ((F57 k v.2).bind fun (y3 : (Bool × Unit) × (Unit)) => bif !y3.1.1 then (e0 0 0 11) else (if ((st.take (st.length - tk o.1)) ++ [v]).length * 16 ≤ 140737488355328 then F58.loop0 k j a b l l.length (w64 ((i : Int) + 1)) ((st.take (st.length - tk o.1)) ++ [v]) e0 e1 else none))) =
        irun a b (e0 0 0 11) e1 (o :: l.drop (i + 1)) st := by
      intro v hv
      unfold irun
      rw [hv, sum_eq, sum_eq]
      simp only [Option.bind_some]
      by_cases h1 : inM v.1
      · rw [decide_eq_true h1]
        simp only [Bool.not_true, cond_false]
        by_cases h2 : inM v.2
        · have hlen : ((st.take (st.length - tk o.1)) ++ [v]).length = st.length - tk o.1 + 1 := by rw [List.length_append, List.length_take]; simp
          rw [decide_eq_true h2, if_pos (show inP v from ⟨h1, h2⟩)]
          simp only [Bool.not_true, cond_false]
          rw [if_pos (by rw [hlen]; omega), w64_succ i (by omega)]
          refine ih (i + 1) j _ (by omega) (by omega) (by omega) (by rw [hlen]; omega) (by rw [hlen]; rw [show st.length - tk o.1 + 1 = st.length + 1 - tk o.1 by omega]; exact hrest) fun x hx => ?_
          rcases List.mem_append.1 hx with hx | hx
          · exact hin x (List.mem_of_mem_take hx)
          · rw [List.mem_singleton.1 hx]; exact ⟨h1, h2⟩
        · rw [decide_eq_false h2, if_neg (fun h : inP v => h2 h.2)]
          rfl
      · rw [decide_eq_false h1, if_neg (fun h : inP v => h1 h.1)]
        rfl
    have mem : ∀ p, p < st.length → inP (st.getD p (0, 0)) := fun p hp => by
      have := getP_of hp
      exact hin _ (List.mem_of_getElem? this)
    by_cases h0 : o.1 = 0
    · have e : (o.1 == 0) = true := by simpa using h0
      rw [e, cond_true]
      exact fin (0, a) (by unfold ione istep; rw [if_pos h0])
    have e0' : (o.1 == 0) = false := by simpa using h0
    rw [e0', cond_false]
    by_cases h1 : o.1 = 1
    · have e : (o.1 == 1) = true := by simpa using h1
      rw [e, cond_true]
      exact fin (0, b) (by unfold ione istep; rw [if_neg h0, if_pos h1])
    have e1' : (o.1 == 1) = false := by simpa using h1
    rw [e1', cond_false]
    by_cases h2 : o.1 = 2
    · have e : (o.1 == 2) = true := by simpa using h2
      rw [e, cond_true]
      exact fin (o.2, o.2) (by unfold ione istep; rw [if_neg h0, if_neg h1, if_pos h2])
    have e2' : (o.1 == 2) = false := by simpa using h2
    rw [e2', cond_false]
    by_cases h10 : o.1 = 10
    · have e : (o.1 == 10) = true := by simpa using h10
      have ht : tk o.1 = 1 := by rw [h10]; rfl
      have hs : 0 ≤ o.2 ∧ o.2 ≤ 24 := by unfold argB at harg; rw [if_neg h2, if_pos h10] at harg; simpa using harg
      have hm := mem (st.length - tk o.1) (by omega)
      rw [e, cond_true, if_pos (by omega), Nat.zero_add, getP_of (by omega), Option.bind_some, if_pos (by omega), Option.bind_some, span_eq k hm.1 hm.2 hs.1 hs.2, Option.bind_some]
      exact fin _ (by unfold ione istep; rw [if_neg h0, if_neg h1, if_neg h2, if_pos h10])
    have e10' : (o.1 == 10) = false := by simpa using h10
    rw [e10', cond_false]
    by_cases h11 : o.1 = 11
    · have e : (o.1 == 11) = true := by simpa using h11
      have ht : tk o.1 = 1 := by rw [h11]; rfl
      have hb := mem (st.length - tk o.1) (by omega)
      have hb1 := hb.1; have hb2 := hb.2
      unfold inM at hb1 hb2
      rw [e, cond_true, if_pos (by omega), Nat.zero_add, getP_of (by omega), Option.bind_some, abs_eq k (by omega) (by omega), Option.bind_some, if_pos (by omega), Option.bind_some, abs_eq k (by omega) (by omega), Option.bind_some]
      exact fin (0, mm true (ab (st.getD (st.length - tk o.1) (0, 0)).1) (ab (st.getD (st.length - tk o.1) (0, 0)).2)) (by unfold ione istep; rw [if_neg h0, if_neg h1, if_neg h2, if_neg h10, if_pos h11])
    have e11' : (o.1 == 11) = false := by simpa using h11
    have ht : tk o.1 = 2 := by unfold tk; rw [if_neg (by omega), if_neg (by omega)]
    rw [e11', cond_false, if_pos (by omega), Nat.zero_add, getP_of (by omega), Option.bind_some, if_pos (by omega), Nat.add_comm 1, getP_of (by omega), Option.bind_some, combined_eq k _ (mem _ (by omega)) (mem _ (by omega)), Option.bind_some]
    exact fin _ (by unfold ione istep; rw [if_neg h0, if_neg h1, if_neg h2, if_neg h10, if_neg h11])
/-- The interval of a valid program: its ends and the error. -/
def irv (l : List (Int × Int)) (a b : Int) : Int × Int × Int := (irun (R := Int × Int × Int) a b (some (0, 0, 11)) (fun st => some ((st.getD 0 (0, 0)).1, (st.getD 0 (0, 0)).2, 0)) l []).getD (0, 0, 0)
def iv (l : List (Int × Int)) (a b : Int) : Int × Int × Int :=
  if vcode l true ≠ 0 then (0, 0, vcode l true) else if 1 ≤ a ∧ a ≤ 4294967296 ∧ 1 ≤ b ∧ b ≤ 4294967296 then irv l a b else (0, 0, 2)
theorem irun_map {R R' : Type} (a b : Int) (f : R → Option R') (e0 : Option R) (e1 : List (Int × Int) → Option R) : ∀ (l : List (Int × Int)) (st : List (Int × Int)), (irun a b e0 e1 l st).bind f = irun a b (e0.bind f) (fun st => (e1 st).bind f) l st
  | [], st => rfl
  | o :: l, st => by
    unfold irun
    split
    · exact irun_map a b f e0 e1 l _
    · rfl
theorem irun_some (a b : Int) : ∀ (l : List (Int × Int)) (st : List (Int × Int)), ∃ c, irun (R := Int × Int × Int) a b (some (0, 0, 11)) (fun st => some ((st.getD 0 (0, 0)).1, (st.getD 0 (0, 0)).2, 0)) l st = some c
  | [], st => ⟨_, rfl⟩
  | o :: l, st => by
    unfold irun
    split
    · exact irun_some a b l _
    · exact ⟨_, rfl⟩
theorem irun_congr {R : Type} (a b : Int) (e0 : Option R) (e1 e2 : List (Int × Int) → Option R) (h : ∀ st, st.length = 1 → e1 st = e2 st) : ∀ (l : List (Int × Int)) (st : List (Int × Int)), hOk l st.length → irun a b e0 e1 l st = irun a b e0 e2 l st
  | [], st, hok => h st hok
  | o :: l, st, hok => by
    obtain ⟨c1, c2, htk, harg, hrest⟩ := hok
    unfold irun
    split
    · refine irun_congr a b e0 e1 e2 h l _ ?_
      have hlen : ((st.take (st.length - tk o.1)) ++ [ione a b o st]).length = st.length - tk o.1 + 1 := by rw [List.length_append, List.length_take]; simp
      rw [hlen, show st.length - tk o.1 + 1 = st.length + 1 - tk o.1 by omega]
      exact hrest
    · rfl
theorem interval_ok (k : Nat) (l : List (Int × Int)) (a b : Int) (hk : 33 ≤ k) : F58 k l a b = some (((iv l a b).1, (iv l a b).2.1, (iv l a b).2.2, ()), ()) := by
  unfold F58 iv
  rw [valid_ok k l true hk]
  simp only [Option.bind_some]
  by_cases hv : vcode l true = 0
  · have e : (vcode l true != 0) = false := by simpa using hv
    rw [e, cond_false, if_neg (fun h => h hv), bt_ok, bt_ok]
    simp only [Option.bind_some]
    by_cases ha : 1 ≤ a ∧ a ≤ 4294967296
    · rw [decide_eq_true ha]
      simp only [Bool.not_true, cond_false]
      by_cases hb : 1 ≤ b ∧ b ≤ 4294967296
      · obtain ⟨h1, h2, h3⟩ := vcode_hOk hv
        rw [decide_eq_true hb, if_pos ⟨ha.1, ha.2, hb⟩]
        simp only [Bool.not_true, cond_false]
        have := interval_loop (R := (Int × Int × Int × Unit) × Unit) k l a b (fun (z28 : Int) (z29 : Int) (z30 : Int) => (some ((z28, z29, z30, ()), ()))) (fun (z31 : List (Int × Int)) => (if 0 ≤ (0 : Int) ∧ (0 : Int) < ((z31.length : Nat) : Int) then (z31[0]?).bind fun (x32 : Int × Int) => if 0 ≤ (0 : Int) ∧ (0 : Int) < ((z31.length : Nat) : Int) then (z31[0]?).bind fun (x33 : Int × Int) => some ((x32.1, x33.2, 0, ()), ()) else none else none)) h2 l.length 0 k [] rfl (by omega) (by omega) (by simp) h3 (fun x hx => by cases hx)
        refine Eq.trans this ?_
        rw [List.drop_zero]
        have hc := irun_congr (R := (Int × Int × Int × Unit) × Unit) a b (some ((0, 0, 11, ()), ())) (fun (z31 : List (Int × Int)) => (if 0 ≤ (0 : Int) ∧ (0 : Int) < ((z31.length : Nat) : Int) then (z31[0]?).bind fun (x32 : Int × Int) => if 0 ≤ (0 : Int) ∧ (0 : Int) < ((z31.length : Nat) : Int) then (z31[0]?).bind fun (x33 : Int × Int) => some ((x32.1, x33.2, 0, ()), ()) else none else none)) (fun st => some (((st.getD 0 (0, 0)).1, (st.getD 0 (0, 0)).2, 0, ()), ())) (fun st hst => by
          rw [if_pos (by omega), getP_of (by omega), Option.bind_some, if_pos (by omega)]; rfl) l [] h3
        rw [hc]
        obtain ⟨c, hc⟩ := irun_some a b l []
        have hm := irun_map a b (fun c : Int × Int × Int => some ((c.1, c.2.1, c.2.2, ()), ())) (some (0, 0, 11)) (fun st => some ((st.getD 0 (0, 0)).1, (st.getD 0 (0, 0)).2, 0)) l []
        rw [hc] at hm
        unfold irv
        rw [hc]
        exact hm.symm
      · rw [decide_eq_false hb, if_neg (fun h => hb h.2.2)]; rfl
    · rw [decide_eq_false ha, if_neg (fun h => ha ⟨h.1, h.2.1⟩)]; rfl
  · have e : (vcode l true != 0) = true := by simpa using hv
    rw [e, cond_true, if_pos hv]
theorem tms_of {u v : Int} (h : ab (u * v) ≤ 17592186044416) : tms u v = u * v := by
  unfold tms
  rw [if_neg]
  rintro ⟨h0, h1⟩
  have hp : 0 < ab u := by have := ab_nonneg u; have := mt ab_zero.1 h0; omega
  rw [ab_mul] at h
  have := (Int.le_ediv_iff_mul_le hp (a := ab v) (b := 17592186044416)).2 (by rw [Int.mul_comm]; exact h)
  omega
theorem tms_small {u v : Int} (h : tms u v ≤ 17592186044416) : tms u v = u * v := by
  unfold tms at h ⊢
  split
  · rename_i hc; rw [if_pos hc] at h; omega
  · rfl
theorem line_le {t y1 y2 v H : Int} (h1 : y1 ≤ v) (h2 : v ≤ y2) (k1 : t * y1 ≤ H) (k2 : t * y2 ≤ H) : t * v ≤ H := by
  by_cases ht : 0 ≤ t
  · exact Int.le_trans (Int.mul_le_mul_of_nonneg_left h2 ht) k2
  · exact Int.le_trans (Int.mul_le_mul_of_nonpos_left (by omega) h1) k1
theorem line_ge {t y1 y2 v L : Int} (h1 : y1 ≤ v) (h2 : v ≤ y2) (k1 : L ≤ t * y1) (k2 : L ≤ t * y2) : L ≤ t * v := by
  by_cases ht : 0 ≤ t
  · exact Int.le_trans k1 (Int.mul_le_mul_of_nonneg_left h1 ht)
  · exact Int.le_trans k2 (Int.mul_le_mul_of_nonpos_left (by omega) h2)
theorem shf_mono {x y s : Int} (h : x ≤ y) : shf x s ≤ shf y s := by
  unfold shf
  split
  · exact h
  · have hp : (0 : Int) < 2 ^ s.toNat := Int.pow_pos (by omega)
    rw [Int.fdiv_eq_ediv_of_nonneg _ (by omega), Int.fdiv_eq_ediv_of_nonneg _ (by omega)]
    exact Int.ediv_le_ediv hp (by omega)
theorem mm_t_ge (x y : Int) : x ≤ mm true x y ∧ y ≤ mm true x y := by rw [mm_true]; split <;> omega
theorem mm_f_le (x y : Int) : mm false x y ≤ x ∧ mm false x y ≤ y := by rw [mm_false]; split <;> omega
theorem ab_range {x1 x2 u : Int} (h1 : x1 ≤ u) (h2 : u ≤ x2) : ab u ≤ mm true (ab x1) (ab x2) := by
  have := mm_t_ge (ab x1) (ab x2)
  have a1 : -x1 ≤ ab x1 := by unfold ab; split <;> omega
  have a2 : x2 ≤ ab x2 := by unfold ab; split <;> omega
  exact ab_le.2 (by omega)
/-- One operation keeps within. -/
theorem step_in {a a' b b' : Int} {o : Int × Int} {x y : Int × Int} {u v : Int} (ha : 0 ≤ a' ∧ a' ≤ a) (hb : 0 ≤ b' ∧ b' ≤ b) (hx : x.1 ≤ u ∧ u ≤ x.2) (hy : y.1 ≤ v ∧ v ≤ y.2) (hP : inP (istep a b o x y)) :
    (istep a b o x y).1 ≤ estep a' b' o u v ∧ estep a' b' o u v ≤ (istep a b o x y).2 := by
  unfold istep at hP ⊢
  unfold estep
  by_cases h0 : o.1 = 0
  · simp only [if_pos h0]; exact ha
  simp only [if_neg h0] at hP ⊢
  by_cases h1 : o.1 = 1
  · simp only [if_pos h1]; exact hb
  simp only [if_neg h1] at hP ⊢
  by_cases h2 : o.1 = 2
  · simp only [if_pos h2]; exact ⟨Int.le_refl _, Int.le_refl _⟩
  simp only [if_neg h2] at hP ⊢
  by_cases h10 : o.1 = 10
  · simp only [if_pos h10]; exact ⟨shf_mono hx.1, shf_mono hx.2⟩
  simp only [if_neg h10] at hP ⊢
  by_cases h11 : o.1 = 11
  · simp only [if_pos h11]; exact ⟨ab_nonneg u, ab_range hx.1 hx.2⟩
  simp only [if_neg h11] at hP ⊢
  unfold comb at hP ⊢
  unfold res
  by_cases h3 : o.1 = 3
  · simp only [if_pos h3]; omega
  simp only [if_neg h3] at hP ⊢
  by_cases h4 : o.1 = 4
  · simp only [if_pos h4]; omega
  simp only [if_neg h4] at hP ⊢
  by_cases h5 : o.1 = 5
  · simp only [if_pos h5] at hP ⊢
    obtain ⟨p1, p2⟩ := hP
    unfold inM at p1 p2
    simp only at p1 p2
    have t1 := mm_t_ge (tms x.1 y.1) (tms x.1 y.2)
    have t2 := mm_t_ge (mm true (tms x.1 y.1) (tms x.1 y.2)) (tms x.2 y.1)
    have t3 := mm_t_ge (mm true (mm true (tms x.1 y.1) (tms x.1 y.2)) (tms x.2 y.1)) (tms x.2 y.2)
    have s1 := mm_f_le (tms x.1 y.1) (tms x.1 y.2)
    have s2 := mm_f_le (mm false (tms x.1 y.1) (tms x.1 y.2)) (tms x.2 y.1)
    have s3 := mm_f_le (mm false (mm false (tms x.1 y.1) (tms x.1 y.2)) (tms x.2 y.1)) (tms x.2 y.2)
    generalize mm true (mm true (mm true (tms x.1 y.1) (tms x.1 y.2)) (tms x.2 y.1)) (tms x.2 y.2) = H at *
    generalize mm false (mm false (mm false (tms x.1 y.1) (tms x.1 y.2)) (tms x.2 y.1)) (tms x.2 y.2) = L at *
    have e1 := tms_small (u := x.1) (v := y.1) (by omega)
    have e2 := tms_small (u := x.1) (v := y.2) (by omega)
    have e3 := tms_small (u := x.2) (v := y.1) (by omega)
    have e4 := tms_small (u := x.2) (v := y.2) (by omega)
    rw [e1, e2] at t1 s1
    rw [e3] at t2 s2
    rw [e4] at t3 s3
    rw [e1, e2] at t2 s2 t3 s3
    rw [e3] at t3 s3
    have q1 : x.1 * v ≤ H := line_le hy.1 hy.2 (by omega) (by omega)
    have q2 : x.2 * v ≤ H := line_le hy.1 hy.2 (by omega) (by omega)
    have q3 : L ≤ x.1 * v := line_ge hy.1 hy.2 (by omega) (by omega)
    have q4 : L ≤ x.2 * v := line_ge hy.1 hy.2 (by omega) (by omega)
    rw [Int.mul_comm] at q1 q2 q3 q4
    have r1 : v * u ≤ H := line_le hx.1 hx.2 q1 q2
    have r2 : L ≤ v * u := line_ge hx.1 hx.2 q3 q4
    rw [Int.mul_comm] at r1 r2
    rw [tms_of (u := u) (v := v) (ab_le.2 (by omega))]
    exact ⟨r2, r1⟩
  simp only [if_neg h5] at hP ⊢
  by_cases h6 : o.1 = 6
  · simp only [if_pos h6]
    rw [mm_false, mm_false, mm_false]
    refine ⟨?_, ?_⟩
    · split <;> split <;> omega
    · split <;> split <;> omega
  simp only [if_neg h6] at hP ⊢
  by_cases h7 : o.1 = 7
  · simp only [if_pos h7]
    rw [mm_true, mm_true, mm_true]
    refine ⟨?_, ?_⟩
    · split <;> split <;> omega
    · split <;> split <;> omega
  simp only [if_neg h7] at hP ⊢
  by_cases h8 : o.1 = 8
  · simp only [if_pos h8]
    have := mm_t_ge (x.2 - y.1) (y.2 - x.1)
    refine ⟨ab_nonneg _, ab_le.2 (by omega)⟩
  simp only [if_neg h8]
  have h1 := ab_range hx.1 hx.2
  have h2 := dvd_ab (x := u) (y := v)
  have := ab_le.1 (Int.le_trans h2 h1)
  omega
def Rel (ist : List (Int × Int)) (st : List Int) : Prop := ist.length = st.length ∧ ∀ p, (ist.getD p (0, 0)).1 ≤ st.getD p 0 ∧ st.getD p 0 ≤ (ist.getD p (0, 0)).2
theorem getD_snoc {α : Type} (l : List α) (x d : α) (n p : Nat) (hn : n ≤ l.length) : (l.take n ++ [x]).getD p d = if p < n then l.getD p d else if p = n then x else d := by
  have hlen : (l.take n).length = n := by rw [List.length_take]; omega
  rw [List.getD_eq_getElem?_getD, List.getD_eq_getElem?_getD]
  by_cases h1 : p < n
  · rw [if_pos h1, List.getElem?_append_left (by omega), List.getElem?_take, if_pos h1]
  · rw [if_neg h1, List.getElem?_append_right (by omega), hlen]
    by_cases h2 : p = n
    · rw [if_pos h2, h2, Nat.sub_self]; rfl
    · rw [if_neg h2]
      obtain ⟨q, hq⟩ : ∃ q, p - n = q + 1 := ⟨p - n - 1, by omega⟩
      rw [hq]; rfl
theorem runs_in {a a' b b' : Int} (ha : 0 ≤ a' ∧ a' ≤ a) (hb : 0 ≤ b' ∧ b' ≤ b) : ∀ (l : List (Int × Int)) (ist : List (Int × Int)) (st : List Int) (lo hi : Int), Rel ist st → hOk l st.length →
    irun (R := Int × Int × Int) a b (some (0, 0, 11)) (fun st => some ((st.getD 0 (0, 0)).1, (st.getD 0 (0, 0)).2, 0)) l ist = some (lo, hi, 0) →
    ∃ v, erun (R := Int × Int) a' b' (some (0, 11)) (fun st => some (st.getD 0 0, 0)) l st = some (v, 0) ∧ lo ≤ v ∧ v ≤ hi
  | [], ist, st, lo, hi, hr, hok, h => by
    have h' : some ((ist.getD 0 (0, 0)).1, (ist.getD 0 (0, 0)).2, (0 : Int)) = some (lo, hi, 0) := h
    injection h' with h'; injection h' with e1 h'; injection h' with e2 _
    exact ⟨st.getD 0 0, rfl, by rw [← e1]; exact (hr.2 0).1, by rw [← e2]; exact (hr.2 0).2⟩
  | o :: l, ist, st, lo, hi, hr, hok, h => by
    obtain ⟨c1, c2, htk, harg, hrest⟩ := hok
    unfold irun at h
    split at h
    · rename_i hP
      have hin := step_in (a := a) (a' := a') (b := b) (b' := b') (o := o) ha hb (hr.2 (st.length - tk o.1)) (hr.2 (st.length - tk o.1 + 1)) (by unfold ione at hP; rw [hr.1] at hP; exact hP)
      have e1 : ione a b o ist = istep a b o (ist.getD (st.length - tk o.1) (0, 0)) (ist.getD (st.length - tk o.1 + 1) (0, 0)) := by unfold ione; rw [hr.1]
      have hM : inM (eone a' b' o st) := by
        rw [e1] at hP
        obtain ⟨p1, p2⟩ := hP
        unfold inM at p1 p2 ⊢
        unfold eone
        omega
      have hlen1 : ((st.take (st.length - tk o.1)) ++ [eone a' b' o st]).length = st.length - tk o.1 + 1 := by rw [List.length_append, List.length_take]; simp
      have hlen2 : ((ist.take (ist.length - tk o.1)) ++ [ione a b o ist]).length = st.length - tk o.1 + 1 := by rw [List.length_append, List.length_take, hr.1]; simp
      obtain ⟨v, h1, h2⟩ := runs_in ha hb l _ ((st.take (st.length - tk o.1)) ++ [eone a' b' o st]) lo hi ⟨by rw [hlen1, hlen2], fun p => by
          rw [getD_snoc _ _ _ _ _ (by rw [hr.1]; omega), getD_snoc _ _ _ _ _ (by omega), hr.1]
          by_cases q1 : p < st.length - tk o.1
          · rw [if_pos q1, if_pos q1]; exact hr.2 p
          · rw [if_neg q1, if_neg q1]
            by_cases q2 : p = st.length - tk o.1
            · rw [if_pos q2, if_pos q2, e1]; exact hin
            · rw [if_neg q2, if_neg q2]; exact ⟨Int.le_refl _, Int.le_refl _⟩⟩ (by rw [hlen1, show st.length - tk o.1 + 1 = st.length + 1 - tk o.1 by omega]; exact hrest) h
      refine ⟨v, ?_, h2⟩
      unfold erun
      rw [if_pos hM]
      exact h1
    · injection h with h; injection h with _ h; injection h with _ h; cases h
theorem irun_code (a b : Int) : ∀ (l : List (Int × Int)) (st : List (Int × Int)) (c : Int × Int × Int), irun (R := Int × Int × Int) a b (some (0, 0, 11)) (fun st => some ((st.getD 0 (0, 0)).1, (st.getD 0 (0, 0)).2, 0)) l st = some c → c.2.2 = 0 ∨ c = (0, 0, 11)
  | [], st, c, h => by
    have h' : some ((st.getD 0 (0, 0)).1, (st.getD 0 (0, 0)).2, (0 : Int)) = some c := h
    injection h' with h'; subst h'; exact .inl rfl
  | o :: l, st, c, h => by
    unfold irun at h
    split at h
    · exact irun_code a b l _ c h
    · injection h with h; exact .inr h.symm
/-- Values are within the interval, or there is none. -/
theorem within {l : List (Int × Int)} {a a' b b' : Int} (ha : 0 ≤ a' ∧ a' ≤ a) (hb : 0 ≤ b' ∧ b' ≤ b) :
    ((iv l a b).2.2 = 0 ∧ (ev l a' b').2 = 0 ∧ (iv l a b).1 ≤ (ev l a' b').1 ∧ (ev l a' b').1 ≤ (iv l a b).2.1) ∨ ((iv l a b).2.2 ≠ 0 ∧ (iv l a b).1 = 0 ∧ (iv l a b).2.1 = 0) := by
  unfold iv ev
  by_cases hv : vcode l true = 0
  · have hv' : ¬ vcode l true ≠ 0 := fun h => h hv
    rw [if_neg hv', if_neg hv']
    by_cases hr : 1 ≤ a ∧ a ≤ 4294967296 ∧ 1 ≤ b ∧ b ≤ 4294967296
    · rw [if_pos hr, if_pos (by omega)]
      obtain ⟨h1, h2, h3⟩ := vcode_hOk hv
      obtain ⟨c, hc⟩ := irun_some a b l []
      unfold irv rv
      rw [hc]
      rcases irun_code a b l [] c hc with h0 | h0
      · obtain ⟨lo, hi, z⟩ := c
        have : z = 0 := h0
        subst this
        obtain ⟨v, e1, e2, e3⟩ := runs_in ha hb l [] [] lo hi ⟨rfl, fun p => ⟨Int.le_refl _, Int.le_refl _⟩⟩ h3 hc
        rw [e1]
        exact .inl ⟨rfl, rfl, e2, e3⟩
      · subst h0
        exact .inr ⟨by show (11 : Int) ≠ 0; omega, rfl, rfl⟩
    · rw [if_neg hr]
      exact .inr ⟨by show (2 : Int) ≠ 0; omega, rfl, rfl⟩
  · have hv' : vcode l true ≠ 0 := hv
    rw [if_pos hv']
    exact .inr ⟨hv, rfl, rfl⟩
theorem u64_id {n : Int} (h1 : 0 ≤ n) (h2 : n < 18446744073709551616) : IntKind.u64.wrap n = n := by
  unfold IntKind.wrap
  simp [IntKind.bits, IntKind.signed]
  omega
theorem rtakes_ok (k : Nat) {c : Int} (h1 : 0 ≤ c) (h2 : c ≤ 11) : F86 k c = some ((((tk c : Nat) : Int), ()), ()) := by
  unfold F86 tk
  by_cases h : c ≤ 2
  · rw [decide_eq_true h, if_pos (by omega)]; rfl
  · rw [decide_eq_false h, if_neg (by omega)]
    by_cases h' : c ≥ 10
    · rw [decide_eq_true h', if_pos (by omega)]; rfl
    · rw [decide_eq_false h', if_neg (by omega)]; rfl
theorem rarg_ok (k : Nat) (o : Int × Int) : F87 k o = some ((argB o, ()), ()) := by
  unfold F87 argB F71
  by_cases h2 : o.1 = 2
  · have e : (o.1 == 2) = true := by simpa using h2
    rw [e, if_pos h2, cond_true]
    by_cases h : -4294967296 ≤ o.2 <;> simp [h]
  · have e : (o.1 == 2) = false := by simpa using h2
    rw [e, if_neg h2, cond_false]
    by_cases h10 : o.1 = 10
    · have e : (o.1 == 10) = true := by simpa using h10
      rw [e, if_pos h10, cond_true]
      by_cases h : 0 ≤ o.2 <;> simp [h]
    · have e : (o.1 == 10) = false := by simpa using h10
      rw [e, if_neg h10, cond_false]
      by_cases h : o.2 = 0 <;> simp [h]
theorem rvalid_loop {R : Type} (k : Nat) (two : Bool) (l : List (Int × Int)) (e0 e1 : Int → Option R) (hl : l.length ≤ 4294967296) : ∀ (n i j : Nat) (h : Int), l.length - i = n → i ≤ l.length → n < j → -4294967296 * 2 ≤ h → h ≤ i →
    F88.loop0 k j l two h i e0 e1 = vgo two e0 e1 (l.drop i) h := by
  intro n
  induction n with
  | zero =>
    intro i j h hn hi hj h1 h2
    have e : i = l.length := by omega
    obtain ⟨j, rfl⟩ : ∃ j', j = j' + 1 := ⟨j - 1, by omega⟩
    rw [F88.loop0_s, e, decide_eq_false (by omega), List.drop_length]
    rfl
  | succ n ih =>
    intro i j h hn hi hj h1 h2
    obtain ⟨j, rfl⟩ : ∃ j', j = j' + 1 := ⟨j - 1, by omega⟩
    have hlt : i < l.length := by omega
    rw [F88.loop0_s, decide_eq_true (by omega), List.drop_eq_getElem_cons hlt]
    simp only [cond_true]
    rw [if_pos (by omega), Int.toNat_natCast, List.getElem?_eq_getElem hlt]
    generalize hgo : l[i] = o
    simp only [Option.bind_some, rarg_ok]
    have htk := tk_le o.1
    rw [vgo_cons]
    by_cases hb1 : o.1 < 0
    · rw [decide_eq_true hb1, if_pos (.inl (by omega))]; rfl
    rw [decide_eq_false hb1, cond_false]
    by_cases hb2 : o.1 > 11
    · rw [decide_eq_true hb2, if_pos (.inl (by omega))]; rfl
    rw [decide_eq_false hb2, cond_false, rtakes_ok k (by omega) (by omega)]
    simp only [Option.bind_some]
    have next : argB o = true → ¬ h < tk o.1 → F88.loop0 k j l two (w64 (h + (w64 (1 - ((tk o.1 : Nat) : Int))))) (w64 ((i : Int) + 1)) e0 e1 = vgo two e0 e1 (l.drop (i + 1)) (h + (1 - tk o.1)) := by
      intro _ hh
      rw [w64_succ i (by omega), w64_id (n := 1 - ((tk o.1 : Nat) : Int)) (by omega) (by omega), w64_id (n := h + (1 - ((tk o.1 : Nat) : Int))) (by omega) (by omega)]
      exact ih (i + 1) j _ (by omega) (by omega) (by omega) (by omega) (by omega)
    have hb : 0 ≤ o.1 ∧ o.1 ≤ 11 := by omega
    by_cases h11 : o.1 = 1
    · have e : (o.1 == 1) = true := by simpa using h11
      rw [e]
      cases two with
      | false => simp [h11]
      | true =>
        by_cases hh : h < tk o.1
        · simp [hb, hh]
        · cases ha : argB o with
          | false => simp [hb, hh]
          | true =>
            have := next ha hh
            simp [hb, hh, this]
    · have e : (o.1 == 1) = false := by simpa using h11
      rw [e]
      by_cases hh : h < tk o.1
      · simp [hb, hh]
      · cases ha : argB o with
        | false => simp [hb, hh, h11]
        | true =>
          have := next ha hh
          simp [hb, hh, h11, this]
theorem rvalid_ok (k : Nat) (l : List (Int × Int)) (two : Bool) (hk : 33 ≤ k) : F88 k l two = some ((vcode l two, ()), ()) := by
  unfold F88 vcode
  by_cases h0 : l.length = 0
  · have e : (((l.length : Nat) : Int) == 0) = true := by simp [h0]
    rw [e, if_neg (by omega)]; rfl
  have e : (((l.length : Nat) : Int) == 0) = false := by
    cases h : (((l.length : Nat) : Int) == 0) with
    | false => rfl
    | true => have := eq_of_beq h; omega
  rw [e, cond_false]
  by_cases h1 : l.length ≤ 32
  · rw [decide_eq_false (by omega), if_pos (by omega), cond_false]
    have := rvalid_loop (R := (Int × Unit) × Unit) k two l (fun z => some ((z, ()), ())) (fun z => (bif z != 1 then (some ((1, ()), ())) else (some ((0, ()), ())))) (by omega) l.length 0 k 0 rfl (by omega) (by omega) (by omega) (by omega)
    rw [show ((0 : Nat) : Int) = 0 from rfl] at this
    rw [this, List.drop_zero]
    obtain ⟨c, hc⟩ := vgo_some two l 0
    rw [hc]
    have hm := vgo_map two (fun c => some ((c, ()), ())) some (fun h => some (if h ≠ 1 then 1 else 0)) l 0
    rw [hc] at hm
    have e : (fun x : Int => (some (if x ≠ 1 then (1 : Int) else 0)).bind fun c => some ((c, ()), ())) = fun z => (bif z != 1 then (some ((1, ()), ())) else (some ((0, ()), ()))) := by
      funext z
      by_cases h : z = 1
      · subst h; rfl
      · have e : (z != 1) = true := by simpa using h
        rw [e, if_pos h]; rfl
    rw [e] at hm
    exact hm.symm
  · rw [decide_eq_true (by omega), if_neg (by omega)]; rfl
theorem acc_ok (k : Nat) (n : Int) : F74 k n = some ((decide (inM n), ()), ()) := by
  unfold F74
  by_cases h : -17592186044416 ≤ n <;> simp [h, inM]
theorem rabs_ok (k : Nat) {n : Int} (h1 : -9223372036854775808 < n) (h2 : n < 9223372036854775808) : F89 k n = some ((ab n, ()), ()) := by
  unfold F89 ab
  by_cases h : n < 0
  · rw [decide_eq_true h, if_pos h, w64_id (by omega) (by omega)]
    simp
  · rw [decide_eq_false h, if_neg h]; rfl
theorem tms_eq (x y : Int) : tms x y = if ab (x * y) ≤ 17592186044416 then x * y else 17592186044417 := by
  split
  · rename_i h; exact tms_of h
  · rename_i h
    unfold tms
    rw [if_pos]
    refine Classical.byContradiction fun hc => h ?_
    exact inM_ab.1 (tms_in hc)
theorem rtimes_ok (k : Nat) {x y : Int} (hx : inM x) (hy : inM y) : F90 k x y = some ((if ab (x * y) ≤ 17592186044416 then x * y else 0, decide (ab (x * y) ≤ 17592186044416), ()), ()) := by
  have hx' := hx; have hy' := hy
  unfold inM at hx' hy'
  have hsmall : ab (x * y) ≤ 17592186044416 → w64 (x * y) = x * y := fun h => by
    have := ab_le.1 h
    exact w64_id (by omega) (by omega)
  -- the reference's test
  have test : ∀ u v : Int, 0 ≤ u → 0 < v → v ≤ 17592186044416 → (decide (u > w64 ((17592186044416 : Int).tdiv v))) = !decide (u * v ≤ 17592186044416) := by
    intro u v hu hv hv2
    have d1 : 0 ≤ 17592186044416 / v := Int.ediv_nonneg (by omega) (by omega)
    have d2 : 17592186044416 / v ≤ 17592186044416 := Int.ediv_le_self _ (by omega)
    rw [Int.tdiv_eq_ediv_of_nonneg (by omega), w64_id (by omega) (by omega)]
    by_cases h : u * v ≤ 17592186044416
    · have := (Int.le_ediv_iff_mul_le hv).2 h
      rw [decide_eq_true h, decide_eq_false (by omega)]; rfl
    · have : ¬ u ≤ 17592186044416 / v := fun h' => h ((Int.le_ediv_iff_mul_le hv).1 h')
      rw [decide_eq_false h, decide_eq_true (by omega)]; rfl
  have fin : ∀ (u v : Int) (b : Bool), ab x * ab y = u * v → 0 ≤ u → 0 < v → v ≤ 17592186044416 → b = decide (u > w64 ((17592186044416 : Int).tdiv v)) → (bif b then (some ((0, false, ()), ())) else (some ((w64 (x * y), true, ()), ())) : Option ((Int × Bool × Unit) × Unit)) = some ((if ab (x * y) ≤ 17592186044416 then x * y else 0, decide (ab (x * y) ≤ 17592186044416), ()), ()) := by
    intro u v b he hu hv hv2 hb
    rw [hb, test u v hu hv hv2, ab_mul, he]
    by_cases h : u * v ≤ 17592186044416
    · rw [decide_eq_true h, if_pos h, hsmall (by rw [ab_mul, he]; exact h)]; rfl
    · rw [decide_eq_false h, if_neg h]; rfl
  have zero : y = 0 → (some ((w64 (x * y), true, ()), ()) : Option ((Int × Bool × Unit) × Unit)) = some ((if ab (x * y) ≤ 17592186044416 then x * y else 0, decide (ab (x * y) ≤ 17592186044416), ()), ()) := by
    intro h
    subst h
    rw [Int.mul_zero]
    rfl
  unfold F90
  rw [w64_id (n := 0 - x) (by omega) (by omega), w64_id (n := 0 - y) (by omega) (by omega)]
  by_cases hx0 : x < 0 <;> by_cases hy0 : y < 0
  · have ex : ab x = 0 - x := by unfold ab; rw [if_pos hx0]; omega
    have ey : ab y = 0 - y := by unfold ab; rw [if_pos hy0]; omega
    rw [decide_eq_true hx0, decide_eq_true hy0, cond_true, cond_true, decide_eq_true (by omega : 0 - y > 0), cond_true, if_neg (by omega)]
    exact fin (0 - x) (0 - y) _ (by rw [ex, ey]) (by omega) (by omega) (by omega) rfl
  · have ex : ab x = 0 - x := by unfold ab; rw [if_pos hx0]; omega
    have ey : ab y = y := by unfold ab; rw [if_neg hy0]
    rw [decide_eq_true hx0, decide_eq_false hy0, cond_true, cond_false]
    by_cases h0 : y = 0
    · rw [decide_eq_false (by omega), cond_false]; exact zero h0
    · rw [decide_eq_true (by omega : y > 0), cond_true, if_neg h0]
      exact fin (0 - x) y _ (by rw [ex, ey]) (by omega) (by omega) (by omega) rfl
  · have ex : ab x = x := by unfold ab; rw [if_neg hx0]
    have ey : ab y = 0 - y := by unfold ab; rw [if_pos hy0]; omega
    rw [decide_eq_false hx0, decide_eq_true hy0, cond_false, cond_true, decide_eq_true (by omega : 0 - y > 0), cond_true, if_neg (by omega)]
    exact fin x (0 - y) _ (by rw [ex, ey]) (by omega) (by omega) (by omega) rfl
  · have ex : ab x = x := by unfold ab; rw [if_neg hx0]
    have ey : ab y = y := by unfold ab; rw [if_neg hy0]
    rw [decide_eq_false hx0, decide_eq_false hy0, cond_false, cond_false]
    by_cases h0 : y = 0
    · rw [decide_eq_false (by omega), cond_false]; exact zero h0
    · rw [decide_eq_true (by omega : y > 0), cond_true, if_neg h0]
      exact fin x y _ (by rw [ex, ey]) (by omega) (by omega) (by omega) rfl
theorem rfloor_ok (k : Nat) {x y : Int} (hx : inM x) : F118 k x y = some ((dvd' x y, ()), ()) := divided_eq k hx
theorem floor_tdiv {t d : Int} (hd : 0 < d) : (if t.tdiv d * d > t then t.tdiv d - 1 else t.tdiv d) = t.fdiv d := by
  rw [Int.fdiv_eq_ediv_of_nonneg _ (by omega)]
  have h2 := Int.mul_ediv_add_emod t d
  have h3 := Int.emod_nonneg t (by omega : d ≠ 0)
  have h4 := Int.emod_lt_of_pos t hd
  rw [Int.mul_comm] at h2
  have hq : t.tdiv d = t / d ∨ (t.tdiv d = t / d + 1 ∧ t % d ≠ 0) := by
    rw [Int.tdiv_eq_ediv]
    by_cases h : 0 ≤ t ∨ d ∣ t
    · rw [if_pos h]; exact .inl (by omega)
    · rw [if_neg h, Int.sign_eq_one_of_pos hd]
      exact .inr ⟨rfl, fun h0 => h (.inr (Int.dvd_of_emod_eq_zero h0))⟩
  generalize t / d = q at *
  generalize t % d = m at *
  rcases hq with e | ⟨e, hm⟩
  · rw [e, if_neg (by omega)]
  · rw [e, Int.add_mul, Int.one_mul, if_pos (by omega)]; omega
theorem rshift_ok (k : Nat) {x s : Int} (hx : inM x) (h0 : 0 ≤ s) (h1 : s ≤ 24) : F77 k x s = some ((shf x s, ()), ()) := by
  have hx' := hx
  unfold inM at hx'
  unfold F77 F71 shf
  rw [acc_ok, decide_eq_true hx, Option.bind_some]
  simp only [Bool.not_true, cond_false]
  rw [decide_eq_true (show s ≥ 0 from h0), decide_eq_true h1]
  simp only [cond_true, Option.bind_some, Bool.not_true, cond_false]
  by_cases hs : s = 0
  · subst hs; rfl
  · have e : (s == 0) = false := by simpa using hs
    have hm1 : min (s - 1).toNat IntKind.i64.bits = s.toNat - 1 := by
      show min (s - 1).toNat 64 = s.toNat - 1
      omega
    have hm2 : min s.toNat IntKind.i64.bits = s.toNat := by
      show min s.toNat 64 = s.toNat
      omega
    obtain ⟨n, hn⟩ : ∃ n, s.toNat = n + 1 := ⟨s.toNat - 1, by omega⟩
    have hp := pow_small (s := n) (by omega)
    rw [e, cond_false, if_neg hs, w64_id (n := s - 1) (by omega) (by omega), u64_id (n := s - 1) (by omega) (by omega), u64_id (n := s) (by omega) (by omega), if_neg (by omega), if_neg (by omega), hm1, hm2, hn, Nat.add_sub_cancel, Int.one_mul, Int.one_mul, Int.pow_succ]
    generalize (2 : Int) ^ n = p at *
    rw [w64_id (n := p * 2) (by omega) (by omega), w64_id (n := p) (by omega) (by omega), w64_id (n := x + p) (by omega) (by omega), if_neg (by omega)]
    have hd : 0 < p * 2 := by omega
    have hq := tdiv_ab (x := x + p) (y := p * 2) (by omega)
    have hx2 : ab (x + p) ≤ 17592194433024 := ab_le.2 (by omega)
    have hq2 := ab_le.1 (Int.le_trans hq hx2)
    have hqd : -17592211210240 ≤ (x + p).tdiv (p * 2) * (p * 2) ∧ (x + p).tdiv (p * 2) * (p * 2) ≤ 17592211210240 := by
      have h := Int.mul_tdiv_add_tmod (x + p) (p * 2)
      have h5 := Int.tmod_lt_of_pos (x + p) hd
      have h6 := tmod_gt (x + p) (p * 2) hd
      rw [Int.mul_comm] at h
      omega
    rw [w64_id (n := (x + p).tdiv (p * 2)) (by omega) (by omega), w64_id (n := (x + p).tdiv (p * 2) * (p * 2)) (by omega) (by omega), w64_id (n := (x + p).tdiv (p * 2) - 1) (by omega) (by omega), ← floor_tdiv hd]
    by_cases h : (x + p).tdiv (p * 2) * (p * 2) > x + p
    · rw [decide_eq_true h, if_pos h]; rfl
    · rw [decide_eq_false h, if_neg h]; rfl
theorem rspan_ok (k : Nat) {x y s : Int} (hx : inM x) (hy : inM y) (h0 : 0 ≤ s) (h1 : s ≤ 24) : F78 k x y s = some ((shf x s, shf y s, ()), ()) := by
  unfold F78
  rw [rshift_ok k hx h0 h1, rshift_ok k hy h0 h1]
  rfl
/-- The reference's operation on values. -/
theorem apply_ok (k : Nat) {o : Int × Int} {x y a b : Int} (hx : inM x) (hy : inM y) (c1 : 0 ≤ o.1) (c2 : o.1 ≤ 11) (ha : argB o = true) : ∃ v, F119 k o x y a b = some ((v, decide (inM (estep a b o x y)), ()), ()) ∧ (inM (estep a b o x y) → v = estep a b o x y) := by
  have hx' := hx; have hy' := hy
  unfold inM at hx' hy'
  unfold F119 estep res
  by_cases h0 : o.1 = 0
  · rw [show (o.1 == 0) = true by simpa using h0, if_pos h0]
    exact ⟨a, by simp [acc_ok], fun _ => rfl⟩
  rw [show (o.1 == 0) = false by simpa using h0, if_neg h0, cond_false]
  by_cases h1 : o.1 = 1
  · rw [show (o.1 == 1) = true by simpa using h1, if_pos h1]
    exact ⟨b, by simp [acc_ok], fun _ => rfl⟩
  rw [show (o.1 == 1) = false by simpa using h1, if_neg h1, cond_false]
  by_cases h2 : o.1 = 2
  · rw [show (o.1 == 2) = true by simpa using h2, if_pos h2]
    exact ⟨o.2, by simp [acc_ok], fun _ => rfl⟩
  rw [show (o.1 == 2) = false by simpa using h2, if_neg h2, cond_false]
  by_cases h10 : o.1 = 10
  · have hs : 0 ≤ o.2 ∧ o.2 ≤ 24 := by unfold argB at ha; rw [if_neg h2, if_pos h10] at ha; simpa using ha
    rw [if_pos h10, show (o.1 == 3) = false by rw [h10]; rfl, show (o.1 == 4) = false by rw [h10]; rfl, show (o.1 == 5) = false by rw [h10]; rfl, show (o.1 == 6) = false by rw [h10]; rfl, show (o.1 == 7) = false by rw [h10]; rfl, show (o.1 == 8) = false by rw [h10]; rfl, show (o.1 == 9) = false by rw [h10]; rfl, show (o.1 == 10) = true by rw [h10]; rfl, rshift_ok k hx hs.1 hs.2]
    exact ⟨_, by simp [acc_ok], fun _ => rfl⟩
  by_cases h11 : o.1 = 11
  · rw [if_neg h10, if_pos h11, show (o.1 == 3) = false by rw [h11]; rfl, show (o.1 == 4) = false by rw [h11]; rfl, show (o.1 == 5) = false by rw [h11]; rfl, show (o.1 == 6) = false by rw [h11]; rfl, show (o.1 == 7) = false by rw [h11]; rfl, show (o.1 == 8) = false by rw [h11]; rfl, show (o.1 == 9) = false by rw [h11]; rfl, show (o.1 == 10) = false by rw [h11]; rfl, rabs_ok k (n := x) (by omega) (by omega)]
    exact ⟨_, by simp [acc_ok], fun _ => rfl⟩
  rw [if_neg h10, if_neg h11]
  by_cases h3 : o.1 = 3
  · rw [show (o.1 == 3) = true by simpa using h3, if_pos h3, w64_id (n := x + y) (by omega) (by omega)]
    exact ⟨_, by simp [acc_ok], fun _ => rfl⟩
  rw [show (o.1 == 3) = false by simpa using h3, if_neg h3, cond_false]
  by_cases h4 : o.1 = 4
  · rw [show (o.1 == 4) = true by simpa using h4, if_pos h4, w64_id (n := x - y) (by omega) (by omega)]
    exact ⟨_, by simp [acc_ok], fun _ => rfl⟩
  rw [show (o.1 == 4) = false by simpa using h4, if_neg h4, cond_false]
  by_cases h5 : o.1 = 5
  · rw [show (o.1 == 5) = true by simpa using h5, if_pos h5, cond_true, rtimes_ok k hx hy, tms_eq]
    by_cases h : ab (x * y) ≤ 17592186044416
    · refine ⟨x * y, ?_, fun _ => by rw [if_pos h]⟩
      simp [h, acc_ok]
    · refine ⟨0, ?_, fun hh => ?_⟩
      · have : ¬ inM 17592186044417 := by unfold inM; omega
        simp [h, this]
      · rw [if_neg h] at hh; unfold inM at hh; omega
  rw [show (o.1 == 5) = false by simpa using h5, if_neg h5, cond_false]
  by_cases h6 : o.1 = 6
  · rw [show (o.1 == 6) = true by simpa using h6, if_pos h6]
    exact ⟨_, by simp [acc_ok], fun _ => rfl⟩
  rw [show (o.1 == 6) = false by simpa using h6, if_neg h6, cond_false]
  by_cases h7 : o.1 = 7
  · rw [show (o.1 == 7) = true by simpa using h7, if_pos h7]
    exact ⟨_, by simp [acc_ok], fun _ => rfl⟩
  rw [show (o.1 == 7) = false by simpa using h7, if_neg h7, cond_false]
  by_cases h8 : o.1 = 8
  · rw [show (o.1 == 8) = true by simpa using h8, if_pos h8, w64_id (n := x - y) (by omega) (by omega), rabs_ok k (n := x - y) (by omega) (by omega)]
    exact ⟨_, by simp [acc_ok], fun _ => rfl⟩
  have h9 : o.1 = 9 := by omega
  rw [show (o.1 == 8) = false by simpa using h8, if_neg h8, cond_false, show (o.1 == 9) = true by simpa using h9, rfloor_ok k hx]
  exact ⟨_, by simp [acc_ok], fun _ => rfl⟩
theorem acc2 (k : Nat) (v : Int × Int) : (F74 k v.1).bind (fun (y : (Bool × Unit) × (Unit)) => bif y.1.1 then ((F74 k v.2).bind fun (y4 : (Bool × Unit) × (Unit)) => some ((v, y4.1.1, ()), ())) else (some ((v, false, ()), ()))) = some ((v, decide (inP v), ()), ()) := by
  rw [acc_ok, acc_ok]
  by_cases h1 : inM v.1 <;> simp [h1, inP]
/-- The reference's operation on intervals. -/
theorem rnext_ok (k : Nat) {o : Int × Int} {x y : Int × Int} {a b : Int} (hx : inP x) (hy : inP y) (c1 : 0 ≤ o.1) (c2 : o.1 ≤ 11) (ha : argB o = true) : ∃ v, F92 k o x y a b = some ((v, decide (inP (istep a b o x y)), ()), ()) ∧ (inP (istep a b o x y) → v = istep a b o x y) := by
  obtain ⟨x1, x2⟩ := hx
  obtain ⟨y1, y2⟩ := hy
  have a1 := x1; have a2 := x2; have b1 := y1; have b2 := y2
  unfold inM at a1 a2 b1 b2
  have n1 := inM_ab.1 x1
  have n2 := inM_ab.1 x2
  have m1 := ab_nonneg x.1
  have m2 := ab_nonneg x.2
  have hn : 0 ≤ mm true (ab x.1) (ab x.2) ∧ mm true (ab x.1) (ab x.2) ≤ 17592186044416 := by rw [mm_true]; split <;> omega
  unfold F92 istep comb
  rw [rabs_ok k (n := x.1) (by omega) (by omega), rabs_ok k (n := x.2) (by omega) (by omega)]
  simp only [Option.bind_some]
  rw [w64_id (n := x.1 + y.1) (by omega) (by omega), w64_id (n := x.2 + y.2) (by omega) (by omega), w64_id (n := x.1 - y.2) (by omega) (by omega), w64_id (n := x.2 - y.1) (by omega) (by omega), w64_id (n := y.2 - x.1) (by omega) (by omega), w64_id (n := 0 - mm true (ab x.1) (ab x.2)) (by omega) (by omega)]
  by_cases h0 : o.1 = 0
  · rw [show (o.1 == 0) = true by simpa using h0, if_pos h0]
    exact ⟨(0, a), acc2 k (0, a), fun _ => rfl⟩
  rw [show (o.1 == 0) = false by simpa using h0, if_neg h0, cond_false]
  by_cases h1 : o.1 = 1
  · rw [show (o.1 == 1) = true by simpa using h1, if_pos h1]
    exact ⟨(0, b), acc2 k (0, b), fun _ => rfl⟩
  rw [show (o.1 == 1) = false by simpa using h1, if_neg h1, cond_false]
  by_cases h2 : o.1 = 2
  · rw [show (o.1 == 2) = true by simpa using h2, if_pos h2]
    exact ⟨(o.2, o.2), acc2 k (o.2, o.2), fun _ => rfl⟩
  rw [show (o.1 == 2) = false by simpa using h2, if_neg h2, cond_false]
  by_cases h10 : o.1 = 10
  · have hs : 0 ≤ o.2 ∧ o.2 ≤ 24 := by unfold argB at ha; rw [if_neg h2, if_pos h10] at ha; simpa using ha
    rw [if_pos h10, show (o.1 == 3) = false by rw [h10]; rfl, show (o.1 == 4) = false by rw [h10]; rfl, show (o.1 == 5) = false by rw [h10]; rfl, show (o.1 == 6) = false by rw [h10]; rfl, show (o.1 == 7) = false by rw [h10]; rfl, show (o.1 == 8) = false by rw [h10]; rfl, show (o.1 == 9) = false by rw [h10]; rfl, show (o.1 == 10) = true by rw [h10]; rfl, rspan_ok k x1 x2 hs.1 hs.2]
    exact ⟨(shf x.1 o.2, shf x.2 o.2), acc2 k (shf x.1 o.2, shf x.2 o.2), fun _ => rfl⟩
  by_cases h11 : o.1 = 11
  · rw [if_neg h10, if_pos h11, show (o.1 == 3) = false by rw [h11]; rfl, show (o.1 == 4) = false by rw [h11]; rfl, show (o.1 == 5) = false by rw [h11]; rfl, show (o.1 == 6) = false by rw [h11]; rfl, show (o.1 == 7) = false by rw [h11]; rfl, show (o.1 == 8) = false by rw [h11]; rfl, show (o.1 == 9) = false by rw [h11]; rfl, show (o.1 == 10) = false by rw [h11]; rfl]
    exact ⟨(0, mm true (ab x.1) (ab x.2)), acc2 k (0, mm true (ab x.1) (ab x.2)), fun _ => rfl⟩
  rw [if_neg h10, if_neg h11]
  by_cases h3 : o.1 = 3
  · rw [show (o.1 == 3) = true by simpa using h3, if_pos h3]
    exact ⟨_, acc2 k (x.1 + y.1, x.2 + y.2), fun _ => rfl⟩
  rw [show (o.1 == 3) = false by simpa using h3, if_neg h3, cond_false]
  by_cases h4 : o.1 = 4
  · rw [show (o.1 == 4) = true by simpa using h4, if_pos h4]
    exact ⟨_, acc2 k (x.1 - y.2, x.2 - y.1), fun _ => rfl⟩
  rw [show (o.1 == 4) = false by simpa using h4, if_neg h4, cond_false]
  by_cases h5 : o.1 = 5
  · rw [show (o.1 == 5) = true by simpa using h5, if_pos h5, cond_true]
    unfold F91
    rw [rtimes_ok k x1 y1, rtimes_ok k x1 y2, rtimes_ok k x2 y1, rtimes_ok k x2 y2]
    have big : ∀ u v : Int, ¬ ab (u * v) ≤ 17592186044416 → tms u v = 17592186044417 := fun u v h => by rw [tms_eq, if_neg h]
    have t1 := mm_t_ge (tms x.1 y.1) (tms x.1 y.2)
    have t2 := mm_t_ge (mm true (tms x.1 y.1) (tms x.1 y.2)) (tms x.2 y.1)
    have t3 := mm_t_ge (mm true (mm true (tms x.1 y.1) (tms x.1 y.2)) (tms x.2 y.1)) (tms x.2 y.2)
    have no : (tms x.1 y.1 = 17592186044417 ∨ tms x.1 y.2 = 17592186044417 ∨ tms x.2 y.1 = 17592186044417 ∨ tms x.2 y.2 = 17592186044417) → ¬ inP (mm false (mm false (mm false (tms x.1 y.1) (tms x.1 y.2)) (tms x.2 y.1)) (tms x.2 y.2), mm true (mm true (mm true (tms x.1 y.1) (tms x.1 y.2)) (tms x.2 y.1)) (tms x.2 y.2)) := by
      rintro h ⟨_, h2⟩
      unfold inM at h2
      simp only at h2
      omega
    by_cases q1 : ab (x.1 * y.1) ≤ 17592186044416
    · by_cases q2 : ab (x.1 * y.2) ≤ 17592186044416
      · by_cases q3 : ab (x.2 * y.1) ≤ 17592186044416
        · by_cases q4 : ab (x.2 * y.2) ≤ 17592186044416
          · rw [tms_of q1, tms_of q2, tms_of q3, tms_of q4]
            simp only [Option.bind_some, decide_eq_true q1, decide_eq_true q2, decide_eq_true q3, decide_eq_true q4, cond_true, if_pos q1, if_pos q2, if_pos q3, if_pos q4]
            exact ⟨_, acc2 k (_, _), fun _ => rfl⟩
          · have hno := no (.inr (.inr (.inr (big _ _ q4))))
            rw [decide_eq_false hno]
            simp only [Option.bind_some, decide_eq_true q1, decide_eq_true q2, decide_eq_true q3, decide_eq_false q4, cond_true, cond_false]
            exact ⟨_, rfl, fun h => absurd h hno⟩
        · have hno := no (.inr (.inr (.inl (big _ _ q3))))
          rw [decide_eq_false hno]
          simp only [Option.bind_some, decide_eq_true q1, decide_eq_true q2, decide_eq_false q3, cond_true, cond_false]
          exact ⟨_, rfl, fun h => absurd h hno⟩
      · have hno := no (.inr (.inl (big _ _ q2)))
        rw [decide_eq_false hno]
        simp only [Option.bind_some, decide_eq_true q1, decide_eq_false q2, cond_true, cond_false]
        exact ⟨_, rfl, fun h => absurd h hno⟩
    · have hno := no (.inl (big _ _ q1))
      rw [decide_eq_false hno]
      simp only [Option.bind_some, decide_eq_false q1, cond_false]
      exact ⟨_, rfl, fun h => absurd h hno⟩
  rw [show (o.1 == 5) = false by simpa using h5, if_neg h5, cond_false]
  by_cases h6 : o.1 = 6
  · rw [show (o.1 == 6) = true by simpa using h6, if_pos h6]
    exact ⟨_, acc2 k (mm false x.1 y.1, mm false x.2 y.2), fun _ => rfl⟩
  rw [show (o.1 == 6) = false by simpa using h6, if_neg h6, cond_false]
  by_cases h7 : o.1 = 7
  · rw [show (o.1 == 7) = true by simpa using h7, if_pos h7]
    exact ⟨_, acc2 k (mm true x.1 y.1, mm true x.2 y.2), fun _ => rfl⟩
  rw [show (o.1 == 7) = false by simpa using h7, if_neg h7, cond_false]
  by_cases h8 : o.1 = 8
  · rw [show (o.1 == 8) = true by simpa using h8, if_pos h8]
    exact ⟨_, acc2 k (0, mm true (x.2 - y.1) (y.2 - x.1)), fun _ => rfl⟩
  have h9 : o.1 = 9 := by omega
  rw [show (o.1 == 8) = false by simpa using h8, if_neg h8, cond_false, show (o.1 == 9) = true by simpa using h9]
  exact ⟨_, acc2 k (0 - mm true (ab x.1) (ab x.2), mm true (ab x.1) (ab x.2)), fun _ => rfl⟩
theorem reval_loop {R : Type} (k : Nat) (l : List (Int × Int)) (a b : Int) (e0 : Int → Int → Option R) (e1 : List Int → Option R) (hl : l.length ≤ 32) : ∀ (n i j : Nat) (st : List Int), l.length - i = n → i ≤ l.length → n < j → st.length ≤ i → hOk (l.drop i) st.length → (∀ x ∈ st, inM x) →
    F120.loop0 k j l a b i st e0 e1 = erun a b (e0 0 11) e1 (l.drop i) st := by
  intro n
  induction n with
  | zero =>
    intro i j st hn hi hj hst hok hin
    have e : i = l.length := by omega
    obtain ⟨j, rfl⟩ : ∃ j', j = j' + 1 := ⟨j - 1, by omega⟩
    rw [F120.loop0_s, e, decide_eq_false (by omega), List.drop_length]
    rfl
  | succ n ih =>
    intro i j st hn hi hj hst hok hin
    obtain ⟨j, rfl⟩ : ∃ j', j = j' + 1 := ⟨j - 1, by omega⟩
    have hlt : i < l.length := by omega
    rw [List.drop_eq_getElem_cons hlt] at hok ⊢
    rw [F120.loop0_s, decide_eq_true (by omega)]
    simp only [cond_true]
    rw [if_pos (by omega), Int.toNat_natCast, List.getElem?_eq_getElem hlt]
    generalize hgo : l[i] = o at *
    obtain ⟨c1, c2, htk, harg, hrest⟩ := hok
    have htk2 := tk_le o.1
    have hw : w64 (((st.length : Nat) : Int) - ((tk o.1 : Nat) : Int)) = ((st.length - tk o.1 : Nat) : Int) := by rw [w64_id (by omega) (by omega)]; omega
    simp only [Option.bind_some, rtakes_ok k c1 c2, hw, Int.toNat_natCast]
    have mem : ∀ p, p < st.length → inM (st.getD p 0) := fun p hp => by
      have := getD_of hp
      exact hin _ (List.mem_of_getElem? this)
    have zero : inM 0 := by unfold inM; omega
    have fin : ∀ x y, inM x → inM y → estep a b o x y = eone a b o st → ((F119 k o x y a b).bind fun (y7 : (Int × Bool × Unit) × (Unit)) => bif !y7.1.2.1 then (e0 0 11) else (if 0 ≤ ((st.length - tk o.1 : Nat) : Int) ∧ ((st.length - tk o.1 : Nat) : Int) ≤ ((st.length : Nat) : Int) then if ((st.take (st.length - tk o.1)) ++ [y7.1.1]).length * 8 ≤ 140737488355328 then F120.loop0 k j l a b (w64 ((i : Int) + 1)) ((st.take (st.length - tk o.1)) ++ [y7.1.1]) e0 e1 else none else none)) =
        erun a b (e0 0 11) e1 (o :: l.drop (i + 1)) st := by
      intro x y hx hy he
      obtain ⟨v, h1, h2⟩ := apply_ok k (a := a) (b := b) hx hy c1 c2 harg
      rw [he] at h1 h2
      rw [h1]
      unfold erun
      simp only [Option.bind_some]
      by_cases hm : inM (eone a b o st)
      · rw [decide_eq_true hm, if_pos hm, h2 hm]
        have hlen : ((st.take (st.length - tk o.1)) ++ [eone a b o st]).length = st.length - tk o.1 + 1 := by rw [List.length_append, List.length_take]; simp
        simp only [Bool.not_true, cond_false]
        rw [if_pos (by omega), if_pos (by rw [hlen]; omega), w64_succ i (by omega)]
        refine ih (i + 1) j _ (by omega) (by omega) (by omega) (by rw [hlen]; omega) (by rw [hlen]; rw [show st.length - tk o.1 + 1 = st.length + 1 - tk o.1 by omega]; exact hrest) fun x hx => ?_
        rcases List.mem_append.1 hx with hx | hx
        · exact hin x (List.mem_of_mem_take hx)
        · rw [List.mem_singleton.1 hx]; exact hm
      · rw [decide_eq_false hm, if_neg hm]; rfl
    have out : ∀ p, st.length ≤ p → st.getD p 0 = 0 := fun p hp => by rw [List.getD_eq_getElem?_getD, List.getElem?_eq_none hp]; rfl
    by_cases h2 : tk o.1 = 2
    · have e : ((((tk o.1 : Nat) : Int)) == 2) = true := by rw [h2]; rfl
      have hw1 : w64 (((st.length : Nat) : Int) - 1) = ((st.length - 1 : Nat) : Int) := by rw [w64_id (by omega) (by omega)]; omega
      rw [e, cond_true, hw1, if_pos (by omega), Int.toNat_natCast, getD_of (by omega), Option.bind_some, decide_eq_true (by omega : (((tk o.1 : Nat) : Int)) > 0), cond_true, if_pos (by omega), getD_of (by omega), Option.bind_some, if_pos (by omega)]
      exact fin _ _ (mem _ (by omega)) (mem _ (by omega)) (by unfold eone; rw [show st.length - 1 = st.length - tk o.1 + 1 by omega])
    · have e : ((((tk o.1 : Nat) : Int)) == 2) = false := by
        cases h : ((((tk o.1 : Nat) : Int)) == 2) with
        | false => rfl
        | true => have := eq_of_beq h; omega
      rw [e, cond_false]
      by_cases h1 : tk o.1 = 1
      · rw [decide_eq_true (by omega : (((tk o.1 : Nat) : Int)) > 0), cond_true, if_pos (by omega), getD_of (by omega), Option.bind_some, if_pos (by omega)]
        exact fin _ _ (mem _ (by omega)) zero (by unfold eone; rw [out (st.length - tk o.1 + 1) (by omega)])
      · rw [decide_eq_false (by omega), cond_false, if_pos (by omega)]
        exact fin _ _ zero zero (by unfold eone; rw [out (st.length - tk o.1) (by omega), out (st.length - tk o.1 + 1) (by omega)])
theorem rinterval_loop {R : Type} (k : Nat) (l : List (Int × Int)) (a b : Int) (e0 : Int → Int → Int → Option R) (e1 : List (Int × Int) → Option R) (hl : l.length ≤ 32) : ∀ (n i j : Nat) (st : List (Int × Int)), l.length - i = n → i ≤ l.length → n < j → st.length ≤ i → hOk (l.drop i) st.length → (∀ x ∈ st, inP x) →
    F93.loop0 k j l a b i st e0 e1 = irun a b (e0 0 0 11) e1 (l.drop i) st := by
  intro n
  induction n with
  | zero =>
    intro i j st hn hi hj hst hok hin
    have e : i = l.length := by omega
    obtain ⟨j, rfl⟩ : ∃ j', j = j' + 1 := ⟨j - 1, by omega⟩
    rw [F93.loop0_s, e, decide_eq_false (by omega), List.drop_length]
    rfl
  | succ n ih =>
    intro i j st hn hi hj hst hok hin
    obtain ⟨j, rfl⟩ : ∃ j', j = j' + 1 := ⟨j - 1, by omega⟩
    have hlt : i < l.length := by omega
    rw [List.drop_eq_getElem_cons hlt] at hok ⊢
    rw [F93.loop0_s, decide_eq_true (by omega)]
    simp only [cond_true]
    rw [if_pos (by omega), Int.toNat_natCast, List.getElem?_eq_getElem hlt]
    generalize hgo : l[i] = o at *
    obtain ⟨c1, c2, htk, harg, hrest⟩ := hok
    have htk2 := tk_le o.1
    have hw : w64 (((st.length : Nat) : Int) - ((tk o.1 : Nat) : Int)) = ((st.length - tk o.1 : Nat) : Int) := by rw [w64_id (by omega) (by omega)]; omega
    simp only [Option.bind_some, rtakes_ok k c1 c2, hw, Int.toNat_natCast]
    have mem : ∀ p, p < st.length → inP (st.getD p (0, 0)) := fun p hp => by
      have := getP_of hp
      exact hin _ (List.mem_of_getElem? this)
    have zero : inP (0, 0) := by unfold inP inM; omega
    have fin : ∀ x y, inP x → inP y → istep a b o x y = ione a b o st → ((F92 k o x y a b).bind fun (y7 : ((Int × Int) × Bool × Unit) × (Unit)) => bif !y7.1.2.1 then (e0 0 0 11) else (if 0 ≤ ((st.length - tk o.1 : Nat) : Int) ∧ ((st.length - tk o.1 : Nat) : Int) ≤ ((st.length : Nat) : Int) then if ((st.take (st.length - tk o.1)) ++ [y7.1.1]).length * 16 ≤ 140737488355328 then F93.loop0 k j l a b (w64 ((i : Int) + 1)) ((st.take (st.length - tk o.1)) ++ [y7.1.1]) e0 e1 else none else none)) =
        irun a b (e0 0 0 11) e1 (o :: l.drop (i + 1)) st := by
      intro x y hx hy he
      obtain ⟨v, h1, h2⟩ := rnext_ok k (a := a) (b := b) hx hy c1 c2 harg
      rw [he] at h1 h2
      rw [h1]
      unfold irun
      simp only [Option.bind_some]
      by_cases hm : inP (ione a b o st)
      · rw [decide_eq_true hm, if_pos hm, h2 hm]
        have hlen : ((st.take (st.length - tk o.1)) ++ [ione a b o st]).length = st.length - tk o.1 + 1 := by rw [List.length_append, List.length_take]; simp
        simp only [Bool.not_true, cond_false]
        rw [if_pos (by omega), if_pos (by rw [hlen]; omega), w64_succ i (by omega)]
        refine ih (i + 1) j _ (by omega) (by omega) (by omega) (by rw [hlen]; omega) (by rw [hlen]; rw [show st.length - tk o.1 + 1 = st.length + 1 - tk o.1 by omega]; exact hrest) fun x hx => ?_
        rcases List.mem_append.1 hx with hx | hx
        · exact hin x (List.mem_of_mem_take hx)
        · rw [List.mem_singleton.1 hx]; exact hm
      · rw [decide_eq_false hm, if_neg hm]; rfl
    have out : ∀ p, st.length ≤ p → st.getD p (0, 0) = (0, 0) := fun p hp => by rw [List.getD_eq_getElem?_getD, List.getElem?_eq_none hp]; rfl
    by_cases h2 : tk o.1 = 2
    · have e : ((((tk o.1 : Nat) : Int)) == 2) = true := by rw [h2]; rfl
      have hw1 : w64 (((st.length : Nat) : Int) - 1) = ((st.length - 1 : Nat) : Int) := by rw [w64_id (by omega) (by omega)]; omega
      rw [e, cond_true, hw1, if_pos (by omega), Int.toNat_natCast, getP_of (by omega), Option.bind_some, decide_eq_true (by omega : (((tk o.1 : Nat) : Int)) > 0), cond_true, if_pos (by omega), getP_of (by omega), Option.bind_some, if_pos (by omega)]
      exact fin _ _ (mem _ (by omega)) (mem _ (by omega)) (by unfold ione; rw [show st.length - 1 = st.length - tk o.1 + 1 by omega])
    · have e : ((((tk o.1 : Nat) : Int)) == 2) = false := by
        cases h : ((((tk o.1 : Nat) : Int)) == 2) with
        | false => rfl
        | true => have := eq_of_beq h; omega
      rw [e, cond_false]
      by_cases h1 : tk o.1 = 1
      · rw [decide_eq_true (by omega : (((tk o.1 : Nat) : Int)) > 0), cond_true, if_pos (by omega), getP_of (by omega), Option.bind_some, if_pos (by omega)]
        exact fin _ _ (mem _ (by omega)) zero (by unfold ione; rw [out (st.length - tk o.1 + 1) (by omega)])
      · rw [decide_eq_false (by omega), cond_false, if_pos (by omega)]
        exact fin _ _ zero zero (by unfold ione; rw [out (st.length - tk o.1) (by omega), out (st.length - tk o.1 + 1) (by omega)])
theorem reval_ok (k : Nat) (l : List (Int × Int)) (a b : Int) (hk : 33 ≤ k) : F120 k l a b = some (((ev l a b).1, (ev l a b).2, ()), ()) := by
  unfold F120 ev
  rw [rvalid_ok k l true hk]
  simp only [Option.bind_some]
  by_cases hv : vcode l true = 0
  · have hv' : ¬ vcode l true ≠ 0 := fun h => h hv
    rw [show (vcode l true != 0) = false by simpa using hv, cond_false, if_neg hv']
    by_cases ha : a < 0
    · rw [decide_eq_true ha, if_neg (by omega)]; rfl
    rw [decide_eq_false ha, cond_false]
    by_cases ha2 : a > 4294967296
    · rw [decide_eq_true ha2, if_neg (by omega)]; rfl
    rw [decide_eq_false ha2, cond_false]
    by_cases hb : b < 0
    · rw [decide_eq_true hb, if_neg (by omega)]; rfl
    rw [decide_eq_false hb, cond_false]
    by_cases hb2 : b > 4294967296
    · rw [decide_eq_true hb2, if_neg (by omega)]; rfl
    rw [decide_eq_false hb2, cond_false, if_pos (by omega)]
    obtain ⟨h1, h2, h3⟩ := vcode_hOk hv
    have := reval_loop (R := (Int × Int × Unit) × Unit) k l a b (fun z16 z17 => some ((z16, z17, ()), ())) (fun (z18 : List Int) => (if 0 ≤ (0 : Int) ∧ (0 : Int) < ((z18.length : Nat) : Int) then (z18[0]?).bind fun (x19 : Int) => some ((x19, 0, ()), ()) else none)) h2 l.length 0 k [] rfl (by omega) (by omega) (by simp) h3 (fun x hx => by cases hx)
    refine Eq.trans this ?_
    rw [List.drop_zero]
    have hc := erun_congr (R := (Int × Int × Unit) × Unit) a b (some ((0, 11, ()), ())) (fun (z18 : List Int) => (if 0 ≤ (0 : Int) ∧ (0 : Int) < ((z18.length : Nat) : Int) then (z18[0]?).bind fun (x19 : Int) => some ((x19, 0, ()), ()) else none)) (fun st => some ((st.getD 0 0, 0, ()), ())) (fun st hst => by
      rw [if_pos (by omega), getD_of (by omega)]; rfl) l [] h3
    rw [hc]
    obtain ⟨c, hc⟩ := erun_some a b l []
    have hm := erun_map a b (fun c : Int × Int => some ((c.1, c.2, ()), ())) (some (0, 11)) (fun st => some (st.getD 0 0, 0)) l []
    rw [hc] at hm
    unfold rv
    rw [hc]
    exact hm.symm
  · have hv' : vcode l true ≠ 0 := hv
    rw [show (vcode l true != 0) = true by simpa using hv, cond_true, if_pos hv']
theorem rvalue_ok (k : Nat) (n : Int) : F72 k n = some ((decide (1 ≤ n ∧ n ≤ 4294967296), ()), ()) := by
  unfold F72
  by_cases h : 1 ≤ n <;> simp [h]
theorem rinterval_ok (k : Nat) (l : List (Int × Int)) (a b : Int) (hk : 33 ≤ k) : F93 k l a b = some (((iv l a b).1, (iv l a b).2.1, (iv l a b).2.2, ()), ()) := by
  unfold F93 iv
  rw [rvalid_ok k l true hk]
  simp only [Option.bind_some]
  by_cases hv : vcode l true = 0
  · have hv' : ¬ vcode l true ≠ 0 := fun h => h hv
    rw [show (vcode l true != 0) = false by simpa using hv, cond_false, if_neg hv', rvalue_ok, rvalue_ok]
    simp only [Option.bind_some]
    by_cases ha : 1 ≤ a ∧ a ≤ 4294967296
    · rw [decide_eq_true ha]
      simp only [Bool.not_true, cond_false]
      by_cases hb : 1 ≤ b ∧ b ≤ 4294967296
      · obtain ⟨h1, h2, h3⟩ := vcode_hOk hv
        rw [decide_eq_true hb, if_pos ⟨ha.1, ha.2, hb⟩]
        simp only [Bool.not_true, cond_false]
        have := rinterval_loop (R := (Int × Int × Int × Unit) × Unit) k l a b (fun (z28 : Int) (z29 : Int) (z30 : Int) => (some ((z28, z29, z30, ()), ()))) (fun (z31 : List (Int × Int)) => (if 0 ≤ (0 : Int) ∧ (0 : Int) < ((z31.length : Nat) : Int) then (z31[0]?).bind fun (x32 : Int × Int) => if 0 ≤ (0 : Int) ∧ (0 : Int) < ((z31.length : Nat) : Int) then (z31[0]?).bind fun (x33 : Int × Int) => some ((x32.1, x33.2, 0, ()), ()) else none else none)) h2 l.length 0 k [] rfl (by omega) (by omega) (by simp) h3 (fun x hx => by cases hx)
        refine Eq.trans this ?_
        rw [List.drop_zero]
        have hc := irun_congr (R := (Int × Int × Int × Unit) × Unit) a b (some ((0, 0, 11, ()), ())) (fun (z31 : List (Int × Int)) => (if 0 ≤ (0 : Int) ∧ (0 : Int) < ((z31.length : Nat) : Int) then (z31[0]?).bind fun (x32 : Int × Int) => if 0 ≤ (0 : Int) ∧ (0 : Int) < ((z31.length : Nat) : Int) then (z31[0]?).bind fun (x33 : Int × Int) => some ((x32.1, x33.2, 0, ()), ()) else none else none)) (fun st => some (((st.getD 0 (0, 0)).1, (st.getD 0 (0, 0)).2, 0, ()), ())) (fun st hst => by
          rw [if_pos (by omega), getP_of (by omega), Option.bind_some, if_pos (by omega)]; rfl) l [] h3
        rw [hc]
        obtain ⟨c, hc⟩ := irun_some a b l []
        have hm := irun_map a b (fun c : Int × Int × Int => some ((c.1, c.2.1, c.2.2, ()), ())) (some (0, 0, 11)) (fun st => some ((st.getD 0 (0, 0)).1, (st.getD 0 (0, 0)).2, 0)) l []
        rw [hc] at hm
        unfold irv
        rw [hc]
        exact hm.symm
      · rw [decide_eq_false hb, if_neg (fun h => hb h.2.2)]; rfl
    · rw [decide_eq_false ha, if_neg (fun h => ha ⟨h.1, h.2.1⟩)]; rfl
  · have hv' : vcode l true ≠ 0 := hv
    rw [show (vcode l true != 0) = true by simpa using hv, cond_true, if_pos hv']
abbrev Pl := Int × Int × Int × List Int
abbrev Rc := Int × Int × Int × Int
def sizeP (w h m : Int) : Prop := 1 ≤ w ∧ w ≤ 128 ∧ 1 ≤ h ∧ h ≤ 128 ∧ w * h ≤ 4096 ∧ 1 ≤ m ∧ m ≤ 4294967296
instance (w h m : Int) : Decidable (sizeP w h m) := inferInstanceAs (Decidable (_ ∧ _))
def pixP (m : Int) (l : List Int) : Prop := ∀ x ∈ l, 0 ≤ x ∧ x ≤ m
instance (m : Int) (l : List Int) : Decidable (pixP m l) := inferInstanceAs (Decidable (∀ x ∈ l, _))
def planeP (p : Pl) : Prop := sizeP p.1 p.2.1 p.2.2.1 ∧ (p.2.2.2.length : Int) = p.1 * p.2.1 ∧ pixP p.2.2.1 p.2.2.2
instance (p : Pl) : Decidable (planeP p) := inferInstanceAs (Decidable (_ ∧ _))
theorem mul_le_of {a b c d : Int} (h1 : 0 ≤ a) (h2 : a ≤ c) (h3 : 0 ≤ b) (h4 : b ≤ d) : 0 ≤ a * b ∧ a * b ≤ c * d :=
  ⟨Int.mul_nonneg h1 h3, Int.mul_le_mul h2 h4 h3 (by omega)⟩
theorem mul_ok (k : Nat) {a b c : Int} (hc : 0 ≤ c) (hc2 : c ≤ 4611686018427387904) : ∃ v, F25 k a b c = some ((v, decide (0 ≤ a ∧ 0 ≤ b ∧ a * b ≤ c), ()), ()) ∧ (0 ≤ a ∧ 0 ≤ b ∧ a * b ≤ c → v = a * b) := by
  unfold F25
  by_cases ha : a < 0
  · rw [decide_eq_true ha, cond_true, decide_eq_false (p := 0 ≤ a ∧ _) (fun h => by omega)]
    exact ⟨_, rfl, fun h => by omega⟩
  rw [decide_eq_false ha, cond_false]
  by_cases hb : b < 0
  · rw [decide_eq_true hb, cond_true, decide_eq_false (p := 0 ≤ a ∧ _) (fun h => by omega)]
    exact ⟨_, rfl, fun h => by omega⟩
  rw [decide_eq_false hb, cond_false, decide_eq_false (p := c < 0) (by omega), cond_false]
  by_cases h0 : a = 0
  · subst h0
    rw [show ((0 : Int) != 0) = false from rfl, cond_false, Int.zero_mul, decide_eq_true (p := (0 : Int) ≤ 0 ∧ _) (by omega)]
    exact ⟨_, rfl, fun _ => rfl⟩
  have e : (a != 0) = true := by simpa using h0
  have hd : c.tdiv a = c / a := Int.tdiv_eq_ediv_of_nonneg hc
  have hd1 : c / a ≤ c := Int.ediv_le_self a hc
  have hd2 : 0 ≤ c / a := Int.ediv_nonneg hc (by omega)
  rw [e, cond_true, if_neg h0, hd, w64_id (by omega) (by omega)]
  have key : b > c / a ↔ ¬ a * b ≤ c := by
    rw [Int.mul_comm, ← Int.le_ediv_iff_mul_le (by omega)]; omega
  by_cases hm : a * b ≤ c
  · rw [decide_eq_false (p := b > c / a) (fun h => key.1 h hm), cond_false, decide_eq_true (p := 0 ≤ a ∧ _) ⟨by omega, by omega, hm⟩]
    have := Int.mul_nonneg (a := a) (b := b) (by omega) (by omega)
    exact ⟨_, rfl, fun _ => w64_id (by omega) (by omega)⟩
  · rw [decide_eq_true (p := b > c / a) (key.2 hm), cond_true, decide_eq_false (p := 0 ≤ a ∧ _) (fun h => hm h.2.2)]
    exact ⟨_, rfl, fun h => (hm h.2.2).elim⟩
theorem rsize_ok (k : Nat) (w h m : Int) : F61 k w h m = some ((decide (sizeP w h m), ()), ()) := by
  unfold F61 sizeP
  by_cases h1 : 1 ≤ w
  by_cases h2 : w ≤ 128
  by_cases h3 : 1 ≤ h
  by_cases h4 : h ≤ 128
  · have := mul_le_of (show 0 ≤ w by omega) h2 (show 0 ≤ h by omega) h4
    rw [w64_id (n := w * h) (by omega) (by omega)]
    by_cases h5 : w * h ≤ 4096
    by_cases h6 : 1 ≤ m
    all_goals simp [*]
  all_goals simp [*]
theorem pixP_drop {m : Int} {l : List Int} {i : Nat} (hi : i < l.length) : pixP m (l.drop i) ↔ (0 ≤ l[i] ∧ l[i] ≤ m) ∧ pixP m (l.drop (i + 1)) := by
  unfold pixP
  constructor
  · intro h
    rw [List.drop_eq_getElem_cons hi] at h
    exact ⟨h _ (List.mem_cons_self), fun x hx => h x (List.mem_cons_of_mem _ hx)⟩
  · rintro ⟨h1, h2⟩ x hx
    rw [List.drop_eq_getElem_cons hi] at hx
    rcases List.mem_cons.1 hx with rfl | hx
    · exact h1
    · exact h2 x hx
theorem pixP_nil (m : Int) : pixP m [] := fun x h => by cases h
theorem rpvalid_loop {R : Type} (k : Nat) (l : List Int) (a b m : Int) (e0 : Bool → Option R) (e1 : Unit → Option R) (hl : l.length ≤ 4294967296) : ∀ (n i j : Nat), l.length - i = n → i ≤ l.length → n < j →
    F62.loop0 k j i a b m l e0 e1 = if pixP m (l.drop i) then e1 () else e0 false := by
  intro n
  induction n with
  | zero =>
    intro i j hn hi hj
    obtain ⟨j, rfl⟩ : ∃ j', j = j' + 1 := ⟨j - 1, by omega⟩
    rw [F62.loop0_s, decide_eq_false (by omega), cond_false, show i = l.length by omega, List.drop_length, if_pos (pixP_nil m)]
  | succ n ih =>
    intro i j hn hi hj
    obtain ⟨j, rfl⟩ : ∃ j', j = j' + 1 := ⟨j - 1, by omega⟩
    have hlt : i < l.length := by omega
    rw [F62.loop0_s, decide_eq_true (by omega), cond_true, if_pos (by omega), if_pos (by omega), Int.toNat_natCast, List.getElem?_eq_getElem hlt, Option.bind_some, Option.bind_some, w64_succ i (by omega), ih (i + 1) j (by omega) (by omega) (by omega)]
    by_cases h1 : l[i] < 0
    · rw [decide_eq_true h1, cond_true, if_neg (fun h => by have := ((pixP_drop hlt).1 h).1; omega)]
    rw [decide_eq_false h1, cond_false]
    by_cases h2 : l[i] > m
    · rw [decide_eq_true h2, cond_true, if_neg (fun h => by have := ((pixP_drop hlt).1 h).1; omega)]
    rw [decide_eq_false h2, cond_false]
    by_cases h3 : pixP m (l.drop (i + 1))
    · rw [if_pos h3, if_pos ((pixP_drop hlt).2 ⟨by omega, h3⟩)]
    · rw [if_neg h3, if_neg (fun h => h3 ((pixP_drop hlt).1 h).2)]
theorem rplane_ok (k : Nat) (hk : 4097 ≤ k) (p : Pl) : F62 k p = some ((decide (planeP p), ()), ()) := by
  unfold F62
  rw [rsize_ok, Option.bind_some]
  by_cases hs : sizeP p.1 p.2.1 p.2.2.1
  · have := mul_le_of (show 0 ≤ p.1 by have := hs.1; omega) hs.2.1 (show 0 ≤ p.2.1 by have := hs.2.2.1; omega) hs.2.2.2.1
    have h4 := hs.2.2.2.2.1
    rw [decide_eq_true hs, Bool.not_true, cond_false, w64_id (n := p.1 * p.2.1) (by omega) (by omega)]
    by_cases hl : (p.2.2.2.length : Int) = p.1 * p.2.1
    · have e : ((p.2.2.2.length : Int) != p.1 * p.2.1) = false := by simpa using hl
      rw [e, cond_false]
      refine (rpvalid_loop k p.2.2.2 _ _ _ _ _ (by omega) p.2.2.2.length 0 k rfl (by omega) (by omega)).trans ?_
      rw [List.drop_zero]
      by_cases hp : pixP p.2.2.1 p.2.2.2
      · rw [if_pos hp, decide_eq_true (show planeP p from ⟨hs, hl, hp⟩)]
      · rw [if_neg hp, decide_eq_false (fun h : planeP p => hp h.2.2)]
    · have e : ((p.2.2.2.length : Int) != p.1 * p.2.1) = true := by simpa using hl
      rw [e, cond_true, decide_eq_false (fun h : planeP p => hl h.2.1)]
  · rw [decide_eq_false hs, Bool.not_false, cond_true, decide_eq_false (fun h : planeP p => hs h.1)]
def coordP (n : Int) : Prop := -1048576 ≤ n ∧ n ≤ 1048576
instance (n : Int) : Decidable (coordP n) := inferInstanceAs (Decidable (_ ∧ _))
def noneP (r : Rc) : Prop := r.1 = 0 ∧ r.2.1 = 0 ∧ r.2.2.1 = 0 ∧ r.2.2.2 = 0
instance (r : Rc) : Decidable (noneP r) := inferInstanceAs (Decidable (_ ∧ _))
def rectP (r : Rc) : Prop := noneP r ∨ coordP r.1 ∧ coordP r.2.1 ∧ coordP r.2.2.1 ∧ coordP r.2.2.2 ∧ r.1 < r.2.2.1 ∧ r.2.1 < r.2.2.2
instance (r : Rc) : Decidable (rectP r) := inferInstanceAs (Decidable (_ ∨ _))
theorem none_ok (r : Rc) : (r.1 == 0 && (r.2.1 == 0 && (r.2.2.1 == 0 && (r.2.2.2 == 0 && true)))) = decide (noneP r) := by
  rw [Bool.eq_iff_iff, decide_eq_true_iff]
  unfold noneP
  simp
theorem rempty_ok (k : Nat) (r : Rc) : F100 k r = some ((decide (noneP r), ()), ()) := by
  unfold F100; rw [none_ok]
theorem rcoord_ok (k : Nat) (n : Int) : F98 k n = some ((decide (coordP n), ()), ()) := by
  unfold F98 coordP
  by_cases h : -1048576 ≤ n <;> simp [h]
theorem rrect_ok (k : Nat) (r : Rc) : F99 k r = some ((decide (rectP r), ()), ()) := by
  unfold F99 rectP
  simp only [none_ok, rcoord_ok, Option.bind_some]
  by_cases h0 : noneP r
  · simp [h0]
  by_cases h1 : coordP r.1
  by_cases h2 : coordP r.2.1
  by_cases h3 : coordP r.2.2.1
  by_cases h4 : coordP r.2.2.2
  by_cases h5 : r.1 < r.2.2.1
  all_goals simp [*]
theorem full_ok (k : Nat) (r : Rc) : F101 k r = some ((decide (rectP r ∧ ¬ noneP r), ()), ()) := by
  unfold F101
  simp only [rrect_ok, rempty_ok, Option.bind_some]
  by_cases h : rectP r <;> by_cases h2 : noneP r <;> simp [h, h2]
/-- A rectangle of points of a plane. -/
def goodP (r : Rc) (w h : Int) : Prop := 0 ≤ r.1 ∧ 0 ≤ r.2.1 ∧ r.2.2.1 ≤ w ∧ r.2.2.2 ≤ h ∧ r.1 < r.2.2.1 ∧ r.2.1 < r.2.2.2
instance (r : Rc) (w h : Int) : Decidable (goodP r w h) := inferInstanceAs (Decidable (_ ∧ _))
theorem cover_rect {w h : Int} (hw : 1 ≤ w ∧ w ≤ 128) (hh : 1 ≤ h ∧ h ≤ 128) : rectP (0, 0, w, h) := by
  refine .inr ⟨?_, ?_, ?_, ?_, show (0 : Int) < w by omega, show (0 : Int) < h by omega⟩ <;> (unfold coordP; simp only; omega)
end Go.Lf.T
