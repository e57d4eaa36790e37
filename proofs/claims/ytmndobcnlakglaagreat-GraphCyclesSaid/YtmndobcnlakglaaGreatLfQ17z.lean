import Derived.Test.YtmndobcnlakglaaGreatLfSh17z
import Derived.KernelRfl
set_option linter.unusedVariables false
set_option maxRecDepth 100000
namespace Go.Lf.T
open Go Go.Lf
noncomputable section
def F116 (k : Nat) (a0 : (List Int) × Int) (a1 : List Int) : Option ((Int × Unit) × (((List Int) × Int) × Unit)) :=
 (F6 k a0 (a1.length : Int)).bind fun (y1 : (Int × Unit) × (((List Int) × Int) × Unit)) => if 0 <= y1.1.1 then (a1[y1.1.1.toNat]?).bind fun (x2 : Int) => some ((x2, ()), (y1.2.1, ())) else none
def F117.loop0 {R : Type} (k : Nat) (j : Nat) : Int -> (List Int) -> Int -> Int -> Int -> Int -> (List Int) -> ((List Int) -> Int -> Int -> Int -> Int -> (List Int) -> Option R) -> Option R :=
 Nat.rec (motive := fun _ => _)
  (fun _ _ _ _ _ _ _ _ => none)
  (fun _ ih (s8 : Int) (b0_0 : List Int) (b0_1 : Int) (b7_0 : Int) (b7_1 : Int) (b7_2 : Int) (b7_3 : List Int) (e0 : (List Int) -> Int -> Int -> Int -> Int -> (List Int) -> Option R) => bif decide (s8 < ((b7_3.length : Nat) : Int)) then ((F6 k (b0_0, b0_1) (w64 (b7_2 + 1))).bind fun (y2 : (Int × Unit) × (((List Int) × Int) × Unit)) => (F6 k y2.2.1 (w64 (b7_2 + 1))).bind fun (y3 : (Int × Unit) × (((List Int) × Int) × Unit)) => (F116 k y3.2.1 [y2.1.1, y3.1.1, b7_2, 0]).bind fun (y4 : (Int × Unit) × (((List Int) × Int) × Unit)) => if 0 <= s8 /\ s8 < ((b7_3.length : Nat) : Int) then (b7_3[s8.toNat]?).bind fun (x5 : Int) => ih (w64 (s8 + 1)) y4.2.1.1 y4.2.1.2 b7_0 b7_1 b7_2 (b7_3.set s8.toNat y4.1.1) e0 else none) else (e0 b0_0 b0_1 b7_0 b7_1 b7_2 b7_3)) j
theorem F117.loop0_s {R : Type} (k : Nat) (j : Nat) (s8 : Int) (b0_0 : List Int) (b0_1 : Int) (b7_0 : Int) (b7_1 : Int) (b7_2 : Int) (b7_3 : List Int) (e0 : (List Int) -> Int -> Int -> Int -> Int -> (List Int) -> Option R) : F117.loop0 k (j + 1) s8 b0_0 b0_1 b7_0 b7_1 b7_2 b7_3 e0 =
  (bif decide (s8 < ((b7_3.length : Nat) : Int)) then ((F6 k (b0_0, b0_1) (w64 (b7_2 + 1))).bind fun (y2 : (Int × Unit) × (((List Int) × Int) × Unit)) => (F6 k y2.2.1 (w64 (b7_2 + 1))).bind fun (y3 : (Int × Unit) × (((List Int) × Int) × Unit)) => (F116 k y3.2.1 [y2.1.1, y3.1.1, b7_2, 0]).bind fun (y4 : (Int × Unit) × (((List Int) × Int) × Unit)) => if 0 <= s8 /\ s8 < ((b7_3.length : Nat) : Int) then (b7_3[s8.toNat]?).bind fun (x5 : Int) => F117.loop0 k j (w64 (s8 + 1)) y4.2.1.1 y4.2.1.2 b7_0 b7_1 b7_2 (b7_3.set s8.toNat y4.1.1) e0 else none) else (e0 b0_0 b0_1 b7_0 b7_1 b7_2 b7_3)) := rfl
def F117 (k : Nat) (a0 : (List Int) × Int) (a1 : Int) (a2 : Int) : Option (((Int × Int × Int × List Int) × Unit) × (((List Int) × Int) × Unit)) :=
 (F116 k a0 [255, 255, 65535, 1, 7]).bind fun (y1 : (Int × Unit) × (((List Int) × Int) × Unit)) => if 0 <= w64 (a1 * a2) /\ w64 (a1 * a2) <= w64 (a1 * a2) /\ w64 (a1 * a2) * ((8 : Nat) : Int) <= 140737488355328 then F117.loop0 k k 0 y1.2.1.1 y1.2.1.2 a1 a2 y1.1.1 (List.replicate ((w64 (a1 * a2)).toNat) (0 : Int)) (fun (z6 : List Int) (z7 : Int) (z8 : Int) (z9 : Int) (z10 : Int) (z11 : List Int) => (some (((z8, z9, z10, z11), ()), ((z6, z7), ())))) else none
def F118.loop0 {R : Type} (k : Nat) (j : Nat) : Int -> Int -> (List Int) -> Int -> (List Int) -> ((List Int) -> Int -> (List Int) -> Option R) -> Option R :=
 Nat.rec (motive := fun _ => _)
  (fun _ _ _ _ _ _ => none)
  (fun _ ih (s1 : Int) (s6 : Int) (b0_0 : List Int) (b0_1 : Int) (l5 : List Int) (e0 : (List Int) -> Int -> (List Int) -> Option R) => bif decide (s6 < s1) then ((F6 k (b0_0, b0_1) 41).bind fun (y1 : (Int × Unit) × (((List Int) × Int) × Unit)) => (F116 k y1.2.1 [1, 2, (-1), 0, w64 (y1.1.1 - 20), 5]).bind fun (y2 : (Int × Unit) × (((List Int) × Int) × Unit)) => if (l5 ++ [y2.1.1]).length * 8 <= 140737488355328 then ih s1 (w64 (s6 + 1)) y2.2.1.1 y2.2.1.2 (l5 ++ [y2.1.1]) e0 else none) else (e0 b0_0 b0_1 l5)) j
theorem F118.loop0_s {R : Type} (k : Nat) (j : Nat) (s1 : Int) (s6 : Int) (b0_0 : List Int) (b0_1 : Int) (l5 : List Int) (e0 : (List Int) -> Int -> (List Int) -> Option R) : F118.loop0 k (j + 1) s1 s6 b0_0 b0_1 l5 e0 =
  (bif decide (s6 < s1) then ((F6 k (b0_0, b0_1) 41).bind fun (y1 : (Int × Unit) × (((List Int) × Int) × Unit)) => (F116 k y1.2.1 [1, 2, (-1), 0, w64 (y1.1.1 - 20), 5]).bind fun (y2 : (Int × Unit) × (((List Int) × Int) × Unit)) => if (l5 ++ [y2.1.1]).length * 8 <= 140737488355328 then F118.loop0 k j s1 (w64 (s6 + 1)) y2.2.1.1 y2.2.1.2 (l5 ++ [y2.1.1]) e0 else none) else (e0 b0_0 b0_1 l5)) := rfl
def F118 (k : Nat) (a0 : (List Int) × Int) (a1 : Int) : Option (((List Int) × Unit) × (((List Int) × Int) × Unit)) :=
 F118.loop0 k k a1 0 a0.1 a0.2 ([] : List Int) (fun (z3 : List Int) (z4 : Int) (z5 : List Int) => (some ((z5, ()), ((z3, z4), ()))))
def F119.loop0 {R : Type} (k : Nat) (j : Nat) : Int -> Int -> Int -> Int -> (List (Int × List Int)) -> ((List (Int × List Int)) -> Option R) -> Option R :=
 Nat.rec (motive := fun _ => _)
  (fun _ _ _ _ _ _ => none)
  (fun _ ih (s0 : Int) (s1 : Int) (s2 : Int) (s9 : Int) (l8 : List (Int × List Int)) (e0 : (List (Int × List Int)) -> Option R) => bif decide (s9 < s1) then (if w64 (2 * s1) = 0 then none else bif decide ((w64 ((w64 ((w64 ((w64 ((w64 ((w64 (2 * s9)) + 1)) * s0)) - s1)).tdiv (w64 (2 * s1)))) * (w64 (2 * s1)))) > (w64 ((w64 ((w64 ((w64 (2 * s9)) + 1)) * s0)) - s1))) then (if IntKind.u64.wrap s2 < 0 then none else if w64 (2 * (w64 (2 * s1))) = 0 then none else if (l8 ++ [(w64 ((w64 ((w64 ((w64 ((w64 ((w64 (2 * s9)) + 1)) * s0)) - s1)).tdiv (w64 (2 * s1)))) - 1), [w64 ((w64 (1 * 2 ^ (min ((IntKind.u64.wrap s2).toNat) IntKind.i64.bits))) - (w64 ((w64 ((w64 ((w64 (2 * (w64 ((w64 ((w64 ((w64 ((w64 (2 * s9)) + 1)) * s0)) - s1)) - (w64 ((w64 ((w64 ((w64 ((w64 ((w64 ((w64 (2 * s9)) + 1)) * s0)) - s1)).tdiv (w64 (2 * s1)))) - 1)) * (w64 (2 * s1)))))))) * (w64 (1 * 2 ^ (min ((IntKind.u64.wrap s2).toNat) IntKind.i64.bits))))) + (w64 (2 * s1)))).tdiv (w64 (2 * (w64 (2 * s1))))))), w64 ((w64 ((w64 ((w64 (2 * (w64 ((w64 ((w64 ((w64 ((w64 (2 * s9)) + 1)) * s0)) - s1)) - (w64 ((w64 ((w64 ((w64 ((w64 ((w64 ((w64 (2 * s9)) + 1)) * s0)) - s1)).tdiv (w64 (2 * s1)))) - 1)) * (w64 (2 * s1)))))))) * (w64 (1 * 2 ^ (min ((IntKind.u64.wrap s2).toNat) IntKind.i64.bits))))) + (w64 (2 * s1)))).tdiv (w64 (2 * (w64 (2 * s1)))))])]).length * 32 <= 140737488355328 then ih s0 s1 s2 (w64 (s9 + 1)) (l8 ++ [(w64 ((w64 ((w64 ((w64 ((w64 ((w64 (2 * s9)) + 1)) * s0)) - s1)).tdiv (w64 (2 * s1)))) - 1), [w64 ((w64 (1 * 2 ^ (min ((IntKind.u64.wrap s2).toNat) IntKind.i64.bits))) - (w64 ((w64 ((w64 ((w64 (2 * (w64 ((w64 ((w64 ((w64 ((w64 (2 * s9)) + 1)) * s0)) - s1)) - (w64 ((w64 ((w64 ((w64 ((w64 ((w64 ((w64 (2 * s9)) + 1)) * s0)) - s1)).tdiv (w64 (2 * s1)))) - 1)) * (w64 (2 * s1)))))))) * (w64 (1 * 2 ^ (min ((IntKind.u64.wrap s2).toNat) IntKind.i64.bits))))) + (w64 (2 * s1)))).tdiv (w64 (2 * (w64 (2 * s1))))))), w64 ((w64 ((w64 ((w64 (2 * (w64 ((w64 ((w64 ((w64 ((w64 (2 * s9)) + 1)) * s0)) - s1)) - (w64 ((w64 ((w64 ((w64 ((w64 ((w64 ((w64 (2 * s9)) + 1)) * s0)) - s1)).tdiv (w64 (2 * s1)))) - 1)) * (w64 (2 * s1)))))))) * (w64 (1 * 2 ^ (min ((IntKind.u64.wrap s2).toNat) IntKind.i64.bits))))) + (w64 (2 * s1)))).tdiv (w64 (2 * (w64 (2 * s1)))))])]) e0 else none) else (if IntKind.u64.wrap s2 < 0 then none else if w64 (2 * (w64 (2 * s1))) = 0 then none else if (l8 ++ [(w64 ((w64 ((w64 ((w64 ((w64 (2 * s9)) + 1)) * s0)) - s1)).tdiv (w64 (2 * s1))), [w64 ((w64 (1 * 2 ^ (min ((IntKind.u64.wrap s2).toNat) IntKind.i64.bits))) - (w64 ((w64 ((w64 ((w64 (2 * (w64 ((w64 ((w64 ((w64 ((w64 (2 * s9)) + 1)) * s0)) - s1)) - (w64 ((w64 ((w64 ((w64 ((w64 ((w64 (2 * s9)) + 1)) * s0)) - s1)).tdiv (w64 (2 * s1)))) * (w64 (2 * s1)))))))) * (w64 (1 * 2 ^ (min ((IntKind.u64.wrap s2).toNat) IntKind.i64.bits))))) + (w64 (2 * s1)))).tdiv (w64 (2 * (w64 (2 * s1))))))), w64 ((w64 ((w64 ((w64 (2 * (w64 ((w64 ((w64 ((w64 ((w64 (2 * s9)) + 1)) * s0)) - s1)) - (w64 ((w64 ((w64 ((w64 ((w64 ((w64 (2 * s9)) + 1)) * s0)) - s1)).tdiv (w64 (2 * s1)))) * (w64 (2 * s1)))))))) * (w64 (1 * 2 ^ (min ((IntKind.u64.wrap s2).toNat) IntKind.i64.bits))))) + (w64 (2 * s1)))).tdiv (w64 (2 * (w64 (2 * s1)))))])]).length * 32 <= 140737488355328 then ih s0 s1 s2 (w64 (s9 + 1)) (l8 ++ [(w64 ((w64 ((w64 ((w64 ((w64 (2 * s9)) + 1)) * s0)) - s1)).tdiv (w64 (2 * s1))), [w64 ((w64 (1 * 2 ^ (min ((IntKind.u64.wrap s2).toNat) IntKind.i64.bits))) - (w64 ((w64 ((w64 ((w64 (2 * (w64 ((w64 ((w64 ((w64 ((w64 (2 * s9)) + 1)) * s0)) - s1)) - (w64 ((w64 ((w64 ((w64 ((w64 ((w64 (2 * s9)) + 1)) * s0)) - s1)).tdiv (w64 (2 * s1)))) * (w64 (2 * s1)))))))) * (w64 (1 * 2 ^ (min ((IntKind.u64.wrap s2).toNat) IntKind.i64.bits))))) + (w64 (2 * s1)))).tdiv (w64 (2 * (w64 (2 * s1))))))), w64 ((w64 ((w64 ((w64 (2 * (w64 ((w64 ((w64 ((w64 ((w64 (2 * s9)) + 1)) * s0)) - s1)) - (w64 ((w64 ((w64 ((w64 ((w64 ((w64 (2 * s9)) + 1)) * s0)) - s1)).tdiv (w64 (2 * s1)))) * (w64 (2 * s1)))))))) * (w64 (1 * 2 ^ (min ((IntKind.u64.wrap s2).toNat) IntKind.i64.bits))))) + (w64 (2 * s1)))).tdiv (w64 (2 * (w64 (2 * s1)))))])]) e0 else none)) else (e0 l8)) j
theorem F119.loop0_s {R : Type} (k : Nat) (j : Nat) (s0 : Int) (s1 : Int) (s2 : Int) (s9 : Int) (l8 : List (Int × List Int)) (e0 : (List (Int × List Int)) -> Option R) : F119.loop0 k (j + 1) s0 s1 s2 s9 l8 e0 =
  (bif decide (s9 < s1) then (if w64 (2 * s1) = 0 then none else bif decide ((w64 ((w64 ((w64 ((w64 ((w64 ((w64 (2 * s9)) + 1)) * s0)) - s1)).tdiv (w64 (2 * s1)))) * (w64 (2 * s1)))) > (w64 ((w64 ((w64 ((w64 (2 * s9)) + 1)) * s0)) - s1))) then (if IntKind.u64.wrap s2 < 0 then none else if w64 (2 * (w64 (2 * s1))) = 0 then none else if (l8 ++ [(w64 ((w64 ((w64 ((w64 ((w64 ((w64 (2 * s9)) + 1)) * s0)) - s1)).tdiv (w64 (2 * s1)))) - 1), [w64 ((w64 (1 * 2 ^ (min ((IntKind.u64.wrap s2).toNat) IntKind.i64.bits))) - (w64 ((w64 ((w64 ((w64 (2 * (w64 ((w64 ((w64 ((w64 ((w64 (2 * s9)) + 1)) * s0)) - s1)) - (w64 ((w64 ((w64 ((w64 ((w64 ((w64 ((w64 (2 * s9)) + 1)) * s0)) - s1)).tdiv (w64 (2 * s1)))) - 1)) * (w64 (2 * s1)))))))) * (w64 (1 * 2 ^ (min ((IntKind.u64.wrap s2).toNat) IntKind.i64.bits))))) + (w64 (2 * s1)))).tdiv (w64 (2 * (w64 (2 * s1))))))), w64 ((w64 ((w64 ((w64 (2 * (w64 ((w64 ((w64 ((w64 ((w64 (2 * s9)) + 1)) * s0)) - s1)) - (w64 ((w64 ((w64 ((w64 ((w64 ((w64 ((w64 (2 * s9)) + 1)) * s0)) - s1)).tdiv (w64 (2 * s1)))) - 1)) * (w64 (2 * s1)))))))) * (w64 (1 * 2 ^ (min ((IntKind.u64.wrap s2).toNat) IntKind.i64.bits))))) + (w64 (2 * s1)))).tdiv (w64 (2 * (w64 (2 * s1)))))])]).length * 32 <= 140737488355328 then F119.loop0 k j s0 s1 s2 (w64 (s9 + 1)) (l8 ++ [(w64 ((w64 ((w64 ((w64 ((w64 ((w64 (2 * s9)) + 1)) * s0)) - s1)).tdiv (w64 (2 * s1)))) - 1), [w64 ((w64 (1 * 2 ^ (min ((IntKind.u64.wrap s2).toNat) IntKind.i64.bits))) - (w64 ((w64 ((w64 ((w64 (2 * (w64 ((w64 ((w64 ((w64 ((w64 (2 * s9)) + 1)) * s0)) - s1)) - (w64 ((w64 ((w64 ((w64 ((w64 ((w64 ((w64 (2 * s9)) + 1)) * s0)) - s1)).tdiv (w64 (2 * s1)))) - 1)) * (w64 (2 * s1)))))))) * (w64 (1 * 2 ^ (min ((IntKind.u64.wrap s2).toNat) IntKind.i64.bits))))) + (w64 (2 * s1)))).tdiv (w64 (2 * (w64 (2 * s1))))))), w64 ((w64 ((w64 ((w64 (2 * (w64 ((w64 ((w64 ((w64 ((w64 (2 * s9)) + 1)) * s0)) - s1)) - (w64 ((w64 ((w64 ((w64 ((w64 ((w64 ((w64 (2 * s9)) + 1)) * s0)) - s1)).tdiv (w64 (2 * s1)))) - 1)) * (w64 (2 * s1)))))))) * (w64 (1 * 2 ^ (min ((IntKind.u64.wrap s2).toNat) IntKind.i64.bits))))) + (w64 (2 * s1)))).tdiv (w64 (2 * (w64 (2 * s1)))))])]) e0 else none) else (if IntKind.u64.wrap s2 < 0 then none else if w64 (2 * (w64 (2 * s1))) = 0 then none else if (l8 ++ [(w64 ((w64 ((w64 ((w64 ((w64 (2 * s9)) + 1)) * s0)) - s1)).tdiv (w64 (2 * s1))), [w64 ((w64 (1 * 2 ^ (min ((IntKind.u64.wrap s2).toNat) IntKind.i64.bits))) - (w64 ((w64 ((w64 ((w64 (2 * (w64 ((w64 ((w64 ((w64 ((w64 (2 * s9)) + 1)) * s0)) - s1)) - (w64 ((w64 ((w64 ((w64 ((w64 ((w64 (2 * s9)) + 1)) * s0)) - s1)).tdiv (w64 (2 * s1)))) * (w64 (2 * s1)))))))) * (w64 (1 * 2 ^ (min ((IntKind.u64.wrap s2).toNat) IntKind.i64.bits))))) + (w64 (2 * s1)))).tdiv (w64 (2 * (w64 (2 * s1))))))), w64 ((w64 ((w64 ((w64 (2 * (w64 ((w64 ((w64 ((w64 ((w64 (2 * s9)) + 1)) * s0)) - s1)) - (w64 ((w64 ((w64 ((w64 ((w64 ((w64 (2 * s9)) + 1)) * s0)) - s1)).tdiv (w64 (2 * s1)))) * (w64 (2 * s1)))))))) * (w64 (1 * 2 ^ (min ((IntKind.u64.wrap s2).toNat) IntKind.i64.bits))))) + (w64 (2 * s1)))).tdiv (w64 (2 * (w64 (2 * s1)))))])]).length * 32 <= 140737488355328 then F119.loop0 k j s0 s1 s2 (w64 (s9 + 1)) (l8 ++ [(w64 ((w64 ((w64 ((w64 ((w64 (2 * s9)) + 1)) * s0)) - s1)).tdiv (w64 (2 * s1))), [w64 ((w64 (1 * 2 ^ (min ((IntKind.u64.wrap s2).toNat) IntKind.i64.bits))) - (w64 ((w64 ((w64 ((w64 (2 * (w64 ((w64 ((w64 ((w64 ((w64 (2 * s9)) + 1)) * s0)) - s1)) - (w64 ((w64 ((w64 ((w64 ((w64 ((w64 (2 * s9)) + 1)) * s0)) - s1)).tdiv (w64 (2 * s1)))) * (w64 (2 * s1)))))))) * (w64 (1 * 2 ^ (min ((IntKind.u64.wrap s2).toNat) IntKind.i64.bits))))) + (w64 (2 * s1)))).tdiv (w64 (2 * (w64 (2 * s1))))))), w64 ((w64 ((w64 ((w64 (2 * (w64 ((w64 ((w64 ((w64 ((w64 (2 * s9)) + 1)) * s0)) - s1)) - (w64 ((w64 ((w64 ((w64 ((w64 ((w64 (2 * s9)) + 1)) * s0)) - s1)).tdiv (w64 (2 * s1)))) * (w64 (2 * s1)))))))) * (w64 (1 * 2 ^ (min ((IntKind.u64.wrap s2).toNat) IntKind.i64.bits))))) + (w64 (2 * s1)))).tdiv (w64 (2 * (w64 (2 * s1)))))])]) e0 else none)) else (e0 l8)) := rfl
def F119 (k : Nat) (a0 : Int) (a1 : Int) (a2 : Int) : Option (((List (Int × List Int)) × Int × Unit) × (Unit)) :=
 (F90 k a0).bind fun (y1 : (Bool × Unit) × (Unit)) => bif !y1.1.1 then (some ((([] : List (Int × List Int)), 8, ()), ())) else ((F90 k a1).bind fun (y2 : (Bool × Unit) × (Unit)) => bif !y2.1.1 then (some ((([] : List (Int × List Int)), 8, ()), ())) else (bif decide (a2 < 0) then (some ((([] : List (Int × List Int)), 2, ()), ())) else (bif decide (a2 > 14) then (some ((([] : List (Int × List Int)), 2, ()), ())) else (F119.loop0 k k a0 a1 a2 0 ([] : List (Int × List Int)) (fun (z3 : List (Int × List Int)) => (some ((z3, 0, ()), ())))))))
def F120.loop0 {R : Type} (k : Nat) (j : Nat) : (List Int) -> Int -> Int -> (Int -> Option R) -> Option R :=
 Nat.rec (motive := fun _ => _)
  (fun _ _ _ _ => none)
  (fun _ ih (s1 : List Int) (s5 : Int) (s6 : Int) (e0 : Int -> Option R) => bif decide (s6 < (s1.length : Int)) then (if 0 <= s6 then (s1[s6.toNat]?).bind fun (x1 : Int) => ih s1 (w64 (s5 + x1)) (w64 (s6 + 1)) e0 else none) else (e0 s5)) j
theorem F120.loop0_s {R : Type} (k : Nat) (j : Nat) (s1 : List Int) (s5 : Int) (s6 : Int) (e0 : Int -> Option R) : F120.loop0 k (j + 1) s1 s5 s6 e0 =
  (bif decide (s6 < (s1.length : Int)) then (if 0 <= s6 then (s1[s6.toNat]?).bind fun (x1 : Int) => F120.loop0 k j s1 (w64 (s5 + x1)) (w64 (s6 + 1)) e0 else none) else (e0 s5)) := rfl
def F120.loop1 {R : Type} (k : Nat) (j : Nat) : Int -> (List Int) -> Int -> Int -> Int -> (List Int) -> (List Int) -> (Int -> (List Int) -> (List Int) -> Option R) -> Option R :=
 Nat.rec (motive := fun _ => _)
  (fun _ _ _ _ _ _ _ _ => none)
  (fun _ ih (s0 : Int) (s1 : List Int) (s5 : Int) (s9 : Int) (s10 : Int) (l7 : List Int) (l8 : List Int) (e0 : Int -> (List Int) -> (List Int) -> Option R) => bif decide (s10 < (s1.length : Int)) then (if 0 <= s10 then (s1[s10.toNat]?).bind fun (x3 : Int) => if s5 = 0 then none else if 0 <= s10 then (s1[s10.toNat]?).bind fun (x4 : Int) => if s5 = 0 then none else if 0 <= s10 /\ s10 < ((l7.length : Nat) : Int) then (l7[s10.toNat]?).bind fun (x5 : Int) => if 0 <= s10 /\ s10 < ((l8.length : Nat) : Int) then (l8[s10.toNat]?).bind fun (x6 : Int) => if 0 <= s10 /\ s10 < ((l7.length : Nat) : Int) then ((l7.set s10.toNat (w64 ((w64 (s0 * x3)).tdiv s5)))[s10.toNat]?).bind fun (x7 : Int) => ih s0 s1 s5 (w64 (s9 - x7)) (w64 (s10 + 1)) (l7.set s10.toNat (w64 ((w64 (s0 * x3)).tdiv s5))) (l8.set s10.toNat ((w64 (s0 * x4)).tmod s5)) e0 else none else none else none else none else none) else (e0 s9 l7 l8)) j
theorem F120.loop1_s {R : Type} (k : Nat) (j : Nat) (s0 : Int) (s1 : List Int) (s5 : Int) (s9 : Int) (s10 : Int) (l7 : List Int) (l8 : List Int) (e0 : Int -> (List Int) -> (List Int) -> Option R) : F120.loop1 k (j + 1) s0 s1 s5 s9 s10 l7 l8 e0 =
  (bif decide (s10 < (s1.length : Int)) then (if 0 <= s10 then (s1[s10.toNat]?).bind fun (x3 : Int) => if s5 = 0 then none else if 0 <= s10 then (s1[s10.toNat]?).bind fun (x4 : Int) => if s5 = 0 then none else if 0 <= s10 /\ s10 < ((l7.length : Nat) : Int) then (l7[s10.toNat]?).bind fun (x5 : Int) => if 0 <= s10 /\ s10 < ((l8.length : Nat) : Int) then (l8[s10.toNat]?).bind fun (x6 : Int) => if 0 <= s10 /\ s10 < ((l7.length : Nat) : Int) then ((l7.set s10.toNat (w64 ((w64 (s0 * x3)).tdiv s5)))[s10.toNat]?).bind fun (x7 : Int) => F120.loop1 k j s0 s1 s5 (w64 (s9 - x7)) (w64 (s10 + 1)) (l7.set s10.toNat (w64 ((w64 (s0 * x3)).tdiv s5))) (l8.set s10.toNat ((w64 (s0 * x4)).tmod s5)) e0 else none else none else none else none else none) else (e0 s9 l7 l8)) := rfl
def F120.loop3 {R : Type} (k : Nat) (j : Nat) : Int -> Int -> (List Int) -> (Int -> (List Int) -> Option R) -> Option R :=
 Nat.rec (motive := fun _ => _)
  (fun _ _ _ _ => none)
  (fun _ ih (s11 : Int) (s12 : Int) (l8 : List Int) (e0 : Int -> (List Int) -> Option R) => bif decide (s12 < ((l8.length : Nat) : Int)) then (if 0 <= s12 /\ s12 < ((l8.length : Nat) : Int) then (l8[s12.toNat]?).bind fun (x11 : Int) => if 0 <= s11 /\ s11 < ((l8.length : Nat) : Int) then (l8[s11.toNat]?).bind fun (x12 : Int) => bif decide (x11 > x12) then (ih s12 (w64 (s12 + 1)) l8 e0) else (ih s11 (w64 (s12 + 1)) l8 e0) else none else none) else (e0 s11 l8)) j
theorem F120.loop3_s {R : Type} (k : Nat) (j : Nat) (s11 : Int) (s12 : Int) (l8 : List Int) (e0 : Int -> (List Int) -> Option R) : F120.loop3 k (j + 1) s11 s12 l8 e0 =
  (bif decide (s12 < ((l8.length : Nat) : Int)) then (if 0 <= s12 /\ s12 < ((l8.length : Nat) : Int) then (l8[s12.toNat]?).bind fun (x11 : Int) => if 0 <= s11 /\ s11 < ((l8.length : Nat) : Int) then (l8[s11.toNat]?).bind fun (x12 : Int) => bif decide (x11 > x12) then (F120.loop3 k j s12 (w64 (s12 + 1)) l8 e0) else (F120.loop3 k j s11 (w64 (s12 + 1)) l8 e0) else none else none) else (e0 s11 l8)) := rfl
def F120.loop2 {R : Type} (k : Nat) (j : Nat) : Int -> (List Int) -> (List Int) -> ((List Int) -> Option R) -> Option R :=
 Nat.rec (motive := fun _ => _)
  (fun _ _ _ _ => none)
  (fun _ ih (s9 : Int) (l7 : List Int) (l8 : List Int) (e0 : (List Int) -> Option R) => bif decide (s9 > 0) then (F120.loop3 k k 0 1 l8 (fun (z11 : Int) (z12 : List Int) => (if 0 <= z11 /\ z11 < ((l7.length : Nat) : Int) then (l7[z11.toNat]?).bind fun (x13 : Int) => if 0 <= z11 /\ z11 < ((l7.length : Nat) : Int) then (l7[z11.toNat]?).bind fun (x14 : Int) => if 0 <= z11 /\ z11 < ((z12.length : Nat) : Int) then (z12[z11.toNat]?).bind fun (x15 : Int) => ih (w64 (s9 - 1)) (l7.set z11.toNat (w64 (x13 + 1))) (z12.set z11.toNat (-1)) e0 else none else none else none))) else (e0 l7)) j
theorem F120.loop2_s {R : Type} (k : Nat) (j : Nat) (s9 : Int) (l7 : List Int) (l8 : List Int) (e0 : (List Int) -> Option R) : F120.loop2 k (j + 1) s9 l7 l8 e0 =
  (bif decide (s9 > 0) then (F120.loop3 k k 0 1 l8 (fun (z11 : Int) (z12 : List Int) => (if 0 <= z11 /\ z11 < ((l7.length : Nat) : Int) then (l7[z11.toNat]?).bind fun (x13 : Int) => if 0 <= z11 /\ z11 < ((l7.length : Nat) : Int) then (l7[z11.toNat]?).bind fun (x14 : Int) => if 0 <= z11 /\ z11 < ((z12.length : Nat) : Int) then (z12[z11.toNat]?).bind fun (x15 : Int) => F120.loop2 k j (w64 (s9 - 1)) (l7.set z11.toNat (w64 (x13 + 1))) (z12.set z11.toNat (-1)) e0 else none else none else none))) else (e0 l7)) := rfl
def F120 (k : Nat) (a0 : Int) (a1 : List Int) : Option (((List Int) × Unit) × (Unit)) :=
 F120.loop0 k k a1 0 0 (fun (z2 : Int) => (if 0 <= (a1.length : Int) /\ (a1.length : Int) <= (a1.length : Int) /\ (a1.length : Int) * ((8 : Nat) : Int) <= 140737488355328 then if 0 <= (a1.length : Int) /\ (a1.length : Int) <= (a1.length : Int) /\ (a1.length : Int) * ((8 : Nat) : Int) <= 140737488355328 then F120.loop1 k k a0 a1 z2 a0 0 (List.replicate ((a1.length : Int).toNat) (0 : Int)) (List.replicate ((a1.length : Int).toNat) (0 : Int)) (fun (z8 : Int) (z9 : List Int) (z10 : List Int) => (F120.loop2 k k z8 z9 z10 (fun (z16 : List Int) => (some ((z16, ()), ()))))) else none else none))
def F121.loop1 {R : Type} (k : Nat) (j : Nat) : Int -> Int -> Int -> Int -> (List Int) -> ((List Int) -> Option R) -> Option R :=
 Nat.rec (motive := fun _ => _)
  (fun _ _ _ _ _ _ => none)
  (fun _ ih (s1 : Int) (s10 : Int) (s11 : Int) (s14 : Int) (l13 : List Int) (e0 : (List Int) -> Option R) => bif decide ((w64 (s14 * s1)) < s11) then (if (l13 ++ [w64 ((mm false s11 (w64 ((w64 (s14 + 1)) * s1))) - (mm true s10 (w64 (s14 * s1))))]).length * 8 <= 140737488355328 then ih s1 s10 s11 (w64 (s14 + 1)) (l13 ++ [w64 ((mm false s11 (w64 ((w64 (s14 + 1)) * s1))) - (mm true s10 (w64 (s14 * s1))))]) e0 else none) else (e0 l13)) j
theorem F121.loop1_s {R : Type} (k : Nat) (j : Nat) (s1 : Int) (s10 : Int) (s11 : Int) (s14 : Int) (l13 : List Int) (e0 : (List Int) -> Option R) : F121.loop1 k (j + 1) s1 s10 s11 s14 l13 e0 =
  (bif decide ((w64 (s14 * s1)) < s11) then (if (l13 ++ [w64 ((mm false s11 (w64 ((w64 (s14 + 1)) * s1))) - (mm true s10 (w64 (s14 * s1))))]).length * 8 <= 140737488355328 then F121.loop1 k j s1 s10 s11 (w64 (s14 + 1)) (l13 ++ [w64 ((mm false s11 (w64 ((w64 (s14 + 1)) * s1))) - (mm true s10 (w64 (s14 * s1))))]) e0 else none) else (e0 l13)) := rfl
def F121.loop0 {R : Type} (k : Nat) (j : Nat) : Int -> Int -> Int -> Int -> (List (Int × List Int)) -> (Int -> (List (Int × List Int)) -> Option R) -> ((List (Int × List Int)) -> Option R) -> Option R :=
 Nat.rec (motive := fun _ => _)
  (fun _ _ _ _ _ _ _ => none)
  (fun _ ih (s0 : Int) (s1 : Int) (s2 : Int) (s9 : Int) (l8 : List (Int × List Int)) (e0 : Int -> (List (Int × List Int)) -> Option R) (e1 : (List (Int × List Int)) -> Option R) => bif decide (s9 < s1) then (if s1 = 0 then none else F121.loop1 k k s1 (w64 (s9 * s0)) (w64 ((w64 (s9 + 1)) * s0)) (w64 ((w64 (s9 * s0)).tdiv s1)) ([] : List Int) (fun (z3 : List Int) => (bif decide (((z3.length : Nat) : Int) > 8) then (e0 9 ([] : List (Int × List Int))) else (if IntKind.u64.wrap s2 < 0 then none else (F120 k (w64 (1 * 2 ^ (min ((IntKind.u64.wrap s2).toNat) IntKind.i64.bits))) z3).bind fun (y4 : ((List Int) × Unit) × (Unit)) => if (l8 ++ [(w64 ((w64 (s9 * s0)).tdiv s1), y4.1.1)]).length * 32 <= 140737488355328 then ih s0 s1 s2 (w64 (s9 + 1)) (l8 ++ [(w64 ((w64 (s9 * s0)).tdiv s1), y4.1.1)]) e0 e1 else none)))) else (e1 l8)) j
theorem F121.loop0_s {R : Type} (k : Nat) (j : Nat) (s0 : Int) (s1 : Int) (s2 : Int) (s9 : Int) (l8 : List (Int × List Int)) (e0 : Int -> (List (Int × List Int)) -> Option R) (e1 : (List (Int × List Int)) -> Option R) : F121.loop0 k (j + 1) s0 s1 s2 s9 l8 e0 e1 =
  (bif decide (s9 < s1) then (if s1 = 0 then none else F121.loop1 k k s1 (w64 (s9 * s0)) (w64 ((w64 (s9 + 1)) * s0)) (w64 ((w64 (s9 * s0)).tdiv s1)) ([] : List Int) (fun (z3 : List Int) => (bif decide (((z3.length : Nat) : Int) > 8) then (e0 9 ([] : List (Int × List Int))) else (if IntKind.u64.wrap s2 < 0 then none else (F120 k (w64 (1 * 2 ^ (min ((IntKind.u64.wrap s2).toNat) IntKind.i64.bits))) z3).bind fun (y4 : ((List Int) × Unit) × (Unit)) => if (l8 ++ [(w64 ((w64 (s9 * s0)).tdiv s1), y4.1.1)]).length * 32 <= 140737488355328 then F121.loop0 k j s0 s1 s2 (w64 (s9 + 1)) (l8 ++ [(w64 ((w64 (s9 * s0)).tdiv s1), y4.1.1)]) e0 e1 else none)))) else (e1 l8)) := rfl
def F121 (k : Nat) (a0 : Int) (a1 : Int) (a2 : Int) : Option (((List (Int × List Int)) × Int × Unit) × (Unit)) :=
 (F90 k a0).bind fun (y1 : (Bool × Unit) × (Unit)) => bif !y1.1.1 then (some ((([] : List (Int × List Int)), 8, ()), ())) else ((F90 k a1).bind fun (y2 : (Bool × Unit) × (Unit)) => bif !y2.1.1 then (some ((([] : List (Int × List Int)), 8, ()), ())) else (bif decide (a2 < 0) then (some ((([] : List (Int × List Int)), 2, ()), ())) else (bif decide (a2 > 14) then (some ((([] : List (Int × List Int)), 2, ()), ())) else (F121.loop0 k k a0 a1 a2 0 ([] : List (Int × List Int)) (fun (z5 : Int) (z6 : List (Int × List Int)) => (some ((z6, z5, ()), ()))) (fun (z7 : List (Int × List Int)) => (some ((z7, 0, ()), ())))))))
def F122.loop0 {R : Type} (k : Nat) (j : Nat) : Int -> Int -> (List Int) -> Int -> (List (Int × List Int)) -> ((List Int) -> Int -> (List (Int × List Int)) -> Option R) -> Option R :=
 Nat.rec (motive := fun _ => _)
  (fun _ _ _ _ _ _ => none)
  (fun _ ih (s1 : Int) (s10 : Int) (b0_0 : List Int) (b0_1 : Int) (l6 : List (Int × List Int)) (e0 : (List Int) -> Int -> (List (Int × List Int)) -> Option R) => bif decide (s10 < ((l6.length : Nat) : Int)) then ((F6 k (b0_0, b0_1) 4).bind fun (y5 : (Int × Unit) × (((List Int) × Int) × Unit)) => bif y5.1.1 == 0 then ((F6 k y5.2.1 (w64 (s1 + 6))).bind fun (y6 : (Int × Unit) × (((List Int) × Int) × Unit)) => (F6 k y6.2.1 4).bind fun (y7 : (Int × Unit) × (((List Int) × Int) × Unit)) => (F118 k y7.2.1 (w64 (1 + y7.1.1))).bind fun (y8 : ((List Int) × Unit) × (((List Int) × Int) × Unit)) => if 0 <= s10 /\ s10 < ((l6.length : Nat) : Int) then (l6[s10.toNat]?).bind fun (x9 : Int × List Int) => ih s1 (w64 (s10 + 1)) y8.2.1.1 y8.2.1.2 (l6.set s10.toNat (w64 (y6.1.1 - 4), y8.1.1)) e0 else none) else (ih s1 (w64 (s10 + 1)) y5.2.1.1 y5.2.1.2 l6 e0)) else (e0 b0_0 b0_1 l6)) j
theorem F122.loop0_s {R : Type} (k : Nat) (j : Nat) (s1 : Int) (s10 : Int) (b0_0 : List Int) (b0_1 : Int) (l6 : List (Int × List Int)) (e0 : (List Int) -> Int -> (List (Int × List Int)) -> Option R) : F122.loop0 k (j + 1) s1 s10 b0_0 b0_1 l6 e0 =
  (bif decide (s10 < ((l6.length : Nat) : Int)) then ((F6 k (b0_0, b0_1) 4).bind fun (y5 : (Int × Unit) × (((List Int) × Int) × Unit)) => bif y5.1.1 == 0 then ((F6 k y5.2.1 (w64 (s1 + 6))).bind fun (y6 : (Int × Unit) × (((List Int) × Int) × Unit)) => (F6 k y6.2.1 4).bind fun (y7 : (Int × Unit) × (((List Int) × Int) × Unit)) => (F118 k y7.2.1 (w64 (1 + y7.1.1))).bind fun (y8 : ((List Int) × Unit) × (((List Int) × Int) × Unit)) => if 0 <= s10 /\ s10 < ((l6.length : Nat) : Int) then (l6[s10.toNat]?).bind fun (x9 : Int × List Int) => F122.loop0 k j s1 (w64 (s10 + 1)) y8.2.1.1 y8.2.1.2 (l6.set s10.toNat (w64 (y6.1.1 - 4), y8.1.1)) e0 else none) else (F122.loop0 k j s1 (w64 (s10 + 1)) y5.2.1.1 y5.2.1.2 l6 e0)) else (e0 b0_0 b0_1 l6)) := rfl
def F122 (k : Nat) (a0 : (List Int) × Int) (a1 : Int) : Option (((List (Int × List Int)) × Unit) × (((List Int) × Int) × Unit)) :=
 (F6 k a0 6).bind fun (y1 : (Int × Unit) × (((List Int) × Int) × Unit)) => (F119 k a1 (w64 (1 + y1.1.1)) 8).bind fun (y2 : ((List (Int × List Int)) × Int × Unit) × (Unit)) => (F6 k y1.2.1 2).bind fun (y3 : (Int × Unit) × (((List Int) × Int) × Unit)) => bif y3.1.1 == 0 then ((F121 k a1 (w64 (1 + y1.1.1)) 8).bind fun (y4 : ((List (Int × List Int)) × Int × Unit) × (Unit)) => bif y4.1.2.1 == 0 then (some ((y4.1.1, ()), (y3.2.1, ()))) else (some ((y2.1.1, ()), (y3.2.1, ())))) else (F122.loop0 k k a1 0 y3.2.1.1 y3.2.1.2 y2.1.1 (fun (z10 : List Int) (z11 : Int) (z12 : List (Int × List Int)) => (some ((z12, ()), ((z10, z11), ())))))
def F123.loop0 {R : Type} (k : Nat) (j : Nat) : Int -> (List Int) -> Int -> (List (Int × Int)) -> ((List Int) -> Int -> (List (Int × Int)) -> Option R) -> Option R :=
 Nat.rec (motive := fun _ => _)
  (fun _ _ _ _ _ => none)
  (fun _ ih (s6 : Int) (b0_0 : List Int) (b0_1 : Int) (l5 : List (Int × Int)) (e0 : (List Int) -> Int -> (List (Int × Int)) -> Option R) => bif decide (s6 > 0) then ((F6 k (b0_0, b0_1) 3).bind fun (y3 : (Int × Unit) × (((List Int) × Int) × Unit)) => bif y3.1.1 == 0 then ((F6 k y3.2.1 300).bind fun (y4 : (Int × Unit) × (((List Int) × Int) × Unit)) => (F116 k y4.2.1 [w64 (y4.1.1 - 100), 0, 3, (-2)]).bind fun (y5 : (Int × Unit) × (((List Int) × Int) × Unit)) => (F116 k y5.2.1 [3, 4, 5, 6, 7, 8, 9]).bind fun (y6 : (Int × Unit) × (((List Int) × Int) × Unit)) => if (l5 ++ [(2, y5.1.1), (y6.1.1, 0)]).length * 16 <= 140737488355328 then ih (w64 (s6 - 1)) y6.2.1.1 y6.2.1.2 (l5 ++ [(2, y5.1.1), (y6.1.1, 0)]) e0 else none) else (bif y3.1.1 == 1 then ((F6 k y3.2.1 4).bind fun (y7 : (Int × Unit) × (((List Int) × Int) × Unit)) => if (l5 ++ [(10, y7.1.1)]).length * 16 <= 140737488355328 then ih (w64 (s6 - 1)) y7.2.1.1 y7.2.1.2 (l5 ++ [(10, y7.1.1)]) e0 else none) else (if (l5 ++ [(11, 0)]).length * 16 <= 140737488355328 then ih (w64 (s6 - 1)) y3.2.1.1 y3.2.1.2 (l5 ++ [(11, 0)]) e0 else none))) else (e0 b0_0 b0_1 l5)) j
theorem F123.loop0_s {R : Type} (k : Nat) (j : Nat) (s6 : Int) (b0_0 : List Int) (b0_1 : Int) (l5 : List (Int × Int)) (e0 : (List Int) -> Int -> (List (Int × Int)) -> Option R) : F123.loop0 k (j + 1) s6 b0_0 b0_1 l5 e0 =
  (bif decide (s6 > 0) then ((F6 k (b0_0, b0_1) 3).bind fun (y3 : (Int × Unit) × (((List Int) × Int) × Unit)) => bif y3.1.1 == 0 then ((F6 k y3.2.1 300).bind fun (y4 : (Int × Unit) × (((List Int) × Int) × Unit)) => (F116 k y4.2.1 [w64 (y4.1.1 - 100), 0, 3, (-2)]).bind fun (y5 : (Int × Unit) × (((List Int) × Int) × Unit)) => (F116 k y5.2.1 [3, 4, 5, 6, 7, 8, 9]).bind fun (y6 : (Int × Unit) × (((List Int) × Int) × Unit)) => if (l5 ++ [(2, y5.1.1), (y6.1.1, 0)]).length * 16 <= 140737488355328 then F123.loop0 k j (w64 (s6 - 1)) y6.2.1.1 y6.2.1.2 (l5 ++ [(2, y5.1.1), (y6.1.1, 0)]) e0 else none) else (bif y3.1.1 == 1 then ((F6 k y3.2.1 4).bind fun (y7 : (Int × Unit) × (((List Int) × Int) × Unit)) => if (l5 ++ [(10, y7.1.1)]).length * 16 <= 140737488355328 then F123.loop0 k j (w64 (s6 - 1)) y7.2.1.1 y7.2.1.2 (l5 ++ [(10, y7.1.1)]) e0 else none) else (if (l5 ++ [(11, 0)]).length * 16 <= 140737488355328 then F123.loop0 k j (w64 (s6 - 1)) y3.2.1.1 y3.2.1.2 (l5 ++ [(11, 0)]) e0 else none))) else (e0 b0_0 b0_1 l5)) := rfl
def F123 (k : Nat) (a0 : (List Int) × Int) (a1 : Bool) : Option (((List (Int × Int)) × Unit) × (((List Int) × Int) × Unit)) :=
 bif a1 then ((F116 k a0 [3, 4, 5, 6, 7, 8, 9]).bind fun (y1 : (Int × Unit) × (((List Int) × Int) × Unit)) => if ([(0, 0)] ++ [(1, 0), (y1.1.1, 0)]).length * 16 <= 140737488355328 then (F6 k y1.2.1 4).bind fun (y2 : (Int × Unit) × (((List Int) × Int) × Unit)) => F123.loop0 k k y2.1.1 y2.2.1.1 y2.2.1.2 ([(0, 0)] ++ [(1, 0), (y1.1.1, 0)]) (fun (z8 : List Int) (z9 : Int) (z10 : List (Int × Int)) => (some ((z10, ()), ((z8, z9), ())))) else none) else ((F6 k a0 4).bind fun (y11 : (Int × Unit) × (((List Int) × Int) × Unit)) => F123.loop0 k k y11.1.1 y11.2.1.1 y11.2.1.2 [(0, 0)] (fun (z12 : List Int) (z13 : Int) (z14 : List (Int × Int)) => (some ((z14, ()), ((z12, z13), ())))))
def F124 (k : Nat) (a0 : Int × Int × Int × List Int) : Option (((Int × Int × Int × Int) × Unit) × (Unit)) :=
 some (((0, 0, a0.1, a0.2.1), ()), ())
def F125 (k : Nat) (a0 : Int) : Option ((Bool × Unit) × (Unit)) :=
 bif decide (a0 >= (-1048576)) then (some ((decide (a0 <= 1048576), ()), ())) else (some ((false, ()), ()))
def F126 (k : Nat) (a0 : Int × Int × Int × Int) : Option ((Bool × Unit) × (Unit)) :=
 bif (a0.1 == 0 && (a0.2.1 == 0 && (a0.2.2.1 == 0 && (a0.2.2.2 == 0 && true)))) then (some ((true, ()), ())) else ((F125 k a0.1).bind fun (y1 : (Bool × Unit) × (Unit)) => bif y1.1.1 then ((F125 k a0.2.1).bind fun (y2 : (Bool × Unit) × (Unit)) => bif y2.1.1 then ((F125 k a0.2.2.1).bind fun (y3 : (Bool × Unit) × (Unit)) => bif y3.1.1 then ((F125 k a0.2.2.2).bind fun (y4 : (Bool × Unit) × (Unit)) => bif y4.1.1 then (bif decide (a0.1 < a0.2.2.1) then (some ((decide (a0.2.1 < a0.2.2.2), ()), ())) else (some ((false, ()), ()))) else (some ((false, ()), ()))) else (some ((false, ()), ()))) else (some ((false, ()), ()))) else (some ((false, ()), ())))
def F127 (k : Nat) (a0 : Int × Int × Int × Int) : Option ((Bool × Unit) × (Unit)) :=
 some (((a0.1 == 0 && (a0.2.1 == 0 && (a0.2.2.1 == 0 && (a0.2.2.2 == 0 && true)))), ()), ())
def F128 (k : Nat) (a0 : Int × Int × Int × Int) : Option ((Bool × Unit) × (Unit)) :=
 (F126 k a0).bind fun (y1 : (Bool × Unit) × (Unit)) => bif y1.1.1 then ((F127 k a0).bind fun (y2 : (Bool × Unit) × (Unit)) => some ((!y2.1.1, ()), ())) else (some ((false, ()), ()))
def F129 (k : Nat) (a0 : Int × Int × Int × Int) (a1 : Int × Int × Int × Int) : Option ((Bool × Unit) × (Unit)) :=
 (F126 k a0).bind fun (y1 : (Bool × Unit) × (Unit)) => bif !y1.1.1 then (some ((false, ()), ())) else ((F126 k a1).bind fun (y2 : (Bool × Unit) × (Unit)) => bif !y2.1.1 then (some ((false, ()), ())) else ((F127 k a0).bind fun (y3 : (Bool × Unit) × (Unit)) => bif y3.1.1 then (some ((true, ()), ())) else (bif decide (a0.1 >= a1.1) then (bif decide (a0.2.1 >= a1.2.1) then (bif decide (a0.2.2.1 <= a1.2.2.1) then (some ((decide (a0.2.2.2 <= a1.2.2.2), ()), ())) else (some ((false, ()), ()))) else (some ((false, ()), ()))) else (some ((false, ()), ())))))
def F130 (k : Nat) (a0 : Int) (a1 : Int) (a2 : Int) : Option (((Int × Int × Int × List Int) × Bool × Unit) × (Unit)) :=
 (F71 k a0 a1 a2).bind fun (y1 : (Bool × Unit) × (Unit)) => bif !y1.1.1 then (some (((0, 0, 0, []), false, ()), ())) else (if 0 <= w64 (a0 * a1) /\ w64 (a0 * a1) <= w64 (a0 * a1) /\ w64 (a0 * a1) * ((8 : Nat) : Int) <= 140737488355328 then some (((a0, a1, a2, List.replicate ((w64 (a0 * a1)).toNat) (0 : Int)), true, ()), ()) else none)
def F131 (k : Nat) (a0 : Int) (a1 : Int) : Option ((Int × Unit) × (Unit)) :=
 bif decide (a0 < 0) then (some ((0, ()), ())) else (bif decide (a1 < 0) then (some ((0, ()), ())) else (bif decide (a0 > a1) then (some ((a1, ()), ())) else (some ((a0, ()), ()))))
def F132 (k : Nat) (a0 : Int) (a1 : Int) : Option ((Int × Unit) × (Unit)) :=
 bif a1 == 0 then (some ((0, ()), ())) else (if a1 = 0 then none else if a1 = 0 then none else bif (a0.tmod a1) != 0 then (bif !((decide (a0 < 0)) == (decide (a1 < 0))) then (some ((w64 ((w64 (a0.tdiv a1)) - 1), ()), ())) else (some ((w64 (a0.tdiv a1), ()), ()))) else (some ((w64 (a0.tdiv a1), ()), ())))
def F133 (k : Nat) (a0 : Int × Int) (a1 : Int) (a2 : Int) (a3 : Int) (a4 : Int) : Option ((Int × Bool × Unit) × (Unit)) :=
 bif a0.1 == 0 then ((F84 k a3).bind fun (y1 : (Bool × Unit) × (Unit)) => some ((a3, y1.1.1, ()), ())) else (bif a0.1 == 1 then ((F84 k a4).bind fun (y2 : (Bool × Unit) × (Unit)) => some ((a4, y2.1.1, ()), ())) else (bif a0.1 == 2 then ((F84 k a0.2).bind fun (y3 : (Bool × Unit) × (Unit)) => some ((a0.2, y3.1.1, ()), ())) else (bif a0.1 == 3 then ((F84 k (w64 (a1 + a2))).bind fun (y4 : (Bool × Unit) × (Unit)) => some ((w64 (a1 + a2), y4.1.1, ()), ())) else (bif a0.1 == 4 then ((F84 k (w64 (a1 - a2))).bind fun (y5 : (Bool × Unit) × (Unit)) => some ((w64 (a1 - a2), y5.1.1, ()), ())) else (bif a0.1 == 5 then ((F101 k a1 a2).bind fun (y6 : (Int × Bool × Unit) × (Unit)) => bif y6.1.2.1 then ((F84 k y6.1.1).bind fun (y7 : (Bool × Unit) × (Unit)) => some ((y6.1.1, y7.1.1, ()), ())) else (some ((y6.1.1, false, ()), ()))) else (bif a0.1 == 6 then ((F84 k (mm false a1 a2)).bind fun (y8 : (Bool × Unit) × (Unit)) => some ((mm false a1 a2, y8.1.1, ()), ())) else (bif a0.1 == 7 then ((F84 k (mm true a1 a2)).bind fun (y9 : (Bool × Unit) × (Unit)) => some ((mm true a1 a2, y9.1.1, ()), ())) else (bif a0.1 == 8 then ((F100 k (w64 (a1 - a2))).bind fun (y10 : (Int × Unit) × (Unit)) => (F84 k y10.1.1).bind fun (y11 : (Bool × Unit) × (Unit)) => some ((y10.1.1, y11.1.1, ()), ())) else (bif a0.1 == 9 then ((F132 k a1 a2).bind fun (y12 : (Int × Unit) × (Unit)) => (F84 k y12.1.1).bind fun (y13 : (Bool × Unit) × (Unit)) => some ((y12.1.1, y13.1.1, ()), ())) else (bif a0.1 == 10 then ((F87 k a1 a0.2).bind fun (y14 : (Int × Unit) × (Unit)) => (F84 k y14.1.1).bind fun (y15 : (Bool × Unit) × (Unit)) => some ((y14.1.1, y15.1.1, ()), ())) else ((F100 k a1).bind fun (y16 : (Int × Unit) × (Unit)) => (F84 k y16.1.1).bind fun (y17 : (Bool × Unit) × (Unit)) => some ((y16.1.1, y17.1.1, ()), ()))))))))))))
def F134.loop0 {R : Type} (k : Nat) (j : Nat) : (List (Int × Int)) -> Int -> Int -> Int -> (List Int) -> (Int -> Int -> Option R) -> ((List Int) -> Option R) -> Option R :=
 Nat.rec (motive := fun _ => _)
  (fun _ _ _ _ _ _ _ => none)
  (fun _ ih (s0 : List (Int × Int)) (s1 : Int) (s2 : Int) (s10 : Int) (l9 : List Int) (e0 : Int -> Int -> Option R) (e1 : (List Int) -> Option R) => bif decide (s10 < (s0.length : Int)) then (if 0 <= s10 then (s0[s10.toNat]?).bind fun (x2 : Int × Int) => (F97 k x2.1).bind fun (y3 : (Int × Unit) × (Unit)) => bif y3.1.1 == 2 then (if 0 <= w64 (((l9.length : Nat) : Int) - 1) /\ w64 (((l9.length : Nat) : Int) - 1) < ((l9.length : Nat) : Int) then (l9[(w64 (((l9.length : Nat) : Int) - 1)).toNat]?).bind fun (x4 : Int) => bif decide (y3.1.1 > 0) then (if 0 <= w64 (((l9.length : Nat) : Int) - y3.1.1) /\ w64 (((l9.length : Nat) : Int) - y3.1.1) < ((l9.length : Nat) : Int) then (l9[(w64 (((l9.length : Nat) : Int) - y3.1.1)).toNat]?).bind fun (x5 : Int) => if 0 <= s10 then (s0[s10.toNat]?).bind fun (x6 : Int × Int) => (F133 k x6 x5 x4 s1 s2).bind fun (y7 : (Int × Bool × Unit) × (Unit)) => bif !y7.1.2.1 then (e0 0 11) else (if 0 <= w64 (((l9.length : Nat) : Int) - y3.1.1) /\ w64 (((l9.length : Nat) : Int) - y3.1.1) <= ((l9.length : Nat) : Int) then if ((l9.take ((w64 (((l9.length : Nat) : Int) - y3.1.1)).toNat)) ++ [y7.1.1]).length * 8 <= 140737488355328 then ih s0 s1 s2 (w64 (s10 + 1)) ((l9.take ((w64 (((l9.length : Nat) : Int) - y3.1.1)).toNat)) ++ [y7.1.1]) e0 e1 else none else none) else none else none) else (if 0 <= s10 then (s0[s10.toNat]?).bind fun (x8 : Int × Int) => (F133 k x8 0 x4 s1 s2).bind fun (y9 : (Int × Bool × Unit) × (Unit)) => bif !y9.1.2.1 then (e0 0 11) else (if 0 <= w64 (((l9.length : Nat) : Int) - y3.1.1) /\ w64 (((l9.length : Nat) : Int) - y3.1.1) <= ((l9.length : Nat) : Int) then if ((l9.take ((w64 (((l9.length : Nat) : Int) - y3.1.1)).toNat)) ++ [y9.1.1]).length * 8 <= 140737488355328 then ih s0 s1 s2 (w64 (s10 + 1)) ((l9.take ((w64 (((l9.length : Nat) : Int) - y3.1.1)).toNat)) ++ [y9.1.1]) e0 e1 else none else none) else none) else none) else (bif decide (y3.1.1 > 0) then (if 0 <= w64 (((l9.length : Nat) : Int) - y3.1.1) /\ w64 (((l9.length : Nat) : Int) - y3.1.1) < ((l9.length : Nat) : Int) then (l9[(w64 (((l9.length : Nat) : Int) - y3.1.1)).toNat]?).bind fun (x10 : Int) => if 0 <= s10 then (s0[s10.toNat]?).bind fun (x11 : Int × Int) => (F133 k x11 x10 0 s1 s2).bind fun (y12 : (Int × Bool × Unit) × (Unit)) => bif !y12.1.2.1 then (e0 0 11) else (if 0 <= w64 (((l9.length : Nat) : Int) - y3.1.1) /\ w64 (((l9.length : Nat) : Int) - y3.1.1) <= ((l9.length : Nat) : Int) then if ((l9.take ((w64 (((l9.length : Nat) : Int) - y3.1.1)).toNat)) ++ [y12.1.1]).length * 8 <= 140737488355328 then ih s0 s1 s2 (w64 (s10 + 1)) ((l9.take ((w64 (((l9.length : Nat) : Int) - y3.1.1)).toNat)) ++ [y12.1.1]) e0 e1 else none else none) else none else none) else (if 0 <= s10 then (s0[s10.toNat]?).bind fun (x13 : Int × Int) => (F133 k x13 0 0 s1 s2).bind fun (y14 : (Int × Bool × Unit) × (Unit)) => bif !y14.1.2.1 then (e0 0 11) else (if 0 <= w64 (((l9.length : Nat) : Int) - y3.1.1) /\ w64 (((l9.length : Nat) : Int) - y3.1.1) <= ((l9.length : Nat) : Int) then if ((l9.take ((w64 (((l9.length : Nat) : Int) - y3.1.1)).toNat)) ++ [y14.1.1]).length * 8 <= 140737488355328 then ih s0 s1 s2 (w64 (s10 + 1)) ((l9.take ((w64 (((l9.length : Nat) : Int) - y3.1.1)).toNat)) ++ [y14.1.1]) e0 e1 else none else none) else none)) else none) else (e1 l9)) j
theorem F134.loop0_s {R : Type} (k : Nat) (j : Nat) (s0 : List (Int × Int)) (s1 : Int) (s2 : Int) (s10 : Int) (l9 : List Int) (e0 : Int -> Int -> Option R) (e1 : (List Int) -> Option R) : F134.loop0 k (j + 1) s0 s1 s2 s10 l9 e0 e1 =
  (bif decide (s10 < (s0.length : Int)) then (if 0 <= s10 then (s0[s10.toNat]?).bind fun (x2 : Int × Int) => (F97 k x2.1).bind fun (y3 : (Int × Unit) × (Unit)) => bif y3.1.1 == 2 then (if 0 <= w64 (((l9.length : Nat) : Int) - 1) /\ w64 (((l9.length : Nat) : Int) - 1) < ((l9.length : Nat) : Int) then (l9[(w64 (((l9.length : Nat) : Int) - 1)).toNat]?).bind fun (x4 : Int) => bif decide (y3.1.1 > 0) then (if 0 <= w64 (((l9.length : Nat) : Int) - y3.1.1) /\ w64 (((l9.length : Nat) : Int) - y3.1.1) < ((l9.length : Nat) : Int) then (l9[(w64 (((l9.length : Nat) : Int) - y3.1.1)).toNat]?).bind fun (x5 : Int) => if 0 <= s10 then (s0[s10.toNat]?).bind fun (x6 : Int × Int) => (F133 k x6 x5 x4 s1 s2).bind fun (y7 : (Int × Bool × Unit) × (Unit)) => bif !y7.1.2.1 then (e0 0 11) else (if 0 <= w64 (((l9.length : Nat) : Int) - y3.1.1) /\ w64 (((l9.length : Nat) : Int) - y3.1.1) <= ((l9.length : Nat) : Int) then if ((l9.take ((w64 (((l9.length : Nat) : Int) - y3.1.1)).toNat)) ++ [y7.1.1]).length * 8 <= 140737488355328 then F134.loop0 k j s0 s1 s2 (w64 (s10 + 1)) ((l9.take ((w64 (((l9.length : Nat) : Int) - y3.1.1)).toNat)) ++ [y7.1.1]) e0 e1 else none else none) else none else none) else (if 0 <= s10 then (s0[s10.toNat]?).bind fun (x8 : Int × Int) => (F133 k x8 0 x4 s1 s2).bind fun (y9 : (Int × Bool × Unit) × (Unit)) => bif !y9.1.2.1 then (e0 0 11) else (if 0 <= w64 (((l9.length : Nat) : Int) - y3.1.1) /\ w64 (((l9.length : Nat) : Int) - y3.1.1) <= ((l9.length : Nat) : Int) then if ((l9.take ((w64 (((l9.length : Nat) : Int) - y3.1.1)).toNat)) ++ [y9.1.1]).length * 8 <= 140737488355328 then F134.loop0 k j s0 s1 s2 (w64 (s10 + 1)) ((l9.take ((w64 (((l9.length : Nat) : Int) - y3.1.1)).toNat)) ++ [y9.1.1]) e0 e1 else none else none) else none) else none) else (bif decide (y3.1.1 > 0) then (if 0 <= w64 (((l9.length : Nat) : Int) - y3.1.1) /\ w64 (((l9.length : Nat) : Int) - y3.1.1) < ((l9.length : Nat) : Int) then (l9[(w64 (((l9.length : Nat) : Int) - y3.1.1)).toNat]?).bind fun (x10 : Int) => if 0 <= s10 then (s0[s10.toNat]?).bind fun (x11 : Int × Int) => (F133 k x11 x10 0 s1 s2).bind fun (y12 : (Int × Bool × Unit) × (Unit)) => bif !y12.1.2.1 then (e0 0 11) else (if 0 <= w64 (((l9.length : Nat) : Int) - y3.1.1) /\ w64 (((l9.length : Nat) : Int) - y3.1.1) <= ((l9.length : Nat) : Int) then if ((l9.take ((w64 (((l9.length : Nat) : Int) - y3.1.1)).toNat)) ++ [y12.1.1]).length * 8 <= 140737488355328 then F134.loop0 k j s0 s1 s2 (w64 (s10 + 1)) ((l9.take ((w64 (((l9.length : Nat) : Int) - y3.1.1)).toNat)) ++ [y12.1.1]) e0 e1 else none else none) else none else none) else (if 0 <= s10 then (s0[s10.toNat]?).bind fun (x13 : Int × Int) => (F133 k x13 0 0 s1 s2).bind fun (y14 : (Int × Bool × Unit) × (Unit)) => bif !y14.1.2.1 then (e0 0 11) else (if 0 <= w64 (((l9.length : Nat) : Int) - y3.1.1) /\ w64 (((l9.length : Nat) : Int) - y3.1.1) <= ((l9.length : Nat) : Int) then if ((l9.take ((w64 (((l9.length : Nat) : Int) - y3.1.1)).toNat)) ++ [y14.1.1]).length * 8 <= 140737488355328 then F134.loop0 k j s0 s1 s2 (w64 (s10 + 1)) ((l9.take ((w64 (((l9.length : Nat) : Int) - y3.1.1)).toNat)) ++ [y14.1.1]) e0 e1 else none else none) else none)) else none) else (e1 l9)) := rfl
def F134 (k : Nat) (a0 : List (Int × Int)) (a1 : Int) (a2 : Int) : Option ((Int × Int × Unit) × (Unit)) :=
 (F99 k a0 true).bind fun (y1 : (Int × Unit) × (Unit)) => bif y1.1.1 != 0 then (some ((0, y1.1.1, ()), ())) else (bif decide (a1 < 0) then (some ((0, 2, ()), ())) else (bif decide (a1 > 4294967296) then (some ((0, 2, ()), ())) else (bif decide (a2 < 0) then (some ((0, 2, ()), ())) else (bif decide (a2 > 4294967296) then (some ((0, 2, ()), ())) else (F134.loop0 k k a0 a1 a2 0 ([] : List Int) (fun (z15 : Int) (z16 : Int) => (some ((z15, z16, ()), ()))) (fun (z17 : List Int) => (if 0 <= (0 : Int) /\ (0 : Int) < ((z17.length : Nat) : Int) then (z17[0]?).bind fun (x18 : Int) => some ((x18, 0, ()), ()) else none)))))))
def F135.loop1 {R : Type} (k : Nat) (j : Nat) : Bool -> (List (Int × Int)) -> Int -> Int -> Int -> Int -> Int -> Int -> (List Int) -> Int -> Int -> Int -> (List Int) -> Int -> Int -> Int -> Int -> Int -> Int -> Int -> (List Int) -> (Int -> Int -> Int -> (List Int) -> Int -> Int -> Int -> (List Int) -> Int -> Int -> Int -> Int -> Int -> Int -> Int -> (List Int) -> Option R) -> Option R :=
 Nat.rec (motive := fun _ => _)
  (fun _ _ _ _ _ _ _ _ _ _ _ _ _ _ _ _ _ _ _ _ _ _ => none)
  (fun _ ih (s2 : Bool) (s3 : List (Int × Int)) (s4 : Int) (s17 : Int) (s18 : Int) (b6_0 : Int) (b6_1 : Int) (b6_2 : Int) (b6_3 : List Int) (b7_0 : Int) (b7_1 : Int) (b7_2 : Int) (b7_3 : List Int) (b11_0 : Int) (b11_1 : Int) (b11_2 : Int) (b11_3 : Int) (b15_0 : Int) (b15_1 : Int) (b15_2 : Int) (b15_3 : List Int) (e0 : Int -> Int -> Int -> (List Int) -> Int -> Int -> Int -> (List Int) -> Int -> Int -> Int -> Int -> Int -> Int -> Int -> (List Int) -> Option R) => bif decide (s18 < b11_2) then (bif s2 then (if 0 <= w64 ((w64 (s17 * b7_0)) + s18) then (b7_3[(w64 ((w64 (s17 * b7_0)) + s18)).toNat]?).bind fun (x8 : Int) => if 0 <= w64 ((w64 (s17 * b6_0)) + s18) then (b6_3[(w64 ((w64 (s17 * b6_0)) + s18)).toNat]?).bind fun (x9 : Int) => (F134 k s3 x9 x8).bind fun (y10 : (Int × Int × Unit) × (Unit)) => (F131 k y10.1.1 s4).bind fun (y11 : (Int × Unit) × (Unit)) => if 0 <= w64 ((w64 ((w64 ((w64 (s17 - b11_1)) * b15_0)) + s18)) - b11_0) /\ w64 ((w64 ((w64 ((w64 (s17 - b11_1)) * b15_0)) + s18)) - b11_0) < ((b15_3.length : Nat) : Int) then (b15_3[(w64 ((w64 ((w64 ((w64 (s17 - b11_1)) * b15_0)) + s18)) - b11_0)).toNat]?).bind fun (x12 : Int) => ih s2 s3 s4 s17 (w64 (s18 + 1)) b6_0 b6_1 b6_2 b6_3 b7_0 b7_1 b7_2 b7_3 b11_0 b11_1 b11_2 b11_3 b15_0 b15_1 b15_2 (b15_3.set ((w64 ((w64 ((w64 ((w64 (s17 - b11_1)) * b15_0)) + s18)) - b11_0)).toNat) y11.1.1) e0 else none else none else none) else (if 0 <= w64 ((w64 (s17 * b6_0)) + s18) then (b6_3[(w64 ((w64 (s17 * b6_0)) + s18)).toNat]?).bind fun (x13 : Int) => (F134 k s3 x13 0).bind fun (y14 : (Int × Int × Unit) × (Unit)) => (F131 k y14.1.1 s4).bind fun (y15 : (Int × Unit) × (Unit)) => if 0 <= w64 ((w64 ((w64 ((w64 (s17 - b11_1)) * b15_0)) + s18)) - b11_0) /\ w64 ((w64 ((w64 ((w64 (s17 - b11_1)) * b15_0)) + s18)) - b11_0) < ((b15_3.length : Nat) : Int) then (b15_3[(w64 ((w64 ((w64 ((w64 (s17 - b11_1)) * b15_0)) + s18)) - b11_0)).toNat]?).bind fun (x16 : Int) => ih s2 s3 s4 s17 (w64 (s18 + 1)) b6_0 b6_1 b6_2 b6_3 b7_0 b7_1 b7_2 b7_3 b11_0 b11_1 b11_2 b11_3 b15_0 b15_1 b15_2 (b15_3.set ((w64 ((w64 ((w64 ((w64 (s17 - b11_1)) * b15_0)) + s18)) - b11_0)).toNat) y15.1.1) e0 else none else none)) else (e0 b6_0 b6_1 b6_2 b6_3 b7_0 b7_1 b7_2 b7_3 b11_0 b11_1 b11_2 b11_3 b15_0 b15_1 b15_2 b15_3)) j
theorem F135.loop1_s {R : Type} (k : Nat) (j : Nat) (s2 : Bool) (s3 : List (Int × Int)) (s4 : Int) (s17 : Int) (s18 : Int) (b6_0 : Int) (b6_1 : Int) (b6_2 : Int) (b6_3 : List Int) (b7_0 : Int) (b7_1 : Int) (b7_2 : Int) (b7_3 : List Int) (b11_0 : Int) (b11_1 : Int) (b11_2 : Int) (b11_3 : Int) (b15_0 : Int) (b15_1 : Int) (b15_2 : Int) (b15_3 : List Int) (e0 : Int -> Int -> Int -> (List Int) -> Int -> Int -> Int -> (List Int) -> Int -> Int -> Int -> Int -> Int -> Int -> Int -> (List Int) -> Option R) : F135.loop1 k (j + 1) s2 s3 s4 s17 s18 b6_0 b6_1 b6_2 b6_3 b7_0 b7_1 b7_2 b7_3 b11_0 b11_1 b11_2 b11_3 b15_0 b15_1 b15_2 b15_3 e0 =
  (bif decide (s18 < b11_2) then (bif s2 then (if 0 <= w64 ((w64 (s17 * b7_0)) + s18) then (b7_3[(w64 ((w64 (s17 * b7_0)) + s18)).toNat]?).bind fun (x8 : Int) => if 0 <= w64 ((w64 (s17 * b6_0)) + s18) then (b6_3[(w64 ((w64 (s17 * b6_0)) + s18)).toNat]?).bind fun (x9 : Int) => (F134 k s3 x9 x8).bind fun (y10 : (Int × Int × Unit) × (Unit)) => (F131 k y10.1.1 s4).bind fun (y11 : (Int × Unit) × (Unit)) => if 0 <= w64 ((w64 ((w64 ((w64 (s17 - b11_1)) * b15_0)) + s18)) - b11_0) /\ w64 ((w64 ((w64 ((w64 (s17 - b11_1)) * b15_0)) + s18)) - b11_0) < ((b15_3.length : Nat) : Int) then (b15_3[(w64 ((w64 ((w64 ((w64 (s17 - b11_1)) * b15_0)) + s18)) - b11_0)).toNat]?).bind fun (x12 : Int) => F135.loop1 k j s2 s3 s4 s17 (w64 (s18 + 1)) b6_0 b6_1 b6_2 b6_3 b7_0 b7_1 b7_2 b7_3 b11_0 b11_1 b11_2 b11_3 b15_0 b15_1 b15_2 (b15_3.set ((w64 ((w64 ((w64 ((w64 (s17 - b11_1)) * b15_0)) + s18)) - b11_0)).toNat) y11.1.1) e0 else none else none else none) else (if 0 <= w64 ((w64 (s17 * b6_0)) + s18) then (b6_3[(w64 ((w64 (s17 * b6_0)) + s18)).toNat]?).bind fun (x13 : Int) => (F134 k s3 x13 0).bind fun (y14 : (Int × Int × Unit) × (Unit)) => (F131 k y14.1.1 s4).bind fun (y15 : (Int × Unit) × (Unit)) => if 0 <= w64 ((w64 ((w64 ((w64 (s17 - b11_1)) * b15_0)) + s18)) - b11_0) /\ w64 ((w64 ((w64 ((w64 (s17 - b11_1)) * b15_0)) + s18)) - b11_0) < ((b15_3.length : Nat) : Int) then (b15_3[(w64 ((w64 ((w64 ((w64 (s17 - b11_1)) * b15_0)) + s18)) - b11_0)).toNat]?).bind fun (x16 : Int) => F135.loop1 k j s2 s3 s4 s17 (w64 (s18 + 1)) b6_0 b6_1 b6_2 b6_3 b7_0 b7_1 b7_2 b7_3 b11_0 b11_1 b11_2 b11_3 b15_0 b15_1 b15_2 (b15_3.set ((w64 ((w64 ((w64 ((w64 (s17 - b11_1)) * b15_0)) + s18)) - b11_0)).toNat) y15.1.1) e0 else none else none)) else (e0 b6_0 b6_1 b6_2 b6_3 b7_0 b7_1 b7_2 b7_3 b11_0 b11_1 b11_2 b11_3 b15_0 b15_1 b15_2 b15_3)) := rfl
def F135.loop0 {R : Type} (k : Nat) (j : Nat) : Bool -> (List (Int × Int)) -> Int -> Int -> Int -> Int -> Int -> (List Int) -> Int -> Int -> Int -> (List Int) -> Int -> Int -> Int -> Int -> Int -> Int -> Int -> (List Int) -> (Int -> Int -> Int -> (List Int) -> Option R) -> Option R :=
 Nat.rec (motive := fun _ => _)
  (fun _ _ _ _ _ _ _ _ _ _ _ _ _ _ _ _ _ _ _ _ _ => none)
  (fun _ ih (s2 : Bool) (s3 : List (Int × Int)) (s4 : Int) (s17 : Int) (b6_0 : Int) (b6_1 : Int) (b6_2 : Int) (b6_3 : List Int) (b7_0 : Int) (b7_1 : Int) (b7_2 : Int) (b7_3 : List Int) (b11_0 : Int) (b11_1 : Int) (b11_2 : Int) (b11_3 : Int) (b15_0 : Int) (b15_1 : Int) (b15_2 : Int) (b15_3 : List Int) (e0 : Int -> Int -> Int -> (List Int) -> Option R) => bif decide (s17 < b11_3) then (F135.loop1 k k s2 s3 s4 s17 b11_0 b6_0 b6_1 b6_2 b6_3 b7_0 b7_1 b7_2 b7_3 b11_0 b11_1 b11_2 b11_3 b15_0 b15_1 b15_2 b15_3 (fun (z8 : Int) (z9 : Int) (z10 : Int) (z11 : List Int) (z12 : Int) (z13 : Int) (z14 : Int) (z15 : List Int) (z16 : Int) (z17 : Int) (z18 : Int) (z19 : Int) (z20 : Int) (z21 : Int) (z22 : Int) (z23 : List Int) => (ih s2 s3 s4 (w64 (s17 + 1)) z8 z9 z10 z11 z12 z13 z14 z15 z16 z17 z18 z19 z20 z21 z22 z23 e0))) else (e0 b15_0 b15_1 b15_2 b15_3)) j
theorem F135.loop0_s {R : Type} (k : Nat) (j : Nat) (s2 : Bool) (s3 : List (Int × Int)) (s4 : Int) (s17 : Int) (b6_0 : Int) (b6_1 : Int) (b6_2 : Int) (b6_3 : List Int) (b7_0 : Int) (b7_1 : Int) (b7_2 : Int) (b7_3 : List Int) (b11_0 : Int) (b11_1 : Int) (b11_2 : Int) (b11_3 : Int) (b15_0 : Int) (b15_1 : Int) (b15_2 : Int) (b15_3 : List Int) (e0 : Int -> Int -> Int -> (List Int) -> Option R) : F135.loop0 k (j + 1) s2 s3 s4 s17 b6_0 b6_1 b6_2 b6_3 b7_0 b7_1 b7_2 b7_3 b11_0 b11_1 b11_2 b11_3 b15_0 b15_1 b15_2 b15_3 e0 =
  (bif decide (s17 < b11_3) then (F135.loop1 k k s2 s3 s4 s17 b11_0 b6_0 b6_1 b6_2 b6_3 b7_0 b7_1 b7_2 b7_3 b11_0 b11_1 b11_2 b11_3 b15_0 b15_1 b15_2 b15_3 (fun (z8 : Int) (z9 : Int) (z10 : Int) (z11 : List Int) (z12 : Int) (z13 : Int) (z14 : Int) (z15 : List Int) (z16 : Int) (z17 : Int) (z18 : Int) (z19 : Int) (z20 : Int) (z21 : Int) (z22 : Int) (z23 : List Int) => (F135.loop0 k j s2 s3 s4 (w64 (s17 + 1)) z8 z9 z10 z11 z12 z13 z14 z15 z16 z17 z18 z19 z20 z21 z22 z23 e0))) else (e0 b15_0 b15_1 b15_2 b15_3)) := rfl
def F135 (k : Nat) (a0 : Int × Int × Int × List Int) (a1 : Int × Int × Int × List Int) (a2 : Bool) (a3 : List (Int × Int)) (a4 : Int) (a5 : Int × Int × Int × Int) : Option (((Int × Int × Int × List Int) × Int × Unit) × (Unit)) :=
 (F72 k a0).bind fun (y1 : (Bool × Unit) × (Unit)) => bif !y1.1.1 then (some (((0, 0, 0, []), 1, ()), ())) else (bif a2 then ((F72 k a1).bind fun (y2 : (Bool × Unit) × (Unit)) => bif !y2.1.1 then (some (((0, 0, 0, []), 1, ()), ())) else ((F105 k a3 a2 a0.2.2.1 a1.2.2.1 a4).bind fun (y3 : (Int × Unit) × (Unit)) => bif y3.1.1 != 0 then (some (((0, 0, 0, []), y3.1.1, ()), ())) else (bif a2 then (bif a0.1 != a1.1 then (some (((0, 0, 0, []), 8, ()), ())) else (bif a0.2.1 != a1.2.1 then (some (((0, 0, 0, []), 8, ()), ())) else ((F128 k a5).bind fun (y4 : (Bool × Unit) × (Unit)) => bif !y4.1.1 then (some (((0, 0, 0, []), 8, ()), ())) else ((F124 k a0).bind fun (y5 : ((Int × Int × Int × Int) × Unit) × (Unit)) => (F129 k a5 y5.1.1).bind fun (y6 : (Bool × Unit) × (Unit)) => bif !y6.1.1 then (some (((0, 0, 0, []), 8, ()), ())) else ((F130 k (w64 (a5.2.2.1 - a5.1)) (w64 (a5.2.2.2 - a5.2.1)) a4).bind fun (y7 : ((Int × Int × Int × List Int) × Bool × Unit) × (Unit)) => F135.loop0 k k a2 a3 a4 a5.2.1 a0.1 a0.2.1 a0.2.2.1 a0.2.2.2 a1.1 a1.2.1 a1.2.2.1 a1.2.2.2 a5.1 a5.2.1 a5.2.2.1 a5.2.2.2 y7.1.1.1 y7.1.1.2.1 y7.1.1.2.2.1 y7.1.1.2.2.2 (fun (z24 : Int) (z25 : Int) (z26 : Int) (z27 : List Int) => (some (((z24, z25, z26, z27), 0, ()), ())))))))) else ((F128 k a5).bind fun (y28 : (Bool × Unit) × (Unit)) => bif !y28.1.1 then (some (((0, 0, 0, []), 8, ()), ())) else ((F124 k a0).bind fun (y29 : ((Int × Int × Int × Int) × Unit) × (Unit)) => (F129 k a5 y29.1.1).bind fun (y30 : (Bool × Unit) × (Unit)) => bif !y30.1.1 then (some (((0, 0, 0, []), 8, ()), ())) else ((F130 k (w64 (a5.2.2.1 - a5.1)) (w64 (a5.2.2.2 - a5.2.1)) a4).bind fun (y31 : ((Int × Int × Int × List Int) × Bool × Unit) × (Unit)) => F135.loop0 k k a2 a3 a4 a5.2.1 a0.1 a0.2.1 a0.2.2.1 a0.2.2.2 a1.1 a1.2.1 a1.2.2.1 a1.2.2.2 a5.1 a5.2.1 a5.2.2.1 a5.2.2.2 y31.1.1.1 y31.1.1.2.1 y31.1.1.2.2.1 y31.1.1.2.2.2 (fun (z32 : Int) (z33 : Int) (z34 : Int) (z35 : List Int) => (some (((z32, z33, z34, z35), 0, ()), ()))))))))) else ((F105 k a3 a2 a0.2.2.1 a1.2.2.1 a4).bind fun (y36 : (Int × Unit) × (Unit)) => bif y36.1.1 != 0 then (some (((0, 0, 0, []), y36.1.1, ()), ())) else (bif a2 then (bif a0.1 != a1.1 then (some (((0, 0, 0, []), 8, ()), ())) else (bif a0.2.1 != a1.2.1 then (some (((0, 0, 0, []), 8, ()), ())) else ((F128 k a5).bind fun (y37 : (Bool × Unit) × (Unit)) => bif !y37.1.1 then (some (((0, 0, 0, []), 8, ()), ())) else ((F124 k a0).bind fun (y38 : ((Int × Int × Int × Int) × Unit) × (Unit)) => (F129 k a5 y38.1.1).bind fun (y39 : (Bool × Unit) × (Unit)) => bif !y39.1.1 then (some (((0, 0, 0, []), 8, ()), ())) else ((F130 k (w64 (a5.2.2.1 - a5.1)) (w64 (a5.2.2.2 - a5.2.1)) a4).bind fun (y40 : ((Int × Int × Int × List Int) × Bool × Unit) × (Unit)) => F135.loop0 k k a2 a3 a4 a5.2.1 a0.1 a0.2.1 a0.2.2.1 a0.2.2.2 a1.1 a1.2.1 a1.2.2.1 a1.2.2.2 a5.1 a5.2.1 a5.2.2.1 a5.2.2.2 y40.1.1.1 y40.1.1.2.1 y40.1.1.2.2.1 y40.1.1.2.2.2 (fun (z41 : Int) (z42 : Int) (z43 : Int) (z44 : List Int) => (some (((z41, z42, z43, z44), 0, ()), ())))))))) else ((F128 k a5).bind fun (y45 : (Bool × Unit) × (Unit)) => bif !y45.1.1 then (some (((0, 0, 0, []), 8, ()), ())) else ((F124 k a0).bind fun (y46 : ((Int × Int × Int × Int) × Unit) × (Unit)) => (F129 k a5 y46.1.1).bind fun (y47 : (Bool × Unit) × (Unit)) => bif !y47.1.1 then (some (((0, 0, 0, []), 8, ()), ())) else ((F130 k (w64 (a5.2.2.1 - a5.1)) (w64 (a5.2.2.2 - a5.2.1)) a4).bind fun (y48 : ((Int × Int × Int × List Int) × Bool × Unit) × (Unit)) => F135.loop0 k k a2 a3 a4 a5.2.1 a0.1 a0.2.1 a0.2.2.1 a0.2.2.2 a1.1 a1.2.1 a1.2.2.1 a1.2.2.2 a5.1 a5.2.1 a5.2.2.1 a5.2.2.2 y48.1.1.1 y48.1.1.2.1 y48.1.1.2.2.1 y48.1.1.2.2.2 (fun (z49 : Int) (z50 : Int) (z51 : Int) (z52 : List Int) => (some (((z49, z50, z51, z52), 0, ()), ())))))))))
def F136 (k : Nat) (a0 : Int) (a1 : Int) : Option ((Int × Unit) × (Unit)) :=
 bif a1 == 0 then (some ((0, ()), ())) else (if a1 = 0 then none else if a1 = 0 then none else bif (a0.tmod a1) != 0 then (bif !((decide (a0 < 0)) == (decide (a1 < 0))) then (some ((w64 ((w64 (a0.tdiv a1)) - 1), ()), ())) else (some ((w64 (a0.tdiv a1), ()), ()))) else (some ((w64 (a0.tdiv a1), ()), ())))
def F137 (k : Nat) (a0 : Int) (a1 : Int) (a2 : Int) : Option ((Int × Unit) × (Unit)) :=
 bif a0 == 3 then (some ((w64 (a1 + a2), ()), ())) else (bif a0 == 4 then (some ((w64 (a1 - a2), ()), ())) else (bif a0 == 5 then ((F64 k a1 a2).bind fun (y1 : (Int × Unit) × (Unit)) => some ((y1.1.1, ()), ())) else (bif a0 == 6 then (some ((mm false a1 a2, ()), ())) else (bif a0 == 7 then (some ((mm true a1 a2, ()), ())) else (bif a0 == 8 then ((F63 k (w64 (a1 - a2))).bind fun (y2 : (Int × Unit) × (Unit)) => some ((y2.1.1, ()), ())) else ((F136 k a1 a2).bind fun (y3 : (Int × Unit) × (Unit)) => some ((y3.1.1, ()), ())))))))
def F138.loop0 {R : Type} (k : Nat) (j : Nat) : Int -> Int -> (List (Int × Int)) -> Int -> Int -> (List Int) -> (Int -> Int -> Option R) -> ((List Int) -> Option R) -> Option R :=
 Nat.rec (motive := fun _ => _)
  (fun _ _ _ _ _ _ _ _ => none)
  (fun _ ih (s1 : Int) (s2 : Int) (s17 : List (Int × Int)) (s18 : Int) (s19 : Int) (l8 : List Int) (e0 : Int -> Int -> Option R) (e1 : (List Int) -> Option R) => bif decide (s19 < s18) then (if 0 <= s19 then (s17[s19.toNat]?).bind fun (x1 : Int × Int) => (F60 k x1.1).bind fun (y2 : (Int × Unit) × (Unit)) => if 0 <= w64 (((l8.length : Nat) : Int) - y2.1.1) /\ w64 (((l8.length : Nat) : Int) - y2.1.1) <= ((l8.length : Nat) : Int) then if 0 <= (((w64 (((l8.length : Nat) : Int) - y2.1.1)).toNat : Nat) : Int) /\ (((w64 (((l8.length : Nat) : Int) - y2.1.1)).toNat : Nat) : Int) <= ((l8.length : Nat) : Int) then bif x1.1 == 0 then ((F66 k s1).bind fun (y3 : (Bool × Unit) × (Unit)) => bif !y3.1.1 then (e0 0 11) else (if ((l8.take ((w64 (((l8.length : Nat) : Int) - y2.1.1)).toNat)) ++ [s1]).length * 8 <= 140737488355328 then ih s1 s2 s17 s18 (w64 (s19 + 1)) ((l8.take ((w64 (((l8.length : Nat) : Int) - y2.1.1)).toNat)) ++ [s1]) e0 e1 else none)) else (bif x1.1 == 1 then ((F66 k s2).bind fun (y4 : (Bool × Unit) × (Unit)) => bif !y4.1.1 then (e0 0 11) else (if ((l8.take ((w64 (((l8.length : Nat) : Int) - y2.1.1)).toNat)) ++ [s2]).length * 8 <= 140737488355328 then ih s1 s2 s17 s18 (w64 (s19 + 1)) ((l8.take ((w64 (((l8.length : Nat) : Int) - y2.1.1)).toNat)) ++ [s2]) e0 e1 else none)) else (bif x1.1 == 2 then ((F66 k x1.2).bind fun (y5 : (Bool × Unit) × (Unit)) => bif !y5.1.1 then (e0 0 11) else (if ((l8.take ((w64 (((l8.length : Nat) : Int) - y2.1.1)).toNat)) ++ [x1.2]).length * 8 <= 140737488355328 then ih s1 s2 s17 s18 (w64 (s19 + 1)) ((l8.take ((w64 (((l8.length : Nat) : Int) - y2.1.1)).toNat)) ++ [x1.2]) e0 e1 else none)) else (bif x1.1 == 10 then (if 0 <= (0 : Int) /\ (0 : Int) < ((l8.length - (((w64 (((l8.length : Nat) : Int) - y2.1.1)).toNat : Nat) : Int).toNat : Nat) : Int) then (l8[0 + ((((w64 (((l8.length : Nat) : Int) - y2.1.1)).toNat : Nat) : Int).toNat)]?).bind fun (x6 : Int) => (F48 k x6 x1.2).bind fun (y7 : (Int × Unit) × (Unit)) => (F66 k y7.1.1).bind fun (y8 : (Bool × Unit) × (Unit)) => bif !y8.1.1 then (e0 0 11) else (if ((l8.take ((w64 (((l8.length : Nat) : Int) - y2.1.1)).toNat)) ++ [y7.1.1]).length * 8 <= 140737488355328 then ih s1 s2 s17 s18 (w64 (s19 + 1)) ((l8.take ((w64 (((l8.length : Nat) : Int) - y2.1.1)).toNat)) ++ [y7.1.1]) e0 e1 else none) else none) else (bif x1.1 == 11 then (if 0 <= (0 : Int) /\ (0 : Int) < ((l8.length - (((w64 (((l8.length : Nat) : Int) - y2.1.1)).toNat : Nat) : Int).toNat : Nat) : Int) then (l8[0 + ((((w64 (((l8.length : Nat) : Int) - y2.1.1)).toNat : Nat) : Int).toNat)]?).bind fun (x9 : Int) => (F63 k x9).bind fun (y10 : (Int × Unit) × (Unit)) => (F66 k y10.1.1).bind fun (y11 : (Bool × Unit) × (Unit)) => bif !y11.1.1 then (e0 0 11) else (if ((l8.take ((w64 (((l8.length : Nat) : Int) - y2.1.1)).toNat)) ++ [y10.1.1]).length * 8 <= 140737488355328 then ih s1 s2 s17 s18 (w64 (s19 + 1)) ((l8.take ((w64 (((l8.length : Nat) : Int) - y2.1.1)).toNat)) ++ [y10.1.1]) e0 e1 else none) else none) else (if 0 <= (0 : Int) /\ (0 : Int) < ((l8.length - (((w64 (((l8.length : Nat) : Int) - y2.1.1)).toNat : Nat) : Int).toNat : Nat) : Int) then (l8[0 + ((((w64 (((l8.length : Nat) : Int) - y2.1.1)).toNat : Nat) : Int).toNat)]?).bind fun (x12 : Int) => if 0 <= (1 : Int) /\ (1 : Int) < ((l8.length - (((w64 (((l8.length : Nat) : Int) - y2.1.1)).toNat : Nat) : Int).toNat : Nat) : Int) then (l8[1 + ((((w64 (((l8.length : Nat) : Int) - y2.1.1)).toNat : Nat) : Int).toNat)]?).bind fun (x13 : Int) => (F137 k x1.1 x12 x13).bind fun (y14 : (Int × Unit) × (Unit)) => (F66 k y14.1.1).bind fun (y15 : (Bool × Unit) × (Unit)) => bif !y15.1.1 then (e0 0 11) else (if ((l8.take ((w64 (((l8.length : Nat) : Int) - y2.1.1)).toNat)) ++ [y14.1.1]).length * 8 <= 140737488355328 then ih s1 s2 s17 s18 (w64 (s19 + 1)) ((l8.take ((w64 (((l8.length : Nat) : Int) - y2.1.1)).toNat)) ++ [y14.1.1]) e0 e1 else none) else none else none))))) else none else none else none) else (e1 l8)) j
theorem F138.loop0_s {R : Type} (k : Nat) (j : Nat) (s1 : Int) (s2 : Int) (s17 : List (Int × Int)) (s18 : Int) (s19 : Int) (l8 : List Int) (e0 : Int -> Int -> Option R) (e1 : (List Int) -> Option R) : F138.loop0 k (j + 1) s1 s2 s17 s18 s19 l8 e0 e1 =
  (bif decide (s19 < s18) then (if 0 <= s19 then (s17[s19.toNat]?).bind fun (x1 : Int × Int) => (F60 k x1.1).bind fun (y2 : (Int × Unit) × (Unit)) => if 0 <= w64 (((l8.length : Nat) : Int) - y2.1.1) /\ w64 (((l8.length : Nat) : Int) - y2.1.1) <= ((l8.length : Nat) : Int) then if 0 <= (((w64 (((l8.length : Nat) : Int) - y2.1.1)).toNat : Nat) : Int) /\ (((w64 (((l8.length : Nat) : Int) - y2.1.1)).toNat : Nat) : Int) <= ((l8.length : Nat) : Int) then bif x1.1 == 0 then ((F66 k s1).bind fun (y3 : (Bool × Unit) × (Unit)) => bif !y3.1.1 then (e0 0 11) else (if ((l8.take ((w64 (((l8.length : Nat) : Int) - y2.1.1)).toNat)) ++ [s1]).length * 8 <= 140737488355328 then F138.loop0 k j s1 s2 s17 s18 (w64 (s19 + 1)) ((l8.take ((w64 (((l8.length : Nat) : Int) - y2.1.1)).toNat)) ++ [s1]) e0 e1 else none)) else (bif x1.1 == 1 then ((F66 k s2).bind fun (y4 : (Bool × Unit) × (Unit)) => bif !y4.1.1 then (e0 0 11) else (if ((l8.take ((w64 (((l8.length : Nat) : Int) - y2.1.1)).toNat)) ++ [s2]).length * 8 <= 140737488355328 then F138.loop0 k j s1 s2 s17 s18 (w64 (s19 + 1)) ((l8.take ((w64 (((l8.length : Nat) : Int) - y2.1.1)).toNat)) ++ [s2]) e0 e1 else none)) else (bif x1.1 == 2 then ((F66 k x1.2).bind fun (y5 : (Bool × Unit) × (Unit)) => bif !y5.1.1 then (e0 0 11) else (if ((l8.take ((w64 (((l8.length : Nat) : Int) - y2.1.1)).toNat)) ++ [x1.2]).length * 8 <= 140737488355328 then F138.loop0 k j s1 s2 s17 s18 (w64 (s19 + 1)) ((l8.take ((w64 (((l8.length : Nat) : Int) - y2.1.1)).toNat)) ++ [x1.2]) e0 e1 else none)) else (bif x1.1 == 10 then (if 0 <= (0 : Int) /\ (0 : Int) < ((l8.length - (((w64 (((l8.length : Nat) : Int) - y2.1.1)).toNat : Nat) : Int).toNat : Nat) : Int) then (l8[0 + ((((w64 (((l8.length : Nat) : Int) - y2.1.1)).toNat : Nat) : Int).toNat)]?).bind fun (x6 : Int) => (F48 k x6 x1.2).bind fun (y7 : (Int × Unit) × (Unit)) => (F66 k y7.1.1).bind fun (y8 : (Bool × Unit) × (Unit)) => bif !y8.1.1 then (e0 0 11) else (if ((l8.take ((w64 (((l8.length : Nat) : Int) - y2.1.1)).toNat)) ++ [y7.1.1]).length * 8 <= 140737488355328 then F138.loop0 k j s1 s2 s17 s18 (w64 (s19 + 1)) ((l8.take ((w64 (((l8.length : Nat) : Int) - y2.1.1)).toNat)) ++ [y7.1.1]) e0 e1 else none) else none) else (bif x1.1 == 11 then (if 0 <= (0 : Int) /\ (0 : Int) < ((l8.length - (((w64 (((l8.length : Nat) : Int) - y2.1.1)).toNat : Nat) : Int).toNat : Nat) : Int) then (l8[0 + ((((w64 (((l8.length : Nat) : Int) - y2.1.1)).toNat : Nat) : Int).toNat)]?).bind fun (x9 : Int) => (F63 k x9).bind fun (y10 : (Int × Unit) × (Unit)) => (F66 k y10.1.1).bind fun (y11 : (Bool × Unit) × (Unit)) => bif !y11.1.1 then (e0 0 11) else (if ((l8.take ((w64 (((l8.length : Nat) : Int) - y2.1.1)).toNat)) ++ [y10.1.1]).length * 8 <= 140737488355328 then F138.loop0 k j s1 s2 s17 s18 (w64 (s19 + 1)) ((l8.take ((w64 (((l8.length : Nat) : Int) - y2.1.1)).toNat)) ++ [y10.1.1]) e0 e1 else none) else none) else (if 0 <= (0 : Int) /\ (0 : Int) < ((l8.length - (((w64 (((l8.length : Nat) : Int) - y2.1.1)).toNat : Nat) : Int).toNat : Nat) : Int) then (l8[0 + ((((w64 (((l8.length : Nat) : Int) - y2.1.1)).toNat : Nat) : Int).toNat)]?).bind fun (x12 : Int) => if 0 <= (1 : Int) /\ (1 : Int) < ((l8.length - (((w64 (((l8.length : Nat) : Int) - y2.1.1)).toNat : Nat) : Int).toNat : Nat) : Int) then (l8[1 + ((((w64 (((l8.length : Nat) : Int) - y2.1.1)).toNat : Nat) : Int).toNat)]?).bind fun (x13 : Int) => (F137 k x1.1 x12 x13).bind fun (y14 : (Int × Unit) × (Unit)) => (F66 k y14.1.1).bind fun (y15 : (Bool × Unit) × (Unit)) => bif !y15.1.1 then (e0 0 11) else (if ((l8.take ((w64 (((l8.length : Nat) : Int) - y2.1.1)).toNat)) ++ [y14.1.1]).length * 8 <= 140737488355328 then F138.loop0 k j s1 s2 s17 s18 (w64 (s19 + 1)) ((l8.take ((w64 (((l8.length : Nat) : Int) - y2.1.1)).toNat)) ++ [y14.1.1]) e0 e1 else none) else none else none))))) else none else none else none) else (e1 l8)) := rfl
def F138 (k : Nat) (a0 : List (Int × Int)) (a1 : Int) (a2 : Int) : Option ((Int × Int × Unit) × (Unit)) :=
 if 0 <= (0 : Int) /\ (0 : Int) <= (a0.length : Int) /\ (a0.length : Int) * ((8 : Nat) : Int) <= 140737488355328 then F138.loop0 k k a1 a2 a0 (a0.length : Int) 0 (List.replicate 0 (0 : Int)) (fun (z16 : Int) (z17 : Int) => (some ((z16, z17, ()), ()))) (fun (z18 : List Int) => (if 0 <= (0 : Int) /\ (0 : Int) < ((z18.length : Nat) : Int) then (z18[0]?).bind fun (x19 : Int) => some ((x19, 0, ()), ()) else none)) else none
def F139 (k : Nat) (a0 : Int × Int × Int × Int) : Option ((Bool × Unit) × (Unit)) :=
 some (((a0.1 == 0 && (a0.2.1 == 0 && (a0.2.2.1 == 0 && (a0.2.2.2 == 0 && true)))), ()), ())
def F140 (k : Nat) (a0 : Int) : Option ((Bool × Unit) × (Unit)) :=
 bif decide (a0 >= (-1048576)) then (some ((decide (a0 <= 1048576), ()), ())) else (some ((false, ()), ()))
def F141 (k : Nat) (a0 : Int × Int × Int × Int) : Option ((Bool × Unit) × (Unit)) :=
 (F139 k a0).bind fun (y1 : (Bool × Unit) × (Unit)) => bif y1.1.1 then (some ((true, ()), ())) else ((F140 k a0.1).bind fun (y2 : (Bool × Unit) × (Unit)) => bif y2.1.1 then ((F140 k a0.2.1).bind fun (y3 : (Bool × Unit) × (Unit)) => bif y3.1.1 then ((F140 k a0.2.2.1).bind fun (y4 : (Bool × Unit) × (Unit)) => bif y4.1.1 then ((F140 k a0.2.2.2).bind fun (y5 : (Bool × Unit) × (Unit)) => bif y5.1.1 then (bif decide (a0.1 < a0.2.2.1) then (some ((decide (a0.2.1 < a0.2.2.2), ()), ())) else (some ((false, ()), ()))) else (some ((false, ()), ()))) else (some ((false, ()), ()))) else (some ((false, ()), ()))) else (some ((false, ()), ())))
def F142 (k : Nat) (a0 : Int × Int × Int × Int) (a1 : Int × Int × Int × Int) : Option (((Int × Int × Int × Int) × Unit) × (Unit)) :=
 (F141 k a0).bind fun (y1 : (Bool × Unit) × (Unit)) => bif !y1.1.1 then (some (((0, 0, 0, 0), ()), ())) else ((F141 k a1).bind fun (y2 : (Bool × Unit) × (Unit)) => bif !y2.1.1 then (some (((0, 0, 0, 0), ()), ())) else (bif decide ((mm true a0.1 a1.1) >= (mm false a0.2.2.1 a1.2.2.1)) then (some (((0, 0, 0, 0), ()), ())) else (bif decide ((mm true a0.2.1 a1.2.1) >= (mm false a0.2.2.2 a1.2.2.2)) then (some (((0, 0, 0, 0), ()), ())) else (some (((mm true a0.1 a1.1, mm true a0.2.1 a1.2.1, mm false a0.2.2.1 a1.2.2.1, mm false a0.2.2.2 a1.2.2.2), ()), ())))))
def F143 (k : Nat) (a0 : Int × Int × Int × Int) (a1 : Int × Int × Int × Int) : Option ((Bool × Unit) × (Unit)) :=
 (F141 k a0).bind fun (y1 : (Bool × Unit) × (Unit)) => bif y1.1.1 then ((F141 k a1).bind fun (y2 : (Bool × Unit) × (Unit)) => bif y2.1.1 then ((F142 k a0 a1).bind fun (y3 : ((Int × Int × Int × Int) × Unit) × (Unit)) => some (((y3.1.1.1 == a0.1 && (y3.1.1.2.1 == a0.2.1 && (y3.1.1.2.2.1 == a0.2.2.1 && (y3.1.1.2.2.2 == a0.2.2.2 && true)))), ()), ())) else (some ((false, ()), ()))) else (some ((false, ()), ()))
def F144 (k : Nat) (a0 : Int) (a1 : Int) : Option ((Int × Unit) × (Unit)) :=
 some ((mm true (mm false a0 a1) 0, ()), ())
def F145.loop1 {R : Type} (k : Nat) (j : Nat) : Bool -> (List (Int × Int)) -> Int -> Int -> Int -> Int -> Int -> Int -> (List Int) -> Int -> Int -> Int -> (List Int) -> Int -> Int -> Int -> Int -> Int -> Int -> Int -> (List Int) -> Int -> Int -> Int -> (List Int) -> (Int -> Int -> Int -> Int -> (List Int) -> Option R) -> (Int -> Int -> Int -> (List Int) -> Int -> Int -> Int -> (List Int) -> Int -> Int -> Int -> Int -> Int -> Int -> Int -> (List Int) -> Int -> Int -> Int -> (List Int) -> Option R) -> Option R :=
 Nat.rec (motive := fun _ => _)
  (fun _ _ _ _ _ _ _ _ _ _ _ _ _ _ _ _ _ _ _ _ _ _ _ _ _ _ _ => none)
  (fun _ ih (s2 : Bool) (s3 : List (Int × Int)) (s4 : Int) (s20 : Int) (s21 : Int) (b6_0 : Int) (b6_1 : Int) (b6_2 : Int) (b6_3 : List Int) (b7_0 : Int) (b7_1 : Int) (b7_2 : Int) (b7_3 : List Int) (b11_0 : Int) (b11_1 : Int) (b11_2 : Int) (b11_3 : Int) (b12_0 : Int) (b12_1 : Int) (b12_2 : Int) (b12_3 : List Int) (b19_0 : Int) (b19_1 : Int) (b19_2 : Int) (b19_3 : List Int) (e0 : Int -> Int -> Int -> Int -> (List Int) -> Option R) (e1 : Int -> Int -> Int -> (List Int) -> Int -> Int -> Int -> (List Int) -> Int -> Int -> Int -> Int -> Int -> Int -> Int -> (List Int) -> Int -> Int -> Int -> (List Int) -> Option R) => bif decide (s21 < b11_2) then (bif s2 then (if 0 <= w64 ((w64 (s20 * b6_0)) + s21) then (b7_3[(w64 ((w64 (s20 * b6_0)) + s21)).toNat]?).bind fun (x8 : Int) => if 0 <= w64 ((w64 (s20 * b6_0)) + s21) then (b6_3[(w64 ((w64 (s20 * b6_0)) + s21)).toNat]?).bind fun (x9 : Int) => (F138 k s3 x9 x8).bind fun (y10 : (Int × Int × Unit) × (Unit)) => bif y10.1.2.1 != 0 then (e0 y10.1.2.1 0 0 0 ([] : List Int)) else ((F144 k y10.1.1 s4).bind fun (y11 : (Int × Unit) × (Unit)) => if (b19_3 ++ [y11.1.1]).length * 8 <= 140737488355328 then ih s2 s3 s4 s20 (w64 (s21 + 1)) b6_0 b6_1 b6_2 b6_3 b7_0 b7_1 b7_2 b7_3 b11_0 b11_1 b11_2 b11_3 b12_0 b12_1 b12_2 b12_3 b19_0 b19_1 b19_2 (b19_3 ++ [y11.1.1]) e0 e1 else none) else none else none) else (if 0 <= w64 ((w64 (s20 * b6_0)) + s21) then (b6_3[(w64 ((w64 (s20 * b6_0)) + s21)).toNat]?).bind fun (x12 : Int) => (F138 k s3 x12 0).bind fun (y13 : (Int × Int × Unit) × (Unit)) => bif y13.1.2.1 != 0 then (e0 y13.1.2.1 0 0 0 ([] : List Int)) else ((F144 k y13.1.1 s4).bind fun (y14 : (Int × Unit) × (Unit)) => if (b19_3 ++ [y14.1.1]).length * 8 <= 140737488355328 then ih s2 s3 s4 s20 (w64 (s21 + 1)) b6_0 b6_1 b6_2 b6_3 b7_0 b7_1 b7_2 b7_3 b11_0 b11_1 b11_2 b11_3 b12_0 b12_1 b12_2 b12_3 b19_0 b19_1 b19_2 (b19_3 ++ [y14.1.1]) e0 e1 else none) else none)) else (e1 b6_0 b6_1 b6_2 b6_3 b7_0 b7_1 b7_2 b7_3 b11_0 b11_1 b11_2 b11_3 b12_0 b12_1 b12_2 b12_3 b19_0 b19_1 b19_2 b19_3)) j
theorem F145.loop1_s {R : Type} (k : Nat) (j : Nat) (s2 : Bool) (s3 : List (Int × Int)) (s4 : Int) (s20 : Int) (s21 : Int) (b6_0 : Int) (b6_1 : Int) (b6_2 : Int) (b6_3 : List Int) (b7_0 : Int) (b7_1 : Int) (b7_2 : Int) (b7_3 : List Int) (b11_0 : Int) (b11_1 : Int) (b11_2 : Int) (b11_3 : Int) (b12_0 : Int) (b12_1 : Int) (b12_2 : Int) (b12_3 : List Int) (b19_0 : Int) (b19_1 : Int) (b19_2 : Int) (b19_3 : List Int) (e0 : Int -> Int -> Int -> Int -> (List Int) -> Option R) (e1 : Int -> Int -> Int -> (List Int) -> Int -> Int -> Int -> (List Int) -> Int -> Int -> Int -> Int -> Int -> Int -> Int -> (List Int) -> Int -> Int -> Int -> (List Int) -> Option R) : F145.loop1 k (j + 1) s2 s3 s4 s20 s21 b6_0 b6_1 b6_2 b6_3 b7_0 b7_1 b7_2 b7_3 b11_0 b11_1 b11_2 b11_3 b12_0 b12_1 b12_2 b12_3 b19_0 b19_1 b19_2 b19_3 e0 e1 =
  (bif decide (s21 < b11_2) then (bif s2 then (if 0 <= w64 ((w64 (s20 * b6_0)) + s21) then (b7_3[(w64 ((w64 (s20 * b6_0)) + s21)).toNat]?).bind fun (x8 : Int) => if 0 <= w64 ((w64 (s20 * b6_0)) + s21) then (b6_3[(w64 ((w64 (s20 * b6_0)) + s21)).toNat]?).bind fun (x9 : Int) => (F138 k s3 x9 x8).bind fun (y10 : (Int × Int × Unit) × (Unit)) => bif y10.1.2.1 != 0 then (e0 y10.1.2.1 0 0 0 ([] : List Int)) else ((F144 k y10.1.1 s4).bind fun (y11 : (Int × Unit) × (Unit)) => if (b19_3 ++ [y11.1.1]).length * 8 <= 140737488355328 then F145.loop1 k j s2 s3 s4 s20 (w64 (s21 + 1)) b6_0 b6_1 b6_2 b6_3 b7_0 b7_1 b7_2 b7_3 b11_0 b11_1 b11_2 b11_3 b12_0 b12_1 b12_2 b12_3 b19_0 b19_1 b19_2 (b19_3 ++ [y11.1.1]) e0 e1 else none) else none else none) else (if 0 <= w64 ((w64 (s20 * b6_0)) + s21) then (b6_3[(w64 ((w64 (s20 * b6_0)) + s21)).toNat]?).bind fun (x12 : Int) => (F138 k s3 x12 0).bind fun (y13 : (Int × Int × Unit) × (Unit)) => bif y13.1.2.1 != 0 then (e0 y13.1.2.1 0 0 0 ([] : List Int)) else ((F144 k y13.1.1 s4).bind fun (y14 : (Int × Unit) × (Unit)) => if (b19_3 ++ [y14.1.1]).length * 8 <= 140737488355328 then F145.loop1 k j s2 s3 s4 s20 (w64 (s21 + 1)) b6_0 b6_1 b6_2 b6_3 b7_0 b7_1 b7_2 b7_3 b11_0 b11_1 b11_2 b11_3 b12_0 b12_1 b12_2 b12_3 b19_0 b19_1 b19_2 (b19_3 ++ [y14.1.1]) e0 e1 else none) else none)) else (e1 b6_0 b6_1 b6_2 b6_3 b7_0 b7_1 b7_2 b7_3 b11_0 b11_1 b11_2 b11_3 b12_0 b12_1 b12_2 b12_3 b19_0 b19_1 b19_2 b19_3)) := rfl
def F145.loop0 {R : Type} (k : Nat) (j : Nat) : Bool -> (List (Int × Int)) -> Int -> Int -> Int -> Int -> Int -> (List Int) -> Int -> Int -> Int -> (List Int) -> Int -> Int -> Int -> Int -> Int -> Int -> Int -> (List Int) -> Int -> Int -> Int -> (List Int) -> (Int -> Int -> Int -> Int -> (List Int) -> Option R) -> (Int -> Int -> Int -> (List Int) -> Int -> Int -> Int -> (List Int) -> Option R) -> Option R :=
 Nat.rec (motive := fun _ => _)
  (fun _ _ _ _ _ _ _ _ _ _ _ _ _ _ _ _ _ _ _ _ _ _ _ _ _ _ => none)
  (fun _ ih (s2 : Bool) (s3 : List (Int × Int)) (s4 : Int) (s20 : Int) (b6_0 : Int) (b6_1 : Int) (b6_2 : Int) (b6_3 : List Int) (b7_0 : Int) (b7_1 : Int) (b7_2 : Int) (b7_3 : List Int) (b11_0 : Int) (b11_1 : Int) (b11_2 : Int) (b11_3 : Int) (b12_0 : Int) (b12_1 : Int) (b12_2 : Int) (b12_3 : List Int) (b19_0 : Int) (b19_1 : Int) (b19_2 : Int) (b19_3 : List Int) (e0 : Int -> Int -> Int -> Int -> (List Int) -> Option R) (e1 : Int -> Int -> Int -> (List Int) -> Int -> Int -> Int -> (List Int) -> Option R) => bif decide (s20 < b11_3) then (F145.loop1 k k s2 s3 s4 s20 b11_0 b6_0 b6_1 b6_2 b6_3 b7_0 b7_1 b7_2 b7_3 b11_0 b11_1 b11_2 b11_3 b12_0 b12_1 b12_2 b12_3 b19_0 b19_1 b19_2 b19_3 (fun (z8 : Int) (z9 : Int) (z10 : Int) (z11 : Int) (z12 : List Int) => (e0 z8 z9 z10 z11 z12)) (fun (z13 : Int) (z14 : Int) (z15 : Int) (z16 : List Int) (z17 : Int) (z18 : Int) (z19 : Int) (z20 : List Int) (z21 : Int) (z22 : Int) (z23 : Int) (z24 : Int) (z25 : Int) (z26 : Int) (z27 : Int) (z28 : List Int) (z29 : Int) (z30 : Int) (z31 : Int) (z32 : List Int) => (ih s2 s3 s4 (w64 (s20 + 1)) z13 z14 z15 z16 z17 z18 z19 z20 z21 z22 z23 z24 z25 z26 z27 z28 z29 z30 z31 z32 e0 e1))) else (e1 b12_0 b12_1 b12_2 b12_3 b19_0 b19_1 b19_2 b19_3)) j
theorem F145.loop0_s {R : Type} (k : Nat) (j : Nat) (s2 : Bool) (s3 : List (Int × Int)) (s4 : Int) (s20 : Int) (b6_0 : Int) (b6_1 : Int) (b6_2 : Int) (b6_3 : List Int) (b7_0 : Int) (b7_1 : Int) (b7_2 : Int) (b7_3 : List Int) (b11_0 : Int) (b11_1 : Int) (b11_2 : Int) (b11_3 : Int) (b12_0 : Int) (b12_1 : Int) (b12_2 : Int) (b12_3 : List Int) (b19_0 : Int) (b19_1 : Int) (b19_2 : Int) (b19_3 : List Int) (e0 : Int -> Int -> Int -> Int -> (List Int) -> Option R) (e1 : Int -> Int -> Int -> (List Int) -> Int -> Int -> Int -> (List Int) -> Option R) : F145.loop0 k (j + 1) s2 s3 s4 s20 b6_0 b6_1 b6_2 b6_3 b7_0 b7_1 b7_2 b7_3 b11_0 b11_1 b11_2 b11_3 b12_0 b12_1 b12_2 b12_3 b19_0 b19_1 b19_2 b19_3 e0 e1 =
  (bif decide (s20 < b11_3) then (F145.loop1 k k s2 s3 s4 s20 b11_0 b6_0 b6_1 b6_2 b6_3 b7_0 b7_1 b7_2 b7_3 b11_0 b11_1 b11_2 b11_3 b12_0 b12_1 b12_2 b12_3 b19_0 b19_1 b19_2 b19_3 (fun (z8 : Int) (z9 : Int) (z10 : Int) (z11 : Int) (z12 : List Int) => (e0 z8 z9 z10 z11 z12)) (fun (z13 : Int) (z14 : Int) (z15 : Int) (z16 : List Int) (z17 : Int) (z18 : Int) (z19 : Int) (z20 : List Int) (z21 : Int) (z22 : Int) (z23 : Int) (z24 : Int) (z25 : Int) (z26 : Int) (z27 : Int) (z28 : List Int) (z29 : Int) (z30 : Int) (z31 : Int) (z32 : List Int) => (F145.loop0 k j s2 s3 s4 (w64 (s20 + 1)) z13 z14 z15 z16 z17 z18 z19 z20 z21 z22 z23 z24 z25 z26 z27 z28 z29 z30 z31 z32 e0 e1))) else (e1 b12_0 b12_1 b12_2 b12_3 b19_0 b19_1 b19_2 b19_3)) := rfl
def F145 (k : Nat) (a0 : Int × Int × Int × List Int) (a1 : Int × Int × Int × List Int) (a2 : Bool) (a3 : List (Int × Int)) (a4 : Int) (a5 : Int × Int × Int × Int) : Option (((Int × Int × Int × List Int) × Int × Unit) × (Unit)) :=
 (F31 k a0).bind fun (y1 : (Bool × Unit) × (Unit)) => bif !y1.1.1 then (some (((0, 0, 0, []), 1, ()), ())) else (bif a2 then ((F31 k a1).bind fun (y2 : (Bool × Unit) × (Unit)) => bif !y2.1.1 then (some (((0, 0, 0, []), 1, ()), ())) else ((F62 k a3 a2).bind fun (y3 : (Int × Unit) × (Unit)) => bif y3.1.1 != 0 then (some (((0, 0, 0, []), y3.1.1, ()), ())) else ((F59 k a4 1 4294967296).bind fun (y4 : (Bool × Unit) × (Unit)) => bif !y4.1.1 then (some (((0, 0, 0, []), 2, ()), ())) else (bif a2 then ((F67 k a3 a0.2.2.1 a1.2.2.1).bind fun (y5 : (Int × Int × Int × Unit) × (Unit)) => bif y5.1.2.2.1 != 0 then (some (((0, 0, 0, []), y5.1.2.2.1, ()), ())) else (bif a2 then (bif a0.1 != a1.1 then (some (((0, 0, 0, []), 8, ()), ())) else (bif a0.2.1 != a1.2.1 then (some (((0, 0, 0, []), 8, ()), ())) else ((F139 k a5).bind fun (y6 : (Bool × Unit) × (Unit)) => bif y6.1.1 then (some (((0, 0, 0, []), 8, ()), ())) else ((F143 k a5 (0, 0, a0.1, a0.2.1)).bind fun (y7 : (Bool × Unit) × (Unit)) => bif !y7.1.1 then (some (((0, 0, 0, []), 8, ()), ())) else (F145.loop0 k k a2 a3 a4 a5.2.1 a0.1 a0.2.1 a0.2.2.1 a0.2.2.2 a1.1 a1.2.1 a1.2.2.1 a1.2.2.2 a5.1 a5.2.1 a5.2.2.1 a5.2.2.2 0 0 0 ([] : List Int) (w64 (a5.2.2.1 - a5.1)) (w64 (a5.2.2.2 - a5.2.1)) a4 ([] : List Int) (fun (z33 : Int) (z34 : Int) (z35 : Int) (z36 : Int) (z37 : List Int) => (some (((z34, z35, z36, z37), z33, ()), ()))) (fun (z38 : Int) (z39 : Int) (z40 : Int) (z41 : List Int) (z42 : Int) (z43 : Int) (z44 : Int) (z45 : List Int) => (some (((z42, z43, z44, z45), 0, ()), ())))))))) else ((F139 k a5).bind fun (y46 : (Bool × Unit) × (Unit)) => bif y46.1.1 then (some (((0, 0, 0, []), 8, ()), ())) else ((F143 k a5 (0, 0, a0.1, a0.2.1)).bind fun (y47 : (Bool × Unit) × (Unit)) => bif !y47.1.1 then (some (((0, 0, 0, []), 8, ()), ())) else (F145.loop0 k k a2 a3 a4 a5.2.1 a0.1 a0.2.1 a0.2.2.1 a0.2.2.2 a1.1 a1.2.1 a1.2.2.1 a1.2.2.2 a5.1 a5.2.1 a5.2.2.1 a5.2.2.2 0 0 0 ([] : List Int) (w64 (a5.2.2.1 - a5.1)) (w64 (a5.2.2.2 - a5.2.1)) a4 ([] : List Int) (fun (z48 : Int) (z49 : Int) (z50 : Int) (z51 : Int) (z52 : List Int) => (some (((z49, z50, z51, z52), z48, ()), ()))) (fun (z53 : Int) (z54 : Int) (z55 : Int) (z56 : List Int) (z57 : Int) (z58 : Int) (z59 : Int) (z60 : List Int) => (some (((z57, z58, z59, z60), 0, ()), ())))))))) else ((F67 k a3 a0.2.2.1 1).bind fun (y61 : (Int × Int × Int × Unit) × (Unit)) => bif y61.1.2.2.1 != 0 then (some (((0, 0, 0, []), y61.1.2.2.1, ()), ())) else (bif a2 then (bif a0.1 != a1.1 then (some (((0, 0, 0, []), 8, ()), ())) else (bif a0.2.1 != a1.2.1 then (some (((0, 0, 0, []), 8, ()), ())) else ((F139 k a5).bind fun (y62 : (Bool × Unit) × (Unit)) => bif y62.1.1 then (some (((0, 0, 0, []), 8, ()), ())) else ((F143 k a5 (0, 0, a0.1, a0.2.1)).bind fun (y63 : (Bool × Unit) × (Unit)) => bif !y63.1.1 then (some (((0, 0, 0, []), 8, ()), ())) else (F145.loop0 k k a2 a3 a4 a5.2.1 a0.1 a0.2.1 a0.2.2.1 a0.2.2.2 a1.1 a1.2.1 a1.2.2.1 a1.2.2.2 a5.1 a5.2.1 a5.2.2.1 a5.2.2.2 0 0 0 ([] : List Int) (w64 (a5.2.2.1 - a5.1)) (w64 (a5.2.2.2 - a5.2.1)) a4 ([] : List Int) (fun (z64 : Int) (z65 : Int) (z66 : Int) (z67 : Int) (z68 : List Int) => (some (((z65, z66, z67, z68), z64, ()), ()))) (fun (z69 : Int) (z70 : Int) (z71 : Int) (z72 : List Int) (z73 : Int) (z74 : Int) (z75 : Int) (z76 : List Int) => (some (((z73, z74, z75, z76), 0, ()), ())))))))) else ((F139 k a5).bind fun (y77 : (Bool × Unit) × (Unit)) => bif y77.1.1 then (some (((0, 0, 0, []), 8, ()), ())) else ((F143 k a5 (0, 0, a0.1, a0.2.1)).bind fun (y78 : (Bool × Unit) × (Unit)) => bif !y78.1.1 then (some (((0, 0, 0, []), 8, ()), ())) else (F145.loop0 k k a2 a3 a4 a5.2.1 a0.1 a0.2.1 a0.2.2.1 a0.2.2.2 a1.1 a1.2.1 a1.2.2.1 a1.2.2.2 a5.1 a5.2.1 a5.2.2.1 a5.2.2.2 0 0 0 ([] : List Int) (w64 (a5.2.2.1 - a5.1)) (w64 (a5.2.2.2 - a5.2.1)) a4 ([] : List Int) (fun (z79 : Int) (z80 : Int) (z81 : Int) (z82 : Int) (z83 : List Int) => (some (((z80, z81, z82, z83), z79, ()), ()))) (fun (z84 : Int) (z85 : Int) (z86 : Int) (z87 : List Int) (z88 : Int) (z89 : Int) (z90 : Int) (z91 : List Int) => (some (((z88, z89, z90, z91), 0, ()), ())))))))))))) else ((F62 k a3 a2).bind fun (y92 : (Int × Unit) × (Unit)) => bif y92.1.1 != 0 then (some (((0, 0, 0, []), y92.1.1, ()), ())) else ((F59 k a4 1 4294967296).bind fun (y93 : (Bool × Unit) × (Unit)) => bif !y93.1.1 then (some (((0, 0, 0, []), 2, ()), ())) else (bif a2 then ((F67 k a3 a0.2.2.1 a1.2.2.1).bind fun (y94 : (Int × Int × Int × Unit) × (Unit)) => bif y94.1.2.2.1 != 0 then (some (((0, 0, 0, []), y94.1.2.2.1, ()), ())) else (bif a2 then (bif a0.1 != a1.1 then (some (((0, 0, 0, []), 8, ()), ())) else (bif a0.2.1 != a1.2.1 then (some (((0, 0, 0, []), 8, ()), ())) else ((F139 k a5).bind fun (y95 : (Bool × Unit) × (Unit)) => bif y95.1.1 then (some (((0, 0, 0, []), 8, ()), ())) else ((F143 k a5 (0, 0, a0.1, a0.2.1)).bind fun (y96 : (Bool × Unit) × (Unit)) => bif !y96.1.1 then (some (((0, 0, 0, []), 8, ()), ())) else (F145.loop0 k k a2 a3 a4 a5.2.1 a0.1 a0.2.1 a0.2.2.1 a0.2.2.2 a1.1 a1.2.1 a1.2.2.1 a1.2.2.2 a5.1 a5.2.1 a5.2.2.1 a5.2.2.2 0 0 0 ([] : List Int) (w64 (a5.2.2.1 - a5.1)) (w64 (a5.2.2.2 - a5.2.1)) a4 ([] : List Int) (fun (z97 : Int) (z98 : Int) (z99 : Int) (z100 : Int) (z101 : List Int) => (some (((z98, z99, z100, z101), z97, ()), ()))) (fun (z102 : Int) (z103 : Int) (z104 : Int) (z105 : List Int) (z106 : Int) (z107 : Int) (z108 : Int) (z109 : List Int) => (some (((z106, z107, z108, z109), 0, ()), ())))))))) else ((F139 k a5).bind fun (y110 : (Bool × Unit) × (Unit)) => bif y110.1.1 then (some (((0, 0, 0, []), 8, ()), ())) else ((F143 k a5 (0, 0, a0.1, a0.2.1)).bind fun (y111 : (Bool × Unit) × (Unit)) => bif !y111.1.1 then (some (((0, 0, 0, []), 8, ()), ())) else (F145.loop0 k k a2 a3 a4 a5.2.1 a0.1 a0.2.1 a0.2.2.1 a0.2.2.2 a1.1 a1.2.1 a1.2.2.1 a1.2.2.2 a5.1 a5.2.1 a5.2.2.1 a5.2.2.2 0 0 0 ([] : List Int) (w64 (a5.2.2.1 - a5.1)) (w64 (a5.2.2.2 - a5.2.1)) a4 ([] : List Int) (fun (z112 : Int) (z113 : Int) (z114 : Int) (z115 : Int) (z116 : List Int) => (some (((z113, z114, z115, z116), z112, ()), ()))) (fun (z117 : Int) (z118 : Int) (z119 : Int) (z120 : List Int) (z121 : Int) (z122 : Int) (z123 : Int) (z124 : List Int) => (some (((z121, z122, z123, z124), 0, ()), ())))))))) else ((F67 k a3 a0.2.2.1 1).bind fun (y125 : (Int × Int × Int × Unit) × (Unit)) => bif y125.1.2.2.1 != 0 then (some (((0, 0, 0, []), y125.1.2.2.1, ()), ())) else (bif a2 then (bif a0.1 != a1.1 then (some (((0, 0, 0, []), 8, ()), ())) else (bif a0.2.1 != a1.2.1 then (some (((0, 0, 0, []), 8, ()), ())) else ((F139 k a5).bind fun (y126 : (Bool × Unit) × (Unit)) => bif y126.1.1 then (some (((0, 0, 0, []), 8, ()), ())) else ((F143 k a5 (0, 0, a0.1, a0.2.1)).bind fun (y127 : (Bool × Unit) × (Unit)) => bif !y127.1.1 then (some (((0, 0, 0, []), 8, ()), ())) else (F145.loop0 k k a2 a3 a4 a5.2.1 a0.1 a0.2.1 a0.2.2.1 a0.2.2.2 a1.1 a1.2.1 a1.2.2.1 a1.2.2.2 a5.1 a5.2.1 a5.2.2.1 a5.2.2.2 0 0 0 ([] : List Int) (w64 (a5.2.2.1 - a5.1)) (w64 (a5.2.2.2 - a5.2.1)) a4 ([] : List Int) (fun (z128 : Int) (z129 : Int) (z130 : Int) (z131 : Int) (z132 : List Int) => (some (((z129, z130, z131, z132), z128, ()), ()))) (fun (z133 : Int) (z134 : Int) (z135 : Int) (z136 : List Int) (z137 : Int) (z138 : Int) (z139 : Int) (z140 : List Int) => (some (((z137, z138, z139, z140), 0, ()), ())))))))) else ((F139 k a5).bind fun (y141 : (Bool × Unit) × (Unit)) => bif y141.1.1 then (some (((0, 0, 0, []), 8, ()), ())) else ((F143 k a5 (0, 0, a0.1, a0.2.1)).bind fun (y142 : (Bool × Unit) × (Unit)) => bif !y142.1.1 then (some (((0, 0, 0, []), 8, ()), ())) else (F145.loop0 k k a2 a3 a4 a5.2.1 a0.1 a0.2.1 a0.2.2.1 a0.2.2.2 a1.1 a1.2.1 a1.2.2.1 a1.2.2.2 a5.1 a5.2.1 a5.2.2.1 a5.2.2.2 0 0 0 ([] : List Int) (w64 (a5.2.2.1 - a5.1)) (w64 (a5.2.2.2 - a5.2.1)) a4 ([] : List Int) (fun (z143 : Int) (z144 : Int) (z145 : Int) (z146 : Int) (z147 : List Int) => (some (((z144, z145, z146, z147), z143, ()), ()))) (fun (z148 : Int) (z149 : Int) (z150 : Int) (z151 : List Int) (z152 : Int) (z153 : Int) (z154 : Int) (z155 : List Int) => (some (((z152, z153, z154, z155), 0, ()), ()))))))))))))
theorem q28 {n : Int} (h1 : -9223372036854775808 <= n) (h2 : n < 9223372036854775808) : w64 n = n := by
 unfold w64 IntKind.wrap
 simp [IntKind.bits, IntKind.signed] <;> omega
theorem q698 (a m : Int) (h : 0 < m) : -m < a.tmod m := by
 by_cases h0 : 0 <= a
 ·have := Int.tmod_nonneg m h0; omega
 ·have h1 := Int.tmod_lt_of_pos (-a) h
  rw [Int.neg_tmod] at h1
  omega
theorem mod_ok (k : Nat) (a m : Int) (h1 : 0 < m) (h2 : m <= 4611686018427387904) : ∃ u, F5 k a m = some ((u, ()), ()) /\ 0 <= u /\ u < m := by
 have hlt := Int.tmod_lt_of_pos a h1
 have hgt := q698 a m h1
 unfold F5
 rw [if_neg (by omega)]
 by_cases h : a.tmod m < 0
 ·refine ⟨a.tmod m + m, ?_, by omega, by omega⟩
  simp only [h, decide_true, cond]
  rw [q28 (by omega) (by omega)]
 ·refine ⟨a.tmod m, ?_, by omega, by omega⟩
  simp only [h, decide_false, cond]
theorem abs_ok (k : Nat) {n : Int} (h1 : -9223372036854775808 < n) (h2 : n < 9223372036854775808) : F63 k n = some ((if n < 0 then -n else n, ()), ()) := by
 unfold F63 mm
 rw [q28 (by omega) (by omega)]
 simp only
 congr 2
 split <;> split <;> first | rfl | omega | simp only [Prod.mk.injEq, and_true]; omega
def inM (n : Int) : Prop := -17592186044416 <= n /\ n <= 17592186044416
instance (n : Int) : Decidable (inM n) := inferInstanceAs (Decidable (_ /\ _))
def tk (c : Int) : Nat := if c = 0 \/ c = 1 \/ c = 2 then 0 else if c = 10 \/ c = 11 then 1 else 2
def argB (o : Int × Int) : Bool := if o.1 = 2 then decide (-4294967296 <= o.2 /\ o.2 <= 4294967296) else if o.1 = 10 then decide (0 <= o.2 /\ o.2 <= 24) else decide (o.2 = 0)
theorem tk_le (c : Int) : tk c <= 2 := by unfold tk; split <;> (try split) <;> omega
theorem q547 (k : Nat) (n a b : Int) : F59 k n a b = some ((decide (a <= n /\ n <= b), ()), ()) := by
 unfold F59
 by_cases h : a <= n
 ·simp [h]
 ·simp [h]
theorem sum_eq (k : Nat) (n : Int) : F66 k n = some ((decide (inM n), ()), ()) := by
 unfold F66
 rw [q547]
 rfl
theorem q588 (k : Nat) (c : Int) : F60 k c = some ((((tk c : Nat) : Int), ()), ()) := by
 unfold F60 tk
 by_cases h0 : c = 0
 ·subst h0; rfl
 by_cases h1 : c = 1
 ·subst h1; rfl
 by_cases h2 : c = 2
 ·subst h2; rfl
 by_cases h10 : c = 10
 ·subst h10; rfl
 by_cases h11 : c = 11
 ·subst h11; rfl
 have e0 : (c == 0) = false := by simpa using h0
 have e1 : (c == 1) = false := by simpa using h1
 have e2 : (c == 2) = false := by simpa using h2
 have e10 : (c == 10) = false := by simpa using h10
 have e11 : (c == 11) = false := by simpa using h11
 simp only [e0, e1, e2, e10, e11, cond]
 rw [if_neg (by omega), if_neg (by omega)]
 rfl
theorem arg_ok (k : Nat) (o : Int × Int) : F61 k o = some ((argB o, ()), ()) := by
 unfold F61 argB
 by_cases h2 : o.1 = 2
 ·have e : (o.1 == 2) = true := by simpa using h2
  rw [e, if_pos h2, q547]; rfl
 ·have e : (o.1 == 2) = false := by simpa using h2
  rw [e, if_neg h2]
  by_cases h10 : o.1 = 10
  ·have e : (o.1 == 10) = true := by simpa using h10
   simp [h10, q547]
  ·have e : (o.1 == 10) = false := by simpa using h10
   rw [e, if_neg h10]
   by_cases h : o.2 = 0 <;> simp [h]
def vgo {R : Type} (two : Bool) (e0 e1 : Int -> Option R) : List (Int × Int) -> Int -> Option R
 | [], h => e1 h
 | o :: l, h => if ¬ (0 <= o.1 /\ o.1 <= 11) \/ (o.1 = 1 /\ two = false) \/ h < tk o.1 then e0 1 else if argB o = false then e0 10 else vgo two e0 e1 l (h + (1 - tk o.1))
theorem q86 (n : Nat) (h : n < 9223372036854775808) : w64 ((n : Int)) = n := q28 (by omega) (by omega)
theorem q22 (n : Nat) (h : n < 9223372036854775807) : w64 ((n : Int) + 1) = ((n + 1 : Nat) : Int) := by rw [q28 (by omega) (by omega)]; rfl
theorem q625 {R : Type} (k : Nat) (two : Bool) (l : List (Int × Int)) (e0 e1 : Int -> Option R) (hl : l.length <= 4294967296) : ∀ (n i j : Nat) (h : Int), l.length - i = n -> i <= l.length -> n < j -> -4294967296 * 2 <= h -> h <= i ->
  F62.loop0 k j two h l l.length i e0 e1 = vgo two e0 e1 (l.drop i) h := by
 intro n
 induction n with
 | zero =>
  intro i j h hn hi hj h1 h2
  have e : i = l.length := by omega
  obtain ⟨j, rfl⟩ : ∃ j', j = j' + 1 := ⟨j - 1, by omega⟩
  rw [F62.loop0_s, e, y0 (by omega), y157]
  rfl
 | succ n ih =>
  intro i j h hn hi hj h1 h2
  obtain ⟨j, rfl⟩ : ∃ j', j = j' + 1 := ⟨j - 1, by omega⟩
  have hlt : i < l.length := by omega
  rw [F62.loop0_s, y135 (by omega), y147 hlt]
  simp only [cond]
  rw [if_pos (by omega), y139, y140 hlt]
  generalize hgo : l[i] = o
  simp only [Option.bind, q547, q588, arg_ok]
  have htk := tk_le o.1
  unfold vgo
  by_cases hb : 0 <= o.1 /\ o.1 <= 11
  ·rw [y135 hb]
   have next : argB o = true -> ¬ h < tk o.1 -> F62.loop0 k j two (w64 (h + (w64 (1 - ((tk o.1 : Nat) : Int))))) l l.length (w64 ((i : Int) + 1)) e0 e1 = vgo two e0 e1 (l.drop (i + 1)) (h + (1 - tk o.1)) := by
    intro _ hh
    rw [q22 i (by omega), q28 (n := 1 - ((tk o.1 : Nat) : Int)) (by omega) (by omega), q28 (n := h + (1 - ((tk o.1 : Nat) : Int))) (by omega) (by omega)]
    exact ih (i + 1) j _ (by omega) (by omega) (by omega) (by omega) (by omega)
   by_cases h11 : o.1 = 1
   ·have e : (o.1 == 1) = true := by simpa using h11
    rw [e]
    cases two with
    | false => simp [h11]
    | true =>
     by_cases hh : h < tk o.1
     ·simp [hb, hh]
     ·cases ha : argB o with
      | false => simp [hb, hh]
      | true =>
       have := next ha hh
       simp [hb, hh, this]
   ·have e : (o.1 == 1) = false := by simpa using h11
    rw [e]
    by_cases hh : h < tk o.1
    ·simp [hb, hh]
    ·cases ha : argB o with
     | false => simp [hb, hh, h11]
     | true =>
      have := next ha hh
      simp [hb, hh, h11, this]
  ·rw [y0 hb, if_pos (.inl hb)]
   rfl
def q98 (l : List (Int × Int)) (two : Bool) : Int :=
 if 1 <= l.length /\ l.length <= 32 then (vgo (R := Int) two some (fun h => some (if h ≠ 1 then 1 else 0)) l 0).getD 0 else 9
theorem q543 {R R' : Type} (two : Bool) (f : R -> Option R') (e0 e1 : Int -> Option R) : ∀ (l : List (Int × Int)) (h : Int), (vgo two e0 e1 l h).bind f = vgo two (fun x => (e0 x).bind f) (fun x => (e1 x).bind f) l h
 | [], h => rfl
 | o :: l, h => by
  unfold vgo
  split
  ·rfl
  ·split
   ·rfl
   ·exact q543 two f e0 e1 l _
theorem q329 (two : Bool) : ∀ (l : List (Int × Int)) (h : Int), ∃ c, vgo (R := Int) two some (fun h => some (if h ≠ 1 then 1 else 0)) l h = some c
 | [], h => ⟨_, rfl⟩
 | o :: l, h => by
  unfold vgo
  split
  ·exact ⟨_, rfl⟩
  ·split
   ·exact ⟨_, rfl⟩
   ·exact q329 two l _
theorem q598 (k : Nat) (l : List (Int × Int)) (two : Bool) (hk : 33 <= k) : F62 k l two = some ((q98 l two, ()), ()) := by
 unfold F62 q98
 rw [q547]
 simp only [Option.bind]
 by_cases hl : 1 <= l.length /\ l.length <= 32
 ·rw [y135 (by omega), if_pos hl]
  simp only [y145, y137]
  have := q625 (R := (Int × Unit) × Unit) k two l (fun z => some ((z, ()), ())) (fun z => (bif z != 1 then (some ((1, ()), ())) else (some ((0, ()), ())))) (by omega) l.length 0 k 0 rfl (by omega) (by omega) (by omega) (by omega)
  rw [show ((0 : Nat) : Int) = 0 from rfl] at this
  rw [this, y152]
  obtain ⟨c, hc⟩ := q329 two l 0
  rw [hc]
  have hm := q543 two (fun c => some ((c, ()), ())) some (fun h => some (if h ≠ 1 then 1 else 0)) l 0
  rw [hc] at hm
  have e : (fun x : Int => (some (if x ≠ 1 then (1 : Int) else 0)).bind fun c => some ((c, ()), ())) = fun z => (bif z != 1 then (some ((1, ()), ())) else (some ((0, ()), ()))) := by
   funext z
   by_cases h : z = 1
   ·subst h; rfl
   ·have e : (z != 1) = true := by simpa using h
    rw [e, if_pos h]; rfl
  rw [e] at hm
  exact hm.symm
 ·rw [y0 (by omega), if_neg hl]
  rfl
def hOk : List (Int × Int) -> Nat -> Prop
 | [], h => h = 1
 | o :: l, h => 0 <= o.1 /\ o.1 <= 11 /\ tk o.1 <= h /\ argB o = true /\ hOk l (h + 1 - tk o.1)
theorem q693 (two : Bool) : ∀ (l : List (Int × Int)) (h : Nat), vgo (R := Int) two some (fun h => some (if h ≠ 1 then 1 else 0)) l h = some 0 -> hOk l h
 | [], h, hv => by
  have hv' : (some (if (h : Int) ≠ 1 then 1 else 0) : Option Int) = some 0 := hv
  injection hv' with hv'
  by_cases e : (h : Int) = 1
  ·show h = 1; omega
  ·rw [if_pos e] at hv'; cases hv'
 | o :: l, h, hv => by
  unfold vgo at hv
  split at hv
  ·cases hv
  ·rename_i hc
   split at hv
   ·cases hv
   ·rename_i ha
    have h1 : ¬ ((h : Int) < tk o.1) := fun e => hc (.inr (.inr e))
    have h2 : 0 <= o.1 /\ o.1 <= 11 := y146 fun e => hc (.inl e)
    have htk : tk o.1 <= h := by omega
    refine ⟨h2.1, h2.2, htk, by simpa using ha, q693 two l _ ?_⟩
    rw [show ((h + 1 - tk o.1 : Nat) : Int) = (h : Int) + (1 - tk o.1) from by omega]
    exact hv
theorem q338 {l : List (Int × Int)} {two : Bool} (h : q98 l two = 0) : 1 <= l.length /\ l.length <= 32 /\ hOk l 0 := by
 unfold q98 at h
 split at h
 ·rename_i hl
  obtain ⟨c, hc⟩ := q329 two l 0
  rw [hc] at h
  have : c = 0 := h
  subst this
  exact ⟨hl.1, hl.2, q693 two l 0 hc⟩
 ·cases h
def ab (n : Int) : Int := if n < 0 then -n else n
def tms (x y : Int) : Int := if x ≠ 0 /\ 17592186044416 / ab x < ab y then 17592186044417 else x * y
def dvd' (x y : Int) : Int := if y = 0 then 0 else if x.tmod y ≠ 0 /\ ¬ (x < 0 ↔ y < 0) then x.tdiv y - 1 else x.tdiv y
def shf (x s : Int) : Int := if s = 0 then x else (x + 2 ^ (s.toNat - 1)).fdiv (2 ^ s.toNat)
def res (c x y : Int) : Int :=
 if c = 3 then x + y else if c = 4 then x - y else if c = 5 then tms x y else if c = 6 then mm false x y else if c = 7 then mm true x y else if c = 8 then ab (x - y) else dvd' x y
def estep (a b : Int) (o : Int × Int) (x y : Int) : Int :=
 if o.1 = 0 then a else if o.1 = 1 then b else if o.1 = 2 then o.2 else if o.1 = 10 then shf x o.2 else if o.1 = 11 then ab x else res o.1 x y
theorem q75 (n : Int) : 0 <= ab n := by unfold ab; split <;> omega
theorem q373 {n m : Int} : ab n <= m ↔ -m <= n /\ n <= m := by unfold ab; split <;> omega
theorem q530 {n : Int} : ab n = 0 ↔ n = 0 := by unfold ab; split <;> omega
theorem q484 (x y : Int) : ab (x * y) = ab x * ab y := by
 unfold ab
 by_cases hx : x < 0 <;> by_cases hy : y < 0
 ·have := Int.mul_pos_of_neg_of_neg hx hy
  rw [if_neg (by omega), if_pos hx, if_pos hy, Int.neg_mul_neg]
 ·rw [if_pos hx, if_neg hy]
  by_cases h0 : y = 0
  ·subst h0; simp
  ·have := Int.mul_neg_of_neg_of_pos hx (by omega : 0 < y)
   rw [if_pos this, Int.neg_mul]
 ·rw [if_neg hx, if_pos hy]
  by_cases h0 : x = 0
  ·subst h0; simp
  ·have := Int.mul_neg_of_pos_of_neg (by omega : 0 < x) hy
   rw [if_pos this, Int.mul_neg]
 ·have := Int.mul_nonneg (by omega : 0 <= x) (by omega : 0 <= y)
  rw [if_neg (by omega), if_neg hx, if_neg hy]
theorem q398 {n : Int} : inM n ↔ ab n <= 17592186044416 := by unfold inM; rw [q373]
theorem q393 (k : Nat) {n : Int} (h1 : -9223372036854775808 < n) (h2 : n < 9223372036854775808) : F63 k n = some ((ab n, ()), ()) := abs_ok k h1 h2
theorem div_le' {x : Int} (hx : x ≠ 0) : 0 <= 17592186044416 / ab x /\ 17592186044416 / ab x <= 17592186044416 := by
 have h := q75 x
 exact ⟨Int.ediv_nonneg (by omega) h, Int.ediv_le_self _ (by omega)⟩
theorem tms_in {x y : Int} (h : ¬ (x ≠ 0 /\ 17592186044416 / ab x < ab y)) : inM (x * y) := by
 rw [q398, q484]
 by_cases hx : x = 0
 ·subst hx; simp [ab]
 ·have h1 : ab y <= 17592186044416 / ab x := by
   refine Int.not_lt.1 fun h2 => h ⟨hx, h2⟩
  have h0 : 0 < ab x := by have := q75 x; have := mt q530.1 hx; omega
  have := (Int.le_ediv_iff_mul_le h0).1 h1
  rw [Int.mul_comm]; exact this
theorem q331 (k : Nat) {x y : Int} (hx : inM x) (hy : inM y) : F64 k x y = some ((tms x y, ()), ()) := by
 unfold inM at hx hy
 unfold F64
 rw [q393 k (n := y) (by omega) (by omega), q393 k (n := x) (by omega) (by omega)]
 unfold tms
 by_cases h : x = 0
 ·subst h
  simp
  exact q28 (by omega) (by omega)
 ·have e : (x != 0) = true := by simpa using h
  have h0 : ab x ≠ 0 := mt q530.1 h
  obtain ⟨d1, d2⟩ := div_le' h
  have hq : w64 ((17592186044416 : Int).tdiv (ab x)) = 17592186044416 / ab x := by
   rw [Int.tdiv_eq_ediv_of_nonneg (by omega)]
   exact q28 (by omega) (by omega)
  simp only [e, y136, y138, if_neg h0, hq]
  by_cases hg : 17592186044416 / ab x < ab y
  ·rw [y135 hg, if_pos ⟨h, hg⟩]; rfl
  ·have := tms_in (x := x) (y := y) fun hh => hg hh.2
   unfold inM at this
   rw [y0 hg, if_neg fun hh => hg hh.2, y137, q28 (by omega) (by omega)]
theorem q664 {x y : Int} (hy : y ≠ 0) : ab (x.tdiv y) <= ab x := by
 have h1 : (x.tdiv y).natAbs <= x.natAbs := by rw [Int.natAbs_tdiv]; exact Nat.div_le_self _ _
 unfold ab
 split <;> split <;> omega
theorem dvd_ab {x y : Int} : ab (dvd' x y) <= ab x := by
 unfold dvd'
 by_cases hy : y = 0
 ·rw [if_pos hy]; exact q75 x
 ·rw [if_neg hy]
  have hq := q664 (x := x) hy
  split
  ·rename_i h
   have hx : x ≠ 0 := by intro e; subst e; exact h.1 (by simp)
   have hlt : (x.tdiv y).natAbs < x.natAbs := by
    rw [Int.natAbs_tdiv]
    refine Nat.div_lt_self (by omega) ?_
    have : y.natAbs ≠ 1 := by
     intro e
     apply h.1
     rcases Int.natAbs_eq y with e' | e' <;> rw [e] at e' <;> rw [e'] <;> simp
    omega
   unfold ab
   split <;> split <;> omega
  ·exact hq
theorem q748 (k : Nat) (n : Int) : F42 k n = some ((decide (inM n), ()), ()) := by
 unfold F42
 by_cases h : -17592186044416 <= n <;> simp [h, inM]
theorem q482 {s : Nat} (h : s <= 23) : (1 : Int) <= 2 ^ s /\ (2 : Int) ^ s <= 8388608 := by
 have h1 : 2 ^ s <= 2 ^ 23 := Nat.pow_le_pow_right (by omega) h
 have h2 : 1 <= 2 ^ s := Nat.one_le_two_pow
 have e : ((2 ^ s : Nat) : Int) = (2 : Int) ^ s := by simp
 omega
theorem q584 (k : Nat) {x s : Int} (hx : inM x) (h0 : 0 <= s) (h1 : s <= 24) : F48 k x s = some ((shf x s, ()), ()) := by
 have hx' := hx
 unfold inM at hx'
 unfold F48 shf
 rw [q748, y135 hx]
 simp only [y138, y145, y137]
 rw [y0 (by omega), y0 (by omega)]
 simp only [y137]
 by_cases hs : s = 0
 ·subst hs; rfl
 ·have e : (s == 0) = false := by simpa using hs
  rw [e, y137, if_neg hs, q28 (n := s - 1) (by omega) (by omega), if_neg (by omega), if_neg (by omega)]
  have hm1 : min (s - 1).toNat IntKind.i64.bits = s.toNat - 1 := by
   show min (s - 1).toNat 64 = s.toNat - 1
   omega
  have hm2 : min s.toNat IntKind.i64.bits = s.toNat := by
   show min s.toNat 64 = s.toNat
   omega
  have hp := q482 (s := s.toNat - 1) (by omega)
  rw [hm1, hm2, Int.one_mul, q28 (n := (2 : Int) ^ (s.toNat - 1)) (by omega) (by omega), q28 (n := x + 2 ^ (s.toNat - 1)) (by omega) (by omega)]
def eone (a b : Int) (o : Int × Int) (st : List Int) : Int := estep a b o (st.getD (st.length - tk o.1) 0) (st.getD (st.length - tk o.1 + 1) 0)
def erun {R : Type} (a b : Int) (e0 : Option R) (e1 : List Int -> Option R) : List (Int × Int) -> List Int -> Option R
 | [], st => e1 st
 | o :: l, st => if inM (eone a b o st) then erun a b e0 e1 l (st.take (st.length - tk o.1) ++ [eone a b o st]) else e0
theorem q663 {st : List Int} {n : Nat} (h : n < st.length) : st[n]? = some (st.getD n 0) := by
 rw [y140 h, y164, y140 h]; rfl
def rv (l : List (Int × Int)) (a b : Int) : Int × Int := (erun (R := Int × Int) a b (some (0, 11)) (fun st => some (st.getD 0 0, 0)) l []).getD (0, 0)
def ev (l : List (Int × Int)) (a b : Int) : Int × Int :=
 if q98 l true ≠ 0 then (0, q98 l true) else if 0 <= a /\ a <= 4294967296 /\ 0 <= b /\ b <= 4294967296 then rv l a b else (0, 2)
def Tp (t : List Int × Int) : Prop := 0 <= t.2 /\ t.2 <= t.1.length /\ t.1.length <= 9223372036854775807
theorem q507 (k : Nat) {t : List Int × Int} (ht : Tp t) {n : Int} (h1 : 0 < n) (h2 : n <= 4611686018427387904) : ∃ v t', F6 k t n = some ((v, ()), (t', ())) /\ 0 <= v /\ v < n /\ Tp t' := by
 obtain ⟨a1, a2, a3⟩ := ht
 unfold F6
 rw [y0 (by omega), y137]
 by_cases h : t.2 >= t.1.length
 ·rw [y135 h, y136]
  exact ⟨0, t, rfl, by omega, h1, a1, a2, a3⟩
 ·rw [y0 h, y137, q28 (n := t.2 + 1) (by omega) (by omega), Int.add_sub_cancel, q28 (n := t.2) (by omega) (by omega), if_pos a1]
  obtain ⟨v, hv, v1, v2⟩ := mod_ok k (t.1[t.2.toNat]'(by omega)) n h1 h2
  rw [y140 (by omega), y138, hv]
  exact ⟨v, (t.1, t.2 + 1), rfl, v1, v2, show 0 <= t.2 + 1 by omega, show t.2 + 1 <= t.1.length by omega, a3⟩
theorem vgo_cons {R : Type} (two : Bool) (e0 e1 : Int -> Option R) (o : Int × Int) (l : List (Int × Int)) (h : Int) : vgo two e0 e1 (o :: l) h =
  if ¬ (0 <= o.1 /\ o.1 <= 11) \/ (o.1 = 1 /\ two = false) \/ h < tk o.1 then e0 1 else if argB o = false then e0 10 else vgo two e0 e1 l (h + (1 - tk o.1)) := rfl
def comb (c : Int) (x y : Int × Int) : Int × Int :=
 if c = 3 then (x.1 + y.1, x.2 + y.2) else if c = 4 then (x.1 - y.2, x.2 - y.1)
 else if c = 5 then (mm false (mm false (mm false (tms x.1 y.1) (tms x.1 y.2)) (tms x.2 y.1)) (tms x.2 y.2), mm true (mm true (mm true (tms x.1 y.1) (tms x.1 y.2)) (tms x.2 y.1)) (tms x.2 y.2))
 else if c = 6 then (mm false x.1 y.1, mm false x.2 y.2) else if c = 7 then (mm true x.1 y.1, mm true x.2 y.2)
 else if c = 8 then (0, mm true (x.2 - y.1) (y.2 - x.1)) else (0 - mm true (ab x.1) (ab x.2), mm true (ab x.1) (ab x.2))
def q203 (a b : Int) (o : Int × Int) (x y : Int × Int) : Int × Int :=
 if o.1 = 0 then (0, a) else if o.1 = 1 then (0, b) else if o.1 = 2 then (o.2, o.2) else if o.1 = 10 then (shf x.1 o.2, shf x.2 o.2) else if o.1 = 11 then (0, mm true (ab x.1) (ab x.2)) else comb o.1 x y
def inP (x : Int × Int) : Prop := inM x.1 /\ inM x.2
instance (x : Int × Int) : Decidable (inP x) := inferInstanceAs (Decidable (_ /\ _))
theorem q237 (x y : Int) : mm true x y = if x < y then y else x := rfl
theorem q275 (x y : Int) : mm false x y = if y < x then y else x := rfl
theorem q514 (k : Nat) (c : Int) {x y : Int × Int} (hx : inP x) (hy : inP y) : F65 k c x y = some ((comb c x y, ()), ()) := by
 obtain ⟨x1, x2⟩ := hx
 obtain ⟨y1, y2⟩ := hy
 have a1 := x1; have a2 := x2; have b1 := y1; have b2 := y2
 unfold inM at a1 a2 b1 b2
 unfold F65 comb
 have n1 := q398.1 x1
 have n2 := q398.1 x2
 have m1 := q75 x.1
 have m2 := q75 x.2
 have hn : 0 <= mm true (ab x.1) (ab x.2) /\ mm true (ab x.1) (ab x.2) <= 17592186044416 := by rw [q237]; split <;> omega
 rw [q331 k x1 y1, q331 k x1 y2, q331 k x2 y1, q331 k x2 y2, q393 k (n := x.1) (by omega) (by omega), q393 k (n := x.2) (by omega) (by omega)]
 rw [q28 (n := x.1 + y.1) (by omega) (by omega), q28 (n := x.2 + y.2) (by omega) (by omega), q28 (n := x.1 - y.2) (by omega) (by omega), q28 (n := x.2 - y.1) (by omega) (by omega), q28 (n := y.2 - x.1) (by omega) (by omega)]
 simp only [y138]
 rw [q28 (n := 0 - mm true (ab x.1) (ab x.2)) (by omega) (by omega)]
 by_cases h3 : c = 3
 ·subst h3; rfl
 by_cases h4 : c = 4
 ·subst h4; rfl
 by_cases h5 : c = 5
 ·subst h5; rfl
 by_cases h6 : c = 6
 ·subst h6; rfl
 by_cases h7 : c = 7
 ·subst h7; rfl
 by_cases h8 : c = 8
 ·subst h8; rfl
 have e3 : (c == 3) = false := by simpa using h3
 have e4 : (c == 4) = false := by simpa using h4
 have e5 : (c == 5) = false := by simpa using h5
 have e6 : (c == 6) = false := by simpa using h6
 have e7 : (c == 7) = false := by simpa using h7
 have e8 : (c == 8) = false := by simpa using h8
 simp [e3, e4, e5, e6, e7, e8, h3, h4, h5, h6, h7, h8]
def ione (a b : Int) (o : Int × Int) (st : List (Int × Int)) : Int × Int := q203 a b o (st.getD (st.length - tk o.1) (0, 0)) (st.getD (st.length - tk o.1 + 1) (0, 0))
def irun {R : Type} (a b : Int) (e0 : Option R) (e1 : List (Int × Int) -> Option R) : List (Int × Int) -> List (Int × Int) -> Option R
 | [], st => e1 st
 | o :: l, st => if inP (ione a b o st) then irun a b e0 e1 l (st.take (st.length - tk o.1) ++ [ione a b o st]) else e0
theorem q145 {st : List (Int × Int)} {n : Nat} (h : n < st.length) : st[n]? = some (st.getD n (0, 0)) := by
 rw [y140 h, y164, y140 h]; rfl
theorem q524 (k : Nat) {x y s : Int} (hx : inM x) (hy : inM y) (h0 : 0 <= s) (h1 : s <= 24) : F49 k x y s = some ((shf x s, shf y s, ()), ()) := by
 unfold F49
 rw [q584 k hx h0 h1, q584 k hy h0 h1]
 rfl
theorem q421 {R : Type} (k : Nat) (l : List (Int × Int)) (a b : Int) (e0 : Int -> Int -> Int -> Option R) (e1 : List (Int × Int) -> Option R) (hl : l.length <= 32) : ∀ (n i j : Nat) (st : List (Int × Int)), l.length - i = n -> i <= l.length -> n < j -> st.length <= i -> hOk (l.drop i) st.length -> (∀ x ∈ st, inP x) ->
  F67.loop0 k j a b l l.length i st e0 e1 = irun a b (e0 0 0 11) e1 (l.drop i) st := by
 intro n
 induction n with
 | zero =>
  intro i j st hn hi hj hst hok hin
  have e : i = l.length := by omega
  obtain ⟨j, rfl⟩ : ∃ j', j = j' + 1 := ⟨j - 1, by omega⟩
  rw [F67.loop0_s, e, y0 (by omega), y157]
  rfl
 | succ n ih =>
  intro i j st hn hi hj hst hok hin
  obtain ⟨j, rfl⟩ : ∃ j', j = j' + 1 := ⟨j - 1, by omega⟩
  have hlt : i < l.length := by omega
  rw [y147 hlt] at hok ⊢
  rw [F67.loop0_s, y135 (by omega)]
  simp only [y136]
  rw [if_pos (by omega), y139, y140 hlt]
  generalize hgo : l[i] = o at *
  obtain ⟨c1, c2, htk, harg, hrest⟩ := hok
  have htk2 := tk_le o.1
  have hw : w64 (((st.length : Nat) : Int) - ((tk o.1 : Nat) : Int)) = ((st.length - tk o.1 : Nat) : Int) := by rw [q28 (by omega) (by omega)]; omega
  simp only [y138, q588, hw, y139]
  rw [if_pos (by omega), if_pos (by omega)]
  have fin : ∀ v, ione a b o st = v -> ((F66 k v.1).bind fun (y3 : (Bool × Unit) × (Unit)) => bif !y3.1.1 then (e0 0 0 11) else ((F66 k v.2).bind fun (y3 : (Bool × Unit) × (Unit)) => bif !y3.1.1 then (e0 0 0 11) else (if ((st.take (st.length - tk o.1)) ++ [v]).length * 16 <= 140737488355328 then F67.loop0 k j a b l l.length (w64 ((i : Int) + 1)) ((st.take (st.length - tk o.1)) ++ [v]) e0 e1 else none))) =
    irun a b (e0 0 0 11) e1 (o :: l.drop (i + 1)) st := by
   intro v hv
   unfold irun
   rw [hv, sum_eq, sum_eq]
   simp only [y138]
   by_cases h1 : inM v.1
   ·rw [y135 h1]
    simp only [y145, y137]
    by_cases h2 : inM v.2
    ·have hlen : ((st.take (st.length - tk o.1)) ++ [v]).length = st.length - tk o.1 + 1 := by rw [y148, y154]; simp
     rw [y135 h2, if_pos (show inP v from ⟨h1, h2⟩)]
     simp only [y145, y137]
     rw [if_pos (by rw [hlen]; omega), q22 i (by omega)]
     refine ih (i + 1) j _ (by omega) (by omega) (by omega) (by rw [hlen]; omega) (by rw [hlen]; rw [show st.length - tk o.1 + 1 = st.length + 1 - tk o.1 by omega]; exact hrest) fun x hx => ?_
     rcases y151.1 hx with hx | hx
     ·exact hin x (List.mem_of_mem_take hx)
     ·rw [y161.1 hx]; exact ⟨h1, h2⟩
    ·rw [y0 h2, if_neg (fun h : inP v => h2 h.2)]
     rfl
   ·rw [y0 h1, if_neg (fun h : inP v => h1 h.1)]
    rfl
  have mem : ∀ p, p < st.length -> inP (st.getD p (0, 0)) := fun p hp => by
   have := q145 hp
   exact hin _ (List.mem_of_getElem? this)
  by_cases h0 : o.1 = 0
  ·have e : (o.1 == 0) = true := by simpa using h0
   rw [e, y136]
   exact fin (0, a) (by unfold ione q203; rw [if_pos h0])
  have e0' : (o.1 == 0) = false := by simpa using h0
  rw [e0', y137]
  by_cases h1 : o.1 = 1
  ·have e : (o.1 == 1) = true := by simpa using h1
   rw [e, y136]
   exact fin (0, b) (by unfold ione q203; rw [if_neg h0, if_pos h1])
  have e1' : (o.1 == 1) = false := by simpa using h1
  rw [e1', y137]
  by_cases h2 : o.1 = 2
  ·have e : (o.1 == 2) = true := by simpa using h2
   rw [e, y136]
   exact fin (o.2, o.2) (by unfold ione q203; rw [if_neg h0, if_neg h1, if_pos h2])
  have e2' : (o.1 == 2) = false := by simpa using h2
  rw [e2', y137]
  by_cases h10 : o.1 = 10
  ·have e : (o.1 == 10) = true := by simpa using h10
   have ht : tk o.1 = 1 := by rw [h10]; rfl
   have hs : 0 <= o.2 /\ o.2 <= 24 := by unfold argB at harg; rw [if_neg h2, if_pos h10] at harg; simpa using harg
   have hm := mem (st.length - tk o.1) (by omega)
   rw [e, y136, if_pos (by omega), Nat.zero_add, q145 (by omega), y138, if_pos (by omega), y138, q524 k hm.1 hm.2 hs.1 hs.2, y138]
   exact fin _ (by unfold ione q203; rw [if_neg h0, if_neg h1, if_neg h2, if_pos h10])
  have e10' : (o.1 == 10) = false := by simpa using h10
  rw [e10', y137]
  by_cases h11 : o.1 = 11
  ·have e : (o.1 == 11) = true := by simpa using h11
   have ht : tk o.1 = 1 := by rw [h11]; rfl
   have hb := mem (st.length - tk o.1) (by omega)
   have hb1 := hb.1; have hb2 := hb.2
   unfold inM at hb1 hb2
   rw [e, y136, if_pos (by omega), Nat.zero_add, q145 (by omega), y138, q393 k (by omega) (by omega), y138, if_pos (by omega), y138, q393 k (by omega) (by omega), y138]
   exact fin (0, mm true (ab (st.getD (st.length - tk o.1) (0, 0)).1) (ab (st.getD (st.length - tk o.1) (0, 0)).2)) (by unfold ione q203; rw [if_neg h0, if_neg h1, if_neg h2, if_neg h10, if_pos h11])
  have e11' : (o.1 == 11) = false := by simpa using h11
  have ht : tk o.1 = 2 := by unfold tk; rw [if_neg (by omega), if_neg (by omega)]
  rw [e11', y137, if_pos (by omega), Nat.zero_add, q145 (by omega), y138, if_pos (by omega), Nat.add_comm 1, q145 (by omega), y138, q514 k _ (mem _ (by omega)) (mem _ (by omega)), y138]
  exact fin _ (by unfold ione q203; rw [if_neg h0, if_neg h1, if_neg h2, if_neg h10, if_neg h11])
def irv (l : List (Int × Int)) (a b : Int) : Int × Int × Int := (irun (R := Int × Int × Int) a b (some (0, 0, 11)) (fun st => some ((st.getD 0 (0, 0)).1, (st.getD 0 (0, 0)).2, 0)) l []).getD (0, 0, 0)
def iv (l : List (Int × Int)) (a b : Int) : Int × Int × Int :=
 if q98 l true ≠ 0 then (0, 0, q98 l true) else if 1 <= a /\ a <= 4294967296 /\ 1 <= b /\ b <= 4294967296 then irv l a b else (0, 0, 2)
theorem q417 {R R' : Type} (a b : Int) (f : R -> Option R') (e0 : Option R) (e1 : List (Int × Int) -> Option R) : ∀ (l : List (Int × Int)) (st : List (Int × Int)), (irun a b e0 e1 l st).bind f = irun a b (e0.bind f) (fun st => (e1 st).bind f) l st
 | [], st => rfl
 | o :: l, st => by
  unfold irun
  split
  ·exact q417 a b f e0 e1 l _
  ·rfl
theorem q256 (a b : Int) : ∀ (l : List (Int × Int)) (st : List (Int × Int)), ∃ c, irun (R := Int × Int × Int) a b (some (0, 0, 11)) (fun st => some ((st.getD 0 (0, 0)).1, (st.getD 0 (0, 0)).2, 0)) l st = some c
 | [], st => ⟨_, rfl⟩
 | o :: l, st => by
  unfold irun
  split
  ·exact q256 a b l _
  ·exact ⟨_, rfl⟩
theorem q302 {R : Type} (a b : Int) (e0 : Option R) (e1 e2 : List (Int × Int) -> Option R) (h : ∀ st, st.length = 1 -> e1 st = e2 st) : ∀ (l : List (Int × Int)) (st : List (Int × Int)), hOk l st.length -> irun a b e0 e1 l st = irun a b e0 e2 l st
 | [], st, hok => h st hok
 | o :: l, st, hok => by
  obtain ⟨c1, c2, htk, harg, hrest⟩ := hok
  unfold irun
  split
  ·refine q302 a b e0 e1 e2 h l _ ?_
   have hlen : ((st.take (st.length - tk o.1)) ++ [ione a b o st]).length = st.length - tk o.1 + 1 := by rw [y148, y154]; simp
   rw [hlen, show st.length - tk o.1 + 1 = st.length + 1 - tk o.1 by omega]
   exact hrest
  ·rfl
theorem q532 (k : Nat) (l : List (Int × Int)) (a b : Int) (hk : 33 <= k) : F67 k l a b = some (((iv l a b).1, (iv l a b).2.1, (iv l a b).2.2, ()), ()) := by
 unfold F67 iv
 rw [q598 k l true hk]
 simp only [y138]
 by_cases hv : q98 l true = 0
 ·have e : (q98 l true != 0) = false := by simpa using hv
  rw [e, y137, if_neg (fun h => h hv), q547, q547]
  simp only [y138]
  by_cases ha : 1 <= a /\ a <= 4294967296
  ·rw [y135 ha]
   simp only [y145, y137]
   by_cases hb : 1 <= b /\ b <= 4294967296
   ·obtain ⟨h1, h2, h3⟩ := q338 hv
    rw [y135 hb, if_pos ⟨ha.1, ha.2, hb⟩]
    simp only [y145, y137]
    have := q421 (R := (Int × Int × Int × Unit) × Unit) k l a b (fun (z28 : Int) (z29 : Int) (z30 : Int) => (some ((z28, z29, z30, ()), ()))) (fun (z31 : List (Int × Int)) => (if 0 <= (0 : Int) /\ (0 : Int) < ((z31.length : Nat) : Int) then (z31[0]?).bind fun (x32 : Int × Int) => if 0 <= (0 : Int) /\ (0 : Int) < ((z31.length : Nat) : Int) then (z31[0]?).bind fun (x33 : Int × Int) => some ((x32.1, x33.2, 0, ()), ()) else none else none)) h2 l.length 0 k [] rfl (by omega) (by omega) (by simp) h3 (fun x hx => by cases hx)
    refine Eq.trans this ?_
    rw [y152]
    have hc := q302 (R := (Int × Int × Int × Unit) × Unit) a b (some ((0, 0, 11, ()), ())) (fun (z31 : List (Int × Int)) => (if 0 <= (0 : Int) /\ (0 : Int) < ((z31.length : Nat) : Int) then (z31[0]?).bind fun (x32 : Int × Int) => if 0 <= (0 : Int) /\ (0 : Int) < ((z31.length : Nat) : Int) then (z31[0]?).bind fun (x33 : Int × Int) => some ((x32.1, x33.2, 0, ()), ()) else none else none)) (fun st => some (((st.getD 0 (0, 0)).1, (st.getD 0 (0, 0)).2, 0, ()), ())) (fun st hst => by
     rw [if_pos (by omega), q145 (by omega), y138, if_pos (by omega)]; rfl) l [] h3
    rw [hc]
    obtain ⟨c, hc⟩ := q256 a b l []
    have hm := q417 a b (fun c : Int × Int × Int => some ((c.1, c.2.1, c.2.2, ()), ())) (some (0, 0, 11)) (fun st => some ((st.getD 0 (0, 0)).1, (st.getD 0 (0, 0)).2, 0)) l []
    rw [hc] at hm
    unfold irv
    rw [hc]
    exact hm.symm
   ·rw [y0 hb, if_neg (fun h => hb h.2.2)]; rfl
  ·rw [y0 ha, if_neg (fun h => ha ⟨h.1, h.2.1⟩)]; rfl
 ·have e : (q98 l true != 0) = true := by simpa using hv
  rw [e, y136, if_pos hv]
theorem q394 {u v : Int} (h : ab (u * v) <= 17592186044416) : tms u v = u * v := by
 unfold tms
 rw [if_neg]
 rintro ⟨h0, h1⟩
 have hp : 0 < ab u := by have := q75 u; have := mt q530.1 h0; omega
 rw [q484] at h
 have := (Int.le_ediv_iff_mul_le hp (a := ab v) (b := 17592186044416)).2 (by rw [Int.mul_comm]; exact h)
 omega
theorem q283 {u v : Int} (h : tms u v <= 17592186044416) : tms u v = u * v := by
 unfold tms at h ⊢
 split
 ·rename_i hc; rw [if_pos hc] at h; omega
 ·rfl
theorem q536 {t y1 y2 v H : Int} (h1 : y1 <= v) (h2 : v <= y2) (k1 : t * y1 <= H) (k2 : t * y2 <= H) : t * v <= H := by
 by_cases ht : 0 <= t
 ·exact Int.le_trans (Int.mul_le_mul_of_nonneg_left h2 ht) k2
 ·exact Int.le_trans (Int.mul_le_mul_of_nonpos_left (by omega) h1) k1
theorem q538 {t y1 y2 v L : Int} (h1 : y1 <= v) (h2 : v <= y2) (k1 : L <= t * y1) (k2 : L <= t * y2) : L <= t * v := by
 by_cases ht : 0 <= t
 ·exact Int.le_trans k1 (Int.mul_le_mul_of_nonneg_left h1 ht)
 ·exact Int.le_trans k2 (Int.mul_le_mul_of_nonpos_left (by omega) h2)
theorem q581 {x y s : Int} (h : x <= y) : shf x s <= shf y s := by
 unfold shf
 split
 ·exact h
 ·have hp : (0 : Int) < 2 ^ s.toNat := Int.pow_pos (by omega)
  rw [Int.fdiv_eq_ediv_of_nonneg _ (by omega), Int.fdiv_eq_ediv_of_nonneg _ (by omega)]
  exact Int.ediv_le_ediv hp (by omega)
theorem q210 (x y : Int) : x <= mm true x y /\ y <= mm true x y := by rw [q237]; split <;> omega
theorem q529 (x y : Int) : mm false x y <= x /\ mm false x y <= y := by rw [q275]; split <;> omega
theorem q571 {x1 x2 u : Int} (h1 : x1 <= u) (h2 : u <= x2) : ab u <= mm true (ab x1) (ab x2) := by
 have := q210 (ab x1) (ab x2)
 have a1 : -x1 <= ab x1 := by unfold ab; split <;> omega
 have a2 : x2 <= ab x2 := by unfold ab; split <;> omega
 exact q373.2 (by omega)
theorem step_in {a a' b b' : Int} {o : Int × Int} {x y : Int × Int} {u v : Int} (ha : 0 <= a' /\ a' <= a) (hb : 0 <= b' /\ b' <= b) (hx : x.1 <= u /\ u <= x.2) (hy : y.1 <= v /\ v <= y.2) (hP : inP (q203 a b o x y)) :
  (q203 a b o x y).1 <= estep a' b' o u v /\ estep a' b' o u v <= (q203 a b o x y).2 := by
 unfold q203 at hP ⊢
 unfold estep
 by_cases h0 : o.1 = 0
 ·simp only [if_pos h0]; exact ha
 simp only [if_neg h0] at hP ⊢
 by_cases h1 : o.1 = 1
 ·simp only [if_pos h1]; exact hb
 simp only [if_neg h1] at hP ⊢
 by_cases h2 : o.1 = 2
 ·simp only [if_pos h2]; exact ⟨Int.le_refl _, Int.le_refl _⟩
 simp only [if_neg h2] at hP ⊢
 by_cases h10 : o.1 = 10
 ·simp only [if_pos h10]; exact ⟨q581 hx.1, q581 hx.2⟩
 simp only [if_neg h10] at hP ⊢
 by_cases h11 : o.1 = 11
 ·simp only [if_pos h11]; exact ⟨q75 u, q571 hx.1 hx.2⟩
 simp only [if_neg h11] at hP ⊢
 unfold comb at hP ⊢
 unfold res
 by_cases h3 : o.1 = 3
 ·simp only [if_pos h3]; omega
 simp only [if_neg h3] at hP ⊢
 by_cases h4 : o.1 = 4
 ·simp only [if_pos h4]; omega
 simp only [if_neg h4] at hP ⊢
 by_cases h5 : o.1 = 5
 ·simp only [if_pos h5] at hP ⊢
  obtain ⟨p1, p2⟩ := hP
  unfold inM at p1 p2
  simp only at p1 p2
  have t1 := q210 (tms x.1 y.1) (tms x.1 y.2)
  have t2 := q210 (mm true (tms x.1 y.1) (tms x.1 y.2)) (tms x.2 y.1)
  have t3 := q210 (mm true (mm true (tms x.1 y.1) (tms x.1 y.2)) (tms x.2 y.1)) (tms x.2 y.2)
  have s1 := q529 (tms x.1 y.1) (tms x.1 y.2)
  have s2 := q529 (mm false (tms x.1 y.1) (tms x.1 y.2)) (tms x.2 y.1)
  have s3 := q529 (mm false (mm false (tms x.1 y.1) (tms x.1 y.2)) (tms x.2 y.1)) (tms x.2 y.2)
  generalize mm true (mm true (mm true (tms x.1 y.1) (tms x.1 y.2)) (tms x.2 y.1)) (tms x.2 y.2) = H at *
  generalize mm false (mm false (mm false (tms x.1 y.1) (tms x.1 y.2)) (tms x.2 y.1)) (tms x.2 y.2) = L at *
  have e1 := q283 (u := x.1) (v := y.1) (by omega)
  have e2 := q283 (u := x.1) (v := y.2) (by omega)
  have e3 := q283 (u := x.2) (v := y.1) (by omega)
  have e4 := q283 (u := x.2) (v := y.2) (by omega)
  rw [e1, e2] at t1 s1
  rw [e3] at t2 s2
  rw [e4] at t3 s3
  rw [e1, e2] at t2 s2 t3 s3
  rw [e3] at t3 s3
  have q1 : x.1 * v <= H := q536 hy.1 hy.2 (by omega) (by omega)
  have q2 : x.2 * v <= H := q536 hy.1 hy.2 (by omega) (by omega)
  have q3 : L <= x.1 * v := q538 hy.1 hy.2 (by omega) (by omega)
  have q4 : L <= x.2 * v := q538 hy.1 hy.2 (by omega) (by omega)
  rw [Int.mul_comm] at q1 q2 q3 q4
  have r1 : v * u <= H := q536 hx.1 hx.2 q1 q2
  have r2 : L <= v * u := q538 hx.1 hx.2 q3 q4
  rw [Int.mul_comm] at r1 r2
  rw [q394 (u := u) (v := v) (q373.2 (by omega))]
  exact ⟨r2, r1⟩
 simp only [if_neg h5] at hP ⊢
 by_cases h6 : o.1 = 6
 ·simp only [if_pos h6]
  rw [q275, q275, q275]
  refine ⟨?_, ?_⟩
  ·split <;> split <;> omega
  ·split <;> split <;> omega
 simp only [if_neg h6] at hP ⊢
 by_cases h7 : o.1 = 7
 ·simp only [if_pos h7]
  rw [q237, q237, q237]
  refine ⟨?_, ?_⟩
  ·split <;> split <;> omega
  ·split <;> split <;> omega
 simp only [if_neg h7] at hP ⊢
 by_cases h8 : o.1 = 8
 ·simp only [if_pos h8]
  have := q210 (x.2 - y.1) (y.2 - x.1)
  refine ⟨q75 _, q373.2 (by omega)⟩
 simp only [if_neg h8]
 have h1 := q571 hx.1 hx.2
 have h2 := dvd_ab (x := u) (y := v)
 have := q373.1 (Int.le_trans h2 h1)
 omega
def Rel (ist : List (Int × Int)) (st : List Int) : Prop := ist.length = st.length /\ ∀ p, (ist.getD p (0, 0)).1 <= st.getD p 0 /\ st.getD p 0 <= (ist.getD p (0, 0)).2
theorem q502 {α : Type} (l : List α) (x d : α) (n p : Nat) (hn : n <= l.length) : (l.take n ++ [x]).getD p d = if p < n then l.getD p d else if p = n then x else d := by
 have hlen : (l.take n).length = n := by rw [y154]; omega
 rw [y164, y164]
 by_cases h1 : p < n
 ·rw [if_pos h1, List.getElem?_append_left (by omega), List.getElem?_take, if_pos h1]
 ·rw [if_neg h1, List.getElem?_append_right (by omega), hlen]
  by_cases h2 : p = n
  ·rw [if_pos h2, h2, Nat.sub_self]; rfl
  ·rw [if_neg h2]
   obtain ⟨q, hq⟩ : ∃ q, p - n = q + 1 := ⟨p - n - 1, by omega⟩
   rw [hq]; rfl
theorem q688 {a a' b b' : Int} (ha : 0 <= a' /\ a' <= a) (hb : 0 <= b' /\ b' <= b) : ∀ (l : List (Int × Int)) (ist : List (Int × Int)) (st : List Int) (lo hi : Int), Rel ist st -> hOk l st.length ->
  irun (R := Int × Int × Int) a b (some (0, 0, 11)) (fun st => some ((st.getD 0 (0, 0)).1, (st.getD 0 (0, 0)).2, 0)) l ist = some (lo, hi, 0) ->
  ∃ v, erun (R := Int × Int) a' b' (some (0, 11)) (fun st => some (st.getD 0 0, 0)) l st = some (v, 0) /\ lo <= v /\ v <= hi
 | [], ist, st, lo, hi, hr, hok, h => by
  have h' : some ((ist.getD 0 (0, 0)).1, (ist.getD 0 (0, 0)).2, (0 : Int)) = some (lo, hi, 0) := h
  injection h' with h'; injection h' with e1 h'; injection h' with e2 _
  exact ⟨st.getD 0 0, rfl, by rw [<- e1]; exact (hr.2 0).1, by rw [<- e2]; exact (hr.2 0).2⟩
 | o :: l, ist, st, lo, hi, hr, hok, h => by
  obtain ⟨c1, c2, htk, harg, hrest⟩ := hok
  unfold irun at h
  split at h
  ·rename_i hP
   have hin := step_in (a := a) (a' := a') (b := b) (b' := b') (o := o) ha hb (hr.2 (st.length - tk o.1)) (hr.2 (st.length - tk o.1 + 1)) (by unfold ione at hP; rw [hr.1] at hP; exact hP)
   have e1 : ione a b o ist = q203 a b o (ist.getD (st.length - tk o.1) (0, 0)) (ist.getD (st.length - tk o.1 + 1) (0, 0)) := by unfold ione; rw [hr.1]
   have hM : inM (eone a' b' o st) := by
    rw [e1] at hP
    obtain ⟨p1, p2⟩ := hP
    unfold inM at p1 p2 ⊢
    unfold eone
    omega
   have hlen1 : ((st.take (st.length - tk o.1)) ++ [eone a' b' o st]).length = st.length - tk o.1 + 1 := by rw [y148, y154]; simp
   have hlen2 : ((ist.take (ist.length - tk o.1)) ++ [ione a b o ist]).length = st.length - tk o.1 + 1 := by rw [y148, y154, hr.1]; simp
   obtain ⟨v, h1, h2⟩ := q688 ha hb l _ ((st.take (st.length - tk o.1)) ++ [eone a' b' o st]) lo hi ⟨by rw [hlen1, hlen2], fun p => by
     rw [q502 _ _ _ _ _ (by rw [hr.1]; omega), q502 _ _ _ _ _ (by omega), hr.1]
     by_cases q1 : p < st.length - tk o.1
     ·rw [if_pos q1, if_pos q1]; exact hr.2 p
     ·rw [if_neg q1, if_neg q1]
      by_cases q2 : p = st.length - tk o.1
      ·rw [if_pos q2, if_pos q2, e1]; exact hin
      ·rw [if_neg q2, if_neg q2]; exact ⟨Int.le_refl _, Int.le_refl _⟩⟩ (by rw [hlen1, show st.length - tk o.1 + 1 = st.length + 1 - tk o.1 by omega]; exact hrest) h
   refine ⟨v, ?_, h2⟩
   unfold erun
   rw [if_pos hM]
   exact h1
  ·injection h with h; injection h with _ h; injection h with _ h; cases h
theorem q460 (a b : Int) : ∀ (l : List (Int × Int)) (st : List (Int × Int)) (c : Int × Int × Int), irun (R := Int × Int × Int) a b (some (0, 0, 11)) (fun st => some ((st.getD 0 (0, 0)).1, (st.getD 0 (0, 0)).2, 0)) l st = some c -> c.2.2 = 0 \/ c = (0, 0, 11)
 | [], st, c, h => by
  have h' : some ((st.getD 0 (0, 0)).1, (st.getD 0 (0, 0)).2, (0 : Int)) = some c := h
  injection h' with h'; subst h'; exact .inl rfl
 | o :: l, st, c, h => by
  unfold irun at h
  split at h
  ·exact q460 a b l _ c h
  ·injection h with h; exact .inr h.symm
theorem within {l : List (Int × Int)} {a a' b b' : Int} (ha : 0 <= a' /\ a' <= a) (hb : 0 <= b' /\ b' <= b) :
  ((iv l a b).2.2 = 0 /\ (ev l a' b').2 = 0 /\ (iv l a b).1 <= (ev l a' b').1 /\ (ev l a' b').1 <= (iv l a b).2.1) \/ ((iv l a b).2.2 ≠ 0 /\ (iv l a b).1 = 0 /\ (iv l a b).2.1 = 0) := by
 unfold iv ev
 by_cases hv : q98 l true = 0
 ·have hv' : ¬ q98 l true ≠ 0 := fun h => h hv
  rw [if_neg hv', if_neg hv']
  by_cases hr : 1 <= a /\ a <= 4294967296 /\ 1 <= b /\ b <= 4294967296
  ·rw [if_pos hr, if_pos (by omega)]
   obtain ⟨h1, h2, h3⟩ := q338 hv
   obtain ⟨c, hc⟩ := q256 a b l []
   unfold irv rv
   rw [hc]
   rcases q460 a b l [] c hc with h0 | h0
   ·obtain ⟨lo, hi, z⟩ := c
    have : z = 0 := h0
    subst this
    obtain ⟨v, e1, e2, e3⟩ := q688 ha hb l [] [] lo hi ⟨rfl, fun p => ⟨Int.le_refl _, Int.le_refl _⟩⟩ h3 hc
    rw [e1]
    exact .inl ⟨rfl, rfl, e2, e3⟩
   ·subst h0
    exact .inr ⟨by show (11 : Int) ≠ 0; omega, rfl, rfl⟩
  ·rw [if_neg hr]
   exact .inr ⟨by show (2 : Int) ≠ 0; omega, rfl, rfl⟩
 ·have hv' : q98 l true ≠ 0 := hv
  rw [if_pos hv']
  exact .inr ⟨hv, rfl, rfl⟩
theorem u64_id {n : Int} (h1 : 0 <= n) (h2 : n < 18446744073709551616) : IntKind.u64.wrap n = n := by
 unfold IntKind.wrap
 simp [IntKind.bits, IntKind.signed]
 omega
theorem q472 (k : Nat) {c : Int} (h1 : 0 <= c) (h2 : c <= 11) : F97 k c = some ((((tk c : Nat) : Int), ()), ()) := by
 unfold F97 tk
 by_cases h : c <= 2
 ·rw [y135 h, if_pos (by omega)]; rfl
 ·rw [y0 h, if_neg (by omega)]
  by_cases h' : c >= 10
  ·rw [y135 h', if_pos (by omega)]; rfl
  ·rw [y0 h', if_neg (by omega)]; rfl
theorem rarg_ok (k : Nat) (o : Int × Int) : F98 k o = some ((argB o, ()), ()) := by
 unfold F98 argB F81
 by_cases h2 : o.1 = 2
 ·have e : (o.1 == 2) = true := by simpa using h2
  rw [e, if_pos h2, y136]
  by_cases h : -4294967296 <= o.2 <;> simp [h]
 ·have e : (o.1 == 2) = false := by simpa using h2
  rw [e, if_neg h2, y137]
  by_cases h10 : o.1 = 10
  ·have e : (o.1 == 10) = true := by simpa using h10
   rw [e, if_pos h10, y136]
   by_cases h : 0 <= o.2 <;> simp [h]
  ·have e : (o.1 == 10) = false := by simpa using h10
   rw [e, if_neg h10, y137]
   by_cases h : o.2 = 0 <;> simp [h]
theorem q549 {R : Type} (k : Nat) (two : Bool) (l : List (Int × Int)) (e0 e1 : Int -> Option R) (hl : l.length <= 4294967296) : ∀ (n i j : Nat) (h : Int), l.length - i = n -> i <= l.length -> n < j -> -4294967296 * 2 <= h -> h <= i ->
  F99.loop0 k j l two h i e0 e1 = vgo two e0 e1 (l.drop i) h := by
 intro n
 induction n with
 | zero =>
  intro i j h hn hi hj h1 h2
  have e : i = l.length := by omega
  obtain ⟨j, rfl⟩ : ∃ j', j = j' + 1 := ⟨j - 1, by omega⟩
  rw [F99.loop0_s, e, y0 (by omega), y157]
  rfl
 | succ n ih =>
  intro i j h hn hi hj h1 h2
  obtain ⟨j, rfl⟩ : ∃ j', j = j' + 1 := ⟨j - 1, by omega⟩
  have hlt : i < l.length := by omega
  rw [F99.loop0_s, y135 (by omega), y147 hlt]
  simp only [y136]
  rw [if_pos (by omega), y139, y140 hlt]
  generalize hgo : l[i] = o
  simp only [y138, rarg_ok]
  have htk := tk_le o.1
  rw [vgo_cons]
  by_cases hb1 : o.1 < 0
  ·rw [y135 hb1, if_pos (.inl (by omega))]; rfl
  rw [y0 hb1, y137]
  by_cases hb2 : o.1 > 11
  ·rw [y135 hb2, if_pos (.inl (by omega))]; rfl
  rw [y0 hb2, y137, q472 k (by omega) (by omega)]
  simp only [y138]
  have next : argB o = true -> ¬ h < tk o.1 -> F99.loop0 k j l two (w64 (h + (w64 (1 - ((tk o.1 : Nat) : Int))))) (w64 ((i : Int) + 1)) e0 e1 = vgo two e0 e1 (l.drop (i + 1)) (h + (1 - tk o.1)) := by
   intro _ hh
   rw [q22 i (by omega), q28 (n := 1 - ((tk o.1 : Nat) : Int)) (by omega) (by omega), q28 (n := h + (1 - ((tk o.1 : Nat) : Int))) (by omega) (by omega)]
   exact ih (i + 1) j _ (by omega) (by omega) (by omega) (by omega) (by omega)
  have hb : 0 <= o.1 /\ o.1 <= 11 := by omega
  by_cases h11 : o.1 = 1
  ·have e : (o.1 == 1) = true := by simpa using h11
   rw [e]
   cases two with
   | false => simp [h11]
   | true =>
    by_cases hh : h < tk o.1
    ·simp [hb, hh]
    ·cases ha : argB o with
     | false => simp [hb, hh]
     | true =>
      have := next ha hh
      simp [hb, hh, this]
  ·have e : (o.1 == 1) = false := by simpa using h11
   rw [e]
   by_cases hh : h < tk o.1
   ·simp [hb, hh]
   ·cases ha : argB o with
    | false => simp [hb, hh, h11]
    | true =>
     have := next ha hh
     simp [hb, hh, h11, this]
theorem q497 (k : Nat) (l : List (Int × Int)) (two : Bool) (hk : 33 <= k) : F99 k l two = some ((q98 l two, ()), ()) := by
 unfold F99 q98
 by_cases h0 : l.length = 0
 ·have e : (((l.length : Nat) : Int) == 0) = true := by simp [h0]
  rw [e, if_neg (by omega)]; rfl
 have e : (((l.length : Nat) : Int) == 0) = false := by
  cases h : (((l.length : Nat) : Int) == 0) with
  | false => rfl
  | true => have := eq_of_beq h; omega
 rw [e, y137]
 by_cases h1 : l.length <= 32
 ·rw [y0 (by omega), if_pos (by omega), y137]
  have := q549 (R := (Int × Unit) × Unit) k two l (fun z => some ((z, ()), ())) (fun z => (bif z != 1 then (some ((1, ()), ())) else (some ((0, ()), ())))) (by omega) l.length 0 k 0 rfl (by omega) (by omega) (by omega) (by omega)
  rw [show ((0 : Nat) : Int) = 0 from rfl] at this
  rw [this, y152]
  obtain ⟨c, hc⟩ := q329 two l 0
  rw [hc]
  have hm := q543 two (fun c => some ((c, ()), ())) some (fun h => some (if h ≠ 1 then 1 else 0)) l 0
  rw [hc] at hm
  have e : (fun x : Int => (some (if x ≠ 1 then (1 : Int) else 0)).bind fun c => some ((c, ()), ())) = fun z => (bif z != 1 then (some ((1, ()), ())) else (some ((0, ()), ()))) := by
   funext z
   by_cases h : z = 1
   ·subst h; rfl
   ·have e : (z != 1) = true := by simpa using h
    rw [e, if_pos h]; rfl
  rw [e] at hm
  exact hm.symm
 ·rw [y135 (by omega), if_neg (by omega)]; rfl
theorem q500 (k : Nat) (n : Int) : F84 k n = some ((decide (inM n), ()), ()) := by
 unfold F84
 by_cases h : -17592186044416 <= n <;> simp [h, inM]
theorem q669 (k : Nat) {n : Int} (h1 : -9223372036854775808 < n) (h2 : n < 9223372036854775808) : F100 k n = some ((ab n, ()), ()) := by
 unfold F100 ab
 by_cases h : n < 0
 ·rw [y135 h, if_pos h, q28 (by omega) (by omega)]
  simp
 ·rw [y0 h, if_neg h]; rfl
theorem tms_eq (x y : Int) : tms x y = if ab (x * y) <= 17592186044416 then x * y else 17592186044417 := by
 split
 ·rename_i h; exact q394 h
 ·rename_i h
  unfold tms
  rw [if_pos]
  refine y146 fun hc => h ?_
  exact q398.1 (tms_in hc)
theorem q258 (k : Nat) {x y : Int} (hx : inM x) (hy : inM y) : F101 k x y = some ((if ab (x * y) <= 17592186044416 then x * y else 0, decide (ab (x * y) <= 17592186044416), ()), ()) := by
 have hx' := hx; have hy' := hy
 unfold inM at hx' hy'
 have hsmall : ab (x * y) <= 17592186044416 -> w64 (x * y) = x * y := fun h => by
  have := q373.1 h
  exact q28 (by omega) (by omega)
 have test : ∀ u v : Int, 0 <= u -> 0 < v -> v <= 17592186044416 -> (decide (u > w64 ((17592186044416 : Int).tdiv v))) = !decide (u * v <= 17592186044416) := by
  intro u v hu hv hv2
  have d1 : 0 <= 17592186044416 / v := Int.ediv_nonneg (by omega) (by omega)
  have d2 : 17592186044416 / v <= 17592186044416 := Int.ediv_le_self _ (by omega)
  rw [Int.tdiv_eq_ediv_of_nonneg (by omega), q28 (by omega) (by omega)]
  by_cases h : u * v <= 17592186044416
  ·have := (Int.le_ediv_iff_mul_le hv).2 h
   rw [y135 h, y0 (by omega)]; rfl
  ·have : ¬ u <= 17592186044416 / v := fun h' => h ((Int.le_ediv_iff_mul_le hv).1 h')
   rw [y0 h, y135 (by omega)]; rfl
 have fin : ∀ (u v : Int) (b : Bool), ab x * ab y = u * v -> 0 <= u -> 0 < v -> v <= 17592186044416 -> b = decide (u > w64 ((17592186044416 : Int).tdiv v)) -> (bif b then (some ((0, false, ()), ())) else (some ((w64 (x * y), true, ()), ())) : Option ((Int × Bool × Unit) × Unit)) = some ((if ab (x * y) <= 17592186044416 then x * y else 0, decide (ab (x * y) <= 17592186044416), ()), ()) := by
  intro u v b he hu hv hv2 hb
  rw [hb, test u v hu hv hv2, q484, he]
  by_cases h : u * v <= 17592186044416
  ·rw [y135 h, if_pos h, hsmall (by rw [q484, he]; exact h)]; rfl
  ·rw [y0 h, if_neg h]; rfl
 have zero : y = 0 -> (some ((w64 (x * y), true, ()), ()) : Option ((Int × Bool × Unit) × Unit)) = some ((if ab (x * y) <= 17592186044416 then x * y else 0, decide (ab (x * y) <= 17592186044416), ()), ()) := by
  intro h
  subst h
  rw [Int.mul_zero]
  rfl
 unfold F101
 rw [q28 (n := 0 - x) (by omega) (by omega), q28 (n := 0 - y) (by omega) (by omega)]
 by_cases hx0 : x < 0 <;> by_cases hy0 : y < 0
 ·have ex : ab x = 0 - x := by unfold ab; rw [if_pos hx0]; omega
  have ey : ab y = 0 - y := by unfold ab; rw [if_pos hy0]; omega
  rw [y135 hx0, y135 hy0, y136, y136, y135 (by omega : 0 - y > 0), y136, if_neg (by omega)]
  exact fin (0 - x) (0 - y) _ (by rw [ex, ey]) (by omega) (by omega) (by omega) rfl
 ·have ex : ab x = 0 - x := by unfold ab; rw [if_pos hx0]; omega
  have ey : ab y = y := by unfold ab; rw [if_neg hy0]
  rw [y135 hx0, y0 hy0, y136, y137]
  by_cases h0 : y = 0
  ·rw [y0 (by omega), y137]; exact zero h0
  ·rw [y135 (by omega : y > 0), y136, if_neg h0]
   exact fin (0 - x) y _ (by rw [ex, ey]) (by omega) (by omega) (by omega) rfl
 ·have ex : ab x = x := by unfold ab; rw [if_neg hx0]
  have ey : ab y = 0 - y := by unfold ab; rw [if_pos hy0]; omega
  rw [y0 hx0, y135 hy0, y137, y136, y135 (by omega : 0 - y > 0), y136, if_neg (by omega)]
  exact fin x (0 - y) _ (by rw [ex, ey]) (by omega) (by omega) (by omega) rfl
 ·have ex : ab x = x := by unfold ab; rw [if_neg hx0]
  have ey : ab y = y := by unfold ab; rw [if_neg hy0]
  rw [y0 hx0, y0 hy0, y137, y137]
  by_cases h0 : y = 0
  ·rw [y0 (by omega), y137]; exact zero h0
  ·rw [y135 (by omega : y > 0), y136, if_neg h0]
   exact fin x y _ (by rw [ex, ey]) (by omega) (by omega) (by omega) rfl
theorem q620 {t d : Int} (hd : 0 < d) : (if t.tdiv d * d > t then t.tdiv d - 1 else t.tdiv d) = t.fdiv d := by
 rw [Int.fdiv_eq_ediv_of_nonneg _ (by omega)]
 have h2 := Int.mul_ediv_add_emod t d
 have h3 := Int.emod_nonneg t (by omega : d ≠ 0)
 have h4 := Int.emod_lt_of_pos t hd
 rw [Int.mul_comm] at h2
 have hq : t.tdiv d = t / d \/ (t.tdiv d = t / d + 1 /\ t % d ≠ 0) := by
  rw [Int.tdiv_eq_ediv]
  by_cases h : 0 <= t \/ d ∣ t
  ·rw [if_pos h]; exact .inl (by omega)
  ·rw [if_neg h, Int.sign_eq_one_of_pos hd]
   exact .inr ⟨rfl, fun h0 => h (.inr (Int.dvd_of_emod_eq_zero h0))⟩
 generalize t / d = q at *
 generalize t % d = m at *
 rcases hq with e | ⟨e, hm⟩
 ·rw [e, if_neg (by omega)]
 ·rw [e, Int.add_mul, Int.one_mul, if_pos (by omega)]; omega
theorem q471 (k : Nat) {x s : Int} (hx : inM x) (h0 : 0 <= s) (h1 : s <= 24) : F87 k x s = some ((shf x s, ()), ()) := by
 have hx' := hx
 unfold inM at hx'
 unfold F87 F81 shf
 rw [q500, y135 hx, y138]
 simp only [y145, y137]
 rw [y135 (show s >= 0 from h0), y135 h1]
 simp only [y136, y138, y145, y137]
 by_cases hs : s = 0
 ·subst hs; rfl
 ·have e : (s == 0) = false := by simpa using hs
  have hm1 : min (s - 1).toNat IntKind.i64.bits = s.toNat - 1 := by
   show min (s - 1).toNat 64 = s.toNat - 1
   omega
  have hm2 : min s.toNat IntKind.i64.bits = s.toNat := by
   show min s.toNat 64 = s.toNat
   omega
  obtain ⟨n, hn⟩ : ∃ n, s.toNat = n + 1 := ⟨s.toNat - 1, by omega⟩
  have hp := q482 (s := n) (by omega)
  rw [e, y137, if_neg hs, q28 (n := s - 1) (by omega) (by omega), u64_id (n := s - 1) (by omega) (by omega), u64_id (n := s) (by omega) (by omega), if_neg (by omega), if_neg (by omega), hm1, hm2, hn, Nat.add_sub_cancel, Int.one_mul, Int.one_mul, Int.pow_succ]
  generalize (2 : Int) ^ n = p at *
  rw [q28 (n := p * 2) (by omega) (by omega), q28 (n := p) (by omega) (by omega), q28 (n := x + p) (by omega) (by omega), if_neg (by omega)]
  have hd : 0 < p * 2 := by omega
  have hq := q664 (x := x + p) (y := p * 2) (by omega)
  have hx2 : ab (x + p) <= 17592194433024 := q373.2 (by omega)
  have hq2 := q373.1 (Int.le_trans hq hx2)
  have hqd : -17592211210240 <= (x + p).tdiv (p * 2) * (p * 2) /\ (x + p).tdiv (p * 2) * (p * 2) <= 17592211210240 := by
   have h := Int.mul_tdiv_add_tmod (x + p) (p * 2)
   have h5 := Int.tmod_lt_of_pos (x + p) hd
   have h6 := q698 (x + p) (p * 2) hd
   rw [Int.mul_comm] at h
   omega
  rw [q28 (n := (x + p).tdiv (p * 2)) (by omega) (by omega), q28 (n := (x + p).tdiv (p * 2) * (p * 2)) (by omega) (by omega), q28 (n := (x + p).tdiv (p * 2) - 1) (by omega) (by omega), <- q620 hd]
  by_cases h : (x + p).tdiv (p * 2) * (p * 2) > x + p
  ·rw [y135 h, if_pos h]; rfl
  ·rw [y0 h, if_neg h]; rfl
theorem q435 (k : Nat) {x y s : Int} (hx : inM x) (hy : inM y) (h0 : 0 <= s) (h1 : s <= 24) : F88 k x y s = some ((shf x s, shf y s, ()), ()) := by
 unfold F88
 rw [q471 k hx h0 h1, q471 k hy h0 h1]
 rfl
end
end Go.Lf.T
