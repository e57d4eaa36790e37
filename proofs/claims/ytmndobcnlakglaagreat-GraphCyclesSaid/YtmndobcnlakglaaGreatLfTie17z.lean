import Derived.Test.YtmndobcnlakglaaGreatLfSh17z
import Derived.KernelRfl
import Derived.Test.YtmndobcnlakglaaGreatProg
set_option linter.unusedVariables false
set_option maxRecDepth 100000
namespace Go.Lf.T
open Go Go.Lf Go.Proofs
noncomputable section
abbrev Z1 := Tryz.prog
abbrev I6 : Ty := .int .i64
abbrev U3 : Ty := .pair I6 I6
abbrev U4 : Ty := .sl I6
abbrev U5 : Ty := .pair I6 U3
abbrev U6 : Ty := .sl (.pair I6 U4)
abbrev U0 : Ty := .pair I6 (.pair I6 (.pair I6 (.pair .bool (.pair U3 (.pair I6 (.pair I6 (.pair U4 (.pair U4 (.pair U4 (.pair I6 (.pair I6 (.pair U6 (.pair U6 (.pair I6 (.pair (.sl U3) I6)))))))))))))))
abbrev U2 : Ty := .pair I6 (.pair I6 (.pair I6 U4))
abbrev U7 : Ty := .sl U2
abbrev U1 : Ty := .pair U7 (.pair (.sl U0) (.pair U4 I6))
def tis : List (TypeId × TI) := [
 (3, ⟨1, 8, .int .i64, [.int .i64 0], []⟩),
 (4, ⟨1, 1, .bool, [.bool false], []⟩),
 (22, ⟨1, 24, .slice 3, [.nils], []⟩),
 (25, ⟨1, 24, .slice 38, [.nils], []⟩),
 (26, ⟨1, 24, .slice 44, [.nils], []⟩),
 (28, ⟨4, 80, .struct [(0, 1), (1, 1), (2, 1), (3, 1)], [.nils, .nils, .nils, .int .i64 0], []⟩),
 (30, ⟨1, 24, .slice 35, [.nils], []⟩),
 (35, ⟨3, 24, .struct [(0, 1), (1, 1), (2, 1)], [.int .i64 0, .int .i64 0, .int .i64 0], [true, true, true]⟩),
 (38, ⟨4, 48, .struct [(0, 1), (1, 1), (2, 1), (3, 1)], [.int .i64 0, .int .i64 0, .int .i64 0, .nils], []⟩),
 (40, ⟨2, 16, .struct [(0, 1), (1, 1)], [.int .i64 0, .int .i64 0], [true, true]⟩),
 (41, ⟨1, 24, .slice 101, [.nils], []⟩),
 (42, ⟨1, 24, .slice 68, [.nils], []⟩),
 (44, ⟨18, 240, .struct [(0, 1), (1, 1), (2, 1), (3, 1), (4, 2), (6, 1), (7, 1), (8, 1), (9, 1), (10, 1), (11, 1), (12, 1), (13, 1), (14, 1), (15, 1), (16, 1), (17, 1)], [.int .i64 0, .int .i64 0, .int .i64 0, .bool false, .int .i64 0, .int .i64 0, .int .i64 0, .int .i64 0, .nils, .nils, .nils, .int .i64 0, .int .i64 0, .nils, .nils, .int .i64 0, .nils, .int .i64 0], []⟩),
 (59, ⟨2, 32, .struct [(0, 1), (1, 1)], [.nils, .int .i64 0], []⟩),
 (68, ⟨2, 16, .struct [(0, 1), (1, 1)], [.int .i64 0, .int .i64 0], [true, true]⟩),
 (80, ⟨1, 24, .slice 4, [.nils], []⟩),
 (82, ⟨1, 8, .map 3 3, [.nilm], []⟩),
 (101, ⟨2, 32, .struct [(0, 1), (1, 1)], [.int .i64 0, .nils], []⟩),
 (115, ⟨1, 24, .slice 117, [.nils], []⟩),
 (117, ⟨2, 16, .struct [(0, 1), (1, 1)], [.int .i64 0, .int .i64 0], [true, true]⟩),
 (120, ⟨1, 8, .int .u64, [.int .u64 0], []⟩),
 (123, ⟨2, 16, .struct [(0, 1), (1, 1)], [.int .i64 0, .int .i64 0], [true, true]⟩),
 (128, ⟨1, 24, .slice 130, [.nils], []⟩),
 (130, ⟨2, 16, .struct [(0, 1), (1, 1)], [.int .i64 0, .int .i64 0], [true, true]⟩)]
def etys : List (TypeId × Ty) := [
 (3, I6),
 (4, .bool),
 (22, U4),
 (28, U1),
 (35, U5),
 (38, U2),
 (40, U3),
 (44, U0),
 (59, (.pair U4 I6)),
 (68, U3),
 (80, (.sl .bool)),
 (101, (.pair I6 U4)),
 (117, U3),
 (123, U3),
 (130, U3)]
def F4.S : FSem := ⟨6, [.imm U4], [(.bx (.pair U4 I6))], fun k x => F4 k x.1⟩
def F4.C : Ctx := ⟨tis, etys, [], [0, 2], [], 6, []⟩
theorem F4.eq (k : Nat) (a0 : List Int) :
  evF F4.C k [] Tryz.f6 [.imm U4] [(.bx (.pair U4 I6))] (a0, ()) some = F4 k a0 := by kernel_rfl
def F5.S : FSem := ⟨16, [.imm I6, .imm I6], [I6], fun k x => F5 k x.1 x.2.1⟩
def F5.C : Ctx := ⟨tis, etys, [], [0, 1, 4, 5, 10], [], 15, []⟩
theorem F5.eq (k : Nat) (a0 : Int) (a1 : Int) :
  evF F5.C k [] Tryz.f16 [.imm I6, .imm I6] [I6] (a0, a1, ()) some = F5 k a0 a1 := by kernel_rfl
def F6.S : FSem := ⟨19, [.bor (.pair U4 I6) true, .imm I6], [I6], fun k x => F6 k x.1 x.2.1⟩
def F6.C : Ctx := ⟨tis, etys, [F5.S], [0, 1, 4, 18], [0], 39, []⟩
theorem F6.eq (k : Nat) (a0 : (List Int) × Int) (a1 : Int) :
  evF F6.C k [] Tryz.f19 [.bor (.pair U4 I6) true, .imm I6] [I6] (a0, a1, ()) some = F6 k a0 a1 := by kernel_rfl
def F7.S : FSem := ⟨62, [.imm I6], [U0], fun k x => F7 k x.1⟩
def F7.C : Ctx := ⟨tis, etys, [], [0, 2], [], 7, [6]⟩
theorem F7.eq (k : Nat) (a0 : Int) :
  evF F7.C k [] Tryz.f62 [.imm I6] [U0] (a0, ()) some = F7 k a0 := by kernel_rfl
def F8.S : FSem := ⟨34, [.imm U4], [(.pair U7 (.pair (.ow U0) (.pair U4 I6)))], fun k x => F8 k x.1⟩
def F8.C : Ctx := ⟨tis, etys, [F7.S], [0, 2, 3, 4, 13], [], 27, [26]⟩
def F8.L0 {R : Type} (k : Nat) : LC R := ⟨0, ⟨[(0, .val U4), (3, .ptr 0), (4, .val I6)], [.box (some U1) [(.ow U2), (.ow U0), (.ow I6), I6]]⟩, [(.ex 0, ⟨[(3, .ptr 0)], [.box (some U1) [(.ow U2), (.ow U0), (.ow I6), I6]]⟩)], fun x e => F8.loop0 k k x.1.1 x.1.2.1 x.2.1.1 x.2.1.2.1 x.2.1.2.2.1 x.2.1.2.2.2.1 (fun u0 u1 u2 u3 => e ((), ((u0, u1, u2, u3, ()), ())))⟩
theorem F8.r0 {R : Type} (k j : Nat) (s0 : List Int) (s4 : Int) (b3_0 : List (Int × Int × Int × List Int)) (b3_1 : List (Int × Int × Int × Bool × (Int × Int) × Int × Int × (List Int) × (List Int) × (List Int) × Int × Int × (List (Int × List Int)) × (List (Int × List Int)) × Int × (List (Int × Int)) × Int)) (b3_2 : List Int) (b3_3 : Int) (e : Outs (F8.L0 (R := R) k).outs -> Option R) :
  q27 F8.C k [] (F8.L0 (R := R) k).inn (F8.L0 (R := R) k).outs (q12 Tryz.f34 0) 1 ((s0, s4, ()), ((b3_0, b3_1, b3_2, b3_3, ()), ())) (fun x => F8.loop0 k j x.1.1 x.1.2.1 x.2.1.1 x.2.1.2.1 x.2.1.2.2.1 x.2.1.2.2.2.1 (fun u0 u1 u2 u3 => e ((), ((u0, u1, u2, u3, ()), ())))) e =
  F8.loop0 k (j + 1) s0 s4 b3_0 b3_1 b3_2 b3_3 (fun u0 u1 u2 u3 => e ((), ((u0, u1, u2, u3, ()), ()))) := by kernel_rfl
theorem F8.eq (k : Nat) (a0 : List Int) :
  evF F8.C k [F8.L0 k] Tryz.f34 [.imm U4] [(.pair U7 (.pair (.ow U0) (.pair U4 I6)))] (a0, ()) some = F8 k a0 := by kernel_rfl
def F9.S : FSem := ⟨15, [.bor (.pair U4 I6) true, .imm I6], [U1], fun k x => F9 k x.1 x.2.1⟩
def F9.C : Ctx := ⟨tis, etys, [F6.S, F8.S], [0, 1, 4, 5, 6, 7, 8, 11, 25, 30], [0], 41, [40]⟩
def F9.L0 {R : Type} (k : Nat) : LC R := ⟨0, ⟨[(0, .ptr 0), (1, .val I6), (5, .arr 1), (6, .val I6)], [.box (some (.pair U4 I6)) [U4, I6], .arr I6]⟩, [(.ex 0, ⟨[(0, .ptr 0), (5, .arr 1)], [.box (some (.pair U4 I6)) [U4, I6], .arr I6]⟩)], fun x e => F9.loop0 k k x.1.1 x.1.2.1 x.2.1.1 x.2.1.2.1 x.2.2.1 (fun u0 u1 u2 => e ((), ((u0, u1, ()), u2, ())))⟩
theorem F9.r0 {R : Type} (k j : Nat) (s1 : Int) (s6 : Int) (b0_0 : List Int) (b0_1 : Int) (l5 : List Int) (e : Outs (F9.L0 (R := R) k).outs -> Option R) :
  q27 F9.C k [] (F9.L0 (R := R) k).inn (F9.L0 (R := R) k).outs (q12 Tryz.f15 0) 1 ((s1, s6, ()), ((b0_0, b0_1, ()), l5, ())) (fun x => F9.loop0 k j x.1.1 x.1.2.1 x.2.1.1 x.2.1.2.1 x.2.2.1 (fun u0 u1 u2 => e ((), ((u0, u1, ()), u2, ())))) e =
  F9.loop0 k (j + 1) s1 s6 b0_0 b0_1 l5 (fun u0 u1 u2 => e ((), ((u0, u1, ()), u2, ()))) := by kernel_rfl
def F9.L1 {R : Type} (k : Nat) : LC R := ⟨2, ⟨[(0, .ptr 0), (1, .val I6), (7, .ptr 1), (8, .val I6)], [.box (some (.pair U4 I6)) [U4, I6], .box (some U1) [U7, (.ow U0), U4, I6]]⟩, [(.ex 2, ⟨[(0, .ptr 0), (7, .ptr 1)], [.box (some (.pair U4 I6)) [U4, I6], .box (some U1) [U7, (.ow U0), U4, I6]]⟩)], fun x e => F9.loop1 k k x.1.1 x.1.2.1 x.2.1.1 x.2.1.2.1 x.2.2.1.1 x.2.2.1.2.1 x.2.2.1.2.2.1 x.2.2.1.2.2.2.1 (fun u0 u1 u2 u3 u4 u5 => e ((), ((u0, u1, ()), (u2, u3, u4, u5, ()), ())))⟩
theorem F9.r1 {R : Type} (k j : Nat) (s1 : Int) (s8 : Int) (b0_0 : List Int) (b0_1 : Int) (b7_0 : List (Int × Int × Int × List Int)) (b7_1 : List (Int × Int × Int × Bool × (Int × Int) × Int × Int × (List Int) × (List Int) × (List Int) × Int × Int × (List (Int × List Int)) × (List (Int × List Int)) × Int × (List (Int × Int)) × Int)) (b7_2 : List Int) (b7_3 : Int) (e : Outs (F9.L1 (R := R) k).outs -> Option R) :
  q27 F9.C k [] (F9.L1 (R := R) k).inn (F9.L1 (R := R) k).outs (q12 Tryz.f15 1) 2 ((s1, s8, ()), ((b0_0, b0_1, ()), (b7_0, b7_1, b7_2, b7_3, ()), ())) (fun x => F9.loop1 k j x.1.1 x.1.2.1 x.2.1.1 x.2.1.2.1 x.2.2.1.1 x.2.2.1.2.1 x.2.2.1.2.2.1 x.2.2.1.2.2.2.1 (fun u0 u1 u2 u3 u4 u5 => e ((), ((u0, u1, ()), (u2, u3, u4, u5, ()), ())))) e =
  F9.loop1 k (j + 1) s1 s8 b0_0 b0_1 b7_0 b7_1 b7_2 b7_3 (fun u0 u1 u2 u3 u4 u5 => e ((), ((u0, u1, ()), (u2, u3, u4, u5, ()), ()))) := by kernel_rfl
theorem F9.eq (k : Nat) (a0 : (List Int) × Int) (a1 : Int) :
  evF F9.C k [F9.L0 k, F9.L1 k] Tryz.f15 [.bor (.pair U4 I6) true, .imm I6] [U1] (a0, a1, ()) some = F9 k a0 a1 := by kernel_rfl
def F10.S : FSem := ⟨30, [.imm U0], [.bool], fun k x => F10 k x.1⟩
def F10.C : Ctx := ⟨tis, etys, [], [0, 1, 2], [], 11, []⟩
theorem F10.eq (k : Nat) (a0 : Int × Int × Int × Bool × (Int × Int) × Int × Int × (List Int) × (List Int) × (List Int) × Int × Int × (List (Int × List Int)) × (List (Int × List Int)) × Int × (List (Int × Int)) × Int) :
  evF F10.C k [] Tryz.f30 [.imm U0] [.bool] (a0, ()) some = F10 k a0 := by kernel_rfl
def F11.S : FSem := ⟨26, [.imm U0], [(.ow I6)], fun k x => F11 k x.1⟩
def F11.C : Ctx := ⟨tis, etys, [F10.S], [0, 1, 2, 4], [], 13, []⟩
theorem F11.eq (k : Nat) (a0 : Int × Int × Int × Bool × (Int × Int) × Int × Int × (List Int) × (List Int) × (List Int) × Int × Int × (List (Int × List Int)) × (List (Int × List Int)) × Int × (List (Int × Int)) × Int) :
  evF F11.C k [] Tryz.f26 [.imm U0] [(.ow I6)] (a0, ()) some = F11 k a0 := by kernel_rfl
def F12.S : FSem := ⟨44, [.imm I6, .bor I6 true], [.bool], fun k x => F12 k x.1 x.2.1⟩
def F12.C : Ctx := ⟨tis, etys, [], [0, 1, 3], [1], 11, []⟩
theorem F12.eq (k : Nat) (a0 : Int) (a1 : Int) :
  evF F12.C k [] Tryz.f44 [.imm I6, .bor I6 true] [.bool] (a0, a1, ()) some = F12 k a0 a1 := by kernel_rfl
def F13.S : FSem := ⟨46, [.imm I6, .bor (.ow .bool) true], [.bool], fun k x => F13 k x.1 x.2.1⟩
def F13.C : Ctx := ⟨tis, etys, [], [0, 1, 3], [1], 9, []⟩
theorem F13.eq (k : Nat) (a0 : Int) (a1 : List Bool) :
  evF F13.C k [] Tryz.f46 [.imm I6, .bor (.ow .bool) true] [.bool] (a0, a1, ()) some = F13 k a0 a1 := by kernel_rfl
def F14.S : FSem := ⟨68, [.imm U4, .clo 46 1, .bor (.ow .bool) true], [I6], fun k x => F14 k x.1 x.2.1⟩
def F14.C : Ctx := ⟨tis, etys, [F13.S], [0, 1, 4, 5, 7, 8, 9, 16], [1], 19, []⟩
def F14.L0 {R : Type} (k : Nat) : LC R := ⟨0, ⟨[(0, .val U4), (1, .fn 46 [0]), (7, .val I6), (8, .val I6)], [.box (some (.ow .bool)) [(.ow .bool)]]⟩, [(.ret, ⟨[(1, .fn 46 [0]), (4, .val I6)], [.box (some (.ow .bool)) [(.ow .bool)]]⟩), (.ex 0, ⟨[(1, .fn 46 [0])], [.box (some (.ow .bool)) [(.ow .bool)]]⟩)], fun x e => F14.loop0 k k x.1.1 x.1.2.1 x.1.2.2.1 x.2.1.1 (fun u0 u1 => e (.inl ((u0, ()), ((u1, ()), ())))) (fun u0 => e (.inr (((), ((u0, ()), ())))))⟩
theorem F14.r0 {R : Type} (k j : Nat) (s0 : List Int) (s7 : Int) (s8 : Int) (b1010_0 : List Bool) (e : Outs (F14.L0 (R := R) k).outs -> Option R) :
  q27 F14.C k [] (F14.L0 (R := R) k).inn (F14.L0 (R := R) k).outs (q12 Tryz.f68 0) 1 ((s0, s7, s8, ()), ((b1010_0, ()), ())) (fun x => F14.loop0 k j x.1.1 x.1.2.1 x.1.2.2.1 x.2.1.1 (fun u0 u1 => e (.inl ((u0, ()), ((u1, ()), ())))) (fun u0 => e (.inr (((), ((u0, ()), ())))))) e =
  F14.loop0 k (j + 1) s0 s7 s8 b1010_0 (fun u0 u1 => e (.inl ((u0, ()), ((u1, ()), ())))) (fun u0 => e (.inr (((), ((u0, ()), ()))))) := by kernel_rfl
theorem F14.eq (k : Nat) (a0 : List Int) (a1 : List Bool) :
  evF F14.C k [F14.L0 k] Tryz.f68 [.imm U4, .clo 46 1, .bor (.ow .bool) true] [I6] (a0, a1, ()) some = F14 k a0 a1 := by kernel_rfl
def F15.S : FSem := ⟨45, [.imm U4, .clo 46 1, .bor (.ow .bool) true], [.bool], fun k x => F15 k x.1 x.2.1⟩
def F15.C : Ctx := ⟨tis, etys, [F14.S], [0, 1, 4], [1], 9, []⟩
theorem F15.eq (k : Nat) (a0 : List Int) (a1 : List Bool) :
  evF F15.C k [] Tryz.f45 [.imm U4, .clo 46 1, .bor (.ow .bool) true] [.bool] (a0, a1, ()) some = F15 k a0 a1 := by kernel_rfl
def F16.S : FSem := ⟨17, [.imm U1], [(.ow I6), I6], fun k x => F16 k x.1⟩
def F16.C : Ctx := ⟨tis, etys, [F11.S, F12.S, F15.S], [0, 1, 2, 3, 4, 5, 6, 8, 10, 12, 13, 14, 15, 16, 17, 18, 19, 53, 61, 64, 65, 66, 67, 71, 72, 73, 74, 80, 84, 85, 86, 87, 93, 97, 98, 99, 110, 112, 113, 114, 115, 133, 139], [], 148, []⟩
def F16.L1 {R : Type} (k : Nat) : LC R := ⟨2, ⟨[(5, .ptr 0), (6, .fn 44 [0]), (71, .arr 1), (72, .val I6), (73, .val I6)], [.box (some I6) [I6], .arr I6]⟩, [(.ret, ⟨[(2, .arr 0), (3, .val I6)], [.arr I6]⟩), (.ex 2, ⟨[(5, .ptr 0), (6, .fn 44 [0])], [.box (some I6) [I6]]⟩)], fun x e => F16.loop1 k k x.1.1 x.1.2.1 x.2.1.1 x.2.2.1 (fun u0 u1 => e (.inl ((u0, ()), (u1, ())))) (fun u0 => e (.inr (((), ((u0, ()), ())))))⟩
theorem F16.r1 {R : Type} (k j : Nat) (s72 : Int) (s73 : Int) (b5_0 : Int) (l71 : List Int) (e : Outs (F16.L1 (R := R) k).outs -> Option R) :
  q27 F16.C k [] (F16.L1 (R := R) k).inn (F16.L1 (R := R) k).outs (q12 Tryz.f17 1) 2 ((s72, s73, ()), ((b5_0, ()), l71, ())) (fun x => F16.loop1 k j x.1.1 x.1.2.1 x.2.1.1 x.2.2.1 (fun u0 u1 => e (.inl ((u0, ()), (u1, ())))) (fun u0 => e (.inr (((), ((u0, ()), ())))))) e =
  F16.loop1 k (j + 1) s72 s73 b5_0 l71 (fun u0 u1 => e (.inl ((u0, ()), (u1, ())))) (fun u0 => e (.inr (((), ((u0, ()), ()))))) := by kernel_rfl
def F16.L0 {R : Type} (k : Nat) : LC R := ⟨0, ⟨[(5, .ptr 0), (6, .fn 44 [0]), (64, .val (.sl U0)), (65, .val I6), (66, .val I6)], [.box (some I6) [I6]]⟩, [(.ret, ⟨[(2, .arr 0), (3, .val I6)], [.arr I6]⟩), (.ex 0, ⟨[(5, .ptr 0), (6, .fn 44 [0])], [.box (some I6) [I6]]⟩)], fun x e => F16.loop0 k k x.1.1 x.1.2.1 x.1.2.2.1 x.2.1.1 (fun u0 u1 => e (.inl ((u0, ()), (u1, ())))) (fun u0 => e (.inr (((), ((u0, ()), ())))))⟩
theorem F16.r0 {R : Type} (k j : Nat) (s64 : List (Int × Int × Int × Bool × (Int × Int) × Int × Int × (List Int) × (List Int) × (List Int) × Int × Int × (List (Int × List Int)) × (List (Int × List Int)) × Int × (List (Int × Int)) × Int)) (s65 : Int) (s66 : Int) (b5_0 : Int) (e : Outs (F16.L0 (R := R) k).outs -> Option R) :
  q27 F16.C k [F16.L1 k] (F16.L0 (R := R) k).inn (F16.L0 (R := R) k).outs (q12 Tryz.f17 0) 1 ((s64, s65, s66, ()), ((b5_0, ()), ())) (fun x => F16.loop0 k j x.1.1 x.1.2.1 x.1.2.2.1 x.2.1.1 (fun u0 u1 => e (.inl ((u0, ()), (u1, ())))) (fun u0 => e (.inr (((), ((u0, ()), ())))))) e =
  F16.loop0 k (j + 1) s64 s65 s66 b5_0 (fun u0 u1 => e (.inl ((u0, ()), (u1, ())))) (fun u0 => e (.inr (((), ((u0, ()), ()))))) := by kernel_rfl
def F16.L2 {R : Type} (k : Nat) : LC R := ⟨4, ⟨[(5, .ptr 0), (6, .fn 44 [0]), (84, .val U4), (85, .val I6), (86, .val I6)], [.box (some I6) [I6]]⟩, [(.ret, ⟨[(2, .arr 0), (3, .val I6)], [.arr I6]⟩), (.ex 4, ⟨[(5, .ptr 0)], [.box (some I6) [I6]]⟩)], fun x e => F16.loop2 k k x.1.1 x.1.2.1 x.1.2.2.1 x.2.1.1 (fun u0 u1 => e (.inl ((u0, ()), (u1, ())))) (fun u0 => e (.inr (((), ((u0, ()), ())))))⟩
theorem F16.r2 {R : Type} (k j : Nat) (s84 : List Int) (s85 : Int) (s86 : Int) (b5_0 : Int) (e : Outs (F16.L2 (R := R) k).outs -> Option R) :
  q27 F16.C k [] (F16.L2 (R := R) k).inn (F16.L2 (R := R) k).outs (q12 Tryz.f17 2) 3 ((s84, s85, s86, ()), ((b5_0, ()), ())) (fun x => F16.loop2 k j x.1.1 x.1.2.1 x.1.2.2.1 x.2.1.1 (fun u0 u1 => e (.inl ((u0, ()), (u1, ())))) (fun u0 => e (.inr (((), ((u0, ()), ())))))) e =
  F16.loop2 k (j + 1) s84 s85 s86 b5_0 (fun u0 u1 => e (.inl ((u0, ()), (u1, ())))) (fun u0 => e (.inr (((), ((u0, ()), ()))))) := by kernel_rfl
def F16.L3 {R : Type} (k : Nat) : LC R := ⟨6, ⟨[(14, .ptr 0), (97, .val I6), (98, .val I6)], [.box (some (.sl .bool)) [(.ow .bool)]]⟩, [(.ex 6, ⟨[(14, .ptr 0)], [.box (some (.sl .bool)) [(.ow .bool)]]⟩)], fun x e => F16.loop3 k k x.1.1 x.1.2.1 x.2.1.1 (fun u0 => e ((), ((u0, ()), ())))⟩
theorem F16.r3 {R : Type} (k j : Nat) (s97 : Int) (s98 : Int) (b14_0 : List Bool) (e : Outs (F16.L3 (R := R) k).outs -> Option R) :
  q27 F16.C k [] (F16.L3 (R := R) k).inn (F16.L3 (R := R) k).outs (q12 Tryz.f17 3) 4 ((s97, s98, ()), ((b14_0, ()), ())) (fun x => F16.loop3 k j x.1.1 x.1.2.1 x.2.1.1 (fun u0 => e ((), ((u0, ()), ())))) e =
  F16.loop3 k (j + 1) s97 s98 b14_0 (fun u0 => e ((), ((u0, ()), ()))) := by kernel_rfl
def F16.L5 {R : Type} (k : Nat) : LC R := ⟨10, ⟨[(4, .val I6), (14, .ptr 0), (16, .val I6), (112, .val (.sl U0)), (113, .val I6), (114, .val I6)], [.box (some (.sl .bool)) [(.ow .bool)]]⟩, [(.ex 10, ⟨[(14, .ptr 0), (16, .val I6)], [.box (some (.ow .bool)) [(.ow .bool)]]⟩)], fun x e => F16.loop5 k k x.1.1 x.1.2.1 x.1.2.2.1 x.1.2.2.2.1 x.1.2.2.2.2.1 x.2.1.1 (fun u0 u1 => e ((u0, ()), ((u1, ()), ())))⟩
theorem F16.r5 {R : Type} (k j : Nat) (s4 : Int) (s16 : Int) (s112 : List (Int × Int × Int × Bool × (Int × Int) × Int × Int × (List Int) × (List Int) × (List Int) × Int × Int × (List (Int × List Int)) × (List (Int × List Int)) × Int × (List (Int × Int)) × Int)) (s113 : Int) (s114 : Int) (b14_0 : List Bool) (e : Outs (F16.L5 (R := R) k).outs -> Option R) :
  q27 F16.C k [] (F16.L5 (R := R) k).inn (F16.L5 (R := R) k).outs (q12 Tryz.f17 5) 6 ((s4, s16, s112, s113, s114, ()), ((b14_0, ()), ())) (fun x => F16.loop5 k j x.1.1 x.1.2.1 x.1.2.2.1 x.1.2.2.2.1 x.1.2.2.2.2.1 x.2.1.1 (fun u0 u1 => e ((u0, ()), ((u1, ()), ())))) e =
  F16.loop5 k (j + 1) s4 s16 s112 s113 s114 b14_0 (fun u0 u1 => e ((u0, ()), ((u1, ()), ()))) := by kernel_rfl
def F16.L4 {R : Type} (k : Nat) : LC R := ⟨8, ⟨[(1, .ptr 0), (4, .val I6), (13, .arr 1), (14, .ptr 2)], [.box (some U1) [U7, (.sl U0), U4, I6], .arr I6, .box (some (.sl .bool)) [(.ow .bool)]]⟩, [(.ret, ⟨[(2, .arr 0), (3, .val I6)], [.arr I6]⟩), (.ex 8, ⟨[(13, .arr 0)], [.arr I6]⟩)], fun x e => F16.loop4 k k x.1.1 x.2.1.1 x.2.1.2.1 x.2.1.2.2.1 x.2.1.2.2.2.1 x.2.2.1 x.2.2.2.1.1 (fun u0 u1 => e (.inl ((u0, ()), (u1, ())))) (fun u0 => e (.inr (((), (u0, ())))))⟩
theorem F16.r4 {R : Type} (k j : Nat) (s4 : Int) (b1_0 : List (Int × Int × Int × List Int)) (b1_1 : List (Int × Int × Int × Bool × (Int × Int) × Int × Int × (List Int) × (List Int) × (List Int) × Int × Int × (List (Int × List Int)) × (List (Int × List Int)) × Int × (List (Int × Int)) × Int)) (b1_2 : List Int) (b1_3 : Int) (l13 : List Int) (b14_0 : List Bool) (e : Outs (F16.L4 (R := R) k).outs -> Option R) :
  q27 F16.C k [F16.L5 k] (F16.L4 (R := R) k).inn (F16.L4 (R := R) k).outs (q12 Tryz.f17 4) 5 ((s4, ()), ((b1_0, b1_1, b1_2, b1_3, ()), l13, (b14_0, ()), ())) (fun x => F16.loop4 k j x.1.1 x.2.1.1 x.2.1.2.1 x.2.1.2.2.1 x.2.1.2.2.2.1 x.2.2.1 x.2.2.2.1.1 (fun u0 u1 => e (.inl ((u0, ()), (u1, ())))) (fun u0 => e (.inr (((), (u0, ())))))) e =
  F16.loop4 k (j + 1) s4 b1_0 b1_1 b1_2 b1_3 l13 b14_0 (fun u0 u1 => e (.inl ((u0, ()), (u1, ())))) (fun u0 => e (.inr (((), (u0, ()))))) := by kernel_rfl
theorem F16.eq (k : Nat) (a0 : (List (Int × Int × Int × List Int)) × (List (Int × Int × Int × Bool × (Int × Int) × Int × Int × (List Int) × (List Int) × (List Int) × Int × Int × (List (Int × List Int)) × (List (Int × List Int)) × Int × (List (Int × Int)) × Int)) × (List Int) × Int) :
  evF F16.C k [F16.L1 k, F16.L0 k, F16.L2 k, F16.L3 k, F16.L5 k, F16.L4 k] Tryz.f17 [.imm U1] [(.ow I6), I6] (a0, ()) some = F16 k a0 := by kernel_rfl
def F17.S : FSem := ⟨96, [.imm U4, .imm I6], [I6], fun k x => F17 k x.1 x.2.1⟩
def F17.C : Ctx := ⟨tis, etys, [], [0, 1, 4, 5, 7, 8, 9, 16], [], 19, []⟩
def F17.L0 {R : Type} (k : Nat) : LC R := ⟨0, ⟨[(0, .val U4), (1, .val I6), (7, .val I6), (8, .val I6)], []⟩, [(.ret, ⟨[(4, .val I6)], []⟩), (.ex 0, ⟨[], []⟩)], fun x e => F17.loop0 k k x.1.1 x.1.2.1 x.1.2.2.1 x.1.2.2.2.1 (fun u0 => e (.inl ((u0, ()), ()))) (fun _ => e (.inr (((), ()))))⟩
theorem F17.r0 {R : Type} (k j : Nat) (s0 : List Int) (s1 : Int) (s7 : Int) (s8 : Int) (e : Outs (F17.L0 (R := R) k).outs -> Option R) :
  q27 F17.C k [] (F17.L0 (R := R) k).inn (F17.L0 (R := R) k).outs (q12 Tryz.f96 0) 1 ((s0, s1, s7, s8, ()), ()) (fun x => F17.loop0 k j x.1.1 x.1.2.1 x.1.2.2.1 x.1.2.2.2.1 (fun u0 => e (.inl ((u0, ()), ()))) (fun _ => e (.inr (((), ()))))) e =
  F17.loop0 k (j + 1) s0 s1 s7 s8 (fun u0 => e (.inl ((u0, ()), ()))) (fun _ => e (.inr (((), ())))) := by kernel_rfl
theorem F17.eq (k : Nat) (a0 : List Int) (a1 : Int) :
  evF F17.C k [F17.L0 k] Tryz.f96 [.imm U4, .imm I6] [I6] (a0, a1, ()) some = F17 k a0 a1 := by kernel_rfl
def F18.S : FSem := ⟨70, [.imm U4, .imm I6], [.bool], fun k x => F18 k x.1 x.2.1⟩
def F18.C : Ctx := ⟨tis, etys, [F17.S], [0, 1, 4], [], 9, []⟩
theorem F18.eq (k : Nat) (a0 : List Int) (a1 : Int) :
  evF F18.C k [] Tryz.f70 [.imm U4, .imm I6] [.bool] (a0, a1, ()) some = F18 k a0 a1 := by kernel_rfl
def F19.S : FSem := ⟨69, [.imm I6, .bor (.ow I6) true], [.bool], fun k x => F19 k x.1 x.2.1⟩
def F19.C : Ctx := ⟨tis, etys, [F18.S], [0, 1, 3], [1], 7, []⟩
theorem F19.eq (k : Nat) (a0 : Int) (a1 : List Int) :
  evF F19.C k [] Tryz.f69 [.imm I6, .bor (.ow I6) true] [.bool] (a0, a1, ()) some = F19 k a0 a1 := by kernel_rfl
def F20.S : FSem := ⟨68, [.imm U4, .clo 69 1, .bor (.ow I6) true], [I6], fun k x => F20 k x.1 x.2.1⟩
def F20.C : Ctx := ⟨tis, etys, [F19.S], [0, 1, 4, 5, 7, 8, 9, 16], [1], 19, []⟩
def F20.L0 {R : Type} (k : Nat) : LC R := ⟨0, ⟨[(0, .val U4), (1, .fn 69 [0]), (7, .val I6), (8, .val I6)], [.box (some (.ow I6)) [(.ow I6)]]⟩, [(.ret, ⟨[(1, .fn 69 [0]), (4, .val I6)], [.box (some (.ow I6)) [(.ow I6)]]⟩), (.ex 0, ⟨[(1, .fn 69 [0])], [.box (some (.ow I6)) [(.ow I6)]]⟩)], fun x e => F20.loop0 k k x.1.1 x.1.2.1 x.1.2.2.1 x.2.1.1 (fun u0 u1 => e (.inl ((u0, ()), ((u1, ()), ())))) (fun u0 => e (.inr (((), ((u0, ()), ())))))⟩
theorem F20.r0 {R : Type} (k j : Nat) (s0 : List Int) (s7 : Int) (s8 : Int) (b1010_0 : List Int) (e : Outs (F20.L0 (R := R) k).outs -> Option R) :
  q27 F20.C k [] (F20.L0 (R := R) k).inn (F20.L0 (R := R) k).outs (q12 Tryz.f68 0) 1 ((s0, s7, s8, ()), ((b1010_0, ()), ())) (fun x => F20.loop0 k j x.1.1 x.1.2.1 x.1.2.2.1 x.2.1.1 (fun u0 u1 => e (.inl ((u0, ()), ((u1, ()), ())))) (fun u0 => e (.inr (((), ((u0, ()), ())))))) e =
  F20.loop0 k (j + 1) s0 s7 s8 b1010_0 (fun u0 u1 => e (.inl ((u0, ()), ((u1, ()), ())))) (fun u0 => e (.inr (((), ((u0, ()), ()))))) := by kernel_rfl
theorem F20.eq (k : Nat) (a0 : List Int) (a1 : List Int) :
  evF F20.C k [F20.L0 k] Tryz.f68 [.imm U4, .clo 69 1, .bor (.ow I6) true] [I6] (a0, a1, ()) some = F20 k a0 a1 := by kernel_rfl
def F21.S : FSem := ⟨45, [.imm U4, .clo 69 1, .bor (.ow I6) true], [.bool], fun k x => F21 k x.1 x.2.1⟩
def F21.C : Ctx := ⟨tis, etys, [F20.S], [0, 1, 4], [1], 9, []⟩
theorem F21.eq (k : Nat) (a0 : List Int) (a1 : List Int) :
  evF F21.C k [] Tryz.f45 [.imm U4, .clo 69 1, .bor (.ow I6) true] [.bool] (a0, a1, ()) some = F21 k a0 a1 := by kernel_rfl
def F22.S : FSem := ⟨47, [.imm U1, .imm I6], [(.mp I6)], fun k x => F22 k x.1 x.2.1⟩
def F22.C : Ctx := ⟨tis, etys, [F11.S, F21.S], [0, 1, 2, 4, 5, 6, 7, 8, 9, 10, 11, 13, 19, 23, 24, 25, 26, 41, 45], [], 56, []⟩
def F22.L1 {R : Type} (k : Nat) : LC R := ⟨2, ⟨[(2, .ptr 0), (5, .map 1), (6, .ptr 2), (7, .val I6), (8, .arr 3), (23, .val (.sl U0)), (24, .val I6), (25, .val I6)], [.box (some U1) [U7, (.sl U0), U4, I6], .mp I6, .box (some U4) [(.ow I6)], .arr I6]⟩, [(.ex 2, ⟨[(2, .ptr 0), (5, .map 1), (6, .ptr 2), (8, .arr 3)], [.box (some U1) [U7, (.sl U0), U4, I6], .mp I6, .box (some U4) [(.ow I6)], .arr I6]⟩)], fun x e => F22.loop1 k k x.1.1 x.1.2.1 x.1.2.2.1 x.1.2.2.2.1 x.2.1.1 x.2.1.2.1 x.2.1.2.2.1 x.2.1.2.2.2.1 x.2.2.1 x.2.2.2.1.1 x.2.2.2.2.1 (fun u0 u1 u2 u3 u4 u5 u6 => e ((), ((u0, u1, u2, u3, ()), u4, (u5, ()), u6, ())))⟩
theorem F22.r1 {R : Type} (k j : Nat) (s7 : Int) (s23 : List (Int × Int × Int × Bool × (Int × Int) × Int × Int × (List Int) × (List Int) × (List Int) × Int × Int × (List (Int × List Int)) × (List (Int × List Int)) × Int × (List (Int × Int)) × Int)) (s24 : Int) (s25 : Int) (b2_0 : List (Int × Int × Int × List Int)) (b2_1 : List (Int × Int × Int × Bool × (Int × Int) × Int × Int × (List Int) × (List Int) × (List Int) × Int × Int × (List (Int × List Int)) × (List (Int × List Int)) × Int × (List (Int × Int)) × Int)) (b2_2 : List Int) (b2_3 : Int) (m5 : List (Int × Int)) (b6_0 : List Int) (l8 : List Int) (e : Outs (F22.L1 (R := R) k).outs -> Option R) :
  q27 F22.C k [] (F22.L1 (R := R) k).inn (F22.L1 (R := R) k).outs (q12 Tryz.f47 1) 2 ((s7, s23, s24, s25, ()), ((b2_0, b2_1, b2_2, b2_3, ()), m5, (b6_0, ()), l8, ())) (fun x => F22.loop1 k j x.1.1 x.1.2.1 x.1.2.2.1 x.1.2.2.2.1 x.2.1.1 x.2.1.2.1 x.2.1.2.2.1 x.2.1.2.2.2.1 x.2.2.1 x.2.2.2.1.1 x.2.2.2.2.1 (fun u0 u1 u2 u3 u4 u5 u6 => e ((), ((u0, u1, u2, u3, ()), u4, (u5, ()), u6, ())))) e =
  F22.loop1 k (j + 1) s7 s23 s24 s25 b2_0 b2_1 b2_2 b2_3 m5 b6_0 l8 (fun u0 u1 u2 u3 u4 u5 u6 => e ((), ((u0, u1, u2, u3, ()), u4, (u5, ()), u6, ()))) := by kernel_rfl
def F22.L0 {R : Type} (k : Nat) : LC R := ⟨0, ⟨[(2, .ptr 0), (5, .map 1), (6, .ptr 2), (7, .val I6)], [.box (some U1) [U7, (.sl U0), U4, I6], .mp I6, .box (some U4) [(.ow I6)]]⟩, [(.ex 0, ⟨[(5, .map 0)], [.mp I6]⟩)], fun x e => F22.loop0 k k x.1.1 x.2.1.1 x.2.1.2.1 x.2.1.2.2.1 x.2.1.2.2.2.1 x.2.2.1 x.2.2.2.1.1 (fun u0 => e ((), (u0, ())))⟩
theorem F22.r0 {R : Type} (k j : Nat) (s7 : Int) (b2_0 : List (Int × Int × Int × List Int)) (b2_1 : List (Int × Int × Int × Bool × (Int × Int) × Int × Int × (List Int) × (List Int) × (List Int) × Int × Int × (List (Int × List Int)) × (List (Int × List Int)) × Int × (List (Int × Int)) × Int)) (b2_2 : List Int) (b2_3 : Int) (m5 : List (Int × Int)) (b6_0 : List Int) (e : Outs (F22.L0 (R := R) k).outs -> Option R) :
  q27 F22.C k [F22.L1 k] (F22.L0 (R := R) k).inn (F22.L0 (R := R) k).outs (q12 Tryz.f47 0) 1 ((s7, ()), ((b2_0, b2_1, b2_2, b2_3, ()), m5, (b6_0, ()), ())) (fun x => F22.loop0 k j x.1.1 x.2.1.1 x.2.1.2.1 x.2.1.2.2.1 x.2.1.2.2.2.1 x.2.2.1 x.2.2.2.1.1 (fun u0 => e ((), (u0, ())))) e =
  F22.loop0 k (j + 1) s7 b2_0 b2_1 b2_2 b2_3 m5 b6_0 (fun u0 => e ((), (u0, ()))) := by kernel_rfl
theorem F22.eq (k : Nat) (a0 : (List (Int × Int × Int × List Int)) × (List (Int × Int × Int × Bool × (Int × Int) × Int × Int × (List Int) × (List Int) × (List Int) × Int × Int × (List (Int × List Int)) × (List (Int × List Int)) × Int × (List (Int × Int)) × Int)) × (List Int) × Int) (a1 : Int) :
  evF F22.C k [F22.L1 k, F22.L0 k] Tryz.f47 [.imm U1, .imm I6] [(.mp I6)] (a0, a1, ()) some = F22 k a0 a1 := by kernel_rfl
def F23.S : FSem := ⟨18, [.imm U1], [(.ow I6)], fun k x => F23 k x.1⟩
def F23.C : Ctx := ⟨tis, etys, [F16.S, F22.S, F11.S], [0, 1, 2, 4, 5, 6, 7, 8, 9, 10, 11, 12, 14, 15, 16, 23, 35, 58, 64, 82, 83, 84, 85, 113], [], 121, []⟩
def F23.L2 {R : Type} (k : Nat) : LC R := ⟨4, ⟨[(6, .val I6), (7, .map 0), (10, .val I6), (12, .val I6), (82, .arr 1), (83, .val I6), (84, .val I6)], [.mp I6, .arr I6]⟩, [(.ex 4, ⟨[(7, .map 0), (12, .val I6)], [.mp I6]⟩)], fun x e => F23.loop2 k k x.1.1 x.1.2.1 x.1.2.2.1 x.1.2.2.2.1 x.1.2.2.2.2.1 x.2.1 x.2.2.1 (fun u0 u1 => e ((u0, ()), (u1, ())))⟩
theorem F23.r2 {R : Type} (k j : Nat) (s6 : Int) (s10 : Int) (s12 : Int) (s83 : Int) (s84 : Int) (m7 : List (Int × Int)) (l82 : List Int) (e : Outs (F23.L2 (R := R) k).outs -> Option R) :
  q27 F23.C k [] (F23.L2 (R := R) k).inn (F23.L2 (R := R) k).outs (q12 Tryz.f18 2) 3 ((s6, s10, s12, s83, s84, ()), (m7, l82, ())) (fun x => F23.loop2 k j x.1.1 x.1.2.1 x.1.2.2.1 x.1.2.2.2.1 x.1.2.2.2.2.1 x.2.1 x.2.2.1 (fun u0 u1 => e ((u0, ()), (u1, ())))) e =
  F23.loop2 k (j + 1) s6 s10 s12 s83 s84 m7 l82 (fun u0 u1 => e ((u0, ()), (u1, ()))) := by kernel_rfl
def F23.L1 {R : Type} (k : Nat) : LC R := ⟨2, ⟨[(1, .ptr 0), (5, .arz 1), (6, .val I6), (7, .map 2), (10, .val I6)], [.box (some U1) [U7, (.sl U0), U4, I6], .arr I6, .mp I6]⟩, [(.ex 2, ⟨[(1, .ptr 0), (5, .arz 1)], [.box (some U1) [U7, (.sl U0), U4, I6], .arr I6]⟩)], fun x e => F23.loop1 k k x.1.1 x.1.2.1 x.2.1.1 x.2.1.2.1 x.2.1.2.2.1 x.2.1.2.2.2.1 x.2.2.1 x.2.2.2.1 (fun u0 u1 u2 u3 u4 => e ((), ((u0, u1, u2, u3, ()), u4, ())))⟩
theorem F23.r1 {R : Type} (k j : Nat) (s6 : Int) (s10 : Int) (b1_0 : List (Int × Int × Int × List Int)) (b1_1 : List (Int × Int × Int × Bool × (Int × Int) × Int × Int × (List Int) × (List Int) × (List Int) × Int × Int × (List (Int × List Int)) × (List (Int × List Int)) × Int × (List (Int × Int)) × Int)) (b1_2 : List Int) (b1_3 : Int) (l5 : List Int) (m7 : List (Int × Int)) (e : Outs (F23.L1 (R := R) k).outs -> Option R) :
  q27 F23.C k [F23.L2 k] (F23.L1 (R := R) k).inn (F23.L1 (R := R) k).outs (q12 Tryz.f18 1) 2 ((s6, s10, ()), ((b1_0, b1_1, b1_2, b1_3, ()), l5, m7, ())) (fun x => F23.loop1 k j x.1.1 x.1.2.1 x.2.1.1 x.2.1.2.1 x.2.1.2.2.1 x.2.1.2.2.2.1 x.2.2.1 x.2.2.2.1 (fun u0 u1 u2 u3 u4 => e ((), ((u0, u1, u2, u3, ()), u4, ())))) e =
  F23.loop1 k (j + 1) s6 s10 b1_0 b1_1 b1_2 b1_3 l5 m7 (fun u0 u1 u2 u3 u4 => e ((), ((u0, u1, u2, u3, ()), u4, ()))) := by kernel_rfl
def F23.L0 {R : Type} (k : Nat) : LC R := ⟨0, ⟨[(1, .ptr 0), (5, .arz 1), (6, .val I6)], [.box (some U1) [U7, (.sl U0), U4, I6], .arr I6]⟩, [(.ex 0, ⟨[(5, .arz 0)], [.arr I6]⟩)], fun x e => F23.loop0 k k x.1.1 x.2.1.1 x.2.1.2.1 x.2.1.2.2.1 x.2.1.2.2.2.1 x.2.2.1 (fun u0 => e ((), (u0, ())))⟩
theorem F23.r0 {R : Type} (k j : Nat) (s6 : Int) (b1_0 : List (Int × Int × Int × List Int)) (b1_1 : List (Int × Int × Int × Bool × (Int × Int) × Int × Int × (List Int) × (List Int) × (List Int) × Int × Int × (List (Int × List Int)) × (List (Int × List Int)) × Int × (List (Int × Int)) × Int)) (b1_2 : List Int) (b1_3 : Int) (l5 : List Int) (e : Outs (F23.L0 (R := R) k).outs -> Option R) :
  q27 F23.C k [F23.L2 k, F23.L1 k] (F23.L0 (R := R) k).inn (F23.L0 (R := R) k).outs (q12 Tryz.f18 0) 1 ((s6, ()), ((b1_0, b1_1, b1_2, b1_3, ()), l5, ())) (fun x => F23.loop0 k j x.1.1 x.2.1.1 x.2.1.2.1 x.2.1.2.2.1 x.2.1.2.2.2.1 x.2.2.1 (fun u0 => e ((), (u0, ())))) e =
  F23.loop0 k (j + 1) s6 b1_0 b1_1 b1_2 b1_3 l5 (fun u0 => e ((), (u0, ()))) := by kernel_rfl
theorem F23.eq (k : Nat) (a0 : (List (Int × Int × Int × List Int)) × (List (Int × Int × Int × Bool × (Int × Int) × Int × Int × (List Int) × (List Int) × (List Int) × Int × Int × (List (Int × List Int)) × (List (Int × List Int)) × Int × (List (Int × Int)) × Int)) × (List Int) × Int) :
  evF F23.C k [F23.L2 k, F23.L1 k, F23.L0 k] Tryz.f18 [.imm U1] [(.ow I6)] (a0, ()) some = F23 k a0 := by kernel_rfl
def F24.S : FSem := ⟨27, [.imm U0], [.bool], fun k x => F24 k x.1⟩
def F24.C : Ctx := ⟨tis, etys, [], [0, 1, 2], [], 11, []⟩
theorem F24.eq (k : Nat) (a0 : Int × Int × Int × Bool × (Int × Int) × Int × Int × (List Int) × (List Int) × (List Int) × Int × Int × (List (Int × List Int)) × (List (Int × List Int)) × Int × (List (Int × Int)) × Int) :
  evF F24.C k [] Tryz.f27 [.imm U0] [.bool] (a0, ()) some = F24 k a0 := by kernel_rfl
def F25.S : FSem := ⟨10, [.imm U0], [(.ow I6)], fun k x => F25 k x.1⟩
def F25.C : Ctx := ⟨tis, etys, [F24.S], [0, 1, 2, 4], [], 13, []⟩
theorem F25.eq (k : Nat) (a0 : Int × Int × Int × Bool × (Int × Int) × Int × Int × (List Int) × (List Int) × (List Int) × Int × Int × (List (Int × List Int)) × (List (Int × List Int)) × Int × (List (Int × Int)) × Int) :
  evF F25.C k [] Tryz.f10 [.imm U0] [(.ow I6)] (a0, ()) some = F25 k a0 := by kernel_rfl
def F26.S : FSem := ⟨63, [.imm U1], [I6], fun k x => F26 k x.1⟩
def F26.C : Ctx := ⟨tis, etys, [F25.S], [0, 1, 2, 3, 4, 5, 6, 7, 15, 42, 55, 67, 82, 87, 104], [], 105, []⟩
def F26.L1 {R : Type} (k : Nat) : LC R := ⟨2, ⟨[(3, .val I6), (5, .arr 0), (6, .val I6)], [.arr I6]⟩, [(.ret, ⟨[(2, .val I6)], []⟩), (.ex 3, ⟨[], []⟩)], fun x e => F26.loop1 k k x.1.1 x.1.2.1 x.2.1 (fun u0 => e (.inl ((u0, ()), ()))) (fun _ => e (.inr (((), ()))))⟩
theorem F26.r1 {R : Type} (k j : Nat) (s3 : Int) (s6 : Int) (l5 : List Int) (e : Outs (F26.L1 (R := R) k).outs -> Option R) :
  q27 F26.C k [] (F26.L1 (R := R) k).inn (F26.L1 (R := R) k).outs (q12 Tryz.f63 1) 2 ((s3, s6, ()), (l5, ())) (fun x => F26.loop1 k j x.1.1 x.1.2.1 x.2.1 (fun u0 => e (.inl ((u0, ()), ()))) (fun _ => e (.inr (((), ()))))) e =
  F26.loop1 k (j + 1) s3 s6 l5 (fun u0 => e (.inl ((u0, ()), ()))) (fun _ => e (.inr (((), ())))) := by kernel_rfl
def F26.L0 {R : Type} (k : Nat) : LC R := ⟨0, ⟨[(1, .ptr 0), (3, .val I6), (4, .val I6)], [.box (some U1) [U7, (.sl U0), U4, I6]]⟩, [(.ret, ⟨[(2, .val I6)], []⟩), (.ex 1, ⟨[(1, .ptr 0)], [.box (some U1) [U7, (.sl U0), U4, I6]]⟩)], fun x e => F26.loop0 k k x.1.1 x.1.2.1 x.2.1.1 x.2.1.2.1 x.2.1.2.2.1 x.2.1.2.2.2.1 (fun u0 => e (.inl ((u0, ()), ()))) (fun u0 u1 u2 u3 => e (.inr (((), ((u0, u1, u2, u3, ()), ())))))⟩
theorem F26.r0 {R : Type} (k j : Nat) (s3 : Int) (s4 : Int) (b1_0 : List (Int × Int × Int × List Int)) (b1_1 : List (Int × Int × Int × Bool × (Int × Int) × Int × Int × (List Int) × (List Int) × (List Int) × Int × Int × (List (Int × List Int)) × (List (Int × List Int)) × Int × (List (Int × Int)) × Int)) (b1_2 : List Int) (b1_3 : Int) (e : Outs (F26.L0 (R := R) k).outs -> Option R) :
  q27 F26.C k [F26.L1 k] (F26.L0 (R := R) k).inn (F26.L0 (R := R) k).outs (q12 Tryz.f63 0) 1 ((s3, s4, ()), ((b1_0, b1_1, b1_2, b1_3, ()), ())) (fun x => F26.loop0 k j x.1.1 x.1.2.1 x.2.1.1 x.2.1.2.1 x.2.1.2.2.1 x.2.1.2.2.2.1 (fun u0 => e (.inl ((u0, ()), ()))) (fun u0 u1 u2 u3 => e (.inr (((), ((u0, u1, u2, u3, ()), ())))))) e =
  F26.loop0 k (j + 1) s3 s4 b1_0 b1_1 b1_2 b1_3 (fun u0 => e (.inl ((u0, ()), ()))) (fun u0 u1 u2 u3 => e (.inr (((), ((u0, u1, u2, u3, ()), ()))))) := by kernel_rfl
def F26.L2 {R : Type} (k : Nat) : LC R := ⟨4, ⟨[(1, .ptr 0), (3, .val I6), (7, .val I6)], [.box (some U1) [U7, (.sl U0), U4, I6]]⟩, [(.ret, ⟨[(2, .val I6)], []⟩), (.ex 5, ⟨[], []⟩)], fun x e => F26.loop2 k k x.1.1 x.1.2.1 x.2.1.1 x.2.1.2.1 x.2.1.2.2.1 x.2.1.2.2.2.1 (fun u0 => e (.inl ((u0, ()), ()))) (fun _ => e (.inr (((), ()))))⟩
theorem F26.r2 {R : Type} (k j : Nat) (s3 : Int) (s7 : Int) (b1_0 : List (Int × Int × Int × List Int)) (b1_1 : List (Int × Int × Int × Bool × (Int × Int) × Int × Int × (List Int) × (List Int) × (List Int) × Int × Int × (List (Int × List Int)) × (List (Int × List Int)) × Int × (List (Int × Int)) × Int)) (b1_2 : List Int) (b1_3 : Int) (e : Outs (F26.L2 (R := R) k).outs -> Option R) :
  q27 F26.C k [] (F26.L2 (R := R) k).inn (F26.L2 (R := R) k).outs (q12 Tryz.f63 2) 3 ((s3, s7, ()), ((b1_0, b1_1, b1_2, b1_3, ()), ())) (fun x => F26.loop2 k j x.1.1 x.1.2.1 x.2.1.1 x.2.1.2.1 x.2.1.2.2.1 x.2.1.2.2.2.1 (fun u0 => e (.inl ((u0, ()), ()))) (fun _ => e (.inr (((), ()))))) e =
  F26.loop2 k (j + 1) s3 s7 b1_0 b1_1 b1_2 b1_3 (fun u0 => e (.inl ((u0, ()), ()))) (fun _ => e (.inr (((), ())))) := by kernel_rfl
theorem F26.eq (k : Nat) (a0 : (List (Int × Int × Int × List Int)) × (List (Int × Int × Int × Bool × (Int × Int) × Int × Int × (List Int) × (List Int) × (List Int) × Int × Int × (List (Int × List Int)) × (List (Int × List Int)) × Int × (List (Int × Int)) × Int)) × (List Int) × Int) :
  evF F26.C k [F26.L1 k, F26.L0 k, F26.L2 k] Tryz.f63 [.imm U1] [I6] (a0, ()) some = F26 k a0 := by kernel_rfl
def F27.S : FSem := ⟨64, [.imm U4, .imm I6], [.bool], fun k x => F27 k x.1 x.2.1⟩
def F27.C : Ctx := ⟨tis, etys, [], [0, 1, 4, 5, 9, 17], [], 18, []⟩
def F27.L0 {R : Type} (k : Nat) : LC R := ⟨0, ⟨[(0, .val U4), (1, .val I6), (5, .val I6)], []⟩, [(.ret, ⟨[(4, .val .bool)], []⟩), (.ex 0, ⟨[], []⟩)], fun x e => F27.loop0 k k x.1.1 x.1.2.1 x.1.2.2.1 (fun u0 => e (.inl ((u0, ()), ()))) (fun _ => e (.inr (((), ()))))⟩
theorem F27.r0 {R : Type} (k j : Nat) (s0 : List Int) (s1 : Int) (s5 : Int) (e : Outs (F27.L0 (R := R) k).outs -> Option R) :
  q27 F27.C k [] (F27.L0 (R := R) k).inn (F27.L0 (R := R) k).outs (q12 Tryz.f64 0) 1 ((s0, s1, s5, ()), ()) (fun x => F27.loop0 k j x.1.1 x.1.2.1 x.1.2.2.1 (fun u0 => e (.inl ((u0, ()), ()))) (fun _ => e (.inr (((), ()))))) e =
  F27.loop0 k (j + 1) s0 s1 s5 (fun u0 => e (.inl ((u0, ()), ()))) (fun _ => e (.inr (((), ())))) := by kernel_rfl
theorem F27.eq (k : Nat) (a0 : List Int) (a1 : Int) :
  evF F27.C k [F27.L0 k] Tryz.f64 [.imm U4, .imm I6] [.bool] (a0, a1, ()) some = F27 k a0 a1 := by kernel_rfl
def F28.S : FSem := ⟨39, [.imm U1], [(.ow I6), I6], fun k x => F28 k x.1⟩
def F28.C : Ctx := ⟨tis, etys, [F26.S, F27.S, F25.S], [0, 1, 2, 3, 4, 5, 6, 7, 8, 9, 10, 11, 15, 22, 31, 52, 74, 77], [], 83, []⟩
def F28.L2 {R : Type} (k : Nat) : LC R := ⟨4, ⟨[(1, .ptr 0), (5, .arr 1), (9, .val .bool), (10, .arr 2), (11, .val I6)], [.box (some U1) [U7, (.sl U0), U4, I6], .arr I6, .arr I6]⟩, [(.ex 4, ⟨[(1, .ptr 0), (5, .arr 1), (9, .val .bool)], [.box (some U1) [U7, (.sl U0), U4, I6], .arr I6]⟩)], fun x e => F28.loop2 k k x.1.1 x.1.2.1 x.2.1.1 x.2.1.2.1 x.2.1.2.2.1 x.2.1.2.2.2.1 x.2.2.1 x.2.2.2.1 (fun u0 u1 u2 u3 u4 u5 => e ((u0, ()), ((u1, u2, u3, u4, ()), u5, ())))⟩
theorem F28.r2 {R : Type} (k j : Nat) (s9 : Bool) (s11 : Int) (b1_0 : List (Int × Int × Int × List Int)) (b1_1 : List (Int × Int × Int × Bool × (Int × Int) × Int × Int × (List Int) × (List Int) × (List Int) × Int × Int × (List (Int × List Int)) × (List (Int × List Int)) × Int × (List (Int × Int)) × Int)) (b1_2 : List Int) (b1_3 : Int) (l5 : List Int) (l10 : List Int) (e : Outs (F28.L2 (R := R) k).outs -> Option R) :
  q27 F28.C k [] (F28.L2 (R := R) k).inn (F28.L2 (R := R) k).outs (q12 Tryz.f39 2) 3 ((s9, s11, ()), ((b1_0, b1_1, b1_2, b1_3, ()), l5, l10, ())) (fun x => F28.loop2 k j x.1.1 x.1.2.1 x.2.1.1 x.2.1.2.1 x.2.1.2.2.1 x.2.1.2.2.2.1 x.2.2.1 x.2.2.2.1 (fun u0 u1 u2 u3 u4 u5 => e ((u0, ()), ((u1, u2, u3, u4, ()), u5, ())))) e =
  F28.loop2 k (j + 1) s9 s11 b1_0 b1_1 b1_2 b1_3 l5 l10 (fun u0 u1 u2 u3 u4 u5 => e ((u0, ()), ((u1, u2, u3, u4, ()), u5, ()))) := by kernel_rfl
def F28.L1 {R : Type} (k : Nat) : LC R := ⟨2, ⟨[(1, .ptr 0), (5, .arr 1), (6, .val I6), (7, .val I6)], [.box (some U1) [U7, (.sl U0), U4, I6], .arr I6]⟩, [(.ex 2, ⟨[(1, .ptr 0), (5, .arr 1), (6, .val I6)], [.box (some U1) [U7, (.sl U0), U4, I6], .arr I6]⟩)], fun x e => F28.loop1 k k x.1.1 x.1.2.1 x.2.1.1 x.2.1.2.1 x.2.1.2.2.1 x.2.1.2.2.2.1 x.2.2.1 (fun u0 u1 u2 u3 u4 u5 => e ((u0, ()), ((u1, u2, u3, u4, ()), u5, ())))⟩
theorem F28.r1 {R : Type} (k j : Nat) (s6 : Int) (s7 : Int) (b1_0 : List (Int × Int × Int × List Int)) (b1_1 : List (Int × Int × Int × Bool × (Int × Int) × Int × Int × (List Int) × (List Int) × (List Int) × Int × Int × (List (Int × List Int)) × (List (Int × List Int)) × Int × (List (Int × Int)) × Int)) (b1_2 : List Int) (b1_3 : Int) (l5 : List Int) (e : Outs (F28.L1 (R := R) k).outs -> Option R) :
  q27 F28.C k [F28.L2 k] (F28.L1 (R := R) k).inn (F28.L1 (R := R) k).outs (q12 Tryz.f39 1) 2 ((s6, s7, ()), ((b1_0, b1_1, b1_2, b1_3, ()), l5, ())) (fun x => F28.loop1 k j x.1.1 x.1.2.1 x.2.1.1 x.2.1.2.1 x.2.1.2.2.1 x.2.1.2.2.2.1 x.2.2.1 (fun u0 u1 u2 u3 u4 u5 => e ((u0, ()), ((u1, u2, u3, u4, ()), u5, ())))) e =
  F28.loop1 k (j + 1) s6 s7 b1_0 b1_1 b1_2 b1_3 l5 (fun u0 u1 u2 u3 u4 u5 => e ((u0, ()), ((u1, u2, u3, u4, ()), u5, ()))) := by kernel_rfl
def F28.L0 {R : Type} (k : Nat) : LC R := ⟨0, ⟨[(1, .ptr 0), (5, .arr 1)], [.box (some U1) [U7, (.sl U0), U4, I6], .arr I6]⟩, [(.ret, ⟨[(2, .arr 0), (3, .val I6)], [.arr I6]⟩), (.ex 0, ⟨[(5, .arr 0)], [.arr I6]⟩)], fun x e => F28.loop0 k k x.2.1.1 x.2.1.2.1 x.2.1.2.2.1 x.2.1.2.2.2.1 x.2.2.1 (fun u0 u1 => e (.inl ((u0, ()), (u1, ())))) (fun u0 => e (.inr (((), (u0, ())))))⟩
theorem F28.r0 {R : Type} (k j : Nat) (b1_0 : List (Int × Int × Int × List Int)) (b1_1 : List (Int × Int × Int × Bool × (Int × Int) × Int × Int × (List Int) × (List Int) × (List Int) × Int × Int × (List (Int × List Int)) × (List (Int × List Int)) × Int × (List (Int × Int)) × Int)) (b1_2 : List Int) (b1_3 : Int) (l5 : List Int) (e : Outs (F28.L0 (R := R) k).outs -> Option R) :
  q27 F28.C k [F28.L2 k, F28.L1 k] (F28.L0 (R := R) k).inn (F28.L0 (R := R) k).outs (q12 Tryz.f39 0) 1 ((), ((b1_0, b1_1, b1_2, b1_3, ()), l5, ())) (fun x => F28.loop0 k j x.2.1.1 x.2.1.2.1 x.2.1.2.2.1 x.2.1.2.2.2.1 x.2.2.1 (fun u0 u1 => e (.inl ((u0, ()), (u1, ())))) (fun u0 => e (.inr (((), (u0, ())))))) e =
  F28.loop0 k (j + 1) b1_0 b1_1 b1_2 b1_3 l5 (fun u0 u1 => e (.inl ((u0, ()), (u1, ())))) (fun u0 => e (.inr (((), (u0, ()))))) := by kernel_rfl
theorem F28.eq (k : Nat) (a0 : (List (Int × Int × Int × List Int)) × (List (Int × Int × Int × Bool × (Int × Int) × Int × Int × (List Int) × (List Int) × (List Int) × Int × Int × (List (Int × List Int)) × (List (Int × List Int)) × Int × (List (Int × Int)) × Int)) × (List Int) × Int) :
  evF F28.C k [F28.L2 k, F28.L1 k, F28.L0 k] Tryz.f39 [.imm U1] [(.ow I6), I6] (a0, ()) some = F28 k a0 := by kernel_rfl
def F29.S : FSem := ⟨55, [.imm I6, .imm I6, .imm I6], [I6, .bool], fun k x => F29 k x.1 x.2.1 x.2.2.1⟩
def F29.C : Ctx := ⟨tis, etys, [], [0, 1, 2, 6, 7, 28], [], 32, []⟩
theorem F29.eq (k : Nat) (a0 : Int) (a1 : Int) (a2 : Int) :
  evF F29.C k [] Tryz.f55 [.imm I6, .imm I6, .imm I6] [I6, .bool] (a0, a1, a2, ()) some = F29 k a0 a1 a2 := by kernel_rfl
def F30.S : FSem := ⟨52, [.imm I6, .imm I6, .imm I6], [.bool], fun k x => F30 k x.1 x.2.1 x.2.2.1⟩
def F30.C : Ctx := ⟨tis, etys, [F29.S], [0, 1, 2, 6, 8], [], 40, []⟩
theorem F30.eq (k : Nat) (a0 : Int) (a1 : Int) (a2 : Int) :
  evF F30.C k [] Tryz.f52 [.imm I6, .imm I6, .imm I6] [.bool] (a0, a1, a2, ()) some = F30 k a0 a1 a2 := by kernel_rfl
def F31.S : FSem := ⟨25, [.imm U2], [.bool], fun k x => F31 k x.1⟩
def F31.C : Ctx := ⟨tis, etys, [F30.S], [0, 1, 2, 4, 23, 25, 26, 27, 28, 38], [], 40, []⟩
def F31.L0 {R : Type} (k : Nat) : LC R := ⟨0, ⟨[(1, .ptr 0), (25, .val U4), (26, .val I6), (27, .val I6)], [.box (some U2) [I6, I6, I6, U4]]⟩, [(.ret, ⟨[(2, .val .bool)], []⟩), (.ex 0, ⟨[], []⟩)], fun x e => F31.loop0 k k x.1.1 x.1.2.1 x.1.2.2.1 x.2.1.1 x.2.1.2.1 x.2.1.2.2.1 x.2.1.2.2.2.1 (fun u0 => e (.inl ((u0, ()), ()))) (fun _ => e (.inr (((), ()))))⟩
theorem F31.r0 {R : Type} (k j : Nat) (s25 : List Int) (s26 : Int) (s27 : Int) (b1_0 : Int) (b1_1 : Int) (b1_2 : Int) (b1_3 : List Int) (e : Outs (F31.L0 (R := R) k).outs -> Option R) :
  q27 F31.C k [] (F31.L0 (R := R) k).inn (F31.L0 (R := R) k).outs (q12 Tryz.f25 0) 1 ((s25, s26, s27, ()), ((b1_0, b1_1, b1_2, b1_3, ()), ())) (fun x => F31.loop0 k j x.1.1 x.1.2.1 x.1.2.2.1 x.2.1.1 x.2.1.2.1 x.2.1.2.2.1 x.2.1.2.2.2.1 (fun u0 => e (.inl ((u0, ()), ()))) (fun _ => e (.inr (((), ()))))) e =
  F31.loop0 k (j + 1) s25 s26 s27 b1_0 b1_1 b1_2 b1_3 (fun u0 => e (.inl ((u0, ()), ()))) (fun _ => e (.inr (((), ())))) := by kernel_rfl
theorem F31.eq (k : Nat) (a0 : Int × Int × Int × List Int) :
  evF F31.C k [F31.L0 k] Tryz.f25 [.imm U2] [.bool] (a0, ()) some = F31 k a0 := by kernel_rfl
def F32.S : FSem := ⟨53, [.imm I6, .imm I6, .imm I6], [.bool], fun k x => F32 k x.1 x.2.1 x.2.2.1⟩
def F32.C : Ctx := ⟨tis, etys, [], [0, 1, 2, 6], [], 15, []⟩
theorem F32.eq (k : Nat) (a0 : Int) (a1 : Int) (a2 : Int) :
  evF F32.C k [] Tryz.f53 [.imm I6, .imm I6, .imm I6] [.bool] (a0, a1, a2, ()) some = F32 k a0 a1 a2 := by kernel_rfl
def F33.S : FSem := ⟨31, [.imm I6], [.bool], fun k x => F33 k x.1⟩
def F33.C : Ctx := ⟨tis, etys, [], [0, 2], [], 13, []⟩
theorem F33.eq (k : Nat) (a0 : Int) :
  evF F33.C k [] Tryz.f31 [.imm I6] [.bool] (a0, ()) some = F33 k a0 := by kernel_rfl
def F34.S : FSem := ⟨54, [.imm .bool, .imm U4, .bor I6 true], [.bool], fun k x => F34 k x.1 x.2.1 x.2.2.1⟩
def F34.C : Ctx := ⟨tis, etys, [], [0, 1, 2, 5, 7, 8, 9, 10, 11, 16], [2], 19, []⟩
def F34.L0 {R : Type} (k : Nat) : LC R := ⟨0, ⟨[(2, .ptr 0), (8, .val U4), (9, .val I6), (10, .val I6)], [.box (some I6) [I6]]⟩, [(.ret, ⟨[(2, .ptr 0), (5, .val .bool)], [.box (some I6) [I6]]⟩), (.ex 0, ⟨[(2, .ptr 0)], [.box (some I6) [I6]]⟩)], fun x e => F34.loop0 k k x.1.1 x.1.2.1 x.1.2.2.1 x.2.1.1 (fun u0 u1 => e (.inl ((u0, ()), ((u1, ()), ())))) (fun u0 => e (.inr (((), ((u0, ()), ())))))⟩
theorem F34.r0 {R : Type} (k j : Nat) (s8 : List Int) (s9 : Int) (s10 : Int) (b2_0 : Int) (e : Outs (F34.L0 (R := R) k).outs -> Option R) :
  q27 F34.C k [] (F34.L0 (R := R) k).inn (F34.L0 (R := R) k).outs (q12 Tryz.f54 0) 1 ((s8, s9, s10, ()), ((b2_0, ()), ())) (fun x => F34.loop0 k j x.1.1 x.1.2.1 x.1.2.2.1 x.2.1.1 (fun u0 u1 => e (.inl ((u0, ()), ((u1, ()), ())))) (fun u0 => e (.inr (((), ((u0, ()), ())))))) e =
  F34.loop0 k (j + 1) s8 s9 s10 b2_0 (fun u0 u1 => e (.inl ((u0, ()), ((u1, ()), ())))) (fun u0 => e (.inr (((), ((u0, ()), ()))))) := by kernel_rfl
theorem F34.eq (k : Nat) (a0 : Bool) (a1 : List Int) (a2 : Int) :
  evF F34.C k [F34.L0 k] Tryz.f54 [.imm .bool, .imm U4, .bor I6 true] [.bool] (a0, a1, a2, ()) some = F34 k a0 a1 a2 := by kernel_rfl
def F35.S : FSem := ⟨28, [.imm U0], [.bool], fun k x => F35 k x.1⟩
def F35.C : Ctx := ⟨tis, etys, [F32.S, F33.S, F34.S], [0, 1, 2, 3, 4, 18], [], 118, []⟩
def F35.J4 {R : Type} (k : Nat) : LC R := ⟨9, ⟨[(1, .ptr 0), (3, .ptr 1)], [.box (some U0) [I6, I6, I6, .bool, I6, I6, I6, I6, U4, U4, U4, I6, I6, U6, U6, I6, (.sl U3), I6], .box (some I6) [I6]]⟩, [(.ret, ⟨[(2, .val .bool)], []⟩)], fun x e => F35.join4 k x.2.1.1 x.2.1.2.1 x.2.1.2.2.1 x.2.1.2.2.2.1 x.2.1.2.2.2.2.1 x.2.1.2.2.2.2.2.1 x.2.1.2.2.2.2.2.2.1 x.2.1.2.2.2.2.2.2.2.1 x.2.1.2.2.2.2.2.2.2.2.1 x.2.1.2.2.2.2.2.2.2.2.2.1 x.2.1.2.2.2.2.2.2.2.2.2.2.1 x.2.1.2.2.2.2.2.2.2.2.2.2.2.1 x.2.1.2.2.2.2.2.2.2.2.2.2.2.2.1 x.2.1.2.2.2.2.2.2.2.2.2.2.2.2.2.1 x.2.1.2.2.2.2.2.2.2.2.2.2.2.2.2.2.1 x.2.1.2.2.2.2.2.2.2.2.2.2.2.2.2.2.2.1 x.2.1.2.2.2.2.2.2.2.2.2.2.2.2.2.2.2.2.1 x.2.1.2.2.2.2.2.2.2.2.2.2.2.2.2.2.2.2.2.1 x.2.2.1.1 (fun u0 => e ((u0, ()), ()))⟩
theorem F35.q4 {R : Type} (k : Nat) (b1_0 : Int) (b1_1 : Int) (b1_2 : Int) (b1_3 : Bool) (b1_4 : Int) (b1_5 : Int) (b1_6 : Int) (b1_7 : Int) (b1_8 : List Int) (b1_9 : List Int) (b1_10 : List Int) (b1_11 : Int) (b1_12 : Int) (b1_13 : List (Int × List Int)) (b1_14 : List (Int × List Int)) (b1_15 : Int) (b1_16 : List (Int × Int)) (b1_17 : Int) (b3_0 : Int) (e : Outs (F35.J4 (R := R) k).outs -> Option R) :
  q230 F35.C k [] (F35.J4 (R := R) k).inn (F35.J4 (R := R) k).outs (q41 Tryz.f28 4) 0 ((), ((b1_0, b1_1, b1_2, b1_3, b1_4, b1_5, b1_6, b1_7, b1_8, b1_9, b1_10, b1_11, b1_12, b1_13, b1_14, b1_15, b1_16, b1_17, ()), (b3_0, ()), ())) e =
  F35.join4 k b1_0 b1_1 b1_2 b1_3 b1_4 b1_5 b1_6 b1_7 b1_8 b1_9 b1_10 b1_11 b1_12 b1_13 b1_14 b1_15 b1_16 b1_17 b3_0 (fun u0 => e ((u0, ()), ())) := by kernel_rfl
theorem F35.eq (k : Nat) (a0 : Int × Int × Int × Bool × (Int × Int) × Int × Int × (List Int) × (List Int) × (List Int) × Int × Int × (List (Int × List Int)) × (List (Int × List Int)) × Int × (List (Int × Int)) × Int) :
  evF F35.C k [F35.J4 k] Tryz.f28 [.imm U0] [.bool] (a0, ()) some = F35 k a0 := by kernel_rfl
def F36.S : FSem := ⟨29, [.imm U5], [.bool], fun k x => F36 k x.1⟩
def F36.C : Ctx := ⟨tis, etys, [F29.S, F32.S], [0, 1, 2, 4], [], 29, []⟩
theorem F36.eq (k : Nat) (a0 : Int × Int × Int) :
  evF F36.C k [] Tryz.f29 [.imm U5] [.bool] (a0, ()) some = F36 k a0 := by kernel_rfl
def F37.S : FSem := ⟨32, [.imm U3, .imm I6], [.bool], fun k x => F37 k x.1 x.2.1⟩
def F37.C : Ctx := ⟨tis, etys, [], [0, 1, 2, 4, 6, 7, 14], [], 25, []⟩
theorem F37.eq (k : Nat) (a0 : Int × Int) (a1 : Int) :
  evF F37.C k [] Tryz.f32 [.imm U3, .imm I6] [.bool] (a0, a1, ()) some = F37 k a0 a1 := by kernel_rfl
def F38.S : FSem := ⟨73, [.imm I6], [.bool], fun k x => F38 k x.1⟩
def F38.C : Ctx := ⟨tis, etys, [], [0, 2], [], 9, []⟩
theorem F38.eq (k : Nat) (a0 : Int) :
  evF F38.C k [] Tryz.f73 [.imm I6] [.bool] (a0, ()) some = F38 k a0 := by kernel_rfl
def F39.S : FSem := ⟨74, [.imm U4], [I6], fun k x => F39 k x.1⟩
def F39.C : Ctx := ⟨tis, etys, [], [0, 2, 4, 12, 13, 14, 15, 16, 24], [], 26, []⟩
def F39.L0 {R : Type} (k : Nat) : LC R := ⟨0, ⟨[(13, .val U4), (14, .val I6), (15, .val I6)], []⟩, [(.ret, ⟨[(2, .val I6)], []⟩), (.ex 0, ⟨[], []⟩)], fun x e => F39.loop0 k k x.1.1 x.1.2.1 x.1.2.2.1 (fun u0 => e (.inl ((u0, ()), ()))) (fun _ => e (.inr (((), ()))))⟩
theorem F39.r0 {R : Type} (k j : Nat) (s13 : List Int) (s14 : Int) (s15 : Int) (e : Outs (F39.L0 (R := R) k).outs -> Option R) :
  q27 F39.C k [] (F39.L0 (R := R) k).inn (F39.L0 (R := R) k).outs (q12 Tryz.f74 0) 1 ((s13, s14, s15, ()), ()) (fun x => F39.loop0 k j x.1.1 x.1.2.1 x.1.2.2.1 (fun u0 => e (.inl ((u0, ()), ()))) (fun _ => e (.inr (((), ()))))) e =
  F39.loop0 k (j + 1) s13 s14 s15 (fun u0 => e (.inl ((u0, ()), ()))) (fun _ => e (.inr (((), ())))) := by kernel_rfl
theorem F39.eq (k : Nat) (a0 : List Int) :
  evF F39.C k [F39.L0 k] Tryz.f74 [.imm U4] [I6] (a0, ()) some = F39 k a0 := by kernel_rfl
def F40.S : FSem := ⟨75, [.imm I6], [.bool], fun k x => F40 k x.1⟩
def F40.C : Ctx := ⟨tis, etys, [], [0, 2], [], 9, []⟩
theorem F40.eq (k : Nat) (a0 : Int) :
  evF F40.C k [] Tryz.f75 [.imm I6] [.bool] (a0, ()) some = F40 k a0 := by kernel_rfl
def F41.S : FSem := ⟨99, [.bor U3 true, .imm I6], [], fun k x => F41 k x.1 x.2.1⟩
def F41.C : Ctx := ⟨tis, etys, [], [0, 1], [0], 22, []⟩
theorem F41.eq (k : Nat) (a0 : Int × Int) (a1 : Int) :
  evF F41.C k [] Tryz.f99 [.bor U3 true, .imm I6] [] (a0, a1, ()) some = F41 k a0 a1 := by kernel_rfl
def F42.S : FSem := ⟨111, [.imm I6], [.bool], fun k x => F42 k x.1⟩
def F42.C : Ctx := ⟨tis, etys, [], [0, 2], [], 9, []⟩
theorem F42.eq (k : Nat) (a0 : Int) :
  evF F42.C k [] Tryz.f111 [.imm I6] [.bool] (a0, ()) some = F42 k a0 := by kernel_rfl
def F43.S : FSem := ⟨100, [.bor U3 true], [I6, .bool], fun k x => F43 k x.1⟩
def F43.C : Ctx := ⟨tis, etys, [F42.S], [0, 2, 3, 4, 16], [0], 30, []⟩
theorem F43.eq (k : Nat) (a0 : Int × Int) :
  evF F43.C k [] Tryz.f100 [.bor U3 true] [I6, .bool] (a0, ()) some = F43 k a0 := by kernel_rfl
def F44.S : FSem := ⟨76, [.imm U4, .imm I6, .imm I6], [I6, I6, .bool], fun k x => F44 k x.1 x.2.1 x.2.2.1⟩
def F44.C : Ctx := ⟨tis, etys, [F39.S, F41.S, F43.S], [0, 1, 2, 6, 7, 8, 9, 10, 12, 13, 14, 15, 16, 17, 18, 34, 35, 36, 37, 38, 69], [], 72, []⟩
def F44.L0 {R : Type} (k : Nat) : LC R := ⟨0, ⟨[(1, .val I6), (2, .val I6), (9, .ptr 0), (10, .ptr 1), (35, .val U4), (36, .val I6), (37, .val I6)], [.box (some U3) [I6, I6], .box (some U3) [I6, I6]]⟩, [(.ex 0, ⟨[(9, .ptr 0), (10, .ptr 1)], [.box (some U3) [I6, I6], .box (some U3) [I6, I6]]⟩)], fun x e => F44.loop0 k k x.1.1 x.1.2.1 x.1.2.2.1 x.1.2.2.2.1 x.1.2.2.2.2.1 x.2.1.1 x.2.1.2.1 x.2.2.1.1 x.2.2.1.2.1 (fun u0 u1 u2 u3 => e ((), ((u0, u1, ()), (u2, u3, ()), ())))⟩
theorem F44.r0 {R : Type} (k j : Nat) (s1 : Int) (s2 : Int) (s35 : List Int) (s36 : Int) (s37 : Int) (b9_0 : Int) (b9_1 : Int) (b10_0 : Int) (b10_1 : Int) (e : Outs (F44.L0 (R := R) k).outs -> Option R) :
  q27 F44.C k [] (F44.L0 (R := R) k).inn (F44.L0 (R := R) k).outs (q12 Tryz.f76 0) 1 ((s1, s2, s35, s36, s37, ()), ((b9_0, b9_1, ()), (b10_0, b10_1, ()), ())) (fun x => F44.loop0 k j x.1.1 x.1.2.1 x.1.2.2.1 x.1.2.2.2.1 x.1.2.2.2.2.1 x.2.1.1 x.2.1.2.1 x.2.2.1.1 x.2.2.1.2.1 (fun u0 u1 u2 u3 => e ((), ((u0, u1, ()), (u2, u3, ()), ())))) e =
  F44.loop0 k (j + 1) s1 s2 s35 s36 s37 b9_0 b9_1 b10_0 b10_1 (fun u0 u1 u2 u3 => e ((), ((u0, u1, ()), (u2, u3, ()), ()))) := by kernel_rfl
theorem F44.eq (k : Nat) (a0 : List Int) (a1 : Int) (a2 : Int) :
  evF F44.C k [F44.L0 k] Tryz.f76 [.imm U4, .imm I6, .imm I6] [I6, I6, .bool] (a0, a1, a2, ()) some = F44 k a0 a1 a2 := by kernel_rfl
def F45.S : FSem := ⟨56, [.imm I6, .imm I6, .imm I6, .imm U4, .imm I6, .imm I6], [I6], fun k x => F45 k x.1 x.2.1 x.2.2.1 x.2.2.2.1 x.2.2.2.2.1 x.2.2.2.2.2.1⟩
def F45.C : Ctx := ⟨tis, etys, [F38.S, F39.S, F40.S, F44.S], [0, 1, 2, 3, 4, 5, 12, 15, 31, 42, 50, 59], [], 60, []⟩
theorem F45.eq (k : Nat) (a0 : Int) (a1 : Int) (a2 : Int) (a3 : List Int) (a4 : Int) (a5 : Int) :
  evF F45.C k [] Tryz.f56 [.imm I6, .imm I6, .imm I6, .imm U4, .imm I6, .imm I6] [I6] (a0, a1, a2, a3, a4, a5, ()) some = F45 k a0 a1 a2 a3 a4 a5 := by kernel_rfl
def F46.S : FSem := ⟨77, [.imm I6], [.bool], fun k x => F46 k x.1⟩
def F46.C : Ctx := ⟨tis, etys, [], [0, 2], [], 9, []⟩
theorem F46.eq (k : Nat) (a0 : Int) :
  evF F46.C k [] Tryz.f77 [.imm I6] [.bool] (a0, ()) some = F46 k a0 := by kernel_rfl
def F47.S : FSem := ⟨78, [.imm I6], [.bool], fun k x => F47 k x.1⟩
def F47.C : Ctx := ⟨tis, etys, [], [0, 2], [], 9, []⟩
theorem F47.eq (k : Nat) (a0 : Int) :
  evF F47.C k [] Tryz.f78 [.imm I6] [.bool] (a0, ()) some = F47 k a0 := by kernel_rfl
def F48.S : FSem := ⟨101, [.imm I6, .imm I6], [I6], fun k x => F48 k x.1 x.2.1⟩
def F48.C : Ctx := ⟨tis, etys, [F42.S], [0, 1, 4, 5, 17], [], 28, []⟩
theorem F48.eq (k : Nat) (a0 : Int) (a1 : Int) :
  evF F48.C k [] Tryz.f101 [.imm I6, .imm I6] [I6] (a0, a1, ()) some = F48 k a0 a1 := by kernel_rfl
def F49.S : FSem := ⟨79, [.imm I6, .imm I6, .imm I6], [I6, I6], fun k x => F49 k x.1 x.2.1 x.2.2.1⟩
def F49.C : Ctx := ⟨tis, etys, [F48.S], [0, 1, 2, 6, 7], [], 14, []⟩
theorem F49.eq (k : Nat) (a0 : Int) (a1 : Int) (a2 : Int) :
  evF F49.C k [] Tryz.f79 [.imm I6, .imm I6, .imm I6] [I6, I6] (a0, a1, a2, ()) some = F49 k a0 a1 a2 := by kernel_rfl
def F50.S : FSem := ⟨57, [.imm I6, .imm U4, .imm U4, .imm I6, .imm I6, .imm I6], [I6], fun k x => F50 k x.1 x.2.1 x.2.2.1 x.2.2.2.1 x.2.2.2.2.1 x.2.2.2.2.2.1⟩
def F50.C : Ctx := ⟨tis, etys, [F39.S, F46.S, F47.S, F44.S, F49.S], [0, 1, 2, 3, 4, 5, 12, 13, 14, 15, 33, 51, 59, 67, 84], [], 85, []⟩
def F50.J3 {R : Type} (k : Nat) : LC R := ⟨7, ⟨[(0, .val I6), (1, .val U4), (2, .val U4), (3, .val I6), (4, .val I6), (5, .val I6)], []⟩, [(.ret, ⟨[(12, .val I6)], []⟩)], fun x e => F50.join3 k x.1.1 x.1.2.1 x.1.2.2.1 x.1.2.2.2.1 x.1.2.2.2.2.1 x.1.2.2.2.2.2.1 (fun u0 => e ((u0, ()), ()))⟩
theorem F50.q3 {R : Type} (k : Nat) (s0 : Int) (s1 : List Int) (s2 : List Int) (s3 : Int) (s4 : Int) (s5 : Int) (e : Outs (F50.J3 (R := R) k).outs -> Option R) :
  q230 F50.C k [] (F50.J3 (R := R) k).inn (F50.J3 (R := R) k).outs (q41 Tryz.f57 3) 0 ((s0, s1, s2, s3, s4, s5, ()), ()) e =
  F50.join3 k s0 s1 s2 s3 s4 s5 (fun u0 => e ((u0, ()), ())) := by kernel_rfl
theorem F50.eq (k : Nat) (a0 : Int) (a1 : List Int) (a2 : List Int) (a3 : Int) (a4 : Int) (a5 : Int) :
  evF F50.C k [F50.J3 k] Tryz.f57 [.imm I6, .imm U4, .imm U4, .imm I6, .imm I6, .imm I6] [I6] (a0, a1, a2, a3, a4, a5, ()) some = F50 k a0 a1 a2 a3 a4 a5 := by kernel_rfl
def F51.S : FSem := ⟨102, [.imm I6], [.bool], fun k x => F51 k x.1⟩
def F51.C : Ctx := ⟨tis, etys, [], [0, 2], [], 9, []⟩
theorem F51.eq (k : Nat) (a0 : Int) :
  evF F51.C k [] Tryz.f102 [.imm I6] [.bool] (a0, ()) some = F51 k a0 := by kernel_rfl
def F52.S : FSem := ⟨103, [.imm I6], [.bool], fun k x => F52 k x.1⟩
def F52.C : Ctx := ⟨tis, etys, [], [0, 2], [], 9, []⟩
theorem F52.eq (k : Nat) (a0 : Int) :
  evF F52.C k [] Tryz.f103 [.imm I6] [.bool] (a0, ()) some = F52 k a0 := by kernel_rfl
def F53.S : FSem := ⟨80, [.imm U6, .imm I6], [I6], fun k x => F53 k x.1 x.2.1⟩
def F53.C : Ctx := ⟨tis, etys, [F51.S, F52.S], [0, 1, 4, 6, 8, 17, 18, 19, 20, 21, 33, 35, 36, 37, 38, 46, 51], [], 53, []⟩
def F53.L1 {R : Type} (k : Nat) : LC R := ⟨2, ⟨[(35, .val U4), (36, .val I6), (37, .val I6)], []⟩, [(.ret, ⟨[(4, .val I6)], []⟩), (.ex 2, ⟨[], []⟩)], fun x e => F53.loop1 k k x.1.1 x.1.2.1 x.1.2.2.1 (fun u0 => e (.inl ((u0, ()), ()))) (fun _ => e (.inr (((), ()))))⟩
theorem F53.r1 {R : Type} (k j : Nat) (s35 : List Int) (s36 : Int) (s37 : Int) (e : Outs (F53.L1 (R := R) k).outs -> Option R) :
  q27 F53.C k [] (F53.L1 (R := R) k).inn (F53.L1 (R := R) k).outs (q12 Tryz.f80 1) 2 ((s35, s36, s37, ()), ()) (fun x => F53.loop1 k j x.1.1 x.1.2.1 x.1.2.2.1 (fun u0 => e (.inl ((u0, ()), ()))) (fun _ => e (.inr (((), ()))))) e =
  F53.loop1 k (j + 1) s35 s36 s37 (fun u0 => e (.inl ((u0, ()), ()))) (fun _ => e (.inr (((), ())))) := by kernel_rfl
def F53.L0 {R : Type} (k : Nat) : LC R := ⟨0, ⟨[(18, .val U6), (19, .val I6), (20, .val I6)], []⟩, [(.ret, ⟨[(4, .val I6)], []⟩), (.ex 0, ⟨[], []⟩)], fun x e => F53.loop0 k k x.1.1 x.1.2.1 x.1.2.2.1 (fun u0 => e (.inl ((u0, ()), ()))) (fun _ => e (.inr (((), ()))))⟩
theorem F53.r0 {R : Type} (k j : Nat) (s18 : List (Int × List Int)) (s19 : Int) (s20 : Int) (e : Outs (F53.L0 (R := R) k).outs -> Option R) :
  q27 F53.C k [F53.L1 k] (F53.L0 (R := R) k).inn (F53.L0 (R := R) k).outs (q12 Tryz.f80 0) 1 ((s18, s19, s20, ()), ()) (fun x => F53.loop0 k j x.1.1 x.1.2.1 x.1.2.2.1 (fun u0 => e (.inl ((u0, ()), ()))) (fun _ => e (.inr (((), ()))))) e =
  F53.loop0 k (j + 1) s18 s19 s20 (fun u0 => e (.inl ((u0, ()), ()))) (fun _ => e (.inr (((), ())))) := by kernel_rfl
theorem F53.eq (k : Nat) (a0 : List (Int × List Int)) (a1 : Int) :
  evF F53.C k [F53.L1 k, F53.L0 k] Tryz.f80 [.imm U6, .imm I6] [I6] (a0, a1, ()) some = F53 k a0 a1 := by kernel_rfl
def F54.S : FSem := ⟨81, [.imm I6], [.bool], fun k x => F54 k x.1⟩
def F54.C : Ctx := ⟨tis, etys, [], [0, 2], [], 9, []⟩
theorem F54.eq (k : Nat) (a0 : Int) :
  evF F54.C k [] Tryz.f81 [.imm I6] [.bool] (a0, ()) some = F54 k a0 := by kernel_rfl
def F55.S : FSem := ⟨82, [.imm I6], [.bool], fun k x => F55 k x.1⟩
def F55.C : Ctx := ⟨tis, etys, [], [0, 2], [], 9, []⟩
theorem F55.eq (k : Nat) (a0 : Int) :
  evF F55.C k [] Tryz.f82 [.imm I6] [.bool] (a0, ()) some = F55 k a0 := by kernel_rfl
def F56.S : FSem := ⟨58, [.imm U5, .imm U6, .imm U6, .imm I6, .imm I6, .imm I6], [I6], fun k x => F56 k x.1 x.2.1 x.2.2.1 x.2.2.2.1 x.2.2.2.2.1 x.2.2.2.2.2.1⟩
def F56.C : Ctx := ⟨tis, etys, [F53.S, F29.S, F54.S, F55.S, F44.S, F49.S], [0, 1, 2, 3, 4, 5, 6, 12, 13, 14, 16, 17, 18, 19, 20, 21, 22, 23, 25, 28, 34, 41, 52, 60, 69, 70, 71, 72, 73, 87, 96, 106, 107, 108, 109, 122], [], 124, []⟩
def F56.L0 {R : Type} (k : Nat) : LC R := ⟨0, ⟨[(3, .val I6), (6, .ptr 0), (17, .val I6), (18, .val I6), (70, .val U6), (71, .val I6), (72, .val I6)], [.box (some U5) [I6, I6, I6]]⟩, [(.ret, ⟨[(12, .val I6)], []⟩), (.ex 0, ⟨[(17, .val I6), (18, .val I6)], []⟩)], fun x e => F56.loop0 k k x.1.1 x.1.2.1 x.1.2.2.1 x.1.2.2.2.1 x.1.2.2.2.2.1 x.1.2.2.2.2.2.1 x.2.1.1 x.2.1.2.1 x.2.1.2.2.1 (fun u0 => e (.inl ((u0, ()), ()))) (fun u0 u1 => e (.inr (((u0, u1, ()), ()))))⟩
theorem F56.r0 {R : Type} (k j : Nat) (s3 : Int) (s17 : Int) (s18 : Int) (s70 : List (Int × List Int)) (s71 : Int) (s72 : Int) (b6_0 : Int) (b6_1 : Int) (b6_2 : Int) (e : Outs (F56.L0 (R := R) k).outs -> Option R) :
  q27 F56.C k [] (F56.L0 (R := R) k).inn (F56.L0 (R := R) k).outs (q12 Tryz.f58 0) 1 ((s3, s17, s18, s70, s71, s72, ()), ((b6_0, b6_1, b6_2, ()), ())) (fun x => F56.loop0 k j x.1.1 x.1.2.1 x.1.2.2.1 x.1.2.2.2.1 x.1.2.2.2.2.1 x.1.2.2.2.2.2.1 x.2.1.1 x.2.1.2.1 x.2.1.2.2.1 (fun u0 => e (.inl ((u0, ()), ()))) (fun u0 u1 => e (.inr (((u0, u1, ()), ()))))) e =
  F56.loop0 k (j + 1) s3 s17 s18 s70 s71 s72 b6_0 b6_1 b6_2 (fun u0 => e (.inl ((u0, ()), ()))) (fun u0 u1 => e (.inr (((u0, u1, ()), ())))) := by kernel_rfl
def F56.L1 {R : Type} (k : Nat) : LC R := ⟨2, ⟨[(17, .val I6), (18, .val I6), (106, .val U6), (107, .val I6), (108, .val I6)], []⟩, [(.ret, ⟨[(12, .val I6)], []⟩), (.ex 2, ⟨[], []⟩)], fun x e => F56.loop1 k k x.1.1 x.1.2.1 x.1.2.2.1 x.1.2.2.2.1 x.1.2.2.2.2.1 (fun u0 => e (.inl ((u0, ()), ()))) (fun _ => e (.inr (((), ()))))⟩
theorem F56.r1 {R : Type} (k j : Nat) (s17 : Int) (s18 : Int) (s106 : List (Int × List Int)) (s107 : Int) (s108 : Int) (e : Outs (F56.L1 (R := R) k).outs -> Option R) :
  q27 F56.C k [] (F56.L1 (R := R) k).inn (F56.L1 (R := R) k).outs (q12 Tryz.f58 1) 2 ((s17, s18, s106, s107, s108, ()), ()) (fun x => F56.loop1 k j x.1.1 x.1.2.1 x.1.2.2.1 x.1.2.2.2.1 x.1.2.2.2.2.1 (fun u0 => e (.inl ((u0, ()), ()))) (fun _ => e (.inr (((), ()))))) e =
  F56.loop1 k (j + 1) s17 s18 s106 s107 s108 (fun u0 => e (.inl ((u0, ()), ()))) (fun _ => e (.inr (((), ())))) := by kernel_rfl
theorem F56.eq (k : Nat) (a0 : Int × Int × Int) (a1 : List (Int × List Int)) (a2 : List (Int × List Int)) (a3 : Int) (a4 : Int) (a5 : Int) :
  evF F56.C k [F56.L0 k, F56.L1 k] Tryz.f58 [.imm U5, .imm U6, .imm U6, .imm I6, .imm I6, .imm I6] [I6] (a0, a1, a2, a3, a4, a5, ()) some = F56 k a0 a1 a2 a3 a4 a5 := by kernel_rfl
def F57.S : FSem := ⟨83, [.imm U5], [I6, .bool], fun k x => F57 k x.1⟩
def F57.C : Ctx := ⟨tis, etys, [F29.S], [0, 1, 2, 3, 4, 5, 18, 28], [], 35, []⟩
theorem F57.eq (k : Nat) (a0 : Int × Int × Int) :
  evF F57.C k [] Tryz.f83 [.imm U5] [I6, .bool] (a0, ()) some = F57 k a0 := by kernel_rfl
def F58.S : FSem := ⟨59, [.imm U5], [I6], fun k x => F58 k x.1⟩
def F58.C : Ctx := ⟨tis, etys, [F57.S], [0, 1, 2, 4, 11], [], 12, []⟩
theorem F58.eq (k : Nat) (a0 : Int × Int × Int) :
  evF F58.C k [] Tryz.f59 [.imm U5] [I6] (a0, ()) some = F58 k a0 := by kernel_rfl
def F59.S : FSem := ⟨84, [.imm I6, .imm I6, .imm I6], [.bool], fun k x => F59 k x.1 x.2.1 x.2.2.1⟩
def F59.C : Ctx := ⟨tis, etys, [], [0, 1, 2, 6], [], 15, []⟩
theorem F59.eq (k : Nat) (a0 : Int) (a1 : Int) (a2 : Int) :
  evF F59.C k [] Tryz.f84 [.imm I6, .imm I6, .imm I6] [.bool] (a0, a1, a2, ()) some = F59 k a0 a1 a2 := by kernel_rfl
def F60.S : FSem := ⟨85, [.imm I6], [I6], fun k x => F60 k x.1⟩
def F60.C : Ctx := ⟨tis, etys, [], [0, 2, 3, 4, 8], [], 11, []⟩
theorem F60.eq (k : Nat) (a0 : Int) :
  evF F60.C k [] Tryz.f85 [.imm I6] [I6] (a0, ()) some = F60 k a0 := by kernel_rfl
def F61.S : FSem := ⟨86, [.imm U3], [.bool], fun k x => F61 k x.1⟩
def F61.C : Ctx := ⟨tis, etys, [F59.S], [0, 1, 2, 4, 5, 10], [], 18, []⟩
theorem F61.eq (k : Nat) (a0 : Int × Int) :
  evF F61.C k [] Tryz.f86 [.imm U3] [.bool] (a0, ()) some = F61 k a0 := by kernel_rfl
def F62.S : FSem := ⟨60, [.imm (.sl U3), .imm .bool], [I6], fun k x => F62 k x.1 x.2.1⟩
def F62.C : Ctx := ⟨tis, etys, [F59.S, F60.S, F61.S], [0, 1, 4, 5, 7, 11, 12, 13, 14, 15, 37, 40, 49], [], 50, []⟩
def F62.L0 {R : Type} (k : Nat) : LC R := ⟨0, ⟨[(1, .val .bool), (5, .val I6), (12, .val (.sl U3)), (13, .val I6), (14, .val I6)], []⟩, [(.ret, ⟨[(4, .val I6)], []⟩), (.ex 0, ⟨[(5, .val I6)], []⟩)], fun x e => F62.loop0 k k x.1.1 x.1.2.1 x.1.2.2.1 x.1.2.2.2.1 x.1.2.2.2.2.1 (fun u0 => e (.inl ((u0, ()), ()))) (fun u0 => e (.inr (((u0, ()), ()))))⟩
theorem F62.r0 {R : Type} (k j : Nat) (s1 : Bool) (s5 : Int) (s12 : List (Int × Int)) (s13 : Int) (s14 : Int) (e : Outs (F62.L0 (R := R) k).outs -> Option R) :
  q27 F62.C k [] (F62.L0 (R := R) k).inn (F62.L0 (R := R) k).outs (q12 Tryz.f60 0) 1 ((s1, s5, s12, s13, s14, ()), ()) (fun x => F62.loop0 k j x.1.1 x.1.2.1 x.1.2.2.1 x.1.2.2.2.1 x.1.2.2.2.2.1 (fun u0 => e (.inl ((u0, ()), ()))) (fun u0 => e (.inr (((u0, ()), ()))))) e =
  F62.loop0 k (j + 1) s1 s5 s12 s13 s14 (fun u0 => e (.inl ((u0, ()), ()))) (fun u0 => e (.inr (((u0, ()), ())))) := by kernel_rfl
theorem F62.eq (k : Nat) (a0 : List (Int × Int)) (a1 : Bool) :
  evF F62.C k [F62.L0 k] Tryz.f60 [.imm (.sl U3), .imm .bool] [I6] (a0, a1, ()) some = F62 k a0 a1 := by kernel_rfl
def F63.S : FSem := ⟨87, [.imm I6], [I6], fun k x => F63 k x.1⟩
def F63.C : Ctx := ⟨tis, etys, [], [0, 2], [], 7, []⟩
theorem F63.eq (k : Nat) (a0 : Int) :
  evF F63.C k [] Tryz.f87 [.imm I6] [I6] (a0, ()) some = F63 k a0 := by kernel_rfl
def F64.S : FSem := ⟨104, [.imm I6, .imm I6], [I6], fun k x => F64 k x.1 x.2.1⟩
def F64.C : Ctx := ⟨tis, etys, [F63.S], [0, 1, 4, 14], [], 18, []⟩
theorem F64.eq (k : Nat) (a0 : Int) (a1 : Int) :
  evF F64.C k [] Tryz.f104 [.imm I6, .imm I6] [I6] (a0, a1, ()) some = F64 k a0 a1 := by kernel_rfl
def F65.S : FSem := ⟨88, [.imm I6, .imm U3, .imm U3], [U3], fun k x => F65 k x.1 x.2.1 x.2.2.1⟩
def F65.C : Ctx := ⟨tis, etys, [F64.S, F63.S], [0, 1, 2, 4, 5, 6, 7, 8, 9, 10, 11, 12, 13, 26, 39, 72, 85, 98], [], 123, [25, 38, 71, 84, 97, 111, 122]⟩
theorem F65.eq (k : Nat) (a0 : Int) (a1 : Int × Int) (a2 : Int × Int) :
  evF F65.C k [] Tryz.f88 [.imm I6, .imm U3, .imm U3] [U3] (a0, a1, a2, ()) some = F65 k a0 a1 a2 := by kernel_rfl
def F66.S : FSem := ⟨89, [.imm I6], [.bool], fun k x => F66 k x.1⟩
def F66.C : Ctx := ⟨tis, etys, [F59.S], [0, 2], [], 5, []⟩
theorem F66.eq (k : Nat) (a0 : Int) :
  evF F66.C k [] Tryz.f89 [.imm I6] [.bool] (a0, ()) some = F66 k a0 := by kernel_rfl
def F67.S : FSem := ⟨61, [.imm (.sl U3), .imm I6, .imm I6], [I6, I6, I6], fun k x => F67 k x.1 x.2.1 x.2.2.1⟩
def F67.C : Ctx := ⟨tis, etys, [F62.S, F59.S, F60.S, F66.S, F49.S, F63.S, F65.S], [0, 1, 2, 6, 7, 8, 9, 10, 12, 13, 14, 15, 19, 28, 29, 30, 31, 32, 48, 58, 62, 66, 73, 91, 114], [], 128, []⟩
def F67.L0 {R : Type} (k : Nat) : LC R := ⟨0, ⟨[(1, .val I6), (2, .val I6), (10, .arr 0), (29, .val (.sl U3)), (30, .val I6), (31, .val I6)], [.arr U3]⟩, [(.ret, ⟨[(6, .val I6), (7, .val I6), (8, .val I6)], []⟩), (.ex 0, ⟨[(10, .arr 0)], [.arr U3]⟩)], fun x e => F67.loop0 k k x.1.1 x.1.2.1 x.1.2.2.1 x.1.2.2.2.1 x.1.2.2.2.2.1 x.2.1 (fun u0 u1 u2 => e (.inl ((u0, u1, u2, ()), ()))) (fun u0 => e (.inr (((), (u0, ())))))⟩
theorem F67.r0 {R : Type} (k j : Nat) (s1 : Int) (s2 : Int) (s29 : List (Int × Int)) (s30 : Int) (s31 : Int) (l10 : List (Int × Int)) (e : Outs (F67.L0 (R := R) k).outs -> Option R) :
  q27 F67.C k [] (F67.L0 (R := R) k).inn (F67.L0 (R := R) k).outs (q12 Tryz.f61 0) 1 ((s1, s2, s29, s30, s31, ()), (l10, ())) (fun x => F67.loop0 k j x.1.1 x.1.2.1 x.1.2.2.1 x.1.2.2.2.1 x.1.2.2.2.2.1 x.2.1 (fun u0 u1 u2 => e (.inl ((u0, u1, u2, ()), ()))) (fun u0 => e (.inr (((), (u0, ())))))) e =
  F67.loop0 k (j + 1) s1 s2 s29 s30 s31 l10 (fun u0 u1 u2 => e (.inl ((u0, u1, u2, ()), ()))) (fun u0 => e (.inr (((), (u0, ()))))) := by kernel_rfl
theorem F67.eq (k : Nat) (a0 : List (Int × Int)) (a1 : Int) (a2 : Int) :
  evF F67.C k [F67.L0 k] Tryz.f61 [.imm (.sl U3), .imm I6, .imm I6] [I6, I6, I6] (a0, a1, a2, ()) some = F67 k a0 a1 a2 := by kernel_rfl
def F68.S : FSem := ⟨33, [.imm U0, .imm U5, .imm U5], [I6], fun k x => F68 k x.1 x.2.1 x.2.2.1⟩
def F68.C : Ctx := ⟨tis, etys, [F45.S, F50.S, F56.S, F32.S, F58.S, F10.S, F62.S, F67.S], [0, 1, 2, 3, 4, 5, 6, 7, 8, 11, 13, 14, 29, 44, 58, 63, 64, 74, 79, 81, 95, 112], [], 113, []⟩
theorem F68.eq (k : Nat) (a0 : Int × Int × Int × Bool × (Int × Int) × Int × Int × (List Int) × (List Int) × (List Int) × Int × Int × (List (Int × List Int)) × (List (Int × List Int)) × Int × (List (Int × Int)) × Int) (a1 : Int × Int × Int) (a2 : Int × Int × Int) :
  evF F68.C k [] Tryz.f33 [.imm U0, .imm U5, .imm U5] [I6] (a0, a1, a2, ()) some = F68 k a0 a1 a2 := by kernel_rfl
def F69.S : FSem := ⟨11, [.imm U0, .imm U5, .imm U5], [U5, I6], fun k x => F69 k x.1 x.2.1 x.2.2.1⟩
def F69.C : Ctx := ⟨tis, etys, [F35.S, F36.S, F10.S, F33.S, F37.S, F68.S], [0, 1, 2, 3, 4, 5, 6, 7, 8, 11, 24, 36, 43, 47, 48, 59, 69], [], 91, [12, 25, 37, 44, 58, 68, 83, 90]⟩
theorem F69.eq (k : Nat) (a0 : Int × Int × Int × Bool × (Int × Int) × Int × Int × (List Int) × (List Int) × (List Int) × Int × Int × (List (Int × List Int)) × (List (Int × List Int)) × Int × (List (Int × Int)) × Int) (a1 : Int × Int × Int) (a2 : Int × Int × Int) :
  evF F69.C k [] Tryz.f11 [.imm U0, .imm U5, .imm U5] [U5, I6] (a0, a1, a2, ()) some = F69 k a0 a1 a2 := by kernel_rfl
def F70.S : FSem := ⟨8, [.imm U1], [(.ow U5), I6, I6], fun k x => F70 k x.1⟩
def F70.C : Ctx := ⟨tis, etys, [F16.S, F31.S, F11.S, F69.S], [0, 1, 2, 3, 4, 5, 6, 7, 8, 9, 11, 12, 13, 14, 15, 22, 33, 34, 35, 36, 42, 55, 56, 57, 58, 98], [], 103, []⟩
def F70.L0 {R : Type} (k : Nat) : LC R := ⟨0, ⟨[(7, .arr 0), (33, .val U7), (34, .val I6), (35, .val I6)], [.arr U5]⟩, [(.ret, ⟨[(2, .arr 0), (3, .val I6), (4, .val I6)], [.arr U5]⟩), (.ex 0, ⟨[(7, .arr 0)], [.arr U5]⟩)], fun x e => F70.loop0 k k x.1.1 x.1.2.1 x.1.2.2.1 x.2.1 (fun u0 u1 u2 => e (.inl ((u0, u1, ()), (u2, ())))) (fun u0 => e (.inr (((), (u0, ())))))⟩
theorem F70.r0 {R : Type} (k j : Nat) (s33 : List (Int × Int × Int × List Int)) (s34 : Int) (s35 : Int) (l7 : List (Int × Int × Int)) (e : Outs (F70.L0 (R := R) k).outs -> Option R) :
  q27 F70.C k [] (F70.L0 (R := R) k).inn (F70.L0 (R := R) k).outs (q12 Tryz.f8 0) 1 ((s33, s34, s35, ()), (l7, ())) (fun x => F70.loop0 k j x.1.1 x.1.2.1 x.1.2.2.1 x.2.1 (fun u0 u1 u2 => e (.inl ((u0, u1, ()), (u2, ())))) (fun u0 => e (.inr (((), (u0, ())))))) e =
  F70.loop0 k (j + 1) s33 s34 s35 l7 (fun u0 u1 u2 => e (.inl ((u0, u1, ()), (u2, ())))) (fun u0 => e (.inr (((), (u0, ()))))) := by kernel_rfl
def F70.L1 {R : Type} (k : Nat) : LC R := ⟨2, ⟨[(1, .ptr 0), (7, .arr 1), (55, .arr 2), (56, .val I6), (57, .val I6)], [.box (some U1) [U7, (.sl U0), U4, I6], .arr U5, .arr I6]⟩, [(.ret, ⟨[(2, .arr 0), (3, .val I6), (4, .val I6)], [.arr U5]⟩), (.ex 2, ⟨[(7, .arr 0)], [.arr U5]⟩)], fun x e => F70.loop1 k k x.1.1 x.1.2.1 x.2.1.1 x.2.1.2.1 x.2.1.2.2.1 x.2.1.2.2.2.1 x.2.2.1 x.2.2.2.1 (fun u0 u1 u2 => e (.inl ((u0, u1, ()), (u2, ())))) (fun u0 => e (.inr (((), (u0, ())))))⟩
theorem F70.r1 {R : Type} (k j : Nat) (s56 : Int) (s57 : Int) (b1_0 : List (Int × Int × Int × List Int)) (b1_1 : List (Int × Int × Int × Bool × (Int × Int) × Int × Int × (List Int) × (List Int) × (List Int) × Int × Int × (List (Int × List Int)) × (List (Int × List Int)) × Int × (List (Int × Int)) × Int)) (b1_2 : List Int) (b1_3 : Int) (l7 : List (Int × Int × Int)) (l55 : List Int) (e : Outs (F70.L1 (R := R) k).outs -> Option R) :
  q27 F70.C k [] (F70.L1 (R := R) k).inn (F70.L1 (R := R) k).outs (q12 Tryz.f8 1) 2 ((s56, s57, ()), ((b1_0, b1_1, b1_2, b1_3, ()), l7, l55, ())) (fun x => F70.loop1 k j x.1.1 x.1.2.1 x.2.1.1 x.2.1.2.1 x.2.1.2.2.1 x.2.1.2.2.2.1 x.2.2.1 x.2.2.2.1 (fun u0 u1 u2 => e (.inl ((u0, u1, ()), (u2, ())))) (fun u0 => e (.inr (((), (u0, ())))))) e =
  F70.loop1 k (j + 1) s56 s57 b1_0 b1_1 b1_2 b1_3 l7 l55 (fun u0 u1 u2 => e (.inl ((u0, u1, ()), (u2, ())))) (fun u0 => e (.inr (((), (u0, ()))))) := by kernel_rfl
theorem F70.eq (k : Nat) (a0 : (List (Int × Int × Int × List Int)) × (List (Int × Int × Int × Bool × (Int × Int) × Int × Int × (List Int) × (List Int) × (List Int) × Int × Int × (List (Int × List Int)) × (List (Int × List Int)) × Int × (List (Int × Int)) × Int)) × (List Int) × Int) :
  evF F70.C k [F70.L0 k, F70.L1 k] Tryz.f8 [.imm U1] [(.ow U5), I6, I6] (a0, ()) some = F70 k a0 := by kernel_rfl
def F71.S : FSem := ⟨90, [.imm I6, .imm I6, .imm I6], [.bool], fun k x => F71 k x.1 x.2.1 x.2.2.1⟩
def F71.C : Ctx := ⟨tis, etys, [], [0, 1, 2, 6], [], 35, []⟩
theorem F71.eq (k : Nat) (a0 : Int) (a1 : Int) (a2 : Int) :
  evF F71.C k [] Tryz.f90 [.imm I6, .imm I6, .imm I6] [.bool] (a0, a1, a2, ()) some = F71 k a0 a1 a2 := by kernel_rfl
def F72.S : FSem := ⟨65, [.imm U2], [.bool], fun k x => F72 k x.1⟩
def F72.C : Ctx := ⟨tis, etys, [F71.S], [0, 1, 2, 3, 22, 27, 45], [], 46, []⟩
def F72.L0 {R : Type} (k : Nat) : LC R := ⟨0, ⟨[(1, .ptr 0), (3, .val I6)], [.box (some U2) [I6, I6, I6, U4]]⟩, [(.ret, ⟨[(2, .val .bool)], []⟩), (.ex 0, ⟨[], []⟩)], fun x e => F72.loop0 k k x.1.1 x.2.1.1 x.2.1.2.1 x.2.1.2.2.1 x.2.1.2.2.2.1 (fun u0 => e (.inl ((u0, ()), ()))) (fun _ => e (.inr (((), ()))))⟩
theorem F72.r0 {R : Type} (k j : Nat) (s3 : Int) (b1_0 : Int) (b1_1 : Int) (b1_2 : Int) (b1_3 : List Int) (e : Outs (F72.L0 (R := R) k).outs -> Option R) :
  q27 F72.C k [] (F72.L0 (R := R) k).inn (F72.L0 (R := R) k).outs (q12 Tryz.f65 0) 1 ((s3, ()), ((b1_0, b1_1, b1_2, b1_3, ()), ())) (fun x => F72.loop0 k j x.1.1 x.2.1.1 x.2.1.2.1 x.2.1.2.2.1 x.2.1.2.2.2.1 (fun u0 => e (.inl ((u0, ()), ()))) (fun _ => e (.inr (((), ()))))) e =
  F72.loop0 k (j + 1) s3 b1_0 b1_1 b1_2 b1_3 (fun u0 => e (.inl ((u0, ()), ()))) (fun _ => e (.inr (((), ())))) := by kernel_rfl
theorem F72.eq (k : Nat) (a0 : Int × Int × Int × List Int) :
  evF F72.C k [F72.L0 k] Tryz.f65 [.imm U2] [.bool] (a0, ()) some = F72 k a0 := by kernel_rfl
def F73.S : FSem := ⟨9, [.imm U2], [U5], fun k x => F73 k x.1⟩
def F73.C : Ctx := ⟨tis, etys, [], [0, 1, 2], [], 10, [9]⟩
theorem F73.eq (k : Nat) (a0 : Int × Int × Int × List Int) :
  evF F73.C k [] Tryz.f9 [.imm U2] [U5] (a0, ()) some = F73 k a0 := by kernel_rfl
def F74.S : FSem := ⟨93, [.imm I6], [.bool], fun k x => F74 k x.1⟩
def F74.C : Ctx := ⟨tis, etys, [], [0, 2], [], 13, []⟩
theorem F74.eq (k : Nat) (a0 : Int) :
  evF F74.C k [] Tryz.f93 [.imm I6] [.bool] (a0, ()) some = F74 k a0 := by kernel_rfl
def F75.S : FSem := ⟨91, [.imm U0], [.bool], fun k x => F75 k x.1⟩
def F75.C : Ctx := ⟨tis, etys, [F74.S], [0, 1, 2, 3, 4, 5, 23, 33, 44, 63, 78, 93, 103, 115, 124, 134], [], 148, []⟩
def F75.J10 {R : Type} (k : Nat) : LC R := ⟨21, ⟨[(1, .ptr 0), (4, .val .bool), (5, .val .bool), (93, .val .bool)], [.box (some U0) [I6, I6, I6, .bool, I6, I6, I6, I6, U4, U4, U4, I6, I6, U6, U6, I6, (.sl U3), I6]]⟩, [(.normal, ⟨[], []⟩), (.ret, ⟨[(2, .val .bool)], []⟩)], fun x e => F75.join10 k x.1.1 x.1.2.1 x.1.2.2.1 x.2.1.1 x.2.1.2.1 x.2.1.2.2.1 x.2.1.2.2.2.1 x.2.1.2.2.2.2.1 x.2.1.2.2.2.2.2.1 x.2.1.2.2.2.2.2.2.1 x.2.1.2.2.2.2.2.2.2.1 x.2.1.2.2.2.2.2.2.2.2.1 x.2.1.2.2.2.2.2.2.2.2.2.1 x.2.1.2.2.2.2.2.2.2.2.2.2.1 x.2.1.2.2.2.2.2.2.2.2.2.2.2.1 x.2.1.2.2.2.2.2.2.2.2.2.2.2.2.1 x.2.1.2.2.2.2.2.2.2.2.2.2.2.2.2.1 x.2.1.2.2.2.2.2.2.2.2.2.2.2.2.2.2.1 x.2.1.2.2.2.2.2.2.2.2.2.2.2.2.2.2.2.1 x.2.1.2.2.2.2.2.2.2.2.2.2.2.2.2.2.2.2.1 x.2.1.2.2.2.2.2.2.2.2.2.2.2.2.2.2.2.2.2.1 (fun _ => e (.inl ((), ()))) (fun u0 => e (.inr (((u0, ()), ()))))⟩
theorem F75.q10 {R : Type} (k : Nat) (s4 : Bool) (s5 : Bool) (s93 : Bool) (b1_0 : Int) (b1_1 : Int) (b1_2 : Int) (b1_3 : Bool) (b1_4 : Int) (b1_5 : Int) (b1_6 : Int) (b1_7 : Int) (b1_8 : List Int) (b1_9 : List Int) (b1_10 : List Int) (b1_11 : Int) (b1_12 : Int) (b1_13 : List (Int × List Int)) (b1_14 : List (Int × List Int)) (b1_15 : Int) (b1_16 : List (Int × Int)) (b1_17 : Int) (e : Outs (F75.J10 (R := R) k).outs -> Option R) :
  q230 F75.C k [] (F75.J10 (R := R) k).inn (F75.J10 (R := R) k).outs (q41 Tryz.f91 10) 0 ((s4, s5, s93, ()), ((b1_0, b1_1, b1_2, b1_3, b1_4, b1_5, b1_6, b1_7, b1_8, b1_9, b1_10, b1_11, b1_12, b1_13, b1_14, b1_15, b1_16, b1_17, ()), ())) e =
  F75.join10 k s4 s5 s93 b1_0 b1_1 b1_2 b1_3 b1_4 b1_5 b1_6 b1_7 b1_8 b1_9 b1_10 b1_11 b1_12 b1_13 b1_14 b1_15 b1_16 b1_17 (fun _ => e (.inl ((), ()))) (fun u0 => e (.inr (((u0, ()), ())))) := by kernel_rfl
def F75.J9 {R : Type} (k : Nat) : LC R := ⟨19, ⟨[(1, .ptr 0), (4, .val .bool), (5, .val .bool), (78, .val .bool)], [.box (some U0) [I6, I6, I6, .bool, I6, I6, I6, I6, U4, U4, U4, I6, I6, U6, U6, I6, (.sl U3), I6]]⟩, [(.normal, ⟨[], []⟩), (.ret, ⟨[(2, .val .bool)], []⟩)], fun x e => F75.join9 k x.1.1 x.1.2.1 x.1.2.2.1 x.2.1.1 x.2.1.2.1 x.2.1.2.2.1 x.2.1.2.2.2.1 x.2.1.2.2.2.2.1 x.2.1.2.2.2.2.2.1 x.2.1.2.2.2.2.2.2.1 x.2.1.2.2.2.2.2.2.2.1 x.2.1.2.2.2.2.2.2.2.2.1 x.2.1.2.2.2.2.2.2.2.2.2.1 x.2.1.2.2.2.2.2.2.2.2.2.2.1 x.2.1.2.2.2.2.2.2.2.2.2.2.2.1 x.2.1.2.2.2.2.2.2.2.2.2.2.2.2.1 x.2.1.2.2.2.2.2.2.2.2.2.2.2.2.2.1 x.2.1.2.2.2.2.2.2.2.2.2.2.2.2.2.2.1 x.2.1.2.2.2.2.2.2.2.2.2.2.2.2.2.2.2.1 x.2.1.2.2.2.2.2.2.2.2.2.2.2.2.2.2.2.2.1 x.2.1.2.2.2.2.2.2.2.2.2.2.2.2.2.2.2.2.2.1 (fun _ => e (.inl ((), ()))) (fun u0 => e (.inr (((u0, ()), ()))))⟩
theorem F75.q9 {R : Type} (k : Nat) (s4 : Bool) (s5 : Bool) (s78 : Bool) (b1_0 : Int) (b1_1 : Int) (b1_2 : Int) (b1_3 : Bool) (b1_4 : Int) (b1_5 : Int) (b1_6 : Int) (b1_7 : Int) (b1_8 : List Int) (b1_9 : List Int) (b1_10 : List Int) (b1_11 : Int) (b1_12 : Int) (b1_13 : List (Int × List Int)) (b1_14 : List (Int × List Int)) (b1_15 : Int) (b1_16 : List (Int × Int)) (b1_17 : Int) (e : Outs (F75.J9 (R := R) k).outs -> Option R) :
  q230 F75.C k [F75.J10 k] (F75.J9 (R := R) k).inn (F75.J9 (R := R) k).outs (q41 Tryz.f91 9) 0 ((s4, s5, s78, ()), ((b1_0, b1_1, b1_2, b1_3, b1_4, b1_5, b1_6, b1_7, b1_8, b1_9, b1_10, b1_11, b1_12, b1_13, b1_14, b1_15, b1_16, b1_17, ()), ())) e =
  F75.join9 k s4 s5 s78 b1_0 b1_1 b1_2 b1_3 b1_4 b1_5 b1_6 b1_7 b1_8 b1_9 b1_10 b1_11 b1_12 b1_13 b1_14 b1_15 b1_16 b1_17 (fun _ => e (.inl ((), ()))) (fun u0 => e (.inr (((u0, ()), ())))) := by kernel_rfl
def F75.J8 {R : Type} (k : Nat) : LC R := ⟨17, ⟨[(1, .ptr 0), (4, .val .bool), (5, .val .bool), (63, .val .bool)], [.box (some U0) [I6, I6, I6, .bool, I6, I6, I6, I6, U4, U4, U4, I6, I6, U6, U6, I6, (.sl U3), I6]]⟩, [(.normal, ⟨[], []⟩), (.ret, ⟨[(2, .val .bool)], []⟩)], fun x e => F75.join8 k x.1.1 x.1.2.1 x.1.2.2.1 x.2.1.1 x.2.1.2.1 x.2.1.2.2.1 x.2.1.2.2.2.1 x.2.1.2.2.2.2.1 x.2.1.2.2.2.2.2.1 x.2.1.2.2.2.2.2.2.1 x.2.1.2.2.2.2.2.2.2.1 x.2.1.2.2.2.2.2.2.2.2.1 x.2.1.2.2.2.2.2.2.2.2.2.1 x.2.1.2.2.2.2.2.2.2.2.2.2.1 x.2.1.2.2.2.2.2.2.2.2.2.2.2.1 x.2.1.2.2.2.2.2.2.2.2.2.2.2.2.1 x.2.1.2.2.2.2.2.2.2.2.2.2.2.2.2.1 x.2.1.2.2.2.2.2.2.2.2.2.2.2.2.2.2.1 x.2.1.2.2.2.2.2.2.2.2.2.2.2.2.2.2.2.1 x.2.1.2.2.2.2.2.2.2.2.2.2.2.2.2.2.2.2.1 x.2.1.2.2.2.2.2.2.2.2.2.2.2.2.2.2.2.2.2.1 (fun _ => e (.inl ((), ()))) (fun u0 => e (.inr (((u0, ()), ()))))⟩
theorem F75.q8 {R : Type} (k : Nat) (s4 : Bool) (s5 : Bool) (s63 : Bool) (b1_0 : Int) (b1_1 : Int) (b1_2 : Int) (b1_3 : Bool) (b1_4 : Int) (b1_5 : Int) (b1_6 : Int) (b1_7 : Int) (b1_8 : List Int) (b1_9 : List Int) (b1_10 : List Int) (b1_11 : Int) (b1_12 : Int) (b1_13 : List (Int × List Int)) (b1_14 : List (Int × List Int)) (b1_15 : Int) (b1_16 : List (Int × Int)) (b1_17 : Int) (e : Outs (F75.J8 (R := R) k).outs -> Option R) :
  q230 F75.C k [F75.J10 k, F75.J9 k] (F75.J8 (R := R) k).inn (F75.J8 (R := R) k).outs (q41 Tryz.f91 8) 0 ((s4, s5, s63, ()), ((b1_0, b1_1, b1_2, b1_3, b1_4, b1_5, b1_6, b1_7, b1_8, b1_9, b1_10, b1_11, b1_12, b1_13, b1_14, b1_15, b1_16, b1_17, ()), ())) e =
  F75.join8 k s4 s5 s63 b1_0 b1_1 b1_2 b1_3 b1_4 b1_5 b1_6 b1_7 b1_8 b1_9 b1_10 b1_11 b1_12 b1_13 b1_14 b1_15 b1_16 b1_17 (fun _ => e (.inl ((), ()))) (fun u0 => e (.inr (((u0, ()), ())))) := by kernel_rfl
def F75.J7 {R : Type} (k : Nat) : LC R := ⟨15, ⟨[(1, .ptr 0), (4, .val .bool), (5, .val .bool), (44, .val .bool)], [.box (some U0) [I6, I6, I6, .bool, I6, I6, I6, I6, U4, U4, U4, I6, I6, U6, U6, I6, (.sl U3), I6]]⟩, [(.normal, ⟨[], []⟩), (.ret, ⟨[(2, .val .bool)], []⟩)], fun x e => F75.join7 k x.1.1 x.1.2.1 x.1.2.2.1 x.2.1.1 x.2.1.2.1 x.2.1.2.2.1 x.2.1.2.2.2.1 x.2.1.2.2.2.2.1 x.2.1.2.2.2.2.2.1 x.2.1.2.2.2.2.2.2.1 x.2.1.2.2.2.2.2.2.2.1 x.2.1.2.2.2.2.2.2.2.2.1 x.2.1.2.2.2.2.2.2.2.2.2.1 x.2.1.2.2.2.2.2.2.2.2.2.2.1 x.2.1.2.2.2.2.2.2.2.2.2.2.2.1 x.2.1.2.2.2.2.2.2.2.2.2.2.2.2.1 x.2.1.2.2.2.2.2.2.2.2.2.2.2.2.2.1 x.2.1.2.2.2.2.2.2.2.2.2.2.2.2.2.2.1 x.2.1.2.2.2.2.2.2.2.2.2.2.2.2.2.2.2.1 x.2.1.2.2.2.2.2.2.2.2.2.2.2.2.2.2.2.2.1 x.2.1.2.2.2.2.2.2.2.2.2.2.2.2.2.2.2.2.2.1 (fun _ => e (.inl ((), ()))) (fun u0 => e (.inr (((u0, ()), ()))))⟩
theorem F75.q7 {R : Type} (k : Nat) (s4 : Bool) (s5 : Bool) (s44 : Bool) (b1_0 : Int) (b1_1 : Int) (b1_2 : Int) (b1_3 : Bool) (b1_4 : Int) (b1_5 : Int) (b1_6 : Int) (b1_7 : Int) (b1_8 : List Int) (b1_9 : List Int) (b1_10 : List Int) (b1_11 : Int) (b1_12 : Int) (b1_13 : List (Int × List Int)) (b1_14 : List (Int × List Int)) (b1_15 : Int) (b1_16 : List (Int × Int)) (b1_17 : Int) (e : Outs (F75.J7 (R := R) k).outs -> Option R) :
  q230 F75.C k [F75.J10 k, F75.J9 k, F75.J8 k] (F75.J7 (R := R) k).inn (F75.J7 (R := R) k).outs (q41 Tryz.f91 7) 0 ((s4, s5, s44, ()), ((b1_0, b1_1, b1_2, b1_3, b1_4, b1_5, b1_6, b1_7, b1_8, b1_9, b1_10, b1_11, b1_12, b1_13, b1_14, b1_15, b1_16, b1_17, ()), ())) e =
  F75.join7 k s4 s5 s44 b1_0 b1_1 b1_2 b1_3 b1_4 b1_5 b1_6 b1_7 b1_8 b1_9 b1_10 b1_11 b1_12 b1_13 b1_14 b1_15 b1_16 b1_17 (fun _ => e (.inl ((), ()))) (fun u0 => e (.inr (((u0, ()), ())))) := by kernel_rfl
def F75.J6 {R : Type} (k : Nat) : LC R := ⟨13, ⟨[(1, .ptr 0), (3, .val .bool), (4, .val .bool), (5, .val .bool), (33, .val .bool)], [.box (some U0) [I6, I6, I6, .bool, I6, I6, I6, I6, U4, U4, U4, I6, I6, U6, U6, I6, (.sl U3), I6]]⟩, [(.normal, ⟨[], []⟩), (.ret, ⟨[(2, .val .bool)], []⟩)], fun x e => F75.join6 k x.1.1 x.1.2.1 x.1.2.2.1 x.1.2.2.2.1 x.2.1.1 x.2.1.2.1 x.2.1.2.2.1 x.2.1.2.2.2.1 x.2.1.2.2.2.2.1 x.2.1.2.2.2.2.2.1 x.2.1.2.2.2.2.2.2.1 x.2.1.2.2.2.2.2.2.2.1 x.2.1.2.2.2.2.2.2.2.2.1 x.2.1.2.2.2.2.2.2.2.2.2.1 x.2.1.2.2.2.2.2.2.2.2.2.2.1 x.2.1.2.2.2.2.2.2.2.2.2.2.2.1 x.2.1.2.2.2.2.2.2.2.2.2.2.2.2.1 x.2.1.2.2.2.2.2.2.2.2.2.2.2.2.2.1 x.2.1.2.2.2.2.2.2.2.2.2.2.2.2.2.2.1 x.2.1.2.2.2.2.2.2.2.2.2.2.2.2.2.2.2.1 x.2.1.2.2.2.2.2.2.2.2.2.2.2.2.2.2.2.2.1 x.2.1.2.2.2.2.2.2.2.2.2.2.2.2.2.2.2.2.2.1 (fun _ => e (.inl ((), ()))) (fun u0 => e (.inr (((u0, ()), ()))))⟩
theorem F75.q6 {R : Type} (k : Nat) (s3 : Bool) (s4 : Bool) (s5 : Bool) (s33 : Bool) (b1_0 : Int) (b1_1 : Int) (b1_2 : Int) (b1_3 : Bool) (b1_4 : Int) (b1_5 : Int) (b1_6 : Int) (b1_7 : Int) (b1_8 : List Int) (b1_9 : List Int) (b1_10 : List Int) (b1_11 : Int) (b1_12 : Int) (b1_13 : List (Int × List Int)) (b1_14 : List (Int × List Int)) (b1_15 : Int) (b1_16 : List (Int × Int)) (b1_17 : Int) (e : Outs (F75.J6 (R := R) k).outs -> Option R) :
  q230 F75.C k [F75.J10 k, F75.J9 k, F75.J8 k, F75.J7 k] (F75.J6 (R := R) k).inn (F75.J6 (R := R) k).outs (q41 Tryz.f91 6) 0 ((s3, s4, s5, s33, ()), ((b1_0, b1_1, b1_2, b1_3, b1_4, b1_5, b1_6, b1_7, b1_8, b1_9, b1_10, b1_11, b1_12, b1_13, b1_14, b1_15, b1_16, b1_17, ()), ())) e =
  F75.join6 k s3 s4 s5 s33 b1_0 b1_1 b1_2 b1_3 b1_4 b1_5 b1_6 b1_7 b1_8 b1_9 b1_10 b1_11 b1_12 b1_13 b1_14 b1_15 b1_16 b1_17 (fun _ => e (.inl ((), ()))) (fun u0 => e (.inr (((u0, ()), ())))) := by kernel_rfl
def F75.J3 {R : Type} (k : Nat) : LC R := ⟨7, ⟨[(1, .ptr 0)], [.box (some U0) [I6, I6, I6, .bool, I6, I6, I6, I6, U4, U4, U4, I6, I6, U6, U6, I6, (.sl U3), I6]]⟩, [(.ret, ⟨[(2, .val .bool)], []⟩)], fun x e => F75.join3 k x.2.1.1 x.2.1.2.1 x.2.1.2.2.1 x.2.1.2.2.2.1 x.2.1.2.2.2.2.1 x.2.1.2.2.2.2.2.1 x.2.1.2.2.2.2.2.2.1 x.2.1.2.2.2.2.2.2.2.1 x.2.1.2.2.2.2.2.2.2.2.1 x.2.1.2.2.2.2.2.2.2.2.2.1 x.2.1.2.2.2.2.2.2.2.2.2.2.1 x.2.1.2.2.2.2.2.2.2.2.2.2.2.1 x.2.1.2.2.2.2.2.2.2.2.2.2.2.2.1 x.2.1.2.2.2.2.2.2.2.2.2.2.2.2.2.1 x.2.1.2.2.2.2.2.2.2.2.2.2.2.2.2.2.1 x.2.1.2.2.2.2.2.2.2.2.2.2.2.2.2.2.2.1 x.2.1.2.2.2.2.2.2.2.2.2.2.2.2.2.2.2.2.1 x.2.1.2.2.2.2.2.2.2.2.2.2.2.2.2.2.2.2.2.1 (fun u0 => e ((u0, ()), ()))⟩
theorem F75.q3 {R : Type} (k : Nat) (b1_0 : Int) (b1_1 : Int) (b1_2 : Int) (b1_3 : Bool) (b1_4 : Int) (b1_5 : Int) (b1_6 : Int) (b1_7 : Int) (b1_8 : List Int) (b1_9 : List Int) (b1_10 : List Int) (b1_11 : Int) (b1_12 : Int) (b1_13 : List (Int × List Int)) (b1_14 : List (Int × List Int)) (b1_15 : Int) (b1_16 : List (Int × Int)) (b1_17 : Int) (e : Outs (F75.J3 (R := R) k).outs -> Option R) :
  q230 F75.C k [F75.J10 k, F75.J9 k, F75.J8 k, F75.J7 k, F75.J6 k] (F75.J3 (R := R) k).inn (F75.J3 (R := R) k).outs (q41 Tryz.f91 3) 0 ((), ((b1_0, b1_1, b1_2, b1_3, b1_4, b1_5, b1_6, b1_7, b1_8, b1_9, b1_10, b1_11, b1_12, b1_13, b1_14, b1_15, b1_16, b1_17, ()), ())) e =
  F75.join3 k b1_0 b1_1 b1_2 b1_3 b1_4 b1_5 b1_6 b1_7 b1_8 b1_9 b1_10 b1_11 b1_12 b1_13 b1_14 b1_15 b1_16 b1_17 (fun u0 => e ((u0, ()), ())) := by kernel_rfl
theorem F75.eq (k : Nat) (a0 : Int × Int × Int × Bool × (Int × Int) × Int × Int × (List Int) × (List Int) × (List Int) × Int × Int × (List (Int × List Int)) × (List (Int × List Int)) × Int × (List (Int × Int)) × Int) :
  evF F75.C k [F75.J10 k, F75.J9 k, F75.J8 k, F75.J7 k, F75.J6 k, F75.J3 k] Tryz.f91 [.imm U0] [.bool] (a0, ()) some = F75 k a0 := by kernel_rfl
def F76.S : FSem := ⟨92, [.imm U5], [.bool], fun k x => F76 k x.1⟩
def F76.C : Ctx := ⟨tis, etys, [F71.S], [0, 1, 2], [], 10, []⟩
theorem F76.eq (k : Nat) (a0 : Int × Int × Int) :
  evF F76.C k [] Tryz.f92 [.imm U5] [.bool] (a0, ()) some = F76 k a0 := by kernel_rfl
def F77.S : FSem := ⟨94, [.imm U3, .imm I6], [.bool], fun k x => F77 k x.1 x.2.1⟩
def F77.C : Ctx := ⟨tis, etys, [], [0, 1, 2, 4, 7], [], 30, []⟩
theorem F77.eq (k : Nat) (a0 : Int × Int) (a1 : Int) :
  evF F77.C k [] Tryz.f94 [.imm U3, .imm I6] [.bool] (a0, a1, ()) some = F77 k a0 a1 := by kernel_rfl
def F78.S : FSem := ⟨112, [.imm I6], [.bool], fun k x => F78 k x.1⟩
def F78.C : Ctx := ⟨tis, etys, [], [0, 2], [], 9, []⟩
theorem F78.eq (k : Nat) (a0 : Int) :
  evF F78.C k [] Tryz.f112 [.imm I6] [.bool] (a0, ()) some = F78 k a0 := by kernel_rfl
def F79.S : FSem := ⟨122, [.imm I6], [.bool], fun k x => F79 k x.1⟩
def F79.C : Ctx := ⟨tis, etys, [], [0, 2], [], 9, []⟩
theorem F79.eq (k : Nat) (a0 : Int) :
  evF F79.C k [] Tryz.f122 [.imm I6] [.bool] (a0, ()) some = F79 k a0 := by kernel_rfl
def F80.S : FSem := ⟨113, [.imm U4], [.bool], fun k x => F80 k x.1⟩
def F80.C : Ctx := ⟨tis, etys, [F79.S], [0, 2, 3, 7, 15], [], 16, []⟩
def F80.L0 {R : Type} (k : Nat) : LC R := ⟨0, ⟨[(0, .val U4), (3, .val I6)], []⟩, [(.ret, ⟨[(2, .val .bool)], []⟩), (.ex 0, ⟨[], []⟩)], fun x e => F80.loop0 k k x.1.1 x.1.2.1 (fun u0 => e (.inl ((u0, ()), ()))) (fun _ => e (.inr (((), ()))))⟩
theorem F80.r0 {R : Type} (k j : Nat) (s0 : List Int) (s3 : Int) (e : Outs (F80.L0 (R := R) k).outs -> Option R) :
  q27 F80.C k [] (F80.L0 (R := R) k).inn (F80.L0 (R := R) k).outs (q12 Tryz.f113 0) 1 ((s0, s3, ()), ()) (fun x => F80.loop0 k j x.1.1 x.1.2.1 (fun u0 => e (.inl ((u0, ()), ()))) (fun _ => e (.inr (((), ()))))) e =
  F80.loop0 k (j + 1) s0 s3 (fun u0 => e (.inl ((u0, ()), ()))) (fun _ => e (.inr (((), ())))) := by kernel_rfl
theorem F80.eq (k : Nat) (a0 : List Int) :
  evF F80.C k [F80.L0 k] Tryz.f113 [.imm U4] [.bool] (a0, ()) some = F80 k a0 := by kernel_rfl
def F81.S : FSem := ⟨114, [.imm I6], [.bool], fun k x => F81 k x.1⟩
def F81.C : Ctx := ⟨tis, etys, [], [0, 2], [], 9, []⟩
theorem F81.eq (k : Nat) (a0 : Int) :
  evF F81.C k [] Tryz.f114 [.imm I6] [.bool] (a0, ()) some = F81 k a0 := by kernel_rfl
def F82.S : FSem := ⟨115, [.imm I6], [.bool], fun k x => F82 k x.1⟩
def F82.C : Ctx := ⟨tis, etys, [], [0, 2], [], 9, []⟩
theorem F82.eq (k : Nat) (a0 : Int) :
  evF F82.C k [] Tryz.f115 [.imm I6] [.bool] (a0, ()) some = F82 k a0 := by kernel_rfl
def F83.S : FSem := ⟨123, [.imm U4], [I6], fun k x => F83 k x.1⟩
def F83.C : Ctx := ⟨tis, etys, [F80.S], [0, 2, 10, 13], [], 14, []⟩
theorem F83.eq (k : Nat) (a0 : List Int) :
  evF F83.C k [] Tryz.f123 [.imm U4] [I6] (a0, ()) some = F83 k a0 := by kernel_rfl
def F84.S : FSem := ⟨124, [.imm I6], [.bool], fun k x => F84 k x.1⟩
def F84.C : Ctx := ⟨tis, etys, [], [0, 2], [], 9, []⟩
theorem F84.eq (k : Nat) (a0 : Int) :
  evF F84.C k [] Tryz.f124 [.imm I6] [.bool] (a0, ()) some = F84 k a0 := by kernel_rfl
def F85.S : FSem := ⟨116, [.imm U4, .imm I6, .imm I6], [I6, I6, .bool], fun k x => F85 k x.1 x.2.1 x.2.2.1⟩
def F85.C : Ctx := ⟨tis, etys, [F83.S, F84.S], [0, 1, 2, 6, 7, 8, 9, 10, 11, 12, 13, 29, 33, 65], [], 68, []⟩
def F85.L0 {R : Type} (k : Nat) : LC R := ⟨0, ⟨[(0, .val U4), (1, .val I6), (2, .val I6), (9, .val I6), (10, .val I6), (11, .val I6)], []⟩, [(.ex 0, ⟨[(9, .val I6), (10, .val I6)], []⟩)], fun x e => F85.loop0 k k x.1.1 x.1.2.1 x.1.2.2.1 x.1.2.2.2.1 x.1.2.2.2.2.1 x.1.2.2.2.2.2.1 (fun u0 u1 => e ((u0, u1, ()), ()))⟩
theorem F85.r0 {R : Type} (k j : Nat) (s0 : List Int) (s1 : Int) (s2 : Int) (s9 : Int) (s10 : Int) (s11 : Int) (e : Outs (F85.L0 (R := R) k).outs -> Option R) :
  q27 F85.C k [] (F85.L0 (R := R) k).inn (F85.L0 (R := R) k).outs (q12 Tryz.f116 0) 1 ((s0, s1, s2, s9, s10, s11, ()), ()) (fun x => F85.loop0 k j x.1.1 x.1.2.1 x.1.2.2.1 x.1.2.2.2.1 x.1.2.2.2.2.1 x.1.2.2.2.2.2.1 (fun u0 u1 => e ((u0, u1, ()), ()))) e =
  F85.loop0 k (j + 1) s0 s1 s2 s9 s10 s11 (fun u0 u1 => e ((u0, u1, ()), ())) := by kernel_rfl
theorem F85.eq (k : Nat) (a0 : List Int) (a1 : Int) (a2 : Int) :
  evF F85.C k [F85.L0 k] Tryz.f116 [.imm U4, .imm I6, .imm I6] [I6, I6, .bool] (a0, a1, a2, ()) some = F85 k a0 a1 a2 := by kernel_rfl
def F86.S : FSem := ⟨105, [.imm I6, .imm I6, .imm I6, .imm U4, .imm I6, .imm I6], [I6], fun k x => F86 k x.1 x.2.1 x.2.2.1 x.2.2.2.1 x.2.2.2.2.1 x.2.2.2.2.2.1⟩
def F86.C : Ctx := ⟨tis, etys, [F78.S, F80.S, F81.S, F82.S, F85.S], [0, 1, 2, 3, 4, 5, 12, 15, 16, 33, 42, 59], [], 60, []⟩
theorem F86.eq (k : Nat) (a0 : Int) (a1 : Int) (a2 : Int) (a3 : List Int) (a4 : Int) (a5 : Int) :
  evF F86.C k [] Tryz.f105 [.imm I6, .imm I6, .imm I6, .imm U4, .imm I6, .imm I6] [I6] (a0, a1, a2, a3, a4, a5, ()) some = F86 k a0 a1 a2 a3 a4 a5 := by kernel_rfl
def F87.S : FSem := ⟨125, [.imm I6, .imm I6], [I6], fun k x => F87 k x.1 x.2.1⟩
def F87.C : Ctx := ⟨tis, etys, [F84.S, F81.S], [0, 1, 4, 5, 6, 7, 15, 17, 35], [], 39, []⟩
theorem F87.eq (k : Nat) (a0 : Int) (a1 : Int) :
  evF F87.C k [] Tryz.f125 [.imm I6, .imm I6] [I6] (a0, a1, ()) some = F87 k a0 a1 := by kernel_rfl
def F88.S : FSem := ⟨117, [.imm I6, .imm I6, .imm I6], [I6, I6], fun k x => F88 k x.1 x.2.1 x.2.2.1⟩
def F88.C : Ctx := ⟨tis, etys, [F87.S], [0, 1, 2, 6, 7], [], 14, []⟩
theorem F88.eq (k : Nat) (a0 : Int) (a1 : Int) (a2 : Int) :
  evF F88.C k [] Tryz.f117 [.imm I6, .imm I6, .imm I6] [I6, I6] (a0, a1, a2, ()) some = F88 k a0 a1 a2 := by kernel_rfl
def F89.S : FSem := ⟨106, [.imm I6, .imm U4, .imm U4, .imm I6, .imm I6, .imm I6], [I6], fun k x => F89 k x.1 x.2.1 x.2.2.1 x.2.2.2.1 x.2.2.2.2.1 x.2.2.2.2.2.1⟩
def F89.C : Ctx := ⟨tis, etys, [F78.S, F80.S, F81.S, F82.S, F85.S, F88.S], [0, 1, 2, 3, 4, 5, 12, 13, 14, 15, 16, 27, 46, 63, 80], [], 81, []⟩
def F89.J7 {R : Type} (k : Nat) : LC R := ⟨15, ⟨[(0, .val I6), (1, .val U4), (2, .val U4), (3, .val I6)], []⟩, [(.ret, ⟨[(12, .val I6)], []⟩)], fun x e => F89.join7 k x.1.1 x.1.2.1 x.1.2.2.1 x.1.2.2.2.1 (fun u0 => e ((u0, ()), ()))⟩
theorem F89.q7 {R : Type} (k : Nat) (s0 : Int) (s1 : List Int) (s2 : List Int) (s3 : Int) (e : Outs (F89.J7 (R := R) k).outs -> Option R) :
  q230 F89.C k [] (F89.J7 (R := R) k).inn (F89.J7 (R := R) k).outs (q41 Tryz.f106 7) 0 ((s0, s1, s2, s3, ()), ()) e =
  F89.join7 k s0 s1 s2 s3 (fun u0 => e ((u0, ()), ())) := by kernel_rfl
theorem F89.eq (k : Nat) (a0 : Int) (a1 : List Int) (a2 : List Int) (a3 : Int) (a4 : Int) (a5 : Int) :
  evF F89.C k [F89.J7 k] Tryz.f106 [.imm I6, .imm U4, .imm U4, .imm I6, .imm I6, .imm I6] [I6] (a0, a1, a2, a3, a4, a5, ()) some = F89 k a0 a1 a2 a3 a4 a5 := by kernel_rfl
def F90.S : FSem := ⟨97, [.imm I6], [.bool], fun k x => F90 k x.1⟩
def F90.C : Ctx := ⟨tis, etys, [], [0, 2], [], 9, []⟩
theorem F90.eq (k : Nat) (a0 : Int) :
  evF F90.C k [] Tryz.f97 [.imm I6] [.bool] (a0, ()) some = F90 k a0 := by kernel_rfl
def F91.S : FSem := ⟨126, [.imm I6], [.bool], fun k x => F91 k x.1⟩
def F91.C : Ctx := ⟨tis, etys, [], [0, 2], [], 9, []⟩
theorem F91.eq (k : Nat) (a0 : Int) :
  evF F91.C k [] Tryz.f126 [.imm I6] [.bool] (a0, ()) some = F91 k a0 := by kernel_rfl
def F92.S : FSem := ⟨118, [.imm U6, .imm I6], [I6], fun k x => F92 k x.1 x.2.1⟩
def F92.C : Ctx := ⟨tis, etys, [F90.S, F80.S, F91.S], [0, 1, 4, 5, 6, 15, 19, 26, 37, 42], [], 47, []⟩
def F92.L0 {R : Type} (k : Nat) : LC R := ⟨0, ⟨[(0, .val U6), (5, .val I6)], []⟩, [(.ret, ⟨[(4, .val I6)], []⟩), (.ex 0, ⟨[], []⟩)], fun x e => F92.loop0 k k x.1.1 x.1.2.1 (fun u0 => e (.inl ((u0, ()), ()))) (fun _ => e (.inr (((), ()))))⟩
theorem F92.r0 {R : Type} (k j : Nat) (s0 : List (Int × List Int)) (s5 : Int) (e : Outs (F92.L0 (R := R) k).outs -> Option R) :
  q27 F92.C k [] (F92.L0 (R := R) k).inn (F92.L0 (R := R) k).outs (q12 Tryz.f118 0) 1 ((s0, s5, ()), ()) (fun x => F92.loop0 k j x.1.1 x.1.2.1 (fun u0 => e (.inl ((u0, ()), ()))) (fun _ => e (.inr (((), ()))))) e =
  F92.loop0 k (j + 1) s0 s5 (fun u0 => e (.inl ((u0, ()), ()))) (fun _ => e (.inr (((), ())))) := by kernel_rfl
theorem F92.eq (k : Nat) (a0 : List (Int × List Int)) (a1 : Int) :
  evF F92.C k [F92.L0 k] Tryz.f118 [.imm U6, .imm I6] [I6] (a0, a1, ()) some = F92 k a0 a1 := by kernel_rfl
def F93.S : FSem := ⟨107, [.imm U5, .imm U6, .imm U6, .imm I6, .imm I6, .imm I6], [I6], fun k x => F93 k x.1 x.2.1 x.2.2.1 x.2.2.2.1 x.2.2.2.2.1 x.2.2.2.2.2.1⟩
def F93.C : Ctx := ⟨tis, etys, [F92.S, F81.S, F82.S, F85.S, F88.S], [0, 1, 2, 3, 4, 5, 6, 12, 13, 14, 15, 16, 17, 18, 19, 20, 21, 24, 30, 37, 39, 46, 55, 68, 84, 93, 105, 121], [], 122, []⟩
def F93.L0 {R : Type} (k : Nat) : LC R := ⟨0, ⟨[(1, .val U6), (3, .val I6), (6, .ptr 0), (15, .val I6), (16, .val I6), (17, .val I6)], [.box (some U5) [I6, I6, I6]]⟩, [(.ret, ⟨[(12, .val I6)], []⟩), (.ex 1, ⟨[(15, .val I6), (16, .val I6)], []⟩)], fun x e => F93.loop0 k k x.1.1 x.1.2.1 x.1.2.2.1 x.1.2.2.2.1 x.1.2.2.2.2.1 x.2.1.1 x.2.1.2.1 x.2.1.2.2.1 (fun u0 => e (.inl ((u0, ()), ()))) (fun u0 u1 => e (.inr (((u0, u1, ()), ()))))⟩
theorem F93.r0 {R : Type} (k j : Nat) (s1 : List (Int × List Int)) (s3 : Int) (s15 : Int) (s16 : Int) (s17 : Int) (b6_0 : Int) (b6_1 : Int) (b6_2 : Int) (e : Outs (F93.L0 (R := R) k).outs -> Option R) :
  q27 F93.C k [] (F93.L0 (R := R) k).inn (F93.L0 (R := R) k).outs (q12 Tryz.f107 0) 1 ((s1, s3, s15, s16, s17, ()), ((b6_0, b6_1, b6_2, ()), ())) (fun x => F93.loop0 k j x.1.1 x.1.2.1 x.1.2.2.1 x.1.2.2.2.1 x.1.2.2.2.2.1 x.2.1.1 x.2.1.2.1 x.2.1.2.2.1 (fun u0 => e (.inl ((u0, ()), ()))) (fun u0 u1 => e (.inr (((u0, u1, ()), ()))))) e =
  F93.loop0 k (j + 1) s1 s3 s15 s16 s17 b6_0 b6_1 b6_2 (fun u0 => e (.inl ((u0, ()), ()))) (fun u0 u1 => e (.inr (((u0, u1, ()), ())))) := by kernel_rfl
def F93.L1 {R : Type} (k : Nat) : LC R := ⟨2, ⟨[(2, .val U6), (15, .val I6), (16, .val I6), (21, .val I6)], []⟩, [(.ret, ⟨[(12, .val I6)], []⟩), (.ex 3, ⟨[], []⟩)], fun x e => F93.loop1 k k x.1.1 x.1.2.1 x.1.2.2.1 x.1.2.2.2.1 (fun u0 => e (.inl ((u0, ()), ()))) (fun _ => e (.inr (((), ()))))⟩
theorem F93.r1 {R : Type} (k j : Nat) (s2 : List (Int × List Int)) (s15 : Int) (s16 : Int) (s21 : Int) (e : Outs (F93.L1 (R := R) k).outs -> Option R) :
  q27 F93.C k [] (F93.L1 (R := R) k).inn (F93.L1 (R := R) k).outs (q12 Tryz.f107 1) 2 ((s2, s15, s16, s21, ()), ()) (fun x => F93.loop1 k j x.1.1 x.1.2.1 x.1.2.2.1 x.1.2.2.2.1 (fun u0 => e (.inl ((u0, ()), ()))) (fun _ => e (.inr (((), ()))))) e =
  F93.loop1 k (j + 1) s2 s15 s16 s21 (fun u0 => e (.inl ((u0, ()), ()))) (fun _ => e (.inr (((), ())))) := by kernel_rfl
theorem F93.eq (k : Nat) (a0 : Int × Int × Int) (a1 : List (Int × List Int)) (a2 : List (Int × List Int)) (a3 : Int) (a4 : Int) (a5 : Int) :
  evF F93.C k [F93.L0 k, F93.L1 k] Tryz.f107 [.imm U5, .imm U6, .imm U6, .imm I6, .imm I6, .imm I6] [I6] (a0, a1, a2, a3, a4, a5, ()) some = F93 k a0 a1 a2 a3 a4 a5 := by kernel_rfl
def F94.S : FSem := ⟨108, [.imm I6], [.bool], fun k x => F94 k x.1⟩
def F94.C : Ctx := ⟨tis, etys, [], [0, 2], [], 9, []⟩
theorem F94.eq (k : Nat) (a0 : Int) :
  evF F94.C k [] Tryz.f108 [.imm I6] [.bool] (a0, ()) some = F94 k a0 := by kernel_rfl
def F95.S : FSem := ⟨119, [.imm I6, .imm I6, .imm I6], [I6, .bool], fun k x => F95 k x.1 x.2.1 x.2.2.1⟩
def F95.C : Ctx := ⟨tis, etys, [], [0, 1, 2, 6, 7, 28], [], 32, []⟩
theorem F95.eq (k : Nat) (a0 : Int) (a1 : Int) (a2 : Int) :
  evF F95.C k [] Tryz.f119 [.imm I6, .imm I6, .imm I6] [I6, .bool] (a0, a1, a2, ()) some = F95 k a0 a1 a2 := by kernel_rfl
def F96.S : FSem := ⟨109, [.imm U5], [I6, .bool], fun k x => F96 k x.1⟩
def F96.C : Ctx := ⟨tis, etys, [F95.S], [0, 1, 2, 3, 4, 5, 30], [], 37, []⟩
theorem F96.eq (k : Nat) (a0 : Int × Int × Int) :
  evF F96.C k [] Tryz.f109 [.imm U5] [I6, .bool] (a0, ()) some = F96 k a0 := by kernel_rfl
def F97.S : FSem := ⟨127, [.imm I6], [I6], fun k x => F97 k x.1⟩
def F97.C : Ctx := ⟨tis, etys, [], [0, 2, 3, 6], [], 9, []⟩
theorem F97.eq (k : Nat) (a0 : Int) :
  evF F97.C k [] Tryz.f127 [.imm I6] [I6] (a0, ()) some = F97 k a0 := by kernel_rfl
def F98.S : FSem := ⟨128, [.imm U3], [.bool], fun k x => F98 k x.1⟩
def F98.C : Ctx := ⟨tis, etys, [F81.S], [0, 1, 2, 4, 5, 15], [], 23, []⟩
theorem F98.eq (k : Nat) (a0 : Int × Int) :
  evF F98.C k [] Tryz.f128 [.imm U3] [.bool] (a0, ()) some = F98 k a0 := by kernel_rfl
def F99.S : FSem := ⟨120, [.imm (.sl U3), .imm .bool], [I6], fun k x => F99 k x.1 x.2.1⟩
def F99.C : Ctx := ⟨tis, etys, [F97.S, F98.S], [0, 1, 4, 5, 6, 7, 15, 19, 49, 52, 60], [], 61, []⟩
def F99.L0 {R : Type} (k : Nat) : LC R := ⟨0, ⟨[(0, .val (.sl U3)), (1, .val .bool), (5, .val I6), (6, .val I6)], []⟩, [(.ret, ⟨[(4, .val I6)], []⟩), (.ex 0, ⟨[(5, .val I6)], []⟩)], fun x e => F99.loop0 k k x.1.1 x.1.2.1 x.1.2.2.1 x.1.2.2.2.1 (fun u0 => e (.inl ((u0, ()), ()))) (fun u0 => e (.inr (((u0, ()), ()))))⟩
theorem F99.r0 {R : Type} (k j : Nat) (s0 : List (Int × Int)) (s1 : Bool) (s5 : Int) (s6 : Int) (e : Outs (F99.L0 (R := R) k).outs -> Option R) :
  q27 F99.C k [] (F99.L0 (R := R) k).inn (F99.L0 (R := R) k).outs (q12 Tryz.f120 0) 1 ((s0, s1, s5, s6, ()), ()) (fun x => F99.loop0 k j x.1.1 x.1.2.1 x.1.2.2.1 x.1.2.2.2.1 (fun u0 => e (.inl ((u0, ()), ()))) (fun u0 => e (.inr (((u0, ()), ()))))) e =
  F99.loop0 k (j + 1) s0 s1 s5 s6 (fun u0 => e (.inl ((u0, ()), ()))) (fun u0 => e (.inr (((u0, ()), ())))) := by kernel_rfl
theorem F99.eq (k : Nat) (a0 : List (Int × Int)) (a1 : Bool) :
  evF F99.C k [F99.L0 k] Tryz.f120 [.imm (.sl U3), .imm .bool] [I6] (a0, a1, ()) some = F99 k a0 a1 := by kernel_rfl
def F100.S : FSem := ⟨130, [.imm I6], [I6], fun k x => F100 k x.1⟩
def F100.C : Ctx := ⟨tis, etys, [], [0, 2, 4], [], 8, []⟩
theorem F100.eq (k : Nat) (a0 : Int) :
  evF F100.C k [] Tryz.f130 [.imm I6] [I6] (a0, ()) some = F100 k a0 := by kernel_rfl
def F101.S : FSem := ⟨132, [.imm I6, .imm I6], [I6, .bool], fun k x => F101 k x.1 x.2.1⟩
def F101.C : Ctx := ⟨tis, etys, [], [0, 1, 4, 5, 6, 7, 11, 15, 25], [], 29, []⟩
theorem F101.eq (k : Nat) (a0 : Int) (a1 : Int) :
  evF F101.C k [] Tryz.f132 [.imm I6, .imm I6] [I6, .bool] (a0, a1, ()) some = F101 k a0 a1 := by kernel_rfl
def F102.S : FSem := ⟨131, [.imm U3, .imm U3], [U3, .bool], fun k x => F102 k x.1 x.2.1⟩
def F102.C : Ctx := ⟨tis, etys, [F101.S], [0, 1, 2, 3, 4, 5, 6, 7, 8, 9, 10, 11, 12, 13], [], 67, [56]⟩
theorem F102.eq (k : Nat) (a0 : Int × Int) (a1 : Int × Int) :
  evF F102.C k [] Tryz.f131 [.imm U3, .imm U3] [U3, .bool] (a0, a1, ()) some = F102 k a0 a1 := by kernel_rfl
def F103.S : FSem := ⟨129, [.imm U3, .imm U3, .imm U3, .imm I6, .imm I6], [U3, .bool], fun k x => F103 k x.1 x.2.1 x.2.2.1 x.2.2.2.1 x.2.2.2.2.1⟩
def F103.C : Ctx := ⟨tis, etys, [F100.S, F84.S, F102.S, F88.S], [0, 1, 2, 3, 4, 5, 6, 7, 10, 11, 12, 13, 14, 24, 27, 31, 35, 42, 55, 68, 76, 89, 102, 116, 122], [], 148, [136]⟩
theorem F103.eq (k : Nat) (a0 : Int × Int) (a1 : Int × Int) (a2 : Int × Int) (a3 : Int) (a4 : Int) :
  evF F103.C k [] Tryz.f129 [.imm U3, .imm U3, .imm U3, .imm I6, .imm I6] [U3, .bool] (a0, a1, a2, a3, a4, ()) some = F103 k a0 a1 a2 a3 a4 := by kernel_rfl
def F104.S : FSem := ⟨121, [.imm (.sl U3), .imm I6, .imm I6], [I6, I6, I6], fun k x => F104 k x.1 x.2.1 x.2.2.1⟩
def F104.C : Ctx := ⟨tis, etys, [F99.S, F82.S, F97.S, F103.S], [0, 1, 2, 6, 7, 8, 9, 10, 11, 12, 13, 14, 15, 16, 20, 29, 33, 45, 53, 74], [], 92, []⟩
def F104.L0 {R : Type} (k : Nat) : LC R := ⟨0, ⟨[(0, .val (.sl U3)), (1, .val I6), (2, .val I6), (10, .arr 0), (11, .val I6)], [.arr U3]⟩, [(.ret, ⟨[(6, .val I6), (7, .val I6), (8, .val I6)], []⟩), (.ex 0, ⟨[(10, .arr 0)], [.arr U3]⟩)], fun x e => F104.loop0 k k x.1.1 x.1.2.1 x.1.2.2.1 x.1.2.2.2.1 x.2.1 (fun u0 u1 u2 => e (.inl ((u0, u1, u2, ()), ()))) (fun u0 => e (.inr (((), (u0, ())))))⟩
theorem F104.r0 {R : Type} (k j : Nat) (s0 : List (Int × Int)) (s1 : Int) (s2 : Int) (s11 : Int) (l10 : List (Int × Int)) (e : Outs (F104.L0 (R := R) k).outs -> Option R) :
  q27 F104.C k [] (F104.L0 (R := R) k).inn (F104.L0 (R := R) k).outs (q12 Tryz.f121 0) 1 ((s0, s1, s2, s11, ()), (l10, ())) (fun x => F104.loop0 k j x.1.1 x.1.2.1 x.1.2.2.1 x.1.2.2.2.1 x.2.1 (fun u0 u1 u2 => e (.inl ((u0, u1, u2, ()), ()))) (fun u0 => e (.inr (((), (u0, ())))))) e =
  F104.loop0 k (j + 1) s0 s1 s2 s11 l10 (fun u0 u1 u2 => e (.inl ((u0, u1, u2, ()), ()))) (fun u0 => e (.inr (((), (u0, ()))))) := by kernel_rfl
theorem F104.eq (k : Nat) (a0 : List (Int × Int)) (a1 : Int) (a2 : Int) :
  evF F104.C k [F104.L0 k] Tryz.f121 [.imm (.sl U3), .imm I6, .imm I6] [I6, I6, I6] (a0, a1, a2, ()) some = F104 k a0 a1 a2 := by kernel_rfl
def F105.S : FSem := ⟨110, [.imm (.sl U3), .imm .bool, .imm I6, .imm I6, .imm I6], [I6], fun k x => F105 k x.1 x.2.1 x.2.2.1 x.2.2.2.1 x.2.2.2.2.1⟩
def F105.C : Ctx := ⟨tis, etys, [F99.S, F82.S, F104.S], [0, 1, 2, 3, 4, 10, 11, 14, 19, 23, 25], [], 35, []⟩
theorem F105.eq (k : Nat) (a0 : List (Int × Int)) (a1 : Bool) (a2 : Int) (a3 : Int) (a4 : Int) :
  evF F105.C k [] Tryz.f110 [.imm (.sl U3), .imm .bool, .imm I6, .imm I6, .imm I6] [I6] (a0, a1, a2, a3, a4, ()) some = F105 k a0 a1 a2 a3 a4 := by kernel_rfl
def F106.S : FSem := ⟨95, [.imm U0, .imm U5, .imm U5], [U5, I6], fun k x => F106 k x.1 x.2.1 x.2.2.1⟩
def F106.C : Ctx := ⟨tis, etys, [F86.S, F89.S, F93.S, F94.S, F96.S, F24.S, F105.S], [0, 1, 2, 3, 4, 5, 6, 7, 8, 9, 10, 11, 20, 21, 37, 53, 76, 81, 91, 99, 119, 137], [], 140, [23, 39, 63, 82, 90, 100, 106, 120, 138, 139]⟩
theorem F106.eq (k : Nat) (a0 : Int × Int × Int × Bool × (Int × Int) × Int × Int × (List Int) × (List Int) × (List Int) × Int × Int × (List (Int × List Int)) × (List (Int × List Int)) × Int × (List (Int × Int)) × Int) (a1 : Int × Int × Int) (a2 : Int × Int × Int) :
  evF F106.C k [] Tryz.f95 [.imm U0, .imm U5, .imm U5] [U5, I6] (a0, a1, a2, ()) some = F106 k a0 a1 a2 := by kernel_rfl
def F107.S : FSem := ⟨66, [.imm U0, .imm U5, .imm U5], [U5, I6], fun k x => F107 k x.1 x.2.1 x.2.2.1⟩
def F107.C : Ctx := ⟨tis, etys, [F75.S, F76.S, F24.S, F74.S, F77.S, F106.S], [0, 1, 2, 3, 4, 5, 6, 7, 8, 9, 10, 15, 29, 50], [], 54, [14, 28, 41, 51, 53]⟩
theorem F107.eq (k : Nat) (a0 : Int × Int × Int × Bool × (Int × Int) × Int × Int × (List Int) × (List Int) × (List Int) × Int × Int × (List (Int × List Int)) × (List (Int × List Int)) × Int × (List (Int × Int)) × Int) (a1 : Int × Int × Int) (a2 : Int × Int × Int) :
  evF F107.C k [] Tryz.f66 [.imm U0, .imm U5, .imm U5] [U5, I6] (a0, a1, a2, ()) some = F107 k a0 a1 a2 := by kernel_rfl
def F108.S : FSem := ⟨40, [.imm U1], [(.ow U5), I6, I6], fun k x => F108 k x.1⟩
def F108.C : Ctx := ⟨tis, etys, [F28.S, F72.S, F73.S, F24.S, F107.S], [0, 1, 2, 3, 4, 5, 6, 7, 8, 9, 10, 11, 12, 13, 20, 34, 43, 57, 74, 92], [], 106, []⟩
def F108.L0 {R : Type} (k : Nat) : LC R := ⟨0, ⟨[(1, .ptr 0), (7, .arr 1), (8, .val I6)], [.box (some U1) [U7, (.sl U0), U4, I6], .arr U5]⟩, [(.ret, ⟨[(2, .arr 0), (3, .val I6), (4, .val I6)], [.arr U5]⟩), (.ex 0, ⟨[(1, .ptr 0), (7, .arr 1)], [.box (some U1) [U7, (.sl U0), U4, I6], .arr U5]⟩)], fun x e => F108.loop0 k k x.1.1 x.2.1.1 x.2.1.2.1 x.2.1.2.2.1 x.2.1.2.2.2.1 x.2.2.1 (fun u0 u1 u2 => e (.inl ((u0, u1, ()), (u2, ())))) (fun u0 u1 u2 u3 u4 => e (.inr (((), ((u0, u1, u2, u3, ()), u4, ())))))⟩
theorem F108.r0 {R : Type} (k j : Nat) (s8 : Int) (b1_0 : List (Int × Int × Int × List Int)) (b1_1 : List (Int × Int × Int × Bool × (Int × Int) × Int × Int × (List Int) × (List Int) × (List Int) × Int × Int × (List (Int × List Int)) × (List (Int × List Int)) × Int × (List (Int × Int)) × Int)) (b1_2 : List Int) (b1_3 : Int) (l7 : List (Int × Int × Int)) (e : Outs (F108.L0 (R := R) k).outs -> Option R) :
  q27 F108.C k [] (F108.L0 (R := R) k).inn (F108.L0 (R := R) k).outs (q12 Tryz.f40 0) 1 ((s8, ()), ((b1_0, b1_1, b1_2, b1_3, ()), l7, ())) (fun x => F108.loop0 k j x.1.1 x.2.1.1 x.2.1.2.1 x.2.1.2.2.1 x.2.1.2.2.2.1 x.2.2.1 (fun u0 u1 u2 => e (.inl ((u0, u1, ()), (u2, ())))) (fun u0 u1 u2 u3 u4 => e (.inr (((), ((u0, u1, u2, u3, ()), u4, ())))))) e =
  F108.loop0 k (j + 1) s8 b1_0 b1_1 b1_2 b1_3 l7 (fun u0 u1 u2 => e (.inl ((u0, u1, ()), (u2, ())))) (fun u0 u1 u2 u3 u4 => e (.inr (((), ((u0, u1, u2, u3, ()), u4, ()))))) := by kernel_rfl
def F108.L1 {R : Type} (k : Nat) : LC R := ⟨2, ⟨[(1, .ptr 0), (5, .arr 1), (7, .arr 2), (9, .val I6)], [.box (some U1) [U7, (.sl U0), U4, I6], .arr I6, .arr U5]⟩, [(.ret, ⟨[(2, .arr 0), (3, .val I6), (4, .val I6)], [.arr U5]⟩), (.ex 2, ⟨[(7, .arr 0)], [.arr U5]⟩)], fun x e => F108.loop1 k k x.1.1 x.2.1.1 x.2.1.2.1 x.2.1.2.2.1 x.2.1.2.2.2.1 x.2.2.1 x.2.2.2.1 (fun u0 u1 u2 => e (.inl ((u0, u1, ()), (u2, ())))) (fun u0 => e (.inr (((), (u0, ())))))⟩
theorem F108.r1 {R : Type} (k j : Nat) (s9 : Int) (b1_0 : List (Int × Int × Int × List Int)) (b1_1 : List (Int × Int × Int × Bool × (Int × Int) × Int × Int × (List Int) × (List Int) × (List Int) × Int × Int × (List (Int × List Int)) × (List (Int × List Int)) × Int × (List (Int × Int)) × Int)) (b1_2 : List Int) (b1_3 : Int) (l5 : List Int) (l7 : List (Int × Int × Int)) (e : Outs (F108.L1 (R := R) k).outs -> Option R) :
  q27 F108.C k [] (F108.L1 (R := R) k).inn (F108.L1 (R := R) k).outs (q12 Tryz.f40 1) 2 ((s9, ()), ((b1_0, b1_1, b1_2, b1_3, ()), l5, l7, ())) (fun x => F108.loop1 k j x.1.1 x.2.1.1 x.2.1.2.1 x.2.1.2.2.1 x.2.1.2.2.2.1 x.2.2.1 x.2.2.2.1 (fun u0 u1 u2 => e (.inl ((u0, u1, ()), (u2, ())))) (fun u0 => e (.inr (((), (u0, ())))))) e =
  F108.loop1 k (j + 1) s9 b1_0 b1_1 b1_2 b1_3 l5 l7 (fun u0 u1 u2 => e (.inl ((u0, u1, ()), (u2, ())))) (fun u0 => e (.inr (((), (u0, ()))))) := by kernel_rfl
theorem F108.eq (k : Nat) (a0 : (List (Int × Int × Int × List Int)) × (List (Int × Int × Int × Bool × (Int × Int) × Int × Int × (List Int) × (List Int) × (List Int) × Int × Int × (List (Int × List Int)) × (List (Int × List Int)) × Int × (List (Int × Int)) × Int)) × (List Int) × Int) :
  evF F108.C k [F108.L0 k, F108.L1 k] Tryz.f40 [.imm U1] [(.ow U5), I6, I6] (a0, ()) some = F108 k a0 := by kernel_rfl
def F109.S : FSem := ⟨41, [.imm U1], [I6, I6], fun k x => F109 k x.1⟩
def F109.C : Ctx := ⟨tis, etys, [F70.S], [0, 1, 2, 3, 5, 6], [], 15, []⟩
theorem F109.eq (k : Nat) (a0 : (List (Int × Int × Int × List Int)) × (List (Int × Int × Int × Bool × (Int × Int) × Int × Int × (List Int) × (List Int) × (List Int) × Int × Int × (List (Int × List Int)) × (List (Int × List Int)) × Int × (List (Int × Int)) × Int)) × (List Int) × Int) :
  evF F109.C k [] Tryz.f41 [.imm U1] [I6, I6] (a0, ()) some = F109 k a0 := by kernel_rfl
def F110.S : FSem := ⟨42, [.imm U4, .imm U4], [.bool], fun k x => F110 k x.1 x.2.1⟩
def F110.C : Ctx := ⟨tis, etys, [], [0, 1, 4, 5, 10, 14, 25], [], 26, []⟩
def F110.L0 {R : Type} (k : Nat) : LC R := ⟨0, ⟨[(0, .val U4), (1, .val U4), (5, .val I6)], []⟩, [(.ret, ⟨[(4, .val .bool)], []⟩), (.ex 0, ⟨[], []⟩)], fun x e => F110.loop0 k k x.1.1 x.1.2.1 x.1.2.2.1 (fun u0 => e (.inl ((u0, ()), ()))) (fun _ => e (.inr (((), ()))))⟩
theorem F110.r0 {R : Type} (k j : Nat) (s0 : List Int) (s1 : List Int) (s5 : Int) (e : Outs (F110.L0 (R := R) k).outs -> Option R) :
  q27 F110.C k [] (F110.L0 (R := R) k).inn (F110.L0 (R := R) k).outs (q12 Tryz.f42 0) 1 ((s0, s1, s5, ()), ()) (fun x => F110.loop0 k j x.1.1 x.1.2.1 x.1.2.2.1 (fun u0 => e (.inl ((u0, ()), ()))) (fun _ => e (.inr (((), ()))))) e =
  F110.loop0 k (j + 1) s0 s1 s5 (fun u0 => e (.inl ((u0, ()), ()))) (fun _ => e (.inr (((), ())))) := by kernel_rfl
theorem F110.eq (k : Nat) (a0 : List Int) (a1 : List Int) :
  evF F110.C k [F110.L0 k] Tryz.f42 [.imm U4, .imm U4] [.bool] (a0, a1, ()) some = F110 k a0 a1 := by kernel_rfl
def F111.S : FSem := ⟨67, [.imm U1, .imm I6], [(.ow I6)], fun k x => F111 k x.1 x.2.1⟩
def F111.C : Ctx := ⟨tis, etys, [F25.S], [0, 1, 2, 4, 5, 6, 7, 8, 9, 10, 19, 25, 44, 78], [], 84, []⟩
def F111.L2 {R : Type} (k : Nat) : LC R := ⟨4, ⟨[(1, .val I6), (2, .ptr 0), (5, .arr 1), (6, .val I6), (7, .val I6), (8, .arr 2), (9, .val I6)], [.box (some U1) [U7, (.sl U0), U4, I6], .arr I6, .arr I6]⟩, [(.ex 4, ⟨[(2, .ptr 0), (5, .arr 1)], [.box (some U1) [U7, (.sl U0), U4, I6], .arr I6]⟩)], fun x e => F111.loop2 k k x.1.1 x.1.2.1 x.1.2.2.1 x.1.2.2.2.1 x.2.1.1 x.2.1.2.1 x.2.1.2.2.1 x.2.1.2.2.2.1 x.2.2.1 x.2.2.2.1 (fun u0 u1 u2 u3 u4 => e ((), ((u0, u1, u2, u3, ()), u4, ())))⟩
theorem F111.r2 {R : Type} (k j : Nat) (s1 : Int) (s6 : Int) (s7 : Int) (s9 : Int) (b2_0 : List (Int × Int × Int × List Int)) (b2_1 : List (Int × Int × Int × Bool × (Int × Int) × Int × Int × (List Int) × (List Int) × (List Int) × Int × Int × (List (Int × List Int)) × (List (Int × List Int)) × Int × (List (Int × Int)) × Int)) (b2_2 : List Int) (b2_3 : Int) (l5 : List Int) (l8 : List Int) (e : Outs (F111.L2 (R := R) k).outs -> Option R) :
  q27 F111.C k [] (F111.L2 (R := R) k).inn (F111.L2 (R := R) k).outs (q12 Tryz.f67 2) 3 ((s1, s6, s7, s9, ()), ((b2_0, b2_1, b2_2, b2_3, ()), l5, l8, ())) (fun x => F111.loop2 k j x.1.1 x.1.2.1 x.1.2.2.1 x.1.2.2.2.1 x.2.1.1 x.2.1.2.1 x.2.1.2.2.1 x.2.1.2.2.2.1 x.2.2.1 x.2.2.2.1 (fun u0 u1 u2 u3 u4 => e ((), ((u0, u1, u2, u3, ()), u4, ())))) e =
  F111.loop2 k (j + 1) s1 s6 s7 s9 b2_0 b2_1 b2_2 b2_3 l5 l8 (fun u0 u1 u2 u3 u4 => e ((), ((u0, u1, u2, u3, ()), u4, ()))) := by kernel_rfl
def F111.L1 {R : Type} (k : Nat) : LC R := ⟨2, ⟨[(1, .val I6), (2, .ptr 0), (5, .arr 1), (6, .val I6), (7, .val I6)], [.box (some U1) [U7, (.sl U0), U4, I6], .arr I6]⟩, [(.ex 2, ⟨[(2, .ptr 0), (5, .arr 1)], [.box (some U1) [U7, (.sl U0), U4, I6], .arr I6]⟩)], fun x e => F111.loop1 k k x.1.1 x.1.2.1 x.1.2.2.1 x.2.1.1 x.2.1.2.1 x.2.1.2.2.1 x.2.1.2.2.2.1 x.2.2.1 (fun u0 u1 u2 u3 u4 => e ((), ((u0, u1, u2, u3, ()), u4, ())))⟩
theorem F111.r1 {R : Type} (k j : Nat) (s1 : Int) (s6 : Int) (s7 : Int) (b2_0 : List (Int × Int × Int × List Int)) (b2_1 : List (Int × Int × Int × Bool × (Int × Int) × Int × Int × (List Int) × (List Int) × (List Int) × Int × Int × (List (Int × List Int)) × (List (Int × List Int)) × Int × (List (Int × Int)) × Int)) (b2_2 : List Int) (b2_3 : Int) (l5 : List Int) (e : Outs (F111.L1 (R := R) k).outs -> Option R) :
  q27 F111.C k [F111.L2 k] (F111.L1 (R := R) k).inn (F111.L1 (R := R) k).outs (q12 Tryz.f67 1) 2 ((s1, s6, s7, ()), ((b2_0, b2_1, b2_2, b2_3, ()), l5, ())) (fun x => F111.loop1 k j x.1.1 x.1.2.1 x.1.2.2.1 x.2.1.1 x.2.1.2.1 x.2.1.2.2.1 x.2.1.2.2.2.1 x.2.2.1 (fun u0 u1 u2 u3 u4 => e ((), ((u0, u1, u2, u3, ()), u4, ())))) e =
  F111.loop1 k (j + 1) s1 s6 s7 b2_0 b2_1 b2_2 b2_3 l5 (fun u0 u1 u2 u3 u4 => e ((), ((u0, u1, u2, u3, ()), u4, ()))) := by kernel_rfl
def F111.L0 {R : Type} (k : Nat) : LC R := ⟨0, ⟨[(1, .val I6), (2, .ptr 0), (5, .arr 1), (6, .val I6)], [.box (some U1) [U7, (.sl U0), U4, I6], .arr I6]⟩, [(.ex 0, ⟨[(5, .arr 0)], [.arr I6]⟩)], fun x e => F111.loop0 k k x.1.1 x.1.2.1 x.2.1.1 x.2.1.2.1 x.2.1.2.2.1 x.2.1.2.2.2.1 x.2.2.1 (fun u0 => e ((), (u0, ())))⟩
theorem F111.r0 {R : Type} (k j : Nat) (s1 : Int) (s6 : Int) (b2_0 : List (Int × Int × Int × List Int)) (b2_1 : List (Int × Int × Int × Bool × (Int × Int) × Int × Int × (List Int) × (List Int) × (List Int) × Int × Int × (List (Int × List Int)) × (List (Int × List Int)) × Int × (List (Int × Int)) × Int)) (b2_2 : List Int) (b2_3 : Int) (l5 : List Int) (e : Outs (F111.L0 (R := R) k).outs -> Option R) :
  q27 F111.C k [F111.L2 k, F111.L1 k] (F111.L0 (R := R) k).inn (F111.L0 (R := R) k).outs (q12 Tryz.f67 0) 1 ((s1, s6, ()), ((b2_0, b2_1, b2_2, b2_3, ()), l5, ())) (fun x => F111.loop0 k j x.1.1 x.1.2.1 x.2.1.1 x.2.1.2.1 x.2.1.2.2.1 x.2.1.2.2.2.1 x.2.2.1 (fun u0 => e ((), (u0, ())))) e =
  F111.loop0 k (j + 1) s1 s6 b2_0 b2_1 b2_2 b2_3 l5 (fun u0 => e ((), (u0, ()))) := by kernel_rfl
theorem F111.eq (k : Nat) (a0 : (List (Int × Int × Int × List Int)) × (List (Int × Int × Int × Bool × (Int × Int) × Int × Int × (List Int) × (List Int) × (List Int) × Int × Int × (List (Int × List Int)) × (List (Int × List Int)) × Int × (List (Int × Int)) × Int)) × (List Int) × Int) (a1 : Int) :
  evF F111.C k [F111.L2 k, F111.L1 k, F111.L0 k] Tryz.f67 [.imm U1, .imm I6] [(.ow I6)] (a0, a1, ()) some = F111 k a0 a1 := by kernel_rfl
def F112.S : FSem := ⟨43, [.imm U1], [(.ow I6)], fun k x => F112 k x.1⟩
def F112.C : Ctx := ⟨tis, etys, [F28.S, F111.S, F25.S], [0, 1, 2, 4, 5, 6, 7, 8, 9, 10, 11, 12, 13, 14, 15, 16, 23, 28, 47, 51, 65, 77, 106], [], 118, []⟩
def F112.L0 {R : Type} (k : Nat) : LC R := ⟨0, ⟨[(1, .ptr 0), (5, .val I6), (6, .val I6), (7, .val I6)], [.box (some U1) [U7, (.sl U0), U4, I6]]⟩, [(.ex 0, ⟨[(1, .ptr 0), (5, .val I6), (6, .val I6)], [.box (some U1) [U7, (.sl U0), U4, I6]]⟩)], fun x e => F112.loop0 k k x.1.1 x.1.2.1 x.1.2.2.1 x.2.1.1 x.2.1.2.1 x.2.1.2.2.1 x.2.1.2.2.2.1 (fun u0 u1 u2 u3 u4 u5 => e ((u0, u1, ()), ((u2, u3, u4, u5, ()), ())))⟩
theorem F112.r0 {R : Type} (k j : Nat) (s5 : Int) (s6 : Int) (s7 : Int) (b1_0 : List (Int × Int × Int × List Int)) (b1_1 : List (Int × Int × Int × Bool × (Int × Int) × Int × Int × (List Int) × (List Int) × (List Int) × Int × Int × (List (Int × List Int)) × (List (Int × List Int)) × Int × (List (Int × Int)) × Int)) (b1_2 : List Int) (b1_3 : Int) (e : Outs (F112.L0 (R := R) k).outs -> Option R) :
  q27 F112.C k [] (F112.L0 (R := R) k).inn (F112.L0 (R := R) k).outs (q12 Tryz.f43 0) 1 ((s5, s6, s7, ()), ((b1_0, b1_1, b1_2, b1_3, ()), ())) (fun x => F112.loop0 k j x.1.1 x.1.2.1 x.1.2.2.1 x.2.1.1 x.2.1.2.1 x.2.1.2.2.1 x.2.1.2.2.2.1 (fun u0 u1 u2 u3 u4 u5 => e ((u0, u1, ()), ((u2, u3, u4, u5, ()), ())))) e =
  F112.loop0 k (j + 1) s5 s6 s7 b1_0 b1_1 b1_2 b1_3 (fun u0 u1 u2 u3 u4 u5 => e ((u0, u1, ()), ((u2, u3, u4, u5, ()), ()))) := by kernel_rfl
def F112.L2 {R : Type} (k : Nat) : LC R := ⟨4, ⟨[(1, .ptr 0), (9, .arr 1), (12, .val I6), (13, .val I6), (14, .arr 2), (15, .val I6)], [.box (some U1) [U7, (.sl U0), U4, I6], .arr I6, .arr I6]⟩, [(.ex 4, ⟨[(1, .ptr 0), (9, .arr 1), (13, .val I6)], [.box (some U1) [U7, (.sl U0), U4, I6], .arr I6]⟩)], fun x e => F112.loop2 k k x.1.1 x.1.2.1 x.1.2.2.1 x.2.1.1 x.2.1.2.1 x.2.1.2.2.1 x.2.1.2.2.2.1 x.2.2.1 x.2.2.2.1 (fun u0 u1 u2 u3 u4 u5 => e ((u0, ()), ((u1, u2, u3, u4, ()), u5, ())))⟩
theorem F112.r2 {R : Type} (k j : Nat) (s12 : Int) (s13 : Int) (s15 : Int) (b1_0 : List (Int × Int × Int × List Int)) (b1_1 : List (Int × Int × Int × Bool × (Int × Int) × Int × Int × (List Int) × (List Int) × (List Int) × Int × Int × (List (Int × List Int)) × (List (Int × List Int)) × Int × (List (Int × Int)) × Int)) (b1_2 : List Int) (b1_3 : Int) (l9 : List Int) (l14 : List Int) (e : Outs (F112.L2 (R := R) k).outs -> Option R) :
  q27 F112.C k [] (F112.L2 (R := R) k).inn (F112.L2 (R := R) k).outs (q12 Tryz.f43 2) 3 ((s12, s13, s15, ()), ((b1_0, b1_1, b1_2, b1_3, ()), l9, l14, ())) (fun x => F112.loop2 k j x.1.1 x.1.2.1 x.1.2.2.1 x.2.1.1 x.2.1.2.1 x.2.1.2.2.1 x.2.1.2.2.2.1 x.2.2.1 x.2.2.2.1 (fun u0 u1 u2 u3 u4 u5 => e ((u0, ()), ((u1, u2, u3, u4, ()), u5, ())))) e =
  F112.loop2 k (j + 1) s12 s13 s15 b1_0 b1_1 b1_2 b1_3 l9 l14 (fun u0 u1 u2 u3 u4 u5 => e ((u0, ()), ((u1, u2, u3, u4, ()), u5, ()))) := by kernel_rfl
def F112.L1 {R : Type} (k : Nat) : LC R := ⟨2, ⟨[(1, .ptr 0), (9, .arr 1), (10, .arr 2), (11, .val I6), (12, .val I6)], [.box (some U1) [U7, (.sl U0), U4, I6], .arr I6, .arr I6]⟩, [(.ex 2, ⟨[(10, .arr 0)], [.arr I6]⟩)], fun x e => F112.loop1 k k x.1.1 x.1.2.1 x.2.1.1 x.2.1.2.1 x.2.1.2.2.1 x.2.1.2.2.2.1 x.2.2.1 x.2.2.2.1 (fun u0 => e ((), (u0, ())))⟩
theorem F112.r1 {R : Type} (k j : Nat) (s11 : Int) (s12 : Int) (b1_0 : List (Int × Int × Int × List Int)) (b1_1 : List (Int × Int × Int × Bool × (Int × Int) × Int × Int × (List Int) × (List Int) × (List Int) × Int × Int × (List (Int × List Int)) × (List (Int × List Int)) × Int × (List (Int × Int)) × Int)) (b1_2 : List Int) (b1_3 : Int) (l9 : List Int) (l10 : List Int) (e : Outs (F112.L1 (R := R) k).outs -> Option R) :
  q27 F112.C k [F112.L2 k] (F112.L1 (R := R) k).inn (F112.L1 (R := R) k).outs (q12 Tryz.f43 1) 2 ((s11, s12, ()), ((b1_0, b1_1, b1_2, b1_3, ()), l9, l10, ())) (fun x => F112.loop1 k j x.1.1 x.1.2.1 x.2.1.1 x.2.1.2.1 x.2.1.2.2.1 x.2.1.2.2.2.1 x.2.2.1 x.2.2.2.1 (fun u0 => e ((), (u0, ())))) e =
  F112.loop1 k (j + 1) s11 s12 b1_0 b1_1 b1_2 b1_3 l9 l10 (fun u0 => e ((), (u0, ()))) := by kernel_rfl
theorem F112.eq (k : Nat) (a0 : (List (Int × Int × Int × List Int)) × (List (Int × Int × Int × Bool × (Int × Int) × Int × Int × (List Int) × (List Int) × (List Int) × Int × Int × (List (Int × List Int)) × (List (Int × List Int)) × Int × (List (Int × Int)) × Int)) × (List Int) × Int) :
  evF F112.C k [F112.L0 k, F112.L2 k, F112.L1 k] Tryz.f43 [.imm U1] [(.ow I6)] (a0, ()) some = F112 k a0 := by kernel_rfl
def F113.S : FSem := ⟨14, [.imm U1], [.bool], fun k x => F113 k x.1⟩
def F113.C : Ctx := ⟨tis, etys, [F16.S, F28.S, F70.S, F108.S, F109.S, F110.S, F23.S, F112.S], [0, 1, 2, 3, 4, 5, 6, 7, 8, 9, 10, 11, 12, 13, 14, 15, 86, 90, 101], [], 102, []⟩
def F113.L0 {R : Type} (k : Nat) : LC R := ⟨0, ⟨[(7, .arr 0), (10, .arr 1), (15, .val I6)], [.arr U5, .arr U5]⟩, [(.ret, ⟨[(2, .val .bool)], []⟩), (.ex 0, ⟨[], []⟩)], fun x e => F113.loop0 k k x.1.1 x.2.1 x.2.2.1 (fun u0 => e (.inl ((u0, ()), ()))) (fun _ => e (.inr (((), ()))))⟩
theorem F113.r0 {R : Type} (k j : Nat) (s15 : Int) (l7 : List (Int × Int × Int)) (l10 : List (Int × Int × Int)) (e : Outs (F113.L0 (R := R) k).outs -> Option R) :
  q27 F113.C k [] (F113.L0 (R := R) k).inn (F113.L0 (R := R) k).outs (q12 Tryz.f14 0) 1 ((s15, ()), (l7, l10, ())) (fun x => F113.loop0 k j x.1.1 x.2.1 x.2.2.1 (fun u0 => e (.inl ((u0, ()), ()))) (fun _ => e (.inr (((), ()))))) e =
  F113.loop0 k (j + 1) s15 l7 l10 (fun u0 => e (.inl ((u0, ()), ()))) (fun _ => e (.inr (((), ())))) := by kernel_rfl
theorem F113.eq (k : Nat) (a0 : (List (Int × Int × Int × List Int)) × (List (Int × Int × Int × Bool × (Int × Int) × Int × Int × (List Int) × (List Int) × (List Int) × Int × Int × (List (Int × List Int)) × (List (Int × List Int)) × Int × (List (Int × Int)) × Int)) × (List Int) × Int) :
  evF F113.C k [F113.L0 k] Tryz.f14 [.imm U1] [.bool] (a0, ()) some = F113 k a0 := by kernel_rfl
def F114.S : FSem := ⟨12, [], [.bool], fun k x => F114 k⟩
def F114.C : Ctx := ⟨tis, etys, [F8.S, F16.S, F23.S, F70.S], [0, 1, 2, 4, 5, 6, 7, 8], [], 85, []⟩
theorem F114.eq (k : Nat) :
  evF F114.C k [] Tryz.f12 [] [.bool] () some = F114 k := by kernel_rfl
def F115.S : FSem := ⟨5, [.imm U4, .imm I6], [.bool], fun k x => F115 k x.1 x.2.1⟩
def F115.C : Ctx := ⟨tis, etys, [F4.S, F5.S, F9.S, F16.S, F23.S, F113.S, F25.S, F114.S], [0, 1, 4, 5, 6, 7, 8, 9, 10, 11, 12, 13, 14, 47, 51, 75, 98], [], 112, []⟩
def F115.L1 {R : Type} (k : Nat) : LC R := ⟨2, ⟨[(11, .arr 0), (12, .val I6), (13, .val .bool), (14, .val I6)], [.arr I6]⟩, [(.ex 2, ⟨[(13, .val .bool)], []⟩)], fun x e => F115.loop1 k k x.1.1 x.1.2.1 x.1.2.2.1 x.2.1 (fun u0 => e ((u0, ()), ()))⟩
theorem F115.r1 {R : Type} (k j : Nat) (s12 : Int) (s13 : Bool) (s14 : Int) (l11 : List Int) (e : Outs (F115.L1 (R := R) k).outs -> Option R) :
  q27 F115.C k [] (F115.L1 (R := R) k).inn (F115.L1 (R := R) k).outs (q12 Tryz.f5 1) 2 ((s12, s13, s14, ()), (l11, ())) (fun x => F115.loop1 k j x.1.1 x.1.2.1 x.1.2.2.1 x.2.1 (fun u0 => e ((u0, ()), ()))) e =
  F115.loop1 k (j + 1) s12 s13 s14 l11 (fun u0 => e ((u0, ()), ())) := by kernel_rfl
def F115.L0 {R : Type} (k : Nat) : LC R := ⟨0, ⟨[(6, .ptr 0), (9, .arr 1), (10, .val I6)], [.box (some U1) [U7, (.sl U0), U4, I6], .arr I6]⟩, [(.ret, ⟨[(4, .val .bool)], []⟩), (.ex 0, ⟨[(6, .ptr 0)], [.box (some U1) [U7, (.sl U0), U4, I6]]⟩)], fun x e => F115.loop0 k k x.1.1 x.2.1.1 x.2.1.2.1 x.2.1.2.2.1 x.2.1.2.2.2.1 x.2.2.1 (fun u0 => e (.inl ((u0, ()), ()))) (fun u0 u1 u2 u3 => e (.inr (((), ((u0, u1, u2, u3, ()), ())))))⟩
theorem F115.r0 {R : Type} (k j : Nat) (s10 : Int) (b6_0 : List (Int × Int × Int × List Int)) (b6_1 : List (Int × Int × Int × Bool × (Int × Int) × Int × Int × (List Int) × (List Int) × (List Int) × Int × Int × (List (Int × List Int)) × (List (Int × List Int)) × Int × (List (Int × Int)) × Int)) (b6_2 : List Int) (b6_3 : Int) (l9 : List Int) (e : Outs (F115.L0 (R := R) k).outs -> Option R) :
  q27 F115.C k [F115.L1 k] (F115.L0 (R := R) k).inn (F115.L0 (R := R) k).outs (q12 Tryz.f5 0) 1 ((s10, ()), ((b6_0, b6_1, b6_2, b6_3, ()), l9, ())) (fun x => F115.loop0 k j x.1.1 x.2.1.1 x.2.1.2.1 x.2.1.2.2.1 x.2.1.2.2.2.1 x.2.2.1 (fun u0 => e (.inl ((u0, ()), ()))) (fun u0 u1 u2 u3 => e (.inr (((), ((u0, u1, u2, u3, ()), ())))))) e =
  F115.loop0 k (j + 1) s10 b6_0 b6_1 b6_2 b6_3 l9 (fun u0 => e (.inl ((u0, ()), ()))) (fun u0 u1 u2 u3 => e (.inr (((), ((u0, u1, u2, u3, ()), ()))))) := by kernel_rfl
theorem F115.eq (k : Nat) (a0 : List Int) (a1 : Int) :
  evF F115.C k [F115.L1 k, F115.L0 k] Tryz.f5 [.imm U4, .imm I6] [.bool] (a0, a1, ()) some = F115 k a0 a1 := by kernel_rfl
end
end Go.Lf.T
