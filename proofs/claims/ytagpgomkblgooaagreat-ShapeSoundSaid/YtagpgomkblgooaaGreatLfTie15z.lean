import Derived.Test.YtagpgomkblgooaaGreatLfSh15z
import Derived.KernelRfl
import Derived.Test.YtagpgomkblgooaaGreatProg
set_option linter.unusedVariables false
set_option maxRecDepth 100000
namespace Go.Lf.T
open Go Go.Lf
abbrev I6 : Ty := .int .i64

def tis : List (TypeId × TI) := [
  (3, ⟨1, 8, .int .i64, [.int .i64 0], []⟩),
  (4, ⟨1, 1, .bool, [.bool false], []⟩),
  (22, ⟨1, 24, .slice 3, [.nils], []⟩),
  (26, ⟨4, 48, .struct [(0, 1), (1, 1), (2, 1), (3, 1)], [.int .i64 0, .int .i64 0, .int .i64 0, .nils], []⟩),
  (30, ⟨2, 16, .struct [(0, 1), (1, 1)], [.int .i64 0, .int .i64 0], [true, true]⟩),
  (31, ⟨1, 24, .slice 59, [.nils], []⟩),
  (32, ⟨1, 24, .slice 61, [.nils], []⟩),
  (34, ⟨18, 240, .struct [(0, 1), (1, 1), (2, 1), (3, 1), (4, 2), (6, 1), (7, 1), (8, 1), (9, 1), (10, 1), (11, 1), (12, 1), (13, 1), (14, 1), (15, 1), (16, 1), (17, 1)], [.int .i64 0, .int .i64 0, .int .i64 0, .bool false, .int .i64 0, .int .i64 0, .int .i64 0, .int .i64 0, .nils, .nils, .nils, .int .i64 0, .int .i64 0, .nils, .nils, .int .i64 0, .nils, .int .i64 0], []⟩),
  (37, ⟨3, 24, .struct [(0, 1), (1, 1), (2, 1)], [.int .i64 0, .int .i64 0, .int .i64 0], [true, true, true]⟩),
  (51, ⟨2, 32, .struct [(0, 1), (1, 1)], [.nils, .int .i64 0], []⟩),
  (59, ⟨2, 32, .struct [(0, 1), (1, 1)], [.int .i64 0, .nils], []⟩),
  (61, ⟨2, 16, .struct [(0, 1), (1, 1)], [.int .i64 0, .int .i64 0], [true, true]⟩),
  (70, ⟨4, 32, .struct [(0, 1), (1, 1), (2, 1), (3, 1)], [.int .i64 0, .int .i64 0, .int .i64 0, .int .i64 0], [true, true, true, true]⟩),
  (97, ⟨1, 8, .int .u64, [.int .u64 0], []⟩),
  (107, ⟨1, 24, .slice 109, [.nils], []⟩),
  (109, ⟨2, 16, .struct [(0, 1), (1, 1)], [.int .i64 0, .int .i64 0], [true, true]⟩),
  (120, ⟨2, 16, .struct [(0, 1), (1, 1)], [.int .i64 0, .int .i64 0], [true, true]⟩),
  (125, ⟨1, 24, .slice 127, [.nils], []⟩),
  (127, ⟨2, 16, .struct [(0, 1), (1, 1)], [.int .i64 0, .int .i64 0], [true, true]⟩)]

def etys : List (TypeId × Ty) := [
  (3, I6),
  (26, (.pair I6 (.pair I6 (.pair I6 (.sl I6))))),
  (30, (.pair I6 I6)),
  (34, (.pair I6 (.pair I6 (.pair I6 (.pair .bool (.pair (.pair I6 I6) (.pair I6 (.pair I6 (.pair (.sl I6) (.pair (.sl I6) (.pair (.sl I6) (.pair I6 (.pair I6 (.pair (.sl (.pair I6 (.sl I6))) (.pair (.sl (.pair I6 (.sl I6))) (.pair I6 (.pair (.sl (.pair I6 I6)) I6))))))))))))))))),
  (37, (.pair I6 (.pair I6 I6))),
  (51, (.pair (.sl I6) I6)),
  (59, (.pair I6 (.sl I6))),
  (61, (.pair I6 I6)),
  (70, (.pair I6 (.pair I6 (.pair I6 I6)))),
  (109, (.pair I6 I6)),
  (120, (.pair I6 I6)),
  (127, (.pair I6 I6))]

noncomputable def F4.S : FSem := ⟨4, [.imm (.sl I6)], [(.bx (.pair (.sl I6) I6))], fun k x => F4 k x.1⟩
noncomputable def F4.C : Ctx := ⟨tis, etys, [], [0, 2], [], 6⟩
theorem F4.eq (k : Nat) (a0 : List Int) :
    evF F4.C k [] Proofs.Tryz.f4 [.imm (.sl I6)] [(.bx (.pair (.sl I6) I6))] (a0, ()) some = F4 k a0 := by kernel_rfl

noncomputable def F5.S : FSem := ⟨21, [.imm I6, .imm I6], [I6], fun k x => F5 k x.1 x.2.1⟩
noncomputable def F5.C : Ctx := ⟨tis, etys, [], [0, 1, 4, 5, 10], [], 15⟩
theorem F5.eq (k : Nat) (a0 : Int) (a1 : Int) :
    evF F5.C k [] Proofs.Tryz.f21 [.imm I6, .imm I6] [I6] (a0, a1, ()) some = F5 k a0 a1 := by kernel_rfl

noncomputable def F6.S : FSem := ⟨9, [.bor (.pair (.sl I6) I6) true, .imm I6], [I6], fun k x => F6 k x.1 x.2.1⟩
noncomputable def F6.C : Ctx := ⟨tis, etys, [F5.S], [0, 1, 4, 18], [0], 39⟩
theorem F6.eq (k : Nat) (a0 : (List Int) × Int) (a1 : Int) :
    evF F6.C k [] Proofs.Tryz.f9 [.bor (.pair (.sl I6) I6) true, .imm I6] [I6] (a0, a1, ()) some = F6 k a0 a1 := by kernel_rfl

noncomputable def F7.S : FSem := ⟨16, [.bor (.pair (.sl I6) I6) true, .imm (.sl I6)], [I6], fun k x => F7 k x.1 x.2.1⟩
noncomputable def F7.C : Ctx := ⟨tis, etys, [F6.S], [0, 1, 4], [0], 12⟩
theorem F7.eq (k : Nat) (a0 : (List Int) × Int) (a1 : List Int) :
    evF F7.C k [] Proofs.Tryz.f16 [.bor (.pair (.sl I6) I6) true, .imm (.sl I6)] [I6] (a0, a1, ()) some = F7 k a0 a1 := by kernel_rfl

noncomputable def F8.S : FSem := ⟨6, [.bor (.pair (.sl I6) I6) true, .imm I6, .imm I6], [(.pair I6 (.pair I6 (.pair I6 (.sl I6))))], fun k x => F8 k x.1 x.2.1 x.2.2.1⟩
noncomputable def F8.C : Ctx := ⟨tis, etys, [F7.S, F6.S], [0, 1, 2, 6, 7, 8, 23], [0], 46⟩
noncomputable def F8.L0 {R : Type} (k : Nat) : LC R := ⟨0, ⟨[(0, .ptr 0), (7, .ptr 1), (8, .val I6)], [.box (some (.pair (.sl I6) I6)) [(.sl I6), I6], .box (some (.pair I6 (.pair I6 (.pair I6 (.sl I6))))) [I6, I6, I6, (.ow I6)]]⟩, [(.ex 0, ⟨[(0, .ptr 0), (7, .ptr 1)], [.box (some (.pair (.sl I6) I6)) [(.sl I6), I6], .box (some (.pair I6 (.pair I6 (.pair I6 (.sl I6))))) [I6, I6, I6, (.ow I6)]]⟩)], fun x e => F8.loop0 k k x.1.1 x.2.1.1 x.2.1.2.1 x.2.2.1.1 x.2.2.1.2.1 x.2.2.1.2.2.1 x.2.2.1.2.2.2.1 (fun u0 u1 u2 u3 u4 u5 => e ((), ((u0, u1, ()), (u2, u3, u4, u5, ()), ())))⟩
theorem F8.r0 {R : Type} (k j : Nat) (s8 : Int) (b0_0 : List Int) (b0_1 : Int) (b7_0 : Int) (b7_1 : Int) (b7_2 : Int) (b7_3 : List Int) (e : Outs (F8.L0 (R := R) k).outs → Option R) :
    evRound F8.C k [] (F8.L0 (R := R) k).inn (F8.L0 (R := R) k).outs (loopOf Proofs.Tryz.f6 0) 1 ((s8, ()), ((b0_0, b0_1, ()), (b7_0, b7_1, b7_2, b7_3, ()), ())) (fun x => F8.loop0 k j x.1.1 x.2.1.1 x.2.1.2.1 x.2.2.1.1 x.2.2.1.2.1 x.2.2.1.2.2.1 x.2.2.1.2.2.2.1 (fun u0 u1 u2 u3 u4 u5 => e ((), ((u0, u1, ()), (u2, u3, u4, u5, ()), ())))) e =
    F8.loop0 k (j + 1) s8 b0_0 b0_1 b7_0 b7_1 b7_2 b7_3 (fun u0 u1 u2 u3 u4 u5 => e ((), ((u0, u1, ()), (u2, u3, u4, u5, ()), ()))) := by kernel_rfl
theorem F8.eq (k : Nat) (a0 : (List Int) × Int) (a1 : Int) (a2 : Int) :
    evF F8.C k [F8.L0 k] Proofs.Tryz.f6 [.bor (.pair (.sl I6) I6) true, .imm I6, .imm I6] [(.pair I6 (.pair I6 (.pair I6 (.sl I6))))] (a0, a1, a2, ()) some = F8 k a0 a1 a2 := by kernel_rfl

noncomputable def F9.S : FSem := ⟨5, [.bor (.pair (.sl I6) I6) true], [(.pair I6 (.pair I6 (.pair I6 (.sl I6))))], fun k x => F9 k x.1⟩
noncomputable def F9.C : Ctx := ⟨tis, etys, [F6.S, F8.S], [0, 2], [0], 11⟩
theorem F9.eq (k : Nat) (a0 : (List Int) × Int) :
    evF F9.C k [] Proofs.Tryz.f5 [.bor (.pair (.sl I6) I6) true] [(.pair I6 (.pair I6 (.pair I6 (.sl I6))))] (a0, ()) some = F9 k a0 := by kernel_rfl

noncomputable def F10.S : FSem := ⟨8, [.imm (.pair I6 (.pair I6 (.pair I6 (.sl I6))))], [(.pair I6 (.pair I6 I6))], fun k x => F10 k x.1⟩
noncomputable def F10.C : Ctx := ⟨tis, etys, [], [0, 1, 2], [], 10⟩
theorem F10.eq (k : Nat) (a0 : Int × Int × Int × List Int) :
    evF F10.C k [] Proofs.Tryz.f8 [.imm (.pair I6 (.pair I6 (.pair I6 (.sl I6))))] [(.pair I6 (.pair I6 I6))] (a0, ()) some = F10 k a0 := by kernel_rfl

noncomputable def F11.S : FSem := ⟨17, [.bor (.pair (.sl I6) I6) true, .imm I6], [(.pair I6 I6)], fun k x => F11 k x.1 x.2.1⟩
noncomputable def F11.C : Ctx := ⟨tis, etys, [F6.S, F7.S], [0, 1, 4, 5, 11], [0], 20⟩
theorem F11.eq (k : Nat) (a0 : (List Int) × Int) (a1 : Int) :
    evF F11.C k [] Proofs.Tryz.f17 [.bor (.pair (.sl I6) I6) true, .imm I6] [(.pair I6 I6)] (a0, a1, ()) some = F11 k a0 a1 := by kernel_rfl

noncomputable def F12.S : FSem := ⟨18, [.bor (.pair (.sl I6) I6) true, .imm I6], [(.sl I6)], fun k x => F12 k x.1 x.2.1⟩
noncomputable def F12.C : Ctx := ⟨tis, etys, [F6.S, F7.S], [0, 1, 4, 5, 6, 9], [0], 22⟩
noncomputable def F12.L0 {R : Type} (k : Nat) : LC R := ⟨0, ⟨[(0, .ptr 0), (1, .val I6), (5, .arr 1), (6, .val I6)], [.box (some (.pair (.sl I6) I6)) [(.sl I6), I6], .arr I6]⟩, [(.ex 0, ⟨[(0, .ptr 0), (5, .arr 1)], [.box (some (.pair (.sl I6) I6)) [(.sl I6), I6], .arr I6]⟩)], fun x e => F12.loop0 k k x.1.1 x.1.2.1 x.2.1.1 x.2.1.2.1 x.2.2.1 (fun u0 u1 u2 => e ((), ((u0, u1, ()), u2, ())))⟩
theorem F12.r0 {R : Type} (k j : Nat) (s1 : Int) (s6 : Int) (b0_0 : List Int) (b0_1 : Int) (l5 : List Int) (e : Outs (F12.L0 (R := R) k).outs → Option R) :
    evRound F12.C k [] (F12.L0 (R := R) k).inn (F12.L0 (R := R) k).outs (loopOf Proofs.Tryz.f18 0) 1 ((s1, s6, ()), ((b0_0, b0_1, ()), l5, ())) (fun x => F12.loop0 k j x.1.1 x.1.2.1 x.2.1.1 x.2.1.2.1 x.2.2.1 (fun u0 u1 u2 => e ((), ((u0, u1, ()), u2, ())))) e =
    F12.loop0 k (j + 1) s1 s6 b0_0 b0_1 l5 (fun u0 u1 u2 => e ((), ((u0, u1, ()), u2, ()))) := by kernel_rfl
theorem F12.eq (k : Nat) (a0 : (List Int) × Int) (a1 : Int) :
    evF F12.C k [F12.L0 k] Proofs.Tryz.f18 [.bor (.pair (.sl I6) I6) true, .imm I6] [(.sl I6)] (a0, a1, ()) some = F12 k a0 a1 := by kernel_rfl

noncomputable def F13.S : FSem := ⟨59, [.imm I6], [.bool], fun k x => F13 k x.1⟩
noncomputable def F13.C : Ctx := ⟨tis, etys, [], [0, 2], [], 9⟩
theorem F13.eq (k : Nat) (a0 : Int) :
    evF F13.C k [] Proofs.Tryz.f59 [.imm I6] [.bool] (a0, ()) some = F13 k a0 := by kernel_rfl

noncomputable def F14.S : FSem := ⟨37, [.imm I6, .imm I6, .imm I6], [(.ow (.pair I6 (.sl I6))), I6], fun k x => F14 k x.1 x.2.1 x.2.2.1⟩
noncomputable def F14.C : Ctx := ⟨tis, etys, [F13.S], [0, 1, 2, 6, 7, 8, 9, 10, 11, 12, 13, 14, 22, 28, 31, 50], [], 80⟩
noncomputable def F14.L0 {R : Type} (k : Nat) : LC R := ⟨0, ⟨[(0, .val I6), (1, .val I6), (2, .val I6), (8, .arr 0), (9, .val I6)], [.arr (.pair I6 (.sl I6))]⟩, [(.ex 0, ⟨[(8, .arr 0)], [.arr (.pair I6 (.sl I6))]⟩)], fun x e => F14.loop0 k k x.1.1 x.1.2.1 x.1.2.2.1 x.1.2.2.2.1 x.2.1 (fun u0 => e ((), (u0, ())))⟩
theorem F14.r0 {R : Type} (k j : Nat) (s0 : Int) (s1 : Int) (s2 : Int) (s9 : Int) (l8 : List (Int × List Int)) (e : Outs (F14.L0 (R := R) k).outs → Option R) :
    evRound F14.C k [] (F14.L0 (R := R) k).inn (F14.L0 (R := R) k).outs (loopOf Proofs.Tryz.f37 0) 1 ((s0, s1, s2, s9, ()), (l8, ())) (fun x => F14.loop0 k j x.1.1 x.1.2.1 x.1.2.2.1 x.1.2.2.2.1 x.2.1 (fun u0 => e ((), (u0, ())))) e =
    F14.loop0 k (j + 1) s0 s1 s2 s9 l8 (fun u0 => e ((), (u0, ()))) := by kernel_rfl
theorem F14.eq (k : Nat) (a0 : Int) (a1 : Int) (a2 : Int) :
    evF F14.C k [F14.L0 k] Proofs.Tryz.f37 [.imm I6, .imm I6, .imm I6] [(.ow (.pair I6 (.sl I6))), I6] (a0, a1, a2, ()) some = F14 k a0 a1 a2 := by kernel_rfl

noncomputable def F15.S : FSem := ⟨60, [.imm I6, .imm (.sl I6)], [(.sl I6)], fun k x => F15 k x.1 x.2.1⟩
noncomputable def F15.C : Ctx := ⟨tis, etys, [], [0, 1, 4, 5, 6, 7, 8, 9, 10, 11, 12, 16, 35, 67, 73, 84], [], 96⟩
noncomputable def F15.L0 {R : Type} (k : Nat) : LC R := ⟨0, ⟨[(1, .val (.sl I6)), (5, .val I6), (6, .val I6)], []⟩, [(.ex 0, ⟨[(5, .val I6)], []⟩)], fun x e => F15.loop0 k k x.1.1 x.1.2.1 x.1.2.2.1 (fun u0 => e ((u0, ()), ()))⟩
theorem F15.r0 {R : Type} (k j : Nat) (s1 : List Int) (s5 : Int) (s6 : Int) (e : Outs (F15.L0 (R := R) k).outs → Option R) :
    evRound F15.C k [] (F15.L0 (R := R) k).inn (F15.L0 (R := R) k).outs (loopOf Proofs.Tryz.f60 0) 1 ((s1, s5, s6, ()), ()) (fun x => F15.loop0 k j x.1.1 x.1.2.1 x.1.2.2.1 (fun u0 => e ((u0, ()), ()))) e =
    F15.loop0 k (j + 1) s1 s5 s6 (fun u0 => e ((u0, ()), ())) := by kernel_rfl
noncomputable def F15.L1 {R : Type} (k : Nat) : LC R := ⟨2, ⟨[(0, .val I6), (1, .val (.sl I6)), (5, .val I6), (7, .arr 0), (8, .arr 1), (9, .val I6), (10, .val I6)], [.arr I6, .arr I6]⟩, [(.ex 2, ⟨[(7, .arr 0), (8, .arr 1), (9, .val I6)], [.arr I6, .arr I6]⟩)], fun x e => F15.loop1 k k x.1.1 x.1.2.1 x.1.2.2.1 x.1.2.2.2.1 x.1.2.2.2.2.1 x.2.1 x.2.2.1 (fun u0 u1 u2 => e ((u0, ()), (u1, u2, ())))⟩
theorem F15.r1 {R : Type} (k j : Nat) (s0 : Int) (s1 : List Int) (s5 : Int) (s9 : Int) (s10 : Int) (l7 : List Int) (l8 : List Int) (e : Outs (F15.L1 (R := R) k).outs → Option R) :
    evRound F15.C k [] (F15.L1 (R := R) k).inn (F15.L1 (R := R) k).outs (loopOf Proofs.Tryz.f60 1) 2 ((s0, s1, s5, s9, s10, ()), (l7, l8, ())) (fun x => F15.loop1 k j x.1.1 x.1.2.1 x.1.2.2.1 x.1.2.2.2.1 x.1.2.2.2.2.1 x.2.1 x.2.2.1 (fun u0 u1 u2 => e ((u0, ()), (u1, u2, ())))) e =
    F15.loop1 k (j + 1) s0 s1 s5 s9 s10 l7 l8 (fun u0 u1 u2 => e ((u0, ()), (u1, u2, ()))) := by kernel_rfl
noncomputable def F15.L3 {R : Type} (k : Nat) : LC R := ⟨6, ⟨[(8, .arr 0), (11, .val I6), (12, .val I6)], [.arr I6]⟩, [(.ex 6, ⟨[(8, .arr 0), (11, .val I6)], [.arr I6]⟩)], fun x e => F15.loop3 k k x.1.1 x.1.2.1 x.2.1 (fun u0 u1 => e ((u0, ()), (u1, ())))⟩
theorem F15.r3 {R : Type} (k j : Nat) (s11 : Int) (s12 : Int) (l8 : List Int) (e : Outs (F15.L3 (R := R) k).outs → Option R) :
    evRound F15.C k [] (F15.L3 (R := R) k).inn (F15.L3 (R := R) k).outs (loopOf Proofs.Tryz.f60 3) 4 ((s11, s12, ()), (l8, ())) (fun x => F15.loop3 k j x.1.1 x.1.2.1 x.2.1 (fun u0 u1 => e ((u0, ()), (u1, ())))) e =
    F15.loop3 k (j + 1) s11 s12 l8 (fun u0 u1 => e ((u0, ()), (u1, ()))) := by kernel_rfl
noncomputable def F15.L2 {R : Type} (k : Nat) : LC R := ⟨4, ⟨[(7, .arr 0), (8, .arr 1), (9, .val I6)], [.arr I6, .arr I6]⟩, [(.ex 4, ⟨[(7, .arr 0)], [.arr I6]⟩)], fun x e => F15.loop2 k k x.1.1 x.2.1 x.2.2.1 (fun u0 => e ((), (u0, ())))⟩
theorem F15.r2 {R : Type} (k j : Nat) (s9 : Int) (l7 : List Int) (l8 : List Int) (e : Outs (F15.L2 (R := R) k).outs → Option R) :
    evRound F15.C k [F15.L3 k] (F15.L2 (R := R) k).inn (F15.L2 (R := R) k).outs (loopOf Proofs.Tryz.f60 2) 3 ((s9, ()), (l7, l8, ())) (fun x => F15.loop2 k j x.1.1 x.2.1 x.2.2.1 (fun u0 => e ((), (u0, ())))) e =
    F15.loop2 k (j + 1) s9 l7 l8 (fun u0 => e ((), (u0, ()))) := by kernel_rfl
theorem F15.eq (k : Nat) (a0 : Int) (a1 : List Int) :
    evF F15.C k [F15.L0 k, F15.L1 k, F15.L3 k, F15.L2 k] Proofs.Tryz.f60 [.imm I6, .imm (.sl I6)] [(.sl I6)] (a0, a1, ()) some = F15 k a0 a1 := by kernel_rfl

noncomputable def F16.S : FSem := ⟨38, [.imm I6, .imm I6, .imm I6], [(.sl (.pair I6 (.sl I6))), I6], fun k x => F16 k x.1 x.2.1 x.2.2.1⟩
noncomputable def F16.C : Ctx := ⟨tis, etys, [F13.S, F15.S], [0, 1, 2, 6, 7, 8, 9, 10, 11, 12, 13, 14, 22, 28, 31, 51, 71], [], 83⟩
noncomputable def F16.L1 {R : Type} (k : Nat) : LC R := ⟨2, ⟨[(1, .val I6), (10, .val I6), (11, .val I6), (13, .arr 0), (14, .val I6)], [.arr I6]⟩, [(.ex 2, ⟨[(13, .arr 0)], [.arr I6]⟩)], fun x e => F16.loop1 k k x.1.1 x.1.2.1 x.1.2.2.1 x.1.2.2.2.1 x.2.1 (fun u0 => e ((), (u0, ())))⟩
theorem F16.r1 {R : Type} (k j : Nat) (s1 : Int) (s10 : Int) (s11 : Int) (s14 : Int) (l13 : List Int) (e : Outs (F16.L1 (R := R) k).outs → Option R) :
    evRound F16.C k [] (F16.L1 (R := R) k).inn (F16.L1 (R := R) k).outs (loopOf Proofs.Tryz.f38 1) 2 ((s1, s10, s11, s14, ()), (l13, ())) (fun x => F16.loop1 k j x.1.1 x.1.2.1 x.1.2.2.1 x.1.2.2.2.1 x.2.1 (fun u0 => e ((), (u0, ())))) e =
    F16.loop1 k (j + 1) s1 s10 s11 s14 l13 (fun u0 => e ((), (u0, ()))) := by kernel_rfl
noncomputable def F16.L0 {R : Type} (k : Nat) : LC R := ⟨0, ⟨[(0, .val I6), (1, .val I6), (2, .val I6), (8, .arr 0), (9, .val I6)], [.arr (.pair I6 (.sl I6))]⟩, [(.ret, ⟨[(6, .arr 0), (7, .val I6)], [.arr (.pair I6 (.sl I6))]⟩), (.ex 0, ⟨[(8, .arr 0)], [.arr (.pair I6 (.sl I6))]⟩)], fun x e => F16.loop0 k k x.1.1 x.1.2.1 x.1.2.2.1 x.1.2.2.2.1 x.2.1 (fun u0 u1 => e (.inl ((u0, ()), (u1, ())))) (fun u0 => e (.inr (((), (u0, ())))))⟩
theorem F16.r0 {R : Type} (k j : Nat) (s0 : Int) (s1 : Int) (s2 : Int) (s9 : Int) (l8 : List (Int × List Int)) (e : Outs (F16.L0 (R := R) k).outs → Option R) :
    evRound F16.C k [F16.L1 k] (F16.L0 (R := R) k).inn (F16.L0 (R := R) k).outs (loopOf Proofs.Tryz.f38 0) 1 ((s0, s1, s2, s9, ()), (l8, ())) (fun x => F16.loop0 k j x.1.1 x.1.2.1 x.1.2.2.1 x.1.2.2.2.1 x.2.1 (fun u0 u1 => e (.inl ((u0, ()), (u1, ())))) (fun u0 => e (.inr (((), (u0, ())))))) e =
    F16.loop0 k (j + 1) s0 s1 s2 s9 l8 (fun u0 u1 => e (.inl ((u0, ()), (u1, ())))) (fun u0 => e (.inr (((), (u0, ()))))) := by kernel_rfl
theorem F16.eq (k : Nat) (a0 : Int) (a1 : Int) (a2 : Int) :
    evF F16.C k [F16.L1 k, F16.L0 k] Proofs.Tryz.f38 [.imm I6, .imm I6, .imm I6] [(.sl (.pair I6 (.sl I6))), I6] (a0, a1, a2, ()) some = F16 k a0 a1 a2 := by kernel_rfl

noncomputable def F17.S : FSem := ⟨19, [.bor (.pair (.sl I6) I6) true, .imm I6], [(.sl (.pair I6 (.sl I6)))], fun k x => F17 k x.1 x.2.1⟩
noncomputable def F17.C : Ctx := ⟨tis, etys, [F6.S, F14.S, F16.S, F12.S], [0, 1, 4, 5, 6, 8, 9, 10, 22, 30, 36, 41], [0], 57⟩
noncomputable def F17.L0 {R : Type} (k : Nat) : LC R := ⟨0, ⟨[(0, .ptr 0), (1, .val I6), (6, .arr 1), (10, .val I6)], [.box (some (.pair (.sl I6) I6)) [(.sl I6), I6], .arr (.pair I6 (.sl I6))]⟩, [(.ex 0, ⟨[(0, .ptr 0), (6, .arr 1)], [.box (some (.pair (.sl I6) I6)) [(.sl I6), I6], .arr (.pair I6 (.sl I6))]⟩)], fun x e => F17.loop0 k k x.1.1 x.1.2.1 x.2.1.1 x.2.1.2.1 x.2.2.1 (fun u0 u1 u2 => e ((), ((u0, u1, ()), u2, ())))⟩
theorem F17.r0 {R : Type} (k j : Nat) (s1 : Int) (s10 : Int) (b0_0 : List Int) (b0_1 : Int) (l6 : List (Int × List Int)) (e : Outs (F17.L0 (R := R) k).outs → Option R) :
    evRound F17.C k [] (F17.L0 (R := R) k).inn (F17.L0 (R := R) k).outs (loopOf Proofs.Tryz.f19 0) 1 ((s1, s10, ()), ((b0_0, b0_1, ()), l6, ())) (fun x => F17.loop0 k j x.1.1 x.1.2.1 x.2.1.1 x.2.1.2.1 x.2.2.1 (fun u0 u1 u2 => e ((), ((u0, u1, ()), u2, ())))) e =
    F17.loop0 k (j + 1) s1 s10 b0_0 b0_1 l6 (fun u0 u1 u2 => e ((), ((u0, u1, ()), u2, ()))) := by kernel_rfl
theorem F17.eq (k : Nat) (a0 : (List Int) × Int) (a1 : Int) :
    evF F17.C k [F17.L0 k] Proofs.Tryz.f19 [.bor (.pair (.sl I6) I6) true, .imm I6] [(.sl (.pair I6 (.sl I6)))] (a0, a1, ()) some = F17 k a0 a1 := by kernel_rfl

noncomputable def F18.S : FSem := ⟨20, [.bor (.pair (.sl I6) I6) true, .imm .bool], [(.ow (.pair I6 I6))], fun k x => F18 k x.1 x.2.1⟩
noncomputable def F18.C : Ctx := ⟨tis, etys, [F7.S, F6.S], [0, 1, 4, 5, 6, 9, 21, 25, 30, 46], [0], 55⟩
noncomputable def F18.L0 {R : Type} (k : Nat) : LC R := ⟨0, ⟨[(0, .ptr 0), (5, .arr 1), (6, .val I6)], [.box (some (.pair (.sl I6) I6)) [(.sl I6), I6], .arr (.pair I6 I6)]⟩, [(.ex 0, ⟨[(0, .ptr 0), (5, .arr 1)], [.box (some (.pair (.sl I6) I6)) [(.sl I6), I6], .arr (.pair I6 I6)]⟩)], fun x e => F18.loop0 k k x.1.1 x.2.1.1 x.2.1.2.1 x.2.2.1 (fun u0 u1 u2 => e ((), ((u0, u1, ()), u2, ())))⟩
theorem F18.r0 {R : Type} (k j : Nat) (s6 : Int) (b0_0 : List Int) (b0_1 : Int) (l5 : List (Int × Int)) (e : Outs (F18.L0 (R := R) k).outs → Option R) :
    evRound F18.C k [] (F18.L0 (R := R) k).inn (F18.L0 (R := R) k).outs (loopOf Proofs.Tryz.f20 0) 1 ((s6, ()), ((b0_0, b0_1, ()), l5, ())) (fun x => F18.loop0 k j x.1.1 x.2.1.1 x.2.1.2.1 x.2.2.1 (fun u0 u1 u2 => e ((), ((u0, u1, ()), u2, ())))) e =
    F18.loop0 k (j + 1) s6 b0_0 b0_1 l5 (fun u0 u1 u2 => e ((), ((u0, u1, ()), u2, ()))) := by kernel_rfl
theorem F18.eq (k : Nat) (a0 : (List Int) × Int) (a1 : Bool) :
    evF F18.C k [F18.L0 k] Proofs.Tryz.f20 [.bor (.pair (.sl I6) I6) true, .imm .bool] [(.ow (.pair I6 I6))] (a0, a1, ()) some = F18 k a0 a1 := by kernel_rfl

noncomputable def F19.S : FSem := ⟨7, [.bor (.pair (.sl I6) I6) true, .imm I6, .imm (.pair I6 (.pair I6 I6)), .imm I6], [(.pair I6 (.pair I6 (.pair I6 (.pair .bool (.pair (.pair I6 I6) (.pair I6 (.pair I6 (.pair (.sl I6) (.pair (.sl I6) (.pair (.sl I6) (.pair I6 (.pair I6 (.pair (.sl (.pair I6 (.sl I6))) (.pair (.sl (.pair I6 (.sl I6))) (.pair I6 (.pair (.sl (.pair I6 I6)) I6))))))))))))))))], fun k x => F19 k x.1 x.2.1 x.2.2.1 x.2.2.2.1⟩
noncomputable def F19.C : Ctx := ⟨tis, etys, [F6.S, F7.S, F11.S, F12.S, F17.S, F18.S], [0, 1, 2, 3, 6, 8, 9, 10, 23, 24, 52, 79, 100, 106, 114], [0], 126⟩
theorem F19.eq (k : Nat) (a0 : (List Int) × Int) (a1 : Int) (a2 : Int × Int × Int) (a3 : Int) :
    evF F19.C k [] Proofs.Tryz.f7 [.bor (.pair (.sl I6) I6) true, .imm I6, .imm (.pair I6 (.pair I6 I6)), .imm I6] [(.pair I6 (.pair I6 (.pair I6 (.pair .bool (.pair (.pair I6 I6) (.pair I6 (.pair I6 (.pair (.sl I6) (.pair (.sl I6) (.pair (.sl I6) (.pair I6 (.pair I6 (.pair (.sl (.pair I6 (.sl I6))) (.pair (.sl (.pair I6 (.sl I6))) (.pair I6 (.pair (.sl (.pair I6 I6)) I6))))))))))))))))] (a0, a1, a2, a3, ()) some = F19 k a0 a1 a2 a3 := by kernel_rfl

noncomputable def F20.S : FSem := ⟨10, [.bor (.pair (.sl I6) I6) true, .imm (.pair I6 (.pair I6 (.pair I6 (.pair .bool (.pair (.pair I6 I6) (.pair I6 (.pair I6 (.pair (.sl I6) (.pair (.sl I6) (.pair (.sl I6) (.pair I6 (.pair I6 (.pair (.sl (.pair I6 (.sl I6))) (.pair (.sl (.pair I6 (.sl I6))) (.pair I6 (.pair (.sl (.pair I6 I6)) I6))))))))))))))))], [(.pair I6 (.pair I6 (.pair I6 (.pair .bool (.pair (.pair I6 I6) (.pair I6 (.pair I6 (.pair (.sl I6) (.pair (.sl I6) (.pair (.sl I6) (.pair I6 (.pair I6 (.pair (.sl (.pair I6 (.sl I6))) (.pair (.sl (.pair I6 (.sl I6))) (.pair I6 (.pair (.sl (.pair I6 I6)) I6))))))))))))))))], fun k x => F20 k x.1 x.2.1⟩
noncomputable def F20.C : Ctx := ⟨tis, etys, [F6.S, F7.S, F12.S], [0, 1, 3, 4, 6, 11, 16, 22, 28, 38, 44, 51, 58, 68, 86, 92, 108, 114, 124], [0], 137⟩
theorem F20.eq (k : Nat) (a0 : (List Int) × Int) (a1 : Int × Int × Int × Bool × (Int × Int) × Int × Int × (List Int) × (List Int) × (List Int) × Int × Int × (List (Int × List Int)) × (List (Int × List Int)) × Int × (List (Int × Int)) × Int) :
    evF F20.C k [] Proofs.Tryz.f10 [.bor (.pair (.sl I6) I6) true, .imm (.pair I6 (.pair I6 (.pair I6 (.pair .bool (.pair (.pair I6 I6) (.pair I6 (.pair I6 (.pair (.sl I6) (.pair (.sl I6) (.pair (.sl I6) (.pair I6 (.pair I6 (.pair (.sl (.pair I6 (.sl I6))) (.pair (.sl (.pair I6 (.sl I6))) (.pair I6 (.pair (.sl (.pair I6 I6)) I6))))))))))))))))] [(.pair I6 (.pair I6 (.pair I6 (.pair .bool (.pair (.pair I6 I6) (.pair I6 (.pair I6 (.pair (.sl I6) (.pair (.sl I6) (.pair (.sl I6) (.pair I6 (.pair I6 (.pair (.sl (.pair I6 (.sl I6))) (.pair (.sl (.pair I6 (.sl I6))) (.pair I6 (.pair (.sl (.pair I6 I6)) I6))))))))))))))))] (a0, a1, ()) some = F20 k a0 a1 := by kernel_rfl

noncomputable def F21.S : FSem := ⟨35, [.imm I6, .imm I6, .imm I6], [.bool], fun k x => F21 k x.1 x.2.1 x.2.2.1⟩
noncomputable def F21.C : Ctx := ⟨tis, etys, [], [0, 1, 2, 6], [], 15⟩
theorem F21.eq (k : Nat) (a0 : Int) (a1 : Int) (a2 : Int) :
    evF F21.C k [] Proofs.Tryz.f35 [.imm I6, .imm I6, .imm I6] [.bool] (a0, a1, a2, ()) some = F21 k a0 a1 a2 := by kernel_rfl

noncomputable def F22.S : FSem := ⟨39, [.imm .bool, .imm (.sl I6), .bor I6 true], [.bool], fun k x => F22 k x.1 x.2.1 x.2.2.1⟩
noncomputable def F22.C : Ctx := ⟨tis, etys, [], [0, 1, 2, 5, 7, 8, 9, 10, 11, 16], [2], 19⟩
noncomputable def F22.L0 {R : Type} (k : Nat) : LC R := ⟨0, ⟨[(2, .ptr 0), (8, .val (.sl I6)), (9, .val I6), (10, .val I6)], [.box (some I6) [I6]]⟩, [(.ret, ⟨[(2, .ptr 0), (5, .val .bool)], [.box (some I6) [I6]]⟩), (.ex 0, ⟨[(2, .ptr 0)], [.box (some I6) [I6]]⟩)], fun x e => F22.loop0 k k x.1.1 x.1.2.1 x.1.2.2.1 x.2.1.1 (fun u0 u1 => e (.inl ((u0, ()), ((u1, ()), ())))) (fun u0 => e (.inr (((), ((u0, ()), ())))))⟩
theorem F22.r0 {R : Type} (k j : Nat) (s8 : List Int) (s9 : Int) (s10 : Int) (b2_0 : Int) (e : Outs (F22.L0 (R := R) k).outs → Option R) :
    evRound F22.C k [] (F22.L0 (R := R) k).inn (F22.L0 (R := R) k).outs (loopOf Proofs.Tryz.f39 0) 1 ((s8, s9, s10, ()), ((b2_0, ()), ())) (fun x => F22.loop0 k j x.1.1 x.1.2.1 x.1.2.2.1 x.2.1.1 (fun u0 u1 => e (.inl ((u0, ()), ((u1, ()), ())))) (fun u0 => e (.inr (((), ((u0, ()), ())))))) e =
    F22.loop0 k (j + 1) s8 s9 s10 b2_0 (fun u0 u1 => e (.inl ((u0, ()), ((u1, ()), ())))) (fun u0 => e (.inr (((), ((u0, ()), ()))))) := by kernel_rfl
theorem F22.eq (k : Nat) (a0 : Bool) (a1 : List Int) (a2 : Int) :
    evF F22.C k [F22.L0 k] Proofs.Tryz.f39 [.imm .bool, .imm (.sl I6), .bor I6 true] [.bool] (a0, a1, a2, ()) some = F22 k a0 a1 a2 := by kernel_rfl

noncomputable def F23.S : FSem := ⟨24, [.imm I6], [.bool], fun k x => F23 k x.1⟩
noncomputable def F23.C : Ctx := ⟨tis, etys, [], [0, 2], [], 13⟩
theorem F23.eq (k : Nat) (a0 : Int) :
    evF F23.C k [] Proofs.Tryz.f24 [.imm I6] [.bool] (a0, ()) some = F23 k a0 := by kernel_rfl

noncomputable def F24.S : FSem := ⟨22, [.imm (.pair I6 (.pair I6 (.pair I6 (.pair .bool (.pair (.pair I6 I6) (.pair I6 (.pair I6 (.pair (.sl I6) (.pair (.sl I6) (.pair (.sl I6) (.pair I6 (.pair I6 (.pair (.sl (.pair I6 (.sl I6))) (.pair (.sl (.pair I6 (.sl I6))) (.pair I6 (.pair (.sl (.pair I6 I6)) I6))))))))))))))))], [.bool], fun k x => F24 k x.1⟩
noncomputable def F24.C : Ctx := ⟨tis, etys, [F21.S, F23.S, F22.S], [0, 1, 2, 3, 4, 18], [], 118⟩
noncomputable def F24.J4 {R : Type} (k : Nat) : LC R := ⟨9, ⟨[(1, .ptr 0), (3, .ptr 1)], [.box (some (.pair I6 (.pair I6 (.pair I6 (.pair .bool (.pair (.pair I6 I6) (.pair I6 (.pair I6 (.pair (.sl I6) (.pair (.sl I6) (.pair (.sl I6) (.pair I6 (.pair I6 (.pair (.sl (.pair I6 (.sl I6))) (.pair (.sl (.pair I6 (.sl I6))) (.pair I6 (.pair (.sl (.pair I6 I6)) I6))))))))))))))))) [I6, I6, I6, .bool, I6, I6, I6, I6, (.sl I6), (.sl I6), (.sl I6), I6, I6, (.sl (.pair I6 (.sl I6))), (.sl (.pair I6 (.sl I6))), I6, (.sl (.pair I6 I6)), I6], .box (some I6) [I6]]⟩, [(.ret, ⟨[(2, .val .bool)], []⟩)], fun x e => F24.join4 k x.2.1.1 x.2.1.2.1 x.2.1.2.2.1 x.2.1.2.2.2.1 x.2.1.2.2.2.2.1 x.2.1.2.2.2.2.2.1 x.2.1.2.2.2.2.2.2.1 x.2.1.2.2.2.2.2.2.2.1 x.2.1.2.2.2.2.2.2.2.2.1 x.2.1.2.2.2.2.2.2.2.2.2.1 x.2.1.2.2.2.2.2.2.2.2.2.2.1 x.2.1.2.2.2.2.2.2.2.2.2.2.2.1 x.2.1.2.2.2.2.2.2.2.2.2.2.2.2.1 x.2.1.2.2.2.2.2.2.2.2.2.2.2.2.2.1 x.2.1.2.2.2.2.2.2.2.2.2.2.2.2.2.2.1 x.2.1.2.2.2.2.2.2.2.2.2.2.2.2.2.2.2.1 x.2.1.2.2.2.2.2.2.2.2.2.2.2.2.2.2.2.2.1 x.2.1.2.2.2.2.2.2.2.2.2.2.2.2.2.2.2.2.2.1 x.2.2.1.1 (fun u0 => e ((u0, ()), ()))⟩
theorem F24.q4 {R : Type} (k : Nat) (b1_0 : Int) (b1_1 : Int) (b1_2 : Int) (b1_3 : Bool) (b1_4 : Int) (b1_5 : Int) (b1_6 : Int) (b1_7 : Int) (b1_8 : List Int) (b1_9 : List Int) (b1_10 : List Int) (b1_11 : Int) (b1_12 : Int) (b1_13 : List (Int × List Int)) (b1_14 : List (Int × List Int)) (b1_15 : Int) (b1_16 : List (Int × Int)) (b1_17 : Int) (b3_0 : Int) (e : Outs (F24.J4 (R := R) k).outs → Option R) :
    evOnce F24.C k [] (F24.J4 (R := R) k).inn (F24.J4 (R := R) k).outs (joinOf Proofs.Tryz.f22 4) 0 ((), ((b1_0, b1_1, b1_2, b1_3, b1_4, b1_5, b1_6, b1_7, b1_8, b1_9, b1_10, b1_11, b1_12, b1_13, b1_14, b1_15, b1_16, b1_17, ()), (b3_0, ()), ())) e =
    F24.join4 k b1_0 b1_1 b1_2 b1_3 b1_4 b1_5 b1_6 b1_7 b1_8 b1_9 b1_10 b1_11 b1_12 b1_13 b1_14 b1_15 b1_16 b1_17 b3_0 (fun u0 => e ((u0, ()), ())) := by kernel_rfl
theorem F24.eq (k : Nat) (a0 : Int × Int × Int × Bool × (Int × Int) × Int × Int × (List Int) × (List Int) × (List Int) × Int × Int × (List (Int × List Int)) × (List (Int × List Int)) × Int × (List (Int × Int)) × Int) :
    evF F24.C k [F24.J4 k] Proofs.Tryz.f22 [.imm (.pair I6 (.pair I6 (.pair I6 (.pair .bool (.pair (.pair I6 I6) (.pair I6 (.pair I6 (.pair (.sl I6) (.pair (.sl I6) (.pair (.sl I6) (.pair I6 (.pair I6 (.pair (.sl (.pair I6 (.sl I6))) (.pair (.sl (.pair I6 (.sl I6))) (.pair I6 (.pair (.sl (.pair I6 I6)) I6))))))))))))))))] [.bool] (a0, ()) some = F24 k a0 := by kernel_rfl

noncomputable def F25.S : FSem := ⟨34, [.imm I6, .imm I6, .imm I6], [I6, .bool], fun k x => F25 k x.1 x.2.1 x.2.2.1⟩
noncomputable def F25.C : Ctx := ⟨tis, etys, [], [0, 1, 2, 6, 7, 28], [], 32⟩
theorem F25.eq (k : Nat) (a0 : Int) (a1 : Int) (a2 : Int) :
    evF F25.C k [] Proofs.Tryz.f34 [.imm I6, .imm I6, .imm I6] [I6, .bool] (a0, a1, a2, ()) some = F25 k a0 a1 a2 := by kernel_rfl

noncomputable def F26.S : FSem := ⟨14, [.imm (.pair I6 (.pair I6 I6))], [.bool], fun k x => F26 k x.1⟩
noncomputable def F26.C : Ctx := ⟨tis, etys, [F25.S, F21.S], [0, 1, 2, 4], [], 29⟩
theorem F26.eq (k : Nat) (a0 : Int × Int × Int) :
    evF F26.C k [] Proofs.Tryz.f14 [.imm (.pair I6 (.pair I6 I6))] [.bool] (a0, ()) some = F26 k a0 := by kernel_rfl

noncomputable def F27.S : FSem := ⟨23, [.imm (.pair I6 (.pair I6 (.pair I6 (.pair .bool (.pair (.pair I6 I6) (.pair I6 (.pair I6 (.pair (.sl I6) (.pair (.sl I6) (.pair (.sl I6) (.pair I6 (.pair I6 (.pair (.sl (.pair I6 (.sl I6))) (.pair (.sl (.pair I6 (.sl I6))) (.pair I6 (.pair (.sl (.pair I6 I6)) I6))))))))))))))))], [.bool], fun k x => F27 k x.1⟩
noncomputable def F27.C : Ctx := ⟨tis, etys, [], [0, 1, 2], [], 11⟩
theorem F27.eq (k : Nat) (a0 : Int × Int × Int × Bool × (Int × Int) × Int × Int × (List Int) × (List Int) × (List Int) × Int × Int × (List (Int × List Int)) × (List (Int × List Int)) × Int × (List (Int × Int)) × Int) :
    evF F27.C k [] Proofs.Tryz.f23 [.imm (.pair I6 (.pair I6 (.pair I6 (.pair .bool (.pair (.pair I6 I6) (.pair I6 (.pair I6 (.pair (.sl I6) (.pair (.sl I6) (.pair (.sl I6) (.pair I6 (.pair I6 (.pair (.sl (.pair I6 (.sl I6))) (.pair (.sl (.pair I6 (.sl I6))) (.pair I6 (.pair (.sl (.pair I6 I6)) I6))))))))))))))))] [.bool] (a0, ()) some = F27 k a0 := by kernel_rfl

noncomputable def F28.S : FSem := ⟨25, [.imm (.pair I6 I6), .imm I6], [.bool], fun k x => F28 k x.1 x.2.1⟩
noncomputable def F28.C : Ctx := ⟨tis, etys, [], [0, 1, 2, 4, 6, 7, 14], [], 25⟩
theorem F28.eq (k : Nat) (a0 : Int × Int) (a1 : Int) :
    evF F28.C k [] Proofs.Tryz.f25 [.imm (.pair I6 I6), .imm I6] [.bool] (a0, a1, ()) some = F28 k a0 a1 := by kernel_rfl

noncomputable def F29.S : FSem := ⟨61, [.imm I6], [.bool], fun k x => F29 k x.1⟩
noncomputable def F29.C : Ctx := ⟨tis, etys, [], [0, 2], [], 9⟩
theorem F29.eq (k : Nat) (a0 : Int) :
    evF F29.C k [] Proofs.Tryz.f61 [.imm I6] [.bool] (a0, ()) some = F29 k a0 := by kernel_rfl

noncomputable def F30.S : FSem := ⟨62, [.imm (.sl I6)], [I6], fun k x => F30 k x.1⟩
noncomputable def F30.C : Ctx := ⟨tis, etys, [], [0, 2, 4, 12, 13, 14, 15, 16, 24], [], 26⟩
noncomputable def F30.L0 {R : Type} (k : Nat) : LC R := ⟨0, ⟨[(13, .val (.sl I6)), (14, .val I6), (15, .val I6)], []⟩, [(.ret, ⟨[(2, .val I6)], []⟩), (.ex 0, ⟨[], []⟩)], fun x e => F30.loop0 k k x.1.1 x.1.2.1 x.1.2.2.1 (fun u0 => e (.inl ((u0, ()), ()))) (fun _ => e (.inr (((), ()))))⟩
theorem F30.r0 {R : Type} (k j : Nat) (s13 : List Int) (s14 : Int) (s15 : Int) (e : Outs (F30.L0 (R := R) k).outs → Option R) :
    evRound F30.C k [] (F30.L0 (R := R) k).inn (F30.L0 (R := R) k).outs (loopOf Proofs.Tryz.f62 0) 1 ((s13, s14, s15, ()), ()) (fun x => F30.loop0 k j x.1.1 x.1.2.1 x.1.2.2.1 (fun u0 => e (.inl ((u0, ()), ()))) (fun _ => e (.inr (((), ()))))) e =
    F30.loop0 k (j + 1) s13 s14 s15 (fun u0 => e (.inl ((u0, ()), ()))) (fun _ => e (.inr (((), ())))) := by kernel_rfl
theorem F30.eq (k : Nat) (a0 : List Int) :
    evF F30.C k [F30.L0 k] Proofs.Tryz.f62 [.imm (.sl I6)] [I6] (a0, ()) some = F30 k a0 := by kernel_rfl

noncomputable def F31.S : FSem := ⟨63, [.imm I6], [.bool], fun k x => F31 k x.1⟩
noncomputable def F31.C : Ctx := ⟨tis, etys, [], [0, 2], [], 9⟩
theorem F31.eq (k : Nat) (a0 : Int) :
    evF F31.C k [] Proofs.Tryz.f63 [.imm I6] [.bool] (a0, ()) some = F31 k a0 := by kernel_rfl

noncomputable def F32.S : FSem := ⟨93, [.bor (.pair I6 I6) true, .imm I6], [], fun k x => F32 k x.1 x.2.1⟩
noncomputable def F32.C : Ctx := ⟨tis, etys, [], [0, 1], [0], 22⟩
theorem F32.eq (k : Nat) (a0 : Int × Int) (a1 : Int) :
    evF F32.C k [] Proofs.Tryz.f93 [.bor (.pair I6 I6) true, .imm I6] [] (a0, a1, ()) some = F32 k a0 a1 := by kernel_rfl

noncomputable def F33.S : FSem := ⟨115, [.imm I6], [.bool], fun k x => F33 k x.1⟩
noncomputable def F33.C : Ctx := ⟨tis, etys, [], [0, 2], [], 9⟩
theorem F33.eq (k : Nat) (a0 : Int) :
    evF F33.C k [] Proofs.Tryz.f115 [.imm I6] [.bool] (a0, ()) some = F33 k a0 := by kernel_rfl

noncomputable def F34.S : FSem := ⟨94, [.bor (.pair I6 I6) true], [I6, .bool], fun k x => F34 k x.1⟩
noncomputable def F34.C : Ctx := ⟨tis, etys, [F33.S], [0, 2, 3, 4, 16], [0], 30⟩
theorem F34.eq (k : Nat) (a0 : Int × Int) :
    evF F34.C k [] Proofs.Tryz.f94 [.bor (.pair I6 I6) true] [I6, .bool] (a0, ()) some = F34 k a0 := by kernel_rfl

noncomputable def F35.S : FSem := ⟨64, [.imm (.sl I6), .imm I6, .imm I6], [I6, I6, .bool], fun k x => F35 k x.1 x.2.1 x.2.2.1⟩
noncomputable def F35.C : Ctx := ⟨tis, etys, [F30.S, F32.S, F34.S], [0, 1, 2, 6, 7, 8, 9, 10, 12, 13, 14, 15, 16, 17, 18, 34, 35, 36, 37, 38, 69], [], 72⟩
noncomputable def F35.L0 {R : Type} (k : Nat) : LC R := ⟨0, ⟨[(1, .val I6), (2, .val I6), (9, .ptr 0), (10, .ptr 1), (35, .val (.sl I6)), (36, .val I6), (37, .val I6)], [.box (some (.pair I6 I6)) [I6, I6], .box (some (.pair I6 I6)) [I6, I6]]⟩, [(.ex 0, ⟨[(9, .ptr 0), (10, .ptr 1)], [.box (some (.pair I6 I6)) [I6, I6], .box (some (.pair I6 I6)) [I6, I6]]⟩)], fun x e => F35.loop0 k k x.1.1 x.1.2.1 x.1.2.2.1 x.1.2.2.2.1 x.1.2.2.2.2.1 x.2.1.1 x.2.1.2.1 x.2.2.1.1 x.2.2.1.2.1 (fun u0 u1 u2 u3 => e ((), ((u0, u1, ()), (u2, u3, ()), ())))⟩
theorem F35.r0 {R : Type} (k j : Nat) (s1 : Int) (s2 : Int) (s35 : List Int) (s36 : Int) (s37 : Int) (b9_0 : Int) (b9_1 : Int) (b10_0 : Int) (b10_1 : Int) (e : Outs (F35.L0 (R := R) k).outs → Option R) :
    evRound F35.C k [] (F35.L0 (R := R) k).inn (F35.L0 (R := R) k).outs (loopOf Proofs.Tryz.f64 0) 1 ((s1, s2, s35, s36, s37, ()), ((b9_0, b9_1, ()), (b10_0, b10_1, ()), ())) (fun x => F35.loop0 k j x.1.1 x.1.2.1 x.1.2.2.1 x.1.2.2.2.1 x.1.2.2.2.2.1 x.2.1.1 x.2.1.2.1 x.2.2.1.1 x.2.2.1.2.1 (fun u0 u1 u2 u3 => e ((), ((u0, u1, ()), (u2, u3, ()), ())))) e =
    F35.loop0 k (j + 1) s1 s2 s35 s36 s37 b9_0 b9_1 b10_0 b10_1 (fun u0 u1 u2 u3 => e ((), ((u0, u1, ()), (u2, u3, ()), ()))) := by kernel_rfl
theorem F35.eq (k : Nat) (a0 : List Int) (a1 : Int) (a2 : Int) :
    evF F35.C k [F35.L0 k] Proofs.Tryz.f64 [.imm (.sl I6), .imm I6, .imm I6] [I6, I6, .bool] (a0, a1, a2, ()) some = F35 k a0 a1 a2 := by kernel_rfl

noncomputable def F36.S : FSem := ⟨40, [.imm I6, .imm I6, .imm I6, .imm (.sl I6), .imm I6, .imm I6], [I6], fun k x => F36 k x.1 x.2.1 x.2.2.1 x.2.2.2.1 x.2.2.2.2.1 x.2.2.2.2.2.1⟩
noncomputable def F36.C : Ctx := ⟨tis, etys, [F29.S, F30.S, F31.S, F35.S], [0, 1, 2, 3, 4, 5, 12, 15, 31, 42, 50, 59], [], 60⟩
theorem F36.eq (k : Nat) (a0 : Int) (a1 : Int) (a2 : Int) (a3 : List Int) (a4 : Int) (a5 : Int) :
    evF F36.C k [] Proofs.Tryz.f40 [.imm I6, .imm I6, .imm I6, .imm (.sl I6), .imm I6, .imm I6] [I6] (a0, a1, a2, a3, a4, a5, ()) some = F36 k a0 a1 a2 a3 a4 a5 := by kernel_rfl

noncomputable def F37.S : FSem := ⟨65, [.imm I6], [.bool], fun k x => F37 k x.1⟩
noncomputable def F37.C : Ctx := ⟨tis, etys, [], [0, 2], [], 9⟩
theorem F37.eq (k : Nat) (a0 : Int) :
    evF F37.C k [] Proofs.Tryz.f65 [.imm I6] [.bool] (a0, ()) some = F37 k a0 := by kernel_rfl

noncomputable def F38.S : FSem := ⟨66, [.imm I6], [.bool], fun k x => F38 k x.1⟩
noncomputable def F38.C : Ctx := ⟨tis, etys, [], [0, 2], [], 9⟩
theorem F38.eq (k : Nat) (a0 : Int) :
    evF F38.C k [] Proofs.Tryz.f66 [.imm I6] [.bool] (a0, ()) some = F38 k a0 := by kernel_rfl

noncomputable def F39.S : FSem := ⟨95, [.imm I6, .imm I6], [I6], fun k x => F39 k x.1 x.2.1⟩
noncomputable def F39.C : Ctx := ⟨tis, etys, [F33.S], [0, 1, 4, 5, 17], [], 28⟩
theorem F39.eq (k : Nat) (a0 : Int) (a1 : Int) :
    evF F39.C k [] Proofs.Tryz.f95 [.imm I6, .imm I6] [I6] (a0, a1, ()) some = F39 k a0 a1 := by kernel_rfl

noncomputable def F40.S : FSem := ⟨67, [.imm I6, .imm I6, .imm I6], [I6, I6], fun k x => F40 k x.1 x.2.1 x.2.2.1⟩
noncomputable def F40.C : Ctx := ⟨tis, etys, [F39.S], [0, 1, 2, 6, 7], [], 14⟩
theorem F40.eq (k : Nat) (a0 : Int) (a1 : Int) (a2 : Int) :
    evF F40.C k [] Proofs.Tryz.f67 [.imm I6, .imm I6, .imm I6] [I6, I6] (a0, a1, a2, ()) some = F40 k a0 a1 a2 := by kernel_rfl

noncomputable def F41.S : FSem := ⟨41, [.imm I6, .imm (.sl I6), .imm (.sl I6), .imm I6, .imm I6, .imm I6], [I6], fun k x => F41 k x.1 x.2.1 x.2.2.1 x.2.2.2.1 x.2.2.2.2.1 x.2.2.2.2.2.1⟩
noncomputable def F41.C : Ctx := ⟨tis, etys, [F30.S, F37.S, F38.S, F35.S, F40.S], [0, 1, 2, 3, 4, 5, 12, 13, 14, 15, 33, 51, 59, 67, 84], [], 85⟩
noncomputable def F41.J3 {R : Type} (k : Nat) : LC R := ⟨7, ⟨[(0, .val I6), (1, .val (.sl I6)), (2, .val (.sl I6)), (3, .val I6), (4, .val I6), (5, .val I6)], []⟩, [(.ret, ⟨[(12, .val I6)], []⟩)], fun x e => F41.join3 k x.1.1 x.1.2.1 x.1.2.2.1 x.1.2.2.2.1 x.1.2.2.2.2.1 x.1.2.2.2.2.2.1 (fun u0 => e ((u0, ()), ()))⟩
theorem F41.q3 {R : Type} (k : Nat) (s0 : Int) (s1 : List Int) (s2 : List Int) (s3 : Int) (s4 : Int) (s5 : Int) (e : Outs (F41.J3 (R := R) k).outs → Option R) :
    evOnce F41.C k [] (F41.J3 (R := R) k).inn (F41.J3 (R := R) k).outs (joinOf Proofs.Tryz.f41 3) 0 ((s0, s1, s2, s3, s4, s5, ()), ()) e =
    F41.join3 k s0 s1 s2 s3 s4 s5 (fun u0 => e ((u0, ()), ())) := by kernel_rfl
theorem F41.eq (k : Nat) (a0 : Int) (a1 : List Int) (a2 : List Int) (a3 : Int) (a4 : Int) (a5 : Int) :
    evF F41.C k [F41.J3 k] Proofs.Tryz.f41 [.imm I6, .imm (.sl I6), .imm (.sl I6), .imm I6, .imm I6, .imm I6] [I6] (a0, a1, a2, a3, a4, a5, ()) some = F41 k a0 a1 a2 a3 a4 a5 := by kernel_rfl

noncomputable def F42.S : FSem := ⟨96, [.imm I6], [.bool], fun k x => F42 k x.1⟩
noncomputable def F42.C : Ctx := ⟨tis, etys, [], [0, 2], [], 9⟩
theorem F42.eq (k : Nat) (a0 : Int) :
    evF F42.C k [] Proofs.Tryz.f96 [.imm I6] [.bool] (a0, ()) some = F42 k a0 := by kernel_rfl

noncomputable def F43.S : FSem := ⟨97, [.imm I6], [.bool], fun k x => F43 k x.1⟩
noncomputable def F43.C : Ctx := ⟨tis, etys, [], [0, 2], [], 9⟩
theorem F43.eq (k : Nat) (a0 : Int) :
    evF F43.C k [] Proofs.Tryz.f97 [.imm I6] [.bool] (a0, ()) some = F43 k a0 := by kernel_rfl

noncomputable def F44.S : FSem := ⟨68, [.imm (.sl (.pair I6 (.sl I6))), .imm I6], [I6], fun k x => F44 k x.1 x.2.1⟩
noncomputable def F44.C : Ctx := ⟨tis, etys, [F42.S, F43.S], [0, 1, 4, 6, 8, 17, 18, 19, 20, 21, 33, 35, 36, 37, 38, 46, 51], [], 53⟩
noncomputable def F44.L1 {R : Type} (k : Nat) : LC R := ⟨2, ⟨[(35, .val (.sl I6)), (36, .val I6), (37, .val I6)], []⟩, [(.ret, ⟨[(4, .val I6)], []⟩), (.ex 2, ⟨[], []⟩)], fun x e => F44.loop1 k k x.1.1 x.1.2.1 x.1.2.2.1 (fun u0 => e (.inl ((u0, ()), ()))) (fun _ => e (.inr (((), ()))))⟩
theorem F44.r1 {R : Type} (k j : Nat) (s35 : List Int) (s36 : Int) (s37 : Int) (e : Outs (F44.L1 (R := R) k).outs → Option R) :
    evRound F44.C k [] (F44.L1 (R := R) k).inn (F44.L1 (R := R) k).outs (loopOf Proofs.Tryz.f68 1) 2 ((s35, s36, s37, ()), ()) (fun x => F44.loop1 k j x.1.1 x.1.2.1 x.1.2.2.1 (fun u0 => e (.inl ((u0, ()), ()))) (fun _ => e (.inr (((), ()))))) e =
    F44.loop1 k (j + 1) s35 s36 s37 (fun u0 => e (.inl ((u0, ()), ()))) (fun _ => e (.inr (((), ())))) := by kernel_rfl
noncomputable def F44.L0 {R : Type} (k : Nat) : LC R := ⟨0, ⟨[(18, .val (.sl (.pair I6 (.sl I6)))), (19, .val I6), (20, .val I6)], []⟩, [(.ret, ⟨[(4, .val I6)], []⟩), (.ex 0, ⟨[], []⟩)], fun x e => F44.loop0 k k x.1.1 x.1.2.1 x.1.2.2.1 (fun u0 => e (.inl ((u0, ()), ()))) (fun _ => e (.inr (((), ()))))⟩
theorem F44.r0 {R : Type} (k j : Nat) (s18 : List (Int × List Int)) (s19 : Int) (s20 : Int) (e : Outs (F44.L0 (R := R) k).outs → Option R) :
    evRound F44.C k [F44.L1 k] (F44.L0 (R := R) k).inn (F44.L0 (R := R) k).outs (loopOf Proofs.Tryz.f68 0) 1 ((s18, s19, s20, ()), ()) (fun x => F44.loop0 k j x.1.1 x.1.2.1 x.1.2.2.1 (fun u0 => e (.inl ((u0, ()), ()))) (fun _ => e (.inr (((), ()))))) e =
    F44.loop0 k (j + 1) s18 s19 s20 (fun u0 => e (.inl ((u0, ()), ()))) (fun _ => e (.inr (((), ())))) := by kernel_rfl
theorem F44.eq (k : Nat) (a0 : List (Int × List Int)) (a1 : Int) :
    evF F44.C k [F44.L1 k, F44.L0 k] Proofs.Tryz.f68 [.imm (.sl (.pair I6 (.sl I6))), .imm I6] [I6] (a0, a1, ()) some = F44 k a0 a1 := by kernel_rfl

noncomputable def F45.S : FSem := ⟨69, [.imm I6], [.bool], fun k x => F45 k x.1⟩
noncomputable def F45.C : Ctx := ⟨tis, etys, [], [0, 2], [], 9⟩
theorem F45.eq (k : Nat) (a0 : Int) :
    evF F45.C k [] Proofs.Tryz.f69 [.imm I6] [.bool] (a0, ()) some = F45 k a0 := by kernel_rfl

noncomputable def F46.S : FSem := ⟨70, [.imm I6], [.bool], fun k x => F46 k x.1⟩
noncomputable def F46.C : Ctx := ⟨tis, etys, [], [0, 2], [], 9⟩
theorem F46.eq (k : Nat) (a0 : Int) :
    evF F46.C k [] Proofs.Tryz.f70 [.imm I6] [.bool] (a0, ()) some = F46 k a0 := by kernel_rfl

noncomputable def F47.S : FSem := ⟨42, [.imm (.pair I6 (.pair I6 I6)), .imm (.sl (.pair I6 (.sl I6))), .imm (.sl (.pair I6 (.sl I6))), .imm I6, .imm I6, .imm I6], [I6], fun k x => F47 k x.1 x.2.1 x.2.2.1 x.2.2.2.1 x.2.2.2.2.1 x.2.2.2.2.2.1⟩
noncomputable def F47.C : Ctx := ⟨tis, etys, [F44.S, F25.S, F45.S, F46.S, F35.S, F40.S], [0, 1, 2, 3, 4, 5, 6, 12, 13, 14, 16, 17, 18, 19, 20, 21, 22, 23, 25, 28, 34, 41, 52, 60, 69, 70, 71, 72, 73, 87, 96, 106, 107, 108, 109, 122], [], 124⟩
noncomputable def F47.L0 {R : Type} (k : Nat) : LC R := ⟨0, ⟨[(3, .val I6), (6, .ptr 0), (17, .val I6), (18, .val I6), (70, .val (.sl (.pair I6 (.sl I6)))), (71, .val I6), (72, .val I6)], [.box (some (.pair I6 (.pair I6 I6))) [I6, I6, I6]]⟩, [(.ret, ⟨[(12, .val I6)], []⟩), (.ex 0, ⟨[(17, .val I6), (18, .val I6)], []⟩)], fun x e => F47.loop0 k k x.1.1 x.1.2.1 x.1.2.2.1 x.1.2.2.2.1 x.1.2.2.2.2.1 x.1.2.2.2.2.2.1 x.2.1.1 x.2.1.2.1 x.2.1.2.2.1 (fun u0 => e (.inl ((u0, ()), ()))) (fun u0 u1 => e (.inr (((u0, u1, ()), ()))))⟩
theorem F47.r0 {R : Type} (k j : Nat) (s3 : Int) (s17 : Int) (s18 : Int) (s70 : List (Int × List Int)) (s71 : Int) (s72 : Int) (b6_0 : Int) (b6_1 : Int) (b6_2 : Int) (e : Outs (F47.L0 (R := R) k).outs → Option R) :
    evRound F47.C k [] (F47.L0 (R := R) k).inn (F47.L0 (R := R) k).outs (loopOf Proofs.Tryz.f42 0) 1 ((s3, s17, s18, s70, s71, s72, ()), ((b6_0, b6_1, b6_2, ()), ())) (fun x => F47.loop0 k j x.1.1 x.1.2.1 x.1.2.2.1 x.1.2.2.2.1 x.1.2.2.2.2.1 x.1.2.2.2.2.2.1 x.2.1.1 x.2.1.2.1 x.2.1.2.2.1 (fun u0 => e (.inl ((u0, ()), ()))) (fun u0 u1 => e (.inr (((u0, u1, ()), ()))))) e =
    F47.loop0 k (j + 1) s3 s17 s18 s70 s71 s72 b6_0 b6_1 b6_2 (fun u0 => e (.inl ((u0, ()), ()))) (fun u0 u1 => e (.inr (((u0, u1, ()), ())))) := by kernel_rfl
noncomputable def F47.L1 {R : Type} (k : Nat) : LC R := ⟨2, ⟨[(17, .val I6), (18, .val I6), (106, .val (.sl (.pair I6 (.sl I6)))), (107, .val I6), (108, .val I6)], []⟩, [(.ret, ⟨[(12, .val I6)], []⟩), (.ex 2, ⟨[], []⟩)], fun x e => F47.loop1 k k x.1.1 x.1.2.1 x.1.2.2.1 x.1.2.2.2.1 x.1.2.2.2.2.1 (fun u0 => e (.inl ((u0, ()), ()))) (fun _ => e (.inr (((), ()))))⟩
theorem F47.r1 {R : Type} (k j : Nat) (s17 : Int) (s18 : Int) (s106 : List (Int × List Int)) (s107 : Int) (s108 : Int) (e : Outs (F47.L1 (R := R) k).outs → Option R) :
    evRound F47.C k [] (F47.L1 (R := R) k).inn (F47.L1 (R := R) k).outs (loopOf Proofs.Tryz.f42 1) 2 ((s17, s18, s106, s107, s108, ()), ()) (fun x => F47.loop1 k j x.1.1 x.1.2.1 x.1.2.2.1 x.1.2.2.2.1 x.1.2.2.2.2.1 (fun u0 => e (.inl ((u0, ()), ()))) (fun _ => e (.inr (((), ()))))) e =
    F47.loop1 k (j + 1) s17 s18 s106 s107 s108 (fun u0 => e (.inl ((u0, ()), ()))) (fun _ => e (.inr (((), ())))) := by kernel_rfl
theorem F47.eq (k : Nat) (a0 : Int × Int × Int) (a1 : List (Int × List Int)) (a2 : List (Int × List Int)) (a3 : Int) (a4 : Int) (a5 : Int) :
    evF F47.C k [F47.L0 k, F47.L1 k] Proofs.Tryz.f42 [.imm (.pair I6 (.pair I6 I6)), .imm (.sl (.pair I6 (.sl I6))), .imm (.sl (.pair I6 (.sl I6))), .imm I6, .imm I6, .imm I6] [I6] (a0, a1, a2, a3, a4, a5, ()) some = F47 k a0 a1 a2 a3 a4 a5 := by kernel_rfl

noncomputable def F48.S : FSem := ⟨71, [.imm (.pair I6 (.pair I6 I6))], [I6, .bool], fun k x => F48 k x.1⟩
noncomputable def F48.C : Ctx := ⟨tis, etys, [F25.S], [0, 1, 2, 3, 4, 5, 18, 28], [], 35⟩
theorem F48.eq (k : Nat) (a0 : Int × Int × Int) :
    evF F48.C k [] Proofs.Tryz.f71 [.imm (.pair I6 (.pair I6 I6))] [I6, .bool] (a0, ()) some = F48 k a0 := by kernel_rfl

noncomputable def F49.S : FSem := ⟨43, [.imm (.pair I6 (.pair I6 I6))], [I6], fun k x => F49 k x.1⟩
noncomputable def F49.C : Ctx := ⟨tis, etys, [F48.S], [0, 1, 2, 4, 11], [], 12⟩
theorem F49.eq (k : Nat) (a0 : Int × Int × Int) :
    evF F49.C k [] Proofs.Tryz.f43 [.imm (.pair I6 (.pair I6 I6))] [I6] (a0, ()) some = F49 k a0 := by kernel_rfl

noncomputable def F50.S : FSem := ⟨72, [.imm I6, .imm I6, .imm I6], [.bool], fun k x => F50 k x.1 x.2.1 x.2.2.1⟩
noncomputable def F50.C : Ctx := ⟨tis, etys, [], [0, 1, 2, 6], [], 15⟩
theorem F50.eq (k : Nat) (a0 : Int) (a1 : Int) (a2 : Int) :
    evF F50.C k [] Proofs.Tryz.f72 [.imm I6, .imm I6, .imm I6] [.bool] (a0, a1, a2, ()) some = F50 k a0 a1 a2 := by kernel_rfl

noncomputable def F51.S : FSem := ⟨73, [.imm I6], [I6], fun k x => F51 k x.1⟩
noncomputable def F51.C : Ctx := ⟨tis, etys, [], [0, 2, 3, 4, 8], [], 11⟩
theorem F51.eq (k : Nat) (a0 : Int) :
    evF F51.C k [] Proofs.Tryz.f73 [.imm I6] [I6] (a0, ()) some = F51 k a0 := by kernel_rfl

noncomputable def F52.S : FSem := ⟨74, [.imm (.pair I6 I6)], [.bool], fun k x => F52 k x.1⟩
noncomputable def F52.C : Ctx := ⟨tis, etys, [F50.S], [0, 1, 2, 4, 5, 10], [], 18⟩
theorem F52.eq (k : Nat) (a0 : Int × Int) :
    evF F52.C k [] Proofs.Tryz.f74 [.imm (.pair I6 I6)] [.bool] (a0, ()) some = F52 k a0 := by kernel_rfl

noncomputable def F53.S : FSem := ⟨44, [.imm (.sl (.pair I6 I6)), .imm .bool], [I6], fun k x => F53 k x.1 x.2.1⟩
noncomputable def F53.C : Ctx := ⟨tis, etys, [F50.S, F51.S, F52.S], [0, 1, 4, 5, 7, 11, 12, 13, 14, 15, 37, 40, 49], [], 50⟩
noncomputable def F53.L0 {R : Type} (k : Nat) : LC R := ⟨0, ⟨[(1, .val .bool), (5, .val I6), (12, .val (.sl (.pair I6 I6))), (13, .val I6), (14, .val I6)], []⟩, [(.ret, ⟨[(4, .val I6)], []⟩), (.ex 0, ⟨[(5, .val I6)], []⟩)], fun x e => F53.loop0 k k x.1.1 x.1.2.1 x.1.2.2.1 x.1.2.2.2.1 x.1.2.2.2.2.1 (fun u0 => e (.inl ((u0, ()), ()))) (fun u0 => e (.inr (((u0, ()), ()))))⟩
theorem F53.r0 {R : Type} (k j : Nat) (s1 : Bool) (s5 : Int) (s12 : List (Int × Int)) (s13 : Int) (s14 : Int) (e : Outs (F53.L0 (R := R) k).outs → Option R) :
    evRound F53.C k [] (F53.L0 (R := R) k).inn (F53.L0 (R := R) k).outs (loopOf Proofs.Tryz.f44 0) 1 ((s1, s5, s12, s13, s14, ()), ()) (fun x => F53.loop0 k j x.1.1 x.1.2.1 x.1.2.2.1 x.1.2.2.2.1 x.1.2.2.2.2.1 (fun u0 => e (.inl ((u0, ()), ()))) (fun u0 => e (.inr (((u0, ()), ()))))) e =
    F53.loop0 k (j + 1) s1 s5 s12 s13 s14 (fun u0 => e (.inl ((u0, ()), ()))) (fun u0 => e (.inr (((u0, ()), ())))) := by kernel_rfl
theorem F53.eq (k : Nat) (a0 : List (Int × Int)) (a1 : Bool) :
    evF F53.C k [F53.L0 k] Proofs.Tryz.f44 [.imm (.sl (.pair I6 I6)), .imm .bool] [I6] (a0, a1, ()) some = F53 k a0 a1 := by kernel_rfl

noncomputable def F54.S : FSem := ⟨75, [.imm I6], [I6], fun k x => F54 k x.1⟩
noncomputable def F54.C : Ctx := ⟨tis, etys, [], [0, 2], [], 7⟩
theorem F54.eq (k : Nat) (a0 : Int) :
    evF F54.C k [] Proofs.Tryz.f75 [.imm I6] [I6] (a0, ()) some = F54 k a0 := by kernel_rfl

noncomputable def F55.S : FSem := ⟨98, [.imm I6, .imm I6], [I6], fun k x => F55 k x.1 x.2.1⟩
noncomputable def F55.C : Ctx := ⟨tis, etys, [F54.S], [0, 1, 4, 14], [], 18⟩
theorem F55.eq (k : Nat) (a0 : Int) (a1 : Int) :
    evF F55.C k [] Proofs.Tryz.f98 [.imm I6, .imm I6] [I6] (a0, a1, ()) some = F55 k a0 a1 := by kernel_rfl

noncomputable def F56.S : FSem := ⟨76, [.imm I6, .imm (.pair I6 I6), .imm (.pair I6 I6)], [(.pair I6 I6)], fun k x => F56 k x.1 x.2.1 x.2.2.1⟩
noncomputable def F56.C : Ctx := ⟨tis, etys, [F55.S, F54.S], [0, 1, 2, 4, 5, 6, 7, 8, 9, 10, 11, 12, 13, 26, 39, 72, 85, 98], [], 123⟩
theorem F56.eq (k : Nat) (a0 : Int) (a1 : Int × Int) (a2 : Int × Int) :
    evF F56.C k [] Proofs.Tryz.f76 [.imm I6, .imm (.pair I6 I6), .imm (.pair I6 I6)] [(.pair I6 I6)] (a0, a1, a2, ()) some = F56 k a0 a1 a2 := by kernel_rfl

noncomputable def F57.S : FSem := ⟨77, [.imm I6], [.bool], fun k x => F57 k x.1⟩
noncomputable def F57.C : Ctx := ⟨tis, etys, [F50.S], [0, 2], [], 5⟩
theorem F57.eq (k : Nat) (a0 : Int) :
    evF F57.C k [] Proofs.Tryz.f77 [.imm I6] [.bool] (a0, ()) some = F57 k a0 := by kernel_rfl

noncomputable def F58.S : FSem := ⟨45, [.imm (.sl (.pair I6 I6)), .imm I6, .imm I6], [I6, I6, I6], fun k x => F58 k x.1 x.2.1 x.2.2.1⟩
noncomputable def F58.C : Ctx := ⟨tis, etys, [F53.S, F50.S, F51.S, F57.S, F40.S, F54.S, F56.S], [0, 1, 2, 6, 7, 8, 9, 10, 12, 13, 14, 15, 19, 28, 29, 30, 31, 32, 48, 58, 62, 66, 73, 91, 114], [], 128⟩
noncomputable def F58.L0 {R : Type} (k : Nat) : LC R := ⟨0, ⟨[(1, .val I6), (2, .val I6), (10, .arr 0), (29, .val (.sl (.pair I6 I6))), (30, .val I6), (31, .val I6)], [.arr (.pair I6 I6)]⟩, [(.ret, ⟨[(6, .val I6), (7, .val I6), (8, .val I6)], []⟩), (.ex 0, ⟨[(10, .arr 0)], [.arr (.pair I6 I6)]⟩)], fun x e => F58.loop0 k k x.1.1 x.1.2.1 x.1.2.2.1 x.1.2.2.2.1 x.1.2.2.2.2.1 x.2.1 (fun u0 u1 u2 => e (.inl ((u0, u1, u2, ()), ()))) (fun u0 => e (.inr (((), (u0, ())))))⟩
theorem F58.r0 {R : Type} (k j : Nat) (s1 : Int) (s2 : Int) (s29 : List (Int × Int)) (s30 : Int) (s31 : Int) (l10 : List (Int × Int)) (e : Outs (F58.L0 (R := R) k).outs → Option R) :
    evRound F58.C k [] (F58.L0 (R := R) k).inn (F58.L0 (R := R) k).outs (loopOf Proofs.Tryz.f45 0) 1 ((s1, s2, s29, s30, s31, ()), (l10, ())) (fun x => F58.loop0 k j x.1.1 x.1.2.1 x.1.2.2.1 x.1.2.2.2.1 x.1.2.2.2.2.1 x.2.1 (fun u0 u1 u2 => e (.inl ((u0, u1, u2, ()), ()))) (fun u0 => e (.inr (((), (u0, ())))))) e =
    F58.loop0 k (j + 1) s1 s2 s29 s30 s31 l10 (fun u0 u1 u2 => e (.inl ((u0, u1, u2, ()), ()))) (fun u0 => e (.inr (((), (u0, ()))))) := by kernel_rfl
theorem F58.eq (k : Nat) (a0 : List (Int × Int)) (a1 : Int) (a2 : Int) :
    evF F58.C k [F58.L0 k] Proofs.Tryz.f45 [.imm (.sl (.pair I6 I6)), .imm I6, .imm I6] [I6, I6, I6] (a0, a1, a2, ()) some = F58 k a0 a1 a2 := by kernel_rfl

noncomputable def F59.S : FSem := ⟨26, [.imm (.pair I6 (.pair I6 (.pair I6 (.pair .bool (.pair (.pair I6 I6) (.pair I6 (.pair I6 (.pair (.sl I6) (.pair (.sl I6) (.pair (.sl I6) (.pair I6 (.pair I6 (.pair (.sl (.pair I6 (.sl I6))) (.pair (.sl (.pair I6 (.sl I6))) (.pair I6 (.pair (.sl (.pair I6 I6)) I6)))))))))))))))), .imm (.pair I6 (.pair I6 I6)), .imm (.pair I6 (.pair I6 I6))], [I6], fun k x => F59 k x.1 x.2.1 x.2.2.1⟩
noncomputable def F59.C : Ctx := ⟨tis, etys, [F36.S, F41.S, F47.S, F21.S, F49.S, F27.S, F53.S, F58.S], [0, 1, 2, 3, 4, 5, 6, 7, 8, 11, 13, 14, 29, 44, 58, 63, 64, 74, 79, 81, 95, 112], [], 113⟩
theorem F59.eq (k : Nat) (a0 : Int × Int × Int × Bool × (Int × Int) × Int × Int × (List Int) × (List Int) × (List Int) × Int × Int × (List (Int × List Int)) × (List (Int × List Int)) × Int × (List (Int × Int)) × Int) (a1 : Int × Int × Int) (a2 : Int × Int × Int) :
    evF F59.C k [] Proofs.Tryz.f26 [.imm (.pair I6 (.pair I6 (.pair I6 (.pair .bool (.pair (.pair I6 I6) (.pair I6 (.pair I6 (.pair (.sl I6) (.pair (.sl I6) (.pair (.sl I6) (.pair I6 (.pair I6 (.pair (.sl (.pair I6 (.sl I6))) (.pair (.sl (.pair I6 (.sl I6))) (.pair I6 (.pair (.sl (.pair I6 I6)) I6)))))))))))))))), .imm (.pair I6 (.pair I6 I6)), .imm (.pair I6 (.pair I6 I6))] [I6] (a0, a1, a2, ()) some = F59 k a0 a1 a2 := by kernel_rfl

noncomputable def F60.S : FSem := ⟨11, [.imm (.pair I6 (.pair I6 (.pair I6 (.pair .bool (.pair (.pair I6 I6) (.pair I6 (.pair I6 (.pair (.sl I6) (.pair (.sl I6) (.pair (.sl I6) (.pair I6 (.pair I6 (.pair (.sl (.pair I6 (.sl I6))) (.pair (.sl (.pair I6 (.sl I6))) (.pair I6 (.pair (.sl (.pair I6 I6)) I6)))))))))))))))), .imm (.pair I6 (.pair I6 I6)), .imm (.pair I6 (.pair I6 I6))], [(.pair I6 (.pair I6 I6)), I6], fun k x => F60 k x.1 x.2.1 x.2.2.1⟩
noncomputable def F60.C : Ctx := ⟨tis, etys, [F24.S, F26.S, F27.S, F23.S, F28.S, F59.S], [0, 1, 2, 3, 4, 5, 6, 7, 8, 11, 24, 36, 43, 47, 48, 59, 69], [], 91⟩
theorem F60.eq (k : Nat) (a0 : Int × Int × Int × Bool × (Int × Int) × Int × Int × (List Int) × (List Int) × (List Int) × Int × Int × (List (Int × List Int)) × (List (Int × List Int)) × Int × (List (Int × Int)) × Int) (a1 : Int × Int × Int) (a2 : Int × Int × Int) :
    evF F60.C k [] Proofs.Tryz.f11 [.imm (.pair I6 (.pair I6 (.pair I6 (.pair .bool (.pair (.pair I6 I6) (.pair I6 (.pair I6 (.pair (.sl I6) (.pair (.sl I6) (.pair (.sl I6) (.pair I6 (.pair I6 (.pair (.sl (.pair I6 (.sl I6))) (.pair (.sl (.pair I6 (.sl I6))) (.pair I6 (.pair (.sl (.pair I6 I6)) I6)))))))))))))))), .imm (.pair I6 (.pair I6 I6)), .imm (.pair I6 (.pair I6 I6))] [(.pair I6 (.pair I6 I6)), I6] (a0, a1, a2, ()) some = F60 k a0 a1 a2 := by kernel_rfl

noncomputable def F61.S : FSem := ⟨36, [.imm I6, .imm I6, .imm I6], [.bool], fun k x => F61 k x.1 x.2.1 x.2.2.1⟩
noncomputable def F61.C : Ctx := ⟨tis, etys, [], [0, 1, 2, 6], [], 35⟩
theorem F61.eq (k : Nat) (a0 : Int) (a1 : Int) (a2 : Int) :
    evF F61.C k [] Proofs.Tryz.f36 [.imm I6, .imm I6, .imm I6] [.bool] (a0, a1, a2, ()) some = F61 k a0 a1 a2 := by kernel_rfl

noncomputable def F62.S : FSem := ⟨15, [.imm (.pair I6 (.pair I6 (.pair I6 (.sl I6))))], [.bool], fun k x => F62 k x.1⟩
noncomputable def F62.C : Ctx := ⟨tis, etys, [F61.S], [0, 1, 2, 3, 22, 27, 45], [], 46⟩
noncomputable def F62.L0 {R : Type} (k : Nat) : LC R := ⟨0, ⟨[(1, .ptr 0), (3, .val I6)], [.box (some (.pair I6 (.pair I6 (.pair I6 (.sl I6))))) [I6, I6, I6, (.sl I6)]]⟩, [(.ret, ⟨[(2, .val .bool)], []⟩), (.ex 0, ⟨[], []⟩)], fun x e => F62.loop0 k k x.1.1 x.2.1.1 x.2.1.2.1 x.2.1.2.2.1 x.2.1.2.2.2.1 (fun u0 => e (.inl ((u0, ()), ()))) (fun _ => e (.inr (((), ()))))⟩
theorem F62.r0 {R : Type} (k j : Nat) (s3 : Int) (b1_0 : Int) (b1_1 : Int) (b1_2 : Int) (b1_3 : List Int) (e : Outs (F62.L0 (R := R) k).outs → Option R) :
    evRound F62.C k [] (F62.L0 (R := R) k).inn (F62.L0 (R := R) k).outs (loopOf Proofs.Tryz.f15 0) 1 ((s3, ()), ((b1_0, b1_1, b1_2, b1_3, ()), ())) (fun x => F62.loop0 k j x.1.1 x.2.1.1 x.2.1.2.1 x.2.1.2.2.1 x.2.1.2.2.2.1 (fun u0 => e (.inl ((u0, ()), ()))) (fun _ => e (.inr (((), ()))))) e =
    F62.loop0 k (j + 1) s3 b1_0 b1_1 b1_2 b1_3 (fun u0 => e (.inl ((u0, ()), ()))) (fun _ => e (.inr (((), ())))) := by kernel_rfl
theorem F62.eq (k : Nat) (a0 : Int × Int × Int × List Int) :
    evF F62.C k [F62.L0 k] Proofs.Tryz.f15 [.imm (.pair I6 (.pair I6 (.pair I6 (.sl I6))))] [.bool] (a0, ()) some = F62 k a0 := by kernel_rfl

noncomputable def F63.S : FSem := ⟨27, [.imm (.pair I6 (.pair I6 (.pair I6 (.pair .bool (.pair (.pair I6 I6) (.pair I6 (.pair I6 (.pair (.sl I6) (.pair (.sl I6) (.pair (.sl I6) (.pair I6 (.pair I6 (.pair (.sl (.pair I6 (.sl I6))) (.pair (.sl (.pair I6 (.sl I6))) (.pair I6 (.pair (.sl (.pair I6 I6)) I6))))))))))))))))], [.bool], fun k x => F63 k x.1⟩
noncomputable def F63.C : Ctx := ⟨tis, etys, [], [0, 1, 2], [], 11⟩
theorem F63.eq (k : Nat) (a0 : Int × Int × Int × Bool × (Int × Int) × Int × Int × (List Int) × (List Int) × (List Int) × Int × Int × (List (Int × List Int)) × (List (Int × List Int)) × Int × (List (Int × Int)) × Int) :
    evF F63.C k [] Proofs.Tryz.f27 [.imm (.pair I6 (.pair I6 (.pair I6 (.pair .bool (.pair (.pair I6 I6) (.pair I6 (.pair I6 (.pair (.sl I6) (.pair (.sl I6) (.pair (.sl I6) (.pair I6 (.pair I6 (.pair (.sl (.pair I6 (.sl I6))) (.pair (.sl (.pair I6 (.sl I6))) (.pair I6 (.pair (.sl (.pair I6 I6)) I6))))))))))))))))] [.bool] (a0, ()) some = F63 k a0 := by kernel_rfl

noncomputable def F64.S : FSem := ⟨48, [.imm I6], [.bool], fun k x => F64 k x.1⟩
noncomputable def F64.C : Ctx := ⟨tis, etys, [], [0, 2], [], 13⟩
theorem F64.eq (k : Nat) (a0 : Int) :
    evF F64.C k [] Proofs.Tryz.f48 [.imm I6] [.bool] (a0, ()) some = F64 k a0 := by kernel_rfl

noncomputable def F65.S : FSem := ⟨46, [.imm (.pair I6 (.pair I6 (.pair I6 (.pair .bool (.pair (.pair I6 I6) (.pair I6 (.pair I6 (.pair (.sl I6) (.pair (.sl I6) (.pair (.sl I6) (.pair I6 (.pair I6 (.pair (.sl (.pair I6 (.sl I6))) (.pair (.sl (.pair I6 (.sl I6))) (.pair I6 (.pair (.sl (.pair I6 I6)) I6))))))))))))))))], [.bool], fun k x => F65 k x.1⟩
noncomputable def F65.C : Ctx := ⟨tis, etys, [F64.S], [0, 1, 2, 3, 4, 5, 23, 33, 44, 63, 78, 93, 103, 115, 124, 134], [], 148⟩
noncomputable def F65.J10 {R : Type} (k : Nat) : LC R := ⟨21, ⟨[(1, .ptr 0), (4, .val .bool), (5, .val .bool), (93, .val .bool)], [.box (some (.pair I6 (.pair I6 (.pair I6 (.pair .bool (.pair (.pair I6 I6) (.pair I6 (.pair I6 (.pair (.sl I6) (.pair (.sl I6) (.pair (.sl I6) (.pair I6 (.pair I6 (.pair (.sl (.pair I6 (.sl I6))) (.pair (.sl (.pair I6 (.sl I6))) (.pair I6 (.pair (.sl (.pair I6 I6)) I6))))))))))))))))) [I6, I6, I6, .bool, I6, I6, I6, I6, (.sl I6), (.sl I6), (.sl I6), I6, I6, (.sl (.pair I6 (.sl I6))), (.sl (.pair I6 (.sl I6))), I6, (.sl (.pair I6 I6)), I6]]⟩, [(.normal, ⟨[], []⟩), (.ret, ⟨[(2, .val .bool)], []⟩)], fun x e => F65.join10 k x.1.1 x.1.2.1 x.1.2.2.1 x.2.1.1 x.2.1.2.1 x.2.1.2.2.1 x.2.1.2.2.2.1 x.2.1.2.2.2.2.1 x.2.1.2.2.2.2.2.1 x.2.1.2.2.2.2.2.2.1 x.2.1.2.2.2.2.2.2.2.1 x.2.1.2.2.2.2.2.2.2.2.1 x.2.1.2.2.2.2.2.2.2.2.2.1 x.2.1.2.2.2.2.2.2.2.2.2.2.1 x.2.1.2.2.2.2.2.2.2.2.2.2.2.1 x.2.1.2.2.2.2.2.2.2.2.2.2.2.2.1 x.2.1.2.2.2.2.2.2.2.2.2.2.2.2.2.1 x.2.1.2.2.2.2.2.2.2.2.2.2.2.2.2.2.1 x.2.1.2.2.2.2.2.2.2.2.2.2.2.2.2.2.2.1 x.2.1.2.2.2.2.2.2.2.2.2.2.2.2.2.2.2.2.1 x.2.1.2.2.2.2.2.2.2.2.2.2.2.2.2.2.2.2.2.1 (fun _ => e (.inl ((), ()))) (fun u0 => e (.inr (((u0, ()), ()))))⟩
theorem F65.q10 {R : Type} (k : Nat) (s4 : Bool) (s5 : Bool) (s93 : Bool) (b1_0 : Int) (b1_1 : Int) (b1_2 : Int) (b1_3 : Bool) (b1_4 : Int) (b1_5 : Int) (b1_6 : Int) (b1_7 : Int) (b1_8 : List Int) (b1_9 : List Int) (b1_10 : List Int) (b1_11 : Int) (b1_12 : Int) (b1_13 : List (Int × List Int)) (b1_14 : List (Int × List Int)) (b1_15 : Int) (b1_16 : List (Int × Int)) (b1_17 : Int) (e : Outs (F65.J10 (R := R) k).outs → Option R) :
    evOnce F65.C k [] (F65.J10 (R := R) k).inn (F65.J10 (R := R) k).outs (joinOf Proofs.Tryz.f46 10) 0 ((s4, s5, s93, ()), ((b1_0, b1_1, b1_2, b1_3, b1_4, b1_5, b1_6, b1_7, b1_8, b1_9, b1_10, b1_11, b1_12, b1_13, b1_14, b1_15, b1_16, b1_17, ()), ())) e =
    F65.join10 k s4 s5 s93 b1_0 b1_1 b1_2 b1_3 b1_4 b1_5 b1_6 b1_7 b1_8 b1_9 b1_10 b1_11 b1_12 b1_13 b1_14 b1_15 b1_16 b1_17 (fun _ => e (.inl ((), ()))) (fun u0 => e (.inr (((u0, ()), ())))) := by kernel_rfl
noncomputable def F65.J9 {R : Type} (k : Nat) : LC R := ⟨19, ⟨[(1, .ptr 0), (4, .val .bool), (5, .val .bool), (78, .val .bool)], [.box (some (.pair I6 (.pair I6 (.pair I6 (.pair .bool (.pair (.pair I6 I6) (.pair I6 (.pair I6 (.pair (.sl I6) (.pair (.sl I6) (.pair (.sl I6) (.pair I6 (.pair I6 (.pair (.sl (.pair I6 (.sl I6))) (.pair (.sl (.pair I6 (.sl I6))) (.pair I6 (.pair (.sl (.pair I6 I6)) I6))))))))))))))))) [I6, I6, I6, .bool, I6, I6, I6, I6, (.sl I6), (.sl I6), (.sl I6), I6, I6, (.sl (.pair I6 (.sl I6))), (.sl (.pair I6 (.sl I6))), I6, (.sl (.pair I6 I6)), I6]]⟩, [(.normal, ⟨[], []⟩), (.ret, ⟨[(2, .val .bool)], []⟩)], fun x e => F65.join9 k x.1.1 x.1.2.1 x.1.2.2.1 x.2.1.1 x.2.1.2.1 x.2.1.2.2.1 x.2.1.2.2.2.1 x.2.1.2.2.2.2.1 x.2.1.2.2.2.2.2.1 x.2.1.2.2.2.2.2.2.1 x.2.1.2.2.2.2.2.2.2.1 x.2.1.2.2.2.2.2.2.2.2.1 x.2.1.2.2.2.2.2.2.2.2.2.1 x.2.1.2.2.2.2.2.2.2.2.2.2.1 x.2.1.2.2.2.2.2.2.2.2.2.2.2.1 x.2.1.2.2.2.2.2.2.2.2.2.2.2.2.1 x.2.1.2.2.2.2.2.2.2.2.2.2.2.2.2.1 x.2.1.2.2.2.2.2.2.2.2.2.2.2.2.2.2.1 x.2.1.2.2.2.2.2.2.2.2.2.2.2.2.2.2.2.1 x.2.1.2.2.2.2.2.2.2.2.2.2.2.2.2.2.2.2.1 x.2.1.2.2.2.2.2.2.2.2.2.2.2.2.2.2.2.2.2.1 (fun _ => e (.inl ((), ()))) (fun u0 => e (.inr (((u0, ()), ()))))⟩
theorem F65.q9 {R : Type} (k : Nat) (s4 : Bool) (s5 : Bool) (s78 : Bool) (b1_0 : Int) (b1_1 : Int) (b1_2 : Int) (b1_3 : Bool) (b1_4 : Int) (b1_5 : Int) (b1_6 : Int) (b1_7 : Int) (b1_8 : List Int) (b1_9 : List Int) (b1_10 : List Int) (b1_11 : Int) (b1_12 : Int) (b1_13 : List (Int × List Int)) (b1_14 : List (Int × List Int)) (b1_15 : Int) (b1_16 : List (Int × Int)) (b1_17 : Int) (e : Outs (F65.J9 (R := R) k).outs → Option R) :
    evOnce F65.C k [F65.J10 k] (F65.J9 (R := R) k).inn (F65.J9 (R := R) k).outs (joinOf Proofs.Tryz.f46 9) 0 ((s4, s5, s78, ()), ((b1_0, b1_1, b1_2, b1_3, b1_4, b1_5, b1_6, b1_7, b1_8, b1_9, b1_10, b1_11, b1_12, b1_13, b1_14, b1_15, b1_16, b1_17, ()), ())) e =
    F65.join9 k s4 s5 s78 b1_0 b1_1 b1_2 b1_3 b1_4 b1_5 b1_6 b1_7 b1_8 b1_9 b1_10 b1_11 b1_12 b1_13 b1_14 b1_15 b1_16 b1_17 (fun _ => e (.inl ((), ()))) (fun u0 => e (.inr (((u0, ()), ())))) := by kernel_rfl
noncomputable def F65.J8 {R : Type} (k : Nat) : LC R := ⟨17, ⟨[(1, .ptr 0), (4, .val .bool), (5, .val .bool), (63, .val .bool)], [.box (some (.pair I6 (.pair I6 (.pair I6 (.pair .bool (.pair (.pair I6 I6) (.pair I6 (.pair I6 (.pair (.sl I6) (.pair (.sl I6) (.pair (.sl I6) (.pair I6 (.pair I6 (.pair (.sl (.pair I6 (.sl I6))) (.pair (.sl (.pair I6 (.sl I6))) (.pair I6 (.pair (.sl (.pair I6 I6)) I6))))))))))))))))) [I6, I6, I6, .bool, I6, I6, I6, I6, (.sl I6), (.sl I6), (.sl I6), I6, I6, (.sl (.pair I6 (.sl I6))), (.sl (.pair I6 (.sl I6))), I6, (.sl (.pair I6 I6)), I6]]⟩, [(.normal, ⟨[], []⟩), (.ret, ⟨[(2, .val .bool)], []⟩)], fun x e => F65.join8 k x.1.1 x.1.2.1 x.1.2.2.1 x.2.1.1 x.2.1.2.1 x.2.1.2.2.1 x.2.1.2.2.2.1 x.2.1.2.2.2.2.1 x.2.1.2.2.2.2.2.1 x.2.1.2.2.2.2.2.2.1 x.2.1.2.2.2.2.2.2.2.1 x.2.1.2.2.2.2.2.2.2.2.1 x.2.1.2.2.2.2.2.2.2.2.2.1 x.2.1.2.2.2.2.2.2.2.2.2.2.1 x.2.1.2.2.2.2.2.2.2.2.2.2.2.1 x.2.1.2.2.2.2.2.2.2.2.2.2.2.2.1 x.2.1.2.2.2.2.2.2.2.2.2.2.2.2.2.1 x.2.1.2.2.2.2.2.2.2.2.2.2.2.2.2.2.1 x.2.1.2.2.2.2.2.2.2.2.2.2.2.2.2.2.2.1 x.2.1.2.2.2.2.2.2.2.2.2.2.2.2.2.2.2.2.1 x.2.1.2.2.2.2.2.2.2.2.2.2.2.2.2.2.2.2.2.1 (fun _ => e (.inl ((), ()))) (fun u0 => e (.inr (((u0, ()), ()))))⟩
theorem F65.q8 {R : Type} (k : Nat) (s4 : Bool) (s5 : Bool) (s63 : Bool) (b1_0 : Int) (b1_1 : Int) (b1_2 : Int) (b1_3 : Bool) (b1_4 : Int) (b1_5 : Int) (b1_6 : Int) (b1_7 : Int) (b1_8 : List Int) (b1_9 : List Int) (b1_10 : List Int) (b1_11 : Int) (b1_12 : Int) (b1_13 : List (Int × List Int)) (b1_14 : List (Int × List Int)) (b1_15 : Int) (b1_16 : List (Int × Int)) (b1_17 : Int) (e : Outs (F65.J8 (R := R) k).outs → Option R) :
    evOnce F65.C k [F65.J10 k, F65.J9 k] (F65.J8 (R := R) k).inn (F65.J8 (R := R) k).outs (joinOf Proofs.Tryz.f46 8) 0 ((s4, s5, s63, ()), ((b1_0, b1_1, b1_2, b1_3, b1_4, b1_5, b1_6, b1_7, b1_8, b1_9, b1_10, b1_11, b1_12, b1_13, b1_14, b1_15, b1_16, b1_17, ()), ())) e =
    F65.join8 k s4 s5 s63 b1_0 b1_1 b1_2 b1_3 b1_4 b1_5 b1_6 b1_7 b1_8 b1_9 b1_10 b1_11 b1_12 b1_13 b1_14 b1_15 b1_16 b1_17 (fun _ => e (.inl ((), ()))) (fun u0 => e (.inr (((u0, ()), ())))) := by kernel_rfl
noncomputable def F65.J7 {R : Type} (k : Nat) : LC R := ⟨15, ⟨[(1, .ptr 0), (4, .val .bool), (5, .val .bool), (44, .val .bool)], [.box (some (.pair I6 (.pair I6 (.pair I6 (.pair .bool (.pair (.pair I6 I6) (.pair I6 (.pair I6 (.pair (.sl I6) (.pair (.sl I6) (.pair (.sl I6) (.pair I6 (.pair I6 (.pair (.sl (.pair I6 (.sl I6))) (.pair (.sl (.pair I6 (.sl I6))) (.pair I6 (.pair (.sl (.pair I6 I6)) I6))))))))))))))))) [I6, I6, I6, .bool, I6, I6, I6, I6, (.sl I6), (.sl I6), (.sl I6), I6, I6, (.sl (.pair I6 (.sl I6))), (.sl (.pair I6 (.sl I6))), I6, (.sl (.pair I6 I6)), I6]]⟩, [(.normal, ⟨[], []⟩), (.ret, ⟨[(2, .val .bool)], []⟩)], fun x e => F65.join7 k x.1.1 x.1.2.1 x.1.2.2.1 x.2.1.1 x.2.1.2.1 x.2.1.2.2.1 x.2.1.2.2.2.1 x.2.1.2.2.2.2.1 x.2.1.2.2.2.2.2.1 x.2.1.2.2.2.2.2.2.1 x.2.1.2.2.2.2.2.2.2.1 x.2.1.2.2.2.2.2.2.2.2.1 x.2.1.2.2.2.2.2.2.2.2.2.1 x.2.1.2.2.2.2.2.2.2.2.2.2.1 x.2.1.2.2.2.2.2.2.2.2.2.2.2.1 x.2.1.2.2.2.2.2.2.2.2.2.2.2.2.1 x.2.1.2.2.2.2.2.2.2.2.2.2.2.2.2.1 x.2.1.2.2.2.2.2.2.2.2.2.2.2.2.2.2.1 x.2.1.2.2.2.2.2.2.2.2.2.2.2.2.2.2.2.1 x.2.1.2.2.2.2.2.2.2.2.2.2.2.2.2.2.2.2.1 x.2.1.2.2.2.2.2.2.2.2.2.2.2.2.2.2.2.2.2.1 (fun _ => e (.inl ((), ()))) (fun u0 => e (.inr (((u0, ()), ()))))⟩
theorem F65.q7 {R : Type} (k : Nat) (s4 : Bool) (s5 : Bool) (s44 : Bool) (b1_0 : Int) (b1_1 : Int) (b1_2 : Int) (b1_3 : Bool) (b1_4 : Int) (b1_5 : Int) (b1_6 : Int) (b1_7 : Int) (b1_8 : List Int) (b1_9 : List Int) (b1_10 : List Int) (b1_11 : Int) (b1_12 : Int) (b1_13 : List (Int × List Int)) (b1_14 : List (Int × List Int)) (b1_15 : Int) (b1_16 : List (Int × Int)) (b1_17 : Int) (e : Outs (F65.J7 (R := R) k).outs → Option R) :
    evOnce F65.C k [F65.J10 k, F65.J9 k, F65.J8 k] (F65.J7 (R := R) k).inn (F65.J7 (R := R) k).outs (joinOf Proofs.Tryz.f46 7) 0 ((s4, s5, s44, ()), ((b1_0, b1_1, b1_2, b1_3, b1_4, b1_5, b1_6, b1_7, b1_8, b1_9, b1_10, b1_11, b1_12, b1_13, b1_14, b1_15, b1_16, b1_17, ()), ())) e =
    F65.join7 k s4 s5 s44 b1_0 b1_1 b1_2 b1_3 b1_4 b1_5 b1_6 b1_7 b1_8 b1_9 b1_10 b1_11 b1_12 b1_13 b1_14 b1_15 b1_16 b1_17 (fun _ => e (.inl ((), ()))) (fun u0 => e (.inr (((u0, ()), ())))) := by kernel_rfl
noncomputable def F65.J6 {R : Type} (k : Nat) : LC R := ⟨13, ⟨[(1, .ptr 0), (3, .val .bool), (4, .val .bool), (5, .val .bool), (33, .val .bool)], [.box (some (.pair I6 (.pair I6 (.pair I6 (.pair .bool (.pair (.pair I6 I6) (.pair I6 (.pair I6 (.pair (.sl I6) (.pair (.sl I6) (.pair (.sl I6) (.pair I6 (.pair I6 (.pair (.sl (.pair I6 (.sl I6))) (.pair (.sl (.pair I6 (.sl I6))) (.pair I6 (.pair (.sl (.pair I6 I6)) I6))))))))))))))))) [I6, I6, I6, .bool, I6, I6, I6, I6, (.sl I6), (.sl I6), (.sl I6), I6, I6, (.sl (.pair I6 (.sl I6))), (.sl (.pair I6 (.sl I6))), I6, (.sl (.pair I6 I6)), I6]]⟩, [(.normal, ⟨[], []⟩), (.ret, ⟨[(2, .val .bool)], []⟩)], fun x e => F65.join6 k x.1.1 x.1.2.1 x.1.2.2.1 x.1.2.2.2.1 x.2.1.1 x.2.1.2.1 x.2.1.2.2.1 x.2.1.2.2.2.1 x.2.1.2.2.2.2.1 x.2.1.2.2.2.2.2.1 x.2.1.2.2.2.2.2.2.1 x.2.1.2.2.2.2.2.2.2.1 x.2.1.2.2.2.2.2.2.2.2.1 x.2.1.2.2.2.2.2.2.2.2.2.1 x.2.1.2.2.2.2.2.2.2.2.2.2.1 x.2.1.2.2.2.2.2.2.2.2.2.2.2.1 x.2.1.2.2.2.2.2.2.2.2.2.2.2.2.1 x.2.1.2.2.2.2.2.2.2.2.2.2.2.2.2.1 x.2.1.2.2.2.2.2.2.2.2.2.2.2.2.2.2.1 x.2.1.2.2.2.2.2.2.2.2.2.2.2.2.2.2.2.1 x.2.1.2.2.2.2.2.2.2.2.2.2.2.2.2.2.2.2.1 x.2.1.2.2.2.2.2.2.2.2.2.2.2.2.2.2.2.2.2.1 (fun _ => e (.inl ((), ()))) (fun u0 => e (.inr (((u0, ()), ()))))⟩
theorem F65.q6 {R : Type} (k : Nat) (s3 : Bool) (s4 : Bool) (s5 : Bool) (s33 : Bool) (b1_0 : Int) (b1_1 : Int) (b1_2 : Int) (b1_3 : Bool) (b1_4 : Int) (b1_5 : Int) (b1_6 : Int) (b1_7 : Int) (b1_8 : List Int) (b1_9 : List Int) (b1_10 : List Int) (b1_11 : Int) (b1_12 : Int) (b1_13 : List (Int × List Int)) (b1_14 : List (Int × List Int)) (b1_15 : Int) (b1_16 : List (Int × Int)) (b1_17 : Int) (e : Outs (F65.J6 (R := R) k).outs → Option R) :
    evOnce F65.C k [F65.J10 k, F65.J9 k, F65.J8 k, F65.J7 k] (F65.J6 (R := R) k).inn (F65.J6 (R := R) k).outs (joinOf Proofs.Tryz.f46 6) 0 ((s3, s4, s5, s33, ()), ((b1_0, b1_1, b1_2, b1_3, b1_4, b1_5, b1_6, b1_7, b1_8, b1_9, b1_10, b1_11, b1_12, b1_13, b1_14, b1_15, b1_16, b1_17, ()), ())) e =
    F65.join6 k s3 s4 s5 s33 b1_0 b1_1 b1_2 b1_3 b1_4 b1_5 b1_6 b1_7 b1_8 b1_9 b1_10 b1_11 b1_12 b1_13 b1_14 b1_15 b1_16 b1_17 (fun _ => e (.inl ((), ()))) (fun u0 => e (.inr (((u0, ()), ())))) := by kernel_rfl
noncomputable def F65.J3 {R : Type} (k : Nat) : LC R := ⟨7, ⟨[(1, .ptr 0)], [.box (some (.pair I6 (.pair I6 (.pair I6 (.pair .bool (.pair (.pair I6 I6) (.pair I6 (.pair I6 (.pair (.sl I6) (.pair (.sl I6) (.pair (.sl I6) (.pair I6 (.pair I6 (.pair (.sl (.pair I6 (.sl I6))) (.pair (.sl (.pair I6 (.sl I6))) (.pair I6 (.pair (.sl (.pair I6 I6)) I6))))))))))))))))) [I6, I6, I6, .bool, I6, I6, I6, I6, (.sl I6), (.sl I6), (.sl I6), I6, I6, (.sl (.pair I6 (.sl I6))), (.sl (.pair I6 (.sl I6))), I6, (.sl (.pair I6 I6)), I6]]⟩, [(.ret, ⟨[(2, .val .bool)], []⟩)], fun x e => F65.join3 k x.2.1.1 x.2.1.2.1 x.2.1.2.2.1 x.2.1.2.2.2.1 x.2.1.2.2.2.2.1 x.2.1.2.2.2.2.2.1 x.2.1.2.2.2.2.2.2.1 x.2.1.2.2.2.2.2.2.2.1 x.2.1.2.2.2.2.2.2.2.2.1 x.2.1.2.2.2.2.2.2.2.2.2.1 x.2.1.2.2.2.2.2.2.2.2.2.2.1 x.2.1.2.2.2.2.2.2.2.2.2.2.2.1 x.2.1.2.2.2.2.2.2.2.2.2.2.2.2.1 x.2.1.2.2.2.2.2.2.2.2.2.2.2.2.2.1 x.2.1.2.2.2.2.2.2.2.2.2.2.2.2.2.2.1 x.2.1.2.2.2.2.2.2.2.2.2.2.2.2.2.2.2.1 x.2.1.2.2.2.2.2.2.2.2.2.2.2.2.2.2.2.2.1 x.2.1.2.2.2.2.2.2.2.2.2.2.2.2.2.2.2.2.2.1 (fun u0 => e ((u0, ()), ()))⟩
theorem F65.q3 {R : Type} (k : Nat) (b1_0 : Int) (b1_1 : Int) (b1_2 : Int) (b1_3 : Bool) (b1_4 : Int) (b1_5 : Int) (b1_6 : Int) (b1_7 : Int) (b1_8 : List Int) (b1_9 : List Int) (b1_10 : List Int) (b1_11 : Int) (b1_12 : Int) (b1_13 : List (Int × List Int)) (b1_14 : List (Int × List Int)) (b1_15 : Int) (b1_16 : List (Int × Int)) (b1_17 : Int) (e : Outs (F65.J3 (R := R) k).outs → Option R) :
    evOnce F65.C k [F65.J10 k, F65.J9 k, F65.J8 k, F65.J7 k, F65.J6 k] (F65.J3 (R := R) k).inn (F65.J3 (R := R) k).outs (joinOf Proofs.Tryz.f46 3) 0 ((), ((b1_0, b1_1, b1_2, b1_3, b1_4, b1_5, b1_6, b1_7, b1_8, b1_9, b1_10, b1_11, b1_12, b1_13, b1_14, b1_15, b1_16, b1_17, ()), ())) e =
    F65.join3 k b1_0 b1_1 b1_2 b1_3 b1_4 b1_5 b1_6 b1_7 b1_8 b1_9 b1_10 b1_11 b1_12 b1_13 b1_14 b1_15 b1_16 b1_17 (fun u0 => e ((u0, ()), ())) := by kernel_rfl
theorem F65.eq (k : Nat) (a0 : Int × Int × Int × Bool × (Int × Int) × Int × Int × (List Int) × (List Int) × (List Int) × Int × Int × (List (Int × List Int)) × (List (Int × List Int)) × Int × (List (Int × Int)) × Int) :
    evF F65.C k [F65.J10 k, F65.J9 k, F65.J8 k, F65.J7 k, F65.J6 k, F65.J3 k] Proofs.Tryz.f46 [.imm (.pair I6 (.pair I6 (.pair I6 (.pair .bool (.pair (.pair I6 I6) (.pair I6 (.pair I6 (.pair (.sl I6) (.pair (.sl I6) (.pair (.sl I6) (.pair I6 (.pair I6 (.pair (.sl (.pair I6 (.sl I6))) (.pair (.sl (.pair I6 (.sl I6))) (.pair I6 (.pair (.sl (.pair I6 I6)) I6))))))))))))))))] [.bool] (a0, ()) some = F65 k a0 := by kernel_rfl

noncomputable def F66.S : FSem := ⟨47, [.imm (.pair I6 (.pair I6 I6))], [.bool], fun k x => F66 k x.1⟩
noncomputable def F66.C : Ctx := ⟨tis, etys, [F61.S], [0, 1, 2], [], 10⟩
theorem F66.eq (k : Nat) (a0 : Int × Int × Int) :
    evF F66.C k [] Proofs.Tryz.f47 [.imm (.pair I6 (.pair I6 I6))] [.bool] (a0, ()) some = F66 k a0 := by kernel_rfl

noncomputable def F67.S : FSem := ⟨49, [.imm (.pair I6 I6), .imm I6], [.bool], fun k x => F67 k x.1 x.2.1⟩
noncomputable def F67.C : Ctx := ⟨tis, etys, [], [0, 1, 2, 4, 7], [], 30⟩
theorem F67.eq (k : Nat) (a0 : Int × Int) (a1 : Int) :
    evF F67.C k [] Proofs.Tryz.f49 [.imm (.pair I6 I6), .imm I6] [.bool] (a0, a1, ()) some = F67 k a0 a1 := by kernel_rfl

noncomputable def F68.S : FSem := ⟨99, [.imm I6], [.bool], fun k x => F68 k x.1⟩
noncomputable def F68.C : Ctx := ⟨tis, etys, [], [0, 2], [], 9⟩
theorem F68.eq (k : Nat) (a0 : Int) :
    evF F68.C k [] Proofs.Tryz.f99 [.imm I6] [.bool] (a0, ()) some = F68 k a0 := by kernel_rfl

noncomputable def F69.S : FSem := ⟨116, [.imm I6], [.bool], fun k x => F69 k x.1⟩
noncomputable def F69.C : Ctx := ⟨tis, etys, [], [0, 2], [], 9⟩
theorem F69.eq (k : Nat) (a0 : Int) :
    evF F69.C k [] Proofs.Tryz.f116 [.imm I6] [.bool] (a0, ()) some = F69 k a0 := by kernel_rfl

noncomputable def F70.S : FSem := ⟨100, [.imm (.sl I6)], [.bool], fun k x => F70 k x.1⟩
noncomputable def F70.C : Ctx := ⟨tis, etys, [F69.S], [0, 2, 3, 7, 15], [], 16⟩
noncomputable def F70.L0 {R : Type} (k : Nat) : LC R := ⟨0, ⟨[(0, .val (.sl I6)), (3, .val I6)], []⟩, [(.ret, ⟨[(2, .val .bool)], []⟩), (.ex 0, ⟨[], []⟩)], fun x e => F70.loop0 k k x.1.1 x.1.2.1 (fun u0 => e (.inl ((u0, ()), ()))) (fun _ => e (.inr (((), ()))))⟩
theorem F70.r0 {R : Type} (k j : Nat) (s0 : List Int) (s3 : Int) (e : Outs (F70.L0 (R := R) k).outs → Option R) :
    evRound F70.C k [] (F70.L0 (R := R) k).inn (F70.L0 (R := R) k).outs (loopOf Proofs.Tryz.f100 0) 1 ((s0, s3, ()), ()) (fun x => F70.loop0 k j x.1.1 x.1.2.1 (fun u0 => e (.inl ((u0, ()), ()))) (fun _ => e (.inr (((), ()))))) e =
    F70.loop0 k (j + 1) s0 s3 (fun u0 => e (.inl ((u0, ()), ()))) (fun _ => e (.inr (((), ())))) := by kernel_rfl
theorem F70.eq (k : Nat) (a0 : List Int) :
    evF F70.C k [F70.L0 k] Proofs.Tryz.f100 [.imm (.sl I6)] [.bool] (a0, ()) some = F70 k a0 := by kernel_rfl

noncomputable def F71.S : FSem := ⟨101, [.imm I6], [.bool], fun k x => F71 k x.1⟩
noncomputable def F71.C : Ctx := ⟨tis, etys, [], [0, 2], [], 9⟩
theorem F71.eq (k : Nat) (a0 : Int) :
    evF F71.C k [] Proofs.Tryz.f101 [.imm I6] [.bool] (a0, ()) some = F71 k a0 := by kernel_rfl

noncomputable def F72.S : FSem := ⟨102, [.imm I6], [.bool], fun k x => F72 k x.1⟩
noncomputable def F72.C : Ctx := ⟨tis, etys, [], [0, 2], [], 9⟩
theorem F72.eq (k : Nat) (a0 : Int) :
    evF F72.C k [] Proofs.Tryz.f102 [.imm I6] [.bool] (a0, ()) some = F72 k a0 := by kernel_rfl

noncomputable def F73.S : FSem := ⟨117, [.imm (.sl I6)], [I6], fun k x => F73 k x.1⟩
noncomputable def F73.C : Ctx := ⟨tis, etys, [F70.S], [0, 2, 10, 13], [], 14⟩
theorem F73.eq (k : Nat) (a0 : List Int) :
    evF F73.C k [] Proofs.Tryz.f117 [.imm (.sl I6)] [I6] (a0, ()) some = F73 k a0 := by kernel_rfl

noncomputable def F74.S : FSem := ⟨112, [.imm I6], [.bool], fun k x => F74 k x.1⟩
noncomputable def F74.C : Ctx := ⟨tis, etys, [], [0, 2], [], 9⟩
theorem F74.eq (k : Nat) (a0 : Int) :
    evF F74.C k [] Proofs.Tryz.f112 [.imm I6] [.bool] (a0, ()) some = F74 k a0 := by kernel_rfl

noncomputable def F75.S : FSem := ⟨103, [.imm (.sl I6), .imm I6, .imm I6], [I6, I6, .bool], fun k x => F75 k x.1 x.2.1 x.2.2.1⟩
noncomputable def F75.C : Ctx := ⟨tis, etys, [F73.S, F74.S], [0, 1, 2, 6, 7, 8, 9, 10, 11, 12, 13, 29, 33, 65], [], 68⟩
noncomputable def F75.L0 {R : Type} (k : Nat) : LC R := ⟨0, ⟨[(0, .val (.sl I6)), (1, .val I6), (2, .val I6), (9, .val I6), (10, .val I6), (11, .val I6)], []⟩, [(.ex 0, ⟨[(9, .val I6), (10, .val I6)], []⟩)], fun x e => F75.loop0 k k x.1.1 x.1.2.1 x.1.2.2.1 x.1.2.2.2.1 x.1.2.2.2.2.1 x.1.2.2.2.2.2.1 (fun u0 u1 => e ((u0, u1, ()), ()))⟩
theorem F75.r0 {R : Type} (k j : Nat) (s0 : List Int) (s1 : Int) (s2 : Int) (s9 : Int) (s10 : Int) (s11 : Int) (e : Outs (F75.L0 (R := R) k).outs → Option R) :
    evRound F75.C k [] (F75.L0 (R := R) k).inn (F75.L0 (R := R) k).outs (loopOf Proofs.Tryz.f103 0) 1 ((s0, s1, s2, s9, s10, s11, ()), ()) (fun x => F75.loop0 k j x.1.1 x.1.2.1 x.1.2.2.1 x.1.2.2.2.1 x.1.2.2.2.2.1 x.1.2.2.2.2.2.1 (fun u0 u1 => e ((u0, u1, ()), ()))) e =
    F75.loop0 k (j + 1) s0 s1 s2 s9 s10 s11 (fun u0 u1 => e ((u0, u1, ()), ())) := by kernel_rfl
theorem F75.eq (k : Nat) (a0 : List Int) (a1 : Int) (a2 : Int) :
    evF F75.C k [F75.L0 k] Proofs.Tryz.f103 [.imm (.sl I6), .imm I6, .imm I6] [I6, I6, .bool] (a0, a1, a2, ()) some = F75 k a0 a1 a2 := by kernel_rfl

noncomputable def F76.S : FSem := ⟨78, [.imm I6, .imm I6, .imm I6, .imm (.sl I6), .imm I6, .imm I6], [I6], fun k x => F76 k x.1 x.2.1 x.2.2.1 x.2.2.2.1 x.2.2.2.2.1 x.2.2.2.2.2.1⟩
noncomputable def F76.C : Ctx := ⟨tis, etys, [F68.S, F70.S, F71.S, F72.S, F75.S], [0, 1, 2, 3, 4, 5, 12, 15, 16, 33, 42, 59], [], 60⟩
theorem F76.eq (k : Nat) (a0 : Int) (a1 : Int) (a2 : Int) (a3 : List Int) (a4 : Int) (a5 : Int) :
    evF F76.C k [] Proofs.Tryz.f78 [.imm I6, .imm I6, .imm I6, .imm (.sl I6), .imm I6, .imm I6] [I6] (a0, a1, a2, a3, a4, a5, ()) some = F76 k a0 a1 a2 a3 a4 a5 := by kernel_rfl

noncomputable def F77.S : FSem := ⟨89, [.imm I6, .imm I6], [I6], fun k x => F77 k x.1 x.2.1⟩
noncomputable def F77.C : Ctx := ⟨tis, etys, [F74.S, F71.S], [0, 1, 4, 5, 6, 7, 15, 17, 35], [], 39⟩
theorem F77.eq (k : Nat) (a0 : Int) (a1 : Int) :
    evF F77.C k [] Proofs.Tryz.f89 [.imm I6, .imm I6] [I6] (a0, a1, ()) some = F77 k a0 a1 := by kernel_rfl

noncomputable def F78.S : FSem := ⟨104, [.imm I6, .imm I6, .imm I6], [I6, I6], fun k x => F78 k x.1 x.2.1 x.2.2.1⟩
noncomputable def F78.C : Ctx := ⟨tis, etys, [F77.S], [0, 1, 2, 6, 7], [], 14⟩
theorem F78.eq (k : Nat) (a0 : Int) (a1 : Int) (a2 : Int) :
    evF F78.C k [] Proofs.Tryz.f104 [.imm I6, .imm I6, .imm I6] [I6, I6] (a0, a1, a2, ()) some = F78 k a0 a1 a2 := by kernel_rfl

noncomputable def F79.S : FSem := ⟨79, [.imm I6, .imm (.sl I6), .imm (.sl I6), .imm I6, .imm I6, .imm I6], [I6], fun k x => F79 k x.1 x.2.1 x.2.2.1 x.2.2.2.1 x.2.2.2.2.1 x.2.2.2.2.2.1⟩
noncomputable def F79.C : Ctx := ⟨tis, etys, [F68.S, F70.S, F71.S, F72.S, F75.S, F78.S], [0, 1, 2, 3, 4, 5, 12, 13, 14, 15, 16, 27, 46, 63, 80], [], 81⟩
noncomputable def F79.J7 {R : Type} (k : Nat) : LC R := ⟨15, ⟨[(0, .val I6), (1, .val (.sl I6)), (2, .val (.sl I6)), (3, .val I6)], []⟩, [(.ret, ⟨[(12, .val I6)], []⟩)], fun x e => F79.join7 k x.1.1 x.1.2.1 x.1.2.2.1 x.1.2.2.2.1 (fun u0 => e ((u0, ()), ()))⟩
theorem F79.q7 {R : Type} (k : Nat) (s0 : Int) (s1 : List Int) (s2 : List Int) (s3 : Int) (e : Outs (F79.J7 (R := R) k).outs → Option R) :
    evOnce F79.C k [] (F79.J7 (R := R) k).inn (F79.J7 (R := R) k).outs (joinOf Proofs.Tryz.f79 7) 0 ((s0, s1, s2, s3, ()), ()) e =
    F79.join7 k s0 s1 s2 s3 (fun u0 => e ((u0, ()), ())) := by kernel_rfl
theorem F79.eq (k : Nat) (a0 : Int) (a1 : List Int) (a2 : List Int) (a3 : Int) (a4 : Int) (a5 : Int) :
    evF F79.C k [F79.J7 k] Proofs.Tryz.f79 [.imm I6, .imm (.sl I6), .imm (.sl I6), .imm I6, .imm I6, .imm I6] [I6] (a0, a1, a2, a3, a4, a5, ()) some = F79 k a0 a1 a2 a3 a4 a5 := by kernel_rfl

noncomputable def F80.S : FSem := ⟨118, [.imm I6], [.bool], fun k x => F80 k x.1⟩
noncomputable def F80.C : Ctx := ⟨tis, etys, [], [0, 2], [], 9⟩
theorem F80.eq (k : Nat) (a0 : Int) :
    evF F80.C k [] Proofs.Tryz.f118 [.imm I6] [.bool] (a0, ()) some = F80 k a0 := by kernel_rfl

noncomputable def F81.S : FSem := ⟨105, [.imm (.sl (.pair I6 (.sl I6))), .imm I6], [I6], fun k x => F81 k x.1 x.2.1⟩
noncomputable def F81.C : Ctx := ⟨tis, etys, [F13.S, F70.S, F80.S], [0, 1, 4, 5, 6, 15, 19, 26, 37, 42], [], 47⟩
noncomputable def F81.L0 {R : Type} (k : Nat) : LC R := ⟨0, ⟨[(0, .val (.sl (.pair I6 (.sl I6)))), (5, .val I6)], []⟩, [(.ret, ⟨[(4, .val I6)], []⟩), (.ex 0, ⟨[], []⟩)], fun x e => F81.loop0 k k x.1.1 x.1.2.1 (fun u0 => e (.inl ((u0, ()), ()))) (fun _ => e (.inr (((), ()))))⟩
theorem F81.r0 {R : Type} (k j : Nat) (s0 : List (Int × List Int)) (s5 : Int) (e : Outs (F81.L0 (R := R) k).outs → Option R) :
    evRound F81.C k [] (F81.L0 (R := R) k).inn (F81.L0 (R := R) k).outs (loopOf Proofs.Tryz.f105 0) 1 ((s0, s5, ()), ()) (fun x => F81.loop0 k j x.1.1 x.1.2.1 (fun u0 => e (.inl ((u0, ()), ()))) (fun _ => e (.inr (((), ()))))) e =
    F81.loop0 k (j + 1) s0 s5 (fun u0 => e (.inl ((u0, ()), ()))) (fun _ => e (.inr (((), ())))) := by kernel_rfl
theorem F81.eq (k : Nat) (a0 : List (Int × List Int)) (a1 : Int) :
    evF F81.C k [F81.L0 k] Proofs.Tryz.f105 [.imm (.sl (.pair I6 (.sl I6))), .imm I6] [I6] (a0, a1, ()) some = F81 k a0 a1 := by kernel_rfl

noncomputable def F82.S : FSem := ⟨80, [.imm (.pair I6 (.pair I6 I6)), .imm (.sl (.pair I6 (.sl I6))), .imm (.sl (.pair I6 (.sl I6))), .imm I6, .imm I6, .imm I6], [I6], fun k x => F82 k x.1 x.2.1 x.2.2.1 x.2.2.2.1 x.2.2.2.2.1 x.2.2.2.2.2.1⟩
noncomputable def F82.C : Ctx := ⟨tis, etys, [F81.S, F71.S, F72.S, F75.S, F78.S], [0, 1, 2, 3, 4, 5, 6, 12, 13, 14, 15, 16, 17, 18, 19, 20, 21, 24, 30, 37, 39, 46, 55, 68, 84, 93, 105, 121], [], 122⟩
noncomputable def F82.L0 {R : Type} (k : Nat) : LC R := ⟨0, ⟨[(1, .val (.sl (.pair I6 (.sl I6)))), (3, .val I6), (6, .ptr 0), (15, .val I6), (16, .val I6), (17, .val I6)], [.box (some (.pair I6 (.pair I6 I6))) [I6, I6, I6]]⟩, [(.ret, ⟨[(12, .val I6)], []⟩), (.ex 1, ⟨[(15, .val I6), (16, .val I6)], []⟩)], fun x e => F82.loop0 k k x.1.1 x.1.2.1 x.1.2.2.1 x.1.2.2.2.1 x.1.2.2.2.2.1 x.2.1.1 x.2.1.2.1 x.2.1.2.2.1 (fun u0 => e (.inl ((u0, ()), ()))) (fun u0 u1 => e (.inr (((u0, u1, ()), ()))))⟩
theorem F82.r0 {R : Type} (k j : Nat) (s1 : List (Int × List Int)) (s3 : Int) (s15 : Int) (s16 : Int) (s17 : Int) (b6_0 : Int) (b6_1 : Int) (b6_2 : Int) (e : Outs (F82.L0 (R := R) k).outs → Option R) :
    evRound F82.C k [] (F82.L0 (R := R) k).inn (F82.L0 (R := R) k).outs (loopOf Proofs.Tryz.f80 0) 1 ((s1, s3, s15, s16, s17, ()), ((b6_0, b6_1, b6_2, ()), ())) (fun x => F82.loop0 k j x.1.1 x.1.2.1 x.1.2.2.1 x.1.2.2.2.1 x.1.2.2.2.2.1 x.2.1.1 x.2.1.2.1 x.2.1.2.2.1 (fun u0 => e (.inl ((u0, ()), ()))) (fun u0 u1 => e (.inr (((u0, u1, ()), ()))))) e =
    F82.loop0 k (j + 1) s1 s3 s15 s16 s17 b6_0 b6_1 b6_2 (fun u0 => e (.inl ((u0, ()), ()))) (fun u0 u1 => e (.inr (((u0, u1, ()), ())))) := by kernel_rfl
noncomputable def F82.L1 {R : Type} (k : Nat) : LC R := ⟨2, ⟨[(2, .val (.sl (.pair I6 (.sl I6)))), (15, .val I6), (16, .val I6), (21, .val I6)], []⟩, [(.ret, ⟨[(12, .val I6)], []⟩), (.ex 3, ⟨[], []⟩)], fun x e => F82.loop1 k k x.1.1 x.1.2.1 x.1.2.2.1 x.1.2.2.2.1 (fun u0 => e (.inl ((u0, ()), ()))) (fun _ => e (.inr (((), ()))))⟩
theorem F82.r1 {R : Type} (k j : Nat) (s2 : List (Int × List Int)) (s15 : Int) (s16 : Int) (s21 : Int) (e : Outs (F82.L1 (R := R) k).outs → Option R) :
    evRound F82.C k [] (F82.L1 (R := R) k).inn (F82.L1 (R := R) k).outs (loopOf Proofs.Tryz.f80 1) 2 ((s2, s15, s16, s21, ()), ()) (fun x => F82.loop1 k j x.1.1 x.1.2.1 x.1.2.2.1 x.1.2.2.2.1 (fun u0 => e (.inl ((u0, ()), ()))) (fun _ => e (.inr (((), ()))))) e =
    F82.loop1 k (j + 1) s2 s15 s16 s21 (fun u0 => e (.inl ((u0, ()), ()))) (fun _ => e (.inr (((), ())))) := by kernel_rfl
theorem F82.eq (k : Nat) (a0 : Int × Int × Int) (a1 : List (Int × List Int)) (a2 : List (Int × List Int)) (a3 : Int) (a4 : Int) (a5 : Int) :
    evF F82.C k [F82.L0 k, F82.L1 k] Proofs.Tryz.f80 [.imm (.pair I6 (.pair I6 I6)), .imm (.sl (.pair I6 (.sl I6))), .imm (.sl (.pair I6 (.sl I6))), .imm I6, .imm I6, .imm I6] [I6] (a0, a1, a2, a3, a4, a5, ()) some = F82 k a0 a1 a2 a3 a4 a5 := by kernel_rfl

noncomputable def F83.S : FSem := ⟨81, [.imm I6], [.bool], fun k x => F83 k x.1⟩
noncomputable def F83.C : Ctx := ⟨tis, etys, [], [0, 2], [], 9⟩
theorem F83.eq (k : Nat) (a0 : Int) :
    evF F83.C k [] Proofs.Tryz.f81 [.imm I6] [.bool] (a0, ()) some = F83 k a0 := by kernel_rfl

noncomputable def F84.S : FSem := ⟨106, [.imm I6, .imm I6, .imm I6], [I6, .bool], fun k x => F84 k x.1 x.2.1 x.2.2.1⟩
noncomputable def F84.C : Ctx := ⟨tis, etys, [], [0, 1, 2, 6, 7, 28], [], 32⟩
theorem F84.eq (k : Nat) (a0 : Int) (a1 : Int) (a2 : Int) :
    evF F84.C k [] Proofs.Tryz.f106 [.imm I6, .imm I6, .imm I6] [I6, .bool] (a0, a1, a2, ()) some = F84 k a0 a1 a2 := by kernel_rfl

noncomputable def F85.S : FSem := ⟨82, [.imm (.pair I6 (.pair I6 I6))], [I6, .bool], fun k x => F85 k x.1⟩
noncomputable def F85.C : Ctx := ⟨tis, etys, [F84.S], [0, 1, 2, 3, 4, 5, 30], [], 37⟩
theorem F85.eq (k : Nat) (a0 : Int × Int × Int) :
    evF F85.C k [] Proofs.Tryz.f82 [.imm (.pair I6 (.pair I6 I6))] [I6, .bool] (a0, ()) some = F85 k a0 := by kernel_rfl

noncomputable def F86.S : FSem := ⟨113, [.imm I6], [I6], fun k x => F86 k x.1⟩
noncomputable def F86.C : Ctx := ⟨tis, etys, [], [0, 2, 3, 6], [], 9⟩
theorem F86.eq (k : Nat) (a0 : Int) :
    evF F86.C k [] Proofs.Tryz.f113 [.imm I6] [I6] (a0, ()) some = F86 k a0 := by kernel_rfl

noncomputable def F87.S : FSem := ⟨119, [.imm (.pair I6 I6)], [.bool], fun k x => F87 k x.1⟩
noncomputable def F87.C : Ctx := ⟨tis, etys, [F71.S], [0, 1, 2, 4, 5, 15], [], 23⟩
theorem F87.eq (k : Nat) (a0 : Int × Int) :
    evF F87.C k [] Proofs.Tryz.f119 [.imm (.pair I6 I6)] [.bool] (a0, ()) some = F87 k a0 := by kernel_rfl

noncomputable def F88.S : FSem := ⟨107, [.imm (.sl (.pair I6 I6)), .imm .bool], [I6], fun k x => F88 k x.1 x.2.1⟩
noncomputable def F88.C : Ctx := ⟨tis, etys, [F86.S, F87.S], [0, 1, 4, 5, 6, 7, 15, 19, 49, 52, 60], [], 61⟩
noncomputable def F88.L0 {R : Type} (k : Nat) : LC R := ⟨0, ⟨[(0, .val (.sl (.pair I6 I6))), (1, .val .bool), (5, .val I6), (6, .val I6)], []⟩, [(.ret, ⟨[(4, .val I6)], []⟩), (.ex 0, ⟨[(5, .val I6)], []⟩)], fun x e => F88.loop0 k k x.1.1 x.1.2.1 x.1.2.2.1 x.1.2.2.2.1 (fun u0 => e (.inl ((u0, ()), ()))) (fun u0 => e (.inr (((u0, ()), ()))))⟩
theorem F88.r0 {R : Type} (k j : Nat) (s0 : List (Int × Int)) (s1 : Bool) (s5 : Int) (s6 : Int) (e : Outs (F88.L0 (R := R) k).outs → Option R) :
    evRound F88.C k [] (F88.L0 (R := R) k).inn (F88.L0 (R := R) k).outs (loopOf Proofs.Tryz.f107 0) 1 ((s0, s1, s5, s6, ()), ()) (fun x => F88.loop0 k j x.1.1 x.1.2.1 x.1.2.2.1 x.1.2.2.2.1 (fun u0 => e (.inl ((u0, ()), ()))) (fun u0 => e (.inr (((u0, ()), ()))))) e =
    F88.loop0 k (j + 1) s0 s1 s5 s6 (fun u0 => e (.inl ((u0, ()), ()))) (fun u0 => e (.inr (((u0, ()), ())))) := by kernel_rfl
theorem F88.eq (k : Nat) (a0 : List (Int × Int)) (a1 : Bool) :
    evF F88.C k [F88.L0 k] Proofs.Tryz.f107 [.imm (.sl (.pair I6 I6)), .imm .bool] [I6] (a0, a1, ()) some = F88 k a0 a1 := by kernel_rfl

noncomputable def F89.S : FSem := ⟨124, [.imm I6], [I6], fun k x => F89 k x.1⟩
noncomputable def F89.C : Ctx := ⟨tis, etys, [], [0, 2, 4], [], 8⟩
theorem F89.eq (k : Nat) (a0 : Int) :
    evF F89.C k [] Proofs.Tryz.f124 [.imm I6] [I6] (a0, ()) some = F89 k a0 := by kernel_rfl

noncomputable def F90.S : FSem := ⟨123, [.imm I6, .imm I6], [I6, .bool], fun k x => F90 k x.1 x.2.1⟩
noncomputable def F90.C : Ctx := ⟨tis, etys, [], [0, 1, 4, 5, 6, 7, 11, 15, 25], [], 29⟩
theorem F90.eq (k : Nat) (a0 : Int) (a1 : Int) :
    evF F90.C k [] Proofs.Tryz.f123 [.imm I6, .imm I6] [I6, .bool] (a0, a1, ()) some = F90 k a0 a1 := by kernel_rfl

noncomputable def F91.S : FSem := ⟨126, [.imm (.pair I6 I6), .imm (.pair I6 I6)], [(.pair I6 I6), .bool], fun k x => F91 k x.1 x.2.1⟩
noncomputable def F91.C : Ctx := ⟨tis, etys, [F90.S], [0, 1, 2, 3, 4, 5, 6, 7, 8, 9, 10, 11, 12, 13], [], 67⟩
theorem F91.eq (k : Nat) (a0 : Int × Int) (a1 : Int × Int) :
    evF F91.C k [] Proofs.Tryz.f126 [.imm (.pair I6 I6), .imm (.pair I6 I6)] [(.pair I6 I6), .bool] (a0, a1, ()) some = F91 k a0 a1 := by kernel_rfl

noncomputable def F92.S : FSem := ⟨120, [.imm (.pair I6 I6), .imm (.pair I6 I6), .imm (.pair I6 I6), .imm I6, .imm I6], [(.pair I6 I6), .bool], fun k x => F92 k x.1 x.2.1 x.2.2.1 x.2.2.2.1 x.2.2.2.2.1⟩
noncomputable def F92.C : Ctx := ⟨tis, etys, [F89.S, F74.S, F91.S, F78.S], [0, 1, 2, 3, 4, 5, 6, 7, 10, 11, 12, 13, 14, 24, 27, 31, 35, 42, 55, 68, 76, 89, 102, 116, 122], [], 148⟩
theorem F92.eq (k : Nat) (a0 : Int × Int) (a1 : Int × Int) (a2 : Int × Int) (a3 : Int) (a4 : Int) :
    evF F92.C k [] Proofs.Tryz.f120 [.imm (.pair I6 I6), .imm (.pair I6 I6), .imm (.pair I6 I6), .imm I6, .imm I6] [(.pair I6 I6), .bool] (a0, a1, a2, a3, a4, ()) some = F92 k a0 a1 a2 a3 a4 := by kernel_rfl

noncomputable def F93.S : FSem := ⟨108, [.imm (.sl (.pair I6 I6)), .imm I6, .imm I6], [I6, I6, I6], fun k x => F93 k x.1 x.2.1 x.2.2.1⟩
noncomputable def F93.C : Ctx := ⟨tis, etys, [F88.S, F72.S, F86.S, F92.S], [0, 1, 2, 6, 7, 8, 9, 10, 11, 12, 13, 14, 15, 16, 20, 29, 33, 45, 53, 74], [], 92⟩
noncomputable def F93.L0 {R : Type} (k : Nat) : LC R := ⟨0, ⟨[(0, .val (.sl (.pair I6 I6))), (1, .val I6), (2, .val I6), (10, .arr 0), (11, .val I6)], [.arr (.pair I6 I6)]⟩, [(.ret, ⟨[(6, .val I6), (7, .val I6), (8, .val I6)], []⟩), (.ex 0, ⟨[(10, .arr 0)], [.arr (.pair I6 I6)]⟩)], fun x e => F93.loop0 k k x.1.1 x.1.2.1 x.1.2.2.1 x.1.2.2.2.1 x.2.1 (fun u0 u1 u2 => e (.inl ((u0, u1, u2, ()), ()))) (fun u0 => e (.inr (((), (u0, ())))))⟩
theorem F93.r0 {R : Type} (k j : Nat) (s0 : List (Int × Int)) (s1 : Int) (s2 : Int) (s11 : Int) (l10 : List (Int × Int)) (e : Outs (F93.L0 (R := R) k).outs → Option R) :
    evRound F93.C k [] (F93.L0 (R := R) k).inn (F93.L0 (R := R) k).outs (loopOf Proofs.Tryz.f108 0) 1 ((s0, s1, s2, s11, ()), (l10, ())) (fun x => F93.loop0 k j x.1.1 x.1.2.1 x.1.2.2.1 x.1.2.2.2.1 x.2.1 (fun u0 u1 u2 => e (.inl ((u0, u1, u2, ()), ()))) (fun u0 => e (.inr (((), (u0, ())))))) e =
    F93.loop0 k (j + 1) s0 s1 s2 s11 l10 (fun u0 u1 u2 => e (.inl ((u0, u1, u2, ()), ()))) (fun u0 => e (.inr (((), (u0, ()))))) := by kernel_rfl
theorem F93.eq (k : Nat) (a0 : List (Int × Int)) (a1 : Int) (a2 : Int) :
    evF F93.C k [F93.L0 k] Proofs.Tryz.f108 [.imm (.sl (.pair I6 I6)), .imm I6, .imm I6] [I6, I6, I6] (a0, a1, a2, ()) some = F93 k a0 a1 a2 := by kernel_rfl

noncomputable def F94.S : FSem := ⟨83, [.imm (.sl (.pair I6 I6)), .imm .bool, .imm I6, .imm I6, .imm I6], [I6], fun k x => F94 k x.1 x.2.1 x.2.2.1 x.2.2.2.1 x.2.2.2.2.1⟩
noncomputable def F94.C : Ctx := ⟨tis, etys, [F88.S, F72.S, F93.S], [0, 1, 2, 3, 4, 10, 11, 14, 19, 23, 25], [], 35⟩
theorem F94.eq (k : Nat) (a0 : List (Int × Int)) (a1 : Bool) (a2 : Int) (a3 : Int) (a4 : Int) :
    evF F94.C k [] Proofs.Tryz.f83 [.imm (.sl (.pair I6 I6)), .imm .bool, .imm I6, .imm I6, .imm I6] [I6] (a0, a1, a2, a3, a4, ()) some = F94 k a0 a1 a2 a3 a4 := by kernel_rfl

noncomputable def F95.S : FSem := ⟨50, [.imm (.pair I6 (.pair I6 (.pair I6 (.pair .bool (.pair (.pair I6 I6) (.pair I6 (.pair I6 (.pair (.sl I6) (.pair (.sl I6) (.pair (.sl I6) (.pair I6 (.pair I6 (.pair (.sl (.pair I6 (.sl I6))) (.pair (.sl (.pair I6 (.sl I6))) (.pair I6 (.pair (.sl (.pair I6 I6)) I6)))))))))))))))), .imm (.pair I6 (.pair I6 I6)), .imm (.pair I6 (.pair I6 I6))], [(.pair I6 (.pair I6 I6)), I6], fun k x => F95 k x.1 x.2.1 x.2.2.1⟩
noncomputable def F95.C : Ctx := ⟨tis, etys, [F76.S, F79.S, F82.S, F83.S, F85.S, F63.S, F94.S], [0, 1, 2, 3, 4, 5, 6, 7, 8, 9, 10, 11, 20, 21, 37, 53, 76, 81, 91, 99, 119, 137], [], 140⟩
theorem F95.eq (k : Nat) (a0 : Int × Int × Int × Bool × (Int × Int) × Int × Int × (List Int) × (List Int) × (List Int) × Int × Int × (List (Int × List Int)) × (List (Int × List Int)) × Int × (List (Int × Int)) × Int) (a1 : Int × Int × Int) (a2 : Int × Int × Int) :
    evF F95.C k [] Proofs.Tryz.f50 [.imm (.pair I6 (.pair I6 (.pair I6 (.pair .bool (.pair (.pair I6 I6) (.pair I6 (.pair I6 (.pair (.sl I6) (.pair (.sl I6) (.pair (.sl I6) (.pair I6 (.pair I6 (.pair (.sl (.pair I6 (.sl I6))) (.pair (.sl (.pair I6 (.sl I6))) (.pair I6 (.pair (.sl (.pair I6 I6)) I6)))))))))))))))), .imm (.pair I6 (.pair I6 I6)), .imm (.pair I6 (.pair I6 I6))] [(.pair I6 (.pair I6 I6)), I6] (a0, a1, a2, ()) some = F95 k a0 a1 a2 := by kernel_rfl

noncomputable def F96.S : FSem := ⟨28, [.imm (.pair I6 (.pair I6 (.pair I6 (.pair .bool (.pair (.pair I6 I6) (.pair I6 (.pair I6 (.pair (.sl I6) (.pair (.sl I6) (.pair (.sl I6) (.pair I6 (.pair I6 (.pair (.sl (.pair I6 (.sl I6))) (.pair (.sl (.pair I6 (.sl I6))) (.pair I6 (.pair (.sl (.pair I6 I6)) I6)))))))))))))))), .imm (.pair I6 (.pair I6 I6)), .imm (.pair I6 (.pair I6 I6))], [(.pair I6 (.pair I6 I6)), I6], fun k x => F96 k x.1 x.2.1 x.2.2.1⟩
noncomputable def F96.C : Ctx := ⟨tis, etys, [F65.S, F66.S, F63.S, F64.S, F67.S, F95.S], [0, 1, 2, 3, 4, 5, 6, 7, 8, 9, 10, 15, 29, 50], [], 54⟩
theorem F96.eq (k : Nat) (a0 : Int × Int × Int × Bool × (Int × Int) × Int × Int × (List Int) × (List Int) × (List Int) × Int × Int × (List (Int × List Int)) × (List (Int × List Int)) × Int × (List (Int × Int)) × Int) (a1 : Int × Int × Int) (a2 : Int × Int × Int) :
    evF F96.C k [] Proofs.Tryz.f28 [.imm (.pair I6 (.pair I6 (.pair I6 (.pair .bool (.pair (.pair I6 I6) (.pair I6 (.pair I6 (.pair (.sl I6) (.pair (.sl I6) (.pair (.sl I6) (.pair I6 (.pair I6 (.pair (.sl (.pair I6 (.sl I6))) (.pair (.sl (.pair I6 (.sl I6))) (.pair I6 (.pair (.sl (.pair I6 I6)) I6)))))))))))))))), .imm (.pair I6 (.pair I6 I6)), .imm (.pair I6 (.pair I6 I6))] [(.pair I6 (.pair I6 I6)), I6] (a0, a1, a2, ()) some = F96 k a0 a1 a2 := by kernel_rfl

noncomputable def F97.S : FSem := ⟨52, [.imm (.pair I6 (.pair I6 (.pair I6 (.sl I6))))], [(.pair I6 (.pair I6 (.pair I6 I6)))], fun k x => F97 k x.1⟩
noncomputable def F97.C : Ctx := ⟨tis, etys, [], [0, 1, 2], [], 8⟩
theorem F97.eq (k : Nat) (a0 : Int × Int × Int × List Int) :
    evF F97.C k [] Proofs.Tryz.f52 [.imm (.pair I6 (.pair I6 (.pair I6 (.sl I6))))] [(.pair I6 (.pair I6 (.pair I6 I6)))] (a0, ()) some = F97 k a0 := by kernel_rfl

noncomputable def F98.S : FSem := ⟨121, [.imm I6], [.bool], fun k x => F98 k x.1⟩
noncomputable def F98.C : Ctx := ⟨tis, etys, [], [0, 2], [], 9⟩
theorem F98.eq (k : Nat) (a0 : Int) :
    evF F98.C k [] Proofs.Tryz.f121 [.imm I6] [.bool] (a0, ()) some = F98 k a0 := by kernel_rfl

noncomputable def F99.S : FSem := ⟨109, [.imm (.pair I6 (.pair I6 (.pair I6 I6)))], [.bool], fun k x => F99 k x.1⟩
noncomputable def F99.C : Ctx := ⟨tis, etys, [F98.S], [0, 1, 2], [], 40⟩
theorem F99.eq (k : Nat) (a0 : Int × Int × Int × Int) :
    evF F99.C k [] Proofs.Tryz.f109 [.imm (.pair I6 (.pair I6 (.pair I6 I6)))] [.bool] (a0, ()) some = F99 k a0 := by kernel_rfl

noncomputable def F100.S : FSem := ⟨110, [.imm (.pair I6 (.pair I6 (.pair I6 I6)))], [.bool], fun k x => F100 k x.1⟩
noncomputable def F100.C : Ctx := ⟨tis, etys, [], [0, 1, 2], [], 6⟩
theorem F100.eq (k : Nat) (a0 : Int × Int × Int × Int) :
    evF F100.C k [] Proofs.Tryz.f110 [.imm (.pair I6 (.pair I6 (.pair I6 I6)))] [.bool] (a0, ()) some = F100 k a0 := by kernel_rfl

noncomputable def F101.S : FSem := ⟨84, [.imm (.pair I6 (.pair I6 (.pair I6 I6)))], [.bool], fun k x => F101 k x.1⟩
noncomputable def F101.C : Ctx := ⟨tis, etys, [F99.S, F100.S], [0, 1, 2], [], 10⟩
theorem F101.eq (k : Nat) (a0 : Int × Int × Int × Int) :
    evF F101.C k [] Proofs.Tryz.f84 [.imm (.pair I6 (.pair I6 (.pair I6 I6)))] [.bool] (a0, ()) some = F101 k a0 := by kernel_rfl

noncomputable def F102.S : FSem := ⟨85, [.imm (.pair I6 (.pair I6 (.pair I6 I6))), .imm (.pair I6 (.pair I6 (.pair I6 I6)))], [.bool], fun k x => F102 k x.1 x.2.1⟩
noncomputable def F102.C : Ctx := ⟨tis, etys, [F99.S, F100.S], [0, 1, 2, 3, 4, 12], [], 43⟩
theorem F102.eq (k : Nat) (a0 : Int × Int × Int × Int) (a1 : Int × Int × Int × Int) :
    evF F102.C k [] Proofs.Tryz.f85 [.imm (.pair I6 (.pair I6 (.pair I6 I6))), .imm (.pair I6 (.pair I6 (.pair I6 I6)))] [.bool] (a0, a1, ()) some = F102 k a0 a1 := by kernel_rfl

noncomputable def F103.S : FSem := ⟨86, [.imm I6, .imm I6, .imm I6], [I6], fun k x => F103 k x.1 x.2.1 x.2.2.1⟩
noncomputable def F103.C : Ctx := ⟨tis, etys, [F83.S], [0, 1, 2, 6, 26], [], 33⟩
theorem F103.eq (k : Nat) (a0 : Int) (a1 : Int) (a2 : Int) :
    evF F103.C k [] Proofs.Tryz.f86 [.imm I6, .imm I6, .imm I6] [I6] (a0, a1, a2, ()) some = F103 k a0 a1 a2 := by kernel_rfl

noncomputable def F104.S : FSem := ⟨51, [.imm (.pair I6 (.pair I6 (.pair I6 (.sl I6)))), .imm I6, .imm (.pair I6 (.pair I6 (.pair I6 I6)))], [(.sl I6), I6], fun k x => F104 k x.1 x.2.1 x.2.2.1⟩
noncomputable def F104.C : Ctx := ⟨tis, etys, [F62.S, F83.S, F101.S, F97.S, F102.S, F103.S], [0, 1, 2, 3, 5, 6, 7, 8, 9, 10, 11, 15, 19, 37, 45], [], 68⟩
noncomputable def F104.L1 {R : Type} (k : Nat) : LC R := ⟨2, ⟨[(1, .val I6), (3, .ptr 0), (5, .ptr 1), (8, .arr 2), (9, .val I6), (10, .val I6)], [.box (some (.pair I6 (.pair I6 (.pair I6 (.sl I6))))) [I6, I6, I6, (.sl I6)], .box (some (.pair I6 (.pair I6 (.pair I6 I6)))) [I6, I6, I6, I6], .arr I6]⟩, [(.ex 3, ⟨[(3, .ptr 0), (5, .ptr 1), (8, .arr 2)], [.box (some (.pair I6 (.pair I6 (.pair I6 (.sl I6))))) [I6, I6, I6, (.sl I6)], .box (some (.pair I6 (.pair I6 (.pair I6 I6)))) [I6, I6, I6, I6], .arr I6]⟩)], fun x e => F104.loop1 k k x.1.1 x.1.2.1 x.1.2.2.1 x.2.1.1 x.2.1.2.1 x.2.1.2.2.1 x.2.1.2.2.2.1 x.2.2.1.1 x.2.2.1.2.1 x.2.2.1.2.2.1 x.2.2.1.2.2.2.1 x.2.2.2.1 (fun u0 u1 u2 u3 u4 u5 u6 u7 u8 => e ((), ((u0, u1, u2, u3, ()), (u4, u5, u6, u7, ()), u8, ())))⟩
theorem F104.r1 {R : Type} (k j : Nat) (s1 : Int) (s9 : Int) (s10 : Int) (b3_0 : Int) (b3_1 : Int) (b3_2 : Int) (b3_3 : List Int) (b5_0 : Int) (b5_1 : Int) (b5_2 : Int) (b5_3 : Int) (l8 : List Int) (e : Outs (F104.L1 (R := R) k).outs → Option R) :
    evRound F104.C k [] (F104.L1 (R := R) k).inn (F104.L1 (R := R) k).outs (loopOf Proofs.Tryz.f51 1) 2 ((s1, s9, s10, ()), ((b3_0, b3_1, b3_2, b3_3, ()), (b5_0, b5_1, b5_2, b5_3, ()), l8, ())) (fun x => F104.loop1 k j x.1.1 x.1.2.1 x.1.2.2.1 x.2.1.1 x.2.1.2.1 x.2.1.2.2.1 x.2.1.2.2.2.1 x.2.2.1.1 x.2.2.1.2.1 x.2.2.1.2.2.1 x.2.2.1.2.2.2.1 x.2.2.2.1 (fun u0 u1 u2 u3 u4 u5 u6 u7 u8 => e ((), ((u0, u1, u2, u3, ()), (u4, u5, u6, u7, ()), u8, ())))) e =
    F104.loop1 k (j + 1) s1 s9 s10 b3_0 b3_1 b3_2 b3_3 b5_0 b5_1 b5_2 b5_3 l8 (fun u0 u1 u2 u3 u4 u5 u6 u7 u8 => e ((), ((u0, u1, u2, u3, ()), (u4, u5, u6, u7, ()), u8, ()))) := by kernel_rfl
noncomputable def F104.L0 {R : Type} (k : Nat) : LC R := ⟨0, ⟨[(1, .val I6), (3, .ptr 0), (5, .ptr 1), (8, .arr 2), (9, .val I6)], [.box (some (.pair I6 (.pair I6 (.pair I6 (.sl I6))))) [I6, I6, I6, (.sl I6)], .box (some (.pair I6 (.pair I6 (.pair I6 I6)))) [I6, I6, I6, I6], .arr I6]⟩, [(.ex 1, ⟨[(8, .arr 0)], [.arr I6]⟩)], fun x e => F104.loop0 k k x.1.1 x.1.2.1 x.2.1.1 x.2.1.2.1 x.2.1.2.2.1 x.2.1.2.2.2.1 x.2.2.1.1 x.2.2.1.2.1 x.2.2.1.2.2.1 x.2.2.1.2.2.2.1 x.2.2.2.1 (fun u0 => e ((), (u0, ())))⟩
theorem F104.r0 {R : Type} (k j : Nat) (s1 : Int) (s9 : Int) (b3_0 : Int) (b3_1 : Int) (b3_2 : Int) (b3_3 : List Int) (b5_0 : Int) (b5_1 : Int) (b5_2 : Int) (b5_3 : Int) (l8 : List Int) (e : Outs (F104.L0 (R := R) k).outs → Option R) :
    evRound F104.C k [F104.L1 k] (F104.L0 (R := R) k).inn (F104.L0 (R := R) k).outs (loopOf Proofs.Tryz.f51 0) 1 ((s1, s9, ()), ((b3_0, b3_1, b3_2, b3_3, ()), (b5_0, b5_1, b5_2, b5_3, ()), l8, ())) (fun x => F104.loop0 k j x.1.1 x.1.2.1 x.2.1.1 x.2.1.2.1 x.2.1.2.2.1 x.2.1.2.2.2.1 x.2.2.1.1 x.2.2.1.2.1 x.2.2.1.2.2.1 x.2.2.1.2.2.2.1 x.2.2.2.1 (fun u0 => e ((), (u0, ())))) e =
    F104.loop0 k (j + 1) s1 s9 b3_0 b3_1 b3_2 b3_3 b5_0 b5_1 b5_2 b5_3 l8 (fun u0 => e ((), (u0, ()))) := by kernel_rfl
theorem F104.eq (k : Nat) (a0 : Int × Int × Int × List Int) (a1 : Int) (a2 : Int × Int × Int × Int) :
    evF F104.C k [F104.L1 k, F104.L0 k] Proofs.Tryz.f51 [.imm (.pair I6 (.pair I6 (.pair I6 (.sl I6)))), .imm I6, .imm (.pair I6 (.pair I6 (.pair I6 I6)))] [(.sl I6), I6] (a0, a1, a2, ()) some = F104 k a0 a1 a2 := by kernel_rfl

noncomputable def F105.S : FSem := ⟨29, [.imm (.pair I6 (.pair I6 (.pair I6 (.sl I6)))), .imm I6], [(.pair I6 (.pair I6 (.pair I6 (.sl I6)))), I6], fun k x => F105 k x.1 x.2.1⟩
noncomputable def F105.C : Ctx := ⟨tis, etys, [F97.S, F104.S], [0, 1, 2, 4, 5, 6, 7, 17], [], 28⟩
theorem F105.eq (k : Nat) (a0 : Int × Int × Int × List Int) (a1 : Int) :
    evF F105.C k [] Proofs.Tryz.f29 [.imm (.pair I6 (.pair I6 (.pair I6 (.sl I6)))), .imm I6] [(.pair I6 (.pair I6 (.pair I6 (.sl I6)))), I6] (a0, a1, ()) some = F105 k a0 a1 := by kernel_rfl

noncomputable def F106.S : FSem := ⟨53, [.imm (.pair I6 (.pair I6 (.pair I6 (.sl I6))))], [I6, I6], fun k x => F106 k x.1⟩
noncomputable def F106.C : Ctx := ⟨tis, etys, [F62.S, F85.S], [0, 1, 2, 3, 4, 5, 8, 21], [], 23⟩
theorem F106.eq (k : Nat) (a0 : Int × Int × Int × List Int) :
    evF F106.C k [] Proofs.Tryz.f53 [.imm (.pair I6 (.pair I6 (.pair I6 (.sl I6))))] [I6, I6] (a0, ()) some = F106 k a0 := by kernel_rfl

noncomputable def F107.S : FSem := ⟨54, [.imm I6, .imm I6, .imm I6], [(.pair I6 (.pair I6 (.pair I6 (.ow I6)))), .bool], fun k x => F107 k x.1 x.2.1 x.2.2.1⟩
noncomputable def F107.C : Ctx := ⟨tis, etys, [F61.S], [0, 1, 2, 6, 7, 12], [], 22⟩
theorem F107.eq (k : Nat) (a0 : Int) (a1 : Int) (a2 : Int) :
    evF F107.C k [] Proofs.Tryz.f54 [.imm I6, .imm I6, .imm I6] [(.pair I6 (.pair I6 (.pair I6 (.ow I6)))), .bool] (a0, a1, a2, ()) some = F107 k a0 a1 a2 := by kernel_rfl

noncomputable def F108.S : FSem := ⟨30, [.imm (.pair I6 (.pair I6 (.pair I6 (.sl I6))))], [(.pair I6 (.pair I6 (.pair I6 (.sl I6)))), I6], fun k x => F108 k x.1⟩
noncomputable def F108.C : Ctx := ⟨tis, etys, [F106.S, F107.S], [0, 1, 2, 3, 4, 5, 6, 8, 9, 10, 17, 32, 38, 64], [], 89⟩
noncomputable def F108.L1 {R : Type} (k : Nat) : LC R := ⟨2, ⟨[(1, .ptr 0), (6, .ptr 1), (8, .val I6), (9, .val I6), (10, .val I6)], [.box (some (.pair I6 (.pair I6 (.pair I6 (.sl I6))))) [I6, I6, I6, (.sl I6)], .box (some (.pair I6 (.pair I6 (.pair I6 (.sl I6))))) [I6, I6, I6, (.ow I6)]]⟩, [(.ex 2, ⟨[(1, .ptr 0), (6, .ptr 1)], [.box (some (.pair I6 (.pair I6 (.pair I6 (.sl I6))))) [I6, I6, I6, (.sl I6)], .box (some (.pair I6 (.pair I6 (.pair I6 (.sl I6))))) [I6, I6, I6, (.ow I6)]]⟩)], fun x e => F108.loop1 k k x.1.1 x.1.2.1 x.1.2.2.1 x.2.1.1 x.2.1.2.1 x.2.1.2.2.1 x.2.1.2.2.2.1 x.2.2.1.1 x.2.2.1.2.1 x.2.2.1.2.2.1 x.2.2.1.2.2.2.1 (fun u0 u1 u2 u3 u4 u5 u6 u7 => e ((), ((u0, u1, u2, u3, ()), (u4, u5, u6, u7, ()), ())))⟩
theorem F108.r1 {R : Type} (k j : Nat) (s8 : Int) (s9 : Int) (s10 : Int) (b1_0 : Int) (b1_1 : Int) (b1_2 : Int) (b1_3 : List Int) (b6_0 : Int) (b6_1 : Int) (b6_2 : Int) (b6_3 : List Int) (e : Outs (F108.L1 (R := R) k).outs → Option R) :
    evRound F108.C k [] (F108.L1 (R := R) k).inn (F108.L1 (R := R) k).outs (loopOf Proofs.Tryz.f30 1) 2 ((s8, s9, s10, ()), ((b1_0, b1_1, b1_2, b1_3, ()), (b6_0, b6_1, b6_2, b6_3, ()), ())) (fun x => F108.loop1 k j x.1.1 x.1.2.1 x.1.2.2.1 x.2.1.1 x.2.1.2.1 x.2.1.2.2.1 x.2.1.2.2.2.1 x.2.2.1.1 x.2.2.1.2.1 x.2.2.1.2.2.1 x.2.2.1.2.2.2.1 (fun u0 u1 u2 u3 u4 u5 u6 u7 => e ((), ((u0, u1, u2, u3, ()), (u4, u5, u6, u7, ()), ())))) e =
    F108.loop1 k (j + 1) s8 s9 s10 b1_0 b1_1 b1_2 b1_3 b6_0 b6_1 b6_2 b6_3 (fun u0 u1 u2 u3 u4 u5 u6 u7 => e ((), ((u0, u1, u2, u3, ()), (u4, u5, u6, u7, ()), ()))) := by kernel_rfl
noncomputable def F108.L0 {R : Type} (k : Nat) : LC R := ⟨0, ⟨[(1, .ptr 0), (6, .ptr 1), (8, .val I6)], [.box (some (.pair I6 (.pair I6 (.pair I6 (.sl I6))))) [I6, I6, I6, (.sl I6)], .box (some (.pair I6 (.pair I6 (.pair I6 (.sl I6))))) [I6, I6, I6, (.ow I6)]]⟩, [(.ex 0, ⟨[(6, .ptr 0)], [.box (some (.pair I6 (.pair I6 (.pair I6 (.sl I6))))) [I6, I6, I6, (.ow I6)]]⟩)], fun x e => F108.loop0 k k x.1.1 x.2.1.1 x.2.1.2.1 x.2.1.2.2.1 x.2.1.2.2.2.1 x.2.2.1.1 x.2.2.1.2.1 x.2.2.1.2.2.1 x.2.2.1.2.2.2.1 (fun u0 u1 u2 u3 => e ((), ((u0, u1, u2, u3, ()), ())))⟩
theorem F108.r0 {R : Type} (k j : Nat) (s8 : Int) (b1_0 : Int) (b1_1 : Int) (b1_2 : Int) (b1_3 : List Int) (b6_0 : Int) (b6_1 : Int) (b6_2 : Int) (b6_3 : List Int) (e : Outs (F108.L0 (R := R) k).outs → Option R) :
    evRound F108.C k [F108.L1 k] (F108.L0 (R := R) k).inn (F108.L0 (R := R) k).outs (loopOf Proofs.Tryz.f30 0) 1 ((s8, ()), ((b1_0, b1_1, b1_2, b1_3, ()), (b6_0, b6_1, b6_2, b6_3, ()), ())) (fun x => F108.loop0 k j x.1.1 x.2.1.1 x.2.1.2.1 x.2.1.2.2.1 x.2.1.2.2.2.1 x.2.2.1.1 x.2.2.1.2.1 x.2.2.1.2.2.1 x.2.2.1.2.2.2.1 (fun u0 u1 u2 u3 => e ((), ((u0, u1, u2, u3, ()), ())))) e =
    F108.loop0 k (j + 1) s8 b1_0 b1_1 b1_2 b1_3 b6_0 b6_1 b6_2 b6_3 (fun u0 u1 u2 u3 => e ((), ((u0, u1, u2, u3, ()), ()))) := by kernel_rfl
theorem F108.eq (k : Nat) (a0 : Int × Int × Int × List Int) :
    evF F108.C k [F108.L1 k, F108.L0 k] Proofs.Tryz.f30 [.imm (.pair I6 (.pair I6 (.pair I6 (.sl I6))))] [(.pair I6 (.pair I6 (.pair I6 (.sl I6)))), I6] (a0, ()) some = F108 k a0 := by kernel_rfl

noncomputable def F109.S : FSem := ⟨122, [.imm I6, .imm I6], [I6], fun k x => F109 k x.1 x.2.1⟩
noncomputable def F109.C : Ctx := ⟨tis, etys, [], [0, 1, 4, 5, 10], [], 15⟩
theorem F109.eq (k : Nat) (a0 : Int) (a1 : Int) :
    evF F109.C k [] Proofs.Tryz.f122 [.imm I6, .imm I6] [I6] (a0, a1, ()) some = F109 k a0 a1 := by kernel_rfl

noncomputable def F110.S : FSem := ⟨111, [.imm I6, .imm I6, .imm I6], [I6, .bool], fun k x => F110 k x.1 x.2.1 x.2.2.1⟩
noncomputable def F110.C : Ctx := ⟨tis, etys, [F109.S], [0, 1, 2, 6, 7, 8, 14, 15, 16, 23, 31, 41, 46, 54], [], 56⟩
theorem F110.eq (k : Nat) (a0 : Int) (a1 : Int) (a2 : Int) :
    evF F110.C k [] Proofs.Tryz.f111 [.imm I6, .imm I6, .imm I6] [I6, .bool] (a0, a1, a2, ()) some = F110 k a0 a1 a2 := by kernel_rfl

noncomputable def F111.S : FSem := ⟨87, [.imm (.pair I6 (.pair I6 (.pair I6 (.sl I6)))), .imm (.pair I6 I6), .imm I6, .imm I6], [I6], fun k x => F111 k x.1 x.2.1 x.2.2.1 x.2.2.2.1⟩
noncomputable def F111.C : Ctx := ⟨tis, etys, [F110.S], [0, 1, 2, 3, 4, 5, 8, 9, 10, 11, 12, 36], [], 49⟩
theorem F111.eq (k : Nat) (a0 : Int × Int × Int × List Int) (a1 : Int × Int) (a2 : Int) (a3 : Int) :
    evF F111.C k [] Proofs.Tryz.f87 [.imm (.pair I6 (.pair I6 (.pair I6 (.sl I6)))), .imm (.pair I6 I6), .imm I6, .imm I6] [I6] (a0, a1, a2, a3, ()) some = F111 k a0 a1 a2 a3 := by kernel_rfl

noncomputable def F112.S : FSem := ⟨88, [.imm I6, .imm I6], [I6], fun k x => F112 k x.1 x.2.1⟩
noncomputable def F112.C : Ctx := ⟨tis, etys, [], [0, 1, 4, 5, 12], [], 18⟩
theorem F112.eq (k : Nat) (a0 : Int) (a1 : Int) :
    evF F112.C k [] Proofs.Tryz.f88 [.imm I6, .imm I6] [I6] (a0, a1, ()) some = F112 k a0 a1 := by kernel_rfl

noncomputable def F113.S : FSem := ⟨55, [.imm (.pair I6 (.pair I6 (.pair I6 (.sl I6)))), .imm (.pair I6 I6), .imm I6, .imm I6, .imm (.sl I6), .imm I6, .imm I6, .imm (.pair I6 (.pair I6 (.pair I6 I6)))], [(.pair I6 (.pair I6 (.pair I6 (.sl I6)))), I6], fun k x => F113 k x.1 x.2.1 x.2.2.1 x.2.2.2.1 x.2.2.2.2.1 x.2.2.2.2.2.1 x.2.2.2.2.2.2.1 x.2.2.2.2.2.2.2.1⟩
noncomputable def F113.C : Ctx := ⟨tis, etys, [F62.S, F67.S, F76.S, F101.S, F97.S, F102.S, F107.S, F111.S, F77.S, F112.S], [0, 1, 2, 3, 4, 5, 6, 7, 8, 9, 15, 16, 17, 18, 19, 21, 22, 23, 24, 34, 45, 57, 79, 87, 93], [], 143⟩
noncomputable def F113.L2 {R : Type} (k : Nat) : LC R := ⟨4, ⟨[(2, .val I6), (3, .val I6), (4, .val (.sl I6)), (8, .ptr 0), (9, .ptr 1), (21, .val I6), (22, .val I6), (23, .val I6), (24, .val I6)], [.box (some (.pair I6 (.pair I6 (.pair I6 (.sl I6))))) [I6, I6, I6, (.sl I6)], .box (some (.pair I6 I6)) [I6, I6]]⟩, [(.ex 4, ⟨[(8, .ptr 0), (9, .ptr 1), (23, .val I6)], [.box (some (.pair I6 (.pair I6 (.pair I6 (.sl I6))))) [I6, I6, I6, (.sl I6)], .box (some (.pair I6 I6)) [I6, I6]]⟩)], fun x e => F113.loop2 k k x.1.1 x.1.2.1 x.1.2.2.1 x.1.2.2.2.1 x.1.2.2.2.2.1 x.1.2.2.2.2.2.1 x.1.2.2.2.2.2.2.1 x.2.1.1 x.2.1.2.1 x.2.1.2.2.1 x.2.1.2.2.2.1 x.2.2.1.1 x.2.2.1.2.1 (fun u0 u1 u2 u3 u4 u5 u6 => e ((u0, ()), ((u1, u2, u3, u4, ()), (u5, u6, ()), ())))⟩
theorem F113.r2 {R : Type} (k j : Nat) (s2 : Int) (s3 : Int) (s4 : List Int) (s21 : Int) (s22 : Int) (s23 : Int) (s24 : Int) (b8_0 : Int) (b8_1 : Int) (b8_2 : Int) (b8_3 : List Int) (b9_0 : Int) (b9_1 : Int) (e : Outs (F113.L2 (R := R) k).outs → Option R) :
    evRound F113.C k [] (F113.L2 (R := R) k).inn (F113.L2 (R := R) k).outs (loopOf Proofs.Tryz.f55 2) 3 ((s2, s3, s4, s21, s22, s23, s24, ()), ((b8_0, b8_1, b8_2, b8_3, ()), (b9_0, b9_1, ()), ())) (fun x => F113.loop2 k j x.1.1 x.1.2.1 x.1.2.2.1 x.1.2.2.2.1 x.1.2.2.2.2.1 x.1.2.2.2.2.2.1 x.1.2.2.2.2.2.2.1 x.2.1.1 x.2.1.2.1 x.2.1.2.2.1 x.2.1.2.2.2.1 x.2.2.1.1 x.2.2.1.2.1 (fun u0 u1 u2 u3 u4 u5 u6 => e ((u0, ()), ((u1, u2, u3, u4, ()), (u5, u6, ()), ())))) e =
    F113.loop2 k (j + 1) s2 s3 s4 s21 s22 s23 s24 b8_0 b8_1 b8_2 b8_3 b9_0 b9_1 (fun u0 u1 u2 u3 u4 u5 u6 => e ((u0, ()), ((u1, u2, u3, u4, ()), (u5, u6, ()), ()))) := by kernel_rfl
noncomputable def F113.L1 {R : Type} (k : Nat) : LC R := ⟨2, ⟨[(2, .val I6), (3, .val I6), (4, .val (.sl I6)), (5, .val I6), (6, .val I6), (8, .ptr 0), (9, .ptr 1), (15, .ptr 2), (19, .ptr 3), (21, .val I6), (22, .val I6)], [.box (some (.pair I6 (.pair I6 (.pair I6 (.sl I6))))) [I6, I6, I6, (.sl I6)], .box (some (.pair I6 I6)) [I6, I6], .box (some (.pair I6 (.pair I6 (.pair I6 I6)))) [I6, I6, I6, I6], .box (some (.pair I6 (.pair I6 (.pair I6 (.sl I6))))) [I6, I6, I6, (.ow I6)]]⟩, [(.ex 2, ⟨[(8, .ptr 0), (9, .ptr 1), (15, .ptr 2), (19, .ptr 3)], [.box (some (.pair I6 (.pair I6 (.pair I6 (.sl I6))))) [I6, I6, I6, (.sl I6)], .box (some (.pair I6 I6)) [I6, I6], .box (some (.pair I6 (.pair I6 (.pair I6 I6)))) [I6, I6, I6, I6], .box (some (.pair I6 (.pair I6 (.pair I6 (.sl I6))))) [I6, I6, I6, (.ow I6)]]⟩)], fun x e => F113.loop1 k k x.1.1 x.1.2.1 x.1.2.2.1 x.1.2.2.2.1 x.1.2.2.2.2.1 x.1.2.2.2.2.2.1 x.1.2.2.2.2.2.2.1 x.2.1.1 x.2.1.2.1 x.2.1.2.2.1 x.2.1.2.2.2.1 x.2.2.1.1 x.2.2.1.2.1 x.2.2.2.1.1 x.2.2.2.1.2.1 x.2.2.2.1.2.2.1 x.2.2.2.1.2.2.2.1 x.2.2.2.2.1.1 x.2.2.2.2.1.2.1 x.2.2.2.2.1.2.2.1 x.2.2.2.2.1.2.2.2.1 (fun u0 u1 u2 u3 u4 u5 u6 u7 u8 u9 u10 u11 u12 u13 => e ((), ((u0, u1, u2, u3, ()), (u4, u5, ()), (u6, u7, u8, u9, ()), (u10, u11, u12, u13, ()), ())))⟩
theorem F113.r1 {R : Type} (k j : Nat) (s2 : Int) (s3 : Int) (s4 : List Int) (s5 : Int) (s6 : Int) (s21 : Int) (s22 : Int) (b8_0 : Int) (b8_1 : Int) (b8_2 : Int) (b8_3 : List Int) (b9_0 : Int) (b9_1 : Int) (b15_0 : Int) (b15_1 : Int) (b15_2 : Int) (b15_3 : Int) (b19_0 : Int) (b19_1 : Int) (b19_2 : Int) (b19_3 : List Int) (e : Outs (F113.L1 (R := R) k).outs → Option R) :
    evRound F113.C k [F113.L2 k] (F113.L1 (R := R) k).inn (F113.L1 (R := R) k).outs (loopOf Proofs.Tryz.f55 1) 2 ((s2, s3, s4, s5, s6, s21, s22, ()), ((b8_0, b8_1, b8_2, b8_3, ()), (b9_0, b9_1, ()), (b15_0, b15_1, b15_2, b15_3, ()), (b19_0, b19_1, b19_2, b19_3, ()), ())) (fun x => F113.loop1 k j x.1.1 x.1.2.1 x.1.2.2.1 x.1.2.2.2.1 x.1.2.2.2.2.1 x.1.2.2.2.2.2.1 x.1.2.2.2.2.2.2.1 x.2.1.1 x.2.1.2.1 x.2.1.2.2.1 x.2.1.2.2.2.1 x.2.2.1.1 x.2.2.1.2.1 x.2.2.2.1.1 x.2.2.2.1.2.1 x.2.2.2.1.2.2.1 x.2.2.2.1.2.2.2.1 x.2.2.2.2.1.1 x.2.2.2.2.1.2.1 x.2.2.2.2.1.2.2.1 x.2.2.2.2.1.2.2.2.1 (fun u0 u1 u2 u3 u4 u5 u6 u7 u8 u9 u10 u11 u12 u13 => e ((), ((u0, u1, u2, u3, ()), (u4, u5, ()), (u6, u7, u8, u9, ()), (u10, u11, u12, u13, ()), ())))) e =
    F113.loop1 k (j + 1) s2 s3 s4 s5 s6 s21 s22 b8_0 b8_1 b8_2 b8_3 b9_0 b9_1 b15_0 b15_1 b15_2 b15_3 b19_0 b19_1 b19_2 b19_3 (fun u0 u1 u2 u3 u4 u5 u6 u7 u8 u9 u10 u11 u12 u13 => e ((), ((u0, u1, u2, u3, ()), (u4, u5, ()), (u6, u7, u8, u9, ()), (u10, u11, u12, u13, ()), ()))) := by kernel_rfl
noncomputable def F113.L0 {R : Type} (k : Nat) : LC R := ⟨0, ⟨[(2, .val I6), (3, .val I6), (4, .val (.sl I6)), (5, .val I6), (6, .val I6), (8, .ptr 0), (9, .ptr 1), (15, .ptr 2), (19, .ptr 3), (21, .val I6)], [.box (some (.pair I6 (.pair I6 (.pair I6 (.sl I6))))) [I6, I6, I6, (.sl I6)], .box (some (.pair I6 I6)) [I6, I6], .box (some (.pair I6 (.pair I6 (.pair I6 I6)))) [I6, I6, I6, I6], .box (some (.pair I6 (.pair I6 (.pair I6 (.sl I6))))) [I6, I6, I6, (.ow I6)]]⟩, [(.ex 0, ⟨[(19, .ptr 0)], [.box (some (.pair I6 (.pair I6 (.pair I6 (.sl I6))))) [I6, I6, I6, (.ow I6)]]⟩)], fun x e => F113.loop0 k k x.1.1 x.1.2.1 x.1.2.2.1 x.1.2.2.2.1 x.1.2.2.2.2.1 x.1.2.2.2.2.2.1 x.2.1.1 x.2.1.2.1 x.2.1.2.2.1 x.2.1.2.2.2.1 x.2.2.1.1 x.2.2.1.2.1 x.2.2.2.1.1 x.2.2.2.1.2.1 x.2.2.2.1.2.2.1 x.2.2.2.1.2.2.2.1 x.2.2.2.2.1.1 x.2.2.2.2.1.2.1 x.2.2.2.2.1.2.2.1 x.2.2.2.2.1.2.2.2.1 (fun u0 u1 u2 u3 => e ((), ((u0, u1, u2, u3, ()), ())))⟩
theorem F113.r0 {R : Type} (k j : Nat) (s2 : Int) (s3 : Int) (s4 : List Int) (s5 : Int) (s6 : Int) (s21 : Int) (b8_0 : Int) (b8_1 : Int) (b8_2 : Int) (b8_3 : List Int) (b9_0 : Int) (b9_1 : Int) (b15_0 : Int) (b15_1 : Int) (b15_2 : Int) (b15_3 : Int) (b19_0 : Int) (b19_1 : Int) (b19_2 : Int) (b19_3 : List Int) (e : Outs (F113.L0 (R := R) k).outs → Option R) :
    evRound F113.C k [F113.L2 k, F113.L1 k] (F113.L0 (R := R) k).inn (F113.L0 (R := R) k).outs (loopOf Proofs.Tryz.f55 0) 1 ((s2, s3, s4, s5, s6, s21, ()), ((b8_0, b8_1, b8_2, b8_3, ()), (b9_0, b9_1, ()), (b15_0, b15_1, b15_2, b15_3, ()), (b19_0, b19_1, b19_2, b19_3, ()), ())) (fun x => F113.loop0 k j x.1.1 x.1.2.1 x.1.2.2.1 x.1.2.2.2.1 x.1.2.2.2.2.1 x.1.2.2.2.2.2.1 x.2.1.1 x.2.1.2.1 x.2.1.2.2.1 x.2.1.2.2.2.1 x.2.2.1.1 x.2.2.1.2.1 x.2.2.2.1.1 x.2.2.2.1.2.1 x.2.2.2.1.2.2.1 x.2.2.2.1.2.2.2.1 x.2.2.2.2.1.1 x.2.2.2.2.1.2.1 x.2.2.2.2.1.2.2.1 x.2.2.2.2.1.2.2.2.1 (fun u0 u1 u2 u3 => e ((), ((u0, u1, u2, u3, ()), ())))) e =
    F113.loop0 k (j + 1) s2 s3 s4 s5 s6 s21 b8_0 b8_1 b8_2 b8_3 b9_0 b9_1 b15_0 b15_1 b15_2 b15_3 b19_0 b19_1 b19_2 b19_3 (fun u0 u1 u2 u3 => e ((), ((u0, u1, u2, u3, ()), ()))) := by kernel_rfl
theorem F113.eq (k : Nat) (a0 : Int × Int × Int × List Int) (a1 : Int × Int) (a2 : Int) (a3 : Int) (a4 : List Int) (a5 : Int) (a6 : Int) (a7 : Int × Int × Int × Int) :
    evF F113.C k [F113.L2 k, F113.L1 k, F113.L0 k] Proofs.Tryz.f55 [.imm (.pair I6 (.pair I6 (.pair I6 (.sl I6)))), .imm (.pair I6 I6), .imm I6, .imm I6, .imm (.sl I6), .imm I6, .imm I6, .imm (.pair I6 (.pair I6 (.pair I6 I6)))] [(.pair I6 (.pair I6 (.pair I6 (.sl I6)))), I6] (a0, a1, a2, a3, a4, a5, a6, a7, ()) some = F113 k a0 a1 a2 a3 a4 a5 a6 a7 := by kernel_rfl

noncomputable def F114.S : FSem := ⟨90, [.imm (.pair I6 (.pair I6 (.pair I6 (.sl I6)))), .imm (.pair I6 I6), .imm (.sl I6), .imm I6, .imm I6, .imm I6], [I6], fun k x => F114 k x.1 x.2.1 x.2.2.1 x.2.2.2.1 x.2.2.2.2.1 x.2.2.2.2.2.1⟩
noncomputable def F114.C : Ctx := ⟨tis, etys, [F111.S, F77.S], [0, 1, 2, 3, 4, 5, 6, 7, 12, 13, 14, 18], [], 42⟩
noncomputable def F114.L0 {R : Type} (k : Nat) : LC R := ⟨0, ⟨[(2, .val (.sl I6)), (4, .val I6), (5, .val I6), (6, .ptr 0), (7, .ptr 1), (13, .val I6), (14, .val I6)], [.box (some (.pair I6 (.pair I6 (.pair I6 (.sl I6))))) [I6, I6, I6, (.sl I6)], .box (some (.pair I6 I6)) [I6, I6]]⟩, [(.ex 0, ⟨[(13, .val I6)], []⟩)], fun x e => F114.loop0 k k x.1.1 x.1.2.1 x.1.2.2.1 x.1.2.2.2.1 x.1.2.2.2.2.1 x.2.1.1 x.2.1.2.1 x.2.1.2.2.1 x.2.1.2.2.2.1 x.2.2.1.1 x.2.2.1.2.1 (fun u0 => e ((u0, ()), ()))⟩
theorem F114.r0 {R : Type} (k j : Nat) (s2 : List Int) (s4 : Int) (s5 : Int) (s13 : Int) (s14 : Int) (b6_0 : Int) (b6_1 : Int) (b6_2 : Int) (b6_3 : List Int) (b7_0 : Int) (b7_1 : Int) (e : Outs (F114.L0 (R := R) k).outs → Option R) :
    evRound F114.C k [] (F114.L0 (R := R) k).inn (F114.L0 (R := R) k).outs (loopOf Proofs.Tryz.f90 0) 1 ((s2, s4, s5, s13, s14, ()), ((b6_0, b6_1, b6_2, b6_3, ()), (b7_0, b7_1, ()), ())) (fun x => F114.loop0 k j x.1.1 x.1.2.1 x.1.2.2.1 x.1.2.2.2.1 x.1.2.2.2.2.1 x.2.1.1 x.2.1.2.1 x.2.1.2.2.1 x.2.1.2.2.2.1 x.2.2.1.1 x.2.2.1.2.1 (fun u0 => e ((u0, ()), ()))) e =
    F114.loop0 k (j + 1) s2 s4 s5 s13 s14 b6_0 b6_1 b6_2 b6_3 b7_0 b7_1 (fun u0 => e ((u0, ()), ())) := by kernel_rfl
theorem F114.eq (k : Nat) (a0 : Int × Int × Int × List Int) (a1 : Int × Int) (a2 : List Int) (a3 : Int) (a4 : Int) (a5 : Int) :
    evF F114.C k [F114.L0 k] Proofs.Tryz.f90 [.imm (.pair I6 (.pair I6 (.pair I6 (.sl I6)))), .imm (.pair I6 I6), .imm (.sl I6), .imm I6, .imm I6, .imm I6] [I6] (a0, a1, a2, a3, a4, a5, ()) some = F114 k a0 a1 a2 a3 a4 a5 := by kernel_rfl

noncomputable def F115.S : FSem := ⟨56, [.imm (.pair I6 (.pair I6 (.pair I6 (.sl I6)))), .imm (.pair I6 I6), .imm (.sl I6), .imm (.sl I6), .imm I6, .imm I6, .imm I6, .imm (.pair I6 (.pair I6 (.pair I6 I6)))], [(.pair I6 (.pair I6 (.pair I6 (.sl I6)))), I6], fun k x => F115 k x.1 x.2.1 x.2.2.1 x.2.2.2.1 x.2.2.2.2.1 x.2.2.2.2.2.1 x.2.2.2.2.2.2.1 x.2.2.2.2.2.2.2.1⟩
noncomputable def F115.C : Ctx := ⟨tis, etys, [F62.S, F67.S, F79.S, F101.S, F97.S, F102.S, F107.S, F114.S, F77.S, F112.S], [0, 1, 2, 3, 4, 5, 6, 7, 8, 9, 15, 16, 17, 18, 19, 21, 22, 23, 24, 34, 45, 57, 79, 87, 93], [], 137⟩
noncomputable def F115.L2 {R : Type} (k : Nat) : LC R := ⟨4, ⟨[(2, .val (.sl I6)), (3, .val (.sl I6)), (4, .val I6), (8, .ptr 0), (9, .ptr 1), (21, .val I6), (22, .val I6), (23, .val I6), (24, .val I6)], [.box (some (.pair I6 (.pair I6 (.pair I6 (.sl I6))))) [I6, I6, I6, (.sl I6)], .box (some (.pair I6 I6)) [I6, I6]]⟩, [(.ex 4, ⟨[(8, .ptr 0), (9, .ptr 1), (23, .val I6)], [.box (some (.pair I6 (.pair I6 (.pair I6 (.sl I6))))) [I6, I6, I6, (.sl I6)], .box (some (.pair I6 I6)) [I6, I6]]⟩)], fun x e => F115.loop2 k k x.1.1 x.1.2.1 x.1.2.2.1 x.1.2.2.2.1 x.1.2.2.2.2.1 x.1.2.2.2.2.2.1 x.1.2.2.2.2.2.2.1 x.2.1.1 x.2.1.2.1 x.2.1.2.2.1 x.2.1.2.2.2.1 x.2.2.1.1 x.2.2.1.2.1 (fun u0 u1 u2 u3 u4 u5 u6 => e ((u0, ()), ((u1, u2, u3, u4, ()), (u5, u6, ()), ())))⟩
theorem F115.r2 {R : Type} (k j : Nat) (s2 : List Int) (s3 : List Int) (s4 : Int) (s21 : Int) (s22 : Int) (s23 : Int) (s24 : Int) (b8_0 : Int) (b8_1 : Int) (b8_2 : Int) (b8_3 : List Int) (b9_0 : Int) (b9_1 : Int) (e : Outs (F115.L2 (R := R) k).outs → Option R) :
    evRound F115.C k [] (F115.L2 (R := R) k).inn (F115.L2 (R := R) k).outs (loopOf Proofs.Tryz.f56 2) 3 ((s2, s3, s4, s21, s22, s23, s24, ()), ((b8_0, b8_1, b8_2, b8_3, ()), (b9_0, b9_1, ()), ())) (fun x => F115.loop2 k j x.1.1 x.1.2.1 x.1.2.2.1 x.1.2.2.2.1 x.1.2.2.2.2.1 x.1.2.2.2.2.2.1 x.1.2.2.2.2.2.2.1 x.2.1.1 x.2.1.2.1 x.2.1.2.2.1 x.2.1.2.2.2.1 x.2.2.1.1 x.2.2.1.2.1 (fun u0 u1 u2 u3 u4 u5 u6 => e ((u0, ()), ((u1, u2, u3, u4, ()), (u5, u6, ()), ())))) e =
    F115.loop2 k (j + 1) s2 s3 s4 s21 s22 s23 s24 b8_0 b8_1 b8_2 b8_3 b9_0 b9_1 (fun u0 u1 u2 u3 u4 u5 u6 => e ((u0, ()), ((u1, u2, u3, u4, ()), (u5, u6, ()), ()))) := by kernel_rfl
noncomputable def F115.L1 {R : Type} (k : Nat) : LC R := ⟨2, ⟨[(2, .val (.sl I6)), (3, .val (.sl I6)), (4, .val I6), (5, .val I6), (6, .val I6), (8, .ptr 0), (9, .ptr 1), (15, .ptr 2), (19, .ptr 3), (21, .val I6), (22, .val I6)], [.box (some (.pair I6 (.pair I6 (.pair I6 (.sl I6))))) [I6, I6, I6, (.sl I6)], .box (some (.pair I6 I6)) [I6, I6], .box (some (.pair I6 (.pair I6 (.pair I6 I6)))) [I6, I6, I6, I6], .box (some (.pair I6 (.pair I6 (.pair I6 (.sl I6))))) [I6, I6, I6, (.ow I6)]]⟩, [(.ex 2, ⟨[(8, .ptr 0), (9, .ptr 1), (15, .ptr 2), (19, .ptr 3)], [.box (some (.pair I6 (.pair I6 (.pair I6 (.sl I6))))) [I6, I6, I6, (.sl I6)], .box (some (.pair I6 I6)) [I6, I6], .box (some (.pair I6 (.pair I6 (.pair I6 I6)))) [I6, I6, I6, I6], .box (some (.pair I6 (.pair I6 (.pair I6 (.sl I6))))) [I6, I6, I6, (.ow I6)]]⟩)], fun x e => F115.loop1 k k x.1.1 x.1.2.1 x.1.2.2.1 x.1.2.2.2.1 x.1.2.2.2.2.1 x.1.2.2.2.2.2.1 x.1.2.2.2.2.2.2.1 x.2.1.1 x.2.1.2.1 x.2.1.2.2.1 x.2.1.2.2.2.1 x.2.2.1.1 x.2.2.1.2.1 x.2.2.2.1.1 x.2.2.2.1.2.1 x.2.2.2.1.2.2.1 x.2.2.2.1.2.2.2.1 x.2.2.2.2.1.1 x.2.2.2.2.1.2.1 x.2.2.2.2.1.2.2.1 x.2.2.2.2.1.2.2.2.1 (fun u0 u1 u2 u3 u4 u5 u6 u7 u8 u9 u10 u11 u12 u13 => e ((), ((u0, u1, u2, u3, ()), (u4, u5, ()), (u6, u7, u8, u9, ()), (u10, u11, u12, u13, ()), ())))⟩
theorem F115.r1 {R : Type} (k j : Nat) (s2 : List Int) (s3 : List Int) (s4 : Int) (s5 : Int) (s6 : Int) (s21 : Int) (s22 : Int) (b8_0 : Int) (b8_1 : Int) (b8_2 : Int) (b8_3 : List Int) (b9_0 : Int) (b9_1 : Int) (b15_0 : Int) (b15_1 : Int) (b15_2 : Int) (b15_3 : Int) (b19_0 : Int) (b19_1 : Int) (b19_2 : Int) (b19_3 : List Int) (e : Outs (F115.L1 (R := R) k).outs → Option R) :
    evRound F115.C k [F115.L2 k] (F115.L1 (R := R) k).inn (F115.L1 (R := R) k).outs (loopOf Proofs.Tryz.f56 1) 2 ((s2, s3, s4, s5, s6, s21, s22, ()), ((b8_0, b8_1, b8_2, b8_3, ()), (b9_0, b9_1, ()), (b15_0, b15_1, b15_2, b15_3, ()), (b19_0, b19_1, b19_2, b19_3, ()), ())) (fun x => F115.loop1 k j x.1.1 x.1.2.1 x.1.2.2.1 x.1.2.2.2.1 x.1.2.2.2.2.1 x.1.2.2.2.2.2.1 x.1.2.2.2.2.2.2.1 x.2.1.1 x.2.1.2.1 x.2.1.2.2.1 x.2.1.2.2.2.1 x.2.2.1.1 x.2.2.1.2.1 x.2.2.2.1.1 x.2.2.2.1.2.1 x.2.2.2.1.2.2.1 x.2.2.2.1.2.2.2.1 x.2.2.2.2.1.1 x.2.2.2.2.1.2.1 x.2.2.2.2.1.2.2.1 x.2.2.2.2.1.2.2.2.1 (fun u0 u1 u2 u3 u4 u5 u6 u7 u8 u9 u10 u11 u12 u13 => e ((), ((u0, u1, u2, u3, ()), (u4, u5, ()), (u6, u7, u8, u9, ()), (u10, u11, u12, u13, ()), ())))) e =
    F115.loop1 k (j + 1) s2 s3 s4 s5 s6 s21 s22 b8_0 b8_1 b8_2 b8_3 b9_0 b9_1 b15_0 b15_1 b15_2 b15_3 b19_0 b19_1 b19_2 b19_3 (fun u0 u1 u2 u3 u4 u5 u6 u7 u8 u9 u10 u11 u12 u13 => e ((), ((u0, u1, u2, u3, ()), (u4, u5, ()), (u6, u7, u8, u9, ()), (u10, u11, u12, u13, ()), ()))) := by kernel_rfl
noncomputable def F115.L0 {R : Type} (k : Nat) : LC R := ⟨0, ⟨[(2, .val (.sl I6)), (3, .val (.sl I6)), (4, .val I6), (5, .val I6), (6, .val I6), (8, .ptr 0), (9, .ptr 1), (15, .ptr 2), (19, .ptr 3), (21, .val I6)], [.box (some (.pair I6 (.pair I6 (.pair I6 (.sl I6))))) [I6, I6, I6, (.sl I6)], .box (some (.pair I6 I6)) [I6, I6], .box (some (.pair I6 (.pair I6 (.pair I6 I6)))) [I6, I6, I6, I6], .box (some (.pair I6 (.pair I6 (.pair I6 (.sl I6))))) [I6, I6, I6, (.ow I6)]]⟩, [(.ex 0, ⟨[(19, .ptr 0)], [.box (some (.pair I6 (.pair I6 (.pair I6 (.sl I6))))) [I6, I6, I6, (.ow I6)]]⟩)], fun x e => F115.loop0 k k x.1.1 x.1.2.1 x.1.2.2.1 x.1.2.2.2.1 x.1.2.2.2.2.1 x.1.2.2.2.2.2.1 x.2.1.1 x.2.1.2.1 x.2.1.2.2.1 x.2.1.2.2.2.1 x.2.2.1.1 x.2.2.1.2.1 x.2.2.2.1.1 x.2.2.2.1.2.1 x.2.2.2.1.2.2.1 x.2.2.2.1.2.2.2.1 x.2.2.2.2.1.1 x.2.2.2.2.1.2.1 x.2.2.2.2.1.2.2.1 x.2.2.2.2.1.2.2.2.1 (fun u0 u1 u2 u3 => e ((), ((u0, u1, u2, u3, ()), ())))⟩
theorem F115.r0 {R : Type} (k j : Nat) (s2 : List Int) (s3 : List Int) (s4 : Int) (s5 : Int) (s6 : Int) (s21 : Int) (b8_0 : Int) (b8_1 : Int) (b8_2 : Int) (b8_3 : List Int) (b9_0 : Int) (b9_1 : Int) (b15_0 : Int) (b15_1 : Int) (b15_2 : Int) (b15_3 : Int) (b19_0 : Int) (b19_1 : Int) (b19_2 : Int) (b19_3 : List Int) (e : Outs (F115.L0 (R := R) k).outs → Option R) :
    evRound F115.C k [F115.L2 k, F115.L1 k] (F115.L0 (R := R) k).inn (F115.L0 (R := R) k).outs (loopOf Proofs.Tryz.f56 0) 1 ((s2, s3, s4, s5, s6, s21, ()), ((b8_0, b8_1, b8_2, b8_3, ()), (b9_0, b9_1, ()), (b15_0, b15_1, b15_2, b15_3, ()), (b19_0, b19_1, b19_2, b19_3, ()), ())) (fun x => F115.loop0 k j x.1.1 x.1.2.1 x.1.2.2.1 x.1.2.2.2.1 x.1.2.2.2.2.1 x.1.2.2.2.2.2.1 x.2.1.1 x.2.1.2.1 x.2.1.2.2.1 x.2.1.2.2.2.1 x.2.2.1.1 x.2.2.1.2.1 x.2.2.2.1.1 x.2.2.2.1.2.1 x.2.2.2.1.2.2.1 x.2.2.2.1.2.2.2.1 x.2.2.2.2.1.1 x.2.2.2.2.1.2.1 x.2.2.2.2.1.2.2.1 x.2.2.2.2.1.2.2.2.1 (fun u0 u1 u2 u3 => e ((), ((u0, u1, u2, u3, ()), ())))) e =
    F115.loop0 k (j + 1) s2 s3 s4 s5 s6 s21 b8_0 b8_1 b8_2 b8_3 b9_0 b9_1 b15_0 b15_1 b15_2 b15_3 b19_0 b19_1 b19_2 b19_3 (fun u0 u1 u2 u3 => e ((), ((u0, u1, u2, u3, ()), ()))) := by kernel_rfl
theorem F115.eq (k : Nat) (a0 : Int × Int × Int × List Int) (a1 : Int × Int) (a2 : List Int) (a3 : List Int) (a4 : Int) (a5 : Int) (a6 : Int) (a7 : Int × Int × Int × Int) :
    evF F115.C k [F115.L2 k, F115.L1 k, F115.L0 k] Proofs.Tryz.f56 [.imm (.pair I6 (.pair I6 (.pair I6 (.sl I6)))), .imm (.pair I6 I6), .imm (.sl I6), .imm (.sl I6), .imm I6, .imm I6, .imm I6, .imm (.pair I6 (.pair I6 (.pair I6 I6)))] [(.pair I6 (.pair I6 (.pair I6 (.sl I6)))), I6] (a0, a1, a2, a3, a4, a5, a6, a7, ()) some = F115 k a0 a1 a2 a3 a4 a5 a6 a7 := by kernel_rfl

noncomputable def F116.S : FSem := ⟨91, [.imm (.pair I6 (.pair I6 (.pair I6 (.sl I6)))), .imm (.pair I6 I6), .imm (.pair I6 (.sl I6)), .imm I6, .imm I6], [I6], fun k x => F116 k x.1 x.2.1 x.2.2.1 x.2.2.2.1 x.2.2.2.2.1⟩
noncomputable def F116.C : Ctx := ⟨tis, etys, [F111.S, F77.S], [0, 1, 2, 3, 4, 5, 6, 7, 10, 11, 12, 17], [], 39⟩
noncomputable def F116.L0 {R : Type} (k : Nat) : LC R := ⟨0, ⟨[(4, .val I6), (5, .ptr 0), (6, .ptr 1), (7, .ptr 2), (11, .val I6), (12, .val I6)], [.box (some (.pair I6 (.pair I6 (.pair I6 (.sl I6))))) [I6, I6, I6, (.sl I6)], .box (some (.pair I6 I6)) [I6, I6], .box (some (.pair I6 (.sl I6))) [I6, (.sl I6)]]⟩, [(.ex 0, ⟨[(11, .val I6)], []⟩)], fun x e => F116.loop0 k k x.1.1 x.1.2.1 x.1.2.2.1 x.2.1.1 x.2.1.2.1 x.2.1.2.2.1 x.2.1.2.2.2.1 x.2.2.1.1 x.2.2.1.2.1 x.2.2.2.1.1 x.2.2.2.1.2.1 (fun u0 => e ((u0, ()), ()))⟩
theorem F116.r0 {R : Type} (k j : Nat) (s4 : Int) (s11 : Int) (s12 : Int) (b5_0 : Int) (b5_1 : Int) (b5_2 : Int) (b5_3 : List Int) (b6_0 : Int) (b6_1 : Int) (b7_0 : Int) (b7_1 : List Int) (e : Outs (F116.L0 (R := R) k).outs → Option R) :
    evRound F116.C k [] (F116.L0 (R := R) k).inn (F116.L0 (R := R) k).outs (loopOf Proofs.Tryz.f91 0) 1 ((s4, s11, s12, ()), ((b5_0, b5_1, b5_2, b5_3, ()), (b6_0, b6_1, ()), (b7_0, b7_1, ()), ())) (fun x => F116.loop0 k j x.1.1 x.1.2.1 x.1.2.2.1 x.2.1.1 x.2.1.2.1 x.2.1.2.2.1 x.2.1.2.2.2.1 x.2.2.1.1 x.2.2.1.2.1 x.2.2.2.1.1 x.2.2.2.1.2.1 (fun u0 => e ((u0, ()), ()))) e =
    F116.loop0 k (j + 1) s4 s11 s12 b5_0 b5_1 b5_2 b5_3 b6_0 b6_1 b7_0 b7_1 (fun u0 => e ((u0, ()), ())) := by kernel_rfl
theorem F116.eq (k : Nat) (a0 : Int × Int × Int × List Int) (a1 : Int × Int) (a2 : Int × List Int) (a3 : Int) (a4 : Int) :
    evF F116.C k [F116.L0 k] Proofs.Tryz.f91 [.imm (.pair I6 (.pair I6 (.pair I6 (.sl I6)))), .imm (.pair I6 I6), .imm (.pair I6 (.sl I6)), .imm I6, .imm I6] [I6] (a0, a1, a2, a3, a4, ()) some = F116 k a0 a1 a2 a3 a4 := by kernel_rfl

noncomputable def F117.S : FSem := ⟨57, [.imm (.pair I6 (.pair I6 (.pair I6 (.sl I6)))), .imm (.pair I6 I6), .imm (.sl (.pair I6 (.sl I6))), .imm (.sl (.pair I6 (.sl I6))), .imm I6, .imm I6, .imm I6, .imm (.pair I6 (.pair I6 (.pair I6 I6)))], [(.pair I6 (.pair I6 (.pair I6 (.sl I6)))), I6], fun k x => F117 k x.1 x.2.1 x.2.2.1 x.2.2.2.1 x.2.2.2.2.1 x.2.2.2.2.2.1 x.2.2.2.2.2.2.1 x.2.2.2.2.2.2.2.1⟩
noncomputable def F117.C : Ctx := ⟨tis, etys, [F62.S, F67.S, F82.S, F101.S, F102.S, F107.S, F116.S, F77.S, F112.S], [0, 1, 2, 3, 4, 5, 6, 7, 8, 9, 15, 16, 17, 18, 19, 21, 22, 23, 24, 34, 50, 65, 87, 95, 105], [], 155⟩
noncomputable def F117.L2 {R : Type} (k : Nat) : LC R := ⟨4, ⟨[(2, .val (.sl (.pair I6 (.sl I6)))), (3, .val (.sl (.pair I6 (.sl I6)))), (4, .val I6), (8, .ptr 0), (9, .ptr 1), (21, .val I6), (22, .val I6), (23, .val I6), (24, .val I6)], [.box (some (.pair I6 (.pair I6 (.pair I6 (.sl I6))))) [I6, I6, I6, (.sl I6)], .box (some (.pair I6 I6)) [I6, I6]]⟩, [(.ex 4, ⟨[(8, .ptr 0), (9, .ptr 1), (23, .val I6)], [.box (some (.pair I6 (.pair I6 (.pair I6 (.sl I6))))) [I6, I6, I6, (.sl I6)], .box (some (.pair I6 I6)) [I6, I6]]⟩)], fun x e => F117.loop2 k k x.1.1 x.1.2.1 x.1.2.2.1 x.1.2.2.2.1 x.1.2.2.2.2.1 x.1.2.2.2.2.2.1 x.1.2.2.2.2.2.2.1 x.2.1.1 x.2.1.2.1 x.2.1.2.2.1 x.2.1.2.2.2.1 x.2.2.1.1 x.2.2.1.2.1 (fun u0 u1 u2 u3 u4 u5 u6 => e ((u0, ()), ((u1, u2, u3, u4, ()), (u5, u6, ()), ())))⟩
theorem F117.r2 {R : Type} (k j : Nat) (s2 : List (Int × List Int)) (s3 : List (Int × List Int)) (s4 : Int) (s21 : Int) (s22 : Int) (s23 : Int) (s24 : Int) (b8_0 : Int) (b8_1 : Int) (b8_2 : Int) (b8_3 : List Int) (b9_0 : Int) (b9_1 : Int) (e : Outs (F117.L2 (R := R) k).outs → Option R) :
    evRound F117.C k [] (F117.L2 (R := R) k).inn (F117.L2 (R := R) k).outs (loopOf Proofs.Tryz.f57 2) 3 ((s2, s3, s4, s21, s22, s23, s24, ()), ((b8_0, b8_1, b8_2, b8_3, ()), (b9_0, b9_1, ()), ())) (fun x => F117.loop2 k j x.1.1 x.1.2.1 x.1.2.2.1 x.1.2.2.2.1 x.1.2.2.2.2.1 x.1.2.2.2.2.2.1 x.1.2.2.2.2.2.2.1 x.2.1.1 x.2.1.2.1 x.2.1.2.2.1 x.2.1.2.2.2.1 x.2.2.1.1 x.2.2.1.2.1 (fun u0 u1 u2 u3 u4 u5 u6 => e ((u0, ()), ((u1, u2, u3, u4, ()), (u5, u6, ()), ())))) e =
    F117.loop2 k (j + 1) s2 s3 s4 s21 s22 s23 s24 b8_0 b8_1 b8_2 b8_3 b9_0 b9_1 (fun u0 u1 u2 u3 u4 u5 u6 => e ((u0, ()), ((u1, u2, u3, u4, ()), (u5, u6, ()), ()))) := by kernel_rfl
noncomputable def F117.L1 {R : Type} (k : Nat) : LC R := ⟨2, ⟨[(2, .val (.sl (.pair I6 (.sl I6)))), (3, .val (.sl (.pair I6 (.sl I6)))), (4, .val I6), (5, .val I6), (6, .val I6), (8, .ptr 0), (9, .ptr 1), (15, .ptr 2), (19, .ptr 3), (21, .val I6), (22, .val I6)], [.box (some (.pair I6 (.pair I6 (.pair I6 (.sl I6))))) [I6, I6, I6, (.sl I6)], .box (some (.pair I6 I6)) [I6, I6], .box (some (.pair I6 (.pair I6 (.pair I6 I6)))) [I6, I6, I6, I6], .box (some (.pair I6 (.pair I6 (.pair I6 (.sl I6))))) [I6, I6, I6, (.ow I6)]]⟩, [(.ex 2, ⟨[(8, .ptr 0), (9, .ptr 1), (15, .ptr 2), (19, .ptr 3)], [.box (some (.pair I6 (.pair I6 (.pair I6 (.sl I6))))) [I6, I6, I6, (.sl I6)], .box (some (.pair I6 I6)) [I6, I6], .box (some (.pair I6 (.pair I6 (.pair I6 I6)))) [I6, I6, I6, I6], .box (some (.pair I6 (.pair I6 (.pair I6 (.sl I6))))) [I6, I6, I6, (.ow I6)]]⟩)], fun x e => F117.loop1 k k x.1.1 x.1.2.1 x.1.2.2.1 x.1.2.2.2.1 x.1.2.2.2.2.1 x.1.2.2.2.2.2.1 x.1.2.2.2.2.2.2.1 x.2.1.1 x.2.1.2.1 x.2.1.2.2.1 x.2.1.2.2.2.1 x.2.2.1.1 x.2.2.1.2.1 x.2.2.2.1.1 x.2.2.2.1.2.1 x.2.2.2.1.2.2.1 x.2.2.2.1.2.2.2.1 x.2.2.2.2.1.1 x.2.2.2.2.1.2.1 x.2.2.2.2.1.2.2.1 x.2.2.2.2.1.2.2.2.1 (fun u0 u1 u2 u3 u4 u5 u6 u7 u8 u9 u10 u11 u12 u13 => e ((), ((u0, u1, u2, u3, ()), (u4, u5, ()), (u6, u7, u8, u9, ()), (u10, u11, u12, u13, ()), ())))⟩
theorem F117.r1 {R : Type} (k j : Nat) (s2 : List (Int × List Int)) (s3 : List (Int × List Int)) (s4 : Int) (s5 : Int) (s6 : Int) (s21 : Int) (s22 : Int) (b8_0 : Int) (b8_1 : Int) (b8_2 : Int) (b8_3 : List Int) (b9_0 : Int) (b9_1 : Int) (b15_0 : Int) (b15_1 : Int) (b15_2 : Int) (b15_3 : Int) (b19_0 : Int) (b19_1 : Int) (b19_2 : Int) (b19_3 : List Int) (e : Outs (F117.L1 (R := R) k).outs → Option R) :
    evRound F117.C k [F117.L2 k] (F117.L1 (R := R) k).inn (F117.L1 (R := R) k).outs (loopOf Proofs.Tryz.f57 1) 2 ((s2, s3, s4, s5, s6, s21, s22, ()), ((b8_0, b8_1, b8_2, b8_3, ()), (b9_0, b9_1, ()), (b15_0, b15_1, b15_2, b15_3, ()), (b19_0, b19_1, b19_2, b19_3, ()), ())) (fun x => F117.loop1 k j x.1.1 x.1.2.1 x.1.2.2.1 x.1.2.2.2.1 x.1.2.2.2.2.1 x.1.2.2.2.2.2.1 x.1.2.2.2.2.2.2.1 x.2.1.1 x.2.1.2.1 x.2.1.2.2.1 x.2.1.2.2.2.1 x.2.2.1.1 x.2.2.1.2.1 x.2.2.2.1.1 x.2.2.2.1.2.1 x.2.2.2.1.2.2.1 x.2.2.2.1.2.2.2.1 x.2.2.2.2.1.1 x.2.2.2.2.1.2.1 x.2.2.2.2.1.2.2.1 x.2.2.2.2.1.2.2.2.1 (fun u0 u1 u2 u3 u4 u5 u6 u7 u8 u9 u10 u11 u12 u13 => e ((), ((u0, u1, u2, u3, ()), (u4, u5, ()), (u6, u7, u8, u9, ()), (u10, u11, u12, u13, ()), ())))) e =
    F117.loop1 k (j + 1) s2 s3 s4 s5 s6 s21 s22 b8_0 b8_1 b8_2 b8_3 b9_0 b9_1 b15_0 b15_1 b15_2 b15_3 b19_0 b19_1 b19_2 b19_3 (fun u0 u1 u2 u3 u4 u5 u6 u7 u8 u9 u10 u11 u12 u13 => e ((), ((u0, u1, u2, u3, ()), (u4, u5, ()), (u6, u7, u8, u9, ()), (u10, u11, u12, u13, ()), ()))) := by kernel_rfl
noncomputable def F117.L0 {R : Type} (k : Nat) : LC R := ⟨0, ⟨[(2, .val (.sl (.pair I6 (.sl I6)))), (3, .val (.sl (.pair I6 (.sl I6)))), (4, .val I6), (5, .val I6), (6, .val I6), (8, .ptr 0), (9, .ptr 1), (15, .ptr 2), (19, .ptr 3), (21, .val I6)], [.box (some (.pair I6 (.pair I6 (.pair I6 (.sl I6))))) [I6, I6, I6, (.sl I6)], .box (some (.pair I6 I6)) [I6, I6], .box (some (.pair I6 (.pair I6 (.pair I6 I6)))) [I6, I6, I6, I6], .box (some (.pair I6 (.pair I6 (.pair I6 (.sl I6))))) [I6, I6, I6, (.ow I6)]]⟩, [(.ex 0, ⟨[(19, .ptr 0)], [.box (some (.pair I6 (.pair I6 (.pair I6 (.sl I6))))) [I6, I6, I6, (.ow I6)]]⟩)], fun x e => F117.loop0 k k x.1.1 x.1.2.1 x.1.2.2.1 x.1.2.2.2.1 x.1.2.2.2.2.1 x.1.2.2.2.2.2.1 x.2.1.1 x.2.1.2.1 x.2.1.2.2.1 x.2.1.2.2.2.1 x.2.2.1.1 x.2.2.1.2.1 x.2.2.2.1.1 x.2.2.2.1.2.1 x.2.2.2.1.2.2.1 x.2.2.2.1.2.2.2.1 x.2.2.2.2.1.1 x.2.2.2.2.1.2.1 x.2.2.2.2.1.2.2.1 x.2.2.2.2.1.2.2.2.1 (fun u0 u1 u2 u3 => e ((), ((u0, u1, u2, u3, ()), ())))⟩
theorem F117.r0 {R : Type} (k j : Nat) (s2 : List (Int × List Int)) (s3 : List (Int × List Int)) (s4 : Int) (s5 : Int) (s6 : Int) (s21 : Int) (b8_0 : Int) (b8_1 : Int) (b8_2 : Int) (b8_3 : List Int) (b9_0 : Int) (b9_1 : Int) (b15_0 : Int) (b15_1 : Int) (b15_2 : Int) (b15_3 : Int) (b19_0 : Int) (b19_1 : Int) (b19_2 : Int) (b19_3 : List Int) (e : Outs (F117.L0 (R := R) k).outs → Option R) :
    evRound F117.C k [F117.L2 k, F117.L1 k] (F117.L0 (R := R) k).inn (F117.L0 (R := R) k).outs (loopOf Proofs.Tryz.f57 0) 1 ((s2, s3, s4, s5, s6, s21, ()), ((b8_0, b8_1, b8_2, b8_3, ()), (b9_0, b9_1, ()), (b15_0, b15_1, b15_2, b15_3, ()), (b19_0, b19_1, b19_2, b19_3, ()), ())) (fun x => F117.loop0 k j x.1.1 x.1.2.1 x.1.2.2.1 x.1.2.2.2.1 x.1.2.2.2.2.1 x.1.2.2.2.2.2.1 x.2.1.1 x.2.1.2.1 x.2.1.2.2.1 x.2.1.2.2.2.1 x.2.2.1.1 x.2.2.1.2.1 x.2.2.2.1.1 x.2.2.2.1.2.1 x.2.2.2.1.2.2.1 x.2.2.2.1.2.2.2.1 x.2.2.2.2.1.1 x.2.2.2.2.1.2.1 x.2.2.2.2.1.2.2.1 x.2.2.2.2.1.2.2.2.1 (fun u0 u1 u2 u3 => e ((), ((u0, u1, u2, u3, ()), ())))) e =
    F117.loop0 k (j + 1) s2 s3 s4 s5 s6 s21 b8_0 b8_1 b8_2 b8_3 b9_0 b9_1 b15_0 b15_1 b15_2 b15_3 b19_0 b19_1 b19_2 b19_3 (fun u0 u1 u2 u3 => e ((), ((u0, u1, u2, u3, ()), ()))) := by kernel_rfl
theorem F117.eq (k : Nat) (a0 : Int × Int × Int × List Int) (a1 : Int × Int) (a2 : List (Int × List Int)) (a3 : List (Int × List Int)) (a4 : Int) (a5 : Int) (a6 : Int) (a7 : Int × Int × Int × Int) :
    evF F117.C k [F117.L2 k, F117.L1 k, F117.L0 k] Proofs.Tryz.f57 [.imm (.pair I6 (.pair I6 (.pair I6 (.sl I6)))), .imm (.pair I6 I6), .imm (.sl (.pair I6 (.sl I6))), .imm (.sl (.pair I6 (.sl I6))), .imm I6, .imm I6, .imm I6, .imm (.pair I6 (.pair I6 (.pair I6 I6)))] [(.pair I6 (.pair I6 (.pair I6 (.sl I6)))), I6] (a0, a1, a2, a3, a4, a5, a6, a7, ()) some = F117 k a0 a1 a2 a3 a4 a5 a6 a7 := by kernel_rfl

noncomputable def F118.S : FSem := ⟨125, [.imm I6, .imm I6], [I6], fun k x => F118 k x.1 x.2.1⟩
noncomputable def F118.C : Ctx := ⟨tis, etys, [], [0, 1, 4, 5, 7, 21], [], 25⟩
theorem F118.eq (k : Nat) (a0 : Int) (a1 : Int) :
    evF F118.C k [] Proofs.Tryz.f125 [.imm I6, .imm I6] [I6] (a0, a1, ()) some = F118 k a0 a1 := by kernel_rfl

noncomputable def F119.S : FSem := ⟨114, [.imm (.pair I6 I6), .imm I6, .imm I6, .imm I6, .imm I6], [I6, .bool], fun k x => F119 k x.1 x.2.1 x.2.2.1 x.2.2.2.1 x.2.2.2.2.1⟩
noncomputable def F119.C : Ctx := ⟨tis, etys, [F74.S, F90.S, F89.S, F118.S, F77.S], [0, 1, 2, 3, 4, 5, 10, 11, 12, 13, 15, 18, 21, 24, 28, 33, 38, 46, 51, 56, 62, 67], [], 79⟩
theorem F119.eq (k : Nat) (a0 : Int × Int) (a1 : Int) (a2 : Int) (a3 : Int) (a4 : Int) :
    evF F119.C k [] Proofs.Tryz.f114 [.imm (.pair I6 I6), .imm I6, .imm I6, .imm I6, .imm I6] [I6, .bool] (a0, a1, a2, a3, a4, ()) some = F119 k a0 a1 a2 a3 a4 := by kernel_rfl

noncomputable def F120.S : FSem := ⟨92, [.imm (.sl (.pair I6 I6)), .imm I6, .imm I6], [I6, I6], fun k x => F120 k x.1 x.2.1 x.2.2.1⟩
noncomputable def F120.C : Ctx := ⟨tis, etys, [F88.S, F86.S, F119.S], [0, 1, 2, 6, 7, 8, 9, 10, 11, 12, 13, 14, 15, 19, 34, 38, 48, 56, 77], [], 90⟩
noncomputable def F120.L0 {R : Type} (k : Nat) : LC R := ⟨0, ⟨[(0, .val (.sl (.pair I6 I6))), (1, .val I6), (2, .val I6), (9, .arr 0), (10, .val I6)], [.arr I6]⟩, [(.ret, ⟨[(6, .val I6), (7, .val I6)], []⟩), (.ex 0, ⟨[(9, .arr 0)], [.arr I6]⟩)], fun x e => F120.loop0 k k x.1.1 x.1.2.1 x.1.2.2.1 x.1.2.2.2.1 x.2.1 (fun u0 u1 => e (.inl ((u0, u1, ()), ()))) (fun u0 => e (.inr (((), (u0, ())))))⟩
theorem F120.r0 {R : Type} (k j : Nat) (s0 : List (Int × Int)) (s1 : Int) (s2 : Int) (s10 : Int) (l9 : List Int) (e : Outs (F120.L0 (R := R) k).outs → Option R) :
    evRound F120.C k [] (F120.L0 (R := R) k).inn (F120.L0 (R := R) k).outs (loopOf Proofs.Tryz.f92 0) 1 ((s0, s1, s2, s10, ()), (l9, ())) (fun x => F120.loop0 k j x.1.1 x.1.2.1 x.1.2.2.1 x.1.2.2.2.1 x.2.1 (fun u0 u1 => e (.inl ((u0, u1, ()), ()))) (fun u0 => e (.inr (((), (u0, ())))))) e =
    F120.loop0 k (j + 1) s0 s1 s2 s10 l9 (fun u0 u1 => e (.inl ((u0, u1, ()), ()))) (fun u0 => e (.inr (((), (u0, ()))))) := by kernel_rfl
theorem F120.eq (k : Nat) (a0 : List (Int × Int)) (a1 : Int) (a2 : Int) :
    evF F120.C k [F120.L0 k] Proofs.Tryz.f92 [.imm (.sl (.pair I6 I6)), .imm I6, .imm I6] [I6, I6] (a0, a1, a2, ()) some = F120 k a0 a1 a2 := by kernel_rfl

noncomputable def F121.S : FSem := ⟨58, [.imm (.pair I6 (.pair I6 (.pair I6 (.sl I6)))), .imm (.pair I6 (.pair I6 (.pair I6 (.sl I6)))), .imm .bool, .imm (.sl (.pair I6 I6)), .imm I6, .imm (.pair I6 (.pair I6 (.pair I6 I6)))], [(.pair I6 (.pair I6 (.pair I6 (.sl I6)))), I6], fun k x => F121 k x.1 x.2.1 x.2.2.1 x.2.2.2.1 x.2.2.2.2.1 x.2.2.2.2.2.1⟩
noncomputable def F121.C : Ctx := ⟨tis, etys, [F62.S, F94.S, F101.S, F97.S, F102.S, F107.S, F120.S, F112.S], [0, 1, 2, 3, 4, 5, 6, 7, 11, 12, 13, 14, 15, 17, 18, 19, 20, 32, 43, 72, 94, 102, 105], [], 151⟩
noncomputable def F121.L1 {R : Type} (k : Nat) : LC R := ⟨2, ⟨[(2, .val .bool), (3, .val (.sl (.pair I6 I6))), (4, .val I6), (6, .ptr 0), (7, .ptr 1), (11, .ptr 2), (15, .ptr 3), (17, .val I6), (18, .val I6)], [.box (some (.pair I6 (.pair I6 (.pair I6 (.sl I6))))) [I6, I6, I6, (.sl I6)], .box (some (.pair I6 (.pair I6 (.pair I6 (.sl I6))))) [I6, I6, I6, (.sl I6)], .box (some (.pair I6 (.pair I6 (.pair I6 I6)))) [I6, I6, I6, I6], .box (some (.pair I6 (.pair I6 (.pair I6 (.sl I6))))) [I6, I6, I6, (.ow I6)]]⟩, [(.ex 2, ⟨[(6, .ptr 0), (7, .ptr 1), (11, .ptr 2), (15, .ptr 3)], [.box (some (.pair I6 (.pair I6 (.pair I6 (.sl I6))))) [I6, I6, I6, (.sl I6)], .box (some (.pair I6 (.pair I6 (.pair I6 (.sl I6))))) [I6, I6, I6, (.sl I6)], .box (some (.pair I6 (.pair I6 (.pair I6 I6)))) [I6, I6, I6, I6], .box (some (.pair I6 (.pair I6 (.pair I6 (.sl I6))))) [I6, I6, I6, (.ow I6)]]⟩)], fun x e => F121.loop1 k k x.1.1 x.1.2.1 x.1.2.2.1 x.1.2.2.2.1 x.1.2.2.2.2.1 x.2.1.1 x.2.1.2.1 x.2.1.2.2.1 x.2.1.2.2.2.1 x.2.2.1.1 x.2.2.1.2.1 x.2.2.1.2.2.1 x.2.2.1.2.2.2.1 x.2.2.2.1.1 x.2.2.2.1.2.1 x.2.2.2.1.2.2.1 x.2.2.2.1.2.2.2.1 x.2.2.2.2.1.1 x.2.2.2.2.1.2.1 x.2.2.2.2.1.2.2.1 x.2.2.2.2.1.2.2.2.1 (fun u0 u1 u2 u3 u4 u5 u6 u7 u8 u9 u10 u11 u12 u13 u14 u15 => e ((), ((u0, u1, u2, u3, ()), (u4, u5, u6, u7, ()), (u8, u9, u10, u11, ()), (u12, u13, u14, u15, ()), ())))⟩
theorem F121.r1 {R : Type} (k j : Nat) (s2 : Bool) (s3 : List (Int × Int)) (s4 : Int) (s17 : Int) (s18 : Int) (b6_0 : Int) (b6_1 : Int) (b6_2 : Int) (b6_3 : List Int) (b7_0 : Int) (b7_1 : Int) (b7_2 : Int) (b7_3 : List Int) (b11_0 : Int) (b11_1 : Int) (b11_2 : Int) (b11_3 : Int) (b15_0 : Int) (b15_1 : Int) (b15_2 : Int) (b15_3 : List Int) (e : Outs (F121.L1 (R := R) k).outs → Option R) :
    evRound F121.C k [] (F121.L1 (R := R) k).inn (F121.L1 (R := R) k).outs (loopOf Proofs.Tryz.f58 1) 2 ((s2, s3, s4, s17, s18, ()), ((b6_0, b6_1, b6_2, b6_3, ()), (b7_0, b7_1, b7_2, b7_3, ()), (b11_0, b11_1, b11_2, b11_3, ()), (b15_0, b15_1, b15_2, b15_3, ()), ())) (fun x => F121.loop1 k j x.1.1 x.1.2.1 x.1.2.2.1 x.1.2.2.2.1 x.1.2.2.2.2.1 x.2.1.1 x.2.1.2.1 x.2.1.2.2.1 x.2.1.2.2.2.1 x.2.2.1.1 x.2.2.1.2.1 x.2.2.1.2.2.1 x.2.2.1.2.2.2.1 x.2.2.2.1.1 x.2.2.2.1.2.1 x.2.2.2.1.2.2.1 x.2.2.2.1.2.2.2.1 x.2.2.2.2.1.1 x.2.2.2.2.1.2.1 x.2.2.2.2.1.2.2.1 x.2.2.2.2.1.2.2.2.1 (fun u0 u1 u2 u3 u4 u5 u6 u7 u8 u9 u10 u11 u12 u13 u14 u15 => e ((), ((u0, u1, u2, u3, ()), (u4, u5, u6, u7, ()), (u8, u9, u10, u11, ()), (u12, u13, u14, u15, ()), ())))) e =
    F121.loop1 k (j + 1) s2 s3 s4 s17 s18 b6_0 b6_1 b6_2 b6_3 b7_0 b7_1 b7_2 b7_3 b11_0 b11_1 b11_2 b11_3 b15_0 b15_1 b15_2 b15_3 (fun u0 u1 u2 u3 u4 u5 u6 u7 u8 u9 u10 u11 u12 u13 u14 u15 => e ((), ((u0, u1, u2, u3, ()), (u4, u5, u6, u7, ()), (u8, u9, u10, u11, ()), (u12, u13, u14, u15, ()), ()))) := by kernel_rfl
noncomputable def F121.L0 {R : Type} (k : Nat) : LC R := ⟨0, ⟨[(2, .val .bool), (3, .val (.sl (.pair I6 I6))), (4, .val I6), (6, .ptr 0), (7, .ptr 1), (11, .ptr 2), (15, .ptr 3), (17, .val I6)], [.box (some (.pair I6 (.pair I6 (.pair I6 (.sl I6))))) [I6, I6, I6, (.sl I6)], .box (some (.pair I6 (.pair I6 (.pair I6 (.sl I6))))) [I6, I6, I6, (.sl I6)], .box (some (.pair I6 (.pair I6 (.pair I6 I6)))) [I6, I6, I6, I6], .box (some (.pair I6 (.pair I6 (.pair I6 (.sl I6))))) [I6, I6, I6, (.ow I6)]]⟩, [(.ex 0, ⟨[(15, .ptr 0)], [.box (some (.pair I6 (.pair I6 (.pair I6 (.sl I6))))) [I6, I6, I6, (.ow I6)]]⟩)], fun x e => F121.loop0 k k x.1.1 x.1.2.1 x.1.2.2.1 x.1.2.2.2.1 x.2.1.1 x.2.1.2.1 x.2.1.2.2.1 x.2.1.2.2.2.1 x.2.2.1.1 x.2.2.1.2.1 x.2.2.1.2.2.1 x.2.2.1.2.2.2.1 x.2.2.2.1.1 x.2.2.2.1.2.1 x.2.2.2.1.2.2.1 x.2.2.2.1.2.2.2.1 x.2.2.2.2.1.1 x.2.2.2.2.1.2.1 x.2.2.2.2.1.2.2.1 x.2.2.2.2.1.2.2.2.1 (fun u0 u1 u2 u3 => e ((), ((u0, u1, u2, u3, ()), ())))⟩
theorem F121.r0 {R : Type} (k j : Nat) (s2 : Bool) (s3 : List (Int × Int)) (s4 : Int) (s17 : Int) (b6_0 : Int) (b6_1 : Int) (b6_2 : Int) (b6_3 : List Int) (b7_0 : Int) (b7_1 : Int) (b7_2 : Int) (b7_3 : List Int) (b11_0 : Int) (b11_1 : Int) (b11_2 : Int) (b11_3 : Int) (b15_0 : Int) (b15_1 : Int) (b15_2 : Int) (b15_3 : List Int) (e : Outs (F121.L0 (R := R) k).outs → Option R) :
    evRound F121.C k [F121.L1 k] (F121.L0 (R := R) k).inn (F121.L0 (R := R) k).outs (loopOf Proofs.Tryz.f58 0) 1 ((s2, s3, s4, s17, ()), ((b6_0, b6_1, b6_2, b6_3, ()), (b7_0, b7_1, b7_2, b7_3, ()), (b11_0, b11_1, b11_2, b11_3, ()), (b15_0, b15_1, b15_2, b15_3, ()), ())) (fun x => F121.loop0 k j x.1.1 x.1.2.1 x.1.2.2.1 x.1.2.2.2.1 x.2.1.1 x.2.1.2.1 x.2.1.2.2.1 x.2.1.2.2.2.1 x.2.2.1.1 x.2.2.1.2.1 x.2.2.1.2.2.1 x.2.2.1.2.2.2.1 x.2.2.2.1.1 x.2.2.2.1.2.1 x.2.2.2.1.2.2.1 x.2.2.2.1.2.2.2.1 x.2.2.2.2.1.1 x.2.2.2.2.1.2.1 x.2.2.2.2.1.2.2.1 x.2.2.2.2.1.2.2.2.1 (fun u0 u1 u2 u3 => e ((), ((u0, u1, u2, u3, ()), ())))) e =
    F121.loop0 k (j + 1) s2 s3 s4 s17 b6_0 b6_1 b6_2 b6_3 b7_0 b7_1 b7_2 b7_3 b11_0 b11_1 b11_2 b11_3 b15_0 b15_1 b15_2 b15_3 (fun u0 u1 u2 u3 => e ((), ((u0, u1, u2, u3, ()), ()))) := by kernel_rfl
theorem F121.eq (k : Nat) (a0 : Int × Int × Int × List Int) (a1 : Int × Int × Int × List Int) (a2 : Bool) (a3 : List (Int × Int)) (a4 : Int) (a5 : Int × Int × Int × Int) :
    evF F121.C k [F121.L1 k, F121.L0 k] Proofs.Tryz.f58 [.imm (.pair I6 (.pair I6 (.pair I6 (.sl I6)))), .imm (.pair I6 (.pair I6 (.pair I6 (.sl I6)))), .imm .bool, .imm (.sl (.pair I6 I6)), .imm I6, .imm (.pair I6 (.pair I6 (.pair I6 I6)))] [(.pair I6 (.pair I6 (.pair I6 (.sl I6)))), I6] (a0, a1, a2, a3, a4, a5, ()) some = F121 k a0 a1 a2 a3 a4 a5 := by kernel_rfl

noncomputable def F122.S : FSem := ⟨31, [.imm (.pair I6 (.pair I6 (.pair I6 (.pair .bool (.pair (.pair I6 I6) (.pair I6 (.pair I6 (.pair (.sl I6) (.pair (.sl I6) (.pair (.sl I6) (.pair I6 (.pair I6 (.pair (.sl (.pair I6 (.sl I6))) (.pair (.sl (.pair I6 (.sl I6))) (.pair I6 (.pair (.sl (.pair I6 I6)) I6)))))))))))))))), .imm (.pair I6 (.pair I6 (.pair I6 (.sl I6)))), .imm (.pair I6 (.pair I6 (.pair I6 (.sl I6)))), .imm (.pair I6 (.pair I6 (.pair I6 I6)))], [(.pair I6 (.pair I6 (.pair I6 (.sl I6)))), I6], fun k x => F122 k x.1 x.2.1 x.2.2.1 x.2.2.2.1⟩
noncomputable def F122.C : Ctx := ⟨tis, etys, [F113.S, F115.S, F117.S, F63.S, F121.S], [0, 1, 2, 3, 4, 5, 6, 7, 8, 9, 11, 12, 31, 50], [], 81⟩
theorem F122.eq (k : Nat) (a0 : Int × Int × Int × Bool × (Int × Int) × Int × Int × (List Int) × (List Int) × (List Int) × Int × Int × (List (Int × List Int)) × (List (Int × List Int)) × Int × (List (Int × Int)) × Int) (a1 : Int × Int × Int × List Int) (a2 : Int × Int × Int × List Int) (a3 : Int × Int × Int × Int) :
    evF F122.C k [] Proofs.Tryz.f31 [.imm (.pair I6 (.pair I6 (.pair I6 (.pair .bool (.pair (.pair I6 I6) (.pair I6 (.pair I6 (.pair (.sl I6) (.pair (.sl I6) (.pair (.sl I6) (.pair I6 (.pair I6 (.pair (.sl (.pair I6 (.sl I6))) (.pair (.sl (.pair I6 (.sl I6))) (.pair I6 (.pair (.sl (.pair I6 I6)) I6)))))))))))))))), .imm (.pair I6 (.pair I6 (.pair I6 (.sl I6)))), .imm (.pair I6 (.pair I6 (.pair I6 (.sl I6)))), .imm (.pair I6 (.pair I6 (.pair I6 I6)))] [(.pair I6 (.pair I6 (.pair I6 (.sl I6)))), I6] (a0, a1, a2, a3, ()) some = F122 k a0 a1 a2 a3 := by kernel_rfl

noncomputable def F123.S : FSem := ⟨12, [.imm (.pair I6 (.pair I6 (.pair I6 (.pair .bool (.pair (.pair I6 I6) (.pair I6 (.pair I6 (.pair (.sl I6) (.pair (.sl I6) (.pair (.sl I6) (.pair I6 (.pair I6 (.pair (.sl (.pair I6 (.sl I6))) (.pair (.sl (.pair I6 (.sl I6))) (.pair I6 (.pair (.sl (.pair I6 I6)) I6)))))))))))))))), .imm (.pair I6 (.pair I6 (.pair I6 (.sl I6)))), .imm (.pair I6 (.pair I6 (.pair I6 (.sl I6))))], [(.pair I6 (.pair I6 (.pair I6 (.sl I6)))), I6], fun k x => F123 k x.1 x.2.1 x.2.2.1⟩
noncomputable def F123.C : Ctx := ⟨tis, etys, [F62.S, F63.S, F10.S, F96.S, F105.S, F108.S, F122.S], [0, 1, 2, 3, 4, 5, 6, 7, 8, 9, 21, 33, 37, 38, 46], [], 63⟩
theorem F123.eq (k : Nat) (a0 : Int × Int × Int × Bool × (Int × Int) × Int × Int × (List Int) × (List Int) × (List Int) × Int × Int × (List (Int × List Int)) × (List (Int × List Int)) × Int × (List (Int × Int)) × Int) (a1 : Int × Int × Int × List Int) (a2 : Int × Int × Int × List Int) :
    evF F123.C k [] Proofs.Tryz.f12 [.imm (.pair I6 (.pair I6 (.pair I6 (.pair .bool (.pair (.pair I6 I6) (.pair I6 (.pair I6 (.pair (.sl I6) (.pair (.sl I6) (.pair (.sl I6) (.pair I6 (.pair I6 (.pair (.sl (.pair I6 (.sl I6))) (.pair (.sl (.pair I6 (.sl I6))) (.pair I6 (.pair (.sl (.pair I6 I6)) I6)))))))))))))))), .imm (.pair I6 (.pair I6 (.pair I6 (.sl I6)))), .imm (.pair I6 (.pair I6 (.pair I6 (.sl I6))))] [(.pair I6 (.pair I6 (.pair I6 (.sl I6)))), I6] (a0, a1, a2, ()) some = F123 k a0 a1 a2 := by kernel_rfl

noncomputable def F124.S : FSem := ⟨32, [.imm I6], [(.pair I6 (.pair I6 (.pair I6 (.pair .bool (.pair (.pair I6 I6) (.pair I6 (.pair I6 (.pair (.sl I6) (.pair (.sl I6) (.pair (.sl I6) (.pair I6 (.pair I6 (.pair (.sl (.pair I6 (.sl I6))) (.pair (.sl (.pair I6 (.sl I6))) (.pair I6 (.pair (.sl (.pair I6 I6)) I6))))))))))))))))], fun k x => F124 k x.1⟩
noncomputable def F124.C : Ctx := ⟨tis, etys, [], [0, 2], [], 5⟩
theorem F124.eq (k : Nat) (a0 : Int) :
    evF F124.C k [] Proofs.Tryz.f32 [.imm I6] [(.pair I6 (.pair I6 (.pair I6 (.pair .bool (.pair (.pair I6 I6) (.pair I6 (.pair I6 (.pair (.sl I6) (.pair (.sl I6) (.pair (.sl I6) (.pair I6 (.pair I6 (.pair (.sl (.pair I6 (.sl I6))) (.pair (.sl (.pair I6 (.sl I6))) (.pair I6 (.pair (.sl (.pair I6 I6)) I6))))))))))))))))] (a0, ()) some = F124 k a0 := by kernel_rfl

noncomputable def F125.S : FSem := ⟨33, [.imm (.pair I6 (.pair I6 (.pair I6 (.pair .bool (.pair (.pair I6 I6) (.pair I6 (.pair I6 (.pair (.sl I6) (.pair (.sl I6) (.pair (.sl I6) (.pair I6 (.pair I6 (.pair (.sl (.pair I6 (.sl I6))) (.pair (.sl (.pair I6 (.sl I6))) (.pair I6 (.pair (.sl (.pair I6 I6)) I6))))))))))))))))], [(.sl I6)], fun k x => F125 k x.1⟩
noncomputable def F125.C : Ctx := ⟨tis, etys, [F27.S], [0, 1, 2, 4], [], 13⟩
theorem F125.eq (k : Nat) (a0 : Int × Int × Int × Bool × (Int × Int) × Int × Int × (List Int) × (List Int) × (List Int) × Int × Int × (List (Int × List Int)) × (List (Int × List Int)) × Int × (List (Int × Int)) × Int) :
    evF F125.C k [] Proofs.Tryz.f33 [.imm (.pair I6 (.pair I6 (.pair I6 (.pair .bool (.pair (.pair I6 I6) (.pair I6 (.pair I6 (.pair (.sl I6) (.pair (.sl I6) (.pair (.sl I6) (.pair I6 (.pair I6 (.pair (.sl (.pair I6 (.sl I6))) (.pair (.sl (.pair I6 (.sl I6))) (.pair I6 (.pair (.sl (.pair I6 I6)) I6))))))))))))))))] [(.sl I6)] (a0, ()) some = F125 k a0 := by kernel_rfl

noncomputable def F126.S : FSem := ⟨13, [], [.bool], fun k x => F126 k⟩
noncomputable def F126.C : Ctx := ⟨tis, etys, [F124.S, F60.S, F125.S, F24.S, F26.S], [0, 1, 2, 3], [], 39⟩
theorem F126.eq (k : Nat) :
    evF F126.C k [] Proofs.Tryz.f13 [] [.bool] () some = F126 k := by kernel_rfl

noncomputable def F127.S : FSem := ⟨3, [.imm (.sl I6)], [.bool], fun k x => F127 k x.1⟩
noncomputable def F127.C : Ctx := ⟨tis, etys, [F4.S, F9.S, F8.S, F10.S, F19.S, F6.S, F20.S, F60.S, F123.S, F126.S, F26.S, F62.S], [0, 2, 3, 4, 5, 6, 7, 8, 9, 10, 27, 49, 51], [], 88⟩
theorem F127.eq (k : Nat) (a0 : List Int) :
    evF F127.C k [] Proofs.Tryz.f3 [.imm (.sl I6)] [.bool] (a0, ()) some = F127 k a0 := by kernel_rfl

end Go.Lf.T
