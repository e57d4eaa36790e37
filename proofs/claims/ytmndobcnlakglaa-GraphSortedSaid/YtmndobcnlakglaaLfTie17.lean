import Derived.Test.YtmndobcnlakglaaLfSh17
import Derived.KernelRfl
import Derived.Test.YtmndobcnlakglaaProg
set_option linter.unusedVariables false
set_option maxRecDepth 100000
namespace Go.Lf.T
open Go Go.Lf
abbrev I6 : Ty := .int .i64

def tis : List (TypeId × TI) := [
  (3, ⟨1, 8, .int .i64, [.int .i64 0], []⟩),
  (4, ⟨1, 1, .bool, [.bool false], []⟩),
  (22, ⟨1, 24, .slice 3, [.nils], []⟩),
  (25, ⟨1, 24, .slice 63, [.nils], []⟩),
  (26, ⟨1, 24, .slice 40, [.nils], []⟩),
  (28, ⟨4, 80, .struct [(0, 1), (1, 1), (2, 1), (3, 1)], [.nils, .nils, .nils, .int .i64 0], []⟩),
  (36, ⟨2, 16, .struct [(0, 1), (1, 1)], [.int .i64 0, .int .i64 0], [true, true]⟩),
  (37, ⟨1, 24, .slice 92, [.nils], []⟩),
  (38, ⟨1, 24, .slice 54, [.nils], []⟩),
  (40, ⟨18, 240, .struct [(0, 1), (1, 1), (2, 1), (3, 1), (4, 2), (6, 1), (7, 1), (8, 1), (9, 1), (10, 1), (11, 1), (12, 1), (13, 1), (14, 1), (15, 1), (16, 1), (17, 1)], [.int .i64 0, .int .i64 0, .int .i64 0, .bool false, .int .i64 0, .int .i64 0, .int .i64 0, .int .i64 0, .nils, .nils, .nils, .int .i64 0, .int .i64 0, .nils, .nils, .int .i64 0, .nils, .int .i64 0], []⟩),
  (47, ⟨2, 32, .struct [(0, 1), (1, 1)], [.nils, .int .i64 0], []⟩),
  (51, ⟨1, 24, .slice 4, [.nils], []⟩),
  (54, ⟨2, 16, .struct [(0, 1), (1, 1)], [.int .i64 0, .int .i64 0], [true, true]⟩),
  (56, ⟨1, 24, .slice 60, [.nils], []⟩),
  (60, ⟨3, 24, .struct [(0, 1), (1, 1), (2, 1)], [.int .i64 0, .int .i64 0, .int .i64 0], [true, true, true]⟩),
  (63, ⟨4, 48, .struct [(0, 1), (1, 1), (2, 1), (3, 1)], [.int .i64 0, .int .i64 0, .int .i64 0, .nils], []⟩),
  (65, ⟨1, 8, .map 3 3, [.nilm], []⟩),
  (92, ⟨2, 32, .struct [(0, 1), (1, 1)], [.int .i64 0, .nils], []⟩),
  (95, ⟨1, 24, .slice 97, [.nils], []⟩),
  (97, ⟨2, 16, .struct [(0, 1), (1, 1)], [.int .i64 0, .int .i64 0], [true, true]⟩),
  (100, ⟨2, 16, .struct [(0, 1), (1, 1)], [.int .i64 0, .int .i64 0], [true, true]⟩)]

def etys : List (TypeId × Ty) := [
  (3, I6),
  (4, .bool),
  (22, (.sl I6)),
  (28, (.pair (.sl (.pair I6 (.pair I6 (.pair I6 (.sl I6))))) (.pair (.sl (.pair I6 (.pair I6 (.pair I6 (.pair .bool (.pair (.pair I6 I6) (.pair I6 (.pair I6 (.pair (.sl I6) (.pair (.sl I6) (.pair (.sl I6) (.pair I6 (.pair I6 (.pair (.sl (.pair I6 (.sl I6))) (.pair (.sl (.pair I6 (.sl I6))) (.pair I6 (.pair (.sl (.pair I6 I6)) I6))))))))))))))))) (.pair (.sl I6) I6)))),
  (36, (.pair I6 I6)),
  (40, (.pair I6 (.pair I6 (.pair I6 (.pair .bool (.pair (.pair I6 I6) (.pair I6 (.pair I6 (.pair (.sl I6) (.pair (.sl I6) (.pair (.sl I6) (.pair I6 (.pair I6 (.pair (.sl (.pair I6 (.sl I6))) (.pair (.sl (.pair I6 (.sl I6))) (.pair I6 (.pair (.sl (.pair I6 I6)) I6))))))))))))))))),
  (47, (.pair (.sl I6) I6)),
  (51, (.sl .bool)),
  (54, (.pair I6 I6)),
  (60, (.pair I6 (.pair I6 I6))),
  (63, (.pair I6 (.pair I6 (.pair I6 (.sl I6))))),
  (92, (.pair I6 (.sl I6))),
  (97, (.pair I6 I6)),
  (100, (.pair I6 I6))]

noncomputable def F4.S : FSem := ⟨5, [.imm (.sl I6)], [(.bx (.pair (.sl I6) I6))], fun k x => F4 k x.1⟩
noncomputable def F4.C : Ctx := ⟨tis, etys, [], [0, 2], [], 6, []⟩
theorem F4.eq (k : Nat) (a0 : List Int) :
    evF F4.C k [] Proofs.Try.f5 [.imm (.sl I6)] [(.bx (.pair (.sl I6) I6))] (a0, ()) some = F4 k a0 := by kernel_rfl

noncomputable def F5.S : FSem := ⟨7, [.imm I6, .imm I6], [I6], fun k x => F5 k x.1 x.2.1⟩
noncomputable def F5.C : Ctx := ⟨tis, etys, [], [0, 1, 4, 5, 10], [], 15, []⟩
theorem F5.eq (k : Nat) (a0 : Int) (a1 : Int) :
    evF F5.C k [] Proofs.Try.f7 [.imm I6, .imm I6] [I6] (a0, a1, ()) some = F5 k a0 a1 := by kernel_rfl

noncomputable def F6.S : FSem := ⟨13, [.bor (.pair (.sl I6) I6) true, .imm I6], [I6], fun k x => F6 k x.1 x.2.1⟩
noncomputable def F6.C : Ctx := ⟨tis, etys, [F5.S], [0, 1, 4, 18], [0], 39, []⟩
theorem F6.eq (k : Nat) (a0 : (List Int) × Int) (a1 : Int) :
    evF F6.C k [] Proofs.Try.f13 [.bor (.pair (.sl I6) I6) true, .imm I6] [I6] (a0, a1, ()) some = F6 k a0 a1 := by kernel_rfl

noncomputable def F7.S : FSem := ⟨10, [.imm I6], [(.pair I6 (.pair I6 (.pair I6 (.pair .bool (.pair (.pair I6 I6) (.pair I6 (.pair I6 (.pair (.sl I6) (.pair (.sl I6) (.pair (.sl I6) (.pair I6 (.pair I6 (.pair (.sl (.pair I6 (.sl I6))) (.pair (.sl (.pair I6 (.sl I6))) (.pair I6 (.pair (.sl (.pair I6 I6)) I6))))))))))))))))], fun k x => F7 k x.1⟩
noncomputable def F7.C : Ctx := ⟨tis, etys, [], [0, 2], [], 7, [6]⟩
theorem F7.eq (k : Nat) (a0 : Int) :
    evF F7.C k [] Proofs.Try.f10 [.imm I6] [(.pair I6 (.pair I6 (.pair I6 (.pair .bool (.pair (.pair I6 I6) (.pair I6 (.pair I6 (.pair (.sl I6) (.pair (.sl I6) (.pair (.sl I6) (.pair I6 (.pair I6 (.pair (.sl (.pair I6 (.sl I6))) (.pair (.sl (.pair I6 (.sl I6))) (.pair I6 (.pair (.sl (.pair I6 I6)) I6))))))))))))))))] (a0, ()) some = F7 k a0 := by kernel_rfl

noncomputable def F8.S : FSem := ⟨14, [.imm (.sl I6)], [(.pair (.sl (.pair I6 (.pair I6 (.pair I6 (.sl I6))))) (.pair (.ow (.pair I6 (.pair I6 (.pair I6 (.pair .bool (.pair (.pair I6 I6) (.pair I6 (.pair I6 (.pair (.sl I6) (.pair (.sl I6) (.pair (.sl I6) (.pair I6 (.pair I6 (.pair (.sl (.pair I6 (.sl I6))) (.pair (.sl (.pair I6 (.sl I6))) (.pair I6 (.pair (.sl (.pair I6 I6)) I6))))))))))))))))) (.pair (.sl I6) I6)))], fun k x => F8 k x.1⟩
noncomputable def F8.C : Ctx := ⟨tis, etys, [F7.S], [0, 2, 3, 4, 13], [], 27, [26]⟩
noncomputable def F8.L0 {R : Type} (k : Nat) : LC R := ⟨0, ⟨[(0, .val (.sl I6)), (3, .ptr 0), (4, .val I6)], [.box (some (.pair (.sl (.pair I6 (.pair I6 (.pair I6 (.sl I6))))) (.pair (.sl (.pair I6 (.pair I6 (.pair I6 (.pair .bool (.pair (.pair I6 I6) (.pair I6 (.pair I6 (.pair (.sl I6) (.pair (.sl I6) (.pair (.sl I6) (.pair I6 (.pair I6 (.pair (.sl (.pair I6 (.sl I6))) (.pair (.sl (.pair I6 (.sl I6))) (.pair I6 (.pair (.sl (.pair I6 I6)) I6))))))))))))))))) (.pair (.sl I6) I6)))) [(.ow (.pair I6 (.pair I6 (.pair I6 (.sl I6))))), (.ow (.pair I6 (.pair I6 (.pair I6 (.pair .bool (.pair (.pair I6 I6) (.pair I6 (.pair I6 (.pair (.sl I6) (.pair (.sl I6) (.pair (.sl I6) (.pair I6 (.pair I6 (.pair (.sl (.pair I6 (.sl I6))) (.pair (.sl (.pair I6 (.sl I6))) (.pair I6 (.pair (.sl (.pair I6 I6)) I6))))))))))))))))), (.ow I6), I6]]⟩, [(.ex 0, ⟨[(3, .ptr 0)], [.box (some (.pair (.sl (.pair I6 (.pair I6 (.pair I6 (.sl I6))))) (.pair (.sl (.pair I6 (.pair I6 (.pair I6 (.pair .bool (.pair (.pair I6 I6) (.pair I6 (.pair I6 (.pair (.sl I6) (.pair (.sl I6) (.pair (.sl I6) (.pair I6 (.pair I6 (.pair (.sl (.pair I6 (.sl I6))) (.pair (.sl (.pair I6 (.sl I6))) (.pair I6 (.pair (.sl (.pair I6 I6)) I6))))))))))))))))) (.pair (.sl I6) I6)))) [(.ow (.pair I6 (.pair I6 (.pair I6 (.sl I6))))), (.ow (.pair I6 (.pair I6 (.pair I6 (.pair .bool (.pair (.pair I6 I6) (.pair I6 (.pair I6 (.pair (.sl I6) (.pair (.sl I6) (.pair (.sl I6) (.pair I6 (.pair I6 (.pair (.sl (.pair I6 (.sl I6))) (.pair (.sl (.pair I6 (.sl I6))) (.pair I6 (.pair (.sl (.pair I6 I6)) I6))))))))))))))))), (.ow I6), I6]]⟩)], fun x e => F8.loop0 k k x.1.1 x.1.2.1 x.2.1.1 x.2.1.2.1 x.2.1.2.2.1 x.2.1.2.2.2.1 (fun u0 u1 u2 u3 => e ((), ((u0, u1, u2, u3, ()), ())))⟩
theorem F8.r0 {R : Type} (k j : Nat) (s0 : List Int) (s4 : Int) (b3_0 : List (Int × Int × Int × List Int)) (b3_1 : List (Int × Int × Int × Bool × (Int × Int) × Int × Int × (List Int) × (List Int) × (List Int) × Int × Int × (List (Int × List Int)) × (List (Int × List Int)) × Int × (List (Int × Int)) × Int)) (b3_2 : List Int) (b3_3 : Int) (e : Outs (F8.L0 (R := R) k).outs → Option R) :
    evRound F8.C k [] (F8.L0 (R := R) k).inn (F8.L0 (R := R) k).outs (loopOf Proofs.Try.f14 0) 1 ((s0, s4, ()), ((b3_0, b3_1, b3_2, b3_3, ()), ())) (fun x => F8.loop0 k j x.1.1 x.1.2.1 x.2.1.1 x.2.1.2.1 x.2.1.2.2.1 x.2.1.2.2.2.1 (fun u0 u1 u2 u3 => e ((), ((u0, u1, u2, u3, ()), ())))) e =
    F8.loop0 k (j + 1) s0 s4 b3_0 b3_1 b3_2 b3_3 (fun u0 u1 u2 u3 => e ((), ((u0, u1, u2, u3, ()), ()))) := by kernel_rfl
theorem F8.eq (k : Nat) (a0 : List Int) :
    evF F8.C k [F8.L0 k] Proofs.Try.f14 [.imm (.sl I6)] [(.pair (.sl (.pair I6 (.pair I6 (.pair I6 (.sl I6))))) (.pair (.ow (.pair I6 (.pair I6 (.pair I6 (.pair .bool (.pair (.pair I6 I6) (.pair I6 (.pair I6 (.pair (.sl I6) (.pair (.sl I6) (.pair (.sl I6) (.pair I6 (.pair I6 (.pair (.sl (.pair I6 (.sl I6))) (.pair (.sl (.pair I6 (.sl I6))) (.pair I6 (.pair (.sl (.pair I6 I6)) I6))))))))))))))))) (.pair (.sl I6) I6)))] (a0, ()) some = F8 k a0 := by kernel_rfl

noncomputable def F9.S : FSem := ⟨6, [.bor (.pair (.sl I6) I6) true, .imm I6], [(.pair (.sl (.pair I6 (.pair I6 (.pair I6 (.sl I6))))) (.pair (.sl (.pair I6 (.pair I6 (.pair I6 (.pair .bool (.pair (.pair I6 I6) (.pair I6 (.pair I6 (.pair (.sl I6) (.pair (.sl I6) (.pair (.sl I6) (.pair I6 (.pair I6 (.pair (.sl (.pair I6 (.sl I6))) (.pair (.sl (.pair I6 (.sl I6))) (.pair I6 (.pair (.sl (.pair I6 I6)) I6))))))))))))))))) (.pair (.sl I6) I6)))], fun k x => F9 k x.1 x.2.1⟩
noncomputable def F9.C : Ctx := ⟨tis, etys, [F6.S, F8.S], [0, 1, 4, 5, 6, 7, 8, 11, 25, 30], [0], 41, [40]⟩
noncomputable def F9.L0 {R : Type} (k : Nat) : LC R := ⟨0, ⟨[(0, .ptr 0), (1, .val I6), (5, .arr 1), (6, .val I6)], [.box (some (.pair (.sl I6) I6)) [(.sl I6), I6], .arr I6]⟩, [(.ex 0, ⟨[(0, .ptr 0), (5, .arr 1)], [.box (some (.pair (.sl I6) I6)) [(.sl I6), I6], .arr I6]⟩)], fun x e => F9.loop0 k k x.1.1 x.1.2.1 x.2.1.1 x.2.1.2.1 x.2.2.1 (fun u0 u1 u2 => e ((), ((u0, u1, ()), u2, ())))⟩
theorem F9.r0 {R : Type} (k j : Nat) (s1 : Int) (s6 : Int) (b0_0 : List Int) (b0_1 : Int) (l5 : List Int) (e : Outs (F9.L0 (R := R) k).outs → Option R) :
    evRound F9.C k [] (F9.L0 (R := R) k).inn (F9.L0 (R := R) k).outs (loopOf Proofs.Try.f6 0) 1 ((s1, s6, ()), ((b0_0, b0_1, ()), l5, ())) (fun x => F9.loop0 k j x.1.1 x.1.2.1 x.2.1.1 x.2.1.2.1 x.2.2.1 (fun u0 u1 u2 => e ((), ((u0, u1, ()), u2, ())))) e =
    F9.loop0 k (j + 1) s1 s6 b0_0 b0_1 l5 (fun u0 u1 u2 => e ((), ((u0, u1, ()), u2, ()))) := by kernel_rfl
noncomputable def F9.L1 {R : Type} (k : Nat) : LC R := ⟨2, ⟨[(0, .ptr 0), (1, .val I6), (7, .ptr 1), (8, .val I6)], [.box (some (.pair (.sl I6) I6)) [(.sl I6), I6], .box (some (.pair (.sl (.pair I6 (.pair I6 (.pair I6 (.sl I6))))) (.pair (.sl (.pair I6 (.pair I6 (.pair I6 (.pair .bool (.pair (.pair I6 I6) (.pair I6 (.pair I6 (.pair (.sl I6) (.pair (.sl I6) (.pair (.sl I6) (.pair I6 (.pair I6 (.pair (.sl (.pair I6 (.sl I6))) (.pair (.sl (.pair I6 (.sl I6))) (.pair I6 (.pair (.sl (.pair I6 I6)) I6))))))))))))))))) (.pair (.sl I6) I6)))) [(.sl (.pair I6 (.pair I6 (.pair I6 (.sl I6))))), (.ow (.pair I6 (.pair I6 (.pair I6 (.pair .bool (.pair (.pair I6 I6) (.pair I6 (.pair I6 (.pair (.sl I6) (.pair (.sl I6) (.pair (.sl I6) (.pair I6 (.pair I6 (.pair (.sl (.pair I6 (.sl I6))) (.pair (.sl (.pair I6 (.sl I6))) (.pair I6 (.pair (.sl (.pair I6 I6)) I6))))))))))))))))), (.sl I6), I6]]⟩, [(.ex 2, ⟨[(0, .ptr 0), (7, .ptr 1)], [.box (some (.pair (.sl I6) I6)) [(.sl I6), I6], .box (some (.pair (.sl (.pair I6 (.pair I6 (.pair I6 (.sl I6))))) (.pair (.sl (.pair I6 (.pair I6 (.pair I6 (.pair .bool (.pair (.pair I6 I6) (.pair I6 (.pair I6 (.pair (.sl I6) (.pair (.sl I6) (.pair (.sl I6) (.pair I6 (.pair I6 (.pair (.sl (.pair I6 (.sl I6))) (.pair (.sl (.pair I6 (.sl I6))) (.pair I6 (.pair (.sl (.pair I6 I6)) I6))))))))))))))))) (.pair (.sl I6) I6)))) [(.sl (.pair I6 (.pair I6 (.pair I6 (.sl I6))))), (.ow (.pair I6 (.pair I6 (.pair I6 (.pair .bool (.pair (.pair I6 I6) (.pair I6 (.pair I6 (.pair (.sl I6) (.pair (.sl I6) (.pair (.sl I6) (.pair I6 (.pair I6 (.pair (.sl (.pair I6 (.sl I6))) (.pair (.sl (.pair I6 (.sl I6))) (.pair I6 (.pair (.sl (.pair I6 I6)) I6))))))))))))))))), (.sl I6), I6]]⟩)], fun x e => F9.loop1 k k x.1.1 x.1.2.1 x.2.1.1 x.2.1.2.1 x.2.2.1.1 x.2.2.1.2.1 x.2.2.1.2.2.1 x.2.2.1.2.2.2.1 (fun u0 u1 u2 u3 u4 u5 => e ((), ((u0, u1, ()), (u2, u3, u4, u5, ()), ())))⟩
theorem F9.r1 {R : Type} (k j : Nat) (s1 : Int) (s8 : Int) (b0_0 : List Int) (b0_1 : Int) (b7_0 : List (Int × Int × Int × List Int)) (b7_1 : List (Int × Int × Int × Bool × (Int × Int) × Int × Int × (List Int) × (List Int) × (List Int) × Int × Int × (List (Int × List Int)) × (List (Int × List Int)) × Int × (List (Int × Int)) × Int)) (b7_2 : List Int) (b7_3 : Int) (e : Outs (F9.L1 (R := R) k).outs → Option R) :
    evRound F9.C k [] (F9.L1 (R := R) k).inn (F9.L1 (R := R) k).outs (loopOf Proofs.Try.f6 1) 2 ((s1, s8, ()), ((b0_0, b0_1, ()), (b7_0, b7_1, b7_2, b7_3, ()), ())) (fun x => F9.loop1 k j x.1.1 x.1.2.1 x.2.1.1 x.2.1.2.1 x.2.2.1.1 x.2.2.1.2.1 x.2.2.1.2.2.1 x.2.2.1.2.2.2.1 (fun u0 u1 u2 u3 u4 u5 => e ((), ((u0, u1, ()), (u2, u3, u4, u5, ()), ())))) e =
    F9.loop1 k (j + 1) s1 s8 b0_0 b0_1 b7_0 b7_1 b7_2 b7_3 (fun u0 u1 u2 u3 u4 u5 => e ((), ((u0, u1, ()), (u2, u3, u4, u5, ()), ()))) := by kernel_rfl
theorem F9.eq (k : Nat) (a0 : (List Int) × Int) (a1 : Int) :
    evF F9.C k [F9.L0 k, F9.L1 k] Proofs.Try.f6 [.bor (.pair (.sl I6) I6) true, .imm I6] [(.pair (.sl (.pair I6 (.pair I6 (.pair I6 (.sl I6))))) (.pair (.sl (.pair I6 (.pair I6 (.pair I6 (.pair .bool (.pair (.pair I6 I6) (.pair I6 (.pair I6 (.pair (.sl I6) (.pair (.sl I6) (.pair (.sl I6) (.pair I6 (.pair I6 (.pair (.sl (.pair I6 (.sl I6))) (.pair (.sl (.pair I6 (.sl I6))) (.pair I6 (.pair (.sl (.pair I6 I6)) I6))))))))))))))))) (.pair (.sl I6) I6)))] (a0, a1, ()) some = F9 k a0 a1 := by kernel_rfl

noncomputable def F10.S : FSem := ⟨22, [.imm (.pair I6 (.pair I6 (.pair I6 (.pair .bool (.pair (.pair I6 I6) (.pair I6 (.pair I6 (.pair (.sl I6) (.pair (.sl I6) (.pair (.sl I6) (.pair I6 (.pair I6 (.pair (.sl (.pair I6 (.sl I6))) (.pair (.sl (.pair I6 (.sl I6))) (.pair I6 (.pair (.sl (.pair I6 I6)) I6))))))))))))))))], [.bool], fun k x => F10 k x.1⟩
noncomputable def F10.C : Ctx := ⟨tis, etys, [], [0, 1, 2], [], 11, []⟩
theorem F10.eq (k : Nat) (a0 : Int × Int × Int × Bool × (Int × Int) × Int × Int × (List Int) × (List Int) × (List Int) × Int × Int × (List (Int × List Int)) × (List (Int × List Int)) × Int × (List (Int × Int)) × Int) :
    evF F10.C k [] Proofs.Try.f22 [.imm (.pair I6 (.pair I6 (.pair I6 (.pair .bool (.pair (.pair I6 I6) (.pair I6 (.pair I6 (.pair (.sl I6) (.pair (.sl I6) (.pair (.sl I6) (.pair I6 (.pair I6 (.pair (.sl (.pair I6 (.sl I6))) (.pair (.sl (.pair I6 (.sl I6))) (.pair I6 (.pair (.sl (.pair I6 I6)) I6))))))))))))))))] [.bool] (a0, ()) some = F10 k a0 := by kernel_rfl

noncomputable def F11.S : FSem := ⟨16, [.imm (.pair I6 (.pair I6 (.pair I6 (.pair .bool (.pair (.pair I6 I6) (.pair I6 (.pair I6 (.pair (.sl I6) (.pair (.sl I6) (.pair (.sl I6) (.pair I6 (.pair I6 (.pair (.sl (.pair I6 (.sl I6))) (.pair (.sl (.pair I6 (.sl I6))) (.pair I6 (.pair (.sl (.pair I6 I6)) I6))))))))))))))))], [(.ow I6)], fun k x => F11 k x.1⟩
noncomputable def F11.C : Ctx := ⟨tis, etys, [F10.S], [0, 1, 2, 4], [], 13, []⟩
theorem F11.eq (k : Nat) (a0 : Int × Int × Int × Bool × (Int × Int) × Int × Int × (List Int) × (List Int) × (List Int) × Int × Int × (List (Int × List Int)) × (List (Int × List Int)) × Int × (List (Int × Int)) × Int) :
    evF F11.C k [] Proofs.Try.f16 [.imm (.pair I6 (.pair I6 (.pair I6 (.pair .bool (.pair (.pair I6 I6) (.pair I6 (.pair I6 (.pair (.sl I6) (.pair (.sl I6) (.pair (.sl I6) (.pair I6 (.pair I6 (.pair (.sl (.pair I6 (.sl I6))) (.pair (.sl (.pair I6 (.sl I6))) (.pair I6 (.pair (.sl (.pair I6 I6)) I6))))))))))))))))] [(.ow I6)] (a0, ()) some = F11 k a0 := by kernel_rfl

noncomputable def F12.S : FSem := ⟨15, [.imm I6, .bor I6 true], [.bool], fun k x => F12 k x.1 x.2.1⟩
noncomputable def F12.C : Ctx := ⟨tis, etys, [], [0, 1, 3], [1], 11, []⟩
theorem F12.eq (k : Nat) (a0 : Int) (a1 : Int) :
    evF F12.C k [] Proofs.Try.f15 [.imm I6, .bor I6 true] [.bool] (a0, a1, ()) some = F12 k a0 a1 := by kernel_rfl

noncomputable def F13.S : FSem := ⟨18, [.imm I6, .bor (.ow .bool) true], [.bool], fun k x => F13 k x.1 x.2.1⟩
noncomputable def F13.C : Ctx := ⟨tis, etys, [], [0, 1, 3], [1], 9, []⟩
theorem F13.eq (k : Nat) (a0 : Int) (a1 : List Bool) :
    evF F13.C k [] Proofs.Try.f18 [.imm I6, .bor (.ow .bool) true] [.bool] (a0, a1, ()) some = F13 k a0 a1 := by kernel_rfl

noncomputable def F14.S : FSem := ⟨23, [.imm (.sl I6), .clo 18 1, .bor (.ow .bool) true], [I6], fun k x => F14 k x.1 x.2.1⟩
noncomputable def F14.C : Ctx := ⟨tis, etys, [F13.S], [0, 1, 4, 5, 7, 8, 9, 16], [1], 19, []⟩
noncomputable def F14.L0 {R : Type} (k : Nat) : LC R := ⟨0, ⟨[(0, .val (.sl I6)), (1, .fn 18 [0]), (7, .val I6), (8, .val I6)], [.box (some (.ow .bool)) [(.ow .bool)]]⟩, [(.ret, ⟨[(1, .fn 18 [0]), (4, .val I6)], [.box (some (.ow .bool)) [(.ow .bool)]]⟩), (.ex 0, ⟨[(1, .fn 18 [0])], [.box (some (.ow .bool)) [(.ow .bool)]]⟩)], fun x e => F14.loop0 k k x.1.1 x.1.2.1 x.1.2.2.1 x.2.1.1 (fun u0 u1 => e (.inl ((u0, ()), ((u1, ()), ())))) (fun u0 => e (.inr (((), ((u0, ()), ())))))⟩
theorem F14.r0 {R : Type} (k j : Nat) (s0 : List Int) (s7 : Int) (s8 : Int) (b1010_0 : List Bool) (e : Outs (F14.L0 (R := R) k).outs → Option R) :
    evRound F14.C k [] (F14.L0 (R := R) k).inn (F14.L0 (R := R) k).outs (loopOf Proofs.Try.f23 0) 1 ((s0, s7, s8, ()), ((b1010_0, ()), ())) (fun x => F14.loop0 k j x.1.1 x.1.2.1 x.1.2.2.1 x.2.1.1 (fun u0 u1 => e (.inl ((u0, ()), ((u1, ()), ())))) (fun u0 => e (.inr (((), ((u0, ()), ())))))) e =
    F14.loop0 k (j + 1) s0 s7 s8 b1010_0 (fun u0 u1 => e (.inl ((u0, ()), ((u1, ()), ())))) (fun u0 => e (.inr (((), ((u0, ()), ()))))) := by kernel_rfl
theorem F14.eq (k : Nat) (a0 : List Int) (a1 : List Bool) :
    evF F14.C k [F14.L0 k] Proofs.Try.f23 [.imm (.sl I6), .clo 18 1, .bor (.ow .bool) true] [I6] (a0, a1, ()) some = F14 k a0 a1 := by kernel_rfl

noncomputable def F15.S : FSem := ⟨17, [.imm (.sl I6), .clo 18 1, .bor (.ow .bool) true], [.bool], fun k x => F15 k x.1 x.2.1⟩
noncomputable def F15.C : Ctx := ⟨tis, etys, [F14.S], [0, 1, 4], [1], 9, []⟩
theorem F15.eq (k : Nat) (a0 : List Int) (a1 : List Bool) :
    evF F15.C k [] Proofs.Try.f17 [.imm (.sl I6), .clo 18 1, .bor (.ow .bool) true] [.bool] (a0, a1, ()) some = F15 k a0 a1 := by kernel_rfl

noncomputable def F16.S : FSem := ⟨8, [.imm (.pair (.sl (.pair I6 (.pair I6 (.pair I6 (.sl I6))))) (.pair (.sl (.pair I6 (.pair I6 (.pair I6 (.pair .bool (.pair (.pair I6 I6) (.pair I6 (.pair I6 (.pair (.sl I6) (.pair (.sl I6) (.pair (.sl I6) (.pair I6 (.pair I6 (.pair (.sl (.pair I6 (.sl I6))) (.pair (.sl (.pair I6 (.sl I6))) (.pair I6 (.pair (.sl (.pair I6 I6)) I6))))))))))))))))) (.pair (.sl I6) I6)))], [(.ow I6), I6], fun k x => F16 k x.1⟩
noncomputable def F16.C : Ctx := ⟨tis, etys, [F11.S, F12.S, F15.S], [0, 1, 2, 3, 4, 5, 6, 8, 10, 12, 13, 14, 15, 16, 17, 18, 19, 53, 61, 64, 65, 66, 67, 71, 72, 73, 74, 80, 84, 85, 86, 87, 93, 97, 98, 99, 110, 112, 113, 114, 115, 133, 139], [], 148, []⟩
noncomputable def F16.L1 {R : Type} (k : Nat) : LC R := ⟨2, ⟨[(5, .ptr 0), (6, .fn 15 [0]), (71, .arr 1), (72, .val I6), (73, .val I6)], [.box (some I6) [I6], .arr I6]⟩, [(.ret, ⟨[(2, .arr 0), (3, .val I6)], [.arr I6]⟩), (.ex 2, ⟨[(5, .ptr 0), (6, .fn 15 [0])], [.box (some I6) [I6]]⟩)], fun x e => F16.loop1 k k x.1.1 x.1.2.1 x.2.1.1 x.2.2.1 (fun u0 u1 => e (.inl ((u0, ()), (u1, ())))) (fun u0 => e (.inr (((), ((u0, ()), ())))))⟩
theorem F16.r1 {R : Type} (k j : Nat) (s72 : Int) (s73 : Int) (b5_0 : Int) (l71 : List Int) (e : Outs (F16.L1 (R := R) k).outs → Option R) :
    evRound F16.C k [] (F16.L1 (R := R) k).inn (F16.L1 (R := R) k).outs (loopOf Proofs.Try.f8 1) 2 ((s72, s73, ()), ((b5_0, ()), l71, ())) (fun x => F16.loop1 k j x.1.1 x.1.2.1 x.2.1.1 x.2.2.1 (fun u0 u1 => e (.inl ((u0, ()), (u1, ())))) (fun u0 => e (.inr (((), ((u0, ()), ())))))) e =
    F16.loop1 k (j + 1) s72 s73 b5_0 l71 (fun u0 u1 => e (.inl ((u0, ()), (u1, ())))) (fun u0 => e (.inr (((), ((u0, ()), ()))))) := by kernel_rfl
noncomputable def F16.L0 {R : Type} (k : Nat) : LC R := ⟨0, ⟨[(5, .ptr 0), (6, .fn 15 [0]), (64, .val (.sl (.pair I6 (.pair I6 (.pair I6 (.pair .bool (.pair (.pair I6 I6) (.pair I6 (.pair I6 (.pair (.sl I6) (.pair (.sl I6) (.pair (.sl I6) (.pair I6 (.pair I6 (.pair (.sl (.pair I6 (.sl I6))) (.pair (.sl (.pair I6 (.sl I6))) (.pair I6 (.pair (.sl (.pair I6 I6)) I6)))))))))))))))))), (65, .val I6), (66, .val I6)], [.box (some I6) [I6]]⟩, [(.ret, ⟨[(2, .arr 0), (3, .val I6)], [.arr I6]⟩), (.ex 0, ⟨[(5, .ptr 0), (6, .fn 15 [0])], [.box (some I6) [I6]]⟩)], fun x e => F16.loop0 k k x.1.1 x.1.2.1 x.1.2.2.1 x.2.1.1 (fun u0 u1 => e (.inl ((u0, ()), (u1, ())))) (fun u0 => e (.inr (((), ((u0, ()), ())))))⟩
theorem F16.r0 {R : Type} (k j : Nat) (s64 : List (Int × Int × Int × Bool × (Int × Int) × Int × Int × (List Int) × (List Int) × (List Int) × Int × Int × (List (Int × List Int)) × (List (Int × List Int)) × Int × (List (Int × Int)) × Int)) (s65 : Int) (s66 : Int) (b5_0 : Int) (e : Outs (F16.L0 (R := R) k).outs → Option R) :
    evRound F16.C k [F16.L1 k] (F16.L0 (R := R) k).inn (F16.L0 (R := R) k).outs (loopOf Proofs.Try.f8 0) 1 ((s64, s65, s66, ()), ((b5_0, ()), ())) (fun x => F16.loop0 k j x.1.1 x.1.2.1 x.1.2.2.1 x.2.1.1 (fun u0 u1 => e (.inl ((u0, ()), (u1, ())))) (fun u0 => e (.inr (((), ((u0, ()), ())))))) e =
    F16.loop0 k (j + 1) s64 s65 s66 b5_0 (fun u0 u1 => e (.inl ((u0, ()), (u1, ())))) (fun u0 => e (.inr (((), ((u0, ()), ()))))) := by kernel_rfl
noncomputable def F16.L2 {R : Type} (k : Nat) : LC R := ⟨4, ⟨[(5, .ptr 0), (6, .fn 15 [0]), (84, .val (.sl I6)), (85, .val I6), (86, .val I6)], [.box (some I6) [I6]]⟩, [(.ret, ⟨[(2, .arr 0), (3, .val I6)], [.arr I6]⟩), (.ex 4, ⟨[(5, .ptr 0)], [.box (some I6) [I6]]⟩)], fun x e => F16.loop2 k k x.1.1 x.1.2.1 x.1.2.2.1 x.2.1.1 (fun u0 u1 => e (.inl ((u0, ()), (u1, ())))) (fun u0 => e (.inr (((), ((u0, ()), ())))))⟩
theorem F16.r2 {R : Type} (k j : Nat) (s84 : List Int) (s85 : Int) (s86 : Int) (b5_0 : Int) (e : Outs (F16.L2 (R := R) k).outs → Option R) :
    evRound F16.C k [] (F16.L2 (R := R) k).inn (F16.L2 (R := R) k).outs (loopOf Proofs.Try.f8 2) 3 ((s84, s85, s86, ()), ((b5_0, ()), ())) (fun x => F16.loop2 k j x.1.1 x.1.2.1 x.1.2.2.1 x.2.1.1 (fun u0 u1 => e (.inl ((u0, ()), (u1, ())))) (fun u0 => e (.inr (((), ((u0, ()), ())))))) e =
    F16.loop2 k (j + 1) s84 s85 s86 b5_0 (fun u0 u1 => e (.inl ((u0, ()), (u1, ())))) (fun u0 => e (.inr (((), ((u0, ()), ()))))) := by kernel_rfl
noncomputable def F16.L3 {R : Type} (k : Nat) : LC R := ⟨6, ⟨[(14, .ptr 0), (97, .val I6), (98, .val I6)], [.box (some (.sl .bool)) [(.ow .bool)]]⟩, [(.ex 6, ⟨[(14, .ptr 0)], [.box (some (.sl .bool)) [(.ow .bool)]]⟩)], fun x e => F16.loop3 k k x.1.1 x.1.2.1 x.2.1.1 (fun u0 => e ((), ((u0, ()), ())))⟩
theorem F16.r3 {R : Type} (k j : Nat) (s97 : Int) (s98 : Int) (b14_0 : List Bool) (e : Outs (F16.L3 (R := R) k).outs → Option R) :
    evRound F16.C k [] (F16.L3 (R := R) k).inn (F16.L3 (R := R) k).outs (loopOf Proofs.Try.f8 3) 4 ((s97, s98, ()), ((b14_0, ()), ())) (fun x => F16.loop3 k j x.1.1 x.1.2.1 x.2.1.1 (fun u0 => e ((), ((u0, ()), ())))) e =
    F16.loop3 k (j + 1) s97 s98 b14_0 (fun u0 => e ((), ((u0, ()), ()))) := by kernel_rfl
noncomputable def F16.L5 {R : Type} (k : Nat) : LC R := ⟨10, ⟨[(4, .val I6), (14, .ptr 0), (16, .val I6), (112, .val (.sl (.pair I6 (.pair I6 (.pair I6 (.pair .bool (.pair (.pair I6 I6) (.pair I6 (.pair I6 (.pair (.sl I6) (.pair (.sl I6) (.pair (.sl I6) (.pair I6 (.pair I6 (.pair (.sl (.pair I6 (.sl I6))) (.pair (.sl (.pair I6 (.sl I6))) (.pair I6 (.pair (.sl (.pair I6 I6)) I6)))))))))))))))))), (113, .val I6), (114, .val I6)], [.box (some (.sl .bool)) [(.ow .bool)]]⟩, [(.ex 10, ⟨[(14, .ptr 0), (16, .val I6)], [.box (some (.ow .bool)) [(.ow .bool)]]⟩)], fun x e => F16.loop5 k k x.1.1 x.1.2.1 x.1.2.2.1 x.1.2.2.2.1 x.1.2.2.2.2.1 x.2.1.1 (fun u0 u1 => e ((u0, ()), ((u1, ()), ())))⟩
theorem F16.r5 {R : Type} (k j : Nat) (s4 : Int) (s16 : Int) (s112 : List (Int × Int × Int × Bool × (Int × Int) × Int × Int × (List Int) × (List Int) × (List Int) × Int × Int × (List (Int × List Int)) × (List (Int × List Int)) × Int × (List (Int × Int)) × Int)) (s113 : Int) (s114 : Int) (b14_0 : List Bool) (e : Outs (F16.L5 (R := R) k).outs → Option R) :
    evRound F16.C k [] (F16.L5 (R := R) k).inn (F16.L5 (R := R) k).outs (loopOf Proofs.Try.f8 5) 6 ((s4, s16, s112, s113, s114, ()), ((b14_0, ()), ())) (fun x => F16.loop5 k j x.1.1 x.1.2.1 x.1.2.2.1 x.1.2.2.2.1 x.1.2.2.2.2.1 x.2.1.1 (fun u0 u1 => e ((u0, ()), ((u1, ()), ())))) e =
    F16.loop5 k (j + 1) s4 s16 s112 s113 s114 b14_0 (fun u0 u1 => e ((u0, ()), ((u1, ()), ()))) := by kernel_rfl
noncomputable def F16.L4 {R : Type} (k : Nat) : LC R := ⟨8, ⟨[(1, .ptr 0), (4, .val I6), (13, .arr 1), (14, .ptr 2)], [.box (some (.pair (.sl (.pair I6 (.pair I6 (.pair I6 (.sl I6))))) (.pair (.sl (.pair I6 (.pair I6 (.pair I6 (.pair .bool (.pair (.pair I6 I6) (.pair I6 (.pair I6 (.pair (.sl I6) (.pair (.sl I6) (.pair (.sl I6) (.pair I6 (.pair I6 (.pair (.sl (.pair I6 (.sl I6))) (.pair (.sl (.pair I6 (.sl I6))) (.pair I6 (.pair (.sl (.pair I6 I6)) I6))))))))))))))))) (.pair (.sl I6) I6)))) [(.sl (.pair I6 (.pair I6 (.pair I6 (.sl I6))))), (.sl (.pair I6 (.pair I6 (.pair I6 (.pair .bool (.pair (.pair I6 I6) (.pair I6 (.pair I6 (.pair (.sl I6) (.pair (.sl I6) (.pair (.sl I6) (.pair I6 (.pair I6 (.pair (.sl (.pair I6 (.sl I6))) (.pair (.sl (.pair I6 (.sl I6))) (.pair I6 (.pair (.sl (.pair I6 I6)) I6))))))))))))))))), (.sl I6), I6], .arr I6, .box (some (.sl .bool)) [(.ow .bool)]]⟩, [(.ret, ⟨[(2, .arr 0), (3, .val I6)], [.arr I6]⟩), (.ex 8, ⟨[(13, .arr 0)], [.arr I6]⟩)], fun x e => F16.loop4 k k x.1.1 x.2.1.1 x.2.1.2.1 x.2.1.2.2.1 x.2.1.2.2.2.1 x.2.2.1 x.2.2.2.1.1 (fun u0 u1 => e (.inl ((u0, ()), (u1, ())))) (fun u0 => e (.inr (((), (u0, ())))))⟩
theorem F16.r4 {R : Type} (k j : Nat) (s4 : Int) (b1_0 : List (Int × Int × Int × List Int)) (b1_1 : List (Int × Int × Int × Bool × (Int × Int) × Int × Int × (List Int) × (List Int) × (List Int) × Int × Int × (List (Int × List Int)) × (List (Int × List Int)) × Int × (List (Int × Int)) × Int)) (b1_2 : List Int) (b1_3 : Int) (l13 : List Int) (b14_0 : List Bool) (e : Outs (F16.L4 (R := R) k).outs → Option R) :
    evRound F16.C k [F16.L5 k] (F16.L4 (R := R) k).inn (F16.L4 (R := R) k).outs (loopOf Proofs.Try.f8 4) 5 ((s4, ()), ((b1_0, b1_1, b1_2, b1_3, ()), l13, (b14_0, ()), ())) (fun x => F16.loop4 k j x.1.1 x.2.1.1 x.2.1.2.1 x.2.1.2.2.1 x.2.1.2.2.2.1 x.2.2.1 x.2.2.2.1.1 (fun u0 u1 => e (.inl ((u0, ()), (u1, ())))) (fun u0 => e (.inr (((), (u0, ())))))) e =
    F16.loop4 k (j + 1) s4 b1_0 b1_1 b1_2 b1_3 l13 b14_0 (fun u0 u1 => e (.inl ((u0, ()), (u1, ())))) (fun u0 => e (.inr (((), (u0, ()))))) := by kernel_rfl
theorem F16.eq (k : Nat) (a0 : (List (Int × Int × Int × List Int)) × (List (Int × Int × Int × Bool × (Int × Int) × Int × Int × (List Int) × (List Int) × (List Int) × Int × Int × (List (Int × List Int)) × (List (Int × List Int)) × Int × (List (Int × Int)) × Int)) × (List Int) × Int) :
    evF F16.C k [F16.L1 k, F16.L0 k, F16.L2 k, F16.L3 k, F16.L5 k, F16.L4 k] Proofs.Try.f8 [.imm (.pair (.sl (.pair I6 (.pair I6 (.pair I6 (.sl I6))))) (.pair (.sl (.pair I6 (.pair I6 (.pair I6 (.pair .bool (.pair (.pair I6 I6) (.pair I6 (.pair I6 (.pair (.sl I6) (.pair (.sl I6) (.pair (.sl I6) (.pair I6 (.pair I6 (.pair (.sl (.pair I6 (.sl I6))) (.pair (.sl (.pair I6 (.sl I6))) (.pair I6 (.pair (.sl (.pair I6 I6)) I6))))))))))))))))) (.pair (.sl I6) I6)))] [(.ow I6), I6] (a0, ()) some = F16 k a0 := by kernel_rfl

noncomputable def F17.S : FSem := ⟨9, [.imm (.pair (.sl (.pair I6 (.pair I6 (.pair I6 (.sl I6))))) (.pair (.sl (.pair I6 (.pair I6 (.pair I6 (.pair .bool (.pair (.pair I6 I6) (.pair I6 (.pair I6 (.pair (.sl I6) (.pair (.sl I6) (.pair (.sl I6) (.pair I6 (.pair I6 (.pair (.sl (.pair I6 (.sl I6))) (.pair (.sl (.pair I6 (.sl I6))) (.pair I6 (.pair (.sl (.pair I6 I6)) I6))))))))))))))))) (.pair (.sl I6) I6)))], [(.pair (.sl (.pair I6 (.pair I6 (.pair I6 (.sl I6))))) (.pair (.ow (.pair I6 (.pair I6 (.pair I6 (.pair .bool (.pair (.pair I6 I6) (.pair I6 (.pair I6 (.pair (.sl I6) (.pair (.sl I6) (.pair (.sl I6) (.pair I6 (.pair I6 (.pair (.sl (.pair I6 (.sl I6))) (.pair (.sl (.pair I6 (.sl I6))) (.pair I6 (.pair (.sl (.pair I6 I6)) I6))))))))))))))))) (.pair (.sl I6) I6)))], fun k x => F17 k x.1⟩
noncomputable def F17.C : Ctx := ⟨tis, etys, [], [0, 1, 2], [], 19, [18]⟩
theorem F17.eq (k : Nat) (a0 : (List (Int × Int × Int × List Int)) × (List (Int × Int × Int × Bool × (Int × Int) × Int × Int × (List Int) × (List Int) × (List Int) × Int × Int × (List (Int × List Int)) × (List (Int × List Int)) × Int × (List (Int × Int)) × Int)) × (List Int) × Int) :
    evF F17.C k [] Proofs.Try.f9 [.imm (.pair (.sl (.pair I6 (.pair I6 (.pair I6 (.sl I6))))) (.pair (.sl (.pair I6 (.pair I6 (.pair I6 (.pair .bool (.pair (.pair I6 I6) (.pair I6 (.pair I6 (.pair (.sl I6) (.pair (.sl I6) (.pair (.sl I6) (.pair I6 (.pair I6 (.pair (.sl (.pair I6 (.sl I6))) (.pair (.sl (.pair I6 (.sl I6))) (.pair I6 (.pair (.sl (.pair I6 I6)) I6))))))))))))))))) (.pair (.sl I6) I6)))] [(.pair (.sl (.pair I6 (.pair I6 (.pair I6 (.sl I6))))) (.pair (.ow (.pair I6 (.pair I6 (.pair I6 (.pair .bool (.pair (.pair I6 I6) (.pair I6 (.pair I6 (.pair (.sl I6) (.pair (.sl I6) (.pair (.sl I6) (.pair I6 (.pair I6 (.pair (.sl (.pair I6 (.sl I6))) (.pair (.sl (.pair I6 (.sl I6))) (.pair I6 (.pair (.sl (.pair I6 I6)) I6))))))))))))))))) (.pair (.sl I6) I6)))] (a0, ()) some = F17 k a0 := by kernel_rfl

noncomputable def F18.S : FSem := ⟨35, [.imm (.sl I6), .imm I6], [I6], fun k x => F18 k x.1 x.2.1⟩
noncomputable def F18.C : Ctx := ⟨tis, etys, [], [0, 1, 4, 5, 7, 8, 9, 16], [], 19, []⟩
noncomputable def F18.L0 {R : Type} (k : Nat) : LC R := ⟨0, ⟨[(0, .val (.sl I6)), (1, .val I6), (7, .val I6), (8, .val I6)], []⟩, [(.ret, ⟨[(4, .val I6)], []⟩), (.ex 0, ⟨[], []⟩)], fun x e => F18.loop0 k k x.1.1 x.1.2.1 x.1.2.2.1 x.1.2.2.2.1 (fun u0 => e (.inl ((u0, ()), ()))) (fun _ => e (.inr (((), ()))))⟩
theorem F18.r0 {R : Type} (k j : Nat) (s0 : List Int) (s1 : Int) (s7 : Int) (s8 : Int) (e : Outs (F18.L0 (R := R) k).outs → Option R) :
    evRound F18.C k [] (F18.L0 (R := R) k).inn (F18.L0 (R := R) k).outs (loopOf Proofs.Try.f35 0) 1 ((s0, s1, s7, s8, ()), ()) (fun x => F18.loop0 k j x.1.1 x.1.2.1 x.1.2.2.1 x.1.2.2.2.1 (fun u0 => e (.inl ((u0, ()), ()))) (fun _ => e (.inr (((), ()))))) e =
    F18.loop0 k (j + 1) s0 s1 s7 s8 (fun u0 => e (.inl ((u0, ()), ()))) (fun _ => e (.inr (((), ())))) := by kernel_rfl
theorem F18.eq (k : Nat) (a0 : List Int) (a1 : Int) :
    evF F18.C k [F18.L0 k] Proofs.Try.f35 [.imm (.sl I6), .imm I6] [I6] (a0, a1, ()) some = F18 k a0 a1 := by kernel_rfl

noncomputable def F19.S : FSem := ⟨28, [.imm (.sl I6), .imm I6], [.bool], fun k x => F19 k x.1 x.2.1⟩
noncomputable def F19.C : Ctx := ⟨tis, etys, [F18.S], [0, 1, 4], [], 9, []⟩
theorem F19.eq (k : Nat) (a0 : List Int) (a1 : Int) :
    evF F19.C k [] Proofs.Try.f28 [.imm (.sl I6), .imm I6] [.bool] (a0, a1, ()) some = F19 k a0 a1 := by kernel_rfl

noncomputable def F20.S : FSem := ⟨27, [.imm I6, .bor (.ow I6) true], [.bool], fun k x => F20 k x.1 x.2.1⟩
noncomputable def F20.C : Ctx := ⟨tis, etys, [F19.S], [0, 1, 3], [1], 7, []⟩
theorem F20.eq (k : Nat) (a0 : Int) (a1 : List Int) :
    evF F20.C k [] Proofs.Try.f27 [.imm I6, .bor (.ow I6) true] [.bool] (a0, a1, ()) some = F20 k a0 a1 := by kernel_rfl

noncomputable def F21.S : FSem := ⟨23, [.imm (.sl I6), .clo 27 1, .bor (.ow I6) true], [I6], fun k x => F21 k x.1 x.2.1⟩
noncomputable def F21.C : Ctx := ⟨tis, etys, [F20.S], [0, 1, 4, 5, 7, 8, 9, 16], [1], 19, []⟩
noncomputable def F21.L0 {R : Type} (k : Nat) : LC R := ⟨0, ⟨[(0, .val (.sl I6)), (1, .fn 27 [0]), (7, .val I6), (8, .val I6)], [.box (some (.ow I6)) [(.ow I6)]]⟩, [(.ret, ⟨[(1, .fn 27 [0]), (4, .val I6)], [.box (some (.ow I6)) [(.ow I6)]]⟩), (.ex 0, ⟨[(1, .fn 27 [0])], [.box (some (.ow I6)) [(.ow I6)]]⟩)], fun x e => F21.loop0 k k x.1.1 x.1.2.1 x.1.2.2.1 x.2.1.1 (fun u0 u1 => e (.inl ((u0, ()), ((u1, ()), ())))) (fun u0 => e (.inr (((), ((u0, ()), ())))))⟩
theorem F21.r0 {R : Type} (k j : Nat) (s0 : List Int) (s7 : Int) (s8 : Int) (b1010_0 : List Int) (e : Outs (F21.L0 (R := R) k).outs → Option R) :
    evRound F21.C k [] (F21.L0 (R := R) k).inn (F21.L0 (R := R) k).outs (loopOf Proofs.Try.f23 0) 1 ((s0, s7, s8, ()), ((b1010_0, ()), ())) (fun x => F21.loop0 k j x.1.1 x.1.2.1 x.1.2.2.1 x.2.1.1 (fun u0 u1 => e (.inl ((u0, ()), ((u1, ()), ())))) (fun u0 => e (.inr (((), ((u0, ()), ())))))) e =
    F21.loop0 k (j + 1) s0 s7 s8 b1010_0 (fun u0 u1 => e (.inl ((u0, ()), ((u1, ()), ())))) (fun u0 => e (.inr (((), ((u0, ()), ()))))) := by kernel_rfl
theorem F21.eq (k : Nat) (a0 : List Int) (a1 : List Int) :
    evF F21.C k [F21.L0 k] Proofs.Try.f23 [.imm (.sl I6), .clo 27 1, .bor (.ow I6) true] [I6] (a0, a1, ()) some = F21 k a0 a1 := by kernel_rfl

noncomputable def F22.S : FSem := ⟨17, [.imm (.sl I6), .clo 27 1, .bor (.ow I6) true], [.bool], fun k x => F22 k x.1 x.2.1⟩
noncomputable def F22.C : Ctx := ⟨tis, etys, [F21.S], [0, 1, 4], [1], 9, []⟩
theorem F22.eq (k : Nat) (a0 : List Int) (a1 : List Int) :
    evF F22.C k [] Proofs.Try.f17 [.imm (.sl I6), .clo 27 1, .bor (.ow I6) true] [.bool] (a0, a1, ()) some = F22 k a0 a1 := by kernel_rfl

noncomputable def F23.S : FSem := ⟨24, [.imm (.pair (.sl (.pair I6 (.pair I6 (.pair I6 (.sl I6))))) (.pair (.sl (.pair I6 (.pair I6 (.pair I6 (.pair .bool (.pair (.pair I6 I6) (.pair I6 (.pair I6 (.pair (.sl I6) (.pair (.sl I6) (.pair (.sl I6) (.pair I6 (.pair I6 (.pair (.sl (.pair I6 (.sl I6))) (.pair (.sl (.pair I6 (.sl I6))) (.pair I6 (.pair (.sl (.pair I6 I6)) I6))))))))))))))))) (.pair (.sl I6) I6))), .imm I6], [(.mp I6)], fun k x => F23 k x.1 x.2.1⟩
noncomputable def F23.C : Ctx := ⟨tis, etys, [F11.S, F22.S], [0, 1, 2, 4, 5, 6, 7, 8, 9, 10, 11, 13, 19, 23, 24, 25, 26, 41, 45], [], 56, []⟩
noncomputable def F23.L1 {R : Type} (k : Nat) : LC R := ⟨2, ⟨[(2, .ptr 0), (5, .map 1), (6, .ptr 2), (7, .val I6), (8, .arr 3), (23, .val (.sl (.pair I6 (.pair I6 (.pair I6 (.pair .bool (.pair (.pair I6 I6) (.pair I6 (.pair I6 (.pair (.sl I6) (.pair (.sl I6) (.pair (.sl I6) (.pair I6 (.pair I6 (.pair (.sl (.pair I6 (.sl I6))) (.pair (.sl (.pair I6 (.sl I6))) (.pair I6 (.pair (.sl (.pair I6 I6)) I6)))))))))))))))))), (24, .val I6), (25, .val I6)], [.box (some (.pair (.sl (.pair I6 (.pair I6 (.pair I6 (.sl I6))))) (.pair (.sl (.pair I6 (.pair I6 (.pair I6 (.pair .bool (.pair (.pair I6 I6) (.pair I6 (.pair I6 (.pair (.sl I6) (.pair (.sl I6) (.pair (.sl I6) (.pair I6 (.pair I6 (.pair (.sl (.pair I6 (.sl I6))) (.pair (.sl (.pair I6 (.sl I6))) (.pair I6 (.pair (.sl (.pair I6 I6)) I6))))))))))))))))) (.pair (.sl I6) I6)))) [(.sl (.pair I6 (.pair I6 (.pair I6 (.sl I6))))), (.sl (.pair I6 (.pair I6 (.pair I6 (.pair .bool (.pair (.pair I6 I6) (.pair I6 (.pair I6 (.pair (.sl I6) (.pair (.sl I6) (.pair (.sl I6) (.pair I6 (.pair I6 (.pair (.sl (.pair I6 (.sl I6))) (.pair (.sl (.pair I6 (.sl I6))) (.pair I6 (.pair (.sl (.pair I6 I6)) I6))))))))))))))))), (.sl I6), I6], .mp I6, .box (some (.sl I6)) [(.ow I6)], .arr I6]⟩, [(.ex 2, ⟨[(2, .ptr 0), (5, .map 1), (6, .ptr 2), (8, .arr 3)], [.box (some (.pair (.sl (.pair I6 (.pair I6 (.pair I6 (.sl I6))))) (.pair (.sl (.pair I6 (.pair I6 (.pair I6 (.pair .bool (.pair (.pair I6 I6) (.pair I6 (.pair I6 (.pair (.sl I6) (.pair (.sl I6) (.pair (.sl I6) (.pair I6 (.pair I6 (.pair (.sl (.pair I6 (.sl I6))) (.pair (.sl (.pair I6 (.sl I6))) (.pair I6 (.pair (.sl (.pair I6 I6)) I6))))))))))))))))) (.pair (.sl I6) I6)))) [(.sl (.pair I6 (.pair I6 (.pair I6 (.sl I6))))), (.sl (.pair I6 (.pair I6 (.pair I6 (.pair .bool (.pair (.pair I6 I6) (.pair I6 (.pair I6 (.pair (.sl I6) (.pair (.sl I6) (.pair (.sl I6) (.pair I6 (.pair I6 (.pair (.sl (.pair I6 (.sl I6))) (.pair (.sl (.pair I6 (.sl I6))) (.pair I6 (.pair (.sl (.pair I6 I6)) I6))))))))))))))))), (.sl I6), I6], .mp I6, .box (some (.sl I6)) [(.ow I6)], .arr I6]⟩)], fun x e => F23.loop1 k k x.1.1 x.1.2.1 x.1.2.2.1 x.1.2.2.2.1 x.2.1.1 x.2.1.2.1 x.2.1.2.2.1 x.2.1.2.2.2.1 x.2.2.1 x.2.2.2.1.1 x.2.2.2.2.1 (fun u0 u1 u2 u3 u4 u5 u6 => e ((), ((u0, u1, u2, u3, ()), u4, (u5, ()), u6, ())))⟩
theorem F23.r1 {R : Type} (k j : Nat) (s7 : Int) (s23 : List (Int × Int × Int × Bool × (Int × Int) × Int × Int × (List Int) × (List Int) × (List Int) × Int × Int × (List (Int × List Int)) × (List (Int × List Int)) × Int × (List (Int × Int)) × Int)) (s24 : Int) (s25 : Int) (b2_0 : List (Int × Int × Int × List Int)) (b2_1 : List (Int × Int × Int × Bool × (Int × Int) × Int × Int × (List Int) × (List Int) × (List Int) × Int × Int × (List (Int × List Int)) × (List (Int × List Int)) × Int × (List (Int × Int)) × Int)) (b2_2 : List Int) (b2_3 : Int) (m5 : List (Int × Int)) (b6_0 : List Int) (l8 : List Int) (e : Outs (F23.L1 (R := R) k).outs → Option R) :
    evRound F23.C k [] (F23.L1 (R := R) k).inn (F23.L1 (R := R) k).outs (loopOf Proofs.Try.f24 1) 2 ((s7, s23, s24, s25, ()), ((b2_0, b2_1, b2_2, b2_3, ()), m5, (b6_0, ()), l8, ())) (fun x => F23.loop1 k j x.1.1 x.1.2.1 x.1.2.2.1 x.1.2.2.2.1 x.2.1.1 x.2.1.2.1 x.2.1.2.2.1 x.2.1.2.2.2.1 x.2.2.1 x.2.2.2.1.1 x.2.2.2.2.1 (fun u0 u1 u2 u3 u4 u5 u6 => e ((), ((u0, u1, u2, u3, ()), u4, (u5, ()), u6, ())))) e =
    F23.loop1 k (j + 1) s7 s23 s24 s25 b2_0 b2_1 b2_2 b2_3 m5 b6_0 l8 (fun u0 u1 u2 u3 u4 u5 u6 => e ((), ((u0, u1, u2, u3, ()), u4, (u5, ()), u6, ()))) := by kernel_rfl
noncomputable def F23.L0 {R : Type} (k : Nat) : LC R := ⟨0, ⟨[(2, .ptr 0), (5, .map 1), (6, .ptr 2), (7, .val I6)], [.box (some (.pair (.sl (.pair I6 (.pair I6 (.pair I6 (.sl I6))))) (.pair (.sl (.pair I6 (.pair I6 (.pair I6 (.pair .bool (.pair (.pair I6 I6) (.pair I6 (.pair I6 (.pair (.sl I6) (.pair (.sl I6) (.pair (.sl I6) (.pair I6 (.pair I6 (.pair (.sl (.pair I6 (.sl I6))) (.pair (.sl (.pair I6 (.sl I6))) (.pair I6 (.pair (.sl (.pair I6 I6)) I6))))))))))))))))) (.pair (.sl I6) I6)))) [(.sl (.pair I6 (.pair I6 (.pair I6 (.sl I6))))), (.sl (.pair I6 (.pair I6 (.pair I6 (.pair .bool (.pair (.pair I6 I6) (.pair I6 (.pair I6 (.pair (.sl I6) (.pair (.sl I6) (.pair (.sl I6) (.pair I6 (.pair I6 (.pair (.sl (.pair I6 (.sl I6))) (.pair (.sl (.pair I6 (.sl I6))) (.pair I6 (.pair (.sl (.pair I6 I6)) I6))))))))))))))))), (.sl I6), I6], .mp I6, .box (some (.sl I6)) [(.ow I6)]]⟩, [(.ex 0, ⟨[(5, .map 0)], [.mp I6]⟩)], fun x e => F23.loop0 k k x.1.1 x.2.1.1 x.2.1.2.1 x.2.1.2.2.1 x.2.1.2.2.2.1 x.2.2.1 x.2.2.2.1.1 (fun u0 => e ((), (u0, ())))⟩
theorem F23.r0 {R : Type} (k j : Nat) (s7 : Int) (b2_0 : List (Int × Int × Int × List Int)) (b2_1 : List (Int × Int × Int × Bool × (Int × Int) × Int × Int × (List Int) × (List Int) × (List Int) × Int × Int × (List (Int × List Int)) × (List (Int × List Int)) × Int × (List (Int × Int)) × Int)) (b2_2 : List Int) (b2_3 : Int) (m5 : List (Int × Int)) (b6_0 : List Int) (e : Outs (F23.L0 (R := R) k).outs → Option R) :
    evRound F23.C k [F23.L1 k] (F23.L0 (R := R) k).inn (F23.L0 (R := R) k).outs (loopOf Proofs.Try.f24 0) 1 ((s7, ()), ((b2_0, b2_1, b2_2, b2_3, ()), m5, (b6_0, ()), ())) (fun x => F23.loop0 k j x.1.1 x.2.1.1 x.2.1.2.1 x.2.1.2.2.1 x.2.1.2.2.2.1 x.2.2.1 x.2.2.2.1.1 (fun u0 => e ((), (u0, ())))) e =
    F23.loop0 k (j + 1) s7 b2_0 b2_1 b2_2 b2_3 m5 b6_0 (fun u0 => e ((), (u0, ()))) := by kernel_rfl
theorem F23.eq (k : Nat) (a0 : (List (Int × Int × Int × List Int)) × (List (Int × Int × Int × Bool × (Int × Int) × Int × Int × (List Int) × (List Int) × (List Int) × Int × Int × (List (Int × List Int)) × (List (Int × List Int)) × Int × (List (Int × Int)) × Int)) × (List Int) × Int) (a1 : Int) :
    evF F23.C k [F23.L1 k, F23.L0 k] Proofs.Try.f24 [.imm (.pair (.sl (.pair I6 (.pair I6 (.pair I6 (.sl I6))))) (.pair (.sl (.pair I6 (.pair I6 (.pair I6 (.pair .bool (.pair (.pair I6 I6) (.pair I6 (.pair I6 (.pair (.sl I6) (.pair (.sl I6) (.pair (.sl I6) (.pair I6 (.pair I6 (.pair (.sl (.pair I6 (.sl I6))) (.pair (.sl (.pair I6 (.sl I6))) (.pair I6 (.pair (.sl (.pair I6 I6)) I6))))))))))))))))) (.pair (.sl I6) I6))), .imm I6] [(.mp I6)] (a0, a1, ()) some = F23 k a0 a1 := by kernel_rfl

noncomputable def F24.S : FSem := ⟨19, [.imm (.pair (.sl (.pair I6 (.pair I6 (.pair I6 (.sl I6))))) (.pair (.sl (.pair I6 (.pair I6 (.pair I6 (.pair .bool (.pair (.pair I6 I6) (.pair I6 (.pair I6 (.pair (.sl I6) (.pair (.sl I6) (.pair (.sl I6) (.pair I6 (.pair I6 (.pair (.sl (.pair I6 (.sl I6))) (.pair (.sl (.pair I6 (.sl I6))) (.pair I6 (.pair (.sl (.pair I6 I6)) I6))))))))))))))))) (.pair (.sl I6) I6)))], [(.ow I6)], fun k x => F24 k x.1⟩
noncomputable def F24.C : Ctx := ⟨tis, etys, [F16.S, F23.S, F11.S], [0, 1, 2, 4, 5, 6, 7, 8, 9, 10, 11, 12, 14, 15, 16, 23, 35, 58, 64, 82, 83, 84, 85, 113], [], 121, []⟩
noncomputable def F24.L2 {R : Type} (k : Nat) : LC R := ⟨4, ⟨[(6, .val I6), (7, .map 0), (10, .val I6), (12, .val I6), (82, .arr 1), (83, .val I6), (84, .val I6)], [.mp I6, .arr I6]⟩, [(.ex 4, ⟨[(7, .map 0), (12, .val I6)], [.mp I6]⟩)], fun x e => F24.loop2 k k x.1.1 x.1.2.1 x.1.2.2.1 x.1.2.2.2.1 x.1.2.2.2.2.1 x.2.1 x.2.2.1 (fun u0 u1 => e ((u0, ()), (u1, ())))⟩
theorem F24.r2 {R : Type} (k j : Nat) (s6 : Int) (s10 : Int) (s12 : Int) (s83 : Int) (s84 : Int) (m7 : List (Int × Int)) (l82 : List Int) (e : Outs (F24.L2 (R := R) k).outs → Option R) :
    evRound F24.C k [] (F24.L2 (R := R) k).inn (F24.L2 (R := R) k).outs (loopOf Proofs.Try.f19 2) 3 ((s6, s10, s12, s83, s84, ()), (m7, l82, ())) (fun x => F24.loop2 k j x.1.1 x.1.2.1 x.1.2.2.1 x.1.2.2.2.1 x.1.2.2.2.2.1 x.2.1 x.2.2.1 (fun u0 u1 => e ((u0, ()), (u1, ())))) e =
    F24.loop2 k (j + 1) s6 s10 s12 s83 s84 m7 l82 (fun u0 u1 => e ((u0, ()), (u1, ()))) := by kernel_rfl
noncomputable def F24.L1 {R : Type} (k : Nat) : LC R := ⟨2, ⟨[(1, .ptr 0), (5, .arz 1), (6, .val I6), (7, .map 2), (10, .val I6)], [.box (some (.pair (.sl (.pair I6 (.pair I6 (.pair I6 (.sl I6))))) (.pair (.sl (.pair I6 (.pair I6 (.pair I6 (.pair .bool (.pair (.pair I6 I6) (.pair I6 (.pair I6 (.pair (.sl I6) (.pair (.sl I6) (.pair (.sl I6) (.pair I6 (.pair I6 (.pair (.sl (.pair I6 (.sl I6))) (.pair (.sl (.pair I6 (.sl I6))) (.pair I6 (.pair (.sl (.pair I6 I6)) I6))))))))))))))))) (.pair (.sl I6) I6)))) [(.sl (.pair I6 (.pair I6 (.pair I6 (.sl I6))))), (.sl (.pair I6 (.pair I6 (.pair I6 (.pair .bool (.pair (.pair I6 I6) (.pair I6 (.pair I6 (.pair (.sl I6) (.pair (.sl I6) (.pair (.sl I6) (.pair I6 (.pair I6 (.pair (.sl (.pair I6 (.sl I6))) (.pair (.sl (.pair I6 (.sl I6))) (.pair I6 (.pair (.sl (.pair I6 I6)) I6))))))))))))))))), (.sl I6), I6], .arr I6, .mp I6]⟩, [(.ex 2, ⟨[(1, .ptr 0), (5, .arz 1)], [.box (some (.pair (.sl (.pair I6 (.pair I6 (.pair I6 (.sl I6))))) (.pair (.sl (.pair I6 (.pair I6 (.pair I6 (.pair .bool (.pair (.pair I6 I6) (.pair I6 (.pair I6 (.pair (.sl I6) (.pair (.sl I6) (.pair (.sl I6) (.pair I6 (.pair I6 (.pair (.sl (.pair I6 (.sl I6))) (.pair (.sl (.pair I6 (.sl I6))) (.pair I6 (.pair (.sl (.pair I6 I6)) I6))))))))))))))))) (.pair (.sl I6) I6)))) [(.sl (.pair I6 (.pair I6 (.pair I6 (.sl I6))))), (.sl (.pair I6 (.pair I6 (.pair I6 (.pair .bool (.pair (.pair I6 I6) (.pair I6 (.pair I6 (.pair (.sl I6) (.pair (.sl I6) (.pair (.sl I6) (.pair I6 (.pair I6 (.pair (.sl (.pair I6 (.sl I6))) (.pair (.sl (.pair I6 (.sl I6))) (.pair I6 (.pair (.sl (.pair I6 I6)) I6))))))))))))))))), (.sl I6), I6], .arr I6]⟩)], fun x e => F24.loop1 k k x.1.1 x.1.2.1 x.2.1.1 x.2.1.2.1 x.2.1.2.2.1 x.2.1.2.2.2.1 x.2.2.1 x.2.2.2.1 (fun u0 u1 u2 u3 u4 => e ((), ((u0, u1, u2, u3, ()), u4, ())))⟩
theorem F24.r1 {R : Type} (k j : Nat) (s6 : Int) (s10 : Int) (b1_0 : List (Int × Int × Int × List Int)) (b1_1 : List (Int × Int × Int × Bool × (Int × Int) × Int × Int × (List Int) × (List Int) × (List Int) × Int × Int × (List (Int × List Int)) × (List (Int × List Int)) × Int × (List (Int × Int)) × Int)) (b1_2 : List Int) (b1_3 : Int) (l5 : List Int) (m7 : List (Int × Int)) (e : Outs (F24.L1 (R := R) k).outs → Option R) :
    evRound F24.C k [F24.L2 k] (F24.L1 (R := R) k).inn (F24.L1 (R := R) k).outs (loopOf Proofs.Try.f19 1) 2 ((s6, s10, ()), ((b1_0, b1_1, b1_2, b1_3, ()), l5, m7, ())) (fun x => F24.loop1 k j x.1.1 x.1.2.1 x.2.1.1 x.2.1.2.1 x.2.1.2.2.1 x.2.1.2.2.2.1 x.2.2.1 x.2.2.2.1 (fun u0 u1 u2 u3 u4 => e ((), ((u0, u1, u2, u3, ()), u4, ())))) e =
    F24.loop1 k (j + 1) s6 s10 b1_0 b1_1 b1_2 b1_3 l5 m7 (fun u0 u1 u2 u3 u4 => e ((), ((u0, u1, u2, u3, ()), u4, ()))) := by kernel_rfl
noncomputable def F24.L0 {R : Type} (k : Nat) : LC R := ⟨0, ⟨[(1, .ptr 0), (5, .arz 1), (6, .val I6)], [.box (some (.pair (.sl (.pair I6 (.pair I6 (.pair I6 (.sl I6))))) (.pair (.sl (.pair I6 (.pair I6 (.pair I6 (.pair .bool (.pair (.pair I6 I6) (.pair I6 (.pair I6 (.pair (.sl I6) (.pair (.sl I6) (.pair (.sl I6) (.pair I6 (.pair I6 (.pair (.sl (.pair I6 (.sl I6))) (.pair (.sl (.pair I6 (.sl I6))) (.pair I6 (.pair (.sl (.pair I6 I6)) I6))))))))))))))))) (.pair (.sl I6) I6)))) [(.sl (.pair I6 (.pair I6 (.pair I6 (.sl I6))))), (.sl (.pair I6 (.pair I6 (.pair I6 (.pair .bool (.pair (.pair I6 I6) (.pair I6 (.pair I6 (.pair (.sl I6) (.pair (.sl I6) (.pair (.sl I6) (.pair I6 (.pair I6 (.pair (.sl (.pair I6 (.sl I6))) (.pair (.sl (.pair I6 (.sl I6))) (.pair I6 (.pair (.sl (.pair I6 I6)) I6))))))))))))))))), (.sl I6), I6], .arr I6]⟩, [(.ex 0, ⟨[(5, .arz 0)], [.arr I6]⟩)], fun x e => F24.loop0 k k x.1.1 x.2.1.1 x.2.1.2.1 x.2.1.2.2.1 x.2.1.2.2.2.1 x.2.2.1 (fun u0 => e ((), (u0, ())))⟩
theorem F24.r0 {R : Type} (k j : Nat) (s6 : Int) (b1_0 : List (Int × Int × Int × List Int)) (b1_1 : List (Int × Int × Int × Bool × (Int × Int) × Int × Int × (List Int) × (List Int) × (List Int) × Int × Int × (List (Int × List Int)) × (List (Int × List Int)) × Int × (List (Int × Int)) × Int)) (b1_2 : List Int) (b1_3 : Int) (l5 : List Int) (e : Outs (F24.L0 (R := R) k).outs → Option R) :
    evRound F24.C k [F24.L2 k, F24.L1 k] (F24.L0 (R := R) k).inn (F24.L0 (R := R) k).outs (loopOf Proofs.Try.f19 0) 1 ((s6, ()), ((b1_0, b1_1, b1_2, b1_3, ()), l5, ())) (fun x => F24.loop0 k j x.1.1 x.2.1.1 x.2.1.2.1 x.2.1.2.2.1 x.2.1.2.2.2.1 x.2.2.1 (fun u0 => e ((), (u0, ())))) e =
    F24.loop0 k (j + 1) s6 b1_0 b1_1 b1_2 b1_3 l5 (fun u0 => e ((), (u0, ()))) := by kernel_rfl
theorem F24.eq (k : Nat) (a0 : (List (Int × Int × Int × List Int)) × (List (Int × Int × Int × Bool × (Int × Int) × Int × Int × (List Int) × (List Int) × (List Int) × Int × Int × (List (Int × List Int)) × (List (Int × List Int)) × Int × (List (Int × Int)) × Int)) × (List Int) × Int) :
    evF F24.C k [F24.L2 k, F24.L1 k, F24.L0 k] Proofs.Try.f19 [.imm (.pair (.sl (.pair I6 (.pair I6 (.pair I6 (.sl I6))))) (.pair (.sl (.pair I6 (.pair I6 (.pair I6 (.pair .bool (.pair (.pair I6 I6) (.pair I6 (.pair I6 (.pair (.sl I6) (.pair (.sl I6) (.pair (.sl I6) (.pair I6 (.pair I6 (.pair (.sl (.pair I6 (.sl I6))) (.pair (.sl (.pair I6 (.sl I6))) (.pair I6 (.pair (.sl (.pair I6 I6)) I6))))))))))))))))) (.pair (.sl I6) I6)))] [(.ow I6)] (a0, ()) some = F24 k a0 := by kernel_rfl

noncomputable def F25.S : FSem := ⟨36, [.imm I6, .imm I6, .imm I6], [I6, .bool], fun k x => F25 k x.1 x.2.1 x.2.2.1⟩
noncomputable def F25.C : Ctx := ⟨tis, etys, [], [0, 1, 2, 6, 7, 28], [], 32, []⟩
theorem F25.eq (k : Nat) (a0 : Int) (a1 : Int) (a2 : Int) :
    evF F25.C k [] Proofs.Try.f36 [.imm I6, .imm I6, .imm I6] [I6, .bool] (a0, a1, a2, ()) some = F25 k a0 a1 a2 := by kernel_rfl

noncomputable def F26.S : FSem := ⟨29, [.imm I6, .imm I6, .imm I6], [.bool], fun k x => F26 k x.1 x.2.1 x.2.2.1⟩
noncomputable def F26.C : Ctx := ⟨tis, etys, [F25.S], [0, 1, 2, 6, 8], [], 40, []⟩
theorem F26.eq (k : Nat) (a0 : Int) (a1 : Int) (a2 : Int) :
    evF F26.C k [] Proofs.Try.f29 [.imm I6, .imm I6, .imm I6] [.bool] (a0, a1, a2, ()) some = F26 k a0 a1 a2 := by kernel_rfl

noncomputable def F27.S : FSem := ⟨25, [.imm (.pair I6 (.pair I6 (.pair I6 (.sl I6))))], [.bool], fun k x => F27 k x.1⟩
noncomputable def F27.C : Ctx := ⟨tis, etys, [F26.S], [0, 1, 2, 4, 23, 25, 26, 27, 28, 38], [], 40, []⟩
noncomputable def F27.L0 {R : Type} (k : Nat) : LC R := ⟨0, ⟨[(1, .ptr 0), (25, .val (.sl I6)), (26, .val I6), (27, .val I6)], [.box (some (.pair I6 (.pair I6 (.pair I6 (.sl I6))))) [I6, I6, I6, (.sl I6)]]⟩, [(.ret, ⟨[(2, .val .bool)], []⟩), (.ex 0, ⟨[], []⟩)], fun x e => F27.loop0 k k x.1.1 x.1.2.1 x.1.2.2.1 x.2.1.1 x.2.1.2.1 x.2.1.2.2.1 x.2.1.2.2.2.1 (fun u0 => e (.inl ((u0, ()), ()))) (fun _ => e (.inr (((), ()))))⟩
theorem F27.r0 {R : Type} (k j : Nat) (s25 : List Int) (s26 : Int) (s27 : Int) (b1_0 : Int) (b1_1 : Int) (b1_2 : Int) (b1_3 : List Int) (e : Outs (F27.L0 (R := R) k).outs → Option R) :
    evRound F27.C k [] (F27.L0 (R := R) k).inn (F27.L0 (R := R) k).outs (loopOf Proofs.Try.f25 0) 1 ((s25, s26, s27, ()), ((b1_0, b1_1, b1_2, b1_3, ()), ())) (fun x => F27.loop0 k j x.1.1 x.1.2.1 x.1.2.2.1 x.2.1.1 x.2.1.2.1 x.2.1.2.2.1 x.2.1.2.2.2.1 (fun u0 => e (.inl ((u0, ()), ()))) (fun _ => e (.inr (((), ()))))) e =
    F27.loop0 k (j + 1) s25 s26 s27 b1_0 b1_1 b1_2 b1_3 (fun u0 => e (.inl ((u0, ()), ()))) (fun _ => e (.inr (((), ())))) := by kernel_rfl
theorem F27.eq (k : Nat) (a0 : Int × Int × Int × List Int) :
    evF F27.C k [F27.L0 k] Proofs.Try.f25 [.imm (.pair I6 (.pair I6 (.pair I6 (.sl I6))))] [.bool] (a0, ()) some = F27 k a0 := by kernel_rfl

noncomputable def F28.S : FSem := ⟨37, [.imm I6, .imm I6, .imm I6], [.bool], fun k x => F28 k x.1 x.2.1 x.2.2.1⟩
noncomputable def F28.C : Ctx := ⟨tis, etys, [], [0, 1, 2, 6], [], 15, []⟩
theorem F28.eq (k : Nat) (a0 : Int) (a1 : Int) (a2 : Int) :
    evF F28.C k [] Proofs.Try.f37 [.imm I6, .imm I6, .imm I6] [.bool] (a0, a1, a2, ()) some = F28 k a0 a1 a2 := by kernel_rfl

noncomputable def F29.S : FSem := ⟨32, [.imm I6], [.bool], fun k x => F29 k x.1⟩
noncomputable def F29.C : Ctx := ⟨tis, etys, [], [0, 2], [], 13, []⟩
theorem F29.eq (k : Nat) (a0 : Int) :
    evF F29.C k [] Proofs.Try.f32 [.imm I6] [.bool] (a0, ()) some = F29 k a0 := by kernel_rfl

noncomputable def F30.S : FSem := ⟨38, [.imm .bool, .imm (.sl I6), .bor I6 true], [.bool], fun k x => F30 k x.1 x.2.1 x.2.2.1⟩
noncomputable def F30.C : Ctx := ⟨tis, etys, [], [0, 1, 2, 5, 7, 8, 9, 10, 11, 16], [2], 19, []⟩
noncomputable def F30.L0 {R : Type} (k : Nat) : LC R := ⟨0, ⟨[(2, .ptr 0), (8, .val (.sl I6)), (9, .val I6), (10, .val I6)], [.box (some I6) [I6]]⟩, [(.ret, ⟨[(2, .ptr 0), (5, .val .bool)], [.box (some I6) [I6]]⟩), (.ex 0, ⟨[(2, .ptr 0)], [.box (some I6) [I6]]⟩)], fun x e => F30.loop0 k k x.1.1 x.1.2.1 x.1.2.2.1 x.2.1.1 (fun u0 u1 => e (.inl ((u0, ()), ((u1, ()), ())))) (fun u0 => e (.inr (((), ((u0, ()), ())))))⟩
theorem F30.r0 {R : Type} (k j : Nat) (s8 : List Int) (s9 : Int) (s10 : Int) (b2_0 : Int) (e : Outs (F30.L0 (R := R) k).outs → Option R) :
    evRound F30.C k [] (F30.L0 (R := R) k).inn (F30.L0 (R := R) k).outs (loopOf Proofs.Try.f38 0) 1 ((s8, s9, s10, ()), ((b2_0, ()), ())) (fun x => F30.loop0 k j x.1.1 x.1.2.1 x.1.2.2.1 x.2.1.1 (fun u0 u1 => e (.inl ((u0, ()), ((u1, ()), ())))) (fun u0 => e (.inr (((), ((u0, ()), ())))))) e =
    F30.loop0 k (j + 1) s8 s9 s10 b2_0 (fun u0 u1 => e (.inl ((u0, ()), ((u1, ()), ())))) (fun u0 => e (.inr (((), ((u0, ()), ()))))) := by kernel_rfl
theorem F30.eq (k : Nat) (a0 : Bool) (a1 : List Int) (a2 : Int) :
    evF F30.C k [F30.L0 k] Proofs.Try.f38 [.imm .bool, .imm (.sl I6), .bor I6 true] [.bool] (a0, a1, a2, ()) some = F30 k a0 a1 a2 := by kernel_rfl

noncomputable def F31.S : FSem := ⟨30, [.imm (.pair I6 (.pair I6 (.pair I6 (.pair .bool (.pair (.pair I6 I6) (.pair I6 (.pair I6 (.pair (.sl I6) (.pair (.sl I6) (.pair (.sl I6) (.pair I6 (.pair I6 (.pair (.sl (.pair I6 (.sl I6))) (.pair (.sl (.pair I6 (.sl I6))) (.pair I6 (.pair (.sl (.pair I6 I6)) I6))))))))))))))))], [.bool], fun k x => F31 k x.1⟩
noncomputable def F31.C : Ctx := ⟨tis, etys, [F28.S, F29.S, F30.S], [0, 1, 2, 3, 4, 18], [], 118, []⟩
noncomputable def F31.J4 {R : Type} (k : Nat) : LC R := ⟨9, ⟨[(1, .ptr 0), (3, .ptr 1)], [.box (some (.pair I6 (.pair I6 (.pair I6 (.pair .bool (.pair (.pair I6 I6) (.pair I6 (.pair I6 (.pair (.sl I6) (.pair (.sl I6) (.pair (.sl I6) (.pair I6 (.pair I6 (.pair (.sl (.pair I6 (.sl I6))) (.pair (.sl (.pair I6 (.sl I6))) (.pair I6 (.pair (.sl (.pair I6 I6)) I6))))))))))))))))) [I6, I6, I6, .bool, I6, I6, I6, I6, (.sl I6), (.sl I6), (.sl I6), I6, I6, (.sl (.pair I6 (.sl I6))), (.sl (.pair I6 (.sl I6))), I6, (.sl (.pair I6 I6)), I6], .box (some I6) [I6]]⟩, [(.ret, ⟨[(2, .val .bool)], []⟩)], fun x e => F31.join4 k x.2.1.1 x.2.1.2.1 x.2.1.2.2.1 x.2.1.2.2.2.1 x.2.1.2.2.2.2.1 x.2.1.2.2.2.2.2.1 x.2.1.2.2.2.2.2.2.1 x.2.1.2.2.2.2.2.2.2.1 x.2.1.2.2.2.2.2.2.2.2.1 x.2.1.2.2.2.2.2.2.2.2.2.1 x.2.1.2.2.2.2.2.2.2.2.2.2.1 x.2.1.2.2.2.2.2.2.2.2.2.2.2.1 x.2.1.2.2.2.2.2.2.2.2.2.2.2.2.1 x.2.1.2.2.2.2.2.2.2.2.2.2.2.2.2.1 x.2.1.2.2.2.2.2.2.2.2.2.2.2.2.2.2.1 x.2.1.2.2.2.2.2.2.2.2.2.2.2.2.2.2.2.1 x.2.1.2.2.2.2.2.2.2.2.2.2.2.2.2.2.2.2.1 x.2.1.2.2.2.2.2.2.2.2.2.2.2.2.2.2.2.2.2.1 x.2.2.1.1 (fun u0 => e ((u0, ()), ()))⟩
theorem F31.q4 {R : Type} (k : Nat) (b1_0 : Int) (b1_1 : Int) (b1_2 : Int) (b1_3 : Bool) (b1_4 : Int) (b1_5 : Int) (b1_6 : Int) (b1_7 : Int) (b1_8 : List Int) (b1_9 : List Int) (b1_10 : List Int) (b1_11 : Int) (b1_12 : Int) (b1_13 : List (Int × List Int)) (b1_14 : List (Int × List Int)) (b1_15 : Int) (b1_16 : List (Int × Int)) (b1_17 : Int) (b3_0 : Int) (e : Outs (F31.J4 (R := R) k).outs → Option R) :
    evOnce F31.C k [] (F31.J4 (R := R) k).inn (F31.J4 (R := R) k).outs (joinOf Proofs.Try.f30 4) 0 ((), ((b1_0, b1_1, b1_2, b1_3, b1_4, b1_5, b1_6, b1_7, b1_8, b1_9, b1_10, b1_11, b1_12, b1_13, b1_14, b1_15, b1_16, b1_17, ()), (b3_0, ()), ())) e =
    F31.join4 k b1_0 b1_1 b1_2 b1_3 b1_4 b1_5 b1_6 b1_7 b1_8 b1_9 b1_10 b1_11 b1_12 b1_13 b1_14 b1_15 b1_16 b1_17 b3_0 (fun u0 => e ((u0, ()), ())) := by kernel_rfl
theorem F31.eq (k : Nat) (a0 : Int × Int × Int × Bool × (Int × Int) × Int × Int × (List Int) × (List Int) × (List Int) × Int × Int × (List (Int × List Int)) × (List (Int × List Int)) × Int × (List (Int × Int)) × Int) :
    evF F31.C k [F31.J4 k] Proofs.Try.f30 [.imm (.pair I6 (.pair I6 (.pair I6 (.pair .bool (.pair (.pair I6 I6) (.pair I6 (.pair I6 (.pair (.sl I6) (.pair (.sl I6) (.pair (.sl I6) (.pair I6 (.pair I6 (.pair (.sl (.pair I6 (.sl I6))) (.pair (.sl (.pair I6 (.sl I6))) (.pair I6 (.pair (.sl (.pair I6 I6)) I6))))))))))))))))] [.bool] (a0, ()) some = F31 k a0 := by kernel_rfl

noncomputable def F32.S : FSem := ⟨31, [.imm (.pair I6 (.pair I6 I6))], [.bool], fun k x => F32 k x.1⟩
noncomputable def F32.C : Ctx := ⟨tis, etys, [F25.S, F28.S], [0, 1, 2, 4], [], 29, []⟩
theorem F32.eq (k : Nat) (a0 : Int × Int × Int) :
    evF F32.C k [] Proofs.Try.f31 [.imm (.pair I6 (.pair I6 I6))] [.bool] (a0, ()) some = F32 k a0 := by kernel_rfl

noncomputable def F33.S : FSem := ⟨33, [.imm (.pair I6 I6), .imm I6], [.bool], fun k x => F33 k x.1 x.2.1⟩
noncomputable def F33.C : Ctx := ⟨tis, etys, [], [0, 1, 2, 4, 6, 7, 14], [], 25, []⟩
theorem F33.eq (k : Nat) (a0 : Int × Int) (a1 : Int) :
    evF F33.C k [] Proofs.Try.f33 [.imm (.pair I6 I6), .imm I6] [.bool] (a0, a1, ()) some = F33 k a0 a1 := by kernel_rfl

noncomputable def F34.S : FSem := ⟨45, [.imm I6], [.bool], fun k x => F34 k x.1⟩
noncomputable def F34.C : Ctx := ⟨tis, etys, [], [0, 2], [], 9, []⟩
theorem F34.eq (k : Nat) (a0 : Int) :
    evF F34.C k [] Proofs.Try.f45 [.imm I6] [.bool] (a0, ()) some = F34 k a0 := by kernel_rfl

noncomputable def F35.S : FSem := ⟨46, [.imm (.sl I6)], [I6], fun k x => F35 k x.1⟩
noncomputable def F35.C : Ctx := ⟨tis, etys, [], [0, 2, 4, 12, 13, 14, 15, 16, 24], [], 26, []⟩
noncomputable def F35.L0 {R : Type} (k : Nat) : LC R := ⟨0, ⟨[(13, .val (.sl I6)), (14, .val I6), (15, .val I6)], []⟩, [(.ret, ⟨[(2, .val I6)], []⟩), (.ex 0, ⟨[], []⟩)], fun x e => F35.loop0 k k x.1.1 x.1.2.1 x.1.2.2.1 (fun u0 => e (.inl ((u0, ()), ()))) (fun _ => e (.inr (((), ()))))⟩
theorem F35.r0 {R : Type} (k j : Nat) (s13 : List Int) (s14 : Int) (s15 : Int) (e : Outs (F35.L0 (R := R) k).outs → Option R) :
    evRound F35.C k [] (F35.L0 (R := R) k).inn (F35.L0 (R := R) k).outs (loopOf Proofs.Try.f46 0) 1 ((s13, s14, s15, ()), ()) (fun x => F35.loop0 k j x.1.1 x.1.2.1 x.1.2.2.1 (fun u0 => e (.inl ((u0, ()), ()))) (fun _ => e (.inr (((), ()))))) e =
    F35.loop0 k (j + 1) s13 s14 s15 (fun u0 => e (.inl ((u0, ()), ()))) (fun _ => e (.inr (((), ())))) := by kernel_rfl
theorem F35.eq (k : Nat) (a0 : List Int) :
    evF F35.C k [F35.L0 k] Proofs.Try.f46 [.imm (.sl I6)] [I6] (a0, ()) some = F35 k a0 := by kernel_rfl

noncomputable def F36.S : FSem := ⟨47, [.imm I6], [.bool], fun k x => F36 k x.1⟩
noncomputable def F36.C : Ctx := ⟨tis, etys, [], [0, 2], [], 9, []⟩
theorem F36.eq (k : Nat) (a0 : Int) :
    evF F36.C k [] Proofs.Try.f47 [.imm I6] [.bool] (a0, ()) some = F36 k a0 := by kernel_rfl

noncomputable def F37.S : FSem := ⟨62, [.bor (.pair I6 I6) true, .imm I6], [], fun k x => F37 k x.1 x.2.1⟩
noncomputable def F37.C : Ctx := ⟨tis, etys, [], [0, 1], [0], 22, []⟩
theorem F37.eq (k : Nat) (a0 : Int × Int) (a1 : Int) :
    evF F37.C k [] Proofs.Try.f62 [.bor (.pair I6 I6) true, .imm I6] [] (a0, a1, ()) some = F37 k a0 a1 := by kernel_rfl

noncomputable def F38.S : FSem := ⟨68, [.imm I6], [.bool], fun k x => F38 k x.1⟩
noncomputable def F38.C : Ctx := ⟨tis, etys, [], [0, 2], [], 9, []⟩
theorem F38.eq (k : Nat) (a0 : Int) :
    evF F38.C k [] Proofs.Try.f68 [.imm I6] [.bool] (a0, ()) some = F38 k a0 := by kernel_rfl

noncomputable def F39.S : FSem := ⟨63, [.bor (.pair I6 I6) true], [I6, .bool], fun k x => F39 k x.1⟩
noncomputable def F39.C : Ctx := ⟨tis, etys, [F38.S], [0, 2, 3, 4, 16], [0], 30, []⟩
theorem F39.eq (k : Nat) (a0 : Int × Int) :
    evF F39.C k [] Proofs.Try.f63 [.bor (.pair I6 I6) true] [I6, .bool] (a0, ()) some = F39 k a0 := by kernel_rfl

noncomputable def F40.S : FSem := ⟨48, [.imm (.sl I6), .imm I6, .imm I6], [I6, I6, .bool], fun k x => F40 k x.1 x.2.1 x.2.2.1⟩
noncomputable def F40.C : Ctx := ⟨tis, etys, [F35.S, F37.S, F39.S], [0, 1, 2, 6, 7, 8, 9, 10, 12, 13, 14, 15, 16, 17, 18, 34, 35, 36, 37, 38, 69], [], 72, []⟩
noncomputable def F40.L0 {R : Type} (k : Nat) : LC R := ⟨0, ⟨[(1, .val I6), (2, .val I6), (9, .ptr 0), (10, .ptr 1), (35, .val (.sl I6)), (36, .val I6), (37, .val I6)], [.box (some (.pair I6 I6)) [I6, I6], .box (some (.pair I6 I6)) [I6, I6]]⟩, [(.ex 0, ⟨[(9, .ptr 0), (10, .ptr 1)], [.box (some (.pair I6 I6)) [I6, I6], .box (some (.pair I6 I6)) [I6, I6]]⟩)], fun x e => F40.loop0 k k x.1.1 x.1.2.1 x.1.2.2.1 x.1.2.2.2.1 x.1.2.2.2.2.1 x.2.1.1 x.2.1.2.1 x.2.2.1.1 x.2.2.1.2.1 (fun u0 u1 u2 u3 => e ((), ((u0, u1, ()), (u2, u3, ()), ())))⟩
theorem F40.r0 {R : Type} (k j : Nat) (s1 : Int) (s2 : Int) (s35 : List Int) (s36 : Int) (s37 : Int) (b9_0 : Int) (b9_1 : Int) (b10_0 : Int) (b10_1 : Int) (e : Outs (F40.L0 (R := R) k).outs → Option R) :
    evRound F40.C k [] (F40.L0 (R := R) k).inn (F40.L0 (R := R) k).outs (loopOf Proofs.Try.f48 0) 1 ((s1, s2, s35, s36, s37, ()), ((b9_0, b9_1, ()), (b10_0, b10_1, ()), ())) (fun x => F40.loop0 k j x.1.1 x.1.2.1 x.1.2.2.1 x.1.2.2.2.1 x.1.2.2.2.2.1 x.2.1.1 x.2.1.2.1 x.2.2.1.1 x.2.2.1.2.1 (fun u0 u1 u2 u3 => e ((), ((u0, u1, ()), (u2, u3, ()), ())))) e =
    F40.loop0 k (j + 1) s1 s2 s35 s36 s37 b9_0 b9_1 b10_0 b10_1 (fun u0 u1 u2 u3 => e ((), ((u0, u1, ()), (u2, u3, ()), ()))) := by kernel_rfl
theorem F40.eq (k : Nat) (a0 : List Int) (a1 : Int) (a2 : Int) :
    evF F40.C k [F40.L0 k] Proofs.Try.f48 [.imm (.sl I6), .imm I6, .imm I6] [I6, I6, .bool] (a0, a1, a2, ()) some = F40 k a0 a1 a2 := by kernel_rfl

noncomputable def F41.S : FSem := ⟨39, [.imm I6, .imm I6, .imm I6, .imm (.sl I6), .imm I6, .imm I6], [I6], fun k x => F41 k x.1 x.2.1 x.2.2.1 x.2.2.2.1 x.2.2.2.2.1 x.2.2.2.2.2.1⟩
noncomputable def F41.C : Ctx := ⟨tis, etys, [F34.S, F35.S, F36.S, F40.S], [0, 1, 2, 3, 4, 5, 12, 15, 31, 42, 50, 59], [], 60, []⟩
theorem F41.eq (k : Nat) (a0 : Int) (a1 : Int) (a2 : Int) (a3 : List Int) (a4 : Int) (a5 : Int) :
    evF F41.C k [] Proofs.Try.f39 [.imm I6, .imm I6, .imm I6, .imm (.sl I6), .imm I6, .imm I6] [I6] (a0, a1, a2, a3, a4, a5, ()) some = F41 k a0 a1 a2 a3 a4 a5 := by kernel_rfl

noncomputable def F42.S : FSem := ⟨49, [.imm I6], [.bool], fun k x => F42 k x.1⟩
noncomputable def F42.C : Ctx := ⟨tis, etys, [], [0, 2], [], 9, []⟩
theorem F42.eq (k : Nat) (a0 : Int) :
    evF F42.C k [] Proofs.Try.f49 [.imm I6] [.bool] (a0, ()) some = F42 k a0 := by kernel_rfl

noncomputable def F43.S : FSem := ⟨50, [.imm I6], [.bool], fun k x => F43 k x.1⟩
noncomputable def F43.C : Ctx := ⟨tis, etys, [], [0, 2], [], 9, []⟩
theorem F43.eq (k : Nat) (a0 : Int) :
    evF F43.C k [] Proofs.Try.f50 [.imm I6] [.bool] (a0, ()) some = F43 k a0 := by kernel_rfl

noncomputable def F44.S : FSem := ⟨64, [.imm I6, .imm I6], [I6], fun k x => F44 k x.1 x.2.1⟩
noncomputable def F44.C : Ctx := ⟨tis, etys, [F38.S], [0, 1, 4, 5, 17], [], 28, []⟩
theorem F44.eq (k : Nat) (a0 : Int) (a1 : Int) :
    evF F44.C k [] Proofs.Try.f64 [.imm I6, .imm I6] [I6] (a0, a1, ()) some = F44 k a0 a1 := by kernel_rfl

noncomputable def F45.S : FSem := ⟨51, [.imm I6, .imm I6, .imm I6], [I6, I6], fun k x => F45 k x.1 x.2.1 x.2.2.1⟩
noncomputable def F45.C : Ctx := ⟨tis, etys, [F44.S], [0, 1, 2, 6, 7], [], 14, []⟩
theorem F45.eq (k : Nat) (a0 : Int) (a1 : Int) (a2 : Int) :
    evF F45.C k [] Proofs.Try.f51 [.imm I6, .imm I6, .imm I6] [I6, I6] (a0, a1, a2, ()) some = F45 k a0 a1 a2 := by kernel_rfl

noncomputable def F46.S : FSem := ⟨40, [.imm I6, .imm (.sl I6), .imm (.sl I6), .imm I6, .imm I6, .imm I6], [I6], fun k x => F46 k x.1 x.2.1 x.2.2.1 x.2.2.2.1 x.2.2.2.2.1 x.2.2.2.2.2.1⟩
noncomputable def F46.C : Ctx := ⟨tis, etys, [F35.S, F42.S, F43.S, F40.S, F45.S], [0, 1, 2, 3, 4, 5, 12, 13, 14, 15, 33, 51, 59, 67, 84], [], 85, []⟩
noncomputable def F46.J3 {R : Type} (k : Nat) : LC R := ⟨7, ⟨[(0, .val I6), (1, .val (.sl I6)), (2, .val (.sl I6)), (3, .val I6), (4, .val I6), (5, .val I6)], []⟩, [(.ret, ⟨[(12, .val I6)], []⟩)], fun x e => F46.join3 k x.1.1 x.1.2.1 x.1.2.2.1 x.1.2.2.2.1 x.1.2.2.2.2.1 x.1.2.2.2.2.2.1 (fun u0 => e ((u0, ()), ()))⟩
theorem F46.q3 {R : Type} (k : Nat) (s0 : Int) (s1 : List Int) (s2 : List Int) (s3 : Int) (s4 : Int) (s5 : Int) (e : Outs (F46.J3 (R := R) k).outs → Option R) :
    evOnce F46.C k [] (F46.J3 (R := R) k).inn (F46.J3 (R := R) k).outs (joinOf Proofs.Try.f40 3) 0 ((s0, s1, s2, s3, s4, s5, ()), ()) e =
    F46.join3 k s0 s1 s2 s3 s4 s5 (fun u0 => e ((u0, ()), ())) := by kernel_rfl
theorem F46.eq (k : Nat) (a0 : Int) (a1 : List Int) (a2 : List Int) (a3 : Int) (a4 : Int) (a5 : Int) :
    evF F46.C k [F46.J3 k] Proofs.Try.f40 [.imm I6, .imm (.sl I6), .imm (.sl I6), .imm I6, .imm I6, .imm I6] [I6] (a0, a1, a2, a3, a4, a5, ()) some = F46 k a0 a1 a2 a3 a4 a5 := by kernel_rfl

noncomputable def F47.S : FSem := ⟨65, [.imm I6], [.bool], fun k x => F47 k x.1⟩
noncomputable def F47.C : Ctx := ⟨tis, etys, [], [0, 2], [], 9, []⟩
theorem F47.eq (k : Nat) (a0 : Int) :
    evF F47.C k [] Proofs.Try.f65 [.imm I6] [.bool] (a0, ()) some = F47 k a0 := by kernel_rfl

noncomputable def F48.S : FSem := ⟨66, [.imm I6], [.bool], fun k x => F48 k x.1⟩
noncomputable def F48.C : Ctx := ⟨tis, etys, [], [0, 2], [], 9, []⟩
theorem F48.eq (k : Nat) (a0 : Int) :
    evF F48.C k [] Proofs.Try.f66 [.imm I6] [.bool] (a0, ()) some = F48 k a0 := by kernel_rfl

noncomputable def F49.S : FSem := ⟨52, [.imm (.sl (.pair I6 (.sl I6))), .imm I6], [I6], fun k x => F49 k x.1 x.2.1⟩
noncomputable def F49.C : Ctx := ⟨tis, etys, [F47.S, F48.S], [0, 1, 4, 6, 8, 17, 18, 19, 20, 21, 33, 35, 36, 37, 38, 46, 51], [], 53, []⟩
noncomputable def F49.L1 {R : Type} (k : Nat) : LC R := ⟨2, ⟨[(35, .val (.sl I6)), (36, .val I6), (37, .val I6)], []⟩, [(.ret, ⟨[(4, .val I6)], []⟩), (.ex 2, ⟨[], []⟩)], fun x e => F49.loop1 k k x.1.1 x.1.2.1 x.1.2.2.1 (fun u0 => e (.inl ((u0, ()), ()))) (fun _ => e (.inr (((), ()))))⟩
theorem F49.r1 {R : Type} (k j : Nat) (s35 : List Int) (s36 : Int) (s37 : Int) (e : Outs (F49.L1 (R := R) k).outs → Option R) :
    evRound F49.C k [] (F49.L1 (R := R) k).inn (F49.L1 (R := R) k).outs (loopOf Proofs.Try.f52 1) 2 ((s35, s36, s37, ()), ()) (fun x => F49.loop1 k j x.1.1 x.1.2.1 x.1.2.2.1 (fun u0 => e (.inl ((u0, ()), ()))) (fun _ => e (.inr (((), ()))))) e =
    F49.loop1 k (j + 1) s35 s36 s37 (fun u0 => e (.inl ((u0, ()), ()))) (fun _ => e (.inr (((), ())))) := by kernel_rfl
noncomputable def F49.L0 {R : Type} (k : Nat) : LC R := ⟨0, ⟨[(18, .val (.sl (.pair I6 (.sl I6)))), (19, .val I6), (20, .val I6)], []⟩, [(.ret, ⟨[(4, .val I6)], []⟩), (.ex 0, ⟨[], []⟩)], fun x e => F49.loop0 k k x.1.1 x.1.2.1 x.1.2.2.1 (fun u0 => e (.inl ((u0, ()), ()))) (fun _ => e (.inr (((), ()))))⟩
theorem F49.r0 {R : Type} (k j : Nat) (s18 : List (Int × List Int)) (s19 : Int) (s20 : Int) (e : Outs (F49.L0 (R := R) k).outs → Option R) :
    evRound F49.C k [F49.L1 k] (F49.L0 (R := R) k).inn (F49.L0 (R := R) k).outs (loopOf Proofs.Try.f52 0) 1 ((s18, s19, s20, ()), ()) (fun x => F49.loop0 k j x.1.1 x.1.2.1 x.1.2.2.1 (fun u0 => e (.inl ((u0, ()), ()))) (fun _ => e (.inr (((), ()))))) e =
    F49.loop0 k (j + 1) s18 s19 s20 (fun u0 => e (.inl ((u0, ()), ()))) (fun _ => e (.inr (((), ())))) := by kernel_rfl
theorem F49.eq (k : Nat) (a0 : List (Int × List Int)) (a1 : Int) :
    evF F49.C k [F49.L1 k, F49.L0 k] Proofs.Try.f52 [.imm (.sl (.pair I6 (.sl I6))), .imm I6] [I6] (a0, a1, ()) some = F49 k a0 a1 := by kernel_rfl

noncomputable def F50.S : FSem := ⟨53, [.imm I6], [.bool], fun k x => F50 k x.1⟩
noncomputable def F50.C : Ctx := ⟨tis, etys, [], [0, 2], [], 9, []⟩
theorem F50.eq (k : Nat) (a0 : Int) :
    evF F50.C k [] Proofs.Try.f53 [.imm I6] [.bool] (a0, ()) some = F50 k a0 := by kernel_rfl

noncomputable def F51.S : FSem := ⟨54, [.imm I6], [.bool], fun k x => F51 k x.1⟩
noncomputable def F51.C : Ctx := ⟨tis, etys, [], [0, 2], [], 9, []⟩
theorem F51.eq (k : Nat) (a0 : Int) :
    evF F51.C k [] Proofs.Try.f54 [.imm I6] [.bool] (a0, ()) some = F51 k a0 := by kernel_rfl

noncomputable def F52.S : FSem := ⟨41, [.imm (.pair I6 (.pair I6 I6)), .imm (.sl (.pair I6 (.sl I6))), .imm (.sl (.pair I6 (.sl I6))), .imm I6, .imm I6, .imm I6], [I6], fun k x => F52 k x.1 x.2.1 x.2.2.1 x.2.2.2.1 x.2.2.2.2.1 x.2.2.2.2.2.1⟩
noncomputable def F52.C : Ctx := ⟨tis, etys, [F49.S, F25.S, F50.S, F51.S, F40.S, F45.S], [0, 1, 2, 3, 4, 5, 6, 12, 13, 14, 16, 17, 18, 19, 20, 21, 22, 23, 25, 28, 34, 41, 52, 60, 69, 70, 71, 72, 73, 87, 96, 106, 107, 108, 109, 122], [], 124, []⟩
noncomputable def F52.L0 {R : Type} (k : Nat) : LC R := ⟨0, ⟨[(3, .val I6), (6, .ptr 0), (17, .val I6), (18, .val I6), (70, .val (.sl (.pair I6 (.sl I6)))), (71, .val I6), (72, .val I6)], [.box (some (.pair I6 (.pair I6 I6))) [I6, I6, I6]]⟩, [(.ret, ⟨[(12, .val I6)], []⟩), (.ex 0, ⟨[(17, .val I6), (18, .val I6)], []⟩)], fun x e => F52.loop0 k k x.1.1 x.1.2.1 x.1.2.2.1 x.1.2.2.2.1 x.1.2.2.2.2.1 x.1.2.2.2.2.2.1 x.2.1.1 x.2.1.2.1 x.2.1.2.2.1 (fun u0 => e (.inl ((u0, ()), ()))) (fun u0 u1 => e (.inr (((u0, u1, ()), ()))))⟩
theorem F52.r0 {R : Type} (k j : Nat) (s3 : Int) (s17 : Int) (s18 : Int) (s70 : List (Int × List Int)) (s71 : Int) (s72 : Int) (b6_0 : Int) (b6_1 : Int) (b6_2 : Int) (e : Outs (F52.L0 (R := R) k).outs → Option R) :
    evRound F52.C k [] (F52.L0 (R := R) k).inn (F52.L0 (R := R) k).outs (loopOf Proofs.Try.f41 0) 1 ((s3, s17, s18, s70, s71, s72, ()), ((b6_0, b6_1, b6_2, ()), ())) (fun x => F52.loop0 k j x.1.1 x.1.2.1 x.1.2.2.1 x.1.2.2.2.1 x.1.2.2.2.2.1 x.1.2.2.2.2.2.1 x.2.1.1 x.2.1.2.1 x.2.1.2.2.1 (fun u0 => e (.inl ((u0, ()), ()))) (fun u0 u1 => e (.inr (((u0, u1, ()), ()))))) e =
    F52.loop0 k (j + 1) s3 s17 s18 s70 s71 s72 b6_0 b6_1 b6_2 (fun u0 => e (.inl ((u0, ()), ()))) (fun u0 u1 => e (.inr (((u0, u1, ()), ())))) := by kernel_rfl
noncomputable def F52.L1 {R : Type} (k : Nat) : LC R := ⟨2, ⟨[(17, .val I6), (18, .val I6), (106, .val (.sl (.pair I6 (.sl I6)))), (107, .val I6), (108, .val I6)], []⟩, [(.ret, ⟨[(12, .val I6)], []⟩), (.ex 2, ⟨[], []⟩)], fun x e => F52.loop1 k k x.1.1 x.1.2.1 x.1.2.2.1 x.1.2.2.2.1 x.1.2.2.2.2.1 (fun u0 => e (.inl ((u0, ()), ()))) (fun _ => e (.inr (((), ()))))⟩
theorem F52.r1 {R : Type} (k j : Nat) (s17 : Int) (s18 : Int) (s106 : List (Int × List Int)) (s107 : Int) (s108 : Int) (e : Outs (F52.L1 (R := R) k).outs → Option R) :
    evRound F52.C k [] (F52.L1 (R := R) k).inn (F52.L1 (R := R) k).outs (loopOf Proofs.Try.f41 1) 2 ((s17, s18, s106, s107, s108, ()), ()) (fun x => F52.loop1 k j x.1.1 x.1.2.1 x.1.2.2.1 x.1.2.2.2.1 x.1.2.2.2.2.1 (fun u0 => e (.inl ((u0, ()), ()))) (fun _ => e (.inr (((), ()))))) e =
    F52.loop1 k (j + 1) s17 s18 s106 s107 s108 (fun u0 => e (.inl ((u0, ()), ()))) (fun _ => e (.inr (((), ())))) := by kernel_rfl
theorem F52.eq (k : Nat) (a0 : Int × Int × Int) (a1 : List (Int × List Int)) (a2 : List (Int × List Int)) (a3 : Int) (a4 : Int) (a5 : Int) :
    evF F52.C k [F52.L0 k, F52.L1 k] Proofs.Try.f41 [.imm (.pair I6 (.pair I6 I6)), .imm (.sl (.pair I6 (.sl I6))), .imm (.sl (.pair I6 (.sl I6))), .imm I6, .imm I6, .imm I6] [I6] (a0, a1, a2, a3, a4, a5, ()) some = F52 k a0 a1 a2 a3 a4 a5 := by kernel_rfl

noncomputable def F53.S : FSem := ⟨55, [.imm (.pair I6 (.pair I6 I6))], [I6, .bool], fun k x => F53 k x.1⟩
noncomputable def F53.C : Ctx := ⟨tis, etys, [F25.S], [0, 1, 2, 3, 4, 5, 18, 28], [], 35, []⟩
theorem F53.eq (k : Nat) (a0 : Int × Int × Int) :
    evF F53.C k [] Proofs.Try.f55 [.imm (.pair I6 (.pair I6 I6))] [I6, .bool] (a0, ()) some = F53 k a0 := by kernel_rfl

noncomputable def F54.S : FSem := ⟨42, [.imm (.pair I6 (.pair I6 I6))], [I6], fun k x => F54 k x.1⟩
noncomputable def F54.C : Ctx := ⟨tis, etys, [F53.S], [0, 1, 2, 4, 11], [], 12, []⟩
theorem F54.eq (k : Nat) (a0 : Int × Int × Int) :
    evF F54.C k [] Proofs.Try.f42 [.imm (.pair I6 (.pair I6 I6))] [I6] (a0, ()) some = F54 k a0 := by kernel_rfl

noncomputable def F55.S : FSem := ⟨56, [.imm I6, .imm I6, .imm I6], [.bool], fun k x => F55 k x.1 x.2.1 x.2.2.1⟩
noncomputable def F55.C : Ctx := ⟨tis, etys, [], [0, 1, 2, 6], [], 15, []⟩
theorem F55.eq (k : Nat) (a0 : Int) (a1 : Int) (a2 : Int) :
    evF F55.C k [] Proofs.Try.f56 [.imm I6, .imm I6, .imm I6] [.bool] (a0, a1, a2, ()) some = F55 k a0 a1 a2 := by kernel_rfl

noncomputable def F56.S : FSem := ⟨57, [.imm I6], [I6], fun k x => F56 k x.1⟩
noncomputable def F56.C : Ctx := ⟨tis, etys, [], [0, 2, 3, 4, 8], [], 11, []⟩
theorem F56.eq (k : Nat) (a0 : Int) :
    evF F56.C k [] Proofs.Try.f57 [.imm I6] [I6] (a0, ()) some = F56 k a0 := by kernel_rfl

noncomputable def F57.S : FSem := ⟨58, [.imm (.pair I6 I6)], [.bool], fun k x => F57 k x.1⟩
noncomputable def F57.C : Ctx := ⟨tis, etys, [F55.S], [0, 1, 2, 4, 5, 10], [], 18, []⟩
theorem F57.eq (k : Nat) (a0 : Int × Int) :
    evF F57.C k [] Proofs.Try.f58 [.imm (.pair I6 I6)] [.bool] (a0, ()) some = F57 k a0 := by kernel_rfl

noncomputable def F58.S : FSem := ⟨43, [.imm (.sl (.pair I6 I6)), .imm .bool], [I6], fun k x => F58 k x.1 x.2.1⟩
noncomputable def F58.C : Ctx := ⟨tis, etys, [F55.S, F56.S, F57.S], [0, 1, 4, 5, 7, 11, 12, 13, 14, 15, 37, 40, 49], [], 50, []⟩
noncomputable def F58.L0 {R : Type} (k : Nat) : LC R := ⟨0, ⟨[(1, .val .bool), (5, .val I6), (12, .val (.sl (.pair I6 I6))), (13, .val I6), (14, .val I6)], []⟩, [(.ret, ⟨[(4, .val I6)], []⟩), (.ex 0, ⟨[(5, .val I6)], []⟩)], fun x e => F58.loop0 k k x.1.1 x.1.2.1 x.1.2.2.1 x.1.2.2.2.1 x.1.2.2.2.2.1 (fun u0 => e (.inl ((u0, ()), ()))) (fun u0 => e (.inr (((u0, ()), ()))))⟩
theorem F58.r0 {R : Type} (k j : Nat) (s1 : Bool) (s5 : Int) (s12 : List (Int × Int)) (s13 : Int) (s14 : Int) (e : Outs (F58.L0 (R := R) k).outs → Option R) :
    evRound F58.C k [] (F58.L0 (R := R) k).inn (F58.L0 (R := R) k).outs (loopOf Proofs.Try.f43 0) 1 ((s1, s5, s12, s13, s14, ()), ()) (fun x => F58.loop0 k j x.1.1 x.1.2.1 x.1.2.2.1 x.1.2.2.2.1 x.1.2.2.2.2.1 (fun u0 => e (.inl ((u0, ()), ()))) (fun u0 => e (.inr (((u0, ()), ()))))) e =
    F58.loop0 k (j + 1) s1 s5 s12 s13 s14 (fun u0 => e (.inl ((u0, ()), ()))) (fun u0 => e (.inr (((u0, ()), ())))) := by kernel_rfl
theorem F58.eq (k : Nat) (a0 : List (Int × Int)) (a1 : Bool) :
    evF F58.C k [F58.L0 k] Proofs.Try.f43 [.imm (.sl (.pair I6 I6)), .imm .bool] [I6] (a0, a1, ()) some = F58 k a0 a1 := by kernel_rfl

noncomputable def F59.S : FSem := ⟨59, [.imm I6], [I6], fun k x => F59 k x.1⟩
noncomputable def F59.C : Ctx := ⟨tis, etys, [], [0, 2], [], 7, []⟩
theorem F59.eq (k : Nat) (a0 : Int) :
    evF F59.C k [] Proofs.Try.f59 [.imm I6] [I6] (a0, ()) some = F59 k a0 := by kernel_rfl

noncomputable def F60.S : FSem := ⟨67, [.imm I6, .imm I6], [I6], fun k x => F60 k x.1 x.2.1⟩
noncomputable def F60.C : Ctx := ⟨tis, etys, [F59.S], [0, 1, 4, 14], [], 18, []⟩
theorem F60.eq (k : Nat) (a0 : Int) (a1 : Int) :
    evF F60.C k [] Proofs.Try.f67 [.imm I6, .imm I6] [I6] (a0, a1, ()) some = F60 k a0 a1 := by kernel_rfl

noncomputable def F61.S : FSem := ⟨60, [.imm I6, .imm (.pair I6 I6), .imm (.pair I6 I6)], [(.pair I6 I6)], fun k x => F61 k x.1 x.2.1 x.2.2.1⟩
noncomputable def F61.C : Ctx := ⟨tis, etys, [F60.S, F59.S], [0, 1, 2, 4, 5, 6, 7, 8, 9, 10, 11, 12, 13, 26, 39, 72, 85, 98], [], 123, [25, 38, 71, 84, 97, 111, 122]⟩
theorem F61.eq (k : Nat) (a0 : Int) (a1 : Int × Int) (a2 : Int × Int) :
    evF F61.C k [] Proofs.Try.f60 [.imm I6, .imm (.pair I6 I6), .imm (.pair I6 I6)] [(.pair I6 I6)] (a0, a1, a2, ()) some = F61 k a0 a1 a2 := by kernel_rfl

noncomputable def F62.S : FSem := ⟨61, [.imm I6], [.bool], fun k x => F62 k x.1⟩
noncomputable def F62.C : Ctx := ⟨tis, etys, [F55.S], [0, 2], [], 5, []⟩
theorem F62.eq (k : Nat) (a0 : Int) :
    evF F62.C k [] Proofs.Try.f61 [.imm I6] [.bool] (a0, ()) some = F62 k a0 := by kernel_rfl

noncomputable def F63.S : FSem := ⟨44, [.imm (.sl (.pair I6 I6)), .imm I6, .imm I6], [I6, I6, I6], fun k x => F63 k x.1 x.2.1 x.2.2.1⟩
noncomputable def F63.C : Ctx := ⟨tis, etys, [F58.S, F55.S, F56.S, F62.S, F45.S, F59.S, F61.S], [0, 1, 2, 6, 7, 8, 9, 10, 12, 13, 14, 15, 19, 28, 29, 30, 31, 32, 48, 58, 62, 66, 73, 91, 114], [], 128, []⟩
noncomputable def F63.L0 {R : Type} (k : Nat) : LC R := ⟨0, ⟨[(1, .val I6), (2, .val I6), (10, .arr 0), (29, .val (.sl (.pair I6 I6))), (30, .val I6), (31, .val I6)], [.arr (.pair I6 I6)]⟩, [(.ret, ⟨[(6, .val I6), (7, .val I6), (8, .val I6)], []⟩), (.ex 0, ⟨[(10, .arr 0)], [.arr (.pair I6 I6)]⟩)], fun x e => F63.loop0 k k x.1.1 x.1.2.1 x.1.2.2.1 x.1.2.2.2.1 x.1.2.2.2.2.1 x.2.1 (fun u0 u1 u2 => e (.inl ((u0, u1, u2, ()), ()))) (fun u0 => e (.inr (((), (u0, ())))))⟩
theorem F63.r0 {R : Type} (k j : Nat) (s1 : Int) (s2 : Int) (s29 : List (Int × Int)) (s30 : Int) (s31 : Int) (l10 : List (Int × Int)) (e : Outs (F63.L0 (R := R) k).outs → Option R) :
    evRound F63.C k [] (F63.L0 (R := R) k).inn (F63.L0 (R := R) k).outs (loopOf Proofs.Try.f44 0) 1 ((s1, s2, s29, s30, s31, ()), (l10, ())) (fun x => F63.loop0 k j x.1.1 x.1.2.1 x.1.2.2.1 x.1.2.2.2.1 x.1.2.2.2.2.1 x.2.1 (fun u0 u1 u2 => e (.inl ((u0, u1, u2, ()), ()))) (fun u0 => e (.inr (((), (u0, ())))))) e =
    F63.loop0 k (j + 1) s1 s2 s29 s30 s31 l10 (fun u0 u1 u2 => e (.inl ((u0, u1, u2, ()), ()))) (fun u0 => e (.inr (((), (u0, ()))))) := by kernel_rfl
theorem F63.eq (k : Nat) (a0 : List (Int × Int)) (a1 : Int) (a2 : Int) :
    evF F63.C k [F63.L0 k] Proofs.Try.f44 [.imm (.sl (.pair I6 I6)), .imm I6, .imm I6] [I6, I6, I6] (a0, a1, a2, ()) some = F63 k a0 a1 a2 := by kernel_rfl

noncomputable def F64.S : FSem := ⟨34, [.imm (.pair I6 (.pair I6 (.pair I6 (.pair .bool (.pair (.pair I6 I6) (.pair I6 (.pair I6 (.pair (.sl I6) (.pair (.sl I6) (.pair (.sl I6) (.pair I6 (.pair I6 (.pair (.sl (.pair I6 (.sl I6))) (.pair (.sl (.pair I6 (.sl I6))) (.pair I6 (.pair (.sl (.pair I6 I6)) I6)))))))))))))))), .imm (.pair I6 (.pair I6 I6)), .imm (.pair I6 (.pair I6 I6))], [I6], fun k x => F64 k x.1 x.2.1 x.2.2.1⟩
noncomputable def F64.C : Ctx := ⟨tis, etys, [F41.S, F46.S, F52.S, F28.S, F54.S, F10.S, F58.S, F63.S], [0, 1, 2, 3, 4, 5, 6, 7, 8, 11, 13, 14, 29, 44, 58, 63, 64, 74, 79, 81, 95, 112], [], 113, []⟩
theorem F64.eq (k : Nat) (a0 : Int × Int × Int × Bool × (Int × Int) × Int × Int × (List Int) × (List Int) × (List Int) × Int × Int × (List (Int × List Int)) × (List (Int × List Int)) × Int × (List (Int × Int)) × Int) (a1 : Int × Int × Int) (a2 : Int × Int × Int) :
    evF F64.C k [] Proofs.Try.f34 [.imm (.pair I6 (.pair I6 (.pair I6 (.pair .bool (.pair (.pair I6 I6) (.pair I6 (.pair I6 (.pair (.sl I6) (.pair (.sl I6) (.pair (.sl I6) (.pair I6 (.pair I6 (.pair (.sl (.pair I6 (.sl I6))) (.pair (.sl (.pair I6 (.sl I6))) (.pair I6 (.pair (.sl (.pair I6 I6)) I6)))))))))))))))), .imm (.pair I6 (.pair I6 I6)), .imm (.pair I6 (.pair I6 I6))] [I6] (a0, a1, a2, ()) some = F64 k a0 a1 a2 := by kernel_rfl

noncomputable def F65.S : FSem := ⟨26, [.imm (.pair I6 (.pair I6 (.pair I6 (.pair .bool (.pair (.pair I6 I6) (.pair I6 (.pair I6 (.pair (.sl I6) (.pair (.sl I6) (.pair (.sl I6) (.pair I6 (.pair I6 (.pair (.sl (.pair I6 (.sl I6))) (.pair (.sl (.pair I6 (.sl I6))) (.pair I6 (.pair (.sl (.pair I6 I6)) I6)))))))))))))))), .imm (.pair I6 (.pair I6 I6)), .imm (.pair I6 (.pair I6 I6))], [(.pair I6 (.pair I6 I6)), I6], fun k x => F65 k x.1 x.2.1 x.2.2.1⟩
noncomputable def F65.C : Ctx := ⟨tis, etys, [F31.S, F32.S, F10.S, F29.S, F33.S, F64.S], [0, 1, 2, 3, 4, 5, 6, 7, 8, 11, 24, 36, 43, 47, 48, 59, 69], [], 91, [12, 25, 37, 44, 58, 68, 83, 90]⟩
theorem F65.eq (k : Nat) (a0 : Int × Int × Int × Bool × (Int × Int) × Int × Int × (List Int) × (List Int) × (List Int) × Int × Int × (List (Int × List Int)) × (List (Int × List Int)) × Int × (List (Int × Int)) × Int) (a1 : Int × Int × Int) (a2 : Int × Int × Int) :
    evF F65.C k [] Proofs.Try.f26 [.imm (.pair I6 (.pair I6 (.pair I6 (.pair .bool (.pair (.pair I6 I6) (.pair I6 (.pair I6 (.pair (.sl I6) (.pair (.sl I6) (.pair (.sl I6) (.pair I6 (.pair I6 (.pair (.sl (.pair I6 (.sl I6))) (.pair (.sl (.pair I6 (.sl I6))) (.pair I6 (.pair (.sl (.pair I6 I6)) I6)))))))))))))))), .imm (.pair I6 (.pair I6 I6)), .imm (.pair I6 (.pair I6 I6))] [(.pair I6 (.pair I6 I6)), I6] (a0, a1, a2, ()) some = F65 k a0 a1 a2 := by kernel_rfl

noncomputable def F66.S : FSem := ⟨20, [.imm (.pair (.sl (.pair I6 (.pair I6 (.pair I6 (.sl I6))))) (.pair (.sl (.pair I6 (.pair I6 (.pair I6 (.pair .bool (.pair (.pair I6 I6) (.pair I6 (.pair I6 (.pair (.sl I6) (.pair (.sl I6) (.pair (.sl I6) (.pair I6 (.pair I6 (.pair (.sl (.pair I6 (.sl I6))) (.pair (.sl (.pair I6 (.sl I6))) (.pair I6 (.pair (.sl (.pair I6 I6)) I6))))))))))))))))) (.pair (.sl I6) I6)))], [(.ow (.pair I6 (.pair I6 I6))), I6, I6], fun k x => F66 k x.1⟩
noncomputable def F66.C : Ctx := ⟨tis, etys, [F16.S, F27.S, F11.S, F65.S], [0, 1, 2, 3, 4, 5, 6, 7, 8, 9, 11, 12, 13, 14, 15, 22, 33, 34, 35, 36, 42, 55, 56, 57, 58, 98], [], 103, []⟩
noncomputable def F66.L0 {R : Type} (k : Nat) : LC R := ⟨0, ⟨[(7, .arr 0), (33, .val (.sl (.pair I6 (.pair I6 (.pair I6 (.sl I6)))))), (34, .val I6), (35, .val I6)], [.arr (.pair I6 (.pair I6 I6))]⟩, [(.ret, ⟨[(2, .arr 0), (3, .val I6), (4, .val I6)], [.arr (.pair I6 (.pair I6 I6))]⟩), (.ex 0, ⟨[(7, .arr 0)], [.arr (.pair I6 (.pair I6 I6))]⟩)], fun x e => F66.loop0 k k x.1.1 x.1.2.1 x.1.2.2.1 x.2.1 (fun u0 u1 u2 => e (.inl ((u0, u1, ()), (u2, ())))) (fun u0 => e (.inr (((), (u0, ())))))⟩
theorem F66.r0 {R : Type} (k j : Nat) (s33 : List (Int × Int × Int × List Int)) (s34 : Int) (s35 : Int) (l7 : List (Int × Int × Int)) (e : Outs (F66.L0 (R := R) k).outs → Option R) :
    evRound F66.C k [] (F66.L0 (R := R) k).inn (F66.L0 (R := R) k).outs (loopOf Proofs.Try.f20 0) 1 ((s33, s34, s35, ()), (l7, ())) (fun x => F66.loop0 k j x.1.1 x.1.2.1 x.1.2.2.1 x.2.1 (fun u0 u1 u2 => e (.inl ((u0, u1, ()), (u2, ())))) (fun u0 => e (.inr (((), (u0, ())))))) e =
    F66.loop0 k (j + 1) s33 s34 s35 l7 (fun u0 u1 u2 => e (.inl ((u0, u1, ()), (u2, ())))) (fun u0 => e (.inr (((), (u0, ()))))) := by kernel_rfl
noncomputable def F66.L1 {R : Type} (k : Nat) : LC R := ⟨2, ⟨[(1, .ptr 0), (7, .arr 1), (55, .arr 2), (56, .val I6), (57, .val I6)], [.box (some (.pair (.sl (.pair I6 (.pair I6 (.pair I6 (.sl I6))))) (.pair (.sl (.pair I6 (.pair I6 (.pair I6 (.pair .bool (.pair (.pair I6 I6) (.pair I6 (.pair I6 (.pair (.sl I6) (.pair (.sl I6) (.pair (.sl I6) (.pair I6 (.pair I6 (.pair (.sl (.pair I6 (.sl I6))) (.pair (.sl (.pair I6 (.sl I6))) (.pair I6 (.pair (.sl (.pair I6 I6)) I6))))))))))))))))) (.pair (.sl I6) I6)))) [(.sl (.pair I6 (.pair I6 (.pair I6 (.sl I6))))), (.sl (.pair I6 (.pair I6 (.pair I6 (.pair .bool (.pair (.pair I6 I6) (.pair I6 (.pair I6 (.pair (.sl I6) (.pair (.sl I6) (.pair (.sl I6) (.pair I6 (.pair I6 (.pair (.sl (.pair I6 (.sl I6))) (.pair (.sl (.pair I6 (.sl I6))) (.pair I6 (.pair (.sl (.pair I6 I6)) I6))))))))))))))))), (.sl I6), I6], .arr (.pair I6 (.pair I6 I6)), .arr I6]⟩, [(.ret, ⟨[(2, .arr 0), (3, .val I6), (4, .val I6)], [.arr (.pair I6 (.pair I6 I6))]⟩), (.ex 2, ⟨[(7, .arr 0)], [.arr (.pair I6 (.pair I6 I6))]⟩)], fun x e => F66.loop1 k k x.1.1 x.1.2.1 x.2.1.1 x.2.1.2.1 x.2.1.2.2.1 x.2.1.2.2.2.1 x.2.2.1 x.2.2.2.1 (fun u0 u1 u2 => e (.inl ((u0, u1, ()), (u2, ())))) (fun u0 => e (.inr (((), (u0, ())))))⟩
theorem F66.r1 {R : Type} (k j : Nat) (s56 : Int) (s57 : Int) (b1_0 : List (Int × Int × Int × List Int)) (b1_1 : List (Int × Int × Int × Bool × (Int × Int) × Int × Int × (List Int) × (List Int) × (List Int) × Int × Int × (List (Int × List Int)) × (List (Int × List Int)) × Int × (List (Int × Int)) × Int)) (b1_2 : List Int) (b1_3 : Int) (l7 : List (Int × Int × Int)) (l55 : List Int) (e : Outs (F66.L1 (R := R) k).outs → Option R) :
    evRound F66.C k [] (F66.L1 (R := R) k).inn (F66.L1 (R := R) k).outs (loopOf Proofs.Try.f20 1) 2 ((s56, s57, ()), ((b1_0, b1_1, b1_2, b1_3, ()), l7, l55, ())) (fun x => F66.loop1 k j x.1.1 x.1.2.1 x.2.1.1 x.2.1.2.1 x.2.1.2.2.1 x.2.1.2.2.2.1 x.2.2.1 x.2.2.2.1 (fun u0 u1 u2 => e (.inl ((u0, u1, ()), (u2, ())))) (fun u0 => e (.inr (((), (u0, ())))))) e =
    F66.loop1 k (j + 1) s56 s57 b1_0 b1_1 b1_2 b1_3 l7 l55 (fun u0 u1 u2 => e (.inl ((u0, u1, ()), (u2, ())))) (fun u0 => e (.inr (((), (u0, ()))))) := by kernel_rfl
theorem F66.eq (k : Nat) (a0 : (List (Int × Int × Int × List Int)) × (List (Int × Int × Int × Bool × (Int × Int) × Int × Int × (List Int) × (List Int) × (List Int) × Int × Int × (List (Int × List Int)) × (List (Int × List Int)) × Int × (List (Int × Int)) × Int)) × (List Int) × Int) :
    evF F66.C k [F66.L0 k, F66.L1 k] Proofs.Try.f20 [.imm (.pair (.sl (.pair I6 (.pair I6 (.pair I6 (.sl I6))))) (.pair (.sl (.pair I6 (.pair I6 (.pair I6 (.pair .bool (.pair (.pair I6 I6) (.pair I6 (.pair I6 (.pair (.sl I6) (.pair (.sl I6) (.pair (.sl I6) (.pair I6 (.pair I6 (.pair (.sl (.pair I6 (.sl I6))) (.pair (.sl (.pair I6 (.sl I6))) (.pair I6 (.pair (.sl (.pair I6 I6)) I6))))))))))))))))) (.pair (.sl I6) I6)))] [(.ow (.pair I6 (.pair I6 I6))), I6, I6] (a0, ()) some = F66 k a0 := by kernel_rfl

noncomputable def F67.S : FSem := ⟨11, [], [.bool], fun k x => F67 k⟩
noncomputable def F67.C : Ctx := ⟨tis, etys, [F8.S, F16.S, F24.S, F66.S], [0, 1, 2, 4, 5, 6, 7, 8], [], 85, []⟩
theorem F67.eq (k : Nat) :
    evF F67.C k [] Proofs.Try.f11 [] [.bool] () some = F67 k := by kernel_rfl

noncomputable def F68.S : FSem := ⟨3, [.imm (.sl I6), .imm I6, .imm I6], [.bool], fun k x => F68 k x.1 x.2.1 x.2.2.1⟩
noncomputable def F68.C : Ctx := ⟨tis, etys, [F4.S, F5.S, F9.S, F16.S, F17.S, F7.S, F67.S], [0, 1, 2, 6, 7, 8, 9, 10, 11, 12, 13, 14, 15, 16, 53, 72, 76, 84, 99], [], 109, []⟩
noncomputable def F68.L0 {R : Type} (k : Nat) : LC R := ⟨0, ⟨[(9, .arr 0), (12, .val I6), (13, .arr 1), (15, .val I6), (16, .val I6)], [.arr I6, .arr I6]⟩, [(.ret, ⟨[(6, .val .bool)], []⟩), (.ex 0, ⟨[(9, .arr 0), (15, .val I6)], [.arr I6]⟩)], fun x e => F68.loop0 k k x.1.1 x.1.2.1 x.1.2.2.1 x.2.1 x.2.2.1 (fun u0 => e (.inl ((u0, ()), ()))) (fun u0 u1 => e (.inr (((u0, ()), (u1, ())))))⟩
theorem F68.r0 {R : Type} (k j : Nat) (s12 : Int) (s15 : Int) (s16 : Int) (l9 : List Int) (l13 : List Int) (e : Outs (F68.L0 (R := R) k).outs → Option R) :
    evRound F68.C k [] (F68.L0 (R := R) k).inn (F68.L0 (R := R) k).outs (loopOf Proofs.Try.f3 0) 1 ((s12, s15, s16, ()), (l9, l13, ())) (fun x => F68.loop0 k j x.1.1 x.1.2.1 x.1.2.2.1 x.2.1 x.2.2.1 (fun u0 => e (.inl ((u0, ()), ()))) (fun u0 u1 => e (.inr (((u0, ()), (u1, ())))))) e =
    F68.loop0 k (j + 1) s12 s15 s16 l9 l13 (fun u0 => e (.inl ((u0, ()), ()))) (fun u0 u1 => e (.inr (((u0, ()), (u1, ()))))) := by kernel_rfl
theorem F68.eq (k : Nat) (a0 : List Int) (a1 : Int) (a2 : Int) :
    evF F68.C k [F68.L0 k] Proofs.Try.f3 [.imm (.sl I6), .imm I6, .imm I6] [.bool] (a0, a1, a2, ()) some = F68 k a0 a1 a2 := by kernel_rfl

noncomputable def F69.S : FSem := ⟨21, [.imm (.pair I6 (.pair I6 (.pair I6 (.pair .bool (.pair (.pair I6 I6) (.pair I6 (.pair I6 (.pair (.sl I6) (.pair (.sl I6) (.pair (.sl I6) (.pair I6 (.pair I6 (.pair (.sl (.pair I6 (.sl I6))) (.pair (.sl (.pair I6 (.sl I6))) (.pair I6 (.pair (.sl (.pair I6 I6)) I6))))))))))))))))], [.bool], fun k x => F69 k x.1⟩
noncomputable def F69.C : Ctx := ⟨tis, etys, [], [0, 1, 2], [], 11, []⟩
theorem F69.eq (k : Nat) (a0 : Int × Int × Int × Bool × (Int × Int) × Int × Int × (List Int) × (List Int) × (List Int) × Int × Int × (List (Int × List Int)) × (List (Int × List Int)) × Int × (List (Int × Int)) × Int) :
    evF F69.C k [] Proofs.Try.f21 [.imm (.pair I6 (.pair I6 (.pair I6 (.pair .bool (.pair (.pair I6 I6) (.pair I6 (.pair I6 (.pair (.sl I6) (.pair (.sl I6) (.pair (.sl I6) (.pair I6 (.pair I6 (.pair (.sl (.pair I6 (.sl I6))) (.pair (.sl (.pair I6 (.sl I6))) (.pair I6 (.pair (.sl (.pair I6 I6)) I6))))))))))))))))] [.bool] (a0, ()) some = F69 k a0 := by kernel_rfl

noncomputable def F70.S : FSem := ⟨12, [.imm (.pair I6 (.pair I6 (.pair I6 (.pair .bool (.pair (.pair I6 I6) (.pair I6 (.pair I6 (.pair (.sl I6) (.pair (.sl I6) (.pair (.sl I6) (.pair I6 (.pair I6 (.pair (.sl (.pair I6 (.sl I6))) (.pair (.sl (.pair I6 (.sl I6))) (.pair I6 (.pair (.sl (.pair I6 I6)) I6))))))))))))))))], [(.ow I6)], fun k x => F70 k x.1⟩
noncomputable def F70.C : Ctx := ⟨tis, etys, [F69.S], [0, 1, 2, 4], [], 13, []⟩
theorem F70.eq (k : Nat) (a0 : Int × Int × Int × Bool × (Int × Int) × Int × Int × (List Int) × (List Int) × (List Int) × Int × Int × (List (Int × List Int)) × (List (Int × List Int)) × Int × (List (Int × Int)) × Int) :
    evF F70.C k [] Proofs.Try.f12 [.imm (.pair I6 (.pair I6 (.pair I6 (.pair .bool (.pair (.pair I6 I6) (.pair I6 (.pair I6 (.pair (.sl I6) (.pair (.sl I6) (.pair (.sl I6) (.pair I6 (.pair I6 (.pair (.sl (.pair I6 (.sl I6))) (.pair (.sl (.pair I6 (.sl I6))) (.pair I6 (.pair (.sl (.pair I6 I6)) I6))))))))))))))))] [(.ow I6)] (a0, ()) some = F70 k a0 := by kernel_rfl

noncomputable def F71.S : FSem := ⟨4, [.imm (.sl I6), .imm I6], [.bool], fun k x => F71 k x.1 x.2.1⟩
noncomputable def F71.C : Ctx := ⟨tis, etys, [F4.S, F5.S, F9.S, F16.S, F67.S, F70.S], [0, 1, 4, 5, 6, 7, 8, 9, 10, 11, 12, 13, 14, 15, 29, 44, 71, 83, 96, 117, 122, 145, 153], [], 155, []⟩
noncomputable def F71.L0 {R : Type} (k : Nat) : LC R := ⟨0, ⟨[(6, .ptr 0), (7, .arr 1), (9, .arr 2), (10, .val I6)], [.box (some (.pair (.sl (.pair I6 (.pair I6 (.pair I6 (.sl I6))))) (.pair (.sl (.pair I6 (.pair I6 (.pair I6 (.pair .bool (.pair (.pair I6 I6) (.pair I6 (.pair I6 (.pair (.sl I6) (.pair (.sl I6) (.pair (.sl I6) (.pair I6 (.pair I6 (.pair (.sl (.pair I6 (.sl I6))) (.pair (.sl (.pair I6 (.sl I6))) (.pair I6 (.pair (.sl (.pair I6 I6)) I6))))))))))))))))) (.pair (.sl I6) I6)))) [(.sl (.pair I6 (.pair I6 (.pair I6 (.sl I6))))), (.sl (.pair I6 (.pair I6 (.pair I6 (.pair .bool (.pair (.pair I6 I6) (.pair I6 (.pair I6 (.pair (.sl I6) (.pair (.sl I6) (.pair (.sl I6) (.pair I6 (.pair I6 (.pair (.sl (.pair I6 (.sl I6))) (.pair (.sl (.pair I6 (.sl I6))) (.pair I6 (.pair (.sl (.pair I6 I6)) I6))))))))))))))))), (.sl I6), I6], .arr I6, .arr I6]⟩, [(.ret, ⟨[(4, .val .bool)], []⟩), (.ex 0, ⟨[(6, .ptr 0), (7, .arr 1), (9, .arr 2)], [.box (some (.pair (.sl (.pair I6 (.pair I6 (.pair I6 (.sl I6))))) (.pair (.sl (.pair I6 (.pair I6 (.pair I6 (.pair .bool (.pair (.pair I6 I6) (.pair I6 (.pair I6 (.pair (.sl I6) (.pair (.sl I6) (.pair (.sl I6) (.pair I6 (.pair I6 (.pair (.sl (.pair I6 (.sl I6))) (.pair (.sl (.pair I6 (.sl I6))) (.pair I6 (.pair (.sl (.pair I6 I6)) I6))))))))))))))))) (.pair (.sl I6) I6)))) [(.sl (.pair I6 (.pair I6 (.pair I6 (.sl I6))))), (.sl (.pair I6 (.pair I6 (.pair I6 (.pair .bool (.pair (.pair I6 I6) (.pair I6 (.pair I6 (.pair (.sl I6) (.pair (.sl I6) (.pair (.sl I6) (.pair I6 (.pair I6 (.pair (.sl (.pair I6 (.sl I6))) (.pair (.sl (.pair I6 (.sl I6))) (.pair I6 (.pair (.sl (.pair I6 I6)) I6))))))))))))))))), (.sl I6), I6], .arr I6, .arr I6]⟩)], fun x e => F71.loop0 k k x.1.1 x.2.1.1 x.2.1.2.1 x.2.1.2.2.1 x.2.1.2.2.2.1 x.2.2.1 x.2.2.2.1 (fun u0 => e (.inl ((u0, ()), ()))) (fun u0 u1 u2 u3 u4 u5 => e (.inr (((), ((u0, u1, u2, u3, ()), u4, u5, ())))))⟩
theorem F71.r0 {R : Type} (k j : Nat) (s10 : Int) (b6_0 : List (Int × Int × Int × List Int)) (b6_1 : List (Int × Int × Int × Bool × (Int × Int) × Int × Int × (List Int) × (List Int) × (List Int) × Int × Int × (List (Int × List Int)) × (List (Int × List Int)) × Int × (List (Int × Int)) × Int)) (b6_2 : List Int) (b6_3 : Int) (l7 : List Int) (l9 : List Int) (e : Outs (F71.L0 (R := R) k).outs → Option R) :
    evRound F71.C k [] (F71.L0 (R := R) k).inn (F71.L0 (R := R) k).outs (loopOf Proofs.Try.f4 0) 1 ((s10, ()), ((b6_0, b6_1, b6_2, b6_3, ()), l7, l9, ())) (fun x => F71.loop0 k j x.1.1 x.2.1.1 x.2.1.2.1 x.2.1.2.2.1 x.2.1.2.2.2.1 x.2.2.1 x.2.2.2.1 (fun u0 => e (.inl ((u0, ()), ()))) (fun u0 u1 u2 u3 u4 u5 => e (.inr (((), ((u0, u1, u2, u3, ()), u4, u5, ())))))) e =
    F71.loop0 k (j + 1) s10 b6_0 b6_1 b6_2 b6_3 l7 l9 (fun u0 => e (.inl ((u0, ()), ()))) (fun u0 u1 u2 u3 u4 u5 => e (.inr (((), ((u0, u1, u2, u3, ()), u4, u5, ()))))) := by kernel_rfl
noncomputable def F71.L2 {R : Type} (k : Nat) : LC R := ⟨4, ⟨[(9, .arr 0), (11, .val I6), (12, .val I6), (13, .arr 1), (14, .val I6)], [.arr I6, .arr I6]⟩, [(.ret, ⟨[(4, .val .bool)], []⟩), (.ex 4, ⟨[(9, .arr 0), (12, .val I6)], [.arr I6]⟩)], fun x e => F71.loop2 k k x.1.1 x.1.2.1 x.1.2.2.1 x.2.1 x.2.2.1 (fun u0 => e (.inl ((u0, ()), ()))) (fun u0 u1 => e (.inr (((u0, ()), (u1, ())))))⟩
theorem F71.r2 {R : Type} (k j : Nat) (s11 : Int) (s12 : Int) (s14 : Int) (l9 : List Int) (l13 : List Int) (e : Outs (F71.L2 (R := R) k).outs → Option R) :
    evRound F71.C k [] (F71.L2 (R := R) k).inn (F71.L2 (R := R) k).outs (loopOf Proofs.Try.f4 2) 3 ((s11, s12, s14, ()), (l9, l13, ())) (fun x => F71.loop2 k j x.1.1 x.1.2.1 x.1.2.2.1 x.2.1 x.2.2.1 (fun u0 => e (.inl ((u0, ()), ()))) (fun u0 u1 => e (.inr (((u0, ()), (u1, ())))))) e =
    F71.loop2 k (j + 1) s11 s12 s14 l9 l13 (fun u0 => e (.inl ((u0, ()), ()))) (fun u0 u1 => e (.inr (((u0, ()), (u1, ()))))) := by kernel_rfl
noncomputable def F71.L3 {R : Type} (k : Nat) : LC R := ⟨6, ⟨[(7, .arr 0), (9, .arr 1), (11, .val I6), (15, .val I6)], [.arr I6, .arr I6]⟩, [(.ret, ⟨[(4, .val .bool)], []⟩), (.ex 6, ⟨[(7, .arr 0), (9, .arr 1)], [.arr I6, .arr I6]⟩)], fun x e => F71.loop3 k k x.1.1 x.1.2.1 x.2.1 x.2.2.1 (fun u0 => e (.inl ((u0, ()), ()))) (fun u0 u1 => e (.inr (((), (u0, u1, ())))))⟩
theorem F71.r3 {R : Type} (k j : Nat) (s11 : Int) (s15 : Int) (l7 : List Int) (l9 : List Int) (e : Outs (F71.L3 (R := R) k).outs → Option R) :
    evRound F71.C k [] (F71.L3 (R := R) k).inn (F71.L3 (R := R) k).outs (loopOf Proofs.Try.f4 3) 4 ((s11, s15, ()), (l7, l9, ())) (fun x => F71.loop3 k j x.1.1 x.1.2.1 x.2.1 x.2.2.1 (fun u0 => e (.inl ((u0, ()), ()))) (fun u0 u1 => e (.inr (((), (u0, u1, ())))))) e =
    F71.loop3 k (j + 1) s11 s15 l7 l9 (fun u0 => e (.inl ((u0, ()), ()))) (fun u0 u1 => e (.inr (((), (u0, u1, ()))))) := by kernel_rfl
noncomputable def F71.L1 {R : Type} (k : Nat) : LC R := ⟨2, ⟨[(6, .ptr 0), (7, .arr 1), (9, .arr 2), (11, .val I6)], [.box (some (.pair (.sl (.pair I6 (.pair I6 (.pair I6 (.sl I6))))) (.pair (.sl (.pair I6 (.pair I6 (.pair I6 (.pair .bool (.pair (.pair I6 I6) (.pair I6 (.pair I6 (.pair (.sl I6) (.pair (.sl I6) (.pair (.sl I6) (.pair I6 (.pair I6 (.pair (.sl (.pair I6 (.sl I6))) (.pair (.sl (.pair I6 (.sl I6))) (.pair I6 (.pair (.sl (.pair I6 I6)) I6))))))))))))))))) (.pair (.sl I6) I6)))) [(.sl (.pair I6 (.pair I6 (.pair I6 (.sl I6))))), (.sl (.pair I6 (.pair I6 (.pair I6 (.pair .bool (.pair (.pair I6 I6) (.pair I6 (.pair I6 (.pair (.sl I6) (.pair (.sl I6) (.pair (.sl I6) (.pair I6 (.pair I6 (.pair (.sl (.pair I6 (.sl I6))) (.pair (.sl (.pair I6 (.sl I6))) (.pair I6 (.pair (.sl (.pair I6 I6)) I6))))))))))))))))), (.sl I6), I6], .arr I6, .arr I6]⟩, [(.ret, ⟨[(4, .val .bool)], []⟩), (.ex 2, ⟨[], []⟩)], fun x e => F71.loop1 k k x.1.1 x.2.1.1 x.2.1.2.1 x.2.1.2.2.1 x.2.1.2.2.2.1 x.2.2.1 x.2.2.2.1 (fun u0 => e (.inl ((u0, ()), ()))) (fun _ => e (.inr (((), ()))))⟩
theorem F71.r1 {R : Type} (k j : Nat) (s11 : Int) (b6_0 : List (Int × Int × Int × List Int)) (b6_1 : List (Int × Int × Int × Bool × (Int × Int) × Int × Int × (List Int) × (List Int) × (List Int) × Int × Int × (List (Int × List Int)) × (List (Int × List Int)) × Int × (List (Int × Int)) × Int)) (b6_2 : List Int) (b6_3 : Int) (l7 : List Int) (l9 : List Int) (e : Outs (F71.L1 (R := R) k).outs → Option R) :
    evRound F71.C k [F71.L2 k, F71.L3 k] (F71.L1 (R := R) k).inn (F71.L1 (R := R) k).outs (loopOf Proofs.Try.f4 1) 2 ((s11, ()), ((b6_0, b6_1, b6_2, b6_3, ()), l7, l9, ())) (fun x => F71.loop1 k j x.1.1 x.2.1.1 x.2.1.2.1 x.2.1.2.2.1 x.2.1.2.2.2.1 x.2.2.1 x.2.2.2.1 (fun u0 => e (.inl ((u0, ()), ()))) (fun _ => e (.inr (((), ()))))) e =
    F71.loop1 k (j + 1) s11 b6_0 b6_1 b6_2 b6_3 l7 l9 (fun u0 => e (.inl ((u0, ()), ()))) (fun _ => e (.inr (((), ())))) := by kernel_rfl
theorem F71.eq (k : Nat) (a0 : List Int) (a1 : Int) :
    evF F71.C k [F71.L0 k, F71.L2 k, F71.L3 k, F71.L1 k] Proofs.Try.f4 [.imm (.sl I6), .imm I6] [.bool] (a0, a1, ()) some = F71 k a0 a1 := by kernel_rfl

end Go.Lf.T
