import Derived.Test.YtagpgomkblgooaaLfSh15
import Derived.KernelRfl
import Derived.Test.YtagpgomkblgooaaProg
set_option linter.unusedVariables false
set_option maxRecDepth 100000
namespace Go.Lf.T
open Go Go.Lf

def tis : List (TypeId × TI) := [
  (3, ⟨1, 8, .int .i64, [.int .i64 0], []⟩),
  (4, ⟨1, 1, .bool, [.bool false], []⟩),
  (22, ⟨1, 24, .slice 3, [.nils], []⟩),
  (24, ⟨3, 24, .struct [(0, 1), (1, 1), (2, 1)], [.int .i64 0, .int .i64 0, .int .i64 0], [true, true, true]⟩),
  (29, ⟨2, 16, .struct [(0, 1), (1, 1)], [.int .i64 0, .int .i64 0], [true, true]⟩),
  (30, ⟨1, 24, .slice 55, [.nils], []⟩),
  (31, ⟨1, 24, .slice 57, [.nils], []⟩),
  (33, ⟨18, 240, .struct [(0, 1), (1, 1), (2, 1), (3, 1), (4, 2), (6, 1), (7, 1), (8, 1), (9, 1), (10, 1), (11, 1), (12, 1), (13, 1), (14, 1), (15, 1), (16, 1), (17, 1)], [.int .i64 0, .int .i64 0, .int .i64 0, .bool false, .int .i64 0, .int .i64 0, .int .i64 0, .int .i64 0, .nils, .nils, .nils, .int .i64 0, .int .i64 0, .nils, .nils, .int .i64 0, .nils, .int .i64 0], []⟩),
  (48, ⟨2, 32, .struct [(0, 1), (1, 1)], [.nils, .int .i64 0], []⟩),
  (55, ⟨2, 32, .struct [(0, 1), (1, 1)], [.int .i64 0, .nils], []⟩),
  (57, ⟨2, 16, .struct [(0, 1), (1, 1)], [.int .i64 0, .int .i64 0], [true, true]⟩),
  (78, ⟨1, 8, .int .u64, [.int .u64 0], []⟩),
  (87, ⟨1, 24, .slice 89, [.nils], []⟩),
  (89, ⟨2, 16, .struct [(0, 1), (1, 1)], [.int .i64 0, .int .i64 0], [true, true]⟩),
  (93, ⟨2, 16, .struct [(0, 1), (1, 1)], [.int .i64 0, .int .i64 0], [true, true]⟩),
  (96, ⟨1, 24, .slice 98, [.nils], []⟩),
  (98, ⟨2, 16, .struct [(0, 1), (1, 1)], [.int .i64 0, .int .i64 0], [true, true]⟩)]

def etys : List (TypeId × Ty) := [
  (3, (.int .i64)),
  (24, (.pair (.int .i64) (.pair (.int .i64) (.int .i64)))),
  (29, (.pair (.int .i64) (.int .i64))),
  (33, (.pair (.int .i64) (.pair (.int .i64) (.pair (.int .i64) (.pair .bool (.pair (.pair (.int .i64) (.int .i64)) (.pair (.int .i64) (.pair (.int .i64) (.pair (.sl (.int .i64)) (.pair (.sl (.int .i64)) (.pair (.sl (.int .i64)) (.pair (.int .i64) (.pair (.int .i64) (.pair (.sl (.pair (.int .i64) (.sl (.int .i64)))) (.pair (.sl (.pair (.int .i64) (.sl (.int .i64)))) (.pair (.int .i64) (.pair (.sl (.pair (.int .i64) (.int .i64))) (.int .i64)))))))))))))))))),
  (48, (.pair (.sl (.int .i64)) (.int .i64))),
  (55, (.pair (.int .i64) (.sl (.int .i64)))),
  (57, (.pair (.int .i64) (.int .i64))),
  (89, (.pair (.int .i64) (.int .i64))),
  (93, (.pair (.int .i64) (.int .i64))),
  (98, (.pair (.int .i64) (.int .i64)))]

noncomputable def tilefarmgen_New.S : FSem := ⟨5, [.imm (.sl (.int .i64))], [(.bx (.pair (.sl (.int .i64)) (.int .i64)))], fun k x => tilefarmgen_New k x.1⟩
noncomputable def tilefarmgen_New.C : Ctx := ⟨tis, etys, [], [0, 2], [], 6⟩
theorem tilefarmgen_New.eq (k : Nat) (a0 : List Int) :
    evF tilefarmgen_New.C k [] Proofs.Try.f5 [.imm (.sl (.int .i64))] [(.bx (.pair (.sl (.int .i64)) (.int .i64)))] (a0, ()) some = tilefarmgen_New k a0 := by kernel_rfl

noncomputable def tilefarmgen_Mod.S : FSem := ⟨38, [.imm (.int .i64), .imm (.int .i64)], [(.int .i64)], fun k x => tilefarmgen_Mod k x.1 x.2.1⟩
noncomputable def tilefarmgen_Mod.C : Ctx := ⟨tis, etys, [], [0, 1, 4, 5, 10], [], 15⟩
theorem tilefarmgen_Mod.eq (k : Nat) (a0 : Int) (a1 : Int) :
    evF tilefarmgen_Mod.C k [] Proofs.Try.f38 [.imm (.int .i64), .imm (.int .i64)] [(.int .i64)] (a0, a1, ()) some = tilefarmgen_Mod k a0 a1 := by kernel_rfl

noncomputable def tilefarmgen_Tape_Next.S : FSem := ⟨19, [.bor (.pair (.sl (.int .i64)) (.int .i64)) true, .imm (.int .i64)], [(.int .i64)], fun k x => tilefarmgen_Tape_Next k x.1 x.2.1⟩
noncomputable def tilefarmgen_Tape_Next.C : Ctx := ⟨tis, etys, [tilefarmgen_Mod.S], [0, 1, 4, 18], [0], 39⟩
theorem tilefarmgen_Tape_Next.eq (k : Nat) (a0 : (List Int) × Int) (a1 : Int) :
    evF tilefarmgen_Tape_Next.C k [] Proofs.Try.f19 [.bor (.pair (.sl (.int .i64)) (.int .i64)) true, .imm (.int .i64)] [(.int .i64)] (a0, a1, ()) some = tilefarmgen_Tape_Next k a0 a1 := by kernel_rfl

noncomputable def tilefarmgen_Tape_Pick.S : FSem := ⟨20, [.bor (.pair (.sl (.int .i64)) (.int .i64)) true, .imm (.sl (.int .i64))], [(.int .i64)], fun k x => tilefarmgen_Tape_Pick k x.1 x.2.1⟩
noncomputable def tilefarmgen_Tape_Pick.C : Ctx := ⟨tis, etys, [tilefarmgen_Tape_Next.S], [0, 1, 4], [0], 12⟩
theorem tilefarmgen_Tape_Pick.eq (k : Nat) (a0 : (List Int) × Int) (a1 : List Int) :
    evF tilefarmgen_Tape_Pick.C k [] Proofs.Try.f20 [.bor (.pair (.sl (.int .i64)) (.int .i64)) true, .imm (.sl (.int .i64))] [(.int .i64)] (a0, a1, ()) some = tilefarmgen_Tape_Pick k a0 a1 := by kernel_rfl

noncomputable def tilefarmlaw15_small.S : FSem := ⟨6, [.bor (.pair (.sl (.int .i64)) (.int .i64)) true], [(.pair (.int .i64) (.pair (.int .i64) (.int .i64)))], fun k x => tilefarmlaw15_small k x.1⟩
noncomputable def tilefarmlaw15_small.C : Ctx := ⟨tis, etys, [tilefarmgen_Tape_Next.S, tilefarmgen_Tape_Pick.S], [0, 2], [0], 13⟩
theorem tilefarmlaw15_small.eq (k : Nat) (a0 : (List Int) × Int) :
    evF tilefarmlaw15_small.C k [] Proofs.Try.f6 [.bor (.pair (.sl (.int .i64)) (.int .i64)) true] [(.pair (.int .i64) (.pair (.int .i64) (.int .i64)))] (a0, ()) some = tilefarmlaw15_small k a0 := by kernel_rfl

noncomputable def tilefarmgen_Tape_Edge.S : FSem := ⟨21, [.bor (.pair (.sl (.int .i64)) (.int .i64)) true, .imm (.int .i64)], [(.pair (.int .i64) (.int .i64))], fun k x => tilefarmgen_Tape_Edge k x.1 x.2.1⟩
noncomputable def tilefarmgen_Tape_Edge.C : Ctx := ⟨tis, etys, [tilefarmgen_Tape_Next.S, tilefarmgen_Tape_Pick.S], [0, 1, 4, 5, 11], [0], 20⟩
theorem tilefarmgen_Tape_Edge.eq (k : Nat) (a0 : (List Int) × Int) (a1 : Int) :
    evF tilefarmgen_Tape_Edge.C k [] Proofs.Try.f21 [.bor (.pair (.sl (.int .i64)) (.int .i64)) true, .imm (.int .i64)] [(.pair (.int .i64) (.int .i64))] (a0, a1, ()) some = tilefarmgen_Tape_Edge k a0 a1 := by kernel_rfl

noncomputable def tilefarmgen_Tape_Weights.S : FSem := ⟨22, [.bor (.pair (.sl (.int .i64)) (.int .i64)) true, .imm (.int .i64)], [(.sl (.int .i64))], fun k x => tilefarmgen_Tape_Weights k x.1 x.2.1⟩
noncomputable def tilefarmgen_Tape_Weights.C : Ctx := ⟨tis, etys, [tilefarmgen_Tape_Next.S, tilefarmgen_Tape_Pick.S], [0, 1, 4, 5, 6, 9], [0], 22⟩
noncomputable def tilefarmgen_Tape_Weights.L0 {R : Type} (k : Nat) : LC R := ⟨0, ⟨[(0, .ptr 0), (1, .val (.int .i64)), (5, .arr 1), (6, .val (.int .i64))], [.box (some (.pair (.sl (.int .i64)) (.int .i64))) [(.sl (.int .i64)), (.int .i64)], .arr (.int .i64)]⟩, [(.ex 0, ⟨[(0, .ptr 0), (5, .arr 1)], [.box (some (.pair (.sl (.int .i64)) (.int .i64))) [(.sl (.int .i64)), (.int .i64)], .arr (.int .i64)]⟩)], fun x e => tilefarmgen_Tape_Weights.loop0 k k x.1.1 x.1.2.1 x.2.1.1 x.2.1.2.1 x.2.2.1 (fun u0 u1 u2 => e ((), ((u0, u1, ()), u2, ())))⟩
theorem tilefarmgen_Tape_Weights.r0 {R : Type} (k j : Nat) (s1 : Int) (s6 : Int) (b0_0 : List Int) (b0_1 : Int) (l5 : List Int) (e : Outs (tilefarmgen_Tape_Weights.L0 (R := R) k).outs → Option R) :
    evRound tilefarmgen_Tape_Weights.C k [] (tilefarmgen_Tape_Weights.L0 (R := R) k).inn (tilefarmgen_Tape_Weights.L0 (R := R) k).outs (loopOf Proofs.Try.f22 0) 1 ((s1, s6, ()), ((b0_0, b0_1, ()), l5, ())) (fun x => tilefarmgen_Tape_Weights.loop0 k j x.1.1 x.1.2.1 x.2.1.1 x.2.1.2.1 x.2.2.1 (fun u0 u1 u2 => e ((), ((u0, u1, ()), u2, ())))) e =
    tilefarmgen_Tape_Weights.loop0 k (j + 1) s1 s6 b0_0 b0_1 l5 (fun u0 u1 u2 => e ((), ((u0, u1, ()), u2, ()))) := by kernel_rfl
theorem tilefarmgen_Tape_Weights.eq (k : Nat) (a0 : (List Int) × Int) (a1 : Int) :
    evF tilefarmgen_Tape_Weights.C k [tilefarmgen_Tape_Weights.L0 k] Proofs.Try.f22 [.bor (.pair (.sl (.int .i64)) (.int .i64)) true, .imm (.int .i64)] [(.sl (.int .i64))] (a0, a1, ()) some = tilefarmgen_Tape_Weights k a0 a1 := by kernel_rfl

noncomputable def tilefarmref8_side.S : FSem := ⟨53, [.imm (.int .i64)], [.bool], fun k x => tilefarmref8_side k x.1⟩
noncomputable def tilefarmref8_side.C : Ctx := ⟨tis, etys, [], [0, 2], [], 9⟩
theorem tilefarmref8_side.eq (k : Nat) (a0 : Int) :
    evF tilefarmref8_side.C k [] Proofs.Try.f53 [.imm (.int .i64)] [.bool] (a0, ()) some = tilefarmref8_side k a0 := by kernel_rfl

noncomputable def tilefarmref8_Linear.S : FSem := ⟨39, [.imm (.int .i64), .imm (.int .i64), .imm (.int .i64)], [(.ow (.pair (.int .i64) (.sl (.int .i64)))), (.int .i64)], fun k x => tilefarmref8_Linear k x.1 x.2.1 x.2.2.1⟩
noncomputable def tilefarmref8_Linear.C : Ctx := ⟨tis, etys, [tilefarmref8_side.S], [0, 1, 2, 6, 7, 8, 9, 10, 11, 12, 13, 14, 22, 28, 31, 50], [], 80⟩
noncomputable def tilefarmref8_Linear.L0 {R : Type} (k : Nat) : LC R := ⟨0, ⟨[(0, .val (.int .i64)), (1, .val (.int .i64)), (2, .val (.int .i64)), (8, .arr 0), (9, .val (.int .i64))], [.arr (.pair (.int .i64) (.sl (.int .i64)))]⟩, [(.ex 0, ⟨[(8, .arr 0)], [.arr (.pair (.int .i64) (.sl (.int .i64)))]⟩)], fun x e => tilefarmref8_Linear.loop0 k k x.1.1 x.1.2.1 x.1.2.2.1 x.1.2.2.2.1 x.2.1 (fun u0 => e ((), (u0, ())))⟩
theorem tilefarmref8_Linear.r0 {R : Type} (k j : Nat) (s0 : Int) (s1 : Int) (s2 : Int) (s9 : Int) (l8 : List (Int × List Int)) (e : Outs (tilefarmref8_Linear.L0 (R := R) k).outs → Option R) :
    evRound tilefarmref8_Linear.C k [] (tilefarmref8_Linear.L0 (R := R) k).inn (tilefarmref8_Linear.L0 (R := R) k).outs (loopOf Proofs.Try.f39 0) 1 ((s0, s1, s2, s9, ()), (l8, ())) (fun x => tilefarmref8_Linear.loop0 k j x.1.1 x.1.2.1 x.1.2.2.1 x.1.2.2.2.1 x.2.1 (fun u0 => e ((), (u0, ())))) e =
    tilefarmref8_Linear.loop0 k (j + 1) s0 s1 s2 s9 l8 (fun u0 => e ((), (u0, ()))) := by kernel_rfl
theorem tilefarmref8_Linear.eq (k : Nat) (a0 : Int) (a1 : Int) (a2 : Int) :
    evF tilefarmref8_Linear.C k [tilefarmref8_Linear.L0 k] Proofs.Try.f39 [.imm (.int .i64), .imm (.int .i64), .imm (.int .i64)] [(.ow (.pair (.int .i64) (.sl (.int .i64)))), (.int .i64)] (a0, a1, a2, ()) some = tilefarmref8_Linear k a0 a1 a2 := by kernel_rfl

noncomputable def tilefarmref8_divide.S : FSem := ⟨54, [.imm (.int .i64), .imm (.sl (.int .i64))], [(.sl (.int .i64))], fun k x => tilefarmref8_divide k x.1 x.2.1⟩
noncomputable def tilefarmref8_divide.C : Ctx := ⟨tis, etys, [], [0, 1, 4, 5, 6, 7, 8, 9, 10, 11, 12, 16, 35, 67, 73, 84], [], 96⟩
noncomputable def tilefarmref8_divide.L0 {R : Type} (k : Nat) : LC R := ⟨0, ⟨[(1, .val (.sl (.int .i64))), (5, .val (.int .i64)), (6, .val (.int .i64))], []⟩, [(.ex 0, ⟨[(5, .val (.int .i64))], []⟩)], fun x e => tilefarmref8_divide.loop0 k k x.1.1 x.1.2.1 x.1.2.2.1 (fun u0 => e ((u0, ()), ()))⟩
theorem tilefarmref8_divide.r0 {R : Type} (k j : Nat) (s1 : List Int) (s5 : Int) (s6 : Int) (e : Outs (tilefarmref8_divide.L0 (R := R) k).outs → Option R) :
    evRound tilefarmref8_divide.C k [] (tilefarmref8_divide.L0 (R := R) k).inn (tilefarmref8_divide.L0 (R := R) k).outs (loopOf Proofs.Try.f54 0) 1 ((s1, s5, s6, ()), ()) (fun x => tilefarmref8_divide.loop0 k j x.1.1 x.1.2.1 x.1.2.2.1 (fun u0 => e ((u0, ()), ()))) e =
    tilefarmref8_divide.loop0 k (j + 1) s1 s5 s6 (fun u0 => e ((u0, ()), ())) := by kernel_rfl
noncomputable def tilefarmref8_divide.L1 {R : Type} (k : Nat) : LC R := ⟨2, ⟨[(0, .val (.int .i64)), (1, .val (.sl (.int .i64))), (5, .val (.int .i64)), (7, .arr 0), (8, .arr 1), (9, .val (.int .i64)), (10, .val (.int .i64))], [.arr (.int .i64), .arr (.int .i64)]⟩, [(.ex 2, ⟨[(7, .arr 0), (8, .arr 1), (9, .val (.int .i64))], [.arr (.int .i64), .arr (.int .i64)]⟩)], fun x e => tilefarmref8_divide.loop1 k k x.1.1 x.1.2.1 x.1.2.2.1 x.1.2.2.2.1 x.1.2.2.2.2.1 x.2.1 x.2.2.1 (fun u0 u1 u2 => e ((u0, ()), (u1, u2, ())))⟩
theorem tilefarmref8_divide.r1 {R : Type} (k j : Nat) (s0 : Int) (s1 : List Int) (s5 : Int) (s9 : Int) (s10 : Int) (l7 : List Int) (l8 : List Int) (e : Outs (tilefarmref8_divide.L1 (R := R) k).outs → Option R) :
    evRound tilefarmref8_divide.C k [] (tilefarmref8_divide.L1 (R := R) k).inn (tilefarmref8_divide.L1 (R := R) k).outs (loopOf Proofs.Try.f54 1) 2 ((s0, s1, s5, s9, s10, ()), (l7, l8, ())) (fun x => tilefarmref8_divide.loop1 k j x.1.1 x.1.2.1 x.1.2.2.1 x.1.2.2.2.1 x.1.2.2.2.2.1 x.2.1 x.2.2.1 (fun u0 u1 u2 => e ((u0, ()), (u1, u2, ())))) e =
    tilefarmref8_divide.loop1 k (j + 1) s0 s1 s5 s9 s10 l7 l8 (fun u0 u1 u2 => e ((u0, ()), (u1, u2, ()))) := by kernel_rfl
noncomputable def tilefarmref8_divide.L3 {R : Type} (k : Nat) : LC R := ⟨6, ⟨[(8, .arr 0), (11, .val (.int .i64)), (12, .val (.int .i64))], [.arr (.int .i64)]⟩, [(.ex 6, ⟨[(8, .arr 0), (11, .val (.int .i64))], [.arr (.int .i64)]⟩)], fun x e => tilefarmref8_divide.loop3 k k x.1.1 x.1.2.1 x.2.1 (fun u0 u1 => e ((u0, ()), (u1, ())))⟩
theorem tilefarmref8_divide.r3 {R : Type} (k j : Nat) (s11 : Int) (s12 : Int) (l8 : List Int) (e : Outs (tilefarmref8_divide.L3 (R := R) k).outs → Option R) :
    evRound tilefarmref8_divide.C k [] (tilefarmref8_divide.L3 (R := R) k).inn (tilefarmref8_divide.L3 (R := R) k).outs (loopOf Proofs.Try.f54 3) 4 ((s11, s12, ()), (l8, ())) (fun x => tilefarmref8_divide.loop3 k j x.1.1 x.1.2.1 x.2.1 (fun u0 u1 => e ((u0, ()), (u1, ())))) e =
    tilefarmref8_divide.loop3 k (j + 1) s11 s12 l8 (fun u0 u1 => e ((u0, ()), (u1, ()))) := by kernel_rfl
noncomputable def tilefarmref8_divide.L2 {R : Type} (k : Nat) : LC R := ⟨4, ⟨[(7, .arr 0), (8, .arr 1), (9, .val (.int .i64))], [.arr (.int .i64), .arr (.int .i64)]⟩, [(.ex 4, ⟨[(7, .arr 0)], [.arr (.int .i64)]⟩)], fun x e => tilefarmref8_divide.loop2 k k x.1.1 x.2.1 x.2.2.1 (fun u0 => e ((), (u0, ())))⟩
theorem tilefarmref8_divide.r2 {R : Type} (k j : Nat) (s9 : Int) (l7 : List Int) (l8 : List Int) (e : Outs (tilefarmref8_divide.L2 (R := R) k).outs → Option R) :
    evRound tilefarmref8_divide.C k [tilefarmref8_divide.L3 k] (tilefarmref8_divide.L2 (R := R) k).inn (tilefarmref8_divide.L2 (R := R) k).outs (loopOf Proofs.Try.f54 2) 3 ((s9, ()), (l7, l8, ())) (fun x => tilefarmref8_divide.loop2 k j x.1.1 x.2.1 x.2.2.1 (fun u0 => e ((), (u0, ())))) e =
    tilefarmref8_divide.loop2 k (j + 1) s9 l7 l8 (fun u0 => e ((), (u0, ()))) := by kernel_rfl
theorem tilefarmref8_divide.eq (k : Nat) (a0 : Int) (a1 : List Int) :
    evF tilefarmref8_divide.C k [tilefarmref8_divide.L0 k, tilefarmref8_divide.L1 k, tilefarmref8_divide.L3 k, tilefarmref8_divide.L2 k] Proofs.Try.f54 [.imm (.int .i64), .imm (.sl (.int .i64))] [(.sl (.int .i64))] (a0, a1, ()) some = tilefarmref8_divide k a0 a1 := by kernel_rfl

noncomputable def tilefarmref8_Box.S : FSem := ⟨40, [.imm (.int .i64), .imm (.int .i64), .imm (.int .i64)], [(.sl (.pair (.int .i64) (.sl (.int .i64)))), (.int .i64)], fun k x => tilefarmref8_Box k x.1 x.2.1 x.2.2.1⟩
noncomputable def tilefarmref8_Box.C : Ctx := ⟨tis, etys, [tilefarmref8_side.S, tilefarmref8_divide.S], [0, 1, 2, 6, 7, 8, 9, 10, 11, 12, 13, 14, 22, 28, 31, 51, 71], [], 83⟩
noncomputable def tilefarmref8_Box.L1 {R : Type} (k : Nat) : LC R := ⟨2, ⟨[(1, .val (.int .i64)), (10, .val (.int .i64)), (11, .val (.int .i64)), (13, .arr 0), (14, .val (.int .i64))], [.arr (.int .i64)]⟩, [(.ex 2, ⟨[(13, .arr 0)], [.arr (.int .i64)]⟩)], fun x e => tilefarmref8_Box.loop1 k k x.1.1 x.1.2.1 x.1.2.2.1 x.1.2.2.2.1 x.2.1 (fun u0 => e ((), (u0, ())))⟩
theorem tilefarmref8_Box.r1 {R : Type} (k j : Nat) (s1 : Int) (s10 : Int) (s11 : Int) (s14 : Int) (l13 : List Int) (e : Outs (tilefarmref8_Box.L1 (R := R) k).outs → Option R) :
    evRound tilefarmref8_Box.C k [] (tilefarmref8_Box.L1 (R := R) k).inn (tilefarmref8_Box.L1 (R := R) k).outs (loopOf Proofs.Try.f40 1) 2 ((s1, s10, s11, s14, ()), (l13, ())) (fun x => tilefarmref8_Box.loop1 k j x.1.1 x.1.2.1 x.1.2.2.1 x.1.2.2.2.1 x.2.1 (fun u0 => e ((), (u0, ())))) e =
    tilefarmref8_Box.loop1 k (j + 1) s1 s10 s11 s14 l13 (fun u0 => e ((), (u0, ()))) := by kernel_rfl
noncomputable def tilefarmref8_Box.L0 {R : Type} (k : Nat) : LC R := ⟨0, ⟨[(0, .val (.int .i64)), (1, .val (.int .i64)), (2, .val (.int .i64)), (8, .arr 0), (9, .val (.int .i64))], [.arr (.pair (.int .i64) (.sl (.int .i64)))]⟩, [(.ret, ⟨[(6, .arr 0), (7, .val (.int .i64))], [.arr (.pair (.int .i64) (.sl (.int .i64)))]⟩), (.ex 0, ⟨[(8, .arr 0)], [.arr (.pair (.int .i64) (.sl (.int .i64)))]⟩)], fun x e => tilefarmref8_Box.loop0 k k x.1.1 x.1.2.1 x.1.2.2.1 x.1.2.2.2.1 x.2.1 (fun u0 u1 => e (.inl ((u0, ()), (u1, ())))) (fun u0 => e (.inr (((), (u0, ())))))⟩
theorem tilefarmref8_Box.r0 {R : Type} (k j : Nat) (s0 : Int) (s1 : Int) (s2 : Int) (s9 : Int) (l8 : List (Int × List Int)) (e : Outs (tilefarmref8_Box.L0 (R := R) k).outs → Option R) :
    evRound tilefarmref8_Box.C k [tilefarmref8_Box.L1 k] (tilefarmref8_Box.L0 (R := R) k).inn (tilefarmref8_Box.L0 (R := R) k).outs (loopOf Proofs.Try.f40 0) 1 ((s0, s1, s2, s9, ()), (l8, ())) (fun x => tilefarmref8_Box.loop0 k j x.1.1 x.1.2.1 x.1.2.2.1 x.1.2.2.2.1 x.2.1 (fun u0 u1 => e (.inl ((u0, ()), (u1, ())))) (fun u0 => e (.inr (((), (u0, ())))))) e =
    tilefarmref8_Box.loop0 k (j + 1) s0 s1 s2 s9 l8 (fun u0 u1 => e (.inl ((u0, ()), (u1, ())))) (fun u0 => e (.inr (((), (u0, ()))))) := by kernel_rfl
theorem tilefarmref8_Box.eq (k : Nat) (a0 : Int) (a1 : Int) (a2 : Int) :
    evF tilefarmref8_Box.C k [tilefarmref8_Box.L1 k, tilefarmref8_Box.L0 k] Proofs.Try.f40 [.imm (.int .i64), .imm (.int .i64), .imm (.int .i64)] [(.sl (.pair (.int .i64) (.sl (.int .i64)))), (.int .i64)] (a0, a1, a2, ()) some = tilefarmref8_Box k a0 a1 a2 := by kernel_rfl

noncomputable def tilefarmgen_Tape_Table.S : FSem := ⟨23, [.bor (.pair (.sl (.int .i64)) (.int .i64)) true, .imm (.int .i64)], [(.sl (.pair (.int .i64) (.sl (.int .i64))))], fun k x => tilefarmgen_Tape_Table k x.1 x.2.1⟩
noncomputable def tilefarmgen_Tape_Table.C : Ctx := ⟨tis, etys, [tilefarmgen_Tape_Next.S, tilefarmref8_Linear.S, tilefarmref8_Box.S, tilefarmgen_Tape_Weights.S], [0, 1, 4, 5, 6, 8, 9, 10, 22, 30, 36, 41], [0], 57⟩
noncomputable def tilefarmgen_Tape_Table.L0 {R : Type} (k : Nat) : LC R := ⟨0, ⟨[(0, .ptr 0), (1, .val (.int .i64)), (6, .arr 1), (10, .val (.int .i64))], [.box (some (.pair (.sl (.int .i64)) (.int .i64))) [(.sl (.int .i64)), (.int .i64)], .arr (.pair (.int .i64) (.sl (.int .i64)))]⟩, [(.ex 0, ⟨[(0, .ptr 0), (6, .arr 1)], [.box (some (.pair (.sl (.int .i64)) (.int .i64))) [(.sl (.int .i64)), (.int .i64)], .arr (.pair (.int .i64) (.sl (.int .i64)))]⟩)], fun x e => tilefarmgen_Tape_Table.loop0 k k x.1.1 x.1.2.1 x.2.1.1 x.2.1.2.1 x.2.2.1 (fun u0 u1 u2 => e ((), ((u0, u1, ()), u2, ())))⟩
theorem tilefarmgen_Tape_Table.r0 {R : Type} (k j : Nat) (s1 : Int) (s10 : Int) (b0_0 : List Int) (b0_1 : Int) (l6 : List (Int × List Int)) (e : Outs (tilefarmgen_Tape_Table.L0 (R := R) k).outs → Option R) :
    evRound tilefarmgen_Tape_Table.C k [] (tilefarmgen_Tape_Table.L0 (R := R) k).inn (tilefarmgen_Tape_Table.L0 (R := R) k).outs (loopOf Proofs.Try.f23 0) 1 ((s1, s10, ()), ((b0_0, b0_1, ()), l6, ())) (fun x => tilefarmgen_Tape_Table.loop0 k j x.1.1 x.1.2.1 x.2.1.1 x.2.1.2.1 x.2.2.1 (fun u0 u1 u2 => e ((), ((u0, u1, ()), u2, ())))) e =
    tilefarmgen_Tape_Table.loop0 k (j + 1) s1 s10 b0_0 b0_1 l6 (fun u0 u1 u2 => e ((), ((u0, u1, ()), u2, ()))) := by kernel_rfl
theorem tilefarmgen_Tape_Table.eq (k : Nat) (a0 : (List Int) × Int) (a1 : Int) :
    evF tilefarmgen_Tape_Table.C k [tilefarmgen_Tape_Table.L0 k] Proofs.Try.f23 [.bor (.pair (.sl (.int .i64)) (.int .i64)) true, .imm (.int .i64)] [(.sl (.pair (.int .i64) (.sl (.int .i64))))] (a0, a1, ()) some = tilefarmgen_Tape_Table k a0 a1 := by kernel_rfl

noncomputable def tilefarmgen_Tape_Ops.S : FSem := ⟨24, [.bor (.pair (.sl (.int .i64)) (.int .i64)) true, .imm .bool], [(.ow (.pair (.int .i64) (.int .i64)))], fun k x => tilefarmgen_Tape_Ops k x.1 x.2.1⟩
noncomputable def tilefarmgen_Tape_Ops.C : Ctx := ⟨tis, etys, [tilefarmgen_Tape_Pick.S, tilefarmgen_Tape_Next.S], [0, 1, 4, 5, 6, 9, 21, 25, 30, 46], [0], 55⟩
noncomputable def tilefarmgen_Tape_Ops.L0 {R : Type} (k : Nat) : LC R := ⟨0, ⟨[(0, .ptr 0), (5, .arr 1), (6, .val (.int .i64))], [.box (some (.pair (.sl (.int .i64)) (.int .i64))) [(.sl (.int .i64)), (.int .i64)], .arr (.pair (.int .i64) (.int .i64))]⟩, [(.ex 0, ⟨[(0, .ptr 0), (5, .arr 1)], [.box (some (.pair (.sl (.int .i64)) (.int .i64))) [(.sl (.int .i64)), (.int .i64)], .arr (.pair (.int .i64) (.int .i64))]⟩)], fun x e => tilefarmgen_Tape_Ops.loop0 k k x.1.1 x.2.1.1 x.2.1.2.1 x.2.2.1 (fun u0 u1 u2 => e ((), ((u0, u1, ()), u2, ())))⟩
theorem tilefarmgen_Tape_Ops.r0 {R : Type} (k j : Nat) (s6 : Int) (b0_0 : List Int) (b0_1 : Int) (l5 : List (Int × Int)) (e : Outs (tilefarmgen_Tape_Ops.L0 (R := R) k).outs → Option R) :
    evRound tilefarmgen_Tape_Ops.C k [] (tilefarmgen_Tape_Ops.L0 (R := R) k).inn (tilefarmgen_Tape_Ops.L0 (R := R) k).outs (loopOf Proofs.Try.f24 0) 1 ((s6, ()), ((b0_0, b0_1, ()), l5, ())) (fun x => tilefarmgen_Tape_Ops.loop0 k j x.1.1 x.2.1.1 x.2.1.2.1 x.2.2.1 (fun u0 u1 u2 => e ((), ((u0, u1, ()), u2, ())))) e =
    tilefarmgen_Tape_Ops.loop0 k (j + 1) s6 b0_0 b0_1 l5 (fun u0 u1 u2 => e ((), ((u0, u1, ()), u2, ()))) := by kernel_rfl
theorem tilefarmgen_Tape_Ops.eq (k : Nat) (a0 : (List Int) × Int) (a1 : Bool) :
    evF tilefarmgen_Tape_Ops.C k [tilefarmgen_Tape_Ops.L0 k] Proofs.Try.f24 [.bor (.pair (.sl (.int .i64)) (.int .i64)) true, .imm .bool] [(.ow (.pair (.int .i64) (.int .i64)))] (a0, a1, ()) some = tilefarmgen_Tape_Ops k a0 a1 := by kernel_rfl

noncomputable def tilefarmgen_Tape_Stage.S : FSem := ⟨7, [.bor (.pair (.sl (.int .i64)) (.int .i64)) true, .imm (.int .i64), .imm (.pair (.int .i64) (.pair (.int .i64) (.int .i64))), .imm (.int .i64)], [(.pair (.int .i64) (.pair (.int .i64) (.pair (.int .i64) (.pair .bool (.pair (.pair (.int .i64) (.int .i64)) (.pair (.int .i64) (.pair (.int .i64) (.pair (.sl (.int .i64)) (.pair (.sl (.int .i64)) (.pair (.sl (.int .i64)) (.pair (.int .i64) (.pair (.int .i64) (.pair (.sl (.pair (.int .i64) (.sl (.int .i64)))) (.pair (.sl (.pair (.int .i64) (.sl (.int .i64)))) (.pair (.int .i64) (.pair (.sl (.pair (.int .i64) (.int .i64))) (.int .i64)))))))))))))))))], fun k x => tilefarmgen_Tape_Stage k x.1 x.2.1 x.2.2.1 x.2.2.2.1⟩
noncomputable def tilefarmgen_Tape_Stage.C : Ctx := ⟨tis, etys, [tilefarmgen_Tape_Next.S, tilefarmgen_Tape_Pick.S, tilefarmgen_Tape_Edge.S, tilefarmgen_Tape_Weights.S, tilefarmgen_Tape_Table.S, tilefarmgen_Tape_Ops.S], [0, 1, 2, 3, 6, 8, 9, 10, 23, 24, 52, 79, 100, 106, 114], [0], 126⟩
theorem tilefarmgen_Tape_Stage.eq (k : Nat) (a0 : (List Int) × Int) (a1 : Int) (a2 : Int × Int × Int) (a3 : Int) :
    evF tilefarmgen_Tape_Stage.C k [] Proofs.Try.f7 [.bor (.pair (.sl (.int .i64)) (.int .i64)) true, .imm (.int .i64), .imm (.pair (.int .i64) (.pair (.int .i64) (.int .i64))), .imm (.int .i64)] [(.pair (.int .i64) (.pair (.int .i64) (.pair (.int .i64) (.pair .bool (.pair (.pair (.int .i64) (.int .i64)) (.pair (.int .i64) (.pair (.int .i64) (.pair (.sl (.int .i64)) (.pair (.sl (.int .i64)) (.pair (.sl (.int .i64)) (.pair (.int .i64) (.pair (.int .i64) (.pair (.sl (.pair (.int .i64) (.sl (.int .i64)))) (.pair (.sl (.pair (.int .i64) (.sl (.int .i64)))) (.pair (.int .i64) (.pair (.sl (.pair (.int .i64) (.int .i64))) (.int .i64)))))))))))))))))] (a0, a1, a2, a3, ()) some = tilefarmgen_Tape_Stage k a0 a1 a2 a3 := by kernel_rfl

noncomputable def tilefarmgen_Tape_SpoilStage.S : FSem := ⟨8, [.bor (.pair (.sl (.int .i64)) (.int .i64)) true, .imm (.pair (.int .i64) (.pair (.int .i64) (.pair (.int .i64) (.pair .bool (.pair (.pair (.int .i64) (.int .i64)) (.pair (.int .i64) (.pair (.int .i64) (.pair (.sl (.int .i64)) (.pair (.sl (.int .i64)) (.pair (.sl (.int .i64)) (.pair (.int .i64) (.pair (.int .i64) (.pair (.sl (.pair (.int .i64) (.sl (.int .i64)))) (.pair (.sl (.pair (.int .i64) (.sl (.int .i64)))) (.pair (.int .i64) (.pair (.sl (.pair (.int .i64) (.int .i64))) (.int .i64)))))))))))))))))], [(.pair (.int .i64) (.pair (.int .i64) (.pair (.int .i64) (.pair .bool (.pair (.pair (.int .i64) (.int .i64)) (.pair (.int .i64) (.pair (.int .i64) (.pair (.sl (.int .i64)) (.pair (.sl (.int .i64)) (.pair (.sl (.int .i64)) (.pair (.int .i64) (.pair (.int .i64) (.pair (.sl (.pair (.int .i64) (.sl (.int .i64)))) (.pair (.sl (.pair (.int .i64) (.sl (.int .i64)))) (.pair (.int .i64) (.pair (.sl (.pair (.int .i64) (.int .i64))) (.int .i64)))))))))))))))))], fun k x => tilefarmgen_Tape_SpoilStage k x.1 x.2.1⟩
noncomputable def tilefarmgen_Tape_SpoilStage.C : Ctx := ⟨tis, etys, [tilefarmgen_Tape_Next.S, tilefarmgen_Tape_Pick.S, tilefarmgen_Tape_Weights.S], [0, 1, 3, 4, 6, 11, 16, 22, 28, 38, 44, 51, 58, 68, 86, 92, 108, 114, 124], [0], 137⟩
theorem tilefarmgen_Tape_SpoilStage.eq (k : Nat) (a0 : (List Int) × Int) (a1 : Int × Int × Int × Bool × (Int × Int) × Int × Int × (List Int) × (List Int) × (List Int) × Int × Int × (List (Int × List Int)) × (List (Int × List Int)) × Int × (List (Int × Int)) × Int) :
    evF tilefarmgen_Tape_SpoilStage.C k [] Proofs.Try.f8 [.bor (.pair (.sl (.int .i64)) (.int .i64)) true, .imm (.pair (.int .i64) (.pair (.int .i64) (.pair (.int .i64) (.pair .bool (.pair (.pair (.int .i64) (.int .i64)) (.pair (.int .i64) (.pair (.int .i64) (.pair (.sl (.int .i64)) (.pair (.sl (.int .i64)) (.pair (.sl (.int .i64)) (.pair (.int .i64) (.pair (.int .i64) (.pair (.sl (.pair (.int .i64) (.sl (.int .i64)))) (.pair (.sl (.pair (.int .i64) (.sl (.int .i64)))) (.pair (.int .i64) (.pair (.sl (.pair (.int .i64) (.int .i64))) (.int .i64)))))))))))))))))] [(.pair (.int .i64) (.pair (.int .i64) (.pair (.int .i64) (.pair .bool (.pair (.pair (.int .i64) (.int .i64)) (.pair (.int .i64) (.pair (.int .i64) (.pair (.sl (.int .i64)) (.pair (.sl (.int .i64)) (.pair (.sl (.int .i64)) (.pair (.int .i64) (.pair (.int .i64) (.pair (.sl (.pair (.int .i64) (.sl (.int .i64)))) (.pair (.sl (.pair (.int .i64) (.sl (.int .i64)))) (.pair (.int .i64) (.pair (.sl (.pair (.int .i64) (.int .i64))) (.int .i64)))))))))))))))))] (a0, a1, ()) some = tilefarmgen_Tape_SpoilStage k a0 a1 := by kernel_rfl

noncomputable def shape_between.S : FSem := ⟨33, [.imm (.int .i64), .imm (.int .i64), .imm (.int .i64)], [.bool], fun k x => shape_between k x.1 x.2.1 x.2.2.1⟩
noncomputable def shape_between.C : Ctx := ⟨tis, etys, [], [0, 1, 2, 6], [], 15⟩
theorem shape_between.eq (k : Nat) (a0 : Int) (a1 : Int) (a2 : Int) :
    evF shape_between.C k [] Proofs.Try.f33 [.imm (.int .i64), .imm (.int .i64), .imm (.int .i64)] [.bool] (a0, a1, a2, ()) some = shape_between k a0 a1 a2 := by kernel_rfl

noncomputable def shape_Fields_1.S : FSem := ⟨34, [.imm .bool, .imm (.sl (.int .i64)), .bor (.int .i64) true], [.bool], fun k x => shape_Fields_1 k x.1 x.2.1 x.2.2.1⟩
noncomputable def shape_Fields_1.C : Ctx := ⟨tis, etys, [], [0, 1, 2, 5, 7, 8, 9, 10, 11, 16], [2], 19⟩
noncomputable def shape_Fields_1.L0 {R : Type} (k : Nat) : LC R := ⟨0, ⟨[(2, .ptr 0), (8, .val (.sl (.int .i64))), (9, .val (.int .i64)), (10, .val (.int .i64))], [.box (some (.int .i64)) [(.int .i64)]]⟩, [(.ret, ⟨[(2, .ptr 0), (5, .val .bool)], [.box (some (.int .i64)) [(.int .i64)]]⟩), (.ex 0, ⟨[(2, .ptr 0)], [.box (some (.int .i64)) [(.int .i64)]]⟩)], fun x e => shape_Fields_1.loop0 k k x.1.1 x.1.2.1 x.1.2.2.1 x.2.1.1 (fun u0 u1 => e (.inl ((u0, ()), ((u1, ()), ())))) (fun u0 => e (.inr (((), ((u0, ()), ())))))⟩
theorem shape_Fields_1.r0 {R : Type} (k j : Nat) (s8 : List Int) (s9 : Int) (s10 : Int) (b2_0 : Int) (e : Outs (shape_Fields_1.L0 (R := R) k).outs → Option R) :
    evRound shape_Fields_1.C k [] (shape_Fields_1.L0 (R := R) k).inn (shape_Fields_1.L0 (R := R) k).outs (loopOf Proofs.Try.f34 0) 1 ((s8, s9, s10, ()), ((b2_0, ()), ())) (fun x => shape_Fields_1.loop0 k j x.1.1 x.1.2.1 x.1.2.2.1 x.2.1.1 (fun u0 u1 => e (.inl ((u0, ()), ((u1, ()), ())))) (fun u0 => e (.inr (((), ((u0, ()), ())))))) e =
    shape_Fields_1.loop0 k (j + 1) s8 s9 s10 b2_0 (fun u0 u1 => e (.inl ((u0, ()), ((u1, ()), ())))) (fun u0 => e (.inr (((), ((u0, ()), ()))))) := by kernel_rfl
theorem shape_Fields_1.eq (k : Nat) (a0 : Bool) (a1 : List Int) (a2 : Int) :
    evF shape_Fields_1.C k [shape_Fields_1.L0 k] Proofs.Try.f34 [.imm .bool, .imm (.sl (.int .i64)), .bor (.int .i64) true] [.bool] (a0, a1, a2, ()) some = shape_Fields_1 k a0 a1 a2 := by kernel_rfl

noncomputable def shape_edged.S : FSem := ⟨26, [.imm (.int .i64)], [.bool], fun k x => shape_edged k x.1⟩
noncomputable def shape_edged.C : Ctx := ⟨tis, etys, [], [0, 2], [], 13⟩
theorem shape_edged.eq (k : Nat) (a0 : Int) :
    evF shape_edged.C k [] Proofs.Try.f26 [.imm (.int .i64)] [.bool] (a0, ()) some = shape_edged k a0 := by kernel_rfl

noncomputable def shape_Fields.S : FSem := ⟨11, [.imm (.pair (.int .i64) (.pair (.int .i64) (.pair (.int .i64) (.pair .bool (.pair (.pair (.int .i64) (.int .i64)) (.pair (.int .i64) (.pair (.int .i64) (.pair (.sl (.int .i64)) (.pair (.sl (.int .i64)) (.pair (.sl (.int .i64)) (.pair (.int .i64) (.pair (.int .i64) (.pair (.sl (.pair (.int .i64) (.sl (.int .i64)))) (.pair (.sl (.pair (.int .i64) (.sl (.int .i64)))) (.pair (.int .i64) (.pair (.sl (.pair (.int .i64) (.int .i64))) (.int .i64)))))))))))))))))], [.bool], fun k x => shape_Fields k x.1⟩
noncomputable def shape_Fields.C : Ctx := ⟨tis, etys, [shape_between.S, shape_edged.S, shape_Fields_1.S], [0, 1, 2, 3, 4, 18], [], 118⟩
noncomputable def shape_Fields.J4 {R : Type} (k : Nat) : LC R := ⟨9, ⟨[(1, .ptr 0), (3, .ptr 1)], [.box (some (.pair (.int .i64) (.pair (.int .i64) (.pair (.int .i64) (.pair .bool (.pair (.pair (.int .i64) (.int .i64)) (.pair (.int .i64) (.pair (.int .i64) (.pair (.sl (.int .i64)) (.pair (.sl (.int .i64)) (.pair (.sl (.int .i64)) (.pair (.int .i64) (.pair (.int .i64) (.pair (.sl (.pair (.int .i64) (.sl (.int .i64)))) (.pair (.sl (.pair (.int .i64) (.sl (.int .i64)))) (.pair (.int .i64) (.pair (.sl (.pair (.int .i64) (.int .i64))) (.int .i64)))))))))))))))))) [(.int .i64), (.int .i64), (.int .i64), .bool, (.int .i64), (.int .i64), (.int .i64), (.int .i64), (.sl (.int .i64)), (.sl (.int .i64)), (.sl (.int .i64)), (.int .i64), (.int .i64), (.sl (.pair (.int .i64) (.sl (.int .i64)))), (.sl (.pair (.int .i64) (.sl (.int .i64)))), (.int .i64), (.sl (.pair (.int .i64) (.int .i64))), (.int .i64)], .box (some (.int .i64)) [(.int .i64)]]⟩, [(.ret, ⟨[(2, .val .bool)], []⟩)], fun x e => shape_Fields.join4 k x.2.1.1 x.2.1.2.1 x.2.1.2.2.1 x.2.1.2.2.2.1 x.2.1.2.2.2.2.1 x.2.1.2.2.2.2.2.1 x.2.1.2.2.2.2.2.2.1 x.2.1.2.2.2.2.2.2.2.1 x.2.1.2.2.2.2.2.2.2.2.1 x.2.1.2.2.2.2.2.2.2.2.2.1 x.2.1.2.2.2.2.2.2.2.2.2.2.1 x.2.1.2.2.2.2.2.2.2.2.2.2.2.1 x.2.1.2.2.2.2.2.2.2.2.2.2.2.2.1 x.2.1.2.2.2.2.2.2.2.2.2.2.2.2.2.1 x.2.1.2.2.2.2.2.2.2.2.2.2.2.2.2.2.1 x.2.1.2.2.2.2.2.2.2.2.2.2.2.2.2.2.2.1 x.2.1.2.2.2.2.2.2.2.2.2.2.2.2.2.2.2.2.1 x.2.1.2.2.2.2.2.2.2.2.2.2.2.2.2.2.2.2.2.1 x.2.2.1.1 (fun u0 => e ((u0, ()), ()))⟩
theorem shape_Fields.q4 {R : Type} (k : Nat) (b1_0 : Int) (b1_1 : Int) (b1_2 : Int) (b1_3 : Bool) (b1_4 : Int) (b1_5 : Int) (b1_6 : Int) (b1_7 : Int) (b1_8 : List Int) (b1_9 : List Int) (b1_10 : List Int) (b1_11 : Int) (b1_12 : Int) (b1_13 : List (Int × List Int)) (b1_14 : List (Int × List Int)) (b1_15 : Int) (b1_16 : List (Int × Int)) (b1_17 : Int) (b3_0 : Int) (e : Outs (shape_Fields.J4 (R := R) k).outs → Option R) :
    evOnce shape_Fields.C k [] (shape_Fields.J4 (R := R) k).inn (shape_Fields.J4 (R := R) k).outs (joinOf Proofs.Try.f11 4) 0 ((), ((b1_0, b1_1, b1_2, b1_3, b1_4, b1_5, b1_6, b1_7, b1_8, b1_9, b1_10, b1_11, b1_12, b1_13, b1_14, b1_15, b1_16, b1_17, ()), (b3_0, ()), ())) e =
    shape_Fields.join4 k b1_0 b1_1 b1_2 b1_3 b1_4 b1_5 b1_6 b1_7 b1_8 b1_9 b1_10 b1_11 b1_12 b1_13 b1_14 b1_15 b1_16 b1_17 b3_0 (fun u0 => e ((u0, ()), ())) := by kernel_rfl
theorem shape_Fields.eq (k : Nat) (a0 : Int × Int × Int × Bool × (Int × Int) × Int × Int × (List Int) × (List Int) × (List Int) × Int × Int × (List (Int × List Int)) × (List (Int × List Int)) × Int × (List (Int × Int)) × Int) :
    evF shape_Fields.C k [shape_Fields.J4 k] Proofs.Try.f11 [.imm (.pair (.int .i64) (.pair (.int .i64) (.pair (.int .i64) (.pair .bool (.pair (.pair (.int .i64) (.int .i64)) (.pair (.int .i64) (.pair (.int .i64) (.pair (.sl (.int .i64)) (.pair (.sl (.int .i64)) (.pair (.sl (.int .i64)) (.pair (.int .i64) (.pair (.int .i64) (.pair (.sl (.pair (.int .i64) (.sl (.int .i64)))) (.pair (.sl (.pair (.int .i64) (.sl (.int .i64)))) (.pair (.int .i64) (.pair (.sl (.pair (.int .i64) (.int .i64))) (.int .i64)))))))))))))))))] [.bool] (a0, ()) some = shape_Fields k a0 := by kernel_rfl

noncomputable def extent_Mul.S : FSem := ⟨35, [.imm (.int .i64), .imm (.int .i64), .imm (.int .i64)], [(.int .i64), .bool], fun k x => extent_Mul k x.1 x.2.1 x.2.2.1⟩
noncomputable def extent_Mul.C : Ctx := ⟨tis, etys, [], [0, 1, 2, 6, 7, 28], [], 32⟩
theorem extent_Mul.eq (k : Nat) (a0 : Int) (a1 : Int) (a2 : Int) :
    evF extent_Mul.C k [] Proofs.Try.f35 [.imm (.int .i64), .imm (.int .i64), .imm (.int .i64)] [(.int .i64), .bool] (a0, a1, a2, ()) some = extent_Mul k a0 a1 a2 := by kernel_rfl

noncomputable def shape_Valid.S : FSem := ⟨16, [.imm (.pair (.int .i64) (.pair (.int .i64) (.int .i64)))], [.bool], fun k x => shape_Valid k x.1⟩
noncomputable def shape_Valid.C : Ctx := ⟨tis, etys, [extent_Mul.S, shape_between.S], [0, 1, 2, 4], [], 29⟩
theorem shape_Valid.eq (k : Nat) (a0 : Int × Int × Int) :
    evF shape_Valid.C k [] Proofs.Try.f16 [.imm (.pair (.int .i64) (.pair (.int .i64) (.int .i64)))] [.bool] (a0, ()) some = shape_Valid k a0 := by kernel_rfl

noncomputable def shape_two.S : FSem := ⟨25, [.imm (.pair (.int .i64) (.pair (.int .i64) (.pair (.int .i64) (.pair .bool (.pair (.pair (.int .i64) (.int .i64)) (.pair (.int .i64) (.pair (.int .i64) (.pair (.sl (.int .i64)) (.pair (.sl (.int .i64)) (.pair (.sl (.int .i64)) (.pair (.int .i64) (.pair (.int .i64) (.pair (.sl (.pair (.int .i64) (.sl (.int .i64)))) (.pair (.sl (.pair (.int .i64) (.sl (.int .i64)))) (.pair (.int .i64) (.pair (.sl (.pair (.int .i64) (.int .i64))) (.int .i64)))))))))))))))))], [.bool], fun k x => shape_two k x.1⟩
noncomputable def shape_two.C : Ctx := ⟨tis, etys, [], [0, 1, 2], [], 11⟩
theorem shape_two.eq (k : Nat) (a0 : Int × Int × Int × Bool × (Int × Int) × Int × Int × (List Int) × (List Int) × (List Int) × Int × Int × (List (Int × List Int)) × (List (Int × List Int)) × Int × (List (Int × Int)) × Int) :
    evF shape_two.C k [] Proofs.Try.f25 [.imm (.pair (.int .i64) (.pair (.int .i64) (.pair (.int .i64) (.pair .bool (.pair (.pair (.int .i64) (.int .i64)) (.pair (.int .i64) (.pair (.int .i64) (.pair (.sl (.int .i64)) (.pair (.sl (.int .i64)) (.pair (.sl (.int .i64)) (.pair (.int .i64) (.pair (.int .i64) (.pair (.sl (.pair (.int .i64) (.sl (.int .i64)))) (.pair (.sl (.pair (.int .i64) (.sl (.int .i64)))) (.pair (.int .i64) (.pair (.sl (.pair (.int .i64) (.int .i64))) (.int .i64)))))))))))))))))] [.bool] (a0, ()) some = shape_two k a0 := by kernel_rfl

noncomputable def border_Valid.S : FSem := ⟨27, [.imm (.pair (.int .i64) (.int .i64)), .imm (.int .i64)], [.bool], fun k x => border_Valid k x.1 x.2.1⟩
noncomputable def border_Valid.C : Ctx := ⟨tis, etys, [], [0, 1, 2, 4, 6, 7, 14], [], 25⟩
theorem border_Valid.eq (k : Nat) (a0 : Int × Int) (a1 : Int) :
    evF border_Valid.C k [] Proofs.Try.f27 [.imm (.pair (.int .i64) (.int .i64)), .imm (.int .i64)] [.bool] (a0, a1, ()) some = border_Valid k a0 a1 := by kernel_rfl

noncomputable def convolve_kernel.S : FSem := ⟨55, [.imm (.int .i64)], [.bool], fun k x => convolve_kernel k x.1⟩
noncomputable def convolve_kernel.C : Ctx := ⟨tis, etys, [], [0, 2], [], 9⟩
theorem convolve_kernel.eq (k : Nat) (a0 : Int) :
    evF convolve_kernel.C k [] Proofs.Try.f55 [.imm (.int .i64)] [.bool] (a0, ()) some = convolve_kernel k a0 := by kernel_rfl

noncomputable def fixed_Weights.S : FSem := ⟨56, [.imm (.sl (.int .i64))], [(.int .i64)], fun k x => fixed_Weights k x.1⟩
noncomputable def fixed_Weights.C : Ctx := ⟨tis, etys, [], [0, 2, 4, 12, 13, 14, 15, 16, 24], [], 26⟩
noncomputable def fixed_Weights.L0 {R : Type} (k : Nat) : LC R := ⟨0, ⟨[(13, .val (.sl (.int .i64))), (14, .val (.int .i64)), (15, .val (.int .i64))], []⟩, [(.ret, ⟨[(2, .val (.int .i64))], []⟩), (.ex 0, ⟨[], []⟩)], fun x e => fixed_Weights.loop0 k k x.1.1 x.1.2.1 x.1.2.2.1 (fun u0 => e (.inl ((u0, ()), ()))) (fun _ => e (.inr (((), ()))))⟩
theorem fixed_Weights.r0 {R : Type} (k j : Nat) (s13 : List Int) (s14 : Int) (s15 : Int) (e : Outs (fixed_Weights.L0 (R := R) k).outs → Option R) :
    evRound fixed_Weights.C k [] (fixed_Weights.L0 (R := R) k).inn (fixed_Weights.L0 (R := R) k).outs (loopOf Proofs.Try.f56 0) 1 ((s13, s14, s15, ()), ()) (fun x => fixed_Weights.loop0 k j x.1.1 x.1.2.1 x.1.2.2.1 (fun u0 => e (.inl ((u0, ()), ()))) (fun _ => e (.inr (((), ()))))) e =
    fixed_Weights.loop0 k (j + 1) s13 s14 s15 (fun u0 => e (.inl ((u0, ()), ()))) (fun _ => e (.inr (((), ())))) := by kernel_rfl
theorem fixed_Weights.eq (k : Nat) (a0 : List Int) :
    evF fixed_Weights.C k [fixed_Weights.L0 k] Proofs.Try.f56 [.imm (.sl (.int .i64))] [(.int .i64)] (a0, ()) some = fixed_Weights k a0 := by kernel_rfl

noncomputable def convolve_value.S : FSem := ⟨57, [.imm (.int .i64)], [.bool], fun k x => convolve_value k x.1⟩
noncomputable def convolve_value.C : Ctx := ⟨tis, etys, [], [0, 2], [], 9⟩
theorem convolve_value.eq (k : Nat) (a0 : Int) :
    evF convolve_value.C k [] Proofs.Try.f57 [.imm (.int .i64)] [.bool] (a0, ()) some = convolve_value k a0 := by kernel_rfl

noncomputable def fixed_wide_add.S : FSem := ⟨82, [.bor (.pair (.int .i64) (.int .i64)) true, .imm (.int .i64)], [], fun k x => fixed_wide_add k x.1 x.2.1⟩
noncomputable def fixed_wide_add.C : Ctx := ⟨tis, etys, [], [0, 1], [0], 22⟩
theorem fixed_wide_add.eq (k : Nat) (a0 : Int × Int) (a1 : Int) :
    evF fixed_wide_add.C k [] Proofs.Try.f82 [.bor (.pair (.int .i64) (.int .i64)) true, .imm (.int .i64)] [] (a0, a1, ()) some = fixed_wide_add k a0 a1 := by kernel_rfl

noncomputable def fixed_sum.S : FSem := ⟨96, [.imm (.int .i64)], [.bool], fun k x => fixed_sum k x.1⟩
noncomputable def fixed_sum.C : Ctx := ⟨tis, etys, [], [0, 2], [], 9⟩
theorem fixed_sum.eq (k : Nat) (a0 : Int) :
    evF fixed_sum.C k [] Proofs.Try.f96 [.imm (.int .i64)] [.bool] (a0, ()) some = fixed_sum k a0 := by kernel_rfl

noncomputable def fixed_wide_value.S : FSem := ⟨83, [.bor (.pair (.int .i64) (.int .i64)) true], [(.int .i64), .bool], fun k x => fixed_wide_value k x.1⟩
noncomputable def fixed_wide_value.C : Ctx := ⟨tis, etys, [fixed_sum.S], [0, 2, 3, 4, 16], [0], 30⟩
theorem fixed_wide_value.eq (k : Nat) (a0 : Int × Int) :
    evF fixed_wide_value.C k [] Proofs.Try.f83 [.bor (.pair (.int .i64) (.int .i64)) true] [(.int .i64), .bool] (a0, ()) some = fixed_wide_value k a0 := by kernel_rfl

noncomputable def fixed_Bounds.S : FSem := ⟨58, [.imm (.sl (.int .i64)), .imm (.int .i64), .imm (.int .i64)], [(.int .i64), (.int .i64), .bool], fun k x => fixed_Bounds k x.1 x.2.1 x.2.2.1⟩
noncomputable def fixed_Bounds.C : Ctx := ⟨tis, etys, [fixed_Weights.S, fixed_wide_add.S, fixed_wide_value.S], [0, 1, 2, 6, 7, 8, 9, 10, 12, 13, 14, 15, 16, 17, 18, 34, 35, 36, 37, 38, 69], [], 72⟩
noncomputable def fixed_Bounds.L0 {R : Type} (k : Nat) : LC R := ⟨0, ⟨[(1, .val (.int .i64)), (2, .val (.int .i64)), (9, .ptr 0), (10, .ptr 1), (35, .val (.sl (.int .i64))), (36, .val (.int .i64)), (37, .val (.int .i64))], [.box (some (.pair (.int .i64) (.int .i64))) [(.int .i64), (.int .i64)], .box (some (.pair (.int .i64) (.int .i64))) [(.int .i64), (.int .i64)]]⟩, [(.ex 0, ⟨[(9, .ptr 0), (10, .ptr 1)], [.box (some (.pair (.int .i64) (.int .i64))) [(.int .i64), (.int .i64)], .box (some (.pair (.int .i64) (.int .i64))) [(.int .i64), (.int .i64)]]⟩)], fun x e => fixed_Bounds.loop0 k k x.1.1 x.1.2.1 x.1.2.2.1 x.1.2.2.2.1 x.1.2.2.2.2.1 x.2.1.1 x.2.1.2.1 x.2.2.1.1 x.2.2.1.2.1 (fun u0 u1 u2 u3 => e ((), ((u0, u1, ()), (u2, u3, ()), ())))⟩
theorem fixed_Bounds.r0 {R : Type} (k j : Nat) (s1 : Int) (s2 : Int) (s35 : List Int) (s36 : Int) (s37 : Int) (b9_0 : Int) (b9_1 : Int) (b10_0 : Int) (b10_1 : Int) (e : Outs (fixed_Bounds.L0 (R := R) k).outs → Option R) :
    evRound fixed_Bounds.C k [] (fixed_Bounds.L0 (R := R) k).inn (fixed_Bounds.L0 (R := R) k).outs (loopOf Proofs.Try.f58 0) 1 ((s1, s2, s35, s36, s37, ()), ((b9_0, b9_1, ()), (b10_0, b10_1, ()), ())) (fun x => fixed_Bounds.loop0 k j x.1.1 x.1.2.1 x.1.2.2.1 x.1.2.2.2.1 x.1.2.2.2.2.1 x.2.1.1 x.2.1.2.1 x.2.2.1.1 x.2.2.1.2.1 (fun u0 u1 u2 u3 => e ((), ((u0, u1, ()), (u2, u3, ()), ())))) e =
    fixed_Bounds.loop0 k (j + 1) s1 s2 s35 s36 s37 b9_0 b9_1 b10_0 b10_1 (fun u0 u1 u2 u3 => e ((), ((u0, u1, ()), (u2, u3, ()), ()))) := by kernel_rfl
theorem fixed_Bounds.eq (k : Nat) (a0 : List Int) (a1 : Int) (a2 : Int) :
    evF fixed_Bounds.C k [fixed_Bounds.L0 k] Proofs.Try.f58 [.imm (.sl (.int .i64)), .imm (.int .i64), .imm (.int .i64)] [(.int .i64), (.int .i64), .bool] (a0, a1, a2, ()) some = fixed_Bounds k a0 a1 a2 := by kernel_rfl

noncomputable def convolve_Check.S : FSem := ⟨41, [.imm (.int .i64), .imm (.int .i64), .imm (.int .i64), .imm (.sl (.int .i64)), .imm (.int .i64), .imm (.int .i64)], [(.int .i64)], fun k x => convolve_Check k x.1 x.2.1 x.2.2.1 x.2.2.2.1 x.2.2.2.2.1 x.2.2.2.2.2.1⟩
noncomputable def convolve_Check.C : Ctx := ⟨tis, etys, [convolve_kernel.S, fixed_Weights.S, convolve_value.S, fixed_Bounds.S], [0, 1, 2, 3, 4, 5, 12, 15, 31, 42, 50, 59], [], 60⟩
theorem convolve_Check.eq (k : Nat) (a0 : Int) (a1 : Int) (a2 : Int) (a3 : List Int) (a4 : Int) (a5 : Int) :
    evF convolve_Check.C k [] Proofs.Try.f41 [.imm (.int .i64), .imm (.int .i64), .imm (.int .i64), .imm (.sl (.int .i64)), .imm (.int .i64), .imm (.int .i64)] [(.int .i64)] (a0, a1, a2, a3, a4, a5, ()) some = convolve_Check k a0 a1 a2 a3 a4 a5 := by kernel_rfl

noncomputable def separable_shiftable.S : FSem := ⟨59, [.imm (.int .i64)], [.bool], fun k x => separable_shiftable k x.1⟩
noncomputable def separable_shiftable.C : Ctx := ⟨tis, etys, [], [0, 2], [], 9⟩
theorem separable_shiftable.eq (k : Nat) (a0 : Int) :
    evF separable_shiftable.C k [] Proofs.Try.f59 [.imm (.int .i64)] [.bool] (a0, ()) some = separable_shiftable k a0 := by kernel_rfl

noncomputable def separable_value.S : FSem := ⟨60, [.imm (.int .i64)], [.bool], fun k x => separable_value k x.1⟩
noncomputable def separable_value.C : Ctx := ⟨tis, etys, [], [0, 2], [], 9⟩
theorem separable_value.eq (k : Nat) (a0 : Int) :
    evF separable_value.C k [] Proofs.Try.f60 [.imm (.int .i64)] [.bool] (a0, ()) some = separable_value k a0 := by kernel_rfl

noncomputable def fixed_Shift.S : FSem := ⟨84, [.imm (.int .i64), .imm (.int .i64)], [(.int .i64)], fun k x => fixed_Shift k x.1 x.2.1⟩
noncomputable def fixed_Shift.C : Ctx := ⟨tis, etys, [fixed_sum.S], [0, 1, 4, 5, 17], [], 28⟩
theorem fixed_Shift.eq (k : Nat) (a0 : Int) (a1 : Int) :
    evF fixed_Shift.C k [] Proofs.Try.f84 [.imm (.int .i64), .imm (.int .i64)] [(.int .i64)] (a0, a1, ()) some = fixed_Shift k a0 a1 := by kernel_rfl

noncomputable def fixed_Span.S : FSem := ⟨61, [.imm (.int .i64), .imm (.int .i64), .imm (.int .i64)], [(.int .i64), (.int .i64)], fun k x => fixed_Span k x.1 x.2.1 x.2.2.1⟩
noncomputable def fixed_Span.C : Ctx := ⟨tis, etys, [fixed_Shift.S], [0, 1, 2, 6, 7], [], 14⟩
theorem fixed_Span.eq (k : Nat) (a0 : Int) (a1 : Int) (a2 : Int) :
    evF fixed_Span.C k [] Proofs.Try.f61 [.imm (.int .i64), .imm (.int .i64), .imm (.int .i64)] [(.int .i64), (.int .i64)] (a0, a1, a2, ()) some = fixed_Span k a0 a1 a2 := by kernel_rfl

noncomputable def separable_Check.S : FSem := ⟨42, [.imm (.int .i64), .imm (.sl (.int .i64)), .imm (.sl (.int .i64)), .imm (.int .i64), .imm (.int .i64), .imm (.int .i64)], [(.int .i64)], fun k x => separable_Check k x.1 x.2.1 x.2.2.1 x.2.2.2.1 x.2.2.2.2.1 x.2.2.2.2.2.1⟩
noncomputable def separable_Check.C : Ctx := ⟨tis, etys, [fixed_Weights.S, separable_shiftable.S, separable_value.S, fixed_Bounds.S, fixed_Span.S], [0, 1, 2, 3, 4, 5, 12, 13, 14, 15, 33, 51, 59, 67, 84], [], 85⟩
noncomputable def separable_Check.J3 {R : Type} (k : Nat) : LC R := ⟨7, ⟨[(0, .val (.int .i64)), (1, .val (.sl (.int .i64))), (2, .val (.sl (.int .i64))), (3, .val (.int .i64)), (4, .val (.int .i64)), (5, .val (.int .i64))], []⟩, [(.ret, ⟨[(12, .val (.int .i64))], []⟩)], fun x e => separable_Check.join3 k x.1.1 x.1.2.1 x.1.2.2.1 x.1.2.2.2.1 x.1.2.2.2.2.1 x.1.2.2.2.2.2.1 (fun u0 => e ((u0, ()), ()))⟩
theorem separable_Check.q3 {R : Type} (k : Nat) (s0 : Int) (s1 : List Int) (s2 : List Int) (s3 : Int) (s4 : Int) (s5 : Int) (e : Outs (separable_Check.J3 (R := R) k).outs → Option R) :
    evOnce separable_Check.C k [] (separable_Check.J3 (R := R) k).inn (separable_Check.J3 (R := R) k).outs (joinOf Proofs.Try.f42 3) 0 ((s0, s1, s2, s3, s4, s5, ()), ()) e =
    separable_Check.join3 k s0 s1 s2 s3 s4 s5 (fun u0 => e ((u0, ()), ())) := by kernel_rfl
theorem separable_Check.eq (k : Nat) (a0 : Int) (a1 : List Int) (a2 : List Int) (a3 : Int) (a4 : Int) (a5 : Int) :
    evF separable_Check.C k [separable_Check.J3 k] Proofs.Try.f42 [.imm (.int .i64), .imm (.sl (.int .i64)), .imm (.sl (.int .i64)), .imm (.int .i64), .imm (.int .i64), .imm (.int .i64)] [(.int .i64)] (a0, a1, a2, a3, a4, a5, ()) some = separable_Check k a0 a1 a2 a3 a4 a5 := by kernel_rfl

noncomputable def tables_side.S : FSem := ⟨85, [.imm (.int .i64)], [.bool], fun k x => tables_side k x.1⟩
noncomputable def tables_side.C : Ctx := ⟨tis, etys, [], [0, 2], [], 9⟩
theorem tables_side.eq (k : Nat) (a0 : Int) :
    evF tables_side.C k [] Proofs.Try.f85 [.imm (.int .i64)] [.bool] (a0, ()) some = tables_side k a0 := by kernel_rfl

noncomputable def tables_first.S : FSem := ⟨86, [.imm (.int .i64)], [.bool], fun k x => tables_first k x.1⟩
noncomputable def tables_first.C : Ctx := ⟨tis, etys, [], [0, 2], [], 9⟩
theorem tables_first.eq (k : Nat) (a0 : Int) :
    evF tables_first.C k [] Proofs.Try.f86 [.imm (.int .i64)] [.bool] (a0, ()) some = tables_first k a0 := by kernel_rfl

noncomputable def tables_Valid.S : FSem := ⟨62, [.imm (.sl (.pair (.int .i64) (.sl (.int .i64)))), .imm (.int .i64)], [(.int .i64)], fun k x => tables_Valid k x.1 x.2.1⟩
noncomputable def tables_Valid.C : Ctx := ⟨tis, etys, [tables_side.S, tables_first.S], [0, 1, 4, 6, 8, 17, 18, 19, 20, 21, 33, 35, 36, 37, 38, 46, 51], [], 53⟩
noncomputable def tables_Valid.L1 {R : Type} (k : Nat) : LC R := ⟨2, ⟨[(35, .val (.sl (.int .i64))), (36, .val (.int .i64)), (37, .val (.int .i64))], []⟩, [(.ret, ⟨[(4, .val (.int .i64))], []⟩), (.ex 2, ⟨[], []⟩)], fun x e => tables_Valid.loop1 k k x.1.1 x.1.2.1 x.1.2.2.1 (fun u0 => e (.inl ((u0, ()), ()))) (fun _ => e (.inr (((), ()))))⟩
theorem tables_Valid.r1 {R : Type} (k j : Nat) (s35 : List Int) (s36 : Int) (s37 : Int) (e : Outs (tables_Valid.L1 (R := R) k).outs → Option R) :
    evRound tables_Valid.C k [] (tables_Valid.L1 (R := R) k).inn (tables_Valid.L1 (R := R) k).outs (loopOf Proofs.Try.f62 1) 2 ((s35, s36, s37, ()), ()) (fun x => tables_Valid.loop1 k j x.1.1 x.1.2.1 x.1.2.2.1 (fun u0 => e (.inl ((u0, ()), ()))) (fun _ => e (.inr (((), ()))))) e =
    tables_Valid.loop1 k (j + 1) s35 s36 s37 (fun u0 => e (.inl ((u0, ()), ()))) (fun _ => e (.inr (((), ())))) := by kernel_rfl
noncomputable def tables_Valid.L0 {R : Type} (k : Nat) : LC R := ⟨0, ⟨[(18, .val (.sl (.pair (.int .i64) (.sl (.int .i64))))), (19, .val (.int .i64)), (20, .val (.int .i64))], []⟩, [(.ret, ⟨[(4, .val (.int .i64))], []⟩), (.ex 0, ⟨[], []⟩)], fun x e => tables_Valid.loop0 k k x.1.1 x.1.2.1 x.1.2.2.1 (fun u0 => e (.inl ((u0, ()), ()))) (fun _ => e (.inr (((), ()))))⟩
theorem tables_Valid.r0 {R : Type} (k j : Nat) (s18 : List (Int × List Int)) (s19 : Int) (s20 : Int) (e : Outs (tables_Valid.L0 (R := R) k).outs → Option R) :
    evRound tables_Valid.C k [tables_Valid.L1 k] (tables_Valid.L0 (R := R) k).inn (tables_Valid.L0 (R := R) k).outs (loopOf Proofs.Try.f62 0) 1 ((s18, s19, s20, ()), ()) (fun x => tables_Valid.loop0 k j x.1.1 x.1.2.1 x.1.2.2.1 (fun u0 => e (.inl ((u0, ()), ()))) (fun _ => e (.inr (((), ()))))) e =
    tables_Valid.loop0 k (j + 1) s18 s19 s20 (fun u0 => e (.inl ((u0, ()), ()))) (fun _ => e (.inr (((), ())))) := by kernel_rfl
theorem tables_Valid.eq (k : Nat) (a0 : List (Int × List Int)) (a1 : Int) :
    evF tables_Valid.C k [tables_Valid.L1 k, tables_Valid.L0 k] Proofs.Try.f62 [.imm (.sl (.pair (.int .i64) (.sl (.int .i64)))), .imm (.int .i64)] [(.int .i64)] (a0, a1, ()) some = tables_Valid k a0 a1 := by kernel_rfl

noncomputable def resize_shiftable.S : FSem := ⟨63, [.imm (.int .i64)], [.bool], fun k x => resize_shiftable k x.1⟩
noncomputable def resize_shiftable.C : Ctx := ⟨tis, etys, [], [0, 2], [], 9⟩
theorem resize_shiftable.eq (k : Nat) (a0 : Int) :
    evF resize_shiftable.C k [] Proofs.Try.f63 [.imm (.int .i64)] [.bool] (a0, ()) some = resize_shiftable k a0 := by kernel_rfl

noncomputable def resize_value.S : FSem := ⟨64, [.imm (.int .i64)], [.bool], fun k x => resize_value k x.1⟩
noncomputable def resize_value.C : Ctx := ⟨tis, etys, [], [0, 2], [], 9⟩
theorem resize_value.eq (k : Nat) (a0 : Int) :
    evF resize_value.C k [] Proofs.Try.f64 [.imm (.int .i64)] [.bool] (a0, ()) some = resize_value k a0 := by kernel_rfl

noncomputable def resize_Check.S : FSem := ⟨43, [.imm (.pair (.int .i64) (.pair (.int .i64) (.int .i64))), .imm (.sl (.pair (.int .i64) (.sl (.int .i64)))), .imm (.sl (.pair (.int .i64) (.sl (.int .i64)))), .imm (.int .i64), .imm (.int .i64), .imm (.int .i64)], [(.int .i64)], fun k x => resize_Check k x.1 x.2.1 x.2.2.1 x.2.2.2.1 x.2.2.2.2.1 x.2.2.2.2.2.1⟩
noncomputable def resize_Check.C : Ctx := ⟨tis, etys, [tables_Valid.S, extent_Mul.S, resize_shiftable.S, resize_value.S, fixed_Bounds.S, fixed_Span.S], [0, 1, 2, 3, 4, 5, 6, 12, 13, 14, 16, 17, 18, 19, 20, 21, 22, 23, 25, 28, 34, 41, 52, 60, 69, 70, 71, 72, 73, 87, 96, 106, 107, 108, 109, 122], [], 124⟩
noncomputable def resize_Check.L0 {R : Type} (k : Nat) : LC R := ⟨0, ⟨[(3, .val (.int .i64)), (6, .ptr 0), (17, .val (.int .i64)), (18, .val (.int .i64)), (70, .val (.sl (.pair (.int .i64) (.sl (.int .i64))))), (71, .val (.int .i64)), (72, .val (.int .i64))], [.box (some (.pair (.int .i64) (.pair (.int .i64) (.int .i64)))) [(.int .i64), (.int .i64), (.int .i64)]]⟩, [(.ret, ⟨[(12, .val (.int .i64))], []⟩), (.ex 0, ⟨[(17, .val (.int .i64)), (18, .val (.int .i64))], []⟩)], fun x e => resize_Check.loop0 k k x.1.1 x.1.2.1 x.1.2.2.1 x.1.2.2.2.1 x.1.2.2.2.2.1 x.1.2.2.2.2.2.1 x.2.1.1 x.2.1.2.1 x.2.1.2.2.1 (fun u0 => e (.inl ((u0, ()), ()))) (fun u0 u1 => e (.inr (((u0, u1, ()), ()))))⟩
theorem resize_Check.r0 {R : Type} (k j : Nat) (s3 : Int) (s17 : Int) (s18 : Int) (s70 : List (Int × List Int)) (s71 : Int) (s72 : Int) (b6_0 : Int) (b6_1 : Int) (b6_2 : Int) (e : Outs (resize_Check.L0 (R := R) k).outs → Option R) :
    evRound resize_Check.C k [] (resize_Check.L0 (R := R) k).inn (resize_Check.L0 (R := R) k).outs (loopOf Proofs.Try.f43 0) 1 ((s3, s17, s18, s70, s71, s72, ()), ((b6_0, b6_1, b6_2, ()), ())) (fun x => resize_Check.loop0 k j x.1.1 x.1.2.1 x.1.2.2.1 x.1.2.2.2.1 x.1.2.2.2.2.1 x.1.2.2.2.2.2.1 x.2.1.1 x.2.1.2.1 x.2.1.2.2.1 (fun u0 => e (.inl ((u0, ()), ()))) (fun u0 u1 => e (.inr (((u0, u1, ()), ()))))) e =
    resize_Check.loop0 k (j + 1) s3 s17 s18 s70 s71 s72 b6_0 b6_1 b6_2 (fun u0 => e (.inl ((u0, ()), ()))) (fun u0 u1 => e (.inr (((u0, u1, ()), ())))) := by kernel_rfl
noncomputable def resize_Check.L1 {R : Type} (k : Nat) : LC R := ⟨2, ⟨[(17, .val (.int .i64)), (18, .val (.int .i64)), (106, .val (.sl (.pair (.int .i64) (.sl (.int .i64))))), (107, .val (.int .i64)), (108, .val (.int .i64))], []⟩, [(.ret, ⟨[(12, .val (.int .i64))], []⟩), (.ex 2, ⟨[], []⟩)], fun x e => resize_Check.loop1 k k x.1.1 x.1.2.1 x.1.2.2.1 x.1.2.2.2.1 x.1.2.2.2.2.1 (fun u0 => e (.inl ((u0, ()), ()))) (fun _ => e (.inr (((), ()))))⟩
theorem resize_Check.r1 {R : Type} (k j : Nat) (s17 : Int) (s18 : Int) (s106 : List (Int × List Int)) (s107 : Int) (s108 : Int) (e : Outs (resize_Check.L1 (R := R) k).outs → Option R) :
    evRound resize_Check.C k [] (resize_Check.L1 (R := R) k).inn (resize_Check.L1 (R := R) k).outs (loopOf Proofs.Try.f43 1) 2 ((s17, s18, s106, s107, s108, ()), ()) (fun x => resize_Check.loop1 k j x.1.1 x.1.2.1 x.1.2.2.1 x.1.2.2.2.1 x.1.2.2.2.2.1 (fun u0 => e (.inl ((u0, ()), ()))) (fun _ => e (.inr (((), ()))))) e =
    resize_Check.loop1 k (j + 1) s17 s18 s106 s107 s108 (fun u0 => e (.inl ((u0, ()), ()))) (fun _ => e (.inr (((), ())))) := by kernel_rfl
theorem resize_Check.eq (k : Nat) (a0 : Int × Int × Int) (a1 : List (Int × List Int)) (a2 : List (Int × List Int)) (a3 : Int) (a4 : Int) (a5 : Int) :
    evF resize_Check.C k [resize_Check.L0 k, resize_Check.L1 k] Proofs.Try.f43 [.imm (.pair (.int .i64) (.pair (.int .i64) (.int .i64))), .imm (.sl (.pair (.int .i64) (.sl (.int .i64)))), .imm (.sl (.pair (.int .i64) (.sl (.int .i64)))), .imm (.int .i64), .imm (.int .i64), .imm (.int .i64)] [(.int .i64)] (a0, a1, a2, a3, a4, a5, ()) some = resize_Check k a0 a1 a2 a3 a4 a5 := by kernel_rfl

noncomputable def integral_most.S : FSem := ⟨65, [.imm (.pair (.int .i64) (.pair (.int .i64) (.int .i64)))], [(.int .i64), .bool], fun k x => integral_most k x.1⟩
noncomputable def integral_most.C : Ctx := ⟨tis, etys, [extent_Mul.S], [0, 1, 2, 3, 4, 5, 18, 28], [], 35⟩
theorem integral_most.eq (k : Nat) (a0 : Int × Int × Int) :
    evF integral_most.C k [] Proofs.Try.f65 [.imm (.pair (.int .i64) (.pair (.int .i64) (.int .i64)))] [(.int .i64), .bool] (a0, ()) some = integral_most k a0 := by kernel_rfl

noncomputable def integral_Check.S : FSem := ⟨44, [.imm (.pair (.int .i64) (.pair (.int .i64) (.int .i64)))], [(.int .i64)], fun k x => integral_Check k x.1⟩
noncomputable def integral_Check.C : Ctx := ⟨tis, etys, [integral_most.S], [0, 1, 2, 4, 11], [], 12⟩
theorem integral_Check.eq (k : Nat) (a0 : Int × Int × Int) :
    evF integral_Check.C k [] Proofs.Try.f44 [.imm (.pair (.int .i64) (.pair (.int .i64) (.int .i64)))] [(.int .i64)] (a0, ()) some = integral_Check k a0 := by kernel_rfl

noncomputable def pointwise_between.S : FSem := ⟨66, [.imm (.int .i64), .imm (.int .i64), .imm (.int .i64)], [.bool], fun k x => pointwise_between k x.1 x.2.1 x.2.2.1⟩
noncomputable def pointwise_between.C : Ctx := ⟨tis, etys, [], [0, 1, 2, 6], [], 15⟩
theorem pointwise_between.eq (k : Nat) (a0 : Int) (a1 : Int) (a2 : Int) :
    evF pointwise_between.C k [] Proofs.Try.f66 [.imm (.int .i64), .imm (.int .i64), .imm (.int .i64)] [.bool] (a0, a1, a2, ()) some = pointwise_between k a0 a1 a2 := by kernel_rfl

noncomputable def pointwise_takes.S : FSem := ⟨67, [.imm (.int .i64)], [(.int .i64)], fun k x => pointwise_takes k x.1⟩
noncomputable def pointwise_takes.C : Ctx := ⟨tis, etys, [], [0, 2, 3, 4, 8], [], 11⟩
theorem pointwise_takes.eq (k : Nat) (a0 : Int) :
    evF pointwise_takes.C k [] Proofs.Try.f67 [.imm (.int .i64)] [(.int .i64)] (a0, ()) some = pointwise_takes k a0 := by kernel_rfl

noncomputable def pointwise_argument.S : FSem := ⟨68, [.imm (.pair (.int .i64) (.int .i64))], [.bool], fun k x => pointwise_argument k x.1⟩
noncomputable def pointwise_argument.C : Ctx := ⟨tis, etys, [pointwise_between.S], [0, 1, 2, 4, 5, 10], [], 18⟩
theorem pointwise_argument.eq (k : Nat) (a0 : Int × Int) :
    evF pointwise_argument.C k [] Proofs.Try.f68 [.imm (.pair (.int .i64) (.int .i64))] [.bool] (a0, ()) some = pointwise_argument k a0 := by kernel_rfl

noncomputable def pointwise_Valid.S : FSem := ⟨45, [.imm (.sl (.pair (.int .i64) (.int .i64))), .imm .bool], [(.int .i64)], fun k x => pointwise_Valid k x.1 x.2.1⟩
noncomputable def pointwise_Valid.C : Ctx := ⟨tis, etys, [pointwise_between.S, pointwise_takes.S, pointwise_argument.S], [0, 1, 4, 5, 7, 11, 12, 13, 14, 15, 37, 40, 49], [], 50⟩
noncomputable def pointwise_Valid.L0 {R : Type} (k : Nat) : LC R := ⟨0, ⟨[(1, .val .bool), (5, .val (.int .i64)), (12, .val (.sl (.pair (.int .i64) (.int .i64)))), (13, .val (.int .i64)), (14, .val (.int .i64))], []⟩, [(.ret, ⟨[(4, .val (.int .i64))], []⟩), (.ex 0, ⟨[(5, .val (.int .i64))], []⟩)], fun x e => pointwise_Valid.loop0 k k x.1.1 x.1.2.1 x.1.2.2.1 x.1.2.2.2.1 x.1.2.2.2.2.1 (fun u0 => e (.inl ((u0, ()), ()))) (fun u0 => e (.inr (((u0, ()), ()))))⟩
theorem pointwise_Valid.r0 {R : Type} (k j : Nat) (s1 : Bool) (s5 : Int) (s12 : List (Int × Int)) (s13 : Int) (s14 : Int) (e : Outs (pointwise_Valid.L0 (R := R) k).outs → Option R) :
    evRound pointwise_Valid.C k [] (pointwise_Valid.L0 (R := R) k).inn (pointwise_Valid.L0 (R := R) k).outs (loopOf Proofs.Try.f45 0) 1 ((s1, s5, s12, s13, s14, ()), ()) (fun x => pointwise_Valid.loop0 k j x.1.1 x.1.2.1 x.1.2.2.1 x.1.2.2.2.1 x.1.2.2.2.2.1 (fun u0 => e (.inl ((u0, ()), ()))) (fun u0 => e (.inr (((u0, ()), ()))))) e =
    pointwise_Valid.loop0 k (j + 1) s1 s5 s12 s13 s14 (fun u0 => e (.inl ((u0, ()), ()))) (fun u0 => e (.inr (((u0, ()), ())))) := by kernel_rfl
theorem pointwise_Valid.eq (k : Nat) (a0 : List (Int × Int)) (a1 : Bool) :
    evF pointwise_Valid.C k [pointwise_Valid.L0 k] Proofs.Try.f45 [.imm (.sl (.pair (.int .i64) (.int .i64))), .imm .bool] [(.int .i64)] (a0, a1, ()) some = pointwise_Valid k a0 a1 := by kernel_rfl

noncomputable def pointwise_abs.S : FSem := ⟨69, [.imm (.int .i64)], [(.int .i64)], fun k x => pointwise_abs k x.1⟩
noncomputable def pointwise_abs.C : Ctx := ⟨tis, etys, [], [0, 2], [], 7⟩
theorem pointwise_abs.eq (k : Nat) (a0 : Int) :
    evF pointwise_abs.C k [] Proofs.Try.f69 [.imm (.int .i64)] [(.int .i64)] (a0, ()) some = pointwise_abs k a0 := by kernel_rfl

noncomputable def pointwise_times.S : FSem := ⟨87, [.imm (.int .i64), .imm (.int .i64)], [(.int .i64)], fun k x => pointwise_times k x.1 x.2.1⟩
noncomputable def pointwise_times.C : Ctx := ⟨tis, etys, [pointwise_abs.S], [0, 1, 4, 14], [], 18⟩
theorem pointwise_times.eq (k : Nat) (a0 : Int) (a1 : Int) :
    evF pointwise_times.C k [] Proofs.Try.f87 [.imm (.int .i64), .imm (.int .i64)] [(.int .i64)] (a0, a1, ()) some = pointwise_times k a0 a1 := by kernel_rfl

noncomputable def pointwise_combined.S : FSem := ⟨70, [.imm (.int .i64), .imm (.pair (.int .i64) (.int .i64)), .imm (.pair (.int .i64) (.int .i64))], [(.pair (.int .i64) (.int .i64))], fun k x => pointwise_combined k x.1 x.2.1 x.2.2.1⟩
noncomputable def pointwise_combined.C : Ctx := ⟨tis, etys, [pointwise_times.S, pointwise_abs.S], [0, 1, 2, 4, 5, 6, 7, 8, 9, 10, 11, 12, 13, 26, 39, 72, 85, 98], [], 123⟩
theorem pointwise_combined.eq (k : Nat) (a0 : Int) (a1 : Int × Int) (a2 : Int × Int) :
    evF pointwise_combined.C k [] Proofs.Try.f70 [.imm (.int .i64), .imm (.pair (.int .i64) (.int .i64)), .imm (.pair (.int .i64) (.int .i64))] [(.pair (.int .i64) (.int .i64))] (a0, a1, a2, ()) some = pointwise_combined k a0 a1 a2 := by kernel_rfl

noncomputable def pointwise_sum.S : FSem := ⟨71, [.imm (.int .i64)], [.bool], fun k x => pointwise_sum k x.1⟩
noncomputable def pointwise_sum.C : Ctx := ⟨tis, etys, [pointwise_between.S], [0, 2], [], 5⟩
theorem pointwise_sum.eq (k : Nat) (a0 : Int) :
    evF pointwise_sum.C k [] Proofs.Try.f71 [.imm (.int .i64)] [.bool] (a0, ()) some = pointwise_sum k a0 := by kernel_rfl

noncomputable def pointwise_Interval.S : FSem := ⟨46, [.imm (.sl (.pair (.int .i64) (.int .i64))), .imm (.int .i64), .imm (.int .i64)], [(.int .i64), (.int .i64), (.int .i64)], fun k x => pointwise_Interval k x.1 x.2.1 x.2.2.1⟩
noncomputable def pointwise_Interval.C : Ctx := ⟨tis, etys, [pointwise_Valid.S, pointwise_between.S, pointwise_takes.S, pointwise_sum.S, fixed_Span.S, pointwise_abs.S, pointwise_combined.S], [0, 1, 2, 6, 7, 8, 9, 10, 12, 13, 14, 15, 19, 28, 29, 30, 31, 32, 48, 58, 62, 66, 73, 91, 114], [], 128⟩
noncomputable def pointwise_Interval.L0 {R : Type} (k : Nat) : LC R := ⟨0, ⟨[(1, .val (.int .i64)), (2, .val (.int .i64)), (10, .arr 0), (29, .val (.sl (.pair (.int .i64) (.int .i64)))), (30, .val (.int .i64)), (31, .val (.int .i64))], [.arr (.pair (.int .i64) (.int .i64))]⟩, [(.ret, ⟨[(6, .val (.int .i64)), (7, .val (.int .i64)), (8, .val (.int .i64))], []⟩), (.ex 0, ⟨[(10, .arr 0)], [.arr (.pair (.int .i64) (.int .i64))]⟩)], fun x e => pointwise_Interval.loop0 k k x.1.1 x.1.2.1 x.1.2.2.1 x.1.2.2.2.1 x.1.2.2.2.2.1 x.2.1 (fun u0 u1 u2 => e (.inl ((u0, u1, u2, ()), ()))) (fun u0 => e (.inr (((), (u0, ())))))⟩
theorem pointwise_Interval.r0 {R : Type} (k j : Nat) (s1 : Int) (s2 : Int) (s29 : List (Int × Int)) (s30 : Int) (s31 : Int) (l10 : List (Int × Int)) (e : Outs (pointwise_Interval.L0 (R := R) k).outs → Option R) :
    evRound pointwise_Interval.C k [] (pointwise_Interval.L0 (R := R) k).inn (pointwise_Interval.L0 (R := R) k).outs (loopOf Proofs.Try.f46 0) 1 ((s1, s2, s29, s30, s31, ()), (l10, ())) (fun x => pointwise_Interval.loop0 k j x.1.1 x.1.2.1 x.1.2.2.1 x.1.2.2.2.1 x.1.2.2.2.2.1 x.2.1 (fun u0 u1 u2 => e (.inl ((u0, u1, u2, ()), ()))) (fun u0 => e (.inr (((), (u0, ())))))) e =
    pointwise_Interval.loop0 k (j + 1) s1 s2 s29 s30 s31 l10 (fun u0 u1 u2 => e (.inl ((u0, u1, u2, ()), ()))) (fun u0 => e (.inr (((), (u0, ()))))) := by kernel_rfl
theorem pointwise_Interval.eq (k : Nat) (a0 : List (Int × Int)) (a1 : Int) (a2 : Int) :
    evF pointwise_Interval.C k [pointwise_Interval.L0 k] Proofs.Try.f46 [.imm (.sl (.pair (.int .i64) (.int .i64))), .imm (.int .i64), .imm (.int .i64)] [(.int .i64), (.int .i64), (.int .i64)] (a0, a1, a2, ()) some = pointwise_Interval k a0 a1 a2 := by kernel_rfl

noncomputable def shape_check.S : FSem := ⟨28, [.imm (.pair (.int .i64) (.pair (.int .i64) (.pair (.int .i64) (.pair .bool (.pair (.pair (.int .i64) (.int .i64)) (.pair (.int .i64) (.pair (.int .i64) (.pair (.sl (.int .i64)) (.pair (.sl (.int .i64)) (.pair (.sl (.int .i64)) (.pair (.int .i64) (.pair (.int .i64) (.pair (.sl (.pair (.int .i64) (.sl (.int .i64)))) (.pair (.sl (.pair (.int .i64) (.sl (.int .i64)))) (.pair (.int .i64) (.pair (.sl (.pair (.int .i64) (.int .i64))) (.int .i64))))))))))))))))), .imm (.pair (.int .i64) (.pair (.int .i64) (.int .i64))), .imm (.pair (.int .i64) (.pair (.int .i64) (.int .i64)))], [(.int .i64)], fun k x => shape_check k x.1 x.2.1 x.2.2.1⟩
noncomputable def shape_check.C : Ctx := ⟨tis, etys, [convolve_Check.S, separable_Check.S, resize_Check.S, shape_between.S, integral_Check.S, shape_two.S, pointwise_Valid.S, pointwise_Interval.S], [0, 1, 2, 3, 4, 5, 6, 7, 8, 11, 13, 14, 29, 44, 58, 63, 64, 74, 79, 81, 95, 112], [], 113⟩
theorem shape_check.eq (k : Nat) (a0 : Int × Int × Int × Bool × (Int × Int) × Int × Int × (List Int) × (List Int) × (List Int) × Int × Int × (List (Int × List Int)) × (List (Int × List Int)) × Int × (List (Int × Int)) × Int) (a1 : Int × Int × Int) (a2 : Int × Int × Int) :
    evF shape_check.C k [] Proofs.Try.f28 [.imm (.pair (.int .i64) (.pair (.int .i64) (.pair (.int .i64) (.pair .bool (.pair (.pair (.int .i64) (.int .i64)) (.pair (.int .i64) (.pair (.int .i64) (.pair (.sl (.int .i64)) (.pair (.sl (.int .i64)) (.pair (.sl (.int .i64)) (.pair (.int .i64) (.pair (.int .i64) (.pair (.sl (.pair (.int .i64) (.sl (.int .i64)))) (.pair (.sl (.pair (.int .i64) (.sl (.int .i64)))) (.pair (.int .i64) (.pair (.sl (.pair (.int .i64) (.int .i64))) (.int .i64))))))))))))))))), .imm (.pair (.int .i64) (.pair (.int .i64) (.int .i64))), .imm (.pair (.int .i64) (.pair (.int .i64) (.int .i64)))] [(.int .i64)] (a0, a1, a2, ()) some = shape_check k a0 a1 a2 := by kernel_rfl

noncomputable def shape_Of.S : FSem := ⟨9, [.imm (.pair (.int .i64) (.pair (.int .i64) (.pair (.int .i64) (.pair .bool (.pair (.pair (.int .i64) (.int .i64)) (.pair (.int .i64) (.pair (.int .i64) (.pair (.sl (.int .i64)) (.pair (.sl (.int .i64)) (.pair (.sl (.int .i64)) (.pair (.int .i64) (.pair (.int .i64) (.pair (.sl (.pair (.int .i64) (.sl (.int .i64)))) (.pair (.sl (.pair (.int .i64) (.sl (.int .i64)))) (.pair (.int .i64) (.pair (.sl (.pair (.int .i64) (.int .i64))) (.int .i64))))))))))))))))), .imm (.pair (.int .i64) (.pair (.int .i64) (.int .i64))), .imm (.pair (.int .i64) (.pair (.int .i64) (.int .i64)))], [(.pair (.int .i64) (.pair (.int .i64) (.int .i64))), (.int .i64)], fun k x => shape_Of k x.1 x.2.1 x.2.2.1⟩
noncomputable def shape_Of.C : Ctx := ⟨tis, etys, [shape_Fields.S, shape_Valid.S, shape_two.S, shape_edged.S, border_Valid.S, shape_check.S], [0, 1, 2, 3, 4, 5, 6, 7, 8, 11, 24, 36, 43, 47, 48, 59, 69], [], 91⟩
theorem shape_Of.eq (k : Nat) (a0 : Int × Int × Int × Bool × (Int × Int) × Int × Int × (List Int) × (List Int) × (List Int) × Int × Int × (List (Int × List Int)) × (List (Int × List Int)) × Int × (List (Int × Int)) × Int) (a1 : Int × Int × Int) (a2 : Int × Int × Int) :
    evF shape_Of.C k [] Proofs.Try.f9 [.imm (.pair (.int .i64) (.pair (.int .i64) (.pair (.int .i64) (.pair .bool (.pair (.pair (.int .i64) (.int .i64)) (.pair (.int .i64) (.pair (.int .i64) (.pair (.sl (.int .i64)) (.pair (.sl (.int .i64)) (.pair (.sl (.int .i64)) (.pair (.int .i64) (.pair (.int .i64) (.pair (.sl (.pair (.int .i64) (.sl (.int .i64)))) (.pair (.sl (.pair (.int .i64) (.sl (.int .i64)))) (.pair (.int .i64) (.pair (.sl (.pair (.int .i64) (.int .i64))) (.int .i64))))))))))))))))), .imm (.pair (.int .i64) (.pair (.int .i64) (.int .i64))), .imm (.pair (.int .i64) (.pair (.int .i64) (.int .i64)))] [(.pair (.int .i64) (.pair (.int .i64) (.int .i64))), (.int .i64)] (a0, a1, a2, ()) some = shape_Of k a0 a1 a2 := by kernel_rfl

noncomputable def tilefarmref15_edged.S : FSem := ⟨30, [.imm (.int .i64)], [.bool], fun k x => tilefarmref15_edged k x.1⟩
noncomputable def tilefarmref15_edged.C : Ctx := ⟨tis, etys, [], [0, 2], [], 13⟩
theorem tilefarmref15_edged.eq (k : Nat) (a0 : Int) :
    evF tilefarmref15_edged.C k [] Proofs.Try.f30 [.imm (.int .i64)] [.bool] (a0, ()) some = tilefarmref15_edged k a0 := by kernel_rfl

noncomputable def tilefarmref15_Fields.S : FSem := ⟨12, [.imm (.pair (.int .i64) (.pair (.int .i64) (.pair (.int .i64) (.pair .bool (.pair (.pair (.int .i64) (.int .i64)) (.pair (.int .i64) (.pair (.int .i64) (.pair (.sl (.int .i64)) (.pair (.sl (.int .i64)) (.pair (.sl (.int .i64)) (.pair (.int .i64) (.pair (.int .i64) (.pair (.sl (.pair (.int .i64) (.sl (.int .i64)))) (.pair (.sl (.pair (.int .i64) (.sl (.int .i64)))) (.pair (.int .i64) (.pair (.sl (.pair (.int .i64) (.int .i64))) (.int .i64)))))))))))))))))], [.bool], fun k x => tilefarmref15_Fields k x.1⟩
noncomputable def tilefarmref15_Fields.C : Ctx := ⟨tis, etys, [tilefarmref15_edged.S], [0, 1, 2, 3, 4, 5, 23, 33, 44, 63, 78, 93, 103, 115, 124, 134], [], 148⟩
noncomputable def tilefarmref15_Fields.J10 {R : Type} (k : Nat) : LC R := ⟨21, ⟨[(1, .ptr 0), (4, .val .bool), (5, .val .bool), (93, .val .bool)], [.box (some (.pair (.int .i64) (.pair (.int .i64) (.pair (.int .i64) (.pair .bool (.pair (.pair (.int .i64) (.int .i64)) (.pair (.int .i64) (.pair (.int .i64) (.pair (.sl (.int .i64)) (.pair (.sl (.int .i64)) (.pair (.sl (.int .i64)) (.pair (.int .i64) (.pair (.int .i64) (.pair (.sl (.pair (.int .i64) (.sl (.int .i64)))) (.pair (.sl (.pair (.int .i64) (.sl (.int .i64)))) (.pair (.int .i64) (.pair (.sl (.pair (.int .i64) (.int .i64))) (.int .i64)))))))))))))))))) [(.int .i64), (.int .i64), (.int .i64), .bool, (.int .i64), (.int .i64), (.int .i64), (.int .i64), (.sl (.int .i64)), (.sl (.int .i64)), (.sl (.int .i64)), (.int .i64), (.int .i64), (.sl (.pair (.int .i64) (.sl (.int .i64)))), (.sl (.pair (.int .i64) (.sl (.int .i64)))), (.int .i64), (.sl (.pair (.int .i64) (.int .i64))), (.int .i64)]]⟩, [(.normal, ⟨[], []⟩), (.ret, ⟨[(2, .val .bool)], []⟩)], fun x e => tilefarmref15_Fields.join10 k x.1.1 x.1.2.1 x.1.2.2.1 x.2.1.1 x.2.1.2.1 x.2.1.2.2.1 x.2.1.2.2.2.1 x.2.1.2.2.2.2.1 x.2.1.2.2.2.2.2.1 x.2.1.2.2.2.2.2.2.1 x.2.1.2.2.2.2.2.2.2.1 x.2.1.2.2.2.2.2.2.2.2.1 x.2.1.2.2.2.2.2.2.2.2.2.1 x.2.1.2.2.2.2.2.2.2.2.2.2.1 x.2.1.2.2.2.2.2.2.2.2.2.2.2.1 x.2.1.2.2.2.2.2.2.2.2.2.2.2.2.1 x.2.1.2.2.2.2.2.2.2.2.2.2.2.2.2.1 x.2.1.2.2.2.2.2.2.2.2.2.2.2.2.2.2.1 x.2.1.2.2.2.2.2.2.2.2.2.2.2.2.2.2.2.1 x.2.1.2.2.2.2.2.2.2.2.2.2.2.2.2.2.2.2.1 x.2.1.2.2.2.2.2.2.2.2.2.2.2.2.2.2.2.2.2.1 (fun _ => e (.inl ((), ()))) (fun u0 => e (.inr (((u0, ()), ()))))⟩
theorem tilefarmref15_Fields.q10 {R : Type} (k : Nat) (s4 : Bool) (s5 : Bool) (s93 : Bool) (b1_0 : Int) (b1_1 : Int) (b1_2 : Int) (b1_3 : Bool) (b1_4 : Int) (b1_5 : Int) (b1_6 : Int) (b1_7 : Int) (b1_8 : List Int) (b1_9 : List Int) (b1_10 : List Int) (b1_11 : Int) (b1_12 : Int) (b1_13 : List (Int × List Int)) (b1_14 : List (Int × List Int)) (b1_15 : Int) (b1_16 : List (Int × Int)) (b1_17 : Int) (e : Outs (tilefarmref15_Fields.J10 (R := R) k).outs → Option R) :
    evOnce tilefarmref15_Fields.C k [] (tilefarmref15_Fields.J10 (R := R) k).inn (tilefarmref15_Fields.J10 (R := R) k).outs (joinOf Proofs.Try.f12 10) 0 ((s4, s5, s93, ()), ((b1_0, b1_1, b1_2, b1_3, b1_4, b1_5, b1_6, b1_7, b1_8, b1_9, b1_10, b1_11, b1_12, b1_13, b1_14, b1_15, b1_16, b1_17, ()), ())) e =
    tilefarmref15_Fields.join10 k s4 s5 s93 b1_0 b1_1 b1_2 b1_3 b1_4 b1_5 b1_6 b1_7 b1_8 b1_9 b1_10 b1_11 b1_12 b1_13 b1_14 b1_15 b1_16 b1_17 (fun _ => e (.inl ((), ()))) (fun u0 => e (.inr (((u0, ()), ())))) := by kernel_rfl
noncomputable def tilefarmref15_Fields.J9 {R : Type} (k : Nat) : LC R := ⟨19, ⟨[(1, .ptr 0), (4, .val .bool), (5, .val .bool), (78, .val .bool)], [.box (some (.pair (.int .i64) (.pair (.int .i64) (.pair (.int .i64) (.pair .bool (.pair (.pair (.int .i64) (.int .i64)) (.pair (.int .i64) (.pair (.int .i64) (.pair (.sl (.int .i64)) (.pair (.sl (.int .i64)) (.pair (.sl (.int .i64)) (.pair (.int .i64) (.pair (.int .i64) (.pair (.sl (.pair (.int .i64) (.sl (.int .i64)))) (.pair (.sl (.pair (.int .i64) (.sl (.int .i64)))) (.pair (.int .i64) (.pair (.sl (.pair (.int .i64) (.int .i64))) (.int .i64)))))))))))))))))) [(.int .i64), (.int .i64), (.int .i64), .bool, (.int .i64), (.int .i64), (.int .i64), (.int .i64), (.sl (.int .i64)), (.sl (.int .i64)), (.sl (.int .i64)), (.int .i64), (.int .i64), (.sl (.pair (.int .i64) (.sl (.int .i64)))), (.sl (.pair (.int .i64) (.sl (.int .i64)))), (.int .i64), (.sl (.pair (.int .i64) (.int .i64))), (.int .i64)]]⟩, [(.normal, ⟨[], []⟩), (.ret, ⟨[(2, .val .bool)], []⟩)], fun x e => tilefarmref15_Fields.join9 k x.1.1 x.1.2.1 x.1.2.2.1 x.2.1.1 x.2.1.2.1 x.2.1.2.2.1 x.2.1.2.2.2.1 x.2.1.2.2.2.2.1 x.2.1.2.2.2.2.2.1 x.2.1.2.2.2.2.2.2.1 x.2.1.2.2.2.2.2.2.2.1 x.2.1.2.2.2.2.2.2.2.2.1 x.2.1.2.2.2.2.2.2.2.2.2.1 x.2.1.2.2.2.2.2.2.2.2.2.2.1 x.2.1.2.2.2.2.2.2.2.2.2.2.2.1 x.2.1.2.2.2.2.2.2.2.2.2.2.2.2.1 x.2.1.2.2.2.2.2.2.2.2.2.2.2.2.2.1 x.2.1.2.2.2.2.2.2.2.2.2.2.2.2.2.2.1 x.2.1.2.2.2.2.2.2.2.2.2.2.2.2.2.2.2.1 x.2.1.2.2.2.2.2.2.2.2.2.2.2.2.2.2.2.2.1 x.2.1.2.2.2.2.2.2.2.2.2.2.2.2.2.2.2.2.2.1 (fun _ => e (.inl ((), ()))) (fun u0 => e (.inr (((u0, ()), ()))))⟩
theorem tilefarmref15_Fields.q9 {R : Type} (k : Nat) (s4 : Bool) (s5 : Bool) (s78 : Bool) (b1_0 : Int) (b1_1 : Int) (b1_2 : Int) (b1_3 : Bool) (b1_4 : Int) (b1_5 : Int) (b1_6 : Int) (b1_7 : Int) (b1_8 : List Int) (b1_9 : List Int) (b1_10 : List Int) (b1_11 : Int) (b1_12 : Int) (b1_13 : List (Int × List Int)) (b1_14 : List (Int × List Int)) (b1_15 : Int) (b1_16 : List (Int × Int)) (b1_17 : Int) (e : Outs (tilefarmref15_Fields.J9 (R := R) k).outs → Option R) :
    evOnce tilefarmref15_Fields.C k [tilefarmref15_Fields.J10 k] (tilefarmref15_Fields.J9 (R := R) k).inn (tilefarmref15_Fields.J9 (R := R) k).outs (joinOf Proofs.Try.f12 9) 0 ((s4, s5, s78, ()), ((b1_0, b1_1, b1_2, b1_3, b1_4, b1_5, b1_6, b1_7, b1_8, b1_9, b1_10, b1_11, b1_12, b1_13, b1_14, b1_15, b1_16, b1_17, ()), ())) e =
    tilefarmref15_Fields.join9 k s4 s5 s78 b1_0 b1_1 b1_2 b1_3 b1_4 b1_5 b1_6 b1_7 b1_8 b1_9 b1_10 b1_11 b1_12 b1_13 b1_14 b1_15 b1_16 b1_17 (fun _ => e (.inl ((), ()))) (fun u0 => e (.inr (((u0, ()), ())))) := by kernel_rfl
noncomputable def tilefarmref15_Fields.J8 {R : Type} (k : Nat) : LC R := ⟨17, ⟨[(1, .ptr 0), (4, .val .bool), (5, .val .bool), (63, .val .bool)], [.box (some (.pair (.int .i64) (.pair (.int .i64) (.pair (.int .i64) (.pair .bool (.pair (.pair (.int .i64) (.int .i64)) (.pair (.int .i64) (.pair (.int .i64) (.pair (.sl (.int .i64)) (.pair (.sl (.int .i64)) (.pair (.sl (.int .i64)) (.pair (.int .i64) (.pair (.int .i64) (.pair (.sl (.pair (.int .i64) (.sl (.int .i64)))) (.pair (.sl (.pair (.int .i64) (.sl (.int .i64)))) (.pair (.int .i64) (.pair (.sl (.pair (.int .i64) (.int .i64))) (.int .i64)))))))))))))))))) [(.int .i64), (.int .i64), (.int .i64), .bool, (.int .i64), (.int .i64), (.int .i64), (.int .i64), (.sl (.int .i64)), (.sl (.int .i64)), (.sl (.int .i64)), (.int .i64), (.int .i64), (.sl (.pair (.int .i64) (.sl (.int .i64)))), (.sl (.pair (.int .i64) (.sl (.int .i64)))), (.int .i64), (.sl (.pair (.int .i64) (.int .i64))), (.int .i64)]]⟩, [(.normal, ⟨[], []⟩), (.ret, ⟨[(2, .val .bool)], []⟩)], fun x e => tilefarmref15_Fields.join8 k x.1.1 x.1.2.1 x.1.2.2.1 x.2.1.1 x.2.1.2.1 x.2.1.2.2.1 x.2.1.2.2.2.1 x.2.1.2.2.2.2.1 x.2.1.2.2.2.2.2.1 x.2.1.2.2.2.2.2.2.1 x.2.1.2.2.2.2.2.2.2.1 x.2.1.2.2.2.2.2.2.2.2.1 x.2.1.2.2.2.2.2.2.2.2.2.1 x.2.1.2.2.2.2.2.2.2.2.2.2.1 x.2.1.2.2.2.2.2.2.2.2.2.2.2.1 x.2.1.2.2.2.2.2.2.2.2.2.2.2.2.1 x.2.1.2.2.2.2.2.2.2.2.2.2.2.2.2.1 x.2.1.2.2.2.2.2.2.2.2.2.2.2.2.2.2.1 x.2.1.2.2.2.2.2.2.2.2.2.2.2.2.2.2.2.1 x.2.1.2.2.2.2.2.2.2.2.2.2.2.2.2.2.2.2.1 x.2.1.2.2.2.2.2.2.2.2.2.2.2.2.2.2.2.2.2.1 (fun _ => e (.inl ((), ()))) (fun u0 => e (.inr (((u0, ()), ()))))⟩
theorem tilefarmref15_Fields.q8 {R : Type} (k : Nat) (s4 : Bool) (s5 : Bool) (s63 : Bool) (b1_0 : Int) (b1_1 : Int) (b1_2 : Int) (b1_3 : Bool) (b1_4 : Int) (b1_5 : Int) (b1_6 : Int) (b1_7 : Int) (b1_8 : List Int) (b1_9 : List Int) (b1_10 : List Int) (b1_11 : Int) (b1_12 : Int) (b1_13 : List (Int × List Int)) (b1_14 : List (Int × List Int)) (b1_15 : Int) (b1_16 : List (Int × Int)) (b1_17 : Int) (e : Outs (tilefarmref15_Fields.J8 (R := R) k).outs → Option R) :
    evOnce tilefarmref15_Fields.C k [tilefarmref15_Fields.J10 k, tilefarmref15_Fields.J9 k] (tilefarmref15_Fields.J8 (R := R) k).inn (tilefarmref15_Fields.J8 (R := R) k).outs (joinOf Proofs.Try.f12 8) 0 ((s4, s5, s63, ()), ((b1_0, b1_1, b1_2, b1_3, b1_4, b1_5, b1_6, b1_7, b1_8, b1_9, b1_10, b1_11, b1_12, b1_13, b1_14, b1_15, b1_16, b1_17, ()), ())) e =
    tilefarmref15_Fields.join8 k s4 s5 s63 b1_0 b1_1 b1_2 b1_3 b1_4 b1_5 b1_6 b1_7 b1_8 b1_9 b1_10 b1_11 b1_12 b1_13 b1_14 b1_15 b1_16 b1_17 (fun _ => e (.inl ((), ()))) (fun u0 => e (.inr (((u0, ()), ())))) := by kernel_rfl
noncomputable def tilefarmref15_Fields.J7 {R : Type} (k : Nat) : LC R := ⟨15, ⟨[(1, .ptr 0), (4, .val .bool), (5, .val .bool), (44, .val .bool)], [.box (some (.pair (.int .i64) (.pair (.int .i64) (.pair (.int .i64) (.pair .bool (.pair (.pair (.int .i64) (.int .i64)) (.pair (.int .i64) (.pair (.int .i64) (.pair (.sl (.int .i64)) (.pair (.sl (.int .i64)) (.pair (.sl (.int .i64)) (.pair (.int .i64) (.pair (.int .i64) (.pair (.sl (.pair (.int .i64) (.sl (.int .i64)))) (.pair (.sl (.pair (.int .i64) (.sl (.int .i64)))) (.pair (.int .i64) (.pair (.sl (.pair (.int .i64) (.int .i64))) (.int .i64)))))))))))))))))) [(.int .i64), (.int .i64), (.int .i64), .bool, (.int .i64), (.int .i64), (.int .i64), (.int .i64), (.sl (.int .i64)), (.sl (.int .i64)), (.sl (.int .i64)), (.int .i64), (.int .i64), (.sl (.pair (.int .i64) (.sl (.int .i64)))), (.sl (.pair (.int .i64) (.sl (.int .i64)))), (.int .i64), (.sl (.pair (.int .i64) (.int .i64))), (.int .i64)]]⟩, [(.normal, ⟨[], []⟩), (.ret, ⟨[(2, .val .bool)], []⟩)], fun x e => tilefarmref15_Fields.join7 k x.1.1 x.1.2.1 x.1.2.2.1 x.2.1.1 x.2.1.2.1 x.2.1.2.2.1 x.2.1.2.2.2.1 x.2.1.2.2.2.2.1 x.2.1.2.2.2.2.2.1 x.2.1.2.2.2.2.2.2.1 x.2.1.2.2.2.2.2.2.2.1 x.2.1.2.2.2.2.2.2.2.2.1 x.2.1.2.2.2.2.2.2.2.2.2.1 x.2.1.2.2.2.2.2.2.2.2.2.2.1 x.2.1.2.2.2.2.2.2.2.2.2.2.2.1 x.2.1.2.2.2.2.2.2.2.2.2.2.2.2.1 x.2.1.2.2.2.2.2.2.2.2.2.2.2.2.2.1 x.2.1.2.2.2.2.2.2.2.2.2.2.2.2.2.2.1 x.2.1.2.2.2.2.2.2.2.2.2.2.2.2.2.2.2.1 x.2.1.2.2.2.2.2.2.2.2.2.2.2.2.2.2.2.2.1 x.2.1.2.2.2.2.2.2.2.2.2.2.2.2.2.2.2.2.2.1 (fun _ => e (.inl ((), ()))) (fun u0 => e (.inr (((u0, ()), ()))))⟩
theorem tilefarmref15_Fields.q7 {R : Type} (k : Nat) (s4 : Bool) (s5 : Bool) (s44 : Bool) (b1_0 : Int) (b1_1 : Int) (b1_2 : Int) (b1_3 : Bool) (b1_4 : Int) (b1_5 : Int) (b1_6 : Int) (b1_7 : Int) (b1_8 : List Int) (b1_9 : List Int) (b1_10 : List Int) (b1_11 : Int) (b1_12 : Int) (b1_13 : List (Int × List Int)) (b1_14 : List (Int × List Int)) (b1_15 : Int) (b1_16 : List (Int × Int)) (b1_17 : Int) (e : Outs (tilefarmref15_Fields.J7 (R := R) k).outs → Option R) :
    evOnce tilefarmref15_Fields.C k [tilefarmref15_Fields.J10 k, tilefarmref15_Fields.J9 k, tilefarmref15_Fields.J8 k] (tilefarmref15_Fields.J7 (R := R) k).inn (tilefarmref15_Fields.J7 (R := R) k).outs (joinOf Proofs.Try.f12 7) 0 ((s4, s5, s44, ()), ((b1_0, b1_1, b1_2, b1_3, b1_4, b1_5, b1_6, b1_7, b1_8, b1_9, b1_10, b1_11, b1_12, b1_13, b1_14, b1_15, b1_16, b1_17, ()), ())) e =
    tilefarmref15_Fields.join7 k s4 s5 s44 b1_0 b1_1 b1_2 b1_3 b1_4 b1_5 b1_6 b1_7 b1_8 b1_9 b1_10 b1_11 b1_12 b1_13 b1_14 b1_15 b1_16 b1_17 (fun _ => e (.inl ((), ()))) (fun u0 => e (.inr (((u0, ()), ())))) := by kernel_rfl
noncomputable def tilefarmref15_Fields.J6 {R : Type} (k : Nat) : LC R := ⟨13, ⟨[(1, .ptr 0), (3, .val .bool), (4, .val .bool), (5, .val .bool), (33, .val .bool)], [.box (some (.pair (.int .i64) (.pair (.int .i64) (.pair (.int .i64) (.pair .bool (.pair (.pair (.int .i64) (.int .i64)) (.pair (.int .i64) (.pair (.int .i64) (.pair (.sl (.int .i64)) (.pair (.sl (.int .i64)) (.pair (.sl (.int .i64)) (.pair (.int .i64) (.pair (.int .i64) (.pair (.sl (.pair (.int .i64) (.sl (.int .i64)))) (.pair (.sl (.pair (.int .i64) (.sl (.int .i64)))) (.pair (.int .i64) (.pair (.sl (.pair (.int .i64) (.int .i64))) (.int .i64)))))))))))))))))) [(.int .i64), (.int .i64), (.int .i64), .bool, (.int .i64), (.int .i64), (.int .i64), (.int .i64), (.sl (.int .i64)), (.sl (.int .i64)), (.sl (.int .i64)), (.int .i64), (.int .i64), (.sl (.pair (.int .i64) (.sl (.int .i64)))), (.sl (.pair (.int .i64) (.sl (.int .i64)))), (.int .i64), (.sl (.pair (.int .i64) (.int .i64))), (.int .i64)]]⟩, [(.normal, ⟨[], []⟩), (.ret, ⟨[(2, .val .bool)], []⟩)], fun x e => tilefarmref15_Fields.join6 k x.1.1 x.1.2.1 x.1.2.2.1 x.1.2.2.2.1 x.2.1.1 x.2.1.2.1 x.2.1.2.2.1 x.2.1.2.2.2.1 x.2.1.2.2.2.2.1 x.2.1.2.2.2.2.2.1 x.2.1.2.2.2.2.2.2.1 x.2.1.2.2.2.2.2.2.2.1 x.2.1.2.2.2.2.2.2.2.2.1 x.2.1.2.2.2.2.2.2.2.2.2.1 x.2.1.2.2.2.2.2.2.2.2.2.2.1 x.2.1.2.2.2.2.2.2.2.2.2.2.2.1 x.2.1.2.2.2.2.2.2.2.2.2.2.2.2.1 x.2.1.2.2.2.2.2.2.2.2.2.2.2.2.2.1 x.2.1.2.2.2.2.2.2.2.2.2.2.2.2.2.2.1 x.2.1.2.2.2.2.2.2.2.2.2.2.2.2.2.2.2.1 x.2.1.2.2.2.2.2.2.2.2.2.2.2.2.2.2.2.2.1 x.2.1.2.2.2.2.2.2.2.2.2.2.2.2.2.2.2.2.2.1 (fun _ => e (.inl ((), ()))) (fun u0 => e (.inr (((u0, ()), ()))))⟩
theorem tilefarmref15_Fields.q6 {R : Type} (k : Nat) (s3 : Bool) (s4 : Bool) (s5 : Bool) (s33 : Bool) (b1_0 : Int) (b1_1 : Int) (b1_2 : Int) (b1_3 : Bool) (b1_4 : Int) (b1_5 : Int) (b1_6 : Int) (b1_7 : Int) (b1_8 : List Int) (b1_9 : List Int) (b1_10 : List Int) (b1_11 : Int) (b1_12 : Int) (b1_13 : List (Int × List Int)) (b1_14 : List (Int × List Int)) (b1_15 : Int) (b1_16 : List (Int × Int)) (b1_17 : Int) (e : Outs (tilefarmref15_Fields.J6 (R := R) k).outs → Option R) :
    evOnce tilefarmref15_Fields.C k [tilefarmref15_Fields.J10 k, tilefarmref15_Fields.J9 k, tilefarmref15_Fields.J8 k, tilefarmref15_Fields.J7 k] (tilefarmref15_Fields.J6 (R := R) k).inn (tilefarmref15_Fields.J6 (R := R) k).outs (joinOf Proofs.Try.f12 6) 0 ((s3, s4, s5, s33, ()), ((b1_0, b1_1, b1_2, b1_3, b1_4, b1_5, b1_6, b1_7, b1_8, b1_9, b1_10, b1_11, b1_12, b1_13, b1_14, b1_15, b1_16, b1_17, ()), ())) e =
    tilefarmref15_Fields.join6 k s3 s4 s5 s33 b1_0 b1_1 b1_2 b1_3 b1_4 b1_5 b1_6 b1_7 b1_8 b1_9 b1_10 b1_11 b1_12 b1_13 b1_14 b1_15 b1_16 b1_17 (fun _ => e (.inl ((), ()))) (fun u0 => e (.inr (((u0, ()), ())))) := by kernel_rfl
noncomputable def tilefarmref15_Fields.J3 {R : Type} (k : Nat) : LC R := ⟨7, ⟨[(1, .ptr 0)], [.box (some (.pair (.int .i64) (.pair (.int .i64) (.pair (.int .i64) (.pair .bool (.pair (.pair (.int .i64) (.int .i64)) (.pair (.int .i64) (.pair (.int .i64) (.pair (.sl (.int .i64)) (.pair (.sl (.int .i64)) (.pair (.sl (.int .i64)) (.pair (.int .i64) (.pair (.int .i64) (.pair (.sl (.pair (.int .i64) (.sl (.int .i64)))) (.pair (.sl (.pair (.int .i64) (.sl (.int .i64)))) (.pair (.int .i64) (.pair (.sl (.pair (.int .i64) (.int .i64))) (.int .i64)))))))))))))))))) [(.int .i64), (.int .i64), (.int .i64), .bool, (.int .i64), (.int .i64), (.int .i64), (.int .i64), (.sl (.int .i64)), (.sl (.int .i64)), (.sl (.int .i64)), (.int .i64), (.int .i64), (.sl (.pair (.int .i64) (.sl (.int .i64)))), (.sl (.pair (.int .i64) (.sl (.int .i64)))), (.int .i64), (.sl (.pair (.int .i64) (.int .i64))), (.int .i64)]]⟩, [(.ret, ⟨[(2, .val .bool)], []⟩)], fun x e => tilefarmref15_Fields.join3 k x.2.1.1 x.2.1.2.1 x.2.1.2.2.1 x.2.1.2.2.2.1 x.2.1.2.2.2.2.1 x.2.1.2.2.2.2.2.1 x.2.1.2.2.2.2.2.2.1 x.2.1.2.2.2.2.2.2.2.1 x.2.1.2.2.2.2.2.2.2.2.1 x.2.1.2.2.2.2.2.2.2.2.2.1 x.2.1.2.2.2.2.2.2.2.2.2.2.1 x.2.1.2.2.2.2.2.2.2.2.2.2.2.1 x.2.1.2.2.2.2.2.2.2.2.2.2.2.2.1 x.2.1.2.2.2.2.2.2.2.2.2.2.2.2.2.1 x.2.1.2.2.2.2.2.2.2.2.2.2.2.2.2.2.1 x.2.1.2.2.2.2.2.2.2.2.2.2.2.2.2.2.2.1 x.2.1.2.2.2.2.2.2.2.2.2.2.2.2.2.2.2.2.1 x.2.1.2.2.2.2.2.2.2.2.2.2.2.2.2.2.2.2.2.1 (fun u0 => e ((u0, ()), ()))⟩
theorem tilefarmref15_Fields.q3 {R : Type} (k : Nat) (b1_0 : Int) (b1_1 : Int) (b1_2 : Int) (b1_3 : Bool) (b1_4 : Int) (b1_5 : Int) (b1_6 : Int) (b1_7 : Int) (b1_8 : List Int) (b1_9 : List Int) (b1_10 : List Int) (b1_11 : Int) (b1_12 : Int) (b1_13 : List (Int × List Int)) (b1_14 : List (Int × List Int)) (b1_15 : Int) (b1_16 : List (Int × Int)) (b1_17 : Int) (e : Outs (tilefarmref15_Fields.J3 (R := R) k).outs → Option R) :
    evOnce tilefarmref15_Fields.C k [tilefarmref15_Fields.J10 k, tilefarmref15_Fields.J9 k, tilefarmref15_Fields.J8 k, tilefarmref15_Fields.J7 k, tilefarmref15_Fields.J6 k] (tilefarmref15_Fields.J3 (R := R) k).inn (tilefarmref15_Fields.J3 (R := R) k).outs (joinOf Proofs.Try.f12 3) 0 ((), ((b1_0, b1_1, b1_2, b1_3, b1_4, b1_5, b1_6, b1_7, b1_8, b1_9, b1_10, b1_11, b1_12, b1_13, b1_14, b1_15, b1_16, b1_17, ()), ())) e =
    tilefarmref15_Fields.join3 k b1_0 b1_1 b1_2 b1_3 b1_4 b1_5 b1_6 b1_7 b1_8 b1_9 b1_10 b1_11 b1_12 b1_13 b1_14 b1_15 b1_16 b1_17 (fun u0 => e ((u0, ()), ())) := by kernel_rfl
theorem tilefarmref15_Fields.eq (k : Nat) (a0 : Int × Int × Int × Bool × (Int × Int) × Int × Int × (List Int) × (List Int) × (List Int) × Int × Int × (List (Int × List Int)) × (List (Int × List Int)) × Int × (List (Int × Int)) × Int) :
    evF tilefarmref15_Fields.C k [tilefarmref15_Fields.J10 k, tilefarmref15_Fields.J9 k, tilefarmref15_Fields.J8 k, tilefarmref15_Fields.J7 k, tilefarmref15_Fields.J6 k, tilefarmref15_Fields.J3 k] Proofs.Try.f12 [.imm (.pair (.int .i64) (.pair (.int .i64) (.pair (.int .i64) (.pair .bool (.pair (.pair (.int .i64) (.int .i64)) (.pair (.int .i64) (.pair (.int .i64) (.pair (.sl (.int .i64)) (.pair (.sl (.int .i64)) (.pair (.sl (.int .i64)) (.pair (.int .i64) (.pair (.int .i64) (.pair (.sl (.pair (.int .i64) (.sl (.int .i64)))) (.pair (.sl (.pair (.int .i64) (.sl (.int .i64)))) (.pair (.int .i64) (.pair (.sl (.pair (.int .i64) (.int .i64))) (.int .i64)))))))))))))))))] [.bool] (a0, ()) some = tilefarmref15_Fields k a0 := by kernel_rfl

noncomputable def tilefarmref4_Size.S : FSem := ⟨36, [.imm (.int .i64), .imm (.int .i64), .imm (.int .i64)], [.bool], fun k x => tilefarmref4_Size k x.1 x.2.1 x.2.2.1⟩
noncomputable def tilefarmref4_Size.C : Ctx := ⟨tis, etys, [], [0, 1, 2, 6], [], 35⟩
theorem tilefarmref4_Size.eq (k : Nat) (a0 : Int) (a1 : Int) (a2 : Int) :
    evF tilefarmref4_Size.C k [] Proofs.Try.f36 [.imm (.int .i64), .imm (.int .i64), .imm (.int .i64)] [.bool] (a0, a1, a2, ()) some = tilefarmref4_Size k a0 a1 a2 := by kernel_rfl

noncomputable def tilefarmref15_Valid.S : FSem := ⟨17, [.imm (.pair (.int .i64) (.pair (.int .i64) (.int .i64)))], [.bool], fun k x => tilefarmref15_Valid k x.1⟩
noncomputable def tilefarmref15_Valid.C : Ctx := ⟨tis, etys, [tilefarmref4_Size.S], [0, 1, 2], [], 10⟩
theorem tilefarmref15_Valid.eq (k : Nat) (a0 : Int × Int × Int) :
    evF tilefarmref15_Valid.C k [] Proofs.Try.f17 [.imm (.pair (.int .i64) (.pair (.int .i64) (.int .i64)))] [.bool] (a0, ()) some = tilefarmref15_Valid k a0 := by kernel_rfl

noncomputable def tilefarmref15_Two.S : FSem := ⟨29, [.imm (.pair (.int .i64) (.pair (.int .i64) (.pair (.int .i64) (.pair .bool (.pair (.pair (.int .i64) (.int .i64)) (.pair (.int .i64) (.pair (.int .i64) (.pair (.sl (.int .i64)) (.pair (.sl (.int .i64)) (.pair (.sl (.int .i64)) (.pair (.int .i64) (.pair (.int .i64) (.pair (.sl (.pair (.int .i64) (.sl (.int .i64)))) (.pair (.sl (.pair (.int .i64) (.sl (.int .i64)))) (.pair (.int .i64) (.pair (.sl (.pair (.int .i64) (.int .i64))) (.int .i64)))))))))))))))))], [.bool], fun k x => tilefarmref15_Two k x.1⟩
noncomputable def tilefarmref15_Two.C : Ctx := ⟨tis, etys, [], [0, 1, 2], [], 11⟩
theorem tilefarmref15_Two.eq (k : Nat) (a0 : Int × Int × Int × Bool × (Int × Int) × Int × Int × (List Int) × (List Int) × (List Int) × Int × Int × (List (Int × List Int)) × (List (Int × List Int)) × Int × (List (Int × Int)) × Int) :
    evF tilefarmref15_Two.C k [] Proofs.Try.f29 [.imm (.pair (.int .i64) (.pair (.int .i64) (.pair (.int .i64) (.pair .bool (.pair (.pair (.int .i64) (.int .i64)) (.pair (.int .i64) (.pair (.int .i64) (.pair (.sl (.int .i64)) (.pair (.sl (.int .i64)) (.pair (.sl (.int .i64)) (.pair (.int .i64) (.pair (.int .i64) (.pair (.sl (.pair (.int .i64) (.sl (.int .i64)))) (.pair (.sl (.pair (.int .i64) (.sl (.int .i64)))) (.pair (.int .i64) (.pair (.sl (.pair (.int .i64) (.int .i64))) (.int .i64)))))))))))))))))] [.bool] (a0, ()) some = tilefarmref15_Two k a0 := by kernel_rfl

noncomputable def tilefarmref3_Valid.S : FSem := ⟨31, [.imm (.pair (.int .i64) (.int .i64)), .imm (.int .i64)], [.bool], fun k x => tilefarmref3_Valid k x.1 x.2.1⟩
noncomputable def tilefarmref3_Valid.C : Ctx := ⟨tis, etys, [], [0, 1, 2, 4, 7], [], 30⟩
theorem tilefarmref3_Valid.eq (k : Nat) (a0 : Int × Int) (a1 : Int) :
    evF tilefarmref3_Valid.C k [] Proofs.Try.f31 [.imm (.pair (.int .i64) (.int .i64)), .imm (.int .i64)] [.bool] (a0, a1, ()) some = tilefarmref3_Valid k a0 a1 := by kernel_rfl

noncomputable def tilefarmref9_Side.S : FSem := ⟨72, [.imm (.int .i64)], [.bool], fun k x => tilefarmref9_Side k x.1⟩
noncomputable def tilefarmref9_Side.C : Ctx := ⟨tis, etys, [], [0, 2], [], 9⟩
theorem tilefarmref9_Side.eq (k : Nat) (a0 : Int) :
    evF tilefarmref9_Side.C k [] Proofs.Try.f72 [.imm (.int .i64)] [.bool] (a0, ()) some = tilefarmref9_Side k a0 := by kernel_rfl

noncomputable def tilefarmref7_IsWeight.S : FSem := ⟨88, [.imm (.int .i64)], [.bool], fun k x => tilefarmref7_IsWeight k x.1⟩
noncomputable def tilefarmref7_IsWeight.C : Ctx := ⟨tis, etys, [], [0, 2], [], 9⟩
theorem tilefarmref7_IsWeight.eq (k : Nat) (a0 : Int) :
    evF tilefarmref7_IsWeight.C k [] Proofs.Try.f88 [.imm (.int .i64)] [.bool] (a0, ()) some = tilefarmref7_IsWeight k a0 := by kernel_rfl

noncomputable def tilefarmref7_AreWeights.S : FSem := ⟨73, [.imm (.sl (.int .i64))], [.bool], fun k x => tilefarmref7_AreWeights k x.1⟩
noncomputable def tilefarmref7_AreWeights.C : Ctx := ⟨tis, etys, [tilefarmref7_IsWeight.S], [0, 2, 3, 7, 15], [], 16⟩
noncomputable def tilefarmref7_AreWeights.L0 {R : Type} (k : Nat) : LC R := ⟨0, ⟨[(0, .val (.sl (.int .i64))), (3, .val (.int .i64))], []⟩, [(.ret, ⟨[(2, .val .bool)], []⟩), (.ex 0, ⟨[], []⟩)], fun x e => tilefarmref7_AreWeights.loop0 k k x.1.1 x.1.2.1 (fun u0 => e (.inl ((u0, ()), ()))) (fun _ => e (.inr (((), ()))))⟩
theorem tilefarmref7_AreWeights.r0 {R : Type} (k j : Nat) (s0 : List Int) (s3 : Int) (e : Outs (tilefarmref7_AreWeights.L0 (R := R) k).outs → Option R) :
    evRound tilefarmref7_AreWeights.C k [] (tilefarmref7_AreWeights.L0 (R := R) k).inn (tilefarmref7_AreWeights.L0 (R := R) k).outs (loopOf Proofs.Try.f73 0) 1 ((s0, s3, ()), ()) (fun x => tilefarmref7_AreWeights.loop0 k j x.1.1 x.1.2.1 (fun u0 => e (.inl ((u0, ()), ()))) (fun _ => e (.inr (((), ()))))) e =
    tilefarmref7_AreWeights.loop0 k (j + 1) s0 s3 (fun u0 => e (.inl ((u0, ()), ()))) (fun _ => e (.inr (((), ())))) := by kernel_rfl
theorem tilefarmref7_AreWeights.eq (k : Nat) (a0 : List Int) :
    evF tilefarmref7_AreWeights.C k [tilefarmref7_AreWeights.L0 k] Proofs.Try.f73 [.imm (.sl (.int .i64))] [.bool] (a0, ()) some = tilefarmref7_AreWeights k a0 := by kernel_rfl

noncomputable def tilefarmref7_IsShift.S : FSem := ⟨74, [.imm (.int .i64)], [.bool], fun k x => tilefarmref7_IsShift k x.1⟩
noncomputable def tilefarmref7_IsShift.C : Ctx := ⟨tis, etys, [], [0, 2], [], 9⟩
theorem tilefarmref7_IsShift.eq (k : Nat) (a0 : Int) :
    evF tilefarmref7_IsShift.C k [] Proofs.Try.f74 [.imm (.int .i64)] [.bool] (a0, ()) some = tilefarmref7_IsShift k a0 := by kernel_rfl

noncomputable def tilefarmref9_Value.S : FSem := ⟨75, [.imm (.int .i64)], [.bool], fun k x => tilefarmref9_Value k x.1⟩
noncomputable def tilefarmref9_Value.C : Ctx := ⟨tis, etys, [], [0, 2], [], 9⟩
theorem tilefarmref9_Value.eq (k : Nat) (a0 : Int) :
    evF tilefarmref9_Value.C k [] Proofs.Try.f75 [.imm (.int .i64)] [.bool] (a0, ()) some = tilefarmref9_Value k a0 := by kernel_rfl

noncomputable def tilefarmref7_Weights.S : FSem := ⟨89, [.imm (.sl (.int .i64))], [(.int .i64)], fun k x => tilefarmref7_Weights k x.1⟩
noncomputable def tilefarmref7_Weights.C : Ctx := ⟨tis, etys, [tilefarmref7_AreWeights.S], [0, 2, 10, 13], [], 14⟩
theorem tilefarmref7_Weights.eq (k : Nat) (a0 : List Int) :
    evF tilefarmref7_Weights.C k [] Proofs.Try.f89 [.imm (.sl (.int .i64))] [(.int .i64)] (a0, ()) some = tilefarmref7_Weights k a0 := by kernel_rfl

noncomputable def tilefarmref7_Acc.S : FSem := ⟨90, [.imm (.int .i64)], [.bool], fun k x => tilefarmref7_Acc k x.1⟩
noncomputable def tilefarmref7_Acc.C : Ctx := ⟨tis, etys, [], [0, 2], [], 9⟩
theorem tilefarmref7_Acc.eq (k : Nat) (a0 : Int) :
    evF tilefarmref7_Acc.C k [] Proofs.Try.f90 [.imm (.int .i64)] [.bool] (a0, ()) some = tilefarmref7_Acc k a0 := by kernel_rfl

noncomputable def tilefarmref7_Bounds.S : FSem := ⟨76, [.imm (.sl (.int .i64)), .imm (.int .i64), .imm (.int .i64)], [(.int .i64), (.int .i64), .bool], fun k x => tilefarmref7_Bounds k x.1 x.2.1 x.2.2.1⟩
noncomputable def tilefarmref7_Bounds.C : Ctx := ⟨tis, etys, [tilefarmref7_Weights.S, tilefarmref7_Acc.S], [0, 1, 2, 6, 7, 8, 9, 10, 11, 12, 13, 29, 33, 65], [], 68⟩
noncomputable def tilefarmref7_Bounds.L0 {R : Type} (k : Nat) : LC R := ⟨0, ⟨[(0, .val (.sl (.int .i64))), (1, .val (.int .i64)), (2, .val (.int .i64)), (9, .val (.int .i64)), (10, .val (.int .i64)), (11, .val (.int .i64))], []⟩, [(.ex 0, ⟨[(9, .val (.int .i64)), (10, .val (.int .i64))], []⟩)], fun x e => tilefarmref7_Bounds.loop0 k k x.1.1 x.1.2.1 x.1.2.2.1 x.1.2.2.2.1 x.1.2.2.2.2.1 x.1.2.2.2.2.2.1 (fun u0 u1 => e ((u0, u1, ()), ()))⟩
theorem tilefarmref7_Bounds.r0 {R : Type} (k j : Nat) (s0 : List Int) (s1 : Int) (s2 : Int) (s9 : Int) (s10 : Int) (s11 : Int) (e : Outs (tilefarmref7_Bounds.L0 (R := R) k).outs → Option R) :
    evRound tilefarmref7_Bounds.C k [] (tilefarmref7_Bounds.L0 (R := R) k).inn (tilefarmref7_Bounds.L0 (R := R) k).outs (loopOf Proofs.Try.f76 0) 1 ((s0, s1, s2, s9, s10, s11, ()), ()) (fun x => tilefarmref7_Bounds.loop0 k j x.1.1 x.1.2.1 x.1.2.2.1 x.1.2.2.2.1 x.1.2.2.2.2.1 x.1.2.2.2.2.2.1 (fun u0 u1 => e ((u0, u1, ()), ()))) e =
    tilefarmref7_Bounds.loop0 k (j + 1) s0 s1 s2 s9 s10 s11 (fun u0 u1 => e ((u0, u1, ()), ())) := by kernel_rfl
theorem tilefarmref7_Bounds.eq (k : Nat) (a0 : List Int) (a1 : Int) (a2 : Int) :
    evF tilefarmref7_Bounds.C k [tilefarmref7_Bounds.L0 k] Proofs.Try.f76 [.imm (.sl (.int .i64)), .imm (.int .i64), .imm (.int .i64)] [(.int .i64), (.int .i64), .bool] (a0, a1, a2, ()) some = tilefarmref7_Bounds k a0 a1 a2 := by kernel_rfl

noncomputable def tilefarmref9_Check.S : FSem := ⟨47, [.imm (.int .i64), .imm (.int .i64), .imm (.int .i64), .imm (.sl (.int .i64)), .imm (.int .i64), .imm (.int .i64)], [(.int .i64)], fun k x => tilefarmref9_Check k x.1 x.2.1 x.2.2.1 x.2.2.2.1 x.2.2.2.2.1 x.2.2.2.2.2.1⟩
noncomputable def tilefarmref9_Check.C : Ctx := ⟨tis, etys, [tilefarmref9_Side.S, tilefarmref7_AreWeights.S, tilefarmref7_IsShift.S, tilefarmref9_Value.S, tilefarmref7_Bounds.S], [0, 1, 2, 3, 4, 5, 12, 15, 16, 33, 42, 59], [], 60⟩
theorem tilefarmref9_Check.eq (k : Nat) (a0 : Int) (a1 : Int) (a2 : Int) (a3 : List Int) (a4 : Int) (a5 : Int) :
    evF tilefarmref9_Check.C k [] Proofs.Try.f47 [.imm (.int .i64), .imm (.int .i64), .imm (.int .i64), .imm (.sl (.int .i64)), .imm (.int .i64), .imm (.int .i64)] [(.int .i64)] (a0, a1, a2, a3, a4, a5, ()) some = tilefarmref9_Check k a0 a1 a2 a3 a4 a5 := by kernel_rfl

noncomputable def tilefarmref7_Shift.S : FSem := ⟨91, [.imm (.int .i64), .imm (.int .i64)], [(.int .i64)], fun k x => tilefarmref7_Shift k x.1 x.2.1⟩
noncomputable def tilefarmref7_Shift.C : Ctx := ⟨tis, etys, [tilefarmref7_Acc.S, tilefarmref7_IsShift.S], [0, 1, 4, 5, 6, 7, 15, 17, 35], [], 39⟩
theorem tilefarmref7_Shift.eq (k : Nat) (a0 : Int) (a1 : Int) :
    evF tilefarmref7_Shift.C k [] Proofs.Try.f91 [.imm (.int .i64), .imm (.int .i64)] [(.int .i64)] (a0, a1, ()) some = tilefarmref7_Shift k a0 a1 := by kernel_rfl

noncomputable def tilefarmref7_Span.S : FSem := ⟨77, [.imm (.int .i64), .imm (.int .i64), .imm (.int .i64)], [(.int .i64), (.int .i64)], fun k x => tilefarmref7_Span k x.1 x.2.1 x.2.2.1⟩
noncomputable def tilefarmref7_Span.C : Ctx := ⟨tis, etys, [tilefarmref7_Shift.S], [0, 1, 2, 6, 7], [], 14⟩
theorem tilefarmref7_Span.eq (k : Nat) (a0 : Int) (a1 : Int) (a2 : Int) :
    evF tilefarmref7_Span.C k [] Proofs.Try.f77 [.imm (.int .i64), .imm (.int .i64), .imm (.int .i64)] [(.int .i64), (.int .i64)] (a0, a1, a2, ()) some = tilefarmref7_Span k a0 a1 a2 := by kernel_rfl

noncomputable def tilefarmref10_Check.S : FSem := ⟨48, [.imm (.int .i64), .imm (.sl (.int .i64)), .imm (.sl (.int .i64)), .imm (.int .i64), .imm (.int .i64), .imm (.int .i64)], [(.int .i64)], fun k x => tilefarmref10_Check k x.1 x.2.1 x.2.2.1 x.2.2.2.1 x.2.2.2.2.1 x.2.2.2.2.2.1⟩
noncomputable def tilefarmref10_Check.C : Ctx := ⟨tis, etys, [tilefarmref9_Side.S, tilefarmref7_AreWeights.S, tilefarmref7_IsShift.S, tilefarmref9_Value.S, tilefarmref7_Bounds.S, tilefarmref7_Span.S], [0, 1, 2, 3, 4, 5, 12, 13, 14, 15, 16, 27, 46, 63, 80], [], 81⟩
noncomputable def tilefarmref10_Check.J7 {R : Type} (k : Nat) : LC R := ⟨15, ⟨[(0, .val (.int .i64)), (1, .val (.sl (.int .i64))), (2, .val (.sl (.int .i64))), (3, .val (.int .i64))], []⟩, [(.ret, ⟨[(12, .val (.int .i64))], []⟩)], fun x e => tilefarmref10_Check.join7 k x.1.1 x.1.2.1 x.1.2.2.1 x.1.2.2.2.1 (fun u0 => e ((u0, ()), ()))⟩
theorem tilefarmref10_Check.q7 {R : Type} (k : Nat) (s0 : Int) (s1 : List Int) (s2 : List Int) (s3 : Int) (e : Outs (tilefarmref10_Check.J7 (R := R) k).outs → Option R) :
    evOnce tilefarmref10_Check.C k [] (tilefarmref10_Check.J7 (R := R) k).inn (tilefarmref10_Check.J7 (R := R) k).outs (joinOf Proofs.Try.f48 7) 0 ((s0, s1, s2, s3, ()), ()) e =
    tilefarmref10_Check.join7 k s0 s1 s2 s3 (fun u0 => e ((u0, ()), ())) := by kernel_rfl
theorem tilefarmref10_Check.eq (k : Nat) (a0 : Int) (a1 : List Int) (a2 : List Int) (a3 : Int) (a4 : Int) (a5 : Int) :
    evF tilefarmref10_Check.C k [tilefarmref10_Check.J7 k] Proofs.Try.f48 [.imm (.int .i64), .imm (.sl (.int .i64)), .imm (.sl (.int .i64)), .imm (.int .i64), .imm (.int .i64), .imm (.int .i64)] [(.int .i64)] (a0, a1, a2, a3, a4, a5, ()) some = tilefarmref10_Check k a0 a1 a2 a3 a4 a5 := by kernel_rfl

noncomputable def tilefarmref8_first.S : FSem := ⟨92, [.imm (.int .i64)], [.bool], fun k x => tilefarmref8_first k x.1⟩
noncomputable def tilefarmref8_first.C : Ctx := ⟨tis, etys, [], [0, 2], [], 9⟩
theorem tilefarmref8_first.eq (k : Nat) (a0 : Int) :
    evF tilefarmref8_first.C k [] Proofs.Try.f92 [.imm (.int .i64)] [.bool] (a0, ()) some = tilefarmref8_first k a0 := by kernel_rfl

noncomputable def tilefarmref8_Valid.S : FSem := ⟨78, [.imm (.sl (.pair (.int .i64) (.sl (.int .i64)))), .imm (.int .i64)], [(.int .i64)], fun k x => tilefarmref8_Valid k x.1 x.2.1⟩
noncomputable def tilefarmref8_Valid.C : Ctx := ⟨tis, etys, [tilefarmref8_side.S, tilefarmref7_AreWeights.S, tilefarmref8_first.S], [0, 1, 4, 5, 6, 15, 19, 26, 37, 42], [], 47⟩
noncomputable def tilefarmref8_Valid.L0 {R : Type} (k : Nat) : LC R := ⟨0, ⟨[(0, .val (.sl (.pair (.int .i64) (.sl (.int .i64))))), (5, .val (.int .i64))], []⟩, [(.ret, ⟨[(4, .val (.int .i64))], []⟩), (.ex 0, ⟨[], []⟩)], fun x e => tilefarmref8_Valid.loop0 k k x.1.1 x.1.2.1 (fun u0 => e (.inl ((u0, ()), ()))) (fun _ => e (.inr (((), ()))))⟩
theorem tilefarmref8_Valid.r0 {R : Type} (k j : Nat) (s0 : List (Int × List Int)) (s5 : Int) (e : Outs (tilefarmref8_Valid.L0 (R := R) k).outs → Option R) :
    evRound tilefarmref8_Valid.C k [] (tilefarmref8_Valid.L0 (R := R) k).inn (tilefarmref8_Valid.L0 (R := R) k).outs (loopOf Proofs.Try.f78 0) 1 ((s0, s5, ()), ()) (fun x => tilefarmref8_Valid.loop0 k j x.1.1 x.1.2.1 (fun u0 => e (.inl ((u0, ()), ()))) (fun _ => e (.inr (((), ()))))) e =
    tilefarmref8_Valid.loop0 k (j + 1) s0 s5 (fun u0 => e (.inl ((u0, ()), ()))) (fun _ => e (.inr (((), ())))) := by kernel_rfl
theorem tilefarmref8_Valid.eq (k : Nat) (a0 : List (Int × List Int)) (a1 : Int) :
    evF tilefarmref8_Valid.C k [tilefarmref8_Valid.L0 k] Proofs.Try.f78 [.imm (.sl (.pair (.int .i64) (.sl (.int .i64)))), .imm (.int .i64)] [(.int .i64)] (a0, a1, ()) some = tilefarmref8_Valid k a0 a1 := by kernel_rfl

noncomputable def tilefarmref11_Check.S : FSem := ⟨49, [.imm (.pair (.int .i64) (.pair (.int .i64) (.int .i64))), .imm (.sl (.pair (.int .i64) (.sl (.int .i64)))), .imm (.sl (.pair (.int .i64) (.sl (.int .i64)))), .imm (.int .i64), .imm (.int .i64), .imm (.int .i64)], [(.int .i64)], fun k x => tilefarmref11_Check k x.1 x.2.1 x.2.2.1 x.2.2.2.1 x.2.2.2.2.1 x.2.2.2.2.2.1⟩
noncomputable def tilefarmref11_Check.C : Ctx := ⟨tis, etys, [tilefarmref8_Valid.S, tilefarmref7_IsShift.S, tilefarmref9_Value.S, tilefarmref7_Bounds.S, tilefarmref7_Span.S], [0, 1, 2, 3, 4, 5, 6, 12, 13, 14, 15, 16, 17, 18, 19, 20, 21, 24, 30, 37, 39, 46, 55, 68, 84, 93, 105, 121], [], 122⟩
noncomputable def tilefarmref11_Check.L0 {R : Type} (k : Nat) : LC R := ⟨0, ⟨[(1, .val (.sl (.pair (.int .i64) (.sl (.int .i64))))), (3, .val (.int .i64)), (6, .ptr 0), (15, .val (.int .i64)), (16, .val (.int .i64)), (17, .val (.int .i64))], [.box (some (.pair (.int .i64) (.pair (.int .i64) (.int .i64)))) [(.int .i64), (.int .i64), (.int .i64)]]⟩, [(.ret, ⟨[(12, .val (.int .i64))], []⟩), (.ex 1, ⟨[(15, .val (.int .i64)), (16, .val (.int .i64))], []⟩)], fun x e => tilefarmref11_Check.loop0 k k x.1.1 x.1.2.1 x.1.2.2.1 x.1.2.2.2.1 x.1.2.2.2.2.1 x.2.1.1 x.2.1.2.1 x.2.1.2.2.1 (fun u0 => e (.inl ((u0, ()), ()))) (fun u0 u1 => e (.inr (((u0, u1, ()), ()))))⟩
theorem tilefarmref11_Check.r0 {R : Type} (k j : Nat) (s1 : List (Int × List Int)) (s3 : Int) (s15 : Int) (s16 : Int) (s17 : Int) (b6_0 : Int) (b6_1 : Int) (b6_2 : Int) (e : Outs (tilefarmref11_Check.L0 (R := R) k).outs → Option R) :
    evRound tilefarmref11_Check.C k [] (tilefarmref11_Check.L0 (R := R) k).inn (tilefarmref11_Check.L0 (R := R) k).outs (loopOf Proofs.Try.f49 0) 1 ((s1, s3, s15, s16, s17, ()), ((b6_0, b6_1, b6_2, ()), ())) (fun x => tilefarmref11_Check.loop0 k j x.1.1 x.1.2.1 x.1.2.2.1 x.1.2.2.2.1 x.1.2.2.2.2.1 x.2.1.1 x.2.1.2.1 x.2.1.2.2.1 (fun u0 => e (.inl ((u0, ()), ()))) (fun u0 u1 => e (.inr (((u0, u1, ()), ()))))) e =
    tilefarmref11_Check.loop0 k (j + 1) s1 s3 s15 s16 s17 b6_0 b6_1 b6_2 (fun u0 => e (.inl ((u0, ()), ()))) (fun u0 u1 => e (.inr (((u0, u1, ()), ())))) := by kernel_rfl
noncomputable def tilefarmref11_Check.L1 {R : Type} (k : Nat) : LC R := ⟨2, ⟨[(2, .val (.sl (.pair (.int .i64) (.sl (.int .i64))))), (15, .val (.int .i64)), (16, .val (.int .i64)), (21, .val (.int .i64))], []⟩, [(.ret, ⟨[(12, .val (.int .i64))], []⟩), (.ex 3, ⟨[], []⟩)], fun x e => tilefarmref11_Check.loop1 k k x.1.1 x.1.2.1 x.1.2.2.1 x.1.2.2.2.1 (fun u0 => e (.inl ((u0, ()), ()))) (fun _ => e (.inr (((), ()))))⟩
theorem tilefarmref11_Check.r1 {R : Type} (k j : Nat) (s2 : List (Int × List Int)) (s15 : Int) (s16 : Int) (s21 : Int) (e : Outs (tilefarmref11_Check.L1 (R := R) k).outs → Option R) :
    evRound tilefarmref11_Check.C k [] (tilefarmref11_Check.L1 (R := R) k).inn (tilefarmref11_Check.L1 (R := R) k).outs (loopOf Proofs.Try.f49 1) 2 ((s2, s15, s16, s21, ()), ()) (fun x => tilefarmref11_Check.loop1 k j x.1.1 x.1.2.1 x.1.2.2.1 x.1.2.2.2.1 (fun u0 => e (.inl ((u0, ()), ()))) (fun _ => e (.inr (((), ()))))) e =
    tilefarmref11_Check.loop1 k (j + 1) s2 s15 s16 s21 (fun u0 => e (.inl ((u0, ()), ()))) (fun _ => e (.inr (((), ())))) := by kernel_rfl
theorem tilefarmref11_Check.eq (k : Nat) (a0 : Int × Int × Int) (a1 : List (Int × List Int)) (a2 : List (Int × List Int)) (a3 : Int) (a4 : Int) (a5 : Int) :
    evF tilefarmref11_Check.C k [tilefarmref11_Check.L0 k, tilefarmref11_Check.L1 k] Proofs.Try.f49 [.imm (.pair (.int .i64) (.pair (.int .i64) (.int .i64))), .imm (.sl (.pair (.int .i64) (.sl (.int .i64)))), .imm (.sl (.pair (.int .i64) (.sl (.int .i64)))), .imm (.int .i64), .imm (.int .i64), .imm (.int .i64)] [(.int .i64)] (a0, a1, a2, a3, a4, a5, ()) some = tilefarmref11_Check k a0 a1 a2 a3 a4 a5 := by kernel_rfl

noncomputable def tilefarmref12_Bins.S : FSem := ⟨50, [.imm (.int .i64)], [.bool], fun k x => tilefarmref12_Bins k x.1⟩
noncomputable def tilefarmref12_Bins.C : Ctx := ⟨tis, etys, [], [0, 2], [], 9⟩
theorem tilefarmref12_Bins.eq (k : Nat) (a0 : Int) :
    evF tilefarmref12_Bins.C k [] Proofs.Try.f50 [.imm (.int .i64)] [.bool] (a0, ()) some = tilefarmref12_Bins k a0 := by kernel_rfl

noncomputable def tilefarmref1_Mul.S : FSem := ⟨79, [.imm (.int .i64), .imm (.int .i64), .imm (.int .i64)], [(.int .i64), .bool], fun k x => tilefarmref1_Mul k x.1 x.2.1 x.2.2.1⟩
noncomputable def tilefarmref1_Mul.C : Ctx := ⟨tis, etys, [], [0, 1, 2, 6, 7, 28], [], 32⟩
theorem tilefarmref1_Mul.eq (k : Nat) (a0 : Int) (a1 : Int) (a2 : Int) :
    evF tilefarmref1_Mul.C k [] Proofs.Try.f79 [.imm (.int .i64), .imm (.int .i64), .imm (.int .i64)] [(.int .i64), .bool] (a0, a1, a2, ()) some = tilefarmref1_Mul k a0 a1 a2 := by kernel_rfl

noncomputable def tilefarmref13_Most.S : FSem := ⟨51, [.imm (.pair (.int .i64) (.pair (.int .i64) (.int .i64)))], [(.int .i64), .bool], fun k x => tilefarmref13_Most k x.1⟩
noncomputable def tilefarmref13_Most.C : Ctx := ⟨tis, etys, [tilefarmref1_Mul.S], [0, 1, 2, 3, 4, 5, 30], [], 37⟩
theorem tilefarmref13_Most.eq (k : Nat) (a0 : Int × Int × Int) :
    evF tilefarmref13_Most.C k [] Proofs.Try.f51 [.imm (.pair (.int .i64) (.pair (.int .i64) (.int .i64)))] [(.int .i64), .bool] (a0, ()) some = tilefarmref13_Most k a0 := by kernel_rfl

noncomputable def tilefarmref14_takes.S : FSem := ⟨93, [.imm (.int .i64)], [(.int .i64)], fun k x => tilefarmref14_takes k x.1⟩
noncomputable def tilefarmref14_takes.C : Ctx := ⟨tis, etys, [], [0, 2, 3, 6], [], 9⟩
theorem tilefarmref14_takes.eq (k : Nat) (a0 : Int) :
    evF tilefarmref14_takes.C k [] Proofs.Try.f93 [.imm (.int .i64)] [(.int .i64)] (a0, ()) some = tilefarmref14_takes k a0 := by kernel_rfl

noncomputable def tilefarmref14_argument.S : FSem := ⟨94, [.imm (.pair (.int .i64) (.int .i64))], [.bool], fun k x => tilefarmref14_argument k x.1⟩
noncomputable def tilefarmref14_argument.C : Ctx := ⟨tis, etys, [tilefarmref7_IsShift.S], [0, 1, 2, 4, 5, 15], [], 23⟩
theorem tilefarmref14_argument.eq (k : Nat) (a0 : Int × Int) :
    evF tilefarmref14_argument.C k [] Proofs.Try.f94 [.imm (.pair (.int .i64) (.int .i64))] [.bool] (a0, ()) some = tilefarmref14_argument k a0 := by kernel_rfl

noncomputable def tilefarmref14_Valid.S : FSem := ⟨80, [.imm (.sl (.pair (.int .i64) (.int .i64))), .imm .bool], [(.int .i64)], fun k x => tilefarmref14_Valid k x.1 x.2.1⟩
noncomputable def tilefarmref14_Valid.C : Ctx := ⟨tis, etys, [tilefarmref14_takes.S, tilefarmref14_argument.S], [0, 1, 4, 5, 6, 7, 15, 19, 49, 52, 60], [], 61⟩
noncomputable def tilefarmref14_Valid.L0 {R : Type} (k : Nat) : LC R := ⟨0, ⟨[(0, .val (.sl (.pair (.int .i64) (.int .i64)))), (1, .val .bool), (5, .val (.int .i64)), (6, .val (.int .i64))], []⟩, [(.ret, ⟨[(4, .val (.int .i64))], []⟩), (.ex 0, ⟨[(5, .val (.int .i64))], []⟩)], fun x e => tilefarmref14_Valid.loop0 k k x.1.1 x.1.2.1 x.1.2.2.1 x.1.2.2.2.1 (fun u0 => e (.inl ((u0, ()), ()))) (fun u0 => e (.inr (((u0, ()), ()))))⟩
theorem tilefarmref14_Valid.r0 {R : Type} (k j : Nat) (s0 : List (Int × Int)) (s1 : Bool) (s5 : Int) (s6 : Int) (e : Outs (tilefarmref14_Valid.L0 (R := R) k).outs → Option R) :
    evRound tilefarmref14_Valid.C k [] (tilefarmref14_Valid.L0 (R := R) k).inn (tilefarmref14_Valid.L0 (R := R) k).outs (loopOf Proofs.Try.f80 0) 1 ((s0, s1, s5, s6, ()), ()) (fun x => tilefarmref14_Valid.loop0 k j x.1.1 x.1.2.1 x.1.2.2.1 x.1.2.2.2.1 (fun u0 => e (.inl ((u0, ()), ()))) (fun u0 => e (.inr (((u0, ()), ()))))) e =
    tilefarmref14_Valid.loop0 k (j + 1) s0 s1 s5 s6 (fun u0 => e (.inl ((u0, ()), ()))) (fun u0 => e (.inr (((u0, ()), ())))) := by kernel_rfl
theorem tilefarmref14_Valid.eq (k : Nat) (a0 : List (Int × Int)) (a1 : Bool) :
    evF tilefarmref14_Valid.C k [tilefarmref14_Valid.L0 k] Proofs.Try.f80 [.imm (.sl (.pair (.int .i64) (.int .i64))), .imm .bool] [(.int .i64)] (a0, a1, ()) some = tilefarmref14_Valid k a0 a1 := by kernel_rfl

noncomputable def tilefarmref14_abs.S : FSem := ⟨97, [.imm (.int .i64)], [(.int .i64)], fun k x => tilefarmref14_abs k x.1⟩
noncomputable def tilefarmref14_abs.C : Ctx := ⟨tis, etys, [], [0, 2, 4], [], 8⟩
theorem tilefarmref14_abs.eq (k : Nat) (a0 : Int) :
    evF tilefarmref14_abs.C k [] Proofs.Try.f97 [.imm (.int .i64)] [(.int .i64)] (a0, ()) some = tilefarmref14_abs k a0 := by kernel_rfl

noncomputable def tilefarmref14_times.S : FSem := ⟨99, [.imm (.int .i64), .imm (.int .i64)], [(.int .i64), .bool], fun k x => tilefarmref14_times k x.1 x.2.1⟩
noncomputable def tilefarmref14_times.C : Ctx := ⟨tis, etys, [], [0, 1, 4, 5, 6, 7, 11, 15, 25], [], 29⟩
theorem tilefarmref14_times.eq (k : Nat) (a0 : Int) (a1 : Int) :
    evF tilefarmref14_times.C k [] Proofs.Try.f99 [.imm (.int .i64), .imm (.int .i64)] [(.int .i64), .bool] (a0, a1, ()) some = tilefarmref14_times k a0 a1 := by kernel_rfl

noncomputable def tilefarmref14_product.S : FSem := ⟨98, [.imm (.pair (.int .i64) (.int .i64)), .imm (.pair (.int .i64) (.int .i64))], [(.pair (.int .i64) (.int .i64)), .bool], fun k x => tilefarmref14_product k x.1 x.2.1⟩
noncomputable def tilefarmref14_product.C : Ctx := ⟨tis, etys, [tilefarmref14_times.S], [0, 1, 2, 3, 4, 5, 6, 7, 8, 9, 10, 11, 12, 13], [], 67⟩
theorem tilefarmref14_product.eq (k : Nat) (a0 : Int × Int) (a1 : Int × Int) :
    evF tilefarmref14_product.C k [] Proofs.Try.f98 [.imm (.pair (.int .i64) (.int .i64)), .imm (.pair (.int .i64) (.int .i64))] [(.pair (.int .i64) (.int .i64)), .bool] (a0, a1, ()) some = tilefarmref14_product k a0 a1 := by kernel_rfl

noncomputable def tilefarmref14_next.S : FSem := ⟨95, [.imm (.pair (.int .i64) (.int .i64)), .imm (.pair (.int .i64) (.int .i64)), .imm (.pair (.int .i64) (.int .i64)), .imm (.int .i64), .imm (.int .i64)], [(.pair (.int .i64) (.int .i64)), .bool], fun k x => tilefarmref14_next k x.1 x.2.1 x.2.2.1 x.2.2.2.1 x.2.2.2.2.1⟩
noncomputable def tilefarmref14_next.C : Ctx := ⟨tis, etys, [tilefarmref14_abs.S, tilefarmref7_Acc.S, tilefarmref14_product.S, tilefarmref7_Span.S], [0, 1, 2, 3, 4, 5, 6, 7, 10, 11, 12, 13, 14, 24, 27, 31, 35, 42, 55, 68, 76, 89, 102, 116, 122], [], 148⟩
theorem tilefarmref14_next.eq (k : Nat) (a0 : Int × Int) (a1 : Int × Int) (a2 : Int × Int) (a3 : Int) (a4 : Int) :
    evF tilefarmref14_next.C k [] Proofs.Try.f95 [.imm (.pair (.int .i64) (.int .i64)), .imm (.pair (.int .i64) (.int .i64)), .imm (.pair (.int .i64) (.int .i64)), .imm (.int .i64), .imm (.int .i64)] [(.pair (.int .i64) (.int .i64)), .bool] (a0, a1, a2, a3, a4, ()) some = tilefarmref14_next k a0 a1 a2 a3 a4 := by kernel_rfl

noncomputable def tilefarmref14_Interval.S : FSem := ⟨81, [.imm (.sl (.pair (.int .i64) (.int .i64))), .imm (.int .i64), .imm (.int .i64)], [(.int .i64), (.int .i64), (.int .i64)], fun k x => tilefarmref14_Interval k x.1 x.2.1 x.2.2.1⟩
noncomputable def tilefarmref14_Interval.C : Ctx := ⟨tis, etys, [tilefarmref14_Valid.S, tilefarmref9_Value.S, tilefarmref14_takes.S, tilefarmref14_next.S], [0, 1, 2, 6, 7, 8, 9, 10, 11, 12, 13, 14, 15, 16, 20, 29, 33, 45, 53, 74], [], 92⟩
noncomputable def tilefarmref14_Interval.L0 {R : Type} (k : Nat) : LC R := ⟨0, ⟨[(0, .val (.sl (.pair (.int .i64) (.int .i64)))), (1, .val (.int .i64)), (2, .val (.int .i64)), (10, .arr 0), (11, .val (.int .i64))], [.arr (.pair (.int .i64) (.int .i64))]⟩, [(.ret, ⟨[(6, .val (.int .i64)), (7, .val (.int .i64)), (8, .val (.int .i64))], []⟩), (.ex 0, ⟨[(10, .arr 0)], [.arr (.pair (.int .i64) (.int .i64))]⟩)], fun x e => tilefarmref14_Interval.loop0 k k x.1.1 x.1.2.1 x.1.2.2.1 x.1.2.2.2.1 x.2.1 (fun u0 u1 u2 => e (.inl ((u0, u1, u2, ()), ()))) (fun u0 => e (.inr (((), (u0, ())))))⟩
theorem tilefarmref14_Interval.r0 {R : Type} (k j : Nat) (s0 : List (Int × Int)) (s1 : Int) (s2 : Int) (s11 : Int) (l10 : List (Int × Int)) (e : Outs (tilefarmref14_Interval.L0 (R := R) k).outs → Option R) :
    evRound tilefarmref14_Interval.C k [] (tilefarmref14_Interval.L0 (R := R) k).inn (tilefarmref14_Interval.L0 (R := R) k).outs (loopOf Proofs.Try.f81 0) 1 ((s0, s1, s2, s11, ()), (l10, ())) (fun x => tilefarmref14_Interval.loop0 k j x.1.1 x.1.2.1 x.1.2.2.1 x.1.2.2.2.1 x.2.1 (fun u0 u1 u2 => e (.inl ((u0, u1, u2, ()), ()))) (fun u0 => e (.inr (((), (u0, ())))))) e =
    tilefarmref14_Interval.loop0 k (j + 1) s0 s1 s2 s11 l10 (fun u0 u1 u2 => e (.inl ((u0, u1, u2, ()), ()))) (fun u0 => e (.inr (((), (u0, ()))))) := by kernel_rfl
theorem tilefarmref14_Interval.eq (k : Nat) (a0 : List (Int × Int)) (a1 : Int) (a2 : Int) :
    evF tilefarmref14_Interval.C k [tilefarmref14_Interval.L0 k] Proofs.Try.f81 [.imm (.sl (.pair (.int .i64) (.int .i64))), .imm (.int .i64), .imm (.int .i64)] [(.int .i64), (.int .i64), (.int .i64)] (a0, a1, a2, ()) some = tilefarmref14_Interval k a0 a1 a2 := by kernel_rfl

noncomputable def tilefarmref14_Check.S : FSem := ⟨52, [.imm (.sl (.pair (.int .i64) (.int .i64))), .imm .bool, .imm (.int .i64), .imm (.int .i64), .imm (.int .i64)], [(.int .i64)], fun k x => tilefarmref14_Check k x.1 x.2.1 x.2.2.1 x.2.2.2.1 x.2.2.2.2.1⟩
noncomputable def tilefarmref14_Check.C : Ctx := ⟨tis, etys, [tilefarmref14_Valid.S, tilefarmref9_Value.S, tilefarmref14_Interval.S], [0, 1, 2, 3, 4, 10, 11, 14, 19, 23, 25], [], 35⟩
theorem tilefarmref14_Check.eq (k : Nat) (a0 : List (Int × Int)) (a1 : Bool) (a2 : Int) (a3 : Int) (a4 : Int) :
    evF tilefarmref14_Check.C k [] Proofs.Try.f52 [.imm (.sl (.pair (.int .i64) (.int .i64))), .imm .bool, .imm (.int .i64), .imm (.int .i64), .imm (.int .i64)] [(.int .i64)] (a0, a1, a2, a3, a4, ()) some = tilefarmref14_Check k a0 a1 a2 a3 a4 := by kernel_rfl

noncomputable def tilefarmref15_kernel.S : FSem := ⟨32, [.imm (.pair (.int .i64) (.pair (.int .i64) (.pair (.int .i64) (.pair .bool (.pair (.pair (.int .i64) (.int .i64)) (.pair (.int .i64) (.pair (.int .i64) (.pair (.sl (.int .i64)) (.pair (.sl (.int .i64)) (.pair (.sl (.int .i64)) (.pair (.int .i64) (.pair (.int .i64) (.pair (.sl (.pair (.int .i64) (.sl (.int .i64)))) (.pair (.sl (.pair (.int .i64) (.sl (.int .i64)))) (.pair (.int .i64) (.pair (.sl (.pair (.int .i64) (.int .i64))) (.int .i64))))))))))))))))), .imm (.pair (.int .i64) (.pair (.int .i64) (.int .i64))), .imm (.pair (.int .i64) (.pair (.int .i64) (.int .i64)))], [(.pair (.int .i64) (.pair (.int .i64) (.int .i64))), (.int .i64)], fun k x => tilefarmref15_kernel k x.1 x.2.1 x.2.2.1⟩
noncomputable def tilefarmref15_kernel.C : Ctx := ⟨tis, etys, [tilefarmref9_Check.S, tilefarmref10_Check.S, tilefarmref11_Check.S, tilefarmref12_Bins.S, tilefarmref13_Most.S, tilefarmref15_Two.S, tilefarmref14_Check.S], [0, 1, 2, 3, 4, 5, 6, 7, 8, 9, 10, 11, 20, 21, 37, 53, 76, 81, 91, 99, 119, 137], [], 140⟩
theorem tilefarmref15_kernel.eq (k : Nat) (a0 : Int × Int × Int × Bool × (Int × Int) × Int × Int × (List Int) × (List Int) × (List Int) × Int × Int × (List (Int × List Int)) × (List (Int × List Int)) × Int × (List (Int × Int)) × Int) (a1 : Int × Int × Int) (a2 : Int × Int × Int) :
    evF tilefarmref15_kernel.C k [] Proofs.Try.f32 [.imm (.pair (.int .i64) (.pair (.int .i64) (.pair (.int .i64) (.pair .bool (.pair (.pair (.int .i64) (.int .i64)) (.pair (.int .i64) (.pair (.int .i64) (.pair (.sl (.int .i64)) (.pair (.sl (.int .i64)) (.pair (.sl (.int .i64)) (.pair (.int .i64) (.pair (.int .i64) (.pair (.sl (.pair (.int .i64) (.sl (.int .i64)))) (.pair (.sl (.pair (.int .i64) (.sl (.int .i64)))) (.pair (.int .i64) (.pair (.sl (.pair (.int .i64) (.int .i64))) (.int .i64))))))))))))))))), .imm (.pair (.int .i64) (.pair (.int .i64) (.int .i64))), .imm (.pair (.int .i64) (.pair (.int .i64) (.int .i64)))] [(.pair (.int .i64) (.pair (.int .i64) (.int .i64))), (.int .i64)] (a0, a1, a2, ()) some = tilefarmref15_kernel k a0 a1 a2 := by kernel_rfl

noncomputable def tilefarmref15_Of.S : FSem := ⟨10, [.imm (.pair (.int .i64) (.pair (.int .i64) (.pair (.int .i64) (.pair .bool (.pair (.pair (.int .i64) (.int .i64)) (.pair (.int .i64) (.pair (.int .i64) (.pair (.sl (.int .i64)) (.pair (.sl (.int .i64)) (.pair (.sl (.int .i64)) (.pair (.int .i64) (.pair (.int .i64) (.pair (.sl (.pair (.int .i64) (.sl (.int .i64)))) (.pair (.sl (.pair (.int .i64) (.sl (.int .i64)))) (.pair (.int .i64) (.pair (.sl (.pair (.int .i64) (.int .i64))) (.int .i64))))))))))))))))), .imm (.pair (.int .i64) (.pair (.int .i64) (.int .i64))), .imm (.pair (.int .i64) (.pair (.int .i64) (.int .i64)))], [(.pair (.int .i64) (.pair (.int .i64) (.int .i64))), (.int .i64)], fun k x => tilefarmref15_Of k x.1 x.2.1 x.2.2.1⟩
noncomputable def tilefarmref15_Of.C : Ctx := ⟨tis, etys, [tilefarmref15_Fields.S, tilefarmref15_Valid.S, tilefarmref15_Two.S, tilefarmref15_edged.S, tilefarmref3_Valid.S, tilefarmref15_kernel.S], [0, 1, 2, 3, 4, 5, 6, 7, 8, 9, 10, 15, 29, 50], [], 54⟩
theorem tilefarmref15_Of.eq (k : Nat) (a0 : Int × Int × Int × Bool × (Int × Int) × Int × Int × (List Int) × (List Int) × (List Int) × Int × Int × (List (Int × List Int)) × (List (Int × List Int)) × Int × (List (Int × Int)) × Int) (a1 : Int × Int × Int) (a2 : Int × Int × Int) :
    evF tilefarmref15_Of.C k [] Proofs.Try.f10 [.imm (.pair (.int .i64) (.pair (.int .i64) (.pair (.int .i64) (.pair .bool (.pair (.pair (.int .i64) (.int .i64)) (.pair (.int .i64) (.pair (.int .i64) (.pair (.sl (.int .i64)) (.pair (.sl (.int .i64)) (.pair (.sl (.int .i64)) (.pair (.int .i64) (.pair (.int .i64) (.pair (.sl (.pair (.int .i64) (.sl (.int .i64)))) (.pair (.sl (.pair (.int .i64) (.sl (.int .i64)))) (.pair (.int .i64) (.pair (.sl (.pair (.int .i64) (.int .i64))) (.int .i64))))))))))))))))), .imm (.pair (.int .i64) (.pair (.int .i64) (.int .i64))), .imm (.pair (.int .i64) (.pair (.int .i64) (.int .i64)))] [(.pair (.int .i64) (.pair (.int .i64) (.int .i64))), (.int .i64)] (a0, a1, a2, ()) some = tilefarmref15_Of k a0 a1 a2 := by kernel_rfl

noncomputable def shape_Sources.S : FSem := ⟨14, [.imm (.pair (.int .i64) (.pair (.int .i64) (.pair (.int .i64) (.pair .bool (.pair (.pair (.int .i64) (.int .i64)) (.pair (.int .i64) (.pair (.int .i64) (.pair (.sl (.int .i64)) (.pair (.sl (.int .i64)) (.pair (.sl (.int .i64)) (.pair (.int .i64) (.pair (.int .i64) (.pair (.sl (.pair (.int .i64) (.sl (.int .i64)))) (.pair (.sl (.pair (.int .i64) (.sl (.int .i64)))) (.pair (.int .i64) (.pair (.sl (.pair (.int .i64) (.int .i64))) (.int .i64)))))))))))))))))], [(.sl (.int .i64))], fun k x => shape_Sources k x.1⟩
noncomputable def shape_Sources.C : Ctx := ⟨tis, etys, [shape_two.S], [0, 1, 2, 4], [], 13⟩
theorem shape_Sources.eq (k : Nat) (a0 : Int × Int × Int × Bool × (Int × Int) × Int × Int × (List Int) × (List Int) × (List Int) × Int × Int × (List (Int × List Int)) × (List (Int × List Int)) × Int × (List (Int × Int)) × Int) :
    evF shape_Sources.C k [] Proofs.Try.f14 [.imm (.pair (.int .i64) (.pair (.int .i64) (.pair (.int .i64) (.pair .bool (.pair (.pair (.int .i64) (.int .i64)) (.pair (.int .i64) (.pair (.int .i64) (.pair (.sl (.int .i64)) (.pair (.sl (.int .i64)) (.pair (.sl (.int .i64)) (.pair (.int .i64) (.pair (.int .i64) (.pair (.sl (.pair (.int .i64) (.sl (.int .i64)))) (.pair (.sl (.pair (.int .i64) (.sl (.int .i64)))) (.pair (.int .i64) (.pair (.sl (.pair (.int .i64) (.int .i64))) (.int .i64)))))))))))))))))] [(.sl (.int .i64))] (a0, ()) some = shape_Sources k a0 := by kernel_rfl

noncomputable def tilefarmref15_Sources.S : FSem := ⟨15, [.imm (.pair (.int .i64) (.pair (.int .i64) (.pair (.int .i64) (.pair .bool (.pair (.pair (.int .i64) (.int .i64)) (.pair (.int .i64) (.pair (.int .i64) (.pair (.sl (.int .i64)) (.pair (.sl (.int .i64)) (.pair (.sl (.int .i64)) (.pair (.int .i64) (.pair (.int .i64) (.pair (.sl (.pair (.int .i64) (.sl (.int .i64)))) (.pair (.sl (.pair (.int .i64) (.sl (.int .i64)))) (.pair (.int .i64) (.pair (.sl (.pair (.int .i64) (.int .i64))) (.int .i64)))))))))))))))))], [(.sl (.int .i64))], fun k x => tilefarmref15_Sources k x.1⟩
noncomputable def tilefarmref15_Sources.C : Ctx := ⟨tis, etys, [tilefarmref15_Two.S], [0, 1, 2, 4], [], 13⟩
theorem tilefarmref15_Sources.eq (k : Nat) (a0 : Int × Int × Int × Bool × (Int × Int) × Int × Int × (List Int) × (List Int) × (List Int) × Int × Int × (List (Int × List Int)) × (List (Int × List Int)) × Int × (List (Int × Int)) × Int) :
    evF tilefarmref15_Sources.C k [] Proofs.Try.f15 [.imm (.pair (.int .i64) (.pair (.int .i64) (.pair (.int .i64) (.pair .bool (.pair (.pair (.int .i64) (.int .i64)) (.pair (.int .i64) (.pair (.int .i64) (.pair (.sl (.int .i64)) (.pair (.sl (.int .i64)) (.pair (.sl (.int .i64)) (.pair (.int .i64) (.pair (.int .i64) (.pair (.sl (.pair (.int .i64) (.sl (.int .i64)))) (.pair (.sl (.pair (.int .i64) (.sl (.int .i64)))) (.pair (.int .i64) (.pair (.sl (.pair (.int .i64) (.int .i64))) (.int .i64)))))))))))))))))] [(.sl (.int .i64))] (a0, ()) some = tilefarmref15_Sources k a0 := by kernel_rfl

noncomputable def tilefarmref4_Same.S : FSem := ⟨13, [.imm (.sl (.int .i64)), .imm (.sl (.int .i64))], [.bool], fun k x => tilefarmref4_Same k x.1 x.2.1⟩
noncomputable def tilefarmref4_Same.C : Ctx := ⟨tis, etys, [], [0, 1, 4, 5, 10, 14, 25], [], 26⟩
noncomputable def tilefarmref4_Same.L0 {R : Type} (k : Nat) : LC R := ⟨0, ⟨[(0, .val (.sl (.int .i64))), (1, .val (.sl (.int .i64))), (5, .val (.int .i64))], []⟩, [(.ret, ⟨[(4, .val .bool)], []⟩), (.ex 0, ⟨[], []⟩)], fun x e => tilefarmref4_Same.loop0 k k x.1.1 x.1.2.1 x.1.2.2.1 (fun u0 => e (.inl ((u0, ()), ()))) (fun _ => e (.inr (((), ()))))⟩
theorem tilefarmref4_Same.r0 {R : Type} (k j : Nat) (s0 : List Int) (s1 : List Int) (s5 : Int) (e : Outs (tilefarmref4_Same.L0 (R := R) k).outs → Option R) :
    evRound tilefarmref4_Same.C k [] (tilefarmref4_Same.L0 (R := R) k).inn (tilefarmref4_Same.L0 (R := R) k).outs (loopOf Proofs.Try.f13 0) 1 ((s0, s1, s5, ()), ()) (fun x => tilefarmref4_Same.loop0 k j x.1.1 x.1.2.1 x.1.2.2.1 (fun u0 => e (.inl ((u0, ()), ()))) (fun _ => e (.inr (((), ()))))) e =
    tilefarmref4_Same.loop0 k (j + 1) s0 s1 s5 (fun u0 => e (.inl ((u0, ()), ()))) (fun _ => e (.inr (((), ())))) := by kernel_rfl
theorem tilefarmref4_Same.eq (k : Nat) (a0 : List Int) (a1 : List Int) :
    evF tilefarmref4_Same.C k [tilefarmref4_Same.L0 k] Proofs.Try.f13 [.imm (.sl (.int .i64)), .imm (.sl (.int .i64))] [.bool] (a0, a1, ()) some = tilefarmref4_Same k a0 a1 := by kernel_rfl

noncomputable def tilefarmlaw15_bins.S : FSem := ⟨37, [.imm (.int .i64)], [(.pair (.int .i64) (.pair (.int .i64) (.pair (.int .i64) (.pair .bool (.pair (.pair (.int .i64) (.int .i64)) (.pair (.int .i64) (.pair (.int .i64) (.pair (.sl (.int .i64)) (.pair (.sl (.int .i64)) (.pair (.sl (.int .i64)) (.pair (.int .i64) (.pair (.int .i64) (.pair (.sl (.pair (.int .i64) (.sl (.int .i64)))) (.pair (.sl (.pair (.int .i64) (.sl (.int .i64)))) (.pair (.int .i64) (.pair (.sl (.pair (.int .i64) (.int .i64))) (.int .i64)))))))))))))))))], fun k x => tilefarmlaw15_bins k x.1⟩
noncomputable def tilefarmlaw15_bins.C : Ctx := ⟨tis, etys, [], [0, 2], [], 5⟩
theorem tilefarmlaw15_bins.eq (k : Nat) (a0 : Int) :
    evF tilefarmlaw15_bins.C k [] Proofs.Try.f37 [.imm (.int .i64)] [(.pair (.int .i64) (.pair (.int .i64) (.pair (.int .i64) (.pair .bool (.pair (.pair (.int .i64) (.int .i64)) (.pair (.int .i64) (.pair (.int .i64) (.pair (.sl (.int .i64)) (.pair (.sl (.int .i64)) (.pair (.sl (.int .i64)) (.pair (.int .i64) (.pair (.int .i64) (.pair (.sl (.pair (.int .i64) (.sl (.int .i64)))) (.pair (.sl (.pair (.int .i64) (.sl (.int .i64)))) (.pair (.int .i64) (.pair (.sl (.pair (.int .i64) (.int .i64))) (.int .i64)))))))))))))))))] (a0, ()) some = tilefarmlaw15_bins k a0 := by kernel_rfl

noncomputable def tilefarmlaw15_sane.S : FSem := ⟨18, [], [.bool], fun k x => tilefarmlaw15_sane k⟩
noncomputable def tilefarmlaw15_sane.C : Ctx := ⟨tis, etys, [tilefarmlaw15_bins.S, shape_Of.S, shape_Sources.S, shape_Fields.S, shape_Valid.S], [0, 1, 2, 3], [], 39⟩
theorem tilefarmlaw15_sane.eq (k : Nat) :
    evF tilefarmlaw15_sane.C k [] Proofs.Try.f18 [] [.bool] () some = tilefarmlaw15_sane k := by kernel_rfl

noncomputable def tilefarmlaw15_ShapeChecks.S : FSem := ⟨3, [.imm (.sl (.int .i64)), .imm (.pair (.int .i64) (.pair (.int .i64) (.int .i64))), .imm (.pair (.int .i64) (.pair (.int .i64) (.int .i64)))], [.bool], fun k x => tilefarmlaw15_ShapeChecks k x.1 x.2.1 x.2.2.1⟩
noncomputable def tilefarmlaw15_ShapeChecks.C : Ctx := ⟨tis, etys, [tilefarmgen_New.S, tilefarmlaw15_small.S, tilefarmgen_Tape_Stage.S, tilefarmgen_Tape_SpoilStage.S, shape_Of.S, tilefarmref15_Of.S, shape_Fields.S, tilefarmref15_Fields.S, shape_Sources.S, tilefarmref15_Sources.S, tilefarmref4_Same.S, shape_Valid.S, tilefarmref15_Valid.S, tilefarmlaw15_sane.S], [0, 1, 2, 4, 5, 6, 7, 8, 9, 10, 11, 12, 13, 14, 15, 19, 33, 37, 38, 42, 89], [], 91⟩
noncomputable def tilefarmlaw15_ShapeChecks.L0 {R : Type} (k : Nat) : LC R := ⟨0, ⟨[(4, .ptr 0), (5, .ptr 1), (7, .ptr 2), (8, .val (.int .i64))], [.box (some (.pair (.int .i64) (.pair (.int .i64) (.int .i64)))) [(.int .i64), (.int .i64), (.int .i64)], .box (some (.pair (.int .i64) (.pair (.int .i64) (.int .i64)))) [(.int .i64), (.int .i64), (.int .i64)], .box (some (.pair (.sl (.int .i64)) (.int .i64))) [(.sl (.int .i64)), (.int .i64)]]⟩, [(.ret, ⟨[(6, .val .bool)], []⟩), (.ex 0, ⟨[], []⟩)], fun x e => tilefarmlaw15_ShapeChecks.loop0 k k x.1.1 x.2.1.1 x.2.1.2.1 x.2.1.2.2.1 x.2.2.1.1 x.2.2.1.2.1 x.2.2.1.2.2.1 x.2.2.2.1.1 x.2.2.2.1.2.1 (fun u0 => e (.inl ((u0, ()), ()))) (fun _ => e (.inr (((), ()))))⟩
theorem tilefarmlaw15_ShapeChecks.r0 {R : Type} (k j : Nat) (s8 : Int) (b4_0 : Int) (b4_1 : Int) (b4_2 : Int) (b5_0 : Int) (b5_1 : Int) (b5_2 : Int) (b7_0 : List Int) (b7_1 : Int) (e : Outs (tilefarmlaw15_ShapeChecks.L0 (R := R) k).outs → Option R) :
    evRound tilefarmlaw15_ShapeChecks.C k [] (tilefarmlaw15_ShapeChecks.L0 (R := R) k).inn (tilefarmlaw15_ShapeChecks.L0 (R := R) k).outs (loopOf Proofs.Try.f3 0) 1 ((s8, ()), ((b4_0, b4_1, b4_2, ()), (b5_0, b5_1, b5_2, ()), (b7_0, b7_1, ()), ())) (fun x => tilefarmlaw15_ShapeChecks.loop0 k j x.1.1 x.2.1.1 x.2.1.2.1 x.2.1.2.2.1 x.2.2.1.1 x.2.2.1.2.1 x.2.2.1.2.2.1 x.2.2.2.1.1 x.2.2.2.1.2.1 (fun u0 => e (.inl ((u0, ()), ()))) (fun _ => e (.inr (((), ()))))) e =
    tilefarmlaw15_ShapeChecks.loop0 k (j + 1) s8 b4_0 b4_1 b4_2 b5_0 b5_1 b5_2 b7_0 b7_1 (fun u0 => e (.inl ((u0, ()), ()))) (fun _ => e (.inr (((), ())))) := by kernel_rfl
theorem tilefarmlaw15_ShapeChecks.eq (k : Nat) (a0 : List Int) (a1 : Int × Int × Int) (a2 : Int × Int × Int) :
    evF tilefarmlaw15_ShapeChecks.C k [tilefarmlaw15_ShapeChecks.L0 k] Proofs.Try.f3 [.imm (.sl (.int .i64)), .imm (.pair (.int .i64) (.pair (.int .i64) (.int .i64))), .imm (.pair (.int .i64) (.pair (.int .i64) (.int .i64)))] [.bool] (a0, a1, a2, ()) some = tilefarmlaw15_ShapeChecks k a0 a1 a2 := by kernel_rfl

noncomputable def tilefarmlaw15_ShapeFields.S : FSem := ⟨4, [.imm (.sl (.int .i64)), .imm (.int .i64)], [.bool], fun k x => tilefarmlaw15_ShapeFields k x.1 x.2.1⟩
noncomputable def tilefarmlaw15_ShapeFields.C : Ctx := ⟨tis, etys, [tilefarmgen_New.S, tilefarmlaw15_small.S, tilefarmgen_Tape_Stage.S, shape_Of.S, tilefarmgen_Tape_Next.S, shape_Fields.S, tilefarmlaw15_sane.S], [0, 1, 4, 5, 6, 7, 8, 9, 10, 11, 12, 14, 50, 53], [], 79⟩
theorem tilefarmlaw15_ShapeFields.eq (k : Nat) (a0 : List Int) (a1 : Int) :
    evF tilefarmlaw15_ShapeFields.C k [] Proofs.Try.f4 [.imm (.sl (.int .i64)), .imm (.int .i64)] [.bool] (a0, a1, ()) some = tilefarmlaw15_ShapeFields k a0 a1 := by kernel_rfl

end Go.Lf.T
