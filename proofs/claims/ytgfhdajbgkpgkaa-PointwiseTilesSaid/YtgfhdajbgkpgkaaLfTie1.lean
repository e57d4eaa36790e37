import Derived.Test.YtgfhdajbgkpgkaaLfSh1
import Derived.KernelRfl
import Derived.Test.YtgfhdajbgkpgkaaProg
set_option linter.unusedVariables false
set_option maxRecDepth 100000
namespace Go.Lf.T
open Go Go.Lf

def tis : List (TypeId × TI) := [
  (3, ⟨1, 8, .int .i64, [.int .i64 0], []⟩),
  (4, ⟨1, 1, .bool, [.bool false], []⟩),
  (22, ⟨1, 24, .slice 3, [.nils], []⟩),
  (23, ⟨1, 24, .slice 41, [.nils], []⟩),
  (41, ⟨2, 16, .struct [(0, 1), (1, 1)], [.int .i64 0, .int .i64 0], [true, true]⟩),
  (44, ⟨4, 32, .struct [(0, 1), (1, 1), (2, 1), (3, 1)], [.int .i64 0, .int .i64 0, .int .i64 0, .int .i64 0], [true, true, true, true]⟩),
  (46, ⟨4, 48, .struct [(0, 1), (1, 1), (2, 1), (3, 1)], [.int .i64 0, .int .i64 0, .int .i64 0, .nils], []⟩),
  (56, ⟨2, 32, .struct [(0, 1), (1, 1)], [.nils, .int .i64 0], []⟩),
  (58, ⟨1, 24, .slice 60, [.nils], []⟩),
  (60, ⟨2, 16, .struct [(0, 1), (1, 1)], [.int .i64 0, .int .i64 0], [true, true]⟩),
  (65, ⟨1, 24, .slice 67, [.nils], []⟩),
  (67, ⟨2, 16, .struct [(0, 1), (1, 1)], [.int .i64 0, .int .i64 0], [true, true]⟩),
  (86, ⟨1, 8, .int .u64, [.int .u64 0], []⟩)]

def etys : List (TypeId × Ty) := [
  (3, (.int .i64)),
  (41, (.pair (.int .i64) (.int .i64))),
  (44, (.pair (.int .i64) (.pair (.int .i64) (.pair (.int .i64) (.int .i64))))),
  (46, (.pair (.int .i64) (.pair (.int .i64) (.pair (.int .i64) (.sl (.int .i64)))))),
  (56, (.pair (.sl (.int .i64)) (.int .i64))),
  (60, (.pair (.int .i64) (.int .i64))),
  (67, (.pair (.int .i64) (.int .i64)))]

noncomputable def tilefarmgen_New.S : FSem := ⟨8, [.imm (.sl (.int .i64))], [(.bx (.pair (.sl (.int .i64)) (.int .i64)))], fun k x => tilefarmgen_New k x.1⟩
noncomputable def tilefarmgen_New.C : Ctx := ⟨tis, etys, [], [0, 2], [], 6⟩
theorem tilefarmgen_New.eq (k : Nat) (a0 : List Int) :
    evF tilefarmgen_New.C k [] Proofs.Try.f8 [.imm (.sl (.int .i64))] [(.bx (.pair (.sl (.int .i64)) (.int .i64)))] (a0, ()) some = tilefarmgen_New k a0 := by kernel_rfl

noncomputable def tilefarmgen_Mod.S : FSem := ⟨19, [.imm (.int .i64), .imm (.int .i64)], [(.int .i64)], fun k x => tilefarmgen_Mod k x.1 x.2.1⟩
noncomputable def tilefarmgen_Mod.C : Ctx := ⟨tis, etys, [], [0, 1, 4, 5, 10], [], 15⟩
theorem tilefarmgen_Mod.eq (k : Nat) (a0 : Int) (a1 : Int) :
    evF tilefarmgen_Mod.C k [] Proofs.Try.f19 [.imm (.int .i64), .imm (.int .i64)] [(.int .i64)] (a0, a1, ()) some = tilefarmgen_Mod k a0 a1 := by kernel_rfl

noncomputable def tilefarmgen_Tape_Next.S : FSem := ⟨11, [.bor (.pair (.sl (.int .i64)) (.int .i64)) true, .imm (.int .i64)], [(.int .i64)], fun k x => tilefarmgen_Tape_Next k x.1 x.2.1⟩
noncomputable def tilefarmgen_Tape_Next.C : Ctx := ⟨tis, etys, [tilefarmgen_Mod.S], [0, 1, 4, 18], [0], 39⟩
theorem tilefarmgen_Tape_Next.eq (k : Nat) (a0 : (List Int) × Int) (a1 : Int) :
    evF tilefarmgen_Tape_Next.C k [] Proofs.Try.f11 [.bor (.pair (.sl (.int .i64)) (.int .i64)) true, .imm (.int .i64)] [(.int .i64)] (a0, a1, ()) some = tilefarmgen_Tape_Next k a0 a1 := by kernel_rfl

noncomputable def tilefarmgen_Tape_Pick.S : FSem := ⟨10, [.bor (.pair (.sl (.int .i64)) (.int .i64)) true, .imm (.sl (.int .i64))], [(.int .i64)], fun k x => tilefarmgen_Tape_Pick k x.1 x.2.1⟩
noncomputable def tilefarmgen_Tape_Pick.C : Ctx := ⟨tis, etys, [tilefarmgen_Tape_Next.S], [0, 1, 4], [0], 12⟩
theorem tilefarmgen_Tape_Pick.eq (k : Nat) (a0 : (List Int) × Int) (a1 : List Int) :
    evF tilefarmgen_Tape_Pick.C k [] Proofs.Try.f10 [.bor (.pair (.sl (.int .i64)) (.int .i64)) true, .imm (.sl (.int .i64))] [(.int .i64)] (a0, a1, ()) some = tilefarmgen_Tape_Pick k a0 a1 := by kernel_rfl

noncomputable def tilefarmgen_Tape_Ops.S : FSem := ⟨20, [.bor (.pair (.sl (.int .i64)) (.int .i64)) true, .imm .bool], [(.ow (.pair (.int .i64) (.int .i64)))], fun k x => tilefarmgen_Tape_Ops k x.1 x.2.1⟩
noncomputable def tilefarmgen_Tape_Ops.C : Ctx := ⟨tis, etys, [tilefarmgen_Tape_Pick.S, tilefarmgen_Tape_Next.S], [0, 1, 4, 5, 6, 9, 21, 25, 30, 46], [0], 55⟩
noncomputable def tilefarmgen_Tape_Ops.L0 {R : Type} (k : Nat) : LC R := ⟨0, ⟨[(0, .ptr 0), (5, .arr 1), (6, .val (.int .i64))], [.box (some (.pair (.sl (.int .i64)) (.int .i64))) [(.sl (.int .i64)), (.int .i64)], .arr (.pair (.int .i64) (.int .i64))]⟩, [(.ex 0, ⟨[(0, .ptr 0), (5, .arr 1)], [.box (some (.pair (.sl (.int .i64)) (.int .i64))) [(.sl (.int .i64)), (.int .i64)], .arr (.pair (.int .i64) (.int .i64))]⟩)], fun x e => tilefarmgen_Tape_Ops.loop0 k k x.1.1 x.2.1.1 x.2.1.2.1 x.2.2.1 (fun u0 u1 u2 => e ((), ((u0, u1, ()), u2, ())))⟩
theorem tilefarmgen_Tape_Ops.r0 {R : Type} (k j : Nat) (s6 : Int) (b0_0 : List Int) (b0_1 : Int) (l5 : List (Int × Int)) (e : Outs (tilefarmgen_Tape_Ops.L0 (R := R) k).outs → Option R) :
    evRound tilefarmgen_Tape_Ops.C k [] (tilefarmgen_Tape_Ops.L0 (R := R) k).inn (tilefarmgen_Tape_Ops.L0 (R := R) k).outs (loopOf Proofs.Try.f20 0) 1 ((s6, ()), ((b0_0, b0_1, ()), l5, ())) (fun x => tilefarmgen_Tape_Ops.loop0 k j x.1.1 x.2.1.1 x.2.1.2.1 x.2.2.1 (fun u0 u1 u2 => e ((), ((u0, u1, ()), u2, ())))) e =
    tilefarmgen_Tape_Ops.loop0 k (j + 1) s6 b0_0 b0_1 l5 (fun u0 u1 u2 => e ((), ((u0, u1, ()), u2, ()))) := by kernel_rfl
theorem tilefarmgen_Tape_Ops.eq (k : Nat) (a0 : (List Int) × Int) (a1 : Bool) :
    evF tilefarmgen_Tape_Ops.C k [tilefarmgen_Tape_Ops.L0 k] Proofs.Try.f20 [.bor (.pair (.sl (.int .i64)) (.int .i64)) true, .imm .bool] [(.ow (.pair (.int .i64) (.int .i64)))] (a0, a1, ()) some = tilefarmgen_Tape_Ops k a0 a1 := by kernel_rfl

noncomputable def tilefarmlaw14_program.S : FSem := ⟨9, [.bor (.pair (.sl (.int .i64)) (.int .i64)) true], [(.sl (.pair (.int .i64) (.int .i64)))], fun k x => tilefarmlaw14_program k x.1⟩
noncomputable def tilefarmlaw14_program.C : Ctx := ⟨tis, etys, [tilefarmgen_Tape_Next.S, tilefarmgen_Tape_Ops.S, tilefarmgen_Tape_Pick.S], [0, 2, 3, 10, 11, 23], [0], 34⟩
theorem tilefarmlaw14_program.eq (k : Nat) (a0 : (List Int) × Int) :
    evF tilefarmlaw14_program.C k [] Proofs.Try.f9 [.bor (.pair (.sl (.int .i64)) (.int .i64)) true] [(.sl (.pair (.int .i64) (.int .i64)))] (a0, ()) some = tilefarmlaw14_program k a0 := by kernel_rfl

noncomputable def pointwise_between.S : FSem := ⟨28, [.imm (.int .i64), .imm (.int .i64), .imm (.int .i64)], [.bool], fun k x => pointwise_between k x.1 x.2.1 x.2.2.1⟩
noncomputable def pointwise_between.C : Ctx := ⟨tis, etys, [], [0, 1, 2, 6], [], 15⟩
theorem pointwise_between.eq (k : Nat) (a0 : Int) (a1 : Int) (a2 : Int) :
    evF pointwise_between.C k [] Proofs.Try.f28 [.imm (.int .i64), .imm (.int .i64), .imm (.int .i64)] [.bool] (a0, a1, a2, ()) some = pointwise_between k a0 a1 a2 := by kernel_rfl

noncomputable def pointwise_takes.S : FSem := ⟨29, [.imm (.int .i64)], [(.int .i64)], fun k x => pointwise_takes k x.1⟩
noncomputable def pointwise_takes.C : Ctx := ⟨tis, etys, [], [0, 2, 3, 4, 8], [], 11⟩
theorem pointwise_takes.eq (k : Nat) (a0 : Int) :
    evF pointwise_takes.C k [] Proofs.Try.f29 [.imm (.int .i64)] [(.int .i64)] (a0, ()) some = pointwise_takes k a0 := by kernel_rfl

noncomputable def pointwise_argument.S : FSem := ⟨39, [.imm (.pair (.int .i64) (.int .i64))], [.bool], fun k x => pointwise_argument k x.1⟩
noncomputable def pointwise_argument.C : Ctx := ⟨tis, etys, [pointwise_between.S], [0, 1, 2, 4, 5, 10], [], 18⟩
theorem pointwise_argument.eq (k : Nat) (a0 : Int × Int) :
    evF pointwise_argument.C k [] Proofs.Try.f39 [.imm (.pair (.int .i64) (.int .i64))] [.bool] (a0, ()) some = pointwise_argument k a0 := by kernel_rfl

noncomputable def pointwise_Valid.S : FSem := ⟨16, [.imm (.sl (.pair (.int .i64) (.int .i64))), .imm .bool], [(.int .i64)], fun k x => pointwise_Valid k x.1 x.2.1⟩
noncomputable def pointwise_Valid.C : Ctx := ⟨tis, etys, [pointwise_between.S, pointwise_takes.S, pointwise_argument.S], [0, 1, 4, 5, 7, 11, 12, 13, 14, 15, 37, 40, 49], [], 50⟩
noncomputable def pointwise_Valid.L0 {R : Type} (k : Nat) : LC R := ⟨0, ⟨[(1, .val .bool), (5, .val (.int .i64)), (12, .val (.sl (.pair (.int .i64) (.int .i64)))), (13, .val (.int .i64)), (14, .val (.int .i64))], []⟩, [(.ret, ⟨[(4, .val (.int .i64))], []⟩), (.ex 0, ⟨[(5, .val (.int .i64))], []⟩)], fun x e => pointwise_Valid.loop0 k k x.1.1 x.1.2.1 x.1.2.2.1 x.1.2.2.2.1 x.1.2.2.2.2.1 (fun u0 => e (.inl ((u0, ()), ()))) (fun u0 => e (.inr (((u0, ()), ()))))⟩
theorem pointwise_Valid.r0 {R : Type} (k j : Nat) (s1 : Bool) (s5 : Int) (s12 : List (Int × Int)) (s13 : Int) (s14 : Int) (e : Outs (pointwise_Valid.L0 (R := R) k).outs → Option R) :
    evRound pointwise_Valid.C k [] (pointwise_Valid.L0 (R := R) k).inn (pointwise_Valid.L0 (R := R) k).outs (loopOf Proofs.Try.f16 0) 1 ((s1, s5, s12, s13, s14, ()), ()) (fun x => pointwise_Valid.loop0 k j x.1.1 x.1.2.1 x.1.2.2.1 x.1.2.2.2.1 x.1.2.2.2.2.1 (fun u0 => e (.inl ((u0, ()), ()))) (fun u0 => e (.inr (((u0, ()), ()))))) e =
    pointwise_Valid.loop0 k (j + 1) s1 s5 s12 s13 s14 (fun u0 => e (.inl ((u0, ()), ()))) (fun u0 => e (.inr (((u0, ()), ())))) := by kernel_rfl
theorem pointwise_Valid.eq (k : Nat) (a0 : List (Int × Int)) (a1 : Bool) :
    evF pointwise_Valid.C k [pointwise_Valid.L0 k] Proofs.Try.f16 [.imm (.sl (.pair (.int .i64) (.int .i64))), .imm .bool] [(.int .i64)] (a0, a1, ()) some = pointwise_Valid k a0 a1 := by kernel_rfl

noncomputable def fixed_sum.S : FSem := ⟨71, [.imm (.int .i64)], [.bool], fun k x => fixed_sum k x.1⟩
noncomputable def fixed_sum.C : Ctx := ⟨tis, etys, [], [0, 2], [], 9⟩
theorem fixed_sum.eq (k : Nat) (a0 : Int) :
    evF fixed_sum.C k [] Proofs.Try.f71 [.imm (.int .i64)] [.bool] (a0, ()) some = fixed_sum k a0 := by kernel_rfl

noncomputable def fixed_Shift.S : FSem := ⟨54, [.imm (.int .i64), .imm (.int .i64)], [(.int .i64)], fun k x => fixed_Shift k x.1 x.2.1⟩
noncomputable def fixed_Shift.C : Ctx := ⟨tis, etys, [fixed_sum.S], [0, 1, 4, 5, 17], [], 28⟩
theorem fixed_Shift.eq (k : Nat) (a0 : Int) (a1 : Int) :
    evF fixed_Shift.C k [] Proofs.Try.f54 [.imm (.int .i64), .imm (.int .i64)] [(.int .i64)] (a0, a1, ()) some = fixed_Shift k a0 a1 := by kernel_rfl

noncomputable def fixed_Span.S : FSem := ⟨30, [.imm (.int .i64), .imm (.int .i64), .imm (.int .i64)], [(.int .i64), (.int .i64)], fun k x => fixed_Span k x.1 x.2.1 x.2.2.1⟩
noncomputable def fixed_Span.C : Ctx := ⟨tis, etys, [fixed_Shift.S], [0, 1, 2, 6, 7], [], 14⟩
theorem fixed_Span.eq (k : Nat) (a0 : Int) (a1 : Int) (a2 : Int) :
    evF fixed_Span.C k [] Proofs.Try.f30 [.imm (.int .i64), .imm (.int .i64), .imm (.int .i64)] [(.int .i64), (.int .i64)] (a0, a1, a2, ()) some = fixed_Span k a0 a1 a2 := by kernel_rfl

noncomputable def pointwise_abs.S : FSem := ⟨31, [.imm (.int .i64)], [(.int .i64)], fun k x => pointwise_abs k x.1⟩
noncomputable def pointwise_abs.C : Ctx := ⟨tis, etys, [], [0, 2], [], 7⟩
theorem pointwise_abs.eq (k : Nat) (a0 : Int) :
    evF pointwise_abs.C k [] Proofs.Try.f31 [.imm (.int .i64)] [(.int .i64)] (a0, ()) some = pointwise_abs k a0 := by kernel_rfl

noncomputable def pointwise_times.S : FSem := ⟨55, [.imm (.int .i64), .imm (.int .i64)], [(.int .i64)], fun k x => pointwise_times k x.1 x.2.1⟩
noncomputable def pointwise_times.C : Ctx := ⟨tis, etys, [pointwise_abs.S], [0, 1, 4, 14], [], 18⟩
theorem pointwise_times.eq (k : Nat) (a0 : Int) (a1 : Int) :
    evF pointwise_times.C k [] Proofs.Try.f55 [.imm (.int .i64), .imm (.int .i64)] [(.int .i64)] (a0, a1, ()) some = pointwise_times k a0 a1 := by kernel_rfl

noncomputable def pointwise_combined.S : FSem := ⟨32, [.imm (.int .i64), .imm (.pair (.int .i64) (.int .i64)), .imm (.pair (.int .i64) (.int .i64))], [(.pair (.int .i64) (.int .i64))], fun k x => pointwise_combined k x.1 x.2.1 x.2.2.1⟩
noncomputable def pointwise_combined.C : Ctx := ⟨tis, etys, [pointwise_times.S, pointwise_abs.S], [0, 1, 2, 4, 5, 6, 7, 8, 9, 10, 11, 12, 13, 26, 39, 72, 85, 98], [], 123⟩
theorem pointwise_combined.eq (k : Nat) (a0 : Int) (a1 : Int × Int) (a2 : Int × Int) :
    evF pointwise_combined.C k [] Proofs.Try.f32 [.imm (.int .i64), .imm (.pair (.int .i64) (.int .i64)), .imm (.pair (.int .i64) (.int .i64))] [(.pair (.int .i64) (.int .i64))] (a0, a1, a2, ()) some = pointwise_combined k a0 a1 a2 := by kernel_rfl

noncomputable def pointwise_sum.S : FSem := ⟨33, [.imm (.int .i64)], [.bool], fun k x => pointwise_sum k x.1⟩
noncomputable def pointwise_sum.C : Ctx := ⟨tis, etys, [pointwise_between.S], [0, 2], [], 5⟩
theorem pointwise_sum.eq (k : Nat) (a0 : Int) :
    evF pointwise_sum.C k [] Proofs.Try.f33 [.imm (.int .i64)] [.bool] (a0, ()) some = pointwise_sum k a0 := by kernel_rfl

noncomputable def pointwise_Interval.S : FSem := ⟨12, [.imm (.sl (.pair (.int .i64) (.int .i64))), .imm (.int .i64), .imm (.int .i64)], [(.int .i64), (.int .i64), (.int .i64)], fun k x => pointwise_Interval k x.1 x.2.1 x.2.2.1⟩
noncomputable def pointwise_Interval.C : Ctx := ⟨tis, etys, [pointwise_Valid.S, pointwise_between.S, pointwise_takes.S, pointwise_sum.S, fixed_Span.S, pointwise_abs.S, pointwise_combined.S], [0, 1, 2, 6, 7, 8, 9, 10, 12, 13, 14, 15, 19, 28, 29, 30, 31, 32, 48, 58, 62, 66, 73, 91, 114], [], 128⟩
noncomputable def pointwise_Interval.L0 {R : Type} (k : Nat) : LC R := ⟨0, ⟨[(1, .val (.int .i64)), (2, .val (.int .i64)), (10, .arr 0), (29, .val (.sl (.pair (.int .i64) (.int .i64)))), (30, .val (.int .i64)), (31, .val (.int .i64))], [.arr (.pair (.int .i64) (.int .i64))]⟩, [(.ret, ⟨[(6, .val (.int .i64)), (7, .val (.int .i64)), (8, .val (.int .i64))], []⟩), (.ex 0, ⟨[(10, .arr 0)], [.arr (.pair (.int .i64) (.int .i64))]⟩)], fun x e => pointwise_Interval.loop0 k k x.1.1 x.1.2.1 x.1.2.2.1 x.1.2.2.2.1 x.1.2.2.2.2.1 x.2.1 (fun u0 u1 u2 => e (.inl ((u0, u1, u2, ()), ()))) (fun u0 => e (.inr (((), (u0, ())))))⟩
theorem pointwise_Interval.r0 {R : Type} (k j : Nat) (s1 : Int) (s2 : Int) (s29 : List (Int × Int)) (s30 : Int) (s31 : Int) (l10 : List (Int × Int)) (e : Outs (pointwise_Interval.L0 (R := R) k).outs → Option R) :
    evRound pointwise_Interval.C k [] (pointwise_Interval.L0 (R := R) k).inn (pointwise_Interval.L0 (R := R) k).outs (loopOf Proofs.Try.f12 0) 1 ((s1, s2, s29, s30, s31, ()), (l10, ())) (fun x => pointwise_Interval.loop0 k j x.1.1 x.1.2.1 x.1.2.2.1 x.1.2.2.2.1 x.1.2.2.2.2.1 x.2.1 (fun u0 u1 u2 => e (.inl ((u0, u1, u2, ()), ()))) (fun u0 => e (.inr (((), (u0, ())))))) e =
    pointwise_Interval.loop0 k (j + 1) s1 s2 s29 s30 s31 l10 (fun u0 u1 u2 => e (.inl ((u0, u1, u2, ()), ()))) (fun u0 => e (.inr (((), (u0, ()))))) := by kernel_rfl
theorem pointwise_Interval.eq (k : Nat) (a0 : List (Int × Int)) (a1 : Int) (a2 : Int) :
    evF pointwise_Interval.C k [pointwise_Interval.L0 k] Proofs.Try.f12 [.imm (.sl (.pair (.int .i64) (.int .i64))), .imm (.int .i64), .imm (.int .i64)] [(.int .i64), (.int .i64), (.int .i64)] (a0, a1, a2, ()) some = pointwise_Interval k a0 a1 a2 := by kernel_rfl

noncomputable def tilefarmref14_takes.S : FSem := ⟨35, [.imm (.int .i64)], [(.int .i64)], fun k x => tilefarmref14_takes k x.1⟩
noncomputable def tilefarmref14_takes.C : Ctx := ⟨tis, etys, [], [0, 2, 3, 6], [], 9⟩
theorem tilefarmref14_takes.eq (k : Nat) (a0 : Int) :
    evF tilefarmref14_takes.C k [] Proofs.Try.f35 [.imm (.int .i64)] [(.int .i64)] (a0, ()) some = tilefarmref14_takes k a0 := by kernel_rfl

noncomputable def tilefarmref7_IsShift.S : FSem := ⟨64, [.imm (.int .i64)], [.bool], fun k x => tilefarmref7_IsShift k x.1⟩
noncomputable def tilefarmref7_IsShift.C : Ctx := ⟨tis, etys, [], [0, 2], [], 9⟩
theorem tilefarmref7_IsShift.eq (k : Nat) (a0 : Int) :
    evF tilefarmref7_IsShift.C k [] Proofs.Try.f64 [.imm (.int .i64)] [.bool] (a0, ()) some = tilefarmref7_IsShift k a0 := by kernel_rfl

noncomputable def tilefarmref14_argument.S : FSem := ⟨40, [.imm (.pair (.int .i64) (.int .i64))], [.bool], fun k x => tilefarmref14_argument k x.1⟩
noncomputable def tilefarmref14_argument.C : Ctx := ⟨tis, etys, [tilefarmref7_IsShift.S], [0, 1, 2, 4, 5, 15], [], 23⟩
theorem tilefarmref14_argument.eq (k : Nat) (a0 : Int × Int) :
    evF tilefarmref14_argument.C k [] Proofs.Try.f40 [.imm (.pair (.int .i64) (.int .i64))] [.bool] (a0, ()) some = tilefarmref14_argument k a0 := by kernel_rfl

noncomputable def tilefarmref14_Valid.S : FSem := ⟨17, [.imm (.sl (.pair (.int .i64) (.int .i64))), .imm .bool], [(.int .i64)], fun k x => tilefarmref14_Valid k x.1 x.2.1⟩
noncomputable def tilefarmref14_Valid.C : Ctx := ⟨tis, etys, [tilefarmref14_takes.S, tilefarmref14_argument.S], [0, 1, 4, 5, 6, 7, 15, 19, 49, 52, 60], [], 61⟩
noncomputable def tilefarmref14_Valid.L0 {R : Type} (k : Nat) : LC R := ⟨0, ⟨[(0, .val (.sl (.pair (.int .i64) (.int .i64)))), (1, .val .bool), (5, .val (.int .i64)), (6, .val (.int .i64))], []⟩, [(.ret, ⟨[(4, .val (.int .i64))], []⟩), (.ex 0, ⟨[(5, .val (.int .i64))], []⟩)], fun x e => tilefarmref14_Valid.loop0 k k x.1.1 x.1.2.1 x.1.2.2.1 x.1.2.2.2.1 (fun u0 => e (.inl ((u0, ()), ()))) (fun u0 => e (.inr (((u0, ()), ()))))⟩
theorem tilefarmref14_Valid.r0 {R : Type} (k j : Nat) (s0 : List (Int × Int)) (s1 : Bool) (s5 : Int) (s6 : Int) (e : Outs (tilefarmref14_Valid.L0 (R := R) k).outs → Option R) :
    evRound tilefarmref14_Valid.C k [] (tilefarmref14_Valid.L0 (R := R) k).inn (tilefarmref14_Valid.L0 (R := R) k).outs (loopOf Proofs.Try.f17 0) 1 ((s0, s1, s5, s6, ()), ()) (fun x => tilefarmref14_Valid.loop0 k j x.1.1 x.1.2.1 x.1.2.2.1 x.1.2.2.2.1 (fun u0 => e (.inl ((u0, ()), ()))) (fun u0 => e (.inr (((u0, ()), ()))))) e =
    tilefarmref14_Valid.loop0 k (j + 1) s0 s1 s5 s6 (fun u0 => e (.inl ((u0, ()), ()))) (fun u0 => e (.inr (((u0, ()), ())))) := by kernel_rfl
theorem tilefarmref14_Valid.eq (k : Nat) (a0 : List (Int × Int)) (a1 : Bool) :
    evF tilefarmref14_Valid.C k [tilefarmref14_Valid.L0 k] Proofs.Try.f17 [.imm (.sl (.pair (.int .i64) (.int .i64))), .imm .bool] [(.int .i64)] (a0, a1, ()) some = tilefarmref14_Valid k a0 a1 := by kernel_rfl

noncomputable def tilefarmref9_Value.S : FSem := ⟨34, [.imm (.int .i64)], [.bool], fun k x => tilefarmref9_Value k x.1⟩
noncomputable def tilefarmref9_Value.C : Ctx := ⟨tis, etys, [], [0, 2], [], 9⟩
theorem tilefarmref9_Value.eq (k : Nat) (a0 : Int) :
    evF tilefarmref9_Value.C k [] Proofs.Try.f34 [.imm (.int .i64)] [.bool] (a0, ()) some = tilefarmref9_Value k a0 := by kernel_rfl

noncomputable def tilefarmref14_abs.S : FSem := ⟨56, [.imm (.int .i64)], [(.int .i64)], fun k x => tilefarmref14_abs k x.1⟩
noncomputable def tilefarmref14_abs.C : Ctx := ⟨tis, etys, [], [0, 2, 4], [], 8⟩
theorem tilefarmref14_abs.eq (k : Nat) (a0 : Int) :
    evF tilefarmref14_abs.C k [] Proofs.Try.f56 [.imm (.int .i64)] [(.int .i64)] (a0, ()) some = tilefarmref14_abs k a0 := by kernel_rfl

noncomputable def tilefarmref14_times.S : FSem := ⟨61, [.imm (.int .i64), .imm (.int .i64)], [(.int .i64), .bool], fun k x => tilefarmref14_times k x.1 x.2.1⟩
noncomputable def tilefarmref14_times.C : Ctx := ⟨tis, etys, [], [0, 1, 4, 5, 6, 7, 11, 15, 25], [], 29⟩
theorem tilefarmref14_times.eq (k : Nat) (a0 : Int) (a1 : Int) :
    evF tilefarmref14_times.C k [] Proofs.Try.f61 [.imm (.int .i64), .imm (.int .i64)] [(.int .i64), .bool] (a0, a1, ()) some = tilefarmref14_times k a0 a1 := by kernel_rfl

noncomputable def tilefarmref14_product.S : FSem := ⟨57, [.imm (.pair (.int .i64) (.int .i64)), .imm (.pair (.int .i64) (.int .i64))], [(.pair (.int .i64) (.int .i64)), .bool], fun k x => tilefarmref14_product k x.1 x.2.1⟩
noncomputable def tilefarmref14_product.C : Ctx := ⟨tis, etys, [tilefarmref14_times.S], [0, 1, 2, 3, 4, 5, 6, 7, 8, 9, 10, 11, 12, 13], [], 67⟩
theorem tilefarmref14_product.eq (k : Nat) (a0 : Int × Int) (a1 : Int × Int) :
    evF tilefarmref14_product.C k [] Proofs.Try.f57 [.imm (.pair (.int .i64) (.int .i64)), .imm (.pair (.int .i64) (.int .i64))] [(.pair (.int .i64) (.int .i64)), .bool] (a0, a1, ()) some = tilefarmref14_product k a0 a1 := by kernel_rfl

noncomputable def tilefarmref7_Acc.S : FSem := ⟨59, [.imm (.int .i64)], [.bool], fun k x => tilefarmref7_Acc k x.1⟩
noncomputable def tilefarmref7_Acc.C : Ctx := ⟨tis, etys, [], [0, 2], [], 9⟩
theorem tilefarmref7_Acc.eq (k : Nat) (a0 : Int) :
    evF tilefarmref7_Acc.C k [] Proofs.Try.f59 [.imm (.int .i64)] [.bool] (a0, ()) some = tilefarmref7_Acc k a0 := by kernel_rfl

noncomputable def tilefarmref7_Shift.S : FSem := ⟨63, [.imm (.int .i64), .imm (.int .i64)], [(.int .i64)], fun k x => tilefarmref7_Shift k x.1 x.2.1⟩
noncomputable def tilefarmref7_Shift.C : Ctx := ⟨tis, etys, [tilefarmref7_Acc.S, tilefarmref7_IsShift.S], [0, 1, 4, 5, 6, 7, 15, 17, 35], [], 39⟩
theorem tilefarmref7_Shift.eq (k : Nat) (a0 : Int) (a1 : Int) :
    evF tilefarmref7_Shift.C k [] Proofs.Try.f63 [.imm (.int .i64), .imm (.int .i64)] [(.int .i64)] (a0, a1, ()) some = tilefarmref7_Shift k a0 a1 := by kernel_rfl

noncomputable def tilefarmref7_Span.S : FSem := ⟨58, [.imm (.int .i64), .imm (.int .i64), .imm (.int .i64)], [(.int .i64), (.int .i64)], fun k x => tilefarmref7_Span k x.1 x.2.1 x.2.2.1⟩
noncomputable def tilefarmref7_Span.C : Ctx := ⟨tis, etys, [tilefarmref7_Shift.S], [0, 1, 2, 6, 7], [], 14⟩
theorem tilefarmref7_Span.eq (k : Nat) (a0 : Int) (a1 : Int) (a2 : Int) :
    evF tilefarmref7_Span.C k [] Proofs.Try.f58 [.imm (.int .i64), .imm (.int .i64), .imm (.int .i64)] [(.int .i64), (.int .i64)] (a0, a1, a2, ()) some = tilefarmref7_Span k a0 a1 a2 := by kernel_rfl

noncomputable def tilefarmref14_next.S : FSem := ⟨36, [.imm (.pair (.int .i64) (.int .i64)), .imm (.pair (.int .i64) (.int .i64)), .imm (.pair (.int .i64) (.int .i64)), .imm (.int .i64), .imm (.int .i64)], [(.pair (.int .i64) (.int .i64)), .bool], fun k x => tilefarmref14_next k x.1 x.2.1 x.2.2.1 x.2.2.2.1 x.2.2.2.2.1⟩
noncomputable def tilefarmref14_next.C : Ctx := ⟨tis, etys, [tilefarmref14_abs.S, tilefarmref7_Acc.S, tilefarmref14_product.S, tilefarmref7_Span.S], [0, 1, 2, 3, 4, 5, 6, 7, 10, 11, 12, 13, 14, 24, 27, 31, 35, 42, 55, 68, 76, 89, 102, 116, 122], [], 148⟩
theorem tilefarmref14_next.eq (k : Nat) (a0 : Int × Int) (a1 : Int × Int) (a2 : Int × Int) (a3 : Int) (a4 : Int) :
    evF tilefarmref14_next.C k [] Proofs.Try.f36 [.imm (.pair (.int .i64) (.int .i64)), .imm (.pair (.int .i64) (.int .i64)), .imm (.pair (.int .i64) (.int .i64)), .imm (.int .i64), .imm (.int .i64)] [(.pair (.int .i64) (.int .i64)), .bool] (a0, a1, a2, a3, a4, ()) some = tilefarmref14_next k a0 a1 a2 a3 a4 := by kernel_rfl

noncomputable def tilefarmref14_Interval.S : FSem := ⟨13, [.imm (.sl (.pair (.int .i64) (.int .i64))), .imm (.int .i64), .imm (.int .i64)], [(.int .i64), (.int .i64), (.int .i64)], fun k x => tilefarmref14_Interval k x.1 x.2.1 x.2.2.1⟩
noncomputable def tilefarmref14_Interval.C : Ctx := ⟨tis, etys, [tilefarmref14_Valid.S, tilefarmref9_Value.S, tilefarmref14_takes.S, tilefarmref14_next.S], [0, 1, 2, 6, 7, 8, 9, 10, 11, 12, 13, 14, 15, 16, 20, 29, 33, 45, 53, 74], [], 92⟩
noncomputable def tilefarmref14_Interval.L0 {R : Type} (k : Nat) : LC R := ⟨0, ⟨[(0, .val (.sl (.pair (.int .i64) (.int .i64)))), (1, .val (.int .i64)), (2, .val (.int .i64)), (10, .arr 0), (11, .val (.int .i64))], [.arr (.pair (.int .i64) (.int .i64))]⟩, [(.ret, ⟨[(6, .val (.int .i64)), (7, .val (.int .i64)), (8, .val (.int .i64))], []⟩), (.ex 0, ⟨[(10, .arr 0)], [.arr (.pair (.int .i64) (.int .i64))]⟩)], fun x e => tilefarmref14_Interval.loop0 k k x.1.1 x.1.2.1 x.1.2.2.1 x.1.2.2.2.1 x.2.1 (fun u0 u1 u2 => e (.inl ((u0, u1, u2, ()), ()))) (fun u0 => e (.inr (((), (u0, ())))))⟩
theorem tilefarmref14_Interval.r0 {R : Type} (k j : Nat) (s0 : List (Int × Int)) (s1 : Int) (s2 : Int) (s11 : Int) (l10 : List (Int × Int)) (e : Outs (tilefarmref14_Interval.L0 (R := R) k).outs → Option R) :
    evRound tilefarmref14_Interval.C k [] (tilefarmref14_Interval.L0 (R := R) k).inn (tilefarmref14_Interval.L0 (R := R) k).outs (loopOf Proofs.Try.f13 0) 1 ((s0, s1, s2, s11, ()), (l10, ())) (fun x => tilefarmref14_Interval.loop0 k j x.1.1 x.1.2.1 x.1.2.2.1 x.1.2.2.2.1 x.2.1 (fun u0 u1 u2 => e (.inl ((u0, u1, u2, ()), ()))) (fun u0 => e (.inr (((), (u0, ())))))) e =
    tilefarmref14_Interval.loop0 k (j + 1) s0 s1 s2 s11 l10 (fun u0 u1 u2 => e (.inl ((u0, u1, u2, ()), ()))) (fun u0 => e (.inr (((), (u0, ()))))) := by kernel_rfl
theorem tilefarmref14_Interval.eq (k : Nat) (a0 : List (Int × Int)) (a1 : Int) (a2 : Int) :
    evF tilefarmref14_Interval.C k [tilefarmref14_Interval.L0 k] Proofs.Try.f13 [.imm (.sl (.pair (.int .i64) (.int .i64))), .imm (.int .i64), .imm (.int .i64)] [(.int .i64), (.int .i64), (.int .i64)] (a0, a1, a2, ()) some = tilefarmref14_Interval k a0 a1 a2 := by kernel_rfl

noncomputable def pointwise_divided.S : FSem := ⟨72, [.imm (.int .i64), .imm (.int .i64)], [(.int .i64)], fun k x => pointwise_divided k x.1 x.2.1⟩
noncomputable def pointwise_divided.C : Ctx := ⟨tis, etys, [], [0, 1, 4, 5, 7, 21], [], 25⟩
theorem pointwise_divided.eq (k : Nat) (a0 : Int) (a1 : Int) :
    evF pointwise_divided.C k [] Proofs.Try.f72 [.imm (.int .i64), .imm (.int .i64)] [(.int .i64)] (a0, a1, ()) some = pointwise_divided k a0 a1 := by kernel_rfl

noncomputable def pointwise_result.S : FSem := ⟨60, [.imm (.int .i64), .imm (.int .i64), .imm (.int .i64)], [(.int .i64)], fun k x => pointwise_result k x.1 x.2.1 x.2.2.1⟩
noncomputable def pointwise_result.C : Ctx := ⟨tis, etys, [pointwise_times.S, pointwise_abs.S, pointwise_divided.S], [0, 1, 2, 6, 7, 8, 13, 18, 23, 28, 33], [], 42⟩
theorem pointwise_result.eq (k : Nat) (a0 : Int) (a1 : Int) (a2 : Int) :
    evF pointwise_result.C k [] Proofs.Try.f60 [.imm (.int .i64), .imm (.int .i64), .imm (.int .i64)] [(.int .i64)] (a0, a1, a2, ()) some = pointwise_result k a0 a1 a2 := by kernel_rfl

noncomputable def pointwise_run.S : FSem := ⟨37, [.imm (.sl (.pair (.int .i64) (.int .i64))), .imm (.int .i64), .imm (.int .i64)], [(.int .i64), (.int .i64)], fun k x => pointwise_run k x.1 x.2.1 x.2.2.1⟩
noncomputable def pointwise_run.C : Ctx := ⟨tis, etys, [pointwise_takes.S, pointwise_sum.S, fixed_Shift.S, pointwise_abs.S, pointwise_result.S], [0, 1, 2, 6, 7, 8, 10, 11, 12, 13, 17, 18, 19, 20, 36, 46, 49, 52, 56, 64, 72], [], 81⟩
noncomputable def pointwise_run.L0 {R : Type} (k : Nat) : LC R := ⟨0, ⟨[(1, .val (.int .i64)), (2, .val (.int .i64)), (8, .arr 0), (17, .val (.sl (.pair (.int .i64) (.int .i64)))), (18, .val (.int .i64)), (19, .val (.int .i64))], [.arr (.int .i64)]⟩, [(.ret, ⟨[(6, .val (.int .i64)), (7, .val (.int .i64))], []⟩), (.ex 0, ⟨[(8, .arr 0)], [.arr (.int .i64)]⟩)], fun x e => pointwise_run.loop0 k k x.1.1 x.1.2.1 x.1.2.2.1 x.1.2.2.2.1 x.1.2.2.2.2.1 x.2.1 (fun u0 u1 => e (.inl ((u0, u1, ()), ()))) (fun u0 => e (.inr (((), (u0, ())))))⟩
theorem pointwise_run.r0 {R : Type} (k j : Nat) (s1 : Int) (s2 : Int) (s17 : List (Int × Int)) (s18 : Int) (s19 : Int) (l8 : List Int) (e : Outs (pointwise_run.L0 (R := R) k).outs → Option R) :
    evRound pointwise_run.C k [] (pointwise_run.L0 (R := R) k).inn (pointwise_run.L0 (R := R) k).outs (loopOf Proofs.Try.f37 0) 1 ((s1, s2, s17, s18, s19, ()), (l8, ())) (fun x => pointwise_run.loop0 k j x.1.1 x.1.2.1 x.1.2.2.1 x.1.2.2.2.1 x.1.2.2.2.2.1 x.2.1 (fun u0 u1 => e (.inl ((u0, u1, ()), ()))) (fun u0 => e (.inr (((), (u0, ())))))) e =
    pointwise_run.loop0 k (j + 1) s1 s2 s17 s18 s19 l8 (fun u0 u1 => e (.inl ((u0, u1, ()), ()))) (fun u0 => e (.inr (((), (u0, ()))))) := by kernel_rfl
theorem pointwise_run.eq (k : Nat) (a0 : List (Int × Int)) (a1 : Int) (a2 : Int) :
    evF pointwise_run.C k [pointwise_run.L0 k] Proofs.Try.f37 [.imm (.sl (.pair (.int .i64) (.int .i64))), .imm (.int .i64), .imm (.int .i64)] [(.int .i64), (.int .i64)] (a0, a1, a2, ()) some = pointwise_run k a0 a1 a2 := by kernel_rfl

noncomputable def pointwise_Eval.S : FSem := ⟨14, [.imm (.sl (.pair (.int .i64) (.int .i64))), .imm (.int .i64), .imm (.int .i64)], [(.int .i64), (.int .i64)], fun k x => pointwise_Eval k x.1 x.2.1 x.2.2.1⟩
noncomputable def pointwise_Eval.C : Ctx := ⟨tis, etys, [pointwise_Valid.S, pointwise_between.S, pointwise_run.S], [0, 1, 2, 6, 7, 8, 12, 21], [], 28⟩
theorem pointwise_Eval.eq (k : Nat) (a0 : List (Int × Int)) (a1 : Int) (a2 : Int) :
    evF pointwise_Eval.C k [] Proofs.Try.f14 [.imm (.sl (.pair (.int .i64) (.int .i64))), .imm (.int .i64), .imm (.int .i64)] [(.int .i64), (.int .i64)] (a0, a1, a2, ()) some = pointwise_Eval k a0 a1 a2 := by kernel_rfl

noncomputable def tilefarmref14_floor.S : FSem := ⟨62, [.imm (.int .i64), .imm (.int .i64)], [(.int .i64)], fun k x => tilefarmref14_floor k x.1 x.2.1⟩
noncomputable def tilefarmref14_floor.C : Ctx := ⟨tis, etys, [], [0, 1, 4, 5, 7, 21], [], 25⟩
theorem tilefarmref14_floor.eq (k : Nat) (a0 : Int) (a1 : Int) :
    evF tilefarmref14_floor.C k [] Proofs.Try.f62 [.imm (.int .i64), .imm (.int .i64)] [(.int .i64)] (a0, a1, ()) some = tilefarmref14_floor k a0 a1 := by kernel_rfl

noncomputable def tilefarmref14_apply.S : FSem := ⟨38, [.imm (.pair (.int .i64) (.int .i64)), .imm (.int .i64), .imm (.int .i64), .imm (.int .i64), .imm (.int .i64)], [(.int .i64), .bool], fun k x => tilefarmref14_apply k x.1 x.2.1 x.2.2.1 x.2.2.2.1 x.2.2.2.2.1⟩
noncomputable def tilefarmref14_apply.C : Ctx := ⟨tis, etys, [tilefarmref7_Acc.S, tilefarmref14_times.S, tilefarmref14_abs.S, tilefarmref14_floor.S, tilefarmref7_Shift.S], [0, 1, 2, 3, 4, 5, 10, 11, 12, 13, 15, 18, 21, 24, 28, 33, 38, 46, 51, 56, 62, 67], [], 79⟩
theorem tilefarmref14_apply.eq (k : Nat) (a0 : Int × Int) (a1 : Int) (a2 : Int) (a3 : Int) (a4 : Int) :
    evF tilefarmref14_apply.C k [] Proofs.Try.f38 [.imm (.pair (.int .i64) (.int .i64)), .imm (.int .i64), .imm (.int .i64), .imm (.int .i64), .imm (.int .i64)] [(.int .i64), .bool] (a0, a1, a2, a3, a4, ()) some = tilefarmref14_apply k a0 a1 a2 a3 a4 := by kernel_rfl

noncomputable def tilefarmref14_Eval.S : FSem := ⟨15, [.imm (.sl (.pair (.int .i64) (.int .i64))), .imm (.int .i64), .imm (.int .i64)], [(.int .i64), (.int .i64)], fun k x => tilefarmref14_Eval k x.1 x.2.1 x.2.2.1⟩
noncomputable def tilefarmref14_Eval.C : Ctx := ⟨tis, etys, [tilefarmref14_Valid.S, tilefarmref14_takes.S, tilefarmref14_apply.S], [0, 1, 2, 6, 7, 8, 9, 10, 11, 12, 13, 14, 15, 19, 34, 38, 48, 56, 77], [], 90⟩
noncomputable def tilefarmref14_Eval.L0 {R : Type} (k : Nat) : LC R := ⟨0, ⟨[(0, .val (.sl (.pair (.int .i64) (.int .i64)))), (1, .val (.int .i64)), (2, .val (.int .i64)), (9, .arr 0), (10, .val (.int .i64))], [.arr (.int .i64)]⟩, [(.ret, ⟨[(6, .val (.int .i64)), (7, .val (.int .i64))], []⟩), (.ex 0, ⟨[(9, .arr 0)], [.arr (.int .i64)]⟩)], fun x e => tilefarmref14_Eval.loop0 k k x.1.1 x.1.2.1 x.1.2.2.1 x.1.2.2.2.1 x.2.1 (fun u0 u1 => e (.inl ((u0, u1, ()), ()))) (fun u0 => e (.inr (((), (u0, ())))))⟩
theorem tilefarmref14_Eval.r0 {R : Type} (k j : Nat) (s0 : List (Int × Int)) (s1 : Int) (s2 : Int) (s10 : Int) (l9 : List Int) (e : Outs (tilefarmref14_Eval.L0 (R := R) k).outs → Option R) :
    evRound tilefarmref14_Eval.C k [] (tilefarmref14_Eval.L0 (R := R) k).inn (tilefarmref14_Eval.L0 (R := R) k).outs (loopOf Proofs.Try.f15 0) 1 ((s0, s1, s2, s10, ()), (l9, ())) (fun x => tilefarmref14_Eval.loop0 k j x.1.1 x.1.2.1 x.1.2.2.1 x.1.2.2.2.1 x.2.1 (fun u0 u1 => e (.inl ((u0, u1, ()), ()))) (fun u0 => e (.inr (((), (u0, ())))))) e =
    tilefarmref14_Eval.loop0 k (j + 1) s0 s1 s2 s10 l9 (fun u0 u1 => e (.inl ((u0, u1, ()), ()))) (fun u0 => e (.inr (((), (u0, ()))))) := by kernel_rfl
theorem tilefarmref14_Eval.eq (k : Nat) (a0 : List (Int × Int)) (a1 : Int) (a2 : Int) :
    evF tilefarmref14_Eval.C k [tilefarmref14_Eval.L0 k] Proofs.Try.f15 [.imm (.sl (.pair (.int .i64) (.int .i64))), .imm (.int .i64), .imm (.int .i64)] [(.int .i64), (.int .i64)] (a0, a1, a2, ()) some = tilefarmref14_Eval k a0 a1 a2 := by kernel_rfl

noncomputable def tilefarmlaw14_less.S : FSem := ⟨41, [], [(.sl (.pair (.int .i64) (.int .i64)))], fun k x => tilefarmlaw14_less k⟩
noncomputable def tilefarmlaw14_less.C : Ctx := ⟨tis, etys, [], [0], [], 6⟩
theorem tilefarmlaw14_less.eq (k : Nat) :
    evF tilefarmlaw14_less.C k [] Proofs.Try.f41 [] [(.sl (.pair (.int .i64) (.int .i64)))] () some = tilefarmlaw14_less k := by kernel_rfl

noncomputable def tilefarmlaw14_sane.S : FSem := ⟨18, [], [.bool], fun k x => tilefarmlaw14_sane k⟩
noncomputable def tilefarmlaw14_sane.C : Ctx := ⟨tis, etys, [tilefarmlaw14_less.S, pointwise_Eval.S, pointwise_Interval.S, pointwise_Valid.S], [0, 1, 2, 3, 4, 5, 6, 7], [], 58⟩
theorem tilefarmlaw14_sane.eq (k : Nat) :
    evF tilefarmlaw14_sane.C k [] Proofs.Try.f18 [] [.bool] () some = tilefarmlaw14_sane k := by kernel_rfl

noncomputable def tilefarmlaw14_PointwisePrograms.S : FSem := ⟨3, [.imm (.sl (.int .i64)), .imm (.sl (.pair (.int .i64) (.int .i64))), .imm .bool, .imm (.int .i64), .imm (.int .i64)], [.bool], fun k x => tilefarmlaw14_PointwisePrograms k x.1 x.2.1 x.2.2.1 x.2.2.2.1 x.2.2.2.2.1⟩
noncomputable def tilefarmlaw14_PointwisePrograms.C : Ctx := ⟨tis, etys, [tilefarmgen_New.S, tilefarmlaw14_program.S, tilefarmgen_Tape_Pick.S, tilefarmgen_Tape_Next.S, pointwise_Interval.S, tilefarmref14_Interval.S, pointwise_Eval.S, tilefarmref14_Eval.S, pointwise_Valid.S, tilefarmref14_Valid.S, tilefarmlaw14_sane.S], [0, 1, 2, 3, 4, 10, 11, 12, 13, 14, 15, 16, 17, 18, 19, 20, 21, 22, 23, 24, 25, 26, 27, 31, 47, 125], [], 127⟩
noncomputable def tilefarmlaw14_PointwisePrograms.L0 {R : Type} (k : Nat) : LC R := ⟨0, ⟨[(1, .val (.sl (.pair (.int .i64) (.int .i64)))), (2, .val .bool), (3, .val (.int .i64)), (4, .val (.int .i64)), (11, .ptr 0), (12, .val (.int .i64))], [.box (some (.pair (.sl (.int .i64)) (.int .i64))) [(.sl (.int .i64)), (.int .i64)]]⟩, [(.ret, ⟨[(10, .val .bool)], []⟩), (.ex 0, ⟨[], []⟩)], fun x e => tilefarmlaw14_PointwisePrograms.loop0 k k x.1.1 x.1.2.1 x.1.2.2.1 x.1.2.2.2.1 x.1.2.2.2.2.1 x.2.1.1 x.2.1.2.1 (fun u0 => e (.inl ((u0, ()), ()))) (fun _ => e (.inr (((), ()))))⟩
theorem tilefarmlaw14_PointwisePrograms.r0 {R : Type} (k j : Nat) (s1 : List (Int × Int)) (s2 : Bool) (s3 : Int) (s4 : Int) (s12 : Int) (b11_0 : List Int) (b11_1 : Int) (e : Outs (tilefarmlaw14_PointwisePrograms.L0 (R := R) k).outs → Option R) :
    evRound tilefarmlaw14_PointwisePrograms.C k [] (tilefarmlaw14_PointwisePrograms.L0 (R := R) k).inn (tilefarmlaw14_PointwisePrograms.L0 (R := R) k).outs (loopOf Proofs.Try.f3 0) 1 ((s1, s2, s3, s4, s12, ()), ((b11_0, b11_1, ()), ())) (fun x => tilefarmlaw14_PointwisePrograms.loop0 k j x.1.1 x.1.2.1 x.1.2.2.1 x.1.2.2.2.1 x.1.2.2.2.2.1 x.2.1.1 x.2.1.2.1 (fun u0 => e (.inl ((u0, ()), ()))) (fun _ => e (.inr (((), ()))))) e =
    tilefarmlaw14_PointwisePrograms.loop0 k (j + 1) s1 s2 s3 s4 s12 b11_0 b11_1 (fun u0 => e (.inl ((u0, ()), ()))) (fun _ => e (.inr (((), ())))) := by kernel_rfl
theorem tilefarmlaw14_PointwisePrograms.eq (k : Nat) (a0 : List Int) (a1 : List (Int × Int)) (a2 : Bool) (a3 : Int) (a4 : Int) :
    evF tilefarmlaw14_PointwisePrograms.C k [tilefarmlaw14_PointwisePrograms.L0 k] Proofs.Try.f3 [.imm (.sl (.int .i64)), .imm (.sl (.pair (.int .i64) (.int .i64))), .imm .bool, .imm (.int .i64), .imm (.int .i64)] [.bool] (a0, a1, a2, a3, a4, ()) some = tilefarmlaw14_PointwisePrograms k a0 a1 a2 a3 a4 := by kernel_rfl

noncomputable def tilefarmgen_Tape_Sized.S : FSem := ⟨22, [.bor (.pair (.sl (.int .i64)) (.int .i64)) true, .imm (.int .i64), .imm (.int .i64)], [(.pair (.int .i64) (.pair (.int .i64) (.pair (.int .i64) (.sl (.int .i64)))))], fun k x => tilefarmgen_Tape_Sized k x.1 x.2.1 x.2.2.1⟩
noncomputable def tilefarmgen_Tape_Sized.C : Ctx := ⟨tis, etys, [tilefarmgen_Tape_Pick.S, tilefarmgen_Tape_Next.S], [0, 1, 2, 6, 7, 8, 23], [0], 46⟩
noncomputable def tilefarmgen_Tape_Sized.L0 {R : Type} (k : Nat) : LC R := ⟨0, ⟨[(0, .ptr 0), (7, .ptr 1), (8, .val (.int .i64))], [.box (some (.pair (.sl (.int .i64)) (.int .i64))) [(.sl (.int .i64)), (.int .i64)], .box (some (.pair (.int .i64) (.pair (.int .i64) (.pair (.int .i64) (.sl (.int .i64)))))) [(.int .i64), (.int .i64), (.int .i64), (.ow (.int .i64))]]⟩, [(.ex 0, ⟨[(0, .ptr 0), (7, .ptr 1)], [.box (some (.pair (.sl (.int .i64)) (.int .i64))) [(.sl (.int .i64)), (.int .i64)], .box (some (.pair (.int .i64) (.pair (.int .i64) (.pair (.int .i64) (.sl (.int .i64)))))) [(.int .i64), (.int .i64), (.int .i64), (.ow (.int .i64))]]⟩)], fun x e => tilefarmgen_Tape_Sized.loop0 k k x.1.1 x.2.1.1 x.2.1.2.1 x.2.2.1.1 x.2.2.1.2.1 x.2.2.1.2.2.1 x.2.2.1.2.2.2.1 (fun u0 u1 u2 u3 u4 u5 => e ((), ((u0, u1, ()), (u2, u3, u4, u5, ()), ())))⟩
theorem tilefarmgen_Tape_Sized.r0 {R : Type} (k j : Nat) (s8 : Int) (b0_0 : List Int) (b0_1 : Int) (b7_0 : Int) (b7_1 : Int) (b7_2 : Int) (b7_3 : List Int) (e : Outs (tilefarmgen_Tape_Sized.L0 (R := R) k).outs → Option R) :
    evRound tilefarmgen_Tape_Sized.C k [] (tilefarmgen_Tape_Sized.L0 (R := R) k).inn (tilefarmgen_Tape_Sized.L0 (R := R) k).outs (loopOf Proofs.Try.f22 0) 1 ((s8, ()), ((b0_0, b0_1, ()), (b7_0, b7_1, b7_2, b7_3, ()), ())) (fun x => tilefarmgen_Tape_Sized.loop0 k j x.1.1 x.2.1.1 x.2.1.2.1 x.2.2.1.1 x.2.2.1.2.1 x.2.2.1.2.2.1 x.2.2.1.2.2.2.1 (fun u0 u1 u2 u3 u4 u5 => e ((), ((u0, u1, ()), (u2, u3, u4, u5, ()), ())))) e =
    tilefarmgen_Tape_Sized.loop0 k (j + 1) s8 b0_0 b0_1 b7_0 b7_1 b7_2 b7_3 (fun u0 u1 u2 u3 u4 u5 => e ((), ((u0, u1, ()), (u2, u3, u4, u5, ()), ()))) := by kernel_rfl
theorem tilefarmgen_Tape_Sized.eq (k : Nat) (a0 : (List Int) × Int) (a1 : Int) (a2 : Int) :
    evF tilefarmgen_Tape_Sized.C k [tilefarmgen_Tape_Sized.L0 k] Proofs.Try.f22 [.bor (.pair (.sl (.int .i64)) (.int .i64)) true, .imm (.int .i64), .imm (.int .i64)] [(.pair (.int .i64) (.pair (.int .i64) (.pair (.int .i64) (.sl (.int .i64)))))] (a0, a1, a2, ()) some = tilefarmgen_Tape_Sized k a0 a1 a2 := by kernel_rfl

noncomputable def tilefarmgen_Tape_Plane.S : FSem := ⟨21, [.bor (.pair (.sl (.int .i64)) (.int .i64)) true], [(.pair (.int .i64) (.pair (.int .i64) (.pair (.int .i64) (.sl (.int .i64)))))], fun k x => tilefarmgen_Tape_Plane k x.1⟩
noncomputable def tilefarmgen_Tape_Plane.C : Ctx := ⟨tis, etys, [tilefarmgen_Tape_Next.S, tilefarmgen_Tape_Sized.S], [0, 2], [0], 11⟩
theorem tilefarmgen_Tape_Plane.eq (k : Nat) (a0 : (List Int) × Int) :
    evF tilefarmgen_Tape_Plane.C k [] Proofs.Try.f21 [.bor (.pair (.sl (.int .i64)) (.int .i64)) true] [(.pair (.int .i64) (.pair (.int .i64) (.pair (.int .i64) (.sl (.int .i64)))))] (a0, ()) some = tilefarmgen_Tape_Plane k a0 := by kernel_rfl

noncomputable def tilefarmgen_Tape_Within.S : FSem := ⟨23, [.bor (.pair (.sl (.int .i64)) (.int .i64)) true, .imm (.int .i64), .imm (.int .i64)], [(.pair (.int .i64) (.pair (.int .i64) (.pair (.int .i64) (.int .i64))))], fun k x => tilefarmgen_Tape_Within k x.1 x.2.1 x.2.2.1⟩
noncomputable def tilefarmgen_Tape_Within.C : Ctx := ⟨tis, etys, [tilefarmgen_Tape_Next.S], [0, 1, 2, 6, 7], [0], 38⟩
theorem tilefarmgen_Tape_Within.eq (k : Nat) (a0 : (List Int) × Int) (a1 : Int) (a2 : Int) :
    evF tilefarmgen_Tape_Within.C k [] Proofs.Try.f23 [.bor (.pair (.sl (.int .i64)) (.int .i64)) true, .imm (.int .i64), .imm (.int .i64)] [(.pair (.int .i64) (.pair (.int .i64) (.pair (.int .i64) (.int .i64))))] (a0, a1, a2, ()) some = tilefarmgen_Tape_Within k a0 a1 a2 := by kernel_rfl

noncomputable def tilefarmgen_Tape_SpoilPlane.S : FSem := ⟨24, [.bor (.pair (.sl (.int .i64)) (.int .i64)) true, .imm (.pair (.int .i64) (.pair (.int .i64) (.pair (.int .i64) (.sl (.int .i64)))))], [(.pair (.int .i64) (.pair (.int .i64) (.pair (.int .i64) (.sl (.int .i64)))))], fun k x => tilefarmgen_Tape_SpoilPlane k x.1 x.2.1⟩
noncomputable def tilefarmgen_Tape_SpoilPlane.C : Ctx := ⟨tis, etys, [tilefarmgen_Tape_Next.S, tilefarmgen_Tape_Pick.S], [0, 1, 3, 4, 11, 13, 22, 31, 37, 44, 49], [0], 67⟩
theorem tilefarmgen_Tape_SpoilPlane.eq (k : Nat) (a0 : (List Int) × Int) (a1 : Int × Int × Int × List Int) :
    evF tilefarmgen_Tape_SpoilPlane.C k [] Proofs.Try.f24 [.bor (.pair (.sl (.int .i64)) (.int .i64)) true, .imm (.pair (.int .i64) (.pair (.int .i64) (.pair (.int .i64) (.sl (.int .i64)))))] [(.pair (.int .i64) (.pair (.int .i64) (.pair (.int .i64) (.sl (.int .i64)))))] (a0, a1, ()) some = tilefarmgen_Tape_SpoilPlane k a0 a1 := by kernel_rfl

noncomputable def extent_Mul.S : FSem := ⟨73, [.imm (.int .i64), .imm (.int .i64), .imm (.int .i64)], [(.int .i64), .bool], fun k x => extent_Mul k x.1 x.2.1 x.2.2.1⟩
noncomputable def extent_Mul.C : Ctx := ⟨tis, etys, [], [0, 1, 2, 6, 7, 28], [], 32⟩
theorem extent_Mul.eq (k : Nat) (a0 : Int) (a1 : Int) (a2 : Int) :
    evF extent_Mul.C k [] Proofs.Try.f73 [.imm (.int .i64), .imm (.int .i64), .imm (.int .i64)] [(.int .i64), .bool] (a0, a1, a2, ()) some = extent_Mul k a0 a1 a2 := by kernel_rfl

noncomputable def plane_size.S : FSem := ⟨65, [.imm (.int .i64), .imm (.int .i64), .imm (.int .i64)], [.bool], fun k x => plane_size k x.1 x.2.1 x.2.2.1⟩
noncomputable def plane_size.C : Ctx := ⟨tis, etys, [extent_Mul.S], [0, 1, 2, 6, 8], [], 40⟩
theorem plane_size.eq (k : Nat) (a0 : Int) (a1 : Int) (a2 : Int) :
    evF plane_size.C k [] Proofs.Try.f65 [.imm (.int .i64), .imm (.int .i64), .imm (.int .i64)] [.bool] (a0, a1, a2, ()) some = plane_size k a0 a1 a2 := by kernel_rfl

noncomputable def plane_Valid.S : FSem := ⟨42, [.imm (.pair (.int .i64) (.pair (.int .i64) (.pair (.int .i64) (.sl (.int .i64)))))], [.bool], fun k x => plane_Valid k x.1⟩
noncomputable def plane_Valid.C : Ctx := ⟨tis, etys, [plane_size.S], [0, 1, 2, 4, 23, 25, 26, 27, 28, 38], [], 40⟩
noncomputable def plane_Valid.L0 {R : Type} (k : Nat) : LC R := ⟨0, ⟨[(1, .ptr 0), (25, .val (.sl (.int .i64))), (26, .val (.int .i64)), (27, .val (.int .i64))], [.box (some (.pair (.int .i64) (.pair (.int .i64) (.pair (.int .i64) (.sl (.int .i64)))))) [(.int .i64), (.int .i64), (.int .i64), (.sl (.int .i64))]]⟩, [(.ret, ⟨[(2, .val .bool)], []⟩), (.ex 0, ⟨[], []⟩)], fun x e => plane_Valid.loop0 k k x.1.1 x.1.2.1 x.1.2.2.1 x.2.1.1 x.2.1.2.1 x.2.1.2.2.1 x.2.1.2.2.2.1 (fun u0 => e (.inl ((u0, ()), ()))) (fun _ => e (.inr (((), ()))))⟩
theorem plane_Valid.r0 {R : Type} (k j : Nat) (s25 : List Int) (s26 : Int) (s27 : Int) (b1_0 : Int) (b1_1 : Int) (b1_2 : Int) (b1_3 : List Int) (e : Outs (plane_Valid.L0 (R := R) k).outs → Option R) :
    evRound plane_Valid.C k [] (plane_Valid.L0 (R := R) k).inn (plane_Valid.L0 (R := R) k).outs (loopOf Proofs.Try.f42 0) 1 ((s25, s26, s27, ()), ((b1_0, b1_1, b1_2, b1_3, ()), ())) (fun x => plane_Valid.loop0 k j x.1.1 x.1.2.1 x.1.2.2.1 x.2.1.1 x.2.1.2.1 x.2.1.2.2.1 x.2.1.2.2.2.1 (fun u0 => e (.inl ((u0, ()), ()))) (fun _ => e (.inr (((), ()))))) e =
    plane_Valid.loop0 k (j + 1) s25 s26 s27 b1_0 b1_1 b1_2 b1_3 (fun u0 => e (.inl ((u0, ()), ()))) (fun _ => e (.inr (((), ())))) := by kernel_rfl
theorem plane_Valid.eq (k : Nat) (a0 : Int × Int × Int × List Int) :
    evF plane_Valid.C k [plane_Valid.L0 k] Proofs.Try.f42 [.imm (.pair (.int .i64) (.pair (.int .i64) (.pair (.int .i64) (.sl (.int .i64)))))] [.bool] (a0, ()) some = plane_Valid k a0 := by kernel_rfl

noncomputable def rect_Empty.S : FSem := ⟨43, [.imm (.pair (.int .i64) (.pair (.int .i64) (.pair (.int .i64) (.int .i64))))], [.bool], fun k x => rect_Empty k x.1⟩
noncomputable def rect_Empty.C : Ctx := ⟨tis, etys, [], [0, 1, 2], [], 6⟩
theorem rect_Empty.eq (k : Nat) (a0 : Int × Int × Int × Int) :
    evF rect_Empty.C k [] Proofs.Try.f43 [.imm (.pair (.int .i64) (.pair (.int .i64) (.pair (.int .i64) (.int .i64))))] [.bool] (a0, ()) some = rect_Empty k a0 := by kernel_rfl

noncomputable def rect_coord.S : FSem := ⟨74, [.imm (.int .i64)], [.bool], fun k x => rect_coord k x.1⟩
noncomputable def rect_coord.C : Ctx := ⟨tis, etys, [], [0, 2], [], 9⟩
theorem rect_coord.eq (k : Nat) (a0 : Int) :
    evF rect_coord.C k [] Proofs.Try.f74 [.imm (.int .i64)] [.bool] (a0, ()) some = rect_coord k a0 := by kernel_rfl

noncomputable def rect_Valid.S : FSem := ⟨66, [.imm (.pair (.int .i64) (.pair (.int .i64) (.pair (.int .i64) (.int .i64))))], [.bool], fun k x => rect_Valid k x.1⟩
noncomputable def rect_Valid.C : Ctx := ⟨tis, etys, [rect_Empty.S, rect_coord.S], [0, 1, 2], [], 39⟩
theorem rect_Valid.eq (k : Nat) (a0 : Int × Int × Int × Int) :
    evF rect_Valid.C k [] Proofs.Try.f66 [.imm (.pair (.int .i64) (.pair (.int .i64) (.pair (.int .i64) (.int .i64))))] [.bool] (a0, ()) some = rect_Valid k a0 := by kernel_rfl

noncomputable def rect_Intersect.S : FSem := ⟨67, [.imm (.pair (.int .i64) (.pair (.int .i64) (.pair (.int .i64) (.int .i64)))), .imm (.pair (.int .i64) (.pair (.int .i64) (.pair (.int .i64) (.int .i64))))], [(.pair (.int .i64) (.pair (.int .i64) (.pair (.int .i64) (.int .i64))))], fun k x => rect_Intersect k x.1 x.2.1⟩
noncomputable def rect_Intersect.C : Ctx := ⟨tis, etys, [rect_Valid.S], [0, 1, 2, 3, 4, 5, 13, 47], [], 50⟩
theorem rect_Intersect.eq (k : Nat) (a0 : Int × Int × Int × Int) (a1 : Int × Int × Int × Int) :
    evF rect_Intersect.C k [] Proofs.Try.f67 [.imm (.pair (.int .i64) (.pair (.int .i64) (.pair (.int .i64) (.int .i64)))), .imm (.pair (.int .i64) (.pair (.int .i64) (.pair (.int .i64) (.int .i64))))] [(.pair (.int .i64) (.pair (.int .i64) (.pair (.int .i64) (.int .i64))))] (a0, a1, ()) some = rect_Intersect k a0 a1 := by kernel_rfl

noncomputable def rect_Inside.S : FSem := ⟨44, [.imm (.pair (.int .i64) (.pair (.int .i64) (.pair (.int .i64) (.int .i64)))), .imm (.pair (.int .i64) (.pair (.int .i64) (.pair (.int .i64) (.int .i64))))], [.bool], fun k x => rect_Inside k x.1 x.2.1⟩
noncomputable def rect_Inside.C : Ctx := ⟨tis, etys, [rect_Valid.S, rect_Intersect.S], [0, 1, 2, 3, 4], [], 18⟩
theorem rect_Inside.eq (k : Nat) (a0 : Int × Int × Int × Int) (a1 : Int × Int × Int × Int) :
    evF rect_Inside.C k [] Proofs.Try.f44 [.imm (.pair (.int .i64) (.pair (.int .i64) (.pair (.int .i64) (.int .i64)))), .imm (.pair (.int .i64) (.pair (.int .i64) (.pair (.int .i64) (.int .i64))))] [.bool] (a0, a1, ()) some = rect_Inside k a0 a1 := by kernel_rfl

noncomputable def fixed_Clamp.S : FSem := ⟨45, [.imm (.int .i64), .imm (.int .i64)], [(.int .i64)], fun k x => fixed_Clamp k x.1 x.2.1⟩
noncomputable def fixed_Clamp.C : Ctx := ⟨tis, etys, [], [0, 1, 4], [], 9⟩
theorem fixed_Clamp.eq (k : Nat) (a0 : Int) (a1 : Int) :
    evF fixed_Clamp.C k [] Proofs.Try.f45 [.imm (.int .i64), .imm (.int .i64)] [(.int .i64)] (a0, a1, ()) some = fixed_Clamp k a0 a1 := by kernel_rfl

noncomputable def pointwise_Tile.S : FSem := ⟨25, [.imm (.pair (.int .i64) (.pair (.int .i64) (.pair (.int .i64) (.sl (.int .i64))))), .imm (.pair (.int .i64) (.pair (.int .i64) (.pair (.int .i64) (.sl (.int .i64))))), .imm .bool, .imm (.sl (.pair (.int .i64) (.int .i64))), .imm (.int .i64), .imm (.pair (.int .i64) (.pair (.int .i64) (.pair (.int .i64) (.int .i64))))], [(.pair (.int .i64) (.pair (.int .i64) (.pair (.int .i64) (.sl (.int .i64))))), (.int .i64)], fun k x => pointwise_Tile k x.1 x.2.1 x.2.2.1 x.2.2.2.1 x.2.2.2.2.1 x.2.2.2.2.2.1⟩
noncomputable def pointwise_Tile.C : Ctx := ⟨tis, etys, [plane_Valid.S, pointwise_Valid.S, pointwise_between.S, pointwise_Interval.S, rect_Empty.S, rect_Inside.S, pointwise_run.S, fixed_Clamp.S], [0, 1, 2, 3, 4, 5, 6, 7, 11, 12, 13, 14, 15, 18, 19, 20, 21, 22, 23, 24, 25, 36, 42, 47, 49, 62, 93, 112, 120, 129, 147], [], 159⟩
noncomputable def pointwise_Tile.L1 {R : Type} (k : Nat) : LC R := ⟨1, ⟨[(2, .val .bool), (3, .val (.sl (.pair (.int .i64) (.int .i64)))), (4, .val (.int .i64)), (6, .ptr 0), (7, .ptr 1), (11, .ptr 2), (12, .ptr 3), (19, .ptr 4), (20, .val (.int .i64)), (21, .val (.int .i64))], [.box (some (.pair (.int .i64) (.pair (.int .i64) (.pair (.int .i64) (.sl (.int .i64)))))) [(.int .i64), (.int .i64), (.int .i64), (.sl (.int .i64))], .box (some (.pair (.int .i64) (.pair (.int .i64) (.pair (.int .i64) (.sl (.int .i64)))))) [(.int .i64), (.int .i64), (.int .i64), (.sl (.int .i64))], .box (some (.pair (.int .i64) (.pair (.int .i64) (.pair (.int .i64) (.int .i64))))) [(.int .i64), (.int .i64), (.int .i64), (.int .i64)], .box (some (.pair (.int .i64) (.pair (.int .i64) (.pair (.int .i64) (.sl (.int .i64)))))) [(.int .i64), (.int .i64), (.int .i64), (.ow (.int .i64))], .box (some (.pair (.int .i64) (.pair (.int .i64) (.pair (.int .i64) (.sl (.int .i64)))))) [(.int .i64), (.int .i64), (.int .i64), (.ow (.int .i64))]]⟩, [(.ret, ⟨[(12, .ptr 0), (13, .val (.int .i64))], [.box (some (.pair (.int .i64) (.pair (.int .i64) (.pair (.int .i64) (.sl (.int .i64)))))) [(.int .i64), (.int .i64), (.int .i64), (.ow (.int .i64))]]⟩), (.ex 2, ⟨[(6, .ptr 0), (7, .ptr 1), (11, .ptr 2), (12, .ptr 3), (19, .ptr 4)], [.box (some (.pair (.int .i64) (.pair (.int .i64) (.pair (.int .i64) (.sl (.int .i64)))))) [(.int .i64), (.int .i64), (.int .i64), (.sl (.int .i64))], .box (some (.pair (.int .i64) (.pair (.int .i64) (.pair (.int .i64) (.sl (.int .i64)))))) [(.int .i64), (.int .i64), (.int .i64), (.sl (.int .i64))], .box (some (.pair (.int .i64) (.pair (.int .i64) (.pair (.int .i64) (.int .i64))))) [(.int .i64), (.int .i64), (.int .i64), (.int .i64)], .box (some (.pair (.int .i64) (.pair (.int .i64) (.pair (.int .i64) (.sl (.int .i64)))))) [(.int .i64), (.int .i64), (.int .i64), (.ow (.int .i64))], .box (some (.pair (.int .i64) (.pair (.int .i64) (.pair (.int .i64) (.sl (.int .i64)))))) [(.int .i64), (.int .i64), (.int .i64), (.ow (.int .i64))]]⟩)], fun x e => pointwise_Tile.loop1 k k x.1.1 x.1.2.1 x.1.2.2.1 x.1.2.2.2.1 x.1.2.2.2.2.1 x.2.1.1 x.2.1.2.1 x.2.1.2.2.1 x.2.1.2.2.2.1 x.2.2.1.1 x.2.2.1.2.1 x.2.2.1.2.2.1 x.2.2.1.2.2.2.1 x.2.2.2.1.1 x.2.2.2.1.2.1 x.2.2.2.1.2.2.1 x.2.2.2.1.2.2.2.1 x.2.2.2.2.1.1 x.2.2.2.2.1.2.1 x.2.2.2.2.1.2.2.1 x.2.2.2.2.1.2.2.2.1 x.2.2.2.2.2.1.1 x.2.2.2.2.2.1.2.1 x.2.2.2.2.2.1.2.2.1 x.2.2.2.2.2.1.2.2.2.1 (fun u0 u1 u2 u3 u4 => e (.inl ((u0, ()), ((u1, u2, u3, u4, ()), ())))) (fun u0 u1 u2 u3 u4 u5 u6 u7 u8 u9 u10 u11 u12 u13 u14 u15 u16 u17 u18 u19 => e (.inr (((), ((u0, u1, u2, u3, ()), (u4, u5, u6, u7, ()), (u8, u9, u10, u11, ()), (u12, u13, u14, u15, ()), (u16, u17, u18, u19, ()), ())))))⟩
theorem pointwise_Tile.r1 {R : Type} (k j : Nat) (s2 : Bool) (s3 : List (Int × Int)) (s4 : Int) (s20 : Int) (s21 : Int) (b6_0 : Int) (b6_1 : Int) (b6_2 : Int) (b6_3 : List Int) (b7_0 : Int) (b7_1 : Int) (b7_2 : Int) (b7_3 : List Int) (b11_0 : Int) (b11_1 : Int) (b11_2 : Int) (b11_3 : Int) (b12_0 : Int) (b12_1 : Int) (b12_2 : Int) (b12_3 : List Int) (b19_0 : Int) (b19_1 : Int) (b19_2 : Int) (b19_3 : List Int) (e : Outs (pointwise_Tile.L1 (R := R) k).outs → Option R) :
    evRound pointwise_Tile.C k [] (pointwise_Tile.L1 (R := R) k).inn (pointwise_Tile.L1 (R := R) k).outs (loopOf Proofs.Try.f25 1) 2 ((s2, s3, s4, s20, s21, ()), ((b6_0, b6_1, b6_2, b6_3, ()), (b7_0, b7_1, b7_2, b7_3, ()), (b11_0, b11_1, b11_2, b11_3, ()), (b12_0, b12_1, b12_2, b12_3, ()), (b19_0, b19_1, b19_2, b19_3, ()), ())) (fun x => pointwise_Tile.loop1 k j x.1.1 x.1.2.1 x.1.2.2.1 x.1.2.2.2.1 x.1.2.2.2.2.1 x.2.1.1 x.2.1.2.1 x.2.1.2.2.1 x.2.1.2.2.2.1 x.2.2.1.1 x.2.2.1.2.1 x.2.2.1.2.2.1 x.2.2.1.2.2.2.1 x.2.2.2.1.1 x.2.2.2.1.2.1 x.2.2.2.1.2.2.1 x.2.2.2.1.2.2.2.1 x.2.2.2.2.1.1 x.2.2.2.2.1.2.1 x.2.2.2.2.1.2.2.1 x.2.2.2.2.1.2.2.2.1 x.2.2.2.2.2.1.1 x.2.2.2.2.2.1.2.1 x.2.2.2.2.2.1.2.2.1 x.2.2.2.2.2.1.2.2.2.1 (fun u0 u1 u2 u3 u4 => e (.inl ((u0, ()), ((u1, u2, u3, u4, ()), ())))) (fun u0 u1 u2 u3 u4 u5 u6 u7 u8 u9 u10 u11 u12 u13 u14 u15 u16 u17 u18 u19 => e (.inr (((), ((u0, u1, u2, u3, ()), (u4, u5, u6, u7, ()), (u8, u9, u10, u11, ()), (u12, u13, u14, u15, ()), (u16, u17, u18, u19, ()), ())))))) e =
    pointwise_Tile.loop1 k (j + 1) s2 s3 s4 s20 s21 b6_0 b6_1 b6_2 b6_3 b7_0 b7_1 b7_2 b7_3 b11_0 b11_1 b11_2 b11_3 b12_0 b12_1 b12_2 b12_3 b19_0 b19_1 b19_2 b19_3 (fun u0 u1 u2 u3 u4 => e (.inl ((u0, ()), ((u1, u2, u3, u4, ()), ())))) (fun u0 u1 u2 u3 u4 u5 u6 u7 u8 u9 u10 u11 u12 u13 u14 u15 u16 u17 u18 u19 => e (.inr (((), ((u0, u1, u2, u3, ()), (u4, u5, u6, u7, ()), (u8, u9, u10, u11, ()), (u12, u13, u14, u15, ()), (u16, u17, u18, u19, ()), ()))))) := by kernel_rfl
noncomputable def pointwise_Tile.L0 {R : Type} (k : Nat) : LC R := ⟨0, ⟨[(2, .val .bool), (3, .val (.sl (.pair (.int .i64) (.int .i64)))), (4, .val (.int .i64)), (6, .ptr 0), (7, .ptr 1), (11, .ptr 2), (12, .ptr 3), (19, .ptr 4), (20, .val (.int .i64))], [.box (some (.pair (.int .i64) (.pair (.int .i64) (.pair (.int .i64) (.sl (.int .i64)))))) [(.int .i64), (.int .i64), (.int .i64), (.sl (.int .i64))], .box (some (.pair (.int .i64) (.pair (.int .i64) (.pair (.int .i64) (.sl (.int .i64)))))) [(.int .i64), (.int .i64), (.int .i64), (.sl (.int .i64))], .box (some (.pair (.int .i64) (.pair (.int .i64) (.pair (.int .i64) (.int .i64))))) [(.int .i64), (.int .i64), (.int .i64), (.int .i64)], .box (some (.pair (.int .i64) (.pair (.int .i64) (.pair (.int .i64) (.sl (.int .i64)))))) [(.int .i64), (.int .i64), (.int .i64), (.ow (.int .i64))], .box (some (.pair (.int .i64) (.pair (.int .i64) (.pair (.int .i64) (.sl (.int .i64)))))) [(.int .i64), (.int .i64), (.int .i64), (.ow (.int .i64))]]⟩, [(.ret, ⟨[(12, .ptr 0), (13, .val (.int .i64))], [.box (some (.pair (.int .i64) (.pair (.int .i64) (.pair (.int .i64) (.sl (.int .i64)))))) [(.int .i64), (.int .i64), (.int .i64), (.ow (.int .i64))]]⟩), (.ex 0, ⟨[(12, .ptr 0), (19, .ptr 1)], [.box (some (.pair (.int .i64) (.pair (.int .i64) (.pair (.int .i64) (.sl (.int .i64)))))) [(.int .i64), (.int .i64), (.int .i64), (.ow (.int .i64))], .box (some (.pair (.int .i64) (.pair (.int .i64) (.pair (.int .i64) (.sl (.int .i64)))))) [(.int .i64), (.int .i64), (.int .i64), (.ow (.int .i64))]]⟩)], fun x e => pointwise_Tile.loop0 k k x.1.1 x.1.2.1 x.1.2.2.1 x.1.2.2.2.1 x.2.1.1 x.2.1.2.1 x.2.1.2.2.1 x.2.1.2.2.2.1 x.2.2.1.1 x.2.2.1.2.1 x.2.2.1.2.2.1 x.2.2.1.2.2.2.1 x.2.2.2.1.1 x.2.2.2.1.2.1 x.2.2.2.1.2.2.1 x.2.2.2.1.2.2.2.1 x.2.2.2.2.1.1 x.2.2.2.2.1.2.1 x.2.2.2.2.1.2.2.1 x.2.2.2.2.1.2.2.2.1 x.2.2.2.2.2.1.1 x.2.2.2.2.2.1.2.1 x.2.2.2.2.2.1.2.2.1 x.2.2.2.2.2.1.2.2.2.1 (fun u0 u1 u2 u3 u4 => e (.inl ((u0, ()), ((u1, u2, u3, u4, ()), ())))) (fun u0 u1 u2 u3 u4 u5 u6 u7 => e (.inr (((), ((u0, u1, u2, u3, ()), (u4, u5, u6, u7, ()), ())))))⟩
theorem pointwise_Tile.r0 {R : Type} (k j : Nat) (s2 : Bool) (s3 : List (Int × Int)) (s4 : Int) (s20 : Int) (b6_0 : Int) (b6_1 : Int) (b6_2 : Int) (b6_3 : List Int) (b7_0 : Int) (b7_1 : Int) (b7_2 : Int) (b7_3 : List Int) (b11_0 : Int) (b11_1 : Int) (b11_2 : Int) (b11_3 : Int) (b12_0 : Int) (b12_1 : Int) (b12_2 : Int) (b12_3 : List Int) (b19_0 : Int) (b19_1 : Int) (b19_2 : Int) (b19_3 : List Int) (e : Outs (pointwise_Tile.L0 (R := R) k).outs → Option R) :
    evRound pointwise_Tile.C k [pointwise_Tile.L1 k] (pointwise_Tile.L0 (R := R) k).inn (pointwise_Tile.L0 (R := R) k).outs (loopOf Proofs.Try.f25 0) 1 ((s2, s3, s4, s20, ()), ((b6_0, b6_1, b6_2, b6_3, ()), (b7_0, b7_1, b7_2, b7_3, ()), (b11_0, b11_1, b11_2, b11_3, ()), (b12_0, b12_1, b12_2, b12_3, ()), (b19_0, b19_1, b19_2, b19_3, ()), ())) (fun x => pointwise_Tile.loop0 k j x.1.1 x.1.2.1 x.1.2.2.1 x.1.2.2.2.1 x.2.1.1 x.2.1.2.1 x.2.1.2.2.1 x.2.1.2.2.2.1 x.2.2.1.1 x.2.2.1.2.1 x.2.2.1.2.2.1 x.2.2.1.2.2.2.1 x.2.2.2.1.1 x.2.2.2.1.2.1 x.2.2.2.1.2.2.1 x.2.2.2.1.2.2.2.1 x.2.2.2.2.1.1 x.2.2.2.2.1.2.1 x.2.2.2.2.1.2.2.1 x.2.2.2.2.1.2.2.2.1 x.2.2.2.2.2.1.1 x.2.2.2.2.2.1.2.1 x.2.2.2.2.2.1.2.2.1 x.2.2.2.2.2.1.2.2.2.1 (fun u0 u1 u2 u3 u4 => e (.inl ((u0, ()), ((u1, u2, u3, u4, ()), ())))) (fun u0 u1 u2 u3 u4 u5 u6 u7 => e (.inr (((), ((u0, u1, u2, u3, ()), (u4, u5, u6, u7, ()), ())))))) e =
    pointwise_Tile.loop0 k (j + 1) s2 s3 s4 s20 b6_0 b6_1 b6_2 b6_3 b7_0 b7_1 b7_2 b7_3 b11_0 b11_1 b11_2 b11_3 b12_0 b12_1 b12_2 b12_3 b19_0 b19_1 b19_2 b19_3 (fun u0 u1 u2 u3 u4 => e (.inl ((u0, ()), ((u1, u2, u3, u4, ()), ())))) (fun u0 u1 u2 u3 u4 u5 u6 u7 => e (.inr (((), ((u0, u1, u2, u3, ()), (u4, u5, u6, u7, ()), ()))))) := by kernel_rfl
theorem pointwise_Tile.eq (k : Nat) (a0 : Int × Int × Int × List Int) (a1 : Int × Int × Int × List Int) (a2 : Bool) (a3 : List (Int × Int)) (a4 : Int) (a5 : Int × Int × Int × Int) :
    evF pointwise_Tile.C k [pointwise_Tile.L0 k, pointwise_Tile.L1 k] Proofs.Try.f25 [.imm (.pair (.int .i64) (.pair (.int .i64) (.pair (.int .i64) (.sl (.int .i64))))), .imm (.pair (.int .i64) (.pair (.int .i64) (.pair (.int .i64) (.sl (.int .i64))))), .imm .bool, .imm (.sl (.pair (.int .i64) (.int .i64))), .imm (.int .i64), .imm (.pair (.int .i64) (.pair (.int .i64) (.pair (.int .i64) (.int .i64))))] [(.pair (.int .i64) (.pair (.int .i64) (.pair (.int .i64) (.sl (.int .i64))))), (.int .i64)] (a0, a1, a2, a3, a4, a5, ()) some = pointwise_Tile k a0 a1 a2 a3 a4 a5 := by kernel_rfl

noncomputable def tilefarmref4_Size.S : FSem := ⟨68, [.imm (.int .i64), .imm (.int .i64), .imm (.int .i64)], [.bool], fun k x => tilefarmref4_Size k x.1 x.2.1 x.2.2.1⟩
noncomputable def tilefarmref4_Size.C : Ctx := ⟨tis, etys, [], [0, 1, 2, 6], [], 35⟩
theorem tilefarmref4_Size.eq (k : Nat) (a0 : Int) (a1 : Int) (a2 : Int) :
    evF tilefarmref4_Size.C k [] Proofs.Try.f68 [.imm (.int .i64), .imm (.int .i64), .imm (.int .i64)] [.bool] (a0, a1, a2, ()) some = tilefarmref4_Size k a0 a1 a2 := by kernel_rfl

noncomputable def tilefarmref4_Valid.S : FSem := ⟨46, [.imm (.pair (.int .i64) (.pair (.int .i64) (.pair (.int .i64) (.sl (.int .i64)))))], [.bool], fun k x => tilefarmref4_Valid k x.1⟩
noncomputable def tilefarmref4_Valid.C : Ctx := ⟨tis, etys, [tilefarmref4_Size.S], [0, 1, 2, 3, 22, 27, 45], [], 46⟩
noncomputable def tilefarmref4_Valid.L0 {R : Type} (k : Nat) : LC R := ⟨0, ⟨[(1, .ptr 0), (3, .val (.int .i64))], [.box (some (.pair (.int .i64) (.pair (.int .i64) (.pair (.int .i64) (.sl (.int .i64)))))) [(.int .i64), (.int .i64), (.int .i64), (.sl (.int .i64))]]⟩, [(.ret, ⟨[(2, .val .bool)], []⟩), (.ex 0, ⟨[], []⟩)], fun x e => tilefarmref4_Valid.loop0 k k x.1.1 x.2.1.1 x.2.1.2.1 x.2.1.2.2.1 x.2.1.2.2.2.1 (fun u0 => e (.inl ((u0, ()), ()))) (fun _ => e (.inr (((), ()))))⟩
theorem tilefarmref4_Valid.r0 {R : Type} (k j : Nat) (s3 : Int) (b1_0 : Int) (b1_1 : Int) (b1_2 : Int) (b1_3 : List Int) (e : Outs (tilefarmref4_Valid.L0 (R := R) k).outs → Option R) :
    evRound tilefarmref4_Valid.C k [] (tilefarmref4_Valid.L0 (R := R) k).inn (tilefarmref4_Valid.L0 (R := R) k).outs (loopOf Proofs.Try.f46 0) 1 ((s3, ()), ((b1_0, b1_1, b1_2, b1_3, ()), ())) (fun x => tilefarmref4_Valid.loop0 k j x.1.1 x.2.1.1 x.2.1.2.1 x.2.1.2.2.1 x.2.1.2.2.2.1 (fun u0 => e (.inl ((u0, ()), ()))) (fun _ => e (.inr (((), ()))))) e =
    tilefarmref4_Valid.loop0 k (j + 1) s3 b1_0 b1_1 b1_2 b1_3 (fun u0 => e (.inl ((u0, ()), ()))) (fun _ => e (.inr (((), ())))) := by kernel_rfl
theorem tilefarmref4_Valid.eq (k : Nat) (a0 : Int × Int × Int × List Int) :
    evF tilefarmref4_Valid.C k [tilefarmref4_Valid.L0 k] Proofs.Try.f46 [.imm (.pair (.int .i64) (.pair (.int .i64) (.pair (.int .i64) (.sl (.int .i64)))))] [.bool] (a0, ()) some = tilefarmref4_Valid k a0 := by kernel_rfl

noncomputable def tilefarmref14_Check.S : FSem := ⟨47, [.imm (.sl (.pair (.int .i64) (.int .i64))), .imm .bool, .imm (.int .i64), .imm (.int .i64), .imm (.int .i64)], [(.int .i64)], fun k x => tilefarmref14_Check k x.1 x.2.1 x.2.2.1 x.2.2.2.1 x.2.2.2.2.1⟩
noncomputable def tilefarmref14_Check.C : Ctx := ⟨tis, etys, [tilefarmref14_Valid.S, tilefarmref9_Value.S, tilefarmref14_Interval.S], [0, 1, 2, 3, 4, 10, 11, 14, 19, 23, 25], [], 35⟩
theorem tilefarmref14_Check.eq (k : Nat) (a0 : List (Int × Int)) (a1 : Bool) (a2 : Int) (a3 : Int) (a4 : Int) :
    evF tilefarmref14_Check.C k [] Proofs.Try.f47 [.imm (.sl (.pair (.int .i64) (.int .i64))), .imm .bool, .imm (.int .i64), .imm (.int .i64), .imm (.int .i64)] [(.int .i64)] (a0, a1, a2, a3, a4, ()) some = tilefarmref14_Check k a0 a1 a2 a3 a4 := by kernel_rfl

noncomputable def tilefarmref2_coord.S : FSem := ⟨75, [.imm (.int .i64)], [.bool], fun k x => tilefarmref2_coord k x.1⟩
noncomputable def tilefarmref2_coord.C : Ctx := ⟨tis, etys, [], [0, 2], [], 9⟩
theorem tilefarmref2_coord.eq (k : Nat) (a0 : Int) :
    evF tilefarmref2_coord.C k [] Proofs.Try.f75 [.imm (.int .i64)] [.bool] (a0, ()) some = tilefarmref2_coord k a0 := by kernel_rfl

noncomputable def tilefarmref2_Valid.S : FSem := ⟨69, [.imm (.pair (.int .i64) (.pair (.int .i64) (.pair (.int .i64) (.int .i64))))], [.bool], fun k x => tilefarmref2_Valid k x.1⟩
noncomputable def tilefarmref2_Valid.C : Ctx := ⟨tis, etys, [tilefarmref2_coord.S], [0, 1, 2], [], 40⟩
theorem tilefarmref2_Valid.eq (k : Nat) (a0 : Int × Int × Int × Int) :
    evF tilefarmref2_Valid.C k [] Proofs.Try.f69 [.imm (.pair (.int .i64) (.pair (.int .i64) (.pair (.int .i64) (.int .i64))))] [.bool] (a0, ()) some = tilefarmref2_Valid k a0 := by kernel_rfl

noncomputable def tilefarmref2_Empty.S : FSem := ⟨70, [.imm (.pair (.int .i64) (.pair (.int .i64) (.pair (.int .i64) (.int .i64))))], [.bool], fun k x => tilefarmref2_Empty k x.1⟩
noncomputable def tilefarmref2_Empty.C : Ctx := ⟨tis, etys, [], [0, 1, 2], [], 6⟩
theorem tilefarmref2_Empty.eq (k : Nat) (a0 : Int × Int × Int × Int) :
    evF tilefarmref2_Empty.C k [] Proofs.Try.f70 [.imm (.pair (.int .i64) (.pair (.int .i64) (.pair (.int .i64) (.int .i64))))] [.bool] (a0, ()) some = tilefarmref2_Empty k a0 := by kernel_rfl

noncomputable def tilefarmref2_Full.S : FSem := ⟨48, [.imm (.pair (.int .i64) (.pair (.int .i64) (.pair (.int .i64) (.int .i64))))], [.bool], fun k x => tilefarmref2_Full k x.1⟩
noncomputable def tilefarmref2_Full.C : Ctx := ⟨tis, etys, [tilefarmref2_Valid.S, tilefarmref2_Empty.S], [0, 1, 2], [], 10⟩
theorem tilefarmref2_Full.eq (k : Nat) (a0 : Int × Int × Int × Int) :
    evF tilefarmref2_Full.C k [] Proofs.Try.f48 [.imm (.pair (.int .i64) (.pair (.int .i64) (.pair (.int .i64) (.int .i64))))] [.bool] (a0, ()) some = tilefarmref2_Full k a0 := by kernel_rfl

noncomputable def tilefarmref4_Cover.S : FSem := ⟨50, [.imm (.pair (.int .i64) (.pair (.int .i64) (.pair (.int .i64) (.sl (.int .i64)))))], [(.pair (.int .i64) (.pair (.int .i64) (.pair (.int .i64) (.int .i64))))], fun k x => tilefarmref4_Cover k x.1⟩
noncomputable def tilefarmref4_Cover.C : Ctx := ⟨tis, etys, [], [0, 1, 2], [], 8⟩
theorem tilefarmref4_Cover.eq (k : Nat) (a0 : Int × Int × Int × List Int) :
    evF tilefarmref4_Cover.C k [] Proofs.Try.f50 [.imm (.pair (.int .i64) (.pair (.int .i64) (.pair (.int .i64) (.sl (.int .i64)))))] [(.pair (.int .i64) (.pair (.int .i64) (.pair (.int .i64) (.int .i64))))] (a0, ()) some = tilefarmref4_Cover k a0 := by kernel_rfl

noncomputable def tilefarmref2_Inside.S : FSem := ⟨49, [.imm (.pair (.int .i64) (.pair (.int .i64) (.pair (.int .i64) (.int .i64)))), .imm (.pair (.int .i64) (.pair (.int .i64) (.pair (.int .i64) (.int .i64))))], [.bool], fun k x => tilefarmref2_Inside k x.1 x.2.1⟩
noncomputable def tilefarmref2_Inside.C : Ctx := ⟨tis, etys, [tilefarmref2_Valid.S, tilefarmref2_Empty.S], [0, 1, 2, 3, 4, 12], [], 43⟩
theorem tilefarmref2_Inside.eq (k : Nat) (a0 : Int × Int × Int × Int) (a1 : Int × Int × Int × Int) :
    evF tilefarmref2_Inside.C k [] Proofs.Try.f49 [.imm (.pair (.int .i64) (.pair (.int .i64) (.pair (.int .i64) (.int .i64)))), .imm (.pair (.int .i64) (.pair (.int .i64) (.pair (.int .i64) (.int .i64))))] [.bool] (a0, a1, ()) some = tilefarmref2_Inside k a0 a1 := by kernel_rfl

noncomputable def tilefarmref4_New.S : FSem := ⟨51, [.imm (.int .i64), .imm (.int .i64), .imm (.int .i64)], [(.pair (.int .i64) (.pair (.int .i64) (.pair (.int .i64) (.ow (.int .i64))))), .bool], fun k x => tilefarmref4_New k x.1 x.2.1 x.2.2.1⟩
noncomputable def tilefarmref4_New.C : Ctx := ⟨tis, etys, [tilefarmref4_Size.S], [0, 1, 2, 6, 7, 12], [], 22⟩
theorem tilefarmref4_New.eq (k : Nat) (a0 : Int) (a1 : Int) (a2 : Int) :
    evF tilefarmref4_New.C k [] Proofs.Try.f51 [.imm (.int .i64), .imm (.int .i64), .imm (.int .i64)] [(.pair (.int .i64) (.pair (.int .i64) (.pair (.int .i64) (.ow (.int .i64))))), .bool] (a0, a1, a2, ()) some = tilefarmref4_New k a0 a1 a2 := by kernel_rfl

noncomputable def tilefarmref7_Clamp.S : FSem := ⟨52, [.imm (.int .i64), .imm (.int .i64)], [(.int .i64)], fun k x => tilefarmref7_Clamp k x.1 x.2.1⟩
noncomputable def tilefarmref7_Clamp.C : Ctx := ⟨tis, etys, [], [0, 1, 4, 5, 12], [], 18⟩
theorem tilefarmref7_Clamp.eq (k : Nat) (a0 : Int) (a1 : Int) :
    evF tilefarmref7_Clamp.C k [] Proofs.Try.f52 [.imm (.int .i64), .imm (.int .i64)] [(.int .i64)] (a0, a1, ()) some = tilefarmref7_Clamp k a0 a1 := by kernel_rfl

noncomputable def tilefarmref14_Tile.S : FSem := ⟨26, [.imm (.pair (.int .i64) (.pair (.int .i64) (.pair (.int .i64) (.sl (.int .i64))))), .imm (.pair (.int .i64) (.pair (.int .i64) (.pair (.int .i64) (.sl (.int .i64))))), .imm .bool, .imm (.sl (.pair (.int .i64) (.int .i64))), .imm (.int .i64), .imm (.pair (.int .i64) (.pair (.int .i64) (.pair (.int .i64) (.int .i64))))], [(.pair (.int .i64) (.pair (.int .i64) (.pair (.int .i64) (.sl (.int .i64))))), (.int .i64)], fun k x => tilefarmref14_Tile k x.1 x.2.1 x.2.2.1 x.2.2.2.1 x.2.2.2.2.1 x.2.2.2.2.2.1⟩
noncomputable def tilefarmref14_Tile.C : Ctx := ⟨tis, etys, [tilefarmref4_Valid.S, tilefarmref14_Check.S, tilefarmref2_Full.S, tilefarmref4_Cover.S, tilefarmref2_Inside.S, tilefarmref4_New.S, tilefarmref14_Eval.S, tilefarmref7_Clamp.S], [0, 1, 2, 3, 4, 5, 6, 7, 11, 12, 13, 14, 15, 17, 18, 19, 20, 32, 43, 72, 94, 102, 105], [], 151⟩
noncomputable def tilefarmref14_Tile.L1 {R : Type} (k : Nat) : LC R := ⟨1, ⟨[(2, .val .bool), (3, .val (.sl (.pair (.int .i64) (.int .i64)))), (4, .val (.int .i64)), (6, .ptr 0), (7, .ptr 1), (11, .ptr 2), (15, .ptr 3), (17, .val (.int .i64)), (18, .val (.int .i64))], [.box (some (.pair (.int .i64) (.pair (.int .i64) (.pair (.int .i64) (.sl (.int .i64)))))) [(.int .i64), (.int .i64), (.int .i64), (.sl (.int .i64))], .box (some (.pair (.int .i64) (.pair (.int .i64) (.pair (.int .i64) (.sl (.int .i64)))))) [(.int .i64), (.int .i64), (.int .i64), (.sl (.int .i64))], .box (some (.pair (.int .i64) (.pair (.int .i64) (.pair (.int .i64) (.int .i64))))) [(.int .i64), (.int .i64), (.int .i64), (.int .i64)], .box (some (.pair (.int .i64) (.pair (.int .i64) (.pair (.int .i64) (.sl (.int .i64)))))) [(.int .i64), (.int .i64), (.int .i64), (.ow (.int .i64))]]⟩, [(.ex 2, ⟨[(6, .ptr 0), (7, .ptr 1), (11, .ptr 2), (15, .ptr 3)], [.box (some (.pair (.int .i64) (.pair (.int .i64) (.pair (.int .i64) (.sl (.int .i64)))))) [(.int .i64), (.int .i64), (.int .i64), (.sl (.int .i64))], .box (some (.pair (.int .i64) (.pair (.int .i64) (.pair (.int .i64) (.sl (.int .i64)))))) [(.int .i64), (.int .i64), (.int .i64), (.sl (.int .i64))], .box (some (.pair (.int .i64) (.pair (.int .i64) (.pair (.int .i64) (.int .i64))))) [(.int .i64), (.int .i64), (.int .i64), (.int .i64)], .box (some (.pair (.int .i64) (.pair (.int .i64) (.pair (.int .i64) (.sl (.int .i64)))))) [(.int .i64), (.int .i64), (.int .i64), (.ow (.int .i64))]]⟩)], fun x e => tilefarmref14_Tile.loop1 k k x.1.1 x.1.2.1 x.1.2.2.1 x.1.2.2.2.1 x.1.2.2.2.2.1 x.2.1.1 x.2.1.2.1 x.2.1.2.2.1 x.2.1.2.2.2.1 x.2.2.1.1 x.2.2.1.2.1 x.2.2.1.2.2.1 x.2.2.1.2.2.2.1 x.2.2.2.1.1 x.2.2.2.1.2.1 x.2.2.2.1.2.2.1 x.2.2.2.1.2.2.2.1 x.2.2.2.2.1.1 x.2.2.2.2.1.2.1 x.2.2.2.2.1.2.2.1 x.2.2.2.2.1.2.2.2.1 (fun u0 u1 u2 u3 u4 u5 u6 u7 u8 u9 u10 u11 u12 u13 u14 u15 => e ((), ((u0, u1, u2, u3, ()), (u4, u5, u6, u7, ()), (u8, u9, u10, u11, ()), (u12, u13, u14, u15, ()), ())))⟩
theorem tilefarmref14_Tile.r1 {R : Type} (k j : Nat) (s2 : Bool) (s3 : List (Int × Int)) (s4 : Int) (s17 : Int) (s18 : Int) (b6_0 : Int) (b6_1 : Int) (b6_2 : Int) (b6_3 : List Int) (b7_0 : Int) (b7_1 : Int) (b7_2 : Int) (b7_3 : List Int) (b11_0 : Int) (b11_1 : Int) (b11_2 : Int) (b11_3 : Int) (b15_0 : Int) (b15_1 : Int) (b15_2 : Int) (b15_3 : List Int) (e : Outs (tilefarmref14_Tile.L1 (R := R) k).outs → Option R) :
    evRound tilefarmref14_Tile.C k [] (tilefarmref14_Tile.L1 (R := R) k).inn (tilefarmref14_Tile.L1 (R := R) k).outs (loopOf Proofs.Try.f26 1) 2 ((s2, s3, s4, s17, s18, ()), ((b6_0, b6_1, b6_2, b6_3, ()), (b7_0, b7_1, b7_2, b7_3, ()), (b11_0, b11_1, b11_2, b11_3, ()), (b15_0, b15_1, b15_2, b15_3, ()), ())) (fun x => tilefarmref14_Tile.loop1 k j x.1.1 x.1.2.1 x.1.2.2.1 x.1.2.2.2.1 x.1.2.2.2.2.1 x.2.1.1 x.2.1.2.1 x.2.1.2.2.1 x.2.1.2.2.2.1 x.2.2.1.1 x.2.2.1.2.1 x.2.2.1.2.2.1 x.2.2.1.2.2.2.1 x.2.2.2.1.1 x.2.2.2.1.2.1 x.2.2.2.1.2.2.1 x.2.2.2.1.2.2.2.1 x.2.2.2.2.1.1 x.2.2.2.2.1.2.1 x.2.2.2.2.1.2.2.1 x.2.2.2.2.1.2.2.2.1 (fun u0 u1 u2 u3 u4 u5 u6 u7 u8 u9 u10 u11 u12 u13 u14 u15 => e ((), ((u0, u1, u2, u3, ()), (u4, u5, u6, u7, ()), (u8, u9, u10, u11, ()), (u12, u13, u14, u15, ()), ())))) e =
    tilefarmref14_Tile.loop1 k (j + 1) s2 s3 s4 s17 s18 b6_0 b6_1 b6_2 b6_3 b7_0 b7_1 b7_2 b7_3 b11_0 b11_1 b11_2 b11_3 b15_0 b15_1 b15_2 b15_3 (fun u0 u1 u2 u3 u4 u5 u6 u7 u8 u9 u10 u11 u12 u13 u14 u15 => e ((), ((u0, u1, u2, u3, ()), (u4, u5, u6, u7, ()), (u8, u9, u10, u11, ()), (u12, u13, u14, u15, ()), ()))) := by kernel_rfl
noncomputable def tilefarmref14_Tile.L0 {R : Type} (k : Nat) : LC R := ⟨0, ⟨[(2, .val .bool), (3, .val (.sl (.pair (.int .i64) (.int .i64)))), (4, .val (.int .i64)), (6, .ptr 0), (7, .ptr 1), (11, .ptr 2), (15, .ptr 3), (17, .val (.int .i64))], [.box (some (.pair (.int .i64) (.pair (.int .i64) (.pair (.int .i64) (.sl (.int .i64)))))) [(.int .i64), (.int .i64), (.int .i64), (.sl (.int .i64))], .box (some (.pair (.int .i64) (.pair (.int .i64) (.pair (.int .i64) (.sl (.int .i64)))))) [(.int .i64), (.int .i64), (.int .i64), (.sl (.int .i64))], .box (some (.pair (.int .i64) (.pair (.int .i64) (.pair (.int .i64) (.int .i64))))) [(.int .i64), (.int .i64), (.int .i64), (.int .i64)], .box (some (.pair (.int .i64) (.pair (.int .i64) (.pair (.int .i64) (.sl (.int .i64)))))) [(.int .i64), (.int .i64), (.int .i64), (.ow (.int .i64))]]⟩, [(.ex 0, ⟨[(15, .ptr 0)], [.box (some (.pair (.int .i64) (.pair (.int .i64) (.pair (.int .i64) (.sl (.int .i64)))))) [(.int .i64), (.int .i64), (.int .i64), (.ow (.int .i64))]]⟩)], fun x e => tilefarmref14_Tile.loop0 k k x.1.1 x.1.2.1 x.1.2.2.1 x.1.2.2.2.1 x.2.1.1 x.2.1.2.1 x.2.1.2.2.1 x.2.1.2.2.2.1 x.2.2.1.1 x.2.2.1.2.1 x.2.2.1.2.2.1 x.2.2.1.2.2.2.1 x.2.2.2.1.1 x.2.2.2.1.2.1 x.2.2.2.1.2.2.1 x.2.2.2.1.2.2.2.1 x.2.2.2.2.1.1 x.2.2.2.2.1.2.1 x.2.2.2.2.1.2.2.1 x.2.2.2.2.1.2.2.2.1 (fun u0 u1 u2 u3 => e ((), ((u0, u1, u2, u3, ()), ())))⟩
theorem tilefarmref14_Tile.r0 {R : Type} (k j : Nat) (s2 : Bool) (s3 : List (Int × Int)) (s4 : Int) (s17 : Int) (b6_0 : Int) (b6_1 : Int) (b6_2 : Int) (b6_3 : List Int) (b7_0 : Int) (b7_1 : Int) (b7_2 : Int) (b7_3 : List Int) (b11_0 : Int) (b11_1 : Int) (b11_2 : Int) (b11_3 : Int) (b15_0 : Int) (b15_1 : Int) (b15_2 : Int) (b15_3 : List Int) (e : Outs (tilefarmref14_Tile.L0 (R := R) k).outs → Option R) :
    evRound tilefarmref14_Tile.C k [tilefarmref14_Tile.L1 k] (tilefarmref14_Tile.L0 (R := R) k).inn (tilefarmref14_Tile.L0 (R := R) k).outs (loopOf Proofs.Try.f26 0) 1 ((s2, s3, s4, s17, ()), ((b6_0, b6_1, b6_2, b6_3, ()), (b7_0, b7_1, b7_2, b7_3, ()), (b11_0, b11_1, b11_2, b11_3, ()), (b15_0, b15_1, b15_2, b15_3, ()), ())) (fun x => tilefarmref14_Tile.loop0 k j x.1.1 x.1.2.1 x.1.2.2.1 x.1.2.2.2.1 x.2.1.1 x.2.1.2.1 x.2.1.2.2.1 x.2.1.2.2.2.1 x.2.2.1.1 x.2.2.1.2.1 x.2.2.1.2.2.1 x.2.2.1.2.2.2.1 x.2.2.2.1.1 x.2.2.2.1.2.1 x.2.2.2.1.2.2.1 x.2.2.2.1.2.2.2.1 x.2.2.2.2.1.1 x.2.2.2.2.1.2.1 x.2.2.2.2.1.2.2.1 x.2.2.2.2.1.2.2.2.1 (fun u0 u1 u2 u3 => e ((), ((u0, u1, u2, u3, ()), ())))) e =
    tilefarmref14_Tile.loop0 k (j + 1) s2 s3 s4 s17 b6_0 b6_1 b6_2 b6_3 b7_0 b7_1 b7_2 b7_3 b11_0 b11_1 b11_2 b11_3 b15_0 b15_1 b15_2 b15_3 (fun u0 u1 u2 u3 => e ((), ((u0, u1, u2, u3, ()), ()))) := by kernel_rfl
theorem tilefarmref14_Tile.eq (k : Nat) (a0 : Int × Int × Int × List Int) (a1 : Int × Int × Int × List Int) (a2 : Bool) (a3 : List (Int × Int)) (a4 : Int) (a5 : Int × Int × Int × Int) :
    evF tilefarmref14_Tile.C k [tilefarmref14_Tile.L0 k, tilefarmref14_Tile.L1 k] Proofs.Try.f26 [.imm (.pair (.int .i64) (.pair (.int .i64) (.pair (.int .i64) (.sl (.int .i64))))), .imm (.pair (.int .i64) (.pair (.int .i64) (.pair (.int .i64) (.sl (.int .i64))))), .imm .bool, .imm (.sl (.pair (.int .i64) (.int .i64))), .imm (.int .i64), .imm (.pair (.int .i64) (.pair (.int .i64) (.pair (.int .i64) (.int .i64))))] [(.pair (.int .i64) (.pair (.int .i64) (.pair (.int .i64) (.sl (.int .i64))))), (.int .i64)] (a0, a1, a2, a3, a4, a5, ()) some = tilefarmref14_Tile k a0 a1 a2 a3 a4 a5 := by kernel_rfl

noncomputable def tilefarmref4_Same.S : FSem := ⟨53, [.imm (.sl (.int .i64)), .imm (.sl (.int .i64))], [.bool], fun k x => tilefarmref4_Same k x.1 x.2.1⟩
noncomputable def tilefarmref4_Same.C : Ctx := ⟨tis, etys, [], [0, 1, 4, 5, 10, 14, 25], [], 26⟩
noncomputable def tilefarmref4_Same.L0 {R : Type} (k : Nat) : LC R := ⟨0, ⟨[(0, .val (.sl (.int .i64))), (1, .val (.sl (.int .i64))), (5, .val (.int .i64))], []⟩, [(.ret, ⟨[(4, .val .bool)], []⟩), (.ex 0, ⟨[], []⟩)], fun x e => tilefarmref4_Same.loop0 k k x.1.1 x.1.2.1 x.1.2.2.1 (fun u0 => e (.inl ((u0, ()), ()))) (fun _ => e (.inr (((), ()))))⟩
theorem tilefarmref4_Same.r0 {R : Type} (k j : Nat) (s0 : List Int) (s1 : List Int) (s5 : Int) (e : Outs (tilefarmref4_Same.L0 (R := R) k).outs → Option R) :
    evRound tilefarmref4_Same.C k [] (tilefarmref4_Same.L0 (R := R) k).inn (tilefarmref4_Same.L0 (R := R) k).outs (loopOf Proofs.Try.f53 0) 1 ((s0, s1, s5, ()), ()) (fun x => tilefarmref4_Same.loop0 k j x.1.1 x.1.2.1 x.1.2.2.1 (fun u0 => e (.inl ((u0, ()), ()))) (fun _ => e (.inr (((), ()))))) e =
    tilefarmref4_Same.loop0 k (j + 1) s0 s1 s5 (fun u0 => e (.inl ((u0, ()), ()))) (fun _ => e (.inr (((), ())))) := by kernel_rfl
theorem tilefarmref4_Same.eq (k : Nat) (a0 : List Int) (a1 : List Int) :
    evF tilefarmref4_Same.C k [tilefarmref4_Same.L0 k] Proofs.Try.f53 [.imm (.sl (.int .i64)), .imm (.sl (.int .i64))] [.bool] (a0, a1, ()) some = tilefarmref4_Same k a0 a1 := by kernel_rfl

noncomputable def tilefarmref4_Equal.S : FSem := ⟨27, [.imm (.pair (.int .i64) (.pair (.int .i64) (.pair (.int .i64) (.sl (.int .i64))))), .imm (.pair (.int .i64) (.pair (.int .i64) (.pair (.int .i64) (.sl (.int .i64)))))], [.bool], fun k x => tilefarmref4_Equal k x.1 x.2.1⟩
noncomputable def tilefarmref4_Equal.C : Ctx := ⟨tis, etys, [tilefarmref4_Same.S], [0, 1, 2, 3, 4], [], 31⟩
theorem tilefarmref4_Equal.eq (k : Nat) (a0 : Int × Int × Int × List Int) (a1 : Int × Int × Int × List Int) :
    evF tilefarmref4_Equal.C k [] Proofs.Try.f27 [.imm (.pair (.int .i64) (.pair (.int .i64) (.pair (.int .i64) (.sl (.int .i64))))), .imm (.pair (.int .i64) (.pair (.int .i64) (.pair (.int .i64) (.sl (.int .i64)))))] [.bool] (a0, a1, ()) some = tilefarmref4_Equal k a0 a1 := by kernel_rfl

noncomputable def tilefarmlaw14_PointwiseTiles.S : FSem := ⟨7, [.imm (.sl (.int .i64)), .imm (.pair (.int .i64) (.pair (.int .i64) (.pair (.int .i64) (.int .i64))))], [.bool], fun k x => tilefarmlaw14_PointwiseTiles k x.1 x.2.1⟩
noncomputable def tilefarmlaw14_PointwiseTiles.C : Ctx := ⟨tis, etys, [tilefarmgen_New.S, tilefarmgen_Tape_Plane.S, tilefarmgen_Tape_Sized.S, tilefarmlaw14_program.S, tilefarmgen_Tape_Next.S, tilefarmgen_Tape_Within.S, tilefarmgen_Tape_SpoilPlane.S, pointwise_Tile.S, tilefarmref14_Tile.S, tilefarmref4_Equal.S, tilefarmlaw14_sane.S], [0, 1, 3, 4, 5, 6, 7, 8, 9, 10, 11, 12, 13, 14, 15, 19, 41, 42, 45, 51, 81], [], 83⟩
noncomputable def tilefarmlaw14_PointwiseTiles.L0 {R : Type} (k : Nat) : LC R := ⟨0, ⟨[(3, .ptr 0), (5, .ptr 1), (6, .val (.int .i64))], [.box (some (.pair (.int .i64) (.pair (.int .i64) (.pair (.int .i64) (.int .i64))))) [(.int .i64), (.int .i64), (.int .i64), (.int .i64)], .box (some (.pair (.sl (.int .i64)) (.int .i64))) [(.sl (.int .i64)), (.int .i64)]]⟩, [(.ret, ⟨[(4, .val .bool)], []⟩), (.ex 0, ⟨[], []⟩)], fun x e => tilefarmlaw14_PointwiseTiles.loop0 k k x.1.1 x.2.1.1 x.2.1.2.1 x.2.1.2.2.1 x.2.1.2.2.2.1 x.2.2.1.1 x.2.2.1.2.1 (fun u0 => e (.inl ((u0, ()), ()))) (fun _ => e (.inr (((), ()))))⟩
theorem tilefarmlaw14_PointwiseTiles.r0 {R : Type} (k j : Nat) (s6 : Int) (b3_0 : Int) (b3_1 : Int) (b3_2 : Int) (b3_3 : Int) (b5_0 : List Int) (b5_1 : Int) (e : Outs (tilefarmlaw14_PointwiseTiles.L0 (R := R) k).outs → Option R) :
    evRound tilefarmlaw14_PointwiseTiles.C k [] (tilefarmlaw14_PointwiseTiles.L0 (R := R) k).inn (tilefarmlaw14_PointwiseTiles.L0 (R := R) k).outs (loopOf Proofs.Try.f7 0) 1 ((s6, ()), ((b3_0, b3_1, b3_2, b3_3, ()), (b5_0, b5_1, ()), ())) (fun x => tilefarmlaw14_PointwiseTiles.loop0 k j x.1.1 x.2.1.1 x.2.1.2.1 x.2.1.2.2.1 x.2.1.2.2.2.1 x.2.2.1.1 x.2.2.1.2.1 (fun u0 => e (.inl ((u0, ()), ()))) (fun _ => e (.inr (((), ()))))) e =
    tilefarmlaw14_PointwiseTiles.loop0 k (j + 1) s6 b3_0 b3_1 b3_2 b3_3 b5_0 b5_1 (fun u0 => e (.inl ((u0, ()), ()))) (fun _ => e (.inr (((), ())))) := by kernel_rfl
theorem tilefarmlaw14_PointwiseTiles.eq (k : Nat) (a0 : List Int) (a1 : Int × Int × Int × Int) :
    evF tilefarmlaw14_PointwiseTiles.C k [tilefarmlaw14_PointwiseTiles.L0 k] Proofs.Try.f7 [.imm (.sl (.int .i64)), .imm (.pair (.int .i64) (.pair (.int .i64) (.pair (.int .i64) (.int .i64))))] [.bool] (a0, a1, ()) some = tilefarmlaw14_PointwiseTiles k a0 a1 := by kernel_rfl

noncomputable def tilefarmlaw14_PointwiseWithin.S : FSem := ⟨4, [.imm (.sl (.int .i64)), .imm (.int .i64), .imm (.int .i64)], [.bool], fun k x => tilefarmlaw14_PointwiseWithin k x.1 x.2.1 x.2.2.1⟩
noncomputable def tilefarmlaw14_PointwiseWithin.C : Ctx := ⟨tis, etys, [tilefarmgen_New.S, tilefarmlaw14_program.S, tilefarmgen_Tape_Next.S, pointwise_Interval.S, tilefarmgen_Mod.S, pointwise_Eval.S, tilefarmlaw14_sane.S], [0, 1, 2, 6, 7, 8, 9, 10, 11, 12, 13, 14, 15], [], 78⟩
theorem tilefarmlaw14_PointwiseWithin.eq (k : Nat) (a0 : List Int) (a1 : Int) (a2 : Int) :
    evF tilefarmlaw14_PointwiseWithin.C k [] Proofs.Try.f4 [.imm (.sl (.int .i64)), .imm (.int .i64), .imm (.int .i64)] [.bool] (a0, a1, a2, ()) some = tilefarmlaw14_PointwiseWithin k a0 a1 a2 := by kernel_rfl

noncomputable def tilefarmlaw14_PointwiseJoins.S : FSem := ⟨5, [.imm (.sl (.int .i64)), .imm (.int .i64), .imm (.int .i64)], [.bool], fun k x => tilefarmlaw14_PointwiseJoins k x.1 x.2.1 x.2.2.1⟩
noncomputable def tilefarmlaw14_PointwiseJoins.C : Ctx := ⟨tis, etys, [tilefarmgen_New.S, tilefarmgen_Tape_Ops.S, tilefarmgen_Mod.S, pointwise_Eval.S, tilefarmlaw14_sane.S], [0, 1, 2, 6, 7, 8, 9, 10, 11, 12, 13, 14, 15, 16, 33, 44], [], 81⟩
theorem tilefarmlaw14_PointwiseJoins.eq (k : Nat) (a0 : List Int) (a1 : Int) (a2 : Int) :
    evF tilefarmlaw14_PointwiseJoins.C k [] Proofs.Try.f5 [.imm (.sl (.int .i64)), .imm (.int .i64), .imm (.int .i64)] [.bool] (a0, a1, a2, ()) some = tilefarmlaw14_PointwiseJoins k a0 a1 a2 := by kernel_rfl

noncomputable def tilefarmlaw14_PointwiseOrderless.S : FSem := ⟨6, [.imm (.int .i64), .imm (.int .i64)], [.bool], fun k x => tilefarmlaw14_PointwiseOrderless k x.1 x.2.1⟩
noncomputable def tilefarmlaw14_PointwiseOrderless.C : Ctx := ⟨tis, etys, [tilefarmgen_Mod.S, pointwise_Eval.S, tilefarmlaw14_sane.S], [0, 1, 4, 5, 6, 8, 9, 10, 11, 12, 13, 14, 15, 16, 21, 22, 23, 24, 56], [], 101⟩
noncomputable def tilefarmlaw14_PointwiseOrderless.L0 {R : Type} (k : Nat) : LC R := ⟨0, ⟨[(5, .val (.int .i64)), (6, .val (.int .i64)), (21, .arr 0), (22, .val (.int .i64)), (23, .val (.int .i64))], [.arr (.int .i64)]⟩, [(.ret, ⟨[(4, .val .bool)], []⟩), (.ex 0, ⟨[], []⟩)], fun x e => tilefarmlaw14_PointwiseOrderless.loop0 k k x.1.1 x.1.2.1 x.1.2.2.1 x.1.2.2.2.1 x.2.1 (fun u0 => e (.inl ((u0, ()), ()))) (fun _ => e (.inr (((), ()))))⟩
theorem tilefarmlaw14_PointwiseOrderless.r0 {R : Type} (k j : Nat) (s5 : Int) (s6 : Int) (s22 : Int) (s23 : Int) (l21 : List Int) (e : Outs (tilefarmlaw14_PointwiseOrderless.L0 (R := R) k).outs → Option R) :
    evRound tilefarmlaw14_PointwiseOrderless.C k [] (tilefarmlaw14_PointwiseOrderless.L0 (R := R) k).inn (tilefarmlaw14_PointwiseOrderless.L0 (R := R) k).outs (loopOf Proofs.Try.f6 0) 1 ((s5, s6, s22, s23, ()), (l21, ())) (fun x => tilefarmlaw14_PointwiseOrderless.loop0 k j x.1.1 x.1.2.1 x.1.2.2.1 x.1.2.2.2.1 x.2.1 (fun u0 => e (.inl ((u0, ()), ()))) (fun _ => e (.inr (((), ()))))) e =
    tilefarmlaw14_PointwiseOrderless.loop0 k (j + 1) s5 s6 s22 s23 l21 (fun u0 => e (.inl ((u0, ()), ()))) (fun _ => e (.inr (((), ())))) := by kernel_rfl
theorem tilefarmlaw14_PointwiseOrderless.eq (k : Nat) (a0 : Int) (a1 : Int) :
    evF tilefarmlaw14_PointwiseOrderless.C k [tilefarmlaw14_PointwiseOrderless.L0 k] Proofs.Try.f6 [.imm (.int .i64), .imm (.int .i64)] [.bool] (a0, a1, ()) some = tilefarmlaw14_PointwiseOrderless k a0 a1 := by kernel_rfl

end Go.Lf.T
