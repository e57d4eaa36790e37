import Derived.Test.YtgfhdajbgkpgkaaLfTie1
import Derived.Test.YtgfhdajbgkpgkaaLfCc
import Derived.Test.YtgfhdajbgkpgkaaProg
set_option linter.unusedVariables false
set_option maxRecDepth 100000
namespace Go.Lf.T
open Go Go.Lf

theorem mixed : Proofs.Try.prog.follows .mixedOrders = true := by kernel_rfl
theorem tisT : tisB Proofs.Try.prog tis = true := by kernel_rfl

theorem tilefarmgen_New.env : EnvOk Proofs.Try.prog tilefarmgen_New.C := show EnvL Proofs.Try.prog [] from envNil
theorem tilefarmgen_New.snd : FSound Proofs.Try.prog tilefarmgen_New.S :=
  fun_sound (C := tilefarmgen_New.C) (S := tilefarmgen_New.S) (fn := Proofs.Try.f8) (c := bodyOf Proofs.Try.f8) mixed (tisOk tisT) tilefarmgen_New.env Proofs.Try.func8 (by kernel_rfl) (by kernel_rfl) (L := fun k => []) (fun k => lokNil) (fun k x => tilefarmgen_New.eq k x.1)

theorem tilefarmgen_Mod.env : EnvOk Proofs.Try.prog tilefarmgen_Mod.C := show EnvL Proofs.Try.prog [] from envNil
theorem tilefarmgen_Mod.snd : FSound Proofs.Try.prog tilefarmgen_Mod.S :=
  fun_sound (C := tilefarmgen_Mod.C) (S := tilefarmgen_Mod.S) (fn := Proofs.Try.f19) (c := bodyOf Proofs.Try.f19) mixed (tisOk tisT) tilefarmgen_Mod.env Proofs.Try.func19 (by kernel_rfl) (by kernel_rfl) (L := fun k => []) (fun k => lokNil) (fun k x => tilefarmgen_Mod.eq k x.1 x.2.1)

theorem tilefarmgen_Tape_Next.env : EnvOk Proofs.Try.prog tilefarmgen_Tape_Next.C := show EnvL Proofs.Try.prog [tilefarmgen_Mod.S] from (envCons tilefarmgen_Mod.snd envNil)
theorem tilefarmgen_Tape_Next.snd : FSound Proofs.Try.prog tilefarmgen_Tape_Next.S :=
  fun_sound (C := tilefarmgen_Tape_Next.C) (S := tilefarmgen_Tape_Next.S) (fn := Proofs.Try.f11) (c := bodyOf Proofs.Try.f11) mixed (tisOk tisT) tilefarmgen_Tape_Next.env Proofs.Try.func11 (by kernel_rfl) (by kernel_rfl) (L := fun k => []) (fun k => lokNil) (fun k x => tilefarmgen_Tape_Next.eq k x.1 x.2.1)

theorem tilefarmgen_Tape_Pick.env : EnvOk Proofs.Try.prog tilefarmgen_Tape_Pick.C := show EnvL Proofs.Try.prog [tilefarmgen_Tape_Next.S] from (envCons tilefarmgen_Tape_Next.snd envNil)
theorem tilefarmgen_Tape_Pick.snd : FSound Proofs.Try.prog tilefarmgen_Tape_Pick.S :=
  fun_sound (C := tilefarmgen_Tape_Pick.C) (S := tilefarmgen_Tape_Pick.S) (fn := Proofs.Try.f10) (c := bodyOf Proofs.Try.f10) mixed (tisOk tisT) tilefarmgen_Tape_Pick.env Proofs.Try.func10 (by kernel_rfl) (by kernel_rfl) (L := fun k => []) (fun k => lokNil) (fun k x => tilefarmgen_Tape_Pick.eq k x.1 x.2.1)

theorem tilefarmgen_Tape_Ops.env : EnvOk Proofs.Try.prog tilefarmgen_Tape_Ops.C := show EnvL Proofs.Try.prog [tilefarmgen_Tape_Pick.S, tilefarmgen_Tape_Next.S] from (envCons tilefarmgen_Tape_Pick.snd (envCons tilefarmgen_Tape_Next.snd envNil))
theorem tilefarmgen_Tape_Ops.l0 {R : Type} (k : Nat) : LCs Proofs.Try.prog tilefarmgen_Tape_Ops.C (loopOf Proofs.Try.f20 0) (tilefarmgen_Tape_Ops.L0 (R := R) k) :=
  loop_sound mixed (tisOk tisT) tilefarmgen_Tape_Ops.env (k := k) (L := []) (n := 1) (inn := (tilefarmgen_Tape_Ops.L0 (R := R) k).inn) (outs := (tilefarmgen_Tape_Ops.L0 (R := R) k).outs) lokNil (fun j x e => tilefarmgen_Tape_Ops.loop0 k j x.1.1 x.2.1.1 x.2.1.2.1 x.2.2.1 (fun u0 u1 u2 => e ((), ((u0, u1, ()), u2, ())))) (fun _ _ => rfl) (fun j x e => (tilefarmgen_Tape_Ops.r0 k j x.1.1 x.2.1.1 x.2.1.2.1 x.2.2.1 e).symm) 0 k
theorem tilefarmgen_Tape_Ops.snd : FSound Proofs.Try.prog tilefarmgen_Tape_Ops.S :=
  fun_sound (C := tilefarmgen_Tape_Ops.C) (S := tilefarmgen_Tape_Ops.S) (fn := Proofs.Try.f20) (c := bodyOf Proofs.Try.f20) mixed (tisOk tisT) tilefarmgen_Tape_Ops.env Proofs.Try.func20 (by kernel_rfl) (by kernel_rfl) (L := fun k => [tilefarmgen_Tape_Ops.L0 k]) (fun k => (lokCons (lc := tilefarmgen_Tape_Ops.L0 k) (c0 := loopOf Proofs.Try.f20 0) (by kernel_rfl) (tilefarmgen_Tape_Ops.l0 k) lokNil)) (fun k x => tilefarmgen_Tape_Ops.eq k x.1 x.2.1)

theorem tilefarmlaw14_program.env : EnvOk Proofs.Try.prog tilefarmlaw14_program.C := show EnvL Proofs.Try.prog [tilefarmgen_Tape_Next.S, tilefarmgen_Tape_Ops.S, tilefarmgen_Tape_Pick.S] from (envCons tilefarmgen_Tape_Next.snd (envCons tilefarmgen_Tape_Ops.snd (envCons tilefarmgen_Tape_Pick.snd envNil)))
theorem tilefarmlaw14_program.snd : FSound Proofs.Try.prog tilefarmlaw14_program.S :=
  fun_sound (C := tilefarmlaw14_program.C) (S := tilefarmlaw14_program.S) (fn := Proofs.Try.f9) (c := bodyOf Proofs.Try.f9) mixed (tisOk tisT) tilefarmlaw14_program.env Proofs.Try.func9 (by kernel_rfl) (by kernel_rfl) (L := fun k => []) (fun k => lokNil) (fun k x => tilefarmlaw14_program.eq k x.1)

theorem pointwise_between.env : EnvOk Proofs.Try.prog pointwise_between.C := show EnvL Proofs.Try.prog [] from envNil
theorem pointwise_between.snd : FSound Proofs.Try.prog pointwise_between.S :=
  fun_sound (C := pointwise_between.C) (S := pointwise_between.S) (fn := Proofs.Try.f28) (c := bodyOf Proofs.Try.f28) mixed (tisOk tisT) pointwise_between.env Proofs.Try.func28 (by kernel_rfl) (by kernel_rfl) (L := fun k => []) (fun k => lokNil) (fun k x => pointwise_between.eq k x.1 x.2.1 x.2.2.1)

theorem pointwise_takes.env : EnvOk Proofs.Try.prog pointwise_takes.C := show EnvL Proofs.Try.prog [] from envNil
theorem pointwise_takes.snd : FSound Proofs.Try.prog pointwise_takes.S :=
  fun_sound (C := pointwise_takes.C) (S := pointwise_takes.S) (fn := Proofs.Try.f29) (c := bodyOf Proofs.Try.f29) mixed (tisOk tisT) pointwise_takes.env Proofs.Try.func29 (by kernel_rfl) (by kernel_rfl) (L := fun k => []) (fun k => lokNil) (fun k x => pointwise_takes.eq k x.1)

theorem pointwise_argument.env : EnvOk Proofs.Try.prog pointwise_argument.C := show EnvL Proofs.Try.prog [pointwise_between.S] from (envCons pointwise_between.snd envNil)
theorem pointwise_argument.snd : FSound Proofs.Try.prog pointwise_argument.S :=
  fun_sound (C := pointwise_argument.C) (S := pointwise_argument.S) (fn := Proofs.Try.f39) (c := bodyOf Proofs.Try.f39) mixed (tisOk tisT) pointwise_argument.env Proofs.Try.func39 (by kernel_rfl) (by kernel_rfl) (L := fun k => []) (fun k => lokNil) (fun k x => pointwise_argument.eq k x.1)

theorem pointwise_Valid.env : EnvOk Proofs.Try.prog pointwise_Valid.C := show EnvL Proofs.Try.prog [pointwise_between.S, pointwise_takes.S, pointwise_argument.S] from (envCons pointwise_between.snd (envCons pointwise_takes.snd (envCons pointwise_argument.snd envNil)))
theorem pointwise_Valid.l0 {R : Type} (k : Nat) : LCs Proofs.Try.prog pointwise_Valid.C (loopOf Proofs.Try.f16 0) (pointwise_Valid.L0 (R := R) k) :=
  loop_sound mixed (tisOk tisT) pointwise_Valid.env (k := k) (L := []) (n := 1) (inn := (pointwise_Valid.L0 (R := R) k).inn) (outs := (pointwise_Valid.L0 (R := R) k).outs) lokNil (fun j x e => pointwise_Valid.loop0 k j x.1.1 x.1.2.1 x.1.2.2.1 x.1.2.2.2.1 x.1.2.2.2.2.1 (fun u0 => e (.inl ((u0, ()), ()))) (fun u0 => e (.inr (((u0, ()), ()))))) (fun _ _ => rfl) (fun j x e => (pointwise_Valid.r0 k j x.1.1 x.1.2.1 x.1.2.2.1 x.1.2.2.2.1 x.1.2.2.2.2.1 e).symm) 0 k
theorem pointwise_Valid.snd : FSound Proofs.Try.prog pointwise_Valid.S :=
  fun_sound (C := pointwise_Valid.C) (S := pointwise_Valid.S) (fn := Proofs.Try.f16) (c := bodyOf Proofs.Try.f16) mixed (tisOk tisT) pointwise_Valid.env Proofs.Try.func16 (by kernel_rfl) (by kernel_rfl) (L := fun k => [pointwise_Valid.L0 k]) (fun k => (lokCons (lc := pointwise_Valid.L0 k) (c0 := loopOf Proofs.Try.f16 0) (by kernel_rfl) (pointwise_Valid.l0 k) lokNil)) (fun k x => pointwise_Valid.eq k x.1 x.2.1)

theorem fixed_sum.env : EnvOk Proofs.Try.prog fixed_sum.C := show EnvL Proofs.Try.prog [] from envNil
theorem fixed_sum.snd : FSound Proofs.Try.prog fixed_sum.S :=
  fun_sound (C := fixed_sum.C) (S := fixed_sum.S) (fn := Proofs.Try.f71) (c := bodyOf Proofs.Try.f71) mixed (tisOk tisT) fixed_sum.env Proofs.Try.func71 (by kernel_rfl) (by kernel_rfl) (L := fun k => []) (fun k => lokNil) (fun k x => fixed_sum.eq k x.1)

theorem fixed_Shift.env : EnvOk Proofs.Try.prog fixed_Shift.C := show EnvL Proofs.Try.prog [fixed_sum.S] from (envCons fixed_sum.snd envNil)
theorem fixed_Shift.snd : FSound Proofs.Try.prog fixed_Shift.S :=
  fun_sound (C := fixed_Shift.C) (S := fixed_Shift.S) (fn := Proofs.Try.f54) (c := bodyOf Proofs.Try.f54) mixed (tisOk tisT) fixed_Shift.env Proofs.Try.func54 (by kernel_rfl) (by kernel_rfl) (L := fun k => []) (fun k => lokNil) (fun k x => fixed_Shift.eq k x.1 x.2.1)

theorem fixed_Span.env : EnvOk Proofs.Try.prog fixed_Span.C := show EnvL Proofs.Try.prog [fixed_Shift.S] from (envCons fixed_Shift.snd envNil)
theorem fixed_Span.snd : FSound Proofs.Try.prog fixed_Span.S :=
  fun_sound (C := fixed_Span.C) (S := fixed_Span.S) (fn := Proofs.Try.f30) (c := bodyOf Proofs.Try.f30) mixed (tisOk tisT) fixed_Span.env Proofs.Try.func30 (by kernel_rfl) (by kernel_rfl) (L := fun k => []) (fun k => lokNil) (fun k x => fixed_Span.eq k x.1 x.2.1 x.2.2.1)

theorem pointwise_abs.env : EnvOk Proofs.Try.prog pointwise_abs.C := show EnvL Proofs.Try.prog [] from envNil
theorem pointwise_abs.snd : FSound Proofs.Try.prog pointwise_abs.S :=
  fun_sound (C := pointwise_abs.C) (S := pointwise_abs.S) (fn := Proofs.Try.f31) (c := bodyOf Proofs.Try.f31) mixed (tisOk tisT) pointwise_abs.env Proofs.Try.func31 (by kernel_rfl) (by kernel_rfl) (L := fun k => []) (fun k => lokNil) (fun k x => pointwise_abs.eq k x.1)

theorem pointwise_times.env : EnvOk Proofs.Try.prog pointwise_times.C := show EnvL Proofs.Try.prog [pointwise_abs.S] from (envCons pointwise_abs.snd envNil)
theorem pointwise_times.snd : FSound Proofs.Try.prog pointwise_times.S :=
  fun_sound (C := pointwise_times.C) (S := pointwise_times.S) (fn := Proofs.Try.f55) (c := bodyOf Proofs.Try.f55) mixed (tisOk tisT) pointwise_times.env Proofs.Try.func55 (by kernel_rfl) (by kernel_rfl) (L := fun k => []) (fun k => lokNil) (fun k x => pointwise_times.eq k x.1 x.2.1)

theorem pointwise_combined.env : EnvOk Proofs.Try.prog pointwise_combined.C := show EnvL Proofs.Try.prog [pointwise_times.S, pointwise_abs.S] from (envCons pointwise_times.snd (envCons pointwise_abs.snd envNil))
theorem pointwise_combined.snd : FSound Proofs.Try.prog pointwise_combined.S :=
  fun_sound (C := pointwise_combined.C) (S := pointwise_combined.S) (fn := Proofs.Try.f32) (c := bodyOf Proofs.Try.f32) mixed (tisOk tisT) pointwise_combined.env Proofs.Try.func32 (by kernel_rfl) (by kernel_rfl) (L := fun k => []) (fun k => lokNil) (fun k x => pointwise_combined.eq k x.1 x.2.1 x.2.2.1)

theorem pointwise_sum.env : EnvOk Proofs.Try.prog pointwise_sum.C := show EnvL Proofs.Try.prog [pointwise_between.S] from (envCons pointwise_between.snd envNil)
theorem pointwise_sum.snd : FSound Proofs.Try.prog pointwise_sum.S :=
  fun_sound (C := pointwise_sum.C) (S := pointwise_sum.S) (fn := Proofs.Try.f33) (c := bodyOf Proofs.Try.f33) mixed (tisOk tisT) pointwise_sum.env Proofs.Try.func33 (by kernel_rfl) (by kernel_rfl) (L := fun k => []) (fun k => lokNil) (fun k x => pointwise_sum.eq k x.1)

theorem pointwise_Interval.env : EnvOk Proofs.Try.prog pointwise_Interval.C := show EnvL Proofs.Try.prog [pointwise_Valid.S, pointwise_between.S, pointwise_takes.S, pointwise_sum.S, fixed_Span.S, pointwise_abs.S, pointwise_combined.S] from (envCons pointwise_Valid.snd (envCons pointwise_between.snd (envCons pointwise_takes.snd (envCons pointwise_sum.snd (envCons fixed_Span.snd (envCons pointwise_abs.snd (envCons pointwise_combined.snd envNil)))))))
theorem pointwise_Interval.l0 {R : Type} (k : Nat) : LCs Proofs.Try.prog pointwise_Interval.C (loopOf Proofs.Try.f12 0) (pointwise_Interval.L0 (R := R) k) :=
  loop_sound mixed (tisOk tisT) pointwise_Interval.env (k := k) (L := []) (n := 1) (inn := (pointwise_Interval.L0 (R := R) k).inn) (outs := (pointwise_Interval.L0 (R := R) k).outs) lokNil (fun j x e => pointwise_Interval.loop0 k j x.1.1 x.1.2.1 x.1.2.2.1 x.1.2.2.2.1 x.1.2.2.2.2.1 x.2.1 (fun u0 u1 u2 => e (.inl ((u0, u1, u2, ()), ()))) (fun u0 => e (.inr (((), (u0, ())))))) (fun _ _ => rfl) (fun j x e => (pointwise_Interval.r0 k j x.1.1 x.1.2.1 x.1.2.2.1 x.1.2.2.2.1 x.1.2.2.2.2.1 x.2.1 e).symm) 0 k
theorem pointwise_Interval.snd : FSound Proofs.Try.prog pointwise_Interval.S :=
  fun_sound (C := pointwise_Interval.C) (S := pointwise_Interval.S) (fn := Proofs.Try.f12) (c := bodyOf Proofs.Try.f12) mixed (tisOk tisT) pointwise_Interval.env Proofs.Try.func12 (by kernel_rfl) (by kernel_rfl) (L := fun k => [pointwise_Interval.L0 k]) (fun k => (lokCons (lc := pointwise_Interval.L0 k) (c0 := loopOf Proofs.Try.f12 0) (by kernel_rfl) (pointwise_Interval.l0 k) lokNil)) (fun k x => pointwise_Interval.eq k x.1 x.2.1 x.2.2.1)

theorem tilefarmref14_takes.env : EnvOk Proofs.Try.prog tilefarmref14_takes.C := show EnvL Proofs.Try.prog [] from envNil
theorem tilefarmref14_takes.snd : FSound Proofs.Try.prog tilefarmref14_takes.S :=
  fun_sound (C := tilefarmref14_takes.C) (S := tilefarmref14_takes.S) (fn := Proofs.Try.f35) (c := bodyOf Proofs.Try.f35) mixed (tisOk tisT) tilefarmref14_takes.env Proofs.Try.func35 (by kernel_rfl) (by kernel_rfl) (L := fun k => []) (fun k => lokNil) (fun k x => tilefarmref14_takes.eq k x.1)

theorem tilefarmref7_IsShift.env : EnvOk Proofs.Try.prog tilefarmref7_IsShift.C := show EnvL Proofs.Try.prog [] from envNil
theorem tilefarmref7_IsShift.snd : FSound Proofs.Try.prog tilefarmref7_IsShift.S :=
  fun_sound (C := tilefarmref7_IsShift.C) (S := tilefarmref7_IsShift.S) (fn := Proofs.Try.f64) (c := bodyOf Proofs.Try.f64) mixed (tisOk tisT) tilefarmref7_IsShift.env Proofs.Try.func64 (by kernel_rfl) (by kernel_rfl) (L := fun k => []) (fun k => lokNil) (fun k x => tilefarmref7_IsShift.eq k x.1)

theorem tilefarmref14_argument.env : EnvOk Proofs.Try.prog tilefarmref14_argument.C := show EnvL Proofs.Try.prog [tilefarmref7_IsShift.S] from (envCons tilefarmref7_IsShift.snd envNil)
theorem tilefarmref14_argument.snd : FSound Proofs.Try.prog tilefarmref14_argument.S :=
  fun_sound (C := tilefarmref14_argument.C) (S := tilefarmref14_argument.S) (fn := Proofs.Try.f40) (c := bodyOf Proofs.Try.f40) mixed (tisOk tisT) tilefarmref14_argument.env Proofs.Try.func40 (by kernel_rfl) (by kernel_rfl) (L := fun k => []) (fun k => lokNil) (fun k x => tilefarmref14_argument.eq k x.1)

theorem tilefarmref14_Valid.env : EnvOk Proofs.Try.prog tilefarmref14_Valid.C := show EnvL Proofs.Try.prog [tilefarmref14_takes.S, tilefarmref14_argument.S] from (envCons tilefarmref14_takes.snd (envCons tilefarmref14_argument.snd envNil))
theorem tilefarmref14_Valid.l0 {R : Type} (k : Nat) : LCs Proofs.Try.prog tilefarmref14_Valid.C (loopOf Proofs.Try.f17 0) (tilefarmref14_Valid.L0 (R := R) k) :=
  loop_sound mixed (tisOk tisT) tilefarmref14_Valid.env (k := k) (L := []) (n := 1) (inn := (tilefarmref14_Valid.L0 (R := R) k).inn) (outs := (tilefarmref14_Valid.L0 (R := R) k).outs) lokNil (fun j x e => tilefarmref14_Valid.loop0 k j x.1.1 x.1.2.1 x.1.2.2.1 x.1.2.2.2.1 (fun u0 => e (.inl ((u0, ()), ()))) (fun u0 => e (.inr (((u0, ()), ()))))) (fun _ _ => rfl) (fun j x e => (tilefarmref14_Valid.r0 k j x.1.1 x.1.2.1 x.1.2.2.1 x.1.2.2.2.1 e).symm) 0 k
theorem tilefarmref14_Valid.snd : FSound Proofs.Try.prog tilefarmref14_Valid.S :=
  fun_sound (C := tilefarmref14_Valid.C) (S := tilefarmref14_Valid.S) (fn := Proofs.Try.f17) (c := bodyOf Proofs.Try.f17) mixed (tisOk tisT) tilefarmref14_Valid.env Proofs.Try.func17 (by kernel_rfl) (by kernel_rfl) (L := fun k => [tilefarmref14_Valid.L0 k]) (fun k => (lokCons (lc := tilefarmref14_Valid.L0 k) (c0 := loopOf Proofs.Try.f17 0) (by kernel_rfl) (tilefarmref14_Valid.l0 k) lokNil)) (fun k x => tilefarmref14_Valid.eq k x.1 x.2.1)

theorem tilefarmref9_Value.env : EnvOk Proofs.Try.prog tilefarmref9_Value.C := show EnvL Proofs.Try.prog [] from envNil
theorem tilefarmref9_Value.snd : FSound Proofs.Try.prog tilefarmref9_Value.S :=
  fun_sound (C := tilefarmref9_Value.C) (S := tilefarmref9_Value.S) (fn := Proofs.Try.f34) (c := bodyOf Proofs.Try.f34) mixed (tisOk tisT) tilefarmref9_Value.env Proofs.Try.func34 (by kernel_rfl) (by kernel_rfl) (L := fun k => []) (fun k => lokNil) (fun k x => tilefarmref9_Value.eq k x.1)

theorem tilefarmref14_abs.env : EnvOk Proofs.Try.prog tilefarmref14_abs.C := show EnvL Proofs.Try.prog [] from envNil
theorem tilefarmref14_abs.snd : FSound Proofs.Try.prog tilefarmref14_abs.S :=
  fun_sound (C := tilefarmref14_abs.C) (S := tilefarmref14_abs.S) (fn := Proofs.Try.f56) (c := bodyOf Proofs.Try.f56) mixed (tisOk tisT) tilefarmref14_abs.env Proofs.Try.func56 (by kernel_rfl) (by kernel_rfl) (L := fun k => []) (fun k => lokNil) (fun k x => tilefarmref14_abs.eq k x.1)

theorem tilefarmref14_times.env : EnvOk Proofs.Try.prog tilefarmref14_times.C := show EnvL Proofs.Try.prog [] from envNil
theorem tilefarmref14_times.snd : FSound Proofs.Try.prog tilefarmref14_times.S :=
  fun_sound (C := tilefarmref14_times.C) (S := tilefarmref14_times.S) (fn := Proofs.Try.f61) (c := bodyOf Proofs.Try.f61) mixed (tisOk tisT) tilefarmref14_times.env Proofs.Try.func61 (by kernel_rfl) (by kernel_rfl) (L := fun k => []) (fun k => lokNil) (fun k x => tilefarmref14_times.eq k x.1 x.2.1)

theorem tilefarmref14_product.env : EnvOk Proofs.Try.prog tilefarmref14_product.C := show EnvL Proofs.Try.prog [tilefarmref14_times.S] from (envCons tilefarmref14_times.snd envNil)
theorem tilefarmref14_product.snd : FSound Proofs.Try.prog tilefarmref14_product.S :=
  fun_sound (C := tilefarmref14_product.C) (S := tilefarmref14_product.S) (fn := Proofs.Try.f57) (c := bodyOf Proofs.Try.f57) mixed (tisOk tisT) tilefarmref14_product.env Proofs.Try.func57 (by kernel_rfl) (by kernel_rfl) (L := fun k => []) (fun k => lokNil) (fun k x => tilefarmref14_product.eq k x.1 x.2.1)

theorem tilefarmref7_Acc.env : EnvOk Proofs.Try.prog tilefarmref7_Acc.C := show EnvL Proofs.Try.prog [] from envNil
theorem tilefarmref7_Acc.snd : FSound Proofs.Try.prog tilefarmref7_Acc.S :=
  fun_sound (C := tilefarmref7_Acc.C) (S := tilefarmref7_Acc.S) (fn := Proofs.Try.f59) (c := bodyOf Proofs.Try.f59) mixed (tisOk tisT) tilefarmref7_Acc.env Proofs.Try.func59 (by kernel_rfl) (by kernel_rfl) (L := fun k => []) (fun k => lokNil) (fun k x => tilefarmref7_Acc.eq k x.1)

theorem tilefarmref7_Shift.env : EnvOk Proofs.Try.prog tilefarmref7_Shift.C := show EnvL Proofs.Try.prog [tilefarmref7_Acc.S, tilefarmref7_IsShift.S] from (envCons tilefarmref7_Acc.snd (envCons tilefarmref7_IsShift.snd envNil))
theorem tilefarmref7_Shift.snd : FSound Proofs.Try.prog tilefarmref7_Shift.S :=
  fun_sound (C := tilefarmref7_Shift.C) (S := tilefarmref7_Shift.S) (fn := Proofs.Try.f63) (c := bodyOf Proofs.Try.f63) mixed (tisOk tisT) tilefarmref7_Shift.env Proofs.Try.func63 (by kernel_rfl) (by kernel_rfl) (L := fun k => []) (fun k => lokNil) (fun k x => tilefarmref7_Shift.eq k x.1 x.2.1)

theorem tilefarmref7_Span.env : EnvOk Proofs.Try.prog tilefarmref7_Span.C := show EnvL Proofs.Try.prog [tilefarmref7_Shift.S] from (envCons tilefarmref7_Shift.snd envNil)
theorem tilefarmref7_Span.snd : FSound Proofs.Try.prog tilefarmref7_Span.S :=
  fun_sound (C := tilefarmref7_Span.C) (S := tilefarmref7_Span.S) (fn := Proofs.Try.f58) (c := bodyOf Proofs.Try.f58) mixed (tisOk tisT) tilefarmref7_Span.env Proofs.Try.func58 (by kernel_rfl) (by kernel_rfl) (L := fun k => []) (fun k => lokNil) (fun k x => tilefarmref7_Span.eq k x.1 x.2.1 x.2.2.1)

theorem tilefarmref14_next.env : EnvOk Proofs.Try.prog tilefarmref14_next.C := show EnvL Proofs.Try.prog [tilefarmref14_abs.S, tilefarmref7_Acc.S, tilefarmref14_product.S, tilefarmref7_Span.S] from (envCons tilefarmref14_abs.snd (envCons tilefarmref7_Acc.snd (envCons tilefarmref14_product.snd (envCons tilefarmref7_Span.snd envNil))))
theorem tilefarmref14_next.snd : FSound Proofs.Try.prog tilefarmref14_next.S :=
  fun_sound (C := tilefarmref14_next.C) (S := tilefarmref14_next.S) (fn := Proofs.Try.f36) (c := bodyOf Proofs.Try.f36) mixed (tisOk tisT) tilefarmref14_next.env Proofs.Try.func36 (by kernel_rfl) (by kernel_rfl) (L := fun k => []) (fun k => lokNil) (fun k x => tilefarmref14_next.eq k x.1 x.2.1 x.2.2.1 x.2.2.2.1 x.2.2.2.2.1)

theorem tilefarmref14_Interval.env : EnvOk Proofs.Try.prog tilefarmref14_Interval.C := show EnvL Proofs.Try.prog [tilefarmref14_Valid.S, tilefarmref9_Value.S, tilefarmref14_takes.S, tilefarmref14_next.S] from (envCons tilefarmref14_Valid.snd (envCons tilefarmref9_Value.snd (envCons tilefarmref14_takes.snd (envCons tilefarmref14_next.snd envNil))))
theorem tilefarmref14_Interval.l0 {R : Type} (k : Nat) : LCs Proofs.Try.prog tilefarmref14_Interval.C (loopOf Proofs.Try.f13 0) (tilefarmref14_Interval.L0 (R := R) k) :=
  loop_sound mixed (tisOk tisT) tilefarmref14_Interval.env (k := k) (L := []) (n := 1) (inn := (tilefarmref14_Interval.L0 (R := R) k).inn) (outs := (tilefarmref14_Interval.L0 (R := R) k).outs) lokNil (fun j x e => tilefarmref14_Interval.loop0 k j x.1.1 x.1.2.1 x.1.2.2.1 x.1.2.2.2.1 x.2.1 (fun u0 u1 u2 => e (.inl ((u0, u1, u2, ()), ()))) (fun u0 => e (.inr (((), (u0, ())))))) (fun _ _ => rfl) (fun j x e => (tilefarmref14_Interval.r0 k j x.1.1 x.1.2.1 x.1.2.2.1 x.1.2.2.2.1 x.2.1 e).symm) 0 k
theorem tilefarmref14_Interval.snd : FSound Proofs.Try.prog tilefarmref14_Interval.S :=
  fun_sound (C := tilefarmref14_Interval.C) (S := tilefarmref14_Interval.S) (fn := Proofs.Try.f13) (c := bodyOf Proofs.Try.f13) mixed (tisOk tisT) tilefarmref14_Interval.env Proofs.Try.func13 (by kernel_rfl) (by kernel_rfl) (L := fun k => [tilefarmref14_Interval.L0 k]) (fun k => (lokCons (lc := tilefarmref14_Interval.L0 k) (c0 := loopOf Proofs.Try.f13 0) (by kernel_rfl) (tilefarmref14_Interval.l0 k) lokNil)) (fun k x => tilefarmref14_Interval.eq k x.1 x.2.1 x.2.2.1)

theorem pointwise_divided.env : EnvOk Proofs.Try.prog pointwise_divided.C := show EnvL Proofs.Try.prog [] from envNil
theorem pointwise_divided.snd : FSound Proofs.Try.prog pointwise_divided.S :=
  fun_sound (C := pointwise_divided.C) (S := pointwise_divided.S) (fn := Proofs.Try.f72) (c := bodyOf Proofs.Try.f72) mixed (tisOk tisT) pointwise_divided.env Proofs.Try.func72 (by kernel_rfl) (by kernel_rfl) (L := fun k => []) (fun k => lokNil) (fun k x => pointwise_divided.eq k x.1 x.2.1)

theorem pointwise_result.env : EnvOk Proofs.Try.prog pointwise_result.C := show EnvL Proofs.Try.prog [pointwise_times.S, pointwise_abs.S, pointwise_divided.S] from (envCons pointwise_times.snd (envCons pointwise_abs.snd (envCons pointwise_divided.snd envNil)))
theorem pointwise_result.snd : FSound Proofs.Try.prog pointwise_result.S :=
  fun_sound (C := pointwise_result.C) (S := pointwise_result.S) (fn := Proofs.Try.f60) (c := bodyOf Proofs.Try.f60) mixed (tisOk tisT) pointwise_result.env Proofs.Try.func60 (by kernel_rfl) (by kernel_rfl) (L := fun k => []) (fun k => lokNil) (fun k x => pointwise_result.eq k x.1 x.2.1 x.2.2.1)

theorem pointwise_run.env : EnvOk Proofs.Try.prog pointwise_run.C := show EnvL Proofs.Try.prog [pointwise_takes.S, pointwise_sum.S, fixed_Shift.S, pointwise_abs.S, pointwise_result.S] from (envCons pointwise_takes.snd (envCons pointwise_sum.snd (envCons fixed_Shift.snd (envCons pointwise_abs.snd (envCons pointwise_result.snd envNil)))))
theorem pointwise_run.l0 {R : Type} (k : Nat) : LCs Proofs.Try.prog pointwise_run.C (loopOf Proofs.Try.f37 0) (pointwise_run.L0 (R := R) k) :=
  loop_sound mixed (tisOk tisT) pointwise_run.env (k := k) (L := []) (n := 1) (inn := (pointwise_run.L0 (R := R) k).inn) (outs := (pointwise_run.L0 (R := R) k).outs) lokNil (fun j x e => pointwise_run.loop0 k j x.1.1 x.1.2.1 x.1.2.2.1 x.1.2.2.2.1 x.1.2.2.2.2.1 x.2.1 (fun u0 u1 => e (.inl ((u0, u1, ()), ()))) (fun u0 => e (.inr (((), (u0, ())))))) (fun _ _ => rfl) (fun j x e => (pointwise_run.r0 k j x.1.1 x.1.2.1 x.1.2.2.1 x.1.2.2.2.1 x.1.2.2.2.2.1 x.2.1 e).symm) 0 k
theorem pointwise_run.snd : FSound Proofs.Try.prog pointwise_run.S :=
  fun_sound (C := pointwise_run.C) (S := pointwise_run.S) (fn := Proofs.Try.f37) (c := bodyOf Proofs.Try.f37) mixed (tisOk tisT) pointwise_run.env Proofs.Try.func37 (by kernel_rfl) (by kernel_rfl) (L := fun k => [pointwise_run.L0 k]) (fun k => (lokCons (lc := pointwise_run.L0 k) (c0 := loopOf Proofs.Try.f37 0) (by kernel_rfl) (pointwise_run.l0 k) lokNil)) (fun k x => pointwise_run.eq k x.1 x.2.1 x.2.2.1)

theorem pointwise_Eval.env : EnvOk Proofs.Try.prog pointwise_Eval.C := show EnvL Proofs.Try.prog [pointwise_Valid.S, pointwise_between.S, pointwise_run.S] from (envCons pointwise_Valid.snd (envCons pointwise_between.snd (envCons pointwise_run.snd envNil)))
theorem pointwise_Eval.snd : FSound Proofs.Try.prog pointwise_Eval.S :=
  fun_sound (C := pointwise_Eval.C) (S := pointwise_Eval.S) (fn := Proofs.Try.f14) (c := bodyOf Proofs.Try.f14) mixed (tisOk tisT) pointwise_Eval.env Proofs.Try.func14 (by kernel_rfl) (by kernel_rfl) (L := fun k => []) (fun k => lokNil) (fun k x => pointwise_Eval.eq k x.1 x.2.1 x.2.2.1)

theorem tilefarmref14_floor.env : EnvOk Proofs.Try.prog tilefarmref14_floor.C := show EnvL Proofs.Try.prog [] from envNil
theorem tilefarmref14_floor.snd : FSound Proofs.Try.prog tilefarmref14_floor.S :=
  fun_sound (C := tilefarmref14_floor.C) (S := tilefarmref14_floor.S) (fn := Proofs.Try.f62) (c := bodyOf Proofs.Try.f62) mixed (tisOk tisT) tilefarmref14_floor.env Proofs.Try.func62 (by kernel_rfl) (by kernel_rfl) (L := fun k => []) (fun k => lokNil) (fun k x => tilefarmref14_floor.eq k x.1 x.2.1)

theorem tilefarmref14_apply.env : EnvOk Proofs.Try.prog tilefarmref14_apply.C := show EnvL Proofs.Try.prog [tilefarmref7_Acc.S, tilefarmref14_times.S, tilefarmref14_abs.S, tilefarmref14_floor.S, tilefarmref7_Shift.S] from (envCons tilefarmref7_Acc.snd (envCons tilefarmref14_times.snd (envCons tilefarmref14_abs.snd (envCons tilefarmref14_floor.snd (envCons tilefarmref7_Shift.snd envNil)))))
theorem tilefarmref14_apply.snd : FSound Proofs.Try.prog tilefarmref14_apply.S :=
  fun_sound (C := tilefarmref14_apply.C) (S := tilefarmref14_apply.S) (fn := Proofs.Try.f38) (c := bodyOf Proofs.Try.f38) mixed (tisOk tisT) tilefarmref14_apply.env Proofs.Try.func38 (by kernel_rfl) (by kernel_rfl) (L := fun k => []) (fun k => lokNil) (fun k x => tilefarmref14_apply.eq k x.1 x.2.1 x.2.2.1 x.2.2.2.1 x.2.2.2.2.1)

theorem tilefarmref14_Eval.env : EnvOk Proofs.Try.prog tilefarmref14_Eval.C := show EnvL Proofs.Try.prog [tilefarmref14_Valid.S, tilefarmref14_takes.S, tilefarmref14_apply.S] from (envCons tilefarmref14_Valid.snd (envCons tilefarmref14_takes.snd (envCons tilefarmref14_apply.snd envNil)))
theorem tilefarmref14_Eval.l0 {R : Type} (k : Nat) : LCs Proofs.Try.prog tilefarmref14_Eval.C (loopOf Proofs.Try.f15 0) (tilefarmref14_Eval.L0 (R := R) k) :=
  loop_sound mixed (tisOk tisT) tilefarmref14_Eval.env (k := k) (L := []) (n := 1) (inn := (tilefarmref14_Eval.L0 (R := R) k).inn) (outs := (tilefarmref14_Eval.L0 (R := R) k).outs) lokNil (fun j x e => tilefarmref14_Eval.loop0 k j x.1.1 x.1.2.1 x.1.2.2.1 x.1.2.2.2.1 x.2.1 (fun u0 u1 => e (.inl ((u0, u1, ()), ()))) (fun u0 => e (.inr (((), (u0, ())))))) (fun _ _ => rfl) (fun j x e => (tilefarmref14_Eval.r0 k j x.1.1 x.1.2.1 x.1.2.2.1 x.1.2.2.2.1 x.2.1 e).symm) 0 k
theorem tilefarmref14_Eval.snd : FSound Proofs.Try.prog tilefarmref14_Eval.S :=
  fun_sound (C := tilefarmref14_Eval.C) (S := tilefarmref14_Eval.S) (fn := Proofs.Try.f15) (c := bodyOf Proofs.Try.f15) mixed (tisOk tisT) tilefarmref14_Eval.env Proofs.Try.func15 (by kernel_rfl) (by kernel_rfl) (L := fun k => [tilefarmref14_Eval.L0 k]) (fun k => (lokCons (lc := tilefarmref14_Eval.L0 k) (c0 := loopOf Proofs.Try.f15 0) (by kernel_rfl) (tilefarmref14_Eval.l0 k) lokNil)) (fun k x => tilefarmref14_Eval.eq k x.1 x.2.1 x.2.2.1)

theorem tilefarmlaw14_less.env : EnvOk Proofs.Try.prog tilefarmlaw14_less.C := show EnvL Proofs.Try.prog [] from envNil
theorem tilefarmlaw14_less.snd : FSound Proofs.Try.prog tilefarmlaw14_less.S :=
  fun_sound (C := tilefarmlaw14_less.C) (S := tilefarmlaw14_less.S) (fn := Proofs.Try.f41) (c := bodyOf Proofs.Try.f41) mixed (tisOk tisT) tilefarmlaw14_less.env Proofs.Try.func41 (by kernel_rfl) (by kernel_rfl) (L := fun k => []) (fun k => lokNil) (fun k x => tilefarmlaw14_less.eq k)

theorem tilefarmlaw14_sane.env : EnvOk Proofs.Try.prog tilefarmlaw14_sane.C := show EnvL Proofs.Try.prog [tilefarmlaw14_less.S, pointwise_Eval.S, pointwise_Interval.S, pointwise_Valid.S] from (envCons tilefarmlaw14_less.snd (envCons pointwise_Eval.snd (envCons pointwise_Interval.snd (envCons pointwise_Valid.snd envNil))))
theorem tilefarmlaw14_sane.snd : FSound Proofs.Try.prog tilefarmlaw14_sane.S :=
  fun_sound (C := tilefarmlaw14_sane.C) (S := tilefarmlaw14_sane.S) (fn := Proofs.Try.f18) (c := bodyOf Proofs.Try.f18) mixed (tisOk tisT) tilefarmlaw14_sane.env Proofs.Try.func18 (by kernel_rfl) (by kernel_rfl) (L := fun k => []) (fun k => lokNil) (fun k x => tilefarmlaw14_sane.eq k)

theorem tilefarmlaw14_PointwisePrograms.env : EnvOk Proofs.Try.prog tilefarmlaw14_PointwisePrograms.C := show EnvL Proofs.Try.prog [tilefarmgen_New.S, tilefarmlaw14_program.S, tilefarmgen_Tape_Pick.S, tilefarmgen_Tape_Next.S, pointwise_Interval.S, tilefarmref14_Interval.S, pointwise_Eval.S, tilefarmref14_Eval.S, pointwise_Valid.S, tilefarmref14_Valid.S, tilefarmlaw14_sane.S] from (envCons tilefarmgen_New.snd (envCons tilefarmlaw14_program.snd (envCons tilefarmgen_Tape_Pick.snd (envCons tilefarmgen_Tape_Next.snd (envCons pointwise_Interval.snd (envCons tilefarmref14_Interval.snd (envCons pointwise_Eval.snd (envCons tilefarmref14_Eval.snd (envCons pointwise_Valid.snd (envCons tilefarmref14_Valid.snd (envCons tilefarmlaw14_sane.snd envNil)))))))))))
theorem tilefarmlaw14_PointwisePrograms.l0 {R : Type} (k : Nat) : LCs Proofs.Try.prog tilefarmlaw14_PointwisePrograms.C (loopOf Proofs.Try.f3 0) (tilefarmlaw14_PointwisePrograms.L0 (R := R) k) :=
  loop_sound mixed (tisOk tisT) tilefarmlaw14_PointwisePrograms.env (k := k) (L := []) (n := 1) (inn := (tilefarmlaw14_PointwisePrograms.L0 (R := R) k).inn) (outs := (tilefarmlaw14_PointwisePrograms.L0 (R := R) k).outs) lokNil (fun j x e => tilefarmlaw14_PointwisePrograms.loop0 k j x.1.1 x.1.2.1 x.1.2.2.1 x.1.2.2.2.1 x.1.2.2.2.2.1 x.2.1.1 x.2.1.2.1 (fun u0 => e (.inl ((u0, ()), ()))) (fun _ => e (.inr (((), ()))))) (fun _ _ => rfl) (fun j x e => (tilefarmlaw14_PointwisePrograms.r0 k j x.1.1 x.1.2.1 x.1.2.2.1 x.1.2.2.2.1 x.1.2.2.2.2.1 x.2.1.1 x.2.1.2.1 e).symm) 0 k
theorem tilefarmlaw14_PointwisePrograms.snd : FSound Proofs.Try.prog tilefarmlaw14_PointwisePrograms.S :=
  fun_sound (C := tilefarmlaw14_PointwisePrograms.C) (S := tilefarmlaw14_PointwisePrograms.S) (fn := Proofs.Try.f3) (c := bodyOf Proofs.Try.f3) mixed (tisOk tisT) tilefarmlaw14_PointwisePrograms.env Proofs.Try.func3 (by kernel_rfl) (by kernel_rfl) (L := fun k => [tilefarmlaw14_PointwisePrograms.L0 k]) (fun k => (lokCons (lc := tilefarmlaw14_PointwisePrograms.L0 k) (c0 := loopOf Proofs.Try.f3 0) (by kernel_rfl) (tilefarmlaw14_PointwisePrograms.l0 k) lokNil)) (fun k x => tilefarmlaw14_PointwisePrograms.eq k x.1 x.2.1 x.2.2.1 x.2.2.2.1 x.2.2.2.2.1)

theorem tilefarmgen_Tape_Sized.env : EnvOk Proofs.Try.prog tilefarmgen_Tape_Sized.C := show EnvL Proofs.Try.prog [tilefarmgen_Tape_Pick.S, tilefarmgen_Tape_Next.S] from (envCons tilefarmgen_Tape_Pick.snd (envCons tilefarmgen_Tape_Next.snd envNil))
theorem tilefarmgen_Tape_Sized.l0 {R : Type} (k : Nat) : LCs Proofs.Try.prog tilefarmgen_Tape_Sized.C (loopOf Proofs.Try.f22 0) (tilefarmgen_Tape_Sized.L0 (R := R) k) :=
  loop_sound mixed (tisOk tisT) tilefarmgen_Tape_Sized.env (k := k) (L := []) (n := 1) (inn := (tilefarmgen_Tape_Sized.L0 (R := R) k).inn) (outs := (tilefarmgen_Tape_Sized.L0 (R := R) k).outs) lokNil (fun j x e => tilefarmgen_Tape_Sized.loop0 k j x.1.1 x.2.1.1 x.2.1.2.1 x.2.2.1.1 x.2.2.1.2.1 x.2.2.1.2.2.1 x.2.2.1.2.2.2.1 (fun u0 u1 u2 u3 u4 u5 => e ((), ((u0, u1, ()), (u2, u3, u4, u5, ()), ())))) (fun _ _ => rfl) (fun j x e => (tilefarmgen_Tape_Sized.r0 k j x.1.1 x.2.1.1 x.2.1.2.1 x.2.2.1.1 x.2.2.1.2.1 x.2.2.1.2.2.1 x.2.2.1.2.2.2.1 e).symm) 0 k
theorem tilefarmgen_Tape_Sized.snd : FSound Proofs.Try.prog tilefarmgen_Tape_Sized.S :=
  fun_sound (C := tilefarmgen_Tape_Sized.C) (S := tilefarmgen_Tape_Sized.S) (fn := Proofs.Try.f22) (c := bodyOf Proofs.Try.f22) mixed (tisOk tisT) tilefarmgen_Tape_Sized.env Proofs.Try.func22 (by kernel_rfl) (by kernel_rfl) (L := fun k => [tilefarmgen_Tape_Sized.L0 k]) (fun k => (lokCons (lc := tilefarmgen_Tape_Sized.L0 k) (c0 := loopOf Proofs.Try.f22 0) (by kernel_rfl) (tilefarmgen_Tape_Sized.l0 k) lokNil)) (fun k x => tilefarmgen_Tape_Sized.eq k x.1 x.2.1 x.2.2.1)

theorem tilefarmgen_Tape_Plane.env : EnvOk Proofs.Try.prog tilefarmgen_Tape_Plane.C := show EnvL Proofs.Try.prog [tilefarmgen_Tape_Next.S, tilefarmgen_Tape_Sized.S] from (envCons tilefarmgen_Tape_Next.snd (envCons tilefarmgen_Tape_Sized.snd envNil))
theorem tilefarmgen_Tape_Plane.snd : FSound Proofs.Try.prog tilefarmgen_Tape_Plane.S :=
  fun_sound (C := tilefarmgen_Tape_Plane.C) (S := tilefarmgen_Tape_Plane.S) (fn := Proofs.Try.f21) (c := bodyOf Proofs.Try.f21) mixed (tisOk tisT) tilefarmgen_Tape_Plane.env Proofs.Try.func21 (by kernel_rfl) (by kernel_rfl) (L := fun k => []) (fun k => lokNil) (fun k x => tilefarmgen_Tape_Plane.eq k x.1)

theorem tilefarmgen_Tape_Within.env : EnvOk Proofs.Try.prog tilefarmgen_Tape_Within.C := show EnvL Proofs.Try.prog [tilefarmgen_Tape_Next.S] from (envCons tilefarmgen_Tape_Next.snd envNil)
theorem tilefarmgen_Tape_Within.snd : FSound Proofs.Try.prog tilefarmgen_Tape_Within.S :=
  fun_sound (C := tilefarmgen_Tape_Within.C) (S := tilefarmgen_Tape_Within.S) (fn := Proofs.Try.f23) (c := bodyOf Proofs.Try.f23) mixed (tisOk tisT) tilefarmgen_Tape_Within.env Proofs.Try.func23 (by kernel_rfl) (by kernel_rfl) (L := fun k => []) (fun k => lokNil) (fun k x => tilefarmgen_Tape_Within.eq k x.1 x.2.1 x.2.2.1)

theorem tilefarmgen_Tape_SpoilPlane.env : EnvOk Proofs.Try.prog tilefarmgen_Tape_SpoilPlane.C := show EnvL Proofs.Try.prog [tilefarmgen_Tape_Next.S, tilefarmgen_Tape_Pick.S] from (envCons tilefarmgen_Tape_Next.snd (envCons tilefarmgen_Tape_Pick.snd envNil))
theorem tilefarmgen_Tape_SpoilPlane.snd : FSound Proofs.Try.prog tilefarmgen_Tape_SpoilPlane.S :=
  fun_sound (C := tilefarmgen_Tape_SpoilPlane.C) (S := tilefarmgen_Tape_SpoilPlane.S) (fn := Proofs.Try.f24) (c := bodyOf Proofs.Try.f24) mixed (tisOk tisT) tilefarmgen_Tape_SpoilPlane.env Proofs.Try.func24 (by kernel_rfl) (by kernel_rfl) (L := fun k => []) (fun k => lokNil) (fun k x => tilefarmgen_Tape_SpoilPlane.eq k x.1 x.2.1)

theorem extent_Mul.env : EnvOk Proofs.Try.prog extent_Mul.C := show EnvL Proofs.Try.prog [] from envNil
theorem extent_Mul.snd : FSound Proofs.Try.prog extent_Mul.S :=
  fun_sound (C := extent_Mul.C) (S := extent_Mul.S) (fn := Proofs.Try.f73) (c := bodyOf Proofs.Try.f73) mixed (tisOk tisT) extent_Mul.env Proofs.Try.func73 (by kernel_rfl) (by kernel_rfl) (L := fun k => []) (fun k => lokNil) (fun k x => extent_Mul.eq k x.1 x.2.1 x.2.2.1)

theorem plane_size.env : EnvOk Proofs.Try.prog plane_size.C := show EnvL Proofs.Try.prog [extent_Mul.S] from (envCons extent_Mul.snd envNil)
theorem plane_size.snd : FSound Proofs.Try.prog plane_size.S :=
  fun_sound (C := plane_size.C) (S := plane_size.S) (fn := Proofs.Try.f65) (c := bodyOf Proofs.Try.f65) mixed (tisOk tisT) plane_size.env Proofs.Try.func65 (by kernel_rfl) (by kernel_rfl) (L := fun k => []) (fun k => lokNil) (fun k x => plane_size.eq k x.1 x.2.1 x.2.2.1)

theorem plane_Valid.env : EnvOk Proofs.Try.prog plane_Valid.C := show EnvL Proofs.Try.prog [plane_size.S] from (envCons plane_size.snd envNil)
theorem plane_Valid.l0 {R : Type} (k : Nat) : LCs Proofs.Try.prog plane_Valid.C (loopOf Proofs.Try.f42 0) (plane_Valid.L0 (R := R) k) :=
  loop_sound mixed (tisOk tisT) plane_Valid.env (k := k) (L := []) (n := 1) (inn := (plane_Valid.L0 (R := R) k).inn) (outs := (plane_Valid.L0 (R := R) k).outs) lokNil (fun j x e => plane_Valid.loop0 k j x.1.1 x.1.2.1 x.1.2.2.1 x.2.1.1 x.2.1.2.1 x.2.1.2.2.1 x.2.1.2.2.2.1 (fun u0 => e (.inl ((u0, ()), ()))) (fun _ => e (.inr (((), ()))))) (fun _ _ => rfl) (fun j x e => (plane_Valid.r0 k j x.1.1 x.1.2.1 x.1.2.2.1 x.2.1.1 x.2.1.2.1 x.2.1.2.2.1 x.2.1.2.2.2.1 e).symm) 0 k
theorem plane_Valid.snd : FSound Proofs.Try.prog plane_Valid.S :=
  fun_sound (C := plane_Valid.C) (S := plane_Valid.S) (fn := Proofs.Try.f42) (c := bodyOf Proofs.Try.f42) mixed (tisOk tisT) plane_Valid.env Proofs.Try.func42 (by kernel_rfl) (by kernel_rfl) (L := fun k => [plane_Valid.L0 k]) (fun k => (lokCons (lc := plane_Valid.L0 k) (c0 := loopOf Proofs.Try.f42 0) (by kernel_rfl) (plane_Valid.l0 k) lokNil)) (fun k x => plane_Valid.eq k x.1)

theorem rect_Empty.env : EnvOk Proofs.Try.prog rect_Empty.C := show EnvL Proofs.Try.prog [] from envNil
theorem rect_Empty.snd : FSound Proofs.Try.prog rect_Empty.S :=
  fun_sound (C := rect_Empty.C) (S := rect_Empty.S) (fn := Proofs.Try.f43) (c := bodyOf Proofs.Try.f43) mixed (tisOk tisT) rect_Empty.env Proofs.Try.func43 (by kernel_rfl) (by kernel_rfl) (L := fun k => []) (fun k => lokNil) (fun k x => rect_Empty.eq k x.1)

theorem rect_coord.env : EnvOk Proofs.Try.prog rect_coord.C := show EnvL Proofs.Try.prog [] from envNil
theorem rect_coord.snd : FSound Proofs.Try.prog rect_coord.S :=
  fun_sound (C := rect_coord.C) (S := rect_coord.S) (fn := Proofs.Try.f74) (c := bodyOf Proofs.Try.f74) mixed (tisOk tisT) rect_coord.env Proofs.Try.func74 (by kernel_rfl) (by kernel_rfl) (L := fun k => []) (fun k => lokNil) (fun k x => rect_coord.eq k x.1)

theorem rect_Valid.env : EnvOk Proofs.Try.prog rect_Valid.C := show EnvL Proofs.Try.prog [rect_Empty.S, rect_coord.S] from (envCons rect_Empty.snd (envCons rect_coord.snd envNil))
theorem rect_Valid.snd : FSound Proofs.Try.prog rect_Valid.S :=
  fun_sound (C := rect_Valid.C) (S := rect_Valid.S) (fn := Proofs.Try.f66) (c := bodyOf Proofs.Try.f66) mixed (tisOk tisT) rect_Valid.env Proofs.Try.func66 (by kernel_rfl) (by kernel_rfl) (L := fun k => []) (fun k => lokNil) (fun k x => rect_Valid.eq k x.1)

theorem rect_Intersect.env : EnvOk Proofs.Try.prog rect_Intersect.C := show EnvL Proofs.Try.prog [rect_Valid.S] from (envCons rect_Valid.snd envNil)
theorem rect_Intersect.snd : FSound Proofs.Try.prog rect_Intersect.S :=
  fun_sound (C := rect_Intersect.C) (S := rect_Intersect.S) (fn := Proofs.Try.f67) (c := bodyOf Proofs.Try.f67) mixed (tisOk tisT) rect_Intersect.env Proofs.Try.func67 (by kernel_rfl) (by kernel_rfl) (L := fun k => []) (fun k => lokNil) (fun k x => rect_Intersect.eq k x.1 x.2.1)

theorem rect_Inside.env : EnvOk Proofs.Try.prog rect_Inside.C := show EnvL Proofs.Try.prog [rect_Valid.S, rect_Intersect.S] from (envCons rect_Valid.snd (envCons rect_Intersect.snd envNil))
theorem rect_Inside.snd : FSound Proofs.Try.prog rect_Inside.S :=
  fun_sound (C := rect_Inside.C) (S := rect_Inside.S) (fn := Proofs.Try.f44) (c := bodyOf Proofs.Try.f44) mixed (tisOk tisT) rect_Inside.env Proofs.Try.func44 (by kernel_rfl) (by kernel_rfl) (L := fun k => []) (fun k => lokNil) (fun k x => rect_Inside.eq k x.1 x.2.1)

theorem fixed_Clamp.env : EnvOk Proofs.Try.prog fixed_Clamp.C := show EnvL Proofs.Try.prog [] from envNil
theorem fixed_Clamp.snd : FSound Proofs.Try.prog fixed_Clamp.S :=
  fun_sound (C := fixed_Clamp.C) (S := fixed_Clamp.S) (fn := Proofs.Try.f45) (c := bodyOf Proofs.Try.f45) mixed (tisOk tisT) fixed_Clamp.env Proofs.Try.func45 (by kernel_rfl) (by kernel_rfl) (L := fun k => []) (fun k => lokNil) (fun k x => fixed_Clamp.eq k x.1 x.2.1)

theorem pointwise_Tile.env : EnvOk Proofs.Try.prog pointwise_Tile.C := show EnvL Proofs.Try.prog [plane_Valid.S, pointwise_Valid.S, pointwise_between.S, pointwise_Interval.S, rect_Empty.S, rect_Inside.S, pointwise_run.S, fixed_Clamp.S] from (envCons plane_Valid.snd (envCons pointwise_Valid.snd (envCons pointwise_between.snd (envCons pointwise_Interval.snd (envCons rect_Empty.snd (envCons rect_Inside.snd (envCons pointwise_run.snd (envCons fixed_Clamp.snd envNil))))))))
theorem pointwise_Tile.l1 {R : Type} (k : Nat) : LCs Proofs.Try.prog pointwise_Tile.C (loopOf Proofs.Try.f25 1) (pointwise_Tile.L1 (R := R) k) :=
  loop_sound mixed (tisOk tisT) pointwise_Tile.env (k := k) (L := []) (n := 2) (inn := (pointwise_Tile.L1 (R := R) k).inn) (outs := (pointwise_Tile.L1 (R := R) k).outs) lokNil (fun j x e => pointwise_Tile.loop1 k j x.1.1 x.1.2.1 x.1.2.2.1 x.1.2.2.2.1 x.1.2.2.2.2.1 x.2.1.1 x.2.1.2.1 x.2.1.2.2.1 x.2.1.2.2.2.1 x.2.2.1.1 x.2.2.1.2.1 x.2.2.1.2.2.1 x.2.2.1.2.2.2.1 x.2.2.2.1.1 x.2.2.2.1.2.1 x.2.2.2.1.2.2.1 x.2.2.2.1.2.2.2.1 x.2.2.2.2.1.1 x.2.2.2.2.1.2.1 x.2.2.2.2.1.2.2.1 x.2.2.2.2.1.2.2.2.1 x.2.2.2.2.2.1.1 x.2.2.2.2.2.1.2.1 x.2.2.2.2.2.1.2.2.1 x.2.2.2.2.2.1.2.2.2.1 (fun u0 u1 u2 u3 u4 => e (.inl ((u0, ()), ((u1, u2, u3, u4, ()), ())))) (fun u0 u1 u2 u3 u4 u5 u6 u7 u8 u9 u10 u11 u12 u13 u14 u15 u16 u17 u18 u19 => e (.inr (((), ((u0, u1, u2, u3, ()), (u4, u5, u6, u7, ()), (u8, u9, u10, u11, ()), (u12, u13, u14, u15, ()), (u16, u17, u18, u19, ()), ())))))) (fun _ _ => rfl) (fun j x e => (pointwise_Tile.r1 k j x.1.1 x.1.2.1 x.1.2.2.1 x.1.2.2.2.1 x.1.2.2.2.2.1 x.2.1.1 x.2.1.2.1 x.2.1.2.2.1 x.2.1.2.2.2.1 x.2.2.1.1 x.2.2.1.2.1 x.2.2.1.2.2.1 x.2.2.1.2.2.2.1 x.2.2.2.1.1 x.2.2.2.1.2.1 x.2.2.2.1.2.2.1 x.2.2.2.1.2.2.2.1 x.2.2.2.2.1.1 x.2.2.2.2.1.2.1 x.2.2.2.2.1.2.2.1 x.2.2.2.2.1.2.2.2.1 x.2.2.2.2.2.1.1 x.2.2.2.2.2.1.2.1 x.2.2.2.2.2.1.2.2.1 x.2.2.2.2.2.1.2.2.2.1 e).symm) 1 k
theorem pointwise_Tile.l0 {R : Type} (k : Nat) : LCs Proofs.Try.prog pointwise_Tile.C (loopOf Proofs.Try.f25 0) (pointwise_Tile.L0 (R := R) k) :=
  loop_sound mixed (tisOk tisT) pointwise_Tile.env (k := k) (L := [pointwise_Tile.L1 k]) (n := 1) (inn := (pointwise_Tile.L0 (R := R) k).inn) (outs := (pointwise_Tile.L0 (R := R) k).outs) (lokCons (lc := pointwise_Tile.L1 k) (c0 := loopOf Proofs.Try.f25 1) (by kernel_rfl) (pointwise_Tile.l1 k) lokNil) (fun j x e => pointwise_Tile.loop0 k j x.1.1 x.1.2.1 x.1.2.2.1 x.1.2.2.2.1 x.2.1.1 x.2.1.2.1 x.2.1.2.2.1 x.2.1.2.2.2.1 x.2.2.1.1 x.2.2.1.2.1 x.2.2.1.2.2.1 x.2.2.1.2.2.2.1 x.2.2.2.1.1 x.2.2.2.1.2.1 x.2.2.2.1.2.2.1 x.2.2.2.1.2.2.2.1 x.2.2.2.2.1.1 x.2.2.2.2.1.2.1 x.2.2.2.2.1.2.2.1 x.2.2.2.2.1.2.2.2.1 x.2.2.2.2.2.1.1 x.2.2.2.2.2.1.2.1 x.2.2.2.2.2.1.2.2.1 x.2.2.2.2.2.1.2.2.2.1 (fun u0 u1 u2 u3 u4 => e (.inl ((u0, ()), ((u1, u2, u3, u4, ()), ())))) (fun u0 u1 u2 u3 u4 u5 u6 u7 => e (.inr (((), ((u0, u1, u2, u3, ()), (u4, u5, u6, u7, ()), ())))))) (fun _ _ => rfl) (fun j x e => (pointwise_Tile.r0 k j x.1.1 x.1.2.1 x.1.2.2.1 x.1.2.2.2.1 x.2.1.1 x.2.1.2.1 x.2.1.2.2.1 x.2.1.2.2.2.1 x.2.2.1.1 x.2.2.1.2.1 x.2.2.1.2.2.1 x.2.2.1.2.2.2.1 x.2.2.2.1.1 x.2.2.2.1.2.1 x.2.2.2.1.2.2.1 x.2.2.2.1.2.2.2.1 x.2.2.2.2.1.1 x.2.2.2.2.1.2.1 x.2.2.2.2.1.2.2.1 x.2.2.2.2.1.2.2.2.1 x.2.2.2.2.2.1.1 x.2.2.2.2.2.1.2.1 x.2.2.2.2.2.1.2.2.1 x.2.2.2.2.2.1.2.2.2.1 e).symm) 0 k
theorem pointwise_Tile.snd : FSound Proofs.Try.prog pointwise_Tile.S :=
  fun_sound (C := pointwise_Tile.C) (S := pointwise_Tile.S) (fn := Proofs.Try.f25) (c := bodyOf Proofs.Try.f25) mixed (tisOk tisT) pointwise_Tile.env Proofs.Try.func25 (by kernel_rfl) (by kernel_rfl) (L := fun k => [pointwise_Tile.L0 k, pointwise_Tile.L1 k]) (fun k => (lokCons (lc := pointwise_Tile.L0 k) (c0 := loopOf Proofs.Try.f25 0) (by kernel_rfl) (pointwise_Tile.l0 k) (lokCons (lc := pointwise_Tile.L1 k) (c0 := loopOf Proofs.Try.f25 1) (by kernel_rfl) (pointwise_Tile.l1 k) lokNil))) (fun k x => pointwise_Tile.eq k x.1 x.2.1 x.2.2.1 x.2.2.2.1 x.2.2.2.2.1 x.2.2.2.2.2.1)

theorem tilefarmref4_Size.env : EnvOk Proofs.Try.prog tilefarmref4_Size.C := show EnvL Proofs.Try.prog [] from envNil
theorem tilefarmref4_Size.snd : FSound Proofs.Try.prog tilefarmref4_Size.S :=
  fun_sound (C := tilefarmref4_Size.C) (S := tilefarmref4_Size.S) (fn := Proofs.Try.f68) (c := bodyOf Proofs.Try.f68) mixed (tisOk tisT) tilefarmref4_Size.env Proofs.Try.func68 (by kernel_rfl) (by kernel_rfl) (L := fun k => []) (fun k => lokNil) (fun k x => tilefarmref4_Size.eq k x.1 x.2.1 x.2.2.1)

theorem tilefarmref4_Valid.env : EnvOk Proofs.Try.prog tilefarmref4_Valid.C := show EnvL Proofs.Try.prog [tilefarmref4_Size.S] from (envCons tilefarmref4_Size.snd envNil)
theorem tilefarmref4_Valid.l0 {R : Type} (k : Nat) : LCs Proofs.Try.prog tilefarmref4_Valid.C (loopOf Proofs.Try.f46 0) (tilefarmref4_Valid.L0 (R := R) k) :=
  loop_sound mixed (tisOk tisT) tilefarmref4_Valid.env (k := k) (L := []) (n := 1) (inn := (tilefarmref4_Valid.L0 (R := R) k).inn) (outs := (tilefarmref4_Valid.L0 (R := R) k).outs) lokNil (fun j x e => tilefarmref4_Valid.loop0 k j x.1.1 x.2.1.1 x.2.1.2.1 x.2.1.2.2.1 x.2.1.2.2.2.1 (fun u0 => e (.inl ((u0, ()), ()))) (fun _ => e (.inr (((), ()))))) (fun _ _ => rfl) (fun j x e => (tilefarmref4_Valid.r0 k j x.1.1 x.2.1.1 x.2.1.2.1 x.2.1.2.2.1 x.2.1.2.2.2.1 e).symm) 0 k
theorem tilefarmref4_Valid.snd : FSound Proofs.Try.prog tilefarmref4_Valid.S :=
  fun_sound (C := tilefarmref4_Valid.C) (S := tilefarmref4_Valid.S) (fn := Proofs.Try.f46) (c := bodyOf Proofs.Try.f46) mixed (tisOk tisT) tilefarmref4_Valid.env Proofs.Try.func46 (by kernel_rfl) (by kernel_rfl) (L := fun k => [tilefarmref4_Valid.L0 k]) (fun k => (lokCons (lc := tilefarmref4_Valid.L0 k) (c0 := loopOf Proofs.Try.f46 0) (by kernel_rfl) (tilefarmref4_Valid.l0 k) lokNil)) (fun k x => tilefarmref4_Valid.eq k x.1)

theorem tilefarmref14_Check.env : EnvOk Proofs.Try.prog tilefarmref14_Check.C := show EnvL Proofs.Try.prog [tilefarmref14_Valid.S, tilefarmref9_Value.S, tilefarmref14_Interval.S] from (envCons tilefarmref14_Valid.snd (envCons tilefarmref9_Value.snd (envCons tilefarmref14_Interval.snd envNil)))
theorem tilefarmref14_Check.snd : FSound Proofs.Try.prog tilefarmref14_Check.S :=
  fun_sound (C := tilefarmref14_Check.C) (S := tilefarmref14_Check.S) (fn := Proofs.Try.f47) (c := bodyOf Proofs.Try.f47) mixed (tisOk tisT) tilefarmref14_Check.env Proofs.Try.func47 (by kernel_rfl) (by kernel_rfl) (L := fun k => []) (fun k => lokNil) (fun k x => tilefarmref14_Check.eq k x.1 x.2.1 x.2.2.1 x.2.2.2.1 x.2.2.2.2.1)

theorem tilefarmref2_coord.env : EnvOk Proofs.Try.prog tilefarmref2_coord.C := show EnvL Proofs.Try.prog [] from envNil
theorem tilefarmref2_coord.snd : FSound Proofs.Try.prog tilefarmref2_coord.S :=
  fun_sound (C := tilefarmref2_coord.C) (S := tilefarmref2_coord.S) (fn := Proofs.Try.f75) (c := bodyOf Proofs.Try.f75) mixed (tisOk tisT) tilefarmref2_coord.env Proofs.Try.func75 (by kernel_rfl) (by kernel_rfl) (L := fun k => []) (fun k => lokNil) (fun k x => tilefarmref2_coord.eq k x.1)

theorem tilefarmref2_Valid.env : EnvOk Proofs.Try.prog tilefarmref2_Valid.C := show EnvL Proofs.Try.prog [tilefarmref2_coord.S] from (envCons tilefarmref2_coord.snd envNil)
theorem tilefarmref2_Valid.snd : FSound Proofs.Try.prog tilefarmref2_Valid.S :=
  fun_sound (C := tilefarmref2_Valid.C) (S := tilefarmref2_Valid.S) (fn := Proofs.Try.f69) (c := bodyOf Proofs.Try.f69) mixed (tisOk tisT) tilefarmref2_Valid.env Proofs.Try.func69 (by kernel_rfl) (by kernel_rfl) (L := fun k => []) (fun k => lokNil) (fun k x => tilefarmref2_Valid.eq k x.1)

theorem tilefarmref2_Empty.env : EnvOk Proofs.Try.prog tilefarmref2_Empty.C := show EnvL Proofs.Try.prog [] from envNil
theorem tilefarmref2_Empty.snd : FSound Proofs.Try.prog tilefarmref2_Empty.S :=
  fun_sound (C := tilefarmref2_Empty.C) (S := tilefarmref2_Empty.S) (fn := Proofs.Try.f70) (c := bodyOf Proofs.Try.f70) mixed (tisOk tisT) tilefarmref2_Empty.env Proofs.Try.func70 (by kernel_rfl) (by kernel_rfl) (L := fun k => []) (fun k => lokNil) (fun k x => tilefarmref2_Empty.eq k x.1)

theorem tilefarmref2_Full.env : EnvOk Proofs.Try.prog tilefarmref2_Full.C := show EnvL Proofs.Try.prog [tilefarmref2_Valid.S, tilefarmref2_Empty.S] from (envCons tilefarmref2_Valid.snd (envCons tilefarmref2_Empty.snd envNil))
theorem tilefarmref2_Full.snd : FSound Proofs.Try.prog tilefarmref2_Full.S :=
  fun_sound (C := tilefarmref2_Full.C) (S := tilefarmref2_Full.S) (fn := Proofs.Try.f48) (c := bodyOf Proofs.Try.f48) mixed (tisOk tisT) tilefarmref2_Full.env Proofs.Try.func48 (by kernel_rfl) (by kernel_rfl) (L := fun k => []) (fun k => lokNil) (fun k x => tilefarmref2_Full.eq k x.1)

theorem tilefarmref4_Cover.env : EnvOk Proofs.Try.prog tilefarmref4_Cover.C := show EnvL Proofs.Try.prog [] from envNil
theorem tilefarmref4_Cover.snd : FSound Proofs.Try.prog tilefarmref4_Cover.S :=
  fun_sound (C := tilefarmref4_Cover.C) (S := tilefarmref4_Cover.S) (fn := Proofs.Try.f50) (c := bodyOf Proofs.Try.f50) mixed (tisOk tisT) tilefarmref4_Cover.env Proofs.Try.func50 (by kernel_rfl) (by kernel_rfl) (L := fun k => []) (fun k => lokNil) (fun k x => tilefarmref4_Cover.eq k x.1)

theorem tilefarmref2_Inside.env : EnvOk Proofs.Try.prog tilefarmref2_Inside.C := show EnvL Proofs.Try.prog [tilefarmref2_Valid.S, tilefarmref2_Empty.S] from (envCons tilefarmref2_Valid.snd (envCons tilefarmref2_Empty.snd envNil))
theorem tilefarmref2_Inside.snd : FSound Proofs.Try.prog tilefarmref2_Inside.S :=
  fun_sound (C := tilefarmref2_Inside.C) (S := tilefarmref2_Inside.S) (fn := Proofs.Try.f49) (c := bodyOf Proofs.Try.f49) mixed (tisOk tisT) tilefarmref2_Inside.env Proofs.Try.func49 (by kernel_rfl) (by kernel_rfl) (L := fun k => []) (fun k => lokNil) (fun k x => tilefarmref2_Inside.eq k x.1 x.2.1)

theorem tilefarmref4_New.env : EnvOk Proofs.Try.prog tilefarmref4_New.C := show EnvL Proofs.Try.prog [tilefarmref4_Size.S] from (envCons tilefarmref4_Size.snd envNil)
theorem tilefarmref4_New.snd : FSound Proofs.Try.prog tilefarmref4_New.S :=
  fun_sound (C := tilefarmref4_New.C) (S := tilefarmref4_New.S) (fn := Proofs.Try.f51) (c := bodyOf Proofs.Try.f51) mixed (tisOk tisT) tilefarmref4_New.env Proofs.Try.func51 (by kernel_rfl) (by kernel_rfl) (L := fun k => []) (fun k => lokNil) (fun k x => tilefarmref4_New.eq k x.1 x.2.1 x.2.2.1)

theorem tilefarmref7_Clamp.env : EnvOk Proofs.Try.prog tilefarmref7_Clamp.C := show EnvL Proofs.Try.prog [] from envNil
theorem tilefarmref7_Clamp.snd : FSound Proofs.Try.prog tilefarmref7_Clamp.S :=
  fun_sound (C := tilefarmref7_Clamp.C) (S := tilefarmref7_Clamp.S) (fn := Proofs.Try.f52) (c := bodyOf Proofs.Try.f52) mixed (tisOk tisT) tilefarmref7_Clamp.env Proofs.Try.func52 (by kernel_rfl) (by kernel_rfl) (L := fun k => []) (fun k => lokNil) (fun k x => tilefarmref7_Clamp.eq k x.1 x.2.1)

theorem tilefarmref14_Tile.env : EnvOk Proofs.Try.prog tilefarmref14_Tile.C := show EnvL Proofs.Try.prog [tilefarmref4_Valid.S, tilefarmref14_Check.S, tilefarmref2_Full.S, tilefarmref4_Cover.S, tilefarmref2_Inside.S, tilefarmref4_New.S, tilefarmref14_Eval.S, tilefarmref7_Clamp.S] from (envCons tilefarmref4_Valid.snd (envCons tilefarmref14_Check.snd (envCons tilefarmref2_Full.snd (envCons tilefarmref4_Cover.snd (envCons tilefarmref2_Inside.snd (envCons tilefarmref4_New.snd (envCons tilefarmref14_Eval.snd (envCons tilefarmref7_Clamp.snd envNil))))))))
theorem tilefarmref14_Tile.l1 {R : Type} (k : Nat) : LCs Proofs.Try.prog tilefarmref14_Tile.C (loopOf Proofs.Try.f26 1) (tilefarmref14_Tile.L1 (R := R) k) :=
  loop_sound mixed (tisOk tisT) tilefarmref14_Tile.env (k := k) (L := []) (n := 2) (inn := (tilefarmref14_Tile.L1 (R := R) k).inn) (outs := (tilefarmref14_Tile.L1 (R := R) k).outs) lokNil (fun j x e => tilefarmref14_Tile.loop1 k j x.1.1 x.1.2.1 x.1.2.2.1 x.1.2.2.2.1 x.1.2.2.2.2.1 x.2.1.1 x.2.1.2.1 x.2.1.2.2.1 x.2.1.2.2.2.1 x.2.2.1.1 x.2.2.1.2.1 x.2.2.1.2.2.1 x.2.2.1.2.2.2.1 x.2.2.2.1.1 x.2.2.2.1.2.1 x.2.2.2.1.2.2.1 x.2.2.2.1.2.2.2.1 x.2.2.2.2.1.1 x.2.2.2.2.1.2.1 x.2.2.2.2.1.2.2.1 x.2.2.2.2.1.2.2.2.1 (fun u0 u1 u2 u3 u4 u5 u6 u7 u8 u9 u10 u11 u12 u13 u14 u15 => e ((), ((u0, u1, u2, u3, ()), (u4, u5, u6, u7, ()), (u8, u9, u10, u11, ()), (u12, u13, u14, u15, ()), ())))) (fun _ _ => rfl) (fun j x e => (tilefarmref14_Tile.r1 k j x.1.1 x.1.2.1 x.1.2.2.1 x.1.2.2.2.1 x.1.2.2.2.2.1 x.2.1.1 x.2.1.2.1 x.2.1.2.2.1 x.2.1.2.2.2.1 x.2.2.1.1 x.2.2.1.2.1 x.2.2.1.2.2.1 x.2.2.1.2.2.2.1 x.2.2.2.1.1 x.2.2.2.1.2.1 x.2.2.2.1.2.2.1 x.2.2.2.1.2.2.2.1 x.2.2.2.2.1.1 x.2.2.2.2.1.2.1 x.2.2.2.2.1.2.2.1 x.2.2.2.2.1.2.2.2.1 e).symm) 1 k
theorem tilefarmref14_Tile.l0 {R : Type} (k : Nat) : LCs Proofs.Try.prog tilefarmref14_Tile.C (loopOf Proofs.Try.f26 0) (tilefarmref14_Tile.L0 (R := R) k) :=
  loop_sound mixed (tisOk tisT) tilefarmref14_Tile.env (k := k) (L := [tilefarmref14_Tile.L1 k]) (n := 1) (inn := (tilefarmref14_Tile.L0 (R := R) k).inn) (outs := (tilefarmref14_Tile.L0 (R := R) k).outs) (lokCons (lc := tilefarmref14_Tile.L1 k) (c0 := loopOf Proofs.Try.f26 1) (by kernel_rfl) (tilefarmref14_Tile.l1 k) lokNil) (fun j x e => tilefarmref14_Tile.loop0 k j x.1.1 x.1.2.1 x.1.2.2.1 x.1.2.2.2.1 x.2.1.1 x.2.1.2.1 x.2.1.2.2.1 x.2.1.2.2.2.1 x.2.2.1.1 x.2.2.1.2.1 x.2.2.1.2.2.1 x.2.2.1.2.2.2.1 x.2.2.2.1.1 x.2.2.2.1.2.1 x.2.2.2.1.2.2.1 x.2.2.2.1.2.2.2.1 x.2.2.2.2.1.1 x.2.2.2.2.1.2.1 x.2.2.2.2.1.2.2.1 x.2.2.2.2.1.2.2.2.1 (fun u0 u1 u2 u3 => e ((), ((u0, u1, u2, u3, ()), ())))) (fun _ _ => rfl) (fun j x e => (tilefarmref14_Tile.r0 k j x.1.1 x.1.2.1 x.1.2.2.1 x.1.2.2.2.1 x.2.1.1 x.2.1.2.1 x.2.1.2.2.1 x.2.1.2.2.2.1 x.2.2.1.1 x.2.2.1.2.1 x.2.2.1.2.2.1 x.2.2.1.2.2.2.1 x.2.2.2.1.1 x.2.2.2.1.2.1 x.2.2.2.1.2.2.1 x.2.2.2.1.2.2.2.1 x.2.2.2.2.1.1 x.2.2.2.2.1.2.1 x.2.2.2.2.1.2.2.1 x.2.2.2.2.1.2.2.2.1 e).symm) 0 k
theorem tilefarmref14_Tile.snd : FSound Proofs.Try.prog tilefarmref14_Tile.S :=
  fun_sound (C := tilefarmref14_Tile.C) (S := tilefarmref14_Tile.S) (fn := Proofs.Try.f26) (c := bodyOf Proofs.Try.f26) mixed (tisOk tisT) tilefarmref14_Tile.env Proofs.Try.func26 (by kernel_rfl) (by kernel_rfl) (L := fun k => [tilefarmref14_Tile.L0 k, tilefarmref14_Tile.L1 k]) (fun k => (lokCons (lc := tilefarmref14_Tile.L0 k) (c0 := loopOf Proofs.Try.f26 0) (by kernel_rfl) (tilefarmref14_Tile.l0 k) (lokCons (lc := tilefarmref14_Tile.L1 k) (c0 := loopOf Proofs.Try.f26 1) (by kernel_rfl) (tilefarmref14_Tile.l1 k) lokNil))) (fun k x => tilefarmref14_Tile.eq k x.1 x.2.1 x.2.2.1 x.2.2.2.1 x.2.2.2.2.1 x.2.2.2.2.2.1)

theorem tilefarmref4_Same.env : EnvOk Proofs.Try.prog tilefarmref4_Same.C := show EnvL Proofs.Try.prog [] from envNil
theorem tilefarmref4_Same.l0 {R : Type} (k : Nat) : LCs Proofs.Try.prog tilefarmref4_Same.C (loopOf Proofs.Try.f53 0) (tilefarmref4_Same.L0 (R := R) k) :=
  loop_sound mixed (tisOk tisT) tilefarmref4_Same.env (k := k) (L := []) (n := 1) (inn := (tilefarmref4_Same.L0 (R := R) k).inn) (outs := (tilefarmref4_Same.L0 (R := R) k).outs) lokNil (fun j x e => tilefarmref4_Same.loop0 k j x.1.1 x.1.2.1 x.1.2.2.1 (fun u0 => e (.inl ((u0, ()), ()))) (fun _ => e (.inr (((), ()))))) (fun _ _ => rfl) (fun j x e => (tilefarmref4_Same.r0 k j x.1.1 x.1.2.1 x.1.2.2.1 e).symm) 0 k
theorem tilefarmref4_Same.snd : FSound Proofs.Try.prog tilefarmref4_Same.S :=
  fun_sound (C := tilefarmref4_Same.C) (S := tilefarmref4_Same.S) (fn := Proofs.Try.f53) (c := bodyOf Proofs.Try.f53) mixed (tisOk tisT) tilefarmref4_Same.env Proofs.Try.func53 (by kernel_rfl) (by kernel_rfl) (L := fun k => [tilefarmref4_Same.L0 k]) (fun k => (lokCons (lc := tilefarmref4_Same.L0 k) (c0 := loopOf Proofs.Try.f53 0) (by kernel_rfl) (tilefarmref4_Same.l0 k) lokNil)) (fun k x => tilefarmref4_Same.eq k x.1 x.2.1)

theorem tilefarmref4_Equal.env : EnvOk Proofs.Try.prog tilefarmref4_Equal.C := show EnvL Proofs.Try.prog [tilefarmref4_Same.S] from (envCons tilefarmref4_Same.snd envNil)
theorem tilefarmref4_Equal.snd : FSound Proofs.Try.prog tilefarmref4_Equal.S :=
  fun_sound (C := tilefarmref4_Equal.C) (S := tilefarmref4_Equal.S) (fn := Proofs.Try.f27) (c := bodyOf Proofs.Try.f27) mixed (tisOk tisT) tilefarmref4_Equal.env Proofs.Try.func27 (by kernel_rfl) (by kernel_rfl) (L := fun k => []) (fun k => lokNil) (fun k x => tilefarmref4_Equal.eq k x.1 x.2.1)

theorem tilefarmlaw14_PointwiseTiles.env : EnvOk Proofs.Try.prog tilefarmlaw14_PointwiseTiles.C := show EnvL Proofs.Try.prog [tilefarmgen_New.S, tilefarmgen_Tape_Plane.S, tilefarmgen_Tape_Sized.S, tilefarmlaw14_program.S, tilefarmgen_Tape_Next.S, tilefarmgen_Tape_Within.S, tilefarmgen_Tape_SpoilPlane.S, pointwise_Tile.S, tilefarmref14_Tile.S, tilefarmref4_Equal.S, tilefarmlaw14_sane.S] from (envCons tilefarmgen_New.snd (envCons tilefarmgen_Tape_Plane.snd (envCons tilefarmgen_Tape_Sized.snd (envCons tilefarmlaw14_program.snd (envCons tilefarmgen_Tape_Next.snd (envCons tilefarmgen_Tape_Within.snd (envCons tilefarmgen_Tape_SpoilPlane.snd (envCons pointwise_Tile.snd (envCons tilefarmref14_Tile.snd (envCons tilefarmref4_Equal.snd (envCons tilefarmlaw14_sane.snd envNil)))))))))))
theorem tilefarmlaw14_PointwiseTiles.l0 {R : Type} (k : Nat) : LCs Proofs.Try.prog tilefarmlaw14_PointwiseTiles.C (loopOf Proofs.Try.f7 0) (tilefarmlaw14_PointwiseTiles.L0 (R := R) k) :=
  loop_sound mixed (tisOk tisT) tilefarmlaw14_PointwiseTiles.env (k := k) (L := []) (n := 1) (inn := (tilefarmlaw14_PointwiseTiles.L0 (R := R) k).inn) (outs := (tilefarmlaw14_PointwiseTiles.L0 (R := R) k).outs) lokNil (fun j x e => tilefarmlaw14_PointwiseTiles.loop0 k j x.1.1 x.2.1.1 x.2.1.2.1 x.2.1.2.2.1 x.2.1.2.2.2.1 x.2.2.1.1 x.2.2.1.2.1 (fun u0 => e (.inl ((u0, ()), ()))) (fun _ => e (.inr (((), ()))))) (fun _ _ => rfl) (fun j x e => (tilefarmlaw14_PointwiseTiles.r0 k j x.1.1 x.2.1.1 x.2.1.2.1 x.2.1.2.2.1 x.2.1.2.2.2.1 x.2.2.1.1 x.2.2.1.2.1 e).symm) 0 k
theorem tilefarmlaw14_PointwiseTiles.snd : FSound Proofs.Try.prog tilefarmlaw14_PointwiseTiles.S :=
  fun_sound (C := tilefarmlaw14_PointwiseTiles.C) (S := tilefarmlaw14_PointwiseTiles.S) (fn := Proofs.Try.f7) (c := bodyOf Proofs.Try.f7) mixed (tisOk tisT) tilefarmlaw14_PointwiseTiles.env Proofs.Try.func7 (by kernel_rfl) (by kernel_rfl) (L := fun k => [tilefarmlaw14_PointwiseTiles.L0 k]) (fun k => (lokCons (lc := tilefarmlaw14_PointwiseTiles.L0 k) (c0 := loopOf Proofs.Try.f7 0) (by kernel_rfl) (tilefarmlaw14_PointwiseTiles.l0 k) lokNil)) (fun k x => tilefarmlaw14_PointwiseTiles.eq k x.1 x.2.1)

theorem tilefarmlaw14_PointwiseWithin.env : EnvOk Proofs.Try.prog tilefarmlaw14_PointwiseWithin.C := show EnvL Proofs.Try.prog [tilefarmgen_New.S, tilefarmlaw14_program.S, tilefarmgen_Tape_Next.S, pointwise_Interval.S, tilefarmgen_Mod.S, pointwise_Eval.S, tilefarmlaw14_sane.S] from (envCons tilefarmgen_New.snd (envCons tilefarmlaw14_program.snd (envCons tilefarmgen_Tape_Next.snd (envCons pointwise_Interval.snd (envCons tilefarmgen_Mod.snd (envCons pointwise_Eval.snd (envCons tilefarmlaw14_sane.snd envNil)))))))
theorem tilefarmlaw14_PointwiseWithin.snd : FSound Proofs.Try.prog tilefarmlaw14_PointwiseWithin.S :=
  fun_sound (C := tilefarmlaw14_PointwiseWithin.C) (S := tilefarmlaw14_PointwiseWithin.S) (fn := Proofs.Try.f4) (c := bodyOf Proofs.Try.f4) mixed (tisOk tisT) tilefarmlaw14_PointwiseWithin.env Proofs.Try.func4 (by kernel_rfl) (by kernel_rfl) (L := fun k => []) (fun k => lokNil) (fun k x => tilefarmlaw14_PointwiseWithin.eq k x.1 x.2.1 x.2.2.1)

theorem tilefarmlaw14_PointwiseJoins.env : EnvOk Proofs.Try.prog tilefarmlaw14_PointwiseJoins.C := show EnvL Proofs.Try.prog [tilefarmgen_New.S, tilefarmgen_Tape_Ops.S, tilefarmgen_Mod.S, pointwise_Eval.S, tilefarmlaw14_sane.S] from (envCons tilefarmgen_New.snd (envCons tilefarmgen_Tape_Ops.snd (envCons tilefarmgen_Mod.snd (envCons pointwise_Eval.snd (envCons tilefarmlaw14_sane.snd envNil)))))
theorem tilefarmlaw14_PointwiseJoins.snd : FSound Proofs.Try.prog tilefarmlaw14_PointwiseJoins.S :=
  fun_sound (C := tilefarmlaw14_PointwiseJoins.C) (S := tilefarmlaw14_PointwiseJoins.S) (fn := Proofs.Try.f5) (c := bodyOf Proofs.Try.f5) mixed (tisOk tisT) tilefarmlaw14_PointwiseJoins.env Proofs.Try.func5 (by kernel_rfl) (by kernel_rfl) (L := fun k => []) (fun k => lokNil) (fun k x => tilefarmlaw14_PointwiseJoins.eq k x.1 x.2.1 x.2.2.1)

theorem tilefarmlaw14_PointwiseOrderless.env : EnvOk Proofs.Try.prog tilefarmlaw14_PointwiseOrderless.C := show EnvL Proofs.Try.prog [tilefarmgen_Mod.S, pointwise_Eval.S, tilefarmlaw14_sane.S] from (envCons tilefarmgen_Mod.snd (envCons pointwise_Eval.snd (envCons tilefarmlaw14_sane.snd envNil)))
theorem tilefarmlaw14_PointwiseOrderless.l0 {R : Type} (k : Nat) : LCs Proofs.Try.prog tilefarmlaw14_PointwiseOrderless.C (loopOf Proofs.Try.f6 0) (tilefarmlaw14_PointwiseOrderless.L0 (R := R) k) :=
  loop_sound mixed (tisOk tisT) tilefarmlaw14_PointwiseOrderless.env (k := k) (L := []) (n := 1) (inn := (tilefarmlaw14_PointwiseOrderless.L0 (R := R) k).inn) (outs := (tilefarmlaw14_PointwiseOrderless.L0 (R := R) k).outs) lokNil (fun j x e => tilefarmlaw14_PointwiseOrderless.loop0 k j x.1.1 x.1.2.1 x.1.2.2.1 x.1.2.2.2.1 x.2.1 (fun u0 => e (.inl ((u0, ()), ()))) (fun _ => e (.inr (((), ()))))) (fun _ _ => rfl) (fun j x e => (tilefarmlaw14_PointwiseOrderless.r0 k j x.1.1 x.1.2.1 x.1.2.2.1 x.1.2.2.2.1 x.2.1 e).symm) 0 k
theorem tilefarmlaw14_PointwiseOrderless.snd : FSound Proofs.Try.prog tilefarmlaw14_PointwiseOrderless.S :=
  fun_sound (C := tilefarmlaw14_PointwiseOrderless.C) (S := tilefarmlaw14_PointwiseOrderless.S) (fn := Proofs.Try.f6) (c := bodyOf Proofs.Try.f6) mixed (tisOk tisT) tilefarmlaw14_PointwiseOrderless.env Proofs.Try.func6 (by kernel_rfl) (by kernel_rfl) (L := fun k => [tilefarmlaw14_PointwiseOrderless.L0 k]) (fun k => (lokCons (lc := tilefarmlaw14_PointwiseOrderless.L0 k) (c0 := loopOf Proofs.Try.f6 0) (by kernel_rfl) (tilefarmlaw14_PointwiseOrderless.l0 k) lokNil)) (fun k x => tilefarmlaw14_PointwiseOrderless.eq k x.1 x.2.1)

end Go.Lf.T
