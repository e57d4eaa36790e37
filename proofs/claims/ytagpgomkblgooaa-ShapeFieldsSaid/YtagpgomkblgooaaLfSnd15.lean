import Derived.Test.YtagpgomkblgooaaLfTie15
import Derived.Test.YtagpgomkblgooaaLfCc
import Derived.Test.YtagpgomkblgooaaProg
set_option linter.unusedVariables false
set_option maxRecDepth 100000
namespace Go.Lf.T
open Go Go.Lf

theorem mixed : Proofs.Try.prog.follows .mixedOrders = true := by kernel_rfl
theorem tisT : tisB Proofs.Try.prog tis = true := by kernel_rfl

theorem tilefarmgen_New.env : EnvOk Proofs.Try.prog tilefarmgen_New.C := show EnvL Proofs.Try.prog [] from envNil
theorem tilefarmgen_New.snd : FSound Proofs.Try.prog tilefarmgen_New.S :=
  fun_sound (C := tilefarmgen_New.C) (S := tilefarmgen_New.S) (fn := Proofs.Try.f5) (c := bodyOf Proofs.Try.f5) mixed (tisOk tisT) tilefarmgen_New.env Proofs.Try.func5 (by kernel_rfl) (by kernel_rfl) (L := fun k => []) (fun k => lokNil) (fun k x => tilefarmgen_New.eq k x.1)

theorem tilefarmgen_Mod.env : EnvOk Proofs.Try.prog tilefarmgen_Mod.C := show EnvL Proofs.Try.prog [] from envNil
theorem tilefarmgen_Mod.snd : FSound Proofs.Try.prog tilefarmgen_Mod.S :=
  fun_sound (C := tilefarmgen_Mod.C) (S := tilefarmgen_Mod.S) (fn := Proofs.Try.f38) (c := bodyOf Proofs.Try.f38) mixed (tisOk tisT) tilefarmgen_Mod.env Proofs.Try.func38 (by kernel_rfl) (by kernel_rfl) (L := fun k => []) (fun k => lokNil) (fun k x => tilefarmgen_Mod.eq k x.1 x.2.1)

theorem tilefarmgen_Tape_Next.env : EnvOk Proofs.Try.prog tilefarmgen_Tape_Next.C := show EnvL Proofs.Try.prog [tilefarmgen_Mod.S] from (envCons tilefarmgen_Mod.snd envNil)
theorem tilefarmgen_Tape_Next.snd : FSound Proofs.Try.prog tilefarmgen_Tape_Next.S :=
  fun_sound (C := tilefarmgen_Tape_Next.C) (S := tilefarmgen_Tape_Next.S) (fn := Proofs.Try.f19) (c := bodyOf Proofs.Try.f19) mixed (tisOk tisT) tilefarmgen_Tape_Next.env Proofs.Try.func19 (by kernel_rfl) (by kernel_rfl) (L := fun k => []) (fun k => lokNil) (fun k x => tilefarmgen_Tape_Next.eq k x.1 x.2.1)

theorem tilefarmgen_Tape_Pick.env : EnvOk Proofs.Try.prog tilefarmgen_Tape_Pick.C := show EnvL Proofs.Try.prog [tilefarmgen_Tape_Next.S] from (envCons tilefarmgen_Tape_Next.snd envNil)
theorem tilefarmgen_Tape_Pick.snd : FSound Proofs.Try.prog tilefarmgen_Tape_Pick.S :=
  fun_sound (C := tilefarmgen_Tape_Pick.C) (S := tilefarmgen_Tape_Pick.S) (fn := Proofs.Try.f20) (c := bodyOf Proofs.Try.f20) mixed (tisOk tisT) tilefarmgen_Tape_Pick.env Proofs.Try.func20 (by kernel_rfl) (by kernel_rfl) (L := fun k => []) (fun k => lokNil) (fun k x => tilefarmgen_Tape_Pick.eq k x.1 x.2.1)

theorem tilefarmlaw15_small.env : EnvOk Proofs.Try.prog tilefarmlaw15_small.C := show EnvL Proofs.Try.prog [tilefarmgen_Tape_Next.S, tilefarmgen_Tape_Pick.S] from (envCons tilefarmgen_Tape_Next.snd (envCons tilefarmgen_Tape_Pick.snd envNil))
theorem tilefarmlaw15_small.snd : FSound Proofs.Try.prog tilefarmlaw15_small.S :=
  fun_sound (C := tilefarmlaw15_small.C) (S := tilefarmlaw15_small.S) (fn := Proofs.Try.f6) (c := bodyOf Proofs.Try.f6) mixed (tisOk tisT) tilefarmlaw15_small.env Proofs.Try.func6 (by kernel_rfl) (by kernel_rfl) (L := fun k => []) (fun k => lokNil) (fun k x => tilefarmlaw15_small.eq k x.1)

theorem tilefarmgen_Tape_Edge.env : EnvOk Proofs.Try.prog tilefarmgen_Tape_Edge.C := show EnvL Proofs.Try.prog [tilefarmgen_Tape_Next.S, tilefarmgen_Tape_Pick.S] from (envCons tilefarmgen_Tape_Next.snd (envCons tilefarmgen_Tape_Pick.snd envNil))
theorem tilefarmgen_Tape_Edge.snd : FSound Proofs.Try.prog tilefarmgen_Tape_Edge.S :=
  fun_sound (C := tilefarmgen_Tape_Edge.C) (S := tilefarmgen_Tape_Edge.S) (fn := Proofs.Try.f21) (c := bodyOf Proofs.Try.f21) mixed (tisOk tisT) tilefarmgen_Tape_Edge.env Proofs.Try.func21 (by kernel_rfl) (by kernel_rfl) (L := fun k => []) (fun k => lokNil) (fun k x => tilefarmgen_Tape_Edge.eq k x.1 x.2.1)

theorem tilefarmgen_Tape_Weights.env : EnvOk Proofs.Try.prog tilefarmgen_Tape_Weights.C := show EnvL Proofs.Try.prog [tilefarmgen_Tape_Next.S, tilefarmgen_Tape_Pick.S] from (envCons tilefarmgen_Tape_Next.snd (envCons tilefarmgen_Tape_Pick.snd envNil))
theorem tilefarmgen_Tape_Weights.l0 {R : Type} (k : Nat) : LCs Proofs.Try.prog tilefarmgen_Tape_Weights.C (.loop (loopOf Proofs.Try.f22 0)) (tilefarmgen_Tape_Weights.L0 (R := R) k) :=
  loop_sound mixed (tisOk tisT) tilefarmgen_Tape_Weights.env (k := k) (L := []) (n := 1) (inn := (tilefarmgen_Tape_Weights.L0 (R := R) k).inn) (outs := (tilefarmgen_Tape_Weights.L0 (R := R) k).outs) lokNil (fun j x e => tilefarmgen_Tape_Weights.loop0 k j x.1.1 x.1.2.1 x.2.1.1 x.2.1.2.1 x.2.2.1 (fun u0 u1 u2 => e ((), ((u0, u1, ()), u2, ())))) (fun _ _ => rfl) (fun j x e => (tilefarmgen_Tape_Weights.r0 k j x.1.1 x.1.2.1 x.2.1.1 x.2.1.2.1 x.2.2.1 e).symm) 0 k
theorem tilefarmgen_Tape_Weights.snd : FSound Proofs.Try.prog tilefarmgen_Tape_Weights.S :=
  fun_sound (C := tilefarmgen_Tape_Weights.C) (S := tilefarmgen_Tape_Weights.S) (fn := Proofs.Try.f22) (c := bodyOf Proofs.Try.f22) mixed (tisOk tisT) tilefarmgen_Tape_Weights.env Proofs.Try.func22 (by kernel_rfl) (by kernel_rfl) (L := fun k => [tilefarmgen_Tape_Weights.L0 k]) (fun k => (lokCons 0 (lc := tilefarmgen_Tape_Weights.L0 k) (c0 := loopOf Proofs.Try.f22 0) (by kernel_rfl) (by kernel_rfl) (tilefarmgen_Tape_Weights.l0 k) lokNil)) (fun k x => tilefarmgen_Tape_Weights.eq k x.1 x.2.1)

theorem tilefarmref8_side.env : EnvOk Proofs.Try.prog tilefarmref8_side.C := show EnvL Proofs.Try.prog [] from envNil
theorem tilefarmref8_side.snd : FSound Proofs.Try.prog tilefarmref8_side.S :=
  fun_sound (C := tilefarmref8_side.C) (S := tilefarmref8_side.S) (fn := Proofs.Try.f53) (c := bodyOf Proofs.Try.f53) mixed (tisOk tisT) tilefarmref8_side.env Proofs.Try.func53 (by kernel_rfl) (by kernel_rfl) (L := fun k => []) (fun k => lokNil) (fun k x => tilefarmref8_side.eq k x.1)

theorem tilefarmref8_Linear.env : EnvOk Proofs.Try.prog tilefarmref8_Linear.C := show EnvL Proofs.Try.prog [tilefarmref8_side.S] from (envCons tilefarmref8_side.snd envNil)
theorem tilefarmref8_Linear.l0 {R : Type} (k : Nat) : LCs Proofs.Try.prog tilefarmref8_Linear.C (.loop (loopOf Proofs.Try.f39 0)) (tilefarmref8_Linear.L0 (R := R) k) :=
  loop_sound mixed (tisOk tisT) tilefarmref8_Linear.env (k := k) (L := []) (n := 1) (inn := (tilefarmref8_Linear.L0 (R := R) k).inn) (outs := (tilefarmref8_Linear.L0 (R := R) k).outs) lokNil (fun j x e => tilefarmref8_Linear.loop0 k j x.1.1 x.1.2.1 x.1.2.2.1 x.1.2.2.2.1 x.2.1 (fun u0 => e ((), (u0, ())))) (fun _ _ => rfl) (fun j x e => (tilefarmref8_Linear.r0 k j x.1.1 x.1.2.1 x.1.2.2.1 x.1.2.2.2.1 x.2.1 e).symm) 0 k
theorem tilefarmref8_Linear.snd : FSound Proofs.Try.prog tilefarmref8_Linear.S :=
  fun_sound (C := tilefarmref8_Linear.C) (S := tilefarmref8_Linear.S) (fn := Proofs.Try.f39) (c := bodyOf Proofs.Try.f39) mixed (tisOk tisT) tilefarmref8_Linear.env Proofs.Try.func39 (by kernel_rfl) (by kernel_rfl) (L := fun k => [tilefarmref8_Linear.L0 k]) (fun k => (lokCons 0 (lc := tilefarmref8_Linear.L0 k) (c0 := loopOf Proofs.Try.f39 0) (by kernel_rfl) (by kernel_rfl) (tilefarmref8_Linear.l0 k) lokNil)) (fun k x => tilefarmref8_Linear.eq k x.1 x.2.1 x.2.2.1)

theorem tilefarmref8_divide.env : EnvOk Proofs.Try.prog tilefarmref8_divide.C := show EnvL Proofs.Try.prog [] from envNil
theorem tilefarmref8_divide.l0 {R : Type} (k : Nat) : LCs Proofs.Try.prog tilefarmref8_divide.C (.loop (loopOf Proofs.Try.f54 0)) (tilefarmref8_divide.L0 (R := R) k) :=
  loop_sound mixed (tisOk tisT) tilefarmref8_divide.env (k := k) (L := []) (n := 1) (inn := (tilefarmref8_divide.L0 (R := R) k).inn) (outs := (tilefarmref8_divide.L0 (R := R) k).outs) lokNil (fun j x e => tilefarmref8_divide.loop0 k j x.1.1 x.1.2.1 x.1.2.2.1 (fun u0 => e ((u0, ()), ()))) (fun _ _ => rfl) (fun j x e => (tilefarmref8_divide.r0 k j x.1.1 x.1.2.1 x.1.2.2.1 e).symm) 0 k
theorem tilefarmref8_divide.l1 {R : Type} (k : Nat) : LCs Proofs.Try.prog tilefarmref8_divide.C (.loop (loopOf Proofs.Try.f54 1)) (tilefarmref8_divide.L1 (R := R) k) :=
  loop_sound mixed (tisOk tisT) tilefarmref8_divide.env (k := k) (L := []) (n := 2) (inn := (tilefarmref8_divide.L1 (R := R) k).inn) (outs := (tilefarmref8_divide.L1 (R := R) k).outs) lokNil (fun j x e => tilefarmref8_divide.loop1 k j x.1.1 x.1.2.1 x.1.2.2.1 x.1.2.2.2.1 x.1.2.2.2.2.1 x.2.1 x.2.2.1 (fun u0 u1 u2 => e ((u0, ()), (u1, u2, ())))) (fun _ _ => rfl) (fun j x e => (tilefarmref8_divide.r1 k j x.1.1 x.1.2.1 x.1.2.2.1 x.1.2.2.2.1 x.1.2.2.2.2.1 x.2.1 x.2.2.1 e).symm) 2 k
theorem tilefarmref8_divide.l3 {R : Type} (k : Nat) : LCs Proofs.Try.prog tilefarmref8_divide.C (.loop (loopOf Proofs.Try.f54 3)) (tilefarmref8_divide.L3 (R := R) k) :=
  loop_sound mixed (tisOk tisT) tilefarmref8_divide.env (k := k) (L := []) (n := 4) (inn := (tilefarmref8_divide.L3 (R := R) k).inn) (outs := (tilefarmref8_divide.L3 (R := R) k).outs) lokNil (fun j x e => tilefarmref8_divide.loop3 k j x.1.1 x.1.2.1 x.2.1 (fun u0 u1 => e ((u0, ()), (u1, ())))) (fun _ _ => rfl) (fun j x e => (tilefarmref8_divide.r3 k j x.1.1 x.1.2.1 x.2.1 e).symm) 6 k
theorem tilefarmref8_divide.l2 {R : Type} (k : Nat) : LCs Proofs.Try.prog tilefarmref8_divide.C (.loop (loopOf Proofs.Try.f54 2)) (tilefarmref8_divide.L2 (R := R) k) :=
  loop_sound mixed (tisOk tisT) tilefarmref8_divide.env (k := k) (L := [tilefarmref8_divide.L3 k]) (n := 3) (inn := (tilefarmref8_divide.L2 (R := R) k).inn) (outs := (tilefarmref8_divide.L2 (R := R) k).outs) (lokCons 3 (lc := tilefarmref8_divide.L3 k) (c0 := loopOf Proofs.Try.f54 3) (by kernel_rfl) (by kernel_rfl) (tilefarmref8_divide.l3 k) lokNil) (fun j x e => tilefarmref8_divide.loop2 k j x.1.1 x.2.1 x.2.2.1 (fun u0 => e ((), (u0, ())))) (fun _ _ => rfl) (fun j x e => (tilefarmref8_divide.r2 k j x.1.1 x.2.1 x.2.2.1 e).symm) 4 k
theorem tilefarmref8_divide.snd : FSound Proofs.Try.prog tilefarmref8_divide.S :=
  fun_sound (C := tilefarmref8_divide.C) (S := tilefarmref8_divide.S) (fn := Proofs.Try.f54) (c := bodyOf Proofs.Try.f54) mixed (tisOk tisT) tilefarmref8_divide.env Proofs.Try.func54 (by kernel_rfl) (by kernel_rfl) (L := fun k => [tilefarmref8_divide.L0 k, tilefarmref8_divide.L1 k, tilefarmref8_divide.L3 k, tilefarmref8_divide.L2 k]) (fun k => (lokCons 0 (lc := tilefarmref8_divide.L0 k) (c0 := loopOf Proofs.Try.f54 0) (by kernel_rfl) (by kernel_rfl) (tilefarmref8_divide.l0 k) (lokCons 1 (lc := tilefarmref8_divide.L1 k) (c0 := loopOf Proofs.Try.f54 1) (by kernel_rfl) (by kernel_rfl) (tilefarmref8_divide.l1 k) (lokCons 3 (lc := tilefarmref8_divide.L3 k) (c0 := loopOf Proofs.Try.f54 3) (by kernel_rfl) (by kernel_rfl) (tilefarmref8_divide.l3 k) (lokCons 2 (lc := tilefarmref8_divide.L2 k) (c0 := loopOf Proofs.Try.f54 2) (by kernel_rfl) (by kernel_rfl) (tilefarmref8_divide.l2 k) lokNil))))) (fun k x => tilefarmref8_divide.eq k x.1 x.2.1)

theorem tilefarmref8_Box.env : EnvOk Proofs.Try.prog tilefarmref8_Box.C := show EnvL Proofs.Try.prog [tilefarmref8_side.S, tilefarmref8_divide.S] from (envCons tilefarmref8_side.snd (envCons tilefarmref8_divide.snd envNil))
theorem tilefarmref8_Box.l1 {R : Type} (k : Nat) : LCs Proofs.Try.prog tilefarmref8_Box.C (.loop (loopOf Proofs.Try.f40 1)) (tilefarmref8_Box.L1 (R := R) k) :=
  loop_sound mixed (tisOk tisT) tilefarmref8_Box.env (k := k) (L := []) (n := 2) (inn := (tilefarmref8_Box.L1 (R := R) k).inn) (outs := (tilefarmref8_Box.L1 (R := R) k).outs) lokNil (fun j x e => tilefarmref8_Box.loop1 k j x.1.1 x.1.2.1 x.1.2.2.1 x.1.2.2.2.1 x.2.1 (fun u0 => e ((), (u0, ())))) (fun _ _ => rfl) (fun j x e => (tilefarmref8_Box.r1 k j x.1.1 x.1.2.1 x.1.2.2.1 x.1.2.2.2.1 x.2.1 e).symm) 2 k
theorem tilefarmref8_Box.l0 {R : Type} (k : Nat) : LCs Proofs.Try.prog tilefarmref8_Box.C (.loop (loopOf Proofs.Try.f40 0)) (tilefarmref8_Box.L0 (R := R) k) :=
  loop_sound mixed (tisOk tisT) tilefarmref8_Box.env (k := k) (L := [tilefarmref8_Box.L1 k]) (n := 1) (inn := (tilefarmref8_Box.L0 (R := R) k).inn) (outs := (tilefarmref8_Box.L0 (R := R) k).outs) (lokCons 1 (lc := tilefarmref8_Box.L1 k) (c0 := loopOf Proofs.Try.f40 1) (by kernel_rfl) (by kernel_rfl) (tilefarmref8_Box.l1 k) lokNil) (fun j x e => tilefarmref8_Box.loop0 k j x.1.1 x.1.2.1 x.1.2.2.1 x.1.2.2.2.1 x.2.1 (fun u0 u1 => e (.inl ((u0, ()), (u1, ())))) (fun u0 => e (.inr (((), (u0, ())))))) (fun _ _ => rfl) (fun j x e => (tilefarmref8_Box.r0 k j x.1.1 x.1.2.1 x.1.2.2.1 x.1.2.2.2.1 x.2.1 e).symm) 0 k
theorem tilefarmref8_Box.snd : FSound Proofs.Try.prog tilefarmref8_Box.S :=
  fun_sound (C := tilefarmref8_Box.C) (S := tilefarmref8_Box.S) (fn := Proofs.Try.f40) (c := bodyOf Proofs.Try.f40) mixed (tisOk tisT) tilefarmref8_Box.env Proofs.Try.func40 (by kernel_rfl) (by kernel_rfl) (L := fun k => [tilefarmref8_Box.L1 k, tilefarmref8_Box.L0 k]) (fun k => (lokCons 1 (lc := tilefarmref8_Box.L1 k) (c0 := loopOf Proofs.Try.f40 1) (by kernel_rfl) (by kernel_rfl) (tilefarmref8_Box.l1 k) (lokCons 0 (lc := tilefarmref8_Box.L0 k) (c0 := loopOf Proofs.Try.f40 0) (by kernel_rfl) (by kernel_rfl) (tilefarmref8_Box.l0 k) lokNil))) (fun k x => tilefarmref8_Box.eq k x.1 x.2.1 x.2.2.1)

theorem tilefarmgen_Tape_Table.env : EnvOk Proofs.Try.prog tilefarmgen_Tape_Table.C := show EnvL Proofs.Try.prog [tilefarmgen_Tape_Next.S, tilefarmref8_Linear.S, tilefarmref8_Box.S, tilefarmgen_Tape_Weights.S] from (envCons tilefarmgen_Tape_Next.snd (envCons tilefarmref8_Linear.snd (envCons tilefarmref8_Box.snd (envCons tilefarmgen_Tape_Weights.snd envNil))))
theorem tilefarmgen_Tape_Table.l0 {R : Type} (k : Nat) : LCs Proofs.Try.prog tilefarmgen_Tape_Table.C (.loop (loopOf Proofs.Try.f23 0)) (tilefarmgen_Tape_Table.L0 (R := R) k) :=
  loop_sound mixed (tisOk tisT) tilefarmgen_Tape_Table.env (k := k) (L := []) (n := 1) (inn := (tilefarmgen_Tape_Table.L0 (R := R) k).inn) (outs := (tilefarmgen_Tape_Table.L0 (R := R) k).outs) lokNil (fun j x e => tilefarmgen_Tape_Table.loop0 k j x.1.1 x.1.2.1 x.2.1.1 x.2.1.2.1 x.2.2.1 (fun u0 u1 u2 => e ((), ((u0, u1, ()), u2, ())))) (fun _ _ => rfl) (fun j x e => (tilefarmgen_Tape_Table.r0 k j x.1.1 x.1.2.1 x.2.1.1 x.2.1.2.1 x.2.2.1 e).symm) 0 k
theorem tilefarmgen_Tape_Table.snd : FSound Proofs.Try.prog tilefarmgen_Tape_Table.S :=
  fun_sound (C := tilefarmgen_Tape_Table.C) (S := tilefarmgen_Tape_Table.S) (fn := Proofs.Try.f23) (c := bodyOf Proofs.Try.f23) mixed (tisOk tisT) tilefarmgen_Tape_Table.env Proofs.Try.func23 (by kernel_rfl) (by kernel_rfl) (L := fun k => [tilefarmgen_Tape_Table.L0 k]) (fun k => (lokCons 0 (lc := tilefarmgen_Tape_Table.L0 k) (c0 := loopOf Proofs.Try.f23 0) (by kernel_rfl) (by kernel_rfl) (tilefarmgen_Tape_Table.l0 k) lokNil)) (fun k x => tilefarmgen_Tape_Table.eq k x.1 x.2.1)

theorem tilefarmgen_Tape_Ops.env : EnvOk Proofs.Try.prog tilefarmgen_Tape_Ops.C := show EnvL Proofs.Try.prog [tilefarmgen_Tape_Pick.S, tilefarmgen_Tape_Next.S] from (envCons tilefarmgen_Tape_Pick.snd (envCons tilefarmgen_Tape_Next.snd envNil))
theorem tilefarmgen_Tape_Ops.l0 {R : Type} (k : Nat) : LCs Proofs.Try.prog tilefarmgen_Tape_Ops.C (.loop (loopOf Proofs.Try.f24 0)) (tilefarmgen_Tape_Ops.L0 (R := R) k) :=
  loop_sound mixed (tisOk tisT) tilefarmgen_Tape_Ops.env (k := k) (L := []) (n := 1) (inn := (tilefarmgen_Tape_Ops.L0 (R := R) k).inn) (outs := (tilefarmgen_Tape_Ops.L0 (R := R) k).outs) lokNil (fun j x e => tilefarmgen_Tape_Ops.loop0 k j x.1.1 x.2.1.1 x.2.1.2.1 x.2.2.1 (fun u0 u1 u2 => e ((), ((u0, u1, ()), u2, ())))) (fun _ _ => rfl) (fun j x e => (tilefarmgen_Tape_Ops.r0 k j x.1.1 x.2.1.1 x.2.1.2.1 x.2.2.1 e).symm) 0 k
theorem tilefarmgen_Tape_Ops.snd : FSound Proofs.Try.prog tilefarmgen_Tape_Ops.S :=
  fun_sound (C := tilefarmgen_Tape_Ops.C) (S := tilefarmgen_Tape_Ops.S) (fn := Proofs.Try.f24) (c := bodyOf Proofs.Try.f24) mixed (tisOk tisT) tilefarmgen_Tape_Ops.env Proofs.Try.func24 (by kernel_rfl) (by kernel_rfl) (L := fun k => [tilefarmgen_Tape_Ops.L0 k]) (fun k => (lokCons 0 (lc := tilefarmgen_Tape_Ops.L0 k) (c0 := loopOf Proofs.Try.f24 0) (by kernel_rfl) (by kernel_rfl) (tilefarmgen_Tape_Ops.l0 k) lokNil)) (fun k x => tilefarmgen_Tape_Ops.eq k x.1 x.2.1)

theorem tilefarmgen_Tape_Stage.env : EnvOk Proofs.Try.prog tilefarmgen_Tape_Stage.C := show EnvL Proofs.Try.prog [tilefarmgen_Tape_Next.S, tilefarmgen_Tape_Pick.S, tilefarmgen_Tape_Edge.S, tilefarmgen_Tape_Weights.S, tilefarmgen_Tape_Table.S, tilefarmgen_Tape_Ops.S] from (envCons tilefarmgen_Tape_Next.snd (envCons tilefarmgen_Tape_Pick.snd (envCons tilefarmgen_Tape_Edge.snd (envCons tilefarmgen_Tape_Weights.snd (envCons tilefarmgen_Tape_Table.snd (envCons tilefarmgen_Tape_Ops.snd envNil))))))
theorem tilefarmgen_Tape_Stage.snd : FSound Proofs.Try.prog tilefarmgen_Tape_Stage.S :=
  fun_sound (C := tilefarmgen_Tape_Stage.C) (S := tilefarmgen_Tape_Stage.S) (fn := Proofs.Try.f7) (c := bodyOf Proofs.Try.f7) mixed (tisOk tisT) tilefarmgen_Tape_Stage.env Proofs.Try.func7 (by kernel_rfl) (by kernel_rfl) (L := fun k => []) (fun k => lokNil) (fun k x => tilefarmgen_Tape_Stage.eq k x.1 x.2.1 x.2.2.1 x.2.2.2.1)

theorem tilefarmgen_Tape_SpoilStage.env : EnvOk Proofs.Try.prog tilefarmgen_Tape_SpoilStage.C := show EnvL Proofs.Try.prog [tilefarmgen_Tape_Next.S, tilefarmgen_Tape_Pick.S, tilefarmgen_Tape_Weights.S] from (envCons tilefarmgen_Tape_Next.snd (envCons tilefarmgen_Tape_Pick.snd (envCons tilefarmgen_Tape_Weights.snd envNil)))
theorem tilefarmgen_Tape_SpoilStage.snd : FSound Proofs.Try.prog tilefarmgen_Tape_SpoilStage.S :=
  fun_sound (C := tilefarmgen_Tape_SpoilStage.C) (S := tilefarmgen_Tape_SpoilStage.S) (fn := Proofs.Try.f8) (c := bodyOf Proofs.Try.f8) mixed (tisOk tisT) tilefarmgen_Tape_SpoilStage.env Proofs.Try.func8 (by kernel_rfl) (by kernel_rfl) (L := fun k => []) (fun k => lokNil) (fun k x => tilefarmgen_Tape_SpoilStage.eq k x.1 x.2.1)

theorem shape_between.env : EnvOk Proofs.Try.prog shape_between.C := show EnvL Proofs.Try.prog [] from envNil
theorem shape_between.snd : FSound Proofs.Try.prog shape_between.S :=
  fun_sound (C := shape_between.C) (S := shape_between.S) (fn := Proofs.Try.f33) (c := bodyOf Proofs.Try.f33) mixed (tisOk tisT) shape_between.env Proofs.Try.func33 (by kernel_rfl) (by kernel_rfl) (L := fun k => []) (fun k => lokNil) (fun k x => shape_between.eq k x.1 x.2.1 x.2.2.1)

theorem shape_Fields_1.env : EnvOk Proofs.Try.prog shape_Fields_1.C := show EnvL Proofs.Try.prog [] from envNil
theorem shape_Fields_1.l0 {R : Type} (k : Nat) : LCs Proofs.Try.prog shape_Fields_1.C (.loop (loopOf Proofs.Try.f34 0)) (shape_Fields_1.L0 (R := R) k) :=
  loop_sound mixed (tisOk tisT) shape_Fields_1.env (k := k) (L := []) (n := 1) (inn := (shape_Fields_1.L0 (R := R) k).inn) (outs := (shape_Fields_1.L0 (R := R) k).outs) lokNil (fun j x e => shape_Fields_1.loop0 k j x.1.1 x.1.2.1 x.1.2.2.1 x.2.1.1 (fun u0 u1 => e (.inl ((u0, ()), ((u1, ()), ())))) (fun u0 => e (.inr (((), ((u0, ()), ())))))) (fun _ _ => rfl) (fun j x e => (shape_Fields_1.r0 k j x.1.1 x.1.2.1 x.1.2.2.1 x.2.1.1 e).symm) 0 k
theorem shape_Fields_1.snd : FSound Proofs.Try.prog shape_Fields_1.S :=
  fun_sound (C := shape_Fields_1.C) (S := shape_Fields_1.S) (fn := Proofs.Try.f34) (c := bodyOf Proofs.Try.f34) mixed (tisOk tisT) shape_Fields_1.env Proofs.Try.func34 (by kernel_rfl) (by kernel_rfl) (L := fun k => [shape_Fields_1.L0 k]) (fun k => (lokCons 0 (lc := shape_Fields_1.L0 k) (c0 := loopOf Proofs.Try.f34 0) (by kernel_rfl) (by kernel_rfl) (shape_Fields_1.l0 k) lokNil)) (fun k x => shape_Fields_1.eq k x.1 x.2.1 x.2.2.1)

theorem shape_edged.env : EnvOk Proofs.Try.prog shape_edged.C := show EnvL Proofs.Try.prog [] from envNil
theorem shape_edged.snd : FSound Proofs.Try.prog shape_edged.S :=
  fun_sound (C := shape_edged.C) (S := shape_edged.S) (fn := Proofs.Try.f26) (c := bodyOf Proofs.Try.f26) mixed (tisOk tisT) shape_edged.env Proofs.Try.func26 (by kernel_rfl) (by kernel_rfl) (L := fun k => []) (fun k => lokNil) (fun k x => shape_edged.eq k x.1)

theorem shape_Fields.env : EnvOk Proofs.Try.prog shape_Fields.C := show EnvL Proofs.Try.prog [shape_between.S, shape_edged.S, shape_Fields_1.S] from (envCons shape_between.snd (envCons shape_edged.snd (envCons shape_Fields_1.snd envNil)))
theorem shape_Fields.jl4 {R : Type} (k : Nat) : LCs Proofs.Try.prog shape_Fields.C (joinOf Proofs.Try.f11 4) (shape_Fields.J4 (R := R) k) :=
  once_sound mixed (tisOk tisT) shape_Fields.env (k := k) (L := []) (n := 0) (inn := (shape_Fields.J4 (R := R) k).inn) (outs := (shape_Fields.J4 (R := R) k).outs) lokNil (fun x e => shape_Fields.join4 k x.2.1.1 x.2.1.2.1 x.2.1.2.2.1 x.2.1.2.2.2.1 x.2.1.2.2.2.2.1 x.2.1.2.2.2.2.2.1 x.2.1.2.2.2.2.2.2.1 x.2.1.2.2.2.2.2.2.2.1 x.2.1.2.2.2.2.2.2.2.2.1 x.2.1.2.2.2.2.2.2.2.2.2.1 x.2.1.2.2.2.2.2.2.2.2.2.2.1 x.2.1.2.2.2.2.2.2.2.2.2.2.2.1 x.2.1.2.2.2.2.2.2.2.2.2.2.2.2.1 x.2.1.2.2.2.2.2.2.2.2.2.2.2.2.2.1 x.2.1.2.2.2.2.2.2.2.2.2.2.2.2.2.2.1 x.2.1.2.2.2.2.2.2.2.2.2.2.2.2.2.2.2.1 x.2.1.2.2.2.2.2.2.2.2.2.2.2.2.2.2.2.2.1 x.2.1.2.2.2.2.2.2.2.2.2.2.2.2.2.2.2.2.2.1 x.2.2.1.1 (fun u0 => e ((u0, ()), ()))) (fun x e => (shape_Fields.q4 k x.2.1.1 x.2.1.2.1 x.2.1.2.2.1 x.2.1.2.2.2.1 x.2.1.2.2.2.2.1 x.2.1.2.2.2.2.2.1 x.2.1.2.2.2.2.2.2.1 x.2.1.2.2.2.2.2.2.2.1 x.2.1.2.2.2.2.2.2.2.2.1 x.2.1.2.2.2.2.2.2.2.2.2.1 x.2.1.2.2.2.2.2.2.2.2.2.2.1 x.2.1.2.2.2.2.2.2.2.2.2.2.2.1 x.2.1.2.2.2.2.2.2.2.2.2.2.2.2.1 x.2.1.2.2.2.2.2.2.2.2.2.2.2.2.2.1 x.2.1.2.2.2.2.2.2.2.2.2.2.2.2.2.2.1 x.2.1.2.2.2.2.2.2.2.2.2.2.2.2.2.2.2.1 x.2.1.2.2.2.2.2.2.2.2.2.2.2.2.2.2.2.2.1 x.2.1.2.2.2.2.2.2.2.2.2.2.2.2.2.2.2.2.2.1 x.2.2.1.1 e).symm) 9
theorem shape_Fields.snd : FSound Proofs.Try.prog shape_Fields.S :=
  fun_sound (C := shape_Fields.C) (S := shape_Fields.S) (fn := Proofs.Try.f11) (c := bodyOf Proofs.Try.f11) mixed (tisOk tisT) shape_Fields.env Proofs.Try.func11 (by kernel_rfl) (by kernel_rfl) (L := fun k => [shape_Fields.J4 k]) (fun k => (lokConsJ 4 (lc := shape_Fields.J4 k) (c0 := joinOf Proofs.Try.f11 4) (by kernel_rfl) (by kernel_rfl) (shape_Fields.jl4 k) lokNil)) (fun k x => shape_Fields.eq k x.1)

theorem extent_Mul.env : EnvOk Proofs.Try.prog extent_Mul.C := show EnvL Proofs.Try.prog [] from envNil
theorem extent_Mul.snd : FSound Proofs.Try.prog extent_Mul.S :=
  fun_sound (C := extent_Mul.C) (S := extent_Mul.S) (fn := Proofs.Try.f35) (c := bodyOf Proofs.Try.f35) mixed (tisOk tisT) extent_Mul.env Proofs.Try.func35 (by kernel_rfl) (by kernel_rfl) (L := fun k => []) (fun k => lokNil) (fun k x => extent_Mul.eq k x.1 x.2.1 x.2.2.1)

theorem shape_Valid.env : EnvOk Proofs.Try.prog shape_Valid.C := show EnvL Proofs.Try.prog [extent_Mul.S, shape_between.S] from (envCons extent_Mul.snd (envCons shape_between.snd envNil))
theorem shape_Valid.snd : FSound Proofs.Try.prog shape_Valid.S :=
  fun_sound (C := shape_Valid.C) (S := shape_Valid.S) (fn := Proofs.Try.f16) (c := bodyOf Proofs.Try.f16) mixed (tisOk tisT) shape_Valid.env Proofs.Try.func16 (by kernel_rfl) (by kernel_rfl) (L := fun k => []) (fun k => lokNil) (fun k x => shape_Valid.eq k x.1)

theorem shape_two.env : EnvOk Proofs.Try.prog shape_two.C := show EnvL Proofs.Try.prog [] from envNil
theorem shape_two.snd : FSound Proofs.Try.prog shape_two.S :=
  fun_sound (C := shape_two.C) (S := shape_two.S) (fn := Proofs.Try.f25) (c := bodyOf Proofs.Try.f25) mixed (tisOk tisT) shape_two.env Proofs.Try.func25 (by kernel_rfl) (by kernel_rfl) (L := fun k => []) (fun k => lokNil) (fun k x => shape_two.eq k x.1)

theorem border_Valid.env : EnvOk Proofs.Try.prog border_Valid.C := show EnvL Proofs.Try.prog [] from envNil
theorem border_Valid.snd : FSound Proofs.Try.prog border_Valid.S :=
  fun_sound (C := border_Valid.C) (S := border_Valid.S) (fn := Proofs.Try.f27) (c := bodyOf Proofs.Try.f27) mixed (tisOk tisT) border_Valid.env Proofs.Try.func27 (by kernel_rfl) (by kernel_rfl) (L := fun k => []) (fun k => lokNil) (fun k x => border_Valid.eq k x.1 x.2.1)

theorem convolve_kernel.env : EnvOk Proofs.Try.prog convolve_kernel.C := show EnvL Proofs.Try.prog [] from envNil
theorem convolve_kernel.snd : FSound Proofs.Try.prog convolve_kernel.S :=
  fun_sound (C := convolve_kernel.C) (S := convolve_kernel.S) (fn := Proofs.Try.f55) (c := bodyOf Proofs.Try.f55) mixed (tisOk tisT) convolve_kernel.env Proofs.Try.func55 (by kernel_rfl) (by kernel_rfl) (L := fun k => []) (fun k => lokNil) (fun k x => convolve_kernel.eq k x.1)

theorem fixed_Weights.env : EnvOk Proofs.Try.prog fixed_Weights.C := show EnvL Proofs.Try.prog [] from envNil
theorem fixed_Weights.l0 {R : Type} (k : Nat) : LCs Proofs.Try.prog fixed_Weights.C (.loop (loopOf Proofs.Try.f56 0)) (fixed_Weights.L0 (R := R) k) :=
  loop_sound mixed (tisOk tisT) fixed_Weights.env (k := k) (L := []) (n := 1) (inn := (fixed_Weights.L0 (R := R) k).inn) (outs := (fixed_Weights.L0 (R := R) k).outs) lokNil (fun j x e => fixed_Weights.loop0 k j x.1.1 x.1.2.1 x.1.2.2.1 (fun u0 => e (.inl ((u0, ()), ()))) (fun _ => e (.inr (((), ()))))) (fun _ _ => rfl) (fun j x e => (fixed_Weights.r0 k j x.1.1 x.1.2.1 x.1.2.2.1 e).symm) 0 k
theorem fixed_Weights.snd : FSound Proofs.Try.prog fixed_Weights.S :=
  fun_sound (C := fixed_Weights.C) (S := fixed_Weights.S) (fn := Proofs.Try.f56) (c := bodyOf Proofs.Try.f56) mixed (tisOk tisT) fixed_Weights.env Proofs.Try.func56 (by kernel_rfl) (by kernel_rfl) (L := fun k => [fixed_Weights.L0 k]) (fun k => (lokCons 0 (lc := fixed_Weights.L0 k) (c0 := loopOf Proofs.Try.f56 0) (by kernel_rfl) (by kernel_rfl) (fixed_Weights.l0 k) lokNil)) (fun k x => fixed_Weights.eq k x.1)

theorem convolve_value.env : EnvOk Proofs.Try.prog convolve_value.C := show EnvL Proofs.Try.prog [] from envNil
theorem convolve_value.snd : FSound Proofs.Try.prog convolve_value.S :=
  fun_sound (C := convolve_value.C) (S := convolve_value.S) (fn := Proofs.Try.f57) (c := bodyOf Proofs.Try.f57) mixed (tisOk tisT) convolve_value.env Proofs.Try.func57 (by kernel_rfl) (by kernel_rfl) (L := fun k => []) (fun k => lokNil) (fun k x => convolve_value.eq k x.1)

theorem fixed_wide_add.env : EnvOk Proofs.Try.prog fixed_wide_add.C := show EnvL Proofs.Try.prog [] from envNil
theorem fixed_wide_add.snd : FSound Proofs.Try.prog fixed_wide_add.S :=
  fun_sound (C := fixed_wide_add.C) (S := fixed_wide_add.S) (fn := Proofs.Try.f82) (c := bodyOf Proofs.Try.f82) mixed (tisOk tisT) fixed_wide_add.env Proofs.Try.func82 (by kernel_rfl) (by kernel_rfl) (L := fun k => []) (fun k => lokNil) (fun k x => fixed_wide_add.eq k x.1 x.2.1)

theorem fixed_sum.env : EnvOk Proofs.Try.prog fixed_sum.C := show EnvL Proofs.Try.prog [] from envNil
theorem fixed_sum.snd : FSound Proofs.Try.prog fixed_sum.S :=
  fun_sound (C := fixed_sum.C) (S := fixed_sum.S) (fn := Proofs.Try.f96) (c := bodyOf Proofs.Try.f96) mixed (tisOk tisT) fixed_sum.env Proofs.Try.func96 (by kernel_rfl) (by kernel_rfl) (L := fun k => []) (fun k => lokNil) (fun k x => fixed_sum.eq k x.1)

theorem fixed_wide_value.env : EnvOk Proofs.Try.prog fixed_wide_value.C := show EnvL Proofs.Try.prog [fixed_sum.S] from (envCons fixed_sum.snd envNil)
theorem fixed_wide_value.snd : FSound Proofs.Try.prog fixed_wide_value.S :=
  fun_sound (C := fixed_wide_value.C) (S := fixed_wide_value.S) (fn := Proofs.Try.f83) (c := bodyOf Proofs.Try.f83) mixed (tisOk tisT) fixed_wide_value.env Proofs.Try.func83 (by kernel_rfl) (by kernel_rfl) (L := fun k => []) (fun k => lokNil) (fun k x => fixed_wide_value.eq k x.1)

theorem fixed_Bounds.env : EnvOk Proofs.Try.prog fixed_Bounds.C := show EnvL Proofs.Try.prog [fixed_Weights.S, fixed_wide_add.S, fixed_wide_value.S] from (envCons fixed_Weights.snd (envCons fixed_wide_add.snd (envCons fixed_wide_value.snd envNil)))
theorem fixed_Bounds.l0 {R : Type} (k : Nat) : LCs Proofs.Try.prog fixed_Bounds.C (.loop (loopOf Proofs.Try.f58 0)) (fixed_Bounds.L0 (R := R) k) :=
  loop_sound mixed (tisOk tisT) fixed_Bounds.env (k := k) (L := []) (n := 1) (inn := (fixed_Bounds.L0 (R := R) k).inn) (outs := (fixed_Bounds.L0 (R := R) k).outs) lokNil (fun j x e => fixed_Bounds.loop0 k j x.1.1 x.1.2.1 x.1.2.2.1 x.1.2.2.2.1 x.1.2.2.2.2.1 x.2.1.1 x.2.1.2.1 x.2.2.1.1 x.2.2.1.2.1 (fun u0 u1 u2 u3 => e ((), ((u0, u1, ()), (u2, u3, ()), ())))) (fun _ _ => rfl) (fun j x e => (fixed_Bounds.r0 k j x.1.1 x.1.2.1 x.1.2.2.1 x.1.2.2.2.1 x.1.2.2.2.2.1 x.2.1.1 x.2.1.2.1 x.2.2.1.1 x.2.2.1.2.1 e).symm) 0 k
theorem fixed_Bounds.snd : FSound Proofs.Try.prog fixed_Bounds.S :=
  fun_sound (C := fixed_Bounds.C) (S := fixed_Bounds.S) (fn := Proofs.Try.f58) (c := bodyOf Proofs.Try.f58) mixed (tisOk tisT) fixed_Bounds.env Proofs.Try.func58 (by kernel_rfl) (by kernel_rfl) (L := fun k => [fixed_Bounds.L0 k]) (fun k => (lokCons 0 (lc := fixed_Bounds.L0 k) (c0 := loopOf Proofs.Try.f58 0) (by kernel_rfl) (by kernel_rfl) (fixed_Bounds.l0 k) lokNil)) (fun k x => fixed_Bounds.eq k x.1 x.2.1 x.2.2.1)

theorem convolve_Check.env : EnvOk Proofs.Try.prog convolve_Check.C := show EnvL Proofs.Try.prog [convolve_kernel.S, fixed_Weights.S, convolve_value.S, fixed_Bounds.S] from (envCons convolve_kernel.snd (envCons fixed_Weights.snd (envCons convolve_value.snd (envCons fixed_Bounds.snd envNil))))
theorem convolve_Check.snd : FSound Proofs.Try.prog convolve_Check.S :=
  fun_sound (C := convolve_Check.C) (S := convolve_Check.S) (fn := Proofs.Try.f41) (c := bodyOf Proofs.Try.f41) mixed (tisOk tisT) convolve_Check.env Proofs.Try.func41 (by kernel_rfl) (by kernel_rfl) (L := fun k => []) (fun k => lokNil) (fun k x => convolve_Check.eq k x.1 x.2.1 x.2.2.1 x.2.2.2.1 x.2.2.2.2.1 x.2.2.2.2.2.1)

theorem separable_shiftable.env : EnvOk Proofs.Try.prog separable_shiftable.C := show EnvL Proofs.Try.prog [] from envNil
theorem separable_shiftable.snd : FSound Proofs.Try.prog separable_shiftable.S :=
  fun_sound (C := separable_shiftable.C) (S := separable_shiftable.S) (fn := Proofs.Try.f59) (c := bodyOf Proofs.Try.f59) mixed (tisOk tisT) separable_shiftable.env Proofs.Try.func59 (by kernel_rfl) (by kernel_rfl) (L := fun k => []) (fun k => lokNil) (fun k x => separable_shiftable.eq k x.1)

theorem separable_value.env : EnvOk Proofs.Try.prog separable_value.C := show EnvL Proofs.Try.prog [] from envNil
theorem separable_value.snd : FSound Proofs.Try.prog separable_value.S :=
  fun_sound (C := separable_value.C) (S := separable_value.S) (fn := Proofs.Try.f60) (c := bodyOf Proofs.Try.f60) mixed (tisOk tisT) separable_value.env Proofs.Try.func60 (by kernel_rfl) (by kernel_rfl) (L := fun k => []) (fun k => lokNil) (fun k x => separable_value.eq k x.1)

theorem fixed_Shift.env : EnvOk Proofs.Try.prog fixed_Shift.C := show EnvL Proofs.Try.prog [fixed_sum.S] from (envCons fixed_sum.snd envNil)
theorem fixed_Shift.snd : FSound Proofs.Try.prog fixed_Shift.S :=
  fun_sound (C := fixed_Shift.C) (S := fixed_Shift.S) (fn := Proofs.Try.f84) (c := bodyOf Proofs.Try.f84) mixed (tisOk tisT) fixed_Shift.env Proofs.Try.func84 (by kernel_rfl) (by kernel_rfl) (L := fun k => []) (fun k => lokNil) (fun k x => fixed_Shift.eq k x.1 x.2.1)

theorem fixed_Span.env : EnvOk Proofs.Try.prog fixed_Span.C := show EnvL Proofs.Try.prog [fixed_Shift.S] from (envCons fixed_Shift.snd envNil)
theorem fixed_Span.snd : FSound Proofs.Try.prog fixed_Span.S :=
  fun_sound (C := fixed_Span.C) (S := fixed_Span.S) (fn := Proofs.Try.f61) (c := bodyOf Proofs.Try.f61) mixed (tisOk tisT) fixed_Span.env Proofs.Try.func61 (by kernel_rfl) (by kernel_rfl) (L := fun k => []) (fun k => lokNil) (fun k x => fixed_Span.eq k x.1 x.2.1 x.2.2.1)

theorem separable_Check.env : EnvOk Proofs.Try.prog separable_Check.C := show EnvL Proofs.Try.prog [fixed_Weights.S, separable_shiftable.S, separable_value.S, fixed_Bounds.S, fixed_Span.S] from (envCons fixed_Weights.snd (envCons separable_shiftable.snd (envCons separable_value.snd (envCons fixed_Bounds.snd (envCons fixed_Span.snd envNil)))))
theorem separable_Check.jl3 {R : Type} (k : Nat) : LCs Proofs.Try.prog separable_Check.C (joinOf Proofs.Try.f42 3) (separable_Check.J3 (R := R) k) :=
  once_sound mixed (tisOk tisT) separable_Check.env (k := k) (L := []) (n := 0) (inn := (separable_Check.J3 (R := R) k).inn) (outs := (separable_Check.J3 (R := R) k).outs) lokNil (fun x e => separable_Check.join3 k x.1.1 x.1.2.1 x.1.2.2.1 x.1.2.2.2.1 x.1.2.2.2.2.1 x.1.2.2.2.2.2.1 (fun u0 => e ((u0, ()), ()))) (fun x e => (separable_Check.q3 k x.1.1 x.1.2.1 x.1.2.2.1 x.1.2.2.2.1 x.1.2.2.2.2.1 x.1.2.2.2.2.2.1 e).symm) 7
theorem separable_Check.snd : FSound Proofs.Try.prog separable_Check.S :=
  fun_sound (C := separable_Check.C) (S := separable_Check.S) (fn := Proofs.Try.f42) (c := bodyOf Proofs.Try.f42) mixed (tisOk tisT) separable_Check.env Proofs.Try.func42 (by kernel_rfl) (by kernel_rfl) (L := fun k => [separable_Check.J3 k]) (fun k => (lokConsJ 3 (lc := separable_Check.J3 k) (c0 := joinOf Proofs.Try.f42 3) (by kernel_rfl) (by kernel_rfl) (separable_Check.jl3 k) lokNil)) (fun k x => separable_Check.eq k x.1 x.2.1 x.2.2.1 x.2.2.2.1 x.2.2.2.2.1 x.2.2.2.2.2.1)

theorem tables_side.env : EnvOk Proofs.Try.prog tables_side.C := show EnvL Proofs.Try.prog [] from envNil
theorem tables_side.snd : FSound Proofs.Try.prog tables_side.S :=
  fun_sound (C := tables_side.C) (S := tables_side.S) (fn := Proofs.Try.f85) (c := bodyOf Proofs.Try.f85) mixed (tisOk tisT) tables_side.env Proofs.Try.func85 (by kernel_rfl) (by kernel_rfl) (L := fun k => []) (fun k => lokNil) (fun k x => tables_side.eq k x.1)

theorem tables_first.env : EnvOk Proofs.Try.prog tables_first.C := show EnvL Proofs.Try.prog [] from envNil
theorem tables_first.snd : FSound Proofs.Try.prog tables_first.S :=
  fun_sound (C := tables_first.C) (S := tables_first.S) (fn := Proofs.Try.f86) (c := bodyOf Proofs.Try.f86) mixed (tisOk tisT) tables_first.env Proofs.Try.func86 (by kernel_rfl) (by kernel_rfl) (L := fun k => []) (fun k => lokNil) (fun k x => tables_first.eq k x.1)

theorem tables_Valid.env : EnvOk Proofs.Try.prog tables_Valid.C := show EnvL Proofs.Try.prog [tables_side.S, tables_first.S] from (envCons tables_side.snd (envCons tables_first.snd envNil))
theorem tables_Valid.l1 {R : Type} (k : Nat) : LCs Proofs.Try.prog tables_Valid.C (.loop (loopOf Proofs.Try.f62 1)) (tables_Valid.L1 (R := R) k) :=
  loop_sound mixed (tisOk tisT) tables_Valid.env (k := k) (L := []) (n := 2) (inn := (tables_Valid.L1 (R := R) k).inn) (outs := (tables_Valid.L1 (R := R) k).outs) lokNil (fun j x e => tables_Valid.loop1 k j x.1.1 x.1.2.1 x.1.2.2.1 (fun u0 => e (.inl ((u0, ()), ()))) (fun _ => e (.inr (((), ()))))) (fun _ _ => rfl) (fun j x e => (tables_Valid.r1 k j x.1.1 x.1.2.1 x.1.2.2.1 e).symm) 2 k
theorem tables_Valid.l0 {R : Type} (k : Nat) : LCs Proofs.Try.prog tables_Valid.C (.loop (loopOf Proofs.Try.f62 0)) (tables_Valid.L0 (R := R) k) :=
  loop_sound mixed (tisOk tisT) tables_Valid.env (k := k) (L := [tables_Valid.L1 k]) (n := 1) (inn := (tables_Valid.L0 (R := R) k).inn) (outs := (tables_Valid.L0 (R := R) k).outs) (lokCons 1 (lc := tables_Valid.L1 k) (c0 := loopOf Proofs.Try.f62 1) (by kernel_rfl) (by kernel_rfl) (tables_Valid.l1 k) lokNil) (fun j x e => tables_Valid.loop0 k j x.1.1 x.1.2.1 x.1.2.2.1 (fun u0 => e (.inl ((u0, ()), ()))) (fun _ => e (.inr (((), ()))))) (fun _ _ => rfl) (fun j x e => (tables_Valid.r0 k j x.1.1 x.1.2.1 x.1.2.2.1 e).symm) 0 k
theorem tables_Valid.snd : FSound Proofs.Try.prog tables_Valid.S :=
  fun_sound (C := tables_Valid.C) (S := tables_Valid.S) (fn := Proofs.Try.f62) (c := bodyOf Proofs.Try.f62) mixed (tisOk tisT) tables_Valid.env Proofs.Try.func62 (by kernel_rfl) (by kernel_rfl) (L := fun k => [tables_Valid.L1 k, tables_Valid.L0 k]) (fun k => (lokCons 1 (lc := tables_Valid.L1 k) (c0 := loopOf Proofs.Try.f62 1) (by kernel_rfl) (by kernel_rfl) (tables_Valid.l1 k) (lokCons 0 (lc := tables_Valid.L0 k) (c0 := loopOf Proofs.Try.f62 0) (by kernel_rfl) (by kernel_rfl) (tables_Valid.l0 k) lokNil))) (fun k x => tables_Valid.eq k x.1 x.2.1)

theorem resize_shiftable.env : EnvOk Proofs.Try.prog resize_shiftable.C := show EnvL Proofs.Try.prog [] from envNil
theorem resize_shiftable.snd : FSound Proofs.Try.prog resize_shiftable.S :=
  fun_sound (C := resize_shiftable.C) (S := resize_shiftable.S) (fn := Proofs.Try.f63) (c := bodyOf Proofs.Try.f63) mixed (tisOk tisT) resize_shiftable.env Proofs.Try.func63 (by kernel_rfl) (by kernel_rfl) (L := fun k => []) (fun k => lokNil) (fun k x => resize_shiftable.eq k x.1)

theorem resize_value.env : EnvOk Proofs.Try.prog resize_value.C := show EnvL Proofs.Try.prog [] from envNil
theorem resize_value.snd : FSound Proofs.Try.prog resize_value.S :=
  fun_sound (C := resize_value.C) (S := resize_value.S) (fn := Proofs.Try.f64) (c := bodyOf Proofs.Try.f64) mixed (tisOk tisT) resize_value.env Proofs.Try.func64 (by kernel_rfl) (by kernel_rfl) (L := fun k => []) (fun k => lokNil) (fun k x => resize_value.eq k x.1)

theorem resize_Check.env : EnvOk Proofs.Try.prog resize_Check.C := show EnvL Proofs.Try.prog [tables_Valid.S, extent_Mul.S, resize_shiftable.S, resize_value.S, fixed_Bounds.S, fixed_Span.S] from (envCons tables_Valid.snd (envCons extent_Mul.snd (envCons resize_shiftable.snd (envCons resize_value.snd (envCons fixed_Bounds.snd (envCons fixed_Span.snd envNil))))))
theorem resize_Check.l0 {R : Type} (k : Nat) : LCs Proofs.Try.prog resize_Check.C (.loop (loopOf Proofs.Try.f43 0)) (resize_Check.L0 (R := R) k) :=
  loop_sound mixed (tisOk tisT) resize_Check.env (k := k) (L := []) (n := 1) (inn := (resize_Check.L0 (R := R) k).inn) (outs := (resize_Check.L0 (R := R) k).outs) lokNil (fun j x e => resize_Check.loop0 k j x.1.1 x.1.2.1 x.1.2.2.1 x.1.2.2.2.1 x.1.2.2.2.2.1 x.1.2.2.2.2.2.1 x.2.1.1 x.2.1.2.1 x.2.1.2.2.1 (fun u0 => e (.inl ((u0, ()), ()))) (fun u0 u1 => e (.inr (((u0, u1, ()), ()))))) (fun _ _ => rfl) (fun j x e => (resize_Check.r0 k j x.1.1 x.1.2.1 x.1.2.2.1 x.1.2.2.2.1 x.1.2.2.2.2.1 x.1.2.2.2.2.2.1 x.2.1.1 x.2.1.2.1 x.2.1.2.2.1 e).symm) 0 k
theorem resize_Check.l1 {R : Type} (k : Nat) : LCs Proofs.Try.prog resize_Check.C (.loop (loopOf Proofs.Try.f43 1)) (resize_Check.L1 (R := R) k) :=
  loop_sound mixed (tisOk tisT) resize_Check.env (k := k) (L := []) (n := 2) (inn := (resize_Check.L1 (R := R) k).inn) (outs := (resize_Check.L1 (R := R) k).outs) lokNil (fun j x e => resize_Check.loop1 k j x.1.1 x.1.2.1 x.1.2.2.1 x.1.2.2.2.1 x.1.2.2.2.2.1 (fun u0 => e (.inl ((u0, ()), ()))) (fun _ => e (.inr (((), ()))))) (fun _ _ => rfl) (fun j x e => (resize_Check.r1 k j x.1.1 x.1.2.1 x.1.2.2.1 x.1.2.2.2.1 x.1.2.2.2.2.1 e).symm) 2 k
theorem resize_Check.snd : FSound Proofs.Try.prog resize_Check.S :=
  fun_sound (C := resize_Check.C) (S := resize_Check.S) (fn := Proofs.Try.f43) (c := bodyOf Proofs.Try.f43) mixed (tisOk tisT) resize_Check.env Proofs.Try.func43 (by kernel_rfl) (by kernel_rfl) (L := fun k => [resize_Check.L0 k, resize_Check.L1 k]) (fun k => (lokCons 0 (lc := resize_Check.L0 k) (c0 := loopOf Proofs.Try.f43 0) (by kernel_rfl) (by kernel_rfl) (resize_Check.l0 k) (lokCons 1 (lc := resize_Check.L1 k) (c0 := loopOf Proofs.Try.f43 1) (by kernel_rfl) (by kernel_rfl) (resize_Check.l1 k) lokNil))) (fun k x => resize_Check.eq k x.1 x.2.1 x.2.2.1 x.2.2.2.1 x.2.2.2.2.1 x.2.2.2.2.2.1)

theorem integral_most.env : EnvOk Proofs.Try.prog integral_most.C := show EnvL Proofs.Try.prog [extent_Mul.S] from (envCons extent_Mul.snd envNil)
theorem integral_most.snd : FSound Proofs.Try.prog integral_most.S :=
  fun_sound (C := integral_most.C) (S := integral_most.S) (fn := Proofs.Try.f65) (c := bodyOf Proofs.Try.f65) mixed (tisOk tisT) integral_most.env Proofs.Try.func65 (by kernel_rfl) (by kernel_rfl) (L := fun k => []) (fun k => lokNil) (fun k x => integral_most.eq k x.1)

theorem integral_Check.env : EnvOk Proofs.Try.prog integral_Check.C := show EnvL Proofs.Try.prog [integral_most.S] from (envCons integral_most.snd envNil)
theorem integral_Check.snd : FSound Proofs.Try.prog integral_Check.S :=
  fun_sound (C := integral_Check.C) (S := integral_Check.S) (fn := Proofs.Try.f44) (c := bodyOf Proofs.Try.f44) mixed (tisOk tisT) integral_Check.env Proofs.Try.func44 (by kernel_rfl) (by kernel_rfl) (L := fun k => []) (fun k => lokNil) (fun k x => integral_Check.eq k x.1)

theorem pointwise_between.env : EnvOk Proofs.Try.prog pointwise_between.C := show EnvL Proofs.Try.prog [] from envNil
theorem pointwise_between.snd : FSound Proofs.Try.prog pointwise_between.S :=
  fun_sound (C := pointwise_between.C) (S := pointwise_between.S) (fn := Proofs.Try.f66) (c := bodyOf Proofs.Try.f66) mixed (tisOk tisT) pointwise_between.env Proofs.Try.func66 (by kernel_rfl) (by kernel_rfl) (L := fun k => []) (fun k => lokNil) (fun k x => pointwise_between.eq k x.1 x.2.1 x.2.2.1)

theorem pointwise_takes.env : EnvOk Proofs.Try.prog pointwise_takes.C := show EnvL Proofs.Try.prog [] from envNil
theorem pointwise_takes.snd : FSound Proofs.Try.prog pointwise_takes.S :=
  fun_sound (C := pointwise_takes.C) (S := pointwise_takes.S) (fn := Proofs.Try.f67) (c := bodyOf Proofs.Try.f67) mixed (tisOk tisT) pointwise_takes.env Proofs.Try.func67 (by kernel_rfl) (by kernel_rfl) (L := fun k => []) (fun k => lokNil) (fun k x => pointwise_takes.eq k x.1)

theorem pointwise_argument.env : EnvOk Proofs.Try.prog pointwise_argument.C := show EnvL Proofs.Try.prog [pointwise_between.S] from (envCons pointwise_between.snd envNil)
theorem pointwise_argument.snd : FSound Proofs.Try.prog pointwise_argument.S :=
  fun_sound (C := pointwise_argument.C) (S := pointwise_argument.S) (fn := Proofs.Try.f68) (c := bodyOf Proofs.Try.f68) mixed (tisOk tisT) pointwise_argument.env Proofs.Try.func68 (by kernel_rfl) (by kernel_rfl) (L := fun k => []) (fun k => lokNil) (fun k x => pointwise_argument.eq k x.1)

theorem pointwise_Valid.env : EnvOk Proofs.Try.prog pointwise_Valid.C := show EnvL Proofs.Try.prog [pointwise_between.S, pointwise_takes.S, pointwise_argument.S] from (envCons pointwise_between.snd (envCons pointwise_takes.snd (envCons pointwise_argument.snd envNil)))
theorem pointwise_Valid.l0 {R : Type} (k : Nat) : LCs Proofs.Try.prog pointwise_Valid.C (.loop (loopOf Proofs.Try.f45 0)) (pointwise_Valid.L0 (R := R) k) :=
  loop_sound mixed (tisOk tisT) pointwise_Valid.env (k := k) (L := []) (n := 1) (inn := (pointwise_Valid.L0 (R := R) k).inn) (outs := (pointwise_Valid.L0 (R := R) k).outs) lokNil (fun j x e => pointwise_Valid.loop0 k j x.1.1 x.1.2.1 x.1.2.2.1 x.1.2.2.2.1 x.1.2.2.2.2.1 (fun u0 => e (.inl ((u0, ()), ()))) (fun u0 => e (.inr (((u0, ()), ()))))) (fun _ _ => rfl) (fun j x e => (pointwise_Valid.r0 k j x.1.1 x.1.2.1 x.1.2.2.1 x.1.2.2.2.1 x.1.2.2.2.2.1 e).symm) 0 k
theorem pointwise_Valid.snd : FSound Proofs.Try.prog pointwise_Valid.S :=
  fun_sound (C := pointwise_Valid.C) (S := pointwise_Valid.S) (fn := Proofs.Try.f45) (c := bodyOf Proofs.Try.f45) mixed (tisOk tisT) pointwise_Valid.env Proofs.Try.func45 (by kernel_rfl) (by kernel_rfl) (L := fun k => [pointwise_Valid.L0 k]) (fun k => (lokCons 0 (lc := pointwise_Valid.L0 k) (c0 := loopOf Proofs.Try.f45 0) (by kernel_rfl) (by kernel_rfl) (pointwise_Valid.l0 k) lokNil)) (fun k x => pointwise_Valid.eq k x.1 x.2.1)

theorem pointwise_abs.env : EnvOk Proofs.Try.prog pointwise_abs.C := show EnvL Proofs.Try.prog [] from envNil
theorem pointwise_abs.snd : FSound Proofs.Try.prog pointwise_abs.S :=
  fun_sound (C := pointwise_abs.C) (S := pointwise_abs.S) (fn := Proofs.Try.f69) (c := bodyOf Proofs.Try.f69) mixed (tisOk tisT) pointwise_abs.env Proofs.Try.func69 (by kernel_rfl) (by kernel_rfl) (L := fun k => []) (fun k => lokNil) (fun k x => pointwise_abs.eq k x.1)

theorem pointwise_times.env : EnvOk Proofs.Try.prog pointwise_times.C := show EnvL Proofs.Try.prog [pointwise_abs.S] from (envCons pointwise_abs.snd envNil)
theorem pointwise_times.snd : FSound Proofs.Try.prog pointwise_times.S :=
  fun_sound (C := pointwise_times.C) (S := pointwise_times.S) (fn := Proofs.Try.f87) (c := bodyOf Proofs.Try.f87) mixed (tisOk tisT) pointwise_times.env Proofs.Try.func87 (by kernel_rfl) (by kernel_rfl) (L := fun k => []) (fun k => lokNil) (fun k x => pointwise_times.eq k x.1 x.2.1)

theorem pointwise_combined.env : EnvOk Proofs.Try.prog pointwise_combined.C := show EnvL Proofs.Try.prog [pointwise_times.S, pointwise_abs.S] from (envCons pointwise_times.snd (envCons pointwise_abs.snd envNil))
theorem pointwise_combined.snd : FSound Proofs.Try.prog pointwise_combined.S :=
  fun_sound (C := pointwise_combined.C) (S := pointwise_combined.S) (fn := Proofs.Try.f70) (c := bodyOf Proofs.Try.f70) mixed (tisOk tisT) pointwise_combined.env Proofs.Try.func70 (by kernel_rfl) (by kernel_rfl) (L := fun k => []) (fun k => lokNil) (fun k x => pointwise_combined.eq k x.1 x.2.1 x.2.2.1)

theorem pointwise_sum.env : EnvOk Proofs.Try.prog pointwise_sum.C := show EnvL Proofs.Try.prog [pointwise_between.S] from (envCons pointwise_between.snd envNil)
theorem pointwise_sum.snd : FSound Proofs.Try.prog pointwise_sum.S :=
  fun_sound (C := pointwise_sum.C) (S := pointwise_sum.S) (fn := Proofs.Try.f71) (c := bodyOf Proofs.Try.f71) mixed (tisOk tisT) pointwise_sum.env Proofs.Try.func71 (by kernel_rfl) (by kernel_rfl) (L := fun k => []) (fun k => lokNil) (fun k x => pointwise_sum.eq k x.1)

theorem pointwise_Interval.env : EnvOk Proofs.Try.prog pointwise_Interval.C := show EnvL Proofs.Try.prog [pointwise_Valid.S, pointwise_between.S, pointwise_takes.S, pointwise_sum.S, fixed_Span.S, pointwise_abs.S, pointwise_combined.S] from (envCons pointwise_Valid.snd (envCons pointwise_between.snd (envCons pointwise_takes.snd (envCons pointwise_sum.snd (envCons fixed_Span.snd (envCons pointwise_abs.snd (envCons pointwise_combined.snd envNil)))))))
theorem pointwise_Interval.l0 {R : Type} (k : Nat) : LCs Proofs.Try.prog pointwise_Interval.C (.loop (loopOf Proofs.Try.f46 0)) (pointwise_Interval.L0 (R := R) k) :=
  loop_sound mixed (tisOk tisT) pointwise_Interval.env (k := k) (L := []) (n := 1) (inn := (pointwise_Interval.L0 (R := R) k).inn) (outs := (pointwise_Interval.L0 (R := R) k).outs) lokNil (fun j x e => pointwise_Interval.loop0 k j x.1.1 x.1.2.1 x.1.2.2.1 x.1.2.2.2.1 x.1.2.2.2.2.1 x.2.1 (fun u0 u1 u2 => e (.inl ((u0, u1, u2, ()), ()))) (fun u0 => e (.inr (((), (u0, ())))))) (fun _ _ => rfl) (fun j x e => (pointwise_Interval.r0 k j x.1.1 x.1.2.1 x.1.2.2.1 x.1.2.2.2.1 x.1.2.2.2.2.1 x.2.1 e).symm) 0 k
theorem pointwise_Interval.snd : FSound Proofs.Try.prog pointwise_Interval.S :=
  fun_sound (C := pointwise_Interval.C) (S := pointwise_Interval.S) (fn := Proofs.Try.f46) (c := bodyOf Proofs.Try.f46) mixed (tisOk tisT) pointwise_Interval.env Proofs.Try.func46 (by kernel_rfl) (by kernel_rfl) (L := fun k => [pointwise_Interval.L0 k]) (fun k => (lokCons 0 (lc := pointwise_Interval.L0 k) (c0 := loopOf Proofs.Try.f46 0) (by kernel_rfl) (by kernel_rfl) (pointwise_Interval.l0 k) lokNil)) (fun k x => pointwise_Interval.eq k x.1 x.2.1 x.2.2.1)

theorem shape_check.env : EnvOk Proofs.Try.prog shape_check.C := show EnvL Proofs.Try.prog [convolve_Check.S, separable_Check.S, resize_Check.S, shape_between.S, integral_Check.S, shape_two.S, pointwise_Valid.S, pointwise_Interval.S] from (envCons convolve_Check.snd (envCons separable_Check.snd (envCons resize_Check.snd (envCons shape_between.snd (envCons integral_Check.snd (envCons shape_two.snd (envCons pointwise_Valid.snd (envCons pointwise_Interval.snd envNil))))))))
theorem shape_check.snd : FSound Proofs.Try.prog shape_check.S :=
  fun_sound (C := shape_check.C) (S := shape_check.S) (fn := Proofs.Try.f28) (c := bodyOf Proofs.Try.f28) mixed (tisOk tisT) shape_check.env Proofs.Try.func28 (by kernel_rfl) (by kernel_rfl) (L := fun k => []) (fun k => lokNil) (fun k x => shape_check.eq k x.1 x.2.1 x.2.2.1)

theorem shape_Of.env : EnvOk Proofs.Try.prog shape_Of.C := show EnvL Proofs.Try.prog [shape_Fields.S, shape_Valid.S, shape_two.S, shape_edged.S, border_Valid.S, shape_check.S] from (envCons shape_Fields.snd (envCons shape_Valid.snd (envCons shape_two.snd (envCons shape_edged.snd (envCons border_Valid.snd (envCons shape_check.snd envNil))))))
theorem shape_Of.snd : FSound Proofs.Try.prog shape_Of.S :=
  fun_sound (C := shape_Of.C) (S := shape_Of.S) (fn := Proofs.Try.f9) (c := bodyOf Proofs.Try.f9) mixed (tisOk tisT) shape_Of.env Proofs.Try.func9 (by kernel_rfl) (by kernel_rfl) (L := fun k => []) (fun k => lokNil) (fun k x => shape_Of.eq k x.1 x.2.1 x.2.2.1)

theorem tilefarmref15_edged.env : EnvOk Proofs.Try.prog tilefarmref15_edged.C := show EnvL Proofs.Try.prog [] from envNil
theorem tilefarmref15_edged.snd : FSound Proofs.Try.prog tilefarmref15_edged.S :=
  fun_sound (C := tilefarmref15_edged.C) (S := tilefarmref15_edged.S) (fn := Proofs.Try.f30) (c := bodyOf Proofs.Try.f30) mixed (tisOk tisT) tilefarmref15_edged.env Proofs.Try.func30 (by kernel_rfl) (by kernel_rfl) (L := fun k => []) (fun k => lokNil) (fun k x => tilefarmref15_edged.eq k x.1)

theorem tilefarmref15_Fields.env : EnvOk Proofs.Try.prog tilefarmref15_Fields.C := show EnvL Proofs.Try.prog [tilefarmref15_edged.S] from (envCons tilefarmref15_edged.snd envNil)
theorem tilefarmref15_Fields.jl10 {R : Type} (k : Nat) : LCs Proofs.Try.prog tilefarmref15_Fields.C (joinOf Proofs.Try.f12 10) (tilefarmref15_Fields.J10 (R := R) k) :=
  once_sound mixed (tisOk tisT) tilefarmref15_Fields.env (k := k) (L := []) (n := 0) (inn := (tilefarmref15_Fields.J10 (R := R) k).inn) (outs := (tilefarmref15_Fields.J10 (R := R) k).outs) lokNil (fun x e => tilefarmref15_Fields.join10 k x.1.1 x.1.2.1 x.1.2.2.1 x.2.1.1 x.2.1.2.1 x.2.1.2.2.1 x.2.1.2.2.2.1 x.2.1.2.2.2.2.1 x.2.1.2.2.2.2.2.1 x.2.1.2.2.2.2.2.2.1 x.2.1.2.2.2.2.2.2.2.1 x.2.1.2.2.2.2.2.2.2.2.1 x.2.1.2.2.2.2.2.2.2.2.2.1 x.2.1.2.2.2.2.2.2.2.2.2.2.1 x.2.1.2.2.2.2.2.2.2.2.2.2.2.1 x.2.1.2.2.2.2.2.2.2.2.2.2.2.2.1 x.2.1.2.2.2.2.2.2.2.2.2.2.2.2.2.1 x.2.1.2.2.2.2.2.2.2.2.2.2.2.2.2.2.1 x.2.1.2.2.2.2.2.2.2.2.2.2.2.2.2.2.2.1 x.2.1.2.2.2.2.2.2.2.2.2.2.2.2.2.2.2.2.1 x.2.1.2.2.2.2.2.2.2.2.2.2.2.2.2.2.2.2.2.1 (fun _ => e (.inl ((), ()))) (fun u0 => e (.inr (((u0, ()), ()))))) (fun x e => (tilefarmref15_Fields.q10 k x.1.1 x.1.2.1 x.1.2.2.1 x.2.1.1 x.2.1.2.1 x.2.1.2.2.1 x.2.1.2.2.2.1 x.2.1.2.2.2.2.1 x.2.1.2.2.2.2.2.1 x.2.1.2.2.2.2.2.2.1 x.2.1.2.2.2.2.2.2.2.1 x.2.1.2.2.2.2.2.2.2.2.1 x.2.1.2.2.2.2.2.2.2.2.2.1 x.2.1.2.2.2.2.2.2.2.2.2.2.1 x.2.1.2.2.2.2.2.2.2.2.2.2.2.1 x.2.1.2.2.2.2.2.2.2.2.2.2.2.2.1 x.2.1.2.2.2.2.2.2.2.2.2.2.2.2.2.1 x.2.1.2.2.2.2.2.2.2.2.2.2.2.2.2.2.1 x.2.1.2.2.2.2.2.2.2.2.2.2.2.2.2.2.2.1 x.2.1.2.2.2.2.2.2.2.2.2.2.2.2.2.2.2.2.1 x.2.1.2.2.2.2.2.2.2.2.2.2.2.2.2.2.2.2.2.1 e).symm) 21
theorem tilefarmref15_Fields.jl9 {R : Type} (k : Nat) : LCs Proofs.Try.prog tilefarmref15_Fields.C (joinOf Proofs.Try.f12 9) (tilefarmref15_Fields.J9 (R := R) k) :=
  once_sound mixed (tisOk tisT) tilefarmref15_Fields.env (k := k) (L := [tilefarmref15_Fields.J10 k]) (n := 0) (inn := (tilefarmref15_Fields.J9 (R := R) k).inn) (outs := (tilefarmref15_Fields.J9 (R := R) k).outs) (lokConsJ 10 (lc := tilefarmref15_Fields.J10 k) (c0 := joinOf Proofs.Try.f12 10) (by kernel_rfl) (by kernel_rfl) (tilefarmref15_Fields.jl10 k) lokNil) (fun x e => tilefarmref15_Fields.join9 k x.1.1 x.1.2.1 x.1.2.2.1 x.2.1.1 x.2.1.2.1 x.2.1.2.2.1 x.2.1.2.2.2.1 x.2.1.2.2.2.2.1 x.2.1.2.2.2.2.2.1 x.2.1.2.2.2.2.2.2.1 x.2.1.2.2.2.2.2.2.2.1 x.2.1.2.2.2.2.2.2.2.2.1 x.2.1.2.2.2.2.2.2.2.2.2.1 x.2.1.2.2.2.2.2.2.2.2.2.2.1 x.2.1.2.2.2.2.2.2.2.2.2.2.2.1 x.2.1.2.2.2.2.2.2.2.2.2.2.2.2.1 x.2.1.2.2.2.2.2.2.2.2.2.2.2.2.2.1 x.2.1.2.2.2.2.2.2.2.2.2.2.2.2.2.2.1 x.2.1.2.2.2.2.2.2.2.2.2.2.2.2.2.2.2.1 x.2.1.2.2.2.2.2.2.2.2.2.2.2.2.2.2.2.2.1 x.2.1.2.2.2.2.2.2.2.2.2.2.2.2.2.2.2.2.2.1 (fun _ => e (.inl ((), ()))) (fun u0 => e (.inr (((u0, ()), ()))))) (fun x e => (tilefarmref15_Fields.q9 k x.1.1 x.1.2.1 x.1.2.2.1 x.2.1.1 x.2.1.2.1 x.2.1.2.2.1 x.2.1.2.2.2.1 x.2.1.2.2.2.2.1 x.2.1.2.2.2.2.2.1 x.2.1.2.2.2.2.2.2.1 x.2.1.2.2.2.2.2.2.2.1 x.2.1.2.2.2.2.2.2.2.2.1 x.2.1.2.2.2.2.2.2.2.2.2.1 x.2.1.2.2.2.2.2.2.2.2.2.2.1 x.2.1.2.2.2.2.2.2.2.2.2.2.2.1 x.2.1.2.2.2.2.2.2.2.2.2.2.2.2.1 x.2.1.2.2.2.2.2.2.2.2.2.2.2.2.2.1 x.2.1.2.2.2.2.2.2.2.2.2.2.2.2.2.2.1 x.2.1.2.2.2.2.2.2.2.2.2.2.2.2.2.2.2.1 x.2.1.2.2.2.2.2.2.2.2.2.2.2.2.2.2.2.2.1 x.2.1.2.2.2.2.2.2.2.2.2.2.2.2.2.2.2.2.2.1 e).symm) 19
theorem tilefarmref15_Fields.jl8 {R : Type} (k : Nat) : LCs Proofs.Try.prog tilefarmref15_Fields.C (joinOf Proofs.Try.f12 8) (tilefarmref15_Fields.J8 (R := R) k) :=
  once_sound mixed (tisOk tisT) tilefarmref15_Fields.env (k := k) (L := [tilefarmref15_Fields.J10 k, tilefarmref15_Fields.J9 k]) (n := 0) (inn := (tilefarmref15_Fields.J8 (R := R) k).inn) (outs := (tilefarmref15_Fields.J8 (R := R) k).outs) (lokConsJ 10 (lc := tilefarmref15_Fields.J10 k) (c0 := joinOf Proofs.Try.f12 10) (by kernel_rfl) (by kernel_rfl) (tilefarmref15_Fields.jl10 k) (lokConsJ 9 (lc := tilefarmref15_Fields.J9 k) (c0 := joinOf Proofs.Try.f12 9) (by kernel_rfl) (by kernel_rfl) (tilefarmref15_Fields.jl9 k) lokNil)) (fun x e => tilefarmref15_Fields.join8 k x.1.1 x.1.2.1 x.1.2.2.1 x.2.1.1 x.2.1.2.1 x.2.1.2.2.1 x.2.1.2.2.2.1 x.2.1.2.2.2.2.1 x.2.1.2.2.2.2.2.1 x.2.1.2.2.2.2.2.2.1 x.2.1.2.2.2.2.2.2.2.1 x.2.1.2.2.2.2.2.2.2.2.1 x.2.1.2.2.2.2.2.2.2.2.2.1 x.2.1.2.2.2.2.2.2.2.2.2.2.1 x.2.1.2.2.2.2.2.2.2.2.2.2.2.1 x.2.1.2.2.2.2.2.2.2.2.2.2.2.2.1 x.2.1.2.2.2.2.2.2.2.2.2.2.2.2.2.1 x.2.1.2.2.2.2.2.2.2.2.2.2.2.2.2.2.1 x.2.1.2.2.2.2.2.2.2.2.2.2.2.2.2.2.2.1 x.2.1.2.2.2.2.2.2.2.2.2.2.2.2.2.2.2.2.1 x.2.1.2.2.2.2.2.2.2.2.2.2.2.2.2.2.2.2.2.1 (fun _ => e (.inl ((), ()))) (fun u0 => e (.inr (((u0, ()), ()))))) (fun x e => (tilefarmref15_Fields.q8 k x.1.1 x.1.2.1 x.1.2.2.1 x.2.1.1 x.2.1.2.1 x.2.1.2.2.1 x.2.1.2.2.2.1 x.2.1.2.2.2.2.1 x.2.1.2.2.2.2.2.1 x.2.1.2.2.2.2.2.2.1 x.2.1.2.2.2.2.2.2.2.1 x.2.1.2.2.2.2.2.2.2.2.1 x.2.1.2.2.2.2.2.2.2.2.2.1 x.2.1.2.2.2.2.2.2.2.2.2.2.1 x.2.1.2.2.2.2.2.2.2.2.2.2.2.1 x.2.1.2.2.2.2.2.2.2.2.2.2.2.2.1 x.2.1.2.2.2.2.2.2.2.2.2.2.2.2.2.1 x.2.1.2.2.2.2.2.2.2.2.2.2.2.2.2.2.1 x.2.1.2.2.2.2.2.2.2.2.2.2.2.2.2.2.2.1 x.2.1.2.2.2.2.2.2.2.2.2.2.2.2.2.2.2.2.1 x.2.1.2.2.2.2.2.2.2.2.2.2.2.2.2.2.2.2.2.1 e).symm) 17
theorem tilefarmref15_Fields.jl7 {R : Type} (k : Nat) : LCs Proofs.Try.prog tilefarmref15_Fields.C (joinOf Proofs.Try.f12 7) (tilefarmref15_Fields.J7 (R := R) k) :=
  once_sound mixed (tisOk tisT) tilefarmref15_Fields.env (k := k) (L := [tilefarmref15_Fields.J10 k, tilefarmref15_Fields.J9 k, tilefarmref15_Fields.J8 k]) (n := 0) (inn := (tilefarmref15_Fields.J7 (R := R) k).inn) (outs := (tilefarmref15_Fields.J7 (R := R) k).outs) (lokConsJ 10 (lc := tilefarmref15_Fields.J10 k) (c0 := joinOf Proofs.Try.f12 10) (by kernel_rfl) (by kernel_rfl) (tilefarmref15_Fields.jl10 k) (lokConsJ 9 (lc := tilefarmref15_Fields.J9 k) (c0 := joinOf Proofs.Try.f12 9) (by kernel_rfl) (by kernel_rfl) (tilefarmref15_Fields.jl9 k) (lokConsJ 8 (lc := tilefarmref15_Fields.J8 k) (c0 := joinOf Proofs.Try.f12 8) (by kernel_rfl) (by kernel_rfl) (tilefarmref15_Fields.jl8 k) lokNil))) (fun x e => tilefarmref15_Fields.join7 k x.1.1 x.1.2.1 x.1.2.2.1 x.2.1.1 x.2.1.2.1 x.2.1.2.2.1 x.2.1.2.2.2.1 x.2.1.2.2.2.2.1 x.2.1.2.2.2.2.2.1 x.2.1.2.2.2.2.2.2.1 x.2.1.2.2.2.2.2.2.2.1 x.2.1.2.2.2.2.2.2.2.2.1 x.2.1.2.2.2.2.2.2.2.2.2.1 x.2.1.2.2.2.2.2.2.2.2.2.2.1 x.2.1.2.2.2.2.2.2.2.2.2.2.2.1 x.2.1.2.2.2.2.2.2.2.2.2.2.2.2.1 x.2.1.2.2.2.2.2.2.2.2.2.2.2.2.2.1 x.2.1.2.2.2.2.2.2.2.2.2.2.2.2.2.2.1 x.2.1.2.2.2.2.2.2.2.2.2.2.2.2.2.2.2.1 x.2.1.2.2.2.2.2.2.2.2.2.2.2.2.2.2.2.2.1 x.2.1.2.2.2.2.2.2.2.2.2.2.2.2.2.2.2.2.2.1 (fun _ => e (.inl ((), ()))) (fun u0 => e (.inr (((u0, ()), ()))))) (fun x e => (tilefarmref15_Fields.q7 k x.1.1 x.1.2.1 x.1.2.2.1 x.2.1.1 x.2.1.2.1 x.2.1.2.2.1 x.2.1.2.2.2.1 x.2.1.2.2.2.2.1 x.2.1.2.2.2.2.2.1 x.2.1.2.2.2.2.2.2.1 x.2.1.2.2.2.2.2.2.2.1 x.2.1.2.2.2.2.2.2.2.2.1 x.2.1.2.2.2.2.2.2.2.2.2.1 x.2.1.2.2.2.2.2.2.2.2.2.2.1 x.2.1.2.2.2.2.2.2.2.2.2.2.2.1 x.2.1.2.2.2.2.2.2.2.2.2.2.2.2.1 x.2.1.2.2.2.2.2.2.2.2.2.2.2.2.2.1 x.2.1.2.2.2.2.2.2.2.2.2.2.2.2.2.2.1 x.2.1.2.2.2.2.2.2.2.2.2.2.2.2.2.2.2.1 x.2.1.2.2.2.2.2.2.2.2.2.2.2.2.2.2.2.2.1 x.2.1.2.2.2.2.2.2.2.2.2.2.2.2.2.2.2.2.2.1 e).symm) 15
theorem tilefarmref15_Fields.jl6 {R : Type} (k : Nat) : LCs Proofs.Try.prog tilefarmref15_Fields.C (joinOf Proofs.Try.f12 6) (tilefarmref15_Fields.J6 (R := R) k) :=
  once_sound mixed (tisOk tisT) tilefarmref15_Fields.env (k := k) (L := [tilefarmref15_Fields.J10 k, tilefarmref15_Fields.J9 k, tilefarmref15_Fields.J8 k, tilefarmref15_Fields.J7 k]) (n := 0) (inn := (tilefarmref15_Fields.J6 (R := R) k).inn) (outs := (tilefarmref15_Fields.J6 (R := R) k).outs) (lokConsJ 10 (lc := tilefarmref15_Fields.J10 k) (c0 := joinOf Proofs.Try.f12 10) (by kernel_rfl) (by kernel_rfl) (tilefarmref15_Fields.jl10 k) (lokConsJ 9 (lc := tilefarmref15_Fields.J9 k) (c0 := joinOf Proofs.Try.f12 9) (by kernel_rfl) (by kernel_rfl) (tilefarmref15_Fields.jl9 k) (lokConsJ 8 (lc := tilefarmref15_Fields.J8 k) (c0 := joinOf Proofs.Try.f12 8) (by kernel_rfl) (by kernel_rfl) (tilefarmref15_Fields.jl8 k) (lokConsJ 7 (lc := tilefarmref15_Fields.J7 k) (c0 := joinOf Proofs.Try.f12 7) (by kernel_rfl) (by kernel_rfl) (tilefarmref15_Fields.jl7 k) lokNil)))) (fun x e => tilefarmref15_Fields.join6 k x.1.1 x.1.2.1 x.1.2.2.1 x.1.2.2.2.1 x.2.1.1 x.2.1.2.1 x.2.1.2.2.1 x.2.1.2.2.2.1 x.2.1.2.2.2.2.1 x.2.1.2.2.2.2.2.1 x.2.1.2.2.2.2.2.2.1 x.2.1.2.2.2.2.2.2.2.1 x.2.1.2.2.2.2.2.2.2.2.1 x.2.1.2.2.2.2.2.2.2.2.2.1 x.2.1.2.2.2.2.2.2.2.2.2.2.1 x.2.1.2.2.2.2.2.2.2.2.2.2.2.1 x.2.1.2.2.2.2.2.2.2.2.2.2.2.2.1 x.2.1.2.2.2.2.2.2.2.2.2.2.2.2.2.1 x.2.1.2.2.2.2.2.2.2.2.2.2.2.2.2.2.1 x.2.1.2.2.2.2.2.2.2.2.2.2.2.2.2.2.2.1 x.2.1.2.2.2.2.2.2.2.2.2.2.2.2.2.2.2.2.1 x.2.1.2.2.2.2.2.2.2.2.2.2.2.2.2.2.2.2.2.1 (fun _ => e (.inl ((), ()))) (fun u0 => e (.inr (((u0, ()), ()))))) (fun x e => (tilefarmref15_Fields.q6 k x.1.1 x.1.2.1 x.1.2.2.1 x.1.2.2.2.1 x.2.1.1 x.2.1.2.1 x.2.1.2.2.1 x.2.1.2.2.2.1 x.2.1.2.2.2.2.1 x.2.1.2.2.2.2.2.1 x.2.1.2.2.2.2.2.2.1 x.2.1.2.2.2.2.2.2.2.1 x.2.1.2.2.2.2.2.2.2.2.1 x.2.1.2.2.2.2.2.2.2.2.2.1 x.2.1.2.2.2.2.2.2.2.2.2.2.1 x.2.1.2.2.2.2.2.2.2.2.2.2.2.1 x.2.1.2.2.2.2.2.2.2.2.2.2.2.2.1 x.2.1.2.2.2.2.2.2.2.2.2.2.2.2.2.1 x.2.1.2.2.2.2.2.2.2.2.2.2.2.2.2.2.1 x.2.1.2.2.2.2.2.2.2.2.2.2.2.2.2.2.2.1 x.2.1.2.2.2.2.2.2.2.2.2.2.2.2.2.2.2.2.1 x.2.1.2.2.2.2.2.2.2.2.2.2.2.2.2.2.2.2.2.1 e).symm) 13
theorem tilefarmref15_Fields.jl3 {R : Type} (k : Nat) : LCs Proofs.Try.prog tilefarmref15_Fields.C (joinOf Proofs.Try.f12 3) (tilefarmref15_Fields.J3 (R := R) k) :=
  once_sound mixed (tisOk tisT) tilefarmref15_Fields.env (k := k) (L := [tilefarmref15_Fields.J10 k, tilefarmref15_Fields.J9 k, tilefarmref15_Fields.J8 k, tilefarmref15_Fields.J7 k, tilefarmref15_Fields.J6 k]) (n := 0) (inn := (tilefarmref15_Fields.J3 (R := R) k).inn) (outs := (tilefarmref15_Fields.J3 (R := R) k).outs) (lokConsJ 10 (lc := tilefarmref15_Fields.J10 k) (c0 := joinOf Proofs.Try.f12 10) (by kernel_rfl) (by kernel_rfl) (tilefarmref15_Fields.jl10 k) (lokConsJ 9 (lc := tilefarmref15_Fields.J9 k) (c0 := joinOf Proofs.Try.f12 9) (by kernel_rfl) (by kernel_rfl) (tilefarmref15_Fields.jl9 k) (lokConsJ 8 (lc := tilefarmref15_Fields.J8 k) (c0 := joinOf Proofs.Try.f12 8) (by kernel_rfl) (by kernel_rfl) (tilefarmref15_Fields.jl8 k) (lokConsJ 7 (lc := tilefarmref15_Fields.J7 k) (c0 := joinOf Proofs.Try.f12 7) (by kernel_rfl) (by kernel_rfl) (tilefarmref15_Fields.jl7 k) (lokConsJ 6 (lc := tilefarmref15_Fields.J6 k) (c0 := joinOf Proofs.Try.f12 6) (by kernel_rfl) (by kernel_rfl) (tilefarmref15_Fields.jl6 k) lokNil))))) (fun x e => tilefarmref15_Fields.join3 k x.2.1.1 x.2.1.2.1 x.2.1.2.2.1 x.2.1.2.2.2.1 x.2.1.2.2.2.2.1 x.2.1.2.2.2.2.2.1 x.2.1.2.2.2.2.2.2.1 x.2.1.2.2.2.2.2.2.2.1 x.2.1.2.2.2.2.2.2.2.2.1 x.2.1.2.2.2.2.2.2.2.2.2.1 x.2.1.2.2.2.2.2.2.2.2.2.2.1 x.2.1.2.2.2.2.2.2.2.2.2.2.2.1 x.2.1.2.2.2.2.2.2.2.2.2.2.2.2.1 x.2.1.2.2.2.2.2.2.2.2.2.2.2.2.2.1 x.2.1.2.2.2.2.2.2.2.2.2.2.2.2.2.2.1 x.2.1.2.2.2.2.2.2.2.2.2.2.2.2.2.2.2.1 x.2.1.2.2.2.2.2.2.2.2.2.2.2.2.2.2.2.2.1 x.2.1.2.2.2.2.2.2.2.2.2.2.2.2.2.2.2.2.2.1 (fun u0 => e ((u0, ()), ()))) (fun x e => (tilefarmref15_Fields.q3 k x.2.1.1 x.2.1.2.1 x.2.1.2.2.1 x.2.1.2.2.2.1 x.2.1.2.2.2.2.1 x.2.1.2.2.2.2.2.1 x.2.1.2.2.2.2.2.2.1 x.2.1.2.2.2.2.2.2.2.1 x.2.1.2.2.2.2.2.2.2.2.1 x.2.1.2.2.2.2.2.2.2.2.2.1 x.2.1.2.2.2.2.2.2.2.2.2.2.1 x.2.1.2.2.2.2.2.2.2.2.2.2.2.1 x.2.1.2.2.2.2.2.2.2.2.2.2.2.2.1 x.2.1.2.2.2.2.2.2.2.2.2.2.2.2.2.1 x.2.1.2.2.2.2.2.2.2.2.2.2.2.2.2.2.1 x.2.1.2.2.2.2.2.2.2.2.2.2.2.2.2.2.2.1 x.2.1.2.2.2.2.2.2.2.2.2.2.2.2.2.2.2.2.1 x.2.1.2.2.2.2.2.2.2.2.2.2.2.2.2.2.2.2.2.1 e).symm) 7
theorem tilefarmref15_Fields.snd : FSound Proofs.Try.prog tilefarmref15_Fields.S :=
  fun_sound (C := tilefarmref15_Fields.C) (S := tilefarmref15_Fields.S) (fn := Proofs.Try.f12) (c := bodyOf Proofs.Try.f12) mixed (tisOk tisT) tilefarmref15_Fields.env Proofs.Try.func12 (by kernel_rfl) (by kernel_rfl) (L := fun k => [tilefarmref15_Fields.J10 k, tilefarmref15_Fields.J9 k, tilefarmref15_Fields.J8 k, tilefarmref15_Fields.J7 k, tilefarmref15_Fields.J6 k, tilefarmref15_Fields.J3 k]) (fun k => (lokConsJ 10 (lc := tilefarmref15_Fields.J10 k) (c0 := joinOf Proofs.Try.f12 10) (by kernel_rfl) (by kernel_rfl) (tilefarmref15_Fields.jl10 k) (lokConsJ 9 (lc := tilefarmref15_Fields.J9 k) (c0 := joinOf Proofs.Try.f12 9) (by kernel_rfl) (by kernel_rfl) (tilefarmref15_Fields.jl9 k) (lokConsJ 8 (lc := tilefarmref15_Fields.J8 k) (c0 := joinOf Proofs.Try.f12 8) (by kernel_rfl) (by kernel_rfl) (tilefarmref15_Fields.jl8 k) (lokConsJ 7 (lc := tilefarmref15_Fields.J7 k) (c0 := joinOf Proofs.Try.f12 7) (by kernel_rfl) (by kernel_rfl) (tilefarmref15_Fields.jl7 k) (lokConsJ 6 (lc := tilefarmref15_Fields.J6 k) (c0 := joinOf Proofs.Try.f12 6) (by kernel_rfl) (by kernel_rfl) (tilefarmref15_Fields.jl6 k) (lokConsJ 3 (lc := tilefarmref15_Fields.J3 k) (c0 := joinOf Proofs.Try.f12 3) (by kernel_rfl) (by kernel_rfl) (tilefarmref15_Fields.jl3 k) lokNil))))))) (fun k x => tilefarmref15_Fields.eq k x.1)

theorem tilefarmref4_Size.env : EnvOk Proofs.Try.prog tilefarmref4_Size.C := show EnvL Proofs.Try.prog [] from envNil
theorem tilefarmref4_Size.snd : FSound Proofs.Try.prog tilefarmref4_Size.S :=
  fun_sound (C := tilefarmref4_Size.C) (S := tilefarmref4_Size.S) (fn := Proofs.Try.f36) (c := bodyOf Proofs.Try.f36) mixed (tisOk tisT) tilefarmref4_Size.env Proofs.Try.func36 (by kernel_rfl) (by kernel_rfl) (L := fun k => []) (fun k => lokNil) (fun k x => tilefarmref4_Size.eq k x.1 x.2.1 x.2.2.1)

theorem tilefarmref15_Valid.env : EnvOk Proofs.Try.prog tilefarmref15_Valid.C := show EnvL Proofs.Try.prog [tilefarmref4_Size.S] from (envCons tilefarmref4_Size.snd envNil)
theorem tilefarmref15_Valid.snd : FSound Proofs.Try.prog tilefarmref15_Valid.S :=
  fun_sound (C := tilefarmref15_Valid.C) (S := tilefarmref15_Valid.S) (fn := Proofs.Try.f17) (c := bodyOf Proofs.Try.f17) mixed (tisOk tisT) tilefarmref15_Valid.env Proofs.Try.func17 (by kernel_rfl) (by kernel_rfl) (L := fun k => []) (fun k => lokNil) (fun k x => tilefarmref15_Valid.eq k x.1)

theorem tilefarmref15_Two.env : EnvOk Proofs.Try.prog tilefarmref15_Two.C := show EnvL Proofs.Try.prog [] from envNil
theorem tilefarmref15_Two.snd : FSound Proofs.Try.prog tilefarmref15_Two.S :=
  fun_sound (C := tilefarmref15_Two.C) (S := tilefarmref15_Two.S) (fn := Proofs.Try.f29) (c := bodyOf Proofs.Try.f29) mixed (tisOk tisT) tilefarmref15_Two.env Proofs.Try.func29 (by kernel_rfl) (by kernel_rfl) (L := fun k => []) (fun k => lokNil) (fun k x => tilefarmref15_Two.eq k x.1)

theorem tilefarmref3_Valid.env : EnvOk Proofs.Try.prog tilefarmref3_Valid.C := show EnvL Proofs.Try.prog [] from envNil
theorem tilefarmref3_Valid.snd : FSound Proofs.Try.prog tilefarmref3_Valid.S :=
  fun_sound (C := tilefarmref3_Valid.C) (S := tilefarmref3_Valid.S) (fn := Proofs.Try.f31) (c := bodyOf Proofs.Try.f31) mixed (tisOk tisT) tilefarmref3_Valid.env Proofs.Try.func31 (by kernel_rfl) (by kernel_rfl) (L := fun k => []) (fun k => lokNil) (fun k x => tilefarmref3_Valid.eq k x.1 x.2.1)

theorem tilefarmref9_Side.env : EnvOk Proofs.Try.prog tilefarmref9_Side.C := show EnvL Proofs.Try.prog [] from envNil
theorem tilefarmref9_Side.snd : FSound Proofs.Try.prog tilefarmref9_Side.S :=
  fun_sound (C := tilefarmref9_Side.C) (S := tilefarmref9_Side.S) (fn := Proofs.Try.f72) (c := bodyOf Proofs.Try.f72) mixed (tisOk tisT) tilefarmref9_Side.env Proofs.Try.func72 (by kernel_rfl) (by kernel_rfl) (L := fun k => []) (fun k => lokNil) (fun k x => tilefarmref9_Side.eq k x.1)

theorem tilefarmref7_IsWeight.env : EnvOk Proofs.Try.prog tilefarmref7_IsWeight.C := show EnvL Proofs.Try.prog [] from envNil
theorem tilefarmref7_IsWeight.snd : FSound Proofs.Try.prog tilefarmref7_IsWeight.S :=
  fun_sound (C := tilefarmref7_IsWeight.C) (S := tilefarmref7_IsWeight.S) (fn := Proofs.Try.f88) (c := bodyOf Proofs.Try.f88) mixed (tisOk tisT) tilefarmref7_IsWeight.env Proofs.Try.func88 (by kernel_rfl) (by kernel_rfl) (L := fun k => []) (fun k => lokNil) (fun k x => tilefarmref7_IsWeight.eq k x.1)

theorem tilefarmref7_AreWeights.env : EnvOk Proofs.Try.prog tilefarmref7_AreWeights.C := show EnvL Proofs.Try.prog [tilefarmref7_IsWeight.S] from (envCons tilefarmref7_IsWeight.snd envNil)
theorem tilefarmref7_AreWeights.l0 {R : Type} (k : Nat) : LCs Proofs.Try.prog tilefarmref7_AreWeights.C (.loop (loopOf Proofs.Try.f73 0)) (tilefarmref7_AreWeights.L0 (R := R) k) :=
  loop_sound mixed (tisOk tisT) tilefarmref7_AreWeights.env (k := k) (L := []) (n := 1) (inn := (tilefarmref7_AreWeights.L0 (R := R) k).inn) (outs := (tilefarmref7_AreWeights.L0 (R := R) k).outs) lokNil (fun j x e => tilefarmref7_AreWeights.loop0 k j x.1.1 x.1.2.1 (fun u0 => e (.inl ((u0, ()), ()))) (fun _ => e (.inr (((), ()))))) (fun _ _ => rfl) (fun j x e => (tilefarmref7_AreWeights.r0 k j x.1.1 x.1.2.1 e).symm) 0 k
theorem tilefarmref7_AreWeights.snd : FSound Proofs.Try.prog tilefarmref7_AreWeights.S :=
  fun_sound (C := tilefarmref7_AreWeights.C) (S := tilefarmref7_AreWeights.S) (fn := Proofs.Try.f73) (c := bodyOf Proofs.Try.f73) mixed (tisOk tisT) tilefarmref7_AreWeights.env Proofs.Try.func73 (by kernel_rfl) (by kernel_rfl) (L := fun k => [tilefarmref7_AreWeights.L0 k]) (fun k => (lokCons 0 (lc := tilefarmref7_AreWeights.L0 k) (c0 := loopOf Proofs.Try.f73 0) (by kernel_rfl) (by kernel_rfl) (tilefarmref7_AreWeights.l0 k) lokNil)) (fun k x => tilefarmref7_AreWeights.eq k x.1)

theorem tilefarmref7_IsShift.env : EnvOk Proofs.Try.prog tilefarmref7_IsShift.C := show EnvL Proofs.Try.prog [] from envNil
theorem tilefarmref7_IsShift.snd : FSound Proofs.Try.prog tilefarmref7_IsShift.S :=
  fun_sound (C := tilefarmref7_IsShift.C) (S := tilefarmref7_IsShift.S) (fn := Proofs.Try.f74) (c := bodyOf Proofs.Try.f74) mixed (tisOk tisT) tilefarmref7_IsShift.env Proofs.Try.func74 (by kernel_rfl) (by kernel_rfl) (L := fun k => []) (fun k => lokNil) (fun k x => tilefarmref7_IsShift.eq k x.1)

theorem tilefarmref9_Value.env : EnvOk Proofs.Try.prog tilefarmref9_Value.C := show EnvL Proofs.Try.prog [] from envNil
theorem tilefarmref9_Value.snd : FSound Proofs.Try.prog tilefarmref9_Value.S :=
  fun_sound (C := tilefarmref9_Value.C) (S := tilefarmref9_Value.S) (fn := Proofs.Try.f75) (c := bodyOf Proofs.Try.f75) mixed (tisOk tisT) tilefarmref9_Value.env Proofs.Try.func75 (by kernel_rfl) (by kernel_rfl) (L := fun k => []) (fun k => lokNil) (fun k x => tilefarmref9_Value.eq k x.1)

theorem tilefarmref7_Weights.env : EnvOk Proofs.Try.prog tilefarmref7_Weights.C := show EnvL Proofs.Try.prog [tilefarmref7_AreWeights.S] from (envCons tilefarmref7_AreWeights.snd envNil)
theorem tilefarmref7_Weights.snd : FSound Proofs.Try.prog tilefarmref7_Weights.S :=
  fun_sound (C := tilefarmref7_Weights.C) (S := tilefarmref7_Weights.S) (fn := Proofs.Try.f89) (c := bodyOf Proofs.Try.f89) mixed (tisOk tisT) tilefarmref7_Weights.env Proofs.Try.func89 (by kernel_rfl) (by kernel_rfl) (L := fun k => []) (fun k => lokNil) (fun k x => tilefarmref7_Weights.eq k x.1)

theorem tilefarmref7_Acc.env : EnvOk Proofs.Try.prog tilefarmref7_Acc.C := show EnvL Proofs.Try.prog [] from envNil
theorem tilefarmref7_Acc.snd : FSound Proofs.Try.prog tilefarmref7_Acc.S :=
  fun_sound (C := tilefarmref7_Acc.C) (S := tilefarmref7_Acc.S) (fn := Proofs.Try.f90) (c := bodyOf Proofs.Try.f90) mixed (tisOk tisT) tilefarmref7_Acc.env Proofs.Try.func90 (by kernel_rfl) (by kernel_rfl) (L := fun k => []) (fun k => lokNil) (fun k x => tilefarmref7_Acc.eq k x.1)

theorem tilefarmref7_Bounds.env : EnvOk Proofs.Try.prog tilefarmref7_Bounds.C := show EnvL Proofs.Try.prog [tilefarmref7_Weights.S, tilefarmref7_Acc.S] from (envCons tilefarmref7_Weights.snd (envCons tilefarmref7_Acc.snd envNil))
theorem tilefarmref7_Bounds.l0 {R : Type} (k : Nat) : LCs Proofs.Try.prog tilefarmref7_Bounds.C (.loop (loopOf Proofs.Try.f76 0)) (tilefarmref7_Bounds.L0 (R := R) k) :=
  loop_sound mixed (tisOk tisT) tilefarmref7_Bounds.env (k := k) (L := []) (n := 1) (inn := (tilefarmref7_Bounds.L0 (R := R) k).inn) (outs := (tilefarmref7_Bounds.L0 (R := R) k).outs) lokNil (fun j x e => tilefarmref7_Bounds.loop0 k j x.1.1 x.1.2.1 x.1.2.2.1 x.1.2.2.2.1 x.1.2.2.2.2.1 x.1.2.2.2.2.2.1 (fun u0 u1 => e ((u0, u1, ()), ()))) (fun _ _ => rfl) (fun j x e => (tilefarmref7_Bounds.r0 k j x.1.1 x.1.2.1 x.1.2.2.1 x.1.2.2.2.1 x.1.2.2.2.2.1 x.1.2.2.2.2.2.1 e).symm) 0 k
theorem tilefarmref7_Bounds.snd : FSound Proofs.Try.prog tilefarmref7_Bounds.S :=
  fun_sound (C := tilefarmref7_Bounds.C) (S := tilefarmref7_Bounds.S) (fn := Proofs.Try.f76) (c := bodyOf Proofs.Try.f76) mixed (tisOk tisT) tilefarmref7_Bounds.env Proofs.Try.func76 (by kernel_rfl) (by kernel_rfl) (L := fun k => [tilefarmref7_Bounds.L0 k]) (fun k => (lokCons 0 (lc := tilefarmref7_Bounds.L0 k) (c0 := loopOf Proofs.Try.f76 0) (by kernel_rfl) (by kernel_rfl) (tilefarmref7_Bounds.l0 k) lokNil)) (fun k x => tilefarmref7_Bounds.eq k x.1 x.2.1 x.2.2.1)

theorem tilefarmref9_Check.env : EnvOk Proofs.Try.prog tilefarmref9_Check.C := show EnvL Proofs.Try.prog [tilefarmref9_Side.S, tilefarmref7_AreWeights.S, tilefarmref7_IsShift.S, tilefarmref9_Value.S, tilefarmref7_Bounds.S] from (envCons tilefarmref9_Side.snd (envCons tilefarmref7_AreWeights.snd (envCons tilefarmref7_IsShift.snd (envCons tilefarmref9_Value.snd (envCons tilefarmref7_Bounds.snd envNil)))))
theorem tilefarmref9_Check.snd : FSound Proofs.Try.prog tilefarmref9_Check.S :=
  fun_sound (C := tilefarmref9_Check.C) (S := tilefarmref9_Check.S) (fn := Proofs.Try.f47) (c := bodyOf Proofs.Try.f47) mixed (tisOk tisT) tilefarmref9_Check.env Proofs.Try.func47 (by kernel_rfl) (by kernel_rfl) (L := fun k => []) (fun k => lokNil) (fun k x => tilefarmref9_Check.eq k x.1 x.2.1 x.2.2.1 x.2.2.2.1 x.2.2.2.2.1 x.2.2.2.2.2.1)

theorem tilefarmref7_Shift.env : EnvOk Proofs.Try.prog tilefarmref7_Shift.C := show EnvL Proofs.Try.prog [tilefarmref7_Acc.S, tilefarmref7_IsShift.S] from (envCons tilefarmref7_Acc.snd (envCons tilefarmref7_IsShift.snd envNil))
theorem tilefarmref7_Shift.snd : FSound Proofs.Try.prog tilefarmref7_Shift.S :=
  fun_sound (C := tilefarmref7_Shift.C) (S := tilefarmref7_Shift.S) (fn := Proofs.Try.f91) (c := bodyOf Proofs.Try.f91) mixed (tisOk tisT) tilefarmref7_Shift.env Proofs.Try.func91 (by kernel_rfl) (by kernel_rfl) (L := fun k => []) (fun k => lokNil) (fun k x => tilefarmref7_Shift.eq k x.1 x.2.1)

theorem tilefarmref7_Span.env : EnvOk Proofs.Try.prog tilefarmref7_Span.C := show EnvL Proofs.Try.prog [tilefarmref7_Shift.S] from (envCons tilefarmref7_Shift.snd envNil)
theorem tilefarmref7_Span.snd : FSound Proofs.Try.prog tilefarmref7_Span.S :=
  fun_sound (C := tilefarmref7_Span.C) (S := tilefarmref7_Span.S) (fn := Proofs.Try.f77) (c := bodyOf Proofs.Try.f77) mixed (tisOk tisT) tilefarmref7_Span.env Proofs.Try.func77 (by kernel_rfl) (by kernel_rfl) (L := fun k => []) (fun k => lokNil) (fun k x => tilefarmref7_Span.eq k x.1 x.2.1 x.2.2.1)

theorem tilefarmref10_Check.env : EnvOk Proofs.Try.prog tilefarmref10_Check.C := show EnvL Proofs.Try.prog [tilefarmref9_Side.S, tilefarmref7_AreWeights.S, tilefarmref7_IsShift.S, tilefarmref9_Value.S, tilefarmref7_Bounds.S, tilefarmref7_Span.S] from (envCons tilefarmref9_Side.snd (envCons tilefarmref7_AreWeights.snd (envCons tilefarmref7_IsShift.snd (envCons tilefarmref9_Value.snd (envCons tilefarmref7_Bounds.snd (envCons tilefarmref7_Span.snd envNil))))))
theorem tilefarmref10_Check.jl7 {R : Type} (k : Nat) : LCs Proofs.Try.prog tilefarmref10_Check.C (joinOf Proofs.Try.f48 7) (tilefarmref10_Check.J7 (R := R) k) :=
  once_sound mixed (tisOk tisT) tilefarmref10_Check.env (k := k) (L := []) (n := 0) (inn := (tilefarmref10_Check.J7 (R := R) k).inn) (outs := (tilefarmref10_Check.J7 (R := R) k).outs) lokNil (fun x e => tilefarmref10_Check.join7 k x.1.1 x.1.2.1 x.1.2.2.1 x.1.2.2.2.1 (fun u0 => e ((u0, ()), ()))) (fun x e => (tilefarmref10_Check.q7 k x.1.1 x.1.2.1 x.1.2.2.1 x.1.2.2.2.1 e).symm) 15
theorem tilefarmref10_Check.snd : FSound Proofs.Try.prog tilefarmref10_Check.S :=
  fun_sound (C := tilefarmref10_Check.C) (S := tilefarmref10_Check.S) (fn := Proofs.Try.f48) (c := bodyOf Proofs.Try.f48) mixed (tisOk tisT) tilefarmref10_Check.env Proofs.Try.func48 (by kernel_rfl) (by kernel_rfl) (L := fun k => [tilefarmref10_Check.J7 k]) (fun k => (lokConsJ 7 (lc := tilefarmref10_Check.J7 k) (c0 := joinOf Proofs.Try.f48 7) (by kernel_rfl) (by kernel_rfl) (tilefarmref10_Check.jl7 k) lokNil)) (fun k x => tilefarmref10_Check.eq k x.1 x.2.1 x.2.2.1 x.2.2.2.1 x.2.2.2.2.1 x.2.2.2.2.2.1)

theorem tilefarmref8_first.env : EnvOk Proofs.Try.prog tilefarmref8_first.C := show EnvL Proofs.Try.prog [] from envNil
theorem tilefarmref8_first.snd : FSound Proofs.Try.prog tilefarmref8_first.S :=
  fun_sound (C := tilefarmref8_first.C) (S := tilefarmref8_first.S) (fn := Proofs.Try.f92) (c := bodyOf Proofs.Try.f92) mixed (tisOk tisT) tilefarmref8_first.env Proofs.Try.func92 (by kernel_rfl) (by kernel_rfl) (L := fun k => []) (fun k => lokNil) (fun k x => tilefarmref8_first.eq k x.1)

theorem tilefarmref8_Valid.env : EnvOk Proofs.Try.prog tilefarmref8_Valid.C := show EnvL Proofs.Try.prog [tilefarmref8_side.S, tilefarmref7_AreWeights.S, tilefarmref8_first.S] from (envCons tilefarmref8_side.snd (envCons tilefarmref7_AreWeights.snd (envCons tilefarmref8_first.snd envNil)))
theorem tilefarmref8_Valid.l0 {R : Type} (k : Nat) : LCs Proofs.Try.prog tilefarmref8_Valid.C (.loop (loopOf Proofs.Try.f78 0)) (tilefarmref8_Valid.L0 (R := R) k) :=
  loop_sound mixed (tisOk tisT) tilefarmref8_Valid.env (k := k) (L := []) (n := 1) (inn := (tilefarmref8_Valid.L0 (R := R) k).inn) (outs := (tilefarmref8_Valid.L0 (R := R) k).outs) lokNil (fun j x e => tilefarmref8_Valid.loop0 k j x.1.1 x.1.2.1 (fun u0 => e (.inl ((u0, ()), ()))) (fun _ => e (.inr (((), ()))))) (fun _ _ => rfl) (fun j x e => (tilefarmref8_Valid.r0 k j x.1.1 x.1.2.1 e).symm) 0 k
theorem tilefarmref8_Valid.snd : FSound Proofs.Try.prog tilefarmref8_Valid.S :=
  fun_sound (C := tilefarmref8_Valid.C) (S := tilefarmref8_Valid.S) (fn := Proofs.Try.f78) (c := bodyOf Proofs.Try.f78) mixed (tisOk tisT) tilefarmref8_Valid.env Proofs.Try.func78 (by kernel_rfl) (by kernel_rfl) (L := fun k => [tilefarmref8_Valid.L0 k]) (fun k => (lokCons 0 (lc := tilefarmref8_Valid.L0 k) (c0 := loopOf Proofs.Try.f78 0) (by kernel_rfl) (by kernel_rfl) (tilefarmref8_Valid.l0 k) lokNil)) (fun k x => tilefarmref8_Valid.eq k x.1 x.2.1)

theorem tilefarmref11_Check.env : EnvOk Proofs.Try.prog tilefarmref11_Check.C := show EnvL Proofs.Try.prog [tilefarmref8_Valid.S, tilefarmref7_IsShift.S, tilefarmref9_Value.S, tilefarmref7_Bounds.S, tilefarmref7_Span.S] from (envCons tilefarmref8_Valid.snd (envCons tilefarmref7_IsShift.snd (envCons tilefarmref9_Value.snd (envCons tilefarmref7_Bounds.snd (envCons tilefarmref7_Span.snd envNil)))))
theorem tilefarmref11_Check.l0 {R : Type} (k : Nat) : LCs Proofs.Try.prog tilefarmref11_Check.C (.loop (loopOf Proofs.Try.f49 0)) (tilefarmref11_Check.L0 (R := R) k) :=
  loop_sound mixed (tisOk tisT) tilefarmref11_Check.env (k := k) (L := []) (n := 1) (inn := (tilefarmref11_Check.L0 (R := R) k).inn) (outs := (tilefarmref11_Check.L0 (R := R) k).outs) lokNil (fun j x e => tilefarmref11_Check.loop0 k j x.1.1 x.1.2.1 x.1.2.2.1 x.1.2.2.2.1 x.1.2.2.2.2.1 x.2.1.1 x.2.1.2.1 x.2.1.2.2.1 (fun u0 => e (.inl ((u0, ()), ()))) (fun u0 u1 => e (.inr (((u0, u1, ()), ()))))) (fun _ _ => rfl) (fun j x e => (tilefarmref11_Check.r0 k j x.1.1 x.1.2.1 x.1.2.2.1 x.1.2.2.2.1 x.1.2.2.2.2.1 x.2.1.1 x.2.1.2.1 x.2.1.2.2.1 e).symm) 0 k
theorem tilefarmref11_Check.l1 {R : Type} (k : Nat) : LCs Proofs.Try.prog tilefarmref11_Check.C (.loop (loopOf Proofs.Try.f49 1)) (tilefarmref11_Check.L1 (R := R) k) :=
  loop_sound mixed (tisOk tisT) tilefarmref11_Check.env (k := k) (L := []) (n := 2) (inn := (tilefarmref11_Check.L1 (R := R) k).inn) (outs := (tilefarmref11_Check.L1 (R := R) k).outs) lokNil (fun j x e => tilefarmref11_Check.loop1 k j x.1.1 x.1.2.1 x.1.2.2.1 x.1.2.2.2.1 (fun u0 => e (.inl ((u0, ()), ()))) (fun _ => e (.inr (((), ()))))) (fun _ _ => rfl) (fun j x e => (tilefarmref11_Check.r1 k j x.1.1 x.1.2.1 x.1.2.2.1 x.1.2.2.2.1 e).symm) 2 k
theorem tilefarmref11_Check.snd : FSound Proofs.Try.prog tilefarmref11_Check.S :=
  fun_sound (C := tilefarmref11_Check.C) (S := tilefarmref11_Check.S) (fn := Proofs.Try.f49) (c := bodyOf Proofs.Try.f49) mixed (tisOk tisT) tilefarmref11_Check.env Proofs.Try.func49 (by kernel_rfl) (by kernel_rfl) (L := fun k => [tilefarmref11_Check.L0 k, tilefarmref11_Check.L1 k]) (fun k => (lokCons 0 (lc := tilefarmref11_Check.L0 k) (c0 := loopOf Proofs.Try.f49 0) (by kernel_rfl) (by kernel_rfl) (tilefarmref11_Check.l0 k) (lokCons 1 (lc := tilefarmref11_Check.L1 k) (c0 := loopOf Proofs.Try.f49 1) (by kernel_rfl) (by kernel_rfl) (tilefarmref11_Check.l1 k) lokNil))) (fun k x => tilefarmref11_Check.eq k x.1 x.2.1 x.2.2.1 x.2.2.2.1 x.2.2.2.2.1 x.2.2.2.2.2.1)

theorem tilefarmref12_Bins.env : EnvOk Proofs.Try.prog tilefarmref12_Bins.C := show EnvL Proofs.Try.prog [] from envNil
theorem tilefarmref12_Bins.snd : FSound Proofs.Try.prog tilefarmref12_Bins.S :=
  fun_sound (C := tilefarmref12_Bins.C) (S := tilefarmref12_Bins.S) (fn := Proofs.Try.f50) (c := bodyOf Proofs.Try.f50) mixed (tisOk tisT) tilefarmref12_Bins.env Proofs.Try.func50 (by kernel_rfl) (by kernel_rfl) (L := fun k => []) (fun k => lokNil) (fun k x => tilefarmref12_Bins.eq k x.1)

theorem tilefarmref1_Mul.env : EnvOk Proofs.Try.prog tilefarmref1_Mul.C := show EnvL Proofs.Try.prog [] from envNil
theorem tilefarmref1_Mul.snd : FSound Proofs.Try.prog tilefarmref1_Mul.S :=
  fun_sound (C := tilefarmref1_Mul.C) (S := tilefarmref1_Mul.S) (fn := Proofs.Try.f79) (c := bodyOf Proofs.Try.f79) mixed (tisOk tisT) tilefarmref1_Mul.env Proofs.Try.func79 (by kernel_rfl) (by kernel_rfl) (L := fun k => []) (fun k => lokNil) (fun k x => tilefarmref1_Mul.eq k x.1 x.2.1 x.2.2.1)

theorem tilefarmref13_Most.env : EnvOk Proofs.Try.prog tilefarmref13_Most.C := show EnvL Proofs.Try.prog [tilefarmref1_Mul.S] from (envCons tilefarmref1_Mul.snd envNil)
theorem tilefarmref13_Most.snd : FSound Proofs.Try.prog tilefarmref13_Most.S :=
  fun_sound (C := tilefarmref13_Most.C) (S := tilefarmref13_Most.S) (fn := Proofs.Try.f51) (c := bodyOf Proofs.Try.f51) mixed (tisOk tisT) tilefarmref13_Most.env Proofs.Try.func51 (by kernel_rfl) (by kernel_rfl) (L := fun k => []) (fun k => lokNil) (fun k x => tilefarmref13_Most.eq k x.1)

theorem tilefarmref14_takes.env : EnvOk Proofs.Try.prog tilefarmref14_takes.C := show EnvL Proofs.Try.prog [] from envNil
theorem tilefarmref14_takes.snd : FSound Proofs.Try.prog tilefarmref14_takes.S :=
  fun_sound (C := tilefarmref14_takes.C) (S := tilefarmref14_takes.S) (fn := Proofs.Try.f93) (c := bodyOf Proofs.Try.f93) mixed (tisOk tisT) tilefarmref14_takes.env Proofs.Try.func93 (by kernel_rfl) (by kernel_rfl) (L := fun k => []) (fun k => lokNil) (fun k x => tilefarmref14_takes.eq k x.1)

theorem tilefarmref14_argument.env : EnvOk Proofs.Try.prog tilefarmref14_argument.C := show EnvL Proofs.Try.prog [tilefarmref7_IsShift.S] from (envCons tilefarmref7_IsShift.snd envNil)
theorem tilefarmref14_argument.snd : FSound Proofs.Try.prog tilefarmref14_argument.S :=
  fun_sound (C := tilefarmref14_argument.C) (S := tilefarmref14_argument.S) (fn := Proofs.Try.f94) (c := bodyOf Proofs.Try.f94) mixed (tisOk tisT) tilefarmref14_argument.env Proofs.Try.func94 (by kernel_rfl) (by kernel_rfl) (L := fun k => []) (fun k => lokNil) (fun k x => tilefarmref14_argument.eq k x.1)

theorem tilefarmref14_Valid.env : EnvOk Proofs.Try.prog tilefarmref14_Valid.C := show EnvL Proofs.Try.prog [tilefarmref14_takes.S, tilefarmref14_argument.S] from (envCons tilefarmref14_takes.snd (envCons tilefarmref14_argument.snd envNil))
theorem tilefarmref14_Valid.l0 {R : Type} (k : Nat) : LCs Proofs.Try.prog tilefarmref14_Valid.C (.loop (loopOf Proofs.Try.f80 0)) (tilefarmref14_Valid.L0 (R := R) k) :=
  loop_sound mixed (tisOk tisT) tilefarmref14_Valid.env (k := k) (L := []) (n := 1) (inn := (tilefarmref14_Valid.L0 (R := R) k).inn) (outs := (tilefarmref14_Valid.L0 (R := R) k).outs) lokNil (fun j x e => tilefarmref14_Valid.loop0 k j x.1.1 x.1.2.1 x.1.2.2.1 x.1.2.2.2.1 (fun u0 => e (.inl ((u0, ()), ()))) (fun u0 => e (.inr (((u0, ()), ()))))) (fun _ _ => rfl) (fun j x e => (tilefarmref14_Valid.r0 k j x.1.1 x.1.2.1 x.1.2.2.1 x.1.2.2.2.1 e).symm) 0 k
theorem tilefarmref14_Valid.snd : FSound Proofs.Try.prog tilefarmref14_Valid.S :=
  fun_sound (C := tilefarmref14_Valid.C) (S := tilefarmref14_Valid.S) (fn := Proofs.Try.f80) (c := bodyOf Proofs.Try.f80) mixed (tisOk tisT) tilefarmref14_Valid.env Proofs.Try.func80 (by kernel_rfl) (by kernel_rfl) (L := fun k => [tilefarmref14_Valid.L0 k]) (fun k => (lokCons 0 (lc := tilefarmref14_Valid.L0 k) (c0 := loopOf Proofs.Try.f80 0) (by kernel_rfl) (by kernel_rfl) (tilefarmref14_Valid.l0 k) lokNil)) (fun k x => tilefarmref14_Valid.eq k x.1 x.2.1)

theorem tilefarmref14_abs.env : EnvOk Proofs.Try.prog tilefarmref14_abs.C := show EnvL Proofs.Try.prog [] from envNil
theorem tilefarmref14_abs.snd : FSound Proofs.Try.prog tilefarmref14_abs.S :=
  fun_sound (C := tilefarmref14_abs.C) (S := tilefarmref14_abs.S) (fn := Proofs.Try.f97) (c := bodyOf Proofs.Try.f97) mixed (tisOk tisT) tilefarmref14_abs.env Proofs.Try.func97 (by kernel_rfl) (by kernel_rfl) (L := fun k => []) (fun k => lokNil) (fun k x => tilefarmref14_abs.eq k x.1)

theorem tilefarmref14_times.env : EnvOk Proofs.Try.prog tilefarmref14_times.C := show EnvL Proofs.Try.prog [] from envNil
theorem tilefarmref14_times.snd : FSound Proofs.Try.prog tilefarmref14_times.S :=
  fun_sound (C := tilefarmref14_times.C) (S := tilefarmref14_times.S) (fn := Proofs.Try.f99) (c := bodyOf Proofs.Try.f99) mixed (tisOk tisT) tilefarmref14_times.env Proofs.Try.func99 (by kernel_rfl) (by kernel_rfl) (L := fun k => []) (fun k => lokNil) (fun k x => tilefarmref14_times.eq k x.1 x.2.1)

theorem tilefarmref14_product.env : EnvOk Proofs.Try.prog tilefarmref14_product.C := show EnvL Proofs.Try.prog [tilefarmref14_times.S] from (envCons tilefarmref14_times.snd envNil)
theorem tilefarmref14_product.snd : FSound Proofs.Try.prog tilefarmref14_product.S :=
  fun_sound (C := tilefarmref14_product.C) (S := tilefarmref14_product.S) (fn := Proofs.Try.f98) (c := bodyOf Proofs.Try.f98) mixed (tisOk tisT) tilefarmref14_product.env Proofs.Try.func98 (by kernel_rfl) (by kernel_rfl) (L := fun k => []) (fun k => lokNil) (fun k x => tilefarmref14_product.eq k x.1 x.2.1)

theorem tilefarmref14_next.env : EnvOk Proofs.Try.prog tilefarmref14_next.C := show EnvL Proofs.Try.prog [tilefarmref14_abs.S, tilefarmref7_Acc.S, tilefarmref14_product.S, tilefarmref7_Span.S] from (envCons tilefarmref14_abs.snd (envCons tilefarmref7_Acc.snd (envCons tilefarmref14_product.snd (envCons tilefarmref7_Span.snd envNil))))
theorem tilefarmref14_next.snd : FSound Proofs.Try.prog tilefarmref14_next.S :=
  fun_sound (C := tilefarmref14_next.C) (S := tilefarmref14_next.S) (fn := Proofs.Try.f95) (c := bodyOf Proofs.Try.f95) mixed (tisOk tisT) tilefarmref14_next.env Proofs.Try.func95 (by kernel_rfl) (by kernel_rfl) (L := fun k => []) (fun k => lokNil) (fun k x => tilefarmref14_next.eq k x.1 x.2.1 x.2.2.1 x.2.2.2.1 x.2.2.2.2.1)

theorem tilefarmref14_Interval.env : EnvOk Proofs.Try.prog tilefarmref14_Interval.C := show EnvL Proofs.Try.prog [tilefarmref14_Valid.S, tilefarmref9_Value.S, tilefarmref14_takes.S, tilefarmref14_next.S] from (envCons tilefarmref14_Valid.snd (envCons tilefarmref9_Value.snd (envCons tilefarmref14_takes.snd (envCons tilefarmref14_next.snd envNil))))
theorem tilefarmref14_Interval.l0 {R : Type} (k : Nat) : LCs Proofs.Try.prog tilefarmref14_Interval.C (.loop (loopOf Proofs.Try.f81 0)) (tilefarmref14_Interval.L0 (R := R) k) :=
  loop_sound mixed (tisOk tisT) tilefarmref14_Interval.env (k := k) (L := []) (n := 1) (inn := (tilefarmref14_Interval.L0 (R := R) k).inn) (outs := (tilefarmref14_Interval.L0 (R := R) k).outs) lokNil (fun j x e => tilefarmref14_Interval.loop0 k j x.1.1 x.1.2.1 x.1.2.2.1 x.1.2.2.2.1 x.2.1 (fun u0 u1 u2 => e (.inl ((u0, u1, u2, ()), ()))) (fun u0 => e (.inr (((), (u0, ())))))) (fun _ _ => rfl) (fun j x e => (tilefarmref14_Interval.r0 k j x.1.1 x.1.2.1 x.1.2.2.1 x.1.2.2.2.1 x.2.1 e).symm) 0 k
theorem tilefarmref14_Interval.snd : FSound Proofs.Try.prog tilefarmref14_Interval.S :=
  fun_sound (C := tilefarmref14_Interval.C) (S := tilefarmref14_Interval.S) (fn := Proofs.Try.f81) (c := bodyOf Proofs.Try.f81) mixed (tisOk tisT) tilefarmref14_Interval.env Proofs.Try.func81 (by kernel_rfl) (by kernel_rfl) (L := fun k => [tilefarmref14_Interval.L0 k]) (fun k => (lokCons 0 (lc := tilefarmref14_Interval.L0 k) (c0 := loopOf Proofs.Try.f81 0) (by kernel_rfl) (by kernel_rfl) (tilefarmref14_Interval.l0 k) lokNil)) (fun k x => tilefarmref14_Interval.eq k x.1 x.2.1 x.2.2.1)

theorem tilefarmref14_Check.env : EnvOk Proofs.Try.prog tilefarmref14_Check.C := show EnvL Proofs.Try.prog [tilefarmref14_Valid.S, tilefarmref9_Value.S, tilefarmref14_Interval.S] from (envCons tilefarmref14_Valid.snd (envCons tilefarmref9_Value.snd (envCons tilefarmref14_Interval.snd envNil)))
theorem tilefarmref14_Check.snd : FSound Proofs.Try.prog tilefarmref14_Check.S :=
  fun_sound (C := tilefarmref14_Check.C) (S := tilefarmref14_Check.S) (fn := Proofs.Try.f52) (c := bodyOf Proofs.Try.f52) mixed (tisOk tisT) tilefarmref14_Check.env Proofs.Try.func52 (by kernel_rfl) (by kernel_rfl) (L := fun k => []) (fun k => lokNil) (fun k x => tilefarmref14_Check.eq k x.1 x.2.1 x.2.2.1 x.2.2.2.1 x.2.2.2.2.1)

theorem tilefarmref15_kernel.env : EnvOk Proofs.Try.prog tilefarmref15_kernel.C := show EnvL Proofs.Try.prog [tilefarmref9_Check.S, tilefarmref10_Check.S, tilefarmref11_Check.S, tilefarmref12_Bins.S, tilefarmref13_Most.S, tilefarmref15_Two.S, tilefarmref14_Check.S] from (envCons tilefarmref9_Check.snd (envCons tilefarmref10_Check.snd (envCons tilefarmref11_Check.snd (envCons tilefarmref12_Bins.snd (envCons tilefarmref13_Most.snd (envCons tilefarmref15_Two.snd (envCons tilefarmref14_Check.snd envNil)))))))
theorem tilefarmref15_kernel.snd : FSound Proofs.Try.prog tilefarmref15_kernel.S :=
  fun_sound (C := tilefarmref15_kernel.C) (S := tilefarmref15_kernel.S) (fn := Proofs.Try.f32) (c := bodyOf Proofs.Try.f32) mixed (tisOk tisT) tilefarmref15_kernel.env Proofs.Try.func32 (by kernel_rfl) (by kernel_rfl) (L := fun k => []) (fun k => lokNil) (fun k x => tilefarmref15_kernel.eq k x.1 x.2.1 x.2.2.1)

theorem tilefarmref15_Of.env : EnvOk Proofs.Try.prog tilefarmref15_Of.C := show EnvL Proofs.Try.prog [tilefarmref15_Fields.S, tilefarmref15_Valid.S, tilefarmref15_Two.S, tilefarmref15_edged.S, tilefarmref3_Valid.S, tilefarmref15_kernel.S] from (envCons tilefarmref15_Fields.snd (envCons tilefarmref15_Valid.snd (envCons tilefarmref15_Two.snd (envCons tilefarmref15_edged.snd (envCons tilefarmref3_Valid.snd (envCons tilefarmref15_kernel.snd envNil))))))
theorem tilefarmref15_Of.snd : FSound Proofs.Try.prog tilefarmref15_Of.S :=
  fun_sound (C := tilefarmref15_Of.C) (S := tilefarmref15_Of.S) (fn := Proofs.Try.f10) (c := bodyOf Proofs.Try.f10) mixed (tisOk tisT) tilefarmref15_Of.env Proofs.Try.func10 (by kernel_rfl) (by kernel_rfl) (L := fun k => []) (fun k => lokNil) (fun k x => tilefarmref15_Of.eq k x.1 x.2.1 x.2.2.1)

theorem shape_Sources.env : EnvOk Proofs.Try.prog shape_Sources.C := show EnvL Proofs.Try.prog [shape_two.S] from (envCons shape_two.snd envNil)
theorem shape_Sources.snd : FSound Proofs.Try.prog shape_Sources.S :=
  fun_sound (C := shape_Sources.C) (S := shape_Sources.S) (fn := Proofs.Try.f14) (c := bodyOf Proofs.Try.f14) mixed (tisOk tisT) shape_Sources.env Proofs.Try.func14 (by kernel_rfl) (by kernel_rfl) (L := fun k => []) (fun k => lokNil) (fun k x => shape_Sources.eq k x.1)

theorem tilefarmref15_Sources.env : EnvOk Proofs.Try.prog tilefarmref15_Sources.C := show EnvL Proofs.Try.prog [tilefarmref15_Two.S] from (envCons tilefarmref15_Two.snd envNil)
theorem tilefarmref15_Sources.snd : FSound Proofs.Try.prog tilefarmref15_Sources.S :=
  fun_sound (C := tilefarmref15_Sources.C) (S := tilefarmref15_Sources.S) (fn := Proofs.Try.f15) (c := bodyOf Proofs.Try.f15) mixed (tisOk tisT) tilefarmref15_Sources.env Proofs.Try.func15 (by kernel_rfl) (by kernel_rfl) (L := fun k => []) (fun k => lokNil) (fun k x => tilefarmref15_Sources.eq k x.1)

theorem tilefarmref4_Same.env : EnvOk Proofs.Try.prog tilefarmref4_Same.C := show EnvL Proofs.Try.prog [] from envNil
theorem tilefarmref4_Same.l0 {R : Type} (k : Nat) : LCs Proofs.Try.prog tilefarmref4_Same.C (.loop (loopOf Proofs.Try.f13 0)) (tilefarmref4_Same.L0 (R := R) k) :=
  loop_sound mixed (tisOk tisT) tilefarmref4_Same.env (k := k) (L := []) (n := 1) (inn := (tilefarmref4_Same.L0 (R := R) k).inn) (outs := (tilefarmref4_Same.L0 (R := R) k).outs) lokNil (fun j x e => tilefarmref4_Same.loop0 k j x.1.1 x.1.2.1 x.1.2.2.1 (fun u0 => e (.inl ((u0, ()), ()))) (fun _ => e (.inr (((), ()))))) (fun _ _ => rfl) (fun j x e => (tilefarmref4_Same.r0 k j x.1.1 x.1.2.1 x.1.2.2.1 e).symm) 0 k
theorem tilefarmref4_Same.snd : FSound Proofs.Try.prog tilefarmref4_Same.S :=
  fun_sound (C := tilefarmref4_Same.C) (S := tilefarmref4_Same.S) (fn := Proofs.Try.f13) (c := bodyOf Proofs.Try.f13) mixed (tisOk tisT) tilefarmref4_Same.env Proofs.Try.func13 (by kernel_rfl) (by kernel_rfl) (L := fun k => [tilefarmref4_Same.L0 k]) (fun k => (lokCons 0 (lc := tilefarmref4_Same.L0 k) (c0 := loopOf Proofs.Try.f13 0) (by kernel_rfl) (by kernel_rfl) (tilefarmref4_Same.l0 k) lokNil)) (fun k x => tilefarmref4_Same.eq k x.1 x.2.1)

theorem tilefarmlaw15_bins.env : EnvOk Proofs.Try.prog tilefarmlaw15_bins.C := show EnvL Proofs.Try.prog [] from envNil
theorem tilefarmlaw15_bins.snd : FSound Proofs.Try.prog tilefarmlaw15_bins.S :=
  fun_sound (C := tilefarmlaw15_bins.C) (S := tilefarmlaw15_bins.S) (fn := Proofs.Try.f37) (c := bodyOf Proofs.Try.f37) mixed (tisOk tisT) tilefarmlaw15_bins.env Proofs.Try.func37 (by kernel_rfl) (by kernel_rfl) (L := fun k => []) (fun k => lokNil) (fun k x => tilefarmlaw15_bins.eq k x.1)

theorem tilefarmlaw15_sane.env : EnvOk Proofs.Try.prog tilefarmlaw15_sane.C := show EnvL Proofs.Try.prog [tilefarmlaw15_bins.S, shape_Of.S, shape_Sources.S, shape_Fields.S, shape_Valid.S] from (envCons tilefarmlaw15_bins.snd (envCons shape_Of.snd (envCons shape_Sources.snd (envCons shape_Fields.snd (envCons shape_Valid.snd envNil)))))
theorem tilefarmlaw15_sane.snd : FSound Proofs.Try.prog tilefarmlaw15_sane.S :=
  fun_sound (C := tilefarmlaw15_sane.C) (S := tilefarmlaw15_sane.S) (fn := Proofs.Try.f18) (c := bodyOf Proofs.Try.f18) mixed (tisOk tisT) tilefarmlaw15_sane.env Proofs.Try.func18 (by kernel_rfl) (by kernel_rfl) (L := fun k => []) (fun k => lokNil) (fun k x => tilefarmlaw15_sane.eq k)

theorem tilefarmlaw15_ShapeChecks.env : EnvOk Proofs.Try.prog tilefarmlaw15_ShapeChecks.C := show EnvL Proofs.Try.prog [tilefarmgen_New.S, tilefarmlaw15_small.S, tilefarmgen_Tape_Stage.S, tilefarmgen_Tape_SpoilStage.S, shape_Of.S, tilefarmref15_Of.S, shape_Fields.S, tilefarmref15_Fields.S, shape_Sources.S, tilefarmref15_Sources.S, tilefarmref4_Same.S, shape_Valid.S, tilefarmref15_Valid.S, tilefarmlaw15_sane.S] from (envCons tilefarmgen_New.snd (envCons tilefarmlaw15_small.snd (envCons tilefarmgen_Tape_Stage.snd (envCons tilefarmgen_Tape_SpoilStage.snd (envCons shape_Of.snd (envCons tilefarmref15_Of.snd (envCons shape_Fields.snd (envCons tilefarmref15_Fields.snd (envCons shape_Sources.snd (envCons tilefarmref15_Sources.snd (envCons tilefarmref4_Same.snd (envCons shape_Valid.snd (envCons tilefarmref15_Valid.snd (envCons tilefarmlaw15_sane.snd envNil))))))))))))))
theorem tilefarmlaw15_ShapeChecks.l0 {R : Type} (k : Nat) : LCs Proofs.Try.prog tilefarmlaw15_ShapeChecks.C (.loop (loopOf Proofs.Try.f3 0)) (tilefarmlaw15_ShapeChecks.L0 (R := R) k) :=
  loop_sound mixed (tisOk tisT) tilefarmlaw15_ShapeChecks.env (k := k) (L := []) (n := 1) (inn := (tilefarmlaw15_ShapeChecks.L0 (R := R) k).inn) (outs := (tilefarmlaw15_ShapeChecks.L0 (R := R) k).outs) lokNil (fun j x e => tilefarmlaw15_ShapeChecks.loop0 k j x.1.1 x.2.1.1 x.2.1.2.1 x.2.1.2.2.1 x.2.2.1.1 x.2.2.1.2.1 x.2.2.1.2.2.1 x.2.2.2.1.1 x.2.2.2.1.2.1 (fun u0 => e (.inl ((u0, ()), ()))) (fun _ => e (.inr (((), ()))))) (fun _ _ => rfl) (fun j x e => (tilefarmlaw15_ShapeChecks.r0 k j x.1.1 x.2.1.1 x.2.1.2.1 x.2.1.2.2.1 x.2.2.1.1 x.2.2.1.2.1 x.2.2.1.2.2.1 x.2.2.2.1.1 x.2.2.2.1.2.1 e).symm) 0 k
theorem tilefarmlaw15_ShapeChecks.snd : FSound Proofs.Try.prog tilefarmlaw15_ShapeChecks.S :=
  fun_sound (C := tilefarmlaw15_ShapeChecks.C) (S := tilefarmlaw15_ShapeChecks.S) (fn := Proofs.Try.f3) (c := bodyOf Proofs.Try.f3) mixed (tisOk tisT) tilefarmlaw15_ShapeChecks.env Proofs.Try.func3 (by kernel_rfl) (by kernel_rfl) (L := fun k => [tilefarmlaw15_ShapeChecks.L0 k]) (fun k => (lokCons 0 (lc := tilefarmlaw15_ShapeChecks.L0 k) (c0 := loopOf Proofs.Try.f3 0) (by kernel_rfl) (by kernel_rfl) (tilefarmlaw15_ShapeChecks.l0 k) lokNil)) (fun k x => tilefarmlaw15_ShapeChecks.eq k x.1 x.2.1 x.2.2.1)

theorem tilefarmlaw15_ShapeFields.env : EnvOk Proofs.Try.prog tilefarmlaw15_ShapeFields.C := show EnvL Proofs.Try.prog [tilefarmgen_New.S, tilefarmlaw15_small.S, tilefarmgen_Tape_Stage.S, shape_Of.S, tilefarmgen_Tape_Next.S, shape_Fields.S, tilefarmlaw15_sane.S] from (envCons tilefarmgen_New.snd (envCons tilefarmlaw15_small.snd (envCons tilefarmgen_Tape_Stage.snd (envCons shape_Of.snd (envCons tilefarmgen_Tape_Next.snd (envCons shape_Fields.snd (envCons tilefarmlaw15_sane.snd envNil)))))))
theorem tilefarmlaw15_ShapeFields.snd : FSound Proofs.Try.prog tilefarmlaw15_ShapeFields.S :=
  fun_sound (C := tilefarmlaw15_ShapeFields.C) (S := tilefarmlaw15_ShapeFields.S) (fn := Proofs.Try.f4) (c := bodyOf Proofs.Try.f4) mixed (tisOk tisT) tilefarmlaw15_ShapeFields.env Proofs.Try.func4 (by kernel_rfl) (by kernel_rfl) (L := fun k => []) (fun k => lokNil) (fun k x => tilefarmlaw15_ShapeFields.eq k x.1 x.2.1)

end Go.Lf.T
