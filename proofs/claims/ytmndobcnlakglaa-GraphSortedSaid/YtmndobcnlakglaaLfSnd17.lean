import Derived.Test.YtmndobcnlakglaaLfTie17
import Derived.Test.YtmndobcnlakglaaLfCc
import Derived.Test.YtmndobcnlakglaaProg
set_option linter.unusedVariables false
set_option maxRecDepth 100000
namespace Go.Lf.T
open Go Go.Lf

theorem mixed : Proofs.Try.prog.follows .mixedOrders = true := by kernel_rfl
theorem tisT : tisB Proofs.Try.prog tis = true := by kernel_rfl

theorem F4.env : EnvOk Proofs.Try.prog F4.C := show EnvL Proofs.Try.prog [] from envNil
theorem F4.snd : FSound Proofs.Try.prog F4.S :=
  fun_sound (C := F4.C) (S := F4.S) (fn := Proofs.Try.f5) (c := bodyOf Proofs.Try.f5) mixed (tisOk tisT) F4.env Proofs.Try.func5 (by kernel_rfl) (by kernel_rfl) (L := fun k => []) (fun k => lokNil) (fun k x => F4.eq k x.1)

theorem F5.env : EnvOk Proofs.Try.prog F5.C := show EnvL Proofs.Try.prog [] from envNil
theorem F5.snd : FSound Proofs.Try.prog F5.S :=
  fun_sound (C := F5.C) (S := F5.S) (fn := Proofs.Try.f7) (c := bodyOf Proofs.Try.f7) mixed (tisOk tisT) F5.env Proofs.Try.func7 (by kernel_rfl) (by kernel_rfl) (L := fun k => []) (fun k => lokNil) (fun k x => F5.eq k x.1 x.2.1)

theorem F6.env : EnvOk Proofs.Try.prog F6.C := show EnvL Proofs.Try.prog [F5.S] from (envCons F5.snd envNil)
theorem F6.snd : FSound Proofs.Try.prog F6.S :=
  fun_sound (C := F6.C) (S := F6.S) (fn := Proofs.Try.f13) (c := bodyOf Proofs.Try.f13) mixed (tisOk tisT) F6.env Proofs.Try.func13 (by kernel_rfl) (by kernel_rfl) (L := fun k => []) (fun k => lokNil) (fun k x => F6.eq k x.1 x.2.1)

theorem F7.env : EnvOk Proofs.Try.prog F7.C := show EnvL Proofs.Try.prog [] from envNil
theorem F7.snd : FSound Proofs.Try.prog F7.S :=
  fun_sound (C := F7.C) (S := F7.S) (fn := Proofs.Try.f10) (c := bodyOf Proofs.Try.f10) mixed (tisOk tisT) F7.env Proofs.Try.func10 (by kernel_rfl) (by kernel_rfl) (L := fun k => []) (fun k => lokNil) (fun k x => F7.eq k x.1)

theorem F8.env : EnvOk Proofs.Try.prog F8.C := show EnvL Proofs.Try.prog [F7.S] from (envCons F7.snd envNil)
theorem F8.l0 {R : Type} (k : Nat) : LCs Proofs.Try.prog F8.C (.loop (loopOf Proofs.Try.f14 0)) (F8.L0 (R := R) k) :=
  loop_sound mixed (tisOk tisT) F8.env (k := k) (L := []) (n := 1) (inn := (F8.L0 (R := R) k).inn) (outs := (F8.L0 (R := R) k).outs) lokNil (fun j x e => F8.loop0 k j x.1.1 x.1.2.1 x.2.1.1 x.2.1.2.1 x.2.1.2.2.1 x.2.1.2.2.2.1 (fun u0 u1 u2 u3 => e ((), ((u0, u1, u2, u3, ()), ())))) (fun _ _ => rfl) (fun j x e => (F8.r0 k j x.1.1 x.1.2.1 x.2.1.1 x.2.1.2.1 x.2.1.2.2.1 x.2.1.2.2.2.1 e).symm) 0 k
theorem F8.snd : FSound Proofs.Try.prog F8.S :=
  fun_sound (C := F8.C) (S := F8.S) (fn := Proofs.Try.f14) (c := bodyOf Proofs.Try.f14) mixed (tisOk tisT) F8.env Proofs.Try.func14 (by kernel_rfl) (by kernel_rfl) (L := fun k => [F8.L0 k]) (fun k => (lokCons 0 (lc := F8.L0 k) (c0 := loopOf Proofs.Try.f14 0) (by kernel_rfl) (by kernel_rfl) (F8.l0 k) lokNil)) (fun k x => F8.eq k x.1)

theorem F9.env : EnvOk Proofs.Try.prog F9.C := show EnvL Proofs.Try.prog [F6.S, F8.S] from (envCons F6.snd (envCons F8.snd envNil))
theorem F9.l0 {R : Type} (k : Nat) : LCs Proofs.Try.prog F9.C (.loop (loopOf Proofs.Try.f6 0)) (F9.L0 (R := R) k) :=
  loop_sound mixed (tisOk tisT) F9.env (k := k) (L := []) (n := 1) (inn := (F9.L0 (R := R) k).inn) (outs := (F9.L0 (R := R) k).outs) lokNil (fun j x e => F9.loop0 k j x.1.1 x.1.2.1 x.2.1.1 x.2.1.2.1 x.2.2.1 (fun u0 u1 u2 => e ((), ((u0, u1, ()), u2, ())))) (fun _ _ => rfl) (fun j x e => (F9.r0 k j x.1.1 x.1.2.1 x.2.1.1 x.2.1.2.1 x.2.2.1 e).symm) 0 k
theorem F9.l1 {R : Type} (k : Nat) : LCs Proofs.Try.prog F9.C (.loop (loopOf Proofs.Try.f6 1)) (F9.L1 (R := R) k) :=
  loop_sound mixed (tisOk tisT) F9.env (k := k) (L := []) (n := 2) (inn := (F9.L1 (R := R) k).inn) (outs := (F9.L1 (R := R) k).outs) lokNil (fun j x e => F9.loop1 k j x.1.1 x.1.2.1 x.2.1.1 x.2.1.2.1 x.2.2.1.1 x.2.2.1.2.1 x.2.2.1.2.2.1 x.2.2.1.2.2.2.1 (fun u0 u1 u2 u3 u4 u5 => e ((), ((u0, u1, ()), (u2, u3, u4, u5, ()), ())))) (fun _ _ => rfl) (fun j x e => (F9.r1 k j x.1.1 x.1.2.1 x.2.1.1 x.2.1.2.1 x.2.2.1.1 x.2.2.1.2.1 x.2.2.1.2.2.1 x.2.2.1.2.2.2.1 e).symm) 2 k
theorem F9.snd : FSound Proofs.Try.prog F9.S :=
  fun_sound (C := F9.C) (S := F9.S) (fn := Proofs.Try.f6) (c := bodyOf Proofs.Try.f6) mixed (tisOk tisT) F9.env Proofs.Try.func6 (by kernel_rfl) (by kernel_rfl) (L := fun k => [F9.L0 k, F9.L1 k]) (fun k => (lokCons 0 (lc := F9.L0 k) (c0 := loopOf Proofs.Try.f6 0) (by kernel_rfl) (by kernel_rfl) (F9.l0 k) (lokCons 1 (lc := F9.L1 k) (c0 := loopOf Proofs.Try.f6 1) (by kernel_rfl) (by kernel_rfl) (F9.l1 k) lokNil))) (fun k x => F9.eq k x.1 x.2.1)

theorem F10.env : EnvOk Proofs.Try.prog F10.C := show EnvL Proofs.Try.prog [] from envNil
theorem F10.snd : FSound Proofs.Try.prog F10.S :=
  fun_sound (C := F10.C) (S := F10.S) (fn := Proofs.Try.f22) (c := bodyOf Proofs.Try.f22) mixed (tisOk tisT) F10.env Proofs.Try.func22 (by kernel_rfl) (by kernel_rfl) (L := fun k => []) (fun k => lokNil) (fun k x => F10.eq k x.1)

theorem F11.env : EnvOk Proofs.Try.prog F11.C := show EnvL Proofs.Try.prog [F10.S] from (envCons F10.snd envNil)
theorem F11.snd : FSound Proofs.Try.prog F11.S :=
  fun_sound (C := F11.C) (S := F11.S) (fn := Proofs.Try.f16) (c := bodyOf Proofs.Try.f16) mixed (tisOk tisT) F11.env Proofs.Try.func16 (by kernel_rfl) (by kernel_rfl) (L := fun k => []) (fun k => lokNil) (fun k x => F11.eq k x.1)

theorem F12.env : EnvOk Proofs.Try.prog F12.C := show EnvL Proofs.Try.prog [] from envNil
theorem F12.snd : FSound Proofs.Try.prog F12.S :=
  fun_sound (C := F12.C) (S := F12.S) (fn := Proofs.Try.f15) (c := bodyOf Proofs.Try.f15) mixed (tisOk tisT) F12.env Proofs.Try.func15 (by kernel_rfl) (by kernel_rfl) (L := fun k => []) (fun k => lokNil) (fun k x => F12.eq k x.1 x.2.1)

theorem F13.env : EnvOk Proofs.Try.prog F13.C := show EnvL Proofs.Try.prog [] from envNil
theorem F13.snd : FSound Proofs.Try.prog F13.S :=
  fun_sound (C := F13.C) (S := F13.S) (fn := Proofs.Try.f18) (c := bodyOf Proofs.Try.f18) mixed (tisOk tisT) F13.env Proofs.Try.func18 (by kernel_rfl) (by kernel_rfl) (L := fun k => []) (fun k => lokNil) (fun k x => F13.eq k x.1 x.2.1)

theorem F14.env : EnvOk Proofs.Try.prog F14.C := show EnvL Proofs.Try.prog [F13.S] from (envCons F13.snd envNil)
theorem F14.l0 {R : Type} (k : Nat) : LCs Proofs.Try.prog F14.C (.loop (loopOf Proofs.Try.f23 0)) (F14.L0 (R := R) k) :=
  loop_sound mixed (tisOk tisT) F14.env (k := k) (L := []) (n := 1) (inn := (F14.L0 (R := R) k).inn) (outs := (F14.L0 (R := R) k).outs) lokNil (fun j x e => F14.loop0 k j x.1.1 x.1.2.1 x.1.2.2.1 x.2.1.1 (fun u0 u1 => e (.inl ((u0, ()), ((u1, ()), ())))) (fun u0 => e (.inr (((), ((u0, ()), ())))))) (fun _ _ => rfl) (fun j x e => (F14.r0 k j x.1.1 x.1.2.1 x.1.2.2.1 x.2.1.1 e).symm) 0 k
theorem F14.snd : FSound Proofs.Try.prog F14.S :=
  fun_sound (C := F14.C) (S := F14.S) (fn := Proofs.Try.f23) (c := bodyOf Proofs.Try.f23) mixed (tisOk tisT) F14.env Proofs.Try.func23 (by kernel_rfl) (by kernel_rfl) (L := fun k => [F14.L0 k]) (fun k => (lokCons 0 (lc := F14.L0 k) (c0 := loopOf Proofs.Try.f23 0) (by kernel_rfl) (by kernel_rfl) (F14.l0 k) lokNil)) (fun k x => F14.eq k x.1 x.2.1)

theorem F15.env : EnvOk Proofs.Try.prog F15.C := show EnvL Proofs.Try.prog [F14.S] from (envCons F14.snd envNil)
theorem F15.snd : FSound Proofs.Try.prog F15.S :=
  fun_sound (C := F15.C) (S := F15.S) (fn := Proofs.Try.f17) (c := bodyOf Proofs.Try.f17) mixed (tisOk tisT) F15.env Proofs.Try.func17 (by kernel_rfl) (by kernel_rfl) (L := fun k => []) (fun k => lokNil) (fun k x => F15.eq k x.1 x.2.1)

theorem F16.env : EnvOk Proofs.Try.prog F16.C := show EnvL Proofs.Try.prog [F11.S, F12.S, F15.S] from (envCons F11.snd (envCons F12.snd (envCons F15.snd envNil)))
theorem F16.l1 {R : Type} (k : Nat) : LCs Proofs.Try.prog F16.C (.loop (loopOf Proofs.Try.f8 1)) (F16.L1 (R := R) k) :=
  loop_sound mixed (tisOk tisT) F16.env (k := k) (L := []) (n := 2) (inn := (F16.L1 (R := R) k).inn) (outs := (F16.L1 (R := R) k).outs) lokNil (fun j x e => F16.loop1 k j x.1.1 x.1.2.1 x.2.1.1 x.2.2.1 (fun u0 u1 => e (.inl ((u0, ()), (u1, ())))) (fun u0 => e (.inr (((), ((u0, ()), ())))))) (fun _ _ => rfl) (fun j x e => (F16.r1 k j x.1.1 x.1.2.1 x.2.1.1 x.2.2.1 e).symm) 2 k
theorem F16.l0 {R : Type} (k : Nat) : LCs Proofs.Try.prog F16.C (.loop (loopOf Proofs.Try.f8 0)) (F16.L0 (R := R) k) :=
  loop_sound mixed (tisOk tisT) F16.env (k := k) (L := [F16.L1 k]) (n := 1) (inn := (F16.L0 (R := R) k).inn) (outs := (F16.L0 (R := R) k).outs) (lokCons 1 (lc := F16.L1 k) (c0 := loopOf Proofs.Try.f8 1) (by kernel_rfl) (by kernel_rfl) (F16.l1 k) lokNil) (fun j x e => F16.loop0 k j x.1.1 x.1.2.1 x.1.2.2.1 x.2.1.1 (fun u0 u1 => e (.inl ((u0, ()), (u1, ())))) (fun u0 => e (.inr (((), ((u0, ()), ())))))) (fun _ _ => rfl) (fun j x e => (F16.r0 k j x.1.1 x.1.2.1 x.1.2.2.1 x.2.1.1 e).symm) 0 k
theorem F16.l2 {R : Type} (k : Nat) : LCs Proofs.Try.prog F16.C (.loop (loopOf Proofs.Try.f8 2)) (F16.L2 (R := R) k) :=
  loop_sound mixed (tisOk tisT) F16.env (k := k) (L := []) (n := 3) (inn := (F16.L2 (R := R) k).inn) (outs := (F16.L2 (R := R) k).outs) lokNil (fun j x e => F16.loop2 k j x.1.1 x.1.2.1 x.1.2.2.1 x.2.1.1 (fun u0 u1 => e (.inl ((u0, ()), (u1, ())))) (fun u0 => e (.inr (((), ((u0, ()), ())))))) (fun _ _ => rfl) (fun j x e => (F16.r2 k j x.1.1 x.1.2.1 x.1.2.2.1 x.2.1.1 e).symm) 4 k
theorem F16.l3 {R : Type} (k : Nat) : LCs Proofs.Try.prog F16.C (.loop (loopOf Proofs.Try.f8 3)) (F16.L3 (R := R) k) :=
  loop_sound mixed (tisOk tisT) F16.env (k := k) (L := []) (n := 4) (inn := (F16.L3 (R := R) k).inn) (outs := (F16.L3 (R := R) k).outs) lokNil (fun j x e => F16.loop3 k j x.1.1 x.1.2.1 x.2.1.1 (fun u0 => e ((), ((u0, ()), ())))) (fun _ _ => rfl) (fun j x e => (F16.r3 k j x.1.1 x.1.2.1 x.2.1.1 e).symm) 6 k
theorem F16.l5 {R : Type} (k : Nat) : LCs Proofs.Try.prog F16.C (.loop (loopOf Proofs.Try.f8 5)) (F16.L5 (R := R) k) :=
  loop_sound mixed (tisOk tisT) F16.env (k := k) (L := []) (n := 6) (inn := (F16.L5 (R := R) k).inn) (outs := (F16.L5 (R := R) k).outs) lokNil (fun j x e => F16.loop5 k j x.1.1 x.1.2.1 x.1.2.2.1 x.1.2.2.2.1 x.1.2.2.2.2.1 x.2.1.1 (fun u0 u1 => e ((u0, ()), ((u1, ()), ())))) (fun _ _ => rfl) (fun j x e => (F16.r5 k j x.1.1 x.1.2.1 x.1.2.2.1 x.1.2.2.2.1 x.1.2.2.2.2.1 x.2.1.1 e).symm) 10 k
theorem F16.l4 {R : Type} (k : Nat) : LCs Proofs.Try.prog F16.C (.loop (loopOf Proofs.Try.f8 4)) (F16.L4 (R := R) k) :=
  loop_sound mixed (tisOk tisT) F16.env (k := k) (L := [F16.L5 k]) (n := 5) (inn := (F16.L4 (R := R) k).inn) (outs := (F16.L4 (R := R) k).outs) (lokCons 5 (lc := F16.L5 k) (c0 := loopOf Proofs.Try.f8 5) (by kernel_rfl) (by kernel_rfl) (F16.l5 k) lokNil) (fun j x e => F16.loop4 k j x.1.1 x.2.1.1 x.2.1.2.1 x.2.1.2.2.1 x.2.1.2.2.2.1 x.2.2.1 x.2.2.2.1.1 (fun u0 u1 => e (.inl ((u0, ()), (u1, ())))) (fun u0 => e (.inr (((), (u0, ())))))) (fun _ _ => rfl) (fun j x e => (F16.r4 k j x.1.1 x.2.1.1 x.2.1.2.1 x.2.1.2.2.1 x.2.1.2.2.2.1 x.2.2.1 x.2.2.2.1.1 e).symm) 8 k
theorem F16.snd : FSound Proofs.Try.prog F16.S :=
  fun_sound (C := F16.C) (S := F16.S) (fn := Proofs.Try.f8) (c := bodyOf Proofs.Try.f8) mixed (tisOk tisT) F16.env Proofs.Try.func8 (by kernel_rfl) (by kernel_rfl) (L := fun k => [F16.L1 k, F16.L0 k, F16.L2 k, F16.L3 k, F16.L5 k, F16.L4 k]) (fun k => (lokCons 1 (lc := F16.L1 k) (c0 := loopOf Proofs.Try.f8 1) (by kernel_rfl) (by kernel_rfl) (F16.l1 k) (lokCons 0 (lc := F16.L0 k) (c0 := loopOf Proofs.Try.f8 0) (by kernel_rfl) (by kernel_rfl) (F16.l0 k) (lokCons 2 (lc := F16.L2 k) (c0 := loopOf Proofs.Try.f8 2) (by kernel_rfl) (by kernel_rfl) (F16.l2 k) (lokCons 3 (lc := F16.L3 k) (c0 := loopOf Proofs.Try.f8 3) (by kernel_rfl) (by kernel_rfl) (F16.l3 k) (lokCons 5 (lc := F16.L5 k) (c0 := loopOf Proofs.Try.f8 5) (by kernel_rfl) (by kernel_rfl) (F16.l5 k) (lokCons 4 (lc := F16.L4 k) (c0 := loopOf Proofs.Try.f8 4) (by kernel_rfl) (by kernel_rfl) (F16.l4 k) lokNil))))))) (fun k x => F16.eq k x.1)

theorem F17.env : EnvOk Proofs.Try.prog F17.C := show EnvL Proofs.Try.prog [] from envNil
theorem F17.snd : FSound Proofs.Try.prog F17.S :=
  fun_sound (C := F17.C) (S := F17.S) (fn := Proofs.Try.f9) (c := bodyOf Proofs.Try.f9) mixed (tisOk tisT) F17.env Proofs.Try.func9 (by kernel_rfl) (by kernel_rfl) (L := fun k => []) (fun k => lokNil) (fun k x => F17.eq k x.1)

theorem F18.env : EnvOk Proofs.Try.prog F18.C := show EnvL Proofs.Try.prog [] from envNil
theorem F18.l0 {R : Type} (k : Nat) : LCs Proofs.Try.prog F18.C (.loop (loopOf Proofs.Try.f35 0)) (F18.L0 (R := R) k) :=
  loop_sound mixed (tisOk tisT) F18.env (k := k) (L := []) (n := 1) (inn := (F18.L0 (R := R) k).inn) (outs := (F18.L0 (R := R) k).outs) lokNil (fun j x e => F18.loop0 k j x.1.1 x.1.2.1 x.1.2.2.1 x.1.2.2.2.1 (fun u0 => e (.inl ((u0, ()), ()))) (fun _ => e (.inr (((), ()))))) (fun _ _ => rfl) (fun j x e => (F18.r0 k j x.1.1 x.1.2.1 x.1.2.2.1 x.1.2.2.2.1 e).symm) 0 k
theorem F18.snd : FSound Proofs.Try.prog F18.S :=
  fun_sound (C := F18.C) (S := F18.S) (fn := Proofs.Try.f35) (c := bodyOf Proofs.Try.f35) mixed (tisOk tisT) F18.env Proofs.Try.func35 (by kernel_rfl) (by kernel_rfl) (L := fun k => [F18.L0 k]) (fun k => (lokCons 0 (lc := F18.L0 k) (c0 := loopOf Proofs.Try.f35 0) (by kernel_rfl) (by kernel_rfl) (F18.l0 k) lokNil)) (fun k x => F18.eq k x.1 x.2.1)

theorem F19.env : EnvOk Proofs.Try.prog F19.C := show EnvL Proofs.Try.prog [F18.S] from (envCons F18.snd envNil)
theorem F19.snd : FSound Proofs.Try.prog F19.S :=
  fun_sound (C := F19.C) (S := F19.S) (fn := Proofs.Try.f28) (c := bodyOf Proofs.Try.f28) mixed (tisOk tisT) F19.env Proofs.Try.func28 (by kernel_rfl) (by kernel_rfl) (L := fun k => []) (fun k => lokNil) (fun k x => F19.eq k x.1 x.2.1)

theorem F20.env : EnvOk Proofs.Try.prog F20.C := show EnvL Proofs.Try.prog [F19.S] from (envCons F19.snd envNil)
theorem F20.snd : FSound Proofs.Try.prog F20.S :=
  fun_sound (C := F20.C) (S := F20.S) (fn := Proofs.Try.f27) (c := bodyOf Proofs.Try.f27) mixed (tisOk tisT) F20.env Proofs.Try.func27 (by kernel_rfl) (by kernel_rfl) (L := fun k => []) (fun k => lokNil) (fun k x => F20.eq k x.1 x.2.1)

theorem F21.env : EnvOk Proofs.Try.prog F21.C := show EnvL Proofs.Try.prog [F20.S] from (envCons F20.snd envNil)
theorem F21.l0 {R : Type} (k : Nat) : LCs Proofs.Try.prog F21.C (.loop (loopOf Proofs.Try.f23 0)) (F21.L0 (R := R) k) :=
  loop_sound mixed (tisOk tisT) F21.env (k := k) (L := []) (n := 1) (inn := (F21.L0 (R := R) k).inn) (outs := (F21.L0 (R := R) k).outs) lokNil (fun j x e => F21.loop0 k j x.1.1 x.1.2.1 x.1.2.2.1 x.2.1.1 (fun u0 u1 => e (.inl ((u0, ()), ((u1, ()), ())))) (fun u0 => e (.inr (((), ((u0, ()), ())))))) (fun _ _ => rfl) (fun j x e => (F21.r0 k j x.1.1 x.1.2.1 x.1.2.2.1 x.2.1.1 e).symm) 0 k
theorem F21.snd : FSound Proofs.Try.prog F21.S :=
  fun_sound (C := F21.C) (S := F21.S) (fn := Proofs.Try.f23) (c := bodyOf Proofs.Try.f23) mixed (tisOk tisT) F21.env Proofs.Try.func23 (by kernel_rfl) (by kernel_rfl) (L := fun k => [F21.L0 k]) (fun k => (lokCons 0 (lc := F21.L0 k) (c0 := loopOf Proofs.Try.f23 0) (by kernel_rfl) (by kernel_rfl) (F21.l0 k) lokNil)) (fun k x => F21.eq k x.1 x.2.1)

theorem F22.env : EnvOk Proofs.Try.prog F22.C := show EnvL Proofs.Try.prog [F21.S] from (envCons F21.snd envNil)
theorem F22.snd : FSound Proofs.Try.prog F22.S :=
  fun_sound (C := F22.C) (S := F22.S) (fn := Proofs.Try.f17) (c := bodyOf Proofs.Try.f17) mixed (tisOk tisT) F22.env Proofs.Try.func17 (by kernel_rfl) (by kernel_rfl) (L := fun k => []) (fun k => lokNil) (fun k x => F22.eq k x.1 x.2.1)

theorem F23.env : EnvOk Proofs.Try.prog F23.C := show EnvL Proofs.Try.prog [F11.S, F22.S] from (envCons F11.snd (envCons F22.snd envNil))
theorem F23.l1 {R : Type} (k : Nat) : LCs Proofs.Try.prog F23.C (.loop (loopOf Proofs.Try.f24 1)) (F23.L1 (R := R) k) :=
  loop_sound mixed (tisOk tisT) F23.env (k := k) (L := []) (n := 2) (inn := (F23.L1 (R := R) k).inn) (outs := (F23.L1 (R := R) k).outs) lokNil (fun j x e => F23.loop1 k j x.1.1 x.1.2.1 x.1.2.2.1 x.1.2.2.2.1 x.2.1.1 x.2.1.2.1 x.2.1.2.2.1 x.2.1.2.2.2.1 x.2.2.1 x.2.2.2.1.1 x.2.2.2.2.1 (fun u0 u1 u2 u3 u4 u5 u6 => e ((), ((u0, u1, u2, u3, ()), u4, (u5, ()), u6, ())))) (fun _ _ => rfl) (fun j x e => (F23.r1 k j x.1.1 x.1.2.1 x.1.2.2.1 x.1.2.2.2.1 x.2.1.1 x.2.1.2.1 x.2.1.2.2.1 x.2.1.2.2.2.1 x.2.2.1 x.2.2.2.1.1 x.2.2.2.2.1 e).symm) 2 k
theorem F23.l0 {R : Type} (k : Nat) : LCs Proofs.Try.prog F23.C (.loop (loopOf Proofs.Try.f24 0)) (F23.L0 (R := R) k) :=
  loop_sound mixed (tisOk tisT) F23.env (k := k) (L := [F23.L1 k]) (n := 1) (inn := (F23.L0 (R := R) k).inn) (outs := (F23.L0 (R := R) k).outs) (lokCons 1 (lc := F23.L1 k) (c0 := loopOf Proofs.Try.f24 1) (by kernel_rfl) (by kernel_rfl) (F23.l1 k) lokNil) (fun j x e => F23.loop0 k j x.1.1 x.2.1.1 x.2.1.2.1 x.2.1.2.2.1 x.2.1.2.2.2.1 x.2.2.1 x.2.2.2.1.1 (fun u0 => e ((), (u0, ())))) (fun _ _ => rfl) (fun j x e => (F23.r0 k j x.1.1 x.2.1.1 x.2.1.2.1 x.2.1.2.2.1 x.2.1.2.2.2.1 x.2.2.1 x.2.2.2.1.1 e).symm) 0 k
theorem F23.snd : FSound Proofs.Try.prog F23.S :=
  fun_sound (C := F23.C) (S := F23.S) (fn := Proofs.Try.f24) (c := bodyOf Proofs.Try.f24) mixed (tisOk tisT) F23.env Proofs.Try.func24 (by kernel_rfl) (by kernel_rfl) (L := fun k => [F23.L1 k, F23.L0 k]) (fun k => (lokCons 1 (lc := F23.L1 k) (c0 := loopOf Proofs.Try.f24 1) (by kernel_rfl) (by kernel_rfl) (F23.l1 k) (lokCons 0 (lc := F23.L0 k) (c0 := loopOf Proofs.Try.f24 0) (by kernel_rfl) (by kernel_rfl) (F23.l0 k) lokNil))) (fun k x => F23.eq k x.1 x.2.1)

theorem F24.env : EnvOk Proofs.Try.prog F24.C := show EnvL Proofs.Try.prog [F16.S, F23.S, F11.S] from (envCons F16.snd (envCons F23.snd (envCons F11.snd envNil)))
theorem F24.l2 {R : Type} (k : Nat) : LCs Proofs.Try.prog F24.C (.loop (loopOf Proofs.Try.f19 2)) (F24.L2 (R := R) k) :=
  loop_sound mixed (tisOk tisT) F24.env (k := k) (L := []) (n := 3) (inn := (F24.L2 (R := R) k).inn) (outs := (F24.L2 (R := R) k).outs) lokNil (fun j x e => F24.loop2 k j x.1.1 x.1.2.1 x.1.2.2.1 x.1.2.2.2.1 x.1.2.2.2.2.1 x.2.1 x.2.2.1 (fun u0 u1 => e ((u0, ()), (u1, ())))) (fun _ _ => rfl) (fun j x e => (F24.r2 k j x.1.1 x.1.2.1 x.1.2.2.1 x.1.2.2.2.1 x.1.2.2.2.2.1 x.2.1 x.2.2.1 e).symm) 4 k
theorem F24.l1 {R : Type} (k : Nat) : LCs Proofs.Try.prog F24.C (.loop (loopOf Proofs.Try.f19 1)) (F24.L1 (R := R) k) :=
  loop_sound mixed (tisOk tisT) F24.env (k := k) (L := [F24.L2 k]) (n := 2) (inn := (F24.L1 (R := R) k).inn) (outs := (F24.L1 (R := R) k).outs) (lokCons 2 (lc := F24.L2 k) (c0 := loopOf Proofs.Try.f19 2) (by kernel_rfl) (by kernel_rfl) (F24.l2 k) lokNil) (fun j x e => F24.loop1 k j x.1.1 x.1.2.1 x.2.1.1 x.2.1.2.1 x.2.1.2.2.1 x.2.1.2.2.2.1 x.2.2.1 x.2.2.2.1 (fun u0 u1 u2 u3 u4 => e ((), ((u0, u1, u2, u3, ()), u4, ())))) (fun _ _ => rfl) (fun j x e => (F24.r1 k j x.1.1 x.1.2.1 x.2.1.1 x.2.1.2.1 x.2.1.2.2.1 x.2.1.2.2.2.1 x.2.2.1 x.2.2.2.1 e).symm) 2 k
theorem F24.l0 {R : Type} (k : Nat) : LCs Proofs.Try.prog F24.C (.loop (loopOf Proofs.Try.f19 0)) (F24.L0 (R := R) k) :=
  loop_sound mixed (tisOk tisT) F24.env (k := k) (L := [F24.L2 k, F24.L1 k]) (n := 1) (inn := (F24.L0 (R := R) k).inn) (outs := (F24.L0 (R := R) k).outs) (lokCons 2 (lc := F24.L2 k) (c0 := loopOf Proofs.Try.f19 2) (by kernel_rfl) (by kernel_rfl) (F24.l2 k) (lokCons 1 (lc := F24.L1 k) (c0 := loopOf Proofs.Try.f19 1) (by kernel_rfl) (by kernel_rfl) (F24.l1 k) lokNil)) (fun j x e => F24.loop0 k j x.1.1 x.2.1.1 x.2.1.2.1 x.2.1.2.2.1 x.2.1.2.2.2.1 x.2.2.1 (fun u0 => e ((), (u0, ())))) (fun _ _ => rfl) (fun j x e => (F24.r0 k j x.1.1 x.2.1.1 x.2.1.2.1 x.2.1.2.2.1 x.2.1.2.2.2.1 x.2.2.1 e).symm) 0 k
theorem F24.snd : FSound Proofs.Try.prog F24.S :=
  fun_sound (C := F24.C) (S := F24.S) (fn := Proofs.Try.f19) (c := bodyOf Proofs.Try.f19) mixed (tisOk tisT) F24.env Proofs.Try.func19 (by kernel_rfl) (by kernel_rfl) (L := fun k => [F24.L2 k, F24.L1 k, F24.L0 k]) (fun k => (lokCons 2 (lc := F24.L2 k) (c0 := loopOf Proofs.Try.f19 2) (by kernel_rfl) (by kernel_rfl) (F24.l2 k) (lokCons 1 (lc := F24.L1 k) (c0 := loopOf Proofs.Try.f19 1) (by kernel_rfl) (by kernel_rfl) (F24.l1 k) (lokCons 0 (lc := F24.L0 k) (c0 := loopOf Proofs.Try.f19 0) (by kernel_rfl) (by kernel_rfl) (F24.l0 k) lokNil)))) (fun k x => F24.eq k x.1)

theorem F25.env : EnvOk Proofs.Try.prog F25.C := show EnvL Proofs.Try.prog [] from envNil
theorem F25.snd : FSound Proofs.Try.prog F25.S :=
  fun_sound (C := F25.C) (S := F25.S) (fn := Proofs.Try.f36) (c := bodyOf Proofs.Try.f36) mixed (tisOk tisT) F25.env Proofs.Try.func36 (by kernel_rfl) (by kernel_rfl) (L := fun k => []) (fun k => lokNil) (fun k x => F25.eq k x.1 x.2.1 x.2.2.1)

theorem F26.env : EnvOk Proofs.Try.prog F26.C := show EnvL Proofs.Try.prog [F25.S] from (envCons F25.snd envNil)
theorem F26.snd : FSound Proofs.Try.prog F26.S :=
  fun_sound (C := F26.C) (S := F26.S) (fn := Proofs.Try.f29) (c := bodyOf Proofs.Try.f29) mixed (tisOk tisT) F26.env Proofs.Try.func29 (by kernel_rfl) (by kernel_rfl) (L := fun k => []) (fun k => lokNil) (fun k x => F26.eq k x.1 x.2.1 x.2.2.1)

theorem F27.env : EnvOk Proofs.Try.prog F27.C := show EnvL Proofs.Try.prog [F26.S] from (envCons F26.snd envNil)
theorem F27.l0 {R : Type} (k : Nat) : LCs Proofs.Try.prog F27.C (.loop (loopOf Proofs.Try.f25 0)) (F27.L0 (R := R) k) :=
  loop_sound mixed (tisOk tisT) F27.env (k := k) (L := []) (n := 1) (inn := (F27.L0 (R := R) k).inn) (outs := (F27.L0 (R := R) k).outs) lokNil (fun j x e => F27.loop0 k j x.1.1 x.1.2.1 x.1.2.2.1 x.2.1.1 x.2.1.2.1 x.2.1.2.2.1 x.2.1.2.2.2.1 (fun u0 => e (.inl ((u0, ()), ()))) (fun _ => e (.inr (((), ()))))) (fun _ _ => rfl) (fun j x e => (F27.r0 k j x.1.1 x.1.2.1 x.1.2.2.1 x.2.1.1 x.2.1.2.1 x.2.1.2.2.1 x.2.1.2.2.2.1 e).symm) 0 k
theorem F27.snd : FSound Proofs.Try.prog F27.S :=
  fun_sound (C := F27.C) (S := F27.S) (fn := Proofs.Try.f25) (c := bodyOf Proofs.Try.f25) mixed (tisOk tisT) F27.env Proofs.Try.func25 (by kernel_rfl) (by kernel_rfl) (L := fun k => [F27.L0 k]) (fun k => (lokCons 0 (lc := F27.L0 k) (c0 := loopOf Proofs.Try.f25 0) (by kernel_rfl) (by kernel_rfl) (F27.l0 k) lokNil)) (fun k x => F27.eq k x.1)

theorem F28.env : EnvOk Proofs.Try.prog F28.C := show EnvL Proofs.Try.prog [] from envNil
theorem F28.snd : FSound Proofs.Try.prog F28.S :=
  fun_sound (C := F28.C) (S := F28.S) (fn := Proofs.Try.f37) (c := bodyOf Proofs.Try.f37) mixed (tisOk tisT) F28.env Proofs.Try.func37 (by kernel_rfl) (by kernel_rfl) (L := fun k => []) (fun k => lokNil) (fun k x => F28.eq k x.1 x.2.1 x.2.2.1)

theorem F29.env : EnvOk Proofs.Try.prog F29.C := show EnvL Proofs.Try.prog [] from envNil
theorem F29.snd : FSound Proofs.Try.prog F29.S :=
  fun_sound (C := F29.C) (S := F29.S) (fn := Proofs.Try.f32) (c := bodyOf Proofs.Try.f32) mixed (tisOk tisT) F29.env Proofs.Try.func32 (by kernel_rfl) (by kernel_rfl) (L := fun k => []) (fun k => lokNil) (fun k x => F29.eq k x.1)

theorem F30.env : EnvOk Proofs.Try.prog F30.C := show EnvL Proofs.Try.prog [] from envNil
theorem F30.l0 {R : Type} (k : Nat) : LCs Proofs.Try.prog F30.C (.loop (loopOf Proofs.Try.f38 0)) (F30.L0 (R := R) k) :=
  loop_sound mixed (tisOk tisT) F30.env (k := k) (L := []) (n := 1) (inn := (F30.L0 (R := R) k).inn) (outs := (F30.L0 (R := R) k).outs) lokNil (fun j x e => F30.loop0 k j x.1.1 x.1.2.1 x.1.2.2.1 x.2.1.1 (fun u0 u1 => e (.inl ((u0, ()), ((u1, ()), ())))) (fun u0 => e (.inr (((), ((u0, ()), ())))))) (fun _ _ => rfl) (fun j x e => (F30.r0 k j x.1.1 x.1.2.1 x.1.2.2.1 x.2.1.1 e).symm) 0 k
theorem F30.snd : FSound Proofs.Try.prog F30.S :=
  fun_sound (C := F30.C) (S := F30.S) (fn := Proofs.Try.f38) (c := bodyOf Proofs.Try.f38) mixed (tisOk tisT) F30.env Proofs.Try.func38 (by kernel_rfl) (by kernel_rfl) (L := fun k => [F30.L0 k]) (fun k => (lokCons 0 (lc := F30.L0 k) (c0 := loopOf Proofs.Try.f38 0) (by kernel_rfl) (by kernel_rfl) (F30.l0 k) lokNil)) (fun k x => F30.eq k x.1 x.2.1 x.2.2.1)

theorem F31.env : EnvOk Proofs.Try.prog F31.C := show EnvL Proofs.Try.prog [F28.S, F29.S, F30.S] from (envCons F28.snd (envCons F29.snd (envCons F30.snd envNil)))
theorem F31.jl4 {R : Type} (k : Nat) : LCs Proofs.Try.prog F31.C (joinOf Proofs.Try.f30 4) (F31.J4 (R := R) k) :=
  once_sound mixed (tisOk tisT) F31.env (k := k) (L := []) (n := 0) (inn := (F31.J4 (R := R) k).inn) (outs := (F31.J4 (R := R) k).outs) lokNil (fun x e => F31.join4 k x.2.1.1 x.2.1.2.1 x.2.1.2.2.1 x.2.1.2.2.2.1 x.2.1.2.2.2.2.1 x.2.1.2.2.2.2.2.1 x.2.1.2.2.2.2.2.2.1 x.2.1.2.2.2.2.2.2.2.1 x.2.1.2.2.2.2.2.2.2.2.1 x.2.1.2.2.2.2.2.2.2.2.2.1 x.2.1.2.2.2.2.2.2.2.2.2.2.1 x.2.1.2.2.2.2.2.2.2.2.2.2.2.1 x.2.1.2.2.2.2.2.2.2.2.2.2.2.2.1 x.2.1.2.2.2.2.2.2.2.2.2.2.2.2.2.1 x.2.1.2.2.2.2.2.2.2.2.2.2.2.2.2.2.1 x.2.1.2.2.2.2.2.2.2.2.2.2.2.2.2.2.2.1 x.2.1.2.2.2.2.2.2.2.2.2.2.2.2.2.2.2.2.1 x.2.1.2.2.2.2.2.2.2.2.2.2.2.2.2.2.2.2.2.1 x.2.2.1.1 (fun u0 => e ((u0, ()), ()))) (fun x e => (F31.q4 k x.2.1.1 x.2.1.2.1 x.2.1.2.2.1 x.2.1.2.2.2.1 x.2.1.2.2.2.2.1 x.2.1.2.2.2.2.2.1 x.2.1.2.2.2.2.2.2.1 x.2.1.2.2.2.2.2.2.2.1 x.2.1.2.2.2.2.2.2.2.2.1 x.2.1.2.2.2.2.2.2.2.2.2.1 x.2.1.2.2.2.2.2.2.2.2.2.2.1 x.2.1.2.2.2.2.2.2.2.2.2.2.2.1 x.2.1.2.2.2.2.2.2.2.2.2.2.2.2.1 x.2.1.2.2.2.2.2.2.2.2.2.2.2.2.2.1 x.2.1.2.2.2.2.2.2.2.2.2.2.2.2.2.2.1 x.2.1.2.2.2.2.2.2.2.2.2.2.2.2.2.2.2.1 x.2.1.2.2.2.2.2.2.2.2.2.2.2.2.2.2.2.2.1 x.2.1.2.2.2.2.2.2.2.2.2.2.2.2.2.2.2.2.2.1 x.2.2.1.1 e).symm) 9
theorem F31.snd : FSound Proofs.Try.prog F31.S :=
  fun_sound (C := F31.C) (S := F31.S) (fn := Proofs.Try.f30) (c := bodyOf Proofs.Try.f30) mixed (tisOk tisT) F31.env Proofs.Try.func30 (by kernel_rfl) (by kernel_rfl) (L := fun k => [F31.J4 k]) (fun k => (lokConsJ 4 (lc := F31.J4 k) (c0 := joinOf Proofs.Try.f30 4) (by kernel_rfl) (by kernel_rfl) (F31.jl4 k) lokNil)) (fun k x => F31.eq k x.1)

theorem F32.env : EnvOk Proofs.Try.prog F32.C := show EnvL Proofs.Try.prog [F25.S, F28.S] from (envCons F25.snd (envCons F28.snd envNil))
theorem F32.snd : FSound Proofs.Try.prog F32.S :=
  fun_sound (C := F32.C) (S := F32.S) (fn := Proofs.Try.f31) (c := bodyOf Proofs.Try.f31) mixed (tisOk tisT) F32.env Proofs.Try.func31 (by kernel_rfl) (by kernel_rfl) (L := fun k => []) (fun k => lokNil) (fun k x => F32.eq k x.1)

theorem F33.env : EnvOk Proofs.Try.prog F33.C := show EnvL Proofs.Try.prog [] from envNil
theorem F33.snd : FSound Proofs.Try.prog F33.S :=
  fun_sound (C := F33.C) (S := F33.S) (fn := Proofs.Try.f33) (c := bodyOf Proofs.Try.f33) mixed (tisOk tisT) F33.env Proofs.Try.func33 (by kernel_rfl) (by kernel_rfl) (L := fun k => []) (fun k => lokNil) (fun k x => F33.eq k x.1 x.2.1)

theorem F34.env : EnvOk Proofs.Try.prog F34.C := show EnvL Proofs.Try.prog [] from envNil
theorem F34.snd : FSound Proofs.Try.prog F34.S :=
  fun_sound (C := F34.C) (S := F34.S) (fn := Proofs.Try.f45) (c := bodyOf Proofs.Try.f45) mixed (tisOk tisT) F34.env Proofs.Try.func45 (by kernel_rfl) (by kernel_rfl) (L := fun k => []) (fun k => lokNil) (fun k x => F34.eq k x.1)

theorem F35.env : EnvOk Proofs.Try.prog F35.C := show EnvL Proofs.Try.prog [] from envNil
theorem F35.l0 {R : Type} (k : Nat) : LCs Proofs.Try.prog F35.C (.loop (loopOf Proofs.Try.f46 0)) (F35.L0 (R := R) k) :=
  loop_sound mixed (tisOk tisT) F35.env (k := k) (L := []) (n := 1) (inn := (F35.L0 (R := R) k).inn) (outs := (F35.L0 (R := R) k).outs) lokNil (fun j x e => F35.loop0 k j x.1.1 x.1.2.1 x.1.2.2.1 (fun u0 => e (.inl ((u0, ()), ()))) (fun _ => e (.inr (((), ()))))) (fun _ _ => rfl) (fun j x e => (F35.r0 k j x.1.1 x.1.2.1 x.1.2.2.1 e).symm) 0 k
theorem F35.snd : FSound Proofs.Try.prog F35.S :=
  fun_sound (C := F35.C) (S := F35.S) (fn := Proofs.Try.f46) (c := bodyOf Proofs.Try.f46) mixed (tisOk tisT) F35.env Proofs.Try.func46 (by kernel_rfl) (by kernel_rfl) (L := fun k => [F35.L0 k]) (fun k => (lokCons 0 (lc := F35.L0 k) (c0 := loopOf Proofs.Try.f46 0) (by kernel_rfl) (by kernel_rfl) (F35.l0 k) lokNil)) (fun k x => F35.eq k x.1)

theorem F36.env : EnvOk Proofs.Try.prog F36.C := show EnvL Proofs.Try.prog [] from envNil
theorem F36.snd : FSound Proofs.Try.prog F36.S :=
  fun_sound (C := F36.C) (S := F36.S) (fn := Proofs.Try.f47) (c := bodyOf Proofs.Try.f47) mixed (tisOk tisT) F36.env Proofs.Try.func47 (by kernel_rfl) (by kernel_rfl) (L := fun k => []) (fun k => lokNil) (fun k x => F36.eq k x.1)

theorem F37.env : EnvOk Proofs.Try.prog F37.C := show EnvL Proofs.Try.prog [] from envNil
theorem F37.snd : FSound Proofs.Try.prog F37.S :=
  fun_sound (C := F37.C) (S := F37.S) (fn := Proofs.Try.f62) (c := bodyOf Proofs.Try.f62) mixed (tisOk tisT) F37.env Proofs.Try.func62 (by kernel_rfl) (by kernel_rfl) (L := fun k => []) (fun k => lokNil) (fun k x => F37.eq k x.1 x.2.1)

theorem F38.env : EnvOk Proofs.Try.prog F38.C := show EnvL Proofs.Try.prog [] from envNil
theorem F38.snd : FSound Proofs.Try.prog F38.S :=
  fun_sound (C := F38.C) (S := F38.S) (fn := Proofs.Try.f68) (c := bodyOf Proofs.Try.f68) mixed (tisOk tisT) F38.env Proofs.Try.func68 (by kernel_rfl) (by kernel_rfl) (L := fun k => []) (fun k => lokNil) (fun k x => F38.eq k x.1)

theorem F39.env : EnvOk Proofs.Try.prog F39.C := show EnvL Proofs.Try.prog [F38.S] from (envCons F38.snd envNil)
theorem F39.snd : FSound Proofs.Try.prog F39.S :=
  fun_sound (C := F39.C) (S := F39.S) (fn := Proofs.Try.f63) (c := bodyOf Proofs.Try.f63) mixed (tisOk tisT) F39.env Proofs.Try.func63 (by kernel_rfl) (by kernel_rfl) (L := fun k => []) (fun k => lokNil) (fun k x => F39.eq k x.1)

theorem F40.env : EnvOk Proofs.Try.prog F40.C := show EnvL Proofs.Try.prog [F35.S, F37.S, F39.S] from (envCons F35.snd (envCons F37.snd (envCons F39.snd envNil)))
theorem F40.l0 {R : Type} (k : Nat) : LCs Proofs.Try.prog F40.C (.loop (loopOf Proofs.Try.f48 0)) (F40.L0 (R := R) k) :=
  loop_sound mixed (tisOk tisT) F40.env (k := k) (L := []) (n := 1) (inn := (F40.L0 (R := R) k).inn) (outs := (F40.L0 (R := R) k).outs) lokNil (fun j x e => F40.loop0 k j x.1.1 x.1.2.1 x.1.2.2.1 x.1.2.2.2.1 x.1.2.2.2.2.1 x.2.1.1 x.2.1.2.1 x.2.2.1.1 x.2.2.1.2.1 (fun u0 u1 u2 u3 => e ((), ((u0, u1, ()), (u2, u3, ()), ())))) (fun _ _ => rfl) (fun j x e => (F40.r0 k j x.1.1 x.1.2.1 x.1.2.2.1 x.1.2.2.2.1 x.1.2.2.2.2.1 x.2.1.1 x.2.1.2.1 x.2.2.1.1 x.2.2.1.2.1 e).symm) 0 k
theorem F40.snd : FSound Proofs.Try.prog F40.S :=
  fun_sound (C := F40.C) (S := F40.S) (fn := Proofs.Try.f48) (c := bodyOf Proofs.Try.f48) mixed (tisOk tisT) F40.env Proofs.Try.func48 (by kernel_rfl) (by kernel_rfl) (L := fun k => [F40.L0 k]) (fun k => (lokCons 0 (lc := F40.L0 k) (c0 := loopOf Proofs.Try.f48 0) (by kernel_rfl) (by kernel_rfl) (F40.l0 k) lokNil)) (fun k x => F40.eq k x.1 x.2.1 x.2.2.1)

theorem F41.env : EnvOk Proofs.Try.prog F41.C := show EnvL Proofs.Try.prog [F34.S, F35.S, F36.S, F40.S] from (envCons F34.snd (envCons F35.snd (envCons F36.snd (envCons F40.snd envNil))))
theorem F41.snd : FSound Proofs.Try.prog F41.S :=
  fun_sound (C := F41.C) (S := F41.S) (fn := Proofs.Try.f39) (c := bodyOf Proofs.Try.f39) mixed (tisOk tisT) F41.env Proofs.Try.func39 (by kernel_rfl) (by kernel_rfl) (L := fun k => []) (fun k => lokNil) (fun k x => F41.eq k x.1 x.2.1 x.2.2.1 x.2.2.2.1 x.2.2.2.2.1 x.2.2.2.2.2.1)

theorem F42.env : EnvOk Proofs.Try.prog F42.C := show EnvL Proofs.Try.prog [] from envNil
theorem F42.snd : FSound Proofs.Try.prog F42.S :=
  fun_sound (C := F42.C) (S := F42.S) (fn := Proofs.Try.f49) (c := bodyOf Proofs.Try.f49) mixed (tisOk tisT) F42.env Proofs.Try.func49 (by kernel_rfl) (by kernel_rfl) (L := fun k => []) (fun k => lokNil) (fun k x => F42.eq k x.1)

theorem F43.env : EnvOk Proofs.Try.prog F43.C := show EnvL Proofs.Try.prog [] from envNil
theorem F43.snd : FSound Proofs.Try.prog F43.S :=
  fun_sound (C := F43.C) (S := F43.S) (fn := Proofs.Try.f50) (c := bodyOf Proofs.Try.f50) mixed (tisOk tisT) F43.env Proofs.Try.func50 (by kernel_rfl) (by kernel_rfl) (L := fun k => []) (fun k => lokNil) (fun k x => F43.eq k x.1)

theorem F44.env : EnvOk Proofs.Try.prog F44.C := show EnvL Proofs.Try.prog [F38.S] from (envCons F38.snd envNil)
theorem F44.snd : FSound Proofs.Try.prog F44.S :=
  fun_sound (C := F44.C) (S := F44.S) (fn := Proofs.Try.f64) (c := bodyOf Proofs.Try.f64) mixed (tisOk tisT) F44.env Proofs.Try.func64 (by kernel_rfl) (by kernel_rfl) (L := fun k => []) (fun k => lokNil) (fun k x => F44.eq k x.1 x.2.1)

theorem F45.env : EnvOk Proofs.Try.prog F45.C := show EnvL Proofs.Try.prog [F44.S] from (envCons F44.snd envNil)
theorem F45.snd : FSound Proofs.Try.prog F45.S :=
  fun_sound (C := F45.C) (S := F45.S) (fn := Proofs.Try.f51) (c := bodyOf Proofs.Try.f51) mixed (tisOk tisT) F45.env Proofs.Try.func51 (by kernel_rfl) (by kernel_rfl) (L := fun k => []) (fun k => lokNil) (fun k x => F45.eq k x.1 x.2.1 x.2.2.1)

theorem F46.env : EnvOk Proofs.Try.prog F46.C := show EnvL Proofs.Try.prog [F35.S, F42.S, F43.S, F40.S, F45.S] from (envCons F35.snd (envCons F42.snd (envCons F43.snd (envCons F40.snd (envCons F45.snd envNil)))))
theorem F46.jl3 {R : Type} (k : Nat) : LCs Proofs.Try.prog F46.C (joinOf Proofs.Try.f40 3) (F46.J3 (R := R) k) :=
  once_sound mixed (tisOk tisT) F46.env (k := k) (L := []) (n := 0) (inn := (F46.J3 (R := R) k).inn) (outs := (F46.J3 (R := R) k).outs) lokNil (fun x e => F46.join3 k x.1.1 x.1.2.1 x.1.2.2.1 x.1.2.2.2.1 x.1.2.2.2.2.1 x.1.2.2.2.2.2.1 (fun u0 => e ((u0, ()), ()))) (fun x e => (F46.q3 k x.1.1 x.1.2.1 x.1.2.2.1 x.1.2.2.2.1 x.1.2.2.2.2.1 x.1.2.2.2.2.2.1 e).symm) 7
theorem F46.snd : FSound Proofs.Try.prog F46.S :=
  fun_sound (C := F46.C) (S := F46.S) (fn := Proofs.Try.f40) (c := bodyOf Proofs.Try.f40) mixed (tisOk tisT) F46.env Proofs.Try.func40 (by kernel_rfl) (by kernel_rfl) (L := fun k => [F46.J3 k]) (fun k => (lokConsJ 3 (lc := F46.J3 k) (c0 := joinOf Proofs.Try.f40 3) (by kernel_rfl) (by kernel_rfl) (F46.jl3 k) lokNil)) (fun k x => F46.eq k x.1 x.2.1 x.2.2.1 x.2.2.2.1 x.2.2.2.2.1 x.2.2.2.2.2.1)

theorem F47.env : EnvOk Proofs.Try.prog F47.C := show EnvL Proofs.Try.prog [] from envNil
theorem F47.snd : FSound Proofs.Try.prog F47.S :=
  fun_sound (C := F47.C) (S := F47.S) (fn := Proofs.Try.f65) (c := bodyOf Proofs.Try.f65) mixed (tisOk tisT) F47.env Proofs.Try.func65 (by kernel_rfl) (by kernel_rfl) (L := fun k => []) (fun k => lokNil) (fun k x => F47.eq k x.1)

theorem F48.env : EnvOk Proofs.Try.prog F48.C := show EnvL Proofs.Try.prog [] from envNil
theorem F48.snd : FSound Proofs.Try.prog F48.S :=
  fun_sound (C := F48.C) (S := F48.S) (fn := Proofs.Try.f66) (c := bodyOf Proofs.Try.f66) mixed (tisOk tisT) F48.env Proofs.Try.func66 (by kernel_rfl) (by kernel_rfl) (L := fun k => []) (fun k => lokNil) (fun k x => F48.eq k x.1)

theorem F49.env : EnvOk Proofs.Try.prog F49.C := show EnvL Proofs.Try.prog [F47.S, F48.S] from (envCons F47.snd (envCons F48.snd envNil))
theorem F49.l1 {R : Type} (k : Nat) : LCs Proofs.Try.prog F49.C (.loop (loopOf Proofs.Try.f52 1)) (F49.L1 (R := R) k) :=
  loop_sound mixed (tisOk tisT) F49.env (k := k) (L := []) (n := 2) (inn := (F49.L1 (R := R) k).inn) (outs := (F49.L1 (R := R) k).outs) lokNil (fun j x e => F49.loop1 k j x.1.1 x.1.2.1 x.1.2.2.1 (fun u0 => e (.inl ((u0, ()), ()))) (fun _ => e (.inr (((), ()))))) (fun _ _ => rfl) (fun j x e => (F49.r1 k j x.1.1 x.1.2.1 x.1.2.2.1 e).symm) 2 k
theorem F49.l0 {R : Type} (k : Nat) : LCs Proofs.Try.prog F49.C (.loop (loopOf Proofs.Try.f52 0)) (F49.L0 (R := R) k) :=
  loop_sound mixed (tisOk tisT) F49.env (k := k) (L := [F49.L1 k]) (n := 1) (inn := (F49.L0 (R := R) k).inn) (outs := (F49.L0 (R := R) k).outs) (lokCons 1 (lc := F49.L1 k) (c0 := loopOf Proofs.Try.f52 1) (by kernel_rfl) (by kernel_rfl) (F49.l1 k) lokNil) (fun j x e => F49.loop0 k j x.1.1 x.1.2.1 x.1.2.2.1 (fun u0 => e (.inl ((u0, ()), ()))) (fun _ => e (.inr (((), ()))))) (fun _ _ => rfl) (fun j x e => (F49.r0 k j x.1.1 x.1.2.1 x.1.2.2.1 e).symm) 0 k
theorem F49.snd : FSound Proofs.Try.prog F49.S :=
  fun_sound (C := F49.C) (S := F49.S) (fn := Proofs.Try.f52) (c := bodyOf Proofs.Try.f52) mixed (tisOk tisT) F49.env Proofs.Try.func52 (by kernel_rfl) (by kernel_rfl) (L := fun k => [F49.L1 k, F49.L0 k]) (fun k => (lokCons 1 (lc := F49.L1 k) (c0 := loopOf Proofs.Try.f52 1) (by kernel_rfl) (by kernel_rfl) (F49.l1 k) (lokCons 0 (lc := F49.L0 k) (c0 := loopOf Proofs.Try.f52 0) (by kernel_rfl) (by kernel_rfl) (F49.l0 k) lokNil))) (fun k x => F49.eq k x.1 x.2.1)

theorem F50.env : EnvOk Proofs.Try.prog F50.C := show EnvL Proofs.Try.prog [] from envNil
theorem F50.snd : FSound Proofs.Try.prog F50.S :=
  fun_sound (C := F50.C) (S := F50.S) (fn := Proofs.Try.f53) (c := bodyOf Proofs.Try.f53) mixed (tisOk tisT) F50.env Proofs.Try.func53 (by kernel_rfl) (by kernel_rfl) (L := fun k => []) (fun k => lokNil) (fun k x => F50.eq k x.1)

theorem F51.env : EnvOk Proofs.Try.prog F51.C := show EnvL Proofs.Try.prog [] from envNil
theorem F51.snd : FSound Proofs.Try.prog F51.S :=
  fun_sound (C := F51.C) (S := F51.S) (fn := Proofs.Try.f54) (c := bodyOf Proofs.Try.f54) mixed (tisOk tisT) F51.env Proofs.Try.func54 (by kernel_rfl) (by kernel_rfl) (L := fun k => []) (fun k => lokNil) (fun k x => F51.eq k x.1)

theorem F52.env : EnvOk Proofs.Try.prog F52.C := show EnvL Proofs.Try.prog [F49.S, F25.S, F50.S, F51.S, F40.S, F45.S] from (envCons F49.snd (envCons F25.snd (envCons F50.snd (envCons F51.snd (envCons F40.snd (envCons F45.snd envNil))))))
theorem F52.l0 {R : Type} (k : Nat) : LCs Proofs.Try.prog F52.C (.loop (loopOf Proofs.Try.f41 0)) (F52.L0 (R := R) k) :=
  loop_sound mixed (tisOk tisT) F52.env (k := k) (L := []) (n := 1) (inn := (F52.L0 (R := R) k).inn) (outs := (F52.L0 (R := R) k).outs) lokNil (fun j x e => F52.loop0 k j x.1.1 x.1.2.1 x.1.2.2.1 x.1.2.2.2.1 x.1.2.2.2.2.1 x.1.2.2.2.2.2.1 x.2.1.1 x.2.1.2.1 x.2.1.2.2.1 (fun u0 => e (.inl ((u0, ()), ()))) (fun u0 u1 => e (.inr (((u0, u1, ()), ()))))) (fun _ _ => rfl) (fun j x e => (F52.r0 k j x.1.1 x.1.2.1 x.1.2.2.1 x.1.2.2.2.1 x.1.2.2.2.2.1 x.1.2.2.2.2.2.1 x.2.1.1 x.2.1.2.1 x.2.1.2.2.1 e).symm) 0 k
theorem F52.l1 {R : Type} (k : Nat) : LCs Proofs.Try.prog F52.C (.loop (loopOf Proofs.Try.f41 1)) (F52.L1 (R := R) k) :=
  loop_sound mixed (tisOk tisT) F52.env (k := k) (L := []) (n := 2) (inn := (F52.L1 (R := R) k).inn) (outs := (F52.L1 (R := R) k).outs) lokNil (fun j x e => F52.loop1 k j x.1.1 x.1.2.1 x.1.2.2.1 x.1.2.2.2.1 x.1.2.2.2.2.1 (fun u0 => e (.inl ((u0, ()), ()))) (fun _ => e (.inr (((), ()))))) (fun _ _ => rfl) (fun j x e => (F52.r1 k j x.1.1 x.1.2.1 x.1.2.2.1 x.1.2.2.2.1 x.1.2.2.2.2.1 e).symm) 2 k
theorem F52.snd : FSound Proofs.Try.prog F52.S :=
  fun_sound (C := F52.C) (S := F52.S) (fn := Proofs.Try.f41) (c := bodyOf Proofs.Try.f41) mixed (tisOk tisT) F52.env Proofs.Try.func41 (by kernel_rfl) (by kernel_rfl) (L := fun k => [F52.L0 k, F52.L1 k]) (fun k => (lokCons 0 (lc := F52.L0 k) (c0 := loopOf Proofs.Try.f41 0) (by kernel_rfl) (by kernel_rfl) (F52.l0 k) (lokCons 1 (lc := F52.L1 k) (c0 := loopOf Proofs.Try.f41 1) (by kernel_rfl) (by kernel_rfl) (F52.l1 k) lokNil))) (fun k x => F52.eq k x.1 x.2.1 x.2.2.1 x.2.2.2.1 x.2.2.2.2.1 x.2.2.2.2.2.1)

theorem F53.env : EnvOk Proofs.Try.prog F53.C := show EnvL Proofs.Try.prog [F25.S] from (envCons F25.snd envNil)
theorem F53.snd : FSound Proofs.Try.prog F53.S :=
  fun_sound (C := F53.C) (S := F53.S) (fn := Proofs.Try.f55) (c := bodyOf Proofs.Try.f55) mixed (tisOk tisT) F53.env Proofs.Try.func55 (by kernel_rfl) (by kernel_rfl) (L := fun k => []) (fun k => lokNil) (fun k x => F53.eq k x.1)

theorem F54.env : EnvOk Proofs.Try.prog F54.C := show EnvL Proofs.Try.prog [F53.S] from (envCons F53.snd envNil)
theorem F54.snd : FSound Proofs.Try.prog F54.S :=
  fun_sound (C := F54.C) (S := F54.S) (fn := Proofs.Try.f42) (c := bodyOf Proofs.Try.f42) mixed (tisOk tisT) F54.env Proofs.Try.func42 (by kernel_rfl) (by kernel_rfl) (L := fun k => []) (fun k => lokNil) (fun k x => F54.eq k x.1)

theorem F55.env : EnvOk Proofs.Try.prog F55.C := show EnvL Proofs.Try.prog [] from envNil
theorem F55.snd : FSound Proofs.Try.prog F55.S :=
  fun_sound (C := F55.C) (S := F55.S) (fn := Proofs.Try.f56) (c := bodyOf Proofs.Try.f56) mixed (tisOk tisT) F55.env Proofs.Try.func56 (by kernel_rfl) (by kernel_rfl) (L := fun k => []) (fun k => lokNil) (fun k x => F55.eq k x.1 x.2.1 x.2.2.1)

theorem F56.env : EnvOk Proofs.Try.prog F56.C := show EnvL Proofs.Try.prog [] from envNil
theorem F56.snd : FSound Proofs.Try.prog F56.S :=
  fun_sound (C := F56.C) (S := F56.S) (fn := Proofs.Try.f57) (c := bodyOf Proofs.Try.f57) mixed (tisOk tisT) F56.env Proofs.Try.func57 (by kernel_rfl) (by kernel_rfl) (L := fun k => []) (fun k => lokNil) (fun k x => F56.eq k x.1)

theorem F57.env : EnvOk Proofs.Try.prog F57.C := show EnvL Proofs.Try.prog [F55.S] from (envCons F55.snd envNil)
theorem F57.snd : FSound Proofs.Try.prog F57.S :=
  fun_sound (C := F57.C) (S := F57.S) (fn := Proofs.Try.f58) (c := bodyOf Proofs.Try.f58) mixed (tisOk tisT) F57.env Proofs.Try.func58 (by kernel_rfl) (by kernel_rfl) (L := fun k => []) (fun k => lokNil) (fun k x => F57.eq k x.1)

theorem F58.env : EnvOk Proofs.Try.prog F58.C := show EnvL Proofs.Try.prog [F55.S, F56.S, F57.S] from (envCons F55.snd (envCons F56.snd (envCons F57.snd envNil)))
theorem F58.l0 {R : Type} (k : Nat) : LCs Proofs.Try.prog F58.C (.loop (loopOf Proofs.Try.f43 0)) (F58.L0 (R := R) k) :=
  loop_sound mixed (tisOk tisT) F58.env (k := k) (L := []) (n := 1) (inn := (F58.L0 (R := R) k).inn) (outs := (F58.L0 (R := R) k).outs) lokNil (fun j x e => F58.loop0 k j x.1.1 x.1.2.1 x.1.2.2.1 x.1.2.2.2.1 x.1.2.2.2.2.1 (fun u0 => e (.inl ((u0, ()), ()))) (fun u0 => e (.inr (((u0, ()), ()))))) (fun _ _ => rfl) (fun j x e => (F58.r0 k j x.1.1 x.1.2.1 x.1.2.2.1 x.1.2.2.2.1 x.1.2.2.2.2.1 e).symm) 0 k
theorem F58.snd : FSound Proofs.Try.prog F58.S :=
  fun_sound (C := F58.C) (S := F58.S) (fn := Proofs.Try.f43) (c := bodyOf Proofs.Try.f43) mixed (tisOk tisT) F58.env Proofs.Try.func43 (by kernel_rfl) (by kernel_rfl) (L := fun k => [F58.L0 k]) (fun k => (lokCons 0 (lc := F58.L0 k) (c0 := loopOf Proofs.Try.f43 0) (by kernel_rfl) (by kernel_rfl) (F58.l0 k) lokNil)) (fun k x => F58.eq k x.1 x.2.1)

theorem F59.env : EnvOk Proofs.Try.prog F59.C := show EnvL Proofs.Try.prog [] from envNil
theorem F59.snd : FSound Proofs.Try.prog F59.S :=
  fun_sound (C := F59.C) (S := F59.S) (fn := Proofs.Try.f59) (c := bodyOf Proofs.Try.f59) mixed (tisOk tisT) F59.env Proofs.Try.func59 (by kernel_rfl) (by kernel_rfl) (L := fun k => []) (fun k => lokNil) (fun k x => F59.eq k x.1)

theorem F60.env : EnvOk Proofs.Try.prog F60.C := show EnvL Proofs.Try.prog [F59.S] from (envCons F59.snd envNil)
theorem F60.snd : FSound Proofs.Try.prog F60.S :=
  fun_sound (C := F60.C) (S := F60.S) (fn := Proofs.Try.f67) (c := bodyOf Proofs.Try.f67) mixed (tisOk tisT) F60.env Proofs.Try.func67 (by kernel_rfl) (by kernel_rfl) (L := fun k => []) (fun k => lokNil) (fun k x => F60.eq k x.1 x.2.1)

theorem F61.env : EnvOk Proofs.Try.prog F61.C := show EnvL Proofs.Try.prog [F60.S, F59.S] from (envCons F60.snd (envCons F59.snd envNil))
theorem F61.snd : FSound Proofs.Try.prog F61.S :=
  fun_sound (C := F61.C) (S := F61.S) (fn := Proofs.Try.f60) (c := bodyOf Proofs.Try.f60) mixed (tisOk tisT) F61.env Proofs.Try.func60 (by kernel_rfl) (by kernel_rfl) (L := fun k => []) (fun k => lokNil) (fun k x => F61.eq k x.1 x.2.1 x.2.2.1)

theorem F62.env : EnvOk Proofs.Try.prog F62.C := show EnvL Proofs.Try.prog [F55.S] from (envCons F55.snd envNil)
theorem F62.snd : FSound Proofs.Try.prog F62.S :=
  fun_sound (C := F62.C) (S := F62.S) (fn := Proofs.Try.f61) (c := bodyOf Proofs.Try.f61) mixed (tisOk tisT) F62.env Proofs.Try.func61 (by kernel_rfl) (by kernel_rfl) (L := fun k => []) (fun k => lokNil) (fun k x => F62.eq k x.1)

theorem F63.env : EnvOk Proofs.Try.prog F63.C := show EnvL Proofs.Try.prog [F58.S, F55.S, F56.S, F62.S, F45.S, F59.S, F61.S] from (envCons F58.snd (envCons F55.snd (envCons F56.snd (envCons F62.snd (envCons F45.snd (envCons F59.snd (envCons F61.snd envNil)))))))
theorem F63.l0 {R : Type} (k : Nat) : LCs Proofs.Try.prog F63.C (.loop (loopOf Proofs.Try.f44 0)) (F63.L0 (R := R) k) :=
  loop_sound mixed (tisOk tisT) F63.env (k := k) (L := []) (n := 1) (inn := (F63.L0 (R := R) k).inn) (outs := (F63.L0 (R := R) k).outs) lokNil (fun j x e => F63.loop0 k j x.1.1 x.1.2.1 x.1.2.2.1 x.1.2.2.2.1 x.1.2.2.2.2.1 x.2.1 (fun u0 u1 u2 => e (.inl ((u0, u1, u2, ()), ()))) (fun u0 => e (.inr (((), (u0, ())))))) (fun _ _ => rfl) (fun j x e => (F63.r0 k j x.1.1 x.1.2.1 x.1.2.2.1 x.1.2.2.2.1 x.1.2.2.2.2.1 x.2.1 e).symm) 0 k
theorem F63.snd : FSound Proofs.Try.prog F63.S :=
  fun_sound (C := F63.C) (S := F63.S) (fn := Proofs.Try.f44) (c := bodyOf Proofs.Try.f44) mixed (tisOk tisT) F63.env Proofs.Try.func44 (by kernel_rfl) (by kernel_rfl) (L := fun k => [F63.L0 k]) (fun k => (lokCons 0 (lc := F63.L0 k) (c0 := loopOf Proofs.Try.f44 0) (by kernel_rfl) (by kernel_rfl) (F63.l0 k) lokNil)) (fun k x => F63.eq k x.1 x.2.1 x.2.2.1)

theorem F64.env : EnvOk Proofs.Try.prog F64.C := show EnvL Proofs.Try.prog [F41.S, F46.S, F52.S, F28.S, F54.S, F10.S, F58.S, F63.S] from (envCons F41.snd (envCons F46.snd (envCons F52.snd (envCons F28.snd (envCons F54.snd (envCons F10.snd (envCons F58.snd (envCons F63.snd envNil))))))))
theorem F64.snd : FSound Proofs.Try.prog F64.S :=
  fun_sound (C := F64.C) (S := F64.S) (fn := Proofs.Try.f34) (c := bodyOf Proofs.Try.f34) mixed (tisOk tisT) F64.env Proofs.Try.func34 (by kernel_rfl) (by kernel_rfl) (L := fun k => []) (fun k => lokNil) (fun k x => F64.eq k x.1 x.2.1 x.2.2.1)

theorem F65.env : EnvOk Proofs.Try.prog F65.C := show EnvL Proofs.Try.prog [F31.S, F32.S, F10.S, F29.S, F33.S, F64.S] from (envCons F31.snd (envCons F32.snd (envCons F10.snd (envCons F29.snd (envCons F33.snd (envCons F64.snd envNil))))))
theorem F65.snd : FSound Proofs.Try.prog F65.S :=
  fun_sound (C := F65.C) (S := F65.S) (fn := Proofs.Try.f26) (c := bodyOf Proofs.Try.f26) mixed (tisOk tisT) F65.env Proofs.Try.func26 (by kernel_rfl) (by kernel_rfl) (L := fun k => []) (fun k => lokNil) (fun k x => F65.eq k x.1 x.2.1 x.2.2.1)

theorem F66.env : EnvOk Proofs.Try.prog F66.C := show EnvL Proofs.Try.prog [F16.S, F27.S, F11.S, F65.S] from (envCons F16.snd (envCons F27.snd (envCons F11.snd (envCons F65.snd envNil))))
theorem F66.l0 {R : Type} (k : Nat) : LCs Proofs.Try.prog F66.C (.loop (loopOf Proofs.Try.f20 0)) (F66.L0 (R := R) k) :=
  loop_sound mixed (tisOk tisT) F66.env (k := k) (L := []) (n := 1) (inn := (F66.L0 (R := R) k).inn) (outs := (F66.L0 (R := R) k).outs) lokNil (fun j x e => F66.loop0 k j x.1.1 x.1.2.1 x.1.2.2.1 x.2.1 (fun u0 u1 u2 => e (.inl ((u0, u1, ()), (u2, ())))) (fun u0 => e (.inr (((), (u0, ())))))) (fun _ _ => rfl) (fun j x e => (F66.r0 k j x.1.1 x.1.2.1 x.1.2.2.1 x.2.1 e).symm) 0 k
theorem F66.l1 {R : Type} (k : Nat) : LCs Proofs.Try.prog F66.C (.loop (loopOf Proofs.Try.f20 1)) (F66.L1 (R := R) k) :=
  loop_sound mixed (tisOk tisT) F66.env (k := k) (L := []) (n := 2) (inn := (F66.L1 (R := R) k).inn) (outs := (F66.L1 (R := R) k).outs) lokNil (fun j x e => F66.loop1 k j x.1.1 x.1.2.1 x.2.1.1 x.2.1.2.1 x.2.1.2.2.1 x.2.1.2.2.2.1 x.2.2.1 x.2.2.2.1 (fun u0 u1 u2 => e (.inl ((u0, u1, ()), (u2, ())))) (fun u0 => e (.inr (((), (u0, ())))))) (fun _ _ => rfl) (fun j x e => (F66.r1 k j x.1.1 x.1.2.1 x.2.1.1 x.2.1.2.1 x.2.1.2.2.1 x.2.1.2.2.2.1 x.2.2.1 x.2.2.2.1 e).symm) 2 k
theorem F66.snd : FSound Proofs.Try.prog F66.S :=
  fun_sound (C := F66.C) (S := F66.S) (fn := Proofs.Try.f20) (c := bodyOf Proofs.Try.f20) mixed (tisOk tisT) F66.env Proofs.Try.func20 (by kernel_rfl) (by kernel_rfl) (L := fun k => [F66.L0 k, F66.L1 k]) (fun k => (lokCons 0 (lc := F66.L0 k) (c0 := loopOf Proofs.Try.f20 0) (by kernel_rfl) (by kernel_rfl) (F66.l0 k) (lokCons 1 (lc := F66.L1 k) (c0 := loopOf Proofs.Try.f20 1) (by kernel_rfl) (by kernel_rfl) (F66.l1 k) lokNil))) (fun k x => F66.eq k x.1)

theorem F67.env : EnvOk Proofs.Try.prog F67.C := show EnvL Proofs.Try.prog [F8.S, F16.S, F24.S, F66.S] from (envCons F8.snd (envCons F16.snd (envCons F24.snd (envCons F66.snd envNil))))
theorem F67.snd : FSound Proofs.Try.prog F67.S :=
  fun_sound (C := F67.C) (S := F67.S) (fn := Proofs.Try.f11) (c := bodyOf Proofs.Try.f11) mixed (tisOk tisT) F67.env Proofs.Try.func11 (by kernel_rfl) (by kernel_rfl) (L := fun k => []) (fun k => lokNil) (fun k x => F67.eq k)

theorem F68.env : EnvOk Proofs.Try.prog F68.C := show EnvL Proofs.Try.prog [F4.S, F5.S, F9.S, F16.S, F17.S, F7.S, F67.S] from (envCons F4.snd (envCons F5.snd (envCons F9.snd (envCons F16.snd (envCons F17.snd (envCons F7.snd (envCons F67.snd envNil)))))))
theorem F68.l0 {R : Type} (k : Nat) : LCs Proofs.Try.prog F68.C (.loop (loopOf Proofs.Try.f3 0)) (F68.L0 (R := R) k) :=
  loop_sound mixed (tisOk tisT) F68.env (k := k) (L := []) (n := 1) (inn := (F68.L0 (R := R) k).inn) (outs := (F68.L0 (R := R) k).outs) lokNil (fun j x e => F68.loop0 k j x.1.1 x.1.2.1 x.1.2.2.1 x.2.1 x.2.2.1 (fun u0 => e (.inl ((u0, ()), ()))) (fun u0 u1 => e (.inr (((u0, ()), (u1, ())))))) (fun _ _ => rfl) (fun j x e => (F68.r0 k j x.1.1 x.1.2.1 x.1.2.2.1 x.2.1 x.2.2.1 e).symm) 0 k
theorem F68.snd : FSound Proofs.Try.prog F68.S :=
  fun_sound (C := F68.C) (S := F68.S) (fn := Proofs.Try.f3) (c := bodyOf Proofs.Try.f3) mixed (tisOk tisT) F68.env Proofs.Try.func3 (by kernel_rfl) (by kernel_rfl) (L := fun k => [F68.L0 k]) (fun k => (lokCons 0 (lc := F68.L0 k) (c0 := loopOf Proofs.Try.f3 0) (by kernel_rfl) (by kernel_rfl) (F68.l0 k) lokNil)) (fun k x => F68.eq k x.1 x.2.1 x.2.2.1)

theorem F69.env : EnvOk Proofs.Try.prog F69.C := show EnvL Proofs.Try.prog [] from envNil
theorem F69.snd : FSound Proofs.Try.prog F69.S :=
  fun_sound (C := F69.C) (S := F69.S) (fn := Proofs.Try.f21) (c := bodyOf Proofs.Try.f21) mixed (tisOk tisT) F69.env Proofs.Try.func21 (by kernel_rfl) (by kernel_rfl) (L := fun k => []) (fun k => lokNil) (fun k x => F69.eq k x.1)

theorem F70.env : EnvOk Proofs.Try.prog F70.C := show EnvL Proofs.Try.prog [F69.S] from (envCons F69.snd envNil)
theorem F70.snd : FSound Proofs.Try.prog F70.S :=
  fun_sound (C := F70.C) (S := F70.S) (fn := Proofs.Try.f12) (c := bodyOf Proofs.Try.f12) mixed (tisOk tisT) F70.env Proofs.Try.func12 (by kernel_rfl) (by kernel_rfl) (L := fun k => []) (fun k => lokNil) (fun k x => F70.eq k x.1)

theorem F71.env : EnvOk Proofs.Try.prog F71.C := show EnvL Proofs.Try.prog [F4.S, F5.S, F9.S, F16.S, F67.S, F70.S] from (envCons F4.snd (envCons F5.snd (envCons F9.snd (envCons F16.snd (envCons F67.snd (envCons F70.snd envNil))))))
theorem F71.l0 {R : Type} (k : Nat) : LCs Proofs.Try.prog F71.C (.loop (loopOf Proofs.Try.f4 0)) (F71.L0 (R := R) k) :=
  loop_sound mixed (tisOk tisT) F71.env (k := k) (L := []) (n := 1) (inn := (F71.L0 (R := R) k).inn) (outs := (F71.L0 (R := R) k).outs) lokNil (fun j x e => F71.loop0 k j x.1.1 x.2.1.1 x.2.1.2.1 x.2.1.2.2.1 x.2.1.2.2.2.1 x.2.2.1 x.2.2.2.1 (fun u0 => e (.inl ((u0, ()), ()))) (fun u0 u1 u2 u3 u4 u5 => e (.inr (((), ((u0, u1, u2, u3, ()), u4, u5, ())))))) (fun _ _ => rfl) (fun j x e => (F71.r0 k j x.1.1 x.2.1.1 x.2.1.2.1 x.2.1.2.2.1 x.2.1.2.2.2.1 x.2.2.1 x.2.2.2.1 e).symm) 0 k
theorem F71.l2 {R : Type} (k : Nat) : LCs Proofs.Try.prog F71.C (.loop (loopOf Proofs.Try.f4 2)) (F71.L2 (R := R) k) :=
  loop_sound mixed (tisOk tisT) F71.env (k := k) (L := []) (n := 3) (inn := (F71.L2 (R := R) k).inn) (outs := (F71.L2 (R := R) k).outs) lokNil (fun j x e => F71.loop2 k j x.1.1 x.1.2.1 x.1.2.2.1 x.2.1 x.2.2.1 (fun u0 => e (.inl ((u0, ()), ()))) (fun u0 u1 => e (.inr (((u0, ()), (u1, ())))))) (fun _ _ => rfl) (fun j x e => (F71.r2 k j x.1.1 x.1.2.1 x.1.2.2.1 x.2.1 x.2.2.1 e).symm) 4 k
theorem F71.l3 {R : Type} (k : Nat) : LCs Proofs.Try.prog F71.C (.loop (loopOf Proofs.Try.f4 3)) (F71.L3 (R := R) k) :=
  loop_sound mixed (tisOk tisT) F71.env (k := k) (L := []) (n := 4) (inn := (F71.L3 (R := R) k).inn) (outs := (F71.L3 (R := R) k).outs) lokNil (fun j x e => F71.loop3 k j x.1.1 x.1.2.1 x.2.1 x.2.2.1 (fun u0 => e (.inl ((u0, ()), ()))) (fun u0 u1 => e (.inr (((), (u0, u1, ())))))) (fun _ _ => rfl) (fun j x e => (F71.r3 k j x.1.1 x.1.2.1 x.2.1 x.2.2.1 e).symm) 6 k
theorem F71.l1 {R : Type} (k : Nat) : LCs Proofs.Try.prog F71.C (.loop (loopOf Proofs.Try.f4 1)) (F71.L1 (R := R) k) :=
  loop_sound mixed (tisOk tisT) F71.env (k := k) (L := [F71.L2 k, F71.L3 k]) (n := 2) (inn := (F71.L1 (R := R) k).inn) (outs := (F71.L1 (R := R) k).outs) (lokCons 2 (lc := F71.L2 k) (c0 := loopOf Proofs.Try.f4 2) (by kernel_rfl) (by kernel_rfl) (F71.l2 k) (lokCons 3 (lc := F71.L3 k) (c0 := loopOf Proofs.Try.f4 3) (by kernel_rfl) (by kernel_rfl) (F71.l3 k) lokNil)) (fun j x e => F71.loop1 k j x.1.1 x.2.1.1 x.2.1.2.1 x.2.1.2.2.1 x.2.1.2.2.2.1 x.2.2.1 x.2.2.2.1 (fun u0 => e (.inl ((u0, ()), ()))) (fun _ => e (.inr (((), ()))))) (fun _ _ => rfl) (fun j x e => (F71.r1 k j x.1.1 x.2.1.1 x.2.1.2.1 x.2.1.2.2.1 x.2.1.2.2.2.1 x.2.2.1 x.2.2.2.1 e).symm) 2 k
theorem F71.snd : FSound Proofs.Try.prog F71.S :=
  fun_sound (C := F71.C) (S := F71.S) (fn := Proofs.Try.f4) (c := bodyOf Proofs.Try.f4) mixed (tisOk tisT) F71.env Proofs.Try.func4 (by kernel_rfl) (by kernel_rfl) (L := fun k => [F71.L0 k, F71.L2 k, F71.L3 k, F71.L1 k]) (fun k => (lokCons 0 (lc := F71.L0 k) (c0 := loopOf Proofs.Try.f4 0) (by kernel_rfl) (by kernel_rfl) (F71.l0 k) (lokCons 2 (lc := F71.L2 k) (c0 := loopOf Proofs.Try.f4 2) (by kernel_rfl) (by kernel_rfl) (F71.l2 k) (lokCons 3 (lc := F71.L3 k) (c0 := loopOf Proofs.Try.f4 3) (by kernel_rfl) (by kernel_rfl) (F71.l3 k) (lokCons 1 (lc := F71.L1 k) (c0 := loopOf Proofs.Try.f4 1) (by kernel_rfl) (by kernel_rfl) (F71.l1 k) lokNil))))) (fun k x => F71.eq k x.1 x.2.1)

end Go.Lf.T
