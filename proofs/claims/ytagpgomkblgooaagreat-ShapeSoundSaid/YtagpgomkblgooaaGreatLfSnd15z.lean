import Derived.Test.YtagpgomkblgooaaGreatLfTie15z
import Derived.Test.YtagpgomkblgooaaGreatLfCc
import Derived.Test.YtagpgomkblgooaaGreatProg
set_option linter.unusedVariables false
set_option maxRecDepth 100000
namespace Go.Lf.T
open Go Go.Lf

theorem mixed : Proofs.Tryz.prog.follows .mixedOrders = true := by kernel_rfl
theorem tisT : tisB Proofs.Tryz.prog tis = true := by kernel_rfl

theorem F4.env : EnvOk Proofs.Tryz.prog F4.C := show EnvL Proofs.Tryz.prog [] from envNil
theorem F4.snd : FSound Proofs.Tryz.prog F4.S :=
  fun_sound (C := F4.C) (S := F4.S) (fn := Proofs.Tryz.f4) (c := bodyOf Proofs.Tryz.f4) mixed (tisOk tisT) F4.env Proofs.Tryz.func4 (by kernel_rfl) (by kernel_rfl) (L := fun k => []) (fun k => lokNil) (fun k x => F4.eq k x.1)

theorem F5.env : EnvOk Proofs.Tryz.prog F5.C := show EnvL Proofs.Tryz.prog [] from envNil
theorem F5.snd : FSound Proofs.Tryz.prog F5.S :=
  fun_sound (C := F5.C) (S := F5.S) (fn := Proofs.Tryz.f21) (c := bodyOf Proofs.Tryz.f21) mixed (tisOk tisT) F5.env Proofs.Tryz.func21 (by kernel_rfl) (by kernel_rfl) (L := fun k => []) (fun k => lokNil) (fun k x => F5.eq k x.1 x.2.1)

theorem F6.env : EnvOk Proofs.Tryz.prog F6.C := show EnvL Proofs.Tryz.prog [F5.S] from (envCons F5.snd envNil)
theorem F6.snd : FSound Proofs.Tryz.prog F6.S :=
  fun_sound (C := F6.C) (S := F6.S) (fn := Proofs.Tryz.f9) (c := bodyOf Proofs.Tryz.f9) mixed (tisOk tisT) F6.env Proofs.Tryz.func9 (by kernel_rfl) (by kernel_rfl) (L := fun k => []) (fun k => lokNil) (fun k x => F6.eq k x.1 x.2.1)

theorem F7.env : EnvOk Proofs.Tryz.prog F7.C := show EnvL Proofs.Tryz.prog [F6.S] from (envCons F6.snd envNil)
theorem F7.snd : FSound Proofs.Tryz.prog F7.S :=
  fun_sound (C := F7.C) (S := F7.S) (fn := Proofs.Tryz.f16) (c := bodyOf Proofs.Tryz.f16) mixed (tisOk tisT) F7.env Proofs.Tryz.func16 (by kernel_rfl) (by kernel_rfl) (L := fun k => []) (fun k => lokNil) (fun k x => F7.eq k x.1 x.2.1)

theorem F8.env : EnvOk Proofs.Tryz.prog F8.C := show EnvL Proofs.Tryz.prog [F7.S, F6.S] from (envCons F7.snd (envCons F6.snd envNil))
theorem F8.l0 {R : Type} (k : Nat) : LCs Proofs.Tryz.prog F8.C (.loop (loopOf Proofs.Tryz.f6 0)) (F8.L0 (R := R) k) :=
  loop_sound mixed (tisOk tisT) F8.env (k := k) (L := []) (n := 1) (inn := (F8.L0 (R := R) k).inn) (outs := (F8.L0 (R := R) k).outs) lokNil (fun j x e => F8.loop0 k j x.1.1 x.2.1.1 x.2.1.2.1 x.2.2.1.1 x.2.2.1.2.1 x.2.2.1.2.2.1 x.2.2.1.2.2.2.1 (fun u0 u1 u2 u3 u4 u5 => e ((), ((u0, u1, ()), (u2, u3, u4, u5, ()), ())))) (fun _ _ => rfl) (fun j x e => (F8.r0 k j x.1.1 x.2.1.1 x.2.1.2.1 x.2.2.1.1 x.2.2.1.2.1 x.2.2.1.2.2.1 x.2.2.1.2.2.2.1 e).symm) 0 k
theorem F8.snd : FSound Proofs.Tryz.prog F8.S :=
  fun_sound (C := F8.C) (S := F8.S) (fn := Proofs.Tryz.f6) (c := bodyOf Proofs.Tryz.f6) mixed (tisOk tisT) F8.env Proofs.Tryz.func6 (by kernel_rfl) (by kernel_rfl) (L := fun k => [F8.L0 k]) (fun k => (lokCons 0 (lc := F8.L0 k) (c0 := loopOf Proofs.Tryz.f6 0) (by kernel_rfl) (by kernel_rfl) (F8.l0 k) lokNil)) (fun k x => F8.eq k x.1 x.2.1 x.2.2.1)

theorem F9.env : EnvOk Proofs.Tryz.prog F9.C := show EnvL Proofs.Tryz.prog [F6.S, F8.S] from (envCons F6.snd (envCons F8.snd envNil))
theorem F9.snd : FSound Proofs.Tryz.prog F9.S :=
  fun_sound (C := F9.C) (S := F9.S) (fn := Proofs.Tryz.f5) (c := bodyOf Proofs.Tryz.f5) mixed (tisOk tisT) F9.env Proofs.Tryz.func5 (by kernel_rfl) (by kernel_rfl) (L := fun k => []) (fun k => lokNil) (fun k x => F9.eq k x.1)

theorem F10.env : EnvOk Proofs.Tryz.prog F10.C := show EnvL Proofs.Tryz.prog [] from envNil
theorem F10.snd : FSound Proofs.Tryz.prog F10.S :=
  fun_sound (C := F10.C) (S := F10.S) (fn := Proofs.Tryz.f8) (c := bodyOf Proofs.Tryz.f8) mixed (tisOk tisT) F10.env Proofs.Tryz.func8 (by kernel_rfl) (by kernel_rfl) (L := fun k => []) (fun k => lokNil) (fun k x => F10.eq k x.1)

theorem F11.env : EnvOk Proofs.Tryz.prog F11.C := show EnvL Proofs.Tryz.prog [F6.S, F7.S] from (envCons F6.snd (envCons F7.snd envNil))
theorem F11.snd : FSound Proofs.Tryz.prog F11.S :=
  fun_sound (C := F11.C) (S := F11.S) (fn := Proofs.Tryz.f17) (c := bodyOf Proofs.Tryz.f17) mixed (tisOk tisT) F11.env Proofs.Tryz.func17 (by kernel_rfl) (by kernel_rfl) (L := fun k => []) (fun k => lokNil) (fun k x => F11.eq k x.1 x.2.1)

theorem F12.env : EnvOk Proofs.Tryz.prog F12.C := show EnvL Proofs.Tryz.prog [F6.S, F7.S] from (envCons F6.snd (envCons F7.snd envNil))
theorem F12.l0 {R : Type} (k : Nat) : LCs Proofs.Tryz.prog F12.C (.loop (loopOf Proofs.Tryz.f18 0)) (F12.L0 (R := R) k) :=
  loop_sound mixed (tisOk tisT) F12.env (k := k) (L := []) (n := 1) (inn := (F12.L0 (R := R) k).inn) (outs := (F12.L0 (R := R) k).outs) lokNil (fun j x e => F12.loop0 k j x.1.1 x.1.2.1 x.2.1.1 x.2.1.2.1 x.2.2.1 (fun u0 u1 u2 => e ((), ((u0, u1, ()), u2, ())))) (fun _ _ => rfl) (fun j x e => (F12.r0 k j x.1.1 x.1.2.1 x.2.1.1 x.2.1.2.1 x.2.2.1 e).symm) 0 k
theorem F12.snd : FSound Proofs.Tryz.prog F12.S :=
  fun_sound (C := F12.C) (S := F12.S) (fn := Proofs.Tryz.f18) (c := bodyOf Proofs.Tryz.f18) mixed (tisOk tisT) F12.env Proofs.Tryz.func18 (by kernel_rfl) (by kernel_rfl) (L := fun k => [F12.L0 k]) (fun k => (lokCons 0 (lc := F12.L0 k) (c0 := loopOf Proofs.Tryz.f18 0) (by kernel_rfl) (by kernel_rfl) (F12.l0 k) lokNil)) (fun k x => F12.eq k x.1 x.2.1)

theorem F13.env : EnvOk Proofs.Tryz.prog F13.C := show EnvL Proofs.Tryz.prog [] from envNil
theorem F13.snd : FSound Proofs.Tryz.prog F13.S :=
  fun_sound (C := F13.C) (S := F13.S) (fn := Proofs.Tryz.f59) (c := bodyOf Proofs.Tryz.f59) mixed (tisOk tisT) F13.env Proofs.Tryz.func59 (by kernel_rfl) (by kernel_rfl) (L := fun k => []) (fun k => lokNil) (fun k x => F13.eq k x.1)

theorem F14.env : EnvOk Proofs.Tryz.prog F14.C := show EnvL Proofs.Tryz.prog [F13.S] from (envCons F13.snd envNil)
theorem F14.l0 {R : Type} (k : Nat) : LCs Proofs.Tryz.prog F14.C (.loop (loopOf Proofs.Tryz.f37 0)) (F14.L0 (R := R) k) :=
  loop_sound mixed (tisOk tisT) F14.env (k := k) (L := []) (n := 1) (inn := (F14.L0 (R := R) k).inn) (outs := (F14.L0 (R := R) k).outs) lokNil (fun j x e => F14.loop0 k j x.1.1 x.1.2.1 x.1.2.2.1 x.1.2.2.2.1 x.2.1 (fun u0 => e ((), (u0, ())))) (fun _ _ => rfl) (fun j x e => (F14.r0 k j x.1.1 x.1.2.1 x.1.2.2.1 x.1.2.2.2.1 x.2.1 e).symm) 0 k
theorem F14.snd : FSound Proofs.Tryz.prog F14.S :=
  fun_sound (C := F14.C) (S := F14.S) (fn := Proofs.Tryz.f37) (c := bodyOf Proofs.Tryz.f37) mixed (tisOk tisT) F14.env Proofs.Tryz.func37 (by kernel_rfl) (by kernel_rfl) (L := fun k => [F14.L0 k]) (fun k => (lokCons 0 (lc := F14.L0 k) (c0 := loopOf Proofs.Tryz.f37 0) (by kernel_rfl) (by kernel_rfl) (F14.l0 k) lokNil)) (fun k x => F14.eq k x.1 x.2.1 x.2.2.1)

theorem F15.env : EnvOk Proofs.Tryz.prog F15.C := show EnvL Proofs.Tryz.prog [] from envNil
theorem F15.l0 {R : Type} (k : Nat) : LCs Proofs.Tryz.prog F15.C (.loop (loopOf Proofs.Tryz.f60 0)) (F15.L0 (R := R) k) :=
  loop_sound mixed (tisOk tisT) F15.env (k := k) (L := []) (n := 1) (inn := (F15.L0 (R := R) k).inn) (outs := (F15.L0 (R := R) k).outs) lokNil (fun j x e => F15.loop0 k j x.1.1 x.1.2.1 x.1.2.2.1 (fun u0 => e ((u0, ()), ()))) (fun _ _ => rfl) (fun j x e => (F15.r0 k j x.1.1 x.1.2.1 x.1.2.2.1 e).symm) 0 k
theorem F15.l1 {R : Type} (k : Nat) : LCs Proofs.Tryz.prog F15.C (.loop (loopOf Proofs.Tryz.f60 1)) (F15.L1 (R := R) k) :=
  loop_sound mixed (tisOk tisT) F15.env (k := k) (L := []) (n := 2) (inn := (F15.L1 (R := R) k).inn) (outs := (F15.L1 (R := R) k).outs) lokNil (fun j x e => F15.loop1 k j x.1.1 x.1.2.1 x.1.2.2.1 x.1.2.2.2.1 x.1.2.2.2.2.1 x.2.1 x.2.2.1 (fun u0 u1 u2 => e ((u0, ()), (u1, u2, ())))) (fun _ _ => rfl) (fun j x e => (F15.r1 k j x.1.1 x.1.2.1 x.1.2.2.1 x.1.2.2.2.1 x.1.2.2.2.2.1 x.2.1 x.2.2.1 e).symm) 2 k
theorem F15.l3 {R : Type} (k : Nat) : LCs Proofs.Tryz.prog F15.C (.loop (loopOf Proofs.Tryz.f60 3)) (F15.L3 (R := R) k) :=
  loop_sound mixed (tisOk tisT) F15.env (k := k) (L := []) (n := 4) (inn := (F15.L3 (R := R) k).inn) (outs := (F15.L3 (R := R) k).outs) lokNil (fun j x e => F15.loop3 k j x.1.1 x.1.2.1 x.2.1 (fun u0 u1 => e ((u0, ()), (u1, ())))) (fun _ _ => rfl) (fun j x e => (F15.r3 k j x.1.1 x.1.2.1 x.2.1 e).symm) 6 k
theorem F15.l2 {R : Type} (k : Nat) : LCs Proofs.Tryz.prog F15.C (.loop (loopOf Proofs.Tryz.f60 2)) (F15.L2 (R := R) k) :=
  loop_sound mixed (tisOk tisT) F15.env (k := k) (L := [F15.L3 k]) (n := 3) (inn := (F15.L2 (R := R) k).inn) (outs := (F15.L2 (R := R) k).outs) (lokCons 3 (lc := F15.L3 k) (c0 := loopOf Proofs.Tryz.f60 3) (by kernel_rfl) (by kernel_rfl) (F15.l3 k) lokNil) (fun j x e => F15.loop2 k j x.1.1 x.2.1 x.2.2.1 (fun u0 => e ((), (u0, ())))) (fun _ _ => rfl) (fun j x e => (F15.r2 k j x.1.1 x.2.1 x.2.2.1 e).symm) 4 k
theorem F15.snd : FSound Proofs.Tryz.prog F15.S :=
  fun_sound (C := F15.C) (S := F15.S) (fn := Proofs.Tryz.f60) (c := bodyOf Proofs.Tryz.f60) mixed (tisOk tisT) F15.env Proofs.Tryz.func60 (by kernel_rfl) (by kernel_rfl) (L := fun k => [F15.L0 k, F15.L1 k, F15.L3 k, F15.L2 k]) (fun k => (lokCons 0 (lc := F15.L0 k) (c0 := loopOf Proofs.Tryz.f60 0) (by kernel_rfl) (by kernel_rfl) (F15.l0 k) (lokCons 1 (lc := F15.L1 k) (c0 := loopOf Proofs.Tryz.f60 1) (by kernel_rfl) (by kernel_rfl) (F15.l1 k) (lokCons 3 (lc := F15.L3 k) (c0 := loopOf Proofs.Tryz.f60 3) (by kernel_rfl) (by kernel_rfl) (F15.l3 k) (lokCons 2 (lc := F15.L2 k) (c0 := loopOf Proofs.Tryz.f60 2) (by kernel_rfl) (by kernel_rfl) (F15.l2 k) lokNil))))) (fun k x => F15.eq k x.1 x.2.1)

theorem F16.env : EnvOk Proofs.Tryz.prog F16.C := show EnvL Proofs.Tryz.prog [F13.S, F15.S] from (envCons F13.snd (envCons F15.snd envNil))
theorem F16.l1 {R : Type} (k : Nat) : LCs Proofs.Tryz.prog F16.C (.loop (loopOf Proofs.Tryz.f38 1)) (F16.L1 (R := R) k) :=
  loop_sound mixed (tisOk tisT) F16.env (k := k) (L := []) (n := 2) (inn := (F16.L1 (R := R) k).inn) (outs := (F16.L1 (R := R) k).outs) lokNil (fun j x e => F16.loop1 k j x.1.1 x.1.2.1 x.1.2.2.1 x.1.2.2.2.1 x.2.1 (fun u0 => e ((), (u0, ())))) (fun _ _ => rfl) (fun j x e => (F16.r1 k j x.1.1 x.1.2.1 x.1.2.2.1 x.1.2.2.2.1 x.2.1 e).symm) 2 k
theorem F16.l0 {R : Type} (k : Nat) : LCs Proofs.Tryz.prog F16.C (.loop (loopOf Proofs.Tryz.f38 0)) (F16.L0 (R := R) k) :=
  loop_sound mixed (tisOk tisT) F16.env (k := k) (L := [F16.L1 k]) (n := 1) (inn := (F16.L0 (R := R) k).inn) (outs := (F16.L0 (R := R) k).outs) (lokCons 1 (lc := F16.L1 k) (c0 := loopOf Proofs.Tryz.f38 1) (by kernel_rfl) (by kernel_rfl) (F16.l1 k) lokNil) (fun j x e => F16.loop0 k j x.1.1 x.1.2.1 x.1.2.2.1 x.1.2.2.2.1 x.2.1 (fun u0 u1 => e (.inl ((u0, ()), (u1, ())))) (fun u0 => e (.inr (((), (u0, ())))))) (fun _ _ => rfl) (fun j x e => (F16.r0 k j x.1.1 x.1.2.1 x.1.2.2.1 x.1.2.2.2.1 x.2.1 e).symm) 0 k
theorem F16.snd : FSound Proofs.Tryz.prog F16.S :=
  fun_sound (C := F16.C) (S := F16.S) (fn := Proofs.Tryz.f38) (c := bodyOf Proofs.Tryz.f38) mixed (tisOk tisT) F16.env Proofs.Tryz.func38 (by kernel_rfl) (by kernel_rfl) (L := fun k => [F16.L1 k, F16.L0 k]) (fun k => (lokCons 1 (lc := F16.L1 k) (c0 := loopOf Proofs.Tryz.f38 1) (by kernel_rfl) (by kernel_rfl) (F16.l1 k) (lokCons 0 (lc := F16.L0 k) (c0 := loopOf Proofs.Tryz.f38 0) (by kernel_rfl) (by kernel_rfl) (F16.l0 k) lokNil))) (fun k x => F16.eq k x.1 x.2.1 x.2.2.1)

theorem F17.env : EnvOk Proofs.Tryz.prog F17.C := show EnvL Proofs.Tryz.prog [F6.S, F14.S, F16.S, F12.S] from (envCons F6.snd (envCons F14.snd (envCons F16.snd (envCons F12.snd envNil))))
theorem F17.l0 {R : Type} (k : Nat) : LCs Proofs.Tryz.prog F17.C (.loop (loopOf Proofs.Tryz.f19 0)) (F17.L0 (R := R) k) :=
  loop_sound mixed (tisOk tisT) F17.env (k := k) (L := []) (n := 1) (inn := (F17.L0 (R := R) k).inn) (outs := (F17.L0 (R := R) k).outs) lokNil (fun j x e => F17.loop0 k j x.1.1 x.1.2.1 x.2.1.1 x.2.1.2.1 x.2.2.1 (fun u0 u1 u2 => e ((), ((u0, u1, ()), u2, ())))) (fun _ _ => rfl) (fun j x e => (F17.r0 k j x.1.1 x.1.2.1 x.2.1.1 x.2.1.2.1 x.2.2.1 e).symm) 0 k
theorem F17.snd : FSound Proofs.Tryz.prog F17.S :=
  fun_sound (C := F17.C) (S := F17.S) (fn := Proofs.Tryz.f19) (c := bodyOf Proofs.Tryz.f19) mixed (tisOk tisT) F17.env Proofs.Tryz.func19 (by kernel_rfl) (by kernel_rfl) (L := fun k => [F17.L0 k]) (fun k => (lokCons 0 (lc := F17.L0 k) (c0 := loopOf Proofs.Tryz.f19 0) (by kernel_rfl) (by kernel_rfl) (F17.l0 k) lokNil)) (fun k x => F17.eq k x.1 x.2.1)

theorem F18.env : EnvOk Proofs.Tryz.prog F18.C := show EnvL Proofs.Tryz.prog [F7.S, F6.S] from (envCons F7.snd (envCons F6.snd envNil))
theorem F18.l0 {R : Type} (k : Nat) : LCs Proofs.Tryz.prog F18.C (.loop (loopOf Proofs.Tryz.f20 0)) (F18.L0 (R := R) k) :=
  loop_sound mixed (tisOk tisT) F18.env (k := k) (L := []) (n := 1) (inn := (F18.L0 (R := R) k).inn) (outs := (F18.L0 (R := R) k).outs) lokNil (fun j x e => F18.loop0 k j x.1.1 x.2.1.1 x.2.1.2.1 x.2.2.1 (fun u0 u1 u2 => e ((), ((u0, u1, ()), u2, ())))) (fun _ _ => rfl) (fun j x e => (F18.r0 k j x.1.1 x.2.1.1 x.2.1.2.1 x.2.2.1 e).symm) 0 k
theorem F18.snd : FSound Proofs.Tryz.prog F18.S :=
  fun_sound (C := F18.C) (S := F18.S) (fn := Proofs.Tryz.f20) (c := bodyOf Proofs.Tryz.f20) mixed (tisOk tisT) F18.env Proofs.Tryz.func20 (by kernel_rfl) (by kernel_rfl) (L := fun k => [F18.L0 k]) (fun k => (lokCons 0 (lc := F18.L0 k) (c0 := loopOf Proofs.Tryz.f20 0) (by kernel_rfl) (by kernel_rfl) (F18.l0 k) lokNil)) (fun k x => F18.eq k x.1 x.2.1)

theorem F19.env : EnvOk Proofs.Tryz.prog F19.C := show EnvL Proofs.Tryz.prog [F6.S, F7.S, F11.S, F12.S, F17.S, F18.S] from (envCons F6.snd (envCons F7.snd (envCons F11.snd (envCons F12.snd (envCons F17.snd (envCons F18.snd envNil))))))
theorem F19.snd : FSound Proofs.Tryz.prog F19.S :=
  fun_sound (C := F19.C) (S := F19.S) (fn := Proofs.Tryz.f7) (c := bodyOf Proofs.Tryz.f7) mixed (tisOk tisT) F19.env Proofs.Tryz.func7 (by kernel_rfl) (by kernel_rfl) (L := fun k => []) (fun k => lokNil) (fun k x => F19.eq k x.1 x.2.1 x.2.2.1 x.2.2.2.1)

theorem F20.env : EnvOk Proofs.Tryz.prog F20.C := show EnvL Proofs.Tryz.prog [F6.S, F7.S, F12.S] from (envCons F6.snd (envCons F7.snd (envCons F12.snd envNil)))
theorem F20.snd : FSound Proofs.Tryz.prog F20.S :=
  fun_sound (C := F20.C) (S := F20.S) (fn := Proofs.Tryz.f10) (c := bodyOf Proofs.Tryz.f10) mixed (tisOk tisT) F20.env Proofs.Tryz.func10 (by kernel_rfl) (by kernel_rfl) (L := fun k => []) (fun k => lokNil) (fun k x => F20.eq k x.1 x.2.1)

theorem F21.env : EnvOk Proofs.Tryz.prog F21.C := show EnvL Proofs.Tryz.prog [] from envNil
theorem F21.snd : FSound Proofs.Tryz.prog F21.S :=
  fun_sound (C := F21.C) (S := F21.S) (fn := Proofs.Tryz.f35) (c := bodyOf Proofs.Tryz.f35) mixed (tisOk tisT) F21.env Proofs.Tryz.func35 (by kernel_rfl) (by kernel_rfl) (L := fun k => []) (fun k => lokNil) (fun k x => F21.eq k x.1 x.2.1 x.2.2.1)

theorem F22.env : EnvOk Proofs.Tryz.prog F22.C := show EnvL Proofs.Tryz.prog [] from envNil
theorem F22.l0 {R : Type} (k : Nat) : LCs Proofs.Tryz.prog F22.C (.loop (loopOf Proofs.Tryz.f39 0)) (F22.L0 (R := R) k) :=
  loop_sound mixed (tisOk tisT) F22.env (k := k) (L := []) (n := 1) (inn := (F22.L0 (R := R) k).inn) (outs := (F22.L0 (R := R) k).outs) lokNil (fun j x e => F22.loop0 k j x.1.1 x.1.2.1 x.1.2.2.1 x.2.1.1 (fun u0 u1 => e (.inl ((u0, ()), ((u1, ()), ())))) (fun u0 => e (.inr (((), ((u0, ()), ())))))) (fun _ _ => rfl) (fun j x e => (F22.r0 k j x.1.1 x.1.2.1 x.1.2.2.1 x.2.1.1 e).symm) 0 k
theorem F22.snd : FSound Proofs.Tryz.prog F22.S :=
  fun_sound (C := F22.C) (S := F22.S) (fn := Proofs.Tryz.f39) (c := bodyOf Proofs.Tryz.f39) mixed (tisOk tisT) F22.env Proofs.Tryz.func39 (by kernel_rfl) (by kernel_rfl) (L := fun k => [F22.L0 k]) (fun k => (lokCons 0 (lc := F22.L0 k) (c0 := loopOf Proofs.Tryz.f39 0) (by kernel_rfl) (by kernel_rfl) (F22.l0 k) lokNil)) (fun k x => F22.eq k x.1 x.2.1 x.2.2.1)

theorem F23.env : EnvOk Proofs.Tryz.prog F23.C := show EnvL Proofs.Tryz.prog [] from envNil
theorem F23.snd : FSound Proofs.Tryz.prog F23.S :=
  fun_sound (C := F23.C) (S := F23.S) (fn := Proofs.Tryz.f24) (c := bodyOf Proofs.Tryz.f24) mixed (tisOk tisT) F23.env Proofs.Tryz.func24 (by kernel_rfl) (by kernel_rfl) (L := fun k => []) (fun k => lokNil) (fun k x => F23.eq k x.1)

theorem F24.env : EnvOk Proofs.Tryz.prog F24.C := show EnvL Proofs.Tryz.prog [F21.S, F23.S, F22.S] from (envCons F21.snd (envCons F23.snd (envCons F22.snd envNil)))
theorem F24.jl4 {R : Type} (k : Nat) : LCs Proofs.Tryz.prog F24.C (joinOf Proofs.Tryz.f22 4) (F24.J4 (R := R) k) :=
  once_sound mixed (tisOk tisT) F24.env (k := k) (L := []) (n := 0) (inn := (F24.J4 (R := R) k).inn) (outs := (F24.J4 (R := R) k).outs) lokNil (fun x e => F24.join4 k x.2.1.1 x.2.1.2.1 x.2.1.2.2.1 x.2.1.2.2.2.1 x.2.1.2.2.2.2.1 x.2.1.2.2.2.2.2.1 x.2.1.2.2.2.2.2.2.1 x.2.1.2.2.2.2.2.2.2.1 x.2.1.2.2.2.2.2.2.2.2.1 x.2.1.2.2.2.2.2.2.2.2.2.1 x.2.1.2.2.2.2.2.2.2.2.2.2.1 x.2.1.2.2.2.2.2.2.2.2.2.2.2.1 x.2.1.2.2.2.2.2.2.2.2.2.2.2.2.1 x.2.1.2.2.2.2.2.2.2.2.2.2.2.2.2.1 x.2.1.2.2.2.2.2.2.2.2.2.2.2.2.2.2.1 x.2.1.2.2.2.2.2.2.2.2.2.2.2.2.2.2.2.1 x.2.1.2.2.2.2.2.2.2.2.2.2.2.2.2.2.2.2.1 x.2.1.2.2.2.2.2.2.2.2.2.2.2.2.2.2.2.2.2.1 x.2.2.1.1 (fun u0 => e ((u0, ()), ()))) (fun x e => (F24.q4 k x.2.1.1 x.2.1.2.1 x.2.1.2.2.1 x.2.1.2.2.2.1 x.2.1.2.2.2.2.1 x.2.1.2.2.2.2.2.1 x.2.1.2.2.2.2.2.2.1 x.2.1.2.2.2.2.2.2.2.1 x.2.1.2.2.2.2.2.2.2.2.1 x.2.1.2.2.2.2.2.2.2.2.2.1 x.2.1.2.2.2.2.2.2.2.2.2.2.1 x.2.1.2.2.2.2.2.2.2.2.2.2.2.1 x.2.1.2.2.2.2.2.2.2.2.2.2.2.2.1 x.2.1.2.2.2.2.2.2.2.2.2.2.2.2.2.1 x.2.1.2.2.2.2.2.2.2.2.2.2.2.2.2.2.1 x.2.1.2.2.2.2.2.2.2.2.2.2.2.2.2.2.2.1 x.2.1.2.2.2.2.2.2.2.2.2.2.2.2.2.2.2.2.1 x.2.1.2.2.2.2.2.2.2.2.2.2.2.2.2.2.2.2.2.1 x.2.2.1.1 e).symm) 9
theorem F24.snd : FSound Proofs.Tryz.prog F24.S :=
  fun_sound (C := F24.C) (S := F24.S) (fn := Proofs.Tryz.f22) (c := bodyOf Proofs.Tryz.f22) mixed (tisOk tisT) F24.env Proofs.Tryz.func22 (by kernel_rfl) (by kernel_rfl) (L := fun k => [F24.J4 k]) (fun k => (lokConsJ 4 (lc := F24.J4 k) (c0 := joinOf Proofs.Tryz.f22 4) (by kernel_rfl) (by kernel_rfl) (F24.jl4 k) lokNil)) (fun k x => F24.eq k x.1)

theorem F25.env : EnvOk Proofs.Tryz.prog F25.C := show EnvL Proofs.Tryz.prog [] from envNil
theorem F25.snd : FSound Proofs.Tryz.prog F25.S :=
  fun_sound (C := F25.C) (S := F25.S) (fn := Proofs.Tryz.f34) (c := bodyOf Proofs.Tryz.f34) mixed (tisOk tisT) F25.env Proofs.Tryz.func34 (by kernel_rfl) (by kernel_rfl) (L := fun k => []) (fun k => lokNil) (fun k x => F25.eq k x.1 x.2.1 x.2.2.1)

theorem F26.env : EnvOk Proofs.Tryz.prog F26.C := show EnvL Proofs.Tryz.prog [F25.S, F21.S] from (envCons F25.snd (envCons F21.snd envNil))
theorem F26.snd : FSound Proofs.Tryz.prog F26.S :=
  fun_sound (C := F26.C) (S := F26.S) (fn := Proofs.Tryz.f14) (c := bodyOf Proofs.Tryz.f14) mixed (tisOk tisT) F26.env Proofs.Tryz.func14 (by kernel_rfl) (by kernel_rfl) (L := fun k => []) (fun k => lokNil) (fun k x => F26.eq k x.1)

theorem F27.env : EnvOk Proofs.Tryz.prog F27.C := show EnvL Proofs.Tryz.prog [] from envNil
theorem F27.snd : FSound Proofs.Tryz.prog F27.S :=
  fun_sound (C := F27.C) (S := F27.S) (fn := Proofs.Tryz.f23) (c := bodyOf Proofs.Tryz.f23) mixed (tisOk tisT) F27.env Proofs.Tryz.func23 (by kernel_rfl) (by kernel_rfl) (L := fun k => []) (fun k => lokNil) (fun k x => F27.eq k x.1)

theorem F28.env : EnvOk Proofs.Tryz.prog F28.C := show EnvL Proofs.Tryz.prog [] from envNil
theorem F28.snd : FSound Proofs.Tryz.prog F28.S :=
  fun_sound (C := F28.C) (S := F28.S) (fn := Proofs.Tryz.f25) (c := bodyOf Proofs.Tryz.f25) mixed (tisOk tisT) F28.env Proofs.Tryz.func25 (by kernel_rfl) (by kernel_rfl) (L := fun k => []) (fun k => lokNil) (fun k x => F28.eq k x.1 x.2.1)

theorem F29.env : EnvOk Proofs.Tryz.prog F29.C := show EnvL Proofs.Tryz.prog [] from envNil
theorem F29.snd : FSound Proofs.Tryz.prog F29.S :=
  fun_sound (C := F29.C) (S := F29.S) (fn := Proofs.Tryz.f61) (c := bodyOf Proofs.Tryz.f61) mixed (tisOk tisT) F29.env Proofs.Tryz.func61 (by kernel_rfl) (by kernel_rfl) (L := fun k => []) (fun k => lokNil) (fun k x => F29.eq k x.1)

theorem F30.env : EnvOk Proofs.Tryz.prog F30.C := show EnvL Proofs.Tryz.prog [] from envNil
theorem F30.l0 {R : Type} (k : Nat) : LCs Proofs.Tryz.prog F30.C (.loop (loopOf Proofs.Tryz.f62 0)) (F30.L0 (R := R) k) :=
  loop_sound mixed (tisOk tisT) F30.env (k := k) (L := []) (n := 1) (inn := (F30.L0 (R := R) k).inn) (outs := (F30.L0 (R := R) k).outs) lokNil (fun j x e => F30.loop0 k j x.1.1 x.1.2.1 x.1.2.2.1 (fun u0 => e (.inl ((u0, ()), ()))) (fun _ => e (.inr (((), ()))))) (fun _ _ => rfl) (fun j x e => (F30.r0 k j x.1.1 x.1.2.1 x.1.2.2.1 e).symm) 0 k
theorem F30.snd : FSound Proofs.Tryz.prog F30.S :=
  fun_sound (C := F30.C) (S := F30.S) (fn := Proofs.Tryz.f62) (c := bodyOf Proofs.Tryz.f62) mixed (tisOk tisT) F30.env Proofs.Tryz.func62 (by kernel_rfl) (by kernel_rfl) (L := fun k => [F30.L0 k]) (fun k => (lokCons 0 (lc := F30.L0 k) (c0 := loopOf Proofs.Tryz.f62 0) (by kernel_rfl) (by kernel_rfl) (F30.l0 k) lokNil)) (fun k x => F30.eq k x.1)

theorem F31.env : EnvOk Proofs.Tryz.prog F31.C := show EnvL Proofs.Tryz.prog [] from envNil
theorem F31.snd : FSound Proofs.Tryz.prog F31.S :=
  fun_sound (C := F31.C) (S := F31.S) (fn := Proofs.Tryz.f63) (c := bodyOf Proofs.Tryz.f63) mixed (tisOk tisT) F31.env Proofs.Tryz.func63 (by kernel_rfl) (by kernel_rfl) (L := fun k => []) (fun k => lokNil) (fun k x => F31.eq k x.1)

theorem F32.env : EnvOk Proofs.Tryz.prog F32.C := show EnvL Proofs.Tryz.prog [] from envNil
theorem F32.snd : FSound Proofs.Tryz.prog F32.S :=
  fun_sound (C := F32.C) (S := F32.S) (fn := Proofs.Tryz.f93) (c := bodyOf Proofs.Tryz.f93) mixed (tisOk tisT) F32.env Proofs.Tryz.func93 (by kernel_rfl) (by kernel_rfl) (L := fun k => []) (fun k => lokNil) (fun k x => F32.eq k x.1 x.2.1)

theorem F33.env : EnvOk Proofs.Tryz.prog F33.C := show EnvL Proofs.Tryz.prog [] from envNil
theorem F33.snd : FSound Proofs.Tryz.prog F33.S :=
  fun_sound (C := F33.C) (S := F33.S) (fn := Proofs.Tryz.f115) (c := bodyOf Proofs.Tryz.f115) mixed (tisOk tisT) F33.env Proofs.Tryz.func115 (by kernel_rfl) (by kernel_rfl) (L := fun k => []) (fun k => lokNil) (fun k x => F33.eq k x.1)

theorem F34.env : EnvOk Proofs.Tryz.prog F34.C := show EnvL Proofs.Tryz.prog [F33.S] from (envCons F33.snd envNil)
theorem F34.snd : FSound Proofs.Tryz.prog F34.S :=
  fun_sound (C := F34.C) (S := F34.S) (fn := Proofs.Tryz.f94) (c := bodyOf Proofs.Tryz.f94) mixed (tisOk tisT) F34.env Proofs.Tryz.func94 (by kernel_rfl) (by kernel_rfl) (L := fun k => []) (fun k => lokNil) (fun k x => F34.eq k x.1)

theorem F35.env : EnvOk Proofs.Tryz.prog F35.C := show EnvL Proofs.Tryz.prog [F30.S, F32.S, F34.S] from (envCons F30.snd (envCons F32.snd (envCons F34.snd envNil)))
theorem F35.l0 {R : Type} (k : Nat) : LCs Proofs.Tryz.prog F35.C (.loop (loopOf Proofs.Tryz.f64 0)) (F35.L0 (R := R) k) :=
  loop_sound mixed (tisOk tisT) F35.env (k := k) (L := []) (n := 1) (inn := (F35.L0 (R := R) k).inn) (outs := (F35.L0 (R := R) k).outs) lokNil (fun j x e => F35.loop0 k j x.1.1 x.1.2.1 x.1.2.2.1 x.1.2.2.2.1 x.1.2.2.2.2.1 x.2.1.1 x.2.1.2.1 x.2.2.1.1 x.2.2.1.2.1 (fun u0 u1 u2 u3 => e ((), ((u0, u1, ()), (u2, u3, ()), ())))) (fun _ _ => rfl) (fun j x e => (F35.r0 k j x.1.1 x.1.2.1 x.1.2.2.1 x.1.2.2.2.1 x.1.2.2.2.2.1 x.2.1.1 x.2.1.2.1 x.2.2.1.1 x.2.2.1.2.1 e).symm) 0 k
theorem F35.snd : FSound Proofs.Tryz.prog F35.S :=
  fun_sound (C := F35.C) (S := F35.S) (fn := Proofs.Tryz.f64) (c := bodyOf Proofs.Tryz.f64) mixed (tisOk tisT) F35.env Proofs.Tryz.func64 (by kernel_rfl) (by kernel_rfl) (L := fun k => [F35.L0 k]) (fun k => (lokCons 0 (lc := F35.L0 k) (c0 := loopOf Proofs.Tryz.f64 0) (by kernel_rfl) (by kernel_rfl) (F35.l0 k) lokNil)) (fun k x => F35.eq k x.1 x.2.1 x.2.2.1)

theorem F36.env : EnvOk Proofs.Tryz.prog F36.C := show EnvL Proofs.Tryz.prog [F29.S, F30.S, F31.S, F35.S] from (envCons F29.snd (envCons F30.snd (envCons F31.snd (envCons F35.snd envNil))))
theorem F36.snd : FSound Proofs.Tryz.prog F36.S :=
  fun_sound (C := F36.C) (S := F36.S) (fn := Proofs.Tryz.f40) (c := bodyOf Proofs.Tryz.f40) mixed (tisOk tisT) F36.env Proofs.Tryz.func40 (by kernel_rfl) (by kernel_rfl) (L := fun k => []) (fun k => lokNil) (fun k x => F36.eq k x.1 x.2.1 x.2.2.1 x.2.2.2.1 x.2.2.2.2.1 x.2.2.2.2.2.1)

theorem F37.env : EnvOk Proofs.Tryz.prog F37.C := show EnvL Proofs.Tryz.prog [] from envNil
theorem F37.snd : FSound Proofs.Tryz.prog F37.S :=
  fun_sound (C := F37.C) (S := F37.S) (fn := Proofs.Tryz.f65) (c := bodyOf Proofs.Tryz.f65) mixed (tisOk tisT) F37.env Proofs.Tryz.func65 (by kernel_rfl) (by kernel_rfl) (L := fun k => []) (fun k => lokNil) (fun k x => F37.eq k x.1)

theorem F38.env : EnvOk Proofs.Tryz.prog F38.C := show EnvL Proofs.Tryz.prog [] from envNil
theorem F38.snd : FSound Proofs.Tryz.prog F38.S :=
  fun_sound (C := F38.C) (S := F38.S) (fn := Proofs.Tryz.f66) (c := bodyOf Proofs.Tryz.f66) mixed (tisOk tisT) F38.env Proofs.Tryz.func66 (by kernel_rfl) (by kernel_rfl) (L := fun k => []) (fun k => lokNil) (fun k x => F38.eq k x.1)

theorem F39.env : EnvOk Proofs.Tryz.prog F39.C := show EnvL Proofs.Tryz.prog [F33.S] from (envCons F33.snd envNil)
theorem F39.snd : FSound Proofs.Tryz.prog F39.S :=
  fun_sound (C := F39.C) (S := F39.S) (fn := Proofs.Tryz.f95) (c := bodyOf Proofs.Tryz.f95) mixed (tisOk tisT) F39.env Proofs.Tryz.func95 (by kernel_rfl) (by kernel_rfl) (L := fun k => []) (fun k => lokNil) (fun k x => F39.eq k x.1 x.2.1)

theorem F40.env : EnvOk Proofs.Tryz.prog F40.C := show EnvL Proofs.Tryz.prog [F39.S] from (envCons F39.snd envNil)
theorem F40.snd : FSound Proofs.Tryz.prog F40.S :=
  fun_sound (C := F40.C) (S := F40.S) (fn := Proofs.Tryz.f67) (c := bodyOf Proofs.Tryz.f67) mixed (tisOk tisT) F40.env Proofs.Tryz.func67 (by kernel_rfl) (by kernel_rfl) (L := fun k => []) (fun k => lokNil) (fun k x => F40.eq k x.1 x.2.1 x.2.2.1)

theorem F41.env : EnvOk Proofs.Tryz.prog F41.C := show EnvL Proofs.Tryz.prog [F30.S, F37.S, F38.S, F35.S, F40.S] from (envCons F30.snd (envCons F37.snd (envCons F38.snd (envCons F35.snd (envCons F40.snd envNil)))))
theorem F41.jl3 {R : Type} (k : Nat) : LCs Proofs.Tryz.prog F41.C (joinOf Proofs.Tryz.f41 3) (F41.J3 (R := R) k) :=
  once_sound mixed (tisOk tisT) F41.env (k := k) (L := []) (n := 0) (inn := (F41.J3 (R := R) k).inn) (outs := (F41.J3 (R := R) k).outs) lokNil (fun x e => F41.join3 k x.1.1 x.1.2.1 x.1.2.2.1 x.1.2.2.2.1 x.1.2.2.2.2.1 x.1.2.2.2.2.2.1 (fun u0 => e ((u0, ()), ()))) (fun x e => (F41.q3 k x.1.1 x.1.2.1 x.1.2.2.1 x.1.2.2.2.1 x.1.2.2.2.2.1 x.1.2.2.2.2.2.1 e).symm) 7
theorem F41.snd : FSound Proofs.Tryz.prog F41.S :=
  fun_sound (C := F41.C) (S := F41.S) (fn := Proofs.Tryz.f41) (c := bodyOf Proofs.Tryz.f41) mixed (tisOk tisT) F41.env Proofs.Tryz.func41 (by kernel_rfl) (by kernel_rfl) (L := fun k => [F41.J3 k]) (fun k => (lokConsJ 3 (lc := F41.J3 k) (c0 := joinOf Proofs.Tryz.f41 3) (by kernel_rfl) (by kernel_rfl) (F41.jl3 k) lokNil)) (fun k x => F41.eq k x.1 x.2.1 x.2.2.1 x.2.2.2.1 x.2.2.2.2.1 x.2.2.2.2.2.1)

theorem F42.env : EnvOk Proofs.Tryz.prog F42.C := show EnvL Proofs.Tryz.prog [] from envNil
theorem F42.snd : FSound Proofs.Tryz.prog F42.S :=
  fun_sound (C := F42.C) (S := F42.S) (fn := Proofs.Tryz.f96) (c := bodyOf Proofs.Tryz.f96) mixed (tisOk tisT) F42.env Proofs.Tryz.func96 (by kernel_rfl) (by kernel_rfl) (L := fun k => []) (fun k => lokNil) (fun k x => F42.eq k x.1)

theorem F43.env : EnvOk Proofs.Tryz.prog F43.C := show EnvL Proofs.Tryz.prog [] from envNil
theorem F43.snd : FSound Proofs.Tryz.prog F43.S :=
  fun_sound (C := F43.C) (S := F43.S) (fn := Proofs.Tryz.f97) (c := bodyOf Proofs.Tryz.f97) mixed (tisOk tisT) F43.env Proofs.Tryz.func97 (by kernel_rfl) (by kernel_rfl) (L := fun k => []) (fun k => lokNil) (fun k x => F43.eq k x.1)

theorem F44.env : EnvOk Proofs.Tryz.prog F44.C := show EnvL Proofs.Tryz.prog [F42.S, F43.S] from (envCons F42.snd (envCons F43.snd envNil))
theorem F44.l1 {R : Type} (k : Nat) : LCs Proofs.Tryz.prog F44.C (.loop (loopOf Proofs.Tryz.f68 1)) (F44.L1 (R := R) k) :=
  loop_sound mixed (tisOk tisT) F44.env (k := k) (L := []) (n := 2) (inn := (F44.L1 (R := R) k).inn) (outs := (F44.L1 (R := R) k).outs) lokNil (fun j x e => F44.loop1 k j x.1.1 x.1.2.1 x.1.2.2.1 (fun u0 => e (.inl ((u0, ()), ()))) (fun _ => e (.inr (((), ()))))) (fun _ _ => rfl) (fun j x e => (F44.r1 k j x.1.1 x.1.2.1 x.1.2.2.1 e).symm) 2 k
theorem F44.l0 {R : Type} (k : Nat) : LCs Proofs.Tryz.prog F44.C (.loop (loopOf Proofs.Tryz.f68 0)) (F44.L0 (R := R) k) :=
  loop_sound mixed (tisOk tisT) F44.env (k := k) (L := [F44.L1 k]) (n := 1) (inn := (F44.L0 (R := R) k).inn) (outs := (F44.L0 (R := R) k).outs) (lokCons 1 (lc := F44.L1 k) (c0 := loopOf Proofs.Tryz.f68 1) (by kernel_rfl) (by kernel_rfl) (F44.l1 k) lokNil) (fun j x e => F44.loop0 k j x.1.1 x.1.2.1 x.1.2.2.1 (fun u0 => e (.inl ((u0, ()), ()))) (fun _ => e (.inr (((), ()))))) (fun _ _ => rfl) (fun j x e => (F44.r0 k j x.1.1 x.1.2.1 x.1.2.2.1 e).symm) 0 k
theorem F44.snd : FSound Proofs.Tryz.prog F44.S :=
  fun_sound (C := F44.C) (S := F44.S) (fn := Proofs.Tryz.f68) (c := bodyOf Proofs.Tryz.f68) mixed (tisOk tisT) F44.env Proofs.Tryz.func68 (by kernel_rfl) (by kernel_rfl) (L := fun k => [F44.L1 k, F44.L0 k]) (fun k => (lokCons 1 (lc := F44.L1 k) (c0 := loopOf Proofs.Tryz.f68 1) (by kernel_rfl) (by kernel_rfl) (F44.l1 k) (lokCons 0 (lc := F44.L0 k) (c0 := loopOf Proofs.Tryz.f68 0) (by kernel_rfl) (by kernel_rfl) (F44.l0 k) lokNil))) (fun k x => F44.eq k x.1 x.2.1)

theorem F45.env : EnvOk Proofs.Tryz.prog F45.C := show EnvL Proofs.Tryz.prog [] from envNil
theorem F45.snd : FSound Proofs.Tryz.prog F45.S :=
  fun_sound (C := F45.C) (S := F45.S) (fn := Proofs.Tryz.f69) (c := bodyOf Proofs.Tryz.f69) mixed (tisOk tisT) F45.env Proofs.Tryz.func69 (by kernel_rfl) (by kernel_rfl) (L := fun k => []) (fun k => lokNil) (fun k x => F45.eq k x.1)

theorem F46.env : EnvOk Proofs.Tryz.prog F46.C := show EnvL Proofs.Tryz.prog [] from envNil
theorem F46.snd : FSound Proofs.Tryz.prog F46.S :=
  fun_sound (C := F46.C) (S := F46.S) (fn := Proofs.Tryz.f70) (c := bodyOf Proofs.Tryz.f70) mixed (tisOk tisT) F46.env Proofs.Tryz.func70 (by kernel_rfl) (by kernel_rfl) (L := fun k => []) (fun k => lokNil) (fun k x => F46.eq k x.1)

theorem F47.env : EnvOk Proofs.Tryz.prog F47.C := show EnvL Proofs.Tryz.prog [F44.S, F25.S, F45.S, F46.S, F35.S, F40.S] from (envCons F44.snd (envCons F25.snd (envCons F45.snd (envCons F46.snd (envCons F35.snd (envCons F40.snd envNil))))))
theorem F47.l0 {R : Type} (k : Nat) : LCs Proofs.Tryz.prog F47.C (.loop (loopOf Proofs.Tryz.f42 0)) (F47.L0 (R := R) k) :=
  loop_sound mixed (tisOk tisT) F47.env (k := k) (L := []) (n := 1) (inn := (F47.L0 (R := R) k).inn) (outs := (F47.L0 (R := R) k).outs) lokNil (fun j x e => F47.loop0 k j x.1.1 x.1.2.1 x.1.2.2.1 x.1.2.2.2.1 x.1.2.2.2.2.1 x.1.2.2.2.2.2.1 x.2.1.1 x.2.1.2.1 x.2.1.2.2.1 (fun u0 => e (.inl ((u0, ()), ()))) (fun u0 u1 => e (.inr (((u0, u1, ()), ()))))) (fun _ _ => rfl) (fun j x e => (F47.r0 k j x.1.1 x.1.2.1 x.1.2.2.1 x.1.2.2.2.1 x.1.2.2.2.2.1 x.1.2.2.2.2.2.1 x.2.1.1 x.2.1.2.1 x.2.1.2.2.1 e).symm) 0 k
theorem F47.l1 {R : Type} (k : Nat) : LCs Proofs.Tryz.prog F47.C (.loop (loopOf Proofs.Tryz.f42 1)) (F47.L1 (R := R) k) :=
  loop_sound mixed (tisOk tisT) F47.env (k := k) (L := []) (n := 2) (inn := (F47.L1 (R := R) k).inn) (outs := (F47.L1 (R := R) k).outs) lokNil (fun j x e => F47.loop1 k j x.1.1 x.1.2.1 x.1.2.2.1 x.1.2.2.2.1 x.1.2.2.2.2.1 (fun u0 => e (.inl ((u0, ()), ()))) (fun _ => e (.inr (((), ()))))) (fun _ _ => rfl) (fun j x e => (F47.r1 k j x.1.1 x.1.2.1 x.1.2.2.1 x.1.2.2.2.1 x.1.2.2.2.2.1 e).symm) 2 k
theorem F47.snd : FSound Proofs.Tryz.prog F47.S :=
  fun_sound (C := F47.C) (S := F47.S) (fn := Proofs.Tryz.f42) (c := bodyOf Proofs.Tryz.f42) mixed (tisOk tisT) F47.env Proofs.Tryz.func42 (by kernel_rfl) (by kernel_rfl) (L := fun k => [F47.L0 k, F47.L1 k]) (fun k => (lokCons 0 (lc := F47.L0 k) (c0 := loopOf Proofs.Tryz.f42 0) (by kernel_rfl) (by kernel_rfl) (F47.l0 k) (lokCons 1 (lc := F47.L1 k) (c0 := loopOf Proofs.Tryz.f42 1) (by kernel_rfl) (by kernel_rfl) (F47.l1 k) lokNil))) (fun k x => F47.eq k x.1 x.2.1 x.2.2.1 x.2.2.2.1 x.2.2.2.2.1 x.2.2.2.2.2.1)

theorem F48.env : EnvOk Proofs.Tryz.prog F48.C := show EnvL Proofs.Tryz.prog [F25.S] from (envCons F25.snd envNil)
theorem F48.snd : FSound Proofs.Tryz.prog F48.S :=
  fun_sound (C := F48.C) (S := F48.S) (fn := Proofs.Tryz.f71) (c := bodyOf Proofs.Tryz.f71) mixed (tisOk tisT) F48.env Proofs.Tryz.func71 (by kernel_rfl) (by kernel_rfl) (L := fun k => []) (fun k => lokNil) (fun k x => F48.eq k x.1)

theorem F49.env : EnvOk Proofs.Tryz.prog F49.C := show EnvL Proofs.Tryz.prog [F48.S] from (envCons F48.snd envNil)
theorem F49.snd : FSound Proofs.Tryz.prog F49.S :=
  fun_sound (C := F49.C) (S := F49.S) (fn := Proofs.Tryz.f43) (c := bodyOf Proofs.Tryz.f43) mixed (tisOk tisT) F49.env Proofs.Tryz.func43 (by kernel_rfl) (by kernel_rfl) (L := fun k => []) (fun k => lokNil) (fun k x => F49.eq k x.1)

theorem F50.env : EnvOk Proofs.Tryz.prog F50.C := show EnvL Proofs.Tryz.prog [] from envNil
theorem F50.snd : FSound Proofs.Tryz.prog F50.S :=
  fun_sound (C := F50.C) (S := F50.S) (fn := Proofs.Tryz.f72) (c := bodyOf Proofs.Tryz.f72) mixed (tisOk tisT) F50.env Proofs.Tryz.func72 (by kernel_rfl) (by kernel_rfl) (L := fun k => []) (fun k => lokNil) (fun k x => F50.eq k x.1 x.2.1 x.2.2.1)

theorem F51.env : EnvOk Proofs.Tryz.prog F51.C := show EnvL Proofs.Tryz.prog [] from envNil
theorem F51.snd : FSound Proofs.Tryz.prog F51.S :=
  fun_sound (C := F51.C) (S := F51.S) (fn := Proofs.Tryz.f73) (c := bodyOf Proofs.Tryz.f73) mixed (tisOk tisT) F51.env Proofs.Tryz.func73 (by kernel_rfl) (by kernel_rfl) (L := fun k => []) (fun k => lokNil) (fun k x => F51.eq k x.1)

theorem F52.env : EnvOk Proofs.Tryz.prog F52.C := show EnvL Proofs.Tryz.prog [F50.S] from (envCons F50.snd envNil)
theorem F52.snd : FSound Proofs.Tryz.prog F52.S :=
  fun_sound (C := F52.C) (S := F52.S) (fn := Proofs.Tryz.f74) (c := bodyOf Proofs.Tryz.f74) mixed (tisOk tisT) F52.env Proofs.Tryz.func74 (by kernel_rfl) (by kernel_rfl) (L := fun k => []) (fun k => lokNil) (fun k x => F52.eq k x.1)

theorem F53.env : EnvOk Proofs.Tryz.prog F53.C := show EnvL Proofs.Tryz.prog [F50.S, F51.S, F52.S] from (envCons F50.snd (envCons F51.snd (envCons F52.snd envNil)))
theorem F53.l0 {R : Type} (k : Nat) : LCs Proofs.Tryz.prog F53.C (.loop (loopOf Proofs.Tryz.f44 0)) (F53.L0 (R := R) k) :=
  loop_sound mixed (tisOk tisT) F53.env (k := k) (L := []) (n := 1) (inn := (F53.L0 (R := R) k).inn) (outs := (F53.L0 (R := R) k).outs) lokNil (fun j x e => F53.loop0 k j x.1.1 x.1.2.1 x.1.2.2.1 x.1.2.2.2.1 x.1.2.2.2.2.1 (fun u0 => e (.inl ((u0, ()), ()))) (fun u0 => e (.inr (((u0, ()), ()))))) (fun _ _ => rfl) (fun j x e => (F53.r0 k j x.1.1 x.1.2.1 x.1.2.2.1 x.1.2.2.2.1 x.1.2.2.2.2.1 e).symm) 0 k
theorem F53.snd : FSound Proofs.Tryz.prog F53.S :=
  fun_sound (C := F53.C) (S := F53.S) (fn := Proofs.Tryz.f44) (c := bodyOf Proofs.Tryz.f44) mixed (tisOk tisT) F53.env Proofs.Tryz.func44 (by kernel_rfl) (by kernel_rfl) (L := fun k => [F53.L0 k]) (fun k => (lokCons 0 (lc := F53.L0 k) (c0 := loopOf Proofs.Tryz.f44 0) (by kernel_rfl) (by kernel_rfl) (F53.l0 k) lokNil)) (fun k x => F53.eq k x.1 x.2.1)

theorem F54.env : EnvOk Proofs.Tryz.prog F54.C := show EnvL Proofs.Tryz.prog [] from envNil
theorem F54.snd : FSound Proofs.Tryz.prog F54.S :=
  fun_sound (C := F54.C) (S := F54.S) (fn := Proofs.Tryz.f75) (c := bodyOf Proofs.Tryz.f75) mixed (tisOk tisT) F54.env Proofs.Tryz.func75 (by kernel_rfl) (by kernel_rfl) (L := fun k => []) (fun k => lokNil) (fun k x => F54.eq k x.1)

theorem F55.env : EnvOk Proofs.Tryz.prog F55.C := show EnvL Proofs.Tryz.prog [F54.S] from (envCons F54.snd envNil)
theorem F55.snd : FSound Proofs.Tryz.prog F55.S :=
  fun_sound (C := F55.C) (S := F55.S) (fn := Proofs.Tryz.f98) (c := bodyOf Proofs.Tryz.f98) mixed (tisOk tisT) F55.env Proofs.Tryz.func98 (by kernel_rfl) (by kernel_rfl) (L := fun k => []) (fun k => lokNil) (fun k x => F55.eq k x.1 x.2.1)

theorem F56.env : EnvOk Proofs.Tryz.prog F56.C := show EnvL Proofs.Tryz.prog [F55.S, F54.S] from (envCons F55.snd (envCons F54.snd envNil))
theorem F56.snd : FSound Proofs.Tryz.prog F56.S :=
  fun_sound (C := F56.C) (S := F56.S) (fn := Proofs.Tryz.f76) (c := bodyOf Proofs.Tryz.f76) mixed (tisOk tisT) F56.env Proofs.Tryz.func76 (by kernel_rfl) (by kernel_rfl) (L := fun k => []) (fun k => lokNil) (fun k x => F56.eq k x.1 x.2.1 x.2.2.1)

theorem F57.env : EnvOk Proofs.Tryz.prog F57.C := show EnvL Proofs.Tryz.prog [F50.S] from (envCons F50.snd envNil)
theorem F57.snd : FSound Proofs.Tryz.prog F57.S :=
  fun_sound (C := F57.C) (S := F57.S) (fn := Proofs.Tryz.f77) (c := bodyOf Proofs.Tryz.f77) mixed (tisOk tisT) F57.env Proofs.Tryz.func77 (by kernel_rfl) (by kernel_rfl) (L := fun k => []) (fun k => lokNil) (fun k x => F57.eq k x.1)

theorem F58.env : EnvOk Proofs.Tryz.prog F58.C := show EnvL Proofs.Tryz.prog [F53.S, F50.S, F51.S, F57.S, F40.S, F54.S, F56.S] from (envCons F53.snd (envCons F50.snd (envCons F51.snd (envCons F57.snd (envCons F40.snd (envCons F54.snd (envCons F56.snd envNil)))))))
theorem F58.l0 {R : Type} (k : Nat) : LCs Proofs.Tryz.prog F58.C (.loop (loopOf Proofs.Tryz.f45 0)) (F58.L0 (R := R) k) :=
  loop_sound mixed (tisOk tisT) F58.env (k := k) (L := []) (n := 1) (inn := (F58.L0 (R := R) k).inn) (outs := (F58.L0 (R := R) k).outs) lokNil (fun j x e => F58.loop0 k j x.1.1 x.1.2.1 x.1.2.2.1 x.1.2.2.2.1 x.1.2.2.2.2.1 x.2.1 (fun u0 u1 u2 => e (.inl ((u0, u1, u2, ()), ()))) (fun u0 => e (.inr (((), (u0, ())))))) (fun _ _ => rfl) (fun j x e => (F58.r0 k j x.1.1 x.1.2.1 x.1.2.2.1 x.1.2.2.2.1 x.1.2.2.2.2.1 x.2.1 e).symm) 0 k
theorem F58.snd : FSound Proofs.Tryz.prog F58.S :=
  fun_sound (C := F58.C) (S := F58.S) (fn := Proofs.Tryz.f45) (c := bodyOf Proofs.Tryz.f45) mixed (tisOk tisT) F58.env Proofs.Tryz.func45 (by kernel_rfl) (by kernel_rfl) (L := fun k => [F58.L0 k]) (fun k => (lokCons 0 (lc := F58.L0 k) (c0 := loopOf Proofs.Tryz.f45 0) (by kernel_rfl) (by kernel_rfl) (F58.l0 k) lokNil)) (fun k x => F58.eq k x.1 x.2.1 x.2.2.1)

theorem F59.env : EnvOk Proofs.Tryz.prog F59.C := show EnvL Proofs.Tryz.prog [F36.S, F41.S, F47.S, F21.S, F49.S, F27.S, F53.S, F58.S] from (envCons F36.snd (envCons F41.snd (envCons F47.snd (envCons F21.snd (envCons F49.snd (envCons F27.snd (envCons F53.snd (envCons F58.snd envNil))))))))
theorem F59.snd : FSound Proofs.Tryz.prog F59.S :=
  fun_sound (C := F59.C) (S := F59.S) (fn := Proofs.Tryz.f26) (c := bodyOf Proofs.Tryz.f26) mixed (tisOk tisT) F59.env Proofs.Tryz.func26 (by kernel_rfl) (by kernel_rfl) (L := fun k => []) (fun k => lokNil) (fun k x => F59.eq k x.1 x.2.1 x.2.2.1)

theorem F60.env : EnvOk Proofs.Tryz.prog F60.C := show EnvL Proofs.Tryz.prog [F24.S, F26.S, F27.S, F23.S, F28.S, F59.S] from (envCons F24.snd (envCons F26.snd (envCons F27.snd (envCons F23.snd (envCons F28.snd (envCons F59.snd envNil))))))
theorem F60.snd : FSound Proofs.Tryz.prog F60.S :=
  fun_sound (C := F60.C) (S := F60.S) (fn := Proofs.Tryz.f11) (c := bodyOf Proofs.Tryz.f11) mixed (tisOk tisT) F60.env Proofs.Tryz.func11 (by kernel_rfl) (by kernel_rfl) (L := fun k => []) (fun k => lokNil) (fun k x => F60.eq k x.1 x.2.1 x.2.2.1)

theorem F61.env : EnvOk Proofs.Tryz.prog F61.C := show EnvL Proofs.Tryz.prog [] from envNil
theorem F61.snd : FSound Proofs.Tryz.prog F61.S :=
  fun_sound (C := F61.C) (S := F61.S) (fn := Proofs.Tryz.f36) (c := bodyOf Proofs.Tryz.f36) mixed (tisOk tisT) F61.env Proofs.Tryz.func36 (by kernel_rfl) (by kernel_rfl) (L := fun k => []) (fun k => lokNil) (fun k x => F61.eq k x.1 x.2.1 x.2.2.1)

theorem F62.env : EnvOk Proofs.Tryz.prog F62.C := show EnvL Proofs.Tryz.prog [F61.S] from (envCons F61.snd envNil)
theorem F62.l0 {R : Type} (k : Nat) : LCs Proofs.Tryz.prog F62.C (.loop (loopOf Proofs.Tryz.f15 0)) (F62.L0 (R := R) k) :=
  loop_sound mixed (tisOk tisT) F62.env (k := k) (L := []) (n := 1) (inn := (F62.L0 (R := R) k).inn) (outs := (F62.L0 (R := R) k).outs) lokNil (fun j x e => F62.loop0 k j x.1.1 x.2.1.1 x.2.1.2.1 x.2.1.2.2.1 x.2.1.2.2.2.1 (fun u0 => e (.inl ((u0, ()), ()))) (fun _ => e (.inr (((), ()))))) (fun _ _ => rfl) (fun j x e => (F62.r0 k j x.1.1 x.2.1.1 x.2.1.2.1 x.2.1.2.2.1 x.2.1.2.2.2.1 e).symm) 0 k
theorem F62.snd : FSound Proofs.Tryz.prog F62.S :=
  fun_sound (C := F62.C) (S := F62.S) (fn := Proofs.Tryz.f15) (c := bodyOf Proofs.Tryz.f15) mixed (tisOk tisT) F62.env Proofs.Tryz.func15 (by kernel_rfl) (by kernel_rfl) (L := fun k => [F62.L0 k]) (fun k => (lokCons 0 (lc := F62.L0 k) (c0 := loopOf Proofs.Tryz.f15 0) (by kernel_rfl) (by kernel_rfl) (F62.l0 k) lokNil)) (fun k x => F62.eq k x.1)

theorem F63.env : EnvOk Proofs.Tryz.prog F63.C := show EnvL Proofs.Tryz.prog [] from envNil
theorem F63.snd : FSound Proofs.Tryz.prog F63.S :=
  fun_sound (C := F63.C) (S := F63.S) (fn := Proofs.Tryz.f27) (c := bodyOf Proofs.Tryz.f27) mixed (tisOk tisT) F63.env Proofs.Tryz.func27 (by kernel_rfl) (by kernel_rfl) (L := fun k => []) (fun k => lokNil) (fun k x => F63.eq k x.1)

theorem F64.env : EnvOk Proofs.Tryz.prog F64.C := show EnvL Proofs.Tryz.prog [] from envNil
theorem F64.snd : FSound Proofs.Tryz.prog F64.S :=
  fun_sound (C := F64.C) (S := F64.S) (fn := Proofs.Tryz.f48) (c := bodyOf Proofs.Tryz.f48) mixed (tisOk tisT) F64.env Proofs.Tryz.func48 (by kernel_rfl) (by kernel_rfl) (L := fun k => []) (fun k => lokNil) (fun k x => F64.eq k x.1)

theorem F65.env : EnvOk Proofs.Tryz.prog F65.C := show EnvL Proofs.Tryz.prog [F64.S] from (envCons F64.snd envNil)
theorem F65.jl10 {R : Type} (k : Nat) : LCs Proofs.Tryz.prog F65.C (joinOf Proofs.Tryz.f46 10) (F65.J10 (R := R) k) :=
  once_sound mixed (tisOk tisT) F65.env (k := k) (L := []) (n := 0) (inn := (F65.J10 (R := R) k).inn) (outs := (F65.J10 (R := R) k).outs) lokNil (fun x e => F65.join10 k x.1.1 x.1.2.1 x.1.2.2.1 x.2.1.1 x.2.1.2.1 x.2.1.2.2.1 x.2.1.2.2.2.1 x.2.1.2.2.2.2.1 x.2.1.2.2.2.2.2.1 x.2.1.2.2.2.2.2.2.1 x.2.1.2.2.2.2.2.2.2.1 x.2.1.2.2.2.2.2.2.2.2.1 x.2.1.2.2.2.2.2.2.2.2.2.1 x.2.1.2.2.2.2.2.2.2.2.2.2.1 x.2.1.2.2.2.2.2.2.2.2.2.2.2.1 x.2.1.2.2.2.2.2.2.2.2.2.2.2.2.1 x.2.1.2.2.2.2.2.2.2.2.2.2.2.2.2.1 x.2.1.2.2.2.2.2.2.2.2.2.2.2.2.2.2.1 x.2.1.2.2.2.2.2.2.2.2.2.2.2.2.2.2.2.1 x.2.1.2.2.2.2.2.2.2.2.2.2.2.2.2.2.2.2.1 x.2.1.2.2.2.2.2.2.2.2.2.2.2.2.2.2.2.2.2.1 (fun _ => e (.inl ((), ()))) (fun u0 => e (.inr (((u0, ()), ()))))) (fun x e => (F65.q10 k x.1.1 x.1.2.1 x.1.2.2.1 x.2.1.1 x.2.1.2.1 x.2.1.2.2.1 x.2.1.2.2.2.1 x.2.1.2.2.2.2.1 x.2.1.2.2.2.2.2.1 x.2.1.2.2.2.2.2.2.1 x.2.1.2.2.2.2.2.2.2.1 x.2.1.2.2.2.2.2.2.2.2.1 x.2.1.2.2.2.2.2.2.2.2.2.1 x.2.1.2.2.2.2.2.2.2.2.2.2.1 x.2.1.2.2.2.2.2.2.2.2.2.2.2.1 x.2.1.2.2.2.2.2.2.2.2.2.2.2.2.1 x.2.1.2.2.2.2.2.2.2.2.2.2.2.2.2.1 x.2.1.2.2.2.2.2.2.2.2.2.2.2.2.2.2.1 x.2.1.2.2.2.2.2.2.2.2.2.2.2.2.2.2.2.1 x.2.1.2.2.2.2.2.2.2.2.2.2.2.2.2.2.2.2.1 x.2.1.2.2.2.2.2.2.2.2.2.2.2.2.2.2.2.2.2.1 e).symm) 21
theorem F65.jl9 {R : Type} (k : Nat) : LCs Proofs.Tryz.prog F65.C (joinOf Proofs.Tryz.f46 9) (F65.J9 (R := R) k) :=
  once_sound mixed (tisOk tisT) F65.env (k := k) (L := [F65.J10 k]) (n := 0) (inn := (F65.J9 (R := R) k).inn) (outs := (F65.J9 (R := R) k).outs) (lokConsJ 10 (lc := F65.J10 k) (c0 := joinOf Proofs.Tryz.f46 10) (by kernel_rfl) (by kernel_rfl) (F65.jl10 k) lokNil) (fun x e => F65.join9 k x.1.1 x.1.2.1 x.1.2.2.1 x.2.1.1 x.2.1.2.1 x.2.1.2.2.1 x.2.1.2.2.2.1 x.2.1.2.2.2.2.1 x.2.1.2.2.2.2.2.1 x.2.1.2.2.2.2.2.2.1 x.2.1.2.2.2.2.2.2.2.1 x.2.1.2.2.2.2.2.2.2.2.1 x.2.1.2.2.2.2.2.2.2.2.2.1 x.2.1.2.2.2.2.2.2.2.2.2.2.1 x.2.1.2.2.2.2.2.2.2.2.2.2.2.1 x.2.1.2.2.2.2.2.2.2.2.2.2.2.2.1 x.2.1.2.2.2.2.2.2.2.2.2.2.2.2.2.1 x.2.1.2.2.2.2.2.2.2.2.2.2.2.2.2.2.1 x.2.1.2.2.2.2.2.2.2.2.2.2.2.2.2.2.2.1 x.2.1.2.2.2.2.2.2.2.2.2.2.2.2.2.2.2.2.1 x.2.1.2.2.2.2.2.2.2.2.2.2.2.2.2.2.2.2.2.1 (fun _ => e (.inl ((), ()))) (fun u0 => e (.inr (((u0, ()), ()))))) (fun x e => (F65.q9 k x.1.1 x.1.2.1 x.1.2.2.1 x.2.1.1 x.2.1.2.1 x.2.1.2.2.1 x.2.1.2.2.2.1 x.2.1.2.2.2.2.1 x.2.1.2.2.2.2.2.1 x.2.1.2.2.2.2.2.2.1 x.2.1.2.2.2.2.2.2.2.1 x.2.1.2.2.2.2.2.2.2.2.1 x.2.1.2.2.2.2.2.2.2.2.2.1 x.2.1.2.2.2.2.2.2.2.2.2.2.1 x.2.1.2.2.2.2.2.2.2.2.2.2.2.1 x.2.1.2.2.2.2.2.2.2.2.2.2.2.2.1 x.2.1.2.2.2.2.2.2.2.2.2.2.2.2.2.1 x.2.1.2.2.2.2.2.2.2.2.2.2.2.2.2.2.1 x.2.1.2.2.2.2.2.2.2.2.2.2.2.2.2.2.2.1 x.2.1.2.2.2.2.2.2.2.2.2.2.2.2.2.2.2.2.1 x.2.1.2.2.2.2.2.2.2.2.2.2.2.2.2.2.2.2.2.1 e).symm) 19
theorem F65.jl8 {R : Type} (k : Nat) : LCs Proofs.Tryz.prog F65.C (joinOf Proofs.Tryz.f46 8) (F65.J8 (R := R) k) :=
  once_sound mixed (tisOk tisT) F65.env (k := k) (L := [F65.J10 k, F65.J9 k]) (n := 0) (inn := (F65.J8 (R := R) k).inn) (outs := (F65.J8 (R := R) k).outs) (lokConsJ 10 (lc := F65.J10 k) (c0 := joinOf Proofs.Tryz.f46 10) (by kernel_rfl) (by kernel_rfl) (F65.jl10 k) (lokConsJ 9 (lc := F65.J9 k) (c0 := joinOf Proofs.Tryz.f46 9) (by kernel_rfl) (by kernel_rfl) (F65.jl9 k) lokNil)) (fun x e => F65.join8 k x.1.1 x.1.2.1 x.1.2.2.1 x.2.1.1 x.2.1.2.1 x.2.1.2.2.1 x.2.1.2.2.2.1 x.2.1.2.2.2.2.1 x.2.1.2.2.2.2.2.1 x.2.1.2.2.2.2.2.2.1 x.2.1.2.2.2.2.2.2.2.1 x.2.1.2.2.2.2.2.2.2.2.1 x.2.1.2.2.2.2.2.2.2.2.2.1 x.2.1.2.2.2.2.2.2.2.2.2.2.1 x.2.1.2.2.2.2.2.2.2.2.2.2.2.1 x.2.1.2.2.2.2.2.2.2.2.2.2.2.2.1 x.2.1.2.2.2.2.2.2.2.2.2.2.2.2.2.1 x.2.1.2.2.2.2.2.2.2.2.2.2.2.2.2.2.1 x.2.1.2.2.2.2.2.2.2.2.2.2.2.2.2.2.2.1 x.2.1.2.2.2.2.2.2.2.2.2.2.2.2.2.2.2.2.1 x.2.1.2.2.2.2.2.2.2.2.2.2.2.2.2.2.2.2.2.1 (fun _ => e (.inl ((), ()))) (fun u0 => e (.inr (((u0, ()), ()))))) (fun x e => (F65.q8 k x.1.1 x.1.2.1 x.1.2.2.1 x.2.1.1 x.2.1.2.1 x.2.1.2.2.1 x.2.1.2.2.2.1 x.2.1.2.2.2.2.1 x.2.1.2.2.2.2.2.1 x.2.1.2.2.2.2.2.2.1 x.2.1.2.2.2.2.2.2.2.1 x.2.1.2.2.2.2.2.2.2.2.1 x.2.1.2.2.2.2.2.2.2.2.2.1 x.2.1.2.2.2.2.2.2.2.2.2.2.1 x.2.1.2.2.2.2.2.2.2.2.2.2.2.1 x.2.1.2.2.2.2.2.2.2.2.2.2.2.2.1 x.2.1.2.2.2.2.2.2.2.2.2.2.2.2.2.1 x.2.1.2.2.2.2.2.2.2.2.2.2.2.2.2.2.1 x.2.1.2.2.2.2.2.2.2.2.2.2.2.2.2.2.2.1 x.2.1.2.2.2.2.2.2.2.2.2.2.2.2.2.2.2.2.1 x.2.1.2.2.2.2.2.2.2.2.2.2.2.2.2.2.2.2.2.1 e).symm) 17
theorem F65.jl7 {R : Type} (k : Nat) : LCs Proofs.Tryz.prog F65.C (joinOf Proofs.Tryz.f46 7) (F65.J7 (R := R) k) :=
  once_sound mixed (tisOk tisT) F65.env (k := k) (L := [F65.J10 k, F65.J9 k, F65.J8 k]) (n := 0) (inn := (F65.J7 (R := R) k).inn) (outs := (F65.J7 (R := R) k).outs) (lokConsJ 10 (lc := F65.J10 k) (c0 := joinOf Proofs.Tryz.f46 10) (by kernel_rfl) (by kernel_rfl) (F65.jl10 k) (lokConsJ 9 (lc := F65.J9 k) (c0 := joinOf Proofs.Tryz.f46 9) (by kernel_rfl) (by kernel_rfl) (F65.jl9 k) (lokConsJ 8 (lc := F65.J8 k) (c0 := joinOf Proofs.Tryz.f46 8) (by kernel_rfl) (by kernel_rfl) (F65.jl8 k) lokNil))) (fun x e => F65.join7 k x.1.1 x.1.2.1 x.1.2.2.1 x.2.1.1 x.2.1.2.1 x.2.1.2.2.1 x.2.1.2.2.2.1 x.2.1.2.2.2.2.1 x.2.1.2.2.2.2.2.1 x.2.1.2.2.2.2.2.2.1 x.2.1.2.2.2.2.2.2.2.1 x.2.1.2.2.2.2.2.2.2.2.1 x.2.1.2.2.2.2.2.2.2.2.2.1 x.2.1.2.2.2.2.2.2.2.2.2.2.1 x.2.1.2.2.2.2.2.2.2.2.2.2.2.1 x.2.1.2.2.2.2.2.2.2.2.2.2.2.2.1 x.2.1.2.2.2.2.2.2.2.2.2.2.2.2.2.1 x.2.1.2.2.2.2.2.2.2.2.2.2.2.2.2.2.1 x.2.1.2.2.2.2.2.2.2.2.2.2.2.2.2.2.2.1 x.2.1.2.2.2.2.2.2.2.2.2.2.2.2.2.2.2.2.1 x.2.1.2.2.2.2.2.2.2.2.2.2.2.2.2.2.2.2.2.1 (fun _ => e (.inl ((), ()))) (fun u0 => e (.inr (((u0, ()), ()))))) (fun x e => (F65.q7 k x.1.1 x.1.2.1 x.1.2.2.1 x.2.1.1 x.2.1.2.1 x.2.1.2.2.1 x.2.1.2.2.2.1 x.2.1.2.2.2.2.1 x.2.1.2.2.2.2.2.1 x.2.1.2.2.2.2.2.2.1 x.2.1.2.2.2.2.2.2.2.1 x.2.1.2.2.2.2.2.2.2.2.1 x.2.1.2.2.2.2.2.2.2.2.2.1 x.2.1.2.2.2.2.2.2.2.2.2.2.1 x.2.1.2.2.2.2.2.2.2.2.2.2.2.1 x.2.1.2.2.2.2.2.2.2.2.2.2.2.2.1 x.2.1.2.2.2.2.2.2.2.2.2.2.2.2.2.1 x.2.1.2.2.2.2.2.2.2.2.2.2.2.2.2.2.1 x.2.1.2.2.2.2.2.2.2.2.2.2.2.2.2.2.2.1 x.2.1.2.2.2.2.2.2.2.2.2.2.2.2.2.2.2.2.1 x.2.1.2.2.2.2.2.2.2.2.2.2.2.2.2.2.2.2.2.1 e).symm) 15
theorem F65.jl6 {R : Type} (k : Nat) : LCs Proofs.Tryz.prog F65.C (joinOf Proofs.Tryz.f46 6) (F65.J6 (R := R) k) :=
  once_sound mixed (tisOk tisT) F65.env (k := k) (L := [F65.J10 k, F65.J9 k, F65.J8 k, F65.J7 k]) (n := 0) (inn := (F65.J6 (R := R) k).inn) (outs := (F65.J6 (R := R) k).outs) (lokConsJ 10 (lc := F65.J10 k) (c0 := joinOf Proofs.Tryz.f46 10) (by kernel_rfl) (by kernel_rfl) (F65.jl10 k) (lokConsJ 9 (lc := F65.J9 k) (c0 := joinOf Proofs.Tryz.f46 9) (by kernel_rfl) (by kernel_rfl) (F65.jl9 k) (lokConsJ 8 (lc := F65.J8 k) (c0 := joinOf Proofs.Tryz.f46 8) (by kernel_rfl) (by kernel_rfl) (F65.jl8 k) (lokConsJ 7 (lc := F65.J7 k) (c0 := joinOf Proofs.Tryz.f46 7) (by kernel_rfl) (by kernel_rfl) (F65.jl7 k) lokNil)))) (fun x e => F65.join6 k x.1.1 x.1.2.1 x.1.2.2.1 x.1.2.2.2.1 x.2.1.1 x.2.1.2.1 x.2.1.2.2.1 x.2.1.2.2.2.1 x.2.1.2.2.2.2.1 x.2.1.2.2.2.2.2.1 x.2.1.2.2.2.2.2.2.1 x.2.1.2.2.2.2.2.2.2.1 x.2.1.2.2.2.2.2.2.2.2.1 x.2.1.2.2.2.2.2.2.2.2.2.1 x.2.1.2.2.2.2.2.2.2.2.2.2.1 x.2.1.2.2.2.2.2.2.2.2.2.2.2.1 x.2.1.2.2.2.2.2.2.2.2.2.2.2.2.1 x.2.1.2.2.2.2.2.2.2.2.2.2.2.2.2.1 x.2.1.2.2.2.2.2.2.2.2.2.2.2.2.2.2.1 x.2.1.2.2.2.2.2.2.2.2.2.2.2.2.2.2.2.1 x.2.1.2.2.2.2.2.2.2.2.2.2.2.2.2.2.2.2.1 x.2.1.2.2.2.2.2.2.2.2.2.2.2.2.2.2.2.2.2.1 (fun _ => e (.inl ((), ()))) (fun u0 => e (.inr (((u0, ()), ()))))) (fun x e => (F65.q6 k x.1.1 x.1.2.1 x.1.2.2.1 x.1.2.2.2.1 x.2.1.1 x.2.1.2.1 x.2.1.2.2.1 x.2.1.2.2.2.1 x.2.1.2.2.2.2.1 x.2.1.2.2.2.2.2.1 x.2.1.2.2.2.2.2.2.1 x.2.1.2.2.2.2.2.2.2.1 x.2.1.2.2.2.2.2.2.2.2.1 x.2.1.2.2.2.2.2.2.2.2.2.1 x.2.1.2.2.2.2.2.2.2.2.2.2.1 x.2.1.2.2.2.2.2.2.2.2.2.2.2.1 x.2.1.2.2.2.2.2.2.2.2.2.2.2.2.1 x.2.1.2.2.2.2.2.2.2.2.2.2.2.2.2.1 x.2.1.2.2.2.2.2.2.2.2.2.2.2.2.2.2.1 x.2.1.2.2.2.2.2.2.2.2.2.2.2.2.2.2.2.1 x.2.1.2.2.2.2.2.2.2.2.2.2.2.2.2.2.2.2.1 x.2.1.2.2.2.2.2.2.2.2.2.2.2.2.2.2.2.2.2.1 e).symm) 13
theorem F65.jl3 {R : Type} (k : Nat) : LCs Proofs.Tryz.prog F65.C (joinOf Proofs.Tryz.f46 3) (F65.J3 (R := R) k) :=
  once_sound mixed (tisOk tisT) F65.env (k := k) (L := [F65.J10 k, F65.J9 k, F65.J8 k, F65.J7 k, F65.J6 k]) (n := 0) (inn := (F65.J3 (R := R) k).inn) (outs := (F65.J3 (R := R) k).outs) (lokConsJ 10 (lc := F65.J10 k) (c0 := joinOf Proofs.Tryz.f46 10) (by kernel_rfl) (by kernel_rfl) (F65.jl10 k) (lokConsJ 9 (lc := F65.J9 k) (c0 := joinOf Proofs.Tryz.f46 9) (by kernel_rfl) (by kernel_rfl) (F65.jl9 k) (lokConsJ 8 (lc := F65.J8 k) (c0 := joinOf Proofs.Tryz.f46 8) (by kernel_rfl) (by kernel_rfl) (F65.jl8 k) (lokConsJ 7 (lc := F65.J7 k) (c0 := joinOf Proofs.Tryz.f46 7) (by kernel_rfl) (by kernel_rfl) (F65.jl7 k) (lokConsJ 6 (lc := F65.J6 k) (c0 := joinOf Proofs.Tryz.f46 6) (by kernel_rfl) (by kernel_rfl) (F65.jl6 k) lokNil))))) (fun x e => F65.join3 k x.2.1.1 x.2.1.2.1 x.2.1.2.2.1 x.2.1.2.2.2.1 x.2.1.2.2.2.2.1 x.2.1.2.2.2.2.2.1 x.2.1.2.2.2.2.2.2.1 x.2.1.2.2.2.2.2.2.2.1 x.2.1.2.2.2.2.2.2.2.2.1 x.2.1.2.2.2.2.2.2.2.2.2.1 x.2.1.2.2.2.2.2.2.2.2.2.2.1 x.2.1.2.2.2.2.2.2.2.2.2.2.2.1 x.2.1.2.2.2.2.2.2.2.2.2.2.2.2.1 x.2.1.2.2.2.2.2.2.2.2.2.2.2.2.2.1 x.2.1.2.2.2.2.2.2.2.2.2.2.2.2.2.2.1 x.2.1.2.2.2.2.2.2.2.2.2.2.2.2.2.2.2.1 x.2.1.2.2.2.2.2.2.2.2.2.2.2.2.2.2.2.2.1 x.2.1.2.2.2.2.2.2.2.2.2.2.2.2.2.2.2.2.2.1 (fun u0 => e ((u0, ()), ()))) (fun x e => (F65.q3 k x.2.1.1 x.2.1.2.1 x.2.1.2.2.1 x.2.1.2.2.2.1 x.2.1.2.2.2.2.1 x.2.1.2.2.2.2.2.1 x.2.1.2.2.2.2.2.2.1 x.2.1.2.2.2.2.2.2.2.1 x.2.1.2.2.2.2.2.2.2.2.1 x.2.1.2.2.2.2.2.2.2.2.2.1 x.2.1.2.2.2.2.2.2.2.2.2.2.1 x.2.1.2.2.2.2.2.2.2.2.2.2.2.1 x.2.1.2.2.2.2.2.2.2.2.2.2.2.2.1 x.2.1.2.2.2.2.2.2.2.2.2.2.2.2.2.1 x.2.1.2.2.2.2.2.2.2.2.2.2.2.2.2.2.1 x.2.1.2.2.2.2.2.2.2.2.2.2.2.2.2.2.2.1 x.2.1.2.2.2.2.2.2.2.2.2.2.2.2.2.2.2.2.1 x.2.1.2.2.2.2.2.2.2.2.2.2.2.2.2.2.2.2.2.1 e).symm) 7
theorem F65.snd : FSound Proofs.Tryz.prog F65.S :=
  fun_sound (C := F65.C) (S := F65.S) (fn := Proofs.Tryz.f46) (c := bodyOf Proofs.Tryz.f46) mixed (tisOk tisT) F65.env Proofs.Tryz.func46 (by kernel_rfl) (by kernel_rfl) (L := fun k => [F65.J10 k, F65.J9 k, F65.J8 k, F65.J7 k, F65.J6 k, F65.J3 k]) (fun k => (lokConsJ 10 (lc := F65.J10 k) (c0 := joinOf Proofs.Tryz.f46 10) (by kernel_rfl) (by kernel_rfl) (F65.jl10 k) (lokConsJ 9 (lc := F65.J9 k) (c0 := joinOf Proofs.Tryz.f46 9) (by kernel_rfl) (by kernel_rfl) (F65.jl9 k) (lokConsJ 8 (lc := F65.J8 k) (c0 := joinOf Proofs.Tryz.f46 8) (by kernel_rfl) (by kernel_rfl) (F65.jl8 k) (lokConsJ 7 (lc := F65.J7 k) (c0 := joinOf Proofs.Tryz.f46 7) (by kernel_rfl) (by kernel_rfl) (F65.jl7 k) (lokConsJ 6 (lc := F65.J6 k) (c0 := joinOf Proofs.Tryz.f46 6) (by kernel_rfl) (by kernel_rfl) (F65.jl6 k) (lokConsJ 3 (lc := F65.J3 k) (c0 := joinOf Proofs.Tryz.f46 3) (by kernel_rfl) (by kernel_rfl) (F65.jl3 k) lokNil))))))) (fun k x => F65.eq k x.1)

theorem F66.env : EnvOk Proofs.Tryz.prog F66.C := show EnvL Proofs.Tryz.prog [F61.S] from (envCons F61.snd envNil)
theorem F66.snd : FSound Proofs.Tryz.prog F66.S :=
  fun_sound (C := F66.C) (S := F66.S) (fn := Proofs.Tryz.f47) (c := bodyOf Proofs.Tryz.f47) mixed (tisOk tisT) F66.env Proofs.Tryz.func47 (by kernel_rfl) (by kernel_rfl) (L := fun k => []) (fun k => lokNil) (fun k x => F66.eq k x.1)

theorem F67.env : EnvOk Proofs.Tryz.prog F67.C := show EnvL Proofs.Tryz.prog [] from envNil
theorem F67.snd : FSound Proofs.Tryz.prog F67.S :=
  fun_sound (C := F67.C) (S := F67.S) (fn := Proofs.Tryz.f49) (c := bodyOf Proofs.Tryz.f49) mixed (tisOk tisT) F67.env Proofs.Tryz.func49 (by kernel_rfl) (by kernel_rfl) (L := fun k => []) (fun k => lokNil) (fun k x => F67.eq k x.1 x.2.1)

theorem F68.env : EnvOk Proofs.Tryz.prog F68.C := show EnvL Proofs.Tryz.prog [] from envNil
theorem F68.snd : FSound Proofs.Tryz.prog F68.S :=
  fun_sound (C := F68.C) (S := F68.S) (fn := Proofs.Tryz.f99) (c := bodyOf Proofs.Tryz.f99) mixed (tisOk tisT) F68.env Proofs.Tryz.func99 (by kernel_rfl) (by kernel_rfl) (L := fun k => []) (fun k => lokNil) (fun k x => F68.eq k x.1)

theorem F69.env : EnvOk Proofs.Tryz.prog F69.C := show EnvL Proofs.Tryz.prog [] from envNil
theorem F69.snd : FSound Proofs.Tryz.prog F69.S :=
  fun_sound (C := F69.C) (S := F69.S) (fn := Proofs.Tryz.f116) (c := bodyOf Proofs.Tryz.f116) mixed (tisOk tisT) F69.env Proofs.Tryz.func116 (by kernel_rfl) (by kernel_rfl) (L := fun k => []) (fun k => lokNil) (fun k x => F69.eq k x.1)

theorem F70.env : EnvOk Proofs.Tryz.prog F70.C := show EnvL Proofs.Tryz.prog [F69.S] from (envCons F69.snd envNil)
theorem F70.l0 {R : Type} (k : Nat) : LCs Proofs.Tryz.prog F70.C (.loop (loopOf Proofs.Tryz.f100 0)) (F70.L0 (R := R) k) :=
  loop_sound mixed (tisOk tisT) F70.env (k := k) (L := []) (n := 1) (inn := (F70.L0 (R := R) k).inn) (outs := (F70.L0 (R := R) k).outs) lokNil (fun j x e => F70.loop0 k j x.1.1 x.1.2.1 (fun u0 => e (.inl ((u0, ()), ()))) (fun _ => e (.inr (((), ()))))) (fun _ _ => rfl) (fun j x e => (F70.r0 k j x.1.1 x.1.2.1 e).symm) 0 k
theorem F70.snd : FSound Proofs.Tryz.prog F70.S :=
  fun_sound (C := F70.C) (S := F70.S) (fn := Proofs.Tryz.f100) (c := bodyOf Proofs.Tryz.f100) mixed (tisOk tisT) F70.env Proofs.Tryz.func100 (by kernel_rfl) (by kernel_rfl) (L := fun k => [F70.L0 k]) (fun k => (lokCons 0 (lc := F70.L0 k) (c0 := loopOf Proofs.Tryz.f100 0) (by kernel_rfl) (by kernel_rfl) (F70.l0 k) lokNil)) (fun k x => F70.eq k x.1)

theorem F71.env : EnvOk Proofs.Tryz.prog F71.C := show EnvL Proofs.Tryz.prog [] from envNil
theorem F71.snd : FSound Proofs.Tryz.prog F71.S :=
  fun_sound (C := F71.C) (S := F71.S) (fn := Proofs.Tryz.f101) (c := bodyOf Proofs.Tryz.f101) mixed (tisOk tisT) F71.env Proofs.Tryz.func101 (by kernel_rfl) (by kernel_rfl) (L := fun k => []) (fun k => lokNil) (fun k x => F71.eq k x.1)

theorem F72.env : EnvOk Proofs.Tryz.prog F72.C := show EnvL Proofs.Tryz.prog [] from envNil
theorem F72.snd : FSound Proofs.Tryz.prog F72.S :=
  fun_sound (C := F72.C) (S := F72.S) (fn := Proofs.Tryz.f102) (c := bodyOf Proofs.Tryz.f102) mixed (tisOk tisT) F72.env Proofs.Tryz.func102 (by kernel_rfl) (by kernel_rfl) (L := fun k => []) (fun k => lokNil) (fun k x => F72.eq k x.1)

theorem F73.env : EnvOk Proofs.Tryz.prog F73.C := show EnvL Proofs.Tryz.prog [F70.S] from (envCons F70.snd envNil)
theorem F73.snd : FSound Proofs.Tryz.prog F73.S :=
  fun_sound (C := F73.C) (S := F73.S) (fn := Proofs.Tryz.f117) (c := bodyOf Proofs.Tryz.f117) mixed (tisOk tisT) F73.env Proofs.Tryz.func117 (by kernel_rfl) (by kernel_rfl) (L := fun k => []) (fun k => lokNil) (fun k x => F73.eq k x.1)

theorem F74.env : EnvOk Proofs.Tryz.prog F74.C := show EnvL Proofs.Tryz.prog [] from envNil
theorem F74.snd : FSound Proofs.Tryz.prog F74.S :=
  fun_sound (C := F74.C) (S := F74.S) (fn := Proofs.Tryz.f112) (c := bodyOf Proofs.Tryz.f112) mixed (tisOk tisT) F74.env Proofs.Tryz.func112 (by kernel_rfl) (by kernel_rfl) (L := fun k => []) (fun k => lokNil) (fun k x => F74.eq k x.1)

theorem F75.env : EnvOk Proofs.Tryz.prog F75.C := show EnvL Proofs.Tryz.prog [F73.S, F74.S] from (envCons F73.snd (envCons F74.snd envNil))
theorem F75.l0 {R : Type} (k : Nat) : LCs Proofs.Tryz.prog F75.C (.loop (loopOf Proofs.Tryz.f103 0)) (F75.L0 (R := R) k) :=
  loop_sound mixed (tisOk tisT) F75.env (k := k) (L := []) (n := 1) (inn := (F75.L0 (R := R) k).inn) (outs := (F75.L0 (R := R) k).outs) lokNil (fun j x e => F75.loop0 k j x.1.1 x.1.2.1 x.1.2.2.1 x.1.2.2.2.1 x.1.2.2.2.2.1 x.1.2.2.2.2.2.1 (fun u0 u1 => e ((u0, u1, ()), ()))) (fun _ _ => rfl) (fun j x e => (F75.r0 k j x.1.1 x.1.2.1 x.1.2.2.1 x.1.2.2.2.1 x.1.2.2.2.2.1 x.1.2.2.2.2.2.1 e).symm) 0 k
theorem F75.snd : FSound Proofs.Tryz.prog F75.S :=
  fun_sound (C := F75.C) (S := F75.S) (fn := Proofs.Tryz.f103) (c := bodyOf Proofs.Tryz.f103) mixed (tisOk tisT) F75.env Proofs.Tryz.func103 (by kernel_rfl) (by kernel_rfl) (L := fun k => [F75.L0 k]) (fun k => (lokCons 0 (lc := F75.L0 k) (c0 := loopOf Proofs.Tryz.f103 0) (by kernel_rfl) (by kernel_rfl) (F75.l0 k) lokNil)) (fun k x => F75.eq k x.1 x.2.1 x.2.2.1)

theorem F76.env : EnvOk Proofs.Tryz.prog F76.C := show EnvL Proofs.Tryz.prog [F68.S, F70.S, F71.S, F72.S, F75.S] from (envCons F68.snd (envCons F70.snd (envCons F71.snd (envCons F72.snd (envCons F75.snd envNil)))))
theorem F76.snd : FSound Proofs.Tryz.prog F76.S :=
  fun_sound (C := F76.C) (S := F76.S) (fn := Proofs.Tryz.f78) (c := bodyOf Proofs.Tryz.f78) mixed (tisOk tisT) F76.env Proofs.Tryz.func78 (by kernel_rfl) (by kernel_rfl) (L := fun k => []) (fun k => lokNil) (fun k x => F76.eq k x.1 x.2.1 x.2.2.1 x.2.2.2.1 x.2.2.2.2.1 x.2.2.2.2.2.1)

theorem F77.env : EnvOk Proofs.Tryz.prog F77.C := show EnvL Proofs.Tryz.prog [F74.S, F71.S] from (envCons F74.snd (envCons F71.snd envNil))
theorem F77.snd : FSound Proofs.Tryz.prog F77.S :=
  fun_sound (C := F77.C) (S := F77.S) (fn := Proofs.Tryz.f89) (c := bodyOf Proofs.Tryz.f89) mixed (tisOk tisT) F77.env Proofs.Tryz.func89 (by kernel_rfl) (by kernel_rfl) (L := fun k => []) (fun k => lokNil) (fun k x => F77.eq k x.1 x.2.1)

theorem F78.env : EnvOk Proofs.Tryz.prog F78.C := show EnvL Proofs.Tryz.prog [F77.S] from (envCons F77.snd envNil)
theorem F78.snd : FSound Proofs.Tryz.prog F78.S :=
  fun_sound (C := F78.C) (S := F78.S) (fn := Proofs.Tryz.f104) (c := bodyOf Proofs.Tryz.f104) mixed (tisOk tisT) F78.env Proofs.Tryz.func104 (by kernel_rfl) (by kernel_rfl) (L := fun k => []) (fun k => lokNil) (fun k x => F78.eq k x.1 x.2.1 x.2.2.1)

theorem F79.env : EnvOk Proofs.Tryz.prog F79.C := show EnvL Proofs.Tryz.prog [F68.S, F70.S, F71.S, F72.S, F75.S, F78.S] from (envCons F68.snd (envCons F70.snd (envCons F71.snd (envCons F72.snd (envCons F75.snd (envCons F78.snd envNil))))))
theorem F79.jl7 {R : Type} (k : Nat) : LCs Proofs.Tryz.prog F79.C (joinOf Proofs.Tryz.f79 7) (F79.J7 (R := R) k) :=
  once_sound mixed (tisOk tisT) F79.env (k := k) (L := []) (n := 0) (inn := (F79.J7 (R := R) k).inn) (outs := (F79.J7 (R := R) k).outs) lokNil (fun x e => F79.join7 k x.1.1 x.1.2.1 x.1.2.2.1 x.1.2.2.2.1 (fun u0 => e ((u0, ()), ()))) (fun x e => (F79.q7 k x.1.1 x.1.2.1 x.1.2.2.1 x.1.2.2.2.1 e).symm) 15
theorem F79.snd : FSound Proofs.Tryz.prog F79.S :=
  fun_sound (C := F79.C) (S := F79.S) (fn := Proofs.Tryz.f79) (c := bodyOf Proofs.Tryz.f79) mixed (tisOk tisT) F79.env Proofs.Tryz.func79 (by kernel_rfl) (by kernel_rfl) (L := fun k => [F79.J7 k]) (fun k => (lokConsJ 7 (lc := F79.J7 k) (c0 := joinOf Proofs.Tryz.f79 7) (by kernel_rfl) (by kernel_rfl) (F79.jl7 k) lokNil)) (fun k x => F79.eq k x.1 x.2.1 x.2.2.1 x.2.2.2.1 x.2.2.2.2.1 x.2.2.2.2.2.1)

theorem F80.env : EnvOk Proofs.Tryz.prog F80.C := show EnvL Proofs.Tryz.prog [] from envNil
theorem F80.snd : FSound Proofs.Tryz.prog F80.S :=
  fun_sound (C := F80.C) (S := F80.S) (fn := Proofs.Tryz.f118) (c := bodyOf Proofs.Tryz.f118) mixed (tisOk tisT) F80.env Proofs.Tryz.func118 (by kernel_rfl) (by kernel_rfl) (L := fun k => []) (fun k => lokNil) (fun k x => F80.eq k x.1)

theorem F81.env : EnvOk Proofs.Tryz.prog F81.C := show EnvL Proofs.Tryz.prog [F13.S, F70.S, F80.S] from (envCons F13.snd (envCons F70.snd (envCons F80.snd envNil)))
theorem F81.l0 {R : Type} (k : Nat) : LCs Proofs.Tryz.prog F81.C (.loop (loopOf Proofs.Tryz.f105 0)) (F81.L0 (R := R) k) :=
  loop_sound mixed (tisOk tisT) F81.env (k := k) (L := []) (n := 1) (inn := (F81.L0 (R := R) k).inn) (outs := (F81.L0 (R := R) k).outs) lokNil (fun j x e => F81.loop0 k j x.1.1 x.1.2.1 (fun u0 => e (.inl ((u0, ()), ()))) (fun _ => e (.inr (((), ()))))) (fun _ _ => rfl) (fun j x e => (F81.r0 k j x.1.1 x.1.2.1 e).symm) 0 k
theorem F81.snd : FSound Proofs.Tryz.prog F81.S :=
  fun_sound (C := F81.C) (S := F81.S) (fn := Proofs.Tryz.f105) (c := bodyOf Proofs.Tryz.f105) mixed (tisOk tisT) F81.env Proofs.Tryz.func105 (by kernel_rfl) (by kernel_rfl) (L := fun k => [F81.L0 k]) (fun k => (lokCons 0 (lc := F81.L0 k) (c0 := loopOf Proofs.Tryz.f105 0) (by kernel_rfl) (by kernel_rfl) (F81.l0 k) lokNil)) (fun k x => F81.eq k x.1 x.2.1)

theorem F82.env : EnvOk Proofs.Tryz.prog F82.C := show EnvL Proofs.Tryz.prog [F81.S, F71.S, F72.S, F75.S, F78.S] from (envCons F81.snd (envCons F71.snd (envCons F72.snd (envCons F75.snd (envCons F78.snd envNil)))))
theorem F82.l0 {R : Type} (k : Nat) : LCs Proofs.Tryz.prog F82.C (.loop (loopOf Proofs.Tryz.f80 0)) (F82.L0 (R := R) k) :=
  loop_sound mixed (tisOk tisT) F82.env (k := k) (L := []) (n := 1) (inn := (F82.L0 (R := R) k).inn) (outs := (F82.L0 (R := R) k).outs) lokNil (fun j x e => F82.loop0 k j x.1.1 x.1.2.1 x.1.2.2.1 x.1.2.2.2.1 x.1.2.2.2.2.1 x.2.1.1 x.2.1.2.1 x.2.1.2.2.1 (fun u0 => e (.inl ((u0, ()), ()))) (fun u0 u1 => e (.inr (((u0, u1, ()), ()))))) (fun _ _ => rfl) (fun j x e => (F82.r0 k j x.1.1 x.1.2.1 x.1.2.2.1 x.1.2.2.2.1 x.1.2.2.2.2.1 x.2.1.1 x.2.1.2.1 x.2.1.2.2.1 e).symm) 0 k
theorem F82.l1 {R : Type} (k : Nat) : LCs Proofs.Tryz.prog F82.C (.loop (loopOf Proofs.Tryz.f80 1)) (F82.L1 (R := R) k) :=
  loop_sound mixed (tisOk tisT) F82.env (k := k) (L := []) (n := 2) (inn := (F82.L1 (R := R) k).inn) (outs := (F82.L1 (R := R) k).outs) lokNil (fun j x e => F82.loop1 k j x.1.1 x.1.2.1 x.1.2.2.1 x.1.2.2.2.1 (fun u0 => e (.inl ((u0, ()), ()))) (fun _ => e (.inr (((), ()))))) (fun _ _ => rfl) (fun j x e => (F82.r1 k j x.1.1 x.1.2.1 x.1.2.2.1 x.1.2.2.2.1 e).symm) 2 k
theorem F82.snd : FSound Proofs.Tryz.prog F82.S :=
  fun_sound (C := F82.C) (S := F82.S) (fn := Proofs.Tryz.f80) (c := bodyOf Proofs.Tryz.f80) mixed (tisOk tisT) F82.env Proofs.Tryz.func80 (by kernel_rfl) (by kernel_rfl) (L := fun k => [F82.L0 k, F82.L1 k]) (fun k => (lokCons 0 (lc := F82.L0 k) (c0 := loopOf Proofs.Tryz.f80 0) (by kernel_rfl) (by kernel_rfl) (F82.l0 k) (lokCons 1 (lc := F82.L1 k) (c0 := loopOf Proofs.Tryz.f80 1) (by kernel_rfl) (by kernel_rfl) (F82.l1 k) lokNil))) (fun k x => F82.eq k x.1 x.2.1 x.2.2.1 x.2.2.2.1 x.2.2.2.2.1 x.2.2.2.2.2.1)

theorem F83.env : EnvOk Proofs.Tryz.prog F83.C := show EnvL Proofs.Tryz.prog [] from envNil
theorem F83.snd : FSound Proofs.Tryz.prog F83.S :=
  fun_sound (C := F83.C) (S := F83.S) (fn := Proofs.Tryz.f81) (c := bodyOf Proofs.Tryz.f81) mixed (tisOk tisT) F83.env Proofs.Tryz.func81 (by kernel_rfl) (by kernel_rfl) (L := fun k => []) (fun k => lokNil) (fun k x => F83.eq k x.1)

theorem F84.env : EnvOk Proofs.Tryz.prog F84.C := show EnvL Proofs.Tryz.prog [] from envNil
theorem F84.snd : FSound Proofs.Tryz.prog F84.S :=
  fun_sound (C := F84.C) (S := F84.S) (fn := Proofs.Tryz.f106) (c := bodyOf Proofs.Tryz.f106) mixed (tisOk tisT) F84.env Proofs.Tryz.func106 (by kernel_rfl) (by kernel_rfl) (L := fun k => []) (fun k => lokNil) (fun k x => F84.eq k x.1 x.2.1 x.2.2.1)

theorem F85.env : EnvOk Proofs.Tryz.prog F85.C := show EnvL Proofs.Tryz.prog [F84.S] from (envCons F84.snd envNil)
theorem F85.snd : FSound Proofs.Tryz.prog F85.S :=
  fun_sound (C := F85.C) (S := F85.S) (fn := Proofs.Tryz.f82) (c := bodyOf Proofs.Tryz.f82) mixed (tisOk tisT) F85.env Proofs.Tryz.func82 (by kernel_rfl) (by kernel_rfl) (L := fun k => []) (fun k => lokNil) (fun k x => F85.eq k x.1)

theorem F86.env : EnvOk Proofs.Tryz.prog F86.C := show EnvL Proofs.Tryz.prog [] from envNil
theorem F86.snd : FSound Proofs.Tryz.prog F86.S :=
  fun_sound (C := F86.C) (S := F86.S) (fn := Proofs.Tryz.f113) (c := bodyOf Proofs.Tryz.f113) mixed (tisOk tisT) F86.env Proofs.Tryz.func113 (by kernel_rfl) (by kernel_rfl) (L := fun k => []) (fun k => lokNil) (fun k x => F86.eq k x.1)

theorem F87.env : EnvOk Proofs.Tryz.prog F87.C := show EnvL Proofs.Tryz.prog [F71.S] from (envCons F71.snd envNil)
theorem F87.snd : FSound Proofs.Tryz.prog F87.S :=
  fun_sound (C := F87.C) (S := F87.S) (fn := Proofs.Tryz.f119) (c := bodyOf Proofs.Tryz.f119) mixed (tisOk tisT) F87.env Proofs.Tryz.func119 (by kernel_rfl) (by kernel_rfl) (L := fun k => []) (fun k => lokNil) (fun k x => F87.eq k x.1)

theorem F88.env : EnvOk Proofs.Tryz.prog F88.C := show EnvL Proofs.Tryz.prog [F86.S, F87.S] from (envCons F86.snd (envCons F87.snd envNil))
theorem F88.l0 {R : Type} (k : Nat) : LCs Proofs.Tryz.prog F88.C (.loop (loopOf Proofs.Tryz.f107 0)) (F88.L0 (R := R) k) :=
  loop_sound mixed (tisOk tisT) F88.env (k := k) (L := []) (n := 1) (inn := (F88.L0 (R := R) k).inn) (outs := (F88.L0 (R := R) k).outs) lokNil (fun j x e => F88.loop0 k j x.1.1 x.1.2.1 x.1.2.2.1 x.1.2.2.2.1 (fun u0 => e (.inl ((u0, ()), ()))) (fun u0 => e (.inr (((u0, ()), ()))))) (fun _ _ => rfl) (fun j x e => (F88.r0 k j x.1.1 x.1.2.1 x.1.2.2.1 x.1.2.2.2.1 e).symm) 0 k
theorem F88.snd : FSound Proofs.Tryz.prog F88.S :=
  fun_sound (C := F88.C) (S := F88.S) (fn := Proofs.Tryz.f107) (c := bodyOf Proofs.Tryz.f107) mixed (tisOk tisT) F88.env Proofs.Tryz.func107 (by kernel_rfl) (by kernel_rfl) (L := fun k => [F88.L0 k]) (fun k => (lokCons 0 (lc := F88.L0 k) (c0 := loopOf Proofs.Tryz.f107 0) (by kernel_rfl) (by kernel_rfl) (F88.l0 k) lokNil)) (fun k x => F88.eq k x.1 x.2.1)

theorem F89.env : EnvOk Proofs.Tryz.prog F89.C := show EnvL Proofs.Tryz.prog [] from envNil
theorem F89.snd : FSound Proofs.Tryz.prog F89.S :=
  fun_sound (C := F89.C) (S := F89.S) (fn := Proofs.Tryz.f124) (c := bodyOf Proofs.Tryz.f124) mixed (tisOk tisT) F89.env Proofs.Tryz.func124 (by kernel_rfl) (by kernel_rfl) (L := fun k => []) (fun k => lokNil) (fun k x => F89.eq k x.1)

theorem F90.env : EnvOk Proofs.Tryz.prog F90.C := show EnvL Proofs.Tryz.prog [] from envNil
theorem F90.snd : FSound Proofs.Tryz.prog F90.S :=
  fun_sound (C := F90.C) (S := F90.S) (fn := Proofs.Tryz.f123) (c := bodyOf Proofs.Tryz.f123) mixed (tisOk tisT) F90.env Proofs.Tryz.func123 (by kernel_rfl) (by kernel_rfl) (L := fun k => []) (fun k => lokNil) (fun k x => F90.eq k x.1 x.2.1)

theorem F91.env : EnvOk Proofs.Tryz.prog F91.C := show EnvL Proofs.Tryz.prog [F90.S] from (envCons F90.snd envNil)
theorem F91.snd : FSound Proofs.Tryz.prog F91.S :=
  fun_sound (C := F91.C) (S := F91.S) (fn := Proofs.Tryz.f126) (c := bodyOf Proofs.Tryz.f126) mixed (tisOk tisT) F91.env Proofs.Tryz.func126 (by kernel_rfl) (by kernel_rfl) (L := fun k => []) (fun k => lokNil) (fun k x => F91.eq k x.1 x.2.1)

theorem F92.env : EnvOk Proofs.Tryz.prog F92.C := show EnvL Proofs.Tryz.prog [F89.S, F74.S, F91.S, F78.S] from (envCons F89.snd (envCons F74.snd (envCons F91.snd (envCons F78.snd envNil))))
theorem F92.snd : FSound Proofs.Tryz.prog F92.S :=
  fun_sound (C := F92.C) (S := F92.S) (fn := Proofs.Tryz.f120) (c := bodyOf Proofs.Tryz.f120) mixed (tisOk tisT) F92.env Proofs.Tryz.func120 (by kernel_rfl) (by kernel_rfl) (L := fun k => []) (fun k => lokNil) (fun k x => F92.eq k x.1 x.2.1 x.2.2.1 x.2.2.2.1 x.2.2.2.2.1)

theorem F93.env : EnvOk Proofs.Tryz.prog F93.C := show EnvL Proofs.Tryz.prog [F88.S, F72.S, F86.S, F92.S] from (envCons F88.snd (envCons F72.snd (envCons F86.snd (envCons F92.snd envNil))))
theorem F93.l0 {R : Type} (k : Nat) : LCs Proofs.Tryz.prog F93.C (.loop (loopOf Proofs.Tryz.f108 0)) (F93.L0 (R := R) k) :=
  loop_sound mixed (tisOk tisT) F93.env (k := k) (L := []) (n := 1) (inn := (F93.L0 (R := R) k).inn) (outs := (F93.L0 (R := R) k).outs) lokNil (fun j x e => F93.loop0 k j x.1.1 x.1.2.1 x.1.2.2.1 x.1.2.2.2.1 x.2.1 (fun u0 u1 u2 => e (.inl ((u0, u1, u2, ()), ()))) (fun u0 => e (.inr (((), (u0, ())))))) (fun _ _ => rfl) (fun j x e => (F93.r0 k j x.1.1 x.1.2.1 x.1.2.2.1 x.1.2.2.2.1 x.2.1 e).symm) 0 k
theorem F93.snd : FSound Proofs.Tryz.prog F93.S :=
  fun_sound (C := F93.C) (S := F93.S) (fn := Proofs.Tryz.f108) (c := bodyOf Proofs.Tryz.f108) mixed (tisOk tisT) F93.env Proofs.Tryz.func108 (by kernel_rfl) (by kernel_rfl) (L := fun k => [F93.L0 k]) (fun k => (lokCons 0 (lc := F93.L0 k) (c0 := loopOf Proofs.Tryz.f108 0) (by kernel_rfl) (by kernel_rfl) (F93.l0 k) lokNil)) (fun k x => F93.eq k x.1 x.2.1 x.2.2.1)

theorem F94.env : EnvOk Proofs.Tryz.prog F94.C := show EnvL Proofs.Tryz.prog [F88.S, F72.S, F93.S] from (envCons F88.snd (envCons F72.snd (envCons F93.snd envNil)))
theorem F94.snd : FSound Proofs.Tryz.prog F94.S :=
  fun_sound (C := F94.C) (S := F94.S) (fn := Proofs.Tryz.f83) (c := bodyOf Proofs.Tryz.f83) mixed (tisOk tisT) F94.env Proofs.Tryz.func83 (by kernel_rfl) (by kernel_rfl) (L := fun k => []) (fun k => lokNil) (fun k x => F94.eq k x.1 x.2.1 x.2.2.1 x.2.2.2.1 x.2.2.2.2.1)

theorem F95.env : EnvOk Proofs.Tryz.prog F95.C := show EnvL Proofs.Tryz.prog [F76.S, F79.S, F82.S, F83.S, F85.S, F63.S, F94.S] from (envCons F76.snd (envCons F79.snd (envCons F82.snd (envCons F83.snd (envCons F85.snd (envCons F63.snd (envCons F94.snd envNil)))))))
theorem F95.snd : FSound Proofs.Tryz.prog F95.S :=
  fun_sound (C := F95.C) (S := F95.S) (fn := Proofs.Tryz.f50) (c := bodyOf Proofs.Tryz.f50) mixed (tisOk tisT) F95.env Proofs.Tryz.func50 (by kernel_rfl) (by kernel_rfl) (L := fun k => []) (fun k => lokNil) (fun k x => F95.eq k x.1 x.2.1 x.2.2.1)

theorem F96.env : EnvOk Proofs.Tryz.prog F96.C := show EnvL Proofs.Tryz.prog [F65.S, F66.S, F63.S, F64.S, F67.S, F95.S] from (envCons F65.snd (envCons F66.snd (envCons F63.snd (envCons F64.snd (envCons F67.snd (envCons F95.snd envNil))))))
theorem F96.snd : FSound Proofs.Tryz.prog F96.S :=
  fun_sound (C := F96.C) (S := F96.S) (fn := Proofs.Tryz.f28) (c := bodyOf Proofs.Tryz.f28) mixed (tisOk tisT) F96.env Proofs.Tryz.func28 (by kernel_rfl) (by kernel_rfl) (L := fun k => []) (fun k => lokNil) (fun k x => F96.eq k x.1 x.2.1 x.2.2.1)

theorem F97.env : EnvOk Proofs.Tryz.prog F97.C := show EnvL Proofs.Tryz.prog [] from envNil
theorem F97.snd : FSound Proofs.Tryz.prog F97.S :=
  fun_sound (C := F97.C) (S := F97.S) (fn := Proofs.Tryz.f52) (c := bodyOf Proofs.Tryz.f52) mixed (tisOk tisT) F97.env Proofs.Tryz.func52 (by kernel_rfl) (by kernel_rfl) (L := fun k => []) (fun k => lokNil) (fun k x => F97.eq k x.1)

theorem F98.env : EnvOk Proofs.Tryz.prog F98.C := show EnvL Proofs.Tryz.prog [] from envNil
theorem F98.snd : FSound Proofs.Tryz.prog F98.S :=
  fun_sound (C := F98.C) (S := F98.S) (fn := Proofs.Tryz.f121) (c := bodyOf Proofs.Tryz.f121) mixed (tisOk tisT) F98.env Proofs.Tryz.func121 (by kernel_rfl) (by kernel_rfl) (L := fun k => []) (fun k => lokNil) (fun k x => F98.eq k x.1)

theorem F99.env : EnvOk Proofs.Tryz.prog F99.C := show EnvL Proofs.Tryz.prog [F98.S] from (envCons F98.snd envNil)
theorem F99.snd : FSound Proofs.Tryz.prog F99.S :=
  fun_sound (C := F99.C) (S := F99.S) (fn := Proofs.Tryz.f109) (c := bodyOf Proofs.Tryz.f109) mixed (tisOk tisT) F99.env Proofs.Tryz.func109 (by kernel_rfl) (by kernel_rfl) (L := fun k => []) (fun k => lokNil) (fun k x => F99.eq k x.1)

theorem F100.env : EnvOk Proofs.Tryz.prog F100.C := show EnvL Proofs.Tryz.prog [] from envNil
theorem F100.snd : FSound Proofs.Tryz.prog F100.S :=
  fun_sound (C := F100.C) (S := F100.S) (fn := Proofs.Tryz.f110) (c := bodyOf Proofs.Tryz.f110) mixed (tisOk tisT) F100.env Proofs.Tryz.func110 (by kernel_rfl) (by kernel_rfl) (L := fun k => []) (fun k => lokNil) (fun k x => F100.eq k x.1)

theorem F101.env : EnvOk Proofs.Tryz.prog F101.C := show EnvL Proofs.Tryz.prog [F99.S, F100.S] from (envCons F99.snd (envCons F100.snd envNil))
theorem F101.snd : FSound Proofs.Tryz.prog F101.S :=
  fun_sound (C := F101.C) (S := F101.S) (fn := Proofs.Tryz.f84) (c := bodyOf Proofs.Tryz.f84) mixed (tisOk tisT) F101.env Proofs.Tryz.func84 (by kernel_rfl) (by kernel_rfl) (L := fun k => []) (fun k => lokNil) (fun k x => F101.eq k x.1)

theorem F102.env : EnvOk Proofs.Tryz.prog F102.C := show EnvL Proofs.Tryz.prog [F99.S, F100.S] from (envCons F99.snd (envCons F100.snd envNil))
theorem F102.snd : FSound Proofs.Tryz.prog F102.S :=
  fun_sound (C := F102.C) (S := F102.S) (fn := Proofs.Tryz.f85) (c := bodyOf Proofs.Tryz.f85) mixed (tisOk tisT) F102.env Proofs.Tryz.func85 (by kernel_rfl) (by kernel_rfl) (L := fun k => []) (fun k => lokNil) (fun k x => F102.eq k x.1 x.2.1)

theorem F103.env : EnvOk Proofs.Tryz.prog F103.C := show EnvL Proofs.Tryz.prog [F83.S] from (envCons F83.snd envNil)
theorem F103.snd : FSound Proofs.Tryz.prog F103.S :=
  fun_sound (C := F103.C) (S := F103.S) (fn := Proofs.Tryz.f86) (c := bodyOf Proofs.Tryz.f86) mixed (tisOk tisT) F103.env Proofs.Tryz.func86 (by kernel_rfl) (by kernel_rfl) (L := fun k => []) (fun k => lokNil) (fun k x => F103.eq k x.1 x.2.1 x.2.2.1)

theorem F104.env : EnvOk Proofs.Tryz.prog F104.C := show EnvL Proofs.Tryz.prog [F62.S, F83.S, F101.S, F97.S, F102.S, F103.S] from (envCons F62.snd (envCons F83.snd (envCons F101.snd (envCons F97.snd (envCons F102.snd (envCons F103.snd envNil))))))
theorem F104.l1 {R : Type} (k : Nat) : LCs Proofs.Tryz.prog F104.C (.loop (loopOf Proofs.Tryz.f51 1)) (F104.L1 (R := R) k) :=
  loop_sound mixed (tisOk tisT) F104.env (k := k) (L := []) (n := 2) (inn := (F104.L1 (R := R) k).inn) (outs := (F104.L1 (R := R) k).outs) lokNil (fun j x e => F104.loop1 k j x.1.1 x.1.2.1 x.1.2.2.1 x.2.1.1 x.2.1.2.1 x.2.1.2.2.1 x.2.1.2.2.2.1 x.2.2.1.1 x.2.2.1.2.1 x.2.2.1.2.2.1 x.2.2.1.2.2.2.1 x.2.2.2.1 (fun u0 u1 u2 u3 u4 u5 u6 u7 u8 => e ((), ((u0, u1, u2, u3, ()), (u4, u5, u6, u7, ()), u8, ())))) (fun _ _ => rfl) (fun j x e => (F104.r1 k j x.1.1 x.1.2.1 x.1.2.2.1 x.2.1.1 x.2.1.2.1 x.2.1.2.2.1 x.2.1.2.2.2.1 x.2.2.1.1 x.2.2.1.2.1 x.2.2.1.2.2.1 x.2.2.1.2.2.2.1 x.2.2.2.1 e).symm) 2 k
theorem F104.l0 {R : Type} (k : Nat) : LCs Proofs.Tryz.prog F104.C (.loop (loopOf Proofs.Tryz.f51 0)) (F104.L0 (R := R) k) :=
  loop_sound mixed (tisOk tisT) F104.env (k := k) (L := [F104.L1 k]) (n := 1) (inn := (F104.L0 (R := R) k).inn) (outs := (F104.L0 (R := R) k).outs) (lokCons 1 (lc := F104.L1 k) (c0 := loopOf Proofs.Tryz.f51 1) (by kernel_rfl) (by kernel_rfl) (F104.l1 k) lokNil) (fun j x e => F104.loop0 k j x.1.1 x.1.2.1 x.2.1.1 x.2.1.2.1 x.2.1.2.2.1 x.2.1.2.2.2.1 x.2.2.1.1 x.2.2.1.2.1 x.2.2.1.2.2.1 x.2.2.1.2.2.2.1 x.2.2.2.1 (fun u0 => e ((), (u0, ())))) (fun _ _ => rfl) (fun j x e => (F104.r0 k j x.1.1 x.1.2.1 x.2.1.1 x.2.1.2.1 x.2.1.2.2.1 x.2.1.2.2.2.1 x.2.2.1.1 x.2.2.1.2.1 x.2.2.1.2.2.1 x.2.2.1.2.2.2.1 x.2.2.2.1 e).symm) 0 k
theorem F104.snd : FSound Proofs.Tryz.prog F104.S :=
  fun_sound (C := F104.C) (S := F104.S) (fn := Proofs.Tryz.f51) (c := bodyOf Proofs.Tryz.f51) mixed (tisOk tisT) F104.env Proofs.Tryz.func51 (by kernel_rfl) (by kernel_rfl) (L := fun k => [F104.L1 k, F104.L0 k]) (fun k => (lokCons 1 (lc := F104.L1 k) (c0 := loopOf Proofs.Tryz.f51 1) (by kernel_rfl) (by kernel_rfl) (F104.l1 k) (lokCons 0 (lc := F104.L0 k) (c0 := loopOf Proofs.Tryz.f51 0) (by kernel_rfl) (by kernel_rfl) (F104.l0 k) lokNil))) (fun k x => F104.eq k x.1 x.2.1 x.2.2.1)

theorem F105.env : EnvOk Proofs.Tryz.prog F105.C := show EnvL Proofs.Tryz.prog [F97.S, F104.S] from (envCons F97.snd (envCons F104.snd envNil))
theorem F105.snd : FSound Proofs.Tryz.prog F105.S :=
  fun_sound (C := F105.C) (S := F105.S) (fn := Proofs.Tryz.f29) (c := bodyOf Proofs.Tryz.f29) mixed (tisOk tisT) F105.env Proofs.Tryz.func29 (by kernel_rfl) (by kernel_rfl) (L := fun k => []) (fun k => lokNil) (fun k x => F105.eq k x.1 x.2.1)

theorem F106.env : EnvOk Proofs.Tryz.prog F106.C := show EnvL Proofs.Tryz.prog [F62.S, F85.S] from (envCons F62.snd (envCons F85.snd envNil))
theorem F106.snd : FSound Proofs.Tryz.prog F106.S :=
  fun_sound (C := F106.C) (S := F106.S) (fn := Proofs.Tryz.f53) (c := bodyOf Proofs.Tryz.f53) mixed (tisOk tisT) F106.env Proofs.Tryz.func53 (by kernel_rfl) (by kernel_rfl) (L := fun k => []) (fun k => lokNil) (fun k x => F106.eq k x.1)

theorem F107.env : EnvOk Proofs.Tryz.prog F107.C := show EnvL Proofs.Tryz.prog [F61.S] from (envCons F61.snd envNil)
theorem F107.snd : FSound Proofs.Tryz.prog F107.S :=
  fun_sound (C := F107.C) (S := F107.S) (fn := Proofs.Tryz.f54) (c := bodyOf Proofs.Tryz.f54) mixed (tisOk tisT) F107.env Proofs.Tryz.func54 (by kernel_rfl) (by kernel_rfl) (L := fun k => []) (fun k => lokNil) (fun k x => F107.eq k x.1 x.2.1 x.2.2.1)

theorem F108.env : EnvOk Proofs.Tryz.prog F108.C := show EnvL Proofs.Tryz.prog [F106.S, F107.S] from (envCons F106.snd (envCons F107.snd envNil))
theorem F108.l1 {R : Type} (k : Nat) : LCs Proofs.Tryz.prog F108.C (.loop (loopOf Proofs.Tryz.f30 1)) (F108.L1 (R := R) k) :=
  loop_sound mixed (tisOk tisT) F108.env (k := k) (L := []) (n := 2) (inn := (F108.L1 (R := R) k).inn) (outs := (F108.L1 (R := R) k).outs) lokNil (fun j x e => F108.loop1 k j x.1.1 x.1.2.1 x.1.2.2.1 x.2.1.1 x.2.1.2.1 x.2.1.2.2.1 x.2.1.2.2.2.1 x.2.2.1.1 x.2.2.1.2.1 x.2.2.1.2.2.1 x.2.2.1.2.2.2.1 (fun u0 u1 u2 u3 u4 u5 u6 u7 => e ((), ((u0, u1, u2, u3, ()), (u4, u5, u6, u7, ()), ())))) (fun _ _ => rfl) (fun j x e => (F108.r1 k j x.1.1 x.1.2.1 x.1.2.2.1 x.2.1.1 x.2.1.2.1 x.2.1.2.2.1 x.2.1.2.2.2.1 x.2.2.1.1 x.2.2.1.2.1 x.2.2.1.2.2.1 x.2.2.1.2.2.2.1 e).symm) 2 k
theorem F108.l0 {R : Type} (k : Nat) : LCs Proofs.Tryz.prog F108.C (.loop (loopOf Proofs.Tryz.f30 0)) (F108.L0 (R := R) k) :=
  loop_sound mixed (tisOk tisT) F108.env (k := k) (L := [F108.L1 k]) (n := 1) (inn := (F108.L0 (R := R) k).inn) (outs := (F108.L0 (R := R) k).outs) (lokCons 1 (lc := F108.L1 k) (c0 := loopOf Proofs.Tryz.f30 1) (by kernel_rfl) (by kernel_rfl) (F108.l1 k) lokNil) (fun j x e => F108.loop0 k j x.1.1 x.2.1.1 x.2.1.2.1 x.2.1.2.2.1 x.2.1.2.2.2.1 x.2.2.1.1 x.2.2.1.2.1 x.2.2.1.2.2.1 x.2.2.1.2.2.2.1 (fun u0 u1 u2 u3 => e ((), ((u0, u1, u2, u3, ()), ())))) (fun _ _ => rfl) (fun j x e => (F108.r0 k j x.1.1 x.2.1.1 x.2.1.2.1 x.2.1.2.2.1 x.2.1.2.2.2.1 x.2.2.1.1 x.2.2.1.2.1 x.2.2.1.2.2.1 x.2.2.1.2.2.2.1 e).symm) 0 k
theorem F108.snd : FSound Proofs.Tryz.prog F108.S :=
  fun_sound (C := F108.C) (S := F108.S) (fn := Proofs.Tryz.f30) (c := bodyOf Proofs.Tryz.f30) mixed (tisOk tisT) F108.env Proofs.Tryz.func30 (by kernel_rfl) (by kernel_rfl) (L := fun k => [F108.L1 k, F108.L0 k]) (fun k => (lokCons 1 (lc := F108.L1 k) (c0 := loopOf Proofs.Tryz.f30 1) (by kernel_rfl) (by kernel_rfl) (F108.l1 k) (lokCons 0 (lc := F108.L0 k) (c0 := loopOf Proofs.Tryz.f30 0) (by kernel_rfl) (by kernel_rfl) (F108.l0 k) lokNil))) (fun k x => F108.eq k x.1)

theorem F109.env : EnvOk Proofs.Tryz.prog F109.C := show EnvL Proofs.Tryz.prog [] from envNil
theorem F109.snd : FSound Proofs.Tryz.prog F109.S :=
  fun_sound (C := F109.C) (S := F109.S) (fn := Proofs.Tryz.f122) (c := bodyOf Proofs.Tryz.f122) mixed (tisOk tisT) F109.env Proofs.Tryz.func122 (by kernel_rfl) (by kernel_rfl) (L := fun k => []) (fun k => lokNil) (fun k x => F109.eq k x.1 x.2.1)

theorem F110.env : EnvOk Proofs.Tryz.prog F110.C := show EnvL Proofs.Tryz.prog [F109.S] from (envCons F109.snd envNil)
theorem F110.snd : FSound Proofs.Tryz.prog F110.S :=
  fun_sound (C := F110.C) (S := F110.S) (fn := Proofs.Tryz.f111) (c := bodyOf Proofs.Tryz.f111) mixed (tisOk tisT) F110.env Proofs.Tryz.func111 (by kernel_rfl) (by kernel_rfl) (L := fun k => []) (fun k => lokNil) (fun k x => F110.eq k x.1 x.2.1 x.2.2.1)

theorem F111.env : EnvOk Proofs.Tryz.prog F111.C := show EnvL Proofs.Tryz.prog [F110.S] from (envCons F110.snd envNil)
theorem F111.snd : FSound Proofs.Tryz.prog F111.S :=
  fun_sound (C := F111.C) (S := F111.S) (fn := Proofs.Tryz.f87) (c := bodyOf Proofs.Tryz.f87) mixed (tisOk tisT) F111.env Proofs.Tryz.func87 (by kernel_rfl) (by kernel_rfl) (L := fun k => []) (fun k => lokNil) (fun k x => F111.eq k x.1 x.2.1 x.2.2.1 x.2.2.2.1)

theorem F112.env : EnvOk Proofs.Tryz.prog F112.C := show EnvL Proofs.Tryz.prog [] from envNil
theorem F112.snd : FSound Proofs.Tryz.prog F112.S :=
  fun_sound (C := F112.C) (S := F112.S) (fn := Proofs.Tryz.f88) (c := bodyOf Proofs.Tryz.f88) mixed (tisOk tisT) F112.env Proofs.Tryz.func88 (by kernel_rfl) (by kernel_rfl) (L := fun k => []) (fun k => lokNil) (fun k x => F112.eq k x.1 x.2.1)

theorem F113.env : EnvOk Proofs.Tryz.prog F113.C := show EnvL Proofs.Tryz.prog [F62.S, F67.S, F76.S, F101.S, F97.S, F102.S, F107.S, F111.S, F77.S, F112.S] from (envCons F62.snd (envCons F67.snd (envCons F76.snd (envCons F101.snd (envCons F97.snd (envCons F102.snd (envCons F107.snd (envCons F111.snd (envCons F77.snd (envCons F112.snd envNil))))))))))
theorem F113.l2 {R : Type} (k : Nat) : LCs Proofs.Tryz.prog F113.C (.loop (loopOf Proofs.Tryz.f55 2)) (F113.L2 (R := R) k) :=
  loop_sound mixed (tisOk tisT) F113.env (k := k) (L := []) (n := 3) (inn := (F113.L2 (R := R) k).inn) (outs := (F113.L2 (R := R) k).outs) lokNil (fun j x e => F113.loop2 k j x.1.1 x.1.2.1 x.1.2.2.1 x.1.2.2.2.1 x.1.2.2.2.2.1 x.1.2.2.2.2.2.1 x.1.2.2.2.2.2.2.1 x.2.1.1 x.2.1.2.1 x.2.1.2.2.1 x.2.1.2.2.2.1 x.2.2.1.1 x.2.2.1.2.1 (fun u0 u1 u2 u3 u4 u5 u6 => e ((u0, ()), ((u1, u2, u3, u4, ()), (u5, u6, ()), ())))) (fun _ _ => rfl) (fun j x e => (F113.r2 k j x.1.1 x.1.2.1 x.1.2.2.1 x.1.2.2.2.1 x.1.2.2.2.2.1 x.1.2.2.2.2.2.1 x.1.2.2.2.2.2.2.1 x.2.1.1 x.2.1.2.1 x.2.1.2.2.1 x.2.1.2.2.2.1 x.2.2.1.1 x.2.2.1.2.1 e).symm) 4 k
theorem F113.l1 {R : Type} (k : Nat) : LCs Proofs.Tryz.prog F113.C (.loop (loopOf Proofs.Tryz.f55 1)) (F113.L1 (R := R) k) :=
  loop_sound mixed (tisOk tisT) F113.env (k := k) (L := [F113.L2 k]) (n := 2) (inn := (F113.L1 (R := R) k).inn) (outs := (F113.L1 (R := R) k).outs) (lokCons 2 (lc := F113.L2 k) (c0 := loopOf Proofs.Tryz.f55 2) (by kernel_rfl) (by kernel_rfl) (F113.l2 k) lokNil) (fun j x e => F113.loop1 k j x.1.1 x.1.2.1 x.1.2.2.1 x.1.2.2.2.1 x.1.2.2.2.2.1 x.1.2.2.2.2.2.1 x.1.2.2.2.2.2.2.1 x.2.1.1 x.2.1.2.1 x.2.1.2.2.1 x.2.1.2.2.2.1 x.2.2.1.1 x.2.2.1.2.1 x.2.2.2.1.1 x.2.2.2.1.2.1 x.2.2.2.1.2.2.1 x.2.2.2.1.2.2.2.1 x.2.2.2.2.1.1 x.2.2.2.2.1.2.1 x.2.2.2.2.1.2.2.1 x.2.2.2.2.1.2.2.2.1 (fun u0 u1 u2 u3 u4 u5 u6 u7 u8 u9 u10 u11 u12 u13 => e ((), ((u0, u1, u2, u3, ()), (u4, u5, ()), (u6, u7, u8, u9, ()), (u10, u11, u12, u13, ()), ())))) (fun _ _ => rfl) (fun j x e => (F113.r1 k j x.1.1 x.1.2.1 x.1.2.2.1 x.1.2.2.2.1 x.1.2.2.2.2.1 x.1.2.2.2.2.2.1 x.1.2.2.2.2.2.2.1 x.2.1.1 x.2.1.2.1 x.2.1.2.2.1 x.2.1.2.2.2.1 x.2.2.1.1 x.2.2.1.2.1 x.2.2.2.1.1 x.2.2.2.1.2.1 x.2.2.2.1.2.2.1 x.2.2.2.1.2.2.2.1 x.2.2.2.2.1.1 x.2.2.2.2.1.2.1 x.2.2.2.2.1.2.2.1 x.2.2.2.2.1.2.2.2.1 e).symm) 2 k
theorem F113.l0 {R : Type} (k : Nat) : LCs Proofs.Tryz.prog F113.C (.loop (loopOf Proofs.Tryz.f55 0)) (F113.L0 (R := R) k) :=
  loop_sound mixed (tisOk tisT) F113.env (k := k) (L := [F113.L2 k, F113.L1 k]) (n := 1) (inn := (F113.L0 (R := R) k).inn) (outs := (F113.L0 (R := R) k).outs) (lokCons 2 (lc := F113.L2 k) (c0 := loopOf Proofs.Tryz.f55 2) (by kernel_rfl) (by kernel_rfl) (F113.l2 k) (lokCons 1 (lc := F113.L1 k) (c0 := loopOf Proofs.Tryz.f55 1) (by kernel_rfl) (by kernel_rfl) (F113.l1 k) lokNil)) (fun j x e => F113.loop0 k j x.1.1 x.1.2.1 x.1.2.2.1 x.1.2.2.2.1 x.1.2.2.2.2.1 x.1.2.2.2.2.2.1 x.2.1.1 x.2.1.2.1 x.2.1.2.2.1 x.2.1.2.2.2.1 x.2.2.1.1 x.2.2.1.2.1 x.2.2.2.1.1 x.2.2.2.1.2.1 x.2.2.2.1.2.2.1 x.2.2.2.1.2.2.2.1 x.2.2.2.2.1.1 x.2.2.2.2.1.2.1 x.2.2.2.2.1.2.2.1 x.2.2.2.2.1.2.2.2.1 (fun u0 u1 u2 u3 => e ((), ((u0, u1, u2, u3, ()), ())))) (fun _ _ => rfl) (fun j x e => (F113.r0 k j x.1.1 x.1.2.1 x.1.2.2.1 x.1.2.2.2.1 x.1.2.2.2.2.1 x.1.2.2.2.2.2.1 x.2.1.1 x.2.1.2.1 x.2.1.2.2.1 x.2.1.2.2.2.1 x.2.2.1.1 x.2.2.1.2.1 x.2.2.2.1.1 x.2.2.2.1.2.1 x.2.2.2.1.2.2.1 x.2.2.2.1.2.2.2.1 x.2.2.2.2.1.1 x.2.2.2.2.1.2.1 x.2.2.2.2.1.2.2.1 x.2.2.2.2.1.2.2.2.1 e).symm) 0 k
theorem F113.snd : FSound Proofs.Tryz.prog F113.S :=
  fun_sound (C := F113.C) (S := F113.S) (fn := Proofs.Tryz.f55) (c := bodyOf Proofs.Tryz.f55) mixed (tisOk tisT) F113.env Proofs.Tryz.func55 (by kernel_rfl) (by kernel_rfl) (L := fun k => [F113.L2 k, F113.L1 k, F113.L0 k]) (fun k => (lokCons 2 (lc := F113.L2 k) (c0 := loopOf Proofs.Tryz.f55 2) (by kernel_rfl) (by kernel_rfl) (F113.l2 k) (lokCons 1 (lc := F113.L1 k) (c0 := loopOf Proofs.Tryz.f55 1) (by kernel_rfl) (by kernel_rfl) (F113.l1 k) (lokCons 0 (lc := F113.L0 k) (c0 := loopOf Proofs.Tryz.f55 0) (by kernel_rfl) (by kernel_rfl) (F113.l0 k) lokNil)))) (fun k x => F113.eq k x.1 x.2.1 x.2.2.1 x.2.2.2.1 x.2.2.2.2.1 x.2.2.2.2.2.1 x.2.2.2.2.2.2.1 x.2.2.2.2.2.2.2.1)

theorem F114.env : EnvOk Proofs.Tryz.prog F114.C := show EnvL Proofs.Tryz.prog [F111.S, F77.S] from (envCons F111.snd (envCons F77.snd envNil))
theorem F114.l0 {R : Type} (k : Nat) : LCs Proofs.Tryz.prog F114.C (.loop (loopOf Proofs.Tryz.f90 0)) (F114.L0 (R := R) k) :=
  loop_sound mixed (tisOk tisT) F114.env (k := k) (L := []) (n := 1) (inn := (F114.L0 (R := R) k).inn) (outs := (F114.L0 (R := R) k).outs) lokNil (fun j x e => F114.loop0 k j x.1.1 x.1.2.1 x.1.2.2.1 x.1.2.2.2.1 x.1.2.2.2.2.1 x.2.1.1 x.2.1.2.1 x.2.1.2.2.1 x.2.1.2.2.2.1 x.2.2.1.1 x.2.2.1.2.1 (fun u0 => e ((u0, ()), ()))) (fun _ _ => rfl) (fun j x e => (F114.r0 k j x.1.1 x.1.2.1 x.1.2.2.1 x.1.2.2.2.1 x.1.2.2.2.2.1 x.2.1.1 x.2.1.2.1 x.2.1.2.2.1 x.2.1.2.2.2.1 x.2.2.1.1 x.2.2.1.2.1 e).symm) 0 k
theorem F114.snd : FSound Proofs.Tryz.prog F114.S :=
  fun_sound (C := F114.C) (S := F114.S) (fn := Proofs.Tryz.f90) (c := bodyOf Proofs.Tryz.f90) mixed (tisOk tisT) F114.env Proofs.Tryz.func90 (by kernel_rfl) (by kernel_rfl) (L := fun k => [F114.L0 k]) (fun k => (lokCons 0 (lc := F114.L0 k) (c0 := loopOf Proofs.Tryz.f90 0) (by kernel_rfl) (by kernel_rfl) (F114.l0 k) lokNil)) (fun k x => F114.eq k x.1 x.2.1 x.2.2.1 x.2.2.2.1 x.2.2.2.2.1 x.2.2.2.2.2.1)

theorem F115.env : EnvOk Proofs.Tryz.prog F115.C := show EnvL Proofs.Tryz.prog [F62.S, F67.S, F79.S, F101.S, F97.S, F102.S, F107.S, F114.S, F77.S, F112.S] from (envCons F62.snd (envCons F67.snd (envCons F79.snd (envCons F101.snd (envCons F97.snd (envCons F102.snd (envCons F107.snd (envCons F114.snd (envCons F77.snd (envCons F112.snd envNil))))))))))
theorem F115.l2 {R : Type} (k : Nat) : LCs Proofs.Tryz.prog F115.C (.loop (loopOf Proofs.Tryz.f56 2)) (F115.L2 (R := R) k) :=
  loop_sound mixed (tisOk tisT) F115.env (k := k) (L := []) (n := 3) (inn := (F115.L2 (R := R) k).inn) (outs := (F115.L2 (R := R) k).outs) lokNil (fun j x e => F115.loop2 k j x.1.1 x.1.2.1 x.1.2.2.1 x.1.2.2.2.1 x.1.2.2.2.2.1 x.1.2.2.2.2.2.1 x.1.2.2.2.2.2.2.1 x.2.1.1 x.2.1.2.1 x.2.1.2.2.1 x.2.1.2.2.2.1 x.2.2.1.1 x.2.2.1.2.1 (fun u0 u1 u2 u3 u4 u5 u6 => e ((u0, ()), ((u1, u2, u3, u4, ()), (u5, u6, ()), ())))) (fun _ _ => rfl) (fun j x e => (F115.r2 k j x.1.1 x.1.2.1 x.1.2.2.1 x.1.2.2.2.1 x.1.2.2.2.2.1 x.1.2.2.2.2.2.1 x.1.2.2.2.2.2.2.1 x.2.1.1 x.2.1.2.1 x.2.1.2.2.1 x.2.1.2.2.2.1 x.2.2.1.1 x.2.2.1.2.1 e).symm) 4 k
theorem F115.l1 {R : Type} (k : Nat) : LCs Proofs.Tryz.prog F115.C (.loop (loopOf Proofs.Tryz.f56 1)) (F115.L1 (R := R) k) :=
  loop_sound mixed (tisOk tisT) F115.env (k := k) (L := [F115.L2 k]) (n := 2) (inn := (F115.L1 (R := R) k).inn) (outs := (F115.L1 (R := R) k).outs) (lokCons 2 (lc := F115.L2 k) (c0 := loopOf Proofs.Tryz.f56 2) (by kernel_rfl) (by kernel_rfl) (F115.l2 k) lokNil) (fun j x e => F115.loop1 k j x.1.1 x.1.2.1 x.1.2.2.1 x.1.2.2.2.1 x.1.2.2.2.2.1 x.1.2.2.2.2.2.1 x.1.2.2.2.2.2.2.1 x.2.1.1 x.2.1.2.1 x.2.1.2.2.1 x.2.1.2.2.2.1 x.2.2.1.1 x.2.2.1.2.1 x.2.2.2.1.1 x.2.2.2.1.2.1 x.2.2.2.1.2.2.1 x.2.2.2.1.2.2.2.1 x.2.2.2.2.1.1 x.2.2.2.2.1.2.1 x.2.2.2.2.1.2.2.1 x.2.2.2.2.1.2.2.2.1 (fun u0 u1 u2 u3 u4 u5 u6 u7 u8 u9 u10 u11 u12 u13 => e ((), ((u0, u1, u2, u3, ()), (u4, u5, ()), (u6, u7, u8, u9, ()), (u10, u11, u12, u13, ()), ())))) (fun _ _ => rfl) (fun j x e => (F115.r1 k j x.1.1 x.1.2.1 x.1.2.2.1 x.1.2.2.2.1 x.1.2.2.2.2.1 x.1.2.2.2.2.2.1 x.1.2.2.2.2.2.2.1 x.2.1.1 x.2.1.2.1 x.2.1.2.2.1 x.2.1.2.2.2.1 x.2.2.1.1 x.2.2.1.2.1 x.2.2.2.1.1 x.2.2.2.1.2.1 x.2.2.2.1.2.2.1 x.2.2.2.1.2.2.2.1 x.2.2.2.2.1.1 x.2.2.2.2.1.2.1 x.2.2.2.2.1.2.2.1 x.2.2.2.2.1.2.2.2.1 e).symm) 2 k
theorem F115.l0 {R : Type} (k : Nat) : LCs Proofs.Tryz.prog F115.C (.loop (loopOf Proofs.Tryz.f56 0)) (F115.L0 (R := R) k) :=
  loop_sound mixed (tisOk tisT) F115.env (k := k) (L := [F115.L2 k, F115.L1 k]) (n := 1) (inn := (F115.L0 (R := R) k).inn) (outs := (F115.L0 (R := R) k).outs) (lokCons 2 (lc := F115.L2 k) (c0 := loopOf Proofs.Tryz.f56 2) (by kernel_rfl) (by kernel_rfl) (F115.l2 k) (lokCons 1 (lc := F115.L1 k) (c0 := loopOf Proofs.Tryz.f56 1) (by kernel_rfl) (by kernel_rfl) (F115.l1 k) lokNil)) (fun j x e => F115.loop0 k j x.1.1 x.1.2.1 x.1.2.2.1 x.1.2.2.2.1 x.1.2.2.2.2.1 x.1.2.2.2.2.2.1 x.2.1.1 x.2.1.2.1 x.2.1.2.2.1 x.2.1.2.2.2.1 x.2.2.1.1 x.2.2.1.2.1 x.2.2.2.1.1 x.2.2.2.1.2.1 x.2.2.2.1.2.2.1 x.2.2.2.1.2.2.2.1 x.2.2.2.2.1.1 x.2.2.2.2.1.2.1 x.2.2.2.2.1.2.2.1 x.2.2.2.2.1.2.2.2.1 (fun u0 u1 u2 u3 => e ((), ((u0, u1, u2, u3, ()), ())))) (fun _ _ => rfl) (fun j x e => (F115.r0 k j x.1.1 x.1.2.1 x.1.2.2.1 x.1.2.2.2.1 x.1.2.2.2.2.1 x.1.2.2.2.2.2.1 x.2.1.1 x.2.1.2.1 x.2.1.2.2.1 x.2.1.2.2.2.1 x.2.2.1.1 x.2.2.1.2.1 x.2.2.2.1.1 x.2.2.2.1.2.1 x.2.2.2.1.2.2.1 x.2.2.2.1.2.2.2.1 x.2.2.2.2.1.1 x.2.2.2.2.1.2.1 x.2.2.2.2.1.2.2.1 x.2.2.2.2.1.2.2.2.1 e).symm) 0 k
theorem F115.snd : FSound Proofs.Tryz.prog F115.S :=
  fun_sound (C := F115.C) (S := F115.S) (fn := Proofs.Tryz.f56) (c := bodyOf Proofs.Tryz.f56) mixed (tisOk tisT) F115.env Proofs.Tryz.func56 (by kernel_rfl) (by kernel_rfl) (L := fun k => [F115.L2 k, F115.L1 k, F115.L0 k]) (fun k => (lokCons 2 (lc := F115.L2 k) (c0 := loopOf Proofs.Tryz.f56 2) (by kernel_rfl) (by kernel_rfl) (F115.l2 k) (lokCons 1 (lc := F115.L1 k) (c0 := loopOf Proofs.Tryz.f56 1) (by kernel_rfl) (by kernel_rfl) (F115.l1 k) (lokCons 0 (lc := F115.L0 k) (c0 := loopOf Proofs.Tryz.f56 0) (by kernel_rfl) (by kernel_rfl) (F115.l0 k) lokNil)))) (fun k x => F115.eq k x.1 x.2.1 x.2.2.1 x.2.2.2.1 x.2.2.2.2.1 x.2.2.2.2.2.1 x.2.2.2.2.2.2.1 x.2.2.2.2.2.2.2.1)

theorem F116.env : EnvOk Proofs.Tryz.prog F116.C := show EnvL Proofs.Tryz.prog [F111.S, F77.S] from (envCons F111.snd (envCons F77.snd envNil))
theorem F116.l0 {R : Type} (k : Nat) : LCs Proofs.Tryz.prog F116.C (.loop (loopOf Proofs.Tryz.f91 0)) (F116.L0 (R := R) k) :=
  loop_sound mixed (tisOk tisT) F116.env (k := k) (L := []) (n := 1) (inn := (F116.L0 (R := R) k).inn) (outs := (F116.L0 (R := R) k).outs) lokNil (fun j x e => F116.loop0 k j x.1.1 x.1.2.1 x.1.2.2.1 x.2.1.1 x.2.1.2.1 x.2.1.2.2.1 x.2.1.2.2.2.1 x.2.2.1.1 x.2.2.1.2.1 x.2.2.2.1.1 x.2.2.2.1.2.1 (fun u0 => e ((u0, ()), ()))) (fun _ _ => rfl) (fun j x e => (F116.r0 k j x.1.1 x.1.2.1 x.1.2.2.1 x.2.1.1 x.2.1.2.1 x.2.1.2.2.1 x.2.1.2.2.2.1 x.2.2.1.1 x.2.2.1.2.1 x.2.2.2.1.1 x.2.2.2.1.2.1 e).symm) 0 k
theorem F116.snd : FSound Proofs.Tryz.prog F116.S :=
  fun_sound (C := F116.C) (S := F116.S) (fn := Proofs.Tryz.f91) (c := bodyOf Proofs.Tryz.f91) mixed (tisOk tisT) F116.env Proofs.Tryz.func91 (by kernel_rfl) (by kernel_rfl) (L := fun k => [F116.L0 k]) (fun k => (lokCons 0 (lc := F116.L0 k) (c0 := loopOf Proofs.Tryz.f91 0) (by kernel_rfl) (by kernel_rfl) (F116.l0 k) lokNil)) (fun k x => F116.eq k x.1 x.2.1 x.2.2.1 x.2.2.2.1 x.2.2.2.2.1)

theorem F117.env : EnvOk Proofs.Tryz.prog F117.C := show EnvL Proofs.Tryz.prog [F62.S, F67.S, F82.S, F101.S, F102.S, F107.S, F116.S, F77.S, F112.S] from (envCons F62.snd (envCons F67.snd (envCons F82.snd (envCons F101.snd (envCons F102.snd (envCons F107.snd (envCons F116.snd (envCons F77.snd (envCons F112.snd envNil)))))))))
theorem F117.l2 {R : Type} (k : Nat) : LCs Proofs.Tryz.prog F117.C (.loop (loopOf Proofs.Tryz.f57 2)) (F117.L2 (R := R) k) :=
  loop_sound mixed (tisOk tisT) F117.env (k := k) (L := []) (n := 3) (inn := (F117.L2 (R := R) k).inn) (outs := (F117.L2 (R := R) k).outs) lokNil (fun j x e => F117.loop2 k j x.1.1 x.1.2.1 x.1.2.2.1 x.1.2.2.2.1 x.1.2.2.2.2.1 x.1.2.2.2.2.2.1 x.1.2.2.2.2.2.2.1 x.2.1.1 x.2.1.2.1 x.2.1.2.2.1 x.2.1.2.2.2.1 x.2.2.1.1 x.2.2.1.2.1 (fun u0 u1 u2 u3 u4 u5 u6 => e ((u0, ()), ((u1, u2, u3, u4, ()), (u5, u6, ()), ())))) (fun _ _ => rfl) (fun j x e => (F117.r2 k j x.1.1 x.1.2.1 x.1.2.2.1 x.1.2.2.2.1 x.1.2.2.2.2.1 x.1.2.2.2.2.2.1 x.1.2.2.2.2.2.2.1 x.2.1.1 x.2.1.2.1 x.2.1.2.2.1 x.2.1.2.2.2.1 x.2.2.1.1 x.2.2.1.2.1 e).symm) 4 k
theorem F117.l1 {R : Type} (k : Nat) : LCs Proofs.Tryz.prog F117.C (.loop (loopOf Proofs.Tryz.f57 1)) (F117.L1 (R := R) k) :=
  loop_sound mixed (tisOk tisT) F117.env (k := k) (L := [F117.L2 k]) (n := 2) (inn := (F117.L1 (R := R) k).inn) (outs := (F117.L1 (R := R) k).outs) (lokCons 2 (lc := F117.L2 k) (c0 := loopOf Proofs.Tryz.f57 2) (by kernel_rfl) (by kernel_rfl) (F117.l2 k) lokNil) (fun j x e => F117.loop1 k j x.1.1 x.1.2.1 x.1.2.2.1 x.1.2.2.2.1 x.1.2.2.2.2.1 x.1.2.2.2.2.2.1 x.1.2.2.2.2.2.2.1 x.2.1.1 x.2.1.2.1 x.2.1.2.2.1 x.2.1.2.2.2.1 x.2.2.1.1 x.2.2.1.2.1 x.2.2.2.1.1 x.2.2.2.1.2.1 x.2.2.2.1.2.2.1 x.2.2.2.1.2.2.2.1 x.2.2.2.2.1.1 x.2.2.2.2.1.2.1 x.2.2.2.2.1.2.2.1 x.2.2.2.2.1.2.2.2.1 (fun u0 u1 u2 u3 u4 u5 u6 u7 u8 u9 u10 u11 u12 u13 => e ((), ((u0, u1, u2, u3, ()), (u4, u5, ()), (u6, u7, u8, u9, ()), (u10, u11, u12, u13, ()), ())))) (fun _ _ => rfl) (fun j x e => (F117.r1 k j x.1.1 x.1.2.1 x.1.2.2.1 x.1.2.2.2.1 x.1.2.2.2.2.1 x.1.2.2.2.2.2.1 x.1.2.2.2.2.2.2.1 x.2.1.1 x.2.1.2.1 x.2.1.2.2.1 x.2.1.2.2.2.1 x.2.2.1.1 x.2.2.1.2.1 x.2.2.2.1.1 x.2.2.2.1.2.1 x.2.2.2.1.2.2.1 x.2.2.2.1.2.2.2.1 x.2.2.2.2.1.1 x.2.2.2.2.1.2.1 x.2.2.2.2.1.2.2.1 x.2.2.2.2.1.2.2.2.1 e).symm) 2 k
theorem F117.l0 {R : Type} (k : Nat) : LCs Proofs.Tryz.prog F117.C (.loop (loopOf Proofs.Tryz.f57 0)) (F117.L0 (R := R) k) :=
  loop_sound mixed (tisOk tisT) F117.env (k := k) (L := [F117.L2 k, F117.L1 k]) (n := 1) (inn := (F117.L0 (R := R) k).inn) (outs := (F117.L0 (R := R) k).outs) (lokCons 2 (lc := F117.L2 k) (c0 := loopOf Proofs.Tryz.f57 2) (by kernel_rfl) (by kernel_rfl) (F117.l2 k) (lokCons 1 (lc := F117.L1 k) (c0 := loopOf Proofs.Tryz.f57 1) (by kernel_rfl) (by kernel_rfl) (F117.l1 k) lokNil)) (fun j x e => F117.loop0 k j x.1.1 x.1.2.1 x.1.2.2.1 x.1.2.2.2.1 x.1.2.2.2.2.1 x.1.2.2.2.2.2.1 x.2.1.1 x.2.1.2.1 x.2.1.2.2.1 x.2.1.2.2.2.1 x.2.2.1.1 x.2.2.1.2.1 x.2.2.2.1.1 x.2.2.2.1.2.1 x.2.2.2.1.2.2.1 x.2.2.2.1.2.2.2.1 x.2.2.2.2.1.1 x.2.2.2.2.1.2.1 x.2.2.2.2.1.2.2.1 x.2.2.2.2.1.2.2.2.1 (fun u0 u1 u2 u3 => e ((), ((u0, u1, u2, u3, ()), ())))) (fun _ _ => rfl) (fun j x e => (F117.r0 k j x.1.1 x.1.2.1 x.1.2.2.1 x.1.2.2.2.1 x.1.2.2.2.2.1 x.1.2.2.2.2.2.1 x.2.1.1 x.2.1.2.1 x.2.1.2.2.1 x.2.1.2.2.2.1 x.2.2.1.1 x.2.2.1.2.1 x.2.2.2.1.1 x.2.2.2.1.2.1 x.2.2.2.1.2.2.1 x.2.2.2.1.2.2.2.1 x.2.2.2.2.1.1 x.2.2.2.2.1.2.1 x.2.2.2.2.1.2.2.1 x.2.2.2.2.1.2.2.2.1 e).symm) 0 k
theorem F117.snd : FSound Proofs.Tryz.prog F117.S :=
  fun_sound (C := F117.C) (S := F117.S) (fn := Proofs.Tryz.f57) (c := bodyOf Proofs.Tryz.f57) mixed (tisOk tisT) F117.env Proofs.Tryz.func57 (by kernel_rfl) (by kernel_rfl) (L := fun k => [F117.L2 k, F117.L1 k, F117.L0 k]) (fun k => (lokCons 2 (lc := F117.L2 k) (c0 := loopOf Proofs.Tryz.f57 2) (by kernel_rfl) (by kernel_rfl) (F117.l2 k) (lokCons 1 (lc := F117.L1 k) (c0 := loopOf Proofs.Tryz.f57 1) (by kernel_rfl) (by kernel_rfl) (F117.l1 k) (lokCons 0 (lc := F117.L0 k) (c0 := loopOf Proofs.Tryz.f57 0) (by kernel_rfl) (by kernel_rfl) (F117.l0 k) lokNil)))) (fun k x => F117.eq k x.1 x.2.1 x.2.2.1 x.2.2.2.1 x.2.2.2.2.1 x.2.2.2.2.2.1 x.2.2.2.2.2.2.1 x.2.2.2.2.2.2.2.1)

theorem F118.env : EnvOk Proofs.Tryz.prog F118.C := show EnvL Proofs.Tryz.prog [] from envNil
theorem F118.snd : FSound Proofs.Tryz.prog F118.S :=
  fun_sound (C := F118.C) (S := F118.S) (fn := Proofs.Tryz.f125) (c := bodyOf Proofs.Tryz.f125) mixed (tisOk tisT) F118.env Proofs.Tryz.func125 (by kernel_rfl) (by kernel_rfl) (L := fun k => []) (fun k => lokNil) (fun k x => F118.eq k x.1 x.2.1)

theorem F119.env : EnvOk Proofs.Tryz.prog F119.C := show EnvL Proofs.Tryz.prog [F74.S, F90.S, F89.S, F118.S, F77.S] from (envCons F74.snd (envCons F90.snd (envCons F89.snd (envCons F118.snd (envCons F77.snd envNil)))))
theorem F119.snd : FSound Proofs.Tryz.prog F119.S :=
  fun_sound (C := F119.C) (S := F119.S) (fn := Proofs.Tryz.f114) (c := bodyOf Proofs.Tryz.f114) mixed (tisOk tisT) F119.env Proofs.Tryz.func114 (by kernel_rfl) (by kernel_rfl) (L := fun k => []) (fun k => lokNil) (fun k x => F119.eq k x.1 x.2.1 x.2.2.1 x.2.2.2.1 x.2.2.2.2.1)

theorem F120.env : EnvOk Proofs.Tryz.prog F120.C := show EnvL Proofs.Tryz.prog [F88.S, F86.S, F119.S] from (envCons F88.snd (envCons F86.snd (envCons F119.snd envNil)))
theorem F120.l0 {R : Type} (k : Nat) : LCs Proofs.Tryz.prog F120.C (.loop (loopOf Proofs.Tryz.f92 0)) (F120.L0 (R := R) k) :=
  loop_sound mixed (tisOk tisT) F120.env (k := k) (L := []) (n := 1) (inn := (F120.L0 (R := R) k).inn) (outs := (F120.L0 (R := R) k).outs) lokNil (fun j x e => F120.loop0 k j x.1.1 x.1.2.1 x.1.2.2.1 x.1.2.2.2.1 x.2.1 (fun u0 u1 => e (.inl ((u0, u1, ()), ()))) (fun u0 => e (.inr (((), (u0, ())))))) (fun _ _ => rfl) (fun j x e => (F120.r0 k j x.1.1 x.1.2.1 x.1.2.2.1 x.1.2.2.2.1 x.2.1 e).symm) 0 k
theorem F120.snd : FSound Proofs.Tryz.prog F120.S :=
  fun_sound (C := F120.C) (S := F120.S) (fn := Proofs.Tryz.f92) (c := bodyOf Proofs.Tryz.f92) mixed (tisOk tisT) F120.env Proofs.Tryz.func92 (by kernel_rfl) (by kernel_rfl) (L := fun k => [F120.L0 k]) (fun k => (lokCons 0 (lc := F120.L0 k) (c0 := loopOf Proofs.Tryz.f92 0) (by kernel_rfl) (by kernel_rfl) (F120.l0 k) lokNil)) (fun k x => F120.eq k x.1 x.2.1 x.2.2.1)

theorem F121.env : EnvOk Proofs.Tryz.prog F121.C := show EnvL Proofs.Tryz.prog [F62.S, F94.S, F101.S, F97.S, F102.S, F107.S, F120.S, F112.S] from (envCons F62.snd (envCons F94.snd (envCons F101.snd (envCons F97.snd (envCons F102.snd (envCons F107.snd (envCons F120.snd (envCons F112.snd envNil))))))))
theorem F121.l1 {R : Type} (k : Nat) : LCs Proofs.Tryz.prog F121.C (.loop (loopOf Proofs.Tryz.f58 1)) (F121.L1 (R := R) k) :=
  loop_sound mixed (tisOk tisT) F121.env (k := k) (L := []) (n := 2) (inn := (F121.L1 (R := R) k).inn) (outs := (F121.L1 (R := R) k).outs) lokNil (fun j x e => F121.loop1 k j x.1.1 x.1.2.1 x.1.2.2.1 x.1.2.2.2.1 x.1.2.2.2.2.1 x.2.1.1 x.2.1.2.1 x.2.1.2.2.1 x.2.1.2.2.2.1 x.2.2.1.1 x.2.2.1.2.1 x.2.2.1.2.2.1 x.2.2.1.2.2.2.1 x.2.2.2.1.1 x.2.2.2.1.2.1 x.2.2.2.1.2.2.1 x.2.2.2.1.2.2.2.1 x.2.2.2.2.1.1 x.2.2.2.2.1.2.1 x.2.2.2.2.1.2.2.1 x.2.2.2.2.1.2.2.2.1 (fun u0 u1 u2 u3 u4 u5 u6 u7 u8 u9 u10 u11 u12 u13 u14 u15 => e ((), ((u0, u1, u2, u3, ()), (u4, u5, u6, u7, ()), (u8, u9, u10, u11, ()), (u12, u13, u14, u15, ()), ())))) (fun _ _ => rfl) (fun j x e => (F121.r1 k j x.1.1 x.1.2.1 x.1.2.2.1 x.1.2.2.2.1 x.1.2.2.2.2.1 x.2.1.1 x.2.1.2.1 x.2.1.2.2.1 x.2.1.2.2.2.1 x.2.2.1.1 x.2.2.1.2.1 x.2.2.1.2.2.1 x.2.2.1.2.2.2.1 x.2.2.2.1.1 x.2.2.2.1.2.1 x.2.2.2.1.2.2.1 x.2.2.2.1.2.2.2.1 x.2.2.2.2.1.1 x.2.2.2.2.1.2.1 x.2.2.2.2.1.2.2.1 x.2.2.2.2.1.2.2.2.1 e).symm) 2 k
theorem F121.l0 {R : Type} (k : Nat) : LCs Proofs.Tryz.prog F121.C (.loop (loopOf Proofs.Tryz.f58 0)) (F121.L0 (R := R) k) :=
  loop_sound mixed (tisOk tisT) F121.env (k := k) (L := [F121.L1 k]) (n := 1) (inn := (F121.L0 (R := R) k).inn) (outs := (F121.L0 (R := R) k).outs) (lokCons 1 (lc := F121.L1 k) (c0 := loopOf Proofs.Tryz.f58 1) (by kernel_rfl) (by kernel_rfl) (F121.l1 k) lokNil) (fun j x e => F121.loop0 k j x.1.1 x.1.2.1 x.1.2.2.1 x.1.2.2.2.1 x.2.1.1 x.2.1.2.1 x.2.1.2.2.1 x.2.1.2.2.2.1 x.2.2.1.1 x.2.2.1.2.1 x.2.2.1.2.2.1 x.2.2.1.2.2.2.1 x.2.2.2.1.1 x.2.2.2.1.2.1 x.2.2.2.1.2.2.1 x.2.2.2.1.2.2.2.1 x.2.2.2.2.1.1 x.2.2.2.2.1.2.1 x.2.2.2.2.1.2.2.1 x.2.2.2.2.1.2.2.2.1 (fun u0 u1 u2 u3 => e ((), ((u0, u1, u2, u3, ()), ())))) (fun _ _ => rfl) (fun j x e => (F121.r0 k j x.1.1 x.1.2.1 x.1.2.2.1 x.1.2.2.2.1 x.2.1.1 x.2.1.2.1 x.2.1.2.2.1 x.2.1.2.2.2.1 x.2.2.1.1 x.2.2.1.2.1 x.2.2.1.2.2.1 x.2.2.1.2.2.2.1 x.2.2.2.1.1 x.2.2.2.1.2.1 x.2.2.2.1.2.2.1 x.2.2.2.1.2.2.2.1 x.2.2.2.2.1.1 x.2.2.2.2.1.2.1 x.2.2.2.2.1.2.2.1 x.2.2.2.2.1.2.2.2.1 e).symm) 0 k
theorem F121.snd : FSound Proofs.Tryz.prog F121.S :=
  fun_sound (C := F121.C) (S := F121.S) (fn := Proofs.Tryz.f58) (c := bodyOf Proofs.Tryz.f58) mixed (tisOk tisT) F121.env Proofs.Tryz.func58 (by kernel_rfl) (by kernel_rfl) (L := fun k => [F121.L1 k, F121.L0 k]) (fun k => (lokCons 1 (lc := F121.L1 k) (c0 := loopOf Proofs.Tryz.f58 1) (by kernel_rfl) (by kernel_rfl) (F121.l1 k) (lokCons 0 (lc := F121.L0 k) (c0 := loopOf Proofs.Tryz.f58 0) (by kernel_rfl) (by kernel_rfl) (F121.l0 k) lokNil))) (fun k x => F121.eq k x.1 x.2.1 x.2.2.1 x.2.2.2.1 x.2.2.2.2.1 x.2.2.2.2.2.1)

theorem F122.env : EnvOk Proofs.Tryz.prog F122.C := show EnvL Proofs.Tryz.prog [F113.S, F115.S, F117.S, F63.S, F121.S] from (envCons F113.snd (envCons F115.snd (envCons F117.snd (envCons F63.snd (envCons F121.snd envNil)))))
theorem F122.snd : FSound Proofs.Tryz.prog F122.S :=
  fun_sound (C := F122.C) (S := F122.S) (fn := Proofs.Tryz.f31) (c := bodyOf Proofs.Tryz.f31) mixed (tisOk tisT) F122.env Proofs.Tryz.func31 (by kernel_rfl) (by kernel_rfl) (L := fun k => []) (fun k => lokNil) (fun k x => F122.eq k x.1 x.2.1 x.2.2.1 x.2.2.2.1)

theorem F123.env : EnvOk Proofs.Tryz.prog F123.C := show EnvL Proofs.Tryz.prog [F62.S, F63.S, F10.S, F96.S, F105.S, F108.S, F122.S] from (envCons F62.snd (envCons F63.snd (envCons F10.snd (envCons F96.snd (envCons F105.snd (envCons F108.snd (envCons F122.snd envNil)))))))
theorem F123.snd : FSound Proofs.Tryz.prog F123.S :=
  fun_sound (C := F123.C) (S := F123.S) (fn := Proofs.Tryz.f12) (c := bodyOf Proofs.Tryz.f12) mixed (tisOk tisT) F123.env Proofs.Tryz.func12 (by kernel_rfl) (by kernel_rfl) (L := fun k => []) (fun k => lokNil) (fun k x => F123.eq k x.1 x.2.1 x.2.2.1)

theorem F124.env : EnvOk Proofs.Tryz.prog F124.C := show EnvL Proofs.Tryz.prog [] from envNil
theorem F124.snd : FSound Proofs.Tryz.prog F124.S :=
  fun_sound (C := F124.C) (S := F124.S) (fn := Proofs.Tryz.f32) (c := bodyOf Proofs.Tryz.f32) mixed (tisOk tisT) F124.env Proofs.Tryz.func32 (by kernel_rfl) (by kernel_rfl) (L := fun k => []) (fun k => lokNil) (fun k x => F124.eq k x.1)

theorem F125.env : EnvOk Proofs.Tryz.prog F125.C := show EnvL Proofs.Tryz.prog [F27.S] from (envCons F27.snd envNil)
theorem F125.snd : FSound Proofs.Tryz.prog F125.S :=
  fun_sound (C := F125.C) (S := F125.S) (fn := Proofs.Tryz.f33) (c := bodyOf Proofs.Tryz.f33) mixed (tisOk tisT) F125.env Proofs.Tryz.func33 (by kernel_rfl) (by kernel_rfl) (L := fun k => []) (fun k => lokNil) (fun k x => F125.eq k x.1)

theorem F126.env : EnvOk Proofs.Tryz.prog F126.C := show EnvL Proofs.Tryz.prog [F124.S, F60.S, F125.S, F24.S, F26.S] from (envCons F124.snd (envCons F60.snd (envCons F125.snd (envCons F24.snd (envCons F26.snd envNil)))))
theorem F126.snd : FSound Proofs.Tryz.prog F126.S :=
  fun_sound (C := F126.C) (S := F126.S) (fn := Proofs.Tryz.f13) (c := bodyOf Proofs.Tryz.f13) mixed (tisOk tisT) F126.env Proofs.Tryz.func13 (by kernel_rfl) (by kernel_rfl) (L := fun k => []) (fun k => lokNil) (fun k x => F126.eq k)

theorem F127.env : EnvOk Proofs.Tryz.prog F127.C := show EnvL Proofs.Tryz.prog [F4.S, F9.S, F8.S, F10.S, F19.S, F6.S, F20.S, F60.S, F123.S, F126.S, F26.S, F62.S] from (envCons F4.snd (envCons F9.snd (envCons F8.snd (envCons F10.snd (envCons F19.snd (envCons F6.snd (envCons F20.snd (envCons F60.snd (envCons F123.snd (envCons F126.snd (envCons F26.snd (envCons F62.snd envNil))))))))))))
theorem F127.snd : FSound Proofs.Tryz.prog F127.S :=
  fun_sound (C := F127.C) (S := F127.S) (fn := Proofs.Tryz.f3) (c := bodyOf Proofs.Tryz.f3) mixed (tisOk tisT) F127.env Proofs.Tryz.func3 (by kernel_rfl) (by kernel_rfl) (L := fun k => []) (fun k => lokNil) (fun k x => F127.eq k x.1)

end Go.Lf.T
