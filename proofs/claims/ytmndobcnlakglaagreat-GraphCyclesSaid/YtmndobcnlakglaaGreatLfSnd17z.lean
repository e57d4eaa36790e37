import Derived.Test.YtmndobcnlakglaaGreatLfTie17z
import Derived.Test.YtmndobcnlakglaaGreatLfCc
import Derived.Test.YtmndobcnlakglaaGreatProg
set_option linter.unusedVariables false
set_option maxRecDepth 100000
namespace Go.Lf.T
open Go Go.Lf Go.Proofs
theorem q18 : Z1.follows .mixedOrders = true := by kernel_rfl
theorem tisT : tisB Z1 tis = true := by kernel_rfl
theorem F4.env : q26 Z1 F4.C := show EnvL Z1 [] from q20
theorem F4.snd : q16 Z1 F4.S :=
 q11 (C := F4.C) (S := F4.S) (fn := Tryz.f6) (c := q19 Tryz.f6) q18 (q17 tisT) F4.env Tryz.func6 (by kernel_rfl) (by kernel_rfl) (L := fun k => []) (fun k => q13) (fun k x => F4.eq k x.1)
theorem F5.env : q26 Z1 F5.C := show EnvL Z1 [] from q20
theorem F5.snd : q16 Z1 F5.S :=
 q11 (C := F5.C) (S := F5.S) (fn := Tryz.f16) (c := q19 Tryz.f16) q18 (q17 tisT) F5.env Tryz.func16 (by kernel_rfl) (by kernel_rfl) (L := fun k => []) (fun k => q13) (fun k x => F5.eq k x.1 x.2.1)
theorem F6.env : q26 Z1 F6.C := show EnvL Z1 [F5.S] from (q5 F5.snd q20)
theorem F6.snd : q16 Z1 F6.S :=
 q11 (C := F6.C) (S := F6.S) (fn := Tryz.f19) (c := q19 Tryz.f19) q18 (q17 tisT) F6.env Tryz.func19 (by kernel_rfl) (by kernel_rfl) (L := fun k => []) (fun k => q13) (fun k x => F6.eq k x.1 x.2.1)
theorem F7.env : q26 Z1 F7.C := show EnvL Z1 [] from q20
theorem F7.snd : q16 Z1 F7.S :=
 q11 (C := F7.C) (S := F7.S) (fn := Tryz.f62) (c := q19 Tryz.f62) q18 (q17 tisT) F7.env Tryz.func62 (by kernel_rfl) (by kernel_rfl) (L := fun k => []) (fun k => q13) (fun k x => F7.eq k x.1)
theorem F8.env : q26 Z1 F8.C := show EnvL Z1 [F7.S] from (q5 F7.snd q20)
theorem F8.l0 {R : Type} (k : Nat) : LCs Z1 F8.C (.loop (q12 Tryz.f34 0)) (F8.L0 (R := R) k) :=
 q14 q18 (q17 tisT) F8.env (k := k) (L := []) (n := 1) (inn := (F8.L0 (R := R) k).inn) (outs := (F8.L0 (R := R) k).outs) q13 (fun j x e => F8.loop0 k j x.1.1 x.1.2.1 x.2.1.1 x.2.1.2.1 x.2.1.2.2.1 x.2.1.2.2.2.1 (fun u0 u1 u2 u3 => e ((), ((u0, u1, u2, u3, ()), ())))) (fun _ _ => rfl) (fun j x e => (F8.r0 k j x.1.1 x.1.2.1 x.2.1.1 x.2.1.2.1 x.2.1.2.2.1 x.2.1.2.2.2.1 e).symm) 0 k
theorem F8.snd : q16 Z1 F8.S :=
 q11 (C := F8.C) (S := F8.S) (fn := Tryz.f34) (c := q19 Tryz.f34) q18 (q17 tisT) F8.env Tryz.func34 (by kernel_rfl) (by kernel_rfl) (L := fun k => [F8.L0 k]) (fun k => (q23 0 (lc := F8.L0 k) (c0 := q12 Tryz.f34 0) (by kernel_rfl) (by kernel_rfl) (F8.l0 k) q13)) (fun k x => F8.eq k x.1)
theorem F9.env : q26 Z1 F9.C := show EnvL Z1 [F6.S, F8.S] from (q5 F6.snd (q5 F8.snd q20))
theorem F9.l0 {R : Type} (k : Nat) : LCs Z1 F9.C (.loop (q12 Tryz.f15 0)) (F9.L0 (R := R) k) :=
 q14 q18 (q17 tisT) F9.env (k := k) (L := []) (n := 1) (inn := (F9.L0 (R := R) k).inn) (outs := (F9.L0 (R := R) k).outs) q13 (fun j x e => F9.loop0 k j x.1.1 x.1.2.1 x.2.1.1 x.2.1.2.1 x.2.2.1 (fun u0 u1 u2 => e ((), ((u0, u1, ()), u2, ())))) (fun _ _ => rfl) (fun j x e => (F9.r0 k j x.1.1 x.1.2.1 x.2.1.1 x.2.1.2.1 x.2.2.1 e).symm) 0 k
theorem F9.l1 {R : Type} (k : Nat) : LCs Z1 F9.C (.loop (q12 Tryz.f15 1)) (F9.L1 (R := R) k) :=
 q14 q18 (q17 tisT) F9.env (k := k) (L := []) (n := 2) (inn := (F9.L1 (R := R) k).inn) (outs := (F9.L1 (R := R) k).outs) q13 (fun j x e => F9.loop1 k j x.1.1 x.1.2.1 x.2.1.1 x.2.1.2.1 x.2.2.1.1 x.2.2.1.2.1 x.2.2.1.2.2.1 x.2.2.1.2.2.2.1 (fun u0 u1 u2 u3 u4 u5 => e ((), ((u0, u1, ()), (u2, u3, u4, u5, ()), ())))) (fun _ _ => rfl) (fun j x e => (F9.r1 k j x.1.1 x.1.2.1 x.2.1.1 x.2.1.2.1 x.2.2.1.1 x.2.2.1.2.1 x.2.2.1.2.2.1 x.2.2.1.2.2.2.1 e).symm) 2 k
theorem F9.snd : q16 Z1 F9.S :=
 q11 (C := F9.C) (S := F9.S) (fn := Tryz.f15) (c := q19 Tryz.f15) q18 (q17 tisT) F9.env Tryz.func15 (by kernel_rfl) (by kernel_rfl) (L := fun k => [F9.L0 k, F9.L1 k]) (fun k => (q23 0 (lc := F9.L0 k) (c0 := q12 Tryz.f15 0) (by kernel_rfl) (by kernel_rfl) (F9.l0 k) (q23 1 (lc := F9.L1 k) (c0 := q12 Tryz.f15 1) (by kernel_rfl) (by kernel_rfl) (F9.l1 k) q13))) (fun k x => F9.eq k x.1 x.2.1)
theorem F10.env : q26 Z1 F10.C := show EnvL Z1 [] from q20
theorem F10.snd : q16 Z1 F10.S :=
 q11 (C := F10.C) (S := F10.S) (fn := Tryz.f30) (c := q19 Tryz.f30) q18 (q17 tisT) F10.env Tryz.func30 (by kernel_rfl) (by kernel_rfl) (L := fun k => []) (fun k => q13) (fun k x => F10.eq k x.1)
theorem F11.env : q26 Z1 F11.C := show EnvL Z1 [F10.S] from (q5 F10.snd q20)
theorem F11.snd : q16 Z1 F11.S :=
 q11 (C := F11.C) (S := F11.S) (fn := Tryz.f26) (c := q19 Tryz.f26) q18 (q17 tisT) F11.env Tryz.func26 (by kernel_rfl) (by kernel_rfl) (L := fun k => []) (fun k => q13) (fun k x => F11.eq k x.1)
theorem F12.env : q26 Z1 F12.C := show EnvL Z1 [] from q20
theorem F12.snd : q16 Z1 F12.S :=
 q11 (C := F12.C) (S := F12.S) (fn := Tryz.f44) (c := q19 Tryz.f44) q18 (q17 tisT) F12.env Tryz.func44 (by kernel_rfl) (by kernel_rfl) (L := fun k => []) (fun k => q13) (fun k x => F12.eq k x.1 x.2.1)
theorem F13.env : q26 Z1 F13.C := show EnvL Z1 [] from q20
theorem F13.snd : q16 Z1 F13.S :=
 q11 (C := F13.C) (S := F13.S) (fn := Tryz.f46) (c := q19 Tryz.f46) q18 (q17 tisT) F13.env Tryz.func46 (by kernel_rfl) (by kernel_rfl) (L := fun k => []) (fun k => q13) (fun k x => F13.eq k x.1 x.2.1)
theorem F14.env : q26 Z1 F14.C := show EnvL Z1 [F13.S] from (q5 F13.snd q20)
theorem F14.l0 {R : Type} (k : Nat) : LCs Z1 F14.C (.loop (q12 Tryz.f68 0)) (F14.L0 (R := R) k) :=
 q14 q18 (q17 tisT) F14.env (k := k) (L := []) (n := 1) (inn := (F14.L0 (R := R) k).inn) (outs := (F14.L0 (R := R) k).outs) q13 (fun j x e => F14.loop0 k j x.1.1 x.1.2.1 x.1.2.2.1 x.2.1.1 (fun u0 u1 => e (.inl ((u0, ()), ((u1, ()), ())))) (fun u0 => e (.inr (((), ((u0, ()), ())))))) (fun _ _ => rfl) (fun j x e => (F14.r0 k j x.1.1 x.1.2.1 x.1.2.2.1 x.2.1.1 e).symm) 0 k
theorem F14.snd : q16 Z1 F14.S :=
 q11 (C := F14.C) (S := F14.S) (fn := Tryz.f68) (c := q19 Tryz.f68) q18 (q17 tisT) F14.env Tryz.func68 (by kernel_rfl) (by kernel_rfl) (L := fun k => [F14.L0 k]) (fun k => (q23 0 (lc := F14.L0 k) (c0 := q12 Tryz.f68 0) (by kernel_rfl) (by kernel_rfl) (F14.l0 k) q13)) (fun k x => F14.eq k x.1 x.2.1)
theorem F15.env : q26 Z1 F15.C := show EnvL Z1 [F14.S] from (q5 F14.snd q20)
theorem F15.snd : q16 Z1 F15.S :=
 q11 (C := F15.C) (S := F15.S) (fn := Tryz.f45) (c := q19 Tryz.f45) q18 (q17 tisT) F15.env Tryz.func45 (by kernel_rfl) (by kernel_rfl) (L := fun k => []) (fun k => q13) (fun k x => F15.eq k x.1 x.2.1)
theorem F16.env : q26 Z1 F16.C := show EnvL Z1 [F11.S, F12.S, F15.S] from (q5 F11.snd (q5 F12.snd (q5 F15.snd q20)))
theorem F16.l1 {R : Type} (k : Nat) : LCs Z1 F16.C (.loop (q12 Tryz.f17 1)) (F16.L1 (R := R) k) :=
 q14 q18 (q17 tisT) F16.env (k := k) (L := []) (n := 2) (inn := (F16.L1 (R := R) k).inn) (outs := (F16.L1 (R := R) k).outs) q13 (fun j x e => F16.loop1 k j x.1.1 x.1.2.1 x.2.1.1 x.2.2.1 (fun u0 u1 => e (.inl ((u0, ()), (u1, ())))) (fun u0 => e (.inr (((), ((u0, ()), ())))))) (fun _ _ => rfl) (fun j x e => (F16.r1 k j x.1.1 x.1.2.1 x.2.1.1 x.2.2.1 e).symm) 2 k
theorem F16.l0 {R : Type} (k : Nat) : LCs Z1 F16.C (.loop (q12 Tryz.f17 0)) (F16.L0 (R := R) k) :=
 q14 q18 (q17 tisT) F16.env (k := k) (L := [F16.L1 k]) (n := 1) (inn := (F16.L0 (R := R) k).inn) (outs := (F16.L0 (R := R) k).outs) (q23 1 (lc := F16.L1 k) (c0 := q12 Tryz.f17 1) (by kernel_rfl) (by kernel_rfl) (F16.l1 k) q13) (fun j x e => F16.loop0 k j x.1.1 x.1.2.1 x.1.2.2.1 x.2.1.1 (fun u0 u1 => e (.inl ((u0, ()), (u1, ())))) (fun u0 => e (.inr (((), ((u0, ()), ())))))) (fun _ _ => rfl) (fun j x e => (F16.r0 k j x.1.1 x.1.2.1 x.1.2.2.1 x.2.1.1 e).symm) 0 k
theorem F16.l2 {R : Type} (k : Nat) : LCs Z1 F16.C (.loop (q12 Tryz.f17 2)) (F16.L2 (R := R) k) :=
 q14 q18 (q17 tisT) F16.env (k := k) (L := []) (n := 3) (inn := (F16.L2 (R := R) k).inn) (outs := (F16.L2 (R := R) k).outs) q13 (fun j x e => F16.loop2 k j x.1.1 x.1.2.1 x.1.2.2.1 x.2.1.1 (fun u0 u1 => e (.inl ((u0, ()), (u1, ())))) (fun u0 => e (.inr (((), ((u0, ()), ())))))) (fun _ _ => rfl) (fun j x e => (F16.r2 k j x.1.1 x.1.2.1 x.1.2.2.1 x.2.1.1 e).symm) 4 k
theorem F16.l3 {R : Type} (k : Nat) : LCs Z1 F16.C (.loop (q12 Tryz.f17 3)) (F16.L3 (R := R) k) :=
 q14 q18 (q17 tisT) F16.env (k := k) (L := []) (n := 4) (inn := (F16.L3 (R := R) k).inn) (outs := (F16.L3 (R := R) k).outs) q13 (fun j x e => F16.loop3 k j x.1.1 x.1.2.1 x.2.1.1 (fun u0 => e ((), ((u0, ()), ())))) (fun _ _ => rfl) (fun j x e => (F16.r3 k j x.1.1 x.1.2.1 x.2.1.1 e).symm) 6 k
theorem F16.l5 {R : Type} (k : Nat) : LCs Z1 F16.C (.loop (q12 Tryz.f17 5)) (F16.L5 (R := R) k) :=
 q14 q18 (q17 tisT) F16.env (k := k) (L := []) (n := 6) (inn := (F16.L5 (R := R) k).inn) (outs := (F16.L5 (R := R) k).outs) q13 (fun j x e => F16.loop5 k j x.1.1 x.1.2.1 x.1.2.2.1 x.1.2.2.2.1 x.1.2.2.2.2.1 x.2.1.1 (fun u0 u1 => e ((u0, ()), ((u1, ()), ())))) (fun _ _ => rfl) (fun j x e => (F16.r5 k j x.1.1 x.1.2.1 x.1.2.2.1 x.1.2.2.2.1 x.1.2.2.2.2.1 x.2.1.1 e).symm) 10 k
theorem F16.l4 {R : Type} (k : Nat) : LCs Z1 F16.C (.loop (q12 Tryz.f17 4)) (F16.L4 (R := R) k) :=
 q14 q18 (q17 tisT) F16.env (k := k) (L := [F16.L5 k]) (n := 5) (inn := (F16.L4 (R := R) k).inn) (outs := (F16.L4 (R := R) k).outs) (q23 5 (lc := F16.L5 k) (c0 := q12 Tryz.f17 5) (by kernel_rfl) (by kernel_rfl) (F16.l5 k) q13) (fun j x e => F16.loop4 k j x.1.1 x.2.1.1 x.2.1.2.1 x.2.1.2.2.1 x.2.1.2.2.2.1 x.2.2.1 x.2.2.2.1.1 (fun u0 u1 => e (.inl ((u0, ()), (u1, ())))) (fun u0 => e (.inr (((), (u0, ())))))) (fun _ _ => rfl) (fun j x e => (F16.r4 k j x.1.1 x.2.1.1 x.2.1.2.1 x.2.1.2.2.1 x.2.1.2.2.2.1 x.2.2.1 x.2.2.2.1.1 e).symm) 8 k
theorem F16.snd : q16 Z1 F16.S :=
 q11 (C := F16.C) (S := F16.S) (fn := Tryz.f17) (c := q19 Tryz.f17) q18 (q17 tisT) F16.env Tryz.func17 (by kernel_rfl) (by kernel_rfl) (L := fun k => [F16.L1 k, F16.L0 k, F16.L2 k, F16.L3 k, F16.L5 k, F16.L4 k]) (fun k => (q23 1 (lc := F16.L1 k) (c0 := q12 Tryz.f17 1) (by kernel_rfl) (by kernel_rfl) (F16.l1 k) (q23 0 (lc := F16.L0 k) (c0 := q12 Tryz.f17 0) (by kernel_rfl) (by kernel_rfl) (F16.l0 k) (q23 2 (lc := F16.L2 k) (c0 := q12 Tryz.f17 2) (by kernel_rfl) (by kernel_rfl) (F16.l2 k) (q23 3 (lc := F16.L3 k) (c0 := q12 Tryz.f17 3) (by kernel_rfl) (by kernel_rfl) (F16.l3 k) (q23 5 (lc := F16.L5 k) (c0 := q12 Tryz.f17 5) (by kernel_rfl) (by kernel_rfl) (F16.l5 k) (q23 4 (lc := F16.L4 k) (c0 := q12 Tryz.f17 4) (by kernel_rfl) (by kernel_rfl) (F16.l4 k) q13))))))) (fun k x => F16.eq k x.1)
theorem F17.env : q26 Z1 F17.C := show EnvL Z1 [] from q20
theorem F17.l0 {R : Type} (k : Nat) : LCs Z1 F17.C (.loop (q12 Tryz.f96 0)) (F17.L0 (R := R) k) :=
 q14 q18 (q17 tisT) F17.env (k := k) (L := []) (n := 1) (inn := (F17.L0 (R := R) k).inn) (outs := (F17.L0 (R := R) k).outs) q13 (fun j x e => F17.loop0 k j x.1.1 x.1.2.1 x.1.2.2.1 x.1.2.2.2.1 (fun u0 => e (.inl ((u0, ()), ()))) (fun _ => e (.inr (((), ()))))) (fun _ _ => rfl) (fun j x e => (F17.r0 k j x.1.1 x.1.2.1 x.1.2.2.1 x.1.2.2.2.1 e).symm) 0 k
theorem F17.snd : q16 Z1 F17.S :=
 q11 (C := F17.C) (S := F17.S) (fn := Tryz.f96) (c := q19 Tryz.f96) q18 (q17 tisT) F17.env Tryz.func96 (by kernel_rfl) (by kernel_rfl) (L := fun k => [F17.L0 k]) (fun k => (q23 0 (lc := F17.L0 k) (c0 := q12 Tryz.f96 0) (by kernel_rfl) (by kernel_rfl) (F17.l0 k) q13)) (fun k x => F17.eq k x.1 x.2.1)
theorem F18.env : q26 Z1 F18.C := show EnvL Z1 [F17.S] from (q5 F17.snd q20)
theorem F18.snd : q16 Z1 F18.S :=
 q11 (C := F18.C) (S := F18.S) (fn := Tryz.f70) (c := q19 Tryz.f70) q18 (q17 tisT) F18.env Tryz.func70 (by kernel_rfl) (by kernel_rfl) (L := fun k => []) (fun k => q13) (fun k x => F18.eq k x.1 x.2.1)
theorem F19.env : q26 Z1 F19.C := show EnvL Z1 [F18.S] from (q5 F18.snd q20)
theorem F19.snd : q16 Z1 F19.S :=
 q11 (C := F19.C) (S := F19.S) (fn := Tryz.f69) (c := q19 Tryz.f69) q18 (q17 tisT) F19.env Tryz.func69 (by kernel_rfl) (by kernel_rfl) (L := fun k => []) (fun k => q13) (fun k x => F19.eq k x.1 x.2.1)
theorem F20.env : q26 Z1 F20.C := show EnvL Z1 [F19.S] from (q5 F19.snd q20)
theorem F20.l0 {R : Type} (k : Nat) : LCs Z1 F20.C (.loop (q12 Tryz.f68 0)) (F20.L0 (R := R) k) :=
 q14 q18 (q17 tisT) F20.env (k := k) (L := []) (n := 1) (inn := (F20.L0 (R := R) k).inn) (outs := (F20.L0 (R := R) k).outs) q13 (fun j x e => F20.loop0 k j x.1.1 x.1.2.1 x.1.2.2.1 x.2.1.1 (fun u0 u1 => e (.inl ((u0, ()), ((u1, ()), ())))) (fun u0 => e (.inr (((), ((u0, ()), ())))))) (fun _ _ => rfl) (fun j x e => (F20.r0 k j x.1.1 x.1.2.1 x.1.2.2.1 x.2.1.1 e).symm) 0 k
theorem F20.snd : q16 Z1 F20.S :=
 q11 (C := F20.C) (S := F20.S) (fn := Tryz.f68) (c := q19 Tryz.f68) q18 (q17 tisT) F20.env Tryz.func68 (by kernel_rfl) (by kernel_rfl) (L := fun k => [F20.L0 k]) (fun k => (q23 0 (lc := F20.L0 k) (c0 := q12 Tryz.f68 0) (by kernel_rfl) (by kernel_rfl) (F20.l0 k) q13)) (fun k x => F20.eq k x.1 x.2.1)
theorem F21.env : q26 Z1 F21.C := show EnvL Z1 [F20.S] from (q5 F20.snd q20)
theorem F21.snd : q16 Z1 F21.S :=
 q11 (C := F21.C) (S := F21.S) (fn := Tryz.f45) (c := q19 Tryz.f45) q18 (q17 tisT) F21.env Tryz.func45 (by kernel_rfl) (by kernel_rfl) (L := fun k => []) (fun k => q13) (fun k x => F21.eq k x.1 x.2.1)
theorem F22.env : q26 Z1 F22.C := show EnvL Z1 [F11.S, F21.S] from (q5 F11.snd (q5 F21.snd q20))
theorem F22.l1 {R : Type} (k : Nat) : LCs Z1 F22.C (.loop (q12 Tryz.f47 1)) (F22.L1 (R := R) k) :=
 q14 q18 (q17 tisT) F22.env (k := k) (L := []) (n := 2) (inn := (F22.L1 (R := R) k).inn) (outs := (F22.L1 (R := R) k).outs) q13 (fun j x e => F22.loop1 k j x.1.1 x.1.2.1 x.1.2.2.1 x.1.2.2.2.1 x.2.1.1 x.2.1.2.1 x.2.1.2.2.1 x.2.1.2.2.2.1 x.2.2.1 x.2.2.2.1.1 x.2.2.2.2.1 (fun u0 u1 u2 u3 u4 u5 u6 => e ((), ((u0, u1, u2, u3, ()), u4, (u5, ()), u6, ())))) (fun _ _ => rfl) (fun j x e => (F22.r1 k j x.1.1 x.1.2.1 x.1.2.2.1 x.1.2.2.2.1 x.2.1.1 x.2.1.2.1 x.2.1.2.2.1 x.2.1.2.2.2.1 x.2.2.1 x.2.2.2.1.1 x.2.2.2.2.1 e).symm) 2 k
theorem F22.l0 {R : Type} (k : Nat) : LCs Z1 F22.C (.loop (q12 Tryz.f47 0)) (F22.L0 (R := R) k) :=
 q14 q18 (q17 tisT) F22.env (k := k) (L := [F22.L1 k]) (n := 1) (inn := (F22.L0 (R := R) k).inn) (outs := (F22.L0 (R := R) k).outs) (q23 1 (lc := F22.L1 k) (c0 := q12 Tryz.f47 1) (by kernel_rfl) (by kernel_rfl) (F22.l1 k) q13) (fun j x e => F22.loop0 k j x.1.1 x.2.1.1 x.2.1.2.1 x.2.1.2.2.1 x.2.1.2.2.2.1 x.2.2.1 x.2.2.2.1.1 (fun u0 => e ((), (u0, ())))) (fun _ _ => rfl) (fun j x e => (F22.r0 k j x.1.1 x.2.1.1 x.2.1.2.1 x.2.1.2.2.1 x.2.1.2.2.2.1 x.2.2.1 x.2.2.2.1.1 e).symm) 0 k
theorem F22.snd : q16 Z1 F22.S :=
 q11 (C := F22.C) (S := F22.S) (fn := Tryz.f47) (c := q19 Tryz.f47) q18 (q17 tisT) F22.env Tryz.func47 (by kernel_rfl) (by kernel_rfl) (L := fun k => [F22.L1 k, F22.L0 k]) (fun k => (q23 1 (lc := F22.L1 k) (c0 := q12 Tryz.f47 1) (by kernel_rfl) (by kernel_rfl) (F22.l1 k) (q23 0 (lc := F22.L0 k) (c0 := q12 Tryz.f47 0) (by kernel_rfl) (by kernel_rfl) (F22.l0 k) q13))) (fun k x => F22.eq k x.1 x.2.1)
theorem F23.env : q26 Z1 F23.C := show EnvL Z1 [F16.S, F22.S, F11.S] from (q5 F16.snd (q5 F22.snd (q5 F11.snd q20)))
theorem F23.l2 {R : Type} (k : Nat) : LCs Z1 F23.C (.loop (q12 Tryz.f18 2)) (F23.L2 (R := R) k) :=
 q14 q18 (q17 tisT) F23.env (k := k) (L := []) (n := 3) (inn := (F23.L2 (R := R) k).inn) (outs := (F23.L2 (R := R) k).outs) q13 (fun j x e => F23.loop2 k j x.1.1 x.1.2.1 x.1.2.2.1 x.1.2.2.2.1 x.1.2.2.2.2.1 x.2.1 x.2.2.1 (fun u0 u1 => e ((u0, ()), (u1, ())))) (fun _ _ => rfl) (fun j x e => (F23.r2 k j x.1.1 x.1.2.1 x.1.2.2.1 x.1.2.2.2.1 x.1.2.2.2.2.1 x.2.1 x.2.2.1 e).symm) 4 k
theorem F23.l1 {R : Type} (k : Nat) : LCs Z1 F23.C (.loop (q12 Tryz.f18 1)) (F23.L1 (R := R) k) :=
 q14 q18 (q17 tisT) F23.env (k := k) (L := [F23.L2 k]) (n := 2) (inn := (F23.L1 (R := R) k).inn) (outs := (F23.L1 (R := R) k).outs) (q23 2 (lc := F23.L2 k) (c0 := q12 Tryz.f18 2) (by kernel_rfl) (by kernel_rfl) (F23.l2 k) q13) (fun j x e => F23.loop1 k j x.1.1 x.1.2.1 x.2.1.1 x.2.1.2.1 x.2.1.2.2.1 x.2.1.2.2.2.1 x.2.2.1 x.2.2.2.1 (fun u0 u1 u2 u3 u4 => e ((), ((u0, u1, u2, u3, ()), u4, ())))) (fun _ _ => rfl) (fun j x e => (F23.r1 k j x.1.1 x.1.2.1 x.2.1.1 x.2.1.2.1 x.2.1.2.2.1 x.2.1.2.2.2.1 x.2.2.1 x.2.2.2.1 e).symm) 2 k
theorem F23.l0 {R : Type} (k : Nat) : LCs Z1 F23.C (.loop (q12 Tryz.f18 0)) (F23.L0 (R := R) k) :=
 q14 q18 (q17 tisT) F23.env (k := k) (L := [F23.L2 k, F23.L1 k]) (n := 1) (inn := (F23.L0 (R := R) k).inn) (outs := (F23.L0 (R := R) k).outs) (q23 2 (lc := F23.L2 k) (c0 := q12 Tryz.f18 2) (by kernel_rfl) (by kernel_rfl) (F23.l2 k) (q23 1 (lc := F23.L1 k) (c0 := q12 Tryz.f18 1) (by kernel_rfl) (by kernel_rfl) (F23.l1 k) q13)) (fun j x e => F23.loop0 k j x.1.1 x.2.1.1 x.2.1.2.1 x.2.1.2.2.1 x.2.1.2.2.2.1 x.2.2.1 (fun u0 => e ((), (u0, ())))) (fun _ _ => rfl) (fun j x e => (F23.r0 k j x.1.1 x.2.1.1 x.2.1.2.1 x.2.1.2.2.1 x.2.1.2.2.2.1 x.2.2.1 e).symm) 0 k
theorem F23.snd : q16 Z1 F23.S :=
 q11 (C := F23.C) (S := F23.S) (fn := Tryz.f18) (c := q19 Tryz.f18) q18 (q17 tisT) F23.env Tryz.func18 (by kernel_rfl) (by kernel_rfl) (L := fun k => [F23.L2 k, F23.L1 k, F23.L0 k]) (fun k => (q23 2 (lc := F23.L2 k) (c0 := q12 Tryz.f18 2) (by kernel_rfl) (by kernel_rfl) (F23.l2 k) (q23 1 (lc := F23.L1 k) (c0 := q12 Tryz.f18 1) (by kernel_rfl) (by kernel_rfl) (F23.l1 k) (q23 0 (lc := F23.L0 k) (c0 := q12 Tryz.f18 0) (by kernel_rfl) (by kernel_rfl) (F23.l0 k) q13)))) (fun k x => F23.eq k x.1)
theorem F24.env : q26 Z1 F24.C := show EnvL Z1 [] from q20
theorem F24.snd : q16 Z1 F24.S :=
 q11 (C := F24.C) (S := F24.S) (fn := Tryz.f27) (c := q19 Tryz.f27) q18 (q17 tisT) F24.env Tryz.func27 (by kernel_rfl) (by kernel_rfl) (L := fun k => []) (fun k => q13) (fun k x => F24.eq k x.1)
theorem F25.env : q26 Z1 F25.C := show EnvL Z1 [F24.S] from (q5 F24.snd q20)
theorem F25.snd : q16 Z1 F25.S :=
 q11 (C := F25.C) (S := F25.S) (fn := Tryz.f10) (c := q19 Tryz.f10) q18 (q17 tisT) F25.env Tryz.func10 (by kernel_rfl) (by kernel_rfl) (L := fun k => []) (fun k => q13) (fun k x => F25.eq k x.1)
theorem F26.env : q26 Z1 F26.C := show EnvL Z1 [F25.S] from (q5 F25.snd q20)
theorem F26.l1 {R : Type} (k : Nat) : LCs Z1 F26.C (.loop (q12 Tryz.f63 1)) (F26.L1 (R := R) k) :=
 q14 q18 (q17 tisT) F26.env (k := k) (L := []) (n := 2) (inn := (F26.L1 (R := R) k).inn) (outs := (F26.L1 (R := R) k).outs) q13 (fun j x e => F26.loop1 k j x.1.1 x.1.2.1 x.2.1 (fun u0 => e (.inl ((u0, ()), ()))) (fun _ => e (.inr (((), ()))))) (fun _ _ => rfl) (fun j x e => (F26.r1 k j x.1.1 x.1.2.1 x.2.1 e).symm) 2 k
theorem F26.l0 {R : Type} (k : Nat) : LCs Z1 F26.C (.loop (q12 Tryz.f63 0)) (F26.L0 (R := R) k) :=
 q14 q18 (q17 tisT) F26.env (k := k) (L := [F26.L1 k]) (n := 1) (inn := (F26.L0 (R := R) k).inn) (outs := (F26.L0 (R := R) k).outs) (q23 1 (lc := F26.L1 k) (c0 := q12 Tryz.f63 1) (by kernel_rfl) (by kernel_rfl) (F26.l1 k) q13) (fun j x e => F26.loop0 k j x.1.1 x.1.2.1 x.2.1.1 x.2.1.2.1 x.2.1.2.2.1 x.2.1.2.2.2.1 (fun u0 => e (.inl ((u0, ()), ()))) (fun u0 u1 u2 u3 => e (.inr (((), ((u0, u1, u2, u3, ()), ())))))) (fun _ _ => rfl) (fun j x e => (F26.r0 k j x.1.1 x.1.2.1 x.2.1.1 x.2.1.2.1 x.2.1.2.2.1 x.2.1.2.2.2.1 e).symm) 0 k
theorem F26.l2 {R : Type} (k : Nat) : LCs Z1 F26.C (.loop (q12 Tryz.f63 2)) (F26.L2 (R := R) k) :=
 q14 q18 (q17 tisT) F26.env (k := k) (L := []) (n := 3) (inn := (F26.L2 (R := R) k).inn) (outs := (F26.L2 (R := R) k).outs) q13 (fun j x e => F26.loop2 k j x.1.1 x.1.2.1 x.2.1.1 x.2.1.2.1 x.2.1.2.2.1 x.2.1.2.2.2.1 (fun u0 => e (.inl ((u0, ()), ()))) (fun _ => e (.inr (((), ()))))) (fun _ _ => rfl) (fun j x e => (F26.r2 k j x.1.1 x.1.2.1 x.2.1.1 x.2.1.2.1 x.2.1.2.2.1 x.2.1.2.2.2.1 e).symm) 4 k
theorem F26.snd : q16 Z1 F26.S :=
 q11 (C := F26.C) (S := F26.S) (fn := Tryz.f63) (c := q19 Tryz.f63) q18 (q17 tisT) F26.env Tryz.func63 (by kernel_rfl) (by kernel_rfl) (L := fun k => [F26.L1 k, F26.L0 k, F26.L2 k]) (fun k => (q23 1 (lc := F26.L1 k) (c0 := q12 Tryz.f63 1) (by kernel_rfl) (by kernel_rfl) (F26.l1 k) (q23 0 (lc := F26.L0 k) (c0 := q12 Tryz.f63 0) (by kernel_rfl) (by kernel_rfl) (F26.l0 k) (q23 2 (lc := F26.L2 k) (c0 := q12 Tryz.f63 2) (by kernel_rfl) (by kernel_rfl) (F26.l2 k) q13)))) (fun k x => F26.eq k x.1)
theorem F27.env : q26 Z1 F27.C := show EnvL Z1 [] from q20
theorem F27.l0 {R : Type} (k : Nat) : LCs Z1 F27.C (.loop (q12 Tryz.f64 0)) (F27.L0 (R := R) k) :=
 q14 q18 (q17 tisT) F27.env (k := k) (L := []) (n := 1) (inn := (F27.L0 (R := R) k).inn) (outs := (F27.L0 (R := R) k).outs) q13 (fun j x e => F27.loop0 k j x.1.1 x.1.2.1 x.1.2.2.1 (fun u0 => e (.inl ((u0, ()), ()))) (fun _ => e (.inr (((), ()))))) (fun _ _ => rfl) (fun j x e => (F27.r0 k j x.1.1 x.1.2.1 x.1.2.2.1 e).symm) 0 k
theorem F27.snd : q16 Z1 F27.S :=
 q11 (C := F27.C) (S := F27.S) (fn := Tryz.f64) (c := q19 Tryz.f64) q18 (q17 tisT) F27.env Tryz.func64 (by kernel_rfl) (by kernel_rfl) (L := fun k => [F27.L0 k]) (fun k => (q23 0 (lc := F27.L0 k) (c0 := q12 Tryz.f64 0) (by kernel_rfl) (by kernel_rfl) (F27.l0 k) q13)) (fun k x => F27.eq k x.1 x.2.1)
theorem F28.env : q26 Z1 F28.C := show EnvL Z1 [F26.S, F27.S, F25.S] from (q5 F26.snd (q5 F27.snd (q5 F25.snd q20)))
theorem F28.l2 {R : Type} (k : Nat) : LCs Z1 F28.C (.loop (q12 Tryz.f39 2)) (F28.L2 (R := R) k) :=
 q14 q18 (q17 tisT) F28.env (k := k) (L := []) (n := 3) (inn := (F28.L2 (R := R) k).inn) (outs := (F28.L2 (R := R) k).outs) q13 (fun j x e => F28.loop2 k j x.1.1 x.1.2.1 x.2.1.1 x.2.1.2.1 x.2.1.2.2.1 x.2.1.2.2.2.1 x.2.2.1 x.2.2.2.1 (fun u0 u1 u2 u3 u4 u5 => e ((u0, ()), ((u1, u2, u3, u4, ()), u5, ())))) (fun _ _ => rfl) (fun j x e => (F28.r2 k j x.1.1 x.1.2.1 x.2.1.1 x.2.1.2.1 x.2.1.2.2.1 x.2.1.2.2.2.1 x.2.2.1 x.2.2.2.1 e).symm) 4 k
theorem F28.l1 {R : Type} (k : Nat) : LCs Z1 F28.C (.loop (q12 Tryz.f39 1)) (F28.L1 (R := R) k) :=
 q14 q18 (q17 tisT) F28.env (k := k) (L := [F28.L2 k]) (n := 2) (inn := (F28.L1 (R := R) k).inn) (outs := (F28.L1 (R := R) k).outs) (q23 2 (lc := F28.L2 k) (c0 := q12 Tryz.f39 2) (by kernel_rfl) (by kernel_rfl) (F28.l2 k) q13) (fun j x e => F28.loop1 k j x.1.1 x.1.2.1 x.2.1.1 x.2.1.2.1 x.2.1.2.2.1 x.2.1.2.2.2.1 x.2.2.1 (fun u0 u1 u2 u3 u4 u5 => e ((u0, ()), ((u1, u2, u3, u4, ()), u5, ())))) (fun _ _ => rfl) (fun j x e => (F28.r1 k j x.1.1 x.1.2.1 x.2.1.1 x.2.1.2.1 x.2.1.2.2.1 x.2.1.2.2.2.1 x.2.2.1 e).symm) 2 k
theorem F28.l0 {R : Type} (k : Nat) : LCs Z1 F28.C (.loop (q12 Tryz.f39 0)) (F28.L0 (R := R) k) :=
 q14 q18 (q17 tisT) F28.env (k := k) (L := [F28.L2 k, F28.L1 k]) (n := 1) (inn := (F28.L0 (R := R) k).inn) (outs := (F28.L0 (R := R) k).outs) (q23 2 (lc := F28.L2 k) (c0 := q12 Tryz.f39 2) (by kernel_rfl) (by kernel_rfl) (F28.l2 k) (q23 1 (lc := F28.L1 k) (c0 := q12 Tryz.f39 1) (by kernel_rfl) (by kernel_rfl) (F28.l1 k) q13)) (fun j x e => F28.loop0 k j x.2.1.1 x.2.1.2.1 x.2.1.2.2.1 x.2.1.2.2.2.1 x.2.2.1 (fun u0 u1 => e (.inl ((u0, ()), (u1, ())))) (fun u0 => e (.inr (((), (u0, ())))))) (fun _ _ => rfl) (fun j x e => (F28.r0 k j x.2.1.1 x.2.1.2.1 x.2.1.2.2.1 x.2.1.2.2.2.1 x.2.2.1 e).symm) 0 k
theorem F28.snd : q16 Z1 F28.S :=
 q11 (C := F28.C) (S := F28.S) (fn := Tryz.f39) (c := q19 Tryz.f39) q18 (q17 tisT) F28.env Tryz.func39 (by kernel_rfl) (by kernel_rfl) (L := fun k => [F28.L2 k, F28.L1 k, F28.L0 k]) (fun k => (q23 2 (lc := F28.L2 k) (c0 := q12 Tryz.f39 2) (by kernel_rfl) (by kernel_rfl) (F28.l2 k) (q23 1 (lc := F28.L1 k) (c0 := q12 Tryz.f39 1) (by kernel_rfl) (by kernel_rfl) (F28.l1 k) (q23 0 (lc := F28.L0 k) (c0 := q12 Tryz.f39 0) (by kernel_rfl) (by kernel_rfl) (F28.l0 k) q13)))) (fun k x => F28.eq k x.1)
theorem F29.env : q26 Z1 F29.C := show EnvL Z1 [] from q20
theorem F29.snd : q16 Z1 F29.S :=
 q11 (C := F29.C) (S := F29.S) (fn := Tryz.f55) (c := q19 Tryz.f55) q18 (q17 tisT) F29.env Tryz.func55 (by kernel_rfl) (by kernel_rfl) (L := fun k => []) (fun k => q13) (fun k x => F29.eq k x.1 x.2.1 x.2.2.1)
theorem F30.env : q26 Z1 F30.C := show EnvL Z1 [F29.S] from (q5 F29.snd q20)
theorem F30.snd : q16 Z1 F30.S :=
 q11 (C := F30.C) (S := F30.S) (fn := Tryz.f52) (c := q19 Tryz.f52) q18 (q17 tisT) F30.env Tryz.func52 (by kernel_rfl) (by kernel_rfl) (L := fun k => []) (fun k => q13) (fun k x => F30.eq k x.1 x.2.1 x.2.2.1)
theorem F31.env : q26 Z1 F31.C := show EnvL Z1 [F30.S] from (q5 F30.snd q20)
theorem F31.l0 {R : Type} (k : Nat) : LCs Z1 F31.C (.loop (q12 Tryz.f25 0)) (F31.L0 (R := R) k) :=
 q14 q18 (q17 tisT) F31.env (k := k) (L := []) (n := 1) (inn := (F31.L0 (R := R) k).inn) (outs := (F31.L0 (R := R) k).outs) q13 (fun j x e => F31.loop0 k j x.1.1 x.1.2.1 x.1.2.2.1 x.2.1.1 x.2.1.2.1 x.2.1.2.2.1 x.2.1.2.2.2.1 (fun u0 => e (.inl ((u0, ()), ()))) (fun _ => e (.inr (((), ()))))) (fun _ _ => rfl) (fun j x e => (F31.r0 k j x.1.1 x.1.2.1 x.1.2.2.1 x.2.1.1 x.2.1.2.1 x.2.1.2.2.1 x.2.1.2.2.2.1 e).symm) 0 k
theorem F31.snd : q16 Z1 F31.S :=
 q11 (C := F31.C) (S := F31.S) (fn := Tryz.f25) (c := q19 Tryz.f25) q18 (q17 tisT) F31.env Tryz.func25 (by kernel_rfl) (by kernel_rfl) (L := fun k => [F31.L0 k]) (fun k => (q23 0 (lc := F31.L0 k) (c0 := q12 Tryz.f25 0) (by kernel_rfl) (by kernel_rfl) (F31.l0 k) q13)) (fun k x => F31.eq k x.1)
theorem F32.env : q26 Z1 F32.C := show EnvL Z1 [] from q20
theorem F32.snd : q16 Z1 F32.S :=
 q11 (C := F32.C) (S := F32.S) (fn := Tryz.f53) (c := q19 Tryz.f53) q18 (q17 tisT) F32.env Tryz.func53 (by kernel_rfl) (by kernel_rfl) (L := fun k => []) (fun k => q13) (fun k x => F32.eq k x.1 x.2.1 x.2.2.1)
theorem F33.env : q26 Z1 F33.C := show EnvL Z1 [] from q20
theorem F33.snd : q16 Z1 F33.S :=
 q11 (C := F33.C) (S := F33.S) (fn := Tryz.f31) (c := q19 Tryz.f31) q18 (q17 tisT) F33.env Tryz.func31 (by kernel_rfl) (by kernel_rfl) (L := fun k => []) (fun k => q13) (fun k x => F33.eq k x.1)
theorem F34.env : q26 Z1 F34.C := show EnvL Z1 [] from q20
theorem F34.l0 {R : Type} (k : Nat) : LCs Z1 F34.C (.loop (q12 Tryz.f54 0)) (F34.L0 (R := R) k) :=
 q14 q18 (q17 tisT) F34.env (k := k) (L := []) (n := 1) (inn := (F34.L0 (R := R) k).inn) (outs := (F34.L0 (R := R) k).outs) q13 (fun j x e => F34.loop0 k j x.1.1 x.1.2.1 x.1.2.2.1 x.2.1.1 (fun u0 u1 => e (.inl ((u0, ()), ((u1, ()), ())))) (fun u0 => e (.inr (((), ((u0, ()), ())))))) (fun _ _ => rfl) (fun j x e => (F34.r0 k j x.1.1 x.1.2.1 x.1.2.2.1 x.2.1.1 e).symm) 0 k
theorem F34.snd : q16 Z1 F34.S :=
 q11 (C := F34.C) (S := F34.S) (fn := Tryz.f54) (c := q19 Tryz.f54) q18 (q17 tisT) F34.env Tryz.func54 (by kernel_rfl) (by kernel_rfl) (L := fun k => [F34.L0 k]) (fun k => (q23 0 (lc := F34.L0 k) (c0 := q12 Tryz.f54 0) (by kernel_rfl) (by kernel_rfl) (F34.l0 k) q13)) (fun k x => F34.eq k x.1 x.2.1 x.2.2.1)
theorem F35.env : q26 Z1 F35.C := show EnvL Z1 [F32.S, F33.S, F34.S] from (q5 F32.snd (q5 F33.snd (q5 F34.snd q20)))
theorem F35.jl4 {R : Type} (k : Nat) : LCs Z1 F35.C (q41 Tryz.f28 4) (F35.J4 (R := R) k) :=
 q77 q18 (q17 tisT) F35.env (k := k) (L := []) (n := 0) (inn := (F35.J4 (R := R) k).inn) (outs := (F35.J4 (R := R) k).outs) q13 (fun x e => F35.join4 k x.2.1.1 x.2.1.2.1 x.2.1.2.2.1 x.2.1.2.2.2.1 x.2.1.2.2.2.2.1 x.2.1.2.2.2.2.2.1 x.2.1.2.2.2.2.2.2.1 x.2.1.2.2.2.2.2.2.2.1 x.2.1.2.2.2.2.2.2.2.2.1 x.2.1.2.2.2.2.2.2.2.2.2.1 x.2.1.2.2.2.2.2.2.2.2.2.2.1 x.2.1.2.2.2.2.2.2.2.2.2.2.2.1 x.2.1.2.2.2.2.2.2.2.2.2.2.2.2.1 x.2.1.2.2.2.2.2.2.2.2.2.2.2.2.2.1 x.2.1.2.2.2.2.2.2.2.2.2.2.2.2.2.2.1 x.2.1.2.2.2.2.2.2.2.2.2.2.2.2.2.2.2.1 x.2.1.2.2.2.2.2.2.2.2.2.2.2.2.2.2.2.2.1 x.2.1.2.2.2.2.2.2.2.2.2.2.2.2.2.2.2.2.2.1 x.2.2.1.1 (fun u0 => e ((u0, ()), ()))) (fun x e => (F35.q4 k x.2.1.1 x.2.1.2.1 x.2.1.2.2.1 x.2.1.2.2.2.1 x.2.1.2.2.2.2.1 x.2.1.2.2.2.2.2.1 x.2.1.2.2.2.2.2.2.1 x.2.1.2.2.2.2.2.2.2.1 x.2.1.2.2.2.2.2.2.2.2.1 x.2.1.2.2.2.2.2.2.2.2.2.1 x.2.1.2.2.2.2.2.2.2.2.2.2.1 x.2.1.2.2.2.2.2.2.2.2.2.2.2.1 x.2.1.2.2.2.2.2.2.2.2.2.2.2.2.1 x.2.1.2.2.2.2.2.2.2.2.2.2.2.2.2.1 x.2.1.2.2.2.2.2.2.2.2.2.2.2.2.2.2.1 x.2.1.2.2.2.2.2.2.2.2.2.2.2.2.2.2.2.1 x.2.1.2.2.2.2.2.2.2.2.2.2.2.2.2.2.2.2.1 x.2.1.2.2.2.2.2.2.2.2.2.2.2.2.2.2.2.2.2.1 x.2.2.1.1 e).symm) 9
theorem F35.snd : q16 Z1 F35.S :=
 q11 (C := F35.C) (S := F35.S) (fn := Tryz.f28) (c := q19 Tryz.f28) q18 (q17 tisT) F35.env Tryz.func28 (by kernel_rfl) (by kernel_rfl) (L := fun k => [F35.J4 k]) (fun k => (q45 4 (lc := F35.J4 k) (c0 := q41 Tryz.f28 4) (by kernel_rfl) (by kernel_rfl) (F35.jl4 k) q13)) (fun k x => F35.eq k x.1)
theorem F36.env : q26 Z1 F36.C := show EnvL Z1 [F29.S, F32.S] from (q5 F29.snd (q5 F32.snd q20))
theorem F36.snd : q16 Z1 F36.S :=
 q11 (C := F36.C) (S := F36.S) (fn := Tryz.f29) (c := q19 Tryz.f29) q18 (q17 tisT) F36.env Tryz.func29 (by kernel_rfl) (by kernel_rfl) (L := fun k => []) (fun k => q13) (fun k x => F36.eq k x.1)
theorem F37.env : q26 Z1 F37.C := show EnvL Z1 [] from q20
theorem F37.snd : q16 Z1 F37.S :=
 q11 (C := F37.C) (S := F37.S) (fn := Tryz.f32) (c := q19 Tryz.f32) q18 (q17 tisT) F37.env Tryz.func32 (by kernel_rfl) (by kernel_rfl) (L := fun k => []) (fun k => q13) (fun k x => F37.eq k x.1 x.2.1)
theorem F38.env : q26 Z1 F38.C := show EnvL Z1 [] from q20
theorem F38.snd : q16 Z1 F38.S :=
 q11 (C := F38.C) (S := F38.S) (fn := Tryz.f73) (c := q19 Tryz.f73) q18 (q17 tisT) F38.env Tryz.func73 (by kernel_rfl) (by kernel_rfl) (L := fun k => []) (fun k => q13) (fun k x => F38.eq k x.1)
theorem F39.env : q26 Z1 F39.C := show EnvL Z1 [] from q20
theorem F39.l0 {R : Type} (k : Nat) : LCs Z1 F39.C (.loop (q12 Tryz.f74 0)) (F39.L0 (R := R) k) :=
 q14 q18 (q17 tisT) F39.env (k := k) (L := []) (n := 1) (inn := (F39.L0 (R := R) k).inn) (outs := (F39.L0 (R := R) k).outs) q13 (fun j x e => F39.loop0 k j x.1.1 x.1.2.1 x.1.2.2.1 (fun u0 => e (.inl ((u0, ()), ()))) (fun _ => e (.inr (((), ()))))) (fun _ _ => rfl) (fun j x e => (F39.r0 k j x.1.1 x.1.2.1 x.1.2.2.1 e).symm) 0 k
theorem F39.snd : q16 Z1 F39.S :=
 q11 (C := F39.C) (S := F39.S) (fn := Tryz.f74) (c := q19 Tryz.f74) q18 (q17 tisT) F39.env Tryz.func74 (by kernel_rfl) (by kernel_rfl) (L := fun k => [F39.L0 k]) (fun k => (q23 0 (lc := F39.L0 k) (c0 := q12 Tryz.f74 0) (by kernel_rfl) (by kernel_rfl) (F39.l0 k) q13)) (fun k x => F39.eq k x.1)
theorem F40.env : q26 Z1 F40.C := show EnvL Z1 [] from q20
theorem F40.snd : q16 Z1 F40.S :=
 q11 (C := F40.C) (S := F40.S) (fn := Tryz.f75) (c := q19 Tryz.f75) q18 (q17 tisT) F40.env Tryz.func75 (by kernel_rfl) (by kernel_rfl) (L := fun k => []) (fun k => q13) (fun k x => F40.eq k x.1)
theorem F41.env : q26 Z1 F41.C := show EnvL Z1 [] from q20
theorem F41.snd : q16 Z1 F41.S :=
 q11 (C := F41.C) (S := F41.S) (fn := Tryz.f99) (c := q19 Tryz.f99) q18 (q17 tisT) F41.env Tryz.func99 (by kernel_rfl) (by kernel_rfl) (L := fun k => []) (fun k => q13) (fun k x => F41.eq k x.1 x.2.1)
theorem F42.env : q26 Z1 F42.C := show EnvL Z1 [] from q20
theorem F42.snd : q16 Z1 F42.S :=
 q11 (C := F42.C) (S := F42.S) (fn := Tryz.f111) (c := q19 Tryz.f111) q18 (q17 tisT) F42.env Tryz.func111 (by kernel_rfl) (by kernel_rfl) (L := fun k => []) (fun k => q13) (fun k x => F42.eq k x.1)
theorem F43.env : q26 Z1 F43.C := show EnvL Z1 [F42.S] from (q5 F42.snd q20)
theorem F43.snd : q16 Z1 F43.S :=
 q11 (C := F43.C) (S := F43.S) (fn := Tryz.f100) (c := q19 Tryz.f100) q18 (q17 tisT) F43.env Tryz.func100 (by kernel_rfl) (by kernel_rfl) (L := fun k => []) (fun k => q13) (fun k x => F43.eq k x.1)
theorem F44.env : q26 Z1 F44.C := show EnvL Z1 [F39.S, F41.S, F43.S] from (q5 F39.snd (q5 F41.snd (q5 F43.snd q20)))
theorem F44.l0 {R : Type} (k : Nat) : LCs Z1 F44.C (.loop (q12 Tryz.f76 0)) (F44.L0 (R := R) k) :=
 q14 q18 (q17 tisT) F44.env (k := k) (L := []) (n := 1) (inn := (F44.L0 (R := R) k).inn) (outs := (F44.L0 (R := R) k).outs) q13 (fun j x e => F44.loop0 k j x.1.1 x.1.2.1 x.1.2.2.1 x.1.2.2.2.1 x.1.2.2.2.2.1 x.2.1.1 x.2.1.2.1 x.2.2.1.1 x.2.2.1.2.1 (fun u0 u1 u2 u3 => e ((), ((u0, u1, ()), (u2, u3, ()), ())))) (fun _ _ => rfl) (fun j x e => (F44.r0 k j x.1.1 x.1.2.1 x.1.2.2.1 x.1.2.2.2.1 x.1.2.2.2.2.1 x.2.1.1 x.2.1.2.1 x.2.2.1.1 x.2.2.1.2.1 e).symm) 0 k
theorem F44.snd : q16 Z1 F44.S :=
 q11 (C := F44.C) (S := F44.S) (fn := Tryz.f76) (c := q19 Tryz.f76) q18 (q17 tisT) F44.env Tryz.func76 (by kernel_rfl) (by kernel_rfl) (L := fun k => [F44.L0 k]) (fun k => (q23 0 (lc := F44.L0 k) (c0 := q12 Tryz.f76 0) (by kernel_rfl) (by kernel_rfl) (F44.l0 k) q13)) (fun k x => F44.eq k x.1 x.2.1 x.2.2.1)
theorem F45.env : q26 Z1 F45.C := show EnvL Z1 [F38.S, F39.S, F40.S, F44.S] from (q5 F38.snd (q5 F39.snd (q5 F40.snd (q5 F44.snd q20))))
theorem F45.snd : q16 Z1 F45.S :=
 q11 (C := F45.C) (S := F45.S) (fn := Tryz.f56) (c := q19 Tryz.f56) q18 (q17 tisT) F45.env Tryz.func56 (by kernel_rfl) (by kernel_rfl) (L := fun k => []) (fun k => q13) (fun k x => F45.eq k x.1 x.2.1 x.2.2.1 x.2.2.2.1 x.2.2.2.2.1 x.2.2.2.2.2.1)
theorem F46.env : q26 Z1 F46.C := show EnvL Z1 [] from q20
theorem F46.snd : q16 Z1 F46.S :=
 q11 (C := F46.C) (S := F46.S) (fn := Tryz.f77) (c := q19 Tryz.f77) q18 (q17 tisT) F46.env Tryz.func77 (by kernel_rfl) (by kernel_rfl) (L := fun k => []) (fun k => q13) (fun k x => F46.eq k x.1)
theorem F47.env : q26 Z1 F47.C := show EnvL Z1 [] from q20
theorem F47.snd : q16 Z1 F47.S :=
 q11 (C := F47.C) (S := F47.S) (fn := Tryz.f78) (c := q19 Tryz.f78) q18 (q17 tisT) F47.env Tryz.func78 (by kernel_rfl) (by kernel_rfl) (L := fun k => []) (fun k => q13) (fun k x => F47.eq k x.1)
theorem F48.env : q26 Z1 F48.C := show EnvL Z1 [F42.S] from (q5 F42.snd q20)
theorem F48.snd : q16 Z1 F48.S :=
 q11 (C := F48.C) (S := F48.S) (fn := Tryz.f101) (c := q19 Tryz.f101) q18 (q17 tisT) F48.env Tryz.func101 (by kernel_rfl) (by kernel_rfl) (L := fun k => []) (fun k => q13) (fun k x => F48.eq k x.1 x.2.1)
theorem F49.env : q26 Z1 F49.C := show EnvL Z1 [F48.S] from (q5 F48.snd q20)
theorem F49.snd : q16 Z1 F49.S :=
 q11 (C := F49.C) (S := F49.S) (fn := Tryz.f79) (c := q19 Tryz.f79) q18 (q17 tisT) F49.env Tryz.func79 (by kernel_rfl) (by kernel_rfl) (L := fun k => []) (fun k => q13) (fun k x => F49.eq k x.1 x.2.1 x.2.2.1)
theorem F50.env : q26 Z1 F50.C := show EnvL Z1 [F39.S, F46.S, F47.S, F44.S, F49.S] from (q5 F39.snd (q5 F46.snd (q5 F47.snd (q5 F44.snd (q5 F49.snd q20)))))
theorem F50.jl3 {R : Type} (k : Nat) : LCs Z1 F50.C (q41 Tryz.f57 3) (F50.J3 (R := R) k) :=
 q77 q18 (q17 tisT) F50.env (k := k) (L := []) (n := 0) (inn := (F50.J3 (R := R) k).inn) (outs := (F50.J3 (R := R) k).outs) q13 (fun x e => F50.join3 k x.1.1 x.1.2.1 x.1.2.2.1 x.1.2.2.2.1 x.1.2.2.2.2.1 x.1.2.2.2.2.2.1 (fun u0 => e ((u0, ()), ()))) (fun x e => (F50.q3 k x.1.1 x.1.2.1 x.1.2.2.1 x.1.2.2.2.1 x.1.2.2.2.2.1 x.1.2.2.2.2.2.1 e).symm) 7
theorem F50.snd : q16 Z1 F50.S :=
 q11 (C := F50.C) (S := F50.S) (fn := Tryz.f57) (c := q19 Tryz.f57) q18 (q17 tisT) F50.env Tryz.func57 (by kernel_rfl) (by kernel_rfl) (L := fun k => [F50.J3 k]) (fun k => (q45 3 (lc := F50.J3 k) (c0 := q41 Tryz.f57 3) (by kernel_rfl) (by kernel_rfl) (F50.jl3 k) q13)) (fun k x => F50.eq k x.1 x.2.1 x.2.2.1 x.2.2.2.1 x.2.2.2.2.1 x.2.2.2.2.2.1)
theorem F51.env : q26 Z1 F51.C := show EnvL Z1 [] from q20
theorem F51.snd : q16 Z1 F51.S :=
 q11 (C := F51.C) (S := F51.S) (fn := Tryz.f102) (c := q19 Tryz.f102) q18 (q17 tisT) F51.env Tryz.func102 (by kernel_rfl) (by kernel_rfl) (L := fun k => []) (fun k => q13) (fun k x => F51.eq k x.1)
theorem F52.env : q26 Z1 F52.C := show EnvL Z1 [] from q20
theorem F52.snd : q16 Z1 F52.S :=
 q11 (C := F52.C) (S := F52.S) (fn := Tryz.f103) (c := q19 Tryz.f103) q18 (q17 tisT) F52.env Tryz.func103 (by kernel_rfl) (by kernel_rfl) (L := fun k => []) (fun k => q13) (fun k x => F52.eq k x.1)
theorem F53.env : q26 Z1 F53.C := show EnvL Z1 [F51.S, F52.S] from (q5 F51.snd (q5 F52.snd q20))
theorem F53.l1 {R : Type} (k : Nat) : LCs Z1 F53.C (.loop (q12 Tryz.f80 1)) (F53.L1 (R := R) k) :=
 q14 q18 (q17 tisT) F53.env (k := k) (L := []) (n := 2) (inn := (F53.L1 (R := R) k).inn) (outs := (F53.L1 (R := R) k).outs) q13 (fun j x e => F53.loop1 k j x.1.1 x.1.2.1 x.1.2.2.1 (fun u0 => e (.inl ((u0, ()), ()))) (fun _ => e (.inr (((), ()))))) (fun _ _ => rfl) (fun j x e => (F53.r1 k j x.1.1 x.1.2.1 x.1.2.2.1 e).symm) 2 k
theorem F53.l0 {R : Type} (k : Nat) : LCs Z1 F53.C (.loop (q12 Tryz.f80 0)) (F53.L0 (R := R) k) :=
 q14 q18 (q17 tisT) F53.env (k := k) (L := [F53.L1 k]) (n := 1) (inn := (F53.L0 (R := R) k).inn) (outs := (F53.L0 (R := R) k).outs) (q23 1 (lc := F53.L1 k) (c0 := q12 Tryz.f80 1) (by kernel_rfl) (by kernel_rfl) (F53.l1 k) q13) (fun j x e => F53.loop0 k j x.1.1 x.1.2.1 x.1.2.2.1 (fun u0 => e (.inl ((u0, ()), ()))) (fun _ => e (.inr (((), ()))))) (fun _ _ => rfl) (fun j x e => (F53.r0 k j x.1.1 x.1.2.1 x.1.2.2.1 e).symm) 0 k
theorem F53.snd : q16 Z1 F53.S :=
 q11 (C := F53.C) (S := F53.S) (fn := Tryz.f80) (c := q19 Tryz.f80) q18 (q17 tisT) F53.env Tryz.func80 (by kernel_rfl) (by kernel_rfl) (L := fun k => [F53.L1 k, F53.L0 k]) (fun k => (q23 1 (lc := F53.L1 k) (c0 := q12 Tryz.f80 1) (by kernel_rfl) (by kernel_rfl) (F53.l1 k) (q23 0 (lc := F53.L0 k) (c0 := q12 Tryz.f80 0) (by kernel_rfl) (by kernel_rfl) (F53.l0 k) q13))) (fun k x => F53.eq k x.1 x.2.1)
theorem F54.env : q26 Z1 F54.C := show EnvL Z1 [] from q20
theorem F54.snd : q16 Z1 F54.S :=
 q11 (C := F54.C) (S := F54.S) (fn := Tryz.f81) (c := q19 Tryz.f81) q18 (q17 tisT) F54.env Tryz.func81 (by kernel_rfl) (by kernel_rfl) (L := fun k => []) (fun k => q13) (fun k x => F54.eq k x.1)
theorem F55.env : q26 Z1 F55.C := show EnvL Z1 [] from q20
theorem F55.snd : q16 Z1 F55.S :=
 q11 (C := F55.C) (S := F55.S) (fn := Tryz.f82) (c := q19 Tryz.f82) q18 (q17 tisT) F55.env Tryz.func82 (by kernel_rfl) (by kernel_rfl) (L := fun k => []) (fun k => q13) (fun k x => F55.eq k x.1)
theorem F56.env : q26 Z1 F56.C := show EnvL Z1 [F53.S, F29.S, F54.S, F55.S, F44.S, F49.S] from (q5 F53.snd (q5 F29.snd (q5 F54.snd (q5 F55.snd (q5 F44.snd (q5 F49.snd q20))))))
theorem F56.l0 {R : Type} (k : Nat) : LCs Z1 F56.C (.loop (q12 Tryz.f58 0)) (F56.L0 (R := R) k) :=
 q14 q18 (q17 tisT) F56.env (k := k) (L := []) (n := 1) (inn := (F56.L0 (R := R) k).inn) (outs := (F56.L0 (R := R) k).outs) q13 (fun j x e => F56.loop0 k j x.1.1 x.1.2.1 x.1.2.2.1 x.1.2.2.2.1 x.1.2.2.2.2.1 x.1.2.2.2.2.2.1 x.2.1.1 x.2.1.2.1 x.2.1.2.2.1 (fun u0 => e (.inl ((u0, ()), ()))) (fun u0 u1 => e (.inr (((u0, u1, ()), ()))))) (fun _ _ => rfl) (fun j x e => (F56.r0 k j x.1.1 x.1.2.1 x.1.2.2.1 x.1.2.2.2.1 x.1.2.2.2.2.1 x.1.2.2.2.2.2.1 x.2.1.1 x.2.1.2.1 x.2.1.2.2.1 e).symm) 0 k
theorem F56.l1 {R : Type} (k : Nat) : LCs Z1 F56.C (.loop (q12 Tryz.f58 1)) (F56.L1 (R := R) k) :=
 q14 q18 (q17 tisT) F56.env (k := k) (L := []) (n := 2) (inn := (F56.L1 (R := R) k).inn) (outs := (F56.L1 (R := R) k).outs) q13 (fun j x e => F56.loop1 k j x.1.1 x.1.2.1 x.1.2.2.1 x.1.2.2.2.1 x.1.2.2.2.2.1 (fun u0 => e (.inl ((u0, ()), ()))) (fun _ => e (.inr (((), ()))))) (fun _ _ => rfl) (fun j x e => (F56.r1 k j x.1.1 x.1.2.1 x.1.2.2.1 x.1.2.2.2.1 x.1.2.2.2.2.1 e).symm) 2 k
theorem F56.snd : q16 Z1 F56.S :=
 q11 (C := F56.C) (S := F56.S) (fn := Tryz.f58) (c := q19 Tryz.f58) q18 (q17 tisT) F56.env Tryz.func58 (by kernel_rfl) (by kernel_rfl) (L := fun k => [F56.L0 k, F56.L1 k]) (fun k => (q23 0 (lc := F56.L0 k) (c0 := q12 Tryz.f58 0) (by kernel_rfl) (by kernel_rfl) (F56.l0 k) (q23 1 (lc := F56.L1 k) (c0 := q12 Tryz.f58 1) (by kernel_rfl) (by kernel_rfl) (F56.l1 k) q13))) (fun k x => F56.eq k x.1 x.2.1 x.2.2.1 x.2.2.2.1 x.2.2.2.2.1 x.2.2.2.2.2.1)
theorem F57.env : q26 Z1 F57.C := show EnvL Z1 [F29.S] from (q5 F29.snd q20)
theorem F57.snd : q16 Z1 F57.S :=
 q11 (C := F57.C) (S := F57.S) (fn := Tryz.f83) (c := q19 Tryz.f83) q18 (q17 tisT) F57.env Tryz.func83 (by kernel_rfl) (by kernel_rfl) (L := fun k => []) (fun k => q13) (fun k x => F57.eq k x.1)
theorem F58.env : q26 Z1 F58.C := show EnvL Z1 [F57.S] from (q5 F57.snd q20)
theorem F58.snd : q16 Z1 F58.S :=
 q11 (C := F58.C) (S := F58.S) (fn := Tryz.f59) (c := q19 Tryz.f59) q18 (q17 tisT) F58.env Tryz.func59 (by kernel_rfl) (by kernel_rfl) (L := fun k => []) (fun k => q13) (fun k x => F58.eq k x.1)
theorem F59.env : q26 Z1 F59.C := show EnvL Z1 [] from q20
theorem F59.snd : q16 Z1 F59.S :=
 q11 (C := F59.C) (S := F59.S) (fn := Tryz.f84) (c := q19 Tryz.f84) q18 (q17 tisT) F59.env Tryz.func84 (by kernel_rfl) (by kernel_rfl) (L := fun k => []) (fun k => q13) (fun k x => F59.eq k x.1 x.2.1 x.2.2.1)
theorem F60.env : q26 Z1 F60.C := show EnvL Z1 [] from q20
theorem F60.snd : q16 Z1 F60.S :=
 q11 (C := F60.C) (S := F60.S) (fn := Tryz.f85) (c := q19 Tryz.f85) q18 (q17 tisT) F60.env Tryz.func85 (by kernel_rfl) (by kernel_rfl) (L := fun k => []) (fun k => q13) (fun k x => F60.eq k x.1)
theorem F61.env : q26 Z1 F61.C := show EnvL Z1 [F59.S] from (q5 F59.snd q20)
theorem F61.snd : q16 Z1 F61.S :=
 q11 (C := F61.C) (S := F61.S) (fn := Tryz.f86) (c := q19 Tryz.f86) q18 (q17 tisT) F61.env Tryz.func86 (by kernel_rfl) (by kernel_rfl) (L := fun k => []) (fun k => q13) (fun k x => F61.eq k x.1)
theorem F62.env : q26 Z1 F62.C := show EnvL Z1 [F59.S, F60.S, F61.S] from (q5 F59.snd (q5 F60.snd (q5 F61.snd q20)))
theorem F62.l0 {R : Type} (k : Nat) : LCs Z1 F62.C (.loop (q12 Tryz.f60 0)) (F62.L0 (R := R) k) :=
 q14 q18 (q17 tisT) F62.env (k := k) (L := []) (n := 1) (inn := (F62.L0 (R := R) k).inn) (outs := (F62.L0 (R := R) k).outs) q13 (fun j x e => F62.loop0 k j x.1.1 x.1.2.1 x.1.2.2.1 x.1.2.2.2.1 x.1.2.2.2.2.1 (fun u0 => e (.inl ((u0, ()), ()))) (fun u0 => e (.inr (((u0, ()), ()))))) (fun _ _ => rfl) (fun j x e => (F62.r0 k j x.1.1 x.1.2.1 x.1.2.2.1 x.1.2.2.2.1 x.1.2.2.2.2.1 e).symm) 0 k
theorem F62.snd : q16 Z1 F62.S :=
 q11 (C := F62.C) (S := F62.S) (fn := Tryz.f60) (c := q19 Tryz.f60) q18 (q17 tisT) F62.env Tryz.func60 (by kernel_rfl) (by kernel_rfl) (L := fun k => [F62.L0 k]) (fun k => (q23 0 (lc := F62.L0 k) (c0 := q12 Tryz.f60 0) (by kernel_rfl) (by kernel_rfl) (F62.l0 k) q13)) (fun k x => F62.eq k x.1 x.2.1)
theorem F63.env : q26 Z1 F63.C := show EnvL Z1 [] from q20
theorem F63.snd : q16 Z1 F63.S :=
 q11 (C := F63.C) (S := F63.S) (fn := Tryz.f87) (c := q19 Tryz.f87) q18 (q17 tisT) F63.env Tryz.func87 (by kernel_rfl) (by kernel_rfl) (L := fun k => []) (fun k => q13) (fun k x => F63.eq k x.1)
theorem F64.env : q26 Z1 F64.C := show EnvL Z1 [F63.S] from (q5 F63.snd q20)
theorem F64.snd : q16 Z1 F64.S :=
 q11 (C := F64.C) (S := F64.S) (fn := Tryz.f104) (c := q19 Tryz.f104) q18 (q17 tisT) F64.env Tryz.func104 (by kernel_rfl) (by kernel_rfl) (L := fun k => []) (fun k => q13) (fun k x => F64.eq k x.1 x.2.1)
theorem F65.env : q26 Z1 F65.C := show EnvL Z1 [F64.S, F63.S] from (q5 F64.snd (q5 F63.snd q20))
theorem F65.snd : q16 Z1 F65.S :=
 q11 (C := F65.C) (S := F65.S) (fn := Tryz.f88) (c := q19 Tryz.f88) q18 (q17 tisT) F65.env Tryz.func88 (by kernel_rfl) (by kernel_rfl) (L := fun k => []) (fun k => q13) (fun k x => F65.eq k x.1 x.2.1 x.2.2.1)
theorem F66.env : q26 Z1 F66.C := show EnvL Z1 [F59.S] from (q5 F59.snd q20)
theorem F66.snd : q16 Z1 F66.S :=
 q11 (C := F66.C) (S := F66.S) (fn := Tryz.f89) (c := q19 Tryz.f89) q18 (q17 tisT) F66.env Tryz.func89 (by kernel_rfl) (by kernel_rfl) (L := fun k => []) (fun k => q13) (fun k x => F66.eq k x.1)
theorem F67.env : q26 Z1 F67.C := show EnvL Z1 [F62.S, F59.S, F60.S, F66.S, F49.S, F63.S, F65.S] from (q5 F62.snd (q5 F59.snd (q5 F60.snd (q5 F66.snd (q5 F49.snd (q5 F63.snd (q5 F65.snd q20)))))))
theorem F67.l0 {R : Type} (k : Nat) : LCs Z1 F67.C (.loop (q12 Tryz.f61 0)) (F67.L0 (R := R) k) :=
 q14 q18 (q17 tisT) F67.env (k := k) (L := []) (n := 1) (inn := (F67.L0 (R := R) k).inn) (outs := (F67.L0 (R := R) k).outs) q13 (fun j x e => F67.loop0 k j x.1.1 x.1.2.1 x.1.2.2.1 x.1.2.2.2.1 x.1.2.2.2.2.1 x.2.1 (fun u0 u1 u2 => e (.inl ((u0, u1, u2, ()), ()))) (fun u0 => e (.inr (((), (u0, ())))))) (fun _ _ => rfl) (fun j x e => (F67.r0 k j x.1.1 x.1.2.1 x.1.2.2.1 x.1.2.2.2.1 x.1.2.2.2.2.1 x.2.1 e).symm) 0 k
theorem F67.snd : q16 Z1 F67.S :=
 q11 (C := F67.C) (S := F67.S) (fn := Tryz.f61) (c := q19 Tryz.f61) q18 (q17 tisT) F67.env Tryz.func61 (by kernel_rfl) (by kernel_rfl) (L := fun k => [F67.L0 k]) (fun k => (q23 0 (lc := F67.L0 k) (c0 := q12 Tryz.f61 0) (by kernel_rfl) (by kernel_rfl) (F67.l0 k) q13)) (fun k x => F67.eq k x.1 x.2.1 x.2.2.1)
theorem F68.env : q26 Z1 F68.C := show EnvL Z1 [F45.S, F50.S, F56.S, F32.S, F58.S, F10.S, F62.S, F67.S] from (q5 F45.snd (q5 F50.snd (q5 F56.snd (q5 F32.snd (q5 F58.snd (q5 F10.snd (q5 F62.snd (q5 F67.snd q20))))))))
theorem F68.snd : q16 Z1 F68.S :=
 q11 (C := F68.C) (S := F68.S) (fn := Tryz.f33) (c := q19 Tryz.f33) q18 (q17 tisT) F68.env Tryz.func33 (by kernel_rfl) (by kernel_rfl) (L := fun k => []) (fun k => q13) (fun k x => F68.eq k x.1 x.2.1 x.2.2.1)
theorem F69.env : q26 Z1 F69.C := show EnvL Z1 [F35.S, F36.S, F10.S, F33.S, F37.S, F68.S] from (q5 F35.snd (q5 F36.snd (q5 F10.snd (q5 F33.snd (q5 F37.snd (q5 F68.snd q20))))))
theorem F69.snd : q16 Z1 F69.S :=
 q11 (C := F69.C) (S := F69.S) (fn := Tryz.f11) (c := q19 Tryz.f11) q18 (q17 tisT) F69.env Tryz.func11 (by kernel_rfl) (by kernel_rfl) (L := fun k => []) (fun k => q13) (fun k x => F69.eq k x.1 x.2.1 x.2.2.1)
theorem F70.env : q26 Z1 F70.C := show EnvL Z1 [F16.S, F31.S, F11.S, F69.S] from (q5 F16.snd (q5 F31.snd (q5 F11.snd (q5 F69.snd q20))))
theorem F70.l0 {R : Type} (k : Nat) : LCs Z1 F70.C (.loop (q12 Tryz.f8 0)) (F70.L0 (R := R) k) :=
 q14 q18 (q17 tisT) F70.env (k := k) (L := []) (n := 1) (inn := (F70.L0 (R := R) k).inn) (outs := (F70.L0 (R := R) k).outs) q13 (fun j x e => F70.loop0 k j x.1.1 x.1.2.1 x.1.2.2.1 x.2.1 (fun u0 u1 u2 => e (.inl ((u0, u1, ()), (u2, ())))) (fun u0 => e (.inr (((), (u0, ())))))) (fun _ _ => rfl) (fun j x e => (F70.r0 k j x.1.1 x.1.2.1 x.1.2.2.1 x.2.1 e).symm) 0 k
theorem F70.l1 {R : Type} (k : Nat) : LCs Z1 F70.C (.loop (q12 Tryz.f8 1)) (F70.L1 (R := R) k) :=
 q14 q18 (q17 tisT) F70.env (k := k) (L := []) (n := 2) (inn := (F70.L1 (R := R) k).inn) (outs := (F70.L1 (R := R) k).outs) q13 (fun j x e => F70.loop1 k j x.1.1 x.1.2.1 x.2.1.1 x.2.1.2.1 x.2.1.2.2.1 x.2.1.2.2.2.1 x.2.2.1 x.2.2.2.1 (fun u0 u1 u2 => e (.inl ((u0, u1, ()), (u2, ())))) (fun u0 => e (.inr (((), (u0, ())))))) (fun _ _ => rfl) (fun j x e => (F70.r1 k j x.1.1 x.1.2.1 x.2.1.1 x.2.1.2.1 x.2.1.2.2.1 x.2.1.2.2.2.1 x.2.2.1 x.2.2.2.1 e).symm) 2 k
theorem F70.snd : q16 Z1 F70.S :=
 q11 (C := F70.C) (S := F70.S) (fn := Tryz.f8) (c := q19 Tryz.f8) q18 (q17 tisT) F70.env Tryz.func8 (by kernel_rfl) (by kernel_rfl) (L := fun k => [F70.L0 k, F70.L1 k]) (fun k => (q23 0 (lc := F70.L0 k) (c0 := q12 Tryz.f8 0) (by kernel_rfl) (by kernel_rfl) (F70.l0 k) (q23 1 (lc := F70.L1 k) (c0 := q12 Tryz.f8 1) (by kernel_rfl) (by kernel_rfl) (F70.l1 k) q13))) (fun k x => F70.eq k x.1)
theorem F71.env : q26 Z1 F71.C := show EnvL Z1 [] from q20
theorem F71.snd : q16 Z1 F71.S :=
 q11 (C := F71.C) (S := F71.S) (fn := Tryz.f90) (c := q19 Tryz.f90) q18 (q17 tisT) F71.env Tryz.func90 (by kernel_rfl) (by kernel_rfl) (L := fun k => []) (fun k => q13) (fun k x => F71.eq k x.1 x.2.1 x.2.2.1)
theorem F72.env : q26 Z1 F72.C := show EnvL Z1 [F71.S] from (q5 F71.snd q20)
theorem F72.l0 {R : Type} (k : Nat) : LCs Z1 F72.C (.loop (q12 Tryz.f65 0)) (F72.L0 (R := R) k) :=
 q14 q18 (q17 tisT) F72.env (k := k) (L := []) (n := 1) (inn := (F72.L0 (R := R) k).inn) (outs := (F72.L0 (R := R) k).outs) q13 (fun j x e => F72.loop0 k j x.1.1 x.2.1.1 x.2.1.2.1 x.2.1.2.2.1 x.2.1.2.2.2.1 (fun u0 => e (.inl ((u0, ()), ()))) (fun _ => e (.inr (((), ()))))) (fun _ _ => rfl) (fun j x e => (F72.r0 k j x.1.1 x.2.1.1 x.2.1.2.1 x.2.1.2.2.1 x.2.1.2.2.2.1 e).symm) 0 k
theorem F72.snd : q16 Z1 F72.S :=
 q11 (C := F72.C) (S := F72.S) (fn := Tryz.f65) (c := q19 Tryz.f65) q18 (q17 tisT) F72.env Tryz.func65 (by kernel_rfl) (by kernel_rfl) (L := fun k => [F72.L0 k]) (fun k => (q23 0 (lc := F72.L0 k) (c0 := q12 Tryz.f65 0) (by kernel_rfl) (by kernel_rfl) (F72.l0 k) q13)) (fun k x => F72.eq k x.1)
theorem F73.env : q26 Z1 F73.C := show EnvL Z1 [] from q20
theorem F73.snd : q16 Z1 F73.S :=
 q11 (C := F73.C) (S := F73.S) (fn := Tryz.f9) (c := q19 Tryz.f9) q18 (q17 tisT) F73.env Tryz.func9 (by kernel_rfl) (by kernel_rfl) (L := fun k => []) (fun k => q13) (fun k x => F73.eq k x.1)
theorem F74.env : q26 Z1 F74.C := show EnvL Z1 [] from q20
theorem F74.snd : q16 Z1 F74.S :=
 q11 (C := F74.C) (S := F74.S) (fn := Tryz.f93) (c := q19 Tryz.f93) q18 (q17 tisT) F74.env Tryz.func93 (by kernel_rfl) (by kernel_rfl) (L := fun k => []) (fun k => q13) (fun k x => F74.eq k x.1)
theorem F75.env : q26 Z1 F75.C := show EnvL Z1 [F74.S] from (q5 F74.snd q20)
theorem F75.jl10 {R : Type} (k : Nat) : LCs Z1 F75.C (q41 Tryz.f91 10) (F75.J10 (R := R) k) :=
 q77 q18 (q17 tisT) F75.env (k := k) (L := []) (n := 0) (inn := (F75.J10 (R := R) k).inn) (outs := (F75.J10 (R := R) k).outs) q13 (fun x e => F75.join10 k x.1.1 x.1.2.1 x.1.2.2.1 x.2.1.1 x.2.1.2.1 x.2.1.2.2.1 x.2.1.2.2.2.1 x.2.1.2.2.2.2.1 x.2.1.2.2.2.2.2.1 x.2.1.2.2.2.2.2.2.1 x.2.1.2.2.2.2.2.2.2.1 x.2.1.2.2.2.2.2.2.2.2.1 x.2.1.2.2.2.2.2.2.2.2.2.1 x.2.1.2.2.2.2.2.2.2.2.2.2.1 x.2.1.2.2.2.2.2.2.2.2.2.2.2.1 x.2.1.2.2.2.2.2.2.2.2.2.2.2.2.1 x.2.1.2.2.2.2.2.2.2.2.2.2.2.2.2.1 x.2.1.2.2.2.2.2.2.2.2.2.2.2.2.2.2.1 x.2.1.2.2.2.2.2.2.2.2.2.2.2.2.2.2.2.1 x.2.1.2.2.2.2.2.2.2.2.2.2.2.2.2.2.2.2.1 x.2.1.2.2.2.2.2.2.2.2.2.2.2.2.2.2.2.2.2.1 (fun _ => e (.inl ((), ()))) (fun u0 => e (.inr (((u0, ()), ()))))) (fun x e => (F75.q10 k x.1.1 x.1.2.1 x.1.2.2.1 x.2.1.1 x.2.1.2.1 x.2.1.2.2.1 x.2.1.2.2.2.1 x.2.1.2.2.2.2.1 x.2.1.2.2.2.2.2.1 x.2.1.2.2.2.2.2.2.1 x.2.1.2.2.2.2.2.2.2.1 x.2.1.2.2.2.2.2.2.2.2.1 x.2.1.2.2.2.2.2.2.2.2.2.1 x.2.1.2.2.2.2.2.2.2.2.2.2.1 x.2.1.2.2.2.2.2.2.2.2.2.2.2.1 x.2.1.2.2.2.2.2.2.2.2.2.2.2.2.1 x.2.1.2.2.2.2.2.2.2.2.2.2.2.2.2.1 x.2.1.2.2.2.2.2.2.2.2.2.2.2.2.2.2.1 x.2.1.2.2.2.2.2.2.2.2.2.2.2.2.2.2.2.1 x.2.1.2.2.2.2.2.2.2.2.2.2.2.2.2.2.2.2.1 x.2.1.2.2.2.2.2.2.2.2.2.2.2.2.2.2.2.2.2.1 e).symm) 21
theorem F75.jl9 {R : Type} (k : Nat) : LCs Z1 F75.C (q41 Tryz.f91 9) (F75.J9 (R := R) k) :=
 q77 q18 (q17 tisT) F75.env (k := k) (L := [F75.J10 k]) (n := 0) (inn := (F75.J9 (R := R) k).inn) (outs := (F75.J9 (R := R) k).outs) (q45 10 (lc := F75.J10 k) (c0 := q41 Tryz.f91 10) (by kernel_rfl) (by kernel_rfl) (F75.jl10 k) q13) (fun x e => F75.join9 k x.1.1 x.1.2.1 x.1.2.2.1 x.2.1.1 x.2.1.2.1 x.2.1.2.2.1 x.2.1.2.2.2.1 x.2.1.2.2.2.2.1 x.2.1.2.2.2.2.2.1 x.2.1.2.2.2.2.2.2.1 x.2.1.2.2.2.2.2.2.2.1 x.2.1.2.2.2.2.2.2.2.2.1 x.2.1.2.2.2.2.2.2.2.2.2.1 x.2.1.2.2.2.2.2.2.2.2.2.2.1 x.2.1.2.2.2.2.2.2.2.2.2.2.2.1 x.2.1.2.2.2.2.2.2.2.2.2.2.2.2.1 x.2.1.2.2.2.2.2.2.2.2.2.2.2.2.2.1 x.2.1.2.2.2.2.2.2.2.2.2.2.2.2.2.2.1 x.2.1.2.2.2.2.2.2.2.2.2.2.2.2.2.2.2.1 x.2.1.2.2.2.2.2.2.2.2.2.2.2.2.2.2.2.2.1 x.2.1.2.2.2.2.2.2.2.2.2.2.2.2.2.2.2.2.2.1 (fun _ => e (.inl ((), ()))) (fun u0 => e (.inr (((u0, ()), ()))))) (fun x e => (F75.q9 k x.1.1 x.1.2.1 x.1.2.2.1 x.2.1.1 x.2.1.2.1 x.2.1.2.2.1 x.2.1.2.2.2.1 x.2.1.2.2.2.2.1 x.2.1.2.2.2.2.2.1 x.2.1.2.2.2.2.2.2.1 x.2.1.2.2.2.2.2.2.2.1 x.2.1.2.2.2.2.2.2.2.2.1 x.2.1.2.2.2.2.2.2.2.2.2.1 x.2.1.2.2.2.2.2.2.2.2.2.2.1 x.2.1.2.2.2.2.2.2.2.2.2.2.2.1 x.2.1.2.2.2.2.2.2.2.2.2.2.2.2.1 x.2.1.2.2.2.2.2.2.2.2.2.2.2.2.2.1 x.2.1.2.2.2.2.2.2.2.2.2.2.2.2.2.2.1 x.2.1.2.2.2.2.2.2.2.2.2.2.2.2.2.2.2.1 x.2.1.2.2.2.2.2.2.2.2.2.2.2.2.2.2.2.2.1 x.2.1.2.2.2.2.2.2.2.2.2.2.2.2.2.2.2.2.2.1 e).symm) 19
theorem F75.jl8 {R : Type} (k : Nat) : LCs Z1 F75.C (q41 Tryz.f91 8) (F75.J8 (R := R) k) :=
 q77 q18 (q17 tisT) F75.env (k := k) (L := [F75.J10 k, F75.J9 k]) (n := 0) (inn := (F75.J8 (R := R) k).inn) (outs := (F75.J8 (R := R) k).outs) (q45 10 (lc := F75.J10 k) (c0 := q41 Tryz.f91 10) (by kernel_rfl) (by kernel_rfl) (F75.jl10 k) (q45 9 (lc := F75.J9 k) (c0 := q41 Tryz.f91 9) (by kernel_rfl) (by kernel_rfl) (F75.jl9 k) q13)) (fun x e => F75.join8 k x.1.1 x.1.2.1 x.1.2.2.1 x.2.1.1 x.2.1.2.1 x.2.1.2.2.1 x.2.1.2.2.2.1 x.2.1.2.2.2.2.1 x.2.1.2.2.2.2.2.1 x.2.1.2.2.2.2.2.2.1 x.2.1.2.2.2.2.2.2.2.1 x.2.1.2.2.2.2.2.2.2.2.1 x.2.1.2.2.2.2.2.2.2.2.2.1 x.2.1.2.2.2.2.2.2.2.2.2.2.1 x.2.1.2.2.2.2.2.2.2.2.2.2.2.1 x.2.1.2.2.2.2.2.2.2.2.2.2.2.2.1 x.2.1.2.2.2.2.2.2.2.2.2.2.2.2.2.1 x.2.1.2.2.2.2.2.2.2.2.2.2.2.2.2.2.1 x.2.1.2.2.2.2.2.2.2.2.2.2.2.2.2.2.2.1 x.2.1.2.2.2.2.2.2.2.2.2.2.2.2.2.2.2.2.1 x.2.1.2.2.2.2.2.2.2.2.2.2.2.2.2.2.2.2.2.1 (fun _ => e (.inl ((), ()))) (fun u0 => e (.inr (((u0, ()), ()))))) (fun x e => (F75.q8 k x.1.1 x.1.2.1 x.1.2.2.1 x.2.1.1 x.2.1.2.1 x.2.1.2.2.1 x.2.1.2.2.2.1 x.2.1.2.2.2.2.1 x.2.1.2.2.2.2.2.1 x.2.1.2.2.2.2.2.2.1 x.2.1.2.2.2.2.2.2.2.1 x.2.1.2.2.2.2.2.2.2.2.1 x.2.1.2.2.2.2.2.2.2.2.2.1 x.2.1.2.2.2.2.2.2.2.2.2.2.1 x.2.1.2.2.2.2.2.2.2.2.2.2.2.1 x.2.1.2.2.2.2.2.2.2.2.2.2.2.2.1 x.2.1.2.2.2.2.2.2.2.2.2.2.2.2.2.1 x.2.1.2.2.2.2.2.2.2.2.2.2.2.2.2.2.1 x.2.1.2.2.2.2.2.2.2.2.2.2.2.2.2.2.2.1 x.2.1.2.2.2.2.2.2.2.2.2.2.2.2.2.2.2.2.1 x.2.1.2.2.2.2.2.2.2.2.2.2.2.2.2.2.2.2.2.1 e).symm) 17
theorem F75.jl7 {R : Type} (k : Nat) : LCs Z1 F75.C (q41 Tryz.f91 7) (F75.J7 (R := R) k) :=
 q77 q18 (q17 tisT) F75.env (k := k) (L := [F75.J10 k, F75.J9 k, F75.J8 k]) (n := 0) (inn := (F75.J7 (R := R) k).inn) (outs := (F75.J7 (R := R) k).outs) (q45 10 (lc := F75.J10 k) (c0 := q41 Tryz.f91 10) (by kernel_rfl) (by kernel_rfl) (F75.jl10 k) (q45 9 (lc := F75.J9 k) (c0 := q41 Tryz.f91 9) (by kernel_rfl) (by kernel_rfl) (F75.jl9 k) (q45 8 (lc := F75.J8 k) (c0 := q41 Tryz.f91 8) (by kernel_rfl) (by kernel_rfl) (F75.jl8 k) q13))) (fun x e => F75.join7 k x.1.1 x.1.2.1 x.1.2.2.1 x.2.1.1 x.2.1.2.1 x.2.1.2.2.1 x.2.1.2.2.2.1 x.2.1.2.2.2.2.1 x.2.1.2.2.2.2.2.1 x.2.1.2.2.2.2.2.2.1 x.2.1.2.2.2.2.2.2.2.1 x.2.1.2.2.2.2.2.2.2.2.1 x.2.1.2.2.2.2.2.2.2.2.2.1 x.2.1.2.2.2.2.2.2.2.2.2.2.1 x.2.1.2.2.2.2.2.2.2.2.2.2.2.1 x.2.1.2.2.2.2.2.2.2.2.2.2.2.2.1 x.2.1.2.2.2.2.2.2.2.2.2.2.2.2.2.1 x.2.1.2.2.2.2.2.2.2.2.2.2.2.2.2.2.1 x.2.1.2.2.2.2.2.2.2.2.2.2.2.2.2.2.2.1 x.2.1.2.2.2.2.2.2.2.2.2.2.2.2.2.2.2.2.1 x.2.1.2.2.2.2.2.2.2.2.2.2.2.2.2.2.2.2.2.1 (fun _ => e (.inl ((), ()))) (fun u0 => e (.inr (((u0, ()), ()))))) (fun x e => (F75.q7 k x.1.1 x.1.2.1 x.1.2.2.1 x.2.1.1 x.2.1.2.1 x.2.1.2.2.1 x.2.1.2.2.2.1 x.2.1.2.2.2.2.1 x.2.1.2.2.2.2.2.1 x.2.1.2.2.2.2.2.2.1 x.2.1.2.2.2.2.2.2.2.1 x.2.1.2.2.2.2.2.2.2.2.1 x.2.1.2.2.2.2.2.2.2.2.2.1 x.2.1.2.2.2.2.2.2.2.2.2.2.1 x.2.1.2.2.2.2.2.2.2.2.2.2.2.1 x.2.1.2.2.2.2.2.2.2.2.2.2.2.2.1 x.2.1.2.2.2.2.2.2.2.2.2.2.2.2.2.1 x.2.1.2.2.2.2.2.2.2.2.2.2.2.2.2.2.1 x.2.1.2.2.2.2.2.2.2.2.2.2.2.2.2.2.2.1 x.2.1.2.2.2.2.2.2.2.2.2.2.2.2.2.2.2.2.1 x.2.1.2.2.2.2.2.2.2.2.2.2.2.2.2.2.2.2.2.1 e).symm) 15
theorem F75.jl6 {R : Type} (k : Nat) : LCs Z1 F75.C (q41 Tryz.f91 6) (F75.J6 (R := R) k) :=
 q77 q18 (q17 tisT) F75.env (k := k) (L := [F75.J10 k, F75.J9 k, F75.J8 k, F75.J7 k]) (n := 0) (inn := (F75.J6 (R := R) k).inn) (outs := (F75.J6 (R := R) k).outs) (q45 10 (lc := F75.J10 k) (c0 := q41 Tryz.f91 10) (by kernel_rfl) (by kernel_rfl) (F75.jl10 k) (q45 9 (lc := F75.J9 k) (c0 := q41 Tryz.f91 9) (by kernel_rfl) (by kernel_rfl) (F75.jl9 k) (q45 8 (lc := F75.J8 k) (c0 := q41 Tryz.f91 8) (by kernel_rfl) (by kernel_rfl) (F75.jl8 k) (q45 7 (lc := F75.J7 k) (c0 := q41 Tryz.f91 7) (by kernel_rfl) (by kernel_rfl) (F75.jl7 k) q13)))) (fun x e => F75.join6 k x.1.1 x.1.2.1 x.1.2.2.1 x.1.2.2.2.1 x.2.1.1 x.2.1.2.1 x.2.1.2.2.1 x.2.1.2.2.2.1 x.2.1.2.2.2.2.1 x.2.1.2.2.2.2.2.1 x.2.1.2.2.2.2.2.2.1 x.2.1.2.2.2.2.2.2.2.1 x.2.1.2.2.2.2.2.2.2.2.1 x.2.1.2.2.2.2.2.2.2.2.2.1 x.2.1.2.2.2.2.2.2.2.2.2.2.1 x.2.1.2.2.2.2.2.2.2.2.2.2.2.1 x.2.1.2.2.2.2.2.2.2.2.2.2.2.2.1 x.2.1.2.2.2.2.2.2.2.2.2.2.2.2.2.1 x.2.1.2.2.2.2.2.2.2.2.2.2.2.2.2.2.1 x.2.1.2.2.2.2.2.2.2.2.2.2.2.2.2.2.2.1 x.2.1.2.2.2.2.2.2.2.2.2.2.2.2.2.2.2.2.1 x.2.1.2.2.2.2.2.2.2.2.2.2.2.2.2.2.2.2.2.1 (fun _ => e (.inl ((), ()))) (fun u0 => e (.inr (((u0, ()), ()))))) (fun x e => (F75.q6 k x.1.1 x.1.2.1 x.1.2.2.1 x.1.2.2.2.1 x.2.1.1 x.2.1.2.1 x.2.1.2.2.1 x.2.1.2.2.2.1 x.2.1.2.2.2.2.1 x.2.1.2.2.2.2.2.1 x.2.1.2.2.2.2.2.2.1 x.2.1.2.2.2.2.2.2.2.1 x.2.1.2.2.2.2.2.2.2.2.1 x.2.1.2.2.2.2.2.2.2.2.2.1 x.2.1.2.2.2.2.2.2.2.2.2.2.1 x.2.1.2.2.2.2.2.2.2.2.2.2.2.1 x.2.1.2.2.2.2.2.2.2.2.2.2.2.2.1 x.2.1.2.2.2.2.2.2.2.2.2.2.2.2.2.1 x.2.1.2.2.2.2.2.2.2.2.2.2.2.2.2.2.1 x.2.1.2.2.2.2.2.2.2.2.2.2.2.2.2.2.2.1 x.2.1.2.2.2.2.2.2.2.2.2.2.2.2.2.2.2.2.1 x.2.1.2.2.2.2.2.2.2.2.2.2.2.2.2.2.2.2.2.1 e).symm) 13
theorem F75.jl3 {R : Type} (k : Nat) : LCs Z1 F75.C (q41 Tryz.f91 3) (F75.J3 (R := R) k) :=
 q77 q18 (q17 tisT) F75.env (k := k) (L := [F75.J10 k, F75.J9 k, F75.J8 k, F75.J7 k, F75.J6 k]) (n := 0) (inn := (F75.J3 (R := R) k).inn) (outs := (F75.J3 (R := R) k).outs) (q45 10 (lc := F75.J10 k) (c0 := q41 Tryz.f91 10) (by kernel_rfl) (by kernel_rfl) (F75.jl10 k) (q45 9 (lc := F75.J9 k) (c0 := q41 Tryz.f91 9) (by kernel_rfl) (by kernel_rfl) (F75.jl9 k) (q45 8 (lc := F75.J8 k) (c0 := q41 Tryz.f91 8) (by kernel_rfl) (by kernel_rfl) (F75.jl8 k) (q45 7 (lc := F75.J7 k) (c0 := q41 Tryz.f91 7) (by kernel_rfl) (by kernel_rfl) (F75.jl7 k) (q45 6 (lc := F75.J6 k) (c0 := q41 Tryz.f91 6) (by kernel_rfl) (by kernel_rfl) (F75.jl6 k) q13))))) (fun x e => F75.join3 k x.2.1.1 x.2.1.2.1 x.2.1.2.2.1 x.2.1.2.2.2.1 x.2.1.2.2.2.2.1 x.2.1.2.2.2.2.2.1 x.2.1.2.2.2.2.2.2.1 x.2.1.2.2.2.2.2.2.2.1 x.2.1.2.2.2.2.2.2.2.2.1 x.2.1.2.2.2.2.2.2.2.2.2.1 x.2.1.2.2.2.2.2.2.2.2.2.2.1 x.2.1.2.2.2.2.2.2.2.2.2.2.2.1 x.2.1.2.2.2.2.2.2.2.2.2.2.2.2.1 x.2.1.2.2.2.2.2.2.2.2.2.2.2.2.2.1 x.2.1.2.2.2.2.2.2.2.2.2.2.2.2.2.2.1 x.2.1.2.2.2.2.2.2.2.2.2.2.2.2.2.2.2.1 x.2.1.2.2.2.2.2.2.2.2.2.2.2.2.2.2.2.2.1 x.2.1.2.2.2.2.2.2.2.2.2.2.2.2.2.2.2.2.2.1 (fun u0 => e ((u0, ()), ()))) (fun x e => (F75.q3 k x.2.1.1 x.2.1.2.1 x.2.1.2.2.1 x.2.1.2.2.2.1 x.2.1.2.2.2.2.1 x.2.1.2.2.2.2.2.1 x.2.1.2.2.2.2.2.2.1 x.2.1.2.2.2.2.2.2.2.1 x.2.1.2.2.2.2.2.2.2.2.1 x.2.1.2.2.2.2.2.2.2.2.2.1 x.2.1.2.2.2.2.2.2.2.2.2.2.1 x.2.1.2.2.2.2.2.2.2.2.2.2.2.1 x.2.1.2.2.2.2.2.2.2.2.2.2.2.2.1 x.2.1.2.2.2.2.2.2.2.2.2.2.2.2.2.1 x.2.1.2.2.2.2.2.2.2.2.2.2.2.2.2.2.1 x.2.1.2.2.2.2.2.2.2.2.2.2.2.2.2.2.2.1 x.2.1.2.2.2.2.2.2.2.2.2.2.2.2.2.2.2.2.1 x.2.1.2.2.2.2.2.2.2.2.2.2.2.2.2.2.2.2.2.1 e).symm) 7
theorem F75.snd : q16 Z1 F75.S :=
 q11 (C := F75.C) (S := F75.S) (fn := Tryz.f91) (c := q19 Tryz.f91) q18 (q17 tisT) F75.env Tryz.func91 (by kernel_rfl) (by kernel_rfl) (L := fun k => [F75.J10 k, F75.J9 k, F75.J8 k, F75.J7 k, F75.J6 k, F75.J3 k]) (fun k => (q45 10 (lc := F75.J10 k) (c0 := q41 Tryz.f91 10) (by kernel_rfl) (by kernel_rfl) (F75.jl10 k) (q45 9 (lc := F75.J9 k) (c0 := q41 Tryz.f91 9) (by kernel_rfl) (by kernel_rfl) (F75.jl9 k) (q45 8 (lc := F75.J8 k) (c0 := q41 Tryz.f91 8) (by kernel_rfl) (by kernel_rfl) (F75.jl8 k) (q45 7 (lc := F75.J7 k) (c0 := q41 Tryz.f91 7) (by kernel_rfl) (by kernel_rfl) (F75.jl7 k) (q45 6 (lc := F75.J6 k) (c0 := q41 Tryz.f91 6) (by kernel_rfl) (by kernel_rfl) (F75.jl6 k) (q45 3 (lc := F75.J3 k) (c0 := q41 Tryz.f91 3) (by kernel_rfl) (by kernel_rfl) (F75.jl3 k) q13))))))) (fun k x => F75.eq k x.1)
theorem F76.env : q26 Z1 F76.C := show EnvL Z1 [F71.S] from (q5 F71.snd q20)
theorem F76.snd : q16 Z1 F76.S :=
 q11 (C := F76.C) (S := F76.S) (fn := Tryz.f92) (c := q19 Tryz.f92) q18 (q17 tisT) F76.env Tryz.func92 (by kernel_rfl) (by kernel_rfl) (L := fun k => []) (fun k => q13) (fun k x => F76.eq k x.1)
theorem F77.env : q26 Z1 F77.C := show EnvL Z1 [] from q20
theorem F77.snd : q16 Z1 F77.S :=
 q11 (C := F77.C) (S := F77.S) (fn := Tryz.f94) (c := q19 Tryz.f94) q18 (q17 tisT) F77.env Tryz.func94 (by kernel_rfl) (by kernel_rfl) (L := fun k => []) (fun k => q13) (fun k x => F77.eq k x.1 x.2.1)
theorem F78.env : q26 Z1 F78.C := show EnvL Z1 [] from q20
theorem F78.snd : q16 Z1 F78.S :=
 q11 (C := F78.C) (S := F78.S) (fn := Tryz.f112) (c := q19 Tryz.f112) q18 (q17 tisT) F78.env Tryz.func112 (by kernel_rfl) (by kernel_rfl) (L := fun k => []) (fun k => q13) (fun k x => F78.eq k x.1)
theorem F79.env : q26 Z1 F79.C := show EnvL Z1 [] from q20
theorem F79.snd : q16 Z1 F79.S :=
 q11 (C := F79.C) (S := F79.S) (fn := Tryz.f122) (c := q19 Tryz.f122) q18 (q17 tisT) F79.env Tryz.func122 (by kernel_rfl) (by kernel_rfl) (L := fun k => []) (fun k => q13) (fun k x => F79.eq k x.1)
theorem F80.env : q26 Z1 F80.C := show EnvL Z1 [F79.S] from (q5 F79.snd q20)
theorem F80.l0 {R : Type} (k : Nat) : LCs Z1 F80.C (.loop (q12 Tryz.f113 0)) (F80.L0 (R := R) k) :=
 q14 q18 (q17 tisT) F80.env (k := k) (L := []) (n := 1) (inn := (F80.L0 (R := R) k).inn) (outs := (F80.L0 (R := R) k).outs) q13 (fun j x e => F80.loop0 k j x.1.1 x.1.2.1 (fun u0 => e (.inl ((u0, ()), ()))) (fun _ => e (.inr (((), ()))))) (fun _ _ => rfl) (fun j x e => (F80.r0 k j x.1.1 x.1.2.1 e).symm) 0 k
theorem F80.snd : q16 Z1 F80.S :=
 q11 (C := F80.C) (S := F80.S) (fn := Tryz.f113) (c := q19 Tryz.f113) q18 (q17 tisT) F80.env Tryz.func113 (by kernel_rfl) (by kernel_rfl) (L := fun k => [F80.L0 k]) (fun k => (q23 0 (lc := F80.L0 k) (c0 := q12 Tryz.f113 0) (by kernel_rfl) (by kernel_rfl) (F80.l0 k) q13)) (fun k x => F80.eq k x.1)
theorem F81.env : q26 Z1 F81.C := show EnvL Z1 [] from q20
theorem F81.snd : q16 Z1 F81.S :=
 q11 (C := F81.C) (S := F81.S) (fn := Tryz.f114) (c := q19 Tryz.f114) q18 (q17 tisT) F81.env Tryz.func114 (by kernel_rfl) (by kernel_rfl) (L := fun k => []) (fun k => q13) (fun k x => F81.eq k x.1)
theorem F82.env : q26 Z1 F82.C := show EnvL Z1 [] from q20
theorem F82.snd : q16 Z1 F82.S :=
 q11 (C := F82.C) (S := F82.S) (fn := Tryz.f115) (c := q19 Tryz.f115) q18 (q17 tisT) F82.env Tryz.func115 (by kernel_rfl) (by kernel_rfl) (L := fun k => []) (fun k => q13) (fun k x => F82.eq k x.1)
theorem F83.env : q26 Z1 F83.C := show EnvL Z1 [F80.S] from (q5 F80.snd q20)
theorem F83.snd : q16 Z1 F83.S :=
 q11 (C := F83.C) (S := F83.S) (fn := Tryz.f123) (c := q19 Tryz.f123) q18 (q17 tisT) F83.env Tryz.func123 (by kernel_rfl) (by kernel_rfl) (L := fun k => []) (fun k => q13) (fun k x => F83.eq k x.1)
theorem F84.env : q26 Z1 F84.C := show EnvL Z1 [] from q20
theorem F84.snd : q16 Z1 F84.S :=
 q11 (C := F84.C) (S := F84.S) (fn := Tryz.f124) (c := q19 Tryz.f124) q18 (q17 tisT) F84.env Tryz.func124 (by kernel_rfl) (by kernel_rfl) (L := fun k => []) (fun k => q13) (fun k x => F84.eq k x.1)
theorem F85.env : q26 Z1 F85.C := show EnvL Z1 [F83.S, F84.S] from (q5 F83.snd (q5 F84.snd q20))
theorem F85.l0 {R : Type} (k : Nat) : LCs Z1 F85.C (.loop (q12 Tryz.f116 0)) (F85.L0 (R := R) k) :=
 q14 q18 (q17 tisT) F85.env (k := k) (L := []) (n := 1) (inn := (F85.L0 (R := R) k).inn) (outs := (F85.L0 (R := R) k).outs) q13 (fun j x e => F85.loop0 k j x.1.1 x.1.2.1 x.1.2.2.1 x.1.2.2.2.1 x.1.2.2.2.2.1 x.1.2.2.2.2.2.1 (fun u0 u1 => e ((u0, u1, ()), ()))) (fun _ _ => rfl) (fun j x e => (F85.r0 k j x.1.1 x.1.2.1 x.1.2.2.1 x.1.2.2.2.1 x.1.2.2.2.2.1 x.1.2.2.2.2.2.1 e).symm) 0 k
theorem F85.snd : q16 Z1 F85.S :=
 q11 (C := F85.C) (S := F85.S) (fn := Tryz.f116) (c := q19 Tryz.f116) q18 (q17 tisT) F85.env Tryz.func116 (by kernel_rfl) (by kernel_rfl) (L := fun k => [F85.L0 k]) (fun k => (q23 0 (lc := F85.L0 k) (c0 := q12 Tryz.f116 0) (by kernel_rfl) (by kernel_rfl) (F85.l0 k) q13)) (fun k x => F85.eq k x.1 x.2.1 x.2.2.1)
theorem F86.env : q26 Z1 F86.C := show EnvL Z1 [F78.S, F80.S, F81.S, F82.S, F85.S] from (q5 F78.snd (q5 F80.snd (q5 F81.snd (q5 F82.snd (q5 F85.snd q20)))))
theorem F86.snd : q16 Z1 F86.S :=
 q11 (C := F86.C) (S := F86.S) (fn := Tryz.f105) (c := q19 Tryz.f105) q18 (q17 tisT) F86.env Tryz.func105 (by kernel_rfl) (by kernel_rfl) (L := fun k => []) (fun k => q13) (fun k x => F86.eq k x.1 x.2.1 x.2.2.1 x.2.2.2.1 x.2.2.2.2.1 x.2.2.2.2.2.1)
theorem F87.env : q26 Z1 F87.C := show EnvL Z1 [F84.S, F81.S] from (q5 F84.snd (q5 F81.snd q20))
theorem F87.snd : q16 Z1 F87.S :=
 q11 (C := F87.C) (S := F87.S) (fn := Tryz.f125) (c := q19 Tryz.f125) q18 (q17 tisT) F87.env Tryz.func125 (by kernel_rfl) (by kernel_rfl) (L := fun k => []) (fun k => q13) (fun k x => F87.eq k x.1 x.2.1)
theorem F88.env : q26 Z1 F88.C := show EnvL Z1 [F87.S] from (q5 F87.snd q20)
theorem F88.snd : q16 Z1 F88.S :=
 q11 (C := F88.C) (S := F88.S) (fn := Tryz.f117) (c := q19 Tryz.f117) q18 (q17 tisT) F88.env Tryz.func117 (by kernel_rfl) (by kernel_rfl) (L := fun k => []) (fun k => q13) (fun k x => F88.eq k x.1 x.2.1 x.2.2.1)
theorem F89.env : q26 Z1 F89.C := show EnvL Z1 [F78.S, F80.S, F81.S, F82.S, F85.S, F88.S] from (q5 F78.snd (q5 F80.snd (q5 F81.snd (q5 F82.snd (q5 F85.snd (q5 F88.snd q20))))))
theorem F89.jl7 {R : Type} (k : Nat) : LCs Z1 F89.C (q41 Tryz.f106 7) (F89.J7 (R := R) k) :=
 q77 q18 (q17 tisT) F89.env (k := k) (L := []) (n := 0) (inn := (F89.J7 (R := R) k).inn) (outs := (F89.J7 (R := R) k).outs) q13 (fun x e => F89.join7 k x.1.1 x.1.2.1 x.1.2.2.1 x.1.2.2.2.1 (fun u0 => e ((u0, ()), ()))) (fun x e => (F89.q7 k x.1.1 x.1.2.1 x.1.2.2.1 x.1.2.2.2.1 e).symm) 15
theorem F89.snd : q16 Z1 F89.S :=
 q11 (C := F89.C) (S := F89.S) (fn := Tryz.f106) (c := q19 Tryz.f106) q18 (q17 tisT) F89.env Tryz.func106 (by kernel_rfl) (by kernel_rfl) (L := fun k => [F89.J7 k]) (fun k => (q45 7 (lc := F89.J7 k) (c0 := q41 Tryz.f106 7) (by kernel_rfl) (by kernel_rfl) (F89.jl7 k) q13)) (fun k x => F89.eq k x.1 x.2.1 x.2.2.1 x.2.2.2.1 x.2.2.2.2.1 x.2.2.2.2.2.1)
theorem F90.env : q26 Z1 F90.C := show EnvL Z1 [] from q20
theorem F90.snd : q16 Z1 F90.S :=
 q11 (C := F90.C) (S := F90.S) (fn := Tryz.f97) (c := q19 Tryz.f97) q18 (q17 tisT) F90.env Tryz.func97 (by kernel_rfl) (by kernel_rfl) (L := fun k => []) (fun k => q13) (fun k x => F90.eq k x.1)
theorem F91.env : q26 Z1 F91.C := show EnvL Z1 [] from q20
theorem F91.snd : q16 Z1 F91.S :=
 q11 (C := F91.C) (S := F91.S) (fn := Tryz.f126) (c := q19 Tryz.f126) q18 (q17 tisT) F91.env Tryz.func126 (by kernel_rfl) (by kernel_rfl) (L := fun k => []) (fun k => q13) (fun k x => F91.eq k x.1)
theorem F92.env : q26 Z1 F92.C := show EnvL Z1 [F90.S, F80.S, F91.S] from (q5 F90.snd (q5 F80.snd (q5 F91.snd q20)))
theorem F92.l0 {R : Type} (k : Nat) : LCs Z1 F92.C (.loop (q12 Tryz.f118 0)) (F92.L0 (R := R) k) :=
 q14 q18 (q17 tisT) F92.env (k := k) (L := []) (n := 1) (inn := (F92.L0 (R := R) k).inn) (outs := (F92.L0 (R := R) k).outs) q13 (fun j x e => F92.loop0 k j x.1.1 x.1.2.1 (fun u0 => e (.inl ((u0, ()), ()))) (fun _ => e (.inr (((), ()))))) (fun _ _ => rfl) (fun j x e => (F92.r0 k j x.1.1 x.1.2.1 e).symm) 0 k
theorem F92.snd : q16 Z1 F92.S :=
 q11 (C := F92.C) (S := F92.S) (fn := Tryz.f118) (c := q19 Tryz.f118) q18 (q17 tisT) F92.env Tryz.func118 (by kernel_rfl) (by kernel_rfl) (L := fun k => [F92.L0 k]) (fun k => (q23 0 (lc := F92.L0 k) (c0 := q12 Tryz.f118 0) (by kernel_rfl) (by kernel_rfl) (F92.l0 k) q13)) (fun k x => F92.eq k x.1 x.2.1)
theorem F93.env : q26 Z1 F93.C := show EnvL Z1 [F92.S, F81.S, F82.S, F85.S, F88.S] from (q5 F92.snd (q5 F81.snd (q5 F82.snd (q5 F85.snd (q5 F88.snd q20)))))
theorem F93.l0 {R : Type} (k : Nat) : LCs Z1 F93.C (.loop (q12 Tryz.f107 0)) (F93.L0 (R := R) k) :=
 q14 q18 (q17 tisT) F93.env (k := k) (L := []) (n := 1) (inn := (F93.L0 (R := R) k).inn) (outs := (F93.L0 (R := R) k).outs) q13 (fun j x e => F93.loop0 k j x.1.1 x.1.2.1 x.1.2.2.1 x.1.2.2.2.1 x.1.2.2.2.2.1 x.2.1.1 x.2.1.2.1 x.2.1.2.2.1 (fun u0 => e (.inl ((u0, ()), ()))) (fun u0 u1 => e (.inr (((u0, u1, ()), ()))))) (fun _ _ => rfl) (fun j x e => (F93.r0 k j x.1.1 x.1.2.1 x.1.2.2.1 x.1.2.2.2.1 x.1.2.2.2.2.1 x.2.1.1 x.2.1.2.1 x.2.1.2.2.1 e).symm) 0 k
theorem F93.l1 {R : Type} (k : Nat) : LCs Z1 F93.C (.loop (q12 Tryz.f107 1)) (F93.L1 (R := R) k) :=
 q14 q18 (q17 tisT) F93.env (k := k) (L := []) (n := 2) (inn := (F93.L1 (R := R) k).inn) (outs := (F93.L1 (R := R) k).outs) q13 (fun j x e => F93.loop1 k j x.1.1 x.1.2.1 x.1.2.2.1 x.1.2.2.2.1 (fun u0 => e (.inl ((u0, ()), ()))) (fun _ => e (.inr (((), ()))))) (fun _ _ => rfl) (fun j x e => (F93.r1 k j x.1.1 x.1.2.1 x.1.2.2.1 x.1.2.2.2.1 e).symm) 2 k
theorem F93.snd : q16 Z1 F93.S :=
 q11 (C := F93.C) (S := F93.S) (fn := Tryz.f107) (c := q19 Tryz.f107) q18 (q17 tisT) F93.env Tryz.func107 (by kernel_rfl) (by kernel_rfl) (L := fun k => [F93.L0 k, F93.L1 k]) (fun k => (q23 0 (lc := F93.L0 k) (c0 := q12 Tryz.f107 0) (by kernel_rfl) (by kernel_rfl) (F93.l0 k) (q23 1 (lc := F93.L1 k) (c0 := q12 Tryz.f107 1) (by kernel_rfl) (by kernel_rfl) (F93.l1 k) q13))) (fun k x => F93.eq k x.1 x.2.1 x.2.2.1 x.2.2.2.1 x.2.2.2.2.1 x.2.2.2.2.2.1)
theorem F94.env : q26 Z1 F94.C := show EnvL Z1 [] from q20
theorem F94.snd : q16 Z1 F94.S :=
 q11 (C := F94.C) (S := F94.S) (fn := Tryz.f108) (c := q19 Tryz.f108) q18 (q17 tisT) F94.env Tryz.func108 (by kernel_rfl) (by kernel_rfl) (L := fun k => []) (fun k => q13) (fun k x => F94.eq k x.1)
theorem F95.env : q26 Z1 F95.C := show EnvL Z1 [] from q20
theorem F95.snd : q16 Z1 F95.S :=
 q11 (C := F95.C) (S := F95.S) (fn := Tryz.f119) (c := q19 Tryz.f119) q18 (q17 tisT) F95.env Tryz.func119 (by kernel_rfl) (by kernel_rfl) (L := fun k => []) (fun k => q13) (fun k x => F95.eq k x.1 x.2.1 x.2.2.1)
theorem F96.env : q26 Z1 F96.C := show EnvL Z1 [F95.S] from (q5 F95.snd q20)
theorem F96.snd : q16 Z1 F96.S :=
 q11 (C := F96.C) (S := F96.S) (fn := Tryz.f109) (c := q19 Tryz.f109) q18 (q17 tisT) F96.env Tryz.func109 (by kernel_rfl) (by kernel_rfl) (L := fun k => []) (fun k => q13) (fun k x => F96.eq k x.1)
theorem F97.env : q26 Z1 F97.C := show EnvL Z1 [] from q20
theorem F97.snd : q16 Z1 F97.S :=
 q11 (C := F97.C) (S := F97.S) (fn := Tryz.f127) (c := q19 Tryz.f127) q18 (q17 tisT) F97.env Tryz.func127 (by kernel_rfl) (by kernel_rfl) (L := fun k => []) (fun k => q13) (fun k x => F97.eq k x.1)
theorem F98.env : q26 Z1 F98.C := show EnvL Z1 [F81.S] from (q5 F81.snd q20)
theorem F98.snd : q16 Z1 F98.S :=
 q11 (C := F98.C) (S := F98.S) (fn := Tryz.f128) (c := q19 Tryz.f128) q18 (q17 tisT) F98.env Tryz.func128 (by kernel_rfl) (by kernel_rfl) (L := fun k => []) (fun k => q13) (fun k x => F98.eq k x.1)
theorem F99.env : q26 Z1 F99.C := show EnvL Z1 [F97.S, F98.S] from (q5 F97.snd (q5 F98.snd q20))
theorem F99.l0 {R : Type} (k : Nat) : LCs Z1 F99.C (.loop (q12 Tryz.f120 0)) (F99.L0 (R := R) k) :=
 q14 q18 (q17 tisT) F99.env (k := k) (L := []) (n := 1) (inn := (F99.L0 (R := R) k).inn) (outs := (F99.L0 (R := R) k).outs) q13 (fun j x e => F99.loop0 k j x.1.1 x.1.2.1 x.1.2.2.1 x.1.2.2.2.1 (fun u0 => e (.inl ((u0, ()), ()))) (fun u0 => e (.inr (((u0, ()), ()))))) (fun _ _ => rfl) (fun j x e => (F99.r0 k j x.1.1 x.1.2.1 x.1.2.2.1 x.1.2.2.2.1 e).symm) 0 k
theorem F99.snd : q16 Z1 F99.S :=
 q11 (C := F99.C) (S := F99.S) (fn := Tryz.f120) (c := q19 Tryz.f120) q18 (q17 tisT) F99.env Tryz.func120 (by kernel_rfl) (by kernel_rfl) (L := fun k => [F99.L0 k]) (fun k => (q23 0 (lc := F99.L0 k) (c0 := q12 Tryz.f120 0) (by kernel_rfl) (by kernel_rfl) (F99.l0 k) q13)) (fun k x => F99.eq k x.1 x.2.1)
theorem F100.env : q26 Z1 F100.C := show EnvL Z1 [] from q20
theorem F100.snd : q16 Z1 F100.S :=
 q11 (C := F100.C) (S := F100.S) (fn := Tryz.f130) (c := q19 Tryz.f130) q18 (q17 tisT) F100.env Tryz.func130 (by kernel_rfl) (by kernel_rfl) (L := fun k => []) (fun k => q13) (fun k x => F100.eq k x.1)
theorem F101.env : q26 Z1 F101.C := show EnvL Z1 [] from q20
theorem F101.snd : q16 Z1 F101.S :=
 q11 (C := F101.C) (S := F101.S) (fn := Tryz.f132) (c := q19 Tryz.f132) q18 (q17 tisT) F101.env Tryz.func132 (by kernel_rfl) (by kernel_rfl) (L := fun k => []) (fun k => q13) (fun k x => F101.eq k x.1 x.2.1)
theorem F102.env : q26 Z1 F102.C := show EnvL Z1 [F101.S] from (q5 F101.snd q20)
theorem F102.snd : q16 Z1 F102.S :=
 q11 (C := F102.C) (S := F102.S) (fn := Tryz.f131) (c := q19 Tryz.f131) q18 (q17 tisT) F102.env Tryz.func131 (by kernel_rfl) (by kernel_rfl) (L := fun k => []) (fun k => q13) (fun k x => F102.eq k x.1 x.2.1)
theorem F103.env : q26 Z1 F103.C := show EnvL Z1 [F100.S, F84.S, F102.S, F88.S] from (q5 F100.snd (q5 F84.snd (q5 F102.snd (q5 F88.snd q20))))
theorem F103.snd : q16 Z1 F103.S :=
 q11 (C := F103.C) (S := F103.S) (fn := Tryz.f129) (c := q19 Tryz.f129) q18 (q17 tisT) F103.env Tryz.func129 (by kernel_rfl) (by kernel_rfl) (L := fun k => []) (fun k => q13) (fun k x => F103.eq k x.1 x.2.1 x.2.2.1 x.2.2.2.1 x.2.2.2.2.1)
theorem F104.env : q26 Z1 F104.C := show EnvL Z1 [F99.S, F82.S, F97.S, F103.S] from (q5 F99.snd (q5 F82.snd (q5 F97.snd (q5 F103.snd q20))))
theorem F104.l0 {R : Type} (k : Nat) : LCs Z1 F104.C (.loop (q12 Tryz.f121 0)) (F104.L0 (R := R) k) :=
 q14 q18 (q17 tisT) F104.env (k := k) (L := []) (n := 1) (inn := (F104.L0 (R := R) k).inn) (outs := (F104.L0 (R := R) k).outs) q13 (fun j x e => F104.loop0 k j x.1.1 x.1.2.1 x.1.2.2.1 x.1.2.2.2.1 x.2.1 (fun u0 u1 u2 => e (.inl ((u0, u1, u2, ()), ()))) (fun u0 => e (.inr (((), (u0, ())))))) (fun _ _ => rfl) (fun j x e => (F104.r0 k j x.1.1 x.1.2.1 x.1.2.2.1 x.1.2.2.2.1 x.2.1 e).symm) 0 k
theorem F104.snd : q16 Z1 F104.S :=
 q11 (C := F104.C) (S := F104.S) (fn := Tryz.f121) (c := q19 Tryz.f121) q18 (q17 tisT) F104.env Tryz.func121 (by kernel_rfl) (by kernel_rfl) (L := fun k => [F104.L0 k]) (fun k => (q23 0 (lc := F104.L0 k) (c0 := q12 Tryz.f121 0) (by kernel_rfl) (by kernel_rfl) (F104.l0 k) q13)) (fun k x => F104.eq k x.1 x.2.1 x.2.2.1)
theorem F105.env : q26 Z1 F105.C := show EnvL Z1 [F99.S, F82.S, F104.S] from (q5 F99.snd (q5 F82.snd (q5 F104.snd q20)))
theorem F105.snd : q16 Z1 F105.S :=
 q11 (C := F105.C) (S := F105.S) (fn := Tryz.f110) (c := q19 Tryz.f110) q18 (q17 tisT) F105.env Tryz.func110 (by kernel_rfl) (by kernel_rfl) (L := fun k => []) (fun k => q13) (fun k x => F105.eq k x.1 x.2.1 x.2.2.1 x.2.2.2.1 x.2.2.2.2.1)
theorem F106.env : q26 Z1 F106.C := show EnvL Z1 [F86.S, F89.S, F93.S, F94.S, F96.S, F24.S, F105.S] from (q5 F86.snd (q5 F89.snd (q5 F93.snd (q5 F94.snd (q5 F96.snd (q5 F24.snd (q5 F105.snd q20)))))))
theorem F106.snd : q16 Z1 F106.S :=
 q11 (C := F106.C) (S := F106.S) (fn := Tryz.f95) (c := q19 Tryz.f95) q18 (q17 tisT) F106.env Tryz.func95 (by kernel_rfl) (by kernel_rfl) (L := fun k => []) (fun k => q13) (fun k x => F106.eq k x.1 x.2.1 x.2.2.1)
theorem F107.env : q26 Z1 F107.C := show EnvL Z1 [F75.S, F76.S, F24.S, F74.S, F77.S, F106.S] from (q5 F75.snd (q5 F76.snd (q5 F24.snd (q5 F74.snd (q5 F77.snd (q5 F106.snd q20))))))
theorem F107.snd : q16 Z1 F107.S :=
 q11 (C := F107.C) (S := F107.S) (fn := Tryz.f66) (c := q19 Tryz.f66) q18 (q17 tisT) F107.env Tryz.func66 (by kernel_rfl) (by kernel_rfl) (L := fun k => []) (fun k => q13) (fun k x => F107.eq k x.1 x.2.1 x.2.2.1)
theorem F108.env : q26 Z1 F108.C := show EnvL Z1 [F28.S, F72.S, F73.S, F24.S, F107.S] from (q5 F28.snd (q5 F72.snd (q5 F73.snd (q5 F24.snd (q5 F107.snd q20)))))
theorem F108.l0 {R : Type} (k : Nat) : LCs Z1 F108.C (.loop (q12 Tryz.f40 0)) (F108.L0 (R := R) k) :=
 q14 q18 (q17 tisT) F108.env (k := k) (L := []) (n := 1) (inn := (F108.L0 (R := R) k).inn) (outs := (F108.L0 (R := R) k).outs) q13 (fun j x e => F108.loop0 k j x.1.1 x.2.1.1 x.2.1.2.1 x.2.1.2.2.1 x.2.1.2.2.2.1 x.2.2.1 (fun u0 u1 u2 => e (.inl ((u0, u1, ()), (u2, ())))) (fun u0 u1 u2 u3 u4 => e (.inr (((), ((u0, u1, u2, u3, ()), u4, ())))))) (fun _ _ => rfl) (fun j x e => (F108.r0 k j x.1.1 x.2.1.1 x.2.1.2.1 x.2.1.2.2.1 x.2.1.2.2.2.1 x.2.2.1 e).symm) 0 k
theorem F108.l1 {R : Type} (k : Nat) : LCs Z1 F108.C (.loop (q12 Tryz.f40 1)) (F108.L1 (R := R) k) :=
 q14 q18 (q17 tisT) F108.env (k := k) (L := []) (n := 2) (inn := (F108.L1 (R := R) k).inn) (outs := (F108.L1 (R := R) k).outs) q13 (fun j x e => F108.loop1 k j x.1.1 x.2.1.1 x.2.1.2.1 x.2.1.2.2.1 x.2.1.2.2.2.1 x.2.2.1 x.2.2.2.1 (fun u0 u1 u2 => e (.inl ((u0, u1, ()), (u2, ())))) (fun u0 => e (.inr (((), (u0, ())))))) (fun _ _ => rfl) (fun j x e => (F108.r1 k j x.1.1 x.2.1.1 x.2.1.2.1 x.2.1.2.2.1 x.2.1.2.2.2.1 x.2.2.1 x.2.2.2.1 e).symm) 2 k
theorem F108.snd : q16 Z1 F108.S :=
 q11 (C := F108.C) (S := F108.S) (fn := Tryz.f40) (c := q19 Tryz.f40) q18 (q17 tisT) F108.env Tryz.func40 (by kernel_rfl) (by kernel_rfl) (L := fun k => [F108.L0 k, F108.L1 k]) (fun k => (q23 0 (lc := F108.L0 k) (c0 := q12 Tryz.f40 0) (by kernel_rfl) (by kernel_rfl) (F108.l0 k) (q23 1 (lc := F108.L1 k) (c0 := q12 Tryz.f40 1) (by kernel_rfl) (by kernel_rfl) (F108.l1 k) q13))) (fun k x => F108.eq k x.1)
theorem F109.env : q26 Z1 F109.C := show EnvL Z1 [F70.S] from (q5 F70.snd q20)
theorem F109.snd : q16 Z1 F109.S :=
 q11 (C := F109.C) (S := F109.S) (fn := Tryz.f41) (c := q19 Tryz.f41) q18 (q17 tisT) F109.env Tryz.func41 (by kernel_rfl) (by kernel_rfl) (L := fun k => []) (fun k => q13) (fun k x => F109.eq k x.1)
theorem F110.env : q26 Z1 F110.C := show EnvL Z1 [] from q20
theorem F110.l0 {R : Type} (k : Nat) : LCs Z1 F110.C (.loop (q12 Tryz.f42 0)) (F110.L0 (R := R) k) :=
 q14 q18 (q17 tisT) F110.env (k := k) (L := []) (n := 1) (inn := (F110.L0 (R := R) k).inn) (outs := (F110.L0 (R := R) k).outs) q13 (fun j x e => F110.loop0 k j x.1.1 x.1.2.1 x.1.2.2.1 (fun u0 => e (.inl ((u0, ()), ()))) (fun _ => e (.inr (((), ()))))) (fun _ _ => rfl) (fun j x e => (F110.r0 k j x.1.1 x.1.2.1 x.1.2.2.1 e).symm) 0 k
theorem F110.snd : q16 Z1 F110.S :=
 q11 (C := F110.C) (S := F110.S) (fn := Tryz.f42) (c := q19 Tryz.f42) q18 (q17 tisT) F110.env Tryz.func42 (by kernel_rfl) (by kernel_rfl) (L := fun k => [F110.L0 k]) (fun k => (q23 0 (lc := F110.L0 k) (c0 := q12 Tryz.f42 0) (by kernel_rfl) (by kernel_rfl) (F110.l0 k) q13)) (fun k x => F110.eq k x.1 x.2.1)
theorem F111.env : q26 Z1 F111.C := show EnvL Z1 [F25.S] from (q5 F25.snd q20)
theorem F111.l2 {R : Type} (k : Nat) : LCs Z1 F111.C (.loop (q12 Tryz.f67 2)) (F111.L2 (R := R) k) :=
 q14 q18 (q17 tisT) F111.env (k := k) (L := []) (n := 3) (inn := (F111.L2 (R := R) k).inn) (outs := (F111.L2 (R := R) k).outs) q13 (fun j x e => F111.loop2 k j x.1.1 x.1.2.1 x.1.2.2.1 x.1.2.2.2.1 x.2.1.1 x.2.1.2.1 x.2.1.2.2.1 x.2.1.2.2.2.1 x.2.2.1 x.2.2.2.1 (fun u0 u1 u2 u3 u4 => e ((), ((u0, u1, u2, u3, ()), u4, ())))) (fun _ _ => rfl) (fun j x e => (F111.r2 k j x.1.1 x.1.2.1 x.1.2.2.1 x.1.2.2.2.1 x.2.1.1 x.2.1.2.1 x.2.1.2.2.1 x.2.1.2.2.2.1 x.2.2.1 x.2.2.2.1 e).symm) 4 k
theorem F111.l1 {R : Type} (k : Nat) : LCs Z1 F111.C (.loop (q12 Tryz.f67 1)) (F111.L1 (R := R) k) :=
 q14 q18 (q17 tisT) F111.env (k := k) (L := [F111.L2 k]) (n := 2) (inn := (F111.L1 (R := R) k).inn) (outs := (F111.L1 (R := R) k).outs) (q23 2 (lc := F111.L2 k) (c0 := q12 Tryz.f67 2) (by kernel_rfl) (by kernel_rfl) (F111.l2 k) q13) (fun j x e => F111.loop1 k j x.1.1 x.1.2.1 x.1.2.2.1 x.2.1.1 x.2.1.2.1 x.2.1.2.2.1 x.2.1.2.2.2.1 x.2.2.1 (fun u0 u1 u2 u3 u4 => e ((), ((u0, u1, u2, u3, ()), u4, ())))) (fun _ _ => rfl) (fun j x e => (F111.r1 k j x.1.1 x.1.2.1 x.1.2.2.1 x.2.1.1 x.2.1.2.1 x.2.1.2.2.1 x.2.1.2.2.2.1 x.2.2.1 e).symm) 2 k
theorem F111.l0 {R : Type} (k : Nat) : LCs Z1 F111.C (.loop (q12 Tryz.f67 0)) (F111.L0 (R := R) k) :=
 q14 q18 (q17 tisT) F111.env (k := k) (L := [F111.L2 k, F111.L1 k]) (n := 1) (inn := (F111.L0 (R := R) k).inn) (outs := (F111.L0 (R := R) k).outs) (q23 2 (lc := F111.L2 k) (c0 := q12 Tryz.f67 2) (by kernel_rfl) (by kernel_rfl) (F111.l2 k) (q23 1 (lc := F111.L1 k) (c0 := q12 Tryz.f67 1) (by kernel_rfl) (by kernel_rfl) (F111.l1 k) q13)) (fun j x e => F111.loop0 k j x.1.1 x.1.2.1 x.2.1.1 x.2.1.2.1 x.2.1.2.2.1 x.2.1.2.2.2.1 x.2.2.1 (fun u0 => e ((), (u0, ())))) (fun _ _ => rfl) (fun j x e => (F111.r0 k j x.1.1 x.1.2.1 x.2.1.1 x.2.1.2.1 x.2.1.2.2.1 x.2.1.2.2.2.1 x.2.2.1 e).symm) 0 k
theorem F111.snd : q16 Z1 F111.S :=
 q11 (C := F111.C) (S := F111.S) (fn := Tryz.f67) (c := q19 Tryz.f67) q18 (q17 tisT) F111.env Tryz.func67 (by kernel_rfl) (by kernel_rfl) (L := fun k => [F111.L2 k, F111.L1 k, F111.L0 k]) (fun k => (q23 2 (lc := F111.L2 k) (c0 := q12 Tryz.f67 2) (by kernel_rfl) (by kernel_rfl) (F111.l2 k) (q23 1 (lc := F111.L1 k) (c0 := q12 Tryz.f67 1) (by kernel_rfl) (by kernel_rfl) (F111.l1 k) (q23 0 (lc := F111.L0 k) (c0 := q12 Tryz.f67 0) (by kernel_rfl) (by kernel_rfl) (F111.l0 k) q13)))) (fun k x => F111.eq k x.1 x.2.1)
theorem F112.env : q26 Z1 F112.C := show EnvL Z1 [F28.S, F111.S, F25.S] from (q5 F28.snd (q5 F111.snd (q5 F25.snd q20)))
theorem F112.l0 {R : Type} (k : Nat) : LCs Z1 F112.C (.loop (q12 Tryz.f43 0)) (F112.L0 (R := R) k) :=
 q14 q18 (q17 tisT) F112.env (k := k) (L := []) (n := 1) (inn := (F112.L0 (R := R) k).inn) (outs := (F112.L0 (R := R) k).outs) q13 (fun j x e => F112.loop0 k j x.1.1 x.1.2.1 x.1.2.2.1 x.2.1.1 x.2.1.2.1 x.2.1.2.2.1 x.2.1.2.2.2.1 (fun u0 u1 u2 u3 u4 u5 => e ((u0, u1, ()), ((u2, u3, u4, u5, ()), ())))) (fun _ _ => rfl) (fun j x e => (F112.r0 k j x.1.1 x.1.2.1 x.1.2.2.1 x.2.1.1 x.2.1.2.1 x.2.1.2.2.1 x.2.1.2.2.2.1 e).symm) 0 k
theorem F112.l2 {R : Type} (k : Nat) : LCs Z1 F112.C (.loop (q12 Tryz.f43 2)) (F112.L2 (R := R) k) :=
 q14 q18 (q17 tisT) F112.env (k := k) (L := []) (n := 3) (inn := (F112.L2 (R := R) k).inn) (outs := (F112.L2 (R := R) k).outs) q13 (fun j x e => F112.loop2 k j x.1.1 x.1.2.1 x.1.2.2.1 x.2.1.1 x.2.1.2.1 x.2.1.2.2.1 x.2.1.2.2.2.1 x.2.2.1 x.2.2.2.1 (fun u0 u1 u2 u3 u4 u5 => e ((u0, ()), ((u1, u2, u3, u4, ()), u5, ())))) (fun _ _ => rfl) (fun j x e => (F112.r2 k j x.1.1 x.1.2.1 x.1.2.2.1 x.2.1.1 x.2.1.2.1 x.2.1.2.2.1 x.2.1.2.2.2.1 x.2.2.1 x.2.2.2.1 e).symm) 4 k
theorem F112.l1 {R : Type} (k : Nat) : LCs Z1 F112.C (.loop (q12 Tryz.f43 1)) (F112.L1 (R := R) k) :=
 q14 q18 (q17 tisT) F112.env (k := k) (L := [F112.L2 k]) (n := 2) (inn := (F112.L1 (R := R) k).inn) (outs := (F112.L1 (R := R) k).outs) (q23 2 (lc := F112.L2 k) (c0 := q12 Tryz.f43 2) (by kernel_rfl) (by kernel_rfl) (F112.l2 k) q13) (fun j x e => F112.loop1 k j x.1.1 x.1.2.1 x.2.1.1 x.2.1.2.1 x.2.1.2.2.1 x.2.1.2.2.2.1 x.2.2.1 x.2.2.2.1 (fun u0 => e ((), (u0, ())))) (fun _ _ => rfl) (fun j x e => (F112.r1 k j x.1.1 x.1.2.1 x.2.1.1 x.2.1.2.1 x.2.1.2.2.1 x.2.1.2.2.2.1 x.2.2.1 x.2.2.2.1 e).symm) 2 k
theorem F112.snd : q16 Z1 F112.S :=
 q11 (C := F112.C) (S := F112.S) (fn := Tryz.f43) (c := q19 Tryz.f43) q18 (q17 tisT) F112.env Tryz.func43 (by kernel_rfl) (by kernel_rfl) (L := fun k => [F112.L0 k, F112.L2 k, F112.L1 k]) (fun k => (q23 0 (lc := F112.L0 k) (c0 := q12 Tryz.f43 0) (by kernel_rfl) (by kernel_rfl) (F112.l0 k) (q23 2 (lc := F112.L2 k) (c0 := q12 Tryz.f43 2) (by kernel_rfl) (by kernel_rfl) (F112.l2 k) (q23 1 (lc := F112.L1 k) (c0 := q12 Tryz.f43 1) (by kernel_rfl) (by kernel_rfl) (F112.l1 k) q13)))) (fun k x => F112.eq k x.1)
theorem F113.env : q26 Z1 F113.C := show EnvL Z1 [F16.S, F28.S, F70.S, F108.S, F109.S, F110.S, F23.S, F112.S] from (q5 F16.snd (q5 F28.snd (q5 F70.snd (q5 F108.snd (q5 F109.snd (q5 F110.snd (q5 F23.snd (q5 F112.snd q20))))))))
theorem F113.l0 {R : Type} (k : Nat) : LCs Z1 F113.C (.loop (q12 Tryz.f14 0)) (F113.L0 (R := R) k) :=
 q14 q18 (q17 tisT) F113.env (k := k) (L := []) (n := 1) (inn := (F113.L0 (R := R) k).inn) (outs := (F113.L0 (R := R) k).outs) q13 (fun j x e => F113.loop0 k j x.1.1 x.2.1 x.2.2.1 (fun u0 => e (.inl ((u0, ()), ()))) (fun _ => e (.inr (((), ()))))) (fun _ _ => rfl) (fun j x e => (F113.r0 k j x.1.1 x.2.1 x.2.2.1 e).symm) 0 k
theorem F113.snd : q16 Z1 F113.S :=
 q11 (C := F113.C) (S := F113.S) (fn := Tryz.f14) (c := q19 Tryz.f14) q18 (q17 tisT) F113.env Tryz.func14 (by kernel_rfl) (by kernel_rfl) (L := fun k => [F113.L0 k]) (fun k => (q23 0 (lc := F113.L0 k) (c0 := q12 Tryz.f14 0) (by kernel_rfl) (by kernel_rfl) (F113.l0 k) q13)) (fun k x => F113.eq k x.1)
theorem F114.env : q26 Z1 F114.C := show EnvL Z1 [F8.S, F16.S, F23.S, F70.S] from (q5 F8.snd (q5 F16.snd (q5 F23.snd (q5 F70.snd q20))))
theorem F114.snd : q16 Z1 F114.S :=
 q11 (C := F114.C) (S := F114.S) (fn := Tryz.f12) (c := q19 Tryz.f12) q18 (q17 tisT) F114.env Tryz.func12 (by kernel_rfl) (by kernel_rfl) (L := fun k => []) (fun k => q13) (fun k x => F114.eq k)
theorem F115.env : q26 Z1 F115.C := show EnvL Z1 [F4.S, F5.S, F9.S, F16.S, F23.S, F113.S, F25.S, F114.S] from (q5 F4.snd (q5 F5.snd (q5 F9.snd (q5 F16.snd (q5 F23.snd (q5 F113.snd (q5 F25.snd (q5 F114.snd q20))))))))
theorem F115.l1 {R : Type} (k : Nat) : LCs Z1 F115.C (.loop (q12 Tryz.f5 1)) (F115.L1 (R := R) k) :=
 q14 q18 (q17 tisT) F115.env (k := k) (L := []) (n := 2) (inn := (F115.L1 (R := R) k).inn) (outs := (F115.L1 (R := R) k).outs) q13 (fun j x e => F115.loop1 k j x.1.1 x.1.2.1 x.1.2.2.1 x.2.1 (fun u0 => e ((u0, ()), ()))) (fun _ _ => rfl) (fun j x e => (F115.r1 k j x.1.1 x.1.2.1 x.1.2.2.1 x.2.1 e).symm) 2 k
theorem F115.l0 {R : Type} (k : Nat) : LCs Z1 F115.C (.loop (q12 Tryz.f5 0)) (F115.L0 (R := R) k) :=
 q14 q18 (q17 tisT) F115.env (k := k) (L := [F115.L1 k]) (n := 1) (inn := (F115.L0 (R := R) k).inn) (outs := (F115.L0 (R := R) k).outs) (q23 1 (lc := F115.L1 k) (c0 := q12 Tryz.f5 1) (by kernel_rfl) (by kernel_rfl) (F115.l1 k) q13) (fun j x e => F115.loop0 k j x.1.1 x.2.1.1 x.2.1.2.1 x.2.1.2.2.1 x.2.1.2.2.2.1 x.2.2.1 (fun u0 => e (.inl ((u0, ()), ()))) (fun u0 u1 u2 u3 => e (.inr (((), ((u0, u1, u2, u3, ()), ())))))) (fun _ _ => rfl) (fun j x e => (F115.r0 k j x.1.1 x.2.1.1 x.2.1.2.1 x.2.1.2.2.1 x.2.1.2.2.2.1 x.2.2.1 e).symm) 0 k
theorem F115.snd : q16 Z1 F115.S :=
 q11 (C := F115.C) (S := F115.S) (fn := Tryz.f5) (c := q19 Tryz.f5) q18 (q17 tisT) F115.env Tryz.func5 (by kernel_rfl) (by kernel_rfl) (L := fun k => [F115.L1 k, F115.L0 k]) (fun k => (q23 1 (lc := F115.L1 k) (c0 := q12 Tryz.f5 1) (by kernel_rfl) (by kernel_rfl) (F115.l1 k) (q23 0 (lc := F115.L0 k) (c0 := q12 Tryz.f5 0) (by kernel_rfl) (by kernel_rfl) (F115.l0 k) q13))) (fun k x => F115.eq k x.1 x.2.1)
end Go.Lf.T
