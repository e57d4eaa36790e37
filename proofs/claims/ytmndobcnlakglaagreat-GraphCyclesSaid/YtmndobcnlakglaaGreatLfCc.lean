import Derived.Test.YtmndobcnlakglaaGreatLfCb
import Derived.MapKept
import Derived.Tactics
import Derived.LoopN
import Derived.DataReads
import Derived.WideShapes
import GoSem.ClaimChange
set_option linter.unusedVariables false
namespace Go.Lf
def q26 (P : Program) (C : Ctx) : Prop := ∀ f vs S, q687 f vs C.env = some S -> S.id = f /\ q16 P S
theorem q209 {k : Nat} : ∀ l : List Nat, mem k l = true ↔ k ∈ l
 | [] => ⟨fun h => (by cases h), fun h => (by cases h)⟩
 | j :: l => by
  unfold mem
  cases h : Nat.beq j k with
  | true => have := y143 h; subst this; exact ⟨fun _ => y169, fun _ => rfl⟩
  | false =>
   have hne : j ≠ k := fun e => by subst e; rw [Nat.beq_refl] at h; cases h
   simp only [cond]
   rw [q209 l, y166]
   exact ⟨.inr, fun h => h.resolve_left fun e => hne e.symm⟩
theorem q357 : ∀ {a b : List Nat}, disj a b = true -> ∀ q ∈ a, q ∉ b
 | [], _, _, q, hq => by cases hq
 | x :: a, b, h, q, hq => by
  have h' : (!mem x b && disj a b) = true := h
  rw [y144] at h'
  rcases y166.1 hq with rfl | hq
  ·intro hb
   rw [(q209 b).2 hb] at h'
   cases h'.1
  ·exact q357 h'.2 q hq
theorem q436 : ∀ {a : List Nat}, q517 a = true -> a.Nodup
 | [], _ => List.nodup_nil
 | x :: a, h => by
  have h' : (!mem x a && q517 a) = true := h
  rw [y144] at h'
  refine List.nodup_cons.2 ⟨fun hx => ?_, q436 h'.2⟩
  rw [(q209 a).2 hx] at h'
  cases h'.1
theorem run_call {P : Program} {a : Act} {w : World} {o : Oper} {c : Call} {x : Operand} {f : FuncId} {caps : Array Value} {fn : Func} (ho : o.op = .call c) (hc : c.callee = .value x) (hx : a.eval x = .func (.func f) #[] caps)
  (hf : P.funcs[f]? = some fn) (hn : (fn.name == "runtime.NumGoroutine") = false) (hb : fn.body.isNone = false) :
  (execOp a.eval o).run P w = .ok (.enter f (c.args.map a.eval ++ caps)) w := by
 have hn' : fn.name ≠ "runtime.NumGoroutine" := by simpa using hn
 have hb' : fn.body ≠ none := by intro e; rw [e] at hb; cases hb
 simp [execOp, ho, resolve, hc, hx, Deferred.ofValue, invoke, callFunc, hf, hn', hb']
section
variable {P : Program} {C : Ctx} {k : Nat} {tm : List (Nat × V)} {obs : List (Nat × Ob)} {fresh : Nat} {o : Oper} {a : Act} {w : World} {E : Bs} {β : Nat -> Option (Nat × Nat)} {F : Bs} {Gk : Nat -> Bs}
theorem All2.maps {α γ δ : Type} {Q : γ -> δ -> Prop} {f : α -> γ} {g : α -> δ} : ∀ {l : List α}, (∀ x ∈ l, Q (f x) (g x)) -> All2 Q (l.map f) (l.map g)
 | [], _ => .nil
 | x :: l, h => .cons (h x (by simp)) (All2.maps fun y hy => h y (by simp [hy]))
theorem callK_ok {R : Type} {K : OpK R} {r : R} {S : FSem} (hob : ObsR w E F β obs Gk) (hfr : Free obs fresh) (hS : q16 P S) {vs : List V} {us : List Value} (hv : All2 (VR w β obs F) vs us) (h : q721 S k fresh vs obs K = some r) :
  ∃ v d rd iv, (∀ obs', (∀ q, q ∈ rd \/ q ∈ q15 d -> get q obs' = get q obs) -> ∀ (R : Type) (K : OpK R), q721 S k fresh vs obs' K = K v d rd iv) /\ (∀ r ∈ q24 v, inR fresh r /\ r.path = []) /\ Keys obs fresh d iv /\
   Calls P S.id us.toArray w fun e w' => ∃ u, e = .returned u /\ ∃ β' F' Gk', ObsR w' E F' β' (q21 d obs) Gk' /\ VR w' β' (q21 d obs) F' v u /\ q121 w w' /\ Stay w F w' F' (fun _ => False) /\ (∀ b, E b -> w'.heap[b]? = w.heap[b]?) /\
    ∀ r, ¬ inR fresh r -> q57 r iv = false -> q46 w β obs w' β' (q21 d obs) r := by
 unfold q721 at h
 obtain ⟨xs, bs, d, sn, FA1, F1, G, hk, hst, hok, hlink, hGk, hbox, hargs⟩ := q439 S.ps hob.a (fun _ h => h) hv h
 cases hc : disj sn bs && q517 bs && q727 S.ps with
 | false => rw [hc] at hk; cases hk
 | true =>
  rw [hc] at hk
  simp only [cond] at hk
  have hc' := hc
  rw [y144, y144] at hc'
  have hdis := q357 hc'.1.1
  have hnd := q436 hc'.1.2
  cases hy : S.f k xs with
  | none => rw [hy] at hk; cases hk
  | some y =>
   rw [hy] at hk
   simp only [Option.bind] at hk
   generalize hft : q270 S.rs y.1 fresh = ft at hk
   obtain ⟨rs', d', k'⟩ := ft
   simp only at hk
   cases hfit : Nat.ble k' (fresh + 4) with
   | false => rw [hfit] at hk; cases hk
   | true =>
    rw [hfit] at hk
    simp only at hk
    have hfit' : k' <= fresh + 4 := y168 hfit
    generalize hbd : q483 S.ps y.2 bs = bd at hk
    obtain ⟨d'', iv⟩ := bd
    have hob1 := hok.took.ob
    have hF1 : ∀ b, F1 b -> FA1 b := fun b hb => y146 fun hn => (hok.took.lost b (hok.took.less b hb) hn).2.1 hb
    have hbs1 : ∀ q ∈ bs, q ∉ q15 d := fun q hq hd => hdis q (hok.sub q hd) hq
    have hget1 : ∀ q, q ∉ q15 d -> get q (q21 d obs) = get q obs := fun q hq => q48 d obs hq
    have hbox1 : ∀ q ∈ bs, ∃ t fs, get q (q21 d obs) = some (.box t fs) := fun q hq => by
     obtain ⟨t, fs, hb⟩ := hbox q hq
     exact ⟨t, fs, by rw [hget1 q (hbs1 q hq)]; exact hb⟩
    have hGF : ∀ b, G b -> F1 b := fun b hb => by
     obtain ⟨q, hq, hqb⟩ := hGk b hb
     obtain ⟨t, fs, hg⟩ := hbox1 q hq
     exact (hob1.cov b).2 (.inr ⟨q, _, hg, hqb⟩)
    let Ec : Bs := fun b => E b \/ ∃ q o, get q (q21 d obs) = some o /\ q ∉ bs /\ q ∉ sn /\ Gk q b
    have hEcF : ∀ b, Ec b -> F1 b := fun b hb => by
     rcases hb with hb | ⟨q, o, hq, _, _, hqb⟩
     ·exact (hob1.cov b).2 (.inl hb)
     ·exact (hob1.cov b).2 (.inr ⟨q, o, hq, hqb⟩)
    have hGEc : Dj G Ec := fun b hb hb' => by
     obtain ⟨q, hq, hqb⟩ := hGk b hb
     obtain ⟨t, fs, hg⟩ := hbox1 q hq
     rcases hb' with hb' | ⟨q', o, hq', hn, _, hqb'⟩
     ·exact hob1.out q _ hg b hqb hb'
     ·exact hob1.dj q q' _ o hg hq' (fun e => hn (e ▸ hq)) b hqb hqb'
    let Fc : Bs := fun b => Ec b \/ G b
    have hFcF : ∀ b, Fc b -> F1 b := fun b hb => hb.elim (hEcF b) (hGF b)
    have hsnF : ∀ q ∈ sn, q ∉ q15 d -> ∀ b, Gk q b -> ¬ Fc b := fun q hq hqd b hb hf => by
     have hex := hok.ex q hq
     cases hg : get q (q21 d obs) with
     | none => rw [hget1 q hqd] at hg; exact hex hg
     | some oq =>
      rcases hf with (hf | ⟨q', o', hq', _, hn, hqb'⟩) | hf
      ·exact hob1.out q oq hg b hb hf
      ·exact hob1.dj q q' oq o' hg hq' (fun e => hn (e ▸ hq)) b hb hqb'
      ·obtain ⟨q', hq', hqb'⟩ := hGk b hf
       obtain ⟨t, fs, hg'⟩ := hbox1 q' hq'
       exact hob1.dj q q' oq _ hg hg' (fun e => hdis q hq (e ▸ hq')) b hb hqb'
    have hA : q386 w Fc S.ps xs us G := hargs Fc ⟨fun b hb => hF1 b (hFcF b hb), hsnF⟩ hnd hdis fun q hq b hb hf => by
     rcases hf with hf | hf
     ·obtain ⟨t, fs, hg⟩ := hbox1 q hq
      rcases hf with hf | ⟨q', o', hq', hn, _, hqb'⟩
      ·exact absurd hf (hob1.out q _ hg b hb)
      ·exact absurd hqb' (hob1.dj q q' _ o' hg hq' (fun e => hn (e ▸ hq)) b hb)
     ·exact hf
    have hcall := hS.calls k xs y hy w Ec Fc G us hA (fun b => Iff.rfl) hGEc fun b hb => q261 hob1 b (hEcF b hb)
    have hfk : ∀ q ∈ bs, ¬ (fresh <= q /\ q < fresh + 4) := fun q hq ⟨h1, h2⟩ => by
     obtain ⟨t, fs, hg⟩ := hbox q hq
     rw [hfr q h1 h2] at hg; cases hg
    obtain ⟨e0, w0, _, ⟨rs0, F0, G10, G20, _, hres0, hback0, _⟩, _⟩ := hcall []
    obtain ⟨vs0, es0, hf0, hfo0, hnr0, hvr0⟩ := q245 S.rs fresh hres0
    rw [hft] at hf0
    injection hf0 with hf1 hf2; injection hf2 with hf2 hf3; subst hf1; subst hf2; subst hf3
    obtain ⟨bs0, hb0, hbk0, _⟩ := q342 S.ps hA hback0 hlink
    rw [hbd] at hb0
    injection hb0 with hb1 hb2; subst hb1; subst hb2
    have hkeys : q15 (d ++ (dOf bs0 ++ dOf es0)) = q15 d ++ (bs ++ q65 es0) := by
     rw [q25, q25, q137, q137, hbk0]
    refine ⟨one rs', d ++ (dOf bs0 ++ dOf es0), sn ++ bs, bs.map fun k => (⟨k, []⟩, false), fun obs' hq R' K' => ?_, fun r hr => ?_, ⟨fun q hq => ?_, fun p hp => ?_⟩, ?_⟩
    ·unfold q721
     rw [hst R' _ obs' (fun q hq' => hq q (.inl (y151.2 (.inl hq')))) (fun q hq' => hq q (.inl (y151.2 (.inr hq')))) hdis]
     simp only [hc, cond, hy, Option.bind, hft, hfit, hbd]
    ·have hr' := (one_ok (hvr0 (locE β es0) (q21 (dOf es0) []) fun e he => ⟨q215 hfo0.keys he, q375 hfo0.keys he⟩)).2 r hr
     have := hnr0 r hr'
     exact ⟨⟨this.1, by omega⟩, this.2.2⟩
    ·rw [hkeys] at hq
     rcases y151.1 hq with hq | hq
     ·exact .inl (hok.ex q (hok.sub q hq))
     ·rcases y151.1 hq with hq | hq
      ·obtain ⟨t, fs, hg⟩ := hbox q hq
       exact .inl (by rw [hg]; exact fun e => by cases e)
      ·obtain ⟨e, he, rfl⟩ := q61 hq
       have := hfo0.range e he
       exact .inr ⟨this.1, by omega⟩
    ·obtain ⟨q, hq, rfl⟩ := List.mem_map.1 hp
     rw [hkeys]
     exact y151.2 (.inr (y151.2 (.inl hq)))
    ·refine hcall.mono fun e w' ⟨rs, F', G1, G2, he, hres, hback, hd12, hd1, hd2, hF', hap, hstay, hEk⟩ => ?_
     have hshare : (∀ b, (E b \/ (∃ q o, get q (q21 d obs) = some o /\ q ∉ bs /\ Gk q b) \/ G1 b \/ G2 b) -> F' b) \/ (hasSl S.rs = false /\ q431 S.ps = false) := by
      cases hsh : (hasSl S.rs || q431 S.ps) with
      | false => rw [Bool.or_eq_false_iff] at hsh; exact .inr hsh
      | true =>
       refine .inl fun b hb => (hF' b).2 ?_
       rcases hb with hb | ⟨q, o, hq, hn, hqb⟩ | hb | hb
       ·exact .inl (.inl hb)
       ·by_cases hs : q ∈ sn
        ·have := hok.gone q (hok.all hsh q hs)
         rw [this] at hq; cases hq
        ·exact .inl (.inr ⟨q, o, hq, hn, hs, hqb⟩)
       ·exact .inr (.inl hb)
       ·exact .inr (.inr hb)
     let Fn : Bs := fun b => E b \/ (∃ q o, get q (q21 d obs) = some o /\ q ∉ bs /\ Gk q b) \/ G1 b \/ G2 b
     have hres' : ResR w' Fn S.rs y.1 rs G1 := ResR.cast S.rs (hshare.imp id fun h => h.1) hres
     have hback' : q224 w' Fn S.ps y.2 us G2 := q224.cast S.ps (hshare.imp id fun h => h.2) hback
     obtain ⟨vs1, es1, hf1, hfo, hnr, hvr⟩ := q245 S.rs fresh hres'
     rw [hft] at hf1
     injection hf1 with hf1 hf2; injection hf2 with hf2 hf3; subst hf1
     obtain ⟨bs1, hb1, hbk, hbdj, hbrel, hbcov, hbold⟩ := q342 S.ps hA hback' hlink
     rw [hbd] at hb1
     injection hb1 with hb1 _
     have hkE : q65 (bs1 ++ es1) = bs ++ q65 es1 := by rw [q314, hbk]
     have hnotk : ∀ q, q ∉ q65 (bs1 ++ es1) -> q ∉ bs := fun q hq hb => hq (by rw [hkE]; exact y151.2 (.inl hb))
     have hdD : q21 (d ++ (dOf bs0 ++ dOf es0)) obs = q21 (dOf (bs1 ++ es1)) (q21 d obs) := by rw [q38, q298, hb1, hf2]
     have hnd1 : (q65 (bs1 ++ es1)).Nodup := by
      rw [hkE]
      refine List.nodup_append.2 ⟨hnd, hfo.keys, fun q hq q' hq' e => ?_⟩
      obtain ⟨x, hx, rfl⟩ := q61 hq'
      have := hfo.range x hx
      exact hfk q hq ⟨by omega, by omega⟩
     have hcovE : ∀ b, (∃ e ∈ bs1 ++ es1, e.G b) ↔ G1 b \/ G2 b := fun b => by
      rw [hfo.cov b, hbcov b]
      constructor
      ·rintro ⟨e, he, hb⟩
       exact (y151.1 he).elim (fun he => .inr ⟨e, he, hb⟩) fun he => .inl ⟨e, he, hb⟩
      ·rintro (⟨e, he, hb⟩ | ⟨e, he, hb⟩)
       ·exact ⟨e, y151.2 (.inr he), hb⟩
       ·exact ⟨e, y151.2 (.inl he), hb⟩
     have hGnew : ∀ b, G1 b \/ G2 b -> Fc b \/ w.heap.size <= b := fun b hb => hstay.less b ((hF' b).2 (.inr hb))
     have hGK : ∀ b, G1 b \/ G2 b -> ∀ q o, q ∉ bs -> get q (q21 d obs) = some o -> ¬ Gk q b := fun b hb q o hn hq hqb => by
      by_cases hs : q ∈ sn
      ·have hqd : q ∉ q15 d := fun e => by rw [hok.gone q e] at hq; cases hq
       rcases hGnew b hb with h | h
       ·exact hsnF q hs hqd b hqb h
       ·exact absurd ((hob1.rel q o hq).lt b hqb) (Nat.not_lt.2 h)
      ·have hE : Ec b := .inr ⟨q, o, hq, hn, hs, hqb⟩
       exact hb.elim (fun h => hd1 b h hE) fun h => hd2 b h hE
     have hFn : ∀ b, Fn b ↔ E b \/ (∃ q o, q ∉ q65 (bs1 ++ es1) /\ get q (q21 d obs) = some o /\ Gk q b) \/ ∃ e ∈ bs1 ++ es1, e.G b := fun b => by
      rw [hcovE b]
      constructor
      ·rintro (h | ⟨q, o, hq, hn, hqb⟩ | h)
       ·exact .inl h
       ·refine .inr (.inl ⟨q, o, fun hk => ?_, hq, hqb⟩)
        rw [hkE] at hk
        rcases y151.1 hk with hk | hk
        ·exact hn hk
        ·obtain ⟨x, hx, rfl⟩ := q61 hk
         have := hfo.range x hx
         have hnone := hfr x.k this.1 (by omega)
         by_cases e : x.k ∈ q15 d
         ·rw [hok.gone _ e] at hq; cases hq
         ·rw [hget1 _ e, hnone] at hq; cases hq
       ·exact .inr (.inr h)
      ·rintro (h | ⟨q, o, hk, hq, hqb⟩ | h)
       ·exact .inl h
       ·exact .inr (.inl ⟨q, o, hq, hnotk q hk, hqb⟩)
       ·exact .inr (.inr h)
     have hobs := q665 (w' := w') (F' := Fn) (obs' := q21 (dOf (bs1 ++ es1)) (q21 d obs)) hob1 hnd1 (fun e he => (y151.1 he).elim (hbrel e) (hfo.rel e))
      (List.pairwise_append.2 ⟨hbdj, hfo.dj, fun e he f hf b hb hb' => hd12 b ((hfo.cov b).2 ⟨f, hf, hb'⟩) ((hbcov b).2 ⟨e, he, hb⟩)⟩)
      (fun q hq => q48 _ _ (by rw [q137]; exact hq)) (fun e he => q375 hnd1 he) hFn
      (fun e he b hb hE => by
       have := (hcovE b).1 ⟨e, he, hb⟩
       exact this.elim (fun h => hd1 b h (.inl hE)) fun h => hd2 b h (.inl hE))
      (fun e he q o hk hq b hb => hGK b ((hcovE b).1 ⟨e, he, hb⟩) q o (hnotk q hk) hq)
      hstay.size
      (fun q o hk hq b hqb => by
       by_cases hs : q ∈ sn
       ·have hqd : q ∉ q15 d := fun e => by rw [hok.gone q e] at hq; cases hq
        exact hstay.out b (hsnF q hs hqd b hqb) ((hob1.rel q o hq).lt b hqb)
       ·exact hEk b (.inr ⟨q, o, hq, hnotk q hk, hs, hqb⟩))
      (fun b hb hlt => hstay.out b (fun h => hb (hF1 b (hFcF b h))) hlt)
      (fun b hb => by
       rcases hb with hb | ⟨q, o, hq, hn, hqb⟩ | hb
       ·exact .inl (hF1 b ((hob1.cov b).2 (.inl hb)))
       ·exact .inl (hF1 b ((hob1.cov b).2 (.inr ⟨q, o, hq, hqb⟩)))
       ·exact (hGnew b hb).imp (fun h => hF1 b (hFcF b h)) id)
     have hat : At (locE β (bs1 ++ es1)) (q21 (dOf (bs1 ++ es1)) (q21 d obs)) es1 := fun e he => ⟨q215 hnd1 (y151.2 (.inr he)), q375 hnd1 (y151.2 (.inr he))⟩
     refine ⟨pack rs, he, locE β (bs1 ++ es1), Fn, _, by rw [hdD]; exact hobs, by rw [hdD]; exact (one_ok (hvr _ _ hat)).1, hap, ⟨hstay.size, fun b hb => hb.elim, fun b hb hlt => hstay.out b (fun h => hb (hok.took.less b (hFcF b h))) hlt, fun b hb => ?_⟩, fun b hb => hEk b (.inl hb), fun r hr hiv => ?_⟩
     ·rcases hb with hb | ⟨q, o, hq, hn, hqb⟩ | hb
      ·exact .inl (hok.took.less b ((hob1.cov b).2 (.inl hb)))
      ·exact .inl (hok.took.less b ((hob1.cov b).2 (.inr ⟨q, o, hq, hqb⟩)))
      ·exact (hGnew b hb).imp (fun h => hok.took.less b (hFcF b h)) id
     ·rw [hdD]
      refine (hok.took.keep r).trans ?_
      by_cases hrb : r.root ∈ bs
      ·
       have hp : r.path = [] := by
        cases hpath : r.path with
        | nil => rfl
        | cons p l =>
         exfalso
         have : ∀ l' : List Nat, r.root ∈ l' -> q57 r (l'.map fun k => ((⟨k, []⟩ : Ref), false)) = true := by
          intro l'
          induction l' with
          | nil => intro h; cases h
          | cons q l' ih =>
           intro h
           show ((Nat.beq r.root q && over r.path [] false) || q57 r (l'.map _)) = true
           rcases y166.1 h with e | h
           ·rw [<- e, Nat.beq_refl, hpath]; rfl
           ·rw [ih h, Bool.or_true]
         rw [this bs hrb] at hiv; cases hiv
       have hke : r.root ∈ q65 bs1 := by rw [hbk]; exact hrb
       obtain ⟨x, hx, hxk⟩ := q61 hke
       obtain ⟨hβ, ⟨t, fs, hxo⟩, b, row, row', hloc, hrow, hrow', hsz⟩ := hbold x hx
       obtain ⟨t0, fs0, hg0⟩ := hbox1 _ hrb
       intro o' loc hl
       unfold q34 at hl
       rw [<- hxk, q375 hnd1 (y151.2 (.inl hx)), q215 hnd1 (y151.2 (.inl hx)), hp, hxo] at hl
       have hl' : some (Ob.box t fs, x.loc) = some (o', loc) := hl
       injection hl' with hl'; injection hl' with e1 e2; subst e1; subst e2
       refine ⟨.box t0 fs0, ?_, trivial, fun b2 off2 e2 rw2 hr2 => ?_⟩
       ·unfold q34
        rw [hg0, hp]
        show some (Ob.box t0 fs0, β r.root) = _
        rw [<- hxk, hβ]
       ·rw [hloc] at e2
        injection e2 with e2; injection e2 with e3 e4; subst e3
        have := hrow.eq hr2
        subst this
        exact ⟨row', hrow', hsz⟩
      ·have hre : r.root ∉ q65 (bs1 ++ es1) := by
        rw [hkE]
        intro hm
        rcases y151.1 hm with hm | hm
        ·exact hrb hm
        ·obtain ⟨x, hx, hxk⟩ := q61 hm
         have := hfo.range x hx
         exact hr ⟨by omega, by omega⟩
       refine q46.of_stay (FA' := Fn) hob1 (q432 hre) (q48 _ _ (by rw [q137]; exact hre)) fun o2 ho2 => ?_
       refine ⟨hstay.size, fun b hqb => ?_, fun b hb hlt => hstay.out b (fun h => hb (hF1 b (hFcF b h))) hlt, fun b hb => ?_⟩
       ·by_cases hs : r.root ∈ sn
        ·have hqd : r.root ∉ q15 d := fun e => by rw [hok.gone _ e] at ho2; cases ho2
         exact hstay.out b (hsnF _ hs hqd b hqb) ((hob1.rel _ _ ho2).lt b hqb)
        ·exact hEk b (.inr ⟨_, _, ho2, hrb, hs, hqb⟩)
       ·rcases hb with hb | ⟨q, o, hq, hn, hqb⟩ | hb
        ·exact .inl (hF1 b ((hob1.cov b).2 (.inl hb)))
        ·exact .inl (hF1 b ((hob1.cov b).2 (.inr ⟨q, o, hq, hqb⟩)))
        ·exact (hGnew b hb).imp (fun h => hF1 b (hFcF b h)) id
end
end Go.Lf
namespace Go.Lf
section
variable {α : Type} {R : α -> Value -> Prop}
theorem q449 (n : Int) (z y : α) : ∀ (es : List MapEntry) (l : List (Int × α)) (i0 : Nat), es.length = l.length -> (∀ (i : Nat) (k : Int) (x : α), l[i]? = some (k, x) -> ∃ e : MapEntry, es[i]? = some e /\ e.key = .int .i64 k /\ R x e.val) ->
  (Instr.findNow (.int .i64) (.int .i64 n) es i0 = some none /\ mhas n l = false /\ mget n z l = z /\ mset n y l = l ++ [(n, y)]) \/
  ∃ j e x, Instr.findNow (.int .i64) (.int .i64 n) es i0 = some (some (i0 + j, e.val)) /\ mhas n l = true /\ l[j]? = some (n, x) /\ es[j]? = some e /\ e.key = .int .i64 n /\ R x e.val /\ mget n z l = x /\ mset n y l = l.set j (n, y)
 | [], [], i0, _, _ => .inl ⟨rfl, rfl, rfl, rfl⟩
 | [], _ :: _, _, h, _ => by cases h
 | _ :: _, [], _, h, _ => by cases h
 | e :: es, (k, x) :: l, i0, h, hx => by
  obtain ⟨e', he, hk, hr⟩ := hx 0 k x rfl
  have he' : e = e' := by injection he
  subst he'
  by_cases hn : n = k
  ·subst hn
   refine .inr ⟨0, e, x, ?_, ?_, rfl, rfl, hk, hr, ?_, ?_⟩
   ·simp [Instr.findNow, Instr.sameNow, hk]
   ·simp [mhas]
   ·simp [mget]
   ·simp [mset]
  ·have hb : (n == k) = false := by simpa using hn
   rcases q449 n z y es l (i0 + 1) (by simpa using h) (fun i k x hi => hx (i + 1) k x hi) with ⟨h1, h2, h3, h4⟩ | ⟨j, e2, x2, h1, h2, h3, h4, h5, h6, h7, h8⟩
   ·refine .inl ⟨?_, ?_, ?_, ?_⟩
    ·simp [Instr.findNow, Instr.sameNow, hk, hb, h1]
    ·simp [mhas, hb, h2]
    ·simp [mget, hb, h3]
    ·simp [mset, hb, h4]
   ·refine .inr ⟨j + 1, e2, x2, ?_, ?_, by simpa using h3, by simpa using h4, h5, h6, ?_, ?_⟩
    ·rw [show i0 + (j + 1) = i0 + 1 + j by omega]
     simp [Instr.findNow, Instr.sameNow, hk, hb, h1]
    ·simp [mhas, hb, h2]
    ·simp [mget, hb, h7]
    ·simp [mset, hb, h8]
end
section
variable {P : Program} {C : Ctx} {k : Nat} {tm : List (Nat × V)} {obs : List (Nat × Ob)} {fresh : Nat} {o : Oper} {a : Act} {w : World} {E : Bs} {β : Nat -> Option (Nat × Nat)} {F : Bs} {Gk : Nat -> Bs}
theorem q609 {R : Type} {K : OpK R} {r : R} (hT : q81 P C) (hf : FR C w E β tm obs a F Gk) (hfr : Free obs fresh) {t : TypeId} {rs : Option Operand} (ho : o.op = .makeMap t rs) (h : opK C k tm obs fresh o K = some r) : OpOk P C k tm obs fresh o a w E β F := by
 cases rs with
 | some x => unfold opK at h; simp only [ho] at h; cases h
 | none =>
  unfold opK at h
  simp only [ho] at h
  split at h
  ·rename_i kt e hk
   split at h
   ·rename_i τ hkk he
    cases hp : τ.plain && !τ.isA with
    | false => rw [hp] at h; cases h
    | true =>
     refine ⟨.hm ⟨fresh, []⟩, [] ++ [(fresh, some (.mp τ []))], [], [], fun tm' obs' ht htR _ R' K' => ?_, Src.fresh (fun r hr => by simpa [q24, q31, q37] using hr), Keys.snoc (fun q hq => by cases hq) _, ?_⟩
     ·unfold opK; simp only [ho, hk, hkk, he, hp]; rfl
     ·have hnew : (w.alloc (.map #[] 0)).heap[w.heap.size]? = some (.map #[] 0) := heap_alloc_new w _
      refine q130 (q261 hf.ob.a) (Took.refl hf.ob.a) (hfr.behind (fun q hq => by cases hq) (Nat.le_refl _) (by omega)) ⟨Nat.le_refl _, by omega⟩ (w' := w.alloc (.map #[] 0)) (u := .map (some w.heap.size)) (loc := some (w.heap.size, 0)) (G2 := fun b => b = w.heap.size) ?_ (q113 w _) (fun c hc _ => q74 w _ hc) (by simp) ?_ (fun b hb => .inr (Nat.le_of_eq hb.symm)) ?_
      ·simp [execOp, ho, Instr.makeMap, newObj]
       rfl
      ·exact ⟨w.heap.size, rfl, ⟨#[], 0, hnew, rfl, fun i k x hi => by simp at hi⟩, fun n => Iff.rfl⟩
      ·refine ⟨w.heap.size, rfl, fun o' loc hl => ?_⟩
       unfold q34 at hl
       rw [show get (⟨fresh, []⟩ : Ref).root (put fresh (Ob.mp τ []) (q21 [] obs)) = some (.mp τ []) from q47 _ _ _] at hl
       have hl' : some (Ob.mp τ [], upd β fresh (some (w.heap.size, 0)) fresh) = some (o', loc) := hl
       injection hl' with hl'; injection hl' with _ e2
       rw [<- e2]; exact q39 _ _ _
   ·cases h
  ·cases h
theorem q750 {τ : Ty} {x : τ.den} {u : Value} {G : Bs} (hp : τ.plain = true) (hA : τ.isA = false) (h : LR w F τ x [u] G) : VRl w β obs F (τ.toV x) u := by
 cases τ with
 | int k => have := h.1; injection this
 | bool => have := h.1; injection this
 | sl a => exact ⟨G, h⟩
 | ow a => cases hp
 | bx a => cases hp
 | mp a => cases hp
 | pair => cases hA
 | unit => cases hA
theorem toV_refs {τ : Ty} {x : τ.den} (hp : τ.plain = true) (hA : τ.isA = false) : q24 (τ.toV x) = [] /\ q31 (τ.toV x) = [] /\ ∀ (u : Value), VRl w β obs F (τ.toV x) u -> VRa w β obs F (τ.toV x) u := by
 cases τ with
 | int k => exact ⟨rfl, rfl, fun _ h => h⟩
 | bool => exact ⟨rfl, rfl, fun _ h => h⟩
 | sl a => exact ⟨rfl, rfl, fun _ h => h⟩
 | ow a => cases hp
 | bx a => cases hp
 | mp a => cases hp
 | pair => cases hA
 | unit => cases hA
theorem q696 (hT : q81 P C) {e : TypeId} {i : TI} (hi : get e C.ti = some i) {τ : Ty} (hp : τ.plain = true) (hA : τ.isA = false) (hc : q228 i.k τ = true) {z : τ.den} (hz : τ.ofAll i.zero = some z) :
  ∃ zv, (zeroValue e).run P w = .ok zv w /\ LR w F τ z [zv] (fun _ => False) := by
 obtain ⟨zv, inf, hinf, _, _, hzero, hza, _⟩ := (hT e i hi).info
 obtain ⟨G1, hs, H⟩ := q49 (F := F) hz (z0_ls (w := w) hza)
 have hl := H F (fun _ h => h) fun b hb => hb.elim
 have hna : ∀ us, zv ≠ .agg us := by
  rcases (hT e i hi).flat with ⟨fs, hk⟩ | hk | ⟨inf', z', h1, h2, h3⟩
  ·rw [hk] at hc
   have : τ.isA = true := hc
   rw [hA] at this; cases this
  ·rw [hk] at hc; cases hc
  ·rw [hinf] at h1; injection h1 with h1; subst h1
   rw [hzero] at h2; injection h2 with h2; subst h2
   exact h3
 have hcells : zv.cells.toList = [zv] := by
  cases zv with
  | agg us => exact absurd rfl (hna us)
  | _ => rfl
 rw [hcells] at hl
 refine ⟨zv, ?_, LR.iff τ z _ G1 _ hl fun n => ⟨fun h => h.elim, fun h => hs n h⟩⟩
 simp [zeroValue, typeInfo, hinf, hzero]
theorem q726 {R : Type} {K : OpK R} {r : R} (hT : q81 P C) (hf : FR C w E β tm obs a F Gk) {t : TypeId} {x ix : Operand} {ok : Bool} (ho : o.op = .lookup t x ix ok) (h : opK C k tm obs fresh o K = some r) : OpOk P C k tm obs fresh o a w E β F := by
 have hx : x ∈ o.op.operands := by rw [ho]; simp [Op.operands]
 have hy : ix ∈ o.op.operands := by rw [ho]; simp [Op.operands]
 have rx := q30 hf x
 have ry := q30 hf ix
 have ht := q60 hT t
 unfold opK at h
 simp only [ho] at h
 split at h
 ·rename_i kt e q n hk hb hby
  rw [hk] at ht
  rw [hb] at rx
  rw [hby] at ry
  have ey := q44 ry
  obtain ⟨b, hux, hall⟩ := rx
  have hkt := q60 hT kt
  split at h
  ·rename_i i hkk hi
   rw [hkk] at hkt
   obtain ⟨o1, loc, G, hat, hob1, _, hK, hst⟩ := q267 hf.ob h
   cases o1 with
   | box => cases hK
   | arr => cases hK
   | mp τ l =>
    simp only at hK
    cases hp : τ.plain && !τ.isA && q228 i.k τ with
    | false => rw [hp] at hK; cases hK
    | true =>
     rw [hp] at hK
     have hp' := hp
     simp only [y144, Bool.not_eq_true'] at hp'
     obtain ⟨⟨hpl, hA⟩, hc⟩ := hp'
     simp only [cond] at hK
     split at hK
     ·rename_i z hz
      obtain ⟨b', hloc, ⟨es, clock, hheap, hsize, hes⟩, hG⟩ := hob1
      have hb' := hall _ _ hat
      rw [hloc] at hb'; injection hb' with hb'; injection hb' with hb' _; subst hb'
      obtain ⟨zv, hzrun, hzrel⟩ := q696 (w := w) (F := F) hT hi hpl hA hc hz
      have hlen : es.toList.length = l.length := by rw [y156]; exact hsize
      have hfind := q449 (R := fun x u => LR w F τ x [u] (fun _ => False)) n z z es.toList l 0 hlen (fun i k x hi => by
       obtain ⟨e, h1, h2, h3⟩ := hes i k x hi
       exact ⟨e, by simpa using h1, h2, h3⟩)
      have hrun : ∃ val, LR w F τ (mget n z l) [val] (fun _ => False) /\ (Instr.lookup t (.map (some b')) (.int .i64 n) ok).run P w = .ok (if ok then .tuple #[val, .bool (mhas n l)] else val) w := by
       rcases hfind with ⟨h1, h2, h3, _⟩ | ⟨j, en, y, h1, h2, _, _, _, h6, h7, _⟩
       ·refine ⟨zv, by rw [h3]; exact hzrel, ?_⟩
        rw [h2]
        cases ok <;> simp [Instr.lookup, run_underlying ht, MapKept.run_getObj_map hheap, MapKept.run_checkKey hkt (k := .int .i64 n) rfl, MapKept.run_findKey hkt h1, hzrun, Result.andThen]
       ·refine ⟨en.val, by rw [h7]; exact h6, ?_⟩
        rw [h2]
        cases ok <;> simp [Instr.lookup, run_underlying ht, MapKept.run_getObj_map hheap, MapKept.run_checkKey hkt (k := .int .i64 n) rfl, MapKept.run_findKey hkt h1, Result.andThen]
      obtain ⟨val, hval, hrun⟩ := hrun
      have hvr := q750 (β := β) (obs := obs) hpl hA hval
      obtain ⟨r1, r2, r3⟩ := toV_refs (w := w) (β := β) (obs := obs) (F := F) (x := mget n z l) hpl hA
      have hstab : ∀ (v : V), (match ok with | true => V.tup [τ.toV (mget n z l), .bool (mhas n l)] | false => τ.toV (mget n z l)) = v -> Stab C k tm obs fresh o v [] [q.root] [] := by
       intro v hv tm' obs' ht' htR hr' R' K'
       unfold opK
       simp only [ho, hk, ht' x hx, ht' ix hy, hb, hby, hkk, hi]
       rw [hst R' _ obs' (hr' _ (.inl (by simp)))]
       simp only [hp, cond, hz]
       subst hv
       cases ok <;> rfl
      cases ok with
      | true =>
       refine q29 (rd := [q.root]) hf.ob (hstab _ rfl) (Src.none (by show q31 _ ++ _ = []; rw [r2]; rfl)) (u := .tuple #[val, .bool (mhas n l)]) ?_ ⟨_, rfl, .cons (r3 _ hvr) (.cons rfl .nil)⟩
       simp [execOp, ho, ey, hux, hrun]
      | false =>
       refine q29 (rd := [q.root]) hf.ob (hstab _ rfl) (Src.none r1) (u := val) ?_ ((r3 _ hvr).vr.1)
       simp [execOp, ho, ey, hux, hrun]
     ·cases hK
  ·cases h
 ·cases h
theorem q528 {b : Nat} {o' : Obj} (w : World) (hb : b < w.heap.size) : ∀ c, c ≠ b -> ({ w with heap := w.heap.setIfInBounds b o' } : World).heap[c]? = w.heap[c]? := by
 intro c hc
 simp [Ne.symm hc]
theorem q506 {R : Type} {K : OpK R} {r : R} (hT : q81 P C) (hf : FR C w E β tm obs a F Gk) {t : TypeId} {x ix y : Operand} (ho : o.op = .mapUpdate t x ix y) (h : opK C k tm obs fresh o K = some r) : OpOk P C k tm obs fresh o a w E β F := by
 have hx : x ∈ o.op.operands := by rw [ho]; simp [Op.operands]
 have hix : ix ∈ o.op.operands := by rw [ho]; simp [Op.operands]
 have hy : y ∈ o.op.operands := by rw [ho]; simp [Op.operands]
 have rx := q30 hf x
 have rix := q30 hf ix
 have ry := q30 hf y
 have ht := q60 hT t
 unfold opK at h
 simp only [ho] at h
 split at h
 ·rename_i kt e q n hk hb hby
  rw [hk] at ht
  rw [hb] at rx
  rw [hby] at rix
  have eix := q44 rix
  have hkt := q60 hT kt
  split at h
  ·rename_i hkk
   rw [hkk] at hkt
   have hall := q189 ry h
   obtain ⟨vs, d, FA1, F1, G, Gk1, hK, hst, htook, hls, hnu, hex⟩ := q122 _ hf.ob.a (fun _ h => h) hall h
   cases hg : get q.root (q21 d obs) with
   | none => rw [hg] at hK; cases hK
   | some o0 =>
    rw [hg] at hK
    simp only at hK
    have hF1 : ∀ b, F1 b -> FA1 b := fun b hb => y146 fun hn => (htook.lost b (htook.less b hb) hn).2.1 hb
    have hGA : ∀ b, G b -> FA1 b := fun b hb => y146 fun hn => (htook.lost b (htook.got b hb) hn).2.2 hb
    obtain ⟨o1, hgo⟩ := q551 hK
    have hob0 := htook.ob.rel _ _ hg
    have hcov0 : ∀ c, Gk1 q.root c -> F1 c := fun c hc => (htook.ob.cov c).2 (.inr ⟨_, _, hg, hc⟩)
    obtain ⟨loc1, G1, hway, hob1, hs1, _, hupd, hclose⟩ := q274 q.path hob0 hgo
    rw [hupd] at hK
    cases o1 with
    | box => cases hK
    | arr => cases hK
    | mp τ l =>
     simp only at hK
     cases hp : τ.plain && !τ.isA && q251 τ (opnd tm y) with
     | false => rw [hp] at hK; cases hK
     | true =>
      rw [hp] at hK
      have hp' := hp
      simp only [y144, Bool.not_eq_true'] at hp'
      obtain ⟨⟨hpl, hA⟩, hli⟩ := hp'
      simp only [cond] at hK
      split at hK
      ·rename_i yv hyv
       obtain ⟨o0', hk0, hlike0, hst0, hcl0⟩ := hclose (.mp τ (mset n yv l)) _ _ _ trivial hK
       obtain ⟨b, hloc, ⟨es, clock, hheap, hsize, hes⟩, hG1⟩ := hob1
       subst hloc
       obtain ⟨b', hux, hpl'⟩ := rx
       have hat1 : q34 w β (q21 d obs) q = some (.mp τ l, some (b, 0)) := by unfold q34; simp only [hg]; exact hway
       obtain ⟨ob, hat, hlk, _⟩ := htook.keep q _ _ hat1
       have hb' := hpl' _ _ hat
       injection hb' with hb'; injection hb' with hb' _; subst hb'
       have hny : opnd tm y ≠ .undef := by
        intro e; rw [e] at h; cases h
       have hnA : ¬ ∃ us, a.eval y = .agg us := by
        rw [q285 hli ry hny, hA]; exact Bool.false_ne_true
       have hcells : (a.eval y).cells.toList = [a.eval y] := by
        cases he : a.eval y with
        | agg us => exact absurd ⟨us, he⟩ hnA
        | _ => rfl
       obtain ⟨G2, hs2, H2⟩ := q49 hyv hls
       rw [hcells] at H2
       have hE2 : Emp G2 := LR.plain τ yv _ _ hpl (H2 (fun b => FA1 b /\ (G b -> G2 b)) (fun b hb => hb.1) fun b hb hn hf => hn (hf.2 hb))
       have hbl : b < w.heap.size := (Array.getElem?_eq_some_iff.1 hheap).1
       have hlen : es.toList.length = l.length := by rw [y156]; exact hsize
       have hfind := q449 (R := fun x u => LR w FA1 τ x [u] (fun _ => False)) n yv yv es.toList l 0 hlen (fun i k x hi => by
        obtain ⟨e, h1, h2, h3⟩ := hes i k x hi
        exact ⟨e, by simpa using h1, h2, h3⟩)
       have hbG1 : G1 b := (hG1 b).2 rfl
       have hbF : F1 b := hcov0 b (hs1 b hbG1)
       have hbFA : FA1 b := hF1 b hbF
       have hrun : ∃ es' clock', (Instr.mapUpdate t (.map (some b)) (.int .i64 n) (a.eval y)).run P w = .ok () { w with heap := w.heap.setIfInBounds b (.map es' clock') } /\ es'.size = (mset n yv l).length /\
         ∀ (i : Nat) (k : Int) (x : τ.den), (mset n yv l)[i]? = some (k, x) -> ∃ e : MapEntry, es'[i]? = some e /\ e.key = .int .i64 k /\ ((x = yv /\ e.val = a.eval y) \/ LR w FA1 τ x [e.val] (fun _ => False)) := by
        rcases hfind with ⟨h1, _, _, h4⟩ | ⟨j, en, x0, h1, _, h3, h4, h5, h6, _, h8⟩
        ·refine ⟨es.push ⟨.int .i64 n, a.eval y, clock⟩, clock + 1, ?_, ?_, ?_⟩
         ·simp [Instr.mapUpdate, run_underlying ht, MapKept.run_getObj_map hheap, MapKept.run_checkKey hkt (k := .int .i64 n) rfl, MapKept.run_findKey hkt h1, MapKept.run_setObj_map _ hheap, Result.andThen]
         ·rw [h4]; simp [hsize]
         ·rw [h4]
          intro i k x hi
          rw [y171] at hi
          split at hi
          ·rename_i hil
           obtain ⟨e, e1, e2, e3⟩ := hes i k x hi
           exact ⟨e, by rw [Array.getElem?_push]; rw [if_neg (by omega)]; exact e1, e2, .inr e3⟩
          ·rename_i hil
           have hi0 : i - l.length = 0 := by
            have := (y149.1 hi).1
            simp at this; exact this
           rw [hi0] at hi
           injection hi with hi; injection hi with e1 e2
           refine ⟨⟨.int .i64 n, a.eval y, clock⟩, ?_, by rw [e1], .inl ⟨e2.symm, rfl⟩⟩
           rw [Array.getElem?_push, if_pos (by omega)]
        ·have hj : es[j]? = some en := by simpa using h4
         refine ⟨es.modify j (fun e' => { e' with key := .int .i64 n, val := a.eval y }), clock, ?_, ?_, ?_⟩
         ·simp [Instr.mapUpdate, run_underlying ht, MapKept.run_getObj_map hheap, MapKept.run_checkKey hkt (k := .int .i64 n) rfl, MapKept.run_findKey hkt h1, hj, h5, MapKept.run_keyThatStays (d := .int .i64) (k := .int .i64 n) rfl, MapKept.run_setObj_map _ hheap, Result.andThen]
         ·rw [h8]; simp [hsize]
         ·rw [h8]
          intro i k x hi
          rw [List.getElem?_set] at hi
          rw [Array.getElem?_modify]
          split at hi
          ·rename_i e; subst e
           split at hi
           ·injection hi with hi; injection hi with e1 e2
            rw [if_pos rfl, hj]
            exact ⟨_, rfl, by rw [<- e1], .inl ⟨e2.symm, rfl⟩⟩
           ·cases hi
          ·rename_i hne
           rw [if_neg hne]
           obtain ⟨e, e1, e2, e3⟩ := hes i k x hi
           exact ⟨e, e1, e2, .inr e3⟩
       obtain ⟨es', clock', hrun, hsize', hes'⟩ := hrun
       have hother : ∀ c, c ≠ b -> ({ w with heap := w.heap.setIfInBounds b (.map es' clock') } : World).heap[c]? = w.heap[c]? := q528 w hbl
       have hhs : ({ w with heap := w.heap.setIfInBounds b (.map es' clock') } : World).heap.size = w.heap.size := by simp
       have hnewb : ({ w with heap := w.heap.setIfInBounds b (.map es' clock') } : World).heap[b]? = some (.map es' clock') := by simp [hbl]
       have hap : q121 w { w with heap := w.heap.setIfInBounds b (.map es' clock') } := ⟨rfl, rfl, rfl⟩
       generalize hw' : ({ w with heap := w.heap.setIfInBounds b (.map es' clock') } : World) = w' at *
       have hout : ∀ c, ¬ FA1 c -> c < w.heap.size -> w'.heap[c]? = w.heap[c]? := fun c hc _ => hother c fun e => hc (e ▸ hbFA)
       have hst' : ∀ F' : Bs, (∀ c, F' c -> FA1 c) -> Stay w FA1 w' F' (fun _ => False) := fun F' hF' => ⟨by rw [hhs]; exact Nat.le_refl _, fun _ h => h.elim, hout, fun c hc => .inl (hF' c hc)⟩
       have hA1 : Lets FA1 (fun n => G n \/ n = b) (fun F'' H => ObR w' F'' (.mp τ (mset n yv l)) (some (b, 0)) H) := by
        refine ⟨fun n => n = b, fun n hn => .inr hn, fun F' hF' hno => ⟨b, rfl, ⟨es', clock', hnewb, hsize', fun i k x hi => ?_⟩, fun n => Iff.rfl⟩⟩
        obtain ⟨e, e1, e2, e3⟩ := hes' i k x hi
        refine ⟨e, e1, e2, ?_⟩
        rcases e3 with ⟨rfl, e3⟩ | e3
        ·rw [e3]
         have hv := H2 (fun c => F' c \/ c = b) (fun c hc => hc.elim (hF' c) fun e => e ▸ hbFA) fun c hc _ hf => hf.elim (hno c (.inl hc) (fun e => htook.dj c hc (e ▸ hbF))) fun e => htook.dj c hc (e ▸ hbF)
         exact LR.keep τ x _ _ (LR.iff τ x _ G2 _ hv fun n => ⟨fun h => h.elim, fun h => hE2 n h⟩) ⟨by rw [hhs]; exact Nat.le_refl _, fun _ h => h.elim, fun c hc _ => hother c fun e => hc (.inr e), fun c hc => .inl (.inl hc)⟩
        ·exact LR.keep τ x _ _ e3 (hst' F' hF')
       have hB := hcl0 w' FA1 _ hA1
        (fun c hc hc' => by
         rcases hc with hc | hc
         ·exact htook.dj c hc (hcov0 c hc'.1)
         ·exact hc'.2 (hc ▸ hbG1))
        (fun c rw' hr hc => by
         by_cases e : c = b
         ·subst e
          obtain ⟨ty, hr⟩ := hr
          rw [hheap] at hr; cases hr
         ·exact ⟨rw', hr.keep (hother c e), rfl⟩)
        ⟨by rw [hhs]; exact Nat.le_refl _, fun c hc => hother c fun e => hc.2 (e ▸ hbG1), hout, fun c hc => .inl hc⟩
       obtain ⟨H, hHs, hH⟩ := hB
       have hHsub : ∀ c, H c -> G c \/ Gk1 q.root c := by
        intro c hc
        rcases hHs c hc with (h | h) | h
        ·exact .inl h
        ·exact .inr (h ▸ hs1 b hbG1)
        ·exact .inr h.1
       have hnew := hH (fun c => (F1 c /\ ¬ Gk1 q.root c) \/ H c) (fun c hc => hc.elim (fun h => hF1 c h.1) fun h => (hHsub c h).elim (hGA c) fun h => hF1 c (hcov0 c h))
        (fun c hc hn hc' => hc'.elim (fun h => by
         rcases hc with (h' | h') | h'
         ·exact htook.dj c h' h.1
         ·exact h.2 (h' ▸ hs1 b hbG1)
         ·exact h.2 h'.1) hn)
       have hobs := q673 htook.ob hF1 hg hnew (fun c hc hF => (hHsub c hc).elim (fun h => absurd hF (htook.dj c h)) id) (by rw [hhs]; exact Nat.le_refl _) (fun c hc hn => hother c fun e => hn (e ▸ hs1 b hbG1)) hout
        (fun c hc => .inl ((hHsub c hc).elim (hGA c) fun h => hF1 c (hcov0 c h)))
       have eqD : q21 (d ++ [(q.root, some o0')]) obs = put q.root o0' (q21 d obs) := by rw [q38]; rfl
       refine ⟨.undef, d ++ [(q.root, some o0')], [q.root], [], fun tm' obs' ht' htR hd R' K' => ?_, Src.none rfl, ?_, fun next Q hnext => ?_⟩
       ·unfold opK
        simp only [ho, hk, ht' x hx, ht' ix hix, ht' y hy, hb, hby, hkk]
        rw [hst _ _ obs' fun q hq => hd q (.inr (by rw [q25]; exact y151.2 (.inl hq)))]
        have hg' : get q.root (q21 d obs') = some o0 := by
         rw [q36 d obs obs' (hd q.root (.inl (by simp)))]; exact hg
        rw [hg']
        simp only
        rw [hupd]
        simp only [hp, cond, hyv]
        exact hst0 _ _
       ·refine ⟨fun c hc => ?_, fun p hp => (by cases hp)⟩
        rw [q25] at hc
        rcases y151.1 hc with hc | hc
        ·exact .inl (hex c hc)
        ·simp [q15] at hc
         subst hc
         refine .inl fun hn => ?_
         by_cases e : q.root ∈ q15 d
         ·exact hex _ e hn
         ·rw [q48 d obs e, hn] at hg; cases hg
       ·unfold Oper.wp
        have hexe : (execOp a.eval o).run P w = .ok .skip w' := by
         simp [execOp, ho, hux, eix, hrun]
        rw [hexe, Oper.upon_skip]
        refine hnext undef w' β _ _ (by rw [eqD]; exact hobs) trivial hap ⟨by rw [hhs]; exact Nat.le_refl _, fun c hc => hc.elim, fun c hc _ => hother c fun e => hc (e ▸ htook.less b hbF), fun c hc => .inl ?_⟩ (fun c hE => hother c fun e => htook.ob.out _ _ hg b (hs1 b hbG1) (e ▸ hE)) fun r' hr' _ => ?_
        ·rcases hc with ⟨hc, _⟩ | hc
         ·exact htook.less c hc
         ·exact (hHsub c hc).elim (htook.got c) fun h => htook.less c (hcov0 c h)
        ·rw [eqD]
         refine (htook.keep r').trans ?_
         by_cases er : r'.root = q.root
         ·intro o' loc hl
          have hl' : way w' o0' (β q.root) r'.path = some (o', loc) := by
           unfold q34 at hl
           rw [er, q47] at hl
           exact hl
          have hob1' : ObR w FA1 (.mp τ l) (some (b, 0)) G1 := ⟨b, rfl, ⟨es, clock, hheap, hsize, hes⟩, hG1⟩
          obtain ⟨oo, hoo, hlko⟩ := q539 (w' := w') (F := FA1) (Gx := fun c => c = b) (o1' := .mp τ (mset n yv l)) (ok := fun _ => True) (by rw [hhs]; exact Nat.le_refl _) hout hob1' (fun n hn => by rw [hn]; exact hbG1)
           (fun o1'' hstd p _ o' loc hl => by
            rcases hstd with rfl | ⟨τ', x', t', fs', y', e, _⟩
            ·cases p with
             | nil =>
              have hl' : some (Ob.mp τ (mset n yv l), some (b, 0)) = some (o', loc) := hl
              injection hl' with hl'; injection hl' with e1 e2; subst e1; subst e2
              exact ⟨.mp τ l, rfl, trivial⟩
             | cons ij p =>
              obtain ⟨i, j⟩ := ij
              simp [way, q35] at hl
            ·cases e) q.path hob0 hway (fun c _ hc => hother c hc) (hst0 _ some) o0' (.inl rfl) r'.path (q330 _ _) o' loc hl'
          refine ⟨oo, ?_, hlko, fun b2 off2 e2 rw2 hr2 => ?_⟩
          ·unfold q34; rw [er, hg]; exact hoo
          ·by_cases e3 : b2 = b
           ·subst e3
            obtain ⟨ty, hr2⟩ := hr2
            rw [hheap] at hr2; cases hr2
           ·exact ⟨rw2, hr2.keep (hother b2 e3), rfl⟩
         ·refine q46.of_stay (FA' := FA1) htook.ob rfl (q33 _ (Ne.symm er) _) fun o2 ho2 => ?_
          refine ⟨by rw [hhs]; exact Nat.le_refl _, fun c hc => hother c fun e => ?_, hout, fun c hc => .inl hc⟩
          exact htook.ob.dj _ _ o2 o0 ho2 hg er c hc (e ▸ hs1 b hbG1)
      ·cases hK
  ·cases h
 ·cases h
end
end Go.Lf
namespace Go.Lf
section
variable {P : Program} {C : Ctx} {k : Nat} {tm : List (Nat × V)} {obs : List (Nat × Ob)} {fresh : Nat} {o : Oper} {a : Act} {w : World} {E : Bs} {β : Nat -> Option (Nat × Nat)} {F : Bs} {Gk : Nat -> Bs}
theorem op_call {R : Type} {K : OpK R} {r : R} (hE : q26 P C) (hf : FR C w E β tm obs a F Gk) (hfr : Free obs fresh) {c : Call} {x : Operand} (ho : o.op = .call c) (hc : c.callee = .value x) (h : opK C k tm obs fresh o K = some r) : OpOk P C k tm obs fresh o a w E β F := by
 have hop : o.op.operands = #[x] ++ c.args := by rw [ho]; simp [Op.operands, Call.operands, hc]
 have hx : x ∈ o.op.operands := by rw [hop]; simp
 have hargs : ∀ y ∈ c.args.toList, y ∈ o.op.operands := fun y hy => by rw [hop]; simp; exact .inr (Array.mem_toList_iff.1 hy)
 unfold opK at h
 simp only [ho, hc] at h
 split at h
 ·rename_i f caps hb
  split at h
  ·rename_i S hS
   obtain ⟨hid, hsound⟩ := hE f _ S hS
   have rx := q30 hf x
   rw [hb] at rx
   obtain ⟨us, hu, hall⟩ := rx
   have hv : All2 (VR w β obs F) (c.args.toList.map (opnd tm) ++ caps) (c.args.toList.map a.eval ++ us.toList) :=
    All2.append (All2.maps fun y _ => q30 hf y) (hall.imp fun v u _ h => h.vr)
   obtain ⟨v, d, rd, iv, hst, hrefs, hkeys, hcalls⟩ := callK_ok hf.ob hfr hsound hv h
   refine ⟨v, d, rd, iv, fun tm' obs' ht htR hd R' K' => ?_, fun r hr => .inl (hrefs r hr), hkeys, fun next Q hnext => ?_⟩
   ·unfold opK
    have hm : c.args.toList.map (opnd tm') = c.args.toList.map (opnd tm) := List.map_congr_left fun y hy => ht y (hargs y hy)
    simp only [ho, hc, ht x hx, hb, hm, hS]
    exact hst obs' hd R' K'
   ·obtain ⟨fn, hfn, hn, hbody⟩ := hsound.entry
    unfold Oper.wp
    rw [hid] at hfn
    rw [run_call ho hc hu hfn hn hbody, Oper.upon_enter]
    have e : (c.args.map a.eval ++ us) = (c.args.toList.map a.eval ++ us.toList).toArray := by
     apply Array.toList_inj.1
     simp
    rw [e, <- hid]
    refine hcalls.mono fun e w' ⟨u, he, β', F', Gk', h1, h2, h3, h4, h5, h6⟩ => ?_
    subst he
    exact hnext u w' β' F' Gk' h1 h2 h3 h4 h5 h6
  ·cases h
 ·cases h
theorem q474 {R : Type} {K : OpK R} {r : R} (hT : q81 P C) (hf : FR C w E β tm obs a F Gk) {t : TypeId} {parts : Array (Nat × Operand)} (ho : o.op = .buildSlice t 0 parts) (h : opK C k tm obs fresh o K = some r) : OpOk P C k tm obs fresh o a w E β F := by
 unfold opK at h
 simp only [ho] at h
 split at h
 ·rename_i q he hp
  obtain ⟨e, bytes, τ, zero⟩ := q
  obtain ⟨inf, z, hu, hi, hsz, _, _, hz, _, _⟩ := q192 hT he
  refine ⟨.nils, [], [], [], fun tm' obs' ht htR hd R' K' => ?_, Src.none rfl, Keys.nil, fun next Q hnext => ?_⟩
  ·unfold opK; simp only [ho, he, hp]
  ·have hpe : parts = #[] := Array.toList_inj.1 (by simpa using hp)
   have hrun : (execOp a.eval o).run P w = .ok (.value (.slice (some ⟨w.heap.size, 0, none⟩) 0 0)) (w.alloc (.cells #[] e)) := by
    simp [execOp, ho, hpe, Instr.buildSlice, run_underlying hu, sizeOf, typeInfo, hi, newRow, Instr.fill, show Array.range 0 = #[] from rfl]
   unfold Oper.wp
   rw [hrun, Oper.upon_value]
   have hold : ∀ b, b < w.heap.size -> (w.alloc (.cells #[] e)).heap[b]? = w.heap[b]? := fun b hb => q74 w _ hb
   have hlt := q261 hf.ob.a
   have hst : ∀ G : Bs, (∀ b, G b -> F b) -> Stay w F (w.alloc (.cells #[] e)) F G := fun G hG => ⟨by simp, fun b hb => hold b (hlt b (hG b hb)), fun b _ hb => hold b hb, fun b hb => .inl hb⟩
   refine hnext _ _ β F Gk ⟨fun q o' hq => (hf.ob.rel q o' hq).keep (hst _ fun b hb => (hf.ob.cov b).2 (.inr ⟨q, o', hq, hb⟩)), hf.ob.dj, hf.ob.cov, hf.ob.out, fun b hb => Nat.lt_of_lt_of_le (hf.ob.elt b hb) (by simp)⟩
    ⟨_, rfl⟩ (q113 w _) (hst _ fun _ h => h.elim) (fun b hb => hold b (hf.ob.elt b hb)) fun r _ _ => ?_
   exact q46.of_stay (FA' := F) hf.ob.a rfl rfl fun o' ho' => hst _ fun b hb => (hf.ob.cov b).2 (.inr ⟨r.root, o', ho', hb⟩)
 ·cases h
theorem op_ok {R : Type} {K : OpK R} {r : R} (hT : q81 P C) (hE : q26 P C) (hf : FR C w E β tm obs a F Gk) (hfr : Free obs fresh) (h : opK C k tm obs fresh o K = some r) : OpOk P C k tm obs fresh o a w E β F := by
 cases ho : o.op with
 | move x => exact q743 hf (.inl ho) h
 | assign x => exact q743 hf (.inr ho) h
 | pick c x y => exact op_pick hf ho h
 | alloc e => exact op_alloc hT hf hfr ho h
 | box e x => exact op_box hf hfr ho h
 | build t ps => exact op_build hT hf ho h
 | buildSlice t n ps =>
  cases n with
  | zero => exact q474 hT hf ho h
  | succ n => exact q447 hT hf hfr ho h
 | load t x => exact op_load hT hf ho h
 | store t x y => exact op_store hT hf ho h
 | nilCheck x => exact q540 hf ho h
 | binOp op t x y t' => exact op_binOp hT hf ho h
 | unOp op t x => exact op_unOp hf ho h
 | convert s t x => exact q612 hT hf ho h
 | makeSlice t x y => exact q457 hT hf hfr ho h
 | slice t x lo hi mx => exact op_slice hT hf ho h
 | fieldAddr s x f => exact q489 hT hf ho h
 | field s x f => exact op_field hT hf ho h
 | indexAddr t x y => exact q494 hT hf ho h
 | extract x i => exact q630 hf ho h
 | makeMap t r => exact q609 hT hf hfr ho h
 | lookup t x y ok => exact q726 hT hf ho h
 | mapUpdate t x y z => exact q506 hT hf ho h
 | makeFunc f first caps =>
  cases f with
  | func f => exact q511 hf ho h
  | _ => unfold opK at h; simp only [ho] at h; cases h
 | call c =>
  cases hc : c.callee with
  | value x => exact op_call hE hf hfr ho hc h
  | invoke x m => unfold opK at h; simp only [ho, hc] at h; cases h
  | builtin b =>
   cases b with
   | len => exact op_len hT hf ho hc h
   | append => exact q661 hT hf hfr ho hc h
   | max => exact q493 hf ho (.inl hc) h
   | min => exact q493 hf ho (.inr hc) h
   | _ => unfold opK at h; simp only [ho, hc] at h; cases h
 | _ => unfold opK at h; simp only [ho] at h; cases h
end
end Go.Lf
namespace Go.Lf
structure Step (ds : Nat -> Prop) (w : World) (E F : Bs) (a : Act) (w' : World) (F' : Bs) (a' : Act) : Prop where
 apart : q121 w w'
 stay : Stay w F w' F' (fun _ => False)
 keepE : ∀ b, E b -> w'.heap[b]? = w.heap[b]?
 same : ∀ t, ¬ ds t -> a'.tmps[t]? = a.tmps[t]?
 defers : a'.defers = a.defers
theorem Stay.trans {w w' w'' : World} {F F' F'' : Bs} (h : Stay w F w' F' (fun _ => False)) (k : Stay w' F' w'' F'' (fun _ => False)) : Stay w F w'' F'' (fun _ => False) :=
 ⟨Nat.le_trans h.size k.size, fun _ h => h.elim,
  fun b hb hs => (k.out b (fun hb' => (h.less b hb').elim hb fun h' => absurd hs (Nat.not_lt.2 h')) (Nat.lt_of_lt_of_le hs h.size)).trans (h.out b hb hs),
  fun b hb => (k.less b hb).elim (h.less b) fun h' => .inr (Nat.le_trans h.size h')⟩
theorem Step.refl {ds : Nat -> Prop} {w : World} {E F : Bs} {a : Act} : Step ds w E F a w F a := ⟨q121.refl w, Stay.refl w F _, fun _ _ => rfl, fun _ _ => rfl, rfl⟩
theorem Step.trans {ds ds' ds'' : Nat -> Prop} {w w' w'' : World} {E F F' F'' : Bs} {a a' a'' : Act} (h : Step ds w E F a w' F' a') (k : Step ds' w' E F' a' w'' F'' a'') (h1 : ∀ t, ds t -> ds'' t) (h2 : ∀ t, ds' t -> ds'' t) : Step ds'' w E F a w'' F'' a'' :=
 ⟨h.apart.trans k.apart, h.stay.trans k.stay, fun b hb => (k.keepE b hb).trans (h.keepE b hb), fun t ht => (k.same t fun h => ht (h2 t h)).trans (h.same t fun h => ht (h1 t h)), k.defers.trans h.defers⟩
structure SR (C : Ctx) (w : World) (E : Bs) (β : Nat -> Option (Nat × Nat)) (S : St) (a : Act) (F : Bs) (Gk : Nat -> Bs) : Prop where
 fr : FR C w E β S.tm S.ob a F Gk
 kl : ∀ q, get q S.ob ≠ none -> q < S.nx
 rl : ∀ t v, get t S.tm = some v -> ∀ r ∈ q24 v, r.root < S.nx
theorem q587 (iv : List (Ref × Bool)) (v : V) : leads iv v = (q37 v).any fun r => q57 r iv := by
 cases v <;> simp [leads, q37]
theorem q247 (iv : List (Ref × Bool)) : ∀ l : List V, q280 iv l = (l.flatMap q37).any fun r => q57 r iv
 | [] => rfl
 | v :: l => by simp only [q280, List.flatMap_cons, List.any_append, q587, q247 iv l]
theorem q459 (iv : List (Ref × Bool)) (v : V) : q597 iv v = (q31 v).any fun r => q57 r iv := by
 cases v with
 | agg fs => exact q247 iv fs
 | fn f fs => exact q247 iv fs
 | _ => simp [q597, q31, q587]
theorem q467 (iv : List (Ref × Bool)) : ∀ l : List V, q552 iv l = (l.flatMap q31).any fun r => q57 r iv
 | [] => rfl
 | v :: l => by simp only [q552, List.flatMap_cons, List.any_append, q459, q467 iv l]
theorem q341 (iv : List (Ref × Bool)) (v : V) : q126 iv v = (q24 v).any fun r => q57 r iv := by
 cases v with
 | tup fs => exact q467 iv fs
 | _ => simp only [q126, q24, q459]
theorem q473 (v : V) : q135 [] v = v := by
 unfold q135
 rw [q341]
 have : ((q24 v).any fun r => q57 r []) = false := by
  rw [List.any_eq_false]; intro r _; simp [q57]
 rw [this]; rfl
theorem q216 (t : Nat) (iv : List (Ref × Bool)) (tm : List (Nat × V)) : get t (q229 iv tm) = (get t tm).map (q135 iv) := by
 have go : ∀ l : List (Nat × V), get t (q335 iv l) = (get t l).map (q135 iv) := by
  intro l
  induction l with
  | nil => rfl
  | cons p l ih =>
   obtain ⟨j, v⟩ := p
   unfold q335 get
   cases Nat.beq j t with
   | true => rfl
   | false => exact ih
 cases iv with
 | nil =>
  show get t tm = _
  have : (q135 [] : V -> V) = id := funext q473
  rw [this]; simp
 | cons p l => exact go tm
theorem q94 (t : Nat) (dst : Option Nat) (v : V) (tm : List (Nat × V)) : get t (q95 dst v tm) = if dst = some t then some v else get t tm := by
 cases dst with
 | none => simp [q95]
 | some d =>
  by_cases e : d = t
  ·subst e; simp [q95, q47]
  ·simp [q95, q33 _ e, e]
theorem q93 {t : Nat} {keep : List Nat} {v : V} : ∀ {tm : List (Nat × V)}, get t (q73 keep tm) = some v -> get t tm = some v
 | [], h => h
 | (j, u) :: l, h => by
  unfold q73 at h
  unfold get
  cases hm : mem j keep with
  | true =>
   rw [hm] at h
   have h' : get t ((j, u) :: q73 keep l) = some v := h
   unfold get at h'
   cases e : Nat.beq j t with
   | true => rw [e] at h'; exact h'
   | false => rw [e] at h'; exact q93 h'
  | false =>
   rw [hm] at h
   have h' : get t (q73 keep l) = some v := h
   cases e : Nat.beq j t with
   | true =>
    exfalso
    have ej := y143 e
    subst ej
    have : ∀ l : List (Nat × V), get j (q73 keep l) = none := by
     intro l
     induction l with
     | nil => rfl
     | cons p l ih =>
      obtain ⟨i, x⟩ := p
      unfold q73
      cases hi : mem i keep with
      | false => exact ih
      | true =>
       show get j ((i, x) :: q73 keep l) = none
       unfold get
       cases e : Nat.beq i j with
       | true => have := y143 e; subst this; rw [hm] at hi; cases hi
       | false => exact ih
    rw [this l] at h'; cases h'
   | false => exact q93 h'
theorem q454 (u : Value) : q24 (ofValue u) = [] := by
 unfold ofValue
 split <;> rfl
theorem q492 {tm : List (Nat × V)} {x : Operand} {r : Ref} (h : r ∈ q24 (opnd tm x)) : ∃ t v, x = .tmp t /\ get t tm = some v /\ q152 tm x = v /\ r ∈ q24 v := by
 unfold opnd at h
 rw [q510] at h
 cases x with
 | tmp t =>
  have h' : r ∈ q24 ((get t tm).getD .undef) := h
  cases hg : get t tm with
  | none => rw [hg] at h'; cases h'
  | some v => rw [hg] at h'; exact ⟨t, v, rfl, hg, by simp [q152, hg], h'⟩
 | const u =>
  have h' : r ∈ q24 (ofValue u) := h
  rw [q454] at h'; cases h'
 | func f => cases h
 | global g => cases h
section
variable {P : Program} {C : Ctx} {k : Nat} {tm : List (Nat × V)} {obs : List (Nat × Ob)} {fresh : Nat} {o : Oper} {a : Act} {w : World} {E : Bs} {β : Nat -> Option (Nat × Nat)} {F : Bs} {Gk : Nat -> Bs}
theorem FR.le {tm' : List (Nat × V)} (h : FR C w E β tm obs a F Gk) (hle : ∀ t v, get t tm' = some v -> get t tm = some v \/ (v = .undef /\ ∃ v', get t tm = some v')) : FR C w E β tm' obs a F Gk := by
 refine ⟨fun t v hv => ?_, h.ob, h.nt⟩
 rcases hle t v hv with h' | ⟨e, v', h'⟩
 ·exact h.tm t v h'
 ·obtain ⟨u, hu, _⟩ := h.tm t v' h'
  subst e
  exact ⟨u, hu, VR.undef⟩
theorem q262 {dst : Option Nat} (h : pinned C dst = false) : ∀ d, dst = some d -> d ∉ C.pin /\ d < C.nt := by
 intro d e
 subst e
 have h' : (mem d C.pin || !Nat.blt d C.nt) = false := h
 rw [Bool.or_eq_false_iff] at h'
 refine ⟨fun hd => ?_, ?_⟩
 ·rw [(q209 C.pin).2 hd] at h'; cases h'.1
 ·have := h'.2
  simp only [Bool.not_eq_false'] at this
  simpa [Nat.blt_eq] using this
theorem q268 {dst : Option Nat} {u : Value} {t : Nat} : (a.put dst u).tmps[t]? = if dst = some t /\ t < a.tmps.size then some u else a.tmps[t]? := by
 cases dst with
 | none => simp [Act.put]
 | some d =>
  simp only [Act.put, Array.getElem?_setIfInBounds]
  by_cases e : d = t
  ·subst e
   by_cases hl : d < a.tmps.size
   ·simp [hl]
   ·simp [hl]
  ·simp [e]
theorem q564 {dst : Option Nat} {u : Value} : (a.put dst u).tmps.size = a.tmps.size := by
 cases dst <;> simp [Act.put]
theorem q623 {dst : Option Nat} {u : Value} : (a.put dst u).defers = a.defers := by
 cases dst <;> simp [Act.put]
theorem FR.step (hf : FR C w E β tm obs a F Gk) {dst : Option Nat} {v : V} {u : Value} {w' : World} {β' : Nat -> Option (Nat × Nat)} {F' : Bs} {Gk' : Nat -> Bs} {d : q32} {iv : List (Ref × Bool)} (hp : pinned C dst = false)
  (hob : ObsR w' E F' β' (q21 d obs) Gk') (hv : VR w' β' (q21 d obs) F' v u) (hs : Stay w F w' F' (fun _ => False)) (hr : ∀ r, ¬ inR fresh r -> q57 r iv = false -> q46 w β obs w' β' (q21 d obs) r)
  (hlow : ∀ t v, get t tm = some v -> ∀ r ∈ q24 v, ¬ inR fresh r) : FR C w' E β' (q95 dst v (q229 iv tm)) (q21 d obs) (a.put dst u) F' Gk' := by
 refine ⟨fun t x hx => ?_, hob, by rw [q564, hf.nt]⟩
 rw [q94] at hx
 split at hx
 ·rename_i e
  injection hx with hx; subst hx
  refine ⟨u, ?_, hv⟩
  rw [q268, if_pos ⟨e, by rw [hf.nt]; exact (q262 hp t e).2⟩]
 ·rename_i e
  rw [q216] at hx
  cases hg : get t tm with
  | none => rw [hg] at hx; cases hx
  | some y =>
   rw [hg] at hx
   injection hx with hx; subst hx
   obtain ⟨u', hu', hvr⟩ := hf.tm t y hg
   refine ⟨u', by rw [q268, if_neg fun h => e h.1]; exact hu', ?_⟩
   unfold q135
   cases hl : q126 iv y with
   | true => exact VR.undef
   | false =>
    rw [q341, List.any_eq_false] at hl
    exact VR.keep hvr hs fun r hrm => hr r (hlow t y hg r hrm) (by simpa using hl r hrm)
theorem q742 {d : q32} {iv : List (Ref × Bool)} {n : Nat} (hk : Keys obs n d iv) (hl : ∀ q, get q obs ≠ none -> q < n) : ∀ q, get q (q21 d obs) ≠ none -> q < n + 4 := by
 intro q hq
 by_cases e : q ∈ q15 d
 ·rcases hk.1 q e with h | h
  ·have := hl q h; omega
  ·exact h.2
 ·rw [q48 d obs e] at hq
  have := hl q hq; omega
theorem q705 {v : V} {rd : List Nat} {iv : List (Ref × Bool)} {n : Nat} (hs : Src tm n o rd v) (hl : ∀ t v, get t tm = some v -> ∀ r ∈ q24 v, r.root < n) : ∀ t x, get t (q95 o.dst v (q229 iv tm)) = some x -> ∀ r ∈ q24 x, r.root < n + 4 := by
 intro t x hx r hr
 rw [q94] at hx
 split at hx
 ·injection hx with hx; subst hx
  rcases hs r hr with ⟨h, _⟩ | ⟨y, _, q, hq, e, _⟩
  ·exact h.2
  ·obtain ⟨t', v', _, hg, _, hq'⟩ := q492 hq
   have := hl t' v' hg q hq'
   omega
 ·rw [q216] at hx
  cases hg : get t tm with
  | none => rw [hg] at hx; cases hx
  | some y =>
   rw [hg] at hx
   injection hx with hx; subst hx
   unfold q135 at hr
   cases hl' : q126 iv y with
   | true => rw [hl'] at hr; cases hr
   | false => rw [hl'] at hr; have := hl t y hg r hr; omega
theorem q662 {n : Nat} (hl : ∀ q, get q obs ≠ none -> q < n) : Free obs n := by
 intro j h1 h2
 cases hg : get j obs with
 | none => rfl
 | some x => have := hl j (by rw [hg]; exact fun e => by cases e); omega
theorem FR.skip (hf : FR C w E β tm obs a F Gk) {dst : Option Nat} (hp : pinned C dst = false) : FR C w E β (q95 dst (.tup []) tm) obs (a.put dst undef) F Gk := by
 refine ⟨fun t x hx => ?_, hf.ob, by rw [q564, hf.nt]⟩
 rw [q94] at hx
 split at hx
 ·rename_i e
  injection hx with hx; subst hx
  exact ⟨undef, by rw [q268, if_pos ⟨e, by rw [hf.nt]; exact (q262 hp t e).2⟩], ⟨#[], rfl, .nil⟩⟩
 ·rename_i e
  obtain ⟨u', hu', hvr⟩ := hf.tm t x hx
  exact ⟨u', by rw [q268, if_neg fun h => e h.1]; exact hu', hvr⟩
theorem Step.put {ds : Nat -> Prop} {F' : Bs} {w' : World} {u : Value} {dst : Option Nat} (hap : q121 w w') (hs : Stay w F w' F' (fun _ => False)) (hE : ∀ b, E b -> w'.heap[b]? = w.heap[b]?) (hd : ∀ d, dst = some d -> ds d) : Step ds w E F a w' F' (a.put dst u) := by
 refine ⟨hap, hs, hE, fun t ht => ?_, q623⟩
 rw [q268, if_neg fun h => ht (hd t h.1)]
def Wr (C : Ctx) (l : List Nat) (t : Nat) : Prop := t ∈ l /\ t ∉ C.pin
theorem q156 {ops : Array Oper} {j t : Nat} {b : Bool} (ht : (ops[j]?).bind (·.dst) = some t) (hu : a.tmps[t]? = some (.bool b)) : yielded ops a.tmps j = some b := by
 unfold yielded
 rw [ht]
 simp [hu]
theorem q307 {ops : Array Oper} {j t : Nat} (ht : (ops[j]?).bind (·.dst) = some t) (hu : a.tmps[t]? = some undef) : yielded ops a.tmps j = none := by
 unfold yielded
 rw [ht]
 simp [hu, undef]
theorem q164 {tm : List (Nat × V)} {t : Nat} {v : V} (h : get t tm = some v) (t' : Nat) : get t' (put t v tm) = get t' tm := by
 by_cases e : t = t'
 ·subst e; rw [q47, h]
 ·rw [q33 _ e]
theorem q293 {R : Type} {K : St -> Option R} {r : R} (hT : q81 P C) (hE : q26 P C) {ops : Array Oper} {base : Nat} {log : List (Nat × List Nat × List Nat)} : ∀ (rest : List Oper) (i : Nat) {tm : List (Nat × V)} {obs : List (Nat × Ob)} {a : Act} {w : World} {F : Bs} {β : Nat -> Option (Nat × Nat)} {Gk : Nat -> Bs},
  i + rest.length = ops.size -> q62 C k ops false [] base rest i log tm obs K = some r -> FR C w E β tm obs a F Gk -> (∀ q, get q obs ≠ none -> q < base + 4 * i) -> (∀ t v, get t tm = some v -> ∀ r ∈ q24 v, r.root < base + 4 * i) ->
  ∀ Q, (∀ S' w' β' F' Gk' a', K S' = some r -> SR C w' E β' S' a' F' Gk' -> Step (Wr C (q64 rest)) w E F a w' F' a' -> Q .normal a' w') -> wpList P ops Q rest a w
 | [], i, tm, obs, a, w, F, β, Gk, hi, h, hf, hk, hr, Q, hQ => by
  have h' : K ⟨q73 C.keep tm, obs, base + 4 * ops.size⟩ = some r := h
  have hi' : i = ops.size := by simpa using hi
  subst hi'
  exact hQ _ w β F Gk a h' ⟨hf.le fun t v hv => .inl (q93 hv), hk, fun t v hv => hr t v (q93 hv)⟩ Step.refl
 | o :: rest, i, tm, obs, a, w, F, β, Gk, hi, h, hf, hk, hr, Q, hQ => by
  have hi' : i + 1 + rest.length = ops.size := by simp only [y167] at hi; omega
  cases hp : pinned C o.dst with
  | true => unfold q62 at h; rw [hp] at h; cases h
  | false =>
  have hds : ∀ d, o.dst = some d -> Wr C (q64 (o :: rest)) d := fun d hd => ⟨by unfold q64; rw [hd]; exact y169, (q262 hp d hd).1⟩
  have hds' : ∀ t, Wr C (q64 rest) t -> Wr C (q64 (o :: rest)) t := fun t ht => ⟨by unfold q64; split <;> first | exact y155 _ ht.1 | exact ht.1, ht.2⟩
  have run : ∀ (tm1 : List (Nat × V)), (∀ t, get t tm1 = get t tm) -> opK C k tm1 obs (base + 4 * i) o (fun v d rd iv => q62 C k ops false [] base rest (i + 1) log (q95 o.dst v (q229 iv tm1)) (q21 d obs) K) = some r ->
    o.wp P a w (wpList P ops Q rest) Q := by
   intro tm1 he h1
   have hf1 : FR C w E β tm1 obs a F Gk := ⟨fun t v hv => hf.tm t v (by rw [<- he]; exact hv), hf.ob, hf.nt⟩
   have hr1 : ∀ t v, get t tm1 = some v -> ∀ r ∈ q24 v, r.root < base + 4 * i := fun t v hv => hr t v (by rw [<- he]; exact hv)
   obtain ⟨v, d, rd, iv, hst, hsrc, hkeys, hgood⟩ := op_ok hT hE hf1 (q662 hk) h1
   rw [hst tm1 obs (fun _ _ => rfl) (fun _ _ => rfl) (fun _ _ => rfl)] at h1
   refine hgood _ _ fun u w' β' F' Gk' hob hv hap hstay hEk hrk => ?_
   have hf2 := hf1.step hp hob hv hstay hrk fun t v hv r hr' h => absurd h.1 (Nat.not_le.2 (hr1 t v hv r hr'))
   exact q293 hT hE rest (i + 1) hi' h1 hf2 (fun q hq => by have := q742 hkeys hk q hq; omega) (fun t x hx r hr' => by have := q705 hsrc hr1 t x hx r hr'; omega) Q
    fun S' w2 β2 F2 Gk2 a2 hK hS hstep => hQ S' w2 β2 F2 Gk2 a2 hK hS ((Step.put (ds := Wr C (q64 (o :: rest))) hap hstay hEk hds).trans hstep (fun _ h => h) hds')
  have skip : ∀ (tm1 : List (Nat × V)), (∀ t, get t tm1 = get t tm) -> q62 C k ops false [] base rest (i + 1) log (q95 o.dst (.tup []) tm1) obs K = some r -> wpList P ops Q rest (a.put o.dst undef) w := by
   intro tm1 he h1
   have hf1 : FR C w E β tm1 obs a F Gk := ⟨fun t v hv => hf.tm t v (by rw [<- he]; exact hv), hf.ob, hf.nt⟩
   have hf2 := hf1.skip hp
   exact q293 hT hE rest (i + 1) hi' h1 hf2 (fun q hq => by have := hk q hq; omega) (fun t x hx r hr' => by
     rw [q94] at hx
     split at hx
     ·injection hx with hx; subst hx; cases hr'
     ·have := hr t x (by rw [<- he]; exact hx) r hr'; omega) Q
    fun S' w2 β2 F2 Gk2 a2 hK hS hstep => hQ S' w2 β2 F2 Gk2 a2 hK hS ((Step.put (ds := Wr C (q64 (o :: rest))) (q121.refl w) (Stay.refl w F _) (fun _ _ => rfl) hds).trans hstep (fun _ h => h) hds')
  unfold q62 at h
  rw [hp] at h
  simp only [cond] at h
  show if Region.wanted o (yielded ops a.tmps) then o.wp P a w (wpList P ops Q rest) Q \/ (o.asks P a w /\ LetsOut Q) else wpList P ops Q rest (a.put o.dst undef) w
  cases hg : o.guard with
  | none =>
   rw [hg] at h
   have hw : Region.wanted o (yielded ops a.tmps) = true := by unfold Region.wanted; rw [hg]
   rw [hw, if_pos rfl]
   exact .inl (run tm (fun _ => rfl) h)
  | some gw =>
   obtain ⟨j, want⟩ := gw
   rw [hg] at h
   simp only at h
   have hwe : Region.wanted o (yielded ops a.tmps) = (yielded ops a.tmps j == some want) := by unfold Region.wanted; rw [hg]
   rw [hwe]
   split at h
   ·rename_i t ht
    split at h
    ·rename_i b hgt
     obtain ⟨u, hu, hvr⟩ := hf.tm t _ hgt
     have := q55 hvr
     subst this
     rw [q156 ht hu]
     cases b with
     | true => exact .inl (run _ (q164 hgt) h)
     | false => exact skip _ (q164 hgt) h
    ·rename_i b hgt
     obtain ⟨u, hu, hvr⟩ := hf.tm t _ hgt
     have := q55 hvr
     subst this
     rw [q156 ht hu]
     cases b with
     | true => exact skip _ (q164 hgt) h
     | false => exact .inl (run _ (q164 hgt) h)
    ·rename_i hgt
     obtain ⟨u, hu, us, hus, hall⟩ := hf.tm t _ hgt
     cases hall' : us.toList with
     | cons x l => rw [hall'] at hall; cases hall
     | nil =>
      have : us = #[] := Array.toList_inj.1 (by simpa using hall')
      subst this
      subst hus
      rw [q307 ht hu]
      exact skip tm (fun _ => rfl) h
    ·cases h
   ·cases h
end
end Go.Lf
namespace Go.Lf
structure Rec where
 dst : Option Nat
 v : V
 d : q32
 rd : List Nat
 iv : List (Ref × Bool)
def appF : q32 -> Nat -> Option Ob -> Option Ob
 | [], _, o => o
 | (k, x) :: d, q, o => appF d q (if k = q then x else o)
theorem q332 : ∀ (d : q32) (obs : List (Nat × Ob)) (q : Nat), get q (q21 d obs) = appF d q (get q obs)
 | [], _, _ => rfl
 | (k, some o) :: d, obs, q => by
  show get q (q21 d (put k o obs)) = _
  rw [q332 d]
  show _ = appF d q (if k = q then some o else get q obs)
  by_cases e : k = q
  ·subst e; rw [q47, if_pos rfl]
  ·rw [q33 _ e, if_neg e]
 | (k, none) :: d, obs, q => by
  show get q (q21 d (del k obs)) = _
  rw [q332 d]
  show _ = appF d q (if k = q then none else get q obs)
  by_cases e : k = q
  ·subst e; rw [q200, if_pos rfl]
  ·rw [q96 e, if_neg e]
theorem q153 {q : Nat} : ∀ {d : q32} (o : Option Ob), q ∉ q15 d -> appF d q o = o
 | [], _, _ => rfl
 | (k, x) :: d, o, h => by
  have h1 : k ≠ q := fun e => h (by simp [q15, e])
  have h2 : q ∉ q15 d := fun e => h (by simp [q15, e])
  unfold appF
  rw [if_neg h1, q153 o h2]
def q97 (x : Rec) (T : Nat -> Option V) (t : Nat) : Option V := if x.dst = some t then some x.v else (T t).map (q135 x.iv)
def q105 (x : Rec) (O : Nat -> Option Ob) (q : Nat) : Option Ob := appF x.d q (O q)
def q84 (rc : Nat -> Rec) (l : List Nat) (T : Nat -> Option V) : Nat -> Option V := l.foldl (fun T j => q97 (rc j) T) T
def q82 (rc : Nat -> Rec) (l : List Nat) (O : Nat -> Option Ob) : Nat -> Option Ob := l.foldl (fun O j => q105 (rc j) O) O
theorem q384 (iv : List (Ref × Bool)) : q135 iv .undef = .undef := by
 unfold q135; cases q126 iv .undef <;> rfl
theorem q636 (iv iv' : List (Ref × Bool)) (v : V) : q135 iv (q135 iv' v) = q135 iv' (q135 iv v) := by
 unfold q135
 cases h : q126 iv v <;> cases h' : q126 iv' v <;> simp [h, h'] <;> (try cases q126 _ V.undef <;> rfl)
theorem q292 {iv : List (Ref × Bool)} {v : V} (h : q126 iv v = false) : q135 iv v = v := by unfold q135; rw [h]; rfl
structure q717 (x y : Rec) : Prop where
 dst : ∀ d, x.dst = some d -> y.dst ≠ some d
 keys : ∀ q ∈ q15 x.d, q ∉ q15 y.d
 xv : q126 y.iv x.v = false
 yv : q126 x.iv y.v = false
theorem q642 {x y : Rec} (h : q717 x y) (T : Nat -> Option V) : q97 x (q97 y T) = q97 y (q97 x T) := by
 funext t
 unfold q97
 by_cases hx : x.dst = some t <;> by_cases hy : y.dst = some t
 ·exact absurd hy (h.dst t hx)
 ·rw [if_pos hx, if_neg hy, if_pos hx]; simp [q292 h.xv]
 ·rw [if_neg hx, if_pos hy, if_pos hy]; simp [q292 h.yv]
 ·rw [if_neg hx, if_neg hy, if_neg hy, if_neg hx]
  cases T t with
  | none => rfl
  | some v => simp [q636]
theorem q640 {x y : Rec} (h : q717 x y) (O : Nat -> Option Ob) : q105 x (q105 y O) = q105 y (q105 x O) := by
 funext q
 unfold q105
 by_cases hx : q ∈ q15 x.d
 ·rw [q153 (O q) (h.keys q hx), q153 _ (h.keys q hx)]
 ·rw [q153 _ hx, q153 (O q) hx]
theorem q410 {rc : Nat -> Rec} {i : Nat} : ∀ {B : List Nat} (T : Nat -> Option V), (∀ j ∈ B, q717 (rc i) (rc j)) -> q84 rc B (q97 (rc i) T) = q97 (rc i) (q84 rc B T)
 | [], _, _ => rfl
 | j :: B, T, h => by
  show q84 rc B (q97 (rc j) (q97 (rc i) T)) = q97 (rc i) (q84 rc B (q97 (rc j) T))
  rw [<- q642 (h j (by simp))]
  exact q410 _ fun x hx => h x (by simp [hx])
theorem q408 {rc : Nat -> Rec} {i : Nat} : ∀ {B : List Nat} (O : Nat -> Option Ob), (∀ j ∈ B, q717 (rc i) (rc j)) -> q82 rc B (q105 (rc i) O) = q105 (rc i) (q82 rc B O)
 | [], _, _ => rfl
 | j :: B, O, h => by
  show q82 rc B (q105 (rc j) (q105 (rc i) O)) = q105 (rc i) (q82 rc B (q105 (rc j) O))
  rw [<- q640 (h j (by simp))]
  exact q408 _ fun x hx => h x (by simp [hx])
theorem q163 (rc : Nat -> Rec) (A B : List Nat) (T : Nat -> Option V) : q84 rc (A ++ B) T = q84 rc B (q84 rc A T) := List.foldl_append
theorem q160 (rc : Nat -> Rec) (A B : List Nat) (O : Nat -> Option Ob) : q82 rc (A ++ B) O = q82 rc B (q82 rc A O) := List.foldl_append
def Less (x y : Option V) : Prop := x = y \/ x = some .undef
theorem less_map {x y : Option V} (h : Less x y) (iv : List (Ref × Bool)) : Less (x.map (q135 iv)) (y.map (q135 iv)) := by
 rcases h with h | h
 ·exact .inl (by rw [h])
 ·exact .inr (by rw [h]; simp [q384])
theorem q660 {x y : Option V} (h : Less x y) (iv : List (Ref × Bool)) : Less (x.map (q135 iv)) y := by
 rcases h with h | h
 ·subst h
  cases x with
  | none => exact .inl rfl
  | some v =>
   unfold q135
   cases hl : q126 iv v with
   | true => exact .inr (by simp [hl])
   | false => exact .inl (by simp [hl])
 ·exact .inr (by rw [h]; simp [q384])
theorem q382 {rc : Nat -> Rec} {p : Nat -> Bool} {t : Nat} : ∀ (L : List Nat) {T T' : Nat -> Option V}, (∀ j ∈ L, p j = false -> (rc j).dst ≠ some t) -> Less (T t) (T' t) -> Less (q84 rc L T t) (q84 rc (L.filter p) T' t)
 | [], _, _, _, h => h
 | j :: L, T, T', hd, h => by
  show Less (q84 rc L (q97 (rc j) T) t) _
  cases hp : p j with
  | true =>
   rw [List.filter_cons_of_pos hp]
   refine q382 L (T := q97 (rc j) T) (T' := q97 (rc j) T') (fun x hx => hd x (by simp [hx])) ?_
   unfold q97
   by_cases e : (rc j).dst = some t
   ·rw [if_pos e, if_pos e]; exact .inl rfl
   ·rw [if_neg e, if_neg e]; exact less_map h _
  | false =>
   rw [List.filter_cons_of_neg (by simp [hp])]
   refine q382 L (T := q97 (rc j) T) (T' := T') (fun x hx => hd x (by simp [hx])) ?_
   unfold q97
   rw [if_neg (hd j (by simp) hp)]
   exact q660 h _
theorem q372 {rc : Nat -> Rec} {p : Nat -> Bool} {q : Nat} : ∀ (L : List Nat) {O O' : Nat -> Option Ob}, (∀ j ∈ L, p j = false -> q ∉ q15 (rc j).d) -> O q = O' q -> q82 rc L O q = q82 rc (L.filter p) O' q
 | [], _, _, _, h => h
 | j :: L, O, O', hd, h => by
  show q82 rc L (q105 (rc j) O) q = _
  cases hp : p j with
  | true =>
   rw [List.filter_cons_of_pos hp]
   refine q372 L (O := q105 (rc j) O) (O' := q105 (rc j) O') (fun x hx => hd x (by simp [hx])) ?_
   unfold q105
   rw [h]
  | false =>
   rw [List.filter_cons_of_neg (by simp [hp])]
   refine q372 L (O := q105 (rc j) O) (O' := O') (fun x hx => hd x (by simp [hx])) ?_
   unfold q105
   rw [q153 _ (hd j (by simp) hp), h]
theorem q567 {rc : Nat -> Rec} {t : Nat} {v : V} : ∀ (B : List Nat) {T : Nat -> Option V}, (∀ j ∈ B, (rc j).dst ≠ some t /\ q126 (rc j).iv v = false) -> T t = some v -> q84 rc B T t = some v
 | [], _, _, h => h
 | j :: B, T, hb, h => by
  refine q567 B (T := q97 (rc j) T) (fun x hx => hb x (by simp [hx])) ?_
  unfold q97
  rw [if_neg (hb j (by simp)).1, h]
  simp [q292 (hb j (by simp)).2]
theorem q600 {rc : Nat -> Rec} {q : Nat} : ∀ (B : List Nat) {O : Nat -> Option Ob}, (∀ j ∈ B, q ∉ q15 (rc j).d) -> q82 rc B O q = O q
 | [], _, _ => rfl
 | j :: B, O, hb => by
  show q82 rc B (q105 (rc j) O) q = _
  rw [q600 B fun x hx => hb x (by simp [hx])]
  exact q153 _ (hb j (by simp))
theorem q294 {rc : Nat -> Rec} {t : Nat} : ∀ (L : List Nat) {T : Nat -> Option V} {v : V}, q84 rc L T t = some v -> ∀ r ∈ q24 v, (∃ v', T t = some v' /\ r ∈ q24 v') \/ ∃ j ∈ L, (rc j).dst = some t /\ r ∈ q24 (rc j).v
 | [], _, v, h, r, hr => .inl ⟨v, h, hr⟩
 | j :: L, T, v, h, r, hr => by
  rcases q294 L (T := q97 (rc j) T) h r hr with ⟨v', h', hr'⟩ | ⟨x, hx, h'⟩
  ·unfold q97 at h'
   by_cases e : (rc j).dst = some t
   ·rw [if_pos e] at h'
    injection h' with h'; subst h'
    exact .inr ⟨j, by simp, e, hr'⟩
   ·rw [if_neg e] at h'
    cases hT : T t with
    | none => rw [hT] at h'; cases h'
    | some y =>
     rw [hT] at h'
     injection h' with h'; subst h'
     refine .inl ⟨y, rfl, ?_⟩
     unfold q135 at hr'
     cases hl : q126 (rc j).iv y with
     | true => rw [hl] at hr'; cases hr'
     | false => rw [hl] at hr'; exact hr'
  ·exact .inr ⟨x, by simp [hx], h'⟩
theorem q304 {rc : Nat -> Rec} {q : Nat} : ∀ (L : List Nat) {O : Nat -> Option Ob}, q82 rc L O q ≠ none -> O q ≠ none \/ ∃ j ∈ L, q ∈ q15 (rc j).d
 | [], _, h => .inl h
 | j :: L, O, h => by
  rcases q304 L (O := q105 (rc j) O) h with h' | ⟨x, hx, h'⟩
  ·by_cases e : q ∈ q15 (rc j).d
   ·exact .inr ⟨j, by simp, e⟩
   ·unfold q105 at h'
    rw [q153 _ e] at h'
    exact .inl h'
  ·exact .inr ⟨x, by simp [hx], h'⟩
theorem q240 {rc rc' : Nat -> Rec} : ∀ (L : List Nat) (T : Nat -> Option V), (∀ j ∈ L, rc j = rc' j) -> q84 rc L T = q84 rc' L T
 | [], _, _ => rfl
 | j :: L, T, h => by
  show q84 rc L (q97 (rc j) T) = q84 rc' L (q97 (rc' j) T)
  rw [h j (by simp)]
  exact q240 L _ fun x hx => h x (by simp [hx])
theorem q253 {rc rc' : Nat -> Rec} : ∀ (L : List Nat) (O : Nat -> Option Ob), (∀ j ∈ L, rc j = rc' j) -> q82 rc L O = q82 rc' L O
 | [], _, _ => rfl
 | j :: L, O, h => by
  show q82 rc L (q105 (rc j) O) = q82 rc' L (q105 (rc' j) O)
  rw [h j (by simp)]
  exact q253 L _ fun x hx => h x (by simp [hx])
theorem q242 {acc : List Nat} {j : Nat} : ∀ {l : List Edge}, (q236 acc l).testBit j = true -> ∃ e ∈ l, Region.binds .any e = true /\ (j = e.on \/ (acc.getD e.on 0).testBit j = true)
 | [], h => by simp [q236] at h
 | e :: l, h => by
  unfold q236 at h
  cases hb : Region.binds .any e with
  | true =>
   rw [hb] at h
   simp only [cond, Nat.testBit_or, Bool.or_eq_true] at h
   rcases h with (h | h) | h
   ·rw [Nat.testBit_two_pow] at h
    exact ⟨e, by simp, hb, .inl (by simpa using (of_decide_eq_true h).symm)⟩
   ·exact ⟨e, by simp, hb, .inr h⟩
   ·obtain ⟨e', he, h'⟩ := q242 h
    exact ⟨e', by simp [he], h'⟩
  | false =>
   rw [hb] at h
   obtain ⟨e', he, h'⟩ := q242 h
   exact ⟨e', by simp [he], h'⟩
theorem q312 : ∀ (l : List Oper) (acc : List Nat), (∀ i, i < acc.length -> (q197 acc l).getD i 0 = acc.getD i 0) /\
  ∀ i o, l[i]? = some o -> ∀ j, ((q197 acc l).getD (acc.length + i) 0).testBit j = true -> ∃ e ∈ o.after.toList, Region.binds .any e = true /\ (j = e.on \/ (e.on < acc.length + i /\ ((q197 acc l).getD e.on 0).testBit j = true))
 | [], acc => ⟨fun i _ => rfl, fun i o h => by simp at h⟩
 | o :: l, acc => by
  obtain ⟨h1, h2⟩ := q312 l (acc ++ [q236 acc o.after.toList])
  have hk : ∀ i, i < acc.length -> (q197 acc (o :: l)).getD i 0 = acc.getD i 0 := fun i hi => by
   show (q197 (acc ++ [q236 acc o.after.toList]) l).getD i 0 = _
   rw [h1 i (by rw [y148]; exact Nat.lt_add_right _ hi)]
   simp [List.getElem?_append_left hi]
  refine ⟨hk, fun i o' ho j hj => ?_⟩
  cases i with
  | zero =>
   simp at ho
   subst ho
   have e : (q197 acc (o :: l)).getD (acc.length + 0) 0 = q236 acc o.after.toList := by
    show (q197 (acc ++ [q236 acc o.after.toList]) l).getD acc.length 0 = _
    rw [h1 acc.length (by simp)]
    simp
   rw [e] at hj
   obtain ⟨e, he, hb, h⟩ := q242 hj
   refine ⟨e, he, hb, h.imp id fun h => ?_⟩
   have hlt : e.on < acc.length := by
    refine y146 fun hn => ?_
    rw [y164, y158 (Nat.not_lt.1 hn)] at h
    simp at h
   exact ⟨hlt, by rw [hk _ hlt]; exact h⟩
  | succ i =>
   have := h2 i o' (by simpa using ho) j (by rw [y148, y159, Nat.add_assoc, Nat.add_comm 1 i]; exact hj)
   obtain ⟨e, he, hb, h⟩ := this
   refine ⟨e, he, hb, h.imp id fun ⟨h3, h4⟩ => ⟨by rw [y148, y159] at h3; omega, h4⟩⟩
theorem q391 {ops : Array Oper} {i : Nat} {o : Oper} (ho : ops[i]? = some o) {j : Nat} (h : ((q53 ops).getD i 0).testBit j = true) :
  ∃ e ∈ o.after, Region.binds .any e = true /\ (j = e.on \/ (e.on < i /\ ((q53 ops).getD e.on 0).testBit j = true)) := by
 obtain ⟨e, he, h'⟩ := (q312 ops.toList []).2 i o (by simpa using ho) j (by simpa [q53] using h)
 exact ⟨e, by simpa using he, by simpa [q53] using h'⟩
def q679 (ops : Array Oper) (listed : Array Bool) : Prop := ∀ j oj, ops[j]? = some oj -> listed.getD j false = true -> ∀ e ∈ oj.after, Region.binds .any e = true -> listed.getD e.on false = true
theorem q370 {ops : Array Oper} {listed : Array Bool} (hs : listed.size = ops.size) (hc : q679 ops listed) : ∀ i, listed.getD i false = true -> ∀ j, ((q53 ops).getD i 0).testBit j = true -> listed.getD j false = true := by
 intro i
 induction i using Nat.strongRecOn with
 | _ i ih =>
  intro hl j hj
  have hlt : i < ops.size := by
   rw [<- hs]
   refine y146 fun hn => ?_
   rw [Array.getD_eq_getD_getElem?, Array.getElem?_eq_none (Nat.not_lt.1 hn)] at hl
   cases hl
  obtain ⟨e, he, hb, h⟩ := q391 (Array.getElem?_eq_getElem hlt) hj
  have hle := hc i _ (Array.getElem?_eq_getElem hlt) hl e he hb
  rcases h with h | ⟨h1, h2⟩
  ·rw [h]; exact hle
  ·exact ih e.on h1 hle j h2
theorem q610 {ops : Array Oper} {listed : Array Bool} (hs : listed.size = ops.size) (hc : q679 ops listed) {i : Nat} (hi : i ∈ Region.ready .any ops listed) : ∀ j, ((q53 ops).getD i 0).testBit j = true -> listed.getD j false = true := by
 intro j hj
 obtain ⟨_, o, ho, hall⟩ := mem_ready.1 hi
 obtain ⟨e, he, hb, h⟩ := q391 ho hj
 have hle := hall e he hb
 rcases h with h | ⟨h1, h2⟩
 ·rw [h]; exact hle
 ·exact q370 hs hc e.on hle j h2
theorem q367 {i : Nat} : ∀ {l : List Edge}, q462 i l = true -> ∀ e ∈ l, Region.binds .any e = true -> e.on < i
 | [], _, e, he => by cases he
 | x :: l, h, e, he => by
  have h' : ((!Region.binds .any x || Nat.blt x.on i) && q462 i l) = true := h
  rw [y144] at h'
  rcases y166.1 he with rfl | he
  ·intro hb
   rw [hb] at h'
   simpa [Nat.blt_eq] using h'.1
  ·exact q367 h'.2 e he
theorem q349 : ∀ {l : List Oper} {i : Nat}, q589 i l = true -> ∀ p o, l[p]? = some o -> ∀ e ∈ o.after, Region.binds .any e = true -> e.on < i + p
 | [], _, _, p, o, ho => by simp at ho
 | x :: l, i, h, p, o, ho => by
  have h' : (q462 i x.after.toList && q589 (i + 1) l) = true := h
  rw [y144] at h'
  cases p with
  | zero =>
   simp at ho
   subst ho
   exact fun e he hb => q367 h'.1 e (by simpa using he) hb
  | succ p =>
   intro e he hb
   have := q349 h'.2 p o (by simpa using ho) e he hb
   omega
theorem q313 {ops : Array Oper} (h : q244 ops (q53 ops) = true) :
  (∀ i o, ops[i]? = some o -> ∀ e ∈ o.after, Region.binds .any e = true -> e.on < i) /\
  ∀ i j oi oj, i < j -> ops[i]? = some oi -> ops[j]? = some oj -> ((q53 ops).getD j 0).testBit i = false -> oi.apart ops oj = true := by
 unfold q244 at h
 rw [y144] at h
 refine ⟨fun i o ho e he hb => ?_, fun i j oi oj hij hi hj hm => ?_⟩
 ·have := q349 h.1 i o (by simpa using ho) e he hb
  omega
 ·have hjl : j < ops.size := (Array.getElem?_eq_some_iff.1 hj).1
  have h2 := List.all_eq_true.1 h.2 j (List.mem_range.2 hjl)
  have h3 := List.all_eq_true.1 h2 i (List.mem_range.2 hij)
  rw [hm, hi, hj] at h3
  simpa using h3
end Go.Lf
namespace Go.Lf
def opndF (T : Nat -> Option V) : Operand -> V
 | .tmp t => (T t).getD .undef
 | x => q152 [] x
theorem opnd_F (tm : List (Nat × V)) (x : Operand) : q152 tm x = opndF (fun t => get t tm) x := by cases x <;> rfl
theorem opnd_ofR {tm tm' : List (Nat × V)} {x : Operand} (h : q152 tm' x = q152 tm x) : opnd tm' x = opnd tm x := by unfold opnd; rw [h]
structure q736 (C : Ctx) (k base : Nat) (ops : Array Oper) (T : Nat -> Option V) (O : Nat -> Option Ob) (i : Nat) (o : Oper) (x : Rec) : Prop where
 dst : x.dst = o.dst
 pin : pinned C o.dst = false
 src : ∀ r ∈ q24 x.v, inR (base + 4 * i) r \/ ∃ t v', t ∈ o.looksAt ops /\ T t = some v' /\ ∃ q ∈ q24 v', q.root = r.root
 way : ∀ r ∈ q24 x.v, r.path ≠ [] -> r.root ∈ x.rd
 ivr : ∀ p ∈ x.iv, p.1.root ∈ q15 x.d
 ivk : ivOk x.iv = true
 keys : ∀ q ∈ q15 x.d, O q ≠ none \/ (base + 4 * i <= q /\ q < base + 4 * i + 4)
 what : (∃ j want t, o.guard = some (j, want) /\ (ops[j]?).bind (·.dst) = some t /\ (T t = some (.tup []) \/ T t = some (.bool (!want))) /\ x.v = .tup [] /\ x.d = [] /\ x.iv = []) \/
  ((
   o.guard = none \/ ∃ j want t, o.guard = some (j, want) /\ (ops[j]?).bind (·.dst) = some t /\ T t = some (.bool want)) /\
   (∀ t, .tmp t ∈ o.op.operands -> ∀ v, T t = some v -> ∀ r ∈ q24 v, r.path ≠ [] -> r.root ∈ x.rd) /\
   ∃ rd0 : List Nat, (∀ q ∈ rd0, q ∈ x.rd) /\ ∀ (tm' : List (Nat × V)) (obs' : List (Nat × Ob)), (∀ y ∈ o.op.operands, q152 tm' y = opndF T y) -> (∀ q, q ∈ rd0 \/ q ∈ q15 x.d -> get q obs' = O q) ->
    ∀ (R : Type) (K : OpK R), opK C k tm' obs' (base + 4 * i) o K = K x.v x.d rd0 x.iv)
def q486 (x y : Rec) : Prop := (∀ q ∈ q15 x.d, q ∉ y.rd /\ q ∉ q15 y.d) /\ ∀ q ∈ q15 y.d, q ∉ x.rd
theorem q381 {mask : Nat} {rd wr : List Nat} : ∀ {log : List (Nat × List Nat × List Nat)}, beside mask rd wr log = true -> ∀ j rd' wr', (j, rd', wr') ∈ log -> mask.testBit j = true \/ (disj wr' rd = true /\ disj wr rd' = true /\ disj wr wr' = true)
 | [], _, _, _, _, h => by cases h
 | (j, rd', wr') :: l, h, j2, rd2, wr2, hm => by
  have h' : ((mask.testBit j || (disj wr' rd && disj wr rd' && disj wr wr')) && beside mask rd wr l) = true := h
  rw [y144, Bool.or_eq_true, y144, y144] at h'
  rcases y166.1 hm with e | hm
  ·injection e with e1 e2; injection e2 with e2 e3; subst e1; subst e2; subst e3
   exact h'.1.imp id fun h => ⟨h.1.1, h.1.2, h.2⟩
  ·exact q381 h'.2 j2 rd2 wr2 hm
section
variable {P : Program} {C : Ctx} {k : Nat} {tm : List (Nat × V)} {obs : List (Nat × Ob)} {fresh : Nat} {o : Oper} {a : Act} {w : World} {E : Bs} {β : Nat -> Option (Nat × Nat)} {F : Bs} {Gk : Nat -> Bs}
theorem q678 {v : V} {d : q32} {iv : List (Ref × Bool)} (h : Good P o a w E β obs F fresh v d iv) :
  ∃ u w' β' F' Gk', ObsR w' E F' β' (q21 d obs) Gk' /\ VR w' β' (q21 d obs) F' v u /\ q121 w w' /\ Stay w F w' F' (fun _ => False) /\ (∀ b, E b -> w'.heap[b]? = w.heap[b]?) /\
   (∀ r, ¬ inR fresh r -> q57 r iv = false -> q46 w β obs w' β' (q21 d obs) r) := by
 have h' := h (fun _ _ => ∃ u w' β' F' Gk', ObsR w' E F' β' (q21 d obs) Gk' /\ VR w' β' (q21 d obs) F' v u /\ q121 w w' /\ Stay w F w' F' (fun _ => False) /\ (∀ b, E b -> w'.heap[b]? = w.heap[b]?) /\
   (∀ r, ¬ inR fresh r -> q57 r iv = false -> q46 w β obs w' β' (q21 d obs) r)) (fun _ _ _ => False) fun u w' β' F' Gk' h1 h2 h3 h4 h5 h6 => ⟨u, w', β', F', Gk', h1, h2, h3, h4, h5, h6⟩
 unfold Oper.wp at h'
 generalize (execOp a.eval o).run P w = res at h'
 cases res with
 | ok n w1 =>
  cases n with
  | value v => exact h'
  | skip => exact h'
  | defer d => exact h'
  | enter f args =>
   obtain ⟨e, w2, _, h2, _⟩ := h' []
   cases e with
   | returned v => exact h2
   | panicked c => exact h2.elim
   | outgrown => obtain ⟨_, _, h3⟩ := h2; exact h3.elim
  | row s args =>
   obtain ⟨v, w2, h2, _⟩ := h' default []
   exact h2
  | _ => exact h'.elim
 | halt x w1 => cases x <;> exact h'.elim
theorem q172 {y : Operand} : ∀ {l : List Operand}, y ∈ l -> ∀ r ∈ q24 (opnd tm y), r.path ≠ [] -> r.root ∈ q99 tm l
 | [], h, _, _, _ => by cases h
 | x :: l, h, r, hr, hp => by
  have leaf : ∀ v : V, r ∈ q37 v -> r.root ∈ q290 v := by
   intro v hv
   cases v with
   | hs q _ _ _ =>
    simp [q37] at hv; subst hv
    obtain ⟨root, path⟩ := r
    cases path with
    | nil => exact absurd rfl hp
    | cons => simp [q290]
   | hp q _ _ =>
    simp [q37] at hv; subst hv
    obtain ⟨root, path⟩ := r
    cases path with
    | nil => exact absurd rfl hp
    | cons => simp [q290]
   | hm q =>
    simp [q37] at hv; subst hv
    obtain ⟨root, path⟩ := r
    cases path with
    | nil => exact absurd rfl hp
    | cons => simp [q290]
   | hz q _ =>
    simp [q37] at hv; subst hv
    exact absurd rfl hp
   | _ => cases hv
  have leaves : ∀ l : List V, r ∈ l.flatMap q37 -> r.root ∈ q328 l := by
   intro l
   induction l with
   | nil => intro h; cases h
   | cons v l ih =>
    intro h
    rw [List.flatMap_cons] at h
    exact y151.2 ((y151.1 h).imp (leaf v) ih)
  have aggs : ∀ v : V, r ∈ q31 v -> r.root ∈ q378 v := by
   intro v hv
   cases v with
   | agg fs => exact leaves fs hv
   | fn f fs => exact leaves fs hv
   | hs q a b c => exact leaf (.hs q a b c) hv
   | hp q a b => exact leaf (.hp q a b) hv
   | hm q => exact leaf (.hm q) hv
   | hz k n =>
    have hv' : r ∈ q37 (.hz k n) := hv
    simp [q37] at hv'; subst hv'
    exact absurd rfl hp
   | _ => cases hv
  have aggss : ∀ l : List V, r ∈ l.flatMap q31 -> r.root ∈ q380 l := by
   intro l
   induction l with
   | nil => intro h; cases h
   | cons v l ih =>
    intro h
    rw [List.flatMap_cons] at h
    exact y151.2 ((y151.1 h).imp (aggs v) ih)
  have all : ∀ v : V, r ∈ q24 v -> r.root ∈ q376 v := by
   intro v hv
   cases v with
   | tup vs => exact aggss vs hv
   | agg fs => exact aggs (.agg fs) hv
   | fn f fs => exact aggs (.fn f fs) hv
   | hs q a b c => exact aggs (.hs q a b c) hv
   | hp q a b => exact aggs (.hp q a b) hv
   | hm q => exact aggs (.hm q) hv
   | hz k n =>
    have hv' : r ∈ q37 (.hz k n) := hv
    simp [q37] at hv'; subst hv'
    exact absurd rfl hp
   | _ => cases hv
  show r.root ∈ q376 (opnd tm x) ++ q99 tm l
  rcases y166.1 h with e | h
  ·subst e; exact y151.2 (.inl (all _ hr))
  ·exact y151.2 (.inr (q172 h r hr hp))
theorem q400 {ops : Array Oper} {t : Nat} (h : .tmp t ∈ o.op.operands) : t ∈ o.looksAt ops := by
 unfold Oper.looksAt
 exact List.mem_append_left _ (List.mem_filterMap.2 ⟨.tmp t, by simpa using h, rfl⟩)
theorem q199 {ops : Array Oper} {t j : Nat} {want : Bool} (hg : o.guard = some (j, want)) (ht : (ops[j]?).bind (·.dst) = some t) : t ∈ o.looksAt ops := by
 unfold Oper.looksAt
 refine List.mem_append_right _ ?_
 rw [hg]
 simp [ht]
def q599 {R : Type} (C : Ctx) (k base : Nat) (ops : Array Oper) (masks : List Nat) (T0 : Nat -> Option V) (O0 : Nat -> Option Ob) (K : St -> Option R) (r : R) (i : Nat) (rc0 : Nat -> Rec) : Prop :=
 ∃ rc, (∀ j, j < i -> rc j = rc0 j) /\ (∀ j o, i <= j -> ops[j]? = some o -> q736 C k base ops (q84 rc (List.range j) T0) (q82 rc (List.range j) O0) j o (rc j) /\ ∀ j', j' < j -> (masks.getD j 0).testBit j' = false -> q486 (rc j') (rc j)) /\
   ∃ tmN obsN, (∀ t, get t tmN = q84 rc (List.range ops.size) T0 t) /\ (∀ q, get q obsN = q82 rc (List.range ops.size) O0 q) /\ K ⟨q73 C.keep tmN, obsN, base + 4 * ops.size⟩ = some r /\
    (∀ q, get q obsN ≠ none -> q < base + 4 * ops.size) /\ (∀ t v, get t tmN = some v -> ∀ r ∈ q24 v, r.root < base + 4 * ops.size)
theorem q572 {R : Type} {K : St -> Option R} {r : R} (hT : q81 P C) (hE : q26 P C) {ops : Array Oper} {base : Nat} {masks : List Nat} {T0 : Nat -> Option V} {O0 : Nat -> Option Ob} : ∀ (rest : List Oper) (i : Nat) {rc0 : Nat -> Rec} {log : List (Nat × List Nat × List Nat)} {tm : List (Nat × V)} {obs : List (Nat × Ob)} {a : Act} {w : World} {F : Bs} {β : Nat -> Option (Nat × Nat)} {Gk : Nat -> Bs},
  i + rest.length = ops.size -> (∀ j, rest[j]? = ops[i + j]?) -> q62 C k ops true masks base rest i log tm obs K = some r -> FR C w E β tm obs a F Gk -> (∀ q, get q obs ≠ none -> q < base + 4 * i) -> (∀ t v, get t tm = some v -> ∀ r ∈ q24 v, r.root < base + 4 * i) ->
  (∀ t, get t tm = q84 rc0 (List.range i) T0 t) -> (∀ q, get q obs = q82 rc0 (List.range i) O0 q) -> (∀ j, j < i -> ((rc0 j).rd = [] /\ (rc0 j).d = []) \/ (j, (rc0 j).rd, q15 (rc0 j).d) ∈ log) ->
  q599 C k base ops masks T0 O0 K r i rc0
 | [], i, rc0, log, tm, obs, a, w, F, β, Gk, hi, hops, h, hf, hk, hr, hsT, hsO, hlog => by
  have h' : K ⟨q73 C.keep tm, obs, base + 4 * ops.size⟩ = some r := h
  have hi' : i = ops.size := by simpa using hi
  subst hi'
  refine ⟨rc0, fun _ _ => rfl, fun j o hj ho => ?_, tm, obs, hsT, hsO, h', hk, hr⟩
  have := (Array.getElem?_eq_some_iff.1 ho).1
  omega
 | o :: rest, i, rc0, log, tm, obs, a, w, F, β, Gk, hi, hops, h, hf, hk, hr, hsT, hsO, hlog => by
  have hi' : i + 1 + rest.length = ops.size := by simp only [y167] at hi; omega
  have hoi : ops[i]? = some o := by simpa using (hops 0).symm
  have hops' : ∀ j, rest[j]? = ops[i + 1 + j]? := fun j => by have := hops (j + 1); simpa [Nat.add_assoc, Nat.add_comm 1 j] using this
  cases hp : pinned C o.dst with
  | true => unfold q62 at h; rw [hp] at h; cases h
  | false =>
  have next : ∀ (x : Rec) (log' : List (Nat × List Nat × List Nat)) (tm1 : List (Nat × V)) (a' : Act) (w' : World) (F' : Bs) (β' : Nat -> Option (Nat × Nat)) (Gk' : Nat -> Bs), x.dst = o.dst -> (∀ t, get t tm1 = get t tm) ->
    (∀ q ∈ log, q ∈ log') -> ((x.rd = [] /\ x.d = []) \/ (i, x.rd, q15 x.d) ∈ log') ->
    q62 C k ops true masks base rest (i + 1) log' (q95 o.dst x.v (q229 x.iv tm1)) (q21 x.d obs) K = some r ->
    FR C w' E β' (q95 o.dst x.v (q229 x.iv tm1)) (q21 x.d obs) a' F' Gk' -> (∀ q, get q (q21 x.d obs) ≠ none -> q < base + 4 * (i + 1)) -> (∀ t v, get t (q95 o.dst x.v (q229 x.iv tm1)) = some v -> ∀ r ∈ q24 v, r.root < base + 4 * (i + 1)) ->
    q736 C k base ops (fun t => get t tm) (fun q => get q obs) i o x -> (∀ j', j' < i -> (masks.getD i 0).testBit j' = false -> q486 (rc0 j') x) ->
    q599 C k base ops masks T0 O0 K r i rc0 := by
   intro x log' tm1 a' w' F' β' Gk' hxd he hlog1 hlog2 h1 hf1 hk1 hr1 hrec hap
   have hc0 : ∀ j ∈ List.range i, (fun j => if j = i then x else rc0 j) j = rc0 j := fun j hj => if_neg (by have := List.mem_range.1 hj; omega)
   obtain ⟨rc, hag, hall, hend⟩ := q572 hT hE rest (i + 1) (rc0 := fun j => if j = i then x else rc0 j) hi' hops' h1 hf1 hk1 hr1 (fun t => by
     rw [List.range_succ, q163, q240 (rc' := rc0) _ _ hc0]
     show _ = q97 (if i = i then x else rc0 i) _ t
     rw [if_pos rfl, q94, q216, he, hsT]
     unfold q97
     rw [hxd]) (fun q => by
     rw [List.range_succ, q160, q253 (rc' := rc0) _ _ hc0]
     show _ = q105 (if i = i then x else rc0 i) _ q
     rw [if_pos rfl, q332, hsO]
     rfl) (fun j hj => by
     by_cases e : j = i
     ·subst e; simp only [if_pos]; exact hlog2
     ·simp only [if_neg e]; exact (hlog j (by omega)).imp id (hlog1 _))
   have hagi : ∀ j, j < i -> rc j = rc0 j := fun j hj => by rw [hag j (by omega)]; exact if_neg (by omega)
   have hx : rc i = x := by rw [hag i (by omega)]; exact if_pos rfl
   refine ⟨rc, hagi, fun j o' hj ho' => ?_, hend⟩
   by_cases e : j = i
   ·subst e
    rw [hoi] at ho'
    injection ho' with ho'; subst ho'
    have hcr : ∀ j' ∈ List.range j, rc j' = rc0 j' := fun j' hj' => hagi j' (List.mem_range.1 hj')
    rw [hx, q240 _ _ hcr, q253 _ _ hcr]
    have e1 : q84 rc0 (List.range j) T0 = fun t => get t tm := funext fun t => (hsT t).symm
    have e2 : q82 rc0 (List.range j) O0 = fun q => get q obs := funext fun q => (hsO q).symm
    rw [e1, e2]
    exact ⟨hrec, fun j' hj' hm => by rw [hagi j' hj']; exact hap j' hj' hm⟩
   ·exact hall j o' (by omega) ho'
  have run : ∀ (tm1 : List (Nat × V)), (∀ t, get t tm1 = get t tm) -> (o.guard = none \/ ∃ j want t, o.guard = some (j, want) /\ (ops[j]?).bind (·.dst) = some t /\ get t tm = some (.bool want)) ->
    opK C k tm1 obs (base + 4 * i) o (fun v d rd iv => bif beside (masks.getD i 0) (rd ++ q99 tm1 o.op.operands.toList) (q15 d) log && ivOk iv then
     q62 C k ops true masks base rest (i + 1) ((i, rd ++ q99 tm1 o.op.operands.toList, q15 d) :: log) (q95 o.dst v (q229 iv tm1)) (q21 d obs) K else none) = some r -> q599 C k base ops masks T0 O0 K r i rc0 := by
   intro tm1 he hg h1
   have hf1 : FR C w E β tm1 obs a F Gk := ⟨fun t v hv => hf.tm t v (by rw [<- he]; exact hv), hf.ob, hf.nt⟩
   have hr1 : ∀ t v, get t tm1 = some v -> ∀ r ∈ q24 v, r.root < base + 4 * i := fun t v hv => hr t v (by rw [<- he]; exact hv)
   obtain ⟨v, d, rd, iv, hst, hsrc, hkeys, hgood⟩ := op_ok hT hE hf1 (q662 hk) h1
   rw [hst tm1 obs (fun _ _ => rfl) (fun _ _ => rfl) (fun _ _ => rfl)] at h1
   cases hb : beside (masks.getD i 0) (rd ++ q99 tm1 o.op.operands.toList) (q15 d) log && ivOk iv with
   | false => rw [hb] at h1; cases h1
   | true =>
    rw [hb] at h1
    simp only [cond] at h1
    rw [y144] at hb
    obtain ⟨u, w', β', F', Gk', hob, hv, hap, hstay, hEk, hrk⟩ := q678 hgood
    have hf2 := hf1.step hp hob hv hstay hrk fun t v hv r hr' h => absurd h.1 (Nat.not_le.2 (hr1 t v hv r hr'))
    have hF1 : (fun t => get t tm) = fun t => get t tm1 := funext fun t => (he t).symm
    refine next ⟨o.dst, v, d, rd ++ q99 tm1 o.op.operands.toList, iv⟩ _ tm1 _ w' F' β' Gk' rfl he (fun q hq => y155 _ hq) (.inr y169) h1 hf2 (fun q hq => by have := q742 hkeys hk q hq; omega) (fun t x hx r hr' => by have := q705 hsrc hr1 t x hx r hr'; omega) ?_ fun j' hj' hm => ?_
    ·refine ⟨rfl, hp, fun r hr' => ?_, fun r hr' hpath => ?_, hkeys.2, hb.2, hkeys.1, .inr ⟨hg, fun t ht v' hv' r hr' hpath => ?_, rd, fun q hq => y151.2 (.inl hq), fun tm' obs' ht hd R' K' => hst tm' obs' (fun y hy => opnd_ofR ?_) (fun y hy => ?_) hd R' K'⟩⟩
     ·rcases hsrc r hr' with ⟨h2, _⟩ | ⟨y, hy, q, hq, hqr, _⟩
      ·exact .inl h2
      ·obtain ⟨t', v', ey, hgt, ev, hq'⟩ := q492 hq
       subst ey
       exact .inr ⟨t', v', q400 hy, by rw [<- he]; exact hgt, q, hq', hqr⟩
     ·rcases hsrc r hr' with ⟨_, h2⟩ | ⟨y, hy, q, hq, hqr, h3⟩
      ·exact absurd h2 hpath
      ·rcases h3 with h3 | h3 | h3
       ·exact absurd h3 hpath
       ·exact y151.2 (.inl h3)
       ·refine y151.2 (.inr ?_)
        rw [<- hqr]
        exact q172 (by simpa using hy) q hq h3
     ·refine y151.2 (.inr (q172 (y := .tmp t) (by simpa using ht) r ?_ hpath))
      have hv2 : get t tm1 = some v' := by rw [he]; exact hv'
      show r ∈ q24 (un ((get t tm1).getD .undef))
      rw [hv2, q510]; exact hr'
     ·rw [ht y hy, hF1, <- opnd_F]
     ·rw [ht y hy, hF1, <- opnd_F]
    ·rcases hlog j' hj' with ⟨h2, h3⟩ | h2
     ·refine ⟨fun q hq => ?_, fun q hq => ?_⟩
      ·rw [h3] at hq; cases hq
      ·rw [h2]; exact fun h => by cases h
     ·rcases q381 hb.1 j' _ _ h2 with h3 | ⟨h3, h4, h5⟩
      ·rw [hm] at h3; cases h3
      ·exact ⟨fun q hq => ⟨q357 h3 q hq, fun hq' => q357 h5 q hq' hq⟩, q357 h4⟩
  have skip : ∀ (tm1 : List (Nat × V)), (∀ t, get t tm1 = get t tm) -> (∃ j want t, o.guard = some (j, want) /\ (ops[j]?).bind (·.dst) = some t /\ (get t tm = some (.tup []) \/ get t tm = some (.bool (!want)))) ->
    q62 C k ops true masks base rest (i + 1) log (q95 o.dst (.tup []) tm1) obs K = some r -> q599 C k base ops masks T0 O0 K r i rc0 := by
   intro tm1 he ⟨j, want, t, hg1, hg2, hg3⟩ h1
   have hf1 : FR C w E β tm1 obs a F Gk := ⟨fun t v hv => hf.tm t v (by rw [<- he]; exact hv), hf.ob, hf.nt⟩
   have hf2 := hf1.skip hp
   refine next ⟨o.dst, .tup [], [], [], []⟩ log tm1 _ w F β Gk rfl he (fun q hq => hq) (.inl ⟨rfl, rfl⟩) h1 hf2 (fun q hq => by have := hk q hq; omega) (fun t x hx r hr' => by
     have hx' : get t (q95 o.dst (.tup []) tm1) = some x := hx
     rw [q94] at hx'
     split at hx'
     ·injection hx' with hx'; subst hx'; cases hr'
     ·have := hr t x (by rw [<- he]; exact hx') r hr'; omega) ?_ fun j' hj' hm => ?_
   ·exact ⟨rfl, hp, fun r hr' => (by cases hr'), fun r hr' => (by cases hr'), fun p hp => (by cases hp), rfl, fun q hq => (by cases hq), .inl ⟨j, want, t, hg1, hg2, hg3, rfl, rfl, rfl⟩⟩
   ·exact ⟨fun q hq => ⟨fun h => (by cases h), fun h => (by cases h)⟩, fun q hq => (by cases hq)⟩
  unfold q62 at h
  rw [hp] at h
  simp only [cond] at h
  cases hg : o.guard with
  | none =>
   rw [hg] at h
   exact run tm (fun _ => rfl) (.inl hg) h
  | some gw =>
   obtain ⟨j, want⟩ := gw
   rw [hg] at h
   simp only at h
   split at h
   ·rename_i t ht
    split at h
    ·rename_i b hgt
     cases b with
     | true => exact run _ (q164 hgt) (.inr ⟨j, true, t, hg, ht, hgt⟩) h
     | false => exact skip _ (q164 hgt) ⟨j, true, t, hg, ht, .inr hgt⟩ h
    ·rename_i b hgt
     cases b with
     | true => exact skip _ (q164 hgt) ⟨j, false, t, hg, ht, .inr hgt⟩ h
     | false => exact run _ (q164 hgt) (.inr ⟨j, false, t, hg, ht, hgt⟩) h
    ·rename_i hgt
     exact skip tm (fun _ => rfl) ⟨j, _, t, hg, ht, .inl hgt⟩ h
    ·cases h
   ·cases h
end
end Go.Lf
namespace Go.Lf
theorem q344 {r : Ref} {d : q32} : ∀ {iv : List (Ref × Bool)}, ivOk iv = true -> (∀ p ∈ iv, p.1.root ∈ q15 d) -> (r.path ≠ [] -> r.root ∉ q15 d) -> q57 r iv = false
 | [], _, _, _ => rfl
 | (q, e) :: l, hk, hr, hn => by
  have hk' : ((match q.path with | [] => !e | _ => true) && ivOk l) = true := hk
  rw [y144] at hk'
  have ih := q344 (r := r) hk'.2 (fun p hp => hr p (by simp [hp])) hn
  show ((Nat.beq r.root q.root && over r.path q.path e) || q57 r l) = false
  rw [ih, Bool.or_false]
  cases hb : Nat.beq r.root q.root with
  | false => rfl
  | true =>
   have he := y143 hb
   have hqk : q.root ∈ q15 d := hr (q, e) (by simp)
   cases hp : r.path with
   | cons p l' => exact absurd hqk (by rw [<- he]; exact hn (by rw [hp]; exact fun h => by cases h))
   | nil =>
    cases hq : q.path with
    | cons => rfl
    | nil =>
     have := hk'.1
     rw [hq] at this
     simp at this
     subst this
     rfl
theorem q371 {v : V} {iv : List (Ref × Bool)} {d : q32} (hk : ivOk iv = true) (hr : ∀ p ∈ iv, p.1.root ∈ q15 d) (hn : ∀ r ∈ q24 v, r.path ≠ [] -> r.root ∉ q15 d) : q126 iv v = false := by
 rw [q341, List.any_eq_false]
 intro r hrm
 rw [q344 hk hr (hn r hrm)]
 simp
section
variable {P : Program} {C : Ctx} {k : Nat} {tm : List (Nat × V)} {obs obs' : List (Nat × Ob)} {fresh : Nat} {o : Oper} {a : Act} {w w' : World} {E : Bs} {β : Nat -> Option (Nat × Nat)} {F : Bs} {Gk : Nat -> Bs}
theorem FR.same (h : FR C w E β tm obs a F Gk) (he : ∀ q, get q obs' = get q obs) (hw : w'.heap = w.heap) : FR C w' E β tm obs' a F Gk := by
 have hst : ∀ G, Stay w F w' F G := fun G => ⟨by rw [hw]; exact Nat.le_refl _, fun _ _ => by rw [hw], fun _ _ _ => by rw [hw], fun _ h => .inl h⟩
 refine ⟨fun t v hv => ?_, ⟨fun q o' hq => ?_, fun q q' o1 o2 h1 h2 => h.ob.dj q q' o1 o2 (by rw [<- he]; exact h1) (by rw [<- he]; exact h2), fun b => ?_, fun q o' hq => h.ob.out q o' (by rw [<- he]; exact hq), fun b hb => by rw [hw]; exact h.ob.elt b hb⟩, h.nt⟩
 ·obtain ⟨u, hu, hvr⟩ := h.tm t v hv
  exact ⟨u, hu, hvr.keep (hst _) fun r _ => q46.of_stay (FA' := F) h.ob.a rfl (he _) fun o' ho' => hst _⟩
 ·exact (h.ob.rel q o' (by rw [<- he]; exact hq)).keep (hst _)
 ·rw [h.ob.cov b]
  constructor
  ·rintro (hb | ⟨q, o', hq, hb⟩)
   ·exact .inl hb
   ·exact .inr ⟨q, o', by rw [he]; exact hq, hb⟩
  ·rintro (hb | ⟨q, o', hq, hb⟩)
   ·exact .inl hb
   ·exact .inr ⟨q, o', by rw [<- he]; exact hq, hb⟩
theorem q423 {f : Nat -> V -> V} (t : Nat) : ∀ tm : List (Nat × V), get t (tm.map fun p => (p.1, f p.1 p.2)) = (get t tm).map (f t)
 | [] => rfl
 | (j, v) :: l => by
  simp only [List.map_cons, get]
  cases e : Nat.beq j t with
  | true => have := y143 e; subst this; rfl
  | false => exact q423 t l
theorem q395 {listed : Array Bool} {i : Nat} (h : listed.getD i true = false) : i < listed.size /\ listed.getD i false = false := by
 rcases Nat.lt_or_ge i listed.size with h' | h'
 ·refine ⟨h', ?_⟩
  simp [h'] at h ⊢; exact h
 ·simp [Array.getElem?_eq_none h'] at h
theorem getD_lt {listed : Array Bool} {i : Nat} (h : listed.getD i false = true) : i < listed.size := by
 refine y146 fun hn => ?_
 simp [Array.getElem?_eq_none (Nat.not_lt.1 hn)] at h
def Xs (n : Nat) (listed : Array Bool) : List Nat := (List.range n).filter fun j => listed.getD j false
theorem q509 {i n : Nat} (h : i < n) : ∃ L : List Nat, List.range n = List.range i ++ i :: L /\ ∀ j ∈ L, i < j /\ j < n := by
 refine ⟨(List.range (n - i - 1)).map (i + 1 + ·), ?_, fun j hj => ?_⟩
 ·have e : n = (i + 1) + (n - i - 1) := by omega
  rw [e, List.range_add, List.range_succ, <- e]
  simp
 ·obtain ⟨x, hx, rfl⟩ := List.mem_map.1 hj
  have := List.mem_range.1 hx
  omega
structure Inv (C : Ctx) (ops : Array Oper) (rc : Nat -> Rec) (T0 : Nat -> Option V) (O0 : Nat -> Option Ob) (w0 : World) (E F0 : Bs) (a0 : Act) (fuel : Nat) (listed : Array Bool) (a : Act) (w : World) : Prop where
 size : listed.size = ops.size
 closed : q679 ops listed
 card : fuel + (Xs ops.size listed).length = ops.size
 state : ∃ tm obs β F Gk, (∀ t, get t tm = q84 rc (Xs ops.size listed) T0 t) /\ (∀ q, get q obs = q82 rc (Xs ops.size listed) O0 q) /\ FR C w E β tm obs a F Gk /\ Step (Wr C (q64 ops.toList)) w0 E F0 a0 w F a
theorem q563 {d : Nat} : ∀ {l : List Oper} {i : Nat} {o : Oper}, l[i]? = some o -> o.dst = some d -> d ∈ q64 l
 | [], _, _, h, _ => by simp at h
 | x :: l, 0, o, h, hd => by
  simp at h
  subst h
  unfold q64
  rw [hd]; exact y169
 | x :: l, i + 1, o, h, hd => by
  have := q563 (l := l) (i := i) (by simpa using h) hd
  unfold q64
  split
  ·exact y155 _ this
  ·exact this
theorem any_step (hT : q81 P C) (hE : q26 P C) {ops : Array Oper} {base : Nat} {T0 : Nat -> Option V} {O0 : Nat -> Option Ob} {rc : Nat -> Rec} {w0 : World} {F0 : Bs} {a0 : Act} {Q : Exit -> Act -> World -> Prop}
  (hslots : q244 ops (q53 ops) = true) (hO0 : ∀ q, O0 q ≠ none -> q < base) (hT0 : ∀ t v, T0 t = some v -> ∀ r ∈ q24 v, r.root < base)
  (hrc : ∀ j o, ops[j]? = some o -> q736 C k base ops (q84 rc (List.range j) T0) (q82 rc (List.range j) O0) j o (rc j) /\ ∀ j', j' < j -> ((q53 ops).getD j 0).testBit j' = false -> q486 (rc j') (rc j))
  {fuel : Nat} {listed : Array Bool} (hinv : Inv C ops rc T0 O0 w0 E F0 a0 (fuel + 1) listed a w) {i : Nat} (hi : i ∈ Region.ready .any ops listed) {K : Act -> World -> Prop}
  (hK : ∀ a' w', Inv C ops rc T0 O0 w0 E F0 a0 fuel (listed.setIfInBounds i true) a' w' -> K a' w') : wpOp P ops Q i K a w := by
 obtain ⟨hsb, hsl⟩ := q313 hslots
 have hmr := q610 hinv.size hinv.closed hi
 have hmc := q370 hinv.size hinv.closed
 obtain ⟨hun, o, hoi, hall⟩ := mem_ready.1 hi
 obtain ⟨hil, hif⟩ := q395 hun
 rw [hinv.size] at hil
 obtain ⟨L, hL, hLj⟩ := q509 hil
 have hX : Xs ops.size listed = (List.range i).filter (fun j => listed.getD j false) ++ L.filter (fun j => listed.getD j false) := by
  unfold Xs
  rw [hL, List.filter_append, List.filter_cons_of_neg (by simp only [hif]; simp)]
 have hX' : Xs ops.size (listed.setIfInBounds i true) = (List.range i).filter (fun j => listed.getD j false) ++ i :: L.filter (fun j => listed.getD j false) := by
  unfold Xs
  rw [hL, List.filter_append, List.filter_cons_of_pos (by simp [hinv.size, hil])]
  congr 1
  ·exact List.filter_congr fun j hj => getD_set_ne false (by have := List.mem_range.1 hj; omega)
  ·congr 1
   exact List.filter_congr fun j hj => getD_set_ne false (by have := hLj j hj; omega)
 generalize hA : (List.range i).filter (fun j => listed.getD j false) = A at hX hX'
 generalize hB : L.filter (fun j => listed.getD j false) = B at hX hX'
 have hBj : ∀ j ∈ B, i < j /\ j < ops.size /\ listed.getD j false = true := fun j hj => by
  rw [<- hB] at hj
  have := List.mem_filter.1 hj
  exact ⟨(hLj j this.1).1, (hLj j this.1).2, this.2⟩
 obtain ⟨hrec, _⟩ := hrc i o hoi
 have hBi : ∀ j ∈ B, ∃ oj, ops[j]? = some oj /\ q736 C k base ops (q84 rc (List.range j) T0) (q82 rc (List.range j) O0) j oj (rc j) /\ o.apart ops oj = true /\ q486 (rc i) (rc j) := fun j hj => by
  obtain ⟨h1, h2, h3⟩ := hBj j hj
  have hoj := Array.getElem?_eq_getElem h2
  obtain ⟨h4, h5⟩ := hrc j _ hoj
  have hm : ((q53 ops).getD j 0).testBit i = false := by
   cases h : ((q53 ops).getD j 0).testBit i with
   | false => rfl
   | true => rw [hmc j h3 i h] at hif; cases hif
  exact ⟨_, hoj, h4, hsl i j o _ h1 hoi hoj hm, h5 i h1 hm⟩
 have hind : ∀ j ∈ B, q717 (rc i) (rc j) := fun j hj => by
  obtain ⟨oj, hoj, hrj, hap, hap3⟩ := hBi j hj
  obtain ⟨h1, h2, h3⟩ := Oper.apart_spec hap
  refine ⟨fun d hd => ?_, fun q hq => (hap3.1 q hq).2, q371 hrj.ivk hrj.ivr fun r hr hp hq => hap3.2 _ hq (hrec.way r hr hp), q371 hrec.ivk hrec.ivr fun r hr hp hq => (hap3.1 _ hq).1 (hrj.way r hr hp)⟩
  rw [hrj.dst]
  rw [hrec.dst] at hd
  exact h2 d hd
 have hAi : ∀ j ∈ List.range i, listed.getD j false = false -> ∃ oj, ops[j]? = some oj /\ q736 C k base ops (q84 rc (List.range j) T0) (q82 rc (List.range j) O0) j oj (rc j) /\ oj.apart ops o = true /\ q486 (rc j) (rc i) := fun j hj hlj => by
  have hji := List.mem_range.1 hj
  have hoj := Array.getElem?_eq_getElem (show j < ops.size by omega)
  have hm : ((q53 ops).getD i 0).testBit j = false := by
   cases h : ((q53 ops).getD i 0).testBit j with
   | false => rfl
   | true => rw [hmr j h] at hlj; cases hlj
  exact ⟨_, hoj, (hrc j _ hoj).1, hsl j i _ o hji hoj hoi hm, (hrc i o hoi).2 j hji hm⟩
 obtain ⟨tm, obs, β, F, Gk, hsT, hsO, hf, hstep⟩ := hinv.state
 have slot : ∀ t, t ∈ o.looksAt ops -> ∀ v, q84 rc (List.range i) T0 t = some v -> v ≠ .undef -> (∀ r ∈ q24 v, r.path ≠ [] -> r.root ∈ (rc i).rd) -> get t tm = some v := by
  intro t ht v hv hnu hway
  have h1 : Less (q84 rc (List.range i) T0 t) (q84 rc A T0 t) := by
   rw [<- hA]
   refine q382 _ (fun j hj hp hd => ?_) (.inl rfl)
   obtain ⟨oj, hoj, hrj, hap, _⟩ := hAi j hj hp
   rw [hrj.dst] at hd
   exact (Oper.apart_spec hap).1 t hd ht
  rw [hv] at h1
  have h2 : q84 rc A T0 t = some v := by
   rcases h1 with h1 | h1
   ·exact h1.symm
   ·injection h1 with h1; exact absurd h1 hnu
  rw [hsT, hX, q163]
  refine q567 B (fun j hj => ?_) h2
  obtain ⟨oj, hoj, hrj, hap, hap3⟩ := hBi j hj
  refine ⟨fun hd => ?_, q371 hrj.ivk hrj.ivr fun r hr hp hq => hap3.2 _ hq (hway r hr hp)⟩
  rw [hrj.dst] at hd
  exact (Oper.apart_spec hap).2.2 t hd ht
 have object : ∀ q, q ∈ (rc i).rd \/ q ∈ q15 (rc i).d -> get q obs = q82 rc (List.range i) O0 q := by
  intro q hq
  have h1 : q82 rc (List.range i) O0 q = q82 rc A O0 q := by
   rw [<- hA]
   refine q372 _ (fun j hj hp hk => ?_) rfl
   obtain ⟨oj, hoj, hrj, _, hap3⟩ := hAi j hj hp
   exact hq.elim (hap3.1 q hk).1 (hap3.1 q hk).2
  rw [hsO, hX, q160, h1]
  refine q600 B fun j hj hk => ?_
  obtain ⟨oj, hoj, hrj, _, hap3⟩ := hBi j hj
  exact hq.elim (hap3.2 q hk) fun h => (hap3.1 q h).2 hk
 have fresh1 : ∀ q, base + 4 * i <= q -> q < base + 4 * i + 4 -> ∀ j, j < ops.size -> q ∈ q15 (rc j).d -> j ≠ i -> i < j /\ q ∈ q15 (rc i).d := by
  intro q hq1 hq2 j
  induction j using Nat.strongRecOn with
  | _ j ih =>
   intro hjl hqj hne
   have hoj := Array.getElem?_eq_getElem hjl
   rcases (hrc j _ hoj).1.keys q hqj with h | h
   ·rcases q304 _ h with h | ⟨j', hj', hk⟩
    ·have := hO0 q h; omega
    ·have hlt := List.mem_range.1 hj'
     by_cases e : j' = i
     ·subst e; exact ⟨hlt, hk⟩
     ·have := ih j' hlt (by omega) hk e
      exact ⟨by omega, this.2⟩
   ·omega
 have notB : ∀ j, listed.getD j false = true -> i < j -> ((q53 ops).getD j 0).testBit i = false := fun j hlj _ => by
  cases h : ((q53 ops).getD j 0).testBit i with
  | false => rfl
  | true => rw [hmc j hlj i h] at hif; cases hif
 have memX : ∀ j, j ∈ Xs ops.size listed -> j < ops.size /\ listed.getD j false = true := fun j hj => by
  have := List.mem_filter.1 hj
  exact ⟨List.mem_range.1 this.1, this.2⟩
 have hfree : Free obs (base + 4 * i) := by
  intro q hq1 hq2
  cases hg : get q obs with
  | none => rfl
  | some x =>
   exfalso
   have hne : q82 rc (Xs ops.size listed) O0 q ≠ none := by rw [<- hsO, hg]; exact fun e => by cases e
   rcases q304 _ hne with h | ⟨j, hj, hk⟩
   ·have := hO0 q h; omega
   ·obtain ⟨hjl, hlj⟩ := memX j hj
    have hji : j ≠ i := fun e => by subst e; rw [hif] at hlj; cases hlj
    obtain ⟨h1, h2⟩ := fresh1 q hq1 hq2 j hjl hk hji
    have hoj := Array.getElem?_eq_getElem hjl
    exact (((hrc j _ hoj).2 i h1 (notB j hlj h1)).1 q h2).2 hk
 have fresh2 : ∀ j, listed.getD j false = true -> j < ops.size -> ∀ r ∈ q24 (rc j).v, ¬ inR (base + 4 * i) r := by
  intro j
  induction j using Nat.strongRecOn with
  | _ j ih =>
   intro hlj hjl r hr hin
   have hoj := Array.getElem?_eq_getElem hjl
   have hji : j ≠ i := fun e => by subst e; rw [hif] at hlj; cases hlj
   rcases (hrc j _ hoj).1.src r hr with h | ⟨t, v', ht, hTv, q, hq, hqr⟩
   ·unfold inR at h hin; omega
   ·rcases q294 _ hTv q hq with ⟨v2, h2, hq2⟩ | ⟨j', hj', hd, hq2⟩
    ·have := hT0 t v2 h2 q hq2
     unfold inR at hin; omega
    ·have hlt := List.mem_range.1 hj'
     have hoj' := Array.getElem?_eq_getElem (show j' < ops.size by omega)
     have hm : ((q53 ops).getD j 0).testBit j' = true := by
      cases h : ((q53 ops).getD j 0).testBit j' with
      | true => rfl
      | false =>
       have hap := hsl j' j _ _ hlt hoj' hoj h
       rw [(hrc j' _ hoj').1.dst] at hd
       exact absurd ht ((Oper.apart_spec hap).1 t hd)
     exact ih j' hlt (hmc j hlj j' hm) (by omega) q hq2 (by unfold inR at hin ⊢; omega)
 have hlow : ∀ t v, get t tm = some v -> ∀ r ∈ q24 v, ¬ inR (base + 4 * i) r := by
  intro t v hv r hr
  rw [hsT] at hv
  rcases q294 _ hv r hr with ⟨v2, h2, hr2⟩ | ⟨j, hj, _, hr2⟩
  ·have := hT0 t v2 h2 r hr2
   unfold inR; omega
  ·obtain ⟨hjl, hlj⟩ := memX j hj
   exact fresh2 j hlj hjl r hr2
 have hds : ∀ d, o.dst = some d -> Wr C (q64 ops.toList) d := fun d hd => ⟨q563 (i := i) (by simpa using hoi) hd, (q262 hrec.pin d hd).1⟩
 have invs : ∀ a' w' F' β' Gk' tm' obs', (∀ t, get t tm' = q97 (rc i) (fun t => get t tm) t) -> (∀ q, get q obs' = q105 (rc i) (fun q => get q obs) q) -> FR C w' E β' tm' obs' a' F' Gk' -> Step (Wr C (q64 ops.toList)) w0 E F0 a0 w' F' a' -> Inv C ops rc T0 O0 w0 E F0 a0 fuel (listed.setIfInBounds i true) a' w' := by
  intro a' w' F' β' Gk' tm' obs' h1 h2 h3 h4
  refine ⟨by rw [Array.size_setIfInBounds]; exact hinv.size, fun j oj hj hl e he hb => ?_, ?_, tm', obs', β', F', Gk', fun t => ?_, fun q => ?_, h3, h4⟩
  ·by_cases hji : i = j
   ·subst hji
    rw [hoi] at hj
    injection hj with hj; subst hj
    exact getD_set_true (hall e he hb)
   ·rw [getD_set_ne false hji] at hl
    exact getD_set_true (hinv.closed j oj hj hl e he hb)
  ·have := hinv.card
   rw [hX] at this
   rw [hX', y148, y167]
   rw [y148] at this
   omega
  ·have e : (fun t => get t tm) = q84 rc (Xs ops.size listed) T0 := funext hsT
   rw [h1, e, hX, hX', q163, q163]
   show _ = q84 rc B (q97 (rc i) (q84 rc A T0)) t
   rw [q410 _ hind]
  ·have e : (fun q => get q obs) = q82 rc (Xs ops.size listed) O0 := funext hsO
   rw [h2, e, hX, hX', q160, q160]
   show _ = q82 rc B (q105 (rc i) (q82 rc A O0)) q
   rw [q408 _ hind]
 unfold wpOp
 simp only [hoi]
 rcases hrec.what with ⟨j, want, t, hg, ht, hv, ev, ed, eiv⟩ | ⟨hg, hops, rd0, hrd0, hst⟩
 ·
  have hnot : Region.wanted o (yielded ops a.tmps) = false := by
   unfold Region.wanted
   rw [hg]
   rcases hv with hv | hv
   ·have hv' := slot t (q199 hg ht) _ hv nofun (fun r hr => by cases hr)
    obtain ⟨u, hu, us, hus, hall⟩ := hf.tm t _ hv'
    have : us = #[] := by
     cases hall' : us.toList with
     | cons x l => rw [hall'] at hall; cases hall
     | nil => exact Array.toList_inj.1 (by simpa using hall')
    subst this
    subst hus
    show (yielded ops a.tmps j == some want) = false
    rw [q307 ht hu]
    rfl
   ·have hv' := slot t (q199 hg ht) _ hv nofun (fun r hr => by cases hr)
    obtain ⟨u, hu, hvr⟩ := hf.tm t _ hv'
    have := q55 hvr
    subst this
    show (yielded ops a.tmps j == some want) = false
    rw [q156 ht hu]
    cases want <;> rfl
  rw [hnot]
  simp only [Bool.false_eq_true, if_false]
  have hf2 := hf.skip hrec.pin
  refine hK _ _ (invs _ _ _ _ _ _ _ (fun t => ?_) (fun q => ?_) hf2 (hstep.trans (Step.put (ds := Wr C (q64 ops.toList)) (q121.refl w) (Stay.refl w F _) (fun _ _ => rfl) hds) (fun _ h => h) fun _ h => h))
  ·rw [q94]
   unfold q97
   rw [hrec.dst, ev, eiv]
   have : (q135 [] : V -> V) = id := funext q473
   rw [this]; simp
  ·unfold q105
   rw [ed]; rfl
 ·
  have hw : Region.wanted o (yielded ops a.tmps) = true := by
   unfold Region.wanted
   rcases hg with hg | ⟨j, want, t, hg, ht, hv⟩
   ·rw [hg]
   ·rw [hg]
    have hv' := slot t (q199 hg ht) _ hv nofun (fun r hr => by cases hr)
    obtain ⟨u, hu, hvr⟩ := hf.tm t _ hv'
    have := q55 hvr
    subst this
    show (yielded ops a.tmps j == some want) = true
    rw [q156 ht hu]
    simp
  rw [hw]
  simp only [if_true]
  refine .inl ?_
  let TI : Nat -> Option V := q84 rc (List.range i) T0
  let tm' : List (Nat × V) := tm.map fun p => (p.1, (fun t v => open Classical in if TI t = none \/ TI t = some .undef then V.undef else v) p.1 p.2)
  have hf' : FR C w E β tm' obs a F Gk := hf.le fun t v hv => by
   have hv2 : (get t tm).map _ = some v := (q423 (f := fun t v => open Classical in if TI t = none \/ TI t = some .undef then V.undef else v) t tm).symm.trans hv
   cases hg : get t tm with
   | none => rw [hg] at hv2; cases hv2
   | some y =>
    rw [hg] at hv2
    injection hv2 with hv2
    by_cases hc : TI t = none \/ TI t = some .undef
    ·simp only [hc, if_true] at hv2; exact .inr ⟨hv2.symm, y, rfl⟩
    ·simp only [hc, if_false] at hv2; exact .inl (by rw [hv2])
  have hopn : ∀ y ∈ o.op.operands, q152 tm' y = opndF TI y := by
   intro y hy
   cases y with
   | tmp t =>
    have hv2 := q423 (f := fun t v => open Classical in if TI t = none \/ TI t = some .undef then V.undef else v) t tm
    show (get t tm').getD .undef = (TI t).getD .undef
    rw [show get t tm' = _ from hv2]
    by_cases hc : TI t = none \/ TI t = some .undef
    ·have e1 : (TI t).getD V.undef = V.undef := by rcases hc with h | h <;> rw [h] <;> rfl
     rw [e1]
     cases get t tm with
     | none => rfl
     | some y => simp [hc]
    ·cases hTi : TI t with
     | none => exact absurd (.inl hTi) hc
     | some v =>
      have hnu : v ≠ .undef := fun e => hc (.inr (by rw [hTi, e]))
      rw [slot t (q400 hy) v hTi hnu (hops t hy v hTi)]
      have hc' : ¬ (TI t = none \/ TI t = some .undef) := hc
      simp [hnu]
   | _ => rfl
  have hobs : ∀ q, q ∈ rd0 \/ q ∈ q15 (rc i).d -> get q obs = q82 rc (List.range i) O0 q := fun q hq => object q (hq.imp (hrd0 q) id)
  have hrun : opK C k tm' obs (base + 4 * i) o (fun v d rd iv => some (v, d, rd, iv)) = some ((rc i).v, (rc i).d, rd0, (rc i).iv) := hst tm' obs hopn hobs _ _
  obtain ⟨v, d, rd, iv, hst2, _, _, hgood⟩ := op_ok hT hE hf' hfree hrun
  have e2 := hst2 tm' obs (fun _ _ => rfl) (fun _ _ => rfl) (fun _ _ => rfl) _ (fun v d rd iv => some (v, d, rd, iv))
  rw [hrun] at e2
  injection e2 with e2; injection e2 with e3 e2; injection e2 with e4 e2; injection e2 with e5 e6
  refine hgood _ _ fun u w' β' F' Gk' hob hv hap hstay hEk hrk => ?_
  have hf2 := hf.step hrec.pin hob hv hstay hrk hlow
  refine hK _ _ (invs _ _ _ _ _ _ _ (fun t => ?_) (fun q => ?_) hf2 (hstep.trans (Step.put (ds := Wr C (q64 ops.toList)) hap hstay hEk hds) (fun _ h => h) fun _ h => h))
  ·rw [q94, q216]
   unfold q97
   rw [hrec.dst, e3, e6]
  ·rw [q332]
   unfold q105
   rw [e4]
theorem q614 {R : Type} {K : St -> Option R} {r : R} (hm : P.follows .mixedOrders = true) (hT : q81 P C) (hE : q26 P C) {ops : Array Oper} {base id : Nat} (hslots : q244 ops (q53 ops) = true)
  (h : q62 C k ops true (q53 ops) base ops.toList 0 [] tm obs K = some r) (hf : FR C w E β tm obs a F Gk) (hk : ∀ q, get q obs ≠ none -> q < base) (hr : ∀ t v, get t tm = some v -> ∀ r ∈ q24 v, r.root < base)
  {Q : Exit -> Act -> World -> Prop} (hQ : ∀ S' w' β' F' Gk' a', K S' = some r -> SR C w' E β' S' a' F' Gk' -> Step (Wr C (q64 ops.toList)) w E F a w' F' a' -> Q .normal a' w') : (Code.region id ops true).wp P Q a w := by
 obtain ⟨rc, _, hrc, tmN, obsN, hN1, hN2, hK, hkN, hrN⟩ := q572 (T0 := fun t => get t tm) (O0 := fun q => get q obs) (rc0 := fun _ => ⟨none, .undef, [], [], []⟩) hT hE ops.toList 0 (by simp) (fun j => by simp) h hf (by simpa using hk) (by simpa using hr) (fun t => rfl) (fun q => rfl) (fun j hj => by omega)
 refine wp_region_any hm ?_
 have main : ∀ (fuel : Nat) (listed : Array Bool) (a' : Act) (w' : World), Inv C ops rc (fun t => get t tm) (fun q => get q obs) { w with drawn := w.drawn + 1 } E F a fuel listed a' w' -> wpAny P .any ops Q fuel listed a' w' := by
  have done : ∀ (fuel : Nat) (listed : Array Bool) (a' : Act) (w' : World), Inv C ops rc (fun t => get t tm) (fun q => get q obs) { w with drawn := w.drawn + 1 } E F a fuel listed a' w' -> (∀ i, i < ops.size -> listed.getD i false = true) -> Q .normal a' w' := by
   intro fuel listed a' w' hinv hall
   obtain ⟨tm', obs', β', F', Gk', h1, h2, h3, h4⟩ := hinv.state
   have hXr : Xs ops.size listed = List.range ops.size := by
    unfold Xs
    exact List.filter_eq_self.2 fun j hj => hall j (List.mem_range.1 hj)
   rw [hXr] at h1 h2
   have h5 : FR C w' E β' (q73 C.keep tmN) obsN a' F' Gk' := (h3.same (w' := w') (obs' := obsN) (fun q => by rw [hN2, h2]) rfl).le fun t v hv => .inl (by rw [h1, <- hN1]; exact q93 hv)
   refine hQ _ w' β' F' Gk' a' hK ⟨h5, hkN, fun t v hv => hrN t v (q93 hv)⟩ ?_
   exact ⟨⟨h4.apart.os, h4.apart.tape, h4.apart.output⟩, ⟨h4.stay.size, fun _ h => h.elim, h4.stay.out, h4.stay.less⟩, h4.keepE, h4.same, h4.defers⟩
  intro fuel
  induction fuel with
  | zero =>
   intro listed a' w' hinv
   have hall : ∀ i, i < ops.size -> listed.getD i false = true := by
    have hc := hinv.card
    have : (Xs ops.size listed).length = (List.range ops.size).length := by rw [List.length_range]; omega
    unfold Xs at this
    have := List.length_filter_eq_length_iff.1 this
    exact fun i hi => this i (List.mem_range.2 hi)
   refine ⟨?_, done 0 listed a' w' hinv hall⟩
   cases hrd : Region.ready .any ops listed with
   | nil => rfl
   | cons i l =>
    have : i ∈ Region.ready .any ops listed := by rw [hrd]; simp
    obtain ⟨hun, o, hoi, _⟩ := mem_ready.1 this
    have := hall i (Array.getElem?_eq_some_iff.1 hoi).1
    rw [(q395 hun).2] at this
    cases this
  | succ fuel ih =>
   intro listed a' w' hinv
   refine ⟨fun hnil => done _ listed a' w' hinv ?_, fun i hi => any_step hT hE hslots hk hr (fun j o ho => hrc j o (Nat.zero_le j) ho) hinv hi fun a2 w2 => ih _ a2 w2⟩
   intro i
   induction i using Nat.strongRecOn with
   | _ i ih2 =>
    intro hil
    cases hl : listed.getD i false with
    | true => rfl
    | false =>
     exfalso
     have : i ∈ Region.ready .any ops listed := by
      rw [mem_ready]
      have hil' : i < listed.size := by rw [hinv.size]; exact hil
      refine ⟨?_, _, Array.getElem?_eq_getElem hil, fun e he hb => ?_⟩
      ·simp [hil'] at hl ⊢; exact hl
      ·have := (q313 hslots).1 i _ (Array.getElem?_eq_getElem hil) e he hb
       exact ih2 e.on this (by omega)
     rw [hnil] at this
     cases this
 refine main ops.size _ a _ ⟨by simp, fun j oj hj hl => ?_, ?_, tm, obs, β, F, Gk, fun t => ?_, fun q => ?_, hf.same (fun q => rfl) rfl, Step.refl⟩
 ·have := getD_lt hl
  simp at this
  simp [this] at hl
 ·have : Xs ops.size (Array.replicate ops.size false) = [] := by
   unfold Xs
   refine List.filter_eq_nil_iff.2 fun j hj => ?_
   have := List.mem_range.1 hj
   simp [this]
  rw [this]; rfl
 ·have : Xs ops.size (Array.replicate ops.size false) = [] := by
   unfold Xs
   refine List.filter_eq_nil_iff.2 fun j hj => ?_
   have := List.mem_range.1 hj
   simp [this]
  rw [this]; rfl
 ·have : Xs ops.size (Array.replicate ops.size false) = [] := by
   unfold Xs
   refine List.filter_eq_nil_iff.2 fun j hj => ?_
   have := List.mem_range.1 hj
   simp [this]
  rw [this]; rfl
end
end Go.Lf
namespace Go.Lf
section
variable {w : World} {F : Bs} {β : Nat -> Option (Nat × Nat)} {obs : List (Nat × Ob)}
theorem q347 : ∀ {ts : List Ty} {F : Bs} {fs : List V} {xs : Tys ts} {us : List Value} {G : Bs}, q683 ts fs = some xs -> LsR w F fs us G ->
  ∃ G1 : Bs, (∀ n, G1 n -> G n) /\ ∀ F' : Bs, (∀ b, F' b -> F b) -> (∀ b, G b -> ¬ G1 b -> ¬ F' b) -> LsR w F' (boxOf ts xs) us G1
 | [], F, [], xs, us, G, _, hl => ⟨G, fun _ h => h, fun F' hF _ => hl.sub hF⟩
 | [], F, f :: fs, xs, us, G, h, _ => by cases h
 | t :: ts, F, fs, xs, us, G, h, hl => by
  have h' : (match t.ofLeaves fs with
   | some (x, vs') => match q683 ts vs' with
    | some xs => some (x, xs)
    | none => none
   | none => none) = some xs := h
  split at h'
  ·rename_i x vs' hx
   split at h'
   ·rename_i ys hy
    injection h' with h'; subst h'
    obtain ⟨us1, us2, G1, G2, hus, s1, s2, hd, H⟩ := q116 hx hl
    have h0 := H (fun b => F b /\ (G b -> G1 b \/ G2 b)) (fun b hb => hb.1) (fun b hg n1 n2 hf => (hf.2 hg).elim n1 n2)
    obtain ⟨G3, s3, H3⟩ := q347 hy h0.2
    refine ⟨fun b => G1 b \/ G3 b, fun b hb => hb.elim (s1 b) fun h => s2 b (s3 b h), fun F' hF hn => ?_⟩
    have A := (H F' hF fun b hg n1 n2 hf => hn b hg (fun h => h.elim n1 fun h => n2 (s3 b h)) hf).1
    have B := H3 F' (fun b hb => ⟨hF b hb, fun hg => y146 fun hc => hn b hg (fun h => hc (h.imp id (s3 b))) hb⟩) (fun b hg n3 hf => hn b (s2 b hg) (fun h => h.elim (fun h1 => hd b h1 hg) n3) hf)
    rw [hus]
    exact LsR.append (LR.leaves t x _ _ A) B fun b h1 h3 => hd b h1 (s3 b h3)
   ·cases h'
  ·cases h'
theorem q171 : ∀ {τ : Ty} {vs rest : List V} {x : τ.den} {us : List Value}, τ.plain = true -> τ.ofLeaves vs = some (x, rest) -> All2 (VRl w β obs F) vs us ->
  ∃ us1 us2, us = us1 ++ us2 /\ LR w F τ x us1 (fun _ => False) /\ All2 (VRl w β obs F) rest us2
 | .unit, vs, rest, x, us, _, h, hv => by
  have h' : some ((), vs) = some (x, rest) := h
  injection h' with h'; injection h' with _ h'; subst h'
  exact ⟨[], us, rfl, ⟨rfl, fun _ h => h⟩, hv⟩
 | .pair a b, vs, rest, x, us, hp, h, hv => by
  have hp' : (a.plain && b.plain) = true := hp
  rw [y144] at hp'
  have h' : (match a.ofLeaves vs with
   | some (x, vs) => match b.ofLeaves vs with
    | some (y, vs) => some ((x, y), vs)
    | none => none
   | none => none) = some (x, rest) := h
  split at h'
  ·rename_i y vs1 hy
   split at h'
   ·rename_i z vs2 hz
    injection h' with h'; injection h' with h1 h2; subst h1; subst h2
    obtain ⟨us1, us2, e1, l1, v1⟩ := q171 hp'.1 hy hv
    obtain ⟨us3, us4, e2, l2, v2⟩ := q171 hp'.2 hz v1
    exact ⟨us1 ++ us3, us4, by rw [e1, e2, List.append_assoc], ⟨us1, us3, _, _, rfl, l1, l2, fun _ h => h.elim, fun n => ⟨fun h => h.elim, fun h => h.elim id id⟩⟩, v2⟩
   ·cases h'
  ·cases h'
 | .int k, vs, rest, x, us, _, h, hv => by
  cases hv with
  | nil => cases h
  | cons h1 h2 =>
   rename_i v u vs us
   have h' : q54 ((Ty.int k).ofLeaf v) vs = some (x, rest) := h
   cases v with
   | int k' n =>
    have h2' : q54 (if kbeq k' k = true then some n else none) vs = some (x, rest) := h'
    split at h2'
    ·rename_i hk
     have := q202 hk
     subst this
     injection h2' with h2'; injection h2' with e1 e2; subst e1; subst e2
     exact ⟨[u], us, rfl, ⟨by rw [show u = .int k' n from h1], fun _ h => h⟩, h2⟩
    ·cases h2'
   | _ => cases h'
 | .bool, vs, rest, x, us, _, h, hv => by
  cases hv with
  | nil => cases h
  | cons h1 h2 =>
   rename_i v u vs us
   have h' : q54 (Ty.bool.ofLeaf v) vs = some (x, rest) := h
   cases v with
   | bool b =>
    have h2' : some (b, vs) = some (x, rest) := h'
    injection h2' with h2'; injection h2' with e1 e2; subst e1; subst e2
    exact ⟨[u], us, rfl, ⟨by rw [show u = .bool b from h1], fun _ h => h⟩, h2⟩
   | _ => cases h'
 | .sl a, vs, rest, x, us, _, h, hv => by
  cases hv with
  | nil => cases h
  | cons h1 h2 =>
   rename_i v u vs us
   have h' : q54 ((Ty.sl a).ofLeaf v) vs = some (x, rest) := h
   cases v with
   | sl a' l =>
    have h2' : q54 (if h : Ty.beq a' a = true then some (q266 h l) else none) vs = some (x, rest) := h'
    split at h2'
    ·rename_i hb
     have := Ty.beq_eq hb
     subst this
     injection h2' with h2'; injection h2' with e1 e2; subst e1; subst e2
     obtain ⟨G, hl⟩ := h1
     exact ⟨[u], us, rfl, LR.iff (.sl a') l [u] G _ hl fun n => ⟨fun h => h.elim, fun h => hl.1 n h⟩, h2⟩
    ·cases h2'
   | ow => exact h1.elim
   | nils =>
    have h2' : some (([] : List a.den), vs) = some (x, rest) := h'
    injection h2' with h2'; injection h2' with e1 e2; subst e1; subst e2
    obtain ⟨ad, e⟩ := h1
    exact ⟨[u], us, rfl, ⟨fun _ h => h, ad, 0, by rw [e]; rfl, .inl rfl⟩, h2⟩
   | _ => cases h'
 | .ow a, vs, rest, x, us, hp, h, hv => by cases hp
 | .bx a, vs, rest, x, us, hp, h, hv => by cases hp
 | .mp a, vs, rest, x, us, hp, h, hv => by cases hp
theorem q241 : ∀ {τ : Ty} (x : τ.den), τ.plain = true -> ∀ v ∈ τ.leaves x, q196 v = false
 | .int _, x, _, v, h => by rw [y161.1 h]; rfl
 | .bool, x, _, v, h => by rw [y161.1 h]; rfl
 | .unit, x, _, v, h => by cases h
 | .sl _, x, _, v, h => by rw [y161.1 h]; rfl
 | .pair a b, x, hp, v, h => by
  have hp' : (a.plain && b.plain) = true := hp
  rw [y144] at hp'
  rcases y151.1 (show v ∈ a.leaves x.1 ++ b.leaves x.2 from h) with h | h
  ·exact q241 x.1 hp'.1 v h
  ·exact q241 x.2 hp'.2 v h
 | .ow _, x, hp, _, _ => by cases hp
 | .bx _, x, hp, _, _ => by cases hp
 | .mp _, x, hp, _, _ => by cases hp
theorem LfR.vrl {v : V} {u : Value} {G : Bs} (h : LfR w F v u G) (ho : q196 v = false) : VRl w β obs F v u := by
 cases v with
 | undef => trivial
 | int => exact h.1
 | bool => exact h.1
 | nilp => exact h.1
 | nils => exact h.1
 | sl τ l => exact ⟨G, h⟩
 | ow => cases ho
 | bx => cases ho
 | mp => cases ho
 | nilm => exact h.1
 | _ => exact h.elim
theorem LsR.vrl {vs : List V} {us : List Value} {G : Bs} (h : LsR w F vs us G) (ho : ∀ v ∈ vs, q196 v = false) : All2 (VRl w β obs F) vs us := by
 induction h with
 | nil => exact .nil
 | cons h1 _ _ _ ih => exact .cons (h1.vrl (ho _ (by simp))) (ih fun v hv => ho v (by simp [hv]))
theorem ValR.vr {τ : Ty} {x : τ.den} {u : Value} {G : Bs} (hp : τ.plain = true) (h : ValR w F τ x u G) : VR w β obs F (τ.toV x) u := by
 obtain ⟨hl, ha⟩ := h
 have hls := (LR.leaves τ x _ _ hl).vrl (β := β) (obs := obs) (q241 x hp)
 have leaf : ∀ v, τ.leaves x = [v] -> τ.isA = false -> VRl w β obs F v u := by
  intro v hv hf
  rw [hv] at hls
  have hu : u.cells.toList = [u] := by
   cases u with
   | agg us => rw [hf] at ha; exact absurd (ha.1 ⟨us, rfl⟩) nofun
   | _ => rfl
  rw [hu] at hls
  cases hls with
  | cons h1 _ => exact h1
 cases τ with
 | int kk => exact (leaf _ rfl rfl).vr
 | bool => exact (leaf _ rfl rfl).vr
 | sl a => exact (leaf _ rfl rfl).vr
 | ow a => cases hp
 | bx a => cases hp
 | mp a => cases hp
 | unit => obtain ⟨us, rfl⟩ := ha.2 rfl; exact ⟨us, rfl, hls⟩
 | pair a b => obtain ⟨us, rfl⟩ := ha.2 rfl; exact ⟨us, rfl, hls⟩
theorem ofV_ok {τ : Ty} {v : V} {x : τ.den} {u : Value} (hp : τ.plain = true) (h : τ.ofV v = some x) (hv : VR w β obs F v u) : ValR w F τ x u (fun _ => False) := by
 unfold Ty.ofV at h
 cases hl : q251 τ v with
 | false => rw [hl] at h; cases h
 | true =>
  rw [hl] at h
  have h' : τ.ofAll v.fields = some x := h
  unfold Ty.ofAll at h'
  split at h'
  ·rename_i x' hx
   injection h' with h'; subst h'
   have hnu : v ≠ .undef := by
    intro e; subst e
    cases τ <;> first | cases hx | (unfold q251 at hl; cases hl) | cases hp
   have hall : All2 (VRl w β obs F) v.fields u.cells.toList := by
    cases v with
    | agg fs => obtain ⟨us, hu, hall⟩ := hv; subst hu; exact hall
    | undef => exact absurd rfl hnu
    | tup => cases τ <;> first | cases hx | (unfold q251 at hl; cases hl) | cases hp
    | fn => cases τ <;> first | cases hx | (unfold q251 at hl; cases hl) | cases hp
    | ow => exact hv.elim
    | bx => exact hv.elim
    | mp => exact hv.elim
    | nilz => cases τ <;> first | cases hx | (unfold q251 at hl; cases hl) | cases hp
    | hz => cases τ <;> first | cases hx | (unfold q251 at hl; cases hl) | cases hp
    | _ => exact q178 hv rfl
   obtain ⟨us1, us2, e1, l1, v1⟩ := q171 hp hx hall
   cases v1
   rw [List.append_nil] at e1
   exact ⟨by rw [e1]; exact l1, q285 hl hv hnu⟩
  ·cases h'
end
def q120 : (l : List RP) -> RPs l -> Nat -> Option Ob
 | [], _, _ => none
 | p :: _, x, 0 => some (p.ob x.1)
 | _ :: l, x, i + 1 => q120 l x.2 i
theorem q78 : ∀ (l : List RP) (ys : RPs l) (base q : Nat), get q (q111 base l ys) = if base <= q then q120 l ys (q - base) else none
 | [], _, base, q => by simp [q111, get, q120]
 | p :: l, ys, base, q => by
  unfold q111 get
  cases e : Nat.beq base q with
  | true =>
   have := y143 e
   subst this
   simp [q120]
  | false =>
   have hne : base ≠ q := fun h => by subst h; rw [Nat.beq_refl] at e; cases e
   show get q (q111 (base + 1) l ys.2) = _
   rw [q78 l ys.2 (base + 1) q]
   by_cases h : base <= q
   ·have h1 : base + 1 <= q := by omega
    rw [if_pos h, if_pos h1]
    have : q - base = (q - (base + 1)) + 1 := by omega
    rw [this]
    rfl
   ·rw [if_neg h, if_neg (by omega)]
theorem q466 : ∀ {l : List RP} {ys : RPs l} {i : Nat} {o : Ob}, q120 l ys i = some o -> i < l.length
 | [], _, _, _, h => by cases h
 | p :: l, ys, 0, o, _ => by simp
 | p :: l, ys, i + 1, o, h => by
  have := q466 (l := l) (ys := ys.2) h
  simp; omega
theorem q147 : ∀ {l : List RP} {ys : RPs l} {i : Nat}, i < l.length -> ∃ o, q120 l ys i = some o
 | [], _, _, h => by simp at h
 | p :: l, ys, 0, _ => ⟨_, rfl⟩
 | p :: l, ys, i + 1, h => q147 (l := l) (ys := ys.2) (by simp at h; omega)
theorem q141 : ∀ {l : List RP} {ys : RPs l} {i : Nat} {τ : Ty} {xs : List τ.den}, q120 l ys i = some (.arr τ xs) -> q83 l ys i = xs.length
 | [], _, _, _, _, h => by cases h
 | p :: l, ys, 0, τ, xs, h => by
  injection h with h
  cases p with
  | box t ts => cases h
  | mp => cases h
  | arr τ' =>
   injection h with e1 e2
   subst e1
   have e2 := eq_of_heq e2
   show ys.1.length = xs.length
   rw [e2]
 | p :: l, ys, i + 1, τ, xs, h => q141 (l := l) (ys := ys.2) h
theorem q350 {m : RMap} {obs : List (Nat × Ob)} : ∀ {l : List RP} {i0 : Nat} {ys : RPs l}, q582 m obs i0 l = some ys -> ∀ i o, q120 l ys i = some o -> ∃ k p x, get (i0 + i) m = some k /\ RP.atK p obs k = some x /\ o = RP.ob p x
 | [], _, _, _, _, _, h => by cases h
 | p :: l, i0, ys, hm, i, o, h => by
  unfold q582 at hm
  split at hm
  ·cases hm
  ·rename_i k hk
   split at hm
   ·rename_i x hx
    split at hm
    ·rename_i xs hxs
     injection hm with hm; subst hm
     cases i with
     | zero =>
      injection h with h
      exact ⟨k, p, x, hk, hx, h.symm⟩
     | succ i =>
      have := q350 hxs i o h
      rwa [Nat.add_assoc, Nat.add_comm 1 i] at this
    ·cases hm
   ·cases hm
theorem q177 {i k : Nat} : ∀ {m : RMap}, get i m = some (some k) -> k ∈ q108 m
 | [], h => by cases h
 | (j, v) :: m, h => by
  unfold get at h
  cases e : Nat.beq j i with
  | true =>
   rw [e] at h
   injection h with h; subst h
   exact y169
  | false =>
   rw [e] at h
   have := q177 (m := m) h
   cases v with
   | none => exact this
   | some k' => exact y155 _ this
theorem q303 {i i' k : Nat} : ∀ {m : RMap}, (q108 m).Nodup -> get i m = some (some k) -> get i' m = some (some k) -> i = i'
 | [], _, h, _ => by cases h
 | (j, v) :: m, hn, h, h' => by
  unfold get at h h'
  have hn2 : (q108 m).Nodup := by
   cases v with
   | none => exact hn
   | some k' => exact (List.nodup_cons.1 hn).2
  cases e : Nat.beq j i with
  | true =>
   rw [e] at h
   injection h with h; subst h
   have hn1 := (List.nodup_cons.1 hn).1
   cases e' : Nat.beq j i' with
   | true => exact (y143 e).symm.trans (y143 e')
   | false => rw [e'] at h'; exact absurd (q177 h') hn1
  | false =>
   rw [e] at h
   cases e' : Nat.beq j i' with
   | true =>
    rw [e'] at h'
    injection h' with h'; subst h'
    exact absurd (q177 h) (List.nodup_cons.1 hn).1
   | false => rw [e'] at h'; exact q303 hn2 h h'
theorem q179 {i k : Nat} {m m' : RMap} (h : q297 i k m = some m') : get i m' = some (some k) /\ ∀ j v, get j m = some v -> get j m' = some v := by
 unfold q297 at h
 split at h
 ·rename_i hg
  injection h with h; subst h
  refine ⟨by simp [get], fun j v hv => ?_⟩
  unfold get
  cases e : Nat.beq i j with
  | true => have := y143 e; subst this; rw [hg] at hv; cases hv
  | false => exact hv
 ·rename_i k' hg
  cases e : Nat.beq k k' with
  | false => rw [e] at h; cases h
  | true =>
   rw [e] at h
   injection h with h; subst h
   have := y143 e
   subst this
   exact ⟨hg, fun _ _ h => h⟩
 ·cases h
def SlotOk (tm : List (Nat × V)) (m : RMap) (rs : List RP) (ys : RPs rs) (base t : Nat) (v : V) : Prop :=
 (∃ τ x v0, v = Ty.toV τ x /\ getU t tm = some v0 /\ τ.plain = true /\ τ.ofV v0 = some x) \/
 (∃ i k, i < rs.length /\ v = .hp ⟨base + i, []⟩ 0 0 /\ get t tm = some (.hp ⟨k, []⟩ 0 0) /\ get i m = some (some k)) \/
 (∃ i, i < rs.length /\ v = .hs ⟨base + i, []⟩ 0 (q83 rs ys i) true /\ ((∃ k n, getU t tm = some (.hs ⟨k, []⟩ 0 n true) /\ get i m = some (some k)) \/ (getU t tm = some .nils /\ get i m = some none))) \/
 (∃ i k, i < rs.length /\ v = .hm ⟨base + i, []⟩ /\ get t tm = some (.hm ⟨k, []⟩) /\ get i m = some (some k)) \/
 (∃ g is vs, (∀ i ∈ is, i < rs.length) /\ v = .fn g (q413 base is) /\ get t tm = some (.fn g vs) /\ All2 (fun i v => ∃ k, v = .hp ⟨k, []⟩ 0 0 /\ get i m = some (some k)) is vs) \/
 (∃ i, i < rs.length /\ v = .hz (base + i) (q83 rs ys i) /\ ((∃ k n, get t tm = some (.hz k n) /\ get i m = some (some k)) \/ (get t tm = some .nilz /\ get i m = some none)))
theorem q458 {i : Nat} {is : List Nat} {v : V} {vs : List V} {m m' : RMap} (h : q249 (i :: is) (v :: vs) m = some m') : ∃ k m2, v = .hp ⟨k, []⟩ 0 0 /\ q297 i k m = some m2 /\ q249 is vs m2 = some m' := by
 cases v with
 | hp q a b =>
  obtain ⟨k, path⟩ := q
  cases path with
  | cons => cases a <;> cases b <;> cases h
  | nil =>
   cases a with
   | succ => cases b <;> cases h
   | zero =>
    cases b with
    | succ => cases h
    | zero =>
     have h' : (match q297 i k m with
      | some m' => q249 is vs m'
      | none => none) = some m' := h
     split at h'
     ·rename_i m2 hb
      exact ⟨k, m2, rfl, hb, h'⟩
     ·cases h'
 | _ => cases h
theorem q308 : ∀ {is : List Nat} {vs : List V} {m m' : RMap}, q249 is vs m = some m' -> (∀ j v, get j m = some v -> get j m' = some v) /\ All2 (fun i v => ∃ k, v = .hp ⟨k, []⟩ 0 0 /\ get i m' = some (some k)) is vs
 | [], [], m, m', h => by
  injection h with h; subst h
  exact ⟨fun _ _ h => h, .nil⟩
 | [], _ :: _, _, _, h => by cases h
 | _ :: _, [], _, _, h => by cases h
 | i :: is, v :: vs, m, m', h => by
  obtain ⟨k, m2, e1, e2, e3⟩ := q458 h
  subst e1
  obtain ⟨b1, b2⟩ := q179 e2
  obtain ⟨h1, h2⟩ := q308 e3
  exact ⟨fun j v hv => h1 j v (b2 j v hv), .cons ⟨k, rfl, h1 _ _ b1⟩ h2⟩
theorem q68 {tm : List (Nat × V)} {rs : List RP} {ys : RPs rs} {base : Nat} : ∀ {l : List (Nat × SP)} {m0 m : RMap} {xs : SPs l}, okS rs.length l = true -> q106 l tm m0 = some (xs, m) ->
  (∀ j v, get j m0 = some v -> get j m = some v) /\ ∀ t v, get t (q72 rs ys base l xs) = some v -> SlotOk tm m rs ys base t v
 | [], m0, m, xs, _, h => by
  injection h with h; injection h with _ h; subst h
  exact ⟨fun _ _ h => h, fun t v h => by cases h⟩
 | (t0, .val τ) :: l, m0, m, xs, hok, h => by
  have h' : (match getU t0 tm with
   | some v => match (bif τ.plain then τ.ofV v else none) with
    | some x => match q106 l tm m0 with
     | some (xs, m') => some ((x, xs), m')
     | none => none
    | none => none
   | none => none) = some (xs, m) := h
  split at h'
  ·rename_i v0 hg
   split at h'
   ·rename_i x hx
    split at h'
    ·rename_i xs' m' hm
     injection h' with h'; injection h' with e1 e2; subst e1; subst e2
     obtain ⟨h1, h2⟩ := q68 (l := l) (rs := rs) (ys := ys) (base := base) (show okS rs.length l = true from hok) hm
     refine ⟨h1, fun t v hv => ?_⟩
     have hv' : get t ((t0, τ.toV x) :: q72 rs ys base l xs') = some v := hv
     unfold get at hv'
     cases e : Nat.beq t0 t with
     | true =>
      rw [e] at hv'
      injection hv' with hv'
      have := y143 e
      subst this
      cases hp : τ.plain with
      | false => rw [hp] at hx; cases hx
      | true => rw [hp] at hx; exact .inl ⟨τ, x, v0, hv'.symm, hg, hp, hx⟩
     | false => rw [e] at hv'; exact h2 t v hv'
    ·cases h'
   ·cases h'
  ·cases h'
 | (t0, .ptr i) :: l, m0, m, xs, hok, h => by
  have hok' : (Nat.blt i rs.length && okS rs.length l) = true := hok
  rw [y144] at hok'
  have h' : (match get t0 tm with
   | some (.hp ⟨k, []⟩ 0 0) => match q297 i k m0 with
    | some m' => q106 l tm m'
    | none => none
   | _ => none) = some (xs, m) := h
  split at h'
  ·rename_i k hg
   split at h'
   ·rename_i m' hb
    obtain ⟨b1, b2⟩ := q179 hb
    obtain ⟨h1, h2⟩ := q68 (rs := rs) (ys := ys) (base := base) hok'.2 h'
    refine ⟨fun j v hv => h1 j v (b2 j v hv), fun t v hv => ?_⟩
    have hv' : get t ((t0, .hp ⟨base + i, []⟩ 0 0) :: q72 rs ys base l xs) = some v := hv
    unfold get at hv'
    cases e : Nat.beq t0 t with
    | true =>
     rw [e] at hv'
     injection hv' with hv'
     have := y143 e
     subst this
     exact .inr (.inl ⟨i, k, by simpa [Nat.blt_eq] using hok'.1, hv'.symm, hg, h1 i _ b1⟩)
    | false => rw [e] at hv'; exact h2 t v hv'
   ·cases h'
  ·cases h'
 | (t0, .arr i) :: l, m0, m, xs, hok, h => by
  have hok' : (Nat.blt i rs.length && okS rs.length l) = true := hok
  rw [y144] at hok'
  have h' : (match getU t0 tm with
   | some (.hs ⟨k, []⟩ 0 _ true) => match q297 i k m0 with
    | some m' => q106 l tm m'
    | none => none
   | some .nils => match get i m0 with
    | none => q106 l tm ((i, none) :: m0)
    | _ => none
   | _ => none) = some (xs, m) := h
  split at h'
  ·rename_i k n hg
   split at h'
   ·rename_i m' hb
    obtain ⟨b1, b2⟩ := q179 hb
    obtain ⟨h1, h2⟩ := q68 (rs := rs) (ys := ys) (base := base) hok'.2 h'
    refine ⟨fun j v hv => h1 j v (b2 j v hv), fun t v hv => ?_⟩
    have hv' : get t ((t0, .hs ⟨base + i, []⟩ 0 (q83 rs ys i) true) :: q72 rs ys base l xs) = some v := hv
    unfold get at hv'
    cases e : Nat.beq t0 t with
    | true =>
     rw [e] at hv'
     injection hv' with hv'
     have := y143 e
     subst this
     exact .inr (.inr (.inl ⟨i, by simpa [Nat.blt_eq] using hok'.1, hv'.symm, .inl ⟨k, n, hg, h1 i _ b1⟩⟩))
    | false => rw [e] at hv'; exact h2 t v hv'
   ·cases h'
  ·rename_i hg
   split at h'
   ·rename_i hi
    obtain ⟨h1, h2⟩ := q68 (rs := rs) (ys := ys) (base := base) hok'.2 h'
    refine ⟨fun j v hv => h1 j v ?_, fun t v hv => ?_⟩
    ·unfold get
     cases e : Nat.beq i j with
     | true => have := y143 e; subst this; rw [hi] at hv; cases hv
     | false => exact hv
    ·have hv' : get t ((t0, .hs ⟨base + i, []⟩ 0 (q83 rs ys i) true) :: q72 rs ys base l xs) = some v := hv
     unfold get at hv'
     cases e : Nat.beq t0 t with
     | true =>
      rw [e] at hv'
      injection hv' with hv'
      have := y143 e
      subst this
      exact .inr (.inr (.inl ⟨i, by simpa [Nat.blt_eq] using hok'.1, hv'.symm, .inr ⟨hg, h1 i _ (by simp [get])⟩⟩))
     | false => rw [e] at hv'; exact h2 t v hv'
   ·cases h'
  ·cases h'
 | (t0, .arz i) :: l, m0, m, xs, hok, h => by
  have hok' : (Nat.blt i rs.length && okS rs.length l) = true := hok
  rw [y144] at hok'
  have h' : (match get t0 tm with
   | some (.hz k _) => match q297 i k m0 with
    | some m' => q106 l tm m'
    | none => none
   | some .nilz => match get i m0 with
    | none => q106 l tm ((i, none) :: m0)
    | _ => none
   | _ => none) = some (xs, m) := h
  split at h'
  ·rename_i k n hg
   split at h'
   ·rename_i m' hb
    obtain ⟨b1, b2⟩ := q179 hb
    obtain ⟨h1, h2⟩ := q68 (rs := rs) (ys := ys) (base := base) hok'.2 h'
    refine ⟨fun j v hv => h1 j v (b2 j v hv), fun t v hv => ?_⟩
    have hv' : get t ((t0, .hz (base + i) (q83 rs ys i)) :: q72 rs ys base l xs) = some v := hv
    unfold get at hv'
    cases e : Nat.beq t0 t with
    | true =>
     rw [e] at hv'
     injection hv' with hv'
     have := y143 e
     subst this
     exact .inr (.inr (.inr (.inr (.inr ⟨i, by simpa [Nat.blt_eq] using hok'.1, hv'.symm, .inl ⟨k, n, hg, h1 i _ b1⟩⟩))))
    | false => rw [e] at hv'; exact h2 t v hv'
   ·cases h'
  ·rename_i hg
   split at h'
   ·rename_i hi
    obtain ⟨h1, h2⟩ := q68 (rs := rs) (ys := ys) (base := base) hok'.2 h'
    refine ⟨fun j v hv => h1 j v ?_, fun t v hv => ?_⟩
    ·unfold get
     cases e : Nat.beq i j with
     | true => have := y143 e; subst this; rw [hi] at hv; cases hv
     | false => exact hv
    ·have hv' : get t ((t0, .hz (base + i) (q83 rs ys i)) :: q72 rs ys base l xs) = some v := hv
     unfold get at hv'
     cases e : Nat.beq t0 t with
     | true =>
      rw [e] at hv'
      injection hv' with hv'
      have := y143 e
      subst this
      exact .inr (.inr (.inr (.inr (.inr ⟨i, by simpa [Nat.blt_eq] using hok'.1, hv'.symm, .inr ⟨hg, h1 i _ (by simp [get])⟩⟩))))
     | false => rw [e] at hv'; exact h2 t v hv'
   ·cases h'
  ·cases h'
 | (t0, .fn g is) :: l, m0, m, xs, hok, h => by
  have hok' : (is.all (fun i => Nat.blt i rs.length) && okS rs.length l) = true := hok
  rw [y144, List.all_eq_true] at hok'
  have h' : (match get t0 tm with
   | some (.fn g' vs) => bif Nat.beq g' g then match q249 is vs m0 with
    | some m' => q106 l tm m'
    | none => none
    else none
   | _ => none) = some (xs, m) := h
  split at h'
  ·rename_i g' vs hg
   cases eg : Nat.beq g' g with
   | false => rw [eg] at h'; cases h'
   | true =>
    rw [eg] at h'
    have := y143 eg
    subst this
    simp only [cond] at h'
    split at h'
    ·rename_i m' hb
     obtain ⟨b2, b1⟩ := q308 hb
     obtain ⟨h1, h2⟩ := q68 (rs := rs) (ys := ys) (base := base) hok'.2 h'
     refine ⟨fun j v hv => h1 j v (b2 j v hv), fun t v hv => ?_⟩
     have hv' : get t ((t0, .fn g' (q413 base is)) :: q72 rs ys base l xs) = some v := hv
     unfold get at hv'
     cases e : Nat.beq t0 t with
     | true =>
      rw [e] at hv'
      injection hv' with hv'
      have := y143 e
      subst this
      exact .inr (.inr (.inr (.inr (.inl ⟨g', is, vs, fun i hi => by simpa [Nat.blt_eq] using hok'.1 i hi, hv'.symm, hg, b1.imp fun i v _ ⟨k, e1, e2⟩ => ⟨k, e1, h1 i _ e2⟩⟩))))
     | false => rw [e] at hv'; exact h2 t v hv'
    ·cases h'
  ·cases h'
 | (t0, .map i) :: l, m0, m, xs, hok, h => by
  have hok' : (Nat.blt i rs.length && okS rs.length l) = true := hok
  rw [y144] at hok'
  have h' : (match get t0 tm with
   | some (.hm ⟨k, []⟩) => match q297 i k m0 with
    | some m' => q106 l tm m'
    | none => none
   | _ => none) = some (xs, m) := h
  split at h'
  ·rename_i k hg
   split at h'
   ·rename_i m' hb
    obtain ⟨b1, b2⟩ := q179 hb
    obtain ⟨h1, h2⟩ := q68 (rs := rs) (ys := ys) (base := base) hok'.2 h'
    refine ⟨fun j v hv => h1 j v (b2 j v hv), fun t v hv => ?_⟩
    have hv' : get t ((t0, .hm ⟨base + i, []⟩) :: q72 rs ys base l xs) = some v := hv
    unfold get at hv'
    cases e : Nat.beq t0 t with
    | true =>
     rw [e] at hv'
     injection hv' with hv'
     have := y143 e
     subst this
     exact .inr (.inr (.inr (.inl ⟨i, k, by simpa [Nat.blt_eq] using hok'.1, hv'.symm, hg, h1 i _ b1⟩)))
    | false => rw [e] at hv'; exact h2 t v hv'
   ·cases h'
  ·cases h'
end Go.Lf
namespace Go.Lf
def PS (C : Ctx) (p : Patt) (x : p.den) (w : World) (E : Bs) (a : Act) (F : Bs) : Prop :=
 okS p.roots.length p.slots = true /\ ∀ base, ∃ β Gk, FR C w E β (p.build base x).tm (p.build base x).ob a F Gk
def Ein (E : Bs) (obs : List (Nat × Ob)) (Gk : Nat -> Bs) (m : RMap) : Bs := fun b => E b \/ ∃ q o, get q obs = some o /\ q ∉ q108 m /\ Gk q b
theorem PS.forget {C : Ctx} {p : Patt} {x : p.den} {w : World} {E E' : Bs} {a : Act} {F : Bs} (h : PS C p x w E' a F) (hE : ∀ b, E b -> E' b) : ∃ F1 : Bs, (∀ b, F1 b -> F b) /\ PS C p x w E a F1 := by
 refine ⟨fun b => E b \/ (F b /\ ¬ E' b), ?_, h.1, fun base => ?_⟩
 ·obtain ⟨β, Gk, hf⟩ := h.2 0
  exact fun b hb => hb.elim (fun hb => (hf.ob.cov b).2 (.inl (hE b hb))) fun hb => hb.1
 ·obtain ⟨β, Gk, hf⟩ := h.2 base
  have hsub : ∀ b, (E b \/ (F b /\ ¬ E' b)) -> F b := fun b hb => hb.elim (fun hb => (hf.ob.cov b).2 (.inl (hE b hb))) fun hb => hb.1
  refine ⟨β, Gk, fun t v hv => ?_, ⟨fun q o hq => (hf.ob.rel q o hq).keep (Stay.less' hsub), hf.ob.dj, fun b => ?_, fun q o hq b hb hE' => hf.ob.out q o hq b hb (hE b hE'), fun b hb => hf.ob.elt b (hE b hb)⟩, hf.nt⟩
  ·obtain ⟨u, hu, hvr⟩ := hf.tm t v hv
   exact ⟨u, hu, hvr.keep (Stay.less' hsub) fun r _ => q46.refl w β _ r⟩
  ·constructor
   ·rintro (hb | ⟨hb, hn⟩)
    ·exact .inl hb
    ·exact (hf.ob.cov b).1 hb |>.elim (fun h => absurd h hn) .inr
   ·rintro (hb | ⟨q, o, hq, hb⟩)
    ·exact .inl hb
    ·exact .inr ⟨(hf.ob.cov b).2 (.inr ⟨q, o, hq, hb⟩), hf.ob.out q o hq b hb⟩
theorem Step.narrow {ds : Nat -> Prop} {w w' : World} {E E' F F1 F' : Bs} {a a' : Act} (h : Step ds w E' F1 a w' F' a') (hE : ∀ b, E b -> E' b) (hF : ∀ b, F1 b -> F b) : Step ds w E F a w' F' a' :=
 ⟨h.apart, ⟨h.stay.size, fun _ h => h.elim, fun b hb => h.stay.out b fun h' => hb (hF b h'), fun b hb => (h.stay.less b hb).imp (hF b) id⟩, fun b hb => h.keepE b (hE b hb), h.same, h.defers⟩
theorem Step.less {ds : Nat -> Prop} {w w' : World} {E F F' F1 : Bs} {a a' : Act} (h : Step ds w E F a w' F' a') (hF : ∀ b, F1 b -> F' b) : Step ds w E F a w' F1 a' :=
 ⟨h.apart, ⟨h.stay.size, fun _ h => h.elim, h.stay.out, fun b hb => h.stay.less b (hF b hb)⟩, h.keepE, h.same, h.defers⟩
section
variable {C : Ctx} {w : World} {E : Bs} {β : Nat -> Option (Nat × Nat)} {S : St} {a : Act} {F : Bs} {Gk : Nat -> Bs}
theorem tm_un {tm : List (Nat × V)} {ob : List (Nat × Ob)} (h : FR C w E β tm ob a F Gk) {t : Nat} {v : V} (hg : getU t tm = some v) : ∃ u, a.tmps[t]? = some u /\ VR w β ob F v u := by
 unfold getU at hg
 split at hg
 ·rename_i v0 h0
  injection hg with hg; subst hg
  obtain ⟨u, hu, hv⟩ := h.tm t v0 h0
  exact ⟨u, hu, q741 hv⟩
 ·cases hg
theorem q343 (h : FR C w E β S.tm S.ob a F Gk) {p : Patt} {x : p.den} {m : RMap} (hm : p.mtch S = some (x, m)) :
  ∃ F1 : Bs, (∀ b, F1 b -> F b) /\ PS C p x w (Ein E S.ob Gk m) a F1 := by
 unfold Patt.mtch at hm
 cases hok : okS p.roots.length p.slots with
 | false => rw [hok] at hm; cases hm
 | true =>
  rw [hok] at hm
  simp only [cond] at hm
  split at hm
  ·rename_i xs m' hms
   cases hnd : q517 (q108 m') with
   | false => rw [hnd] at hm; cases hm
   | true =>
    rw [hnd] at hm
    simp only at hm
    split at hm
    ·rename_i ys hmr
     injection hm with hm; injection hm with e1 e2; subst e1; subst e2
     have hnd' := q436 hnd
     have hroot := q350 hmr
     let loc : Nat -> Option (Nat × Nat) := fun i => match get i m' with | some (some k) => β k | _ => none
     have hex : ∀ i, ∃ G : Bs, ∀ o, q120 p.roots ys i = some o -> (∀ b, G b -> ∃ k ob, get i m' = some (some k) /\ get k S.ob = some ob /\ Gk k b) /\
       ∀ F', (∀ b, F' b -> F b) -> (∀ k, get i m' = some (some k) -> ∀ b, Gk k b -> ¬ G b -> ¬ F' b) -> ObR w F' o (loc i) G := by
      intro i
      cases hr : q120 p.roots ys i with
      | none => exact ⟨fun _ => False, fun o ho => by cases ho⟩
      | some o =>
       obtain ⟨k, rp, y, hk, hy, ho⟩ := hroot i o hr
       rw [Nat.zero_add] at hk
       subst ho
       cases k with
       | none =>
        cases rp with
        | box t ts => cases hy
        | mp τ => cases hy
        | arr τ =>
         have hy' : some ([] : List τ.den) = some y := hy
         injection hy' with hy'; subst hy'
         refine ⟨fun _ => False, fun o ho => ?_⟩
         injection ho with ho; subst ho
         refine ⟨fun b hb => hb.elim, fun F' _ _ => ?_⟩
         have : loc i = none := by show (match get i m' with | some (some k) => β k | _ => none) = none; rw [hk]
         rw [this]
         exact ⟨rfl, fun _ h => h⟩
       | some k =>
        have hloc : loc i = β k := by show (match get i m' with | some (some k) => β k | _ => none) = β k; rw [hk]
        cases hg : get k S.ob with
        | none => simp [RP.atK, hg] at hy
        | some ob =>
         have hy2 : RP.ofOb rp (some ob) = some y := by simpa [RP.atK, hg] using hy
         cases rp with
         | box t ts =>
          cases ob with
          | arr => cases hy2
          | mp => cases hy2
          | box t' fs =>
           have hy3 : q683 ts fs = some y := hy2
           obtain ⟨b, row, G', hl, hrow, hls, hnb, hG⟩ := h.ob.rel k _ hg
           obtain ⟨G1, s1, H⟩ := q347 hy3 hls
           refine ⟨fun n => n = b \/ G1 n, fun o ho => ?_⟩
           injection ho with ho; subst ho
           refine ⟨fun n hn => ⟨k, _, hk, hg, (hG n).2 (hn.imp id (s1 n))⟩, fun F' hF hlost => ?_⟩
           rw [hloc]
           refine ⟨b, row, G1, hl, hrow, H F' hF (fun n hn h1 hf => hlost k hk n ((hG n).2 (.inr hn)) (fun h => h.elim (fun e => hnb (e ▸ hn)) h1) hf), fun hb => hnb (s1 b hb), fun n => Iff.rfl⟩
         | arr τ =>
          cases ob with
          | box => cases hy2
          | mp => cases hy2
          | arr τ' l =>
           have hy3 : (if h : Ty.beq τ' τ = true then some (q266 h l) else none) = some y := hy2
           split at hy3
           ·rename_i hb
            have := Ty.beq_eq hb
            subst this
            injection hy3 with hy3; subst hy3
            refine ⟨Gk k, fun o ho => ?_⟩
            injection ho with ho; subst ho
            refine ⟨fun n hn => ⟨k, _, hk, hg, hn⟩, fun F' hF _ => ?_⟩
            rw [hloc]
            exact (h.ob.rel k _ hg).keep (Stay.less' hF)
           ·cases hy3
         | mp τ =>
          cases ob with
          | box => cases hy2
          | arr => cases hy2
          | mp τ' l =>
           have hy3 : (if h : Ty.beq τ' τ = true then some (castM h l) else none) = some y := hy2
           split at hy3
           ·rename_i hb
            have := Ty.beq_eq hb
            subst this
            injection hy3 with hy3; subst hy3
            refine ⟨Gk k, fun o ho => ?_⟩
            injection ho with ho; subst ho
            refine ⟨fun n hn => ⟨k, _, hk, hg, hn⟩, fun F' hF _ => ?_⟩
            rw [hloc]
            exact (h.ob.rel k _ hg).keep (Stay.less' hF)
           ·cases hy3
     obtain ⟨f, hf⟩ := Classical.axiomOfChoice hex
     let F1 : Bs := fun b => Ein E S.ob Gk m' b \/ ∃ i o, q120 p.roots ys i = some o /\ f i b
     have hEF : ∀ b, Ein E S.ob Gk m' b -> F b := fun b hb => by
      rcases hb with hb | ⟨q, o, hq, _, hb⟩
      ·exact (h.ob.cov b).2 (.inl hb)
      ·exact (h.ob.cov b).2 (.inr ⟨q, o, hq, hb⟩)
     have hF1 : ∀ b, F1 b -> F b := fun b hb => by
      rcases hb with hb | ⟨i, o, hr, hb⟩
      ·exact hEF b hb
      ·obtain ⟨k, ob, _, hg, hkb⟩ := (hf i o hr).1 b hb
       exact (h.ob.cov b).2 (.inr ⟨k, ob, hg, hkb⟩)
     have hdj : ∀ i i' o o', q120 p.roots ys i = some o -> q120 p.roots ys i' = some o' -> i ≠ i' -> Dj (f i) (f i') := by
      intro i i' o o' hr hr' hne b hb hb'
      obtain ⟨k, ob, hk, hg, hkb⟩ := (hf i o hr).1 b hb
      obtain ⟨k', ob', hk', hg', hkb'⟩ := (hf i' o' hr').1 b hb'
      by_cases e : k = k'
      ·subst e; exact hne (q303 hnd' hk hk')
      ·exact h.ob.dj k k' ob ob' hg hg' e b hkb hkb'
     have hdE : ∀ i o, q120 p.roots ys i = some o -> Dj (f i) (Ein E S.ob Gk m') := by
      intro i o hr b hb hb'
      obtain ⟨k, ob, hk, hg, hkb⟩ := (hf i o hr).1 b hb
      rcases hb' with hb' | ⟨q, oq, hq, hn, hqb⟩
      ·exact h.ob.out k ob hg b hkb hb'
      ·exact h.ob.dj k q ob oq hg hq (fun e => hn (e ▸ q177 hk)) b hkb hqb
     have hrel : ∀ i o, q120 p.roots ys i = some o -> ObR w F1 o (loc i) (f i) := by
      intro i o hr
      refine (hf i o hr).2 F1 hF1 fun k hk b hkb hn hb => ?_
      rcases hb with hb | ⟨i', o', hr', hb⟩
      ·rcases hb with hb | ⟨q, oq, hq, hnq, hqb⟩
       ·obtain ⟨k2, rp, y, hk2, hy, ho⟩ := hroot i o hr
        rw [Nat.zero_add, hk] at hk2
        injection hk2 with hk2; subst hk2
        cases hg : get k S.ob with
        | none => simp [RP.atK, hg] at hy
        | some ob => exact h.ob.out k ob hg b hkb hb
       ·obtain ⟨k2, rp, y, hk2, hy, ho⟩ := hroot i o hr
        rw [Nat.zero_add, hk] at hk2
        injection hk2 with hk2; subst hk2
        cases hg : get k S.ob with
        | none => simp [RP.atK, hg] at hy
        | some ob => exact h.ob.dj k q ob oq hg hq (fun e => hnq (e ▸ q177 hk)) b hkb hqb
      ·by_cases e : i = i'
       ·subst e; exact hn hb
       ·obtain ⟨k', ob', hk', hg', hkb'⟩ := (hf i' o' hr').1 b hb
        obtain ⟨k2, rp, y, hk2, hy, ho⟩ := hroot i o hr
        rw [Nat.zero_add, hk] at hk2
        injection hk2 with hk2; subst hk2
        cases hg : get k S.ob with
        | none => simp [RP.atK, hg] at hy
        | some ob => exact h.ob.dj k k' ob ob' hg hg' (fun e2 => e (q303 hnd' hk (e2 ▸ hk'))) b hkb hkb'
     refine ⟨F1, hF1, hok, fun base => ?_⟩
     refine ⟨fun q => if base <= q then loc (q - base) else none, fun q => if base <= q then f (q - base) else fun _ => False, ?_⟩
     have hgb : ∀ q o, get q (q111 base p.roots ys) = some o -> base <= q /\ q120 p.roots ys (q - base) = some o := by
      intro q o hq
      rw [q78] at hq
      split at hq
      ·exact ⟨‹_›, hq⟩
      ·cases hq
     refine ⟨fun t v hv => ?_, ⟨fun q o hq => ?_, fun q q' o o' hq hq' hne => ?_, fun b => ?_, fun q o hq => ?_, fun b hb => q261 h.ob.a b (hEF b hb)⟩, h.nt⟩
     ·have hv' : get t (q72 p.roots ys base p.slots xs) = some v := hv
      have hptr : ∀ i k u, i < p.roots.length -> get i m' = some (some k) -> VRl w β S.ob F (.hp ⟨k, []⟩ 0 0) u -> VRl w (fun q => if base <= q then loc (q - base) else none) (p.build base (xs, ys)).ob F1 (.hp ⟨base + i, []⟩ 0 0) u := by
       intro i k u hi hk ⟨ad, had, hall⟩
       refine ⟨ad, had, fun o l hl => ?_⟩
       obtain ⟨o2, ho2⟩ := q147 (ys := ys) hi
       have hloc : loc i = β k := by show (match get i m' with | some (some k) => β k | _ => none) = β k; rw [hk]
       unfold q34 at hl
       rw [show get (⟨base + i, []⟩ : Ref).root (p.build base (xs, ys)).ob = some o2 from by
        show get (base + i) (q111 base p.roots ys) = _
        rw [q78, if_pos (Nat.le_add_right _ _), y163]; exact ho2] at hl
       have hl' : some (o2, if base <= base + i then loc (base + i - base) else none) = some (o, l) := hl
       injection hl' with hl'; injection hl' with e1 e2; subst e1; subst e2
       rw [if_pos (Nat.le_add_right _ _), y163, hloc]
       obtain ⟨k2, rp, y, hk2, hy, ho⟩ := hroot i o2 ho2
       rw [Nat.zero_add, hk] at hk2
       injection hk2 with hk2; subst hk2
       cases hgk : get k S.ob with
       | none => simp [RP.atK, hgk] at hy
       | some ob =>
        obtain ⟨b, off, hb, hadr⟩ := hall ob (β k) (by simp [q34, hgk, way])
        refine ⟨b, off, hb, ?_⟩
        rw [hadr]
        cases ob <;> cases o2 <;> simp [ix]
      have hslot := (q68 (rs := p.roots) (ys := ys) (base := base) hok hms).2 t v hv'
      rcases hslot with ⟨τ, x, v0, hv, hg, hp, hx⟩ | ⟨i, k, hi, hv, hg, hk⟩ | ⟨i, hi, hv, hkn⟩ | ⟨i, k, hi, hv, hg, hk⟩ | ⟨g, is, vs, hi, hv, hg, hall⟩ | ⟨i, hi, hv, hkn⟩
      ·obtain ⟨u, hu, hvr⟩ := tm_un h hg
       subst hv
       have hval := ofV_ok hp hx hvr
       exact ⟨u, hu, ValR.vr hp ⟨hval.1.sub hF1, hval.2⟩⟩
      ·obtain ⟨u, hu, hvr⟩ := h.tm t _ hg
       subst hv
       exact ⟨u, hu, hptr i k u hi hk hvr⟩
      ·obtain ⟨o2, ho2⟩ := q147 (ys := ys) hi
       have hat : ∀ β' : Nat -> Option (Nat × Nat), β' (base + i) = loc i -> q34 w β' (p.build base (xs, ys)).ob ⟨base + i, []⟩ = some (o2, loc i) := by
        intro β' hβ
        unfold q34
        rw [show get (⟨base + i, []⟩ : Ref).root (p.build base (xs, ys)).ob = some o2 from by
         show get (base + i) (q111 base p.roots ys) = _
         rw [q78, if_pos (Nat.le_add_right _ _), y163]; exact ho2]
        show some (o2, β' (base + i)) = _
        rw [hβ]
       have hβ : (fun q => if base <= q then loc (q - base) else none) (base + i) = loc i := by
        show (if base <= base + i then loc (base + i - base) else none) = _
        rw [if_pos (Nat.le_add_right _ _), y163]
       obtain ⟨k2, rp, y, hk2, hy, ho⟩ := hroot i o2 ho2
       rw [Nat.zero_add] at hk2
       rcases hkn with ⟨k, n, hg, hk⟩ | ⟨hg, hk⟩
       ·obtain ⟨u, hu, ad, cap, had, hall⟩ := tm_un h hg
        rw [hk] at hk2
        injection hk2 with hk2; subst hk2
        have hloc : loc i = β k := by show (match get i m' with | some (some k) => β k | _ => none) = β k; rw [hk]
        cases hgk : get k S.ob with
        | none => simp [RP.atK, hgk] at hy
        | some ob =>
         obtain ⟨τ, l, e, hh, hn, hw⟩ := hall ob (β k) (by simp [q34, hgk, way])
         subst e
         have hy2 : RP.ofOb rp (some (.arr τ l)) = some y := by simpa [RP.atK, hgk] using hy
         cases rp with
         | box t ts => cases hy2
         | mp => cases hy2
         | arr τ' =>
          have hy3 : (if h : Ty.beq τ τ' = true then some (q266 h l) else none) = some y := hy2
          split at hy3
          ·rename_i hb
           have := Ty.beq_eq hb
           subst this
           injection hy3 with hy3; subst hy3
           subst ho
           obtain ⟨_, hnl⟩ := hw rfl
           have hrl : q83 p.roots ys i = l.length := q141 ho2
           subst hv
           refine ⟨u, hu, ad, cap, by rw [hrl, had, hnl], fun o lo hl => ?_⟩
           rw [hat _ hβ] at hl
           injection hl with hl; injection hl with e1 e2; subst e1; subst e2
           exact ⟨τ, l, rfl, by rw [hloc, hrl, <- hnl]; exact hh, by rw [hrl]; omega, fun _ => ⟨rfl, hrl⟩⟩
          ·cases hy3
       ·obtain ⟨u, hu, ad, had⟩ := tm_un h hg
        rw [hk] at hk2
        injection hk2 with hk2; subst hk2
        have hloc : loc i = none := by show (match get i m' with | some (some k) => β k | _ => none) = none; rw [hk]
        cases rp with
        | box t ts => cases hy
        | mp => cases hy
        | arr τ =>
         have hy' : some ([] : List τ.den) = some y := hy
         injection hy' with hy'; subst hy'
         subst ho
         have hrl : q83 p.roots ys i = 0 := q141 (τ := τ) (xs := []) ho2
         subst hv
         refine ⟨u, hu, ad, 0, by rw [hrl]; exact had, fun o lo hl => ?_⟩
         rw [hat _ hβ] at hl
         injection hl with hl; injection hl with e1 e2; subst e1; subst e2
         exact ⟨τ, [], rfl, ⟨ad, 0, by rw [hrl]; exact had, .inl ⟨hrl, rfl⟩⟩, by rw [hrl]; simp, fun _ => ⟨rfl, hrl⟩⟩
      ·obtain ⟨u, hu, b, hub, hall⟩ := h.tm t _ hg
       subst hv
       refine ⟨u, hu, b, hub, fun o l hl => ?_⟩
       obtain ⟨o2, ho2⟩ := q147 (ys := ys) hi
       have hloc : loc i = β k := by show (match get i m' with | some (some k) => β k | _ => none) = β k; rw [hk]
       unfold q34 at hl
       rw [show get (⟨base + i, []⟩ : Ref).root (p.build base (xs, ys)).ob = some o2 from by
        show get (base + i) (q111 base p.roots ys) = _
        rw [q78, if_pos (Nat.le_add_right _ _), y163]; exact ho2] at hl
       have hl' : some (o2, if base <= base + i then loc (base + i - base) else none) = some (o, l) := hl
       injection hl' with hl'; injection hl' with e1 e2; subst e1; subst e2
       rw [if_pos (Nat.le_add_right _ _), y163, hloc]
       obtain ⟨k2, rp, y, hk2, hy, ho⟩ := hroot i o2 ho2
       rw [Nat.zero_add, hk] at hk2
       injection hk2 with hk2; subst hk2
       cases hgk : get k S.ob with
       | none => simp [RP.atK, hgk] at hy
       | some ob => exact hall ob (β k) (by simp [q34, hgk, way])
      ·obtain ⟨u, hu, us0, hfn, hvs⟩ := h.tm t _ hg
       subst hv
       refine ⟨u, hu, us0, hfn, ?_⟩
       have go : ∀ (is : List Nat) (vs : List V) (us : List Value), (∀ i ∈ is, i < p.roots.length) -> All2 (fun i v => ∃ k, v = .hp ⟨k, []⟩ 0 0 /\ get i m' = some (some k)) is vs -> All2 (VRl w β S.ob F) vs us ->
         All2 (VRl w (fun q => if base <= q then loc (q - base) else none) (p.build base (xs, ys)).ob F1) (q413 base is) us := by
        intro is vs us hi hall
        induction hall generalizing us with
        | nil => intro hvs; cases hvs; exact .nil
        | cons h1 h2 ih =>
         intro hvs
         cases hvs with
         | cons h3 h4 =>
          obtain ⟨k, e1, e2⟩ := h1
          subst e1
          exact .cons (hptr _ k _ (hi _ (by simp)) e2 h3) (ih _ (fun i hi' => hi i (by simp [hi'])) h4)
       exact go is vs _ hi hall hvs
      ·obtain ⟨o2, ho2⟩ := q147 (ys := ys) hi
       have hat : ∀ β' : Nat -> Option (Nat × Nat), β' (base + i) = loc i -> q34 w β' (p.build base (xs, ys)).ob ⟨base + i, []⟩ = some (o2, loc i) := by
        intro β' hβ
        unfold q34
        rw [show get (⟨base + i, []⟩ : Ref).root (p.build base (xs, ys)).ob = some o2 from by
         show get (base + i) (q111 base p.roots ys) = _
         rw [q78, if_pos (Nat.le_add_right _ _), y163]; exact ho2]
        show some (o2, β' (base + i)) = _
        rw [hβ]
       have hβ : (fun q => if base <= q then loc (q - base) else none) (base + i) = loc i := by
        show (if base <= base + i then loc (base + i - base) else none) = _
        rw [if_pos (Nat.le_add_right _ _), y163]
       obtain ⟨k2, rp, y, hk2, hy, ho⟩ := hroot i o2 ho2
       rw [Nat.zero_add] at hk2
       rcases hkn with ⟨k, n, hg, hk⟩ | ⟨hg, hk⟩
       ·obtain ⟨u, hu, ad, cap, had, hn0, hall⟩ := h.tm t _ hg
        rw [hk] at hk2
        injection hk2 with hk2; subst hk2
        have hloc : loc i = β k := by show (match get i m' with | some (some k) => β k | _ => none) = β k; rw [hk]
        cases hgk : get k S.ob with
        | none => simp [RP.atK, hgk] at hy
        | some ob =>
         obtain ⟨τ, l, e, hh, hnl⟩ := hall ob (β k) (by simp [q34, hgk, way])
         subst e
         have hy2 : RP.ofOb rp (some (.arr τ l)) = some y := by simpa [RP.atK, hgk] using hy
         cases rp with
         | box t ts => cases hy2
         | mp => cases hy2
         | arr τ' =>
          have hy3 : (if h : Ty.beq τ τ' = true then some (q266 h l) else none) = some y := hy2
          split at hy3
          ·rename_i hb
           have := Ty.beq_eq hb
           subst this
           injection hy3 with hy3; subst hy3
           subst ho
           have hrl : q83 p.roots ys i = l.length := q141 ho2
           subst hv
           refine ⟨u, hu, ad, cap, by rw [hrl, had, hnl], by rw [hrl, <- hnl]; exact hn0, fun o lo hl => ?_⟩
           rw [hat _ hβ] at hl
           injection hl with hl; injection hl with e1 e2; subst e1; subst e2
           exact ⟨τ, l, rfl, by rw [hloc, hrl, <- hnl]; exact hh, hrl⟩
          ·cases hy3
       ·obtain ⟨u, hu, had⟩ := h.tm t _ hg
        rw [hk] at hk2
        injection hk2 with hk2; subst hk2
        have hloc : loc i = none := by show (match get i m' with | some (some k) => β k | _ => none) = none; rw [hk]
        cases rp with
        | box t ts => cases hy
        | mp => cases hy
        | arr τ =>
         have hy' : some ([] : List τ.den) = some y := hy
         injection hy' with hy'; subst hy'
         subst ho
         have hrl : q83 p.roots ys i = 0 := q141 (τ := τ) (xs := []) ho2
         subst hv
         refine ⟨u, hu, none, 0, by rw [hrl]; exact had, by simp [hrl], fun o lo hl => ?_⟩
         rw [hat _ hβ] at hl
         injection hl with hl; injection hl with e1 e2; subst e1; subst e2
         exact ⟨τ, [], rfl, ⟨none, 0, by rw [hrl]; exact had, .inl ⟨hrl, rfl⟩⟩, hrl⟩
     ·obtain ⟨h1, h2⟩ := hgb q o hq
      simp only [if_pos h1]
      exact hrel _ o h2
     ·obtain ⟨h1, h2⟩ := hgb q o hq
      obtain ⟨h3, h4⟩ := hgb q' o' hq'
      simp only [if_pos h1, if_pos h3]
      exact hdj _ _ o o' h2 h4 (by omega)
     ·constructor
      ·rintro (hb | ⟨i, o, hr, hb⟩)
       ·exact .inl hb
       ·refine .inr ⟨base + i, o, ?_, ?_⟩
        ·show get (base + i) (q111 base p.roots ys) = _
         rw [q78, if_pos (Nat.le_add_right _ _), y163]; exact hr
        ·simp only [if_pos (Nat.le_add_right base i), y163]; exact hb
      ·rintro (hb | ⟨q, o, hq, hb⟩)
       ·exact .inl hb
       ·obtain ⟨h1, h2⟩ := hgb q o hq
        simp only [if_pos h1] at hb
        exact .inr ⟨_, o, h2, hb⟩
     ·obtain ⟨h1, h2⟩ := hgb q o hq
      simp only [if_pos h1]
      exact hdE _ o h2
    ·cases hm
  ·cases hm
end
end Go.Lf
namespace Go.Lf
def q233 : (l : List (EX × Patt)) -> Outs l -> EX × (p : Patt) × p.den
 | [], y => nomatch y
 | [(e, p)], y => (e, ⟨p, y⟩)
 | (e, p) :: _ :: _, .inl x => (e, ⟨p, x⟩)
 | _ :: q :: l, .inr y => q233 (q :: l) y
theorem q183 : ∀ (l : List (EX × Patt)) (b : Nat) (y : Outs l), q151 l b y = ((q233 l y).1, (q233 l y).2.1.build b (q233 l y).2.2)
 | [], _, y => nomatch y
 | [(e, p)], b, y => rfl
 | (e, p) :: _ :: _, b, .inl x => rfl
 | _ :: q :: l, b, .inr y => q183 (q :: l) b y
theorem EX.beq_eq : ∀ {a b : EX}, EX.beq a b = true -> a = b
 | .normal, .normal, _ => rfl
 | .ret, .ret, _ => rfl
 | .ex a, .ex b, h => by rw [y143 (show Nat.beq a b = true from h)]
 | .normal, .ret, h => by cases h
 | .normal, .ex _, h => by cases h
 | .ret, .normal, h => by cases h
 | .ret, .ex _, h => by cases h
 | .ex _, .normal, h => by cases h
 | .ex _, .ret, h => by cases h
theorem q193 : ∀ {l : List (EX × Patt)} {e : EX} {S : St} {y : Outs l}, q140 l e S = some y -> (q233 l y).1 = e /\ ∃ m, (q233 l y).2.1.mtch S = some ((q233 l y).2.2, m)
 | [], _, _, y, _ => nomatch y
 | [(e, p)], e', S, y, h => by
  have h' : (bif e.beq e' then match p.mtch S with
   | some (x, _) => some x
   | none => none else none) = some y := h
  cases hb : e.beq e' with
  | false => rw [hb] at h'; cases h'
  | true =>
   rw [hb] at h'
   simp only [cond] at h'
   split at h'
   ·rename_i x m hm
    injection h' with h'; subst h'
    exact ⟨EX.beq_eq hb, m, hm⟩
   ·cases h'
 | (e, p) :: q :: l, e', S, y, h => by
  have h' : (bif e.beq e' then match p.mtch S with
   | some (x, _) => some (.inl x)
   | none => none
  else match q140 (q :: l) e' S with
   | some y => some (.inr y)
   | none => none) = some y := h
  cases hb : e.beq e' with
  | true =>
   rw [hb] at h'
   simp only [cond] at h'
   split at h'
   ·rename_i x m hm
    injection h' with h'; subst h'
    exact ⟨EX.beq_eq hb, m, hm⟩
   ·cases h'
  | false =>
   rw [hb] at h'
   simp only [cond] at h'
   split at h'
   ·rename_i y' hy
    injection h' with h'; subst h'
    exact q193 (l := q :: l) hy
   ·cases h'
theorem EX.of_exit : ∀ {e : Exit} {x : EX}, EX.of e = some x -> x.exit = e
 | .normal, x, h => by injection h with h; subst h; rfl
 | .exit id, x, h => by injection h with h; subst h; rfl
 | .ret, x, h => by injection h with h; subst h; rfl
 | .goto _, _, h => by cases h
 | .panic _, _, h => by cases h
 | .outgrown, _, h => by cases h
def OutS (C : Ctx) (outs : List (EX × Patt)) (y : Outs outs) (w : World) (E : Bs) (a : Act) (F : Bs) (e : Exit) : Prop :=
 e = (q233 outs y).1.exit /\ PS C (q233 outs y).2.1 (q233 outs y).2.2 w E a F
def LCs {R : Type} (P : Program) (C : Ctx) (c : Code) (lc : LC R) : Prop :=
 ∀ (x : lc.inn.den) (Ke : Outs lc.outs -> Option R) (r : R), lc.run x Ke = some r -> ∀ (w : World) (E : Bs) (a : Act) (F : Bs), PS C lc.inn x w E a F -> ∀ Q : Exit -> Act -> World -> Prop,
  (∀ y w' a' F' e, Ke y = some r -> OutS C lc.outs y w' E a' F' e -> Step (Wr C (dsts c)) w E F a w' F' a' -> Q e a' w') -> c.wp P Q a w
structure Lok {R : Type} (P : Program) (C : Ctx) (L : List (LC R)) (c : Code) (n : Nat) : Prop where
 loop : ∀ i c' lc, q58 c i = some c' -> q389 (2 * (n + i)) L = some lc -> LCs P C (.loop c') lc
 join : ∀ b ∈ q279 c, ∀ lc, q622 b L = some lc -> LCs P C b lc
theorem q112 : ∀ {c c' : Code} {i : Nat}, q58 c i = some c' -> i < loops c
 | .seq a b, c', i, h => by
  have h' : (bif Nat.blt i (loops a) then q58 a i else q58 b (i - loops a)) = some c' := h
  show i < loops a + loops b
  cases hb : Nat.blt i (loops a) with
  | true =>
       have : i < loops a := by simpa [Nat.blt_eq] using hb
       omega
  | false =>
   rw [hb] at h'
   have := q112 (c := b) h'
   have : ¬ i < loops a := by intro h; rw [show Nat.blt i (loops a) = true from by simpa [Nat.blt_eq] using h] at hb; cases hb
   omega
 | .cond x a b, c', i, h => by
  have h' : (bif Nat.blt i (loops a) then q58 a i else q58 b (i - loops a)) = some c' := h
  show i < loops a + loops b
  cases hb : Nat.blt i (loops a) with
  | true =>
       have : i < loops a := by simpa [Nat.blt_eq] using hb
       omega
  | false =>
   rw [hb] at h'
   have := q112 (c := b) h'
   have : ¬ i < loops a := by intro h; rw [show Nat.blt i (loops a) = true from by simpa [Nat.blt_eq] using h] at hb; cases hb
   omega
 | .block _ c, c', i, h => q112 (c := c) h
 | .scope c, c', i, h => q112 (c := c) h
 | .loop c, c', 0, h => by show 0 < loops c + 1; omega
 | .loop c, c', i + 1, h => by
  have := q112 (c := c) (i := i) h
  show i + 1 < loops c + 1
  omega
 | .skip, _, _, h => by cases h
 | .region .., _, _, h => by cases h
 | .exit _, _, _, h => by cases h
 | .ret, _, _, h => by cases h
 | .goto _, _, _, h => by cases h
 | .label _, _, _, h => by cases h
 | .rangeFunc .., _, _, h => by cases h
theorem q383 (k : Nat) (v : V) : q333 k v = (q37 v).any fun r => Nat.beq r.root k := by
 cases v <;> simp [q333, q37]
theorem q299 (k : Nat) : ∀ l : List V, q354 k l = (l.flatMap q37).any fun r => Nat.beq r.root k
 | [] => rfl
 | v :: l => by simp only [q354, List.flatMap_cons, List.any_append, q383, q299 k l]
theorem q558 (k : Nat) (v : V) : refsA k v = (q31 v).any fun r => Nat.beq r.root k := by
 cases v with
 | agg fs => exact q299 k fs
 | fn f fs => exact q299 k fs
 | _ => simp [refsA, q31, q383]
theorem q594 (k : Nat) : ∀ l : List V, refsT k l = (l.flatMap q31).any fun r => Nat.beq r.root k
 | [] => rfl
 | v :: l => by simp only [refsT, List.flatMap_cons, List.any_append, q558, q594 k l]
theorem refs_eq (k : Nat) (v : V) : refs k v = (q24 v).any fun r => Nat.beq r.root k := by
 cases v with
 | tup fs => exact q594 k fs
 | _ => simp only [refs, q24, q558]
theorem q368 {v : V} : ∀ {m : RMap}, q434 v m = false -> ∀ r ∈ q24 v, r.root ∉ q108 m
 | [], _, _, _ => by intro h; cases h
 | (_, none) :: m, h, r, hr => q368 (m := m) h r hr
 | (_, some k) :: m, h, r, hr => by
  have h' : (refs k v || q434 v m) = false := h
  rw [Bool.or_eq_false_iff, refs_eq, List.any_eq_false] at h'
  intro hm
  rcases y166.1 (show r.root ∈ k :: q108 m from hm) with e | hm
  ·exact h'.1 r hr (by rw [e]; exact Nat.beq_refl _)
  ·exact q368 h'.2 r hr hm
theorem q369 {q : Nat} : ∀ {m : RMap}, inM q m = true ↔ q ∈ q108 m
 | [] => ⟨fun h => (by cases h), fun h => (by cases h)⟩
 | (_, none) :: m => q369 (m := m)
 | (_, some k) :: m => by
  show (bif Nat.beq k q then true else inM q m) = true ↔ q ∈ k :: q108 m
  cases e : Nat.beq k q with
  | true => have := y143 e; subst this; simp
  | false =>
   have hne : q ≠ k := fun h => by subst h; rw [Nat.beq_refl] at e; cases e
   simp only [cond, y166]
   rw [q369 (m := m)]
   exact ⟨.inr, fun h => h.resolve_left hne⟩
theorem q289 {q : Nat} {m : RMap} : ∀ (obs : List (Nat × Ob)), get q (q101 m obs) = if q ∈ q108 m then none else get q obs
 | [] => by simp [q101, get]
 | (j, o) :: l => by
  unfold q101
  cases hj : inM j m with
  | true =>
   simp only [cond]
   rw [q289 l]
   by_cases e : j = q
   ·subst e; rw [if_pos (q369.1 hj), if_pos (q369.1 hj)]
   ·have : Nat.beq j q = false := by cases h : Nat.beq j q with | true => exact absurd (y143 h) e | false => rfl
    show _ = if q ∈ q108 m then none else (bif Nat.beq j q then some o else get q l)
    rw [this]
    rfl
  | false =>
   show (bif Nat.beq j q then some o else get q (q101 m l)) = if q ∈ q108 m then none else (bif Nat.beq j q then some o else get q l)
   cases e : Nat.beq j q with
   | true =>
    have := y143 e
    subst this
    rw [if_neg fun h => by rw [q369.2 h] at hj; cases hj]
    rfl
   | false => exact q289 l
theorem q219 {t : Nat} {ds : List Nat} {m : RMap} {v : V} : ∀ {tm : List (Nat × V)}, get t (q125 ds m tm) = some v -> t ∉ ds /\ ∃ v0, get t tm = some v0 /\ (v = .undef \/ (v = v0 /\ q434 v0 m = false))
 | [], h => by cases h
 | (j, u) :: l, h => by
  have h' : get t (bif mem j ds then q125 ds m l else (j, bif q434 u m then .undef else u) :: q125 ds m l) = some v := h
  cases hj : mem j ds with
  | true =>
   rw [hj] at h'
   obtain ⟨h1, v0, h2, h3⟩ := q219 (tm := l) h'
   refine ⟨h1, v0, ?_, h3⟩
   have hne : j ≠ t := fun e => h1 (e ▸ (q209 ds).1 hj)
   unfold get
   cases e : Nat.beq j t with
   | true => exact absurd (y143 e) hne
   | false => exact h2
  | false =>
   rw [hj] at h'
   have h2 : (bif Nat.beq j t then some (bif q434 u m then V.undef else u) else get t (q125 ds m l)) = some v := h'
   cases e : Nat.beq j t with
   | true =>
    rw [e] at h2
    injection h2 with h2
    have := y143 e
    subst this
    refine ⟨fun hm => (by rw [(q209 ds).2 hm] at hj; cases hj), u, by simp [get], ?_⟩
    cases hr : q434 u m with
    | true => rw [hr] at h2; exact .inl h2.symm
    | false => rw [hr] at h2; exact .inr ⟨h2.symm, rfl⟩
   | false =>
    rw [e] at h2
    obtain ⟨h1, v0, h3, h4⟩ := q219 (tm := l) h2
    exact ⟨h1, v0, by unfold get; rw [e]; exact h3, h4⟩
theorem q212 {α : Type} (t : Nat) : ∀ (l l' : List (Nat × α)), get t (l ++ l') = match get t l with | some v => some v | none => get t l'
 | [], _ => rfl
 | (j, v) :: l, l' => by
  show (bif Nat.beq j t then some v else get t (l ++ l')) = match (bif Nat.beq j t then some v else get t l) with | some v => some v | none => get t l'
  cases Nat.beq j t with
  | true => rfl
  | false => exact q212 t l l'
theorem q561 {τ : Ty} (x : τ.den) : q24 (τ.toV x) = [] := by
 have hl : ∀ (τ : Ty) (x : τ.den), (τ.leaves x).flatMap q37 = [] := by
  intro τ
  induction τ with
  | pair a b iha ihb =>
   intro x
   show (a.leaves x.1 ++ b.leaves x.2).flatMap q37 = []
   rw [List.flatMap_append, iha, ihb]; rfl
  | _ => intro x; rfl
 cases τ with
 | pair a b => exact hl (.pair a b) x
 | _ => rfl
theorem q67 {rs : List RP} {ys : RPs rs} {base t : Nat} {v : V} : ∀ {l : List (Nat × SP)} {xs : SPs l}, okS rs.length l = true -> get t (q72 rs ys base l xs) = some v -> ∀ r ∈ q24 v, base <= r.root /\ r.root < base + rs.length
 | [], _, _, h, _, _ => by cases h
 | (t0, .val τ) :: l, xs, hok, h, r, hr => by
  have h' : (bif Nat.beq t0 t then some (τ.toV xs.1) else get t (q72 rs ys base l xs.2)) = some v := h
  cases e : Nat.beq t0 t with
  | true =>
   rw [e] at h'
   injection h' with h'; subst h'
   rw [q561] at hr; cases hr
  | false => rw [e] at h'; exact q67 (l := l) (show okS rs.length l = true from hok) h' r hr
 | (t0, .ptr i) :: l, xs, hok, h, r, hr => by
  have hok' : (Nat.blt i rs.length && okS rs.length l) = true := hok
  rw [y144] at hok'
  have h' : (bif Nat.beq t0 t then some (V.hp ⟨base + i, []⟩ 0 0) else get t (q72 rs ys base l xs)) = some v := h
  cases e : Nat.beq t0 t with
  | true =>
   rw [e] at h'
   injection h' with h'; subst h'
   simp [q24, q31, q37] at hr
   subst hr
   have : i < rs.length := by simpa [Nat.blt_eq] using hok'.1
   exact ⟨Nat.le_add_right _ _, Nat.add_lt_add_left this _⟩
  | false => rw [e] at h'; exact q67 (l := l) hok'.2 h' r hr
 | (t0, .arr i) :: l, xs, hok, h, r, hr => by
  have hok' : (Nat.blt i rs.length && okS rs.length l) = true := hok
  rw [y144] at hok'
  have h' : (bif Nat.beq t0 t then some (V.hs ⟨base + i, []⟩ 0 (q83 rs ys i) true) else get t (q72 rs ys base l xs)) = some v := h
  cases e : Nat.beq t0 t with
  | true =>
   rw [e] at h'
   injection h' with h'; subst h'
   simp [q24, q31, q37] at hr
   subst hr
   have : i < rs.length := by simpa [Nat.blt_eq] using hok'.1
   exact ⟨Nat.le_add_right _ _, Nat.add_lt_add_left this _⟩
  | false => rw [e] at h'; exact q67 (l := l) hok'.2 h' r hr
 | (t0, .arz i) :: l, xs, hok, h, r, hr => by
  have hok' : (Nat.blt i rs.length && okS rs.length l) = true := hok
  rw [y144] at hok'
  have h' : (bif Nat.beq t0 t then some (V.hz (base + i) (q83 rs ys i)) else get t (q72 rs ys base l xs)) = some v := h
  cases e : Nat.beq t0 t with
  | true =>
   rw [e] at h'
   injection h' with h'; subst h'
   simp [q24, q31, q37] at hr
   subst hr
   have : i < rs.length := by simpa [Nat.blt_eq] using hok'.1
   exact ⟨Nat.le_add_right _ _, by show base + i < _; omega⟩
  | false => rw [e] at h'; exact q67 (l := l) hok'.2 h' r hr
 | (t0, .map i) :: l, xs, hok, h, r, hr => by
  have hok' : (Nat.blt i rs.length && okS rs.length l) = true := hok
  rw [y144] at hok'
  have h' : (bif Nat.beq t0 t then some (V.hm ⟨base + i, []⟩) else get t (q72 rs ys base l xs)) = some v := h
  cases e : Nat.beq t0 t with
  | true =>
   rw [e] at h'
   injection h' with h'; subst h'
   simp [q24, q31, q37] at hr
   subst hr
   have : i < rs.length := by simpa [Nat.blt_eq] using hok'.1
   exact ⟨Nat.le_add_right _ _, by show base + i < _; omega⟩
  | false => rw [e] at h'; exact q67 (l := l) hok'.2 h' r hr
 | (t0, .fn g is) :: l, xs, hok, h, r, hr => by
  have hok' : (is.all (fun i => Nat.blt i rs.length) && okS rs.length l) = true := hok
  rw [y144, List.all_eq_true] at hok'
  have h' : (bif Nat.beq t0 t then some (V.fn g (q413 base is)) else get t (q72 rs ys base l xs)) = some v := h
  cases e : Nat.beq t0 t with
  | true =>
   rw [e] at h'
   injection h' with h'; subst h'
   have hr' : r ∈ (q413 base is).flatMap q37 := hr
   have go : ∀ is : List Nat, (∀ i ∈ is, Nat.blt i rs.length = true) -> r ∈ (q413 base is).flatMap q37 -> base <= r.root /\ r.root < base + rs.length := by
    intro is
    induction is with
    | nil => intro _ h; cases h
    | cons i is ih =>
     intro hi h
     rcases y151.1 (show r ∈ ([⟨base + i, []⟩] : List Ref) ++ (q413 base is).flatMap q37 from h) with h | h
     ·rw [y161.1 h]
      have : i < rs.length := by simpa [Nat.blt_eq] using hi i (by simp)
      exact ⟨Nat.le_add_right _ _, by show base + i < _; omega⟩
     ·exact ih (fun j hj => hi j (by simp [hj])) h
   exact go is hok'.1 hr'
  | false => rw [e] at h'; exact q67 (l := l) hok'.2 h' r hr
theorem q440 {C : Ctx} {l l' : List Nat} (t : Nat) (h : Wr C l t) : Wr C (l ++ l') t := ⟨y151.2 (.inl h.1), h.2⟩
theorem q412 {C : Ctx} {l l' : List Nat} (t : Nat) (h : Wr C l' t) : Wr C (l ++ l') t := ⟨y151.2 (.inr h.1), h.2⟩
theorem PS.sr {C : Ctx} {p : Patt} {x : p.den} {w : World} {E : Bs} {a : Act} {F : Bs} (h : PS C p x w E a F) (base : Nat) : ∃ β Gk, SR C w E β (p.build base x) a F Gk := by
 obtain ⟨β, Gk, hf⟩ := h.2 base
 refine ⟨β, Gk, hf, fun q hq => ?_, fun t v hv r hr => (q67 h.1 hv r hr).2⟩
 have hq' : get q (q111 base p.roots x.2) ≠ none := hq
 rw [q78] at hq'
 split at hq'
 ·rename_i hle
  cases hr : q120 p.roots x.2 (q - base) with
  | none => rw [hr] at hq'; exact absurd rfl hq'
  | some o =>
   have := q466 hr
   show q < base + p.roots.length
   omega
 ·exact absurd rfl hq'
section
variable {P : Program} {C : Ctx} {k : Nat}
theorem q729 {S : St} {w w' : World} {E F F' F1 : Bs} {β : Nat -> Option (Nat × Nat)} {Gk : Nat -> Bs} {a a' : Act} {m : RMap} {ds : List Nat} {p : Patt} {x : p.den}
  (h : SR C w E β S a F Gk) (hF1 : ∀ b, F1 b -> F b) (hstep : Step (Wr C ds) w (Ein E S.ob Gk m) F1 a w' F' a') (hp : PS C p x w' (Ein E S.ob Gk m) a' F') :
  ∃ β' Gk', SR C w' E β' ⟨(p.build S.nx x).tm ++ q125 ds m S.tm, (p.build S.nx x).ob ++ q101 m S.ob, (p.build S.nx x).nx⟩ a' F' Gk' := by
 obtain ⟨β1, Gk1, hs1⟩ := hp.sr S.nx
 have hlow : ∀ q, q < S.nx -> get q (q111 S.nx p.roots x.2) = none := fun q hq => by rw [q78, if_neg (by omega)]
 have hob : ∀ q, get q ((p.build S.nx x).ob ++ q101 m S.ob) = if S.nx <= q then get q (q111 S.nx p.roots x.2) else (if q ∈ q108 m then none else get q S.ob) := by
  intro q
  rw [q212, show (p.build S.nx x).ob = q111 S.nx p.roots x.2 from rfl, q289]
  by_cases e : S.nx <= q
  ·rw [if_pos e]
   have hn : get q S.ob = none := by
    cases hg : get q S.ob with
    | none => rfl
    | some o => have := h.kl q (by rw [hg]; exact fun e => by cases e); omega
   rw [hn]
   cases get q (q111 S.nx p.roots x.2) with
   | some o => rfl
   | none => simp
  ·rw [if_neg e, hlow q (by omega)]
 let β2 : Nat -> Option (Nat × Nat) := fun q => if S.nx <= q then β1 q else β q
 let Gk2 : Nat -> Bs := fun q => if S.nx <= q then Gk1 q else Gk q
 have hst0 : ∀ G : Bs, (∀ b, G b -> Ein E S.ob Gk m b) -> Stay w F w' F' G := fun G hG => ⟨hstep.stay.size, fun b hb => hstep.keepE b (hG b hb), fun b hb hlt => hstep.stay.out b (fun h' => hb (hF1 b h')) hlt, fun b hb => (hstep.stay.less b hb).imp (hF1 b) id⟩
 have hEin : ∀ q o, get q S.ob = some o -> q ∉ q108 m -> ∀ b, Gk q b -> Ein E S.ob Gk m b := fun q o hq hn b hb => .inr ⟨q, o, hq, hn, hb⟩
 have old : ∀ q o, ¬ S.nx <= q -> get q ((p.build S.nx x).ob ++ q101 m S.ob) = some o -> q ∉ q108 m /\ get q S.ob = some o := by
  intro q o hq hg
  rw [hob, if_neg hq] at hg
  split at hg
  ·cases hg
  ·exact ⟨‹_›, hg⟩
 have new : ∀ q o, S.nx <= q -> get q ((p.build S.nx x).ob ++ q101 m S.ob) = some o -> get q (p.build S.nx x).ob = some o := by
  intro q o hq hg
  rw [hob, if_pos hq] at hg
  exact hg
 refine ⟨β2, Gk2, ⟨fun t v hv => ?_, ⟨fun q o hq => ?_, fun q q' o o' hq hq' hne => ?_, fun b => ?_, fun q o hq => ?_, fun b hb => Nat.lt_of_lt_of_le (h.fr.ob.elt b hb) hstep.stay.size⟩, hs1.fr.nt⟩, fun q hq => ?_, fun t v hv r hr => ?_⟩
 ·have hv' : get t ((p.build S.nx x).tm ++ q125 ds m S.tm) = some v := hv
  rw [q212] at hv'
  cases hg : get t (p.build S.nx x).tm with
  | some y =>
   rw [hg] at hv'
   injection hv' with hv'; subst hv'
   obtain ⟨u, hu, hvr⟩ := hs1.fr.tm t y hg
   refine ⟨u, hu, hvr.keep (Stay.refl w' F' _) fun r hr => ?_⟩
   have hr' := (q67 hp.1 hg r hr).1
   intro o' loc hl
   refine ⟨o', ?_, Ob.like.refl o', fun _ _ _ row hr => ⟨row, hr, rfl⟩⟩
   unfold q34 at hl ⊢
   rw [show get r.root ((p.build S.nx x).ob ++ q101 m S.ob) = get r.root (p.build S.nx x).ob from by rw [hob, if_pos hr']; rfl] at hl
   have e : β2 r.root = β1 r.root := if_pos hr'
   rw [e] at hl
   exact hl
  | none =>
   rw [hg] at hv'
   obtain ⟨ht, v0, hg0, hv0⟩ := q219 (show get t (q125 ds m S.tm) = some v from hv')
   obtain ⟨u, hu, hvr⟩ := h.fr.tm t v0 hg0
   refine ⟨u, by rw [hstep.same t fun hw => ht hw.1]; exact hu, ?_⟩
   rcases hv0 with e | ⟨e, hm⟩
   ·subst e; exact VR.undef
   ·subst e
    refine hvr.keep (hst0 _ fun _ h => h.elim) fun r hr => ?_
    have hrl := h.rl t v hg0 r hr
    have hrm := q368 hm r hr
    refine q46.of_stay (FA' := F') h.fr.ob.a (if_neg (by omega)) ?_ fun o ho => hst0 _ (hEin _ o ho hrm)
    rw [hob, if_neg (by omega), if_neg hrm]
 ·by_cases e : S.nx <= q
  ·show ObR w' F' o (β2 q) (Gk2 q)
   rw [show β2 q = β1 q from if_pos e, show Gk2 q = Gk1 q from if_pos e]
   exact hs1.fr.ob.rel q o (new q o e hq)
  ·obtain ⟨h1, h2⟩ := old q o e hq
   show ObR w' F' o (β2 q) (Gk2 q)
   rw [show β2 q = β q from if_neg e, show Gk2 q = Gk q from if_neg e]
   exact (h.fr.ob.rel q o h2).keep (hst0 _ (hEin q o h2 h1))
 ·show Dj (Gk2 q) (Gk2 q')
  by_cases e : S.nx <= q <;> by_cases e' : S.nx <= q'
  ·rw [show Gk2 q = Gk1 q from if_pos e, show Gk2 q' = Gk1 q' from if_pos e']
   exact hs1.fr.ob.dj q q' o o' (new q o e hq) (new q' o' e' hq') hne
  ·obtain ⟨h1, h2⟩ := old q' o' e' hq'
   rw [show Gk2 q = Gk1 q from if_pos e, show Gk2 q' = Gk q' from if_neg e']
   exact fun b hb hb' => hs1.fr.ob.out q o (new q o e hq) b hb (hEin q' o' h2 h1 b hb')
  ·obtain ⟨h1, h2⟩ := old q o e hq
   rw [show Gk2 q = Gk q from if_neg e, show Gk2 q' = Gk1 q' from if_pos e']
   exact fun b hb hb' => hs1.fr.ob.out q' o' (new q' o' e' hq') b hb' (hEin q o h2 h1 b hb)
  ·rw [show Gk2 q = Gk q from if_neg e, show Gk2 q' = Gk q' from if_neg e']
   exact h.fr.ob.dj q q' o o' (old q o e hq).2 (old q' o' e' hq').2 hne
 ·rw [hs1.fr.ob.cov b]
  constructor
  ·rintro ((hb | ⟨q, o, hq, hn, hb⟩) | ⟨q, o, hq, hb⟩)
   ·exact .inl hb
   ·have hlt : ¬ S.nx <= q := by have := h.kl q (by rw [hq]; exact fun e => by cases e); omega
    refine .inr ⟨q, o, ?_, ?_⟩
    ·show get q ((p.build S.nx x).ob ++ q101 m S.ob) = _
     rw [hob, if_neg hlt, if_neg hn]; exact hq
    ·show Gk2 q b; rw [show Gk2 q = Gk q from if_neg hlt]; exact hb
   ·have hq' : get q (q111 S.nx p.roots x.2) = some o := hq
    have hge : S.nx <= q := y146 fun hn => by rw [hlow q (by omega)] at hq'; cases hq'
    refine .inr ⟨q, o, ?_, ?_⟩
    ·show get q ((p.build S.nx x).ob ++ q101 m S.ob) = _
     rw [hob, if_pos hge]; exact hq'
    ·show Gk2 q b; rw [show Gk2 q = Gk1 q from if_pos hge]; exact hb
  ·rintro (hb | ⟨q, o, hq, hb⟩)
   ·exact .inl (.inl hb)
   ·have hb' : Gk2 q b := hb
    by_cases e : S.nx <= q
    ·rw [show Gk2 q = Gk1 q from if_pos e] at hb'
     exact .inr ⟨q, o, new q o e hq, hb'⟩
    ·obtain ⟨h1, h2⟩ := old q o e hq
     rw [show Gk2 q = Gk q from if_neg e] at hb'
     exact .inl (hEin q o h2 h1 b hb')
 ·show Dj (Gk2 q) E
  by_cases e : S.nx <= q
  ·rw [show Gk2 q = Gk1 q from if_pos e]
   exact fun b hb hE => hs1.fr.ob.out q o (new q o e hq) b hb (.inl hE)
  ·rw [show Gk2 q = Gk q from if_neg e]
   exact h.fr.ob.out q o (old q o e hq).2
 ·show q < S.nx + p.roots.length
  by_cases e : S.nx <= q
  ·cases hg : get q ((p.build S.nx x).ob ++ q101 m S.ob) with
   | none => exact absurd hg hq
   | some o => exact hs1.kl q (by rw [new q o e hg]; exact fun e => by cases e)
  ·omega
 ·show r.root < S.nx + p.roots.length
  have hv' : get t ((p.build S.nx x).tm ++ q125 ds m S.tm) = some v := hv
  rw [q212] at hv'
  cases hg : get t (p.build S.nx x).tm with
  | some y =>
   rw [hg] at hv'
   injection hv' with hv'; subst hv'
   exact (q67 hp.1 hg r hr).2
  | none =>
   rw [hg] at hv'
   obtain ⟨ht, v0, hg0, hv0⟩ := q219 (show get t (q125 ds m S.tm) = some v from hv')
   rcases hv0 with e | ⟨e, hm⟩
   ·subst e; cases hr
   ·subst e
    have := h.rl t v hg0 r hr
    omega
theorem q161 {R : Type} (hmix : P.follows .mixedOrders = true) (hT : q81 P C) (hE : q26 P C) {L : List (LC R)} : ∀ (c : Code) (n : Nat) {S : St} {K : Exit -> St -> Option R} {r : R}, Lok P C L c n -> ev C k L c n S K = some r ->
  ∀ {w : World} {E : Bs} {β : Nat -> Option (Nat × Nat)} {a : Act} {F : Bs} {Gk : Nat -> Bs}, SR C w E β S a F Gk -> ∀ Q : Exit -> Act -> World -> Prop,
  (∀ e S' w' β' F' Gk' a', K e S' = some r -> SR C w' E β' S' a' F' Gk' -> Step (Wr C (dsts c)) w E F a w' F' a' -> Q e a' w') -> c.wp P Q a w
 | .skip, n, S, K, r, hL, h, w, E, β, a, F, Gk, hs, Q, hQ => wp_skip (hQ .normal S w β F Gk a h hs Step.refl)
 | .exit id, n, S, K, r, hL, h, w, E, β, a, F, Gk, hs, Q, hQ => wp_exit (hQ (.exit id) S w β F Gk a h hs Step.refl)
 | .ret, n, S, K, r, hL, h, w, E, β, a, F, Gk, hs, Q, hQ => wp_ret (hQ .ret S w β F Gk a h hs Step.refl)
 | .region id ops false, n, S, K, r, hL, h, w, E, β, a, F, Gk, hs, Q, hQ => by
  have h' : q62 C k ops false [] S.nx ops.toList 0 [] S.tm S.ob (fun S' => K .normal S') = some r := h
  exact wp_region_list (q293 hT hE ops.toList 0 (by simp) h' hs.fr (by simpa using hs.kl) (by simpa using hs.rl) Q fun S' w' β' F' Gk' a' hK hS hst => hQ .normal S' w' β' F' Gk' a' hK hS hst)
 | .region id ops true, n, S, K, r, hL, h, w, E, β, a, F, Gk, hs, Q, hQ => by
  have h' : (bif q244 ops (q53 ops) then q62 C k ops true (q53 ops) S.nx ops.toList 0 [] S.tm S.ob (fun S' => K .normal S') else none) = some r := h
  cases hsl : q244 ops (q53 ops) with
  | false => rw [hsl] at h'; cases h'
  | true =>
   rw [hsl] at h'
   exact q614 hmix hT hE hsl h' hs.fr hs.kl hs.rl fun S' w' β' F' Gk' a' hK hS hst => hQ .normal S' w' β' F' Gk' a' hK hS hst
 | .seq x y, n, S, K, r, hL, h, w, E, β, a, F, Gk, hs, Q, hQ => by
  have h' : ev C k L x n S (fun
   | .normal, S' => match q622 y L with
    | none => ev C k L y (n + loops x) S' K
    | some lc => match lc.inn.mtch S' with
     | some (z, m) => lc.run z fun o => match q151 lc.outs S'.nx o with
      | (e, T) => K e.exit ⟨T.tm ++ q125 (dsts y) m S'.tm, T.ob ++ q101 m S'.ob, T.nx⟩
     | none => none
   | e, S' => K e S') = some r := h
  have hLx : Lok P C L x n := ⟨fun i c' lc hi hf => hL.loop i c' lc (by
   show (bif Nat.blt i (loops x) then q58 x i else q58 y (i - loops x)) = some c'
   rw [show Nat.blt i (loops x) = true from by simpa [Nat.blt_eq] using q112 hi]; exact hi) hf, fun b hb => hL.join b (y155 _ (List.mem_append_left _ hb))⟩
  have hLy : Lok P C L y (n + loops x) := ⟨fun i c' lc hi hf => hL.loop (loops x + i) c' lc (by
   show (bif Nat.blt (loops x + i) (loops x) then q58 x (loops x + i) else q58 y (loops x + i - loops x)) = some c'
   rw [show Nat.blt (loops x + i) (loops x) = false from by
    cases hb : Nat.blt (loops x + i) (loops x) with
    | false => rfl
    | true =>
         have : loops x + i < loops x := by simpa [Nat.blt_eq] using hb
         omega, y163]; exact hi) (by rw [<- Nat.add_assoc]; exact hf), fun b hb => hL.join b (y155 _ (List.mem_append_right _ hb))⟩
  refine wp_seq (q161 hmix hT hE x n hLx h' hs _ fun e S' w' β' F' Gk' a' hK hS hst => ?_)
  cases e with
  | normal =>
   have hK' : (match q622 y L with
    | none => ev C k L y (n + loops x) S' K
    | some lc => match lc.inn.mtch S' with
     | some (z, m) => lc.run z fun o => match q151 lc.outs S'.nx o with
      | (e, T) => K e.exit ⟨T.tm ++ q125 (dsts y) m S'.tm, T.ob ++ q101 m S'.ob, T.nx⟩
     | none => none) = some r := hK
   split at hK'
   ·exact q161 hmix hT hE y (n + loops x) hLy hK' hS Q fun e S2 w2 β2 F2 Gk2 a2 hK2 hS2 hst2 => hQ e S2 w2 β2 F2 Gk2 a2 hK2 hS2 (hst.trans hst2 q440 q412)
   ·rename_i lc hlc
    split at hK'
    ·rename_i z m hm
     obtain ⟨F1, hF1, hps⟩ := q343 hS.fr hm
     refine hL.join y (y169) lc hlc z _ r hK' w' _ a' F1 hps Q fun o w2 a2 F2 e hKe hout hst2 => ?_
     rw [q183] at hKe
     obtain ⟨β2, Gk2, hsr⟩ := q729 hS hF1 hst2 hout.2
     have := hQ _ _ w2 β2 F2 Gk2 a2 hKe hsr (hst.trans (hst2.narrow (fun b hb => .inl hb) hF1) q440 q412)
     rw [hout.1]
     exact this
    ·cases hK'
  | _ => exact hQ _ S' w' β' F' Gk' a' hK hS (hst.trans Step.refl q440 (ds' := fun _ => False) fun _ h => h.elim)
 | .cond x c1 c2, n, S, K, r, hL, h, w, E, β, a, F, Gk, hs, Q, hQ => by
  have h' : (match opnd S.tm x with
   | .bool x => bif x then ev C k L c1 n S K else ev C k L c2 (n + loops c1) S K
   | _ => none) = some r := h
  have hL1 : Lok P C L c1 n := ⟨fun i c' lc hi hf => hL.loop i c' lc (by
   show (bif Nat.blt i (loops c1) then q58 c1 i else q58 c2 (i - loops c1)) = some c'
   rw [show Nat.blt i (loops c1) = true from by simpa [Nat.blt_eq] using q112 hi]; exact hi) hf, fun b hb => hL.join b (List.mem_append_left _ hb)⟩
  have hL2 : Lok P C L c2 (n + loops c1) := ⟨fun i c' lc hi hf => hL.loop (loops c1 + i) c' lc (by
   show (bif Nat.blt (loops c1 + i) (loops c1) then q58 c1 (loops c1 + i) else q58 c2 (loops c1 + i - loops c1)) = some c'
   rw [show Nat.blt (loops c1 + i) (loops c1) = false from by
    cases hb : Nat.blt (loops c1 + i) (loops c1) with
    | false => rfl
    | true =>
         have : loops c1 + i < loops c1 := by simpa [Nat.blt_eq] using hb
         omega, y163]; exact hi) (by rw [<- Nat.add_assoc]; exact hf), fun b hb => hL.join b (List.mem_append_right _ hb)⟩
  split at h'
  ·rename_i b hb
   have hx := q30 hs.fr x
   rw [hb] at hx
   refine wp_cond (q55 hx) ?_
   cases b with
   | true => exact q161 hmix hT hE c1 n hL1 h' hs Q fun e S2 w2 β2 F2 Gk2 a2 hK2 hS2 hst2 => hQ e S2 w2 β2 F2 Gk2 a2 hK2 hS2 (hst2.trans Step.refl q440 (ds' := fun _ => False) fun _ h => h.elim)
   | false => exact q161 hmix hT hE c2 _ hL2 h' hs Q fun e S2 w2 β2 F2 Gk2 a2 hK2 hS2 hst2 => hQ e S2 w2 β2 F2 Gk2 a2 hK2 hS2 (hst2.trans Step.refl q412 (ds' := fun _ => False) fun _ h => h.elim)
  ·cases h'
 | .block id c, n, S, K, r, hL, h, w, E, β, a, F, Gk, hs, Q, hQ => by
  have h' : ev C k L c n S (fun
   | .exit id', S' => bif Nat.beq id' id then K .normal S' else K (.exit id') S'
   | e, S' => K e S') = some r := h
  refine wp_block (q161 hmix hT hE c n ⟨fun i c' lc hi hf => hL.loop i c' lc hi hf, fun b hb => hL.join b hb⟩ h' hs _ fun e S' w' β' F' Gk' a' hK hS hst => ?_)
  cases e with
  | exit id' =>
   have hK' : (bif Nat.beq id' id then K .normal S' else K (.exit id') S') = some r := hK
   show if id' = id then Q .normal a' w' else Q (.exit id') a' w'
   by_cases e : id' = id
   ·rw [if_pos e]
    rw [show Nat.beq id' id = true from by rw [e]; exact Nat.beq_refl _] at hK'
    exact hQ .normal S' w' β' F' Gk' a' hK' hS hst
   ·rw [if_neg e]
    rw [show Nat.beq id' id = false from by cases h : Nat.beq id' id with | true => exact absurd (y143 h) e | false => rfl] at hK'
    exact hQ _ S' w' β' F' Gk' a' hK' hS hst
  | _ => exact hQ _ S' w' β' F' Gk' a' hK hS hst
 | .loop c, n, S, K, r, hL, h, w, E, β, a, F, Gk, hs, Q, hQ => by
  have h' : (match q389 (2 * n) L with
   | some lc => match lc.inn.mtch S with
    | some (x, m) => lc.run x fun y => match q151 lc.outs S.nx y with
     | (e, T) => K e.exit ⟨T.tm ++ q125 (dsts c) m S.tm, T.ob ++ q101 m S.ob, T.nx⟩
    | none => none
   | none => none) = some r := h
  split at h'
  ·rename_i lc hlc
   split at h'
   ·rename_i x m hm
    obtain ⟨F1, hF1, hps⟩ := q343 hs.fr hm
    refine hL.loop 0 c lc rfl hlc x _ r h' w _ a F1 hps Q fun y w' a' F' e hKe hout hst => ?_
    rw [q183] at hKe
    obtain ⟨β', Gk', hsr⟩ := q729 hs hF1 hst hout.2
    have := hQ _ _ w' β' F' Gk' a' hKe hsr (hst.narrow (fun b hb => .inl hb) hF1)
    rw [hout.1]
    exact this
   ·cases h'
  ·cases h'
 | .scope c, n, S, K, r, hL, h, w, E, β, a, F, Gk, hs, Q, hQ => by cases h
 | .rangeFunc .., n, S, K, r, hL, h, w, E, β, a, F, Gk, hs, Q, hQ => by cases h
 | .goto _, n, S, K, r, hL, h, w, E, β, a, F, Gk, hs, Q, hQ => by cases h
 | .label _, n, S, K, r, hL, h, w, E, β, a, F, Gk, hs, Q, hQ => by cases h
theorem q14 {R : Type} (hmix : P.follows .mixedOrders = true) (hT : q81 P C) (hE : q26 P C) {L : List (LC R)} {inn : Patt} {outs : List (EX × Patt)} {c : Code} {n : Nat} (hL : Lok P C L c n)
  (f : Nat -> inn.den -> (Outs outs -> Option R) -> Option R) (h0 : ∀ x e, f 0 x e = none) (h1 : ∀ j x e, f (j + 1) x e = q27 C k L inn outs c n x (fun x => f j x e) e) (at_ j : Nat) : LCs P C (.loop c) ⟨at_, inn, outs, f j⟩ := by
 intro x Ke r hr w E a F hps Q hQ
 refine wp_loop_rounds j ?_
 have main : ∀ (j : Nat) (x : inn.den) (w1 : World) (E1 : Bs) (a1 : Act) (F1 : Bs), f j x Ke = some r -> PS C inn x w1 E1 a1 F1 -> (∀ b, E b -> E1 b) -> Step (Wr C (dsts c)) w E F a w1 F1 a1 -> Code.rounds P c Q j a1 w1 := by
  intro j
  induction j with
  | zero => intro x w1 E1 a1 F1 h _ _ _; rw [h0] at h; cases h
  | succ j ih =>
   intro x w1 E1 a1 F1 h hps hE1 hst
   rw [h1] at h
   obtain ⟨β, Gk, hs⟩ := hps.sr 0
   rw [rounds_succ]
   have h' : ev C k L c n (inn.build 0 x) (fun
    | .normal, S => match inn.mtch S with
     | some (x', _) => f j x' Ke
     | none => none
    | e, S => match EX.of e with
     | some e => match q140 outs e S with
      | some y => Ke y
      | none => none
     | none => none) = some r := h
   have way : ∀ e S' w' β' F' Gk' a', (match EX.of e with
     | some e => match q140 outs e S' with
      | some y => Ke y
      | none => none
     | none => none) = some r -> SR C w' E1 β' S' a' F' Gk' -> Step (Wr C (dsts c)) w1 E1 F1 a1 w' F' a' -> Q e a' w' := by
    intro e S' w' β' F' Gk' a' hK hS hst2
    split at hK
    ·rename_i ex hex
     split at hK
     ·rename_i y hy
      obtain ⟨e1, m, hm⟩ := q193 hy
      obtain ⟨F2, hF2, hps2⟩ := q343 hS.fr hm
      obtain ⟨F3, hF3, hps3⟩ := hps2.forget (E := E) fun b hb => .inl (hE1 b hb)
      refine hQ y w' a' F3 e hK ⟨by rw [e1]; exact (EX.of_exit hex).symm, hps3⟩ ((hst.trans (hst2.narrow hE1 fun _ h => h) (fun _ h => h) fun _ h => h).less fun b hb => hF2 b (hF3 b hb))
     ·cases hK
    ·cases hK
   refine q161 hmix hT hE c n hL h' hs _ fun e S' w' β' F' Gk' a' hK hS hst2 => ?_
   cases e with
   | normal =>
    have hK' : (match inn.mtch S' with
     | some (x', _) => f j x' Ke
     | none => none) = some r := hK
    split at hK'
    ·rename_i x' m hm
     obtain ⟨F2, hF2, hps2⟩ := q343 hS.fr hm
     exact ih x' w' _ a' F2 hK' hps2 (fun b hb => .inl (hE1 b hb)) ((hst.trans (hst2.narrow hE1 fun _ h => h) (fun _ h => h) fun _ h => h).less hF2)
    ·cases hK'
   | _ => exact way _ S' w' β' F' Gk' a' hK hS hst2
 exact main j x w E a F hr hps (fun _ h => h) Step.refl
theorem q77 {R : Type} (hmix : P.follows .mixedOrders = true) (hT : q81 P C) (hE : q26 P C) {L : List (LC R)} {inn : Patt} {outs : List (EX × Patt)} {c : Code} {n : Nat} (hL : Lok P C L c n)
  (f : inn.den -> (Outs outs -> Option R) -> Option R) (h1 : ∀ x e, f x e = q230 C k L inn outs c n x e) (at_ : Nat) : LCs P C c ⟨at_, inn, outs, f⟩ := by
 intro x Ke r hr w E a F hps Q hQ
 have h : f x Ke = some r := hr
 rw [h1] at h
 obtain ⟨β, Gk, hs⟩ := hps.sr 0
 refine q161 hmix hT hE c n hL h hs _ fun e S' w' β' F' Gk' a' hK hS hst2 => ?_
 split at hK
 ·rename_i ex hex
  split at hK
  ·rename_i y hy
   obtain ⟨e1, m, hm⟩ := q193 hy
   obtain ⟨F2, hF2, hps2⟩ := q343 hS.fr hm
   obtain ⟨F3, hF3, hps3⟩ := hps2.forget (E := E) fun b hb => .inl hb
   exact hQ y w' a' F3 e hK ⟨by rw [e1]; exact (EX.of_exit hex).symm, hps3⟩ (hst2.less fun b hb => hF2 b (hF3 b hb))
  ·cases hK
 ·cases hK
end
end Go.Lf
namespace Go.Lf
section
variable {P : Program} {C : Ctx} {w : World} {E : Bs} {β : Nat -> Option (Nat × Nat)}
theorem q606 {u : Value} {ad : Addr} {t : TypeId} {d : TypeDesc} (hu : P.underlying t = some d) (hd : q89 d = false) (hc : w.cell? ad = some u) :
  (loadVar t ad).run P w = .ok u w := by
 have : (isAgg t).run P w = .ok false w := by cases d <;> simp_all [isAgg, run_underlying hu, q89]
 simp [loadVar, this, run_load, hc]
theorem q648 {b o n : Nat} {row : Array Value} {t : TypeId} {d : TypeDesc} {inf : TypeInfo} (hu : P.underlying t = some d) (hd : q89 d = true) (hi : P.info? t = some inf) (hn : inf.size = n)
  (hr : RowS w b row) (hs : o + n <= row.size) : (loadVar t ⟨b, o, none⟩).run P w = .ok (.agg (seg row o n).toArray) w := by
 have : (isAgg t).run P w = .ok true w := by cases d <;> simp_all [isAgg, run_underlying hu, q89]
 simp [loadVar, this, sizeOf, typeInfo, hi, hn, q323 hr hs]
def q355 (tmps : Array Value) : ResultVar -> Sem Value
 | .tmp t => pure (tmps.getD t undef)
 | .cell a t => do loadVar t (<- asAddr (tmps.getD a undef))
theorem q541 {fn : Func} {tmps : Array Value} {us : List Value} (h : All2 (fun v u => (q355 tmps v).run P w = .ok u w) fn.results.toList us) : (results fn tmps).run P w = .ok (pack us) w := by
 have go : ∀ (l : List ResultVar) (us : List Value), All2 (fun v u => (q355 tmps v).run P w = .ok u w) l us -> (l.mapM (q355 tmps)).run P w = .ok us w := by
  intro l us h
  induction h with
  | nil => rfl
  | cons h _ ih => simp only [List.mapM_cons, Sem.run_bind, h, Result.andThen, ih]; rfl
 have e : results fn tmps = (do
   let vs <- fn.results.mapM (q355 tmps)
   pure (if h : vs.size = 1 then vs[0] else .tuple vs)) := by
  unfold results
  congr 1
 rw [e, Array.mapM_eq_mapM_toList]
 simp only [Sem.run_bind, Sem.run_map, go _ _ h]
 rfl
theorem q710 {F : Bs} {τ : Ty} {x : τ.den} {u : Value} {G : Bs} (h : LR w F τ x [u] G) (hA : τ.isA = false) : ¬ ∃ us, u = .agg us := by
 rintro ⟨us, e⟩
 subst e
 cases τ with
 | int k => have := h.1; injection this with this; cases this
 | bool => have := h.1; injection this with this; cases this
 | sl a => obtain ⟨_, ad, cap, hc, _⟩ := h; injection hc with hc; cases hc
 | ow a => obtain ⟨u, hc, ⟨ad, cap, hu, _⟩, _⟩ := h; injection hc with hc; subst hc; cases hu
 | bx a => obtain ⟨b, row, G', hc, _⟩ := h; injection hc with hc; cases hc
 | mp a => obtain ⟨b, hc, _⟩ := h; injection hc with hc; cases hc
 | pair => cases hA
 | unit => cases hA
theorem q411 {R : Type} (hT : q81 P C) {a : Act} : ∀ (rs : List Ty) {f : List ResultVar} {tm : List (Nat × V)} {obs : List (Nat × Ob)} {K : Tys rs -> List (Nat × Ob) -> Option R} {r : R} {FA F : Bs} {Gk : Nat -> Bs},
  (∀ t v, get t tm = some v -> ∃ u, a.tmps[t]? = some u /\ VR w β obs FA v u) -> ObsA w E FA F β obs Gk -> (∀ b, F b -> FA b) -> q157 C f rs tm obs K = some r ->
  ∃ ys obs' FA1 F1 G Gk1 us, K ys obs' = some r /\ Took w E β FA F obs FA1 F1 G obs' Gk1 /\ ResR w FA1 rs ys us G /\ All2 (fun v u => (q355 a.tmps v).run P w = .ok u w) f us
 | [], f, tm, obs, K, r, FA, F, Gk, htm, hob, hF, h => by
  unfold q157 at h
  split at h
  ·exact ⟨(), obs, FA, F, fun _ => False, Gk, [], h, Took.refl hob, ⟨rfl, fun _ h => h⟩, .nil⟩
  ·cases h
 | τ :: rs, f, tm, obs, K, r, FA, F, Gk, htm, hob, hF, h => by
  unfold q157 at h
  have next : ∀ (f' : List ResultVar) (v : ResultVar) (u : Value) (x : τ.den) (obs1 : List (Nat × Ob)) (FA1 F1 G1 : Bs) (Gk1 : Nat -> Bs), f = v :: f' -> Took w E β FA F obs FA1 F1 G1 obs1 Gk1 -> ValR w FA1 τ x u G1 -> (q355 a.tmps v).run P w = .ok u w ->
    q157 C f' rs tm obs1 (fun xs obs' => K (x, xs) obs') = some r ->
    ∃ ys obs' FA1 F1 G Gk1 us, K ys obs' = some r /\ Took w E β FA F obs FA1 F1 G obs' Gk1 /\ ResR w FA1 (τ :: rs) ys us G /\ All2 (fun v u => (q355 a.tmps v).run P w = .ok u w) f us := by
   intro f' v u x obs1 FA1 F1 G1 Gk1 hf htook hval hrun hk
   have hF1 : ∀ b, F1 b -> FA1 b := fun b hb => y146 fun hn => (htook.lost b (hF b (htook.less b hb)) hn).2.1 hb
   obtain ⟨ys, obs', FA2, F2, G2, Gk2, us, hk2, htook2, hres, hall⟩ := q411 hT rs (fun t y hy => by
    obtain ⟨u', hu', hvr⟩ := htm t y hy
    exact ⟨u', hu', hvr.keep (htook.stay _) fun r _ => htook.keep r⟩) htook.ob hF1 hk
   subst hf
   exact ⟨(x, ys), obs', FA2, F2, _, Gk2, u :: us, hk2, htook.trans htook2, ⟨u, us, G1, G2, rfl, ⟨hval.1.sub htook2.sub, hval.2⟩, hres, htook.djG htook2, fun n => Iff.rfl⟩, .cons hrun hall⟩
  split at h
  ·rename_i t f'
   split at h
   ·rename_i v hg
    cases hl : q251 τ v with
    | false => rw [hl] at h; cases h
    | true =>
     rw [hl] at h
     simp only [cond] at h
     obtain ⟨u, hu, hvr⟩ : ∃ u, a.tmps[t]? = some u /\ VR w β obs FA v u := by
      unfold getU at hg
      split at hg
      ·rename_i v0 h0
       injection hg with hg; subst hg
       obtain ⟨u, hu, hv⟩ := htm t v0 h0
       exact ⟨u, hu, q741 hv⟩
      ·cases hg
     have hnu : v ≠ .undef := by intro e; subst e; cases h
     have hall := q310 hvr h
     obtain ⟨vs, d, FA1, F1, G, Gk1, hk, _, htook, hls, _, _⟩ := q185 _ hob hF hall h
     split at hk
     ·rename_i x hx
      obtain ⟨G1, hs1, H⟩ := q49 hx hls
      have htook' := htook.drop hs1
      refine next f' (.tmp t) u x _ _ _ _ _ rfl htook' ⟨H _ (fun b hb => hb.1) (fun b hb hn hf => hn (hf.2 hb)), q285 hl hvr hnu⟩ ?_ hk
      have : a.tmps.getD t undef = u := by rw [Array.getD_eq_getD_getElem?, hu]; rfl
      simp only [q355, this]
      rfl
     ·cases hk
   ·cases h
  ·rename_i c t f'
   split at h
   ·rename_i i q hi hg
    obtain ⟨u, hu, ad, had, hpl⟩ := htm c _ hg
    split at h
    ·rename_i t' fs hq
     cases hc : Nat.beq fs.length i.size && q228 i.k τ with
     | false => rw [hc] at h; cases h
     | true =>
      rw [hc] at h
      simp only [cond] at h
      rw [y144] at hc
      split at h
      ·rename_i x hx
       obtain ⟨b, row, G', hloc, hrow, hls, hnb, hG⟩ := hob.rel q _ hq
       obtain ⟨b', off', hloc', had'⟩ := hpl (.box t' fs) (β q) (by simp [q34, hq, way])
       rw [hloc] at hloc'; injection hloc' with e; injection e with e1 e2; subst e1; subst e2
       have had2 : ad = ⟨b, 0, none⟩ := by rw [had']; rfl
       subst had2
       obtain ⟨G1, hs1, H⟩ := q49 hx hls
       have htook := (q131 hob hF hq).drop (G' := G1) fun n hn => (hG n).2 (.inr (hs1 n hn))
       have hlr := H (fun b => FA b /\ (Gk q b -> G1 b)) (fun b hb => hb.1) fun b hb hn hf => hn (hf.2 ((hG b).2 (.inr hb)))
       have hlen : row.size = i.size := by
        have h1 := hls.length
        rw [y156] at h1
        rw [h1]
        exact y143 hc.1
       have hga : a.tmps.getD c undef = .pointer (some ⟨b, 0, none⟩) := by rw [Array.getD_eq_getD_getElem?, hu, had]; rfl
       obtain ⟨z, inf, hinf, hsz, _⟩ := (hT t i hi).info
       have hkind := (hT t i hi).kind
       have flat : ∀ d, P.underlying t = some d -> q89 d = false -> τ.isA = false ->
         ∃ ys obs' FA1 F1 G Gk1 us, K ys obs' = some r /\ Took w E β FA F obs FA1 F1 G obs' Gk1 /\ ResR w FA1 (τ :: rs) ys us G /\ All2 (fun v u => (q355 a.tmps v).run P w = .ok u w) (.cell c t :: f') us := by
        intro d hd1 hd2 hA
        have hl1 := LR.length τ _ _ _ hlr
        have ht1 : τ.size = 1 := by cases τ <;> first | rfl | cases hA
        rw [ht1] at hl1
        cases hrl : row.toList with
        | nil => rw [hrl] at hl1; cases hl1
        | cons v l =>
         cases l with
         | cons => rw [hrl] at hl1; simp at hl1
         | nil =>
          rw [hrl] at hlr
          have hcell : w.cell? ⟨b, 0, none⟩ = some v := q42 hrow.s (by rw [<- Array.getElem?_toList, hrl]; rfl)
          have hnA := q710 hlr hA
          refine next f' (.cell c t) v x _ _ _ _ _ rfl htook ⟨?_, ⟨fun h => absurd h hnA, fun h => by rw [hA] at h; cases h⟩⟩ ?_ h
          ·have : v.cells.toList = [v] := by
            cases v with
            | agg us => exact absurd ⟨us, rfl⟩ hnA
            | _ => rfl
           rw [this]; exact hlr
          ·simp [q355, hga, asAddr, q606 hd1 hd2 hcell]
       cases hik : i.k with
       | struct ofs =>
        rw [hik] at hkind hc
        obtain ⟨fields, hund, _⟩ := hkind
        have hA : τ.isA = true := hc.2
        refine next f' (.cell c t) (.agg row) x _ _ _ _ _ rfl htook ⟨hlr, ⟨fun _ => hA, fun _ => ⟨row, rfl⟩⟩⟩ ?_ h
        have hld := q648 (P := P) (w := w) (t := t) (o := 0) (n := i.size) hund rfl hinf hsz hrow.s (by omega)
        have hseg : (seg row 0 i.size).toArray = row := by
         unfold seg
         apply Array.toList_inj.1
         rw [y152, <- hlen, <- y156, List.take_length]
        rw [hseg] at hld
        simp [q355, hga, asAddr, hld]
       | other => rw [hik] at hc; cases hc.2
       | int kk => rw [hik] at hkind hc; exact flat _ hkind rfl (by simpa [q228] using hc.2)
       | bool => rw [hik] at hkind hc; exact flat _ hkind rfl (by simpa [q228] using hc.2)
       | slice e => rw [hik] at hkind hc; exact flat _ hkind rfl (by simpa [q228] using hc.2)
       | ptr e => rw [hik] at hkind hc; exact flat _ hkind rfl (by simpa [q228] using hc.2)
       | map _ e => rw [hik] at hkind hc; exact flat _ hkind rfl (by simpa [q228] using hc.2)
      ·cases h
    ·cases h
   ·cases h
  ·cases h
theorem q379 {R : Type} {a : Act} : ∀ (ps : List PT) {t : Nat} {cs : List V} {cus us : List Value} {tm : List (Nat × V)} {obs : List (Nat × Ob)} {K : Upds ps -> Option R} {r : R} {FA F : Bs} {Gk : Nat -> Bs},
  q85 C t cs.length ps = true -> All2 (VRl w β obs FA) cs cus -> us.length = q170 cs.length ps -> (∀ j, t + j ∈ C.pin -> j < us.length -> a.tmps[t + j]? = us[j]?) -> (∀ t v, get t tm = some v -> ∃ u, a.tmps[t]? = some u /\ VR w β obs FA v u) -> ObsA w E FA F β obs Gk -> (∀ b, F b -> FA b) -> q387 ps t cs tm obs K = some r ->
  ∃ ys obs' FA1 F1 G Gk1, K ys = some r /\ Took w E β FA F obs FA1 F1 G obs' Gk1 /\ q224 w FA1 ps ys (cus ++ us) G
 | [], t, cs, cus, us, tm, obs, K, r, FA, F, Gk, hp, hc, hl, hu, htm, hob, hF, h => by
  have h0 : cs.length = 0 := y143 hp
  have h1 : us = [] := y153 hl
  have h2 : cus = [] := y153 (hc.length.trans h0)
  exact ⟨(), obs, FA, F, fun _ => False, Gk, h, Took.refl hob, by rw [h1, h2]; rfl, fun _ h => h⟩
 | .imm τ :: ps, t, cs, cus, us, tm, obs, K, r, FA, F, Gk, hp, hc, hl, hu, htm, hob, hF, h => by
  have hp' : (Nat.beq cs.length 0 && q85 C (t + 1) 0 ps) = true := by cases hz : cs.length <;> (rw [hz] at hp; exact hp)
  rw [y144] at hp'
  have h0 : cs = [] := y153 (y143 hp'.1)
  subst h0
  cases hc
  cases us with
  | nil => cases hl
  | cons u us =>
   obtain ⟨ys, obs', FA1, F1, G, Gk1, h1, h2, h3⟩ := q379 ps (t := t + 1) (cs := []) (cus := []) (us := us) hp'.2 .nil (Nat.succ.inj hl) (fun j hj hlt => by
    have := hu (j + 1) (by rw [<- Nat.add_assoc, Nat.add_right_comm]; exact hj) (by simp; omega)
    rw [<- Nat.add_assoc, Nat.add_right_comm] at this
    simpa using this) htm hob hF h
   exact ⟨ys, obs', FA1, F1, G, Gk1, h1, h2, u, us, rfl, h3⟩
 | .bor τ false :: ps, t, cs, cus, us, tm, obs, K, r, FA, F, Gk, hp, hc, hl, hu, htm, hob, hF, h => by cases cs <;> cases hp
 | .bor τ true :: ps, t, [], cus, us, tm, obs, K, r, FA, F, Gk, hp, hc, hl, hu, htm, hob, hF, h => by
  have hp' : (true && mem t C.pin && q85 C (t + 1) 0 ps) = true := hp
  simp only [Bool.true_and, y144] at hp'
  have htp : t ∈ C.pin := (q209 C.pin).1 hp'.1
  cases hc
  cases us with
  | nil => cases hl
  | cons u us =>
   have hu0 : a.tmps[t]? = some u := by have := hu 0 htp (by simp); simpa using this
   unfold q387 at h
   split at h
   ·rename_i k hg
    split at h
    ·rename_i t' fs hq
     split at h
     ·rename_i x hx
      obtain ⟨u', hu', ad, had, hpl⟩ := htm t _ hg
      rw [hu0] at hu'; injection hu' with hu'; subst hu'
      obtain ⟨b, row, G', hloc, hrow, hls, hnb, hG⟩ := hob.rel k _ hq
      obtain ⟨b', off', hloc', had'⟩ := hpl (.box t' fs) (β k) (by simp [q34, hq, way])
      rw [hloc] at hloc'; injection hloc' with e; injection e with e1 e2; subst e1; subst e2
      have had2 : ad = ⟨b, 0, none⟩ := by rw [had']; rfl
      subst had2
      obtain ⟨G1, hs1, H⟩ := q49 hx hls
      have htook := (q131 hob hF hq).drop (G' := fun n => n = b \/ G1 n) fun n hn => (hG n).2 (hn.imp id (hs1 n))
      have hlr := H (fun n => FA n /\ (Gk k n -> n = b \/ G1 n)) (fun b hb => hb.1) fun n hn h1 hf => (hf.2 ((hG n).2 (.inr hn))).elim (fun e => hnb (e ▸ hn)) h1
      have hF1 : ∀ n, F n /\ ¬ Gk k n -> FA n /\ (Gk k n -> n = b \/ G1 n) := fun n hn => ⟨hF n hn.1, fun h => absurd h hn.2⟩
      obtain ⟨ys, obs', FA2, F2, G2, Gk2, h1, h2, h3⟩ := q379 ps (t := t + 1) (cs := []) (cus := []) (us := us) hp'.2 .nil (Nat.succ.inj hl) (fun j hj hlt => by
       have := hu (j + 1) (by rw [<- Nat.add_assoc, Nat.add_right_comm]; exact hj) (by simp; omega)
       rw [<- Nat.add_assoc, Nat.add_right_comm] at this
       simpa using this) (fun t y hy => by
        obtain ⟨u', hu', hvr⟩ := htm t y hy
        exact ⟨u', hu', hvr.keep (htook.stay _) fun r _ => htook.keep r⟩) htook.ob hF1 h
      exact ⟨(x, ys), obs', FA2, F2, _, Gk2, h1, htook.trans h2, u, us, _, G2, rfl, ⟨b, row, G1, by rw [had], hrow, hlr.sub h2.sub, fun hb => hnb (hs1 b hb), fun n => Iff.rfl⟩, h3, htook.djG h2, fun n => Iff.rfl⟩
     ·cases h
    ·cases h
   ·cases h
 | .bor τ true :: ps, t, c :: cs, cus, us, tm, obs, K, r, FA, F, Gk, hp, hc, hl, hu, htm, hob, hF, h => by
  have hp' : (true && q85 C t cs.length ps) = true := hp
  rw [Bool.true_and] at hp'
  cases hc with
  | cons hc1 hc2 =>
   rename_i u cus
   unfold q387 at h
   split at h
   ·rename_i k
    split at h
    ·rename_i t' fs hq
     split at h
     ·rename_i x hx
      obtain ⟨ad, had, hpl⟩ := hc1
      obtain ⟨b, row, G', hloc, hrow, hls, hnb, hG⟩ := hob.rel k _ hq
      obtain ⟨b', off', hloc', had'⟩ := hpl (.box t' fs) (β k) (by simp [q34, hq, way])
      rw [hloc] at hloc'; injection hloc' with e; injection e with e1 e2; subst e1; subst e2
      have had2 : ad = ⟨b, 0, none⟩ := by rw [had']; rfl
      subst had2
      obtain ⟨G1, hs1, H⟩ := q49 hx hls
      have htook := (q131 hob hF hq).drop (G' := fun n => n = b \/ G1 n) fun n hn => (hG n).2 (hn.imp id (hs1 n))
      have hlr := H (fun n => FA n /\ (Gk k n -> n = b \/ G1 n)) (fun b hb => hb.1) fun n hn h1 hf => (hf.2 ((hG n).2 (.inr hn))).elim (fun e => hnb (e ▸ hn)) h1
      have hF1 : ∀ n, F n /\ ¬ Gk k n -> FA n /\ (Gk k n -> n = b \/ G1 n) := fun n hn => ⟨hF n hn.1, fun h => absurd h hn.2⟩
      obtain ⟨ys, obs', FA2, F2, G2, Gk2, h1, h2, h3⟩ := q379 ps (t := t) (cs := cs) (cus := cus) (us := us) hp' (hc2.imp fun y z _ hyz => VRl.keep hyz (htook.stay _) fun r _ => htook.keep r) hl hu (fun t y hy => by
        obtain ⟨u', hu', hvr⟩ := htm t y hy
        exact ⟨u', hu', hvr.keep (htook.stay _) fun r _ => htook.keep r⟩) htook.ob hF1 h
      exact ⟨(x, ys), obs', FA2, F2, _, Gk2, h1, htook.trans h2, u, cus ++ us, _, G2, rfl, ⟨b, row, G1, by rw [had], hrow, hlr.sub h2.sub, fun hb => hnb (hs1 b hb), fun n => Iff.rfl⟩, h3, htook.djG h2, fun n => Iff.rfl⟩
     ·cases h
    ·cases h
   ·cases h
 | .clo g n :: ps, t, cs, cus, us, tm, obs, K, r, FA, F, Gk, hp, hc, hl, hu, htm, hob, hF, h => by
  have hp' : (Nat.beq cs.length 0 && mem t C.pin && q85 C (t + 1) n ps) = true := by cases hz : cs.length <;> (rw [hz] at hp; exact hp)
  rw [y144, y144] at hp'
  have h0 : cs = [] := y153 (y143 hp'.1.1)
  subst h0
  cases hc
  have htp : t ∈ C.pin := (q209 C.pin).1 hp'.1.2
  cases us with
  | nil => cases hl
  | cons u us =>
   have hu0 : a.tmps[t]? = some u := by have := hu 0 htp (by simp); simpa using this
   unfold q387 at h
   split at h
   ·rename_i g' cs' hg
    cases hb : Nat.beq g' g && Nat.beq cs'.length n with
    | false => rw [hb] at h; cases h
    | true =>
     rw [hb] at h
     rw [y144] at hb
     have e1 : g' = g := y143 hb.1
     have e2 : cs'.length = n := y143 hb.2
     subst e1
     obtain ⟨u', hu', us0, hfn, hall⟩ := htm t _ hg
     rw [hu0] at hu'; injection hu' with hu'; subst hu'
     obtain ⟨ys, obs', FA1, F1, G, Gk1, h1, h2, h3⟩ := q379 ps (t := t + 1) (cs := cs') (cus := us0.toList) (us := us) (by rw [e2]; exact hp'.2) hall (by rw [e2]; exact Nat.succ.inj hl) (fun j hj hlt => by
      have := hu (j + 1) (by rw [<- Nat.add_assoc, Nat.add_right_comm]; exact hj) (by simp; omega)
      rw [<- Nat.add_assoc, Nat.add_right_comm] at this
      simpa using this) htm hob hF h
     refine ⟨ys, obs', FA1, F1, G, Gk1, h1, h2, us0, us, by rw [hfn]; rfl, ?_, h3⟩
     have := hall.length
     rw [y156] at this
     omega
   ·cases h
theorem q438 {e : Ent} : ∀ {es : List Ent}, (q65 es).Nodup -> e ∈ es -> get e.k (es.map fun e => (e.k, e.ob)) = some e.ob
 | [], _, h => by cases h
 | f :: es, hn, h => by
  have hn' := List.nodup_cons.1 hn
  show (bif Nat.beq f.k e.k then some f.ob else get e.k (es.map fun e => (e.k, e.ob))) = _
  rcases y166.1 h with rfl | h
  ·rw [Nat.beq_refl]; rfl
  ·have hne : f.k ≠ e.k := fun x => hn'.1 (show f.k ∈ q65 es from x ▸ q374 h)
   rw [show Nat.beq f.k e.k = false from by cases hb : Nat.beq f.k e.k with | true => exact absurd (y143 hb) hne | false => rfl]
   exact q438 hn'.2 h
theorem q182 {q : Nat} : ∀ {es : List Ent}, q ∉ q65 es -> get q (es.map fun e => (e.k, e.ob)) = none
 | [], _ => rfl
 | f :: es, h => by
  show (bif Nat.beq f.k q then some f.ob else get q (es.map fun e => (e.k, e.ob))) = _
  have hne : f.k ≠ q := fun x => h (by simp [q65, x])
  rw [show Nat.beq f.k q = false from by cases hb : Nat.beq f.k q with | true => exact absurd (y143 hb) hne | false => rfl]
  exact q182 fun hq => h (y155 _ hq)
theorem q142 {F : Bs} : ∀ (ps : List PT) {t p : Nat} {x : Args ps} {us : List Value} {G : Bs}, q85 C t p ps = true -> q386 w F ps x us G -> us.length = q170 p ps + p
 | [], t, p, _, _, _, hp, ⟨h, _⟩ => by
  have h0 : p = 0 := y143 hp
  rw [h, h0]; rfl
 | .imm _ :: ps, t, p, _, _, _, hp, ⟨_, _, hu, _, _, h⟩ => by
  have hp' : (Nat.beq p 0 && q85 C (t + 1) 0 ps) = true := by cases p <;> exact hp
  rw [y144] at hp'
  have h0 : p = 0 := y143 hp'.1
  subst h0
  rw [hu, y167, q142 ps hp'.2 h]
  rfl
 | .bor _ rw' :: ps, t, 0, _, _, _, hp, ⟨_, _, _, _, hu, _, h, _, _⟩ => by
  have hp' : (rw' && mem t C.pin && q85 C (t + 1) 0 ps) = true := hp
  rw [y144] at hp'
  rw [hu, y167, q142 ps hp'.2 h]
  rfl
 | .bor _ rw' :: ps, t, p + 1, _, _, _, hp, ⟨_, _, _, _, hu, _, h, _, _⟩ => by
  have hp' : (rw' && q85 C t p ps) = true := hp
  rw [y144] at hp'
  rw [hu, y167, q142 ps hp'.2 h]
  rfl
 | .clo g n :: ps, t, p, _, _, _, hp, ⟨cs, us, hu, hn, h⟩ => by
  have hp' : (Nat.beq p 0 && mem t C.pin && q85 C (t + 1) n ps) = true := by cases p <;> exact hp
  rw [y144, y144] at hp'
  have h0 : p = 0 := y143 hp'.1.1
  subst h0
  have := q142 ps hp'.2 h
  rw [y148, y156, hn] at this
  rw [hu, y167]
  show us.length + 1 = q170 n ps + 1 + 0
  omega
theorem q553 : ∀ (n r : Nat) (q : Ref), q ∈ (q295 r n).flatMap q37 -> r <= q.root /\ q.root < r + n
 | 0, _, _, h => by cases h
 | n + 1, r, q, h => by
  have h' : q ∈ ([⟨r, []⟩] : List Ref) ++ (q295 (r + 1) n).flatMap q37 := h
  rcases y151.1 h' with h' | h'
  ·rw [y161.1 h']
   exact ⟨Nat.le_refl _, by show r < r + (n + 1); omega⟩
  ·have := q553 n (r + 1) q h'
   omega
theorem q277 {F : Bs} : ∀ (ps : List PT) {x : Args ps} {us : List Value} {G : Bs} (t r p : Nat), q85 C t p ps = true -> q386 w F ps x us G ->
  ∃ es, (q109 ps x t r p).2 = es.map (fun e => (e.k, e.ob)) /\ es.length = q127 ps /\ q40 w F r G es /\
   (∀ t' v, get t' (q109 ps x t r p).1 = some v -> ∃ j u, t' = t + j /\ (us.drop p)[j]? = some u /\ (∀ q ∈ q24 v, r <= q.root /\ q.root < r + es.length) /\ ∀ β obs, At β obs es -> VR w β obs F v u) /\
   p <= es.length /\ ∀ β obs, At β obs es -> All2 (VRl w β obs F) (q295 r p) (us.take p)
 | [], _, _, _, t, r, p, hp, ⟨_, hE⟩ => by
  have h0 : p = 0 := y143 hp
  subst h0
  exact ⟨[], rfl, rfl, q40.nil hE, fun t' v h => (by cases h), Nat.le_refl _, fun β obs _ => by rw [List.take_zero]; exact .nil⟩
 | .imm τ :: ps, x, _, _, t, r, p, hp, ⟨u, us, hu, hpl, hval, ha⟩ => by
  have hp' : (Nat.beq p 0 && q85 C (t + 1) 0 ps) = true := by cases p <;> exact hp
  rw [y144] at hp'
  have h0 : p = 0 := y143 hp'.1
  subst h0
  obtain ⟨es, h1, h2, h3, h4, _, _⟩ := q277 ps (t + 1) r 0 hp'.2 ha
  subst hu
  refine ⟨es, h1, h2, h3, fun t' v h => ?_, Nat.zero_le _, fun β obs _ => by rw [List.take_zero]; exact .nil⟩
  have h' : (bif Nat.beq t t' then some (τ.toV x.1) else get t' (q109 ps x.2 (t + 1) r 0).1) = some v := h
  cases e : Nat.beq t t' with
  | true =>
   rw [e] at h'
   injection h' with h'; subst h'
   have := y143 e
   subst this
   exact ⟨0, u, rfl, rfl, fun q hq => (by rw [q561] at hq; cases hq), fun β obs _ => ValR.vr hpl hval⟩
  | false =>
   rw [e] at h'
   obtain ⟨j, u', e1, e2, e3⟩ := h4 t' v h'
   exact ⟨j + 1, u', by omega, by simpa using e2, e3⟩
 | .bor τ rw' :: ps, x, _, G, t, r, 0, hp, ⟨u, us, G1, G2, hu, hbx, ha, hd, hG⟩ => by
  have hp' : (rw' && mem t C.pin && q85 C (t + 1) 0 ps) = true := hp
  rw [y144] at hp'
  obtain ⟨es, h1, h2, h3, h4, _, _⟩ := q277 ps (t + 1) (r + 1) 0 hp'.2 ha
  subst hu
  obtain ⟨b, row, G', hc, hr, hl, hnb, hGb⟩ := hbx
  injection hc with hc
  have one : q40 w F r G1 [⟨r, .box (some τ) (τ.leaves x.1), some (b, 0), G1⟩] := q40.one ⟨b, row, G', rfl, hr, LR.leaves τ _ _ _ hl, hnb, hGb⟩
  refine ⟨⟨r, .box (some τ) (τ.leaves x.1), some (b, 0), G1⟩ :: es, ?_, by rw [y167, h2]; rfl, one.append h3 hd hG, fun t' v h => ?_, Nat.zero_le _, fun β obs _ => by rw [List.take_zero]; exact .nil⟩
  ·show (r, Ob.box (some τ) (τ.leaves x.1)) :: (q109 ps x.2 (t + 1) (r + 1) 0).2 = _
   rw [h1]; rfl
  ·have h' : (bif Nat.beq t t' then some (V.hp ⟨r, []⟩ 0 0) else get t' (q109 ps x.2 (t + 1) (r + 1) 0).1) = some v := h
   cases e : Nat.beq t t' with
   | true =>
    rw [e] at h'
    injection h' with h'; subst h'
    have := y143 e
    subst this
    refine ⟨0, u, rfl, rfl, fun q hq => ?_, fun β obs hat => ?_⟩
    ·simp [q24, q31, q37] at hq
     subst hq
     exact ⟨Nat.le_refl _, by rw [y167]; exact Nat.lt_add_of_pos_right (by omega)⟩
    ·obtain ⟨hb, hg⟩ := hat _ y169
     subst hc
     exact q478 (F' := F) hg hb
   | false =>
    rw [e] at h'
    obtain ⟨j, u', e1, e2, e3, e4⟩ := h4 t' v h'
    exact ⟨j + 1, u', by omega, by simpa using e2, fun q hq => by have := e3 q hq; rw [y167]; omega, fun β obs hat => e4 β obs fun e he => hat e (y155 _ he)⟩
 | .bor τ rw' :: ps, x, _, G, t, r, p + 1, hp, ⟨u, us, G1, G2, hu, hbx, ha, hd, hG⟩ => by
  have hp' : (rw' && q85 C t p ps) = true := hp
  rw [y144] at hp'
  obtain ⟨es, h1, h2, h3, h4, h5, h6⟩ := q277 ps t (r + 1) p hp'.2 ha
  subst hu
  obtain ⟨b, row, G', hc, hr, hl, hnb, hGb⟩ := hbx
  injection hc with hc
  have one : q40 w F r G1 [⟨r, .box (some τ) (τ.leaves x.1), some (b, 0), G1⟩] := q40.one ⟨b, row, G', rfl, hr, LR.leaves τ _ _ _ hl, hnb, hGb⟩
  refine ⟨⟨r, .box (some τ) (τ.leaves x.1), some (b, 0), G1⟩ :: es, ?_, by rw [y167, h2]; rfl, one.append h3 hd hG, fun t' v h => ?_, by rw [y167]; omega, fun β obs hat => ?_⟩
  ·show (r, Ob.box (some τ) (τ.leaves x.1)) :: (q109 ps x.2 t (r + 1) p).2 = _
   rw [h1]; rfl
  ·obtain ⟨j, u', e1, e2, e3, e4⟩ := h4 t' v h
   exact ⟨j, u', e1, by simpa using e2, fun q hq => by have := e3 q hq; rw [y167]; omega, fun β obs hat => e4 β obs fun e he => hat e (y155 _ he)⟩
  ·obtain ⟨hb, hg⟩ := hat _ y169
   subst hc
   exact .cons (q478 (F' := F) hg hb) (h6 β obs fun e he => hat e (y155 _ he))
 | .clo g n :: ps, x, _, G, t, r, p, hp, ⟨cs, us, hu, hn, ha⟩ => by
  have hp' : (Nat.beq p 0 && mem t C.pin && q85 C (t + 1) n ps) = true := by cases p <;> exact hp
  rw [y144, y144] at hp'
  have h0 : p = 0 := y143 hp'.1.1
  subst h0
  obtain ⟨es, h1, h2, h3, h4, h5, h6⟩ := q277 ps (t + 1) r n hp'.2 ha
  subst hu
  have hd : (cs.toList ++ us).drop n = us := List.drop_left' (by rw [y156]; exact hn)
  have ht : (cs.toList ++ us).take n = cs.toList := List.take_left' (by rw [y156]; exact hn)
  rw [hd] at h4
  rw [ht] at h6
  refine ⟨es, h1, h2, h3, fun t' v h => ?_, Nat.zero_le _, fun β obs _ => by rw [List.take_zero]; exact .nil⟩
  have h' : (bif Nat.beq t t' then some (V.fn g (q295 r n)) else get t' (q109 ps x (t + 1) r n).1) = some v := h
  cases e : Nat.beq t t' with
  | true =>
   rw [e] at h'
   injection h' with h'; subst h'
   have := y143 e
   subst this
   refine ⟨0, _, rfl, rfl, fun q hq => ?_, fun β obs hat => ⟨cs, rfl, h6 β obs hat⟩⟩
   have := q553 n r q hq
   omega
  | false =>
   rw [e] at h'
   obtain ⟨j, u', e1, e2, e3⟩ := h4 t' v h'
   exact ⟨j + 1, u', by omega, by simpa using e2, e3⟩
theorem q11 (hmix : P.follows .mixedOrders = true) (hT : q81 P C) (hE : q26 P C) {S : FSem} {fn : Func} {c : Code} (hf : P.funcs[S.id]? = some fn) (hn : (fn.name == "runtime.NumGoroutine") = false) (hb : fn.body = some c)
  {L : (k : Nat) -> List (LC (Tys S.rs × Upds S.ps))} (hL : ∀ k, Lok P C (L k) c 0) (heq : ∀ k x, evF C k (L k) fn S.ps S.rs x some = S.f k x) : q16 P S := by
 refine ⟨⟨fn, hf, hn, by rw [hb]; rfl⟩, fun k x y hy w E F G us hargs hF hdE hElt => ?_⟩
 rw [<- heq] at hy
 unfold evF at hy
 rw [hb] at hy
 simp only at hy
 cases hpin : (q85 C 0 0 S.ps && Nat.beq C.nt fn.ntmps && Nat.ble (q170 0 S.ps) C.nt) with
 | false => rw [hpin] at hy; cases hy
 | true =>
  rw [hpin] at hy
  rw [y144, y144] at hpin
  obtain ⟨⟨hp1, hp2⟩, hp3⟩ := hpin
  have hnt : C.nt = fn.ntmps := y143 hp2
  have hle : q170 0 S.ps <= C.nt := y168 hp3
  have hul := q142 S.ps hp1 hargs
  rw [Nat.add_zero] at hul
  obtain ⟨es, hes1, hes2, hfo, hslot, _, _⟩ := q277 S.ps 0 0 0 hp1 hargs
  rw [y152] at hslot
  have hy' : ev C k (L k) c 0 ⟨(q109 S.ps x 0 0 0).1, (q109 S.ps x 0 0 0).2, q127 S.ps⟩ (finish C fn S.ps S.rs some) = some y := hy
  generalize hA : ({ tmps := us.toArray ++ Array.replicate (fn.ntmps - us.toArray.size) undef, defers := [] } : Act) = A
  have htmp : ∀ j u, us[j]? = some u -> A.tmps[j]? = some u := fun j u hj => by
   have hlt := (y149.1 hj).1
   rw [<- hA]
   rw [Array.getElem?_append_left (by simpa using hlt)]
   simpa using hj
  have hsize : A.tmps.size = C.nt := by
   rw [<- hA, hnt]
   simp
   rw [hul, <- hnt]; omega
  have hat : At (locE (fun _ => none) es) (q109 S.ps x 0 0 0).2 es := fun e he => ⟨q215 hfo.keys he, by rw [hes1]; exact q438 hfo.keys he⟩
  have hGF : ∀ b, (∃ e ∈ es, e.G b) ↔ G b := fun b => (hfo.cov b).symm
  have hsr : SR C w E (locE (fun _ => none) es) ⟨(q109 S.ps x 0 0 0).1, (q109 S.ps x 0 0 0).2, q127 S.ps⟩ A F (gE (fun _ _ => False) es) := by
   have h0 : ObsA w E F E (fun _ => none) [] (fun _ _ => False) := ⟨fun q o hq => (by cases hq), fun q q' o o' hq => (by cases hq), fun b => ⟨.inl, fun h => h.elim id fun ⟨q, o, hq, _⟩ => (by cases hq)⟩, fun q o hq => (by cases hq), hElt⟩
   refine ⟨⟨fun t v hv => ?_, q665 h0 hfo.keys hfo.rel hfo.dj (fun q hq => by rw [hes1]; exact q182 hq) (fun e he => by rw [hes1]; exact q438 hfo.keys he) (fun b => ?_) (fun e he b hb => hdE b ((hfo.cov b).2 ⟨e, he, hb⟩)) (fun e he q o _ hq => by cases hq) (Nat.le_refl _) (fun q o _ hq => by cases hq) (fun _ _ _ => rfl) (fun b hb => .inl hb), hsize⟩, fun q hq => ?_, fun t v hv r hr => ?_⟩
   ·obtain ⟨j, u, ht, hu, _, hvr⟩ := hslot t v hv
    rw [Nat.zero_add] at ht
    subst ht
    exact ⟨u, htmp _ u hu, hvr _ _ hat⟩
   ·rw [hF b, <- hGF b]
    constructor
    ·rintro (h | h)
     ·exact .inl h
     ·exact .inr (.inr h)
    ·rintro (h | ⟨q, o, _, hq, _⟩ | h)
     ·exact .inl h
     ·cases hq
     ·exact .inr h
   ·show q < q127 S.ps
    by_cases hk : q ∈ q65 es
    ·obtain ⟨e, he, rfl⟩ := q61 hk
     have := hfo.range e he
     omega
    ·have hq' : get q (q109 S.ps x 0 0 0).2 ≠ none := hq
     rw [hes1, q182 hk] at hq'
     exact absurd rfl hq'
   ·obtain ⟨j, u, _, _, href, _⟩ := hslot t v hv
    have := href r hr
    show r.root < q127 S.ps
    omega
  refine calls_of_wp hf hb ?_
  rw [hA]
  refine q161 hmix hT hE c 0 (hL k) hy' hsr _ fun e S' w' β' F' Gk' a' hK hS hst => ?_
  have main : (q157 C fn.results.toList S.rs S'.tm S'.ob fun y obs => q387 S.ps 0 [] S'.tm obs fun u => some (y, u)) = some y ->
    a'.defers = [] /\ ∃ v, (results fn a'.tmps).run P w' = .ok v w' /\ (fun e w' => ∃ rs F' G1 G2, e = Ending.returned (pack rs) /\ ResR w' F' S.rs y.1 rs G1 /\ q224 w' F' S.ps y.2 us G2 /\ Dj G1 G2 /\ Dj G1 E /\ Dj G2 E /\ (∀ b, F' b ↔ E b \/ G1 b \/ G2 b) /\
     q121 w w' /\ Stay w F w' F' (fun _ => False) /\ ∀ b, E b -> w'.heap[b]? = w.heap[b]?) (.returned v) w' := by
   intro hfin
   obtain ⟨ys, obs1, FA1, F1, G1, Gk1, rs, hk1, htook1, hres, hall⟩ := q411 hT S.rs hS.fr.tm hS.fr.ob.a (fun _ h => h) hfin
   have hF1 : ∀ b, F1 b -> FA1 b := fun b hb => y146 fun hn => (htook1.lost b (htook1.less b hb) hn).2.1 hb
   obtain ⟨zs, obs2, FA2, F2, G2, Gk2, hk2, htook2, hback⟩ := q379 S.ps (t := 0) (cs := []) (cus := []) (us := us) hp1 .nil hul (fun j hj hlt => by
    rw [Nat.zero_add] at hj ⊢
    rw [hst.same j fun h => h.2 hj]
    rw [y140 hlt]
    exact htmp j _ (y140 hlt)) (fun t v hv => by
     obtain ⟨u, hu, hvr⟩ := hS.fr.tm t v hv
     exact ⟨u, hu, hvr.keep (htook1.stay _) fun r _ => htook1.keep r⟩) htook1.ob hF1 hk1
   injection hk2 with hk2
   subst hk2
   have hT2 := htook1.trans htook2
   have hEF2 : ∀ b, E b -> F2 b := fun b hb => (htook2.ob.cov b).2 (.inl hb)
   have hF2 : ∀ b, F2 b -> FA2 b := fun b hb => y146 fun hn => (htook2.lost b (hF1 b (htook2.less b hb)) hn).2.1 hb
   have hGA : ∀ b, G1 b \/ G2 b -> FA2 b := fun b hb => y146 fun hn => (hT2.lost b (hT2.got b hb) hn).2.2 hb
   have hsub : ∀ b, (E b \/ G1 b \/ G2 b) -> FA2 b := fun b hb => hb.elim (fun h => hF2 b (hEF2 b h)) (hGA b)
   have hsubF : ∀ b, (E b \/ G1 b \/ G2 b) -> F' b := fun b hb => hb.elim (fun h => (hS.fr.ob.cov b).2 (.inl h)) (hT2.got b)
   refine ⟨by rw [hst.defers, <- hA], pack rs, q541 hall, rs, fun b => E b \/ G1 b \/ G2 b, G1, G2, rfl, ResR.cast S.rs (.inl fun b hb => htook2.sub b (hsub b hb) |> fun h => h) (ResR.cast S.rs (.inl fun b hb => hb) hres), q224.cast S.ps (.inl hsub) hback, htook1.djG htook2, fun b hb hE' => hT2.dj b (.inl hb) (hEF2 b hE'), fun b hb hE' => hT2.dj b (.inr hb) (hEF2 b hE'), fun b => Iff.rfl,
    hst.apart, ⟨hst.stay.size, fun _ h => h.elim, hst.stay.out, fun b hb => hst.stay.less b (hsubF b hb)⟩, hst.keepE⟩
  cases e with
  | normal => exact main hK
  | ret => exact main hK
  | _ => cases hK
end
end Go.Lf
namespace Go.Lf
def z0B : V -> Value -> Bool
 | .int k n, .int k' n' => kbeq k k' && decide (n = n')
 | .bool b, .bool b' => b == b'
 | .nilp, .pointer none => true
 | .nils, .slice none 0 0 => true
 | .nilm, .map none => true
 | .undef, u => u.oneCell'
 | _, _ => false
theorem z0B_ok {v : V} {u : Value} (h : z0B v u = true) : Z0 v u := by
 unfold z0B at h
 split at h
 ·rw [y144] at h
  rw [q202 h.1, of_decide_eq_true h.2]
  rfl
 ·have := eq_of_beq h
  rw [this]; rfl
 ·rfl
 ·rfl
 ·rfl
 ·exact h
 ·cases h
def q657 {α β : Type} (f : α -> β -> Bool) : List α -> List β -> Bool
 | [], [] => true
 | a :: as, b :: bs => f a b && q657 f as bs
 | _, _ => false
theorem q437 {α β : Type} {f : α -> β -> Bool} {R : α -> β -> Prop} (hf : ∀ a b, f a b = true -> R a b) : ∀ {as : List α} {bs : List β}, q657 f as bs = true -> All2 R as bs
 | [], [], _ => .nil
 | [], _ :: _, h => by cases h
 | _ :: _, [], h => by cases h
 | a :: as, b :: bs, h => by
  have h' : (f a b && q657 f as bs) = true := h
  rw [y144] at h'
  exact .cons (hf a b h'.1) (q437 hf h'.2)
def infoB (P : Program) (t : TypeId) (i : TI) : Bool :=
 match P.info? t with
 | some inf => inf.size == i.size && inf.bytes == i.bytes && i.zero.length == i.size && (match inf.zero with
  | some z => q657 z0B i.zero z.cells.toList
  | none => false)
 | none => false
def fieldB (P : Program) (p : Nat × Nat) (f : Field) : Bool :=
 f.offset == p.1 && p.2 != 0 && (match P.info? f.type with | some inf => inf.size == p.2 | none => false) &&
  (match P.underlying f.type with | some d => q89 d == !Nat.beq p.2 1 | none => false)
def kindB (P : Program) (t : TypeId) : TK -> Bool
 | .int k => match P.underlying t with | some (.int k') => kbeq k' k | _ => false
 | .bool => match P.underlying t with | some .bool => true | _ => false
 | .slice e => match P.underlying t with | some (.slice e') => e' == e | _ => false
 | .ptr e => match P.underlying t with | some (.pointer e') => e' == e | _ => false
 | .struct fs => match P.underlying t with | some (.struct fields) => q657 (fieldB P) fs fields.toList | _ => false
 | .map k e => match P.underlying t with | some (.map k' e') => k' == k && e' == e | _ => false
 | .other => true
def flatB (P : Program) (t : TypeId) (i : TI) : Bool :=
 match i.k with
 | .struct _ => true
 | .other => true
 | _ => match P.info? t with
  | some inf => match inf.zero with
   | some (.agg _) => false
   | some _ => true
   | none => false
  | none => false
theorem flatB_ok {P : Program} {t : TypeId} {i : TI} (h : flatB P t i = true) : (∃ fs, i.k = .struct fs) \/ i.k = .other \/ ∃ inf z, P.info? t = some inf /\ inf.zero = some z /\ ∀ us, z ≠ .agg us := by
 unfold flatB at h
 split at h
 ·rename_i fs hk; exact .inl ⟨fs, hk⟩
 ·rename_i hk; exact .inr (.inl hk)
 ·split at h
  ·rename_i inf hi
   split at h
   ·cases h
   ·rename_i z hne hz
    exact .inr (.inr ⟨inf, z, hi, hz, fun us e => hne us e⟩)
   ·cases h
  ·cases h
def eqTB (P : Program) (t : TypeId) (i : TI) : Bool :=
 i.eq.isEmpty || (!P.eqGuardType P.depth t && eqB P 8 t i.eq && i.eq.length == i.size && (match P.underlying t with | some (.struct _) => true | _ => false))
def tisB (P : Program) : List (TypeId × TI) -> Bool
 | [] => true
 | (t, i) :: l => infoB P t i && kindB P t i.k && flatB P t i && eqTB P t i && tisB P l
theorem kindB_ok {P : Program} {t : TypeId} {k : TK} (h : kindB P t k = true) : q576 P t k := by
 unfold kindB at h
 cases k with
 | int k =>
  simp only at h
  split at h
  ·rename_i k' hu; rw [<- q202 h]; exact hu
  ·cases h
 | bool =>
  simp only at h
  split at h
  ·assumption
  ·cases h
 | slice e =>
  simp only at h
  split at h
  ·rename_i e' hu; rw [<- eq_of_beq h]; exact hu
  ·cases h
 | ptr e =>
  simp only at h
  split at h
  ·rename_i e' hu; rw [<- eq_of_beq h]; exact hu
  ·cases h
 | map k e =>
  simp only at h
  split at h
  ·rename_i k' e' hu
   rw [y144] at h
   rw [<- eq_of_beq h.1, <- eq_of_beq h.2]; exact hu
  ·cases h
 | struct fs =>
  simp only at h
  split at h
  ·rename_i fields hu
   refine ⟨fields, hu, q437 (fun p f hf => ?_) h⟩
   unfold fieldB at hf
   simp only [y144] at hf
   obtain ⟨⟨⟨h1, h2⟩, h3⟩, h4⟩ := hf
   refine ⟨eq_of_beq h1, by simpa using h2, ?_, ?_⟩
   ·split at h3
    ·rename_i inf hi; exact ⟨inf, hi, eq_of_beq h3⟩
    ·cases h3
   ·split at h4
    ·rename_i d hd; exact ⟨d, hd, eq_of_beq h4⟩
    ·cases h4
  ·cases h
 | other => trivial
theorem q746 {P : Program} : ∀ {l : List (TypeId × TI)}, tisB P l = true -> ∀ t i, get t l = some i -> TIok P t i
 | [], _, t, i, h => by cases h
 | (t0, i0) :: l, h, t, i, hg => by
  have h' : (infoB P t0 i0 && kindB P t0 i0.k && flatB P t0 i0 && eqTB P t0 i0 && tisB P l) = true := h
  simp only [y144] at h'
  obtain ⟨⟨⟨⟨h1, h2⟩, hfl⟩, h3⟩, h4⟩ := h'
  unfold get at hg
  cases e : Nat.beq t0 t with
  | false => rw [e] at hg; exact q746 h4 t i hg
  | true =>
   rw [e] at hg
   injection hg with hg; subst hg
   have := y143 e
   subst this
   refine ⟨?_, kindB_ok h2, flatB_ok hfl, fun hne => ?_⟩
   ·unfold infoB at h1
    split at h1
    ·rename_i inf hi
     simp only [y144] at h1
     obtain ⟨⟨⟨a1, a2⟩, a3⟩, a4⟩ := h1
     split at a4
     ·rename_i z hz
      exact ⟨z, inf, hi, eq_of_beq a1, eq_of_beq a2, hz, q437 (fun _ _ => z0B_ok) a4, eq_of_beq a3⟩
     ·cases a4
    ·cases h1
   ·unfold eqTB at h3
    rw [Bool.or_eq_true] at h3
    rcases h3 with h3 | h3
    ·exact absurd (List.isEmpty_iff.1 h3) hne
    ·simp only [y144, Bool.not_eq_true'] at h3
     obtain ⟨⟨⟨a1, a2⟩, a3⟩, a4⟩ := h3
     refine ⟨a1, a2, eq_of_beq a3, ?_⟩
     split at a4
     ·rename_i fs hu; exact ⟨fs, hu⟩
     ·cases a4
theorem q17 {P : Program} {l : List (TypeId × TI)} (h : tisB P l = true) {ety : List (TypeId × Ty)} {env : List FSem} {keep pin take : List Nat} {nt : Nat} : q81 P ⟨l, ety, env, keep, pin, nt, take⟩ := q746 h
def EnvL (P : Program) (env : List FSem) : Prop := ∀ f vs S, q687 f vs env = some S -> S.id = f /\ q16 P S
theorem q20 {P : Program} : EnvL P [] := fun f vs S h => by cases h
theorem q5 {P : Program} {S : FSem} {env : List FSem} (h : q16 P S) (t : EnvL P env) : EnvL P (S :: env) := by
 intro f vs S' hf
 unfold q687 at hf
 cases e : Nat.beq S.id f && fitsA S.ps vs with
 | true =>
  rw [e] at hf
  rw [y144] at e
  injection hf with hf; subst hf
  exact ⟨y143 e.1, h⟩
 | false => rw [e] at hf; exact t f vs S' hf
def q19 (fn : Func) : Code := fn.body.getD .skip
theorem q13 {R : Type} {P : Program} {C : Ctx} {c : Code} {n : Nat} : Lok (R := R) P C [] c n := ⟨fun i c' lc _ h => (by cases h), fun b _ lc h => (by cases h)⟩
theorem q181 {R : Type} {b : Code} {L : List (LC R)} {lc : LC R} : q622 b L = some lc ↔ ∃ id, q227 b = some id /\ q389 (2 * id + 1) L = some lc := by
 unfold q622
 cases L with
 | nil => exact ⟨fun h => (by cases h), fun ⟨_, _, h⟩ => (by cases h)⟩
 | cons l L =>
  simp only
  cases q227 b with
  | none => exact ⟨fun h => (by cases h), fun ⟨_, h, _⟩ => (by cases h)⟩
  | some id => exact ⟨fun h => ⟨id, rfl, h⟩, fun ⟨_, h, h'⟩ => by injection h with h; subst h; exact h'⟩
theorem q23 {R : Type} {P : Program} {C : Ctx} {c c0 : Code} {n : Nat} (m : Nat) {lc : LC R} {L : List (LC R)} (hm : Nat.beq lc.at_ (2 * m) = true) (he : q58 c (m - n) = some c0) (h : LCs P C (.loop c0) lc) (t : Lok P C L c n) : Lok P C (lc :: L) c n := by
 have hm := y143 hm
 refine ⟨fun i c' lc' hc hf => ?_, fun b hb lc' hj => ?_⟩
 ·unfold q389 at hf
  cases e : Nat.beq lc.at_ (2 * (n + i)) with
  | true =>
   rw [e] at hf
   injection hf with hf; subst hf
   have := y143 e
   have e2 : m = n + i := by omega
   rw [e2, y163, hc] at he
   injection he with he; subst he
   exact h
  | false => rw [e] at hf; exact t.loop i c' lc' hc hf
 ·obtain ⟨id, hi, hf⟩ := q181.1 hj
  unfold q389 at hf
  cases e : Nat.beq lc.at_ (2 * id + 1) with
  | true => have := y143 e; omega
  | false => rw [e] at hf; exact t.join b hb lc' (q181.2 ⟨id, hi, hf⟩)
theorem q45 {R : Type} {P : Program} {C : Ctx} {c c0 : Code} {n : Nat} (m : Nat) {lc : LC R} {L : List (LC R)} (hm : Nat.beq lc.at_ (2 * m + 1) = true) (he : q545 m c = [c0]) (h : LCs P C c0 lc) (t : Lok P C L c n) : Lok P C (lc :: L) c n := by
 have hm := y143 hm
 refine ⟨fun i c' lc' hc hf => ?_, fun b hb lc' hj => ?_⟩
 ·unfold q389 at hf
  cases e : Nat.beq lc.at_ (2 * (n + i)) with
  | true => have := y143 e; omega
  | false => rw [e] at hf; exact t.loop i c' lc' hc hf
 ·obtain ⟨id, hi, hf⟩ := q181.1 hj
  unfold q389 at hf
  cases e : Nat.beq lc.at_ (2 * id + 1) with
  | true =>
   rw [e] at hf
   injection hf with hf; subst hf
   have := y143 e
   have e2 : id = m := by omega
   subst e2
   have hb' : b ∈ q545 id c := List.mem_filter.2 ⟨hb, by unfold headIs; rw [hi]; exact Nat.beq_refl _⟩
   rw [he] at hb'
   have := y161.1 hb'
   subst this
   exact h
  | false => rw [e] at hf; exact t.join b hb lc' (q181.2 ⟨id, hi, hf⟩)
theorem q706 {P : Program} {S : FSem} (hS : q16 P S) (hr : S.rs = [.bool]) {k : Nat} {x : Args S.ps} {y : Tys S.rs × Upds S.ps} (hy : S.f k x = some y) (ht : ∀ w F (rs : List Value) (G : Bs), ResR w F S.rs y.1 rs G -> rs = [.bool true]) {w : World} {us : List Value} (hx : q386 w (fun _ => False) S.ps x us (fun _ => False)) :
  Calls P S.id us.toArray w fun e w' => e = .returned (.bool true) /\ RowKit.Below w.heap.size w w' := by
 refine (hS.calls k x y hy w (fun _ => False) (fun _ => False) (fun _ => False) us hx (fun b => ⟨fun h => h.elim, fun h => h.elim id id⟩) (fun _ h => h.elim) (fun _ h => h.elim)).mono ?_
 rintro e w' ⟨rs, F', G1, G2, he, hres, _, _, _, _, _, hap, hst, _⟩
 have := ht _ _ _ _ hres
 subst this
 exact ⟨he, ⟨hap.os, hap.tape, hap.output, hst.size, fun b hb => hst.out b (fun h => h) hb⟩⟩
theorem res_true {w : World} {F : Bs} {rs : List Value} {G : Bs} (h : ResR w F [.bool] (true, ()) rs G) : rs = [.bool true] := by
 obtain ⟨u, us, G1, G2, hu, ⟨hl, ha⟩, ⟨hus, _⟩, _⟩ := h
 subst hus
 have hl' : u.cells.toList = [.bool true] := hl.1
 have hn : ¬ ∃ us, u = .agg us := fun h => by have := ha.1 h; cases this
 have : u = .bool true := by
  cases u with
  | agg us => exact absurd ⟨us, rfl⟩ hn
  | bool b => simp [Value.cells] at hl'; rw [hl']
  | _ => simp [Value.cells] at hl'
 rw [hu, this]
end Go.Lf
namespace Go.Lf
end Go.Lf
namespace Go.Lf
def Fit : (τ : Ty) -> τ.den -> Prop
 | .int k, n => (Lit.int k n).wf = true
 | .bool, _ => True
 | .unit, _ => True
 | .pair a b, x => Fit a x.1 /\ Fit b x.2
 | .sl a, l => l.length <= 9223372036854775807 /\ ∀ x ∈ l, Fit a x
 | .ow _, _ => True
 | .bx _, _ => True
 | .mp _, _ => True
def q100 (rc : Ty -> TypeId -> Bool) (P : Program) : List Field -> Nat -> Ty -> Bool
 | [], _, _ => false
 | f :: l, off, τ => match l with
  | [] => f.offset == off && P.cellsOf f.type == τ.size && rc τ f.type
  | g :: l' => match τ with
   | .pair a b => f.offset == off && P.cellsOf f.type == a.size && rc a f.type && q100 rc P (g :: l') (off + a.size) b
   | _ => false
def q607 (P : Program) : Nat -> Ty -> TypeId -> Bool
 | 0, _, _ => false
 | n + 1, τ, t => match P.underlying t, τ with
  | some .bool, .bool => true
  | some (.int k), .int k' => kbeq k k'
  | some (.slice e), .sl a => q607 P n a e && P.cellsOf e == a.size && Nat.blt 0 a.size
  | some (.struct fs), .pair a b => Nat.blt 1 fs.toList.length && P.cellsOf t == (Ty.pair a b).size && q100 (q607 P n) P fs.toList 0 (.pair a b)
  | _, _ => false
theorem q362 {α : Type} {Q : Nat -> α -> Prop} : ∀ (n : Nat), (∀ i, i < n -> ∃ x, Q i x) -> ∃ l : List α, l.length = n /\ ∀ i x, l[i]? = some x -> Q i x
 | 0, _ => ⟨[], rfl, fun i x h => by simp at h⟩
 | n + 1, h => by
  obtain ⟨l, hl, hq⟩ := q362 n fun i hi => h i (by omega)
  obtain ⟨x, hx⟩ := h n (by omega)
  refine ⟨l ++ [x], by simp [hl], fun i y hy => ?_⟩
  by_cases hi : i < l.length
  ·rw [List.getElem?_append_left hi] at hy; exact hq i y hy
  ·rw [List.getElem?_append_right (by omega)] at hy
   have : i - l.length = 0 := by
    cases hd : i - l.length with
    | zero => rfl
    | succ m => rw [hd] at hy; simp at hy
   rw [this] at hy
   have e : i = n := by omega
   subst e
   simp at hy
   subst hy
   exact hx
section
variable {H : Type} {enc : TypeId × Value -> H} {P : Program} {W : World} {spare : Nat -> Bool} {held : Bool}
theorem q340 {b off n : Nat} {spot : Option Nat} {cs : List Value} (h : W.cells? 0 ⟨b, off, spot⟩ n = some cs) (hn : 0 < n) : ∃ row, RowS W b row /\ off + n <= row.size /\ seg row off n = cs /\ spot = none := by
 obtain ⟨_, hl, hc⟩ := World.cells?_some h
 have h0 := hc 0 hn
 have e0 : (⟨b, off, spot⟩ : Addr).add 0 = ⟨b, off, spot⟩ := by simp [Addr.add]
 rw [e0] at h0
 rw [y140 (by omega)] at h0
 unfold World.cell? at h0
 cases hb : W.heap[b]? with
 | none => simp [hb] at h0
 | some ob =>
  cases ob with
  | cells row t fr =>
   simp only [hb] at h0
   cases hs : spot with
   | some s => simp [hs] at h0
   | none =>
    have hcell : ∀ i, i < n -> row[off + i]? = cs[i]? := by
     intro i hi
     have := hc i hi
     unfold World.cell? at this
     rw [hs] at this
     have e1 : (⟨b, off, none⟩ : Addr).add i = ⟨b, off + i, none⟩ := by
      unfold Addr.add
      split
      ·rename_i h; rw [h]; rfl
      ·rfl
     rw [e1] at this
     simpa [hb] using this
    refine ⟨row, ⟨t, fr, hb⟩, ?_, ?_, rfl⟩
    ·have := hcell (n - 1) (by omega)
     rw [y140 (by omega)] at this
     have := (Array.getElem?_eq_some_iff.1 this).1
     omega
    ·apply List.ext_getElem?
     intro i
     unfold seg
     rw [List.getElem?_take]
     by_cases hi : i < n
     ·rw [if_pos hi, List.getElem?_drop, <- hcell i hi]; simp
     ·rw [if_neg hi, y158 (by omega)]
  | _ => simp [hb] at h0
theorem q255 {rc : Ty -> TypeId -> Bool} {T : TypeId -> List Value -> Option (DataW H × List MemPlace)} (hrec : ∀ τ t cs y, rc τ t = true -> T t cs = some y -> ∃ x, LR W (fun _ => False) τ x cs (fun _ => False) /\ Fit τ x) :
  ∀ (fs : List Field) (off : Nat) (τ : Ty) (cs : List Value) (ys : List (DataW H × List MemPlace)), q100 rc P fs off τ = true -> (cs.drop off).length = τ.size -> fs.mapM (fun f => T f.type ((cs.drop f.offset).take (P.cellsOf f.type))) = some ys ->
   ∃ x, LR W (fun _ => False) τ x (cs.drop off) (fun _ => False) /\ Fit τ x
 | [], _, _, _, _, h, _, _ => by cases h
 | [f], off, τ, cs, ys, h, hl, hm => by
  have h' : (f.offset == off && P.cellsOf f.type == τ.size && rc τ f.type) = true := h
  simp only [y144, beq_iff_eq] at h'
  obtain ⟨⟨h1, h2⟩, h3⟩ := h'
  have hg := mapM_some_get hm 0 f rfl
  have hlen := mapM_some_length hm
  cases ys with
  | nil => cases hlen
  | cons y ys =>
   have hy : T f.type ((cs.drop f.offset).take (P.cellsOf f.type)) = some y := hg
   rw [h1, h2, <- hl, List.take_length] at hy
   exact hrec τ f.type _ y h3 hy
 | f :: g :: l, off, τ, cs, ys, h, hl, hm => by
  cases τ with
  | pair a b =>
   have h' : (f.offset == off && P.cellsOf f.type == a.size && rc a f.type && q100 rc P (g :: l) (off + a.size) b) = true := h
   simp only [y144, beq_iff_eq] at h'
   obtain ⟨⟨⟨h1, h2⟩, h3⟩, h4⟩ := h'
   have hl' : (cs.drop off).length = a.size + b.size := hl
   rw [List.mapM_cons] at hm
   cases hy : T f.type ((cs.drop f.offset).take (P.cellsOf f.type)) with
   | none => rw [hy] at hm; cases hm
   | some y =>
    rw [hy] at hm
    cases hys : (g :: l).mapM (fun f => T f.type ((cs.drop f.offset).take (P.cellsOf f.type))) with
    | none => rw [hys] at hm; cases hm
    | some zs =>
     rw [h1, h2] at hy
     obtain ⟨x1, l1, f1⟩ := hrec a f.type _ y h3 hy
     have hdd : (cs.drop off).drop a.size = cs.drop (off + a.size) := by rw [List.drop_drop]
     obtain ⟨x2, l2, f2⟩ := q255 hrec (g :: l) (off + a.size) b cs zs h4 (by rw [<- hdd, List.length_drop]; omega) hys
     refine ⟨(x1, x2), ⟨(cs.drop off).take a.size, cs.drop (off + a.size), _, _, ?_, l1, l2, fun _ h => h.elim, fun n => ⟨fun h => h.elim, fun h => h.elim id id⟩⟩, f1, f2⟩
     rw [<- hdd, List.take_append_drop]
  | _ => cases h
theorem q533 : ∀ (fuel n : Nat) (τ : Ty) (t : TypeId) (cs : List Value) (y : DataW H × List MemPlace), q607 P n τ t = true -> DataW.trod enc P W 0 spare held fuel t cs = some y -> ∃ x, LR W (fun _ => False) τ x cs (fun _ => False) /\ Fit τ x
 | 0, _, _, _, _, _, _, h => by cases h
 | fuel + 1, 0, _, _, _, _, h, _ => by cases h
 | fuel + 1, n + 1, τ, t, cs, y, hc, h => by
  unfold q607 at hc
  split at hc
  ·rename_i hu
   cases cs with
   | nil => simp [DataW.trod, hu] at h
   | cons c l =>
    cases l with
    | cons => simp [DataW.trod, hu] at h
    | nil =>
     cases c <;> first
      | (simp [DataW.trod, hu] at h; done)
      | exact ⟨_, ⟨rfl, fun _ h => h⟩, trivial⟩
  ·rename_i k k' hu
   have hk := q202 hc
   subst hk
   cases cs with
   | nil => simp [DataW.trod, hu] at h
   | cons c l =>
    cases l with
    | cons => simp [DataW.trod, hu] at h
    | nil =>
     cases c <;> first
      | (simp [DataW.trod, hu] at h; done)
      | (
        rename_i k2 m
        simp only [DataW.trod, hu] at h
        split at h
        ·rename_i hk
         obtain ⟨rfl, hw⟩ := hk
         exact ⟨m, ⟨rfl, fun _ h => h⟩, hw⟩
        ·cases h)
  ·rename_i e a hu
   simp only [y144, beq_iff_eq] at hc
   obtain ⟨⟨h1, h2⟩, h3⟩ := hc
   have h3 : 0 < a.size := by simpa [Nat.blt_eq] using h3
   cases cs with
   | nil => simp [DataW.trod, hu] at h
   | cons c l =>
    cases l with
    | cons => simp [DataW.trod, hu] at h
    | nil =>
     cases c with
     | slice ad len cap =>
      cases ad with
      | none =>
       cases len with
       | zero => exact ⟨[], ⟨fun _ h => h, none, cap, by simp, .inl rfl⟩, by simp, fun x hx => by cases hx⟩
       | succ len => simp [DataW.trod, hu] at h
      | some x =>
       obtain ⟨blk, off, spot⟩ := x
       simp only [DataW.trod, hu] at h
       split at h
       ·rename_i hb
        cases hm : (List.range len).mapM (fun i => (W.cells? 0 ((⟨blk, off, spot⟩ : Addr).add (i * P.cellsOf e)) (P.cellsOf e)).bind (DataW.trod enc P W 0 spare held fuel e)) with
        | none => rw [hm] at h; cases h
        | some ys =>
         have hlen := mapM_some_length hm
         rw [List.length_range] at hlen
         have each : ∀ i, i < len -> ∃ x : a.den, ∃ row, RowS W blk row /\ off + (i + 1) * a.size <= row.size /\ spot = none /\ LR W (fun _ => False) a x (seg row (off + i * a.size) a.size) (fun _ => False) /\ Fit a x := by
          intro i hi
          have hg := mapM_some_get hm i i (by rw [List.getElem?_range hi])
          rw [y140 (by omega)] at hg
          cases hcs : W.cells? 0 ((⟨blk, off, spot⟩ : Addr).add (i * P.cellsOf e)) (P.cellsOf e) with
          | none => rw [hcs] at hg; cases hg
          | some ecs =>
           rw [hcs] at hg
           have hg' : DataW.trod enc P W 0 spare held fuel e ecs = some _ := hg
           obtain ⟨x, hx, hf⟩ := q533 fuel n a e ecs _ h1 hg'
           rw [h2] at hcs
           have first : ∃ row, RowS W blk row /\ off + i * a.size + a.size <= row.size /\ seg row (off + i * a.size) a.size = ecs := by
            by_cases hi0 : i * a.size = 0
            ·have e0 : (⟨blk, off, spot⟩ : Addr).add (i * a.size) = ⟨blk, off, spot⟩ := by rw [hi0]; simp [Addr.add]
             rw [e0] at hcs
             obtain ⟨row, r1, r2, r3, _⟩ := q340 hcs h3
             exact ⟨row, r1, by rw [hi0]; exact r2, by rw [hi0]; exact r3⟩
            ·have e0 : (⟨blk, off, spot⟩ : Addr).add (i * a.size) = ⟨blk, off + i * a.size, none⟩ := by unfold Addr.add; rw [if_neg hi0]
             rw [e0] at hcs
             obtain ⟨row, r1, r2, r3, _⟩ := q340 hcs h3
             exact ⟨row, r1, r2, r3⟩
           obtain ⟨row, r1, r2, r3⟩ := first
           have hsp : spot = none := by
            have hg0 := mapM_some_get hm 0 0 (by rw [List.getElem?_range (by omega)])
            rw [y140 (by omega)] at hg0
            have e0 : (⟨blk, off, spot⟩ : Addr).add (0 * P.cellsOf e) = ⟨blk, off, spot⟩ := by simp [Addr.add]
            rw [e0, h2] at hg0
            cases hc0 : W.cells? 0 ⟨blk, off, spot⟩ a.size with
            | none => rw [hc0] at hg0; cases hg0
            | some ec0 => exact (q340 hc0 h3).choose_spec.2.2.2
           exact ⟨x, row, r1, by rw [Nat.add_mul, Nat.one_mul]; omega, hsp, by rw [r3]; exact hx, hf⟩
         obtain ⟨l, hl, hq⟩ := q362 len each
         have hmax : maxLen = 9223372036854775807 := by decide
         refine ⟨l, ⟨fun _ h => h, some ⟨blk, off, spot⟩, cap - len, by rw [hl, Nat.add_sub_cancel' hb.2.1], ?_⟩, by omega, fun x hx => ?_⟩
         ·cases len with
          | zero => exact .inl (y153 hl)
          | succ m =>
           obtain ⟨x0, row, r1, r2, hsp, _⟩ := each m (by omega)
           refine .inr ⟨blk, off, row, by rw [hsp], fun h => h, r1, by rw [hl]; exact r2, fun i x hi => ?_⟩
           obtain ⟨row', r1', _, _, hx, _⟩ := hq i x hi
           have : row' = row := by
            obtain ⟨t1, f1, e1⟩ := r1
            obtain ⟨t2, f2, e2⟩ := r1'
            rw [e1] at e2
            injection e2 with e2; injection e2 with e3 _
            exact e3.symm
           subst this
           exact ⟨_, fun _ h => h, hx⟩
         ·obtain ⟨i, hi⟩ := List.getElem?_of_mem hx
          obtain ⟨_, _, _, _, _, hf⟩ := hq i x hi
          exact hf
       ·cases h
     | _ => simp [DataW.trod, hu] at h
  ·rename_i fs a b hu
   simp only [y144, beq_iff_eq] at hc
   obtain ⟨⟨h1, h2⟩, h3⟩ := hc
   simp only [DataW.trod, hu] at h
   split at h
   ·rename_i hlen
    cases hm : fs.toList.mapM (fun f => DataW.trod enc P W 0 spare held fuel f.type ((cs.drop f.offset).take (P.cellsOf f.type))) with
    | none => rw [hm] at h; cases h
    | some ys =>
     obtain ⟨x, hx, hf⟩ := q255 (T := fun t cs => DataW.trod enc P W 0 spare held fuel t cs) (fun τ t cs y => q533 fuel n τ t cs y) fs.toList 0 (.pair a b) cs ys h3 (by rw [y152, hlen, h2]) hm
     rw [y152] at hx
     exact ⟨x, hx, hf⟩
   ·cases h
  ·cases hc
theorem open_arg {n : Nat} {τ : Ty} {t : TypeId} {r : Reach} {b0 : Nat} {v : Value} {d : DataW H} {ps : List MemPlace} (hc : q607 P n τ t = true) (hval : Value.okWide P W r b0 t v) (h : DataW.Trod enc P W 0 spare held t v d ps) :
  ∃ x, ValR W (fun _ => False) τ x v (fun _ => False) /\ Fit τ x := by
 obtain ⟨fuel, hf⟩ := h
 obtain ⟨x, hx, hfit⟩ := q533 fuel n τ t _ _ hc hf
 refine ⟨x, ⟨hx, ?_⟩, hfit⟩
 cases n with
 | zero => cases hc
 | succ n =>
  unfold q607 at hc
  split at hc
  ·rename_i hu
   obtain ⟨b, rfl⟩ := WideShapes.okWide_bool hu hval
   exact ⟨fun ⟨_, h⟩ => (by cases h), fun h => (by cases h)⟩
  ·rename_i k k' hu
   obtain ⟨m, rfl⟩ := WideShapes.okWide_int hu hval
   exact ⟨fun ⟨_, h⟩ => (by cases h), fun h => (by cases h)⟩
  ·rename_i e a hu
   obtain ⟨ad, len, cap, rfl⟩ := WideShapes.okWide_slice hu hval
   exact ⟨fun ⟨_, h⟩ => (by cases h), fun h => (by cases h)⟩
  ·rename_i fs a b hu
   obtain ⟨us, rfl, _⟩ := WideShapes.okWide_struct hu hval
   exact ⟨fun _ => rfl, fun _ => ⟨us, rfl⟩⟩
  ·cases hc
end
end Go.Lf
