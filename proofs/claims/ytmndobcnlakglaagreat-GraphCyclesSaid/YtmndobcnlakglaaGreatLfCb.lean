import Derived.Test.YtmndobcnlakglaaGreatLfCa
import Derived.Laws.MakeOwn
import Derived.Great.BuildSlice
import Derived.Laws.AppendOwn
set_option linter.unusedVariables false
namespace Go.Lf
theorem q47 {α : Type} (k : Nat) (x : α) (l : List (Nat × α)) : get k (put k x l) = some x := by
 simp [put, get]
theorem q33 {α : Type} {k q : Nat} (x : α) (h : k ≠ q) (l : List (Nat × α)) : get q (put k x l) = get q l := by
 have : Nat.beq k q = false := by cases e : Nat.beq k q with | true => exact absurd (y143 e) h | false => rfl
 simp [put, get, this]
theorem q200 {α : Type} (k : Nat) : ∀ l : List (Nat × α), get k (del k l) = none
 | [] => rfl
 | (j, y) :: l => by
  unfold del
  cases h : Nat.beq j k with
  | true => exact q200 k l
  | false => simp [get, h, q200 k l]
theorem q96 {α : Type} {k q : Nat} (h : k ≠ q) : ∀ l : List (Nat × α), get q (del k l) = get q l
 | [] => rfl
 | (j, y) :: l => by
  unfold del
  cases e : Nat.beq j k with
  | true =>
   have e1 := y143 e
   subst e1
   have : Nat.beq j q = false := by cases e : Nat.beq j q with | true => exact absurd (y143 e) h | false => rfl
   simp only [cond]
   rw [q96 h l]
   simp [get, this]
  | false =>
   simp only [cond, get]
   rw [q96 h l]
theorem q38 : ∀ (d d' : q32) (obs : List (Nat × Ob)), q21 (d ++ d') obs = q21 d' (q21 d obs)
 | [], _, _ => rfl
 | (k, some o) :: d, d', obs => q38 d d' (put k o obs)
 | (k, none) :: d, d', obs => q38 d d' (del k obs)
theorem q25 : ∀ (d d' : q32), q15 (d ++ d') = q15 d ++ q15 d'
 | [], _ => rfl
 | (k, _) :: d, d' => by simp [q15, q25 d d']
theorem q48 {q : Nat} : ∀ (d : q32) (obs : List (Nat × Ob)), q ∉ q15 d -> get q (q21 d obs) = get q obs
 | [], _, _ => rfl
 | (k, some o) :: d, obs, h => by
  have h1 : k ≠ q := fun e => h (by simp [q15, e])
  have h2 : q ∉ q15 d := fun e => h (by simp [q15, e])
  show get q (q21 d (put k o obs)) = _
  rw [q48 d _ h2, q33 o h1]
 | (k, none) :: d, obs, h => by
  have h1 : k ≠ q := fun e => h (by simp [q15, e])
  have h2 : q ∉ q15 d := fun e => h (by simp [q15, e])
  show get q (q21 d (del k obs)) = _
  rw [q48 d _ h2, q96 h1]
theorem q36 {q : Nat} : ∀ (d : q32) (obs obs' : List (Nat × Ob)), get q obs' = get q obs -> get q (q21 d obs') = get q (q21 d obs)
 | [], _, _, h => h
 | (k, some o) :: d, obs, obs', h => by
  refine q36 d _ _ ?_
  by_cases e : k = q
  ·subst e; rw [q47, q47]
  ·rw [q33 o e, q33 o e, h]
 | (k, none) :: d, obs, obs', h => by
  refine q36 d _ _ ?_
  by_cases e : k = q
  ·subst e; rw [q200, q200]
  ·rw [q96 e, q96 e, h]
structure ObsA (w : World) (E FA F : Bs) (β : Nat -> Option (Nat × Nat)) (obs : List (Nat × Ob)) (Gk : Nat -> Bs) : Prop where
 rel : ∀ k o, get k obs = some o -> ObR w FA o (β k) (Gk k)
 dj : ∀ k k' o o', get k obs = some o -> get k' obs = some o' -> k ≠ k' -> Dj (Gk k) (Gk k')
 cov : ∀ b, F b ↔ E b \/ ∃ k o, get k obs = some o /\ Gk k b
 out : ∀ k o, get k obs = some o -> Dj (Gk k) E
 elt : ∀ b, E b -> b < w.heap.size
theorem ObsR.a {w : World} {E : Bs} {F : Bs} {β : Nat -> Option (Nat × Nat)} {obs : List (Nat × Ob)} {Gk : Nat -> Bs} (h : ObsR w E F β obs Gk) : ObsA w E F F β obs Gk := ⟨h.rel, h.dj, h.cov, h.out, h.elt⟩
theorem ObsA.r {w : World} {E : Bs} {F : Bs} {β : Nat -> Option (Nat × Nat)} {obs : List (Nat × Ob)} {Gk : Nat -> Bs} (h : ObsA w E F F β obs Gk) : ObsR w E F β obs Gk := ⟨h.rel, h.dj, h.cov, h.out, h.elt⟩
structure Took (w : World) (E : Bs) (β : Nat -> Option (Nat × Nat)) (FA F : Bs) (obs : List (Nat × Ob)) (FA1 F1 G : Bs) (obs1 : List (Nat × Ob)) (Gk1 : Nat -> Bs) : Prop where
 ob : ObsA w E FA1 F1 β obs1 Gk1
 sub : ∀ b, FA1 b -> FA b
 lost : ∀ b, FA b -> ¬ FA1 b -> F b /\ ¬ F1 b /\ ¬ G b
 less : ∀ b, F1 b -> F b
 got : ∀ b, G b -> F b
 dj : Dj G F1
 keep : ∀ r, q46 w β obs w β obs1 r
theorem Ob.like.trans {a b c : Ob} (h : a.like b) (k : b.like c) : a.like c := by
 cases a <;> cases b <;> cases c <;> first | trivial | exact h.elim | exact k.elim | exact ⟨h.1.trans k.1, h.2.trans k.2⟩
theorem q46.trans {w w' w'' : World} {β β' β'' : Nat -> Option (Nat × Nat)} {obs obs' obs'' : List (Nat × Ob)} {r : Ref} (h : q46 w β obs w' β' obs' r) (k : q46 w' β' obs' w'' β'' obs'' r) : q46 w β obs w'' β'' obs'' r := by
 intro o'' loc h2
 obtain ⟨o', h1, l1, s1⟩ := k o'' loc h2
 obtain ⟨o, h0, l0, s0⟩ := h o' loc h1
 refine ⟨o, h0, l0.trans l1, fun b off hl row hr => ?_⟩
 obtain ⟨row', hr', hs'⟩ := s0 b off hl row hr
 obtain ⟨row'', hr'', hs''⟩ := s1 b off hl row' hr'
 exact ⟨row'', hr'', hs''.trans hs'⟩
theorem Took.refl {w : World} {E : Bs} {β : Nat -> Option (Nat × Nat)} {FA F : Bs} {obs : List (Nat × Ob)} {Gk : Nat -> Bs} (h : ObsA w E FA F β obs Gk) : Took w E β FA F obs FA F (fun _ => False) obs Gk :=
 ⟨h, fun _ h => h, fun _ h h' => absurd h h', fun _ h => h, fun _ h => h.elim, fun _ h => h.elim, fun r => q46.refl w β obs r⟩
theorem Took.trans {w : World} {E : Bs} {β : Nat -> Option (Nat × Nat)} {FA F FA1 F1 G1 FA2 F2 G2 : Bs} {obs obs1 obs2 : List (Nat × Ob)} {Gk1 Gk2 : Nat -> Bs}
  (h : Took w E β FA F obs FA1 F1 G1 obs1 Gk1) (k : Took w E β FA1 F1 obs1 FA2 F2 G2 obs2 Gk2) : Took w E β FA F obs FA2 F2 (fun b => G1 b \/ G2 b) obs2 Gk2 := by
 refine ⟨k.ob, fun b hb => h.sub b (k.sub b hb), fun b hb hn => ?_, fun b hb => h.less b (k.less b hb), fun b hb => hb.elim (h.got b) fun hb => h.less b (k.got b hb), fun b hb h2 => ?_, fun r => (h.keep r).trans (k.keep r)⟩
 ·by_cases c : FA1 b
  ·obtain ⟨h1, h2, h3⟩ := k.lost b c hn
   exact ⟨h.less b h1, h2, fun hg => hg.elim (fun hg => h.dj b hg h1) h3⟩
  ·obtain ⟨h1, h2, h3⟩ := h.lost b hb c
   exact ⟨h1, fun h' => h2 (k.less b h'), fun hg => hg.elim h3 fun hg => h2 (k.got b hg)⟩
 ·rcases hb with hb | hb
  ·exact h.dj b hb (k.less b h2)
  ·exact k.dj b hb h2
theorem Took.djG {w : World} {E : Bs} {β : Nat -> Option (Nat × Nat)} {FA F FA1 F1 G1 FA2 F2 G2 : Bs} {obs obs1 obs2 : List (Nat × Ob)} {Gk1 Gk2 : Nat -> Bs}
  (h : Took w E β FA F obs FA1 F1 G1 obs1 Gk1) (k : Took w E β FA1 F1 obs1 FA2 F2 G2 obs2 Gk2) : Dj G1 G2 := fun b hb h2 => h.dj b hb (k.got b h2)
theorem Took.iff {w : World} {E : Bs} {β : Nat -> Option (Nat × Nat)} {FA F FA1 F1 G G' : Bs} {obs obs1 : List (Nat × Ob)} {Gk1 : Nat -> Bs} (h : Took w E β FA F obs FA1 F1 G obs1 Gk1) (e : ∀ b, G' b ↔ G b) : Took w E β FA F obs FA1 F1 G' obs1 Gk1 :=
 ⟨h.ob, h.sub, fun b hb hn => let ⟨h1, h2, h3⟩ := h.lost b hb hn; ⟨h1, h2, fun h => h3 ((e b).1 h)⟩, h.less, fun b hb => h.got b ((e b).1 hb), fun b hb => h.dj b ((e b).1 hb), h.keep⟩
theorem Took.drop {w : World} {E : Bs} {β : Nat -> Option (Nat × Nat)} {FA F FA1 F1 G G' : Bs} {obs obs1 : List (Nat × Ob)} {Gk1 : Nat -> Bs} (h : Took w E β FA F obs FA1 F1 G obs1 Gk1) (e : ∀ b, G' b -> G b) :
  Took w E β FA F obs (fun b => FA1 b /\ (G b -> G' b)) F1 G' obs1 Gk1 := by
 have hst : ∀ H : Bs, Stay w FA1 w (fun b => FA1 b /\ (G b -> G' b)) H := fun H => ⟨Nat.le_refl _, fun _ _ => rfl, fun _ _ _ => rfl, fun b hb => .inl hb.1⟩
 refine ⟨⟨fun k o hk => (h.ob.rel k o hk).keep (hst _), h.ob.dj, h.ob.cov, h.ob.out, h.ob.elt⟩, fun b hb => h.sub b hb.1, fun b hb hn => ?_, h.less, fun b hb => h.got b (e b hb), fun b hb => h.dj b (e b hb), h.keep⟩
 by_cases c : FA1 b
 ·have : G b /\ ¬ G' b := by
   refine y146 fun hc => hn ⟨c, fun hg => y146 fun hg' => hc ⟨hg, hg'⟩⟩
  exact ⟨h.got b this.1, h.dj b this.1, this.2⟩
 ·obtain ⟨h1, h2, h3⟩ := h.lost b hb c
  exact ⟨h1, h2, fun hg => h3 (e b hg)⟩
section
variable {w : World} {E : Bs} {β : Nat -> Option (Nat × Nat)} {FA F FA1 F1 G : Bs} {obs obs1 : List (Nat × Ob)} {Gk Gk1 : Nat -> Bs}
theorem q131 (h : ObsA w E FA F β obs Gk) (hF : ∀ b, F b -> FA b) {k : Nat} {o : Ob} (hg : get k obs = some o) :
  Took w E β FA F obs FA (fun b => F b /\ ¬ Gk k b) (Gk k) (del k obs) Gk := by
 have hne : ∀ q o', get q (del k obs) = some o' -> q ≠ k /\ get q obs = some o' := by
  intro q o' hq
  by_cases e : q = k
  ·subst e; rw [q200] at hq; cases hq
  ·exact ⟨e, by rw [q96 (Ne.symm e)] at hq; exact hq⟩
 refine ⟨⟨fun q o' hq => h.rel q o' (hne q o' hq).2, fun q q' o1 o2 h1 h2 => h.dj q q' o1 o2 (hne q o1 h1).2 (hne q' o2 h2).2, fun b => ?_, fun q o' hq => h.out q o' (hne q o' hq).2, h.elt⟩, fun _ h => h, fun b hb hn => absurd hb hn, fun b hb => hb.1, fun b hb => (h.cov b).2 (.inr ⟨k, o, hg, hb⟩), fun b hb h2 => h2.2 hb, fun r => ?_⟩
 ·constructor
  ·rintro ⟨hb, hn⟩
   rcases (h.cov b).1 hb with hE | ⟨q, o', hq, hqb⟩
   ·exact .inl hE
   have hqk : q ≠ k := fun e => hn (e ▸ hqb)
   exact .inr ⟨q, o', by rw [q96 (Ne.symm hqk)]; exact hq, hqb⟩
  ·rintro (hE | ⟨q, o', hq, hqb⟩)
   ·exact ⟨(h.cov b).2 (.inl hE), fun hk => h.out k o hg b hk hE⟩
   obtain ⟨e, hq'⟩ := hne q o' hq
   exact ⟨(h.cov b).2 (.inr ⟨q, o', hq', hqb⟩), fun hk => h.dj q k o' o hq' hg e b hqb hk⟩
 ·intro o' loc hl
  have : q34 w β obs r = some (o', loc) := by
   unfold q34 at hl ⊢
   cases hq : get r.root (del k obs) with
   | none => rw [hq] at hl; cases hl
   | some o2 => rw [hq] at hl; rw [(hne _ _ hq).2]; exact hl
  exact ⟨o', this, Ob.like.refl o', fun _ _ _ row hr => ⟨row, hr, rfl⟩⟩
theorem share {τ : Ty} {l : List τ.den} {loc : Option (Nat × Nat)} {u : Value} {off n : Nat} (ha : q246 w τ.size (LR w FA τ) l loc G) (hh : Hd w τ.size loc off n u) (hp : τ.plain = true) (hn : off + n <= l.length)
  (F' : Bs) (hF : ∀ b, F' b -> FA b) (ho : ∀ b, G b -> ¬ F' b) : LR w F' (.sl τ) ((l.drop off).take n) [u] (fun _ => False) := by
 obtain ⟨ad, cap, hu, hd⟩ := hh
 have hlen : ((l.drop off).take n).length = n := by rw [y154, List.length_drop]; omega
 have hc : n <= cap := by rcases hd with ⟨h1, h2⟩ | ⟨_, _, _, _, _, _, h, _⟩ <;> omega
 refine ⟨fun _ h => h, ad, cap - n, by rw [hu, hlen, Nat.add_sub_cancel' hc], ?_⟩
 rcases hd with ⟨h1, h2⟩ | ⟨b, c, row, hl, hr, had, _, hs⟩
 ·exact .inl (y153 (by omega))
 ·subst hl
  obtain ⟨row2, Gs, hr2, hs2, hx, he, hdj, hb, hG⟩ := ha
  have e := hr.eq hr2
  subst e
  refine .inr ⟨b, c + off * τ.size, row, had, ho b ((hG b).2 (.inl rfl)), hr.s, ?_, fun i x hi => ?_⟩
  ·rw [hlen]
   have : (off + n) * τ.size <= l.length * τ.size := y162 _ hn
   rw [Nat.add_mul] at this
   omega
  ·rw [List.getElem?_take] at hi
   split at hi
   ·rw [List.getElem?_drop] at hi
    have := hx (off + i) x hi
    refine ⟨Gs (off + i), LR.plain τ _ _ _ hp this, ?_⟩
    rw [Nat.add_mul, <- Nat.add_assoc] at this
    exact this.sub hF
   ·cases hi
end
end Go.Lf
namespace Go.Lf
theorem q102 {j q : Nat} {vs fs : List V} (h : j + vs.length <= fs.length) : (q43 j vs fs)[q]? = if q < j then fs[q]? else if q < j + vs.length then vs[q - j]? else fs[q]? := by
 unfold q43
 rw [y171, y171]
 simp only [y148, y154]
 have hm : min j fs.length = j := by omega
 rw [hm]
 by_cases c1 : q < j
 ·rw [if_pos (by omega), if_pos c1, List.getElem?_take, if_pos c1, if_pos c1]
 ·by_cases c2 : q < j + vs.length
  ·rw [if_pos c2, if_neg c1, if_neg c1, if_pos c2]
  ·rw [if_neg c2, if_neg c1, if_neg c2, List.getElem?_drop]
   congr 1
   omega
section
variable {w : World} {E : Bs} {β : Nat -> Option (Nat × Nat)} {FA F FA1 F1 G : Bs} {obs obs1 : List (Nat × Ob)} {Gk Gk1 : Nat -> Bs}
theorem q616 {k j : Nat} {t : Option Ty} {fs : List V} {τ : Ty} {l : List τ.den} (hg : get k obs = some (.box t fs)) (hj : j < fs.length) (r : Ref) :
  q46 w β obs w β (put k (.box t (q43 j [.sl τ l] fs)) obs) r := by
 intro o' loc hl
 by_cases e : k = r.root
 ·subst e
  have hl' : way w (.box t (q43 j [.sl τ l] fs)) (β r.root) r.path = some (o', loc) := by
   unfold q34 at hl
   rw [q47] at hl
   exact hl
  have goal : ∀ p, way w (.box t (q43 j [.sl τ l] fs)) (β r.root) p = some (o', loc) -> ∃ o, way w (.box t fs) (β r.root) p = some (o, loc) /\ o.like o' := by
   intro p hp
   cases p with
   | nil =>
    injection hp with hp; injection hp with h1 h2; subst h1; subst h2
    exact ⟨_, rfl, trivial⟩
   | cons ij p =>
    obtain ⟨i1, j1⟩ := ij
    refine ⟨o', ?_, Ob.like.refl o'⟩
    cases hb : β r.root with
    | none => rw [hb] at hp; cases hp
    | some bo =>
     obtain ⟨b, off⟩ := bo
     rw [hb] at hp
     simp only [way, q35, ix] at hp ⊢
     rw [q102 (vs := [V.sl τ l]) (show j + 1 <= fs.length from hj)] at hp
     by_cases c1 : j1 < j
     ·rw [if_pos c1] at hp; exact hp
     ·rw [if_neg c1] at hp
      by_cases c2 : j1 < j + 1
      ·have : j1 - j = 0 := by omega
       have c3 : j1 < j + [V.sl τ l].length := by simpa using c2
       rw [if_pos c3, this] at hp
       simp at hp
      ·have c3 : ¬ j1 < j + [V.sl τ l].length := by simpa using c2
       rw [if_neg c3] at hp; exact hp
  obtain ⟨o, ho, hlike⟩ := goal r.path hl'
  refine ⟨o, ?_, hlike, fun _ _ _ row hr => ⟨row, hr, rfl⟩⟩
  unfold q34
  rw [hg]
  exact ho
 ·have : q34 w β obs r = some (o', loc) := by
   unfold q34 at hl ⊢
   rw [q33 _ e] at hl
   exact hl
  exact ⟨o', this, Ob.like.refl o', fun _ _ _ row hr => ⟨row, hr, rfl⟩⟩
theorem Hd.same {sz n : Nat} {loc : Option (Nat × Nat)} {u : Value} {l : Nat} (h : Hd w sz loc 0 n u) (hn : n = l) : Hd w sz loc 0 l u := hn ▸ h
theorem q348 {R : Type} {K : V -> q32 -> Option R} {r : R} (h : ObsA w E FA F β obs Gk) (hF : ∀ b, F b -> FA b) {v : V} {u : Value} (hv : VRl w β obs FA v u) (hk : q243 obs v K = some r) :
  ∃ v' d FA1 F1 G Gk1, K v' d = some r /\ (∀ (R' : Type) (K' : V -> q32 -> Option R') (obs' : List (Nat × Ob)), (∀ q ∈ q15 d, get q obs' = get q obs) -> q243 obs' v K' = K' v' d) /\
   Took w E β FA F obs FA1 F1 G (q21 d obs) Gk1 /\ LfR w FA1 v' u G /\ v' ≠ .undef /\ ∀ q ∈ q15 d, get q obs ≠ none := by
 have plain : ∀ (v' : V), K v' [] = some r -> (∀ (R' : Type) (K' : V -> q32 -> Option R') (obs' : List (Nat × Ob)), q243 obs' v K' = K' v' []) -> LfR w FA v' u (fun _ => False) -> v' ≠ .undef ->
   ∃ v' d FA1 F1 G Gk1, K v' d = some r /\ (∀ (R' : Type) (K' : V -> q32 -> Option R') (obs' : List (Nat × Ob)), (∀ q ∈ q15 d, get q obs' = get q obs) -> q243 obs' v K' = K' v' d) /\
   Took w E β FA F obs FA1 F1 G (q21 d obs) Gk1 /\ LfR w FA1 v' u G /\ v' ≠ .undef /\ ∀ q ∈ q15 d, get q obs ≠ none :=
  fun v' h1 h2 h3 hnu => ⟨v', [], FA, F, fun _ => False, Gk, h1, fun R' K' obs' _ => h2 R' K' obs', Took.refl h, h3, hnu, fun q hq => by cases hq⟩
 unfold q243 at hk
 split at hk
 ·exact plain _ hk (fun _ _ _ => rfl) ⟨hv, fun _ h => h⟩ nofun
 ·exact plain _ hk (fun _ _ _ => rfl) ⟨hv, fun _ h => h⟩ nofun
 ·exact plain _ hk (fun _ _ _ => rfl) ⟨hv, fun _ h => h⟩ nofun
 ·exact plain _ hk (fun _ _ _ => rfl) ⟨hv, fun _ h => h⟩ nofun
 ·exact plain _ hk (fun _ _ _ => rfl) ⟨hv, fun _ h => h⟩ nofun
 ·rename_i τ l
  obtain ⟨G, hl⟩ := hv
  exact plain _ hk (fun _ _ _ => rfl) ⟨fun _ h => h, hl.2⟩ nofun
 ·
  rename_i k n
  split at hk
  ·rename_i τ l hg
   obtain ⟨ad, cap, hu, hall⟩ := hv
   have hat : q34 w β obs ⟨k, []⟩ = some (.arr τ l, β k) := by simp [q34, hg, way]
   obtain ⟨τ', l', e, hh, _, hw⟩ := hall _ _ hat
   injection e with e1 e2; subst e1
   have e2 := eq_of_heq e2; subst e2
   have hn := (hw rfl).2
   have hrel := h.rel k _ hg
   have hrel' : q246 w τ.size (LR w FA τ) l (β k) (Gk k) := hrel
   have hst : ∀ (R' : Type) (K' : V -> q32 -> Option R') (obs' : List (Nat × Ob)), (∀ q ∈ q15 [(k, (none : Option Ob))], get q obs' = get q obs) -> q243 obs' (.hs ⟨k, []⟩ 0 n true) K' = K' (.ow τ l) [(k, none)] := by
    intro R' K' obs' hq
    unfold q243
    simp only [hq k (by simp [q15]), hg]
   have hex : ∀ q ∈ q15 [(k, (none : Option Ob))], get q obs ≠ none := by
    intro q hq
    simp [q15] at hq
    subst hq
    rw [hg]; exact fun e => by cases e
   have htook := q131 h hF hg
   obtain ⟨ad', cap', hu', hd⟩ := id hh
   rw [hu] at hu'; injection hu' with e1 e2 e3; subst e1; subst e3
   have empty : n = 0 /\ cap = 0 -> ∃ v' d FA1 F1 G Gk1, K v' d = some r /\ (∀ (R' : Type) (K' : V -> q32 -> Option R') (obs' : List (Nat × Ob)), (∀ q ∈ q15 d, get q obs' = get q obs) -> q243 obs' (.hs ⟨k, []⟩ 0 n true) K' = K' v' d) /\
     Took w E β FA F obs FA1 F1 G (q21 d obs) Gk1 /\ LfR w FA1 v' u G /\ v' ≠ .undef /\ ∀ q ∈ q15 d, get q obs ≠ none := by
    rintro ⟨h0, hc⟩
    refine ⟨_, _, _, _, fun _ => False, Gk, hk, hst, htook.drop (fun b hb => hb.elim), ?_, nofun, hex⟩
    have hlu : q198 u = none := by rw [hu, hc]; cases ad <;> rfl
    have hl0 : l = [] := y153 (by omega)
    refine ⟨u, rfl, ⟨ad, cap, by rw [hu, hn], .inl ⟨by omega, hc⟩⟩, ?_⟩
    rw [hlu]
    exact ⟨hl0, fun _ h => h⟩
   rcases hd with hd | ⟨b, c, row, hloc, hrow, had, hnc, hsz⟩
   ·exact empty hd
   ·by_cases hc : cap = 0
    ·exact empty ⟨by omega, hc⟩
    ·have hlu : q198 u = β k := by
      rw [hu, had, hloc]
      simp [q198, hc]
     refine ⟨_, _, _, _, _, _, hk, hst, htook, ?_, nofun, hex⟩
     refine ⟨u, rfl, ?_, ?_⟩
     ·rw [hlu]; exact hh.same hn
     ·rw [hlu]; exact hrel'
  ·cases hk
 ·
  rename_i k j n
  split at hk
  ·rename_i t fs hg
   split at hk
   ·rename_i τ l hj
    cases hp : τ.plain with
    | false => rw [hp] at hk; cases hk
    | true =>
     rw [hp] at hk
     simp only [cond] at hk
     obtain ⟨ad, cap, hu, hall⟩ := hv
     obtain ⟨b, row, G', hloc, hrow, hls, hnb, hG⟩ := h.rel k _ hg
     have hjl : j < fs.length := (y149.1 hj).1
     have hlen := hls.length
     have hls0 := hls
     rw [q87 fs j 1] at hls
     obtain ⟨c1, c23, G1, G23, hc, h1, h23, hd1, hG1⟩ := hls.split
     obtain ⟨c2, c3, G2, G3, hc', h2, h3, hd2, hG2⟩ := h23.split
     have ej : (fs.drop j).take 1 = [.ow τ l] := by
      rw [y147 hjl]
      have := (y149.1 hj).2
      simp [this]
     rw [ej] at h2
     obtain ⟨u2, hu2, hlf⟩ := LsR.one_inv h2
     subst hu2
     obtain ⟨u3, hu3, hh3, ha3⟩ := id hlf
     injection hu3 with hu3; subst hu3
     have l1 : c1.length = j := by rw [h1.length, y154]; omega
     have hrj : row[j]? = some u2 := by
      have : row.toList[j]? = some u2 := by rw [hc, hc', List.getElem?_append_right (by omega), l1, Nat.sub_self]; rfl
      simpa using this
     have hat : q34 w β obs ⟨k, [(0, j)]⟩ = some (.arr τ l, q198 u2) := by
      unfold q34
      simp only [hg, hloc]
      have hcell : w.cell? ⟨b, 0 + ix (.box t fs) 0 j, none⟩ = some u2 := by
       simp only [ix, Nat.zero_add]
       exact q42 hrow.s hrj
      rw [q223 (v := .ow τ l) (u := u2) (o1 := .arr τ l) (show q35 (.box t fs) 0 j = some (.ow τ l) from hj) hcell rfl hlf]
      rfl
     obtain ⟨τ', l', e, hh, _, hw⟩ := hall _ _ hat
     injection e with e1 e2; subst e1
     have e2 := eq_of_heq e2; subst e2
     have hn := (hw rfl).2
     have hsub2 : ∀ q, G2 q -> Gk k q := fun q hq => (hG q).2 (.inr ((hG1 q).2 (.inr ((hG2 q).2 (.inl hq)))))
     have hF1 : ∀ q, (fun q => FA q /\ ¬ G2 q) q -> FA q := fun q hq => hq.1
     have hsh : LR w (fun q => FA q /\ ¬ G2 q) (.sl τ) l [u2] (fun _ => False) := by
      have := share (off := 0) (n := l.length) ha3 hh3 hp (by omega) _ hF1 (fun q hq hf => hf.2 hq)
      simpa using this
     have hsh2 : LR w (fun q => FA q /\ ¬ G2 q) (.sl τ) l [u] (fun _ => False) := by
      have := share (off := 0) (n := l.length) ha3 (hh.same hn) hp (by omega) _ hF1 (fun q hq hf => hf.2 hq)
      simpa using this
     have hnew : LsR w (fun q => FA q /\ ¬ G2 q) (q43 j [.sl τ l] fs) row.toList (fun q => G1 q \/ G3 q) := by
      rw [hc, hc']
      have hA : LsR w (fun q => FA q /\ ¬ G2 q) ([.sl τ l] ++ fs.drop (j + 1)) ([u2] ++ c3) (fun q => False \/ G3 q) := LsR.append (LsR.one hsh) (h3.sub hF1) (fun _ h => h.elim)
      have hB := LsR.append (h1.sub hF1) hA (fun q hq hq' => hq'.elim id fun h => hd1 q hq ((hG2 q).2 (.inr h)))
      have hE : q43 j [.sl τ l] fs = fs.take j ++ ([.sl τ l] ++ fs.drop (j + 1)) := by unfold q43; rw [List.append_assoc]; rfl
      rw [hE]
      exact hB.iff fun q => ⟨fun h => h.imp id .inr, fun h => h.imp id fun h => h.elim False.elim id⟩
     have sub : ∀ q o', get q (put k (.box t (q43 j [.sl τ l] fs)) obs) = some o' -> (∃ o, get q obs = some o) /\ ∀ c, (if q = k then (fun c => c = b \/ (G1 c \/ G3 c)) else Gk q) c -> Gk q c := by
      intro q o' hq
      by_cases e : q = k
      ·subst e
       refine ⟨⟨_, hg⟩, fun c hc => ?_⟩
       rw [if_pos rfl] at hc
       rcases hc with e | hc | hc
       ·exact (hG c).2 (.inl e)
       ·exact (hG c).2 (.inr ((hG1 c).2 (.inl hc)))
       ·exact (hG c).2 (.inr ((hG1 c).2 (.inr ((hG2 c).2 (.inr hc)))))
      ·rw [q33 _ (Ne.symm e)] at hq
       exact ⟨⟨_, hq⟩, fun c hc => by rw [if_neg e] at hc; exact hc⟩
     refine ⟨.sl τ l, _, fun q => FA q /\ ¬ G2 q, fun q => F q /\ ¬ G2 q, fun _ => False, fun q => if q = k then (fun c => c = b \/ (G1 c \/ G3 c)) else Gk q, hk, fun R' K' obs' hq => ?_, ⟨⟨fun q o' hq => ?_, fun q q' o1 o2 h1 h2 hne => ?_, fun c => ?_, fun q o' hq => ?_, h.elt⟩, fun c hc => hc.1, fun c hc hn => ?_, fun c hc => hc.1, fun c hc => hc.elim, fun c hc => hc.elim, fun r => q616 hg hjl r⟩, hsh2, nofun, fun q hq => ?_⟩
     ·unfold q243
      simp only [hq k (by simp [q15]), hg, hj, hp, cond]
     ·have hq' : get q (put k (.box t (q43 j [.sl τ l] fs)) obs) = some o' := hq
      by_cases e : q = k
      ·subst e
       rw [q47] at hq'
       injection hq' with hq'; subst hq'
       simp only [if_true]
       exact ⟨b, row, _, hloc, hrow, hnew, fun h => hnb (h.elim (fun h => (hG1 b).2 (.inl h)) fun h => (hG1 b).2 (.inr ((hG2 b).2 (.inr h)))), fun n => Iff.rfl⟩
      ·rw [q33 _ (Ne.symm e)] at hq'
       simp only [if_neg e]
       exact (h.rel q o' hq').keep (Stay.less' hF1)
     ·obtain ⟨⟨p1, hp1⟩, s1⟩ := sub q o1 h1
      obtain ⟨⟨p2, hp2⟩, s2⟩ := sub q' o2 h2
      exact fun c hc hc' => h.dj q q' p1 p2 hp1 hp2 hne c (s1 c hc) (s2 c hc')
     ·constructor
      ·rintro ⟨hf, hn2⟩
       rcases (h.cov c).1 hf with hE | ⟨q, o', hq, hqc⟩
       ·exact .inl hE
       by_cases e : q = k
       ·subst e
        refine .inr ⟨q, _, q47 _ _ _, ?_⟩
        rw [if_pos rfl]
        rcases (hG c).1 hqc with e | hc
        ·exact .inl e
        ·rcases (hG1 c).1 hc with hc | hc
         ·exact .inr (.inl hc)
         ·rcases (hG2 c).1 hc with hc | hc
          ·exact absurd hc hn2
          ·exact .inr (.inr hc)
       ·exact .inr ⟨q, o', by show get q (put k _ obs) = _; rw [q33 _ (Ne.symm e)]; exact hq, by rw [if_neg e]; exact hqc⟩
      ·rintro (hE | ⟨q, o', hq, hqc⟩)
       ·exact ⟨(h.cov c).2 (.inl hE), fun h2 => h.out k _ hg c (hsub2 c h2) hE⟩
       have hq' : get q (put k (.box t (q43 j [.sl τ l] fs)) obs) = some o' := hq
       by_cases e : q = k
       ·subst e
        rw [if_pos rfl] at hqc
        refine ⟨(h.cov c).2 (.inr ⟨q, _, hg, ?_⟩), fun h2 => ?_⟩
        ·rcases hqc with e | hc | hc
         ·exact (hG c).2 (.inl e)
         ·exact (hG c).2 (.inr ((hG1 c).2 (.inl hc)))
         ·exact (hG c).2 (.inr ((hG1 c).2 (.inr ((hG2 c).2 (.inr hc)))))
        ·rcases hqc with e | hc | hc
         ·exact hnb (e ▸ (hG1 c).2 (.inr ((hG2 c).2 (.inl h2))))
         ·exact hd1 c hc ((hG2 c).2 (.inl h2))
         ·exact hd2 c h2 hc
       ·rw [q33 _ (Ne.symm e)] at hq'
        rw [if_neg e] at hqc
        exact ⟨(h.cov c).2 (.inr ⟨q, o', hq', hqc⟩), fun h2 => h.dj q k o' _ hq' hg e c hqc (hsub2 c h2)⟩
     ·obtain ⟨⟨p1, hp1⟩, s1⟩ := sub q o' hq
      exact fun c hc hE => h.out q p1 hp1 c (s1 c hc) hE
     ·have h2 : G2 c := y146 fun hc' => hn ⟨hc, hc'⟩
      exact ⟨(h.cov c).2 (.inr ⟨k, _, hg, hsub2 c h2⟩), fun hf => hf.2 h2, id⟩
     ·simp [q15] at hq
      subst hq
      rw [hg]; exact fun e => by cases e
   ·cases hk
  ·cases hk
 ·
  rename_i k
  split at hk
  ·rename_i τ fs hg
   split at hk
   ·rename_i x hx
    obtain ⟨ad, hu, hall⟩ := hv
    have hat : q34 w β obs ⟨k, []⟩ = some (.box (some τ) fs, β k) := by simp [q34, hg, way]
    obtain ⟨b', off', hloc', had⟩ := hall _ _ hat
    obtain ⟨b, row, G', hloc, hrow, hls, hnb, hG⟩ := h.rel k _ hg
    rw [hloc] at hloc'; injection hloc' with e; injection e with e1 e2; subst e1; subst e2
    obtain ⟨G1, hs1, H⟩ := q49 hx hls
    have htook := (q131 h hF hg).drop (G' := fun n => n = b \/ G1 n) (fun n hn => (hG n).2 (hn.imp id (hs1 n)))
    refine ⟨_, _, _, _, _, _, hk, fun R' K' obs' hq => ?_, htook, ?_, nofun, fun q hq => ?_⟩
    ·unfold q243
     simp only [hq k (by simp [q15]), hg, hx]
    ·refine ⟨b, row, G1, by rw [hu, had]; rfl, hrow, H _ (fun n hn => hn.1) (fun n hn h1 hf => ?_), fun hb => hnb (hs1 b hb), fun n => Iff.rfl⟩
     rcases hf.2 ((hG n).2 (.inr hn)) with e | h2
     ·exact hnb (e ▸ hn)
     ·exact h1 h2
    ·simp [q15] at hq
     subst hq
     rw [hg]; exact fun e => by cases e
   ·cases hk
  ·cases hk
 ·
  rename_i k
  split at hk
  ·rename_i τ l hg
   obtain ⟨b', hu, hall⟩ := hv
   have hat : q34 w β obs ⟨k, []⟩ = some (.mp τ l, β k) := by simp [q34, hg, way]
   have hloc' := hall _ _ hat
   obtain ⟨b, hloc, hm, hG⟩ := h.rel k _ hg
   rw [hloc] at hloc'; injection hloc' with e; injection e with e1 _; subst e1
   refine ⟨_, _, _, _, _, _, hk, fun R' K' obs' hq => ?_, q131 h hF hg, ⟨b, by rw [hu], hm, hG⟩, nofun, fun q hq => ?_⟩
   ·unfold q243
    simp only [hq k (by simp [q15]), hg]
   ·simp [q15] at hq
    subst hq
    rw [hg]; exact fun e => by cases e
  ·cases hk
 ·cases hk
theorem Took.stay (h : Took w E β FA F obs FA1 F1 G obs1 Gk1) (H : Bs) : Stay w FA w FA1 H := Stay.less' h.sub
theorem q217 {d d' : q32} (h : ∀ q ∈ q15 d, get q obs ≠ none) (h' : ∀ q ∈ q15 d', get q (q21 d obs) ≠ none) : ∀ q ∈ q15 (d ++ d'), get q obs ≠ none := by
 intro q hq
 by_cases e : q ∈ q15 d
 ·exact h q e
 ·rw [q25] at hq
  rcases y151.1 hq with hq | hq
  ·exact absurd hq e
  ·have := h' q hq
   rw [q48 d obs e] at this
   exact this
theorem q122 {R : Type} : ∀ (vs : List V) {K : List V -> q32 -> Option R} {r : R} {FA F : Bs} {obs : List (Nat × Ob)} {Gk : Nat -> Bs} {us : List Value}, ObsA w E FA F β obs Gk -> (∀ b, F b -> FA b) -> All2 (VRl w β obs FA) vs us -> q235 vs obs K = some r ->
  ∃ vs' d FA1 F1 G Gk1, K vs' d = some r /\ (∀ (R' : Type) (K' : List V -> q32 -> Option R') (obs' : List (Nat × Ob)), (∀ q ∈ q15 d, get q obs' = get q obs) -> q235 vs obs' K' = K' vs' d) /\
   Took w E β FA F obs FA1 F1 G (q21 d obs) Gk1 /\ LsR w FA1 vs' us G /\ (∀ v ∈ vs', v ≠ .undef) /\ ∀ q ∈ q15 d, get q obs ≠ none
 | [], K, r, FA, F, obs, Gk, us, h, hF, hv, hk => by
  cases hv
  exact ⟨[], [], FA, F, fun _ => False, Gk, hk, fun _ _ _ _ => rfl, Took.refl h, .nil fun _ h => h, fun q hq => (by cases hq), fun q hq => (by cases hq)⟩
 | v :: vs, K, r, FA, F, obs, Gk, us, h, hF, hv, hk => by
  cases hv with
  | cons hu hus =>
   rename_i u us
   unfold q235 at hk
   obtain ⟨v', d, FA1, F1, G, Gk1, hk1, hst, htook, hlf, hnu, hex⟩ := q348 h hF hu hk
   have hF1 : ∀ b, F1 b -> FA1 b := fun b hb => y146 fun hn => (htook.lost b (hF b (htook.less b hb)) hn).2.1 hb
   have hus1 := hus.imp fun x y _ hxy => VRl.keep hxy (htook.stay _) fun r _ => htook.keep r
   obtain ⟨vs', d', FA2, F2, G', Gk2, hk2, hst2, htook2, hls, hnu2, hex2⟩ := q122 vs htook.ob hF1 hus1 hk1
   refine ⟨v' :: vs', d ++ d', FA2, F2, _, Gk2, hk2, fun R' K' obs' hq => ?_, ?_, .cons (hlf.sub htook2.sub) hls (htook.djG htook2) fun n => Iff.rfl, fun z hz => ?_, q217 hex hex2⟩
   ·unfold q235
    rw [hst _ _ obs' fun q hq' => hq q (by rw [q25]; exact y151.2 (.inl hq'))]
    exact hst2 _ _ _ fun q hq' => q36 d _ _ (hq q (by rw [q25]; exact y151.2 (.inr hq')))
   ·rw [q38]
    exact htook.trans htook2
   ·rcases y166.1 hz with rfl | hz
    ·exact hnu
    ·exact hnu2 z hz
end
end Go.Lf
namespace Go.Lf
theorem q475 {w w' : World} {b i : Nat} (h : w'.heap[b]? = w.heap[b]?) : w'.cell? ⟨b, i, none⟩ = w.cell? ⟨b, i, none⟩ := by
 unfold World.cell?
 rw [h]
theorem q276 {w w' : World} {F F' : Bs} : ∀ (p : List (Nat × Nat)) {o : Ob} {loc : Option (Nat × Nat)} {G : Bs}, ObR w F o loc G -> Stay w F w' F' G -> way w' o loc p = way w o loc p
 | [], o, loc, G, _, _ => rfl
 | (i, j) :: p, o, loc, G, h, hs => by
  cases loc with
  | none => rfl
  | some bo =>
   obtain ⟨b, off⟩ := bo
   cases hv : q35 o i j with
   | none => simp only [way, hv]
   | some v =>
    obtain ⟨b', off', u, G1, hl, hb, hc, hlf, hsub, _⟩ := q271 h hv
    injection hl with hl; injection hl with e1 e2; subst e1; subst e2
    have hc' : w'.cell? ⟨b, off + ix o i j, none⟩ = some u := (q475 (hs.own b hb)).trans hc
    cases ho : obOf v with
    | none =>
     cases v <;> first | (simp only [way, hv, hc, hc']; done) | cases ho
    | some o1 =>
     rw [q223 hv hc ho hlf, q223 hv hc' ho (hlf.keep (hs.mono hsub))]
     exact q276 p (q138 hlf ho) (hs.mono hsub)
theorem q654 {w : World} {F : Bs} : ∀ (p : List (Nat × Nat)) {o : Ob} {loc : Option (Nat × Nat)} {G : Bs} {o1 : Ob} {loc1 : Option (Nat × Nat)}, ObR w F o loc G -> way w o loc p = some (o1, loc1) -> ∃ G1 : Bs, ObR w F o1 loc1 G1 /\ ∀ n, G1 n -> G n
 | [], o, loc, G, o1, loc1, h, hw => by
  have hw' : some (o, loc) = some (o1, loc1) := hw
  injection hw' with hw'; injection hw' with e1 e2; subst e1; subst e2
  exact ⟨G, h, fun _ h => h⟩
 | (i, j) :: p, o, loc, G, o1, loc1, h, hw => by
  cases loc with
  | none => cases hw
  | some bo =>
   obtain ⟨b, off⟩ := bo
   cases hv : q35 o i j with
   | none => simp [way, hv] at hw
   | some v =>
    obtain ⟨b', off', u, G1, hl, hb, hc, hlf, hsub, _⟩ := q271 h hv
    injection hl with hl; injection hl with e1 e2; subst e1; subst e2
    cases ho : obOf v with
    | none => cases v <;> first | (simp [way, hv, hc] at hw; done) | cases ho
    | some os =>
     rw [q223 hv hc ho hlf] at hw
     obtain ⟨G2, h2, s2⟩ := q654 p (q138 hlf ho) hw
     exact ⟨G2, h2, fun n hn => hsub n (s2 n hn)⟩
theorem q559 {w : World} {F : Bs} {o : Ob} {b off : Nat} {G : Bs} (h : ObR w F o (some (b, off)) G) : G b := by
 cases o with
 | box t fs =>
  obtain ⟨b', row, G', hl, _, _, _, hG⟩ := h
  injection hl with hl; injection hl with e1 e2; subst e1
  exact (hG b).2 (.inl rfl)
 | arr τ l =>
  obtain ⟨row, Gs, _, _, _, _, _, _, hG⟩ := h
  exact (hG b).2 (.inl rfl)
 | mp τ l =>
  obtain ⟨b', hl, _, hG⟩ := h
  injection hl with hl; injection hl with e1 e2; subst e1
  exact (hG b).2 rfl
section
variable {w w' : World} {E : Bs} {β β' : Nat -> Option (Nat × Nat)} {FA F FA1 F1 G : Bs} {obs obs' : List (Nat × Ob)} {Gk Gk' : Nat -> Bs}
theorem q46.of_stay (h : ObsA w E FA F β obs Gk) {r : Ref} {FA' : Bs} (hβ : β' r.root = β r.root) (hg : get r.root obs' = get r.root obs) (hs : ∀ o, get r.root obs = some o -> Stay w FA w' FA' (Gk r.root)) :
  q46 w β obs w' β' obs' r := by
 intro o' loc hl
 unfold q34 at hl
 rw [hg] at hl
 cases ho : get r.root obs with
 | none => rw [ho] at hl; cases hl
 | some o0 =>
  rw [ho] at hl
  have hl' : way w' o0 (β' r.root) r.path = some (o', loc) := hl
  have hst := hs o0 ho
  rw [hβ, q276 r.path (h.rel _ _ ho) hst] at hl'
  refine ⟨o', ?_, Ob.like.refl o', fun b off e row hr => ?_⟩
  ·unfold q34; rw [ho]; exact hl'
  ·obtain ⟨G1, h1, s1⟩ := q654 r.path (h.rel _ _ ho) hl'
   subst e
   exact ⟨row, hr.keep (hst.own b (s1 b (q559 h1))), rfl⟩
def upd {α : Type} (f : Nat -> α) (k : Nat) (x : α) (q : Nat) : α := if q = k then x else f q
theorem q39 {α : Type} (f : Nat -> α) (k : Nat) (x : α) : upd f k x k = x := if_pos rfl
theorem q92 {α : Type} (f : Nat -> α) {k q : Nat} (x : α) (h : q ≠ k) : upd f k x q = f q := if_neg h
theorem q261 (h : ObsA w E FA F β obs Gk) : ∀ b, F b -> b < w.heap.size := by
 intro b hb
 rcases (h.cov b).1 hb with hE | ⟨k, o, hk, hkb⟩
 ·exact h.elt b hE
 exact (h.rel k o hk).lt b hkb
theorem obs_add (h : ObsA w E FA F β obs Gk) {k : Nat} {ob : Ob} {loc : Option (Nat × Nat)} {G2 : Bs} (hk : get k obs = none) (hnew : ObR w' (fun b => F b \/ G2 b) ob loc G2) (hdj : Dj G2 F)
  (hst : Stay w FA w' (fun b => F b \/ G2 b) F) : ObsR w' E (fun b => F b \/ G2 b) (upd β k loc) (put k ob obs) (upd Gk k G2) := by
 have old : ∀ q o', q ≠ k -> get q (put k ob obs) = some o' -> get q obs = some o' := fun q o' hq h => by rw [q33 _ (Ne.symm hq)] at h; exact h
 have sub : ∀ q o', get q obs = some o' -> ∀ b, Gk q b -> F b := fun q o' hq b hb => (h.cov b).2 (.inr ⟨q, o', hq, hb⟩)
 refine ⟨fun q o' hq => ?_, fun q q' o1 o2 h1 h2 hne => ?_, fun b => ?_, fun q o' hq => ?_, fun b hb => Nat.lt_of_lt_of_le (h.elt b hb) hst.size⟩
 ·by_cases e : q = k
  ·subst e
   rw [q47] at hq
   injection hq with hq; subst hq
   rw [q39, q39]
   exact hnew
  ·rw [q92 _ _ e, q92 _ _ e]
   exact (h.rel q o' (old q o' e hq)).keep (hst.mono (sub q o' (old q o' e hq)))
 ·by_cases e : q = k
  ·subst e
   rw [q39, q92 _ _ (Ne.symm hne)]
   exact fun b hb hb' => hdj b hb (sub q' o2 (old q' o2 (Ne.symm hne) h2) b hb')
  ·rw [q92 _ _ e]
   by_cases e' : q' = k
   ·subst e'
    rw [q39]
    exact fun b hb hb' => hdj b hb' (sub q o1 (old q o1 e h1) b hb)
   ·rw [q92 _ _ e']
    exact h.dj q q' o1 o2 (old q o1 e h1) (old q' o2 e' h2) hne
 ·constructor
  ·rintro (hb | hb)
   ·rcases (h.cov b).1 hb with hE | ⟨q, o', hq, hqb⟩
    ·exact .inl hE
    have e : q ≠ k := fun e => by rw [e, hk] at hq; cases hq
    exact .inr ⟨q, o', by rw [q33 _ (Ne.symm e)]; exact hq, by rw [q92 _ _ e]; exact hqb⟩
   ·exact .inr ⟨k, ob, q47 _ _ _, by rw [q39]; exact hb⟩
  ·rintro (hE | ⟨q, o', hq, hqb⟩)
   ·exact .inl ((h.cov b).2 (.inl hE))
   by_cases e : q = k
   ·subst e
    rw [q39] at hqb
    exact .inr hqb
   ·rw [q92 _ _ e] at hqb
    exact .inl (sub q o' (old q o' e hq) b hqb)
 ·by_cases e : q = k
  ·subst e
   rw [q39]
   exact fun b hb hE => hdj b hb ((h.cov b).2 (.inl hE))
  ·rw [q92 _ _ e]
   exact h.out q o' (old q o' e hq)
theorem q130 {P : Program} {o : Oper} {a : Act} {fresh k : Nat} {d : q32} {v : V} {u : Value} {ob : Ob} {loc : Option (Nat × Nat)} {G2 : Bs} (hlt : ∀ b, F b -> b < w.heap.size)
  (htook : Took w E β F F obs FA1 F1 G (q21 d obs) Gk) (hk : get k (q21 d obs) = none) (hkr : fresh <= k /\ k < fresh + 4) (hrun : (execOp a.eval o).run P w = .ok (.value u) w') (hap : q121 w w')
  (hheap : ∀ c, c < w.heap.size -> ¬ G c -> w'.heap[c]? = w.heap[c]?) (hsize : w.heap.size <= w'.heap.size) (hnew : ObR w' (fun b => F1 b \/ G2 b) ob loc G2) (hG2 : ∀ b, G2 b -> G b \/ w.heap.size <= b)
  (hv : VR w' (upd β k loc) (put k ob (q21 d obs)) (fun b => F1 b \/ G2 b) v u) : Good P o a w E β obs F fresh v (d ++ [(k, some ob)]) [] := by
 have hF1 : ∀ b, F1 b -> FA1 b := fun b hb => y146 fun hn => (htook.lost b (htook.less b hb) hn).2.1 hb
 have hGA : ∀ b, G b -> FA1 b := fun b hb => y146 fun hn => (htook.lost b (htook.got b hb) hn).2.2 hb
 have hst : ∀ H : Bs, (∀ b, H b -> F1 b) -> Stay w FA1 w' (fun b => F1 b \/ G2 b) H := fun H hH =>
  ⟨hsize, fun b hb => hheap b (hlt b (htook.less b (hH b hb))) fun hg => htook.dj b hg (hH b hb), fun b hb hs => hheap b hs fun hg => hb (hGA b hg), fun b hb => hb.elim (fun h => .inl (hF1 b h)) fun h => (hG2 b h).imp (hGA b) id⟩
 have hdj : Dj G2 F1 := by
  intro b hb h1
  rcases hG2 b hb with h | h
  ·exact htook.dj b h h1
  ·exact absurd (hlt b (htook.less b h1)) (Nat.not_lt.2 h)
 have hobs := obs_add htook.ob hk hnew hdj (hst F1 fun b hb => hb)
 intro next Q hnext
 unfold Oper.wp
 rw [hrun, Oper.upon_value]
 have e : q21 (d ++ [(k, some ob)]) obs = put k ob (q21 d obs) := by rw [q38]; rfl
 refine hnext u w' (upd β k loc) _ (upd Gk k G2) (by rw [e]; exact hobs) (by rw [e]; exact hv) hap ?_ (fun b hE => hheap b (htook.ob.elt b hE) fun hg => htook.dj b hg ((htook.ob.cov b).2 (.inl hE))) fun r hr _ => ?_
 ·refine ⟨hsize, fun b hb => hb.elim, fun b hb hs => hheap b hs fun hg => hb (htook.got b hg), fun b hb => ?_⟩
  rcases hb with h | h
  ·exact .inl (htook.less b h)
  ·exact (hG2 b h).imp (htook.got b) id
 ·have hne : r.root ≠ k := fun e => hr (by unfold inR; rw [e]; exact hkr)
  rw [e]
  refine (htook.keep r).trans (q46.of_stay htook.ob (q92 _ _ hne) (q33 _ (Ne.symm hne) _) fun o ho => hst _ fun b hb => ?_)
  exact (htook.ob.cov b).2 (.inr ⟨r.root, o, ho, hb⟩)
theorem z0_leaf {w : World} {F : Bs} {v : V} {u : Value} (h : Z0 v u) : LfR w F v u (fun _ => False) := by
 cases v with
 | undef => exact fun _ h => h
 | int => exact ⟨h, fun _ h => h⟩
 | bool => exact ⟨h, fun _ h => h⟩
 | nilp => exact ⟨h, fun _ h => h⟩
 | nils => exact ⟨⟨none, h⟩, fun _ h => h⟩
 | nilm => exact ⟨h, fun _ h => h⟩
 | _ => exact h.elim
theorem z0_ls {w : World} {F : Bs} {vs : List V} {us : List Value} (h : All2 Z0 vs us) : LsR w F vs us (fun _ => False) := by
 induction h with
 | nil => exact .nil fun _ h => h
 | cons h _ ih => exact .cons (G1 := fun _ => False) (G2 := fun _ => False) (z0_leaf h) ih (fun _ h => h.elim) (fun n => ⟨fun h => h.elim, fun h => h.elim id id⟩)
theorem q113 (w : World) (ob : Obj) : q121 w (w.alloc ob) := ⟨rfl, rfl, rfl⟩
def Free (obs : List (Nat × Ob)) (fresh : Nat) : Prop := ∀ j, fresh <= j -> j < fresh + 4 -> get j obs = none
theorem Free.behind {fresh : Nat} (h : Free obs fresh) {d : q32} (hd : ∀ q ∈ q15 d, get q obs ≠ none) {j : Nat} (h1 : fresh <= j) (h2 : j < fresh + 4) : get j (q21 d obs) = none := by
 have h0 := h j h1 h2
 rw [q48 d obs fun hq => hd j hq h0]
 exact h0
theorem Keys.snoc {fresh : Nat} {d : q32} (hd : ∀ q ∈ q15 d, get q obs ≠ none) (ob : Ob) : Keys obs fresh (d ++ [(fresh, some ob)]) [] := by
 refine ⟨fun q hq => ?_, fun _ h => (by cases h)⟩
 rw [q25] at hq
 rcases y151.1 hq with hq | hq
 ·exact .inl (hd q hq)
 ·simp [q15] at hq
  subst hq
  exact .inr ⟨Nat.le_refl _, by omega⟩
theorem Src.fresh {tm : List (Nat × V)} {fresh : Nat} {o : Oper} {rd : List Nat} {v : V} (h : ∀ r ∈ q24 v, r = ⟨fresh, []⟩) : Src tm fresh o rd v := by
 intro r hr
 rw [h r hr]
 exact .inl ⟨⟨Nat.le_refl _, Nat.lt_add_of_pos_right (by decide)⟩, rfl⟩
end
section
variable {P : Program} {C : Ctx} {k : Nat} {tm : List (Nat × V)} {obs : List (Nat × Ob)} {fresh : Nat} {o : Oper} {a : Act} {w : World} {E : Bs} {β : Nat -> Option (Nat × Nat)} {F : Bs} {Gk : Nat -> Bs}
theorem q478 {w' : World} {β' : Nat -> Option (Nat × Nat)} {obs' : List (Nat × Ob)} {F' : Bs} {b fs : _} {t : Option Ty} (hg : get fresh obs' = some (.box t fs)) (hb : β' fresh = some (b, 0)) :
  VR w' β' obs' F' (.hp ⟨fresh, []⟩ 0 0) (.pointer (some ⟨b, 0, none⟩)) := by
 refine ⟨_, rfl, fun o1 loc hl => ?_⟩
 unfold q34 at hl
 simp only [hg, hb, way] at hl
 injection hl with hl; injection hl with e1 e2; subst e1; subst e2
 exact ⟨b, 0, rfl, rfl⟩
theorem op_alloc {R : Type} {K : OpK R} {r : R} (hT : q81 P C) (hf : FR C w E β tm obs a F Gk) (hfr : Free obs fresh) {e : TypeId} (ho : o.op = .alloc e) (h : opK C k tm obs fresh o K = some r) : OpOk P C k tm obs fresh o a w E β F := by
 unfold opK at h
 simp only [ho] at h
 split at h
 ·rename_i i hi
  obtain ⟨z, inf, hinf, _, _, hz, hza, _⟩ := (hT e i hi).info
  refine ⟨.hp ⟨fresh, []⟩ 0 0, [] ++ [(fresh, some (.box (get e C.ety) i.zero))], [], [], fun tm' obs' ht htR _ R' K' => ?_, Src.fresh (fun r hr => by simpa [q24, q31, q37] using hr), Keys.snoc (fun q hq => by cases hq) _, ?_⟩
  ·unfold opK; simp only [ho, hi]; rfl
  ·have hrow := q204 w z.cells e
   refine q130 (q261 hf.ob.a) (Took.refl hf.ob.a) (hfr.behind (fun q hq => by cases hq) (Nat.le_refl _) (by omega)) ⟨Nat.le_refl _, by omega⟩ (w' := w.alloc (.cells z.cells e)) (u := .pointer (some ⟨w.heap.size, 0, none⟩)) (loc := some (w.heap.size, 0)) (G2 := fun b => b = w.heap.size) ?_ (q113 w _) (fun c hc _ => q74 w _ hc) (by simp) ?_ (fun b hb => .inr (Nat.le_of_eq hb.symm)) ?_
   ·simp [execOp, ho, Instr.alloc, zeroValue, typeInfo, hinf, hz, newVar, newRow]
   ·exact ⟨w.heap.size, z.cells, fun _ => False, rfl, hrow, z0_ls hza, id, fun n => ⟨.inl, fun h => h.elim id False.elim⟩⟩
   ·exact q478 (q47 _ _ _) (q39 _ _ _)
 ·cases h
theorem q189 {R : Type} {v : V} {u : Value} {K : List V -> q32 -> Option R} {r : R} (hv : VR w β obs F v u) (h : q235 v.fields obs K = some r) : All2 (VRl w β obs F) v.fields u.cells.toList := by
 cases v with
 | agg fs =>
  obtain ⟨us, hu, hall⟩ := hv
  subst hu
  exact hall
 | undef => cases h
 | tup => cases h
 | fn => cases h
 | ow => cases h
 | mp => cases h
 | nilz => cases h
 | hz => cases h
 | bx => cases h
 | _ => exact q178 hv rfl
theorem op_box {R : Type} {K : OpK R} {r : R} (hf : FR C w E β tm obs a F Gk) (hfr : Free obs fresh) {e : TypeId} {x : Operand} (ho : o.op = .box e x) (h : opK C k tm obs fresh o K = some r) : OpOk P C k tm obs fresh o a w E β F := by
 have hx : x ∈ o.op.operands := by rw [ho]; simp [Op.operands]
 have rx := q30 hf x
 unfold opK at h
 simp only [ho] at h
 have hall := q189 rx h
 obtain ⟨vs', d, FA1, F1, G, Gk1, _, hst, htook, hls, _, hex⟩ := q122 _ hf.ob.a (fun _ h => h) hall h
 refine ⟨.hp ⟨fresh, []⟩ 0 0, d ++ [(fresh, some (.box (get e C.ety) vs'))], [], [], fun tm' obs' ht htR hd R' K' => ?_, Src.fresh (fun r hr => by simpa [q24, q31, q37] using hr), Keys.snoc hex _, ?_⟩
 ·unfold opK; simp only [ho, ht x hx]
  exact hst R' _ obs' fun q hq => hd q (.inr (by rw [q25]; exact y151.2 (.inl hq)))
 ·have hrow := q204 w (a.eval x).cells e
  have hlt := q261 hf.ob.a
  refine q130 hlt htook (hfr.behind hex (Nat.le_refl _) (by omega)) ⟨Nat.le_refl _, by omega⟩ (w' := w.alloc (.cells (a.eval x).cells e)) (u := .pointer (some ⟨w.heap.size, 0, none⟩)) (loc := some (w.heap.size, 0)) (G2 := fun b => b = w.heap.size \/ G b) ?_ (q113 w _) (fun c hc _ => q74 w _ hc) (by simp) ?_ (fun b hb => hb.elim (fun e => .inr (Nat.le_of_eq e.symm)) .inl) ?_
  ·simp [execOp, ho, Instr.box, newVar, newRow]
  ·refine ⟨w.heap.size, (a.eval x).cells, G, rfl, hrow, hls.keep ⟨by simp, fun b hb => q74 w _ (hls.lt b hb), fun b _ hb => q74 w _ hb, fun b hb => ?_⟩, fun hb => Nat.lt_irrefl _ (hls.lt _ hb), fun n => Iff.rfl⟩
   rcases hb with hb | hb | hb
   ·exact .inl (y146 fun hn => (htook.lost b (htook.less b hb) hn).2.1 hb)
   ·exact .inr (Nat.le_of_eq hb.symm)
   ·exact .inl (y146 fun hn => (htook.lost b (htook.got b hb) hn).2.2 hb)
  ·exact q478 (q47 _ _ _) (q39 _ _ _)
theorem q192 (hT : q81 P C) {t e : TypeId} {bytes : Nat} {τ : Ty} {zero : List V} (h : q402 C t = some (e, bytes, τ, zero)) :
  ∃ inf z, P.underlying t = some (.slice e) /\ P.info? e = some inf /\ inf.size = τ.size /\ inf.bytes = bytes /\ 0 < bytes /\ inf.zero = some z /\ All2 Z0 zero z.cells.toList /\ zero.length = τ.size := by
 unfold q402 at h
 have hk := q60 hT t
 split at h
 ·rename_i e' he
  rw [he] at hk
  split at h
  ·rename_i i τ' hi hτ
   cases hb : Nat.beq i.size τ'.size && Nat.blt 0 i.bytes with
   | false => rw [hb] at h; cases h
   | true =>
    rw [hb] at h
    injection h with h; injection h with e1 h; injection h with e2 h; injection h with e3 e4
    subst e1; subst e2; subst e3; subst e4
    rw [y144] at hb
    obtain ⟨z, inf, h1, h2, h3, h4, h5, h6⟩ := (hT _ i hi).info
    have hs := y143 hb.1
    have hb2 : 0 < i.bytes := of_decide_eq_true (by simpa [Nat.blt_eq] using hb.2)
    exact ⟨inf, z, hk, h1, h2.trans hs, h3, hb2, h4, h5, h6.trans hs⟩
  ·cases h
 ·cases h
theorem arr_same {w' : World} {F' : Bs} {τ : Ty} {z : τ.den} {b n : Nat} {row : Array Value} {cs : List Value} (hr : Row w' b row) (hs : n * τ.size <= row.size) (hz : LR w' F' τ z cs (fun _ => False))
  (hseg : ∀ i, i < n -> seg row (i * τ.size) τ.size = cs) : q246 w' τ.size (LR w' F' τ) (List.replicate n z) (some (b, 0)) (fun c => c = b) := by
 refine ⟨row, fun _ _ => False, hr, by rw [List.length_replicate]; omega, fun i x hi => ?_, fun _ _ _ h => h, fun _ _ _ _ h => h.elim, fun _ h => h, fun c => ⟨.inl, fun h => h.elim id fun ⟨_, h⟩ => h.elim⟩⟩
 have hi' := y149.1 hi
 obtain ⟨hlt, he⟩ := hi'
 rw [List.length_replicate] at hlt
 rw [List.getElem_replicate] at he
 subst he
 rw [Nat.zero_add, hseg i hlt]
 exact hz
theorem q420 {z : Array Value} {n i s : Nat} (hz : z.size = s) (h : (i + 1) * s <= n) : seg (madeCells z n) (i * s) s = z.toList := by
 apply List.ext_getElem?
 intro q
 rw [q168]
 by_cases hq : q < s
 ·rw [if_pos hq]
  have h1 : i * s + q < n := by rw [Nat.add_mul, Nat.one_mul] at h; omega
  have h2 : (i * s + q) % s = q := by rw [Nat.mul_comm, Nat.mul_add_mod, Nat.mod_eq_of_lt hq]
  simp only [madeCells, Array.getElem?_toList, Array.getElem?_map, Array.getElem?_range, h1, if_true, Option.map_some, hz, h2]
  rw [Array.getElem?_eq_getElem (by omega), getElem!_pos z q (by omega)]
 ·rw [if_neg hq, y158]
  rw [y156]; omega
theorem q595 {w' : World} {β' : Nat -> Option (Nat × Nat)} {obs' : List (Nat × Ob)} {F' : Bs} {b n cap off : Nat} {row : Array Value} {τ : Ty} {l : List τ.den} (hg : get fresh obs' = some (.arr τ l)) (hb : β' fresh = some (b, off)) (hr : Row w' b row) (hn : n = l.length) (hc : n <= cap) (hs : off + cap * τ.size <= row.size) :
  VR w' β' obs' F' (.hs ⟨fresh, []⟩ 0 n true) (.slice (some ⟨b, off, none⟩) n cap) := by
 refine ⟨_, _, rfl, fun o1 loc hl => ?_⟩
 unfold q34 at hl
 simp only [hg, hb, way] at hl
 injection hl with hl; injection hl with e1 e2; subst e1; subst e2
 exact ⟨τ, l, rfl, ⟨_, _, rfl, .inr ⟨b, off, row, rfl, hr, by simp, hc, by simpa using hs⟩⟩, by omega, fun _ => ⟨rfl, hn⟩⟩
theorem q457 {R : Type} {K : OpK R} {r : R} (hT : q81 P C) (hf : FR C w E β tm obs a F Gk) (hfr : Free obs fresh) {t : TypeId} {x y : Operand} (ho : o.op = .makeSlice t x y) (h : opK C k tm obs fresh o K = some r) : OpOk P C k tm obs fresh o a w E β F := by
 have hx : x ∈ o.op.operands := by rw [ho]; simp [Op.operands]
 have hy : y ∈ o.op.operands := by rw [ho]; simp [Op.operands]
 have rx := q30 hf x
 have ry := q30 hf y
 unfold opK at h
 simp only [ho] at h
 split at h
 ·rename_i e bytes τ zero kl l kc c he hbx hby
  rw [hbx] at rx; rw [hby] at ry
  have ex := q44 rx
  have ey := q44 ry
  obtain ⟨inf, z, hu, hi, hsz, hby2, hb0, hz, hza, hzl⟩ := q192 hT he
  split at h
  ·rename_i z0 hz0
   split at h
   ·rename_i hc
    have hb1 : c <= 140737488355328 := by
     have : c * 1 <= c * (bytes : Int) := Int.mul_le_mul_of_nonneg_left (by omega) (by omega)
     omega
    have hrun := run_make (P := P) w t e inf z hu hi hz kl kc l c hc.1 hc.2.1 (by rw [hby2, Int.mul_comm]; omega) (by omega)
    refine ⟨.hs ⟨fresh, []⟩ 0 l.toNat true, [] ++ [(fresh, some (.arr τ (List.replicate l.toNat z0)))], [], [], fun tm' obs' ht htR _ R' K' => ?_, Src.fresh (fun r hr => by simpa [q24, q31, q37] using hr), Keys.snoc (fun q hq => by cases hq) _, ?_⟩
    ·unfold opK; simp only [ho, ht x hx, ht y hy, he, hbx, hby, hz0, hc, and_self, if_true]; rfl
    ·have hrow := q204 w (madeCells z.cells (c.toNat * inf.size)) e
     have hlc : l.toNat <= c.toNat := by omega
     have hrs : (madeCells z.cells (c.toNat * inf.size)).size = c.toNat * τ.size := by rw [size_madeCells, hsz]
     have hzs : z.cells.size = τ.size := by have := hza.length; rw [y156] at this; omega
     refine q130 (q261 hf.ob.a) (Took.refl hf.ob.a) (hfr.behind (fun q hq => by cases hq) (Nat.le_refl _) (by omega)) ⟨Nat.le_refl _, by omega⟩ (loc := some (w.heap.size, 0)) (G2 := fun b => b = w.heap.size) ?_ (q113 w _) (fun c hc _ => q74 w _ hc) (by simp) ?_ (fun b hb => .inr (Nat.le_of_eq hb.symm)) ?_
      (w' := w.alloc (.cells (madeCells z.cells (c.toNat * inf.size)) e)) (u := .slice (some ⟨w.heap.size, 0, none⟩) l.toNat c.toNat)
     ·simp [execOp, ho, ex, ey, hrun]
     ·obtain ⟨G1, hs1, H⟩ := q49 hz0 (z0_ls (w := w.alloc (.cells (madeCells z.cells (c.toNat * inf.size)) e)) (F := fun b => F b \/ b = w.heap.size) hza)
      have hlr := LR.iff τ z0 _ G1 (fun _ => False) (H _ (fun _ h => h) (fun _ h => h.elim)) (fun n => ⟨fun h => h.elim, hs1 n⟩)
      refine arr_same hrow ?_ hlr fun i hi => ?_
      ·rw [hrs]; exact y162 _ hlc
      ·refine q420 hzs ?_
       rw [hsz]; exact y162 _ (by omega)
     ·exact q595 (q47 _ _ _) (q39 _ _ _) hrow (by simp) hlc (by rw [hrs]; omega)
   ·cases h
  ·cases h
 ·cases h
end
end Go.Lf
namespace Go.Lf
theorem q385 {α : Type} {a b c d : List α} (h : a ++ b = c ++ d) (hl : a.length = c.length) : a = c /\ b = d := List.append_inj h hl
theorem LR.uniq {w : World} {F F' : Bs} : ∀ (τ : Ty) (x : τ.den) (cs : List Value) (G H : Bs), LR w F τ x cs G -> LR w F' τ x cs H -> ∀ n, G n ↔ H n
 | .int _, _, _, G, H, h, h' => fun n => ⟨fun hn => absurd hn (h.2 n), fun hn => absurd hn (h'.2 n)⟩
 | .bool, _, _, G, H, h, h' => fun n => ⟨fun hn => absurd hn (h.2 n), fun hn => absurd hn (h'.2 n)⟩
 | .unit, _, _, G, H, h, h' => fun n => ⟨fun hn => absurd hn (h.2 n), fun hn => absurd hn (h'.2 n)⟩
 | .pair a b, x, cs, G, H, h, h' => by
  obtain ⟨c1, c2, G1, G2, hc, h1, h2, _, hG⟩ := h
  obtain ⟨d1, d2, H1, H2, hd, k1, k2, _, hH⟩ := h'
  obtain ⟨e1, e2⟩ := q385 (hc.symm.trans hd) (by rw [LR.length a _ _ _ h1, LR.length a _ _ _ k1])
  subst e1; subst e2
  intro n
  rw [hG, hH, LR.uniq a _ _ _ _ h1 k1 n, LR.uniq b _ _ _ _ h2 k2 n]
 | .sl _, _, _, G, H, h, h' => fun n => ⟨fun hn => absurd hn (h.1 n), fun hn => absurd hn (h'.1 n)⟩
 | .ow a, l, cs, G, H, h, h' => by
  obtain ⟨u, hu, _, hA⟩ := h
  obtain ⟨u', hu', _, hB⟩ := h'
  rw [hu] at hu'; injection hu' with hu'; subst hu'
  cases hl : q198 u with
  | none =>
   rw [hl] at hA hB
   exact fun n => ⟨fun hn => absurd hn (hA.2 n), fun hn => absurd hn (hB.2 n)⟩
  | some p =>
   obtain ⟨b, off⟩ := p
   rw [hl] at hA hB
   obtain ⟨row, Gs, hr, _, hx, he, _, _, hG⟩ := hA
   obtain ⟨row', Hs, hr', _, hx', he', _, _, hH⟩ := hB
   have e := hr.eq hr'
   subst e
   have hs : ∀ i n, Gs i n ↔ Hs i n := by
    intro i n
    by_cases hi : i < l.length
    ·exact LR.uniq a _ _ _ _ (hx i l[i] (y140 hi)) (hx' i l[i] (y140 hi)) n
    ·exact ⟨fun hn => absurd hn (he i (Nat.not_lt.1 hi) n), fun hn => absurd hn (he' i (Nat.not_lt.1 hi) n)⟩
   intro n
   rw [hG, hH]
   exact ⟨fun h => h.imp id fun ⟨i, hi⟩ => ⟨i, (hs i n).1 hi⟩, fun h => h.imp id fun ⟨i, hi⟩ => ⟨i, (hs i n).2 hi⟩⟩
 | .bx a, x, cs, G, H, h, h' => by
  obtain ⟨b, row, G', hc, hr, hl, _, hG⟩ := h
  obtain ⟨b', row', H', hc', hr', hl', _, hH⟩ := h'
  rw [hc] at hc'; injection hc' with hc'; injection hc' with hc'; injection hc' with hc'; injection hc' with e; subst e
  have e := hr.eq hr'
  subst e
  intro n
  rw [hG, hH, LR.uniq a _ _ _ _ hl hl' n]
 | .mp a, x, cs, G, H, h, h' => by
  obtain ⟨b, hc, _, hG⟩ := h
  obtain ⟨b', hc', _, hH⟩ := h'
  rw [hc] at hc'; injection hc' with hc'; injection hc' with hc'; injection hc' with e; subst e
  exact fun n => (hG n).trans (hH n).symm
theorem LfR.uniq {w : World} {F F' : Bs} {v : V} {u : Value} {G H : Bs} (h : LfR w F v u G) (h' : LfR w F' v u H) : ∀ n, G n ↔ H n := by
 have he : Emp G -> Emp H -> ∀ n, G n ↔ H n := fun h h' n => ⟨fun hn => absurd hn (h n), fun hn => absurd hn (h' n)⟩
 cases v with
 | undef => exact he h h'
 | int => exact he h.2 h'.2
 | bool => exact he h.2 h'.2
 | nilp => exact he h.2 h'.2
 | nils => exact he h.2 h'.2
 | sl τ l => exact LR.uniq (.sl τ) l _ _ _ h h'
 | ow τ l => exact LR.uniq (.ow τ) l _ _ _ h h'
 | bx τ x => exact LR.uniq (.bx τ) x _ _ _ h h'
 | mp τ l => exact LR.uniq (.mp τ) l _ _ _ h h'
 | nilm => exact he h.2 h'.2
 | _ => exact h.elim
theorem LsR.uniq {w : World} {F F' : Bs} {vs : List V} {us : List Value} {G H : Bs} (h : LsR w F vs us G) (h' : LsR w F' vs us H) : ∀ n, G n ↔ H n := by
 induction h generalizing H with
 | nil h =>
  cases h' with
  | nil h' => exact fun n => ⟨fun hn => absurd hn (h n), fun hn => absurd hn (h' n)⟩
 | cons h1 _ _ hG ih =>
  cases h' with
  | cons k1 k2 _ hH =>
   intro n
   rw [hG, hH, LfR.uniq h1 k1 n, ih k2 n]
theorem ObR.uniq {w : World} {F F' : Bs} {o : Ob} {loc : Option (Nat × Nat)} {G H : Bs} (h : ObR w F o loc G) (h' : ObR w F' o loc H) : ∀ n, G n ↔ H n := by
 cases o with
 | box t fs =>
  obtain ⟨b, row, G', hl, hr, hls, _, hG⟩ := h
  obtain ⟨b', row', H', hl', hr', hls', _, hH⟩ := h'
  rw [hl] at hl'; injection hl' with e; injection e with e _; subst e
  have e := hr.eq hr'
  subst e
  intro n
  rw [hG, hH, hls.uniq hls' n]
 | arr a l =>
  cases loc with
  | none => exact fun n => ⟨fun hn => absurd hn (h.2 n), fun hn => absurd hn (h'.2 n)⟩
  | some p =>
   obtain ⟨b, off⟩ := p
   obtain ⟨row, Gs, hr, _, hx, he, _, _, hG⟩ := h
   obtain ⟨row', Hs, hr', _, hx', he', _, _, hH⟩ := h'
   have e := hr.eq hr'
   subst e
   have hs : ∀ i n, Gs i n ↔ Hs i n := by
    intro i n
    by_cases hi : i < l.length
    ·exact LR.uniq a _ _ _ _ (hx i l[i] (y140 hi)) (hx' i l[i] (y140 hi)) n
    ·exact ⟨fun hn => absurd hn (he i (Nat.not_lt.1 hi) n), fun hn => absurd hn (he' i (Nat.not_lt.1 hi) n)⟩
   intro n
   rw [hG, hH]
   exact ⟨fun h => h.imp id fun ⟨i, hi⟩ => ⟨i, (hs i n).1 hi⟩, fun h => h.imp id fun ⟨i, hi⟩ => ⟨i, (hs i n).2 hi⟩⟩
 | mp τ l =>
  obtain ⟨b, hl, _, hG⟩ := h
  obtain ⟨b', hl', _, hH⟩ := h'
  rw [hl] at hl'; injection hl' with e; injection e with e _; subst e
  exact fun n => (hG n).trans (hH n).symm
theorem LsR.get2 {w : World} {F : Bs} : ∀ {vs : List V} {us : List Value} {G : Bs}, LsR w F vs us G -> ∀ (j q : Nat) (v x : V), j ≠ q -> vs[j]? = some v -> vs[q]? = some x ->
  ∃ u G1 y G2, us[j]? = some u /\ LfR w F v u G1 /\ us[q]? = some y /\ LfR w F x y G2 /\ Dj G1 G2 /\ (∀ n, G1 n -> G n) /\ ∀ n, G2 n -> G n
 | _, _, _, .nil _, j, q, v, x, _, h, _ => by simp at h
 | _, _, _, .cons (u := u) (G1 := G1) h1 h2 hd hG, j, q, v, x, hne, hj, hq => by
  cases j with
  | zero =>
   simp at hj
   subst hj
   cases q with
   | zero => exact absurd rfl hne
   | succ q =>
    obtain ⟨y, G2, hy, hl, hs⟩ := h2.get q x (by simpa using hq)
    exact ⟨u, G1, y, G2, rfl, h1, by simpa using hy, hl, fun n hn hn' => hd n hn (hs n hn'), fun n hn => (hG n).2 (.inl hn), fun n hn => (hG n).2 (.inr (hs n hn))⟩
  | succ j =>
   cases q with
   | zero =>
    simp at hq
    subst hq
    obtain ⟨y, G2, hy, hl, hs⟩ := h2.get j v (by simpa using hj)
    exact ⟨y, G2, u, G1, by simpa using hy, hl, rfl, h1, fun n hn hn' => hd n hn' (hs n hn), fun n hn => (hG n).2 (.inr (hs n hn)), fun n hn => (hG n).2 (.inl hn)⟩
   | succ q =>
    obtain ⟨u', G1', y, G2, a1, a2, a3, a4, a5, a6, a7⟩ := LsR.get2 h2 j q v x (fun e => hne (by rw [e])) (by simpa using hj) (by simpa using hq)
    exact ⟨u', G1', y, G2, by simpa using a1, a2, by simpa using a3, a4, a5, fun n hn => (hG n).2 (.inr (a6 n hn)), fun n hn => (hG n).2 (.inr (a7 n hn))⟩
def q570 : Ob -> Nat -> Nat -> Nat -> Nat -> Prop
 | .box _ _, _, j, _, j1 => j ≠ j1
 | .arr _ _, i, j, i1, j1 => i ≠ i1 \/ j ≠ j1
 | .mp _ _, _, _, _, _ => False
theorem q685 {w : World} {F : Bs} {o : Ob} {loc : Option (Nat × Nat)} {G : Bs} {i j i1 j1 : Nat} {v v1 : V} (h : ObR w F o loc G) (hv : q35 o i j = some v) (hv1 : q35 o i1 j1 = some v1) (ha : q570 o i j i1 j1) :
  ∃ b off u G1 u1 G2, loc = some (b, off) /\ G b /\ w.cell? ⟨b, off + ix o i j, none⟩ = some u /\ LfR w F v u G1 /\ (∀ n, G1 n -> G n) /\ (∀ n, G1 n -> n ≠ b) /\
   w.cell? ⟨b, off + ix o i1 j1, none⟩ = some u1 /\ LfR w F v1 u1 G2 /\ (∀ n, G2 n -> G n) /\ (∀ n, G2 n -> n ≠ b) /\ Dj G1 G2 := by
 cases o with
 | mp τ l => exact ha.elim
 | box t fs =>
  obtain ⟨b, row, G', hl, hr, hls, hb, hG⟩ := h
  obtain ⟨u, G1, u1, G2, a1, a2, a3, a4, a5, a6, a7⟩ := hls.get2 j j1 v v1 ha hv hv1
  refine ⟨b, 0, u, G1, u1, G2, hl, (hG b).2 (.inl rfl), ?_, a2, fun n hn => (hG n).2 (.inr (a6 n hn)), fun n hn e => hb (e ▸ a6 n hn), ?_, a4, fun n hn => (hG n).2 (.inr (a7 n hn)), fun n hn e => hb (e ▸ a7 n hn), a5⟩
  ·simp only [ix, Nat.zero_add]; exact q42 hr.s (by simpa using a1)
  ·simp only [ix, Nat.zero_add]; exact q42 hr.s (by simpa using a3)
 | arr τ l =>
  simp only [q35] at hv hv1
  cases hx : l[i]? with
  | none => rw [hx] at hv; cases hv
  | some x =>
   cases hx1 : l[i1]? with
   | none => rw [hx1] at hv1; cases hv1
   | some x1 =>
    rw [hx] at hv; rw [hx1] at hv1
    cases loc with
    | none => rw [h.1] at hx; simp at hx
    | some p =>
     obtain ⟨b, off⟩ := p
     obtain ⟨row, Gs, hr, hs, hxs, he, hd, hb, hG⟩ := h
     have cell : ∀ {i q : Nat} {u : Value}, (seg row (off + i * τ.size) τ.size)[q]? = some u -> w.cell? ⟨b, off + (i * τ.size + q), none⟩ = some u := by
      intro i q u hu
      rw [<- Nat.add_assoc]
      exact q42 hr.s (q88 hu)
     by_cases e : i = i1
     ·subst e
      rw [hx] at hx1; injection hx1 with hx1; subst hx1
      have hj : j ≠ j1 := by rcases ha with h | h; exact absurd rfl h; exact h
      obtain ⟨u, G1, u1, G2, a1, a2, a3, a4, a5, a6, a7⟩ := (LR.leaves τ x _ _ (hxs i x hx)).get2 j j1 v v1 hj hv hv1
      exact ⟨b, off, u, G1, u1, G2, rfl, (hG b).2 (.inl rfl), cell a1, a2, fun n hn => (hG n).2 (.inr ⟨i, a6 n hn⟩), fun n hn e => hb i (e ▸ a6 n hn), cell a3, a4, fun n hn => (hG n).2 (.inr ⟨i, a7 n hn⟩), fun n hn e => hb i (e ▸ a7 n hn), a5⟩
     ·obtain ⟨u, G1, a1, a2, a6⟩ := (LR.leaves τ x _ _ (hxs i x hx)).get j v hv
      obtain ⟨u1, G2, a3, a4, a7⟩ := (LR.leaves τ x1 _ _ (hxs i1 x1 hx1)).get j1 v1 hv1
      exact ⟨b, off, u, G1, u1, G2, rfl, (hG b).2 (.inl rfl), cell a1, a2, fun n hn => (hG n).2 (.inr ⟨i, a6 n hn⟩), fun n hn e => hb i (e ▸ a6 n hn), cell a3, a4, fun n hn => (hG n).2 (.inr ⟨i1, a7 n hn⟩), fun n hn e => hb i1 (e ▸ a7 n hn), fun n hn hn' => hd i i1 e n (a6 n hn) (a7 n hn')⟩
theorem q716 (k : IntKind) : kbeq k k = true := by cases k <;> rfl
theorem Ty.beq_refl : ∀ a : Ty, Ty.beq a a = true
 | .int k => q716 k
 | .bool => rfl
 | .unit => rfl
 | .pair a b => by show (a.beq a && b.beq b) = true; rw [Ty.beq_refl a, Ty.beq_refl b]; rfl
 | .sl a => Ty.beq_refl a
 | .ow a => Ty.beq_refl a
 | .bx a => Ty.beq_refl a
 | .mp a => Ty.beq_refl a
def Ty.lty : Ty -> Nat -> Option Ty
 | .pair a b, j => if j < a.size then a.lty j else b.lty (j - a.size)
 | .unit, _ => none
 | τ, j => if j = 0 then some τ else none
def isLeafOf (σ : Ty) (v : V) : Prop := ∃ z : σ.den, σ.leaves z = [v] /\ σ.ofLeaf v = some z
theorem q220 : ∀ (τ : Ty) (x : τ.den) (j : Nat) (v : V), (τ.leaves x)[j]? = some v -> ∃ σ, τ.lty j = some σ /\ isLeafOf σ v
 | .int k, x, j, v, h => by
  cases j with
  | zero => injection h with h; subst h; exact ⟨.int k, rfl, x, rfl, by cases k <;> rfl⟩
  | succ j => simp [Ty.leaves] at h
 | .bool, x, j, v, h => by
  cases j with
  | zero => injection h with h; subst h; exact ⟨.bool, rfl, x, rfl, rfl⟩
  | succ j => simp [Ty.leaves] at h
 | .unit, x, j, v, h => by simp [Ty.leaves] at h
 | .pair a b, x, j, v, h => by
  have h' : (a.leaves x.1 ++ b.leaves x.2)[j]? = some v := h
  rw [y171, Ty.leaves_length] at h'
  unfold Ty.lty
  by_cases c : j < a.size
  ·rw [if_pos c] at h' ⊢
   exact q220 a x.1 j v h'
  ·rw [if_neg c] at h' ⊢
   exact q220 b x.2 _ v h'
 | .sl a, x, j, v, h => by
  cases j with
  | zero => injection h with h; subst h; exact ⟨.sl a, rfl, x, rfl, by simp [Ty.ofLeaf, Ty.beq_refl, q52]⟩
  | succ j => simp [Ty.leaves] at h
 | .ow a, x, j, v, h => by
  cases j with
  | zero => injection h with h; subst h; exact ⟨.ow a, rfl, x, rfl, by simp [Ty.ofLeaf, Ty.beq_refl, q52]⟩
  | succ j => simp [Ty.leaves] at h
 | .bx a, x, j, v, h => by
  cases j with
  | zero => injection h with h; subst h; exact ⟨.bx a, rfl, x, rfl, by simp [Ty.ofLeaf, Ty.beq_refl, q250]⟩
  | succ j => simp [Ty.leaves] at h
 | .mp a, x, j, v, h => by
  cases j with
  | zero => injection h with h; subst h; exact ⟨.mp a, rfl, x, rfl, by simp [Ty.ofLeaf, Ty.beq_refl, q305]⟩
  | succ j => simp [Ty.leaves] at h
theorem q214 {τ : Ty} {vs rest : List V} {y : τ.den} (hn : vs ≠ []) (h : τ.ofLeaves vs = some (y, rest)) (e : ∀ v vs', τ.ofLeaves (v :: vs') = q54 (τ.ofLeaf v) vs') : ∃ v vs', vs = v :: vs' /\ q54 (τ.ofLeaf v) vs' = some (y, rest) := by
 cases vs with
 | nil => exact absurd rfl hn
 | cons v vs => exact ⟨v, vs, rfl, (e v vs) ▸ h⟩
theorem q79 {α : Type} {o : Option α} {vs rest : List V} {x : α} (h : q54 o vs = some (x, rest)) : rest = vs := by
 cases o with
 | none => cases h
 | some y => injection h with h; injection h with _ h; exact h.symm
theorem q194 : ∀ {a : Ty} {vs rest : List V} {x : a.den}, a.ofLeaves vs = some (x, rest) -> rest = vs.drop a.size
 | .unit, vs, rest, x, h => by injection h with h; injection h with _ h; exact h.symm
 | .pair a b, vs, rest, x, h => by
  simp only [Ty.ofLeaves] at h
  split at h
  ·rename_i y vs1 h1
   split at h
   ·rename_i z vs2 h2
    injection h with h; injection h with _ e; subst e
    rw [q194 h2, q194 h1, List.drop_drop]
    rfl
   ·cases h
  ·cases h
 | .int k, [], _, _, h => by cases h
 | .bool, [], _, _, h => by cases h
 | .sl a, [], _, _, h => by cases h
 | .ow a, [], _, _, h => by cases h
 | .bx a, [], _, _, h => by cases h
 | .mp a, [], _, _, h => by cases h
 | .int k, v :: vs, rest, x, h => q79 h
 | .bool, v :: vs, rest, x, h => q79 h
 | .sl a, v :: vs, rest, x, h => q79 h
 | .ow a, v :: vs, rest, x, h => q79 h
 | .bx a, v :: vs, rest, x, h => q79 h
 | .mp a, v :: vs, rest, x, h => q79 h
theorem q139 (τ : Ty) (vs rest : List V) (y : τ.den) (h : ∃ v vs', vs = v :: vs' /\ q54 (τ.ofLeaf v) vs' = some (y, rest)) (j : Nat) (hj : j < τ.size) (hs : τ.size = 1) (hz : ∀ z : τ.den, ∃ v, τ.leaves z = [v]) (hl : τ.lty 0 = some τ) :
  ∃ σ v z v', τ.lty j = some σ /\ vs[j]? = some v /\ σ.ofLeaf v = some z /\ σ.leaves z = [v'] /\ (τ.leaves y)[j]? = some v' := by
 have e : j = 0 := by omega
 subst e
 obtain ⟨v, vs', rfl, hw⟩ := h
 cases ho : τ.ofLeaf v with
 | none => rw [ho] at hw; cases hw
 | some z =>
  rw [ho] at hw
  injection hw with hw; injection hw with e1 e2; subst e1
  obtain ⟨v', hv'⟩ := hz z
  exact ⟨τ, v, z, v', hl, rfl, ho, hv', by rw [hv']; rfl⟩
theorem Ty.lty_leaf : ∀ {τ : Ty} {j : Nat} {σ : Ty}, τ.lty j = some σ -> match σ with | .pair _ _ => False | .unit => False | _ => True
 | .pair a b, j, σ, h => by
  unfold Ty.lty at h
  split at h
  ·exact Ty.lty_leaf h
  ·exact Ty.lty_leaf h
 | .unit, j, σ, h => by cases h
 | .int k, j, σ, h => by unfold Ty.lty at h; split at h <;> first | (injection h with h; subst h; trivial) | cases h
 | .bool, j, σ, h => by unfold Ty.lty at h; split at h <;> first | (injection h with h; subst h; trivial) | cases h
 | .sl a, j, σ, h => by unfold Ty.lty at h; split at h <;> first | (injection h with h; subst h; trivial) | cases h
 | .ow a, j, σ, h => by unfold Ty.lty at h; split at h <;> first | (injection h with h; subst h; trivial) | cases h
 | .bx a, j, σ, h => by unfold Ty.lty at h; split at h <;> first | (injection h with h; subst h; trivial) | cases h
 | .mp a, j, σ, h => by unfold Ty.lty at h; split at h <;> first | (injection h with h; subst h; trivial) | cases h
theorem q356 : ∀ (τ : Ty) (vs rest : List V) (y : τ.den), τ.ofLeaves vs = some (y, rest) -> ∀ j, j < τ.size -> ∃ σ v z v', τ.lty j = some σ /\ vs[j]? = some v /\ σ.ofLeaf v = some z /\ σ.leaves z = [v'] /\ (τ.leaves y)[j]? = some v'
 | .pair a b, vs, rest, y, h, j, hj => by
  have hs : (Ty.pair a b).size = a.size + b.size := rfl
  simp only [Ty.ofLeaves] at h
  split at h
  ·rename_i x vs1 h1
   split at h
   ·rename_i z vs2 h2
    injection h with h; injection h with e1 e2; subst e1; subst e2
    have hl : (a.leaves x).length = a.size := Ty.leaves_length a x
    by_cases c : j < a.size
    ·obtain ⟨σ, v, z', v', a1, a2, a3, a4, a5⟩ := q356 a vs vs1 x h1 j c
     refine ⟨σ, v, z', v', ?_, a2, a3, a4, ?_⟩
     ·unfold Ty.lty; rw [if_pos c]; exact a1
     ·show (a.leaves x ++ b.leaves z)[j]? = _
      rw [y171, hl, if_pos c]; exact a5
    ·obtain ⟨σ, v, z', v', a1, a2, a3, a4, a5⟩ := q356 b vs1 vs2 z h2 (j - a.size) (by omega)
     refine ⟨σ, v, z', v', ?_, ?_, a3, a4, ?_⟩
     ·unfold Ty.lty; rw [if_neg c]; exact a1
     ·have := q194 h1
      rw [this, List.getElem?_drop] at a2
      have e : a.size + (j - a.size) = j := by omega
      rw [e] at a2
      exact a2
     ·show (a.leaves x ++ b.leaves z)[j]? = _
      rw [y171, hl, if_neg c]; exact a5
   ·cases h
  ·cases h
 | .unit, vs, rest, y, h, j, hj => by cases hj
 | .int k, vs, rest, y, h, j, hj => q139 (.int k) vs rest y (q214 (fun e => by rw [e] at h; cases h) h (fun _ _ => rfl)) j hj rfl (fun z => ⟨_, rfl⟩) rfl
 | .bool, vs, rest, y, h, j, hj => q139 .bool vs rest y (q214 (fun e => by rw [e] at h; cases h) h (fun _ _ => rfl)) j hj rfl (fun z => ⟨_, rfl⟩) rfl
 | .sl a, vs, rest, y, h, j, hj => q139 (.sl a) vs rest y (q214 (fun e => by rw [e] at h; cases h) h (fun _ _ => rfl)) j hj rfl (fun z => ⟨_, rfl⟩) rfl
 | .ow a, vs, rest, y, h, j, hj => q139 (.ow a) vs rest y (q214 (fun e => by rw [e] at h; cases h) h (fun _ _ => rfl)) j hj rfl (fun z => ⟨_, rfl⟩) rfl
 | .bx a, vs, rest, y, h, j, hj => q139 (.bx a) vs rest y (q214 (fun e => by rw [e] at h; cases h) h (fun _ _ => rfl)) j hj rfl (fun z => ⟨_, rfl⟩) rfl
 | .mp a, vs, rest, y, h, j, hj => q139 (.mp a) vs rest y (q214 (fun e => by rw [e] at h; cases h) h (fun _ _ => rfl)) j hj rfl (fun z => ⟨_, rfl⟩) rfl
theorem q134 {τ : Ty} {vs : List V} {y : τ.den} (h : τ.ofAll vs = some y) : ∀ j, j < τ.size -> ∃ σ v z v', τ.lty j = some σ /\ vs[j]? = some v /\ σ.ofLeaf v = some z /\ σ.leaves z = [v'] /\ (τ.leaves y)[j]? = some v' := by
 unfold Ty.ofAll at h
 split at h
 ·rename_i x hx
  injection h with h; subst h
  exact q356 τ vs [] x hx
 ·cases h
theorem q712 {τ : Ty} {x y : τ.den} {vs : List V} (h : τ.ofAll vs = some y) {j : Nat} {v : V} (hx : (τ.leaves x)[j]? = some v) (hv : vs[j]? = some v) : (τ.leaves y)[j]? = some v := by
 have hj : j < τ.size := by rw [<- Ty.leaves_length τ x]; exact (y149.1 hx).1
 obtain ⟨σ, hσ, z, hz, hr⟩ := q220 τ x j v hx
 obtain ⟨σ', w, z', v', h1, h2, h3, h4, h5⟩ := q134 h j hj
 rw [hσ] at h1; injection h1 with h1; subst h1
 rw [hv] at h2; injection h2 with h2; subst h2
 rw [hr] at h3; injection h3 with h3; subst h3
 rw [hz] at h4; injection h4 with h4; subst h4
 exact h5
theorem q747 {τ : Ty} {x y : τ.den} {vs : List V} (h : τ.ofAll vs = some y) {j : Nat} {v v' : V} {o' : Ob} (hx : (τ.leaves x)[j]? = some v) (hv : vs[j]? = some v') (hr : o'.rest v = some v') : (τ.leaves y)[j]? = some v' := by
 have hj : j < τ.size := by rw [<- Ty.leaves_length τ x]; exact (y149.1 hx).1
 obtain ⟨σ, hσ, z, hz, _⟩ := q220 τ x j v hx
 obtain ⟨σ', w, z', w', h1, h2, h3, h4, h5⟩ := q134 h j hj
 rw [hσ] at h1; injection h1 with h1; subst h1
 rw [hv] at h2; injection h2 with h2; subst h2
 rw [h5]
 congr 1
 unfold Ob.rest at hr
 split at hr
 ·rename_i a l a' l'
  injection hr with hr; subst hr
  cases σ with
  | ow b =>
   injection hz with hz _; injection hz with e1 e2; subst e1
   simp only [Ty.ofLeaf] at h3
   split at h3
   ·rename_i hb
    have e := Ty.beq_eq hb
    subst e
    injection h3 with h3; subst h3
    rw [q52] at h4
    injection h4 with h4 _
    exact h4.symm
   ·cases h3
  | pair b c =>
   have := Ty.lty_leaf hσ
   exact this.elim
  | unit => exact (Ty.lty_leaf hσ).elim
  | int k => injection hz with hz _; cases hz
  | bool => injection hz with hz _; cases hz
  | sl b => injection hz with hz _; cases hz
  | bx b => injection hz with hz _; cases hz
  | mp b => injection hz with hz _; cases hz
 ·rename_i a l a' l'
  injection hr with hr; subst hr
  cases σ with
  | mp b =>
   injection hz with hz _; injection hz with e1 e2; subst e1
   simp only [Ty.ofLeaf] at h3
   split at h3
   ·rename_i hb
    have e := Ty.beq_eq hb
    subst e
    injection h3 with h3; subst h3
    rw [q305] at h4
    injection h4 with h4 _
    exact h4.symm
   ·cases h3
  | pair b c => exact (Ty.lty_leaf hσ).elim
  | unit => exact (Ty.lty_leaf hσ).elim
  | int k => injection hz with hz _; cases hz
  | bool => injection hz with hz _; cases hz
  | sl b => injection hz with hz _; cases hz
  | bx b => injection hz with hz _; cases hz
  | ow b => injection hz with hz _; cases hz
 ·rename_i t fs a x0
  split at hr
  ·rename_i x1 hx1
   injection hr with hr; subst hr
   cases σ with
   | bx b =>
    injection hz with hz _; injection hz with e1 e2; subst e1
    simp only [Ty.ofLeaf] at h3
    split at h3
    ·rename_i hb
     have e := Ty.beq_eq hb
     injection h3 with h3; subst h3
     rw [q250] at h4
     injection h4 with h4 _
     exact h4.symm
    ·cases h3
   | pair b c => exact (Ty.lty_leaf hσ).elim
   | unit => exact (Ty.lty_leaf hσ).elim
   | int k => injection hz with hz _; cases hz
   | bool => injection hz with hz _; cases hz
   | sl b => injection hz with hz _; cases hz
   | ow b => injection hz with hz _; cases hz
   | mp b => injection hz with hz _; cases hz
  ·cases hr
 ·cases hr
end Go.Lf
namespace Go.Lf
def q50 : Ob -> Nat -> Nat -> Nat -> Nat -> Nat -> Prop
 | .box _ _, _, j, n, _, j1 => j <= j1 /\ j1 < j + n
 | .arr _ _, i, j, n, i1, j1 => i1 = i /\ j <= j1 /\ j1 < j + n
 | .mp _ _, _, j, n, _, j1 => j <= j1 /\ j1 < j + n
theorem q363 {o o' : Ob} {i j : Nat} {vs : List V} (h : o.writeK i j vs some = some o') : o.like o' := by
 cases o with
 | mp τ l => cases h
 | box t fs =>
  have h' : (bif Nat.ble (j + vs.length) fs.length then some (.box t (q43 j vs fs)) else none) = some o' := h
  cases hb : Nat.ble (j + vs.length) fs.length with
  | false => rw [hb] at h'; cases h'
  | true => rw [hb] at h'; injection h' with h'; subst h'; trivial
 | arr τ l =>
  have h' : ((l[i]?).bind fun x => match τ.ofAll (q43 j vs (τ.leaves x)) with | some y => some (.arr τ (l.set i y)) | none => none) = some o' := h
  obtain ⟨x, _, h2⟩ := q51 h'
  split at h2
  ·injection h2 with h2; subst h2
   exact ⟨rfl, by simp⟩
  ·cases h2
theorem q392 {o o' : Ob} {i j : Nat} {vs : List V} (h : o.writeK i j vs some = some o') {i1 j1 : Nat} (hn : ¬ q50 o i j vs.length i1 j1) : q35 o' i1 j1 = q35 o i1 j1 := by
 cases o with
 | mp τ l => cases h
 | box t fs =>
  have h' : (bif Nat.ble (j + vs.length) fs.length then some (.box t (q43 j vs fs)) else none) = some o' := h
  cases hb : Nat.ble (j + vs.length) fs.length with
  | false => rw [hb] at h'; cases h'
  | true =>
   rw [hb] at h'; injection h' with h'; subst h'
   simp only [q35]
   rw [q102 (y168 hb)]
   simp only [q50] at hn
   by_cases c : j1 < j
   ·rw [if_pos c]
   ·rw [if_neg c, if_neg (by omega)]
 | arr τ l =>
  have h' : ((l[i]?).bind fun x => match τ.ofAll (q43 j vs (τ.leaves x)) with | some y => some (.arr τ (l.set i y)) | none => none) = some o' := h
  obtain ⟨x, hx, h2⟩ := q51 h'
  split at h2
  ·rename_i y hy
   injection h2 with h2; subst h2
   simp only [q35]
   rw [List.getElem?_set]
   have hil : i < l.length := (y149.1 hx).1
   by_cases e : i = i1
   ·subst e
    have hn' : ¬ (j <= j1 /\ j1 < j + vs.length) := fun h => hn ⟨rfl, h⟩
    rw [if_pos rfl, if_pos hil, hx]
    simp only [Option.bind]
    have hlen := q154 hy
    have hl2 := Ty.leaves_length τ y
    have hl3 := Ty.leaves_length τ x
    by_cases c : j1 < τ.size
    ·obtain ⟨v, hv⟩ : ∃ v, (τ.leaves x)[j1]? = some v := ⟨_, y140 (by omega)⟩
     have hv2 : (q43 j vs (τ.leaves x))[j1]? = some v := by
      by_cases hvs : vs = []
      ·subst hvs; simp [q43]; exact hv
      ·rw [q102 (q222 (by rw [hlen, hl3]) hvs)]
       by_cases c1 : j1 < j
       ·rw [if_pos c1]; exact hv
       ·rw [if_neg c1, if_neg (by omega)]; exact hv
     rw [q712 hy hv hv2, hv]
    ·rw [y158 (by omega), y158 (by omega)]
   ·rw [if_neg e]
  ·cases h2
theorem q744 {o o' : Ob} {i j : Nat} {vs : List V} (h : o.writeK i j vs some = some o') {i1 j1 : Nat} (hn : q50 o i j vs.length i1 j1) {v' : V} (hv' : q35 o' i1 j1 = some v') {os : Ob} (ho : obOf v' = some os) :
  ∃ v, vs[j1 - j]? = some v /\ (q196 v = true \/ v = .nils) := by
 cases o with
 | mp τ l => cases h
 | box t fs =>
  have h' : (bif Nat.ble (j + vs.length) fs.length then some (.box t (q43 j vs fs)) else none) = some o' := h
  cases hb : Nat.ble (j + vs.length) fs.length with
  | false => rw [hb] at h'; cases h'
  | true =>
   rw [hb] at h'; injection h' with h'; subst h'
   simp only [q35] at hv'
   simp only [q50] at hn
   rw [q102 (y168 hb), if_neg (by omega), if_pos (by omega)] at hv'
   refine ⟨v', hv', .inl ?_⟩
   cases v' <;> first | rfl | cases ho
 | arr τ l =>
  have h' : ((l[i]?).bind fun x => match τ.ofAll (q43 j vs (τ.leaves x)) with | some y => some (.arr τ (l.set i y)) | none => none) = some o' := h
  obtain ⟨x, hx, h2⟩ := q51 h'
  split at h2
  ·rename_i y hy
   injection h2 with h2; subst h2
   simp only [q50] at hn
   obtain ⟨e, h1, h3⟩ := hn
   subst e
   have hil : i1 < l.length := (y149.1 hx).1
   simp only [q35] at hv'
   rw [List.getElem?_set, if_pos rfl, if_pos hil] at hv'
   have hv2 : (τ.leaves y)[j1]? = some v' := hv'
   have hj : j1 < τ.size := by rw [<- Ty.leaves_length τ y]; exact (y149.1 hv2).1
   obtain ⟨σ, v, z, w', a1, a2, a3, a4, a5⟩ := q134 hy j1 hj
   rw [hv2] at a5; injection a5 with a5; subst a5
   have hvs : vs ≠ [] := fun e => by rw [e] at h3; simp at h3; omega
   rw [q102 (q222 (by rw [q154 hy, Ty.leaves_length]) hvs), if_neg (by omega), if_pos h3] at a2
   refine ⟨v, a2, ?_⟩
   cases σ with
   | pair => exact (Ty.lty_leaf a1).elim
   | unit => exact (Ty.lty_leaf a1).elim
   | int => injection a4 with a4 _; subst a4; cases ho
   | bool => injection a4 with a4 _; subst a4; cases ho
   | sl => injection a4 with a4 _; subst a4; cases ho
   | ow a =>
    unfold Ty.ofLeaf at a3
    cases v <;> first | exact .inl rfl | exact .inr rfl | cases a3
   | bx a =>
    unfold Ty.ofLeaf at a3
    cases v <;> first | exact .inl rfl | cases a3
   | mp a =>
    unfold Ty.ofLeaf at a3
    cases v <;> first | exact .inl rfl | cases a3
  ·cases h2
theorem q535 {o o' os : Ob} {i j : Nat} {v v' : V} (h : o.writeK i j [v'] some = some o') (hv : q35 o i j = some v) (hr : os.rest v = some v') {i1 j1 : Nat} (hn : q50 o i j 1 i1 j1) : q35 o' i1 j1 = some v' := by
 cases o with
 | mp τ l => cases h
 | box t fs =>
  have h' : (bif Nat.ble (j + 1) fs.length then some (.box t (q43 j [v'] fs)) else none) = some o' := h
  cases hb : Nat.ble (j + 1) fs.length with
  | false => rw [hb] at h'; cases h'
  | true =>
   rw [hb] at h'; injection h' with h'; subst h'
   simp only [q50] at hn
   have e : j1 = j := by omega
   subst e
   simp only [q35]
   rw [q102 (vs := [v']) (y168 hb), if_neg (by omega), if_pos (by simp)]
   simp
 | arr τ l =>
  have h' : ((l[i]?).bind fun x => match τ.ofAll (q43 j [v'] (τ.leaves x)) with | some y => some (.arr τ (l.set i y)) | none => none) = some o' := h
  obtain ⟨x, hx, h2⟩ := q51 h'
  split at h2
  ·rename_i y hy
   injection h2 with h2; subst h2
   simp only [q50] at hn
   have e1 : i1 = i := hn.1
   have e2 : j1 = j := by omega
   subst e1; subst e2
   have hil : i1 < l.length := (y149.1 hx).1
   simp only [q35] at hv ⊢
   rw [hx] at hv
   rw [List.getElem?_set, if_pos rfl, if_pos hil]
   have hv2 : (τ.leaves x)[j1]? = some v := hv
   refine q747 hy hv2 ?_ hr
   rw [q102 (vs := [v']) (q222 (by rw [q154 hy, Ty.leaves_length]) (by simp)), if_neg (by omega), if_pos (by simp)]
   simp
  ·cases h2
theorem q487 {R : Type} (o : Ob) (i j : Nat) (K : V -> Option R) : o.leafK i j K = (q35 o i j).bind K := by
 cases h : q35 o i j with
 | none =>
  cases hk : o.leafK i j K with
  | none => rfl
  | some r =>
   obtain ⟨v, hv, _⟩ := q180 hk
   rw [h] at hv; cases hv
 | some v => exact q103 h K
theorem q618 {R : Type} (o : Ob) (i j : Nat) (vs : List V) (K : Ob -> Option R) : o.writeK i j vs K = (o.writeK i j vs some).bind K := by
 cases o with
 | mp τ l => rfl
 | box t fs =>
  unfold Ob.writeK
  simp only
  cases Nat.ble (j + vs.length) fs.length <;> rfl
 | arr τ l =>
  unfold Ob.writeK
  simp only
  cases l[i]? with
  | none => rfl
  | some x =>
   simp only [Option.bind]
   split <;> rfl
theorem q422 {R : Type} {o1' : Ob} : ∀ (p : List (Nat × Nat)) (o0 : Ob) (K : Ob -> Option R), Ob.updK p o0 (fun _ K' => K' o1') K = (Ob.updK p o0 (fun _ K' => K' o1') some).bind K
 | [], o0, K => rfl
 | (i, j) :: p, o0, K => by
  rw [q118, q118, q487, q487]
  cases q35 o0 i j with
  | none => rfl
  | some v =>
   simp only [Option.bind]
   cases obOf v with
   | none => rfl
   | some os =>
    refine (q422 p os _).trans (Eq.trans ?_ (congrArg (fun z => Option.bind z K) (q422 p os _)).symm)
    cases Ob.updK p os (fun _ K' => K' o1') some with
    | none => rfl
    | some os' =>
     simp only [Option.bind]
     cases os'.rest v with
     | none => rfl
     | some v' => exact q618 o0 i j [v'] K
theorem q551 {R : Type} : ∀ {p : List (Nat × Nat)} {o0 : Ob} {Fn : Ob -> (Ob -> Option R) -> Option R} {K : Ob -> Option R} {r : R}, Ob.updK p o0 Fn K = some r -> ∃ o1, o0.goK p some = some o1
 | [], o0, Fn, K, r, h => ⟨o0, rfl⟩
 | (i, j) :: p, o0, Fn, K, r, h => by
  rw [q118] at h
  obtain ⟨v, hv, h⟩ := q180 h
  cases ho : obOf v with
  | none => rw [ho] at h; cases h
  | some os =>
   rw [ho] at h
   obtain ⟨o1, h1⟩ := q551 (p := p) (o0 := os) h
   refine ⟨o1, ?_⟩
   rw [q259, q103 hv]
   simp only [ho]
   exact h1
def okq : List (Nat × Nat) -> (List (Nat × Nat) -> Prop) -> List (Nat × Nat) -> Prop
 | [], ok, p => ok p
 | _ :: _, _, [] => True
 | (_, j) :: q, ok, (_, j1) :: p => j1 = j -> okq q ok p
def PtrOk (v : V) (u : Value) : Prop :=
 (∀ τ y, v = .bx τ y -> ∃ ad, u = .pointer (some ad)) /\ ∀ τ l, v = .mp τ l -> ∃ b, u = .map (some b)
theorem q336 {w : World} {o : Ob} {b off i j : Nat} {p : List (Nat × Nat)} {x : Ob × Option (Nat × Nat)} (h : way w o (some (b, off)) ((i, j) :: p) = some x) :
  ∃ v o1 u, q35 o i j = some v /\ obOf v = some o1 /\ w.cell? ⟨b, off + ix o i j, none⟩ = some u /\ PtrOk v u /\ way w o1 (q231 v u) p = some x := by
 simp only [way] at h
 split at h
 ·rename_i τ l u hv hu
  exact ⟨_, _, u, hv, rfl, hu, ⟨fun _ _ e => (by cases e), fun _ _ e => (by cases e)⟩, h⟩
 ·rename_i τ y ad hv hu
  exact ⟨_, _, _, hv, rfl, hu, ⟨fun _ _ _ => ⟨ad, rfl⟩, fun _ _ e => (by cases e)⟩, h⟩
 ·rename_i τ y b hv hu
  exact ⟨_, _, _, hv, rfl, hu, ⟨fun _ _ e => (by cases e), fun _ _ _ => ⟨b, rfl⟩⟩, h⟩
 ·cases h
theorem q708 {w : World} {o o1 : Ob} {b off i j : Nat} {p : List (Nat × Nat)} {v : V} {u : Value} (hv : q35 o i j = some v) (ho : obOf v = some o1) (hu : w.cell? ⟨b, off + ix o i j, none⟩ = some u) (hb : PtrOk v u) :
  way w o (some (b, off)) ((i, j) :: p) = way w o1 (q231 v u) p := by
 simp only [way, hv, hu]
 cases v with
 | ow τ l => injection ho with ho; subst ho; rfl
 | bx τ x =>
  injection ho with ho; subst ho
  obtain ⟨ad, e⟩ := hb.1 τ x rfl
  subst e
  rfl
 | mp τ l =>
  injection ho with ho; subst ho
  obtain ⟨b, e⟩ := hb.2 τ l rfl
  subst e
  rfl
 | _ => cases ho
def q627 (o o' o'' : Ob) : Prop :=
 o'' = o' \/ ∃ (τ : Ty) (x : τ.den) (t : Option Ty) (fs : List V) (y : τ.den), o = .box (some τ) (τ.leaves x) /\ o' = .box t fs /\ τ.ofAll fs = some y /\ o'' = .box (some τ) (τ.leaves y)
theorem q596 {o o' o'' : Ob} (h : q627 o o' o'') (hl : o.like o') : o.like o'' := by
 rcases h with rfl | ⟨τ, x, t, fs, y, rfl, _, _, rfl⟩
 ·exact hl
 ·trivial
theorem no_nils {t : Option Ty} {τ : Ty} {x : τ.den} {i j : Nat} : q35 (.box t (τ.leaves x)) i j ≠ some .nils := by
 intro h
 obtain ⟨σ, hσ, z, hz, hr⟩ := q220 τ x j .nils h
 cases σ with
 | pair => exact (Ty.lty_leaf hσ).elim
 | unit => exact (Ty.lty_leaf hσ).elim
 | _ => injection hz with hz _; cases hz
theorem q326 {o o' o'' os : Ob} {i j : Nat} {v : V} (h : q627 o o' o'') (hv : q35 o'' i j = some v) (ho : obOf v = some os) : q35 o' i j = some v \/ (q35 o' i j = some .nils /\ q35 o i j ≠ some .nils /\ ∃ t fs t' fs', o' = .box t fs /\ o = .box t' fs') := by
 rcases h with rfl | ⟨τ, x, t, fs, y, rfl, rfl, hy, rfl⟩
 ·exact .inl hv
 ·have hj : j < τ.size := by rw [<- Ty.leaves_length τ y]; exact (y149.1 (show (τ.leaves y)[j]? = some v from hv)).1
  obtain ⟨σ, w, z, w', a1, a2, a3, a4, a5⟩ := q134 hy j hj
  rw [show (τ.leaves y)[j]? = some v from hv] at a5; injection a5 with a5; subst a5
  cases σ with
  | pair => exact (Ty.lty_leaf a1).elim
  | unit => exact (Ty.lty_leaf a1).elim
  | int => injection a4 with a4 _; subst a4; cases ho
  | bool => injection a4 with a4 _; subst a4; cases ho
  | sl => injection a4 with a4 _; subst a4; cases ho
  | ow a =>
   injection a4 with a4 _
   unfold Ty.ofLeaf at a3
   cases w <;> first
    | (cases a3; done)
    | exact .inr ⟨a2, no_nils, _, _, _, _, rfl, rfl⟩
    | (
      simp only at a3
      split at a3
      ·rename_i hb
       have e := Ty.beq_eq hb
       subst e
       injection a3 with a3
       subst a3
       rw [q52] at a4
       exact .inl (by rw [<- a4]; exact a2)
      ·cases a3)
  | bx a =>
   injection a4 with a4 _
   unfold Ty.ofLeaf at a3
   cases w <;> first
    | (cases a3; done)
    | (
      simp only at a3
      split at a3
      ·rename_i hb
       have e := Ty.beq_eq hb
       subst e
       injection a3 with a3
       subst a3
       rw [q250] at a4
       exact .inl (by rw [<- a4]; exact a2)
      ·cases a3)
  | mp a =>
   injection a4 with a4 _
   unfold Ty.ofLeaf at a3
   cases w <;> first
    | (cases a3; done)
    | (
      simp only at a3
      split at a3
      ·rename_i hb
       have e := Ty.beq_eq hb
       subst e
       injection a3 with a3
       subst a3
       rw [q305] at a4
       exact .inl (by rw [<- a4]; exact a2)
      ·cases a3)
theorem rest_std {os os' os'' : Ob} {v v' : V} (ho : obOf v = some os) (hr : os'.rest v = some v') (h : obOf v' = some os'') : q627 os os' os'' /\ ∀ u, q231 v' u = q231 v u := by
 unfold Ob.rest at hr
 split at hr
 ·injection hr with hr; subst hr
  injection h with h; subst h
  exact ⟨.inl rfl, fun _ => rfl⟩
 ·injection hr with hr; subst hr
  injection h with h; subst h
  exact ⟨.inl rfl, fun u => by cases u with | map a => cases a <;> rfl | _ => rfl⟩
 ·split at hr
  ·rename_i y hy
   injection hr with hr; subst hr
   injection ho with ho; subst ho
   injection h with h; subst h
   exact ⟨.inr ⟨_, _, _, _, _, rfl, rfl, hy, rfl⟩, fun u => by cases u with | pointer a => cases a <;> rfl | _ => rfl⟩
  ·cases hr
 ·cases hr
theorem ix_std {o o' : Ob} (h : o.like o') (i j : Nat) : ix o' i j = ix o i j := (q520 h i j).symm
theorem q377 {o : Ob} {i j i1 j1 : Nat} {v : V} (hv : q35 o i j = some v) (h : ¬ q50 o i j 1 i1 j1) : q570 o i j i1 j1 := by
 cases o with
 | box t fs => simp only [q50] at h; simp only [q570]; omega
 | arr τ l => simp only [q50] at h; simp only [q570]; omega
 | mp τ l => cases hv
theorem q508 {o : Ob} {i j i1 j1 : Nat} (h : q50 o i j 1 i1 j1) : j1 = j := by
 cases o with
 | box t fs => simp only [q50] at h; omega
 | arr τ l => simp only [q50] at h; omega
 | mp τ l => simp only [q50] at h; omega
theorem q539 {w w' : World} {F : Bs} {Gx G1 : Bs} {o1 o1' : Ob} {loc1 : Option (Nat × Nat)} {ok : List (Nat × Nat) -> Prop} (hsize : w.heap.size <= w'.heap.size) (hout : ∀ b, ¬ F b -> b < w.heap.size -> w'.heap[b]? = w.heap[b]?)
  (h1 : ObR w F o1 loc1 G1) (hGx : ∀ n, Gx n -> G1 n)
  (hbase : ∀ o1'', q627 o1 o1' o1'' -> ∀ p, ok p -> ∀ o' loc, way w' o1'' loc1 p = some (o', loc) -> ∃ o, way w o1 loc1 p = some (o, loc) /\ o.like o') :
  ∀ (q : List (Nat × Nat)) {o0 : Ob} {loc0 : Option (Nat × Nat)} {G0 : Bs} {o0' : Ob}, ObR w F o0 loc0 G0 -> way w o0 loc0 q = some (o1, loc1) -> (∀ c, G0 c -> ¬ Gx c -> w'.heap[c]? = w.heap[c]?) -> Ob.updK q o0 (fun _ K' => K' o1') some = some o0' ->
   ∀ o0'', q627 o0 o0' o0'' -> ∀ p, okq q ok p -> ∀ o' loc, way w' o0'' loc0 p = some (o', loc) -> ∃ o, way w o0 loc0 p = some (o, loc) /\ o.like o'
 | [], o0, loc0, G0, o0', h0, hw, hm, hu, o0'', hstd, p, hp, o', loc, hl => by
  have hw' : some (o0, loc0) = some (o1, loc1) := hw
  injection hw' with hw'; injection hw' with e1 e2; subst e1; subst e2
  have hu' : some o1' = some o0' := hu
  injection hu' with hu'; subst hu'
  exact hbase o0'' hstd p hp o' loc hl
 | (i, j) :: q, o0, loc0, G0, o0', h0, hw, hm, hu, o0'', hstd, p, hp, o', loc, hl => by
  cases loc0 with
  | none => cases hw
  | some bo =>
   obtain ⟨b, off⟩ := bo
   obtain ⟨v, os, u, hv, ho, hc, hbx, hwq⟩ := q336 hw
   obtain ⟨b2, off2, u2, Gm, hl2, hb, hc2, hlf, hsm, hnb⟩ := q271 h0 hv
   injection hl2 with hl2; injection hl2 with e1 e2; subst e1; subst e2
   rw [hc] at hc2; injection hc2 with hc2; subst hc2
   have hsub := q138 hlf ho
   rw [q118, q103 hv] at hu
   simp only [ho] at hu
   rw [q422] at hu
   obtain ⟨os', hu1, hu2⟩ := q51 hu
   have hxm : ∀ n, Gx n -> Gm n := by
    intro n hn
    obtain ⟨G1', hG1', s1⟩ := q654 q hsub hwq
    exact s1 n ((h1.uniq hG1' n).1 (hGx n hn))
   cases hr : os'.rest v with
   | none => rw [hr] at hu2; cases hu2
   | some v' =>
    rw [hr] at hu2
    have hu3 : o0.writeK i j [v'] some = some o0' := hu2
    have hlike := q363 hu3
    have hlike2 := q596 hstd hlike
    have hbsame : w'.heap[b]? = w.heap[b]? := hm b hb fun hx => hnb b (hxm b hx) rfl
    cases p with
    | nil =>
     have hl' : some (o0'', some (b, off)) = some (o', loc) := hl
     injection hl' with hl'; injection hl' with e1 e2; subst e1; subst e2
     exact ⟨o0, rfl, hlike2⟩
    | cons ij p =>
     obtain ⟨i1, j1⟩ := ij
     obtain ⟨v1, os1, u1, hv1, ho1, hc1, hbx1, hw1⟩ := q336 hl
     have hc1' : w.cell? ⟨b, off + ix o0 i1 j1, none⟩ = some u1 := by
      rw [ix_std hlike2] at hc1
      rw [<- q475 hbsame]; exact hc1
     by_cases hin : q50 o0 i j 1 i1 j1
     ·
      have hv' := q535 hu3 hv hr hin
      have e : v1 = v' := by
       rcases q326 hstd hv1 ho1 with h | ⟨h, _⟩
       ·rw [hv'] at h; injection h with h; exact h.symm
       ·rw [hv'] at h; injection h with h; subst h
        unfold Ob.rest at hr
        split at hr
        ·cases hr
        ·cases hr
        ·split at hr <;> cases hr
        ·cases hr
      subst e
      obtain ⟨hs2, hloc⟩ := rest_std ho hr ho1
      have ej := q508 hin
      have hix : ix o0 i1 j1 = ix o0 i j := by
       cases o0 with
       | box t fs => exact ej
       | arr τ l => simp only [q50] at hin; simp only [ix]; rw [hin.1, ej]
       | mp τ l => cases hv
      have hu1c : u1 = u := by
       rw [hix, hc] at hc1'; injection hc1' with h; exact h.symm
      subst hu1c
      rw [hloc] at hw1
      obtain ⟨o, hwo, hlk⟩ := q539 hsize hout h1 hGx hbase q hsub hwq (fun c hc hx => hm c (hsm c hc) hx) hu1 os1 hs2 p (hp ej) o' loc hw1
      refine ⟨o, ?_, hlk⟩
      have hv0 : q35 o0 i1 j1 = some v := by
       cases o0 with
       | box t fs => simp only [q35] at hv ⊢; rw [ej]; exact hv
       | arr τ l => simp only [q50] at hin; rw [hin.1, ej]; exact hv
       | mp τ l => cases hv
      rw [q708 hv0 ho (by rw [hix]; exact hc) hbx]
      exact hwo
     ·
      have hout1 := q392 hu3 (vs := [v']) hin
      have hv0 : q35 o0 i1 j1 = some v1 := by
       rcases q326 hstd hv1 ho1 with h | ⟨h, h2, _⟩
       ·rw [<- hout1]; exact h
       ·rw [hout1] at h; exact absurd h h2
      obtain ⟨b3, off3, u3, Ga, u4, Gb, hl3, _, hc3, hlf3, hs3, _, hc4, hlf4, hs4, hnb4, hd⟩ := q685 h0 hv hv0 (q377 hv hin)
      injection hl3 with hl3; injection hl3 with e1 e2; subst e1; subst e2
      rw [hc1'] at hc4; injection hc4 with hc4; subst hc4
      rw [hc] at hc3; injection hc3 with hc3; subst hc3
      have hst : Stay w F w' (fun _ => False) Gb := ⟨hsize, fun c hc => hm c (hs4 c hc) fun hx => hd c ((hlf.uniq hlf3 c).1 (hxm c hx)) hc, hout, fun _ h => h.elim⟩
      rw [q276 p (q138 hlf4 ho1) hst] at hw1
      exact ⟨o', by rw [q708 hv0 ho1 hc1' hbx1]; exact hw1, Ob.like.refl o'⟩
theorem ix_apart {o : Ob} {e j n i1 j1 : Nat} {v : V} (h : ¬ q50 o e j n i1 j1) (hv : q35 o i1 j1 = some v) (hf : fits o e j n) : ix o i1 j1 < ix o e j \/ ix o e j + n <= ix o i1 j1 := by
 cases o with
 | mp τ l => cases hv
 | box t fs => simp only [q50] at h; simp only [ix]; omega
 | arr τ l =>
  simp only [q50] at h
  simp only [ix]
  have hf' : e < l.length /\ j + n <= τ.size := hf
  simp only [q35] at hv
  obtain ⟨x, hx, hv⟩ := q51 hv
  have hj : j1 < τ.size := by rw [<- Ty.leaves_length τ x]; exact (y149.1 hv).1
  rcases Nat.lt_trichotomy i1 e with c | c | c
  ·have : (i1 + 1) * τ.size <= e * τ.size := y162 _ c
   rw [Nat.add_mul, Nat.one_mul] at this
   omega
  ·subst c
   have : ¬ (j <= j1 /\ j1 < j + n) := fun h' => h ⟨rfl, h'⟩
   omega
  ·have : (e + 1) * τ.size <= i1 * τ.size := y162 _ c
   rw [Nat.add_mul, Nat.one_mul] at this
   omega
theorem q666 {w w' : World} {F : Bs} {o1 o1' : Ob} {b off : Nat} {G1 : Bs} {e j : Nat} {vs : List V} {us : List Value} {row row' : Array Value} (hsize : w.heap.size <= w'.heap.size) (hout : ∀ b, ¬ F b -> b < w.heap.size -> w'.heap[b]? = w.heap[b]?)
  (h1 : ObR w F o1 (some (b, off)) G1) (hvs : vs ≠ []) (hw : o1.writeK e j vs some = some o1') (hr : Row w b row) (hr' : Row w' b row') (hsp : q104 row row' (off + ix o1 e j) us) (hul : us.length = vs.length)
  (hm : ∀ c, G1 c -> c ≠ b -> w'.heap[c]? = w.heap[c]?) :
  ∀ o1'', q627 o1 o1' o1'' -> ∀ p, (∀ i1 j1 p' v, p = (i1, j1) :: p' -> q50 o1 e j vs.length i1 j1 -> vs[j1 - j]? = some v -> ¬ (q196 v = true \/ v = .nils)) -> ∀ o' loc, way w' o1'' (some (b, off)) p = some (o', loc) -> ∃ o, way w o1 (some (b, off)) p = some (o, loc) /\ o.like o' := by
 intro o1'' hstd p hp o' loc hl
 have hlike2 := q596 hstd (q363 hw)
 cases p with
 | nil =>
  have hl' : some (o1'', some (b, off)) = some (o', loc) := hl
  injection hl' with hl'; injection hl' with e1 e2; subst e1; subst e2
  exact ⟨o1, rfl, hlike2⟩
 | cons ij p =>
  obtain ⟨i1, j1⟩ := ij
  obtain ⟨v1, os1, u1, hv1, ho1, hc1, hbx1, hw1⟩ := q336 hl
  by_cases hin : q50 o1 e j vs.length i1 j1
  ·exfalso
   rcases q326 hstd hv1 ho1 with h | ⟨h, _, t, fs, t', fs', e1, e2⟩
   ·obtain ⟨v, hv, hd⟩ := q744 hw hin h ho1
    exact hp i1 j1 p v rfl hin hv hd
   ·subst e1; subst e2
    have h' : (bif Nat.ble (j + vs.length) fs'.length then some (Ob.box t' (q43 j vs fs')) else none) = some (.box t fs) := hw
    cases hb : Nat.ble (j + vs.length) fs'.length with
    | false => rw [hb] at h'; cases h'
    | true =>
     rw [hb] at h'; injection h' with h'; injection h' with e1 e2; subst e2
     have hin' := hin
     simp only [q50] at hin'
     simp only [q35] at h
     rw [q102 (y168 hb), if_neg (by omega), if_pos (by omega)] at h
     exact hp i1 j1 p .nils rfl hin h (.inr rfl)
  ·have hout1 := q392 hw hin
   have hv0 : q35 o1 i1 j1 = some v1 := by
    rcases q326 hstd hv1 ho1 with h | ⟨h, h2, _⟩
    ·rw [<- hout1]; exact h
    ·rw [hout1] at h; exact absurd h h2
   obtain ⟨b2, off2, u2, Gm, hl2, hb, hc2, hlf, hsm, hnb⟩ := q271 h1 hv0
   injection hl2 with hl2; injection hl2 with e1 e2; subst e1; subst e2
   have hc1' : w.cell? ⟨b, off + ix o1 i1 j1, none⟩ = some u1 := by
    rw [ix_std hlike2] at hc1
    have hap := ix_apart hin hv0 (q272 hvs hw)
    obtain ⟨t1, hrow1⟩ := hr
    obtain ⟨t2, hrow2⟩ := hr'
    simp only [World.cell?, hrow1, hrow2] at hc1 ⊢
    have hg := hsp.get (off + ix o1 i1 j1)
    rw [Array.getElem?_toList, Array.getElem?_toList] at hg
    simp only [Option.isSome_none, Bool.false_eq_true, if_false] at hc1 ⊢
    rw [hg] at hc1
    rcases hap with h | h
    ·rw [if_pos (by omega)] at hc1; exact hc1
    ·rw [if_neg (by omega), if_neg (by omega)] at hc1; exact hc1
   rw [hc1'] at hc2; injection hc2 with hc2; subst hc2
   have hst : Stay w F w' (fun _ => False) Gm := ⟨hsize, fun c hc => hm c (hsm c hc) (hnb c hc), hout, fun _ h => h.elim⟩
   rw [q276 p (q138 hlf ho1) hst] at hw1
   exact ⟨o', by rw [q708 hv0 ho1 hc1' hbx1]; exact hw1, Ob.like.refl o'⟩
end Go.Lf
namespace Go.Lf
theorem q468 {e j' : Nat} : ∀ {q p : List (Nat × Nat)}, over p (q ++ [(e, j')]) true = false -> okq q (fun p => ∀ i1 j1 p', p = (i1, j1) :: p' -> j1 ≠ j') p
 | [], [], _ => fun i1 j1 p' h => by cases h
 | [], (i1, j1) :: p, h => by
  intro i2 j2 p' he hj
  injection he with he _; injection he with _ he; subst he; subst hj
  have h' : (Nat.beq j1 j1 && over p [] true) = false := h
  have e1 : Nat.beq j1 j1 = true := Nat.beq_refl j1
  have e2 : over p [] true = true := by cases p <;> rfl
  rw [e1, e2] at h'
  cases h'
 | (_, j) :: q, [], _ => trivial
 | (_, j) :: q, (_, j1) :: p, h => by
  intro e
  subst e
  have h' : (Nat.beq j1 j1 && over p (q ++ [(e, j')]) true) = false := h
  have e1 : Nat.beq j1 j1 = true := Nat.beq_refl j1
  rw [e1] at h'
  exact q468 h'
theorem q719 {α : Type} {ok : α -> List (Nat × Nat) -> Prop} : ∀ {q p : List (Nat × Nat)}, (∀ t, okq q (ok t) p) -> okq q (fun p => ∀ t, ok t p) p
 | [], _, h => h
 | _ :: _, [], _ => trivial
 | (_, _) :: _, (_, _) :: _, h => fun e => q719 fun t => h t e
theorem q260 {ok ok' : List (Nat × Nat) -> Prop} (h : ∀ p, ok p -> ok' p) : ∀ {q p : List (Nat × Nat)}, okq q ok p -> okq q ok' p
 | [], p, hk => h p hk
 | _ :: _, [], _ => trivial
 | (_, _) :: _, (_, _) :: _, hk => fun e => q260 h (hk e)
theorem q330 : ∀ (q p : List (Nat × Nat)), okq q (fun _ => True) p
 | [], _ => trivial
 | _ :: _, [] => trivial
 | (_, _) :: q, (_, _) :: p => fun _ => q330 q p
theorem q319 {r : Ref} {i : Nat} : ∀ {j t : Nat} {vs : List V} {v : V}, vs[t]? = some v -> q604 v = true -> (⟨r.root, r.path ++ [(i, j + t)]⟩, true) ∈ q128 r i j vs
 | j, 0, v :: vs, _, h, ho => by
  injection h with h; subst h
  unfold q128
  rw [ho]
  exact y169
 | j, t + 1, v :: vs, x, h, ho => by
  have := q319 (r := r) (i := i) (j := j + 1) (t := t) (vs := vs) (v := x) (by simpa using h) ho
  have e : j + 1 + t = j + (t + 1) := by omega
  rw [e] at this
  unfold q128
  cases q604 v
  ·exact this
  ·exact y155 _ this
theorem q358 {r : Ref} : ∀ {iv : List (Ref × Bool)}, q57 r iv = false -> ∀ q e, (q, e) ∈ iv -> r.root = q.root -> over r.path q.path e = false
 | (q0, e0) :: iv, h, q, e, hm, hr => by
  have h' : ((Nat.beq r.root q0.root && over r.path q0.path e0) || q57 r iv) = false := h
  rw [Bool.or_eq_false_iff] at h'
  rcases y166.1 hm with he | hm
  ·injection he with e1 e2; subst e1; subst e2
   have e1 : Nat.beq r.root q.root = true := by rw [hr]; exact Nat.beq_refl _
   rw [e1] at h'
   exact h'.1
  ·exact q358 h'.2 q e hm hr
theorem q191 {r : Ref} {i : Nat} : ∀ {j : Nat} {vs : List V} {p : Ref × Bool}, p ∈ q128 r i j vs -> p.1.root = r.root
 | j, [], p, h => by cases h
 | j, v :: vs, p, h => by
  unfold q128 at h
  cases hv : q604 v with
  | false => rw [hv] at h; exact q191 h
  | true =>
   rw [hv] at h
   rcases y166.1 h with h | h
   ·subst h; rfl
   ·exact q191 h
section
variable {w w' : World} {E : Bs} {β : Nat -> Option (Nat × Nat)} {FA F FA1 F1 G : Bs} {obs obs' : List (Nat × Ob)} {Gk Gk' : Nat -> Bs}
theorem q673 (h : ObsA w E FA F β obs Gk) (hF : ∀ c, F c -> FA c) {k : Nat} {o0 o0' : Ob} {H : Bs} (hg : get k obs = some o0) (hnew : ObR w' (fun c => (F c /\ ¬ Gk k c) \/ H c) o0' (β k) H) (hdj : ∀ c, H c -> F c -> Gk k c)
  (hsize : w.heap.size <= w'.heap.size) (hst : ∀ c, F c -> ¬ Gk k c -> w'.heap[c]? = w.heap[c]?) (hout : ∀ c, ¬ FA c -> c < w.heap.size -> w'.heap[c]? = w.heap[c]?) (hless : ∀ c, H c -> FA c \/ w.heap.size <= c) :
  ObsR w' E (fun c => (F c /\ ¬ Gk k c) \/ H c) β (put k o0' obs) (upd Gk k H) := by
 have old : ∀ q o', q ≠ k -> get q (put k o0' obs) = some o' -> get q obs = some o' := fun q o' hq h => by rw [q33 _ (Ne.symm hq)] at h; exact h
 have sub : ∀ q o', get q obs = some o' -> ∀ b, Gk q b -> F b := fun q o' hq b hb => (h.cov b).2 (.inr ⟨q, o', hq, hb⟩)
 have nk : ∀ q o', q ≠ k -> get q obs = some o' -> ∀ b, Gk q b -> ¬ Gk k b := fun q o' hq hg' b hb => h.dj q k o' o0 hg' hg hq b hb
 refine ⟨fun q o' hq => ?_, fun q q' o1 o2 h1 h2 hne => ?_, fun b => ?_, fun q o' hq => ?_, fun b hb => Nat.lt_of_lt_of_le (h.elt b hb) hsize⟩
 ·by_cases e : q = k
  ·subst e
   rw [q47] at hq
   injection hq with hq; subst hq
   rw [q39]
   exact hnew
  ·rw [q92 _ _ e]
   have hq' := old q o' e hq
   refine (h.rel q o' hq').keep ⟨hsize, fun c hc => hst c (sub q o' hq' c hc) (nk q o' e hq' c hc), hout, fun c hc => ?_⟩
   rcases hc with ⟨hc, _⟩ | hc
   ·exact .inl (hF c hc)
   ·exact hless c hc
 ·by_cases e : q = k
  ·subst e
   rw [q39, q92 _ _ (Ne.symm hne)]
   have h2' := old q' o2 (Ne.symm hne) h2
   exact fun b hb hb' => nk q' o2 (Ne.symm hne) h2' b hb' (hdj b hb (sub q' o2 h2' b hb'))
  ·rw [q92 _ _ e]
   have h1' := old q o1 e h1
   by_cases e' : q' = k
   ·subst e'
    rw [q39]
    exact fun b hb hb' => nk q o1 e h1' b hb (hdj b hb' (sub q o1 h1' b hb))
   ·rw [q92 _ _ e']
    exact h.dj q q' o1 o2 h1' (old q' o2 e' h2) hne
 ·constructor
  ·rintro (⟨hb, hn⟩ | hb)
   ·rcases (h.cov b).1 hb with hE | ⟨q, o', hq, hqb⟩
    ·exact .inl hE
    have e : q ≠ k := fun e => hn (e ▸ hqb)
    exact .inr ⟨q, o', by rw [q33 _ (Ne.symm e)]; exact hq, by rw [q92 _ _ e]; exact hqb⟩
   ·exact .inr ⟨k, o0', q47 _ _ _, by rw [q39]; exact hb⟩
  ·rintro (hE | ⟨q, o', hq, hqb⟩)
   ·exact .inl ⟨(h.cov b).2 (.inl hE), fun hk => h.out k o0 hg b hk hE⟩
   by_cases e : q = k
   ·subst e
    rw [q39] at hqb
    exact .inr hqb
   ·rw [q92 _ _ e] at hqb
    have hq' := old q o' e hq
    exact .inl ⟨sub q o' hq' b hqb, nk q o' e hq' b hqb⟩
 ·by_cases e : q = k
  ·subst e
   rw [q39]
   exact fun b hb hE => h.out q o0 hg b (hdj b hb ((h.cov b).2 (.inl hE))) hE
  ·rw [q92 _ _ e]
   exact h.out q o' (old q o' e hq)
end
section
variable {P : Program} {C : Ctx} {k : Nat} {tm : List (Nat × V)} {obs : List (Nat × Ob)} {fresh : Nat} {o : Oper} {a : Act} {w : World} {E : Bs} {β : Nat -> Option (Nat × Nat)} {F : Bs} {Gk : Nat -> Bs}
end
end Go.Lf
namespace Go.Lf
inductive ElR (w : World) (F : Bs) (τ : Ty) : List τ.den -> List Value -> Bs -> Prop
 | nil {G : Bs} : Emp G -> ElR w F τ [] [] G
 | cons {x : τ.den} {c : List Value} {l : List τ.den} {cs : List Value} {G G1 G2 : Bs} : LR w F τ x c G1 -> ElR w F τ l cs G2 -> Dj G1 G2 -> (∀ n, G n ↔ G1 n \/ G2 n) -> ElR w F τ (x :: l) (c ++ cs) G
section
variable {w w' : World} {F F' : Bs} {τ : Ty}
theorem ElR.iff {l : List τ.den} {cs : List Value} {G H : Bs} (h : ElR w F τ l cs G) (e : ∀ n, H n ↔ G n) : ElR w F τ l cs H := by
 cases h with
 | nil h => exact .nil fun n hn => h n ((e n).1 hn)
 | cons h1 h2 hd hG => exact .cons h1 h2 hd fun n => (e n).trans (hG n)
theorem ElR.length {l : List τ.den} {cs : List Value} {G : Bs} (h : ElR w F τ l cs G) : cs.length = l.length * τ.size := by
 induction h with
 | nil => simp
 | cons h1 _ _ _ ih => rw [y148, LR.length τ _ _ _ h1, ih, y167, Nat.add_mul, Nat.one_mul, Nat.add_comm]
theorem ElR.keep {l : List τ.den} {cs : List Value} {G : Bs} (h : ElR w F τ l cs G) (hs : Stay w F w' F' G) : ElR w' F' τ l cs G := by
 induction h with
 | nil h => exact .nil h
 | cons h1 _ hd hG ih => exact .cons (LR.keep τ _ _ _ h1 (hs.mono fun n hn => (hG n).2 (.inl hn))) (ih (hs.mono fun n hn => (hG n).2 (.inr hn))) hd hG
theorem ElR.lt {l : List τ.den} {cs : List Value} {G : Bs} (h : ElR w F τ l cs G) : ∀ b, G b -> b < w.heap.size := by
 induction h with
 | nil h => exact fun b hb => absurd hb (h b)
 | cons h1 _ _ hG ih => exact fun b hb => ((hG b).1 hb).elim (LR.lt τ _ _ _ h1 b) (ih b)
theorem ElR.append {l l' : List τ.den} {cs cs' : List Value} {G G' : Bs} (h : ElR w F τ l cs G) (h' : ElR w F τ l' cs' G') (hd : Dj G G') : ElR w F τ (l ++ l') (cs ++ cs') (fun n => G n \/ G' n) := by
 induction h with
 | nil h => exact h'.iff fun n => ⟨fun hn => hn.elim (fun hn => absurd hn (h n)) id, .inr⟩
 | cons h1 _ hd1 hG ih =>
  rw [List.append_assoc]
  refine .cons h1 (ih fun n hn => hd n ((hG n).2 (.inr hn))) (fun n hn hn' => hn'.elim (hd1 n hn) fun h => hd n ((hG n).2 (.inl hn)) h) fun n => ?_
  rw [hG n]
  exact or_assoc
theorem ElR.take {l : List τ.den} {cs : List Value} {G : Bs} (h : ElR w F τ l cs G) : ∀ n : Nat, ∃ G', ElR w F τ (l.take n) (cs.take (n * τ.size)) G' /\ ∀ b, G' b -> G b := by
 induction h with
 | nil h => exact fun n => ⟨_, by simpa using ElR.nil h, fun _ h => h⟩
 | cons h1 h2 hd hG ih =>
  rename_i x c l cs G G1 G2
  intro n
  cases n with
  | zero => exact ⟨fun _ => False, by simpa using ElR.nil fun _ h => h, fun _ h => h.elim⟩
  | succ n =>
   obtain ⟨G', h', hs⟩ := ih n
   have hl := LR.length τ _ _ _ h1
   refine ⟨fun b => G1 b \/ G' b, ?_, fun b hb => (hG b).2 (hb.imp id (hs b))⟩
   have e : (c ++ cs).take ((n + 1) * τ.size) = c ++ cs.take (n * τ.size) := by
    rw [List.take_append, hl, Nat.add_mul, Nat.one_mul]
    have : n * τ.size + τ.size - τ.size = n * τ.size := by omega
    rw [this, List.take_of_length_le (by omega)]
   rw [List.take_succ_cons, e]
   exact .cons h1 h' (fun n hn hn' => hd n hn (hs n hn')) fun n => Iff.rfl
theorem ElR.drop {l : List τ.den} {cs : List Value} {G : Bs} (h : ElR w F τ l cs G) : ∀ n : Nat, ∃ G', ElR w F τ (l.drop n) (cs.drop (n * τ.size)) G' /\ ∀ b, G' b -> G b := by
 induction h with
 | nil h => exact fun n => ⟨_, by simpa using ElR.nil h, fun _ h => h⟩
 | cons h1 h2 hd hG ih =>
  rename_i x c l cs G G1 G2
  intro n
  cases n with
  | zero => exact ⟨_, by simpa using ElR.cons h1 h2 hd hG, fun _ h => h⟩
  | succ n =>
   obtain ⟨G', h', hs⟩ := ih n
   have hl := LR.length τ _ _ _ h1
   refine ⟨G', ?_, fun b hb => (hG b).2 (.inr (hs b hb))⟩
   have e : (c ++ cs).drop ((n + 1) * τ.size) = cs.drop (n * τ.size) := by
    rw [List.drop_append, hl, Nat.add_mul, Nat.one_mul]
    have : n * τ.size + τ.size - τ.size = n * τ.size := by omega
    rw [this, List.drop_eq_nil_of_le (by omega), List.nil_append]
   rw [List.drop_succ_cons, e]
   exact h'
theorem ElR.at {l : List τ.den} {cs : List Value} {G : Bs} (h : ElR w F τ l cs G) : ∃ Gs : Nat -> Bs, (∀ i x, l[i]? = some x -> LR w F τ x ((cs.drop (i * τ.size)).take τ.size) (Gs i)) /\ (∀ i, l.length <= i -> Emp (Gs i)) /\
  (∀ i j, i ≠ j -> Dj (Gs i) (Gs j)) /\ ∀ n, G n ↔ ∃ i, Gs i n := by
 induction h with
 | nil h => exact ⟨fun _ _ => False, fun i x hi => by simp at hi, fun _ _ _ h => h, fun _ _ _ _ h => h.elim, fun n => ⟨fun hn => absurd hn (h n), fun ⟨_, h⟩ => h.elim⟩⟩
 | cons h1 h2 hd hG ih =>
  rename_i x c l cs G G1 G2
  obtain ⟨Gs, a1, a2, a3, a4⟩ := ih
  have hl := LR.length τ _ _ _ h1
  refine ⟨fun i => match i with | 0 => G1 | i + 1 => Gs i, fun i y hi => ?_, fun i hi => ?_, fun i j hij => ?_, fun n => ?_⟩
  ·cases i with
   | zero =>
    simp at hi
    subst hi
    simp only [Nat.zero_mul, y152]
    rw [<- hl, List.take_left]
    exact h1
   | succ i =>
    have e : ((c ++ cs).drop ((i + 1) * τ.size)).take τ.size = (cs.drop (i * τ.size)).take τ.size := by
     rw [List.drop_append, hl, Nat.add_mul, Nat.one_mul]
     have : i * τ.size + τ.size - τ.size = i * τ.size := by omega
     rw [this, List.drop_eq_nil_of_le (by omega), List.nil_append]
    rw [e]
    exact a1 i y (by simpa using hi)
  ·cases i with
   | zero => simp at hi
   | succ i => exact a2 i (by simpa using hi)
  ·cases i with
   | zero =>
    cases j with
    | zero => exact absurd rfl hij
    | succ j => exact fun n hn hn' => hd n hn ((a4 n).2 ⟨j, hn'⟩)
   | succ i =>
    cases j with
    | zero => exact fun n hn hn' => hd n hn' ((a4 n).2 ⟨i, hn⟩)
    | succ j => exact a3 i j fun e => hij (by rw [e])
  ·rw [hG n, a4 n]
   constructor
   ·rintro (h | ⟨i, h⟩)
    ·exact ⟨0, h⟩
    ·exact ⟨i + 1, h⟩
   ·rintro ⟨i, h⟩
    cases i with
    | zero => exact .inl h
    | succ i => exact .inr ⟨i, h⟩
theorem ElR.of {l : List τ.den} : ∀ {cs : List Value} {Gs : Nat -> Bs}, cs.length = l.length * τ.size -> (∀ i x, l[i]? = some x -> LR w F τ x ((cs.drop (i * τ.size)).take τ.size) (Gs i)) -> (∀ i, l.length <= i -> Emp (Gs i)) -> (∀ i j, i ≠ j -> Dj (Gs i) (Gs j)) ->
  ElR w F τ l cs (fun n => ∃ i, Gs i n) := by
 induction l with
 | nil =>
  intro cs Gs hl _ he _
  have : cs = [] := y153 (by simpa using hl)
  subst this
  exact .nil fun n ⟨i, hi⟩ => he i (Nat.zero_le _) n hi
 | cons x l ih =>
  intro cs Gs hl hx he hd
  have hl' : cs.length = l.length * τ.size + τ.size := by rw [hl, y167, Nat.add_mul, Nat.one_mul]
  have h0 := hx 0 x rfl
  simp only [Nat.zero_mul, y152] at h0
  have h2 := ih (cs := cs.drop τ.size) (Gs := fun i => Gs (i + 1)) (by rw [List.length_drop]; omega) (fun i y hi => by
   have := hx (i + 1) y (by simpa using hi)
   rw [List.drop_drop]
   have e : τ.size + i * τ.size = (i + 1) * τ.size := by rw [Nat.add_mul, Nat.one_mul, Nat.add_comm]
   rw [e]; exact this) (fun i hi => he (i + 1) (by simpa using hi)) (fun i j hij => hd (i + 1) (j + 1) (fun e => hij (by omega)))
  have hE := ElR.cons (G := fun n => ∃ i, Gs i n) h0 h2 (fun n hn ⟨i, hi⟩ => hd 0 (i + 1) (by omega) n hn hi) fun n => ⟨fun ⟨i, hi⟩ => by
   cases i with
   | zero => exact .inl hi
   | succ i => exact .inr ⟨i, hi⟩, fun h => h.elim (fun h => ⟨0, h⟩) fun ⟨i, h⟩ => ⟨i + 1, h⟩⟩
  rw [List.take_append_drop] at hE
  exact hE
theorem q187 (row : Array Value) {o n i s : Nat} (h : (i + 1) * s <= n) : ((seg row o n).drop (i * s)).take s = seg row (o + i * s) s := by
 unfold seg
 rw [Nat.add_mul, Nat.one_mul] at h
 rw [List.drop_take, List.take_take, List.drop_drop]
 have : min s (n - i * s) = s := by omega
 rw [this]
theorem q246.els {l : List τ.den} {b off : Nat} {G : Bs} (h : q246 w τ.size (LR w F τ) l (some (b, off)) G) :
  ∃ row G', Row w b row /\ off + l.length * τ.size <= row.size /\ ElR w F τ l (seg row off (l.length * τ.size)) G' /\ ¬ G' b /\ ∀ n, G n ↔ n = b \/ G' n := by
 obtain ⟨row, Gs, hr, hs, hx, he, hd, hb, hG⟩ := h
 refine ⟨row, _, hr, hs, ElR.of (q80 hs) (fun i x hi => ?_) he hd, fun ⟨i, hi⟩ => hb i hi, hG⟩
 have hil := (y149.1 hi).1
 rw [q187 row (y162 _ hil)]
 exact hx i x hi
theorem ElR.arr {l : List τ.den} {b off : Nat} {G : Bs} {row : Array Value} (hr : Row w b row) (hs : off + l.length * τ.size <= row.size) (h : ElR w F τ l (seg row off (l.length * τ.size)) G) (hb : ¬ G b) :
  q246 w τ.size (LR w F τ) l (some (b, off)) (fun n => n = b \/ G n) := by
 obtain ⟨Gs, a1, a2, a3, a4⟩ := h.at
 refine ⟨row, Gs, hr, hs, fun i x hi => ?_, a2, a3, fun i hi => hb ((a4 b).2 ⟨i, hi⟩), fun n => or_congr Iff.rfl (a4 n)⟩
 have hil := (y149.1 hi).1
 have := a1 i x hi
 rw [q187 row (y162 _ hil)] at this
 exact this
theorem ElR.plain {l : List τ.den} {cs : List Value} {G : Bs} (h : ElR w F τ l cs G) (hp : τ.plain = true) : Emp G := by
 induction h with
 | nil h => exact h
 | cons h1 _ _ hG ih => exact fun n hn => ((hG n).1 hn).elim (LR.plain τ _ _ _ hp h1 n) (ih n)
end
end Go.Lf
namespace Go.Lf
theorem q464 {ρ : Operand -> V} {g : Operand -> Value} : ∀ (l : List (Nat × Operand)) (n : Nat), q690 n (l.map fun p => (p.1, ρ p.2)) = true -> (l.map fun p => (p.1, g p.2)) = ((l.map fun p => g p.2).zipIdx n).map fun x => (x.2, x.1)
 | [], _, _ => rfl
 | p :: l, n, h => by
  have h' : (Nat.beq p.1 n && q690 (n + 1) (l.map fun p => (p.1, ρ p.2))) = true := h
  rw [y144] at h'
  have e := y143 h'.1
  simp only [List.map_cons, List.zipIdx_cons]
  rw [q464 l (n + 1) h'.2, e]
section
variable {w : World} {E : Bs} {β : Nat -> Option (Nat × Nat)}
theorem q320 {R : Type} {τ : Ty} : ∀ (ps : List (Nat × V)) {us : List Value} {K : List τ.den -> q32 -> Option R} {r : R} {FA F : Bs} {obs : List (Nat × Ob)} {Gk : Nat -> Bs}, ObsA w E FA F β obs Gk -> (∀ b, F b -> FA b) -> All2 (fun (p : Nat × V) u => VR w β obs FA p.2 u) ps us -> q351 τ ps obs K = some r ->
  ∃ xs d FA1 F1 G Gk1, K xs d = some r /\ (∀ (R' : Type) (K' : List τ.den -> q32 -> Option R') (obs' : List (Nat × Ob)), (∀ q ∈ q15 d, get q obs' = get q obs) -> q351 τ ps obs' K' = K' xs d) /\
   Took w E β FA F obs FA1 F1 G (q21 d obs) Gk1 /\ ElR w FA1 τ xs (us.flatMap fun u => u.cells.toList) G /\ (∀ u ∈ us, u.cells.size = τ.size) /\ xs.length = ps.length /\ ∀ q ∈ q15 d, get q obs ≠ none
 | [], us, K, r, FA, F, obs, Gk, h, hF, hv, hk => by
  cases hv
  exact ⟨[], [], FA, F, fun _ => False, Gk, hk, fun _ _ _ _ => rfl, Took.refl h, .nil fun _ h => h, fun u hu => (by cases hu), rfl, fun q hq => (by cases hq)⟩
 | (i, v) :: ps, us, K, r, FA, F, obs, Gk, h, hF, hv, hk => by
  cases hv with
  | cons hu hus =>
   rename_i u us
   unfold q351 at hk
   have hall := q189 (show VR w β obs FA v u from hu) hk
   obtain ⟨vs', d, FA1, F1, G, Gk1, hk1, hst, htook, hls, _, hex⟩ := q122 _ h hF hall hk
   cases hx : τ.ofAll vs' with
   | none => rw [hx] at hk1; cases hk1
   | some x =>
    rw [hx] at hk1
    obtain ⟨G1, hs1, H⟩ := q49 hx hls
    have htook' := htook.drop hs1
    have hF1 : ∀ b, F1 b -> (fun b => FA1 b /\ (G b -> G1 b)) b := fun b hb => ⟨y146 fun hn => (htook.lost b (hF b (htook.less b hb)) hn).2.1 hb, fun hg => absurd hb (htook.dj b hg)⟩
    have hlr := H (fun b => FA1 b /\ (G b -> G1 b)) (fun b hb => hb.1) (fun b hb hn hf => hn (hf.2 hb))
    have hus1 := hus.imp fun (p : Nat × V) y _ hxy => VR.keep hxy (htook'.stay _) fun r _ => htook'.keep r
    obtain ⟨xs, d', FA2, F2, G', Gk2, hk2, hst2, htook2, hel, hsz, hlen, hex2⟩ := q320 ps htook'.ob hF1 hus1 hk1
    refine ⟨x :: xs, d ++ d', FA2, F2, fun b => G1 b \/ G' b, Gk2, hk2, fun R' K' obs' hq => ?_, ?_, ?_, fun z hz => ?_, by simp [hlen], q217 hex hex2⟩
    ·unfold q351
     rw [hst _ _ obs' fun q hq' => hq q (by rw [q25]; exact y151.2 (.inl hq'))]
     simp only [hx]
     exact hst2 _ _ _ fun q hq' => q36 d _ _ (hq q (by rw [q25]; exact y151.2 (.inr hq')))
    ·rw [q38]
     exact htook'.trans htook2
    ·rw [List.flatMap_cons]
     exact .cons (hlr.sub htook2.sub) hel (htook'.djG htook2) fun n => Iff.rfl
    ·rcases y166.1 hz with rfl | hz
     ·rw [<- y156]; exact LR.length τ _ _ _ hlr
     ·exact hsz z hz
end
theorem hz_of {w : World} {β : Nat -> Option (Nat × Nat)} {obs : List (Nat × Ob)} {F : Bs} {k n : Nat} {ad : Option Addr} {cap : Nat} (h : VR w β obs F (.hs ⟨k, []⟩ 0 n true) (.slice ad n cap)) (hn : ad = none ↔ n = 0) : VR w β obs F (.hz k n) (.slice ad n cap) := by
 obtain ⟨ad', cap', hu, h⟩ := h
 refine ⟨ad, cap, rfl, hn, fun o loc hl => ?_⟩
 obtain ⟨τ, l, e, hh, _, ht⟩ := h o loc hl
 exact ⟨τ, l, e, hh, (ht rfl).2⟩
section
variable {P : Program} {C : Ctx} {k : Nat} {tm : List (Nat × V)} {obs : List (Nat × Ob)} {fresh : Nat} {o : Oper} {a : Act} {w : World} {E : Bs} {β : Nat -> Option (Nat × Nat)} {F : Bs} {Gk : Nat -> Bs}
theorem q447 {R : Type} {K : OpK R} {r : R} (hT : q81 P C) (hf : FR C w E β tm obs a F Gk) (hfr : Free obs fresh) {t : TypeId} {n : Nat} {parts : Array (Nat × Operand)} (ho : o.op = .buildSlice t (n + 1) parts) (h : opK C k tm obs fresh o K = some r) : OpOk P C k tm obs fresh o a w E β F := by
 unfold opK at h
 simp only [ho] at h
 have hop : ∀ p ∈ parts.toList, p.2 ∈ o.op.operands := by
  intro p hp
  rw [ho]; simp [Op.operands]
  exact ⟨p.1, Array.mem_toList_iff.1 hp⟩
 split at h
 ·rename_i e bytes τ zero he
  obtain ⟨inf, z, hu, hi, hsz, _, _, hz, _, _⟩ := q192 hT he
  cases hc : (Nat.ble ((n + 1) * τ.size) 16777216 && Nat.blt 0 τ.size && Nat.beq parts.toList.length (n + 1) && q690 0 (parts.toList.map fun p => (p.1, opnd tm p.2))) with
  | false => rw [hc] at h; cases h
  | true =>
   rw [hc] at h
   have hc0 := hc
   rw [y144, y144, y144] at hc
   obtain ⟨⟨⟨c1, c2⟩, c3⟩, c4⟩ := hc
   have c1 := y168 c1
   have c2 : 0 < τ.size := of_decide_eq_true (by simpa [Nat.blt_eq] using c2)
   have c3 := y143 c3
   have hall : All2 (fun (p : Nat × V) u => VR w β obs F p.2 u) (parts.toList.map fun p => (p.1, opnd tm p.2)) (parts.toList.map fun p => a.eval p.2) := by
    refine All2.of_get (by simp) fun i x y hx hy => ?_
    rw [List.getElem?_map] at hx hy
    cases hp : parts.toList[i]? with
    | none => rw [hp] at hx; cases hx
    | some p =>
     rw [hp] at hx hy
     injection hx with hx; injection hy with hy; subst hx; subst hy
     exact q30 hf p.2
   have h' : q351 τ (parts.toList.map fun p => (p.1, opnd tm p.2)) obs (fun ps d => K (.hz fresh (n + 1)) (d ++ [(fresh, some (.arr τ ps))]) [] []) = some r := h
   obtain ⟨xs, d, FA1, F1, G, Gk1, _, hst, htook, hel, hcs, hlen, hex⟩ := q320 _ hf.ob.a (fun _ h => h) hall h'
   have hxl : xs.length = n + 1 := by rw [hlen, List.length_map, c3]
   refine ⟨.hz fresh (n + 1), d ++ [(fresh, some (.arr τ xs))], [], [], fun tm' obs' ht htR hd R' K' => ?_, Src.fresh (fun r hr => by simpa [q24, q31, q37] using hr), Keys.snoc hex _, ?_⟩
   ·unfold opK
    have hm : (parts.toList.map fun p => (p.1, opnd tm' p.2)) = parts.toList.map fun p => (p.1, opnd tm p.2) := List.map_congr_left fun p hp => by rw [ht p.2 (hop p hp)]
    simp only [ho, he, hm, hc0]
    exact hst R' _ obs' fun q hq => hd q (.inr (by rw [q25]; exact y151.2 (.inl hq)))
   ·have hzl : ((Array.range ((n + 1) * τ.size)).map (z.cells[· % z.cells.size]!)).size = (n + 1) * τ.size := by simp
    have hfill := Great.fill_whole c2 (parts.toList.map fun p => a.eval p.2) ((Array.range ((n + 1) * τ.size)).map (z.cells[· % z.cells.size]!)) (fun u hu => hcs u hu) (by rw [hzl, List.length_map, c3])
    rw [<- q464 parts.toList 0 c4] at hfill
    have hrun := run_buildSlice (P := P) w t e (n + 1) (parts.map fun (i, x) => (i, a.eval x)) _ inf z hu hi hz (by rw [hsz]; omega) (by rw [hsz]; exact Nat.ne_of_gt (Nat.mul_pos (by omega) c2)) (by rw [hsz, Array.toList_map]; exact hfill)
    have hlt := q261 hf.ob.a
    have hel2 := hel.length
    have hrow := q204 w ((parts.toList.map fun p => a.eval p.2).flatMap fun v => v.cells.toList).toArray e
    have hseg : seg ((parts.toList.map fun p => a.eval p.2).flatMap fun v => v.cells.toList).toArray 0 (xs.length * τ.size) = (parts.toList.map fun p => a.eval p.2).flatMap fun v => v.cells.toList := by
     unfold seg
     rw [y152, <- hel2]
     exact List.take_length
    refine q130 hlt htook (hfr.behind hex (Nat.le_refl _) (by omega)) ⟨Nat.le_refl _, by omega⟩ (loc := some (w.heap.size, 0)) (G2 := fun b => b = w.heap.size \/ G b) ?_ (q113 w _) (fun c hc _ => q74 w _ hc) (by simp) ?_ (fun b hb => hb.elim (fun e => .inr (Nat.le_of_eq e.symm)) .inl) ?_
     (w' := w.alloc (.cells ((parts.toList.map fun p => a.eval p.2).flatMap fun v => v.cells.toList).toArray e)) (u := .slice (some ⟨w.heap.size, 0, none⟩) (n + 1) (n + 1))
    ·simp [execOp, ho, hrun]
    ·refine ElR.arr hrow (by rw [Nat.zero_add, <- hel2]; simp) ?_ (fun hb => Nat.lt_irrefl _ (hel.lt _ hb))
     rw [hseg]
     refine hel.keep ⟨by simp, fun b hb => q74 w _ (hel.lt b hb), fun b _ hb => q74 w _ hb, fun b hb => ?_⟩
     rcases hb with hb | hb | hb
     ·exact .inl (y146 fun hn => (htook.lost b (htook.less b hb) hn).2.1 hb)
     ·exact .inr (Nat.le_of_eq hb.symm)
     ·exact .inl (y146 fun hn => (htook.lost b (htook.got b hb) hn).2.2 hb)
    ·refine hz_of (q595 (q47 _ _ _) (q39 _ _ _) hrow hxl.symm (Nat.le_refl _) ?_) (by simp)
     rw [Nat.zero_add, <- hxl, <- hel2]; simp
 ·cases h
end
end Go.Lf
namespace Go.Lf
theorem q239 {α : Type} {l : List α} {off n : Nat} {wh : Bool} (h : wh = true -> off = 0 /\ n = l.length) : subL l off n wh = (l.drop off).take n := by
 unfold subL
 split
 ·obtain ⟨_, h2⟩ := h rfl
  simp [h2]
 ·simp
 ·rfl
section
variable {w w' : World} {E : Bs} {β : Nat -> Option (Nat × Nat)} {FA F F' FA1 F1 G : Bs} {obs obs1 : List (Nat × Ob)} {Gk Gk1 : Nat -> Bs} {τ : Ty}
def q424 (w : World) (u : Value) (n sz : Nat) (cs : List Value) : Prop :=
 ∃ ad cap, u = .slice ad n cap /\ n <= cap /\ cs.length = n * sz /\ (n = 0 \/ ∃ b o, ad = some ⟨b, o, none⟩ /\ ∀ j v, cs[j]? = some v -> w.cell? ⟨b, o + j, none⟩ = some v)
theorem LR.one {x : τ.den} {c : List Value} (h : LR w F τ x c G) : ∀ u ∈ c, u.oneCell' = true := by
 intro u hu
 obtain ⟨q, hq⟩ := List.getElem?_of_mem hu
 have hls := LR.leaves τ _ _ _ h
 have hql : q < (τ.leaves x).length := by rw [<- hls.length]; exact (y149.1 hq).1
 obtain ⟨u2, G3, hu2, hlf⟩ := hls.to q (τ.leaves x)[q] (y140 hql)
 rw [hq] at hu2; injection hu2 with hu2; subst hu2
 refine q315 hlf fun e => ?_
 obtain ⟨σ, hσ, z, hz, _⟩ := q220 τ x q _ (y140 hql)
 rw [e] at hz
 cases σ with
 | pair => exact (Ty.lty_leaf hσ).elim
 | unit => exact (Ty.lty_leaf hσ).elim
 | _ => injection hz with hz _; cases hz
theorem ElR.one {l : List τ.den} {cs : List Value} {G : Bs} (h : ElR w F τ l cs G) : ∀ u ∈ cs, u.oneCell' = true := by
 induction h with
 | nil => intro u hu; cases hu
 | cons h1 _ _ _ ih =>
  intro u hu
  rcases y151.1 hu with hu | hu
  ·exact LR.one h1 u hu
  ·exact ih u hu
theorem q441 {l : List τ.den} {loc : Option (Nat × Nat)} {u : Value} {off n : Nat} (ha : q246 w τ.size (LR w F τ) l loc G) (hh : Hd w τ.size loc off n u) (hn : off + n <= l.length) :
  ∃ cs G', q424 w u n τ.size cs /\ ElR w F τ ((l.drop off).take n) cs G' /\ (∀ c, G' c -> G c) /\ ∀ b o, loc = some (b, o) -> ¬ G' b /\ ∀ row, Row w b row -> cs = seg row (o + off * τ.size) (n * τ.size) := by
 obtain ⟨ad, cap, hu, hd⟩ := id hh
 cases loc with
 | none =>
  have hl := ha.1
  subst hl
  have h0 : n = 0 := by simp at hn; omega
  subst h0
  refine ⟨[], fun _ => False, ⟨ad, cap, hu, Nat.zero_le _, by simp, .inl rfl⟩, by simpa using ElR.nil fun _ h => h, fun _ h => h.elim, fun b o e => by cases e⟩
 | some bo =>
  obtain ⟨b, o⟩ := bo
  obtain ⟨row, G', hr, hs, hel, hb, hG⟩ := ha.els
  obtain ⟨Ga, ha1, hs1⟩ := hel.drop off
  obtain ⟨Gb, hb1, hs2⟩ := ha1.take n
  have hmul : (off + n) * τ.size <= l.length * τ.size := y162 _ hn
  rw [Nat.add_mul] at hmul
  have hseg : ((seg row o (l.length * τ.size)).drop (off * τ.size)).take (n * τ.size) = seg row (o + off * τ.size) (n * τ.size) := by
   unfold seg
   rw [List.drop_take, List.take_take, List.drop_drop]
   have : min (n * τ.size) (l.length * τ.size - off * τ.size) = n * τ.size := by omega
   rw [this]
  rw [hseg] at hb1
  have hsl : (seg row (o + off * τ.size) (n * τ.size)).length = n * τ.size := q80 (by omega)
  refine ⟨_, Gb, ⟨ad, cap, hu, ?_, hsl, ?_⟩, hb1, fun c hc => (hG c).2 (.inr (hs1 c (hs2 c hc))), fun b' o' e => ?_⟩
  ·rcases hd with ⟨h1, h2⟩ | ⟨_, _, _, _, _, _, h, _⟩ <;> omega
  ·rcases hd with ⟨h1, h2⟩ | ⟨b', o', row', hl, hr', had, _, _⟩
   ·exact .inl h1
   ·injection hl with hl; injection hl with e1 e2; subst e1; subst e2
    exact .inr ⟨b, o + off * τ.size, had, fun j v hv => q42 hr.s (q88 hv)⟩
  ·injection e with e; injection e with e1 e2; subst e1; subst e2
   refine ⟨fun h => hb (hs1 b (hs2 b h)), fun row' hr' => ?_⟩
   rw [hr.eq hr']
theorem sl_part {l : List τ.den} {u : Value} (h : LR w F (.sl τ) l [u] G) : ∃ cs, q424 w u l.length τ.size cs /\ ElR w F τ l cs (fun _ => False) := by
 obtain ⟨_, ad, cap, hu, hd⟩ := h
 injection hu with hu
 rcases hd with hd | ⟨b, off, row, had, hF, hrow, hle, hel⟩
 ·subst hd
  exact ⟨[], ⟨ad, _, hu, by simp, by simp, .inl rfl⟩, .nil fun _ h => h⟩
 ·have hsl : (seg row off (l.length * τ.size)).length = l.length * τ.size := q80 hle
  refine ⟨seg row off (l.length * τ.size), ⟨ad, _, hu, Nat.le_add_right _ _, hsl, .inr ⟨b, off, had, fun j v hv => q42 hrow (q88 hv)⟩⟩, ?_⟩
  have := ElR.of (Gs := fun _ _ => False) (l := l) (w := w) (F := F) (τ := τ) hsl (fun i x hi => ?_) (fun _ _ _ h => h) (fun _ _ _ _ h => h.elim)
  ·exact this.iff fun n => ⟨fun h => h.elim, fun ⟨_, h⟩ => h.elim⟩
  ·have hil := (y149.1 hi).1
   rw [q187 row (y162 _ hil)]
   obtain ⟨G', hE, hl⟩ := hel i x hi
   exact LR.iff τ x _ G' _ hl fun n => ⟨fun h => h.elim, fun h => hE n h⟩
theorem atRefA {R : Type} (hob : ObsA w E FA F β obs Gk) {r : Ref} {K : Ob -> Option R} {x : R} (h : q278 obs r K = some x) :
  ∃ o loc G, q34 w β obs r = some (o, loc) /\ ObR w FA o loc G /\ (∃ o0, get r.root obs = some o0 /\ ∀ n, G n -> Gk r.root n) /\ K o = some x /\
   ∀ (R' : Type) (K' : Ob -> Option R') (obs' : List (Nat × Ob)), get r.root obs' = get r.root obs -> q278 obs' r K' = K' o := by
 unfold q278 at h
 split at h
 ·rename_i o0 hg
  obtain ⟨o1, hgo, hK⟩ := q429 h
  obtain ⟨loc1, G1, hway, hob1, hs, hall, _⟩ := q274 r.path (hob.rel _ _ hg) hgo
  refine ⟨o1, loc1, G1, ?_, hob1, ⟨o0, hg, hs⟩, hK, fun R' K' obs' e => ?_⟩
  ·simp only [q34, hg]; exact hway
  ·unfold q278
   rw [e, hg]
   exact hall R' K'
 ·cases h
theorem q428 {q : Ref} {off n : Nat} {wh : Bool} {u : Value} {l : List τ.den} {loc : Option (Nat × Nat)} (hv : VR w β obs FA (.hs q off n wh) u) (hat : q34 w β obs q = some (.arr τ l, loc)) :
  Hd w τ.size loc off n u /\ off + n <= l.length /\ (wh = true -> off = 0 /\ n = l.length) := by
 obtain ⟨ad, cap, hu, hall⟩ := hv
 obtain ⟨τ', l', e, hh, hn, hw⟩ := hall _ _ hat
 injection e with e1 e2; subst e1
 have e2 := eq_of_heq e2; subst e2
 exact ⟨hh, hn, hw⟩
theorem q346 {R : Type} {K : List τ.den -> q32 -> List Nat -> Option R} {r : R} (h : ObsA w E FA F β obs Gk) (hF : ∀ b, F b -> FA b) {v : V} {u : Value} (hv : VR w β obs FA v u) (hk : q366 obs τ v K = some r) :
  ∃ l d rd FA1 F1 G Gk1 cs, K l d rd = some r /\ (∀ (R' : Type) (K' : List τ.den -> q32 -> List Nat -> Option R') (obs' : List (Nat × Ob)), (∀ q, q ∈ rd \/ q ∈ q15 d -> get q obs' = get q obs) -> q366 obs' τ v K' = K' l d rd) /\
   Took w E β FA F obs FA1 F1 G (q21 d obs) Gk1 /\ q424 w u l.length τ.size cs /\ ElR w FA1 τ l cs G /\ (∀ q ∈ q15 d, get q obs ≠ none) /\ ∀ q, q ∈ q15 d -> get q (q21 d obs) = none := by
 have plain : ∀ (l : List τ.den) (rd : List Nat) (cs : List Value), K l [] rd = some r -> (∀ (R' : Type) (K' : List τ.den -> q32 -> List Nat -> Option R') (obs' : List (Nat × Ob)), (∀ q, q ∈ rd -> get q obs' = get q obs) -> q366 obs' τ v K' = K' l [] rd) ->
   q424 w u l.length τ.size cs -> ElR w FA τ l cs (fun _ => False) ->
   ∃ l d rd FA1 F1 G Gk1 cs, K l d rd = some r /\ (∀ (R' : Type) (K' : List τ.den -> q32 -> List Nat -> Option R') (obs' : List (Nat × Ob)), (∀ q, q ∈ rd \/ q ∈ q15 d -> get q obs' = get q obs) -> q366 obs' τ v K' = K' l d rd) /\
   Took w E β FA F obs FA1 F1 G (q21 d obs) Gk1 /\ q424 w u l.length τ.size cs /\ ElR w FA1 τ l cs G /\ (∀ q ∈ q15 d, get q obs ≠ none) /\ ∀ q, q ∈ q15 d -> get q (q21 d obs) = none :=
  fun l rd cs h1 h2 h3 h4 => ⟨l, [], rd, FA, F, fun _ => False, Gk, cs, h1, fun R' K' obs' hq => h2 R' K' obs' fun q hq' => hq q (.inl hq'), Took.refl h, h3, h4, fun q hq => (by cases hq), fun q hq => (by cases hq)⟩
 unfold q366 at hk
 split at hk
 ·obtain ⟨ad, hu⟩ := hv
  exact plain [] [] [] hk (fun _ _ _ _ => rfl) ⟨ad, 0, hu, Nat.le_refl _, by simp, .inl rfl⟩ (.nil fun _ h => h)
 ·rename_i k n
  split at hk
  ·rename_i τ' l' hg
   split at hk
   ·rename_i hb
    have e := Ty.beq_eq hb
    subst e
    rw [q52] at hk
    have hat : q34 w β obs ⟨k, []⟩ = some (.arr τ' l', β k) := by simp [q34, hg, way]
    obtain ⟨hh, hn, hw⟩ := q428 hv hat
    obtain ⟨_, hn2⟩ := hw rfl
    subst hn2
    obtain ⟨cs, G', hcs, hel, hsub, _⟩ := q441 (h.rel k _ hg) hh hn
    have el : (l'.drop 0).take l'.length = l' := by simp
    rw [el] at hel
    cases hp : τ'.plain with
    | true =>
     rw [hp] at hk
     simp only at hk
     refine plain l' [k] cs hk (fun R' K' obs' hq => ?_) hcs (hel.iff fun n => ⟨fun h => h.elim, fun h => hel.plain hp n h⟩)
     unfold q366
     simp only [hq k (by simp), hg, hb, dif_pos, hp, q52]
    | false =>
     rw [hp] at hk
     simp only at hk
     have htook := (q131 h hF hg).drop hsub
     refine ⟨l', [(k, none)], [k], _, _, G', Gk, cs, hk, fun R' K' obs' hq => ?_, htook, hcs, hel.keep ⟨Nat.le_refl _, fun _ _ => rfl, fun _ _ _ => rfl, fun b hb => .inl hb.1⟩, fun q hq => ?_, fun q hq => ?_⟩
     ·unfold q366
      simp only [hq k (.inl (by simp)), hg, hb, dif_pos, hp, q52]
     ·simp [q15] at hq
      subst hq
      rw [hg]; exact fun e => by cases e
     ·simp [q15] at hq
      subst hq; exact q200 _ _
   ·cases hk
  ·cases hk
 ·rename_i hn1 hn2
  unfold q309 at hk
  split at hk
  ·rename_i τ' l
   simp only at hk
   split at hk
   ·rename_i hb
    have e := Ty.beq_eq hb
    subst e
    rw [q52] at hk
    cases hp : τ'.plain with
    | false => rw [hp] at hk; cases hk
    | true =>
     rw [hp] at hk
     simp only [cond] at hk
     obtain ⟨G, hl⟩ := hv
     obtain ⟨cs, hcs, hel⟩ := sl_part hl
     refine plain l [] cs hk (fun R' K' obs' hq => ?_) hcs hel
     unfold q366 q309
     simp only [hb, dif_pos, hp, q52, cond]
   ·cases hk
  ·rename_i q off n wh
   obtain ⟨o1, loc, G, hat, hob1, ⟨o0, hg, hs⟩, hK, hst⟩ := atRefA h hk
   cases o1 with
   | mp => cases hK
   | box => cases hK
   | arr τ' l =>
    simp only at hK
    split at hK
    ·rename_i hb
     have e := Ty.beq_eq hb
     subst e
     rw [q52] at hK
     cases hp : τ'.plain with
     | false => rw [hp] at hK; cases hK
     | true =>
      rw [hp] at hK
      simp only [cond] at hK
      obtain ⟨hh, hn, hw⟩ := q428 hv hat
      obtain ⟨cs, G', hcs, hel, hsub, _⟩ := q441 hob1 hh hn
      rw [q239 hw] at hK
      have hlen : ((l.drop off).take n).length = n := by rw [y154, List.length_drop]; omega
      refine plain ((l.drop off).take n) [q.root] cs hK (fun R' K' obs' hq => ?_) (by rw [hlen]; exact hcs) (hel.iff fun n => ⟨fun h => h.elim, fun h => hel.plain hp n h⟩)
      unfold q366
      split
      ·rename_i e; cases e
      ·rename_i k m e
       injection e with e1 e2 e3 e4; subst e1; subst e2; subst e3; subst e4
       exact absurd rfl (hn2 _ _)
      ·unfold q309
       simp only
       rw [hst R' _ obs' (hq _ (by simp))]
       simp only [hb, dif_pos, hp, q52, cond, q239 hw]
    ·cases hK
  ·cases hk
end
end Go.Lf
namespace Go.Lf
section
variable {P : Program} {w : World} {F : Bs} {G : Bs} {τ : Ty}
theorem src_of {tx e' : TypeId} {ux : Value} {l : List τ.den} {cs : List Value} (hk : P.underlying tx = some (.slice e')) (hc : q424 w ux l.length τ.size cs) (hel : ElR w F τ l cs G) : _root_.Go.Src P τ.size tx ux l.length cs w := by
 obtain ⟨ad, cap, hu, _, hlen, hd⟩ := hc
 subst hu
 rcases hd with h0 | ⟨b, o, had, hcell⟩
 ·have hl : l = [] := y153 h0
  subst hl
  have hcs : cs = [] := y153 (by simpa using hlen)
  subst hcs
  cases ad with
  | none => exact _root_.Go.Src.ofNil w hk cap
  | some a => exact _root_.Go.Src.ofSlice w hk a 0 cap [] (by simp) (fun j u h => by simp at h) (fun u h => by cases h)
 ·subst had
  exact _root_.Go.Src.ofSlice w hk _ _ cap cs hlen (fun j u h => by rw [q129]; exact hcell j u h) hel.one
theorem q361 {t tx ty e : TypeId} {i : TypeInfo} (ht : P.underlying t = some (.slice e)) (hi : P.info? e = some i) (base : Option Addr) {x : Value} (hs : _root_.Go.Src P i.size tx x 0 [] w) :
  (Builtin.append_ #[t, tx] ty #[.slice base 0 0, x]).run P w = .ok (.slice base 0 0) w := by
 rcases hs.kind with ⟨e', hk⟩ | hk <;> cases base <;> simp [Builtin.append_, run_underlying ht, run_underlying hk, sizeOf, typeInfo, hi, hs.len, hs.cells, storeCells]
inductive q287 (w : World) (ad : Option Addr) (n m cap sz : Nat) (olds news : List Value) : Option Addr -> Nat -> World -> Prop
 | nothing : n + m = 0 -> cap = 0 -> q287 w ad n m cap sz olds news ad 0 w
 | room {b o : Nat} : ad = some ⟨b, o, none⟩ -> n + m <= cap -> q287 w ad n m cap sz olds news ad cap (w.setCells b (o + n * sz) news)
 | grown {w' : World} {cap' : Nat} {row : Array Value} {e : TypeId} {rest : List Value} : n + m <= cap' -> row.toList = olds ++ news ++ rest -> row.size = cap' * sz -> w' = w.drew.alloc (.cells row e) -> q287 w ad n m cap sz olds news (some ⟨w.heap.size, 0, none⟩) cap' w'
theorem q405 {t tx ty e : TypeId} {i : TypeInfo} {z : Value} {sz bytes : Nat} (ht : P.underlying t = some (.slice e)) (hi : P.info? e = some i) (hsz : i.size = sz) (hby : i.bytes = bytes) (hz : i.zero = some z) (hzs : z.cells.size = sz) (hb0 : 0 < bytes)
  {ad : Option Addr} {n m cap : Nat} {x : Value} {olds news : List Value} (hx : _root_.Go.Src P sz tx x m news w) (ho : q424 w (.slice ad n cap) n sz olds)
  (hs : (n = 0 /\ cap = 0) \/ ∃ b o row, ad = some ⟨b, o, none⟩ /\ Row w b row /\ n <= cap /\ o + cap * sz <= row.size) (hfit : (n + m) * bytes <= 140737488355328) :
  ∃ ad' cap' w', (Builtin.append_ #[t, tx] ty #[.slice ad n cap, x]).run P w = .ok (.slice ad' (n + m) cap') w' /\ q287 w ad n m cap sz olds news ad' cap' w' := by
 subst hsz
 have hnl := hx.newsLen
 by_cases hg : cap < n + m
 ·
  have h1 : (n + m) * 1 <= (n + m) * bytes := Nat.mul_le_mul_left _ hb0
  have hold : (Builtin.firstCells i.size n (.slice ad n cap)).run P w.drew = .ok olds.toArray w.drew := by
   obtain ⟨ad', cap', hu, _, hlen, hd⟩ := ho
   injection hu with e1 e2 e3; subst e1; subst e3
   rcases hd with h0 | ⟨b, o, had, hcell⟩
   ·subst h0
    have : olds = [] := y153 (by simpa using hlen)
    subst this
    cases ad with
    | none => simp [Builtin.firstCells]
    | some a => simp [Builtin.firstCells, loadCells, loadCellsFrom]
   ·subst had
    exact run_firstCells_some w.drew i.size n _ n cap olds hlen fun j v h => by rw [q129]; simpa using hcell j v h
  have := run_append_grow_src (P := P) w t tx ty e i z ht hi hz ad n cap olds hold x m news hx hg (by omega) (growslice_fits hg (by rw [hby]; exact hfit))
  have hcap := grownCap_ge w (n + m) cap e
  refine ⟨_, _, _, this, .grown (rest := (Builtin.zeroCells z.cells (grownCap w (n + m) cap e - (n + m))).toList) hcap (by simp) ?_ rfl⟩
  have hol : olds.length = n * i.size := by obtain ⟨_, _, _, _, h, _⟩ := ho; exact h
  simp only [Array.size_append, List.size_toArray, y148, hol, hnl, Builtin.zeroCells, Array.size_map, Array.size_range, hzs]
  rw [<- Nat.add_mul, <- Nat.add_mul]
  congr 1
  omega
 ·rcases hs with ⟨h0, hc⟩ | ⟨b, o, row, had, hrow, hnc, hle⟩
  ·subst h0; subst hc
   have hm : m = 0 := by omega
   subst hm
   have : news = [] := y153 (by simpa using hnl)
   subst this
   exact ⟨_, _, _, q361 ht hi ad hx, .nothing rfl rfl⟩
  ·subst had
   have hfits : o + n * i.size + news.length <= row.size := by
    have : (n + m) * i.size <= cap * i.size := y162 _ (by omega)
    rw [Nat.add_mul] at this
    omega
   have := run_append_room_src (P := P) w t tx ty e i ht hi b o n cap x m news hx (by omega) (fun j hj => q455 hrow (by omega)) (fun j _ => q399 hrow _)
   exact ⟨_, _, _, this, .room rfl (by omega)⟩
end
end Go.Lf
namespace Go.Lf
theorem q629 {row row' : Array Value} {o n : Nat} {cs1 : List Value} (hsp : q104 row row' (o + n) cs1) : seg row' o (n + cs1.length) = seg row o n ++ cs1 := by
 have hle := hsp.1
 apply List.ext_getElem?
 intro q
 have hl : (seg row o n).length = n := q80 (by omega)
 rw [q168, y171, hl, q168, hsp.get]
 by_cases h1 : q < n
 ·rw [if_pos (by omega), if_pos (by omega), if_pos h1, if_pos h1]
 ·rw [if_neg h1]
  by_cases h2 : q < n + cs1.length
  ·rw [if_pos h2, if_neg (by omega), if_pos (by omega)]
   congr 1
   omega
  ·rw [if_neg h2, y158 (by omega)]
section
variable {P : Program} {C : Ctx} {k : Nat} {tm : List (Nat × V)} {obs : List (Nat × Ob)} {fresh : Nat} {o : Oper} {a : Act} {w : World} {E : Bs} {β : Nat -> Option (Nat × Nat)} {F FA2 F2 G0 Gs Gx : Bs} {Gk Gk2 : Nat -> Bs} {τ : Ty}
theorem q352 {D : q32} {olds l : List τ.den} {cs0 cs1 : List Value} {ad : Option Addr} {n m cap : Nat} {ad' : Option Addr} {cap' : Nat} {w' : World} (hlt : ∀ b, F b -> b < w.heap.size)
  (htook : Took w E β F F obs FA2 F2 (fun b => Gx b \/ Gs b) (q21 D obs) Gk2) (hfree : get fresh (q21 D obs) = none) (h0 : ElR w FA2 τ olds cs0 G0) (h1 : ElR w FA2 τ l cs1 Gx) (hs0 : ∀ b, G0 b -> Gs b) (hd : Dj Gx Gs)
  (hn : olds.length = n) (hm : l.length = m)
  (hs : (n = 0 /\ cap = 0) \/ ∃ b o row, ad = some ⟨b, o, none⟩ /\ Row w b row /\ n <= cap /\ o + cap * τ.size <= row.size /\ Gs b /\ ¬ G0 b /\ cs0 = seg row o (n * τ.size))
  (hrun : (execOp a.eval o).run P w = .ok (.value (.slice ad' (n + m) cap')) w') (hap : q287 w ad n m cap τ.size cs0 cs1 ad' cap' w') :
  Good P o a w E β obs F fresh (.hs ⟨fresh, []⟩ 0 (olds ++ l).length true) (D ++ [(fresh, some (.arr τ (olds ++ l)))]) [] := by
 have hL : (olds ++ l).length = n + m := by rw [y148, hn, hm]
 have hc0 := h0.length
 have hc1 := h1.length
 rw [hn] at hc0; rw [hm] at hc1
 have hF2 : ∀ b, F2 b -> FA2 b := fun b hb => y146 fun hn => (htook.lost b (htook.less b hb) hn).2.1 hb
 have hGA : ∀ b, (Gx b \/ Gs b) -> FA2 b := fun b hb => y146 fun hn => (htook.lost b (htook.got b hb) hn).2.2 hb
 have hd0 : Dj G0 Gx := fun b hb hx => hd b hx (hs0 b hb)
 have hel := h0.append h1 hd0
 have hglt : ∀ b, (G0 b \/ Gx b) -> b < w.heap.size := fun b hb => hb.elim (h0.lt b) (h1.lt b)
 cases hap with
 | nothing hnm hc =>
  have hnil : olds ++ l = [] := y153 (by omega)
  refine q130 hlt htook hfree ⟨Nat.le_refl _, by omega⟩ hrun (q121.refl w) (fun c _ _ => rfl) (Nat.le_refl _) (loc := none) (G2 := fun _ => False) ⟨hnil, fun _ h => h⟩ (fun b hb => hb.elim) ?_
  rw [hL]
  refine ⟨_, _, rfl, fun o1 loc hl => ?_⟩
  unfold q34 at hl
  simp only [q47, q39, way] at hl
  injection hl with hl; injection hl with e1 e2; subst e1; subst e2
  exact ⟨τ, _, rfl, ⟨_, _, rfl, .inl ⟨by omega, rfl⟩⟩, by omega, fun _ => ⟨rfl, by omega⟩⟩
 | room had hroom =>
  rename_i b o'
  rcases hs with ⟨e1, e2⟩ | ⟨b1, o1, row, had1, hrow, hnc, hle, hGb, hnb, hcs⟩
  ·
   have hm0 : m = 0 := by omega
   subst e1; subst hm0
   have hnil : olds ++ l = [] := y153 (by omega)
   have hc1' : cs1 = [] := y153 (by simpa using hc1)
   subst hc1'
   refine q130 hlt htook hfree ⟨Nat.le_refl _, by omega⟩ hrun (q121.refl w) (fun c _ _ => rfl) (Nat.le_refl _) (loc := none) (G2 := fun _ => False) ⟨hnil, fun _ h => h⟩ (fun b hb => hb.elim) ?_
   rw [hL]
   refine ⟨_, _, rfl, fun o1 loc hl => ?_⟩
   unfold q34 at hl
   simp only [q47, q39, way] at hl
   injection hl with hl; injection hl with e1 e3; subst e1; subst e3
   exact ⟨τ, _, rfl, ⟨_, _, rfl, .inl ⟨by omega, e2⟩⟩, by omega, fun _ => ⟨rfl, by omega⟩⟩
  ·rw [had] at had1; injection had1 with had1; injection had1 with e1 e2; subst e1; subst e2
   have hmul : (n + m) * τ.size <= cap * τ.size := y162 _ hroom
   rw [Nat.add_mul] at hmul
   obtain ⟨row', hrow', hsp⟩ := q208 b cs1 (o' + n * τ.size) w row hrow (by omega)
   have hother : ∀ c, c ≠ b -> (w.setCells b (o' + n * τ.size) cs1).heap[c]? = w.heap[c]? := fun c hc => q169 b _ _ w c hc
   have hhs : (w.setCells b (o' + n * τ.size) cs1).heap.size = w.heap.size := q186 b _ _ w
   have hnbx : ¬ Gx b := fun h => hd b h hGb
   subst had
   have hrs : row'.size = row.size := hsp.size
   refine q130 hlt htook hfree ⟨Nat.le_refl _, by omega⟩ hrun (q173 b _ _ w) (fun c _ hg => hother c fun e => hg (.inr (e ▸ hGb))) (by rw [hhs]; exact Nat.le_refl _) (loc := some (b, o')) (G2 := fun c => c = b \/ (G0 c \/ Gx c)) ?_ (fun c hc => .inl ?_) ?_
   ·refine ElR.arr hrow' (by rw [hL, hrs, Nat.add_mul]; omega) ?_ (fun h => h.elim hnb hnbx)
    have hseg : seg row' o' ((olds ++ l).length * τ.size) = cs0 ++ cs1 := by
     rw [hL, Nat.add_mul, <- hc1, q629 hsp, hcs]
    rw [hseg]
    refine hel.keep ⟨by rw [hhs]; exact Nat.le_refl _, fun c hc => hother c fun e => (e ▸ hc).elim hnb hnbx, fun c hc _ => hother c fun e => hc (e ▸ hGA b (.inr hGb)), fun c hc => .inl ?_⟩
    rcases hc with hc | hc | hc | hc
    ·exact hF2 c hc
    ·exact hc ▸ hGA b (.inr hGb)
    ·exact hGA c (.inr (hs0 c hc))
    ·exact hGA c (.inl hc)
   ·rcases hc with hc | hc | hc
    ·exact .inr (hc ▸ hGb)
    ·exact .inr (hs0 c hc)
    ·exact .inl hc
   ·rw [hL]
    exact q595 (q47 _ _ _) (q39 _ _ _) hrow' hL.symm hroom (by rw [hrs]; exact hle)
 | grown hcap hrow hsize hw' =>
  rename_i row e rest
  have hheap : ∀ c, c < w.heap.size -> w'.heap[c]? = w.heap[c]? := fun c hc => by rw [hw']; exact q74 w.drew _ hc
  have hrw : Row w' w.heap.size row := by rw [hw']; exact q204 w.drew row e
  have hhs : w.heap.size <= w'.heap.size := by rw [hw']; simp
  refine q130 hlt htook hfree ⟨Nat.le_refl _, by omega⟩ hrun (by rw [hw']; exact ⟨rfl, rfl, rfl⟩) (fun c hc _ => hheap c hc) hhs (loc := some (w.heap.size, 0)) (G2 := fun c => c = w.heap.size \/ (G0 c \/ Gx c)) ?_ (fun c hc => ?_) ?_
  ·have hseg : seg row 0 ((olds ++ l).length * τ.size) = cs0 ++ cs1 := by
    unfold seg
    rw [y152, hrow, hL, Nat.add_mul, <- hc0, <- hc1, <- y148, List.take_left]
   refine ElR.arr hrw ?_ ?_ (fun h => Nat.lt_irrefl _ (hglt _ h))
   ·rw [hL, Nat.zero_add, hsize]; exact y162 _ hcap
   ·rw [hseg]
    refine hel.keep ⟨hhs, fun c hc => hheap c (hglt c hc), fun c _ hc => hheap c hc, fun c hc => ?_⟩
    rcases hc with hc | hc | hc | hc
    ·exact .inl (hF2 c hc)
    ·exact .inr (Nat.le_of_eq hc.symm)
    ·exact .inl (hGA c (.inr (hs0 c hc)))
    ·exact .inl (hGA c (.inl hc))
  ·rcases hc with hc | hc | hc
   ·exact .inr (Nat.le_of_eq hc.symm)
   ·exact .inl (.inr (hs0 c hc))
   ·exact .inl (.inl hc)
  ·rw [hL]
   exact q595 (q47 _ _ _) (q39 _ _ _) hrw hL.symm hcap (by rw [hsize]; omega)
end
end Go.Lf
namespace Go.Lf
section
variable {w : World} {E : Bs} {β : Nat -> Option (Nat × Nat)} {FA F FA1 F1 G : Bs} {obs obs1 : List (Nat × Ob)} {Gk Gk1 : Nat -> Bs} {τ : Ty}
theorem q601 {k j : Nat} {t : Option Ty} {fs : List V} (hg : get k obs = some (.box t fs)) (hj : j < fs.length) (r : Ref) :
  q46 w β obs w β (put k (.box t (q43 j [.undef] fs)) obs) r := by
 intro o' loc hl
 by_cases e : k = r.root
 ·subst e
  have hl' : way w (.box t (q43 j [.undef] fs)) (β r.root) r.path = some (o', loc) := by
   unfold q34 at hl
   rw [q47] at hl
   exact hl
  have goal : ∀ p, way w (.box t (q43 j [.undef] fs)) (β r.root) p = some (o', loc) -> ∃ o, way w (.box t fs) (β r.root) p = some (o, loc) /\ o.like o' := by
   intro p hp
   cases p with
   | nil =>
    injection hp with hp; injection hp with h1 h2; subst h1; subst h2
    exact ⟨_, rfl, trivial⟩
   | cons ij p =>
    obtain ⟨i1, j1⟩ := ij
    refine ⟨o', ?_, Ob.like.refl o'⟩
    cases hb : β r.root with
    | none => rw [hb] at hp; cases hp
    | some bo =>
     obtain ⟨b, off⟩ := bo
     rw [hb] at hp
     simp only [way, q35, ix] at hp ⊢
     rw [q102 (vs := [V.undef]) (show j + 1 <= fs.length from hj)] at hp
     by_cases c1 : j1 < j
     ·rw [if_pos c1] at hp; exact hp
     ·rw [if_neg c1] at hp
      by_cases c2 : j1 < j + 1
      ·have : j1 - j = 0 := by omega
       have c3 : j1 < j + [V.undef].length := by simpa using c2
       rw [if_pos c3, this] at hp
       simp at hp
      ·have c3 : ¬ j1 < j + [V.undef].length := by simpa using c2
       rw [if_neg c3] at hp; exact hp
  obtain ⟨o, ho, hlike⟩ := goal r.path hl'
  refine ⟨o, ?_, hlike, fun _ _ _ row hr => ⟨row, hr, rfl⟩⟩
  unfold q34
  rw [hg]
  exact ho
 ·have : q34 w β obs r = some (o', loc) := by
   unfold q34 at hl ⊢
   rw [q33 _ e] at hl
   exact hl
  exact ⟨o', this, Ob.like.refl o', fun _ _ _ row hr => ⟨row, hr, rfl⟩⟩
theorem q409 (h : ObsA w E FA F β obs Gk) {k j : Nat} {t : Option Ty} {fs : List V} {v : V} (hg : get k obs = some (.box t fs)) (hj : fs[j]? = some v) :
  ∃ b u G2 Gk2, β k = some (b, 0) /\ w.cell? ⟨b, j, none⟩ = some u /\ LfR w FA v u G2 /\ Took w E β FA F obs FA (fun q => F q /\ ¬ G2 q) G2 (put k (.box t (q43 j [.undef] fs)) obs) Gk2 := by
 obtain ⟨b, row, G', hloc, hrow, hls, hnb, hG⟩ := h.rel k _ hg
 have hjl : j < fs.length := (y149.1 hj).1
 have hlen := hls.length
 rw [q87 fs j 1] at hls
 obtain ⟨c1, c23, G1, G23, hc, h1, h23, hd1, hG1⟩ := hls.split
 obtain ⟨c2, c3, G2, G3, hc', h2, h3, hd2, hG2⟩ := h23.split
 have ej : (fs.drop j).take 1 = [v] := by
  rw [y147 hjl]
  have := (y149.1 hj).2
  simp [this]
 rw [ej] at h2
 obtain ⟨u2, hu2, hlf⟩ := LsR.one_inv h2
 subst hu2
 have l1 : c1.length = j := by rw [h1.length, y154]; omega
 have hrj : row[j]? = some u2 := by
  have : row.toList[j]? = some u2 := by rw [hc, hc', List.getElem?_append_right (by omega), l1, Nat.sub_self]; rfl
  simpa using this
 have hsub2 : ∀ q, G2 q -> Gk k q := fun q hq => (hG q).2 (.inr ((hG1 q).2 (.inr ((hG2 q).2 (.inl hq)))))
 have hnew : LsR w FA (q43 j [.undef] fs) row.toList (fun q => G1 q \/ G3 q) := by
  rw [hc, hc']
  have hu : LfR w FA .undef u2 (fun _ => False) := fun _ h => h
  have hA : LsR w FA ([.undef] ++ fs.drop (j + 1)) ([u2] ++ c3) (fun q => False \/ G3 q) := LsR.append (LsR.one hu) h3 (fun _ h => h.elim)
  have hB := LsR.append h1 hA (fun q hq hq' => hq'.elim id fun h => hd1 q hq ((hG2 q).2 (.inr h)))
  have hE : q43 j [.undef] fs = fs.take j ++ ([.undef] ++ fs.drop (j + 1)) := by unfold q43; rw [List.append_assoc]; rfl
  rw [hE]
  exact hB.iff fun q => ⟨fun h => h.imp id .inr, fun h => h.imp id fun h => h.elim False.elim id⟩
 have sub : ∀ q o', get q (put k (.box t (q43 j [.undef] fs)) obs) = some o' -> (∃ o, get q obs = some o) /\ ∀ c, upd Gk k (fun c => c = b \/ (G1 c \/ G3 c)) q c -> Gk q c := by
  intro q o' hq
  by_cases e : q = k
  ·subst e
   refine ⟨⟨_, hg⟩, fun c hc => ?_⟩
   rw [q39] at hc
   rcases hc with e | hc | hc
   ·exact (hG c).2 (.inl e)
   ·exact (hG c).2 (.inr ((hG1 c).2 (.inl hc)))
   ·exact (hG c).2 (.inr ((hG1 c).2 (.inr ((hG2 c).2 (.inr hc)))))
  ·rw [q33 _ (Ne.symm e)] at hq
   exact ⟨⟨_, hq⟩, fun c hc => by rw [q92 _ _ e] at hc; exact hc⟩
 refine ⟨b, u2, G2, upd Gk k (fun c => c = b \/ (G1 c \/ G3 c)), hloc, q42 hrow.s hrj, hlf, ⟨⟨fun q o' hq => ?_, fun q q' o1 o2 h1 h2 hne => ?_, fun c => ?_, fun q o' hq => ?_, h.elt⟩, fun c hc => hc, fun c hc hn => absurd hc hn, fun c hc => hc.1, fun c hc => (h.cov c).2 (.inr ⟨k, _, hg, hsub2 c hc⟩), fun c hc h2 => h2.2 hc, fun r => q601 hg hjl r⟩⟩
 ·by_cases e : q = k
  ·subst e
   rw [q47] at hq
   injection hq with hq; subst hq
   rw [q39]
   exact ⟨b, row, _, hloc, hrow, hnew, fun h => hnb (h.elim (fun h => (hG1 b).2 (.inl h)) fun h => (hG1 b).2 (.inr ((hG2 b).2 (.inr h)))), fun n => Iff.rfl⟩
  ·rw [q33 _ (Ne.symm e)] at hq
   rw [q92 _ _ e]
   exact h.rel q o' hq
 ·obtain ⟨⟨p1, hp1⟩, s1⟩ := sub q o1 h1
  obtain ⟨⟨p2, hp2⟩, s2⟩ := sub q' o2 h2
  exact fun c hc hc' => h.dj q q' p1 p2 hp1 hp2 hne c (s1 c hc) (s2 c hc')
 ·constructor
  ·rintro ⟨hf, hn2⟩
   rcases (h.cov c).1 hf with hE | ⟨q, o', hq, hqc⟩
   ·exact .inl hE
   by_cases e : q = k
   ·subst e
    refine .inr ⟨q, _, q47 _ _ _, ?_⟩
    rw [q39]
    rcases (hG c).1 hqc with e | hc
    ·exact .inl e
    ·rcases (hG1 c).1 hc with hc | hc
     ·exact .inr (.inl hc)
     ·rcases (hG2 c).1 hc with hc | hc
      ·exact absurd hc hn2
      ·exact .inr (.inr hc)
   ·exact .inr ⟨q, o', by rw [q33 _ (Ne.symm e)]; exact hq, by rw [q92 _ _ e]; exact hqc⟩
  ·rintro (hE | ⟨q, o', hq, hqc⟩)
   ·exact ⟨(h.cov c).2 (.inl hE), fun h2 => h.out k _ hg c (hsub2 c h2) hE⟩
   by_cases e : q = k
   ·subst e
    rw [q39] at hqc
    refine ⟨(h.cov c).2 (.inr ⟨q, _, hg, ?_⟩), fun h2 => ?_⟩
    ·rcases hqc with e | hc | hc
     ·exact (hG c).2 (.inl e)
     ·exact (hG c).2 (.inr ((hG1 c).2 (.inl hc)))
     ·exact (hG c).2 (.inr ((hG1 c).2 (.inr ((hG2 c).2 (.inr hc)))))
    ·rcases hqc with e | hc | hc
     ·exact hnb (e ▸ (hG1 c).2 (.inr ((hG2 c).2 (.inl h2))))
     ·exact hd1 c hc ((hG2 c).2 (.inl h2))
     ·exact hd2 c h2 hc
   ·rw [q33 _ (Ne.symm e)] at hq
    rw [q92 _ _ e] at hqc
    exact ⟨(h.cov c).2 (.inr ⟨q, o', hq, hqc⟩), fun h2 => h.dj q k o' _ hq hg e c hqc (hsub2 c h2)⟩
 ·obtain ⟨⟨p1, hp1⟩, s1⟩ := sub q o' hq
  exact fun c hc hE => h.out q p1 hp1 c (s1 c hc) hE
theorem q515 {R : Type} {K : q32 -> Option R} {x : R} (h : ObsA w E FA F β obs Gk) (hF : ∀ b, F b -> FA b) {r : Ref} {wh : Bool} {l : List τ.den} {loc : Option (Nat × Nat)} (hat : q34 w β obs r = some (.arr τ l, loc)) (hk : q546 obs r wh K = some x) :
  ∃ d F2 G Gk2, K d = some x /\ (∀ (R' : Type) (K' : q32 -> Option R') (obs' : List (Nat × Ob)), get r.root obs' = get r.root obs -> q546 obs' r wh K' = K' d) /\ Took w E β FA F obs FA F2 G (q21 d obs) Gk2 /\ q246 w τ.size (LR w FA τ) l loc G /\
   (∀ q ∈ q15 d, q = r.root /\ get q obs ≠ none) := by
 unfold q546 at hk
 split at hk
 ·rename_i hp
  split at hk
  ·rename_i o0 hg
   have hat' : some (o0, β r.root) = some (Ob.arr τ l, loc) := by
    unfold q34 at hat
    rw [hg, hp] at hat
    exact hat
   injection hat' with e; injection e with e1 e2; subst e1; subst e2
   refine ⟨_, _, _, _, hk, fun R' K' obs' e => ?_, q131 h hF hg, h.rel _ _ hg, fun q hq => ?_⟩
   ·unfold q546
    simp only [hp, e, hg]
   ·simp [q15] at hq
    subst hq
    exact ⟨rfl, by rw [hg]; exact fun e => (by cases e)⟩
  ·cases hk
 ·rename_i j hp
  split at hk
  ·rename_i t fs hg
   unfold q34 at hat
   rw [hg, hp] at hat
   have hat' : way w (.box t fs) (β r.root) [(0, j)] = some (.arr τ l, loc) := hat
   cases hb : β r.root with
   | none => rw [hb] at hat'; cases hat'
   | some bo =>
    obtain ⟨b, off⟩ := bo
    rw [hb] at hat'
    obtain ⟨v, o1, u, hv, ho, hc, _, hw⟩ := q336 hat'
    have hw' : some (o1, q231 v u) = some (Ob.arr τ l, loc) := hw
    injection hw' with e; injection e with e1 e2; subst e1; subst e2
    obtain ⟨b', u', G2, Gk2, hb', hc', hlf, htook⟩ := q409 h hg (show fs[j]? = some v from hv)
    rw [hb] at hb'; injection hb' with e; injection e with e1 e2; subst e1; subst e2
    simp only [ix, Nat.zero_add] at hc
    rw [hc] at hc'; injection hc' with hc'; subst hc'
    refine ⟨_, _, _, _, hk, fun R' K' obs' e => ?_, htook, ?_, fun q hq => ?_⟩
    ·unfold q546
     simp only [hp, e, hg]
    ·cases v with
     | ow τ' l' =>
      injection ho with ho; injection ho with e1 e2; subst e1
      have e2 := eq_of_heq e2; subst e2
      obtain ⟨u2, hu2, _, ha⟩ := hlf
      injection hu2 with hu2; subst hu2
      exact ha
     | bx => cases ho
     | _ => cases ho
    ·simp [q15] at hq
     subst hq
     exact ⟨rfl, by rw [hg]; exact fun e => (by cases e)⟩
  ·cases hk
 ·cases hk
end
end Go.Lf
namespace Go.Lf
section
variable {P : Program} {C : Ctx} {k : Nat} {tm : List (Nat × V)} {obs : List (Nat × Ob)} {fresh : Nat} {o : Oper} {a : Act} {w : World} {E : Bs} {β : Nat -> Option (Nat × Nat)} {F : Bs} {Gk : Nat -> Bs}
theorem q611 {l : List Operand} {f : Operand -> V} {x y : V} (h : l.map f = [x, y]) : ∃ p q, l = [p, q] /\ f p = x /\ f q = y := by
 cases l with
 | nil => cases h
 | cons p l =>
  cases l with
  | nil => cases h
  | cons q l =>
   cases l with
   | nil => injection h with h1 h; injection h with h2 _; exact ⟨p, q, rfl, h1, h2⟩
   | cons _ _ => injection h with h1 h; injection h with h2 h; cases h
theorem q337 {fresh : Nat} {raw : List V} {n : Nat} : q158 fresh raw (.hs ⟨fresh, []⟩ 0 n true) = .hs ⟨fresh, []⟩ 0 n true \/ ∃ s k m, raw = [s, .hz k (m + 1)] /\ q158 fresh raw (.hs ⟨fresh, []⟩ 0 n true) = .hz fresh n := by
 unfold q158
 split
 ·rename_i s k m k' n' e
  injection e with _ _ e
  subst e
  exact .inr ⟨s, k, m, rfl, rfl⟩
 ·exact .inl rfl
theorem q263 {raw : List V} {n : Nat} {d : q32} {ob : Ob} (hn : ∀ s k m, raw = [s, .hz k (m + 1)] -> 0 < n) (h : Good P o a w E β obs F fresh (.hs ⟨fresh, []⟩ 0 n true) (d ++ [(fresh, some ob)]) []) :
  Good P o a w E β obs F fresh (q158 fresh raw (.hs ⟨fresh, []⟩ 0 n true)) (d ++ [(fresh, some ob)]) [] := by
 rcases q337 (fresh := fresh) (raw := raw) (n := n) with e | ⟨s, k, m, hr, e⟩
 ·rw [e]; exact h
 ·have hn := hn s k m hr
  rw [e]
  intro next Q H
  refine h next Q fun u w' β' F' Gk' hob hv hap hst hE hrk => H u w' β' F' Gk' hob ?_ hap hst hE hrk
  obtain ⟨ad, cap, hu, hv'⟩ := id hv
  subst hu
  refine hz_of hv ?_
  have hg : get fresh (q21 (d ++ [(fresh, some ob)]) obs) = some ob := by rw [q38]; exact q47 _ _ _
  have hl : q34 w' β' (q21 (d ++ [(fresh, some ob)]) obs) ⟨fresh, []⟩ = some (ob, β' fresh) := by unfold q34; simp only [hg, way]
  obtain ⟨τ, l, _, ⟨ad1, cap1, e1, h1⟩, _, _⟩ := hv' ob _ hl
  injection e1 with e1 _ _
  subst e1
  rcases h1 with ⟨h0, _⟩ | ⟨b, c0, row, _, _, had, _⟩
  ·omega
  ·rw [had]; constructor
   ·intro h; cases h
   ·intro h; omega
theorem q311 {raw : List V} {n : Nat} {rd : List Nat} (h : Src tm fresh o rd (.hs ⟨fresh, []⟩ 0 n true)) : Src tm fresh o rd (q158 fresh raw (.hs ⟨fresh, []⟩ 0 n true)) := by
 rcases q337 (fresh := fresh) (raw := raw) (n := n) with e | ⟨s, k, m, _, e⟩
 ·rw [e]; exact h
 ·rw [e]; exact h
theorem cells_hz {w : World} {β : Nat -> Option (Nat × Nat)} {obs : List (Nat × Ob)} {F : Bs} {k m n sz : Nat} {u : Value} {cs : List Value} (h : VR w β obs F (.hz k (m + 1)) u) (hc : q424 w u n sz cs) : 0 < n := by
 obtain ⟨ad, cap, hu, _, _⟩ := h
 obtain ⟨ad', cap', hu', _⟩ := hc
 rw [hu] at hu'
 injection hu' with _ e _
 omega
theorem q661 {R : Type} {K : OpK R} {r : R} (hT : q81 P C) (hf : FR C w E β tm obs a F Gk) (hfr : Free obs fresh) {c : Call} (ho : o.op = .call c) (hc : c.callee = .builtin .append) (h : opK C k tm obs fresh o K = some r) : OpOk P C k tm obs fresh o a w E β F := by
 unfold opK at h
 simp only [ho, hc] at h
 split at h
 ·rename_i s x t tx hargs htys
  obtain ⟨p, q, hpq, hp, hq⟩ := q611 hargs
  have hop : ∀ y ∈ c.args.toList, y ∈ o.op.operands := by
   intro y hy
   rw [ho]; simp [Op.operands, Call.operands]
   exact .inr (Array.mem_toList_iff.1 hy)
  have hpo := hop p (by rw [hpq]; simp)
  have hqo := hop q (by rw [hpq]; simp)
  have rp := q30 hf p
  have rq := q30 hf q
  rw [hp] at rp; rw [hq] at rq
  split at h
  ·rename_i e' hkx
   have hkx' := q60 hT tx
   rw [hkx] at hkx'
   have hkx2 : P.underlying tx = some (.slice e') := hkx'
   unfold q425 at h
   split at h
   ·cases h
   ·rename_i e bytes τ zero he
    obtain ⟨inf, z, hu, hi, hsz, hby, hb0, hz, hza, hzl⟩ := q192 hT he
    have hzs : z.cells.size = τ.size := by have := hza.length; rw [y156] at this; omega
    have hlt := q261 hf.ob.a
    have hcargs : c.args = #[p, q] := by rw [<- Array.toList_inj]; exact hpq
    have hctys : c.argTypes = #[t, tx] := by rw [<- Array.toList_inj]; exact htys
    have exec : ∀ (ad : Option Addr) (n cap : Nat) (ad' : Option Addr) (n' cap' : Nat) (w' : World), a.eval p = .slice ad n cap -> (Builtin.append_ #[t, tx] o.type #[.slice ad n cap, a.eval q]).run P w = .ok (.slice ad' n' cap') w' ->
      (execOp a.eval o).run P w = .ok (.value (.slice ad' n' cap')) w' := by
     intro ad n cap ad' n' cap' w' hep hrun
     simp [execOp, ho, resolve, hc, invoke, builtin, hcargs, hctys, hep, hrun]
    have stab : ∀ (tm' : List (Nat × V)), (∀ y, y ∈ o.op.operands -> opnd tm' y = opnd tm y) -> c.args.toList.map (opnd tm') = [s, x] := by
     intro tm' ht
     rw [hpq]
     simp [ht p hpo, ht q hqo, hp, hq]
    have stabR : ∀ (tm' : List (Nat × V)), (∀ y, y ∈ o.op.operands -> q152 tm' y = q152 tm y) -> c.args.toList.map (q152 tm') = c.args.toList.map (q152 tm) := by
     intro tm' ht
     rw [hpq]
     simp [ht p hpo, ht q hqo]
    have hmore : ∀ (s0 : V) (k0 m0 : Nat), c.args.toList.map (q152 tm) = [s0, .hz k0 (m0 + 1)] -> ∀ {n sz cs}, q424 w (a.eval q) n sz cs -> 0 < n := by
     intro s0 k0 m0 e0 n sz cs hcs
     rw [hpq] at e0
     injection e0 with _ e0
     injection e0 with e0 _
     have rq0 := q148 hf q
     rw [e0] at rq0
     exact cells_hz rq0 hcs
    split at h
    ·
     obtain ⟨l, d, rd, FA1, F1, G, Gk1, cs, hk, hst, htook, hcs, hel, hex, _⟩ := q346 hf.ob.a (fun _ h => h) rq h
     split at hk
     ·rename_i hfit
      obtain ⟨ad, hup⟩ := rp
      have hsrc := src_of hkx2 hcs hel
      obtain ⟨ad', cap', w', hrun, hap⟩ := q405 (P := P) (ty := o.type) (ad := ad) (n := 0) (cap := 0) (olds := []) hu hi hsz hby hz hzs hb0 hsrc ⟨ad, 0, rfl, Nat.le_refl _, by simp, .inl rfl⟩ (.inl ⟨rfl, rfl⟩) (by rw [Nat.zero_add]; exact hfit)
      have hcore : Good P o a w E β obs F fresh (.hs ⟨fresh, []⟩ 0 l.length true) (d ++ [(fresh, some (Ob.arr τ l))]) [] :=
       q352 (τ := τ) (olds := []) (l := l) (cs0 := []) (G0 := fun _ => False) (Gs := fun _ => False) hlt (htook.iff fun b => ⟨fun h => h.elim id False.elim, .inl⟩) (hfr.behind hex (Nat.le_refl _) (by omega)) (.nil fun _ h => h) hel (fun _ h => h) (fun _ _ h => h) rfl rfl (.inl ⟨rfl, rfl⟩) (exec ad 0 0 ad' _ cap' w' hup hrun) hap
      refine ⟨q158 fresh (c.args.toList.map (q152 tm)) (.hs ⟨fresh, []⟩ 0 l.length true), d ++ [(fresh, some (Ob.arr τ l))], rd, [], fun tm' obs' ht htR hd R' K' => ?_, q311 (Src.fresh (fun r hr => by simpa [q24, q31, q37] using hr)), Keys.snoc hex _, q263 (fun s0 k0 m0 e0 => hmore s0 k0 m0 e0 hcs) hcore⟩
      ·unfold opK
       simp only [ho, hc, stab tm' ht, htys, hkx, stabR tm' htR]
       unfold q425
       simp only [he]
       rw [hst R' _ obs' fun q hq => hd q (hq.elim .inl fun hq => .inr (by rw [q25]; exact y151.2 (.inl hq)))]
       rw [if_pos hfit]
     ·cases hk
    ·
     rename_i q0 off n wh
     obtain ⟨o1, loc, G1, hat, hob1, _, hK, hst0⟩ := q267 hf.ob h
     cases o1 with
     | mp => cases hK
     | box => cases hK
     | arr τ' l0 =>
      simp only at hK
      split at hK
      ·rename_i hb
       have e1 := Ty.beq_eq hb
       subst e1
       rw [q52] at hK
       obtain ⟨hh, hn, hw⟩ := q428 rp hat
       rw [q239 hw] at hK
       have hlen0 : ((l0.drop off).take n).length = n := by rw [y154, List.length_drop]; omega
       obtain ⟨l, d, rd, FA1, F1, Gx, Gk1, cs, hk, hst, htook, hcs, hel, hex, hkeys⟩ := q346 hf.ob.a (fun _ h => h) rq hK
       split at hk
       ·rename_i hfit
        rw [y148, hlen0] at hfit
        have hF1 : ∀ b, F1 b -> FA1 b := fun b hb => y146 fun hn => (htook.lost b (htook.less b hb) hn).2.1 hb
        have hget : get q0.root (q21 d obs) = get q0.root obs := by
         refine q48 d obs fun hq' => ?_
         have hnone := hkeys _ hq'
         unfold q546 at hk
         rw [hnone] at hk
         split at hk <;> cases hk
        have hat1 : q34 w β (q21 d obs) q0 = some (.arr τ' l0, loc) := by unfold q34 at hat ⊢; rw [hget]; exact hat
        obtain ⟨d', F2, Gs, Gk2, hk2, hst2, htook2, harr, hex2⟩ := q515 htook.ob hF1 hat1 hk
        obtain ⟨cs0, G0, hcs0, hel0, hs0, hblk⟩ := q441 harr hh hn
        have hsrc := src_of hkx2 hcs hel
        obtain ⟨ad, cap, hup, hh2⟩ := id hh
        have hhead : (n = 0 /\ cap = 0) \/ ∃ b o row, ad = some ⟨b, o, none⟩ /\ Row w b row /\ n <= cap /\ o + cap * τ'.size <= row.size /\ Gs b /\ ¬ G0 b /\ cs0 = seg row o (n * τ'.size) := by
         rcases hh2 with h | ⟨b, c0, row, hloc, hrow, had, hnc, hsize⟩
         ·exact .inl h
         ·obtain ⟨hnb, hcseq⟩ := hblk b c0 hloc
          refine .inr ⟨b, c0 + off * τ'.size, row, had, hrow, hnc, ?_, ?_, hnb, hcseq row hrow⟩
          ·rw [Nat.add_mul] at hsize; omega
          ·rw [hloc] at harr
           exact q559 (o := .arr τ' l0) harr
        rw [hup] at hcs0
        obtain ⟨ad', cap', w', hrun, hap⟩ := q405 (P := P) (ty := o.type) (ad := ad) (n := n) (cap := cap) (olds := cs0) hu hi hsz hby hz hzs hb0 hsrc hcs0 (hhead.imp id fun ⟨b, o, row, h1, h2, h3, h4, _⟩ => ⟨b, o, row, h1, h2, h3, h4⟩) hfit
        have htook3 := htook.trans htook2
        have hex3 := q217 hex fun q hq => (hex2 q hq).2
        have hcore := q352 (P := P) (o := o) (a := a) (fresh := fresh) (D := d ++ d') hlt (by rw [q38]; exact htook3) (hfr.behind hex3 (Nat.le_refl _) (by omega)) hel0 (hel.keep ⟨Nat.le_refl _, fun _ _ => rfl, fun _ _ _ => rfl, fun b hb => .inl hb⟩) hs0 (htook.djG htook2) hlen0 rfl hhead (exec ad n cap ad' _ cap' w' hup hrun) hap
        refine ⟨q158 fresh (c.args.toList.map (q152 tm)) (.hs ⟨fresh, []⟩ 0 ((l0.drop off).take n ++ l).length true), d ++ (d' ++ [(fresh, some (.arr τ' ((l0.drop off).take n ++ l)))]), q0.root :: rd, [], fun tm' obs' ht htR hd R' K' => ?_, q311 (Src.fresh (fun r hr => ?_)), by rw [<- List.append_assoc]; exact Keys.snoc hex3 _, by rw [<- List.append_assoc]; exact q263 (fun s0 k0 m0 e0 => by rw [y148]; have := hmore s0 k0 m0 e0 hcs; omega) hcore⟩
        ·unfold opK
         simp only [ho, hc, stab tm' ht, htys, hkx, stabR tm' htR]
         unfold q425
         simp only [he]
         rw [hst0 R' _ obs' (hd _ (.inl (by simp)))]
         simp only [hb, dif_pos, q52, q239 hw]
         rw [hst R' _ obs' fun q hq => hd q (hq.elim (fun h => .inl (y155 _ h)) fun hq => .inr (by rw [q25]; exact y151.2 (.inl hq)))]
         rw [if_pos (by rw [y148, hlen0]; exact hfit)]
         rw [hst2 R' _ (q21 d obs') (q36 d _ _ (hd _ (.inl (by simp))))]
        ·simpa [q24, q31, q37] using hr
       ·cases hk
      ·cases hK
    ·cases h
  ·cases h
 ·cases h
end
end Go.Lf
namespace Go.Lf
section
variable {w : World} {E : Bs} {β : Nat -> Option (Nat × Nat)} {F FA : Bs} {obs : List (Nat × Ob)} {Gk : Nat -> Bs}
theorem q689 {R : Type} {v : V} {K : V -> q32 -> Option R} {r : R} (h : q225 obs v K = some r) : (q243 obs v K = some r /\ ∀ (R' : Type) (obs' : List (Nat × Ob)) (K' : V -> q32 -> Option R'), q225 obs' v K' = q243 obs' v K') \/ ∃ k j n t fs τ l, v = .hs ⟨k, [(0, j)]⟩ 0 n true /\ get k obs = some (.box t fs) /\ fs[j]? = some (.ow τ l) /\ K (.ow τ l) [(k, some (.box t (q43 j [.undef] fs)))] = some r := by
 unfold q225 at h
 split at h
 ·rename_i k j n
  split at h
  ·rename_i t fs hg
   split at h
   ·rename_i τ l hj
    exact .inr ⟨k, j, n, t, fs, τ, l, rfl, hg, hj, h⟩
   ·cases h
  ·cases h
 ·rename_i hne
  refine .inl ⟨h, fun R' obs' K' => ?_⟩
  unfold q225
  split
  ·rename_i k j n
   exact absurd rfl (hne k j n)
  ·rfl
theorem q501 {R : Type} {K : V -> q32 -> Option R} {r : R} (h : ObsA w E FA F β obs Gk) (hF : ∀ b, F b -> FA b) {v : V} {u : Value} (hv : VRl w β obs FA v u) (hk : q225 obs v K = some r) :
  ∃ v' d FA1 F1 G Gk1, K v' d = some r /\ (∀ (R' : Type) (K' : V -> q32 -> Option R') (obs' : List (Nat × Ob)), (∀ q ∈ q15 d, get q obs' = get q obs) -> q225 obs' v K' = K' v' d) /\
   Took w E β FA F obs FA1 F1 G (q21 d obs) Gk1 /\ LfR w FA1 v' u G /\ v' ≠ .undef /\ ∀ q ∈ q15 d, get q obs ≠ none := by
 rcases q689 hk with ⟨hk, he⟩ | ⟨k, j, n, t, fs, τ, l, rfl, hg, hj, hk⟩
 ·obtain ⟨v', d, FA1, F1, G, Gk1, h1, h0, h2, h3, h4, h5⟩ := q348 h hF hv hk
  exact ⟨v', d, FA1, F1, G, Gk1, h1, fun R' K' obs' hq => (he R' obs' K').trans (h0 R' K' obs' hq), h2, h3, h4, h5⟩
 ·obtain ⟨b, u2, G2, Gk2, hloc, hcell, hlf, htook⟩ := q409 h hg hj
  obtain ⟨ad, cap, hu, hall⟩ := hv
  have hst : ∀ (R' : Type) (K' : V -> q32 -> Option R') (obs' : List (Nat × Ob)), (∀ q ∈ q15 [(k, (some (.box t (q43 j [.undef] fs)) : Option Ob))], get q obs' = get q obs) -> q225 obs' (.hs ⟨k, [(0, j)]⟩ 0 n true) K' = K' (.ow τ l) [(k, some (.box t (q43 j [.undef] fs)))] := by
   intro R' K' obs' hq
   unfold q225
   simp only [hq k (by simp [q15]), hg, hj]
  have hex : ∀ q ∈ q15 [(k, (some (.box t (q43 j [.undef] fs)) : Option Ob))], get q obs ≠ none := by
   intro q hq
   simp [q15] at hq
   subst hq
   rw [hg]; exact fun e => by cases e
  have hat : q34 w β obs ⟨k, [(0, j)]⟩ = some (.arr τ l, q198 u2) := by
   have e0 : 0 + ix (.box t fs) 0 j = j := by simp [ix]
   unfold q34
   rw [hg]
   show way w (.box t fs) (β k) [(0, j)] = _
   rw [hloc]
   simp only [way, q35, hj, e0, hcell]
  obtain ⟨τ', l', e, hh, _, hw⟩ := hall _ _ hat
  injection e with e1 e2; subst e1
  have e2 := eq_of_heq e2; subst e2
  have hn := (hw rfl).2
  obtain ⟨u3, hu3, _, ha⟩ := hlf
  injection hu3 with hu3; subst hu3
  obtain ⟨ad', cap', hu', hd⟩ := id hh
  rw [hu] at hu'; injection hu' with e1 e2 e3; subst e1; subst e3
  have empty : n = 0 /\ cap = 0 -> ∃ v' d FA1 F1 G Gk1, K v' d = some r /\ (∀ (R' : Type) (K' : V -> q32 -> Option R') (obs' : List (Nat × Ob)), (∀ q ∈ q15 d, get q obs' = get q obs) -> q225 obs' (.hs ⟨k, [(0, j)]⟩ 0 n true) K' = K' v' d) /\
    Took w E β FA F obs FA1 F1 G (q21 d obs) Gk1 /\ LfR w FA1 v' u G /\ v' ≠ .undef /\ ∀ q ∈ q15 d, get q obs ≠ none := by
   rintro ⟨h0, hc⟩
   refine ⟨_, _, _, _, fun _ => False, _, hk, hst, htook.drop (fun b hb => hb.elim), ?_, nofun, hex⟩
   have hlu : q198 u = none := by rw [hu, hc]; cases ad <;> rfl
   have hl0 : l = [] := y153 (by omega)
   refine ⟨u, rfl, ⟨ad, cap, by rw [hu, hn], .inl ⟨by omega, hc⟩⟩, ?_⟩
   rw [hlu]
   exact ⟨hl0, fun _ h => h⟩
  rcases hd with hd | ⟨b2, c, row, hloc2, hrow, had, hnc, hsz⟩
  ·exact empty hd
  ·by_cases hc : cap = 0
   ·exact empty ⟨by omega, hc⟩
   ·have hlu : q198 u = q198 u2 := by
     rw [hu, had, hloc2]
     simp [q198, hc]
    refine ⟨_, _, _, _, _, _, hk, hst, htook, ⟨u, rfl, ?_, ?_⟩, nofun, hex⟩
    ·rw [hlu]; exact hh.same hn
    ·rw [hlu]; exact ha
theorem q185 {R : Type} : ∀ (vs : List V) {K : List V -> q32 -> Option R} {r : R} {FA F : Bs} {obs : List (Nat × Ob)} {Gk : Nat -> Bs} {us : List Value}, ObsA w E FA F β obs Gk -> (∀ b, F b -> FA b) -> All2 (VRl w β obs FA) vs us -> q201 vs obs K = some r ->
  ∃ vs' d FA1 F1 G Gk1, K vs' d = some r /\ (∀ (R' : Type) (K' : List V -> q32 -> Option R') (obs' : List (Nat × Ob)), (∀ q ∈ q15 d, get q obs' = get q obs) -> q201 vs obs' K' = K' vs' d) /\
   Took w E β FA F obs FA1 F1 G (q21 d obs) Gk1 /\ LsR w FA1 vs' us G /\ (∀ v ∈ vs', v ≠ .undef) /\ ∀ q ∈ q15 d, get q obs ≠ none
 | [], K, r, FA, F, obs, Gk, us, h, hF, hv, hk => by
  cases hv
  exact ⟨[], [], FA, F, fun _ => False, Gk, hk, fun _ _ _ _ => rfl, Took.refl h, .nil fun _ h => h, fun q hq => (by cases hq), fun q hq => (by cases hq)⟩
 | v :: vs, K, r, FA, F, obs, Gk, us, h, hF, hv, hk => by
  cases hv with
  | cons hu hus =>
   rename_i u us
   unfold q201 at hk
   obtain ⟨v', d, FA1, F1, G, Gk1, hk1, hst, htook, hlf, hnu, hex⟩ := q501 h hF hu hk
   have hF1 : ∀ b, F1 b -> FA1 b := fun b hb => y146 fun hn => (htook.lost b (hF b (htook.less b hb)) hn).2.1 hb
   have hus1 := hus.imp fun x y _ hxy => VRl.keep hxy (htook.stay _) fun r _ => htook.keep r
   obtain ⟨vs', d', FA2, F2, G', Gk2, hk2, hst2, htook2, hls, hnu2, hex2⟩ := q185 vs htook.ob hF1 hus1 hk1
   refine ⟨v' :: vs', d ++ d', FA2, F2, _, Gk2, hk2, fun R' K' obs' hq => ?_, ?_, .cons (hlf.sub htook2.sub) hls (htook.djG htook2) fun n => Iff.rfl, fun z hz => ?_, q217 hex hex2⟩
   ·unfold q201
    rw [hst _ _ obs' fun q hq' => hq q (by rw [q25]; exact y151.2 (.inl hq'))]
    exact hst2 _ _ _ fun q hq' => q36 d _ _ (hq q (by rw [q25]; exact y151.2 (.inr hq')))
   ·rw [q38]
    exact htook.trans htook2
   ·rcases y166.1 hz with rfl | hz
    ·exact hnu
    ·exact hnu2 z hz
theorem q442 {R : Type} (x : Bool) (vs : List V) {K : List V -> q32 -> Option R} {r : R} {us : List Value} (h : ObsA w E FA F β obs Gk) (hF : ∀ b, F b -> FA b) (hv : All2 (VRl w β obs FA) vs us) (hk : q430 x vs obs K = some r) :
  ∃ vs' d FA1 F1 G Gk1, K vs' d = some r /\ (∀ (R' : Type) (K' : List V -> q32 -> Option R') (obs' : List (Nat × Ob)), (∀ q ∈ q15 d, get q obs' = get q obs) -> q430 x vs obs' K' = K' vs' d) /\
   Took w E β FA F obs FA1 F1 G (q21 d obs) Gk1 /\ LsR w FA1 vs' us G /\ (∀ v ∈ vs', v ≠ .undef) /\ ∀ q ∈ q15 d, get q obs ≠ none := by
 cases x with
 | true => exact q185 vs h hF hv hk
 | false => exact q122 vs h hF hv hk
theorem q310 {R : Type} {v : V} {u : Value} {K : List V -> q32 -> Option R} {r : R} (hv : VR w β obs FA v u) (h : q201 v.fields obs K = some r) : All2 (VRl w β obs FA) v.fields u.cells.toList := by
 cases v with
 | agg fs =>
  obtain ⟨us, hu, hall⟩ := hv
  subst hu
  exact hall
 | undef => cases h
 | tup => cases h
 | fn => cases h
 | ow => cases h
 | mp => cases h
 | nilz => cases h
 | hz => cases h
 | bx => cases h
 | _ => exact q178 hv rfl
theorem q503 {R : Type} (x : Bool) {v : V} {u : Value} {K : List V -> q32 -> Option R} {r : R} (hv : VR w β obs FA v u) (h : q430 x v.fields obs K = some r) : All2 (VRl w β obs FA) v.fields u.cells.toList := by
 cases x with
 | true => exact q310 hv h
 | false => exact q189 hv h
end
section
variable {P : Program} {C : Ctx} {k : Nat} {tm : List (Nat × V)} {obs : List (Nat × Ob)} {fresh : Nat} {o : Oper} {a : Act} {w : World} {E : Bs} {β : Nat -> Option (Nat × Nat)} {F : Bs} {Gk : Nat -> Bs}
theorem op_store {R : Type} {K : OpK R} {r : R} (hT : q81 P C) (hf : FR C w E β tm obs a F Gk) {t : TypeId} {x y : Operand} (ho : o.op = .store t x y) (h : opK C k tm obs fresh o K = some r) : OpOk P C k tm obs fresh o a w E β F := by
 have hx : x ∈ o.op.operands := by rw [ho]; simp [Op.operands]
 have hy : y ∈ o.op.operands := by rw [ho]; simp [Op.operands]
 have rx := q30 hf x
 have ry := q30 hf y
 unfold opK at h
 simp only [ho] at h
 split at h
 ·cases h
 ·rename_i i hi
  obtain ⟨z, inf, hinf, hsz, _⟩ := (hT t i hi).info
  split at h
  ·rename_i q e j hb
   rw [hb] at rx
   have hall := q503 _ ry h
   obtain ⟨vs, d, FA1, F1, G, Gk1, hk, hst, htook, hls, hnu, hex⟩ := q442 _ _ hf.ob.a (fun _ h => h) hall h
   cases hsize : Nat.beq vs.length i.size && Nat.blt 0 i.size with
   | false => rw [hsize] at hk; cases hk
   | true =>
    rw [hsize] at hk
    have hsize' := hsize
    rw [y144] at hsize'
    have hlen : vs.length = i.size := y143 hsize'.1
    have hpos : 0 < i.size := of_decide_eq_true (by simpa [Nat.blt_eq] using hsize'.2)
    have hvs : vs ≠ [] := fun e => by rw [e] at hlen; simp at hlen; omega
    simp only [cond] at hk
    cases hg : get q.root (q21 d obs) with
    | none => rw [hg] at hk; cases hk
    | some o0 =>
     rw [hg] at hk
     simp only at hk
     have hF1 : ∀ b, F1 b -> FA1 b := fun b hb => y146 fun hn => (htook.lost b (htook.less b hb) hn).2.1 hb
     have hGA : ∀ b, G b -> FA1 b := fun b hb => y146 fun hn => (htook.lost b (htook.got b hb) hn).2.2 hb
     obtain ⟨o1, hgo⟩ := q551 hk
     have hob0 := htook.ob.rel _ _ hg
     have hcov0 : ∀ c, Gk1 q.root c -> F1 c := fun c hc => (htook.ob.cov c).2 (.inr ⟨_, _, hg, hc⟩)
     obtain ⟨loc1, G1, hway, hob1, hs1, _, hupd, hclose⟩ := q274 q.path hob0 hgo
     rw [hupd] at hk
     have hfit := q272 hvs hk
     obtain ⟨b, off, row, Gm, Gr, old, hloc, hrow, hle, _, hG, hdmr, hnm, hnr, _, hwr⟩ := q569 hob1 hfit
     obtain ⟨o1', hk1, hlike, hst1, hcl1⟩ := hwr vs rfl _ _ _ hk
     obtain ⟨o0', hk0, hlike0, hst0, hcl0⟩ := hclose o1' _ _ _ hlike hk1
     subst hloc
     obtain ⟨ad, hux, hpl⟩ := rx
     have hat1 : q34 w β (q21 d obs) q = some (o1, some (b, off)) := by unfold q34; simp only [hg]; exact hway
     obtain ⟨ob, hat, hlk, _⟩ := htook.keep q _ _ hat1
     obtain ⟨b', off', hloc', had⟩ := hpl _ _ hat
     injection hloc' with e1; injection e1 with e1 e2; subst e1; subst e2
     rw [q520 hlk] at had
     have hul := hls.length
     have hcells : ∀ u ∈ (a.eval y).cells.toList, u.oneCell' = true := by
      intro u hu
      obtain ⟨p, hp⟩ := List.getElem?_of_mem hu
      have hpl : p < vs.length := by rw [<- hul]; exact (y149.1 hp).1
      obtain ⟨u2, G2, hu2, hlf⟩ := hls.to p vs[p] (y140 hpl)
      rw [hp] at hu2; injection hu2 with hu2; subst hu2
      exact q315 hlf (hnu _ (y160 hpl))
     have hrun := q415 (P := P) hrow (o := off + ix o1 e j) (us := (a.eval y).cells.toList) (by rw [hul]; exact hle) hcells
     obtain ⟨row', hrow', hsp⟩ := q208 b (a.eval y).cells.toList (off + ix o1 e j) w row hrow (by rw [hul]; exact hle)
     have hother : ∀ c, c ≠ b -> (w.setCells b (off + ix o1 e j) (a.eval y).cells.toList).heap[c]? = w.heap[c]? := fun c hc => q169 b _ _ w c hc
     have hhs : (w.setCells b (off + ix o1 e j) (a.eval y).cells.toList).heap.size = w.heap.size := q186 b _ _ w
     generalize hw' : w.setCells b (off + ix o1 e j) (a.eval y).cells.toList = w' at *
     have hbG1 : G1 b := (hG b).2 (.inl rfl)
     have hbF : F1 b := hcov0 b (hs1 b hbG1)
     have hbFA : FA1 b := hF1 b hbF
     have hout : ∀ c, ¬ FA1 c -> c < w.heap.size -> w'.heap[c]? = w.heap[c]? := fun c hc _ => hother c fun e => hc (e ▸ hbFA)
     have hA := hcl1 w' FA1 (a.eval y).cells.toList row' G hrow' hsp hul
      (Lets.intro fun F' hF' => hls.keep ⟨by rw [hhs]; exact Nat.le_refl _, fun c hc => hother c fun e => htook.dj c hc (e ▸ hbF), hout, fun c hc => .inl (hF' c hc)⟩)
      (fun c hc hc' => htook.dj c hc (hc'.elim (fun e => e ▸ hbF) fun h => hcov0 c (hs1 c ((hG c).2 (.inr (.inr h))))))
      ⟨by rw [hhs]; exact Nat.le_refl _, fun c _ hcb => hother c hcb, hout, fun c hc => .inl hc⟩
     have hB := hcl0 w' FA1 _ hA
      (fun c hc hc' => by
       rcases hc with hc | hc | hc
       ·exact htook.dj c hc (hcov0 c hc'.1)
       ·exact hc'.2 (hc ▸ hbG1)
       ·exact hc'.2 ((hG c).2 (.inr (.inr hc))))
      (fun c rw' hr hc => by
       by_cases e : c = b
       ·subst e
        have := hrow.eq hr
        subst this
        exact ⟨row', hrow', hsp.size⟩
       ·exact ⟨rw', hr.keep (hother c e), rfl⟩)
      ⟨by rw [hhs]; exact Nat.le_refl _, fun c hc => hother c fun e => hc.2 (e ▸ hbG1), hout, fun c hc => .inl hc⟩
     obtain ⟨H, hHs, hH⟩ := hB
     have hHsub : ∀ c, H c -> G c \/ Gk1 q.root c := by
      intro c hc
      rcases hHs c hc with (h | h | h) | h
      ·exact .inl h
      ·exact .inr (h ▸ hs1 b hbG1)
      ·exact .inr (hs1 c ((hG c).2 (.inr (.inr h))))
      ·exact .inr h.1
     have hnew := hH (fun c => (F1 c /\ ¬ Gk1 q.root c) \/ H c) (fun c hc => hc.elim (fun h => hF1 c h.1) fun h => (hHsub c h).elim (hGA c) fun h => hF1 c (hcov0 c h))
      (fun c hc hn hc' => hc'.elim (fun h => by
       rcases hc with (h' | h' | h') | h'
       ·exact htook.dj c h' h.1
       ·exact h.2 (h' ▸ hs1 b hbG1)
       ·exact h.2 (hs1 c ((hG c).2 (.inr (.inr h'))))
       ·exact h.2 h'.1) hn)
     have hobs := q673 htook.ob hF1 hg hnew (fun c hc hF => (hHsub c hc).elim (fun h => absurd hF (htook.dj c h)) id) (by rw [hhs]; exact Nat.le_refl _) (fun c hc hn => hother c fun e => hn (e ▸ hs1 b hbG1)) hout
      (fun c hc => .inl ((hHsub c hc).elim (hGA c) fun h => hF1 c (hcov0 c h)))
     have eqD : q21 (d ++ [(q.root, some o0')]) obs = put q.root o0' (q21 d obs) := by rw [q38]; rfl
     refine ⟨.undef, d ++ [(q.root, some o0')], [q.root], q128 q e j vs, fun tm' obs' ht htR hd R' K' => ?_, Src.none rfl, ?_, fun next Q hnext => ?_⟩
     ·unfold opK
      simp only [ho, hi, ht x hx, ht y hy, hb]
      rw [hst _ _ obs' fun q hq => hd q (.inr (by rw [q25]; exact y151.2 (.inl hq)))]
      simp only [hsize, cond]
      have hg' : get q.root (q21 d obs') = some o0 := by
       rw [q36 d obs obs' (hd q.root (.inl (by simp)))]; exact hg
      rw [hg']
      simp only
      rw [hupd, hst1]
      exact hst0 _ _
     ·refine ⟨fun c hc => ?_, fun p hp => ?_⟩
      ·rw [q25] at hc
       rcases y151.1 hc with hc | hc
       ·exact .inl (hex c hc)
       ·simp [q15] at hc
        subst hc
        refine .inl fun hn => ?_
        by_cases e : q.root ∈ q15 d
        ·exact hex _ e hn
        ·rw [q48 d obs e, hn] at hg; cases hg
      ·rw [q191 hp, q25]
       simp [q15]
     ·unfold Oper.wp
      have hex : (execOp a.eval o).run P w = .ok .skip w' := by
       have hcs : (a.eval y).cells.size = inf.size := by rw [<- y156, hul, hlen, hsz]
       simp [execOp, ho, Instr.storeAt, Instr.sureAddr, hux, storeVar, sizeOf, typeInfo, hinf, hcs, had, hrun]
      rw [hex, Oper.upon_skip]
      refine hnext undef w' β _ _ (by rw [eqD]; exact hobs) trivial (hw' ▸ q173 b _ _ w) ⟨by rw [hhs]; exact Nat.le_refl _, fun c hc => hc.elim, fun c hc _ => hother c fun e => hc (e ▸ htook.less b hbF), fun c hc => .inl ?_⟩ (fun c hE => hother c fun e => htook.ob.out _ _ hg b (hs1 b hbG1) (e ▸ hE)) fun r' hr' hiv => ?_
      ·rcases hc with ⟨hc, _⟩ | hc
       ·exact htook.less c hc
       ·exact (hHsub c hc).elim (htook.got c) fun h => htook.less c (hcov0 c h)
      ·rw [eqD]
       refine (htook.keep r').trans ?_
       by_cases er : r'.root = q.root
       ·intro o' loc hl
        have hl' : way w' o0' (β q.root) r'.path = some (o', loc) := by
         unfold q34 at hl
         rw [er, q47] at hl
         exact hl
        have hok : okq q.path (fun p => ∀ i1 j1 p' v, p = (i1, j1) :: p' -> q50 o1 e j vs.length i1 j1 -> vs[j1 - j]? = some v -> ¬ (q196 v = true \/ v = .nils)) r'.path := by
         have h1 : ∀ t : Nat, okq q.path (fun p => ∀ v, vs[t]? = some v -> q604 v = true -> ∀ i1 j1 p', p = (i1, j1) :: p' -> j1 ≠ j + t) r'.path := by
          intro t
          cases hvt : vs[t]? with
          | none => exact q260 (ok := fun _ => True) (fun _ _ v hv => by cases hv) (q330 _ _)
          | some v =>
           cases hov : q604 v with
           | false =>
            refine q260 (ok := fun _ => True) (fun _ _ v' hv' ho' => ?_) (q330 _ _)
            injection hv' with hv'; subst hv'; rw [hov] at ho'; cases ho'
           | true =>
            refine q260 (fun p hp v' hv' _ => hp) (q468 (e := e) (j' := j + t) ?_)
            exact q358 hiv _ _ (q319 hvt hov) er
         refine q260 (fun p hp i1 j1 p' v he hin hv hd => ?_) (q719 h1)
         have ejj : j <= j1 := by cases o1 <;> simp only [q50] at hin <;> omega
         refine hp (j1 - j) v hv ?_ i1 j1 p' he (by omega)
         rcases hd with hd | hd
         ·cases v <;> first | rfl | cases hd
         ·subst hd; rfl
        have hwkey : o1.writeK e j vs some = some o1' := hst1 _ some
        obtain ⟨oo, hoo, hlko⟩ := q539 (w' := w') (F := FA1) (Gx := fun c => c = b) (by rw [hhs]; exact Nat.le_refl _) hout hob1 (fun n hn => by rw [hn]; exact hbG1)
         (q666 (by rw [hhs]; exact Nat.le_refl _) hout hob1 hvs hwkey hrow hrow' hsp hul (fun c _ hc => hother c hc)) q.path hob0 hway (fun c _ hc => hother c hc) (hst0 _ some) o0' (.inl rfl) r'.path hok o' loc hl'
        refine ⟨oo, ?_, hlko, fun b2 off2 e2 rw2 hr2 => ?_⟩
        ·unfold q34; rw [er, hg]; exact hoo
        ·by_cases e3 : b2 = b
         ·subst e3
          have := hrow.eq hr2
          subst this
          exact ⟨row', hrow', hsp.size⟩
         ·exact ⟨rw2, hr2.keep (hother b2 e3), rfl⟩
       ·refine q46.of_stay (FA' := FA1) htook.ob rfl (q33 _ (Ne.symm er) _) fun o2 ho2 => ?_
        refine ⟨by rw [hhs]; exact Nat.le_refl _, fun c hc => hother c fun e => ?_, hout, fun c hc => .inl hc⟩
        exact htook.ob.dj _ _ o2 o0 ho2 hg er c hc (e ▸ hs1 b hbG1)
  ·cases h
end
end Go.Lf
namespace Go.Lf
structure q184 (share : Bool) (w : World) (E : Bs) (β : Nat -> Option (Nat × Nat)) (FA F : Bs) (obs : List (Nat × Ob)) (Gk : Nat -> Bs) (d : q32) (rd : List Nat) (FA1 F1 : Bs) : Prop where
 took : Took w E β FA F obs FA1 F1 (fun _ => False) (q21 d obs) Gk
 sub : ∀ q ∈ q15 d, q ∈ rd
 ex : ∀ q ∈ rd, get q obs ≠ none
 gone : ∀ q ∈ q15 d, get q (q21 d obs) = none
 free : ∀ q ∈ q15 d, ∀ b, Gk q b -> ¬ FA1 b
 all : share = true -> ∀ q ∈ rd, q ∈ q15 d
def Off (F' FA1 : Bs) (Gk : Nat -> Bs) (d : q32) (rd : List Nat) : Prop :=
 (∀ b, F' b -> FA1 b) /\ ∀ q ∈ rd, q ∉ q15 d -> ∀ b, Gk q b -> ¬ F' b
section
variable {share : Bool} {w : World} {E : Bs} {β : Nat -> Option (Nat × Nat)} {FA F FA1 F1 FA2 F2 F' : Bs} {obs : List (Nat × Ob)} {Gk : Nat -> Bs} {d d' : q32} {rd rd' : List Nat}
theorem q184.refl (h : ObsA w E FA F β obs Gk) : q184 share w E β FA F obs Gk [] [] FA F :=
 ⟨Took.refl h, fun q hq => (by cases hq), fun q hq => (by cases hq), fun q hq => (by cases hq), fun q hq => (by cases hq), fun _ q hq => (by cases hq)⟩
theorem q184.read (h : ObsA w E FA F β obs Gk) (hs : share = false) {k : Nat} (hk : get k obs ≠ none) : q184 share w E β FA F obs Gk [] [k] FA F :=
 ⟨Took.refl h, fun q hq => (by cases hq), fun q hq => by rw [y161.1 hq]; exact hk, fun q hq => (by cases hq), fun q hq => (by cases hq), fun e => by rw [hs] at e; cases e⟩
theorem q184.trans (h : q184 share w E β FA F obs Gk d rd FA1 F1) (k : q184 share w E β FA1 F1 (q21 d obs) Gk d' rd' FA2 F2) : q184 share w E β FA F obs Gk (d ++ d') (rd ++ rd') FA2 F2 := by
 refine ⟨?_, fun q hq => ?_, fun q hq => ?_, fun q hq => ?_, fun q hq => ?_, fun e q hq => ?_⟩
 ·rw [q38]
  exact (h.took.trans k.took).iff fun b => ⟨fun h => h.elim, fun h => h.elim id id⟩
 ·rw [q25] at hq
  exact y151.2 ((y151.1 hq).imp (h.sub q) (k.sub q))
 ·rcases y151.1 hq with hq | hq
  ·exact h.ex q hq
  ·have := k.ex q hq
   by_cases e : q ∈ q15 d
   ·exact absurd (h.gone q e) this
   ·rw [q48 d obs e] at this; exact this
 ·rw [q38]
  rw [q25] at hq
  by_cases e : q ∈ q15 d'
  ·exact k.gone q e
  ·rw [q48 d' _ e]
   exact h.gone q ((y151.1 hq).resolve_right e)
 ·rw [q25] at hq
  rcases y151.1 hq with hq | hq
  ·exact fun b hb h2 => h.free q hq b hb (k.took.sub b h2)
  ·exact k.free q hq
 ·rw [q25]
  exact y151.2 ((y151.1 hq).imp (h.all e q) (k.all e q))
theorem Off.left (k : q184 share w E β FA1 F1 (q21 d obs) Gk d' rd' FA2 F2) (h : Off F' FA2 Gk (d ++ d') (rd ++ rd')) : Off F' FA1 Gk d rd := by
 refine ⟨fun b hb => k.took.sub b (h.1 b hb), fun q hq hn b hb hf => ?_⟩
 by_cases e : q ∈ q15 d'
 ·exact k.free q e b hb (h.1 b hf)
 ·exact h.2 q (y151.2 (.inl hq)) (fun hq => by rw [q25] at hq; exact (y151.1 hq).elim hn e) b hb hf
theorem Off.right (h1 : q184 share w E β FA F obs Gk d rd FA1 F1) (k : q184 share w E β FA1 F1 (q21 d obs) Gk d' rd' FA2 F2) (h : Off F' FA2 Gk (d ++ d') (rd ++ rd')) : Off F' FA2 Gk d' rd' := by
 refine ⟨h.1, fun q hq hn b hb hf => ?_⟩
 have : q ∉ q15 d := fun e => k.ex q hq (h1.gone q e)
 exact h.2 q (y151.2 (.inr hq)) (fun hq => by rw [q25] at hq; exact (y151.1 hq).elim this hn) b hb hf
theorem q603 {R : Type} (h : ObsA w E FA F β obs Gk) (hF : ∀ b, F b -> FA b) {v : V} {u : Value} (hv : VRl w β obs FA v u) {K : V -> q32 -> List Nat -> Option R} {r : R} (hk : q159 obs share v K = some r) :
  ∃ v' d rd FA1 F1, K v' d rd = some r /\ (∀ (R' : Type) (K' : V -> q32 -> List Nat -> Option R') (obs' : List (Nat × Ob)), (∀ q ∈ rd, get q obs' = get q obs) -> q159 obs' share v K' = K' v' d rd) /\
   q184 share w E β FA F obs Gk d rd FA1 F1 /\ ∀ F', Off F' FA1 Gk d rd -> LfR w F' v' u (fun _ => False) := by
 have plain : ∀ (v' : V), K v' [] [] = some r -> (∀ (R' : Type) (K' : V -> q32 -> List Nat -> Option R') (obs' : List (Nat × Ob)), q159 obs' share v K' = K' v' [] []) -> (∀ F' : Bs, (∀ b, F' b -> FA b) -> LfR w F' v' u (fun _ => False)) ->
   ∃ v' d rd FA1 F1, K v' d rd = some r /\ (∀ (R' : Type) (K' : V -> q32 -> List Nat -> Option R') (obs' : List (Nat × Ob)), (∀ q ∈ rd, get q obs' = get q obs) -> q159 obs' share v K' = K' v' d rd) /\
   q184 share w E β FA F obs Gk d rd FA1 F1 /\ ∀ F', Off F' FA1 Gk d rd -> LfR w F' v' u (fun _ => False) :=
  fun v' h1 h2 h3 => ⟨v', [], [], FA, F, h1, fun R' K' obs' _ => h2 R' K' obs', q184.refl h, fun F' hf => h3 F' hf.1⟩
 unfold q159 at hk
 split at hk
 ·exact plain _ hk (fun _ _ _ => rfl) fun _ _ => ⟨hv, fun _ h => h⟩
 ·exact plain _ hk (fun _ _ _ => rfl) fun _ _ => ⟨hv, fun _ h => h⟩
 ·exact plain _ hk (fun _ _ _ => rfl) fun _ _ => ⟨hv, fun _ h => h⟩
 ·rename_i τ l
  obtain ⟨G, hl⟩ := hv
  refine plain _ hk (fun _ _ _ => rfl) fun F' hf => ?_
  have : LR w F' (.sl τ) l [u] G := LR.sub hl hf
  exact ⟨fun _ h => h, this.2⟩
 ·rename_i q off n wh
  unfold q309 at hk
  obtain ⟨o1, loc, G, hat, hob1, ⟨o0, hg, hs⟩, hK, hst⟩ := atRefA h hk
  cases o1 with
  | mp => cases hK
  | box => cases hK
  | arr τ l =>
   simp only at hK
   obtain ⟨hh, hn, hw⟩ := q428 (FA := FA) hv hat
   cases hp : τ.plain with
   | false => rw [hp] at hK; cases hK
   | true =>
    rw [hp] at hK
    simp only [cond] at hK
    rw [q239 hw] at hK
    have hne : get q.root obs ≠ none := by rw [hg]; exact fun e => by cases e
    split at hK
    ·refine ⟨_, [], [q.root], FA, F, hK, fun R' K' obs' hq => ?_, q184.read h rfl hne, fun F' hf => ?_⟩
     ·unfold q159 q309
      simp only
      rw [hst R' _ obs' (hq _ (by simp))]
      simp only [hp, cond, q239 hw]
     ·exact Go.Lf.share hob1 hh hp hn F' hf.1 fun b hb hb' => hf.2 q.root (by simp) (fun e => by cases e) b (hs b hb) hb'
    ·rename_i hpath
     have htook := (q131 h hF hg).drop (G' := fun _ => False) fun _ h => h.elim
     refine ⟨_, [(q.root, none)], [q.root], _, _, hK, fun R' K' obs' hq => ?_, ⟨htook, fun c hc => hc, fun c hc => by rw [y161.1 hc]; exact hne, fun c hc => ?_, fun c hc => ?_, fun _ c hc => hc⟩, fun F' hf => ?_⟩
     ·unfold q159 q309
      simp only
      rw [hst R' _ obs' (hq _ (by simp))]
      simp only [hp, cond, q239 hw, hpath]
     ·simp [q15] at hc
      subst hc
      exact q200 _ _
     ·simp [q15] at hc
      subst hc
      exact fun b hb h2 => h2.2 hb
     ·exact Go.Lf.share hob1 hh hp hn F' (fun b hb => (hf.1 b hb).1) fun b hb hb' => (hf.1 b hb').2 (hs b hb)
    ·cases hK
 ·cases hk
theorem q321 {R : Type} : ∀ (vs : List V) {FA F : Bs} {obs : List (Nat × Ob)} {us : List Value} {K : List V -> q32 -> List Nat -> Option R} {r : R}, ObsA w E FA F β obs Gk -> (∀ b, F b -> FA b) -> All2 (VRl w β obs FA) vs us -> q114 share vs obs K = some r ->
  ∃ vs' d rd FA1 F1, K vs' d rd = some r /\ (∀ (R' : Type) (K' : List V -> q32 -> List Nat -> Option R') (obs' : List (Nat × Ob)), (∀ q ∈ rd, get q obs' = get q obs) -> q114 share vs obs' K' = K' vs' d rd) /\
   q184 share w E β FA F obs Gk d rd FA1 F1 /\ ∀ F', Off F' FA1 Gk d rd -> LsR w F' vs' us (fun _ => False)
 | [], FA, F, obs, us, K, r, h, hF, hv, hk => by
  cases hv
  exact ⟨[], [], [], FA, F, hk, fun _ _ _ _ => rfl, q184.refl h, fun _ _ => .nil fun _ h => h⟩
 | v :: vs, FA, F, obs, us, K, r, h, hF, hv, hk => by
  cases hv with
  | cons hu hus =>
   rename_i u us
   unfold q114 at hk
   obtain ⟨v', d, rd, FA1, F1, hk1, hst, hok, hlf⟩ := q603 h hF hu hk
   have hF1 : ∀ b, F1 b -> FA1 b := fun b hb => y146 fun hn => (hok.took.lost b (hF b (hok.took.less b hb)) hn).2.1 hb
   have hus1 := hus.imp fun x y _ hxy => VRl.keep hxy (hok.took.stay _) fun r _ => hok.took.keep r
   obtain ⟨vs', d', rd', FA2, F2, hk2, hst2, hok2, hls⟩ := q321 vs hok.took.ob hF1 hus1 hk1
   refine ⟨v' :: vs', d ++ d', rd ++ rd', FA2, F2, hk2, fun R' K' obs' hq => ?_, hok.trans hok2, fun F' hf => ?_⟩
   ·unfold q114
    rw [hst _ _ obs' fun q hq' => hq q (y151.2 (.inl hq'))]
    exact hst2 _ _ _ fun q hq' => q36 d _ _ (hq q (y151.2 (.inr hq')))
   ·exact .cons (hlf F' (hf.left hok2)) (hls F' (hf.right hok hok2)) (fun _ h => h.elim) fun n => ⟨fun h => h.elim, fun h => h.elim id id⟩
end
def ValR (w : World) (F : Bs) (τ : Ty) (x : τ.den) (u : Value) (G : Bs) : Prop :=
 LR w F τ x u.cells.toList G /\ ((∃ us, u = .agg us) ↔ τ.isA = true)
def q386 (w : World) (F : Bs) : (ps : List PT) -> Args ps -> List Value -> Bs -> Prop
 | [], _, us, G => us = [] /\ Emp G
 | .imm τ :: ps, x, us, G => ∃ u us', us = u :: us' /\ τ.plain = true /\ ValR w F τ x.1 u (fun _ => False) /\ q386 w F ps x.2 us' G
 | .bor τ _ :: ps, x, us, G => ∃ u us' G1 G2, us = u :: us' /\ LR w F (.bx τ) x.1 [u] G1 /\ q386 w F ps x.2 us' G2 /\ Dj G1 G2 /\ ∀ n, G n ↔ G1 n \/ G2 n
 | .clo g n :: ps, x, us, G => ∃ cs us', us = .func (.func g) #[] cs :: us' /\ cs.size = n /\ q386 w F ps x (cs.toList ++ us') G
def q224 (w : World) (F : Bs) : (ps : List PT) -> Upds ps -> List Value -> Bs -> Prop
 | [], _, us, G => us = [] /\ Emp G
 | .imm _ :: ps, y, us, G => ∃ u us', us = u :: us' /\ q224 w F ps y us' G
 | .bor τ true :: ps, y, us, G => ∃ u us' G1 G2, us = u :: us' /\ LR w F (.bx τ) y.1 [u] G1 /\ q224 w F ps y.2 us' G2 /\ Dj G1 G2 /\ ∀ n, G n ↔ G1 n \/ G2 n
 | .bor _ false :: _, _, _, _ => False
 | .clo g n :: ps, y, us, G => ∃ cs us', us = .func (.func g) #[] cs :: us' /\ cs.size = n /\ q224 w F ps y (cs.toList ++ us') G
def ResR (w : World) (F : Bs) : (rs : List Ty) -> Tys rs -> List Value -> Bs -> Prop
 | [], _, us, G => us = [] /\ Emp G
 | τ :: rs, y, us, G => ∃ u us' G1 G2, us = u :: us' /\ ValR w F τ y.1 u G1 /\ ResR w F rs y.2 us' G2 /\ Dj G1 G2 /\ ∀ n, G n ↔ G1 n \/ G2 n
def pack (us : List Value) : Value := if h : us.toArray.size = 1 then us.toArray[0] else .tuple us.toArray
structure q16 (P : Program) (S : FSem) : Prop where
 entry : ∃ fn, P.funcs[S.id]? = some fn /\ (fn.name == "runtime.NumGoroutine") = false /\ fn.body.isNone = false
 calls : ∀ (k : Nat) (x : Args S.ps) (y : Tys S.rs × Upds S.ps), S.f k x = some y -> ∀ (w : World) (E F G : Bs) (us : List Value), q386 w F S.ps x us G -> (∀ b, F b ↔ E b \/ G b) -> Dj G E -> (∀ b, E b -> b < w.heap.size) ->
  Calls P S.id us.toArray w fun e w' => ∃ rs F' G1 G2, e = .returned (pack rs) /\ ResR w' F' S.rs y.1 rs G1 /\ q224 w' F' S.ps y.2 us G2 /\ Dj G1 G2 /\ Dj G1 E /\ Dj G2 E /\ (∀ b, F' b ↔ E b \/ G1 b \/ G2 b) /\
   q121 w w' /\ Stay w F w' F' (fun _ => False) /\ ∀ b, E b -> w'.heap[b]? = w.heap[b]?
section
variable {share : Bool} {w : World} {E : Bs} {β : Nat -> Option (Nat × Nat)} {FA F FA1 F1 FA2 F2 F' : Bs} {obs : List (Nat × Ob)} {Gk : Nat -> Bs} {d d' : q32} {rd rd' : List Nat}
theorem q628 {R : Type} {v : V} {u : Value} {K : List V -> q32 -> List Nat -> Option R} {r : R} (hv : VR w β obs F v u) (h : q114 share v.fields obs K = some r) : All2 (VRl w β obs F) v.fields u.cells.toList := by
 cases v with
 | agg fs =>
  obtain ⟨us, hu, hall⟩ := hv
  subst hu
  exact hall
 | undef => cases h
 | tup => cases h
 | fn => cases h
 | ow => cases h
 | mp => cases h
 | nilz => cases h
 | hz => cases h
 | bx => cases h
 | _ => exact q178 hv rfl
theorem agg_iff {v : V} {u : Value} (hv : VR w β obs F v u) (hu : v ≠ .undef) : (∃ us, u = .agg us) ↔ v.isAgg = true := by
 cases v with
 | agg fs => obtain ⟨us, hu, _⟩ := hv; exact ⟨fun _ => rfl, fun _ => ⟨us, hu⟩⟩
 | undef => exact absurd rfl hu
 | int => have e := q44 hv; subst e; exact ⟨fun ⟨_, h⟩ => (by cases h), fun h => (by cases h)⟩
 | bool => have e := q55 hv; subst e; exact ⟨fun ⟨_, h⟩ => (by cases h), fun h => (by cases h)⟩
 | nilp => have e : u = .pointer none := hv; subst e; exact ⟨fun ⟨_, h⟩ => (by cases h), fun h => (by cases h)⟩
 | nilm => have e : u = .map none := hv; subst e; exact ⟨fun ⟨_, h⟩ => (by cases h), fun h => (by cases h)⟩
 | hm r => obtain ⟨b, e, h⟩ := hv; subst e; exact ⟨fun ⟨_, h⟩ => (by cases h), fun h => (by cases h)⟩
 | mp => exact hv.elim
 | nils => obtain ⟨ad, e⟩ := hv; subst e; exact ⟨fun ⟨_, h⟩ => (by cases h), fun h => (by cases h)⟩
 | nilz => have e : u = .slice none 0 0 := hv; subst e; exact ⟨fun ⟨_, h⟩ => (by cases h), fun h => (by cases h)⟩
 | hz k n => obtain ⟨ad, cap, e, _⟩ := hv; subst e; exact ⟨fun ⟨_, h⟩ => (by cases h), fun h => (by cases h)⟩
 | sl τ l => obtain ⟨G, hE, ad, cap, e, hd⟩ := hv; injection e with e; subst e; exact ⟨fun ⟨_, h⟩ => (by cases h), fun h => (by cases h)⟩
 | ip τ x j => obtain ⟨b, off, row, G, e, h⟩ := hv; subst e; exact ⟨fun ⟨_, h⟩ => (by cases h), fun h => (by cases h)⟩
 | hs r off n wh => obtain ⟨ad, cap, e, h⟩ := hv; subst e; exact ⟨fun ⟨_, h⟩ => (by cases h), fun h => (by cases h)⟩
 | hp r i j => obtain ⟨ad, e, h⟩ := hv; subst e; exact ⟨fun ⟨_, h⟩ => (by cases h), fun h => (by cases h)⟩
 | tup => obtain ⟨us, e, _⟩ := hv; subst e; exact ⟨fun ⟨_, h⟩ => (by cases h), fun h => (by cases h)⟩
 | fn => obtain ⟨us, e, _⟩ := hv; subst e; exact ⟨fun ⟨_, h⟩ => (by cases h), fun h => (by cases h)⟩
 | ow => exact hv.elim
 | bx => exact hv.elim
theorem q285 {τ : Ty} {v : V} {u : Value} (hl : q251 τ v = true) (hv : VR w β obs F v u) (hu : v ≠ .undef) : (∃ us, u = .agg us) ↔ τ.isA = true := by
 rw [agg_iff hv hu]
 unfold q251 at hl
 cases e : τ.isA with
 | true => rw [e] at hl; simp only at hl; simp [hl]
 | false => rw [e] at hl; simp only at hl; cases h : v.isAgg with
  | true => rw [h] at hl; cases hl
  | false => exact Iff.rfl
def q731 (β : Nat -> Option (Nat × Nat)) : List PT -> List Value -> List Nat -> Prop
 | [], us, bs => us = [] /\ bs = []
 | .imm _ :: ps, us, bs => ∃ u us', us = u :: us' /\ q731 β ps us' bs
 | .bor _ _ :: ps, us, bs => ∃ b us' k bs', us = .pointer (some ⟨b, 0, none⟩) :: us' /\ bs = k :: bs' /\ β k = some (b, 0) /\ q731 β ps us' bs'
 | .clo g _ :: ps, us, bs => ∃ cs us', us = .func (.func g) #[] cs :: us' /\ q731 β ps (cs.toList ++ us') bs
theorem q699 {R : Type} {τ : Ty} {rw' : Bool} {ps : List PT} {v : V} {vs : List V} {K : Args (.bor τ rw' :: ps) -> List Nat -> q32 -> List Nat -> Option R} {r : R} (h : q195 share (.bor τ rw' :: ps) (v :: vs) obs K = some r) :
  ∃ k2 t fs x, v = .hp ⟨k2, []⟩ 0 0 /\ get k2 obs = some (.box t fs) /\ τ.ofAll fs = some x /\ q195 share ps vs obs (fun xs bs d' sn' => K (x, xs) (k2 :: bs) d' sn') = some r := by
 cases v with
 | hp q i j =>
  obtain ⟨k2, path⟩ := q
  cases path with
  | cons => cases i <;> cases j <;> cases h
  | nil =>
   cases i with
   | succ => cases j <;> cases h
   | zero =>
    cases j with
    | succ => cases h
    | zero =>
     have h' : (match get k2 obs with
      | some (.box _ fs) => match τ.ofAll fs with
       | some x => q195 share ps vs obs fun xs bs d' sn' => K (x, xs) (k2 :: bs) d' sn'
       | none => none
      | _ => none) = some r := h
     split at h'
     ·rename_i t fs hg
      split at h'
      ·rename_i x hx
       exact ⟨k2, t, fs, x, rfl, hg, hx, h'⟩
      ·cases h'
     ·cases h'
 | _ => cases h
theorem VRl.vr {v : V} {u : Value} (h : VRl w β obs F v u) : VR w β obs F v u := by
 cases v <;> first | exact h | exact h.elim
theorem q652 {R : Type} {g : FuncId} {n : Nat} {ps : List PT} {v : V} {vs : List V} {K : Args (.clo g n :: ps) -> List Nat -> q32 -> List Nat -> Option R} {r : R} (h : q195 share (.clo g n :: ps) (v :: vs) obs K = some r) :
  ∃ cs, v = .fn g cs /\ cs.length = n /\ q195 share ps (cs ++ vs) obs K = some r /\ (∀ (R' : Type) (K' : Args (.clo g n :: ps) -> List Nat -> q32 -> List Nat -> Option R') (obs' : List (Nat × Ob)), q195 share (.clo g n :: ps) (v :: vs) obs' K' = q195 share ps (cs ++ vs) obs' K') := by
 cases v with
 | fn g' cs =>
  have h' : (bif Nat.beq g' g && Nat.beq cs.length n then q195 share ps (cs ++ vs) obs K else none) = some r := h
  cases e : Nat.beq g' g && Nat.beq cs.length n with
  | false => rw [e] at h'; cases h'
  | true =>
   rw [e] at h'
   have e' := e
   rw [y144] at e'
   have e1 : g' = g := y143 e'.1
   have e2 : cs.length = n := y143 e'.2
   subst e1
   refine ⟨cs, rfl, e2, h', fun R' K' obs' => ?_⟩
   show (bif Nat.beq g' g' && Nat.beq cs.length n then q195 share ps (cs ++ vs) obs' K' else none) = _
   rw [e]
   rfl
 | _ => cases h
theorem q439 {R : Type} : ∀ (ps : List PT) {vs : List V} {FA F : Bs} {obs : List (Nat × Ob)} {us : List Value} {K : Args ps -> List Nat -> q32 -> List Nat -> Option R} {r : R}, ObsA w E FA F β obs Gk -> (∀ b, F b -> FA b) -> All2 (VR w β obs FA) vs us -> q195 share ps vs obs K = some r ->
  ∃ xs bs d sn FA1 F1 G, K xs bs d sn = some r /\ (∀ (R' : Type) (K' : Args ps -> List Nat -> q32 -> List Nat -> Option R') (obs' : List (Nat × Ob)), (∀ q ∈ sn, get q obs' = get q obs) -> (∀ q ∈ bs, get q obs' = get q obs) -> (∀ q ∈ sn, q ∉ bs) -> q195 share ps vs obs' K' = K' xs bs d sn) /\
   q184 share w E β FA F obs Gk d sn FA1 F1 /\ q731 β ps us bs /\ (∀ b, G b -> ∃ q ∈ bs, Gk q b) /\ (∀ q ∈ bs, ∃ t fs, get q obs = some (.box t fs)) /\
   ∀ F', Off F' FA1 Gk d sn -> bs.Nodup -> (∀ q ∈ sn, q ∉ bs) -> (∀ q ∈ bs, ∀ b, Gk q b -> F' b -> G b) -> q386 w F' ps xs us G
 | [], vs, FA, F, obs, us, K, r, h, hF, hv, hk => by
  cases hv with
  | cons => cases hk
  | nil => exact ⟨(), [], [], [], FA, F, fun _ => False, hk, fun _ _ _ _ _ _ => rfl, q184.refl h, ⟨rfl, rfl⟩, fun _ h => h.elim, fun q hq => (by cases hq), fun F' _ _ _ _ => ⟨rfl, fun _ h => h⟩⟩
 | .imm τ :: ps, vs, FA, F, obs, us, K, r, h, hF, hv, hk => by
  cases hv with
  | nil => cases hk
  | cons hu hus =>
   rename_i v u vs us
   unfold q195 at hk
   cases hpl : τ.plain && q251 τ v with
   | false => rw [hpl] at hk; cases hk
   | true =>
    rw [hpl] at hk
    simp only [cond] at hk
    have hpl' := hpl
    rw [y144] at hpl'
    have hall := q628 hu hk
    have hnu : v ≠ .undef := by intro e; subst e; cases hk
    obtain ⟨fs, d, sn, FA1, F1, hk1, hst, hok, hls⟩ := q321 _ h hF hall hk
    split at hk1
    ·rename_i x hx
     have hF1 : ∀ b, F1 b -> FA1 b := fun b hb => y146 fun hn => (hok.took.lost b (hF b (hok.took.less b hb)) hn).2.1 hb
     have hus1 := hus.imp fun x y _ hxy => VR.keep hxy (hok.took.stay _) fun r _ => hok.took.keep r
     obtain ⟨xs, bs, d', sn', FA2, F2, G, hk2, hst2, hok2, hlink, hG, hbox, hargs⟩ := q439 ps hok.took.ob hF1 hus1 hk1
     have hex : ∀ q ∈ bs, q ∉ q15 d := fun q hq e => by
      obtain ⟨t, fs, hb⟩ := hbox q hq
      rw [hok.gone q e] at hb; cases hb
     refine ⟨(x, xs), bs, d ++ d', sn ++ sn', FA2, F2, G, hk2, fun R' K' obs' hq hb hd => ?_, hok.trans hok2, ⟨u, us, rfl, hlink⟩, hG, fun q hq => ?_, fun F' hf hnd hd hbs => ?_⟩
     ·unfold q195
      rw [hpl]
      simp only [cond]
      rw [hst _ _ obs' fun q hq' => hq q (y151.2 (.inl hq'))]
      simp only [hx]
      exact hst2 _ _ _ (fun q hq' => q36 d _ _ (hq q (y151.2 (.inr hq')))) (fun q hq' => q36 d _ _ (hb q hq')) fun q hq' => hd q (y151.2 (.inr hq'))
     ·obtain ⟨t, fs, hb⟩ := hbox q hq
      rw [q48 d obs (hex q hq)] at hb
      exact ⟨t, fs, hb⟩
     ·refine ⟨u, us, rfl, hpl'.1, ⟨?_, q285 hpl'.2 hu hnu⟩, hargs F' (hf.right hok hok2) hnd (fun q hq => hd q (y151.2 (.inr hq))) hbs⟩
      obtain ⟨G1, hs1, H⟩ := q49 hx (hls F' (hf.left hok2))
      exact LR.iff τ x _ G1 _ (H F' (fun _ h => h) fun _ h => h.elim) fun n => ⟨fun h => h.elim, hs1 n⟩
    ·cases hk1
 | .bor τ rw' :: ps, vs, FA, F, obs, us, K, r, h, hF, hv, hk => by
  cases hv with
  | nil => cases hk
  | cons hu hus =>
   rename_i v u vs us
   obtain ⟨k2, t, fs, x, e2, hg, hx, hkk⟩ := q699 hk
   subst e2
   obtain ⟨ad, hu', hall⟩ := hu
   have hat : q34 w β obs ⟨k2, []⟩ = some (.box t fs, β k2) := by simp [q34, hg, way]
   obtain ⟨b', off', hloc', had⟩ := hall _ _ hat
   obtain ⟨b, row, G', hloc, hrow, hls, hnb, hG'⟩ := h.rel k2 _ hg
   rw [hloc] at hloc'; injection hloc' with e; injection e with e6 e7; subst e6; subst e7
   obtain ⟨xs, bs, d', sn', FA2, F2, G, hk2, hst2, hok2, hlink, hG, hbox, hargs⟩ := q439 ps h hF hus hkk
   obtain ⟨G1, hs1, H⟩ := q49 hx hls
   have had' : ad = ⟨b, 0, none⟩ := by rw [had]; rfl
   subst had'
   refine ⟨(x, xs), k2 :: bs, d', sn', FA2, F2, fun n => (n = b \/ G1 n) \/ G n, hk2, fun R' K' obs' hq hb hd => ?_, hok2, ⟨b, us, k2, bs, by rw [hu'], rfl, hloc, hlink⟩, fun n hn => ?_, fun q hq => ?_, fun F' hf hnd hd hbs => ?_⟩
   ·have e : q195 share (.bor τ rw' :: ps) (.hp ⟨k2, []⟩ 0 0 :: vs) obs' K' = (match get k2 obs' with
      | some (.box _ fs) => match τ.ofAll fs with
       | some x => q195 share ps vs obs' fun xs bs d' sn' => K' (x, xs) (k2 :: bs) d' sn'
       | none => none
      | _ => none) := rfl
    rw [e, hb k2 (by simp), hg]
    simp only [hx]
    exact hst2 _ _ _ hq (fun q hq' => hb q (y155 _ hq')) fun q hq' hqb => hd q hq' (y155 _ hqb)
   ·rcases hn with hn | hn
    ·exact ⟨k2, by simp, (hG' n).2 (hn.imp id (hs1 n))⟩
    ·obtain ⟨q, hq, hqn⟩ := hG n hn
     exact ⟨q, y155 _ hq, hqn⟩
   ·rcases y166.1 hq with e | hq
    ·subst e; exact ⟨t, fs, hg⟩
    ·exact hbox q hq
   ·have hnd' := List.nodup_cons.1 hnd
    have hkd : ∀ q ∈ bs, Dj (Gk k2) (Gk q) := fun q hq => by
     obtain ⟨t', fs', hq'⟩ := hbox q hq
     exact h.dj k2 q _ _ hg hq' fun e => hnd'.1 (e ▸ hq)
    have hdd : Dj (fun n => n = b \/ G1 n) G := fun n hn hn' => by
     obtain ⟨q, hq, hqn⟩ := hG n hn'
     exact hkd q hq n ((hG' n).2 (hn.imp id (hs1 n))) hqn
    have hsub : ∀ n, Gk k2 n -> F' n -> n = b \/ G1 n := fun n hn hf' => by
     rcases hbs k2 (by simp) n hn hf' with h | h
     ·exact h
     ·obtain ⟨q, hq, hqn⟩ := hG n h
      exact absurd hqn (hkd q hq n hn)
    refine ⟨u, us, fun n => n = b \/ G1 n, G, rfl, ⟨b, row, G1, by rw [hu'], hrow, H F' (fun n hn => hok2.took.sub n (hf.1 n hn)) (fun n hn h1 hf' => ?_), fun hb => hnb (hs1 b hb), fun n => Iff.rfl⟩, hargs F' hf hnd'.2 (fun q hq hqb => hd q hq (y155 _ hqb)) (fun q hq n hn hf' => ?_), hdd, fun n => Iff.rfl⟩
    ·rcases hsub n ((hG' n).2 (.inr hn)) hf' with e | h
     ·exact hnb (e ▸ hn)
     ·exact h1 h
    ·rcases hbs q (y155 _ hq) n hn hf' with h | h
     ·exact absurd hn fun h' => hkd q hq n ((hG' n).2 (h.imp id (hs1 n))) h'
     ·exact h
 | .clo g n :: ps, vs, FA, F, obs, us, K, r, h, hF, hv, hk => by
  cases hv with
  | nil => cases hk
  | cons hu hus =>
   rename_i v u vs us
   obtain ⟨cs, e1, e2, hk', hcong⟩ := q652 hk
   subst e1
   obtain ⟨us0, hu0, hall⟩ := hu
   subst hu0
   obtain ⟨xs, bs, d, sn, FA1, F1, G, hk2, hst, hok, hlink, hG, hbox, hargs⟩ := q439 ps h hF (All2.append (hall.imp fun _ _ _ h => h.vr) hus) hk'
   refine ⟨xs, bs, d, sn, FA1, F1, G, hk2, fun R' K' obs' h1 h2 h3 => ?_, hok, ⟨us0, us, rfl, hlink⟩, hG, hbox, fun F' h1 h2 h3 h4 => ⟨us0, us, rfl, ?_, hargs F' h1 h2 h3 h4⟩⟩
   ·rw [hcong]; exact hst R' K' obs' h1 h2 h3
   ·have := hall.length
    rw [y156] at this
    omega
end
end Go.Lf
namespace Go.Lf
structure Ent where
 k : Nat
 ob : Ob
 loc : Option (Nat × Nat)
 G : Bs
def dOf (es : List Ent) : q32 := es.map fun e => (e.k, some e.ob)
def locE (β : Nat -> Option (Nat × Nat)) : List Ent -> Nat -> Option (Nat × Nat)
 | [], q => β q
 | e :: es, q => if e.k = q then e.loc else locE β es q
def gE (Gk : Nat -> Bs) : List Ent -> Nat -> Bs
 | [], q => Gk q
 | e :: es, q => if e.k = q then e.G else gE Gk es q
def q65 (es : List Ent) : List Nat := es.map Ent.k
theorem q314 (es es' : List Ent) : q65 (es ++ es') = q65 es ++ q65 es' := List.map_append
theorem q298 (es es' : List Ent) : dOf (es ++ es') = dOf es ++ dOf es' := List.map_append
theorem q137 : ∀ es : List Ent, q15 (dOf es) = q65 es
 | [] => rfl
 | e :: es => by show e.k :: q15 (dOf es) = _; rw [q137 es]; rfl
theorem q374 {es : List Ent} {e : Ent} (h : e ∈ es) : e.k ∈ q65 es := List.mem_map.2 ⟨e, h, rfl⟩
section
variable {β : Nat -> Option (Nat × Nat)} {Gk : Nat -> Bs} {obs : List (Nat × Ob)}
theorem q432 {q : Nat} : ∀ {es : List Ent}, q ∉ q65 es -> locE β es q = β q
 | [], _ => rfl
 | e :: es, h => by
  have h1 : e.k ≠ q := fun x => h (by simp [q65, x])
  have h2 : q ∉ q65 es := fun x => h (y155 _ x)
  show (if e.k = q then e.loc else locE β es q) = _
  rw [if_neg h1, q432 h2]
theorem q265 {q : Nat} : ∀ {es : List Ent}, q ∉ q65 es -> gE Gk es q = Gk q
 | [], _ => rfl
 | e :: es, h => by
  have h1 : e.k ≠ q := fun x => h (by simp [q65, x])
  have h2 : q ∉ q65 es := fun x => h (y155 _ x)
  show (if e.k = q then e.G else gE Gk es q) = _
  rw [if_neg h1, q265 h2]
theorem q215 {e : Ent} : ∀ {es : List Ent}, (q65 es).Nodup -> e ∈ es -> locE β es e.k = e.loc
 | [], _, h => by cases h
 | f :: es, hn, h => by
  have hn' := List.nodup_cons.1 hn
  show (if f.k = e.k then f.loc else locE β es e.k) = _
  rcases y166.1 h with rfl | h
  ·rw [if_pos rfl]
  ·rw [if_neg (fun x : f.k = e.k => hn'.1 (show f.k ∈ q65 es from x ▸ q374 h)), q215 hn'.2 h]
theorem q282 {e : Ent} : ∀ {es : List Ent}, (q65 es).Nodup -> e ∈ es -> gE Gk es e.k = e.G
 | [], _, h => by cases h
 | f :: es, hn, h => by
  have hn' := List.nodup_cons.1 hn
  show (if f.k = e.k then f.G else gE Gk es e.k) = _
  rcases y166.1 h with rfl | h
  ·rw [if_pos rfl]
  ·rw [if_neg (fun x : f.k = e.k => hn'.1 (show f.k ∈ q65 es from x ▸ q374 h)), q282 hn'.2 h]
theorem q375 {e : Ent} : ∀ {es : List Ent} {obs : List (Nat × Ob)}, (q65 es).Nodup -> e ∈ es -> get e.k (q21 (dOf es) obs) = some e.ob
 | [], _, _, h => by cases h
 | f :: es, obs, hn, h => by
  have hn' := List.nodup_cons.1 hn
  show get e.k (q21 (dOf es) (put f.k f.ob obs)) = _
  rcases y166.1 h with rfl | h
  ·rw [q48 _ _ (by rw [q137]; exact hn'.1), q47]
  ·exact q375 hn'.2 h
theorem q61 {q : Nat} {es : List Ent} (h : q ∈ q65 es) : ∃ e ∈ es, e.k = q := by
 obtain ⟨e, h1, h2⟩ := List.mem_map.1 h
 exact ⟨e, h1, h2⟩
variable {w w' : World} {E FA F1 F' : Bs} {obs' : List (Nat × Ob)}
theorem q665 (h : ObsA w E FA F1 β obs Gk) {es : List Ent} (hn : (q65 es).Nodup) (hrel : ∀ e ∈ es, ObR w' F' e.ob e.loc e.G) (hdj : es.Pairwise fun e f => Dj e.G f.G)
  (hget : ∀ q, q ∉ q65 es -> get q obs' = get q obs) (hnew : ∀ e ∈ es, get e.k obs' = some e.ob)
  (hF : ∀ b, F' b ↔ E b \/ (∃ q o, q ∉ q65 es /\ get q obs = some o /\ Gk q b) \/ ∃ e ∈ es, e.G b)
  (hE : ∀ e ∈ es, Dj e.G E) (hK : ∀ e ∈ es, ∀ q o, q ∉ q65 es -> get q obs = some o -> Dj e.G (Gk q))
  (hsize : w.heap.size <= w'.heap.size) (hst : ∀ q o, q ∉ q65 es -> get q obs = some o -> ∀ b, Gk q b -> w'.heap[b]? = w.heap[b]?)
  (hout : ∀ b, ¬ FA b -> b < w.heap.size -> w'.heap[b]? = w.heap[b]?) (hless : ∀ b, F' b -> FA b \/ w.heap.size <= b) : ObsR w' E F' (locE β es) obs' (gE Gk es) := by
 have pair : ∀ e ∈ es, ∀ f ∈ es, e.k ≠ f.k -> Dj e.G f.G := by
  intro e he f hf hne
  have : ∀ (l : List Ent), l.Pairwise (fun e f => Dj e.G f.G) -> e ∈ l -> f ∈ l -> Dj e.G f.G := by
   intro l
   induction l with
   | nil => intro _ h; cases h
   | cons a l ih =>
    intro hp h1 h2
    have hp' := List.pairwise_cons.1 hp
    rcases y166.1 h1 with r1 | h1
    ·rcases y166.1 h2 with r2 | h2
     ·exact absurd (by rw [r1, r2]) hne
     ·rw [r1]; exact hp'.1 f h2
    ·rcases y166.1 h2 with r2 | h2
     ·rw [r2]; exact fun b hb hb' => hp'.1 e h1 b hb' hb
     ·exact ih hp'.2 h1 h2
  exact this es hdj he hf
 have cases' : ∀ q o, get q obs' = some o -> (∃ e ∈ es, e.k = q /\ e.ob = o) \/ (q ∉ q65 es /\ get q obs = some o) := by
  intro q o hq
  by_cases e : q ∈ q65 es
  ·obtain ⟨x, hx, rfl⟩ := q61 e
   rw [hnew x hx] at hq
   injection hq with hq
   exact .inl ⟨x, hx, rfl, hq⟩
  ·exact .inr ⟨e, by rw [hget q e] at hq; exact hq⟩
 refine ⟨fun q o hq => ?_, fun q q' o o' hq hq' hne => ?_, fun b => ?_, fun q o hq => ?_, fun b hb => Nat.lt_of_lt_of_le (h.elt b hb) hsize⟩
 ·rcases cases' q o hq with ⟨e, he, rfl, rfl⟩ | ⟨hk, hq⟩
  ·rw [q215 hn he, q282 hn he]; exact hrel e he
  ·rw [q432 hk, q265 hk]
   exact (h.rel q o hq).keep ⟨hsize, hst q o hk hq, hout, hless⟩
 ·rcases cases' q o hq with ⟨e, he, rfl, rfl⟩ | ⟨hk, hq⟩ <;> rcases cases' q' o' hq' with ⟨e', he', rfl, rfl⟩ | ⟨hk', hq'⟩
  ·rw [q282 hn he, q282 hn he']; exact pair e he e' he' hne
  ·rw [q282 hn he, q265 hk']; exact hK e he q' o' hk' hq'
  ·rw [q265 hk, q282 hn he']; exact fun b hb hb' => hK e' he' q o hk hq b hb' hb
  ·rw [q265 hk, q265 hk']; exact h.dj q q' o o' hq hq' hne
 ·rw [hF b]
  constructor
  ·rintro (hb | ⟨q, o, hk, hq, hb⟩ | ⟨e, he, hb⟩)
   ·exact .inl hb
   ·exact .inr ⟨q, o, by rw [hget q hk]; exact hq, by rw [q265 hk]; exact hb⟩
   ·exact .inr ⟨e.k, e.ob, hnew e he, by rw [q282 hn he]; exact hb⟩
  ·rintro (hb | ⟨q, o, hq, hb⟩)
   ·exact .inl hb
   ·rcases cases' q o hq with ⟨e, he, rfl, rfl⟩ | ⟨hk, hq⟩
    ·rw [q282 hn he] at hb; exact .inr (.inr ⟨e, he, hb⟩)
    ·rw [q265 hk] at hb; exact .inr (.inl ⟨q, o, hk, hq, hb⟩)
 ·rcases cases' q o hq with ⟨e, he, rfl, rfl⟩ | ⟨hk, hq⟩
  ·rw [q282 hn he]; exact hE e he
  ·rw [q265 hk]; exact h.out q o hq
end
structure q40 (w : World) (F : Bs) (k : Nat) (G : Bs) (es : List Ent) : Prop where
 range : ∀ e ∈ es, k <= e.k /\ e.k < k + es.length
 keys : (q65 es).Nodup
 dj : es.Pairwise fun e f => Dj e.G f.G
 rel : ∀ e ∈ es, ObR w F e.ob e.loc e.G
 cov : ∀ b, G b ↔ ∃ e ∈ es, e.G b
def At (β : Nat -> Option (Nat × Nat)) (obs : List (Nat × Ob)) (es : List Ent) : Prop := ∀ e ∈ es, β e.k = e.loc /\ get e.k obs = some e.ob
section
variable {w : World} {F : Bs}
theorem q40.nil {k : Nat} {G : Bs} (h : Emp G) : q40 w F k G [] :=
 ⟨fun e he => (by cases he), List.nodup_nil, .nil, fun e he => (by cases he), fun b => ⟨fun hb => absurd hb (h b), fun ⟨e, he, _⟩ => (by cases he)⟩⟩
theorem q40.one {k : Nat} {G : Bs} {ob : Ob} {loc : Option (Nat × Nat)} (h : ObR w F ob loc G) : q40 w F k G [⟨k, ob, loc, G⟩] :=
 ⟨fun e he => by rw [y161.1 he]; exact ⟨Nat.le_refl _, Nat.lt_succ_self _⟩, List.nodup_cons.2 ⟨fun h => (by cases h), List.nodup_nil⟩, List.pairwise_cons.2 ⟨fun e he => (by cases he), .nil⟩,
  fun e he => by rw [y161.1 he]; exact h, fun b => ⟨fun hb => ⟨_, y161.2 rfl, hb⟩, fun ⟨e, he, hb⟩ => by rw [y161.1 he] at hb; exact hb⟩⟩
theorem q40.append {k : Nat} {G G1 G2 : Bs} {es es' : List Ent} (h : q40 w F k G1 es) (h' : q40 w F (k + es.length) G2 es') (hd : Dj G1 G2) (hG : ∀ b, G b ↔ G1 b \/ G2 b) : q40 w F k G (es ++ es') := by
 refine ⟨fun e he => ?_, ?_, ?_, fun e he => (y151.1 he).elim (h.rel e) (h'.rel e), fun b => ?_⟩
 ·rw [y148]
  rcases y151.1 he with he | he
  ·have := h.range e he; omega
  ·have := h'.range e he; omega
 ·rw [q314]
  refine List.nodup_append.2 ⟨h.keys, h'.keys, fun a ha b hb e => ?_⟩
  obtain ⟨x, hx, rfl⟩ := q61 ha
  obtain ⟨y, hy, rfl⟩ := q61 hb
  have h1 := h.range x hx
  have h2 := h'.range y hy
  omega
 ·exact List.pairwise_append.2 ⟨h.dj, h'.dj, fun e he f hf b hb hb' => hd b ((h.cov b).2 ⟨e, he, hb⟩) ((h'.cov b).2 ⟨f, hf, hb'⟩)⟩
 ·rw [hG b, h.cov b, h'.cov b]
  constructor
  ·rintro (⟨e, he, hb⟩ | ⟨e, he, hb⟩)
   ·exact ⟨e, y151.2 (.inl he), hb⟩
   ·exact ⟨e, y151.2 (.inr he), hb⟩
  ·rintro ⟨e, he, hb⟩
   exact (y151.1 he).imp (fun he => ⟨e, he, hb⟩) fun he => ⟨e, he, hb⟩
def q296 (k n : Nat) (rs : List Ref) : Prop := ∀ r ∈ rs, k <= r.root /\ r.root < k + n /\ r.path = []
theorem q317 {v : V} {u : Value} {G : Bs} (k : Nat) (h : LfR w F v u G) :
  ∃ v' es, q257 k v = (v', dOf es, k + es.length) /\ q40 w F k G es /\ q296 k es.length (q37 v') /\ ∀ β obs, At β obs es -> VRl w β obs F v' u := by
 cases v with
 | ow τ l =>
  obtain ⟨u', hu, hh, ha⟩ := h
  injection hu with hu; subst hu
  refine ⟨_, [⟨k, .arr τ l, q198 u, G⟩], rfl, q40.one ha, fun r hr => by simp [q37] at hr; subst hr; exact ⟨Nat.le_refl _, Nat.lt_succ_self _, rfl⟩, fun β obs hat => ?_⟩
  obtain ⟨hb, hg⟩ := hat _ (y161.2 rfl)
  obtain ⟨ad, cap, hu, _⟩ := id hh
  refine ⟨ad, cap, hu, fun o loc hl => ?_⟩
  unfold q34 at hl
  simp only [hg, hb, way] at hl
  injection hl with hl; injection hl with e1 e2; subst e1; subst e2
  exact ⟨τ, l, rfl, hh, by omega, fun _ => ⟨rfl, rfl⟩⟩
 | bx τ x =>
  obtain ⟨b, row, G', hu, hr, hl, hb, hG⟩ := h
  injection hu with hu; subst hu
  refine ⟨_, [⟨k, .box (some τ) (τ.leaves x), some (b, 0), G⟩], rfl, q40.one ⟨b, row, G', rfl, hr, LR.leaves τ x _ _ hl, hb, hG⟩, fun r hr => by simp [q37] at hr; subst hr; exact ⟨Nat.le_refl _, Nat.lt_succ_self _, rfl⟩, fun β obs hat => ?_⟩
  obtain ⟨hb, hg⟩ := hat _ (y161.2 rfl)
  exact q478 (F' := F) hg hb
 | mp τ l =>
  obtain ⟨b, hu, hm, hG⟩ := h
  injection hu with hu; subst hu
  refine ⟨_, [⟨k, .mp τ l, some (b, 0), G⟩], rfl, q40.one ⟨b, rfl, hm, hG⟩, fun r hr => by simp [q37] at hr; subst hr; exact ⟨Nat.le_refl _, Nat.lt_succ_self _, rfl⟩, fun β obs hat => ?_⟩
  obtain ⟨hb, hg⟩ := hat _ (y161.2 rfl)
  refine ⟨b, rfl, fun o loc hl => ?_⟩
  unfold q34 at hl
  simp only [hg, hb, way] at hl
  injection hl with hl; injection hl with e1 e2; exact e2.symm
 | nilm => exact ⟨_, [], rfl, q40.nil h.2, fun r hr => (by cases hr), fun β obs _ => h.1⟩
 | undef => exact ⟨_, [], rfl, q40.nil h, fun r hr => (by cases hr), fun β obs _ => trivial⟩
 | int => exact ⟨_, [], rfl, q40.nil h.2, fun r hr => (by cases hr), fun β obs _ => h.1⟩
 | bool => exact ⟨_, [], rfl, q40.nil h.2, fun r hr => (by cases hr), fun β obs _ => h.1⟩
 | nilp => exact ⟨_, [], rfl, q40.nil h.2, fun r hr => (by cases hr), fun β obs _ => h.1⟩
 | nils => exact ⟨_, [], rfl, q40.nil h.2, fun r hr => (by cases hr), fun β obs _ => h.1⟩
 | sl τ l => exact ⟨_, [], rfl, q40.nil h.1, fun r hr => (by cases hr), fun β obs _ => ⟨G, h⟩⟩
 | _ => exact h.elim
theorem q226 : ∀ {vs : List V} {us : List Value} {G : Bs} (k : Nat), LsR w F vs us G ->
  ∃ vs' es, q190 k vs = (vs', dOf es, k + es.length) /\ q40 w F k G es /\ q296 k es.length (vs'.flatMap q37) /\ ∀ β obs, At β obs es -> All2 (VRl w β obs F) vs' us
 | [], _, _, k, h => by
  cases h with
  | nil h => exact ⟨[], [], rfl, q40.nil h, fun r hr => (by cases hr), fun β obs _ => .nil⟩
 | v :: vs, _, _, k, h => by
  cases h with
  | cons h1 h2 hd hG =>
   obtain ⟨v', es, e1, ok1, nr1, vr1⟩ := q317 k h1
   obtain ⟨vs', es', e2, ok2, nr2, vr2⟩ := q226 (k + es.length) h2
   refine ⟨v' :: vs', es ++ es', ?_, ok1.append ok2 hd hG, fun r hr => ?_, fun β obs hat => .cons (vr1 β obs fun e he => hat e (y151.2 (.inl he))) (vr2 β obs fun e he => hat e (y151.2 (.inr he)))⟩
   ·unfold q190
    simp only [e1, e2, q298, y148, Nat.add_assoc]
   ·rw [List.flatMap_cons] at hr
    rw [y148]
    rcases y151.1 hr with hr | hr
    ·have := nr1 r hr; exact ⟨this.1, by omega, this.2.2⟩
    ·have := nr2 r hr; exact ⟨by omega, by omega, this.2.2⟩
theorem q732 {τ : Ty} {x : τ.den} {u : Value} {G : Bs} (k : Nat) (h : ValR w F τ x u G) :
  ∃ v' es, q397 k (τ.toV x) = (v', dOf es, k + es.length) /\ q40 w F k G es /\ q296 k es.length (q31 v') /\ ∀ β obs, At β obs es -> VRa w β obs F v' u := by
 obtain ⟨hl, ha⟩ := h
 have hls := LR.leaves τ x _ _ hl
 have leaf : ∀ v, τ.leaves x = [v] -> τ.isA = false -> ∀ (_ : q397 k v = q257 k v) (_ : ∀ f fs, v ≠ .fn f fs) (_ : ∀ fs, v ≠ .agg fs),
   ∃ v' es, q397 k v = (v', dOf es, k + es.length) /\ q40 w F k G es /\ q296 k es.length (q31 v') /\ ∀ β obs, At β obs es -> VRa w β obs F v' u := by
  intro v hv hf he hnf hna
  rw [hv] at hls
  have hu : u.cells.toList = [u] := by
   cases u with
   | agg us => rw [hf] at ha; exact absurd (ha.1 ⟨us, rfl⟩) nofun
   | _ => rfl
  rw [hu] at hls
  obtain ⟨u', hu', hlf⟩ := LsR.one_inv hls
  injection hu' with hu'; subst hu'
  obtain ⟨v', es, e1, ok1, nr1, vr1⟩ := q317 k hlf
  have hva : ∀ (hx : ∀ f fs, v' ≠ .fn f fs) (hy : ∀ fs, v' ≠ .agg fs), q31 v' = q37 v' /\ ∀ β obs, VRl w β obs F v' u -> VRa w β obs F v' u := by
   intro hx hy
   cases v' <;> first | exact ⟨rfl, fun _ _ h => h⟩ | exact absurd rfl (hx _ _) | exact absurd rfl (hy _)
  have hv' : (∀ f fs, v' ≠ .fn f fs) /\ ∀ fs, v' ≠ .agg fs := by
   have := congrArg Prod.fst e1
   refine ⟨fun f fs e => ?_, fun fs e => ?_⟩ <;> subst e <;> cases v <;> first | exact absurd rfl (hnf _ _) | exact absurd rfl (hna _) | (cases this; done)
  obtain ⟨hr, hvr⟩ := hva hv'.1 hv'.2
  exact ⟨v', es, he.trans e1, ok1, by rw [hr]; exact nr1, fun β obs hat => hvr β obs (vr1 β obs hat)⟩
 have aggr : τ.toV x = .agg (τ.leaves x) -> τ.isA = true ->
   ∃ v' es, q397 k (τ.toV x) = (v', dOf es, k + es.length) /\ q40 w F k G es /\ q296 k es.length (q31 v') /\ ∀ β obs, At β obs es -> VRa w β obs F v' u := by
  intro hv hf
  obtain ⟨us, rfl⟩ := ha.2 hf
  obtain ⟨vs', es, e1, ok1, nr1, vr1⟩ := q226 k hls
  refine ⟨.agg vs', es, ?_, ok1, nr1, fun β obs hat => ⟨us, rfl, vr1 β obs hat⟩⟩
  rw [hv]
  simp only [q397, e1]
 cases τ with
 | int kk => exact leaf _ rfl rfl rfl nofun nofun
 | bool => exact leaf _ rfl rfl rfl nofun nofun
 | sl a => exact leaf _ rfl rfl rfl nofun nofun
 | ow a => exact leaf _ rfl rfl rfl nofun nofun
 | bx a => exact leaf _ rfl rfl rfl nofun nofun
 | mp a => exact leaf _ rfl rfl rfl nofun nofun
 | unit => exact aggr rfl rfl
 | pair a b => exact aggr rfl rfl
theorem q245 : ∀ (ts : List Ty) {y : Tys ts} {us : List Value} {G : Bs} (k : Nat), ResR w F ts y us G ->
  ∃ vs' es, q270 ts y k = (vs', dOf es, k + es.length) /\ q40 w F k G es /\ q296 k es.length (vs'.flatMap q31) /\ ∀ β obs, At β obs es -> All2 (VRa w β obs F) vs' us
 | [], _, _, _, k, ⟨hu, hE⟩ => by
  subst hu
  exact ⟨[], [], rfl, q40.nil hE, fun r hr => (by cases hr), fun β obs _ => .nil⟩
 | t :: ts, y, _, _, k, ⟨u, us, G1, G2, hu, h1, h2, hd, hG⟩ => by
  subst hu
  obtain ⟨v', es, e1, ok1, nr1, vr1⟩ := q732 k h1
  obtain ⟨vs', es', e2, ok2, nr2, vr2⟩ := q245 ts (k + es.length) h2
  refine ⟨v' :: vs', es ++ es', ?_, ok1.append ok2 hd hG, fun r hr => ?_, fun β obs hat => .cons (vr1 β obs fun e he => hat e (y151.2 (.inl he))) (vr2 β obs fun e he => hat e (y151.2 (.inr he)))⟩
  ·unfold q270
   simp only [e1, e2, q298, y148, Nat.add_assoc]
  ·rw [List.flatMap_cons] at hr
   rw [y148]
   rcases y151.1 hr with hr | hr
   ·have := nr1 r hr; exact ⟨this.1, by omega, this.2.2⟩
   ·have := nr2 r hr; exact ⟨by omega, by omega, this.2.2⟩
theorem VRa.vr {β : Nat -> Option (Nat × Nat)} {obs : List (Nat × Ob)} {v : V} {u : Value} (h : VRa w β obs F v u) : VR w β obs F v u /\ q24 v = q31 v := by
 cases v <;> first | exact ⟨h, rfl⟩ | exact h.elim
theorem one_ok {β : Nat -> Option (Nat × Nat)} {obs : List (Nat × Ob)} {vs : List V} {us : List Value} (h : All2 (VRa w β obs F) vs us) : VR w β obs F (one vs) (pack us) /\ ∀ r ∈ q24 (one vs), r ∈ vs.flatMap q31 := by
 cases h with
 | nil => exact ⟨⟨#[], rfl, .nil⟩, fun r hr => hr⟩
 | cons h1 h2 =>
  rename_i v u vs us
  cases h2 with
  | nil =>
   obtain ⟨h3, h4⟩ := h1.vr
   refine ⟨h3, fun r hr => ?_⟩
   have hr' : r ∈ q24 v := hr
   rw [h4] at hr'
   exact List.mem_flatMap.2 ⟨v, by simp, hr'⟩
  | cons h3 h4 =>
   rename_i v2 u2 vs2 us2
   refine ⟨⟨(u :: u2 :: us2).toArray, ?_, .cons h1 (.cons h3 h4)⟩, fun r hr => hr⟩
   unfold pack
   rw [dif_neg (by simp)]
theorem LR.nosl {F' : Bs} : ∀ (τ : Ty) (x : τ.den) (cs : List Value) (G : Bs), τ.hasSl = false -> LR w F τ x cs G -> LR w F' τ x cs G
 | .int _, _, _, _, _, h => h
 | .bool, _, _, _, _, h => h
 | .unit, _, _, _, _, h => h
 | .pair a b, x, _, _, hs, ⟨c1, c2, G1, G2, hc, h1, h2, hd, hG⟩ => by
  have hs' : (a.hasSl || b.hasSl) = false := hs
  rw [Bool.or_eq_false_iff] at hs'
  exact ⟨c1, c2, G1, G2, hc, LR.nosl a _ _ _ hs'.1 h1, LR.nosl b _ _ _ hs'.2 h2, hd, hG⟩
 | .sl a, _, _, _, hs, _ => by cases hs
 | .ow a, l, _, G, hs, ⟨u, hc, hh, ha⟩ => ⟨u, hc, hh, q246.keep ha (fun _ _ => rfl) fun x cs G' hl _ => LR.nosl a x cs G' hs hl⟩
 | .bx a, x, _, _, hs, ⟨b, row, G', hc, hr, hl, hb, hG⟩ => ⟨b, row, G', hc, hr, LR.nosl a _ _ _ hs hl, hb, hG⟩
 | .mp a, x, _, _, hs, ⟨b, hc, hm, hG⟩ => ⟨b, hc, hm.keep rfl fun y u h => LR.nosl a y [u] _ hs h, hG⟩
theorem ResR.cast {F' : Bs} : ∀ (rs : List Ty) {y : Tys rs} {us : List Value} {G : Bs}, ((∀ b, F' b -> F b) \/ hasSl rs = false) -> ResR w F rs y us G -> ResR w F' rs y us G
 | [], _, _, _, _, h => h
 | t :: ts, y, _, _, hc, ⟨u, us, G1, G2, hu, ⟨h1, ha⟩, h2, hd, hG⟩ => by
  have hc' : ((∀ b, F' b -> F b) \/ t.hasSl = false) /\ ((∀ b, F' b -> F b) \/ hasSl ts = false) := by
   rcases hc with hc | hc
   ·exact ⟨.inl hc, .inl hc⟩
   ·have : (t.hasSl || hasSl ts) = false := hc
    rw [Bool.or_eq_false_iff] at this
    exact ⟨.inr this.1, .inr this.2⟩
  exact ⟨u, us, G1, G2, hu, ⟨hc'.1.elim (fun h => h1.sub h) (fun h => LR.nosl t _ _ _ h h1), ha⟩, ResR.cast ts hc'.2 h2, hd, hG⟩
theorem q224.cast {F' : Bs} : ∀ (ps : List PT) {y : Upds ps} {us : List Value} {G : Bs}, ((∀ b, F' b -> F b) \/ q431 ps = false) -> q224 w F ps y us G -> q224 w F' ps y us G
 | [], _, _, _, _, h => h
 | .imm _ :: ps, y, _, _, hc, ⟨u, us, hu, h⟩ => ⟨u, us, hu, q224.cast ps hc h⟩
 | .clo _ _ :: ps, y, _, _, hc, ⟨cs, us, hu, hn, h⟩ => ⟨cs, us, hu, hn, q224.cast ps hc h⟩
 | .bor τ true :: ps, y, _, _, hc, ⟨u, us, G1, G2, hu, h1, h2, hd, hG⟩ => by
  have hc' : ((∀ b, F' b -> F b) \/ τ.hasSl = false) /\ ((∀ b, F' b -> F b) \/ q431 ps = false) := by
   rcases hc with hc | hc
   ·exact ⟨.inl hc, .inl hc⟩
   ·have : (τ.hasSl || q431 ps) = false := hc
    rw [Bool.or_eq_false_iff] at this
    exact ⟨.inr this.1, .inr this.2⟩
  exact ⟨u, us, G1, G2, hu, hc'.1.elim (fun h => h1.sub h) (fun h => LR.nosl (.bx τ) _ _ _ h h1), q224.cast ps hc'.2 h2, hd, hG⟩
 | .bor _ false :: _, _, _, _, _, h => h.elim
theorem q342 {w0 : World} {F0 : Bs} {β : Nat -> Option (Nat × Nat)} : ∀ (ps : List PT) {x : Args ps} {y : Upds ps} {us : List Value} {bs : List Nat} {G0 G : Bs}, q386 w0 F0 ps x us G0 -> q224 w F ps y us G -> q731 β ps us bs ->
  ∃ es, q483 ps y bs = (dOf es, bs.map fun k => (⟨k, []⟩, false)) /\ q65 es = bs /\ (es.Pairwise fun e f => Dj e.G f.G) /\ (∀ e ∈ es, ObR w F e.ob e.loc e.G) /\ (∀ b, G b ↔ ∃ e ∈ es, e.G b) /\
   ∀ e ∈ es, β e.k = e.loc /\ (∃ t fs, e.ob = .box t fs) /\ ∃ b row row', e.loc = some (b, 0) /\ Row w0 b row /\ Row w b row' /\ row'.size = row.size
 | [], _, _, _, _, _, _, _, ⟨_, hE⟩, ⟨_, hb⟩ => by
  subst hb
  exact ⟨[], rfl, rfl, .nil, fun e he => (by cases he), fun b => ⟨fun h => absurd h (hE b), fun ⟨e, he, _⟩ => (by cases he)⟩, fun e he => (by cases he)⟩
 | .imm _ :: ps, x, y, _, bs, _, _, ⟨u, us, hu, _, _, ha⟩, ⟨u', us', hu', hb⟩, ⟨u2, us2, hu2, hl⟩ => by
  subst hu
  injection hu' with _ e1; subst e1
  injection hu2 with _ e2; subst e2
  obtain ⟨es, h1, h⟩ := q342 ps ha hb hl
  exact ⟨es, h1, h⟩
 | .clo g n :: ps, x, y, _, bs, _, _, ⟨cs, us, hu, _, ha⟩, ⟨cs', us', hu', _, hb⟩, ⟨cs2, us2, hu2, hl⟩ => by
  subst hu
  injection hu' with e0 e1
  injection e0 with _ _ e0; subst e0; subst e1
  injection hu2 with e0 e2
  injection e0 with _ _ e0; subst e0; subst e2
  obtain ⟨es, h1, h⟩ := q342 ps ha hb hl
  exact ⟨es, h1, h⟩
 | .bor τ true :: ps, x, y, _, bs, _, _, ⟨u, us, G1, G2, hu, h1, ha, hd, hG⟩, ⟨u', us', H1, H2, hu', h1', hb, hd', hG'⟩, ⟨b, us2, k, bs', hu2, hbs, hk, hl⟩ => by
  subst hu
  injection hu' with e0 e1; subst e1; subst e0
  injection hu2 with e3 e2; subst e2; subst e3
  subst hbs
  obtain ⟨es, h2, h3, h4, h5, h6, h7⟩ := q342 ps ha hb hl
  obtain ⟨b1, row, Ga, hc, hr, hlr, hnb, hGa⟩ := h1
  injection hc with hc; injection hc with hc; injection hc with hc; injection hc with hc; subst hc
  obtain ⟨b2, row', Gb, hc, hr', hlr', hnb', hGb⟩ := h1'
  injection hc with hc; injection hc with hc; injection hc with hc; injection hc with hc; subst hc
  refine ⟨⟨k, .box (some τ) (τ.leaves y.1), some (b, 0), H1⟩ :: es, ?_, ?_, ?_, fun e he => ?_, fun n => ?_, fun e he => ?_⟩
  ·unfold q483
   simp only [h2]
   rfl
  ·show k :: q65 es = _
   rw [h3]
  ·exact List.pairwise_cons.2 ⟨fun e he n hn hn' => hd' n hn ((h6 n).2 ⟨e, he, hn'⟩), h4⟩
  ·rcases y166.1 he with rfl | he
   ·exact ⟨b, row', Gb, rfl, hr', LR.leaves τ _ _ _ hlr', hnb', hGb⟩
   ·exact h5 e he
  ·rw [hG' n, h6 n]
   constructor
   ·rintro (h | ⟨e, he, h⟩)
    ·exact ⟨_, y169, h⟩
    ·exact ⟨e, y155 _ he, h⟩
   ·rintro ⟨e, he, h⟩
    rcases y166.1 he with rfl | he
    ·exact .inl h
    ·exact .inr ⟨e, he, h⟩
  ·rcases y166.1 he with rfl | he
   ·refine ⟨hk, ⟨_, _, rfl⟩, b, row, row', rfl, hr, hr', ?_⟩
    have l1 := LR.length τ _ _ _ hlr
    have l2 := LR.length τ _ _ _ hlr'
    rw [y156] at l1 l2
    omega
   ·exact h7 e he
 | .bor _ false :: _, _, _, _, _, _, _, _, h, _ => h.elim
end
end Go.Lf
