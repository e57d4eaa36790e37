import Derived.Test.YtgfhdajbgkpgkaaLfStructEq
import Derived.Great.FillDense
set_option linter.unusedVariables false
/-! Lf: operations that leave memory alone. -/
namespace Go.Lf
section
variable {P : Program} {C : Ctx} {k : Nat} {tm : List (Nat × V)} {obs : List (Nat × Ob)} {fresh : Nat} {o : Oper} {a : Act} {w : World} {E : Bs} {β : Nat → Option (Nat × Nat)} {F : Bs} {Gk : Nat → Bs}

theorem kind_of (hT : TisOk P C) {t : TypeId} {i : TI} (h : get t C.ti = some i) : KindOk P t i.k := (hT t i h).kind

theorem kindOf_ok (hT : TisOk P C) (t : TypeId) : KindOk P t (kindOf C t) := by
  unfold kindOf
  cases h : get t C.ti with
  | none => trivial
  | some i => exact (hT t i h).kind

theorem eqK_nat {R : Type} (op : BinOp) (t : TypeId) (x y : V) (K : V → Option R) : eqK C op t x y K = (eqK C op t x y some).bind K := by
  unfold eqK
  split <;> rfl

theorem equal_bool {t : TypeId} (x y : Bool) (hk : P.underlying t = some .bool) : (Op.equal t (.bool x) (.bool y)).run P w = .ok (x == y) w := by
  have : ∀ d, (Op.equalIn (d + 1) t (.bool x) (.bool y)).run P w = .ok (x == y) w := fun d => by simp only [Op.equalIn, Sem.run_bind, run_underlying hk, Result.andThen_ok, Sem.run_pure]
  exact this 9999

theorem equal_nil {t e : TypeId} (z : Option Addr) (hk : P.underlying t = some (.pointer e)) : (Op.equal t (.pointer none) (.pointer z)).run P w = .ok z.isNone w := by
  have : ∀ d, (Op.equalIn (d + 1) t (.pointer none) (.pointer z)).run P w = .ok z.isNone w := fun d => by simp only [Op.equalIn, Sem.run_bind, run_underlying hk, Result.andThen_ok, Sem.run_pure]
  exact this 9999

theorem equal_ptr {t e : TypeId} (z : Addr) (hk : P.underlying t = some (.pointer e)) : (Op.equal t (.pointer (some z)) (.pointer none)).run P w = .ok false w := by
  have : ∀ d, (Op.equalIn (d + 1) t (.pointer (some z)) (.pointer none)).run P w = .ok false w := fun d => by simp only [Op.equalIn, Sem.run_bind, run_underlying hk, Result.andThen_ok, Sem.run_pure]
  exact this 9999

theorem eqK_sound (hT : TisOk P C) {op : BinOp} {t : TypeId} {x y v : V} {ux uy : Value} (h : eqK C op t x y some = some v) (hx : VR w β obs F x ux) (hy : VR w β obs F y uy) :
    ∃ u, (binOp op t ux uy).run P w = .ok u w ∧ VR w β obs F v u ∧ refsOf v = [] ∧ ∀ X Y, (eqGuard op t X Y ux uy).run P w = .ok () w := by
  have hk := kindOf_ok hT t
  unfold eqK at h
  split at h
  · rename_i x y hkd
    rw [hkd] at hk
    have e1 := bool_of_VR hx; have e2 := bool_of_VR hy; subst e1; subst e2
    injection h with h; subst h
    exact ⟨_, by simp [binOp, equal_bool x y hk], rfl, rfl, fun X Y => by simp [eqGuard]⟩
  · rename_i x y hkd
    rw [hkd] at hk
    have e1 := bool_of_VR hx; have e2 := bool_of_VR hy; subst e1; subst e2
    injection h with h; subst h
    exact ⟨_, by simp [binOp, equal_bool x y hk], rfl, rfl, fun X Y => by simp [eqGuard]⟩
  all_goals first
    | (cases h; done)
    | (rename_i hkd
       rw [hkd] at hk
       obtain ⟨e, hk'⟩ : ∃ e, P.underlying t = some (.pointer e) := ⟨_, hk⟩
       injection h with h; subst h
       first
         | (have e1 : ux = .pointer none := hx
            have e2 : uy = .pointer none := hy
            subst e1; subst e2
            exact ⟨_, by simp [binOp, equal_nil _ hk'], rfl, rfl, fun X Y => by simp [eqGuard]⟩)
         | (obtain ⟨z, e1, _⟩ : ∃ ad, ux = .pointer (some ad) ∧ _ := hx
            have e2 : uy = .pointer none := hy
            subst e1; subst e2
            exact ⟨_, by simp [binOp, equal_ptr _ hk'], rfl, rfl, fun X Y => by simp [eqGuard]⟩)
         | (obtain ⟨z, e2, _⟩ : ∃ ad, uy = .pointer (some ad) ∧ _ := hy
            have e1 : ux = .pointer none := hx
            subst e1; subst e2
            exact ⟨_, by simp [binOp, equal_nil _ hk'], rfl, rfl, fun X Y => by simp [eqGuard]⟩))

theorem some_of_bind {α β : Type} {x : Option α} {f : α → Option β} {r : β} (h : x.bind f = some r) : ∃ y, x = some y ∧ f y = some r := by
  cases x with
  | none => cases h
  | some y => exact ⟨y, rfl, h⟩

theorem op_binOp {R : Type} {K : OpK R} {r : R} (hT : TisOk P C) (hf : FR C w E β tm obs a F Gk) {op : BinOp} {t t' : TypeId} {x y : Operand} (ho : o.op = .binOp op t x y t') (h : opK C k tm obs fresh o K = some r) : OpOk P C k tm obs fresh o a w E β F := by
  have hx : x ∈ o.op.operands := by rw [ho]; simp [Op.operands]
  have hy : y ∈ o.op.operands := by rw [ho]; simp [Op.operands]
  have rx := opnd_rel hf x
  have ry := opnd_rel hf y
  unfold opK at h
  simp only [ho] at h
  split at h
  · rename_i kk n hb
    rw [binK_nat] at h
    obtain ⟨v, hv, _⟩ := some_of_bind h
    have rx' := rx; rw [hb] at rx'
    obtain ⟨u, hu, hvr, hrf⟩ := binK_sound (P := P) (t := t) hv (rx') ry
    refine opOk_pure (rd := []) hf.ob (fun tm' obs' ht _ R' K' => ?_) (Src.none hrf) (u := u) ?_ hvr
    · unfold opK; simp only [ho, ht x hx, hb, ht y hy]
      rw [binK_nat, hv]; rfl
    · have e := int_of_VR rx'
      rw [e] at hu
      simp [execOp, ho, e, eqGuard_int, hu]
  · rename_i as hba
    rw [hba] at rx
    split at h
    · rename_i bs i hbb hi
      rw [hbb] at ry
      cases hk1 : kinds1 i.eq as with
      | false => rw [hk1] at h; cases h
      | true =>
        rw [hk1] at h
        have heq : i.eq ≠ [] := fun e => by rw [e] at hk1; cases hk1
        have hk : kinds i.eq as = true := by
          unfold kinds1 at hk1
          split at hk1
          · cases hk1
          · rename_i e; rw [e]; exact hk1
        obtain ⟨us, hus, ha⟩ := rx
        obtain ⟨vs, hvs, hb⟩ := ry
        have hcore : ∀ c, eqFs as bs = some c → i.eq ≠ [] → (Op.equal t (.agg us) (.agg vs)).run P w = .ok c w ∧ ∀ X Y, (eqGuard op t X Y (.agg us) (.agg vs)).run P w = .ok () w := by
          intro c hc hne
          obtain ⟨g1, g2, g3, g4⟩ := (hT t i hi).eq hne
          obtain ⟨z, inf, hinf, hsz, _⟩ := (hT t i hi).info
          refine ⟨equal_agg g2 hinf hk (g3.trans hsz.symm) ha hb hc g4, fun X Y => ?_⟩
          cases op <;> simp [eqGuard, g1]
        split at h
        · rename_i c hc
          obtain ⟨h1, h2⟩ := hcore c hc heq
          refine opOk_pure (rd := []) hf.ob (fun tm' obs' ht _ R' K' => ?_) (Src.none rfl) (v := .bool c) (u := .bool c) ?_ rfl
          · unfold opK; simp only [ho, ht x hx, hba, ht y hy, hbb, hi, hk1, cond, hc]
          · simp [execOp, ho, hus, hvs, h2, binOp, h1]
        · rename_i c hc
          obtain ⟨h1, h2⟩ := hcore c hc heq
          refine opOk_pure (rd := []) hf.ob (fun tm' obs' ht _ R' K' => ?_) (Src.none rfl) (v := .bool !c) (u := .bool !c) ?_ rfl
          · unfold opK; simp only [ho, ht x hx, hba, ht y hy, hbb, hi, hk1, cond, hc]
          · simp [execOp, ho, hus, hvs, h2, binOp, h1]
        · cases h
    · cases h
  · rename_i hne hne2
    rw [eqK_nat] at h
    obtain ⟨v, hv, _⟩ := some_of_bind h
    obtain ⟨u, hu, hvr, hrf, hg⟩ := eqK_sound hT hv rx ry
    refine opOk_pure (rd := []) hf.ob (fun tm' obs' ht _ R' K' => ?_) (Src.none hrf) (u := u) ?_ hvr
    · unfold opK; simp only [ho, ht x hx, ht y hy]
      rw [eqK_nat, hv]; rfl
    · simp [execOp, ho, hg, hu]

theorem op_unOp {R : Type} {K : OpK R} {r : R} (hf : FR C w E β tm obs a F Gk) {op : UnOp} {t : TypeId} {x : Operand} (ho : o.op = .unOp op t x) (h : opK C k tm obs fresh o K = some r) : OpOk P C k tm obs fresh o a w E β F := by
  have hx : x ∈ o.op.operands := by rw [ho]; simp [Op.operands]
  have rx := opnd_rel hf x
  unfold opK at h
  simp only [ho] at h
  rw [unK_nat] at h
  obtain ⟨v, hv, _⟩ := some_of_bind h
  have hst : Stab C k tm obs fresh o v [] [] [] := fun tm' obs' ht _ R' K' => by
    unfold opK; simp only [ho, ht x hx]; rw [unK_nat, hv]; rfl
  unfold unK at hv
  split at hv
  · rename_i kk n hb
    rw [hb] at rx
    have e := int_of_VR rx
    injection hv with hv; subst hv
    exact opOk_pure hf.ob hst (Src.none rfl) (u := .int kk (kk.wrap (0 - n))) (by simp [execOp, ho, e, Op.unary, Op.intArith]) rfl
  · rename_i b hb
    rw [hb] at rx
    have e := bool_of_VR rx
    injection hv with hv; subst hv
    exact opOk_pure hf.ob hst (Src.none rfl) (u := .bool !b) (by simp [execOp, ho, e, Op.unary]) rfl
  · cases hv

theorem op_convert {R : Type} {K : OpK R} {r : R} (hT : TisOk P C) (hf : FR C w E β tm obs a F Gk) {s t : TypeId} {x : Operand} (ho : o.op = .convert s t x) (h : opK C k tm obs fresh o K = some r) : OpOk P C k tm obs fresh o a w E β F := by
  have hx : x ∈ o.op.operands := by rw [ho]; simp [Op.operands]
  have rx := opnd_rel hf x
  unfold opK at h
  simp only [ho] at h
  split at h
  · rename_i k1 k2 k3 n h1 h2 hb
    have hst : Stab C k tm obs fresh o (.int k2 (k2.wrap n)) [] [] [] := fun tm' obs' ht _ R' K' => by
      unfold opK; simp only [ho, ht x hx, h1, h2, hb]
    rw [hb] at rx
    have e := int_of_VR rx
    have hs := kindOf_ok hT s; rw [h1] at hs
    have ht := kindOf_ok hT t; rw [h2] at ht
    exact opOk_pure hf.ob hst (Src.none rfl) (u := .int k2 (k2.wrap n)) (by simp [execOp, ho, e, convert, run_underlying (P := P) hs, run_underlying (P := P) ht, Conv.intToInt]) rfl
  · cases h

end
end Go.Lf
