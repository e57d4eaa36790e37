import Derived.Test.YtgfhdajbgkpgkaaLfAppend2
set_option linter.unusedVariables false
/-! Lf: append, the operation. -/
namespace Go.Lf
section
variable {P : Program} {C : Ctx} {k : Nat} {tm : List (Nat × V)} {obs : List (Nat × Ob)} {fresh : Nat} {o : Oper} {a : Act} {w : World} {E : Bs} {β : Nat → Option (Nat × Nat)} {F : Bs} {Gk : Nat → Bs}

theorem two_of_map {l : List Operand} {f : Operand → V} {x y : V} (h : l.map f = [x, y]) : ∃ p q, l = [p, q] ∧ f p = x ∧ f q = y := by
  cases l with
  | nil => cases h
  | cons p l =>
    cases l with
    | nil => cases h
    | cons q l =>
      cases l with
      | nil => injection h with h1 h; injection h with h2 _; exact ⟨p, q, rfl, h1, h2⟩
      | cons _ _ => injection h with h1 h; injection h with h2 h; cases h

theorem op_append {R : Type} {K : OpK R} {r : R} (hT : TisOk P C) (hf : FR C w E β tm obs a F Gk) (hfr : Free obs fresh) {c : Call} (ho : o.op = .call c) (hc : c.callee = .builtin .append) (h : opK C k tm obs fresh o K = some r) : OpOk P C k tm obs fresh o a w E β F := by
  unfold opK at h
  simp only [ho, hc] at h
  split at h
  · rename_i s x t tx hargs htys
    obtain ⟨p, q, hpq, hp, hq⟩ := two_of_map hargs
    have hop : ∀ y ∈ c.args.toList, y ∈ o.op.operands := by
      intro y hy
      rw [ho]; simp [Op.operands, Call.operands]
      exact .inr (Array.mem_toList_iff.1 hy)
    have hpo := hop p (by rw [hpq]; simp)
    have hqo := hop q (by rw [hpq]; simp)
    have rp := opnd_rel hf p
    have rq := opnd_rel hf q
    rw [hp] at rp; rw [hq] at rq
    split at h
    · rename_i e' hkx
      have hkx' := kindOf_ok hT tx
      rw [hkx] at hkx'
      have hkx2 : P.underlying tx = some (.slice e') := hkx'
      unfold appendK at h
      split at h
      · cases h
      · rename_i e bytes τ zero he
        obtain ⟨inf, z, hu, hi, hsz, hby, hb0, hz, hza, hzl⟩ := elemOf_spec hT he
        have hzs : z.cells.size = τ.size := by have := hza.length; rw [Array.length_toList] at this; omega
        have hlt := obs_lt hf.ob.a
        have hcargs : c.args = #[p, q] := by rw [← Array.toList_inj]; exact hpq
        have hctys : c.argTypes = #[t, tx] := by rw [← Array.toList_inj]; exact htys
        have exec : ∀ (ad : Option Addr) (n cap : Nat) (ad' : Option Addr) (n' cap' : Nat) (w' : World), a.eval p = .slice ad n cap → (Builtin.append_ #[t, tx] o.type #[.slice ad n cap, a.eval q]).run P w = .ok (.slice ad' n' cap') w' →
            (execOp a.eval o).run P w = .ok (.value (.slice ad' n' cap')) w' := by
          intro ad n cap ad' n' cap' w' hep hrun
          simp [execOp, ho, resolve, hc, invoke, builtin, hcargs, hctys, hep, hrun]
        have stab : ∀ (tm' : List (Nat × V)), (∀ y, y ∈ o.op.operands → opnd tm' y = opnd tm y) → c.args.toList.map (opnd tm') = [s, x] := by
          intro tm' ht
          rw [hpq]
          simp [ht p hpo, ht q hqo, hp, hq]
        split at h
        · -- onto nothing
          obtain ⟨l, d, rd, FA1, F1, G, Gk1, cs, hk, hst, htook, hcs, hel, hex, _⟩ := moreK_sound hf.ob.a (fun _ h => h) rq h
          split at hk
          · rename_i hfit
            obtain ⟨ad, hup⟩ := rp
            have hsrc := src_of hkx2 hcs hel
            obtain ⟨ad', cap', w', hrun, hap⟩ := append_run (P := P) (ty := o.type) (ad := ad) (n := 0) (cap := 0) (olds := []) hu hi hsz hby hz hzs hb0 hsrc ⟨ad, 0, rfl, Nat.le_refl _, by simp, .inl rfl⟩ (.inl ⟨rfl, rfl⟩) (by rw [Nat.zero_add]; exact hfit)
            have hcore : Good P o a w E β obs F fresh (.hs ⟨fresh, []⟩ 0 l.length true) (d ++ [(fresh, some (Ob.arr τ l))]) [] :=
              append_core (τ := τ) (olds := []) (l := l) (cs0 := []) (G0 := fun _ => False) (Gs := fun _ => False) hlt (htook.iff fun b => ⟨fun h => h.elim id False.elim, .inl⟩) (hfr.behind hex (Nat.le_refl _) (by omega)) (.nil fun _ h => h) hel (fun _ h => h) (fun _ _ h => h) rfl rfl (.inl ⟨rfl, rfl⟩) (exec ad 0 0 ad' _ cap' w' hup hrun) hap
            refine ⟨.hs ⟨fresh, []⟩ 0 l.length true, d ++ [(fresh, some (Ob.arr τ l))], rd, [], fun tm' obs' ht hd R' K' => ?_, Src.fresh (fun r hr => by simpa [refsOf, refsOfA, refOf] using hr), Keys.snoc hex _, hcore⟩
            · unfold opK
              simp only [ho, hc, stab tm' ht, htys, hkx]
              unfold appendK
              simp only [he]
              rw [hst R' _ obs' fun q hq => hd q (hq.elim .inl fun hq => .inr (by rw [keysOf_append]; exact List.mem_append.2 (.inl hq)))]
              rw [if_pos hfit]
          · cases hk
        · -- onto a slice
          rename_i q0 off n wh
          obtain ⟨o1, loc, G1, hat, hob1, _, hK, hst0⟩ := atRef_ok hf.ob h
          cases o1 with
          | box => cases hK
          | arr τ' l0 =>
            simp only at hK
            split at hK
            · rename_i hb
              have e1 := Ty.beq_eq hb
              subst e1
              rw [castL_self] at hK
              obtain ⟨hh, hn, hw⟩ := hs_part rp hat
              rw [subL_eq hw] at hK
              have hlen0 : ((l0.drop off).take n).length = n := by rw [List.length_take, List.length_drop]; omega
              obtain ⟨l, d, rd, FA1, F1, Gx, Gk1, cs, hk, hst, htook, hcs, hel, hex, hkeys⟩ := moreK_sound hf.ob.a (fun _ h => h) rq hK
              split at hk
              · rename_i hfit
                rw [List.length_append, hlen0] at hfit
                have hF1 : ∀ b, F1 b → FA1 b := fun b hb => Classical.byContradiction fun hn => (htook.lost b (htook.less b hb) hn).2.1 hb
                -- the object stands as it was
                have hget : get q0.root (applyD d obs) = get q0.root obs := by
                  refine get_applyD d obs fun hq' => ?_
                  have hnone := hkeys _ hq'
                  unfold takeK at hk
                  rw [hnone] at hk
                  split at hk <;> cases hk
                have hat1 : atLoc w β (applyD d obs) q0 = some (.arr τ' l0, loc) := by unfold atLoc at hat ⊢; rw [hget]; exact hat
                obtain ⟨d', F2, Gs, Gk2, hk2, hst2, htook2, harr, hex2⟩ := takeK_sound htook.ob hF1 hat1 hk
                obtain ⟨cs0, G0, hcs0, hel0, hs0, hblk⟩ := arr_part harr hh hn
                have hsrc := src_of hkx2 hcs hel
                obtain ⟨ad, cap, hup, hh2⟩ := id hh
                have hhead : (n = 0 ∧ cap = 0) ∨ ∃ b o row, ad = some ⟨b, o, none⟩ ∧ Row w b row ∧ n ≤ cap ∧ o + cap * τ'.size ≤ row.size ∧ Gs b ∧ ¬ G0 b ∧ cs0 = seg row o (n * τ'.size) := by
                  rcases hh2 with h | ⟨b, c0, row, hloc, hrow, had, hnc, hsize⟩
                  · exact .inl h
                  · obtain ⟨hnb, hcseq⟩ := hblk b c0 hloc
                    refine .inr ⟨b, c0 + off * τ'.size, row, had, hrow, hnc, ?_, ?_, hnb, hcseq row hrow⟩
                    · rw [Nat.add_mul] at hsize; omega
                    · rw [hloc] at harr
                      exact ob_block (o := .arr τ' l0) harr
                rw [hup] at hcs0
                obtain ⟨ad', cap', w', hrun, hap⟩ := append_run (P := P) (ty := o.type) (ad := ad) (n := n) (cap := cap) (olds := cs0) hu hi hsz hby hz hzs hb0 hsrc hcs0 (hhead.imp id fun ⟨b, o, row, h1, h2, h3, h4, _⟩ => ⟨b, o, row, h1, h2, h3, h4⟩) hfit
                have htook3 := htook.trans htook2
                have hex3 := keys_exist hex fun q hq => (hex2 q hq).2
                have hcore := append_core (P := P) (o := o) (a := a) (fresh := fresh) (D := d ++ d') hlt (by rw [applyD_append]; exact htook3) (hfr.behind hex3 (Nat.le_refl _) (by omega)) hel0 (hel.keep ⟨Nat.le_refl _, fun _ _ => rfl, fun _ _ _ => rfl, fun b hb => .inl hb⟩) hs0 (htook.djG htook2) hlen0 rfl hhead (exec ad n cap ad' _ cap' w' hup hrun) hap
                refine ⟨.hs ⟨fresh, []⟩ 0 ((l0.drop off).take n ++ l).length true, d ++ (d' ++ [(fresh, some (.arr τ' ((l0.drop off).take n ++ l)))]), q0.root :: rd, [], fun tm' obs' ht hd R' K' => ?_, Src.fresh (fun r hr => ?_), by rw [← List.append_assoc]; exact Keys.snoc hex3 _, by rw [← List.append_assoc]; exact hcore⟩
                · unfold opK
                  simp only [ho, hc, stab tm' ht, htys, hkx]
                  unfold appendK
                  simp only [he]
                  rw [hst0 R' _ obs' (hd _ (.inl (by simp)))]
                  simp only [hb, dif_pos, castL_self, subL_eq hw]
                  rw [hst R' _ obs' fun q hq => hd q (hq.elim (fun h => .inl (List.mem_cons_of_mem _ h)) fun hq => .inr (by rw [keysOf_append]; exact List.mem_append.2 (.inl hq)))]
                  rw [if_pos (by rw [List.length_append, hlen0]; exact hfit)]
                  rw [hst2 R' _ (applyD d obs') (get_applyD_congr d _ _ (hd _ (.inl (by simp))))]
                · simpa [refsOf, refsOfA, refOf] using hr
              · cases hk
            · cases hK
        · cases h
    · cases h
  · cases h
end
end Go.Lf
