import Derived.Test.YtgfhdajbgkpgkaaLfAppRun
set_option linter.unusedVariables false
/-! Lf: append, the operation. -/
namespace Go.Lf

theorem seg_behind {row row' : Array Value} {o n : Nat} {cs1 : List Value} (hsp : Spliced row row' (o + n) cs1) : seg row' o (n + cs1.length) = seg row o n ++ cs1 := by
  have hle := hsp.1
  apply List.ext_getElem?
  intro q
  have hl : (seg row o n).length = n := seg_length (by omega)
  rw [seg_get, List.getElem?_append, hl, seg_get, hsp.get]
  by_cases h1 : q < n
  · rw [if_pos (by omega), if_pos (by omega), if_pos h1, if_pos h1]
  · rw [if_neg h1]
    by_cases h2 : q < n + cs1.length
    · rw [if_pos h2, if_neg (by omega), if_pos (by omega)]
      congr 1
      omega
    · rw [if_neg h2, List.getElem?_eq_none (by omega)]

section
variable {P : Program} {C : Ctx} {k : Nat} {tm : List (Nat × V)} {obs : List (Nat × Ob)} {fresh : Nat} {o : Oper} {a : Act} {w : World} {E : Bs} {β : Nat → Option (Nat × Nat)} {F FA2 F2 G0 Gs Gx : Bs} {Gk Gk2 : Nat → Bs} {τ : Ty}

theorem append_core {D : Delta} {olds l : List τ.den} {cs0 cs1 : List Value} {ad : Option Addr} {n m cap : Nat} {ad' : Option Addr} {cap' : Nat} {w' : World} (hlt : ∀ b, F b → b < w.heap.size)
    (htook : Took w E β F F obs FA2 F2 (fun b => Gx b ∨ Gs b) (applyD D obs) Gk2) (hfree : get fresh (applyD D obs) = none) (h0 : ElR w FA2 τ olds cs0 G0) (h1 : ElR w FA2 τ l cs1 Gx) (hs0 : ∀ b, G0 b → Gs b) (hd : Dj Gx Gs)
    (hn : olds.length = n) (hm : l.length = m)
    (hs : (n = 0 ∧ cap = 0) ∨ ∃ b o row, ad = some ⟨b, o, none⟩ ∧ Row w b row ∧ n ≤ cap ∧ o + cap * τ.size ≤ row.size ∧ Gs b ∧ ¬ G0 b ∧ cs0 = seg row o (n * τ.size))
    (hrun : (execOp a.eval o).run P w = .ok (.value (.slice ad' (n + m) cap')) w') (hap : Appended w ad n m cap τ.size cs0 cs1 ad' cap' w') :
    Good P o a w E β obs F fresh (.hs ⟨fresh, []⟩ 0 (olds ++ l).length true) (D ++ [(fresh, some (.arr τ (olds ++ l)))]) [] := by
  have hL : (olds ++ l).length = n + m := by rw [List.length_append, hn, hm]
  have hc0 := h0.length
  have hc1 := h1.length
  rw [hn] at hc0; rw [hm] at hc1
  have hF2 : ∀ b, F2 b → FA2 b := fun b hb => Classical.byContradiction fun hn => (htook.lost b (htook.less b hb) hn).2.1 hb
  have hGA : ∀ b, (Gx b ∨ Gs b) → FA2 b := fun b hb => Classical.byContradiction fun hn => (htook.lost b (htook.got b hb) hn).2.2 hb
  have hd0 : Dj G0 Gx := fun b hb hx => hd b hx (hs0 b hb)
  have hel := h0.append h1 hd0
  have hglt : ∀ b, (G0 b ∨ Gx b) → b < w.heap.size := fun b hb => hb.elim (h0.lt b) (h1.lt b)
  cases hap with
  | nothing hnm hc =>
    have hnil : olds ++ l = [] := List.eq_nil_of_length_eq_zero (by omega)
    refine good_new hlt htook hfree ⟨Nat.le_refl _, by omega⟩ hrun (Apart.refl w) (fun c _ _ => rfl) (Nat.le_refl _) (loc := none) (G2 := fun _ => False) ⟨hnil, fun _ h => h⟩ (fun b hb => hb.elim) ?_
    rw [hL]
    refine ⟨_, _, rfl, fun o1 loc hl => ?_⟩
    unfold atLoc at hl
    simp only [get_put, upd_same, way] at hl
    injection hl with hl; injection hl with e1 e2; subst e1; subst e2
    exact ⟨τ, _, rfl, ⟨_, _, rfl, .inl ⟨by omega, rfl⟩⟩, by omega, fun _ => ⟨rfl, by omega⟩⟩
  | room had hroom =>
    rename_i b o'
    rcases hs with ⟨e1, e2⟩ | ⟨b1, o1, row, had1, hrow, hnc, hle, hGb, hnb, hcs⟩
    · -- nothing at all, with an address
      have hm0 : m = 0 := by omega
      subst e1; subst hm0
      have hnil : olds ++ l = [] := List.eq_nil_of_length_eq_zero (by omega)
      have hc1' : cs1 = [] := List.eq_nil_of_length_eq_zero (by simpa using hc1)
      subst hc1'
      refine good_new hlt htook hfree ⟨Nat.le_refl _, by omega⟩ hrun (Apart.refl w) (fun c _ _ => rfl) (Nat.le_refl _) (loc := none) (G2 := fun _ => False) ⟨hnil, fun _ h => h⟩ (fun b hb => hb.elim) ?_
      rw [hL]
      refine ⟨_, _, rfl, fun o1 loc hl => ?_⟩
      unfold atLoc at hl
      simp only [get_put, upd_same, way] at hl
      injection hl with hl; injection hl with e1 e3; subst e1; subst e3
      exact ⟨τ, _, rfl, ⟨_, _, rfl, .inl ⟨by omega, e2⟩⟩, by omega, fun _ => ⟨rfl, by omega⟩⟩
    · rw [had] at had1; injection had1 with had1; injection had1 with e1 e2; subst e1; subst e2
      have hmul : (n + m) * τ.size ≤ cap * τ.size := Nat.mul_le_mul_right _ hroom
      rw [Nat.add_mul] at hmul
      obtain ⟨row', hrow', hsp⟩ := setCells_row b cs1 (o' + n * τ.size) w row hrow (by omega)
      have hother : ∀ c, c ≠ b → (w.setCells b (o' + n * τ.size) cs1).heap[c]? = w.heap[c]? := fun c hc => setCells_other b _ _ w c hc
      have hhs : (w.setCells b (o' + n * τ.size) cs1).heap.size = w.heap.size := setCells_size b _ _ w
      have hnbx : ¬ Gx b := fun h => hd b h hGb
      subst had
      have hrs : row'.size = row.size := hsp.size
      refine good_new hlt htook hfree ⟨Nat.le_refl _, by omega⟩ hrun (setCells_apart b _ _ w) (fun c _ hg => hother c fun e => hg (.inr (e ▸ hGb))) (by rw [hhs]; exact Nat.le_refl _) (loc := some (b, o')) (G2 := fun c => c = b ∨ (G0 c ∨ Gx c)) ?_ (fun c hc => .inl ?_) ?_
      · refine ElR.arr hrow' (by rw [hL, hrs, Nat.add_mul]; omega) ?_ (fun h => h.elim hnb hnbx)
        have hseg : seg row' o' ((olds ++ l).length * τ.size) = cs0 ++ cs1 := by
          rw [hL, Nat.add_mul, ← hc1, seg_behind hsp, hcs]
        rw [hseg]
        refine hel.keep ⟨by rw [hhs]; exact Nat.le_refl _, fun c hc => hother c fun e => (e ▸ hc).elim hnb hnbx, fun c hc _ => hother c fun e => hc (e ▸ hGA b (.inr hGb)), fun c hc => .inl ?_⟩
        rcases hc with hc | hc | hc | hc
        · exact hF2 c hc
        · exact hc ▸ hGA b (.inr hGb)
        · exact hGA c (.inr (hs0 c hc))
        · exact hGA c (.inl hc)
      · rcases hc with hc | hc | hc
        · exact .inr (hc ▸ hGb)
        · exact .inr (hs0 c hc)
        · exact .inl hc
      · rw [hL]
        exact hs_new (get_put _ _ _) (upd_same _ _ _) hrow' hL.symm hroom (by rw [hrs]; exact hle)
  | grown hcap hrow hsize hw' =>
    rename_i row e rest
    have hheap : ∀ c, c < w.heap.size → w'.heap[c]? = w.heap[c]? := fun c hc => by rw [hw']; exact alloc_old w.drew _ hc
    have hrw : Row w' w.heap.size row := by rw [hw']; exact alloc_row w.drew row e
    have hhs : w.heap.size ≤ w'.heap.size := by rw [hw']; simp
    refine good_new hlt htook hfree ⟨Nat.le_refl _, by omega⟩ hrun (by rw [hw']; exact ⟨rfl, rfl, rfl⟩) (fun c hc _ => hheap c hc) hhs (loc := some (w.heap.size, 0)) (G2 := fun c => c = w.heap.size ∨ (G0 c ∨ Gx c)) ?_ (fun c hc => ?_) ?_
    · have hseg : seg row 0 ((olds ++ l).length * τ.size) = cs0 ++ cs1 := by
        unfold seg
        rw [List.drop_zero, hrow, hL, Nat.add_mul, ← hc0, ← hc1, ← List.length_append, List.take_left]
      refine ElR.arr hrw ?_ ?_ (fun h => Nat.lt_irrefl _ (hglt _ h))
      · rw [hL, Nat.zero_add, hsize]; exact Nat.mul_le_mul_right _ hcap
      · rw [hseg]
        refine hel.keep ⟨hhs, fun c hc => hheap c (hglt c hc), fun c _ hc => hheap c hc, fun c hc => ?_⟩
        rcases hc with hc | hc | hc | hc
        · exact .inl (hF2 c hc)
        · exact .inr (Nat.le_of_eq hc.symm)
        · exact .inl (hGA c (.inr (hs0 c hc)))
        · exact .inl (hGA c (.inl hc))
    · rcases hc with hc | hc | hc
      · exact .inr (Nat.le_of_eq hc.symm)
      · exact .inl (.inr (hs0 c hc))
      · exact .inl (.inl hc)
    · rw [hL]
      exact hs_new (get_put _ _ _) (upd_same _ _ _) hrw hL.symm hcap (by rw [hsize]; omega)
end
end Go.Lf
