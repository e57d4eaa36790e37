import Derived.Test.YtgfhdajbgkpgkaaLfUpd
set_option linter.unusedVariables false
/-! Lf: an object written, in memory. -/
namespace Go.Lf

theorem Spliced.get {row row' : Array Value} {a : Nat} {us : List Value} (h : Spliced row row' a us) (q : Nat) :
    row'.toList[q]? = if q < a then row.toList[q]? else if q < a + us.length then us[q - a]? else row.toList[q]? := by
  have hl := h.1
  rw [h.2, List.append_assoc, List.getElem?_append, List.getElem?_append]
  simp only [List.length_take, Array.length_toList, List.getElem?_take, List.getElem?_drop]
  have hm : min a row.size = a := by omega
  rw [hm]
  by_cases h1 : q < a
  · simp [h1]
  · simp only [h1, if_false]
    by_cases h2 : q < a + us.length
    · have : q - a < us.length := by omega
      simp [h2, this]
    · have : ¬ q - a < us.length := by omega
      simp only [h2, this, if_false]
      congr 1
      omega

theorem seg_get (row : Array Value) (o n q : Nat) : (seg row o n)[q]? = if q < n then row.toList[o + q]? else none := by
  unfold seg
  rw [List.getElem?_take]
  split
  · rw [List.getElem?_drop]
  · rfl

theorem seg_in {row row' : Array Value} {o j n : Nat} {us : List Value} (h : Spliced row row' (o + j) us) (hj : j + us.length ≤ n) (hn : o + n ≤ row.size) :
    seg row' o n = (seg row o n).take j ++ us ++ (seg row o n).drop (j + us.length) := by
  apply List.ext_getElem?
  intro q
  rw [seg_get, List.append_assoc, List.getElem?_append, List.getElem?_append]
  simp only [List.length_take, seg_length hn, List.getElem?_take, List.getElem?_drop, seg_get]
  have hm : min j n = j := by omega
  rw [hm, h.get]
  by_cases h0 : q < n
  · rw [if_pos h0]
    by_cases h1 : q < j
    · have : o + q < o + j := by omega
      simp only [this, if_true, h1, h0]
    · have : ¬ o + q < o + j := by omega
      simp only [this, if_false, h1]
      by_cases h2 : q < j + us.length
      · have e1 : o + q < o + j + us.length := by omega
        have e2 : q - j < us.length := by omega
        simp only [e1, if_true, e2]
        congr 1
        omega
      · have e1 : ¬ o + q < o + j + us.length := by omega
        have e2 : ¬ q - j < us.length := by omega
        have e3 : j + us.length + (q - j - us.length) < n := by omega
        simp only [e1, if_false, e2, e3, if_true]
        congr 1
        omega
  · rw [if_neg h0]
    have e1 : ¬ q < j := by omega
    have e2 : ¬ q - j < us.length := by omega
    have e3 : ¬ j + us.length + (q - j - us.length) < n := by omega
    simp only [e1, e2, e3, if_false]

theorem seg_out {row row' : Array Value} {o a n : Nat} {us : List Value} (h : Spliced row row' a us) (ho : o + n ≤ a ∨ a + us.length ≤ o) : seg row' o n = seg row o n := by
  apply List.ext_getElem?
  intro q
  rw [seg_get, seg_get]
  by_cases h0 : q < n
  · rw [if_pos h0, if_pos h0, h.get]
    rcases ho with ho | ho
    · rw [if_pos (by omega)]
    · rw [if_neg (by omega), if_neg (by omega)]
  · rw [if_neg h0, if_neg h0]

theorem ofLeaves_length : ∀ {τ : Ty} {vs rest : List V} {x : τ.den}, τ.ofLeaves vs = some (x, rest) → vs.length = τ.size + rest.length
  | .unit, vs, rest, x, h => by
    have h' : some ((), vs) = some (x, rest) := h
    injection h' with h'; injection h' with _ h'; subst h'
    exact (Nat.zero_add _).symm
  | .pair a b, vs, rest, x, h => by
    have h' : (match a.ofLeaves vs with
      | some (x, vs) => match b.ofLeaves vs with
        | some (y, vs) => some ((x, y), vs)
        | none => none
      | none => none) = some (x, rest) := h
    split at h'
    · rename_i x1 vs1 ha
      split at h'
      · rename_i x2 vs2 hb
        injection h' with h'; injection h' with _ hr
        subst hr
        rw [ofLeaves_length ha, ofLeaves_length hb, ← Nat.add_assoc]
        rfl
      · cases h'
    · cases h'
  | .int k, [], _, _, h => by cases h
  | .bool, [], _, _, h => by cases h
  | .sl a, [], _, _, h => by cases h
  | .ow a, [], _, _, h => by cases h
  | .bx a, [], _, _, h => by cases h
  | .int k, v :: vs, rest, x, h => one h
  | .bool, v :: vs, rest, x, h => one h
  | .sl a, v :: vs, rest, x, h => one h
  | .ow a, v :: vs, rest, x, h => one h
  | .bx a, v :: vs, rest, x, h => one h
where
  one {α : Type} {o : Option α} {v : V} {vs rest : List V} {x : α} (h : withRest o vs = some (x, rest)) : (v :: vs).length = 1 + rest.length := by
    unfold withRest at h
    split at h
    · injection h with h; injection h with _ h; subst h; exact Nat.add_comm _ _
    · cases h

theorem ofAll_length {τ : Ty} {vs : List V} {x : τ.den} (h : τ.ofAll vs = some x) : vs.length = τ.size := by
  unfold Ty.ofAll at h
  split at h
  · rename_i x' hx
    have := ofLeaves_length hx
    simpa using this
  · cases h

theorem setAt_length {j : Nat} {vs fs : List V} (h : j + vs.length ≤ fs.length) : (setAt j vs fs).length = fs.length := by
  simp only [setAt, List.length_append, List.length_take, List.length_drop]
  omega

theorem setAt_fits {j : Nat} {vs fs : List V} (h : (setAt j vs fs).length = fs.length) (hv : vs ≠ []) : j + vs.length ≤ fs.length := by
  simp only [setAt, List.length_append, List.length_take, List.length_drop] at h
  have : 0 < vs.length := List.length_pos_iff.2 hv
  omega

/-- Are there n leaves from (i, j) on? -/
def fits : Ob → Nat → Nat → Nat → Prop
  | .box _ fs, _, j, n => j + n ≤ fs.length
  | .arr τ l, i, j, n => i < l.length ∧ j + n ≤ τ.size

theorem fits_of_write {o : Ob} {i j : Nat} {vs : List V} {R : Type} {K : Ob → Option R} {r : R} (hv : vs ≠ []) (hw : o.writeK i j vs K = some r) : fits o i j vs.length := by
  cases o with
  | box t fs =>
    have hw' : (bif Nat.ble (j + vs.length) fs.length then K (.box t (setAt j vs fs)) else none) = some r := hw
    cases hj : Nat.ble (j + vs.length) fs.length with
    | false => rw [hj] at hw'; cases hw'
    | true => exact Nat.le_of_ble_eq_true hj
  | arr τ l =>
    have hw' : ((l[i]?).bind fun x => match τ.ofAll (setAt j vs (τ.leaves x)) with | some y => K (.arr τ (l.set i y)) | none => none) = some r := hw
    cases hx : l[i]? with
    | none => rw [hx] at hw'; cases hw'
    | some x =>
      rw [hx] at hw'
      have hw2 : (match τ.ofAll (setAt j vs (τ.leaves x)) with | some y => K (.arr τ (l.set i y)) | none => none) = some r := hw'
      split at hw2
      · rename_i y hy
        have := setAt_fits (j := j) (vs := vs) (fs := τ.leaves x) (by rw [ofAll_length hy, Ty.leaves_length]) hv
        rw [Ty.leaves_length] at this
        exact ⟨(List.getElem?_eq_some_iff.1 hx).1, this⟩
      · cases hw2

theorem fits_of_leaf {o : Ob} {i j : Nat} {v : V} (h : leafAt o i j = some v) : fits o i j 1 := by
  cases o with
  | box t fs => exact (List.getElem?_eq_some_iff.1 (h : fs[j]? = some v)).1
  | arr τ l =>
    have h' : ((l[i]?).bind fun x => (τ.leaves x)[j]?) = some v := h
    cases hx : l[i]? with
    | none => rw [hx] at h'; cases h'
    | some x =>
      rw [hx] at h'
      have h2 : (τ.leaves x)[j]? = some v := h'
      have := (List.getElem?_eq_some_iff.1 h2).1
      rw [Ty.leaves_length] at this
      exact ⟨(List.getElem?_eq_some_iff.1 hx).1, this⟩

/-- Leaves of an object are written. -/
theorem write_ob {w : World} {F : Bs} {o : Ob} {loc : Option (Nat × Nat)} {G : Bs} {i j n : Nat} (h : ObR w F o loc G) (hf : fits o i j n) :
    ∃ (b off : Nat) (row : Array Value) (Gm Gr : Bs) (old : List V), loc = some (b, off) ∧ Row w b row ∧ off + ix o i j + n ≤ row.size ∧
      LsR w F old (seg row (off + ix o i j) n) Gm ∧ (∀ n, G n ↔ n = b ∨ Gm n ∨ Gr n) ∧ Dj Gm Gr ∧ ¬ Gm b ∧ ¬ Gr b ∧
      (∀ v, leafAt o i j = some v → n = 1 → old = [v]) ∧
      ∀ (vs : List V) (_ : vs.length = n) (R : Type) (K : Ob → Option R) (r : R), o.writeK i j vs K = some r →
      ∃ o', K o' = some r ∧ o.like o' ∧ (∀ (R' : Type) (K' : Ob → Option R'), o.writeK i j vs K' = K' o') ∧
      ∀ (w' : World) (F' : Bs) (us : List Value) (row' : Array Value) (Gm' : Bs), Row w' b row' → Spliced row row' (off + ix o i j) us → us.length = vs.length →
        Lets F' Gm' (fun F'' H => LsR w' F'' vs us H) → Dj Gm' (fun n => n = b ∨ Gr n) → Beside w F w' F' b Gr →
        Lets F' (fun n => Gm' n ∨ (n = b ∨ Gr n)) (fun F'' H => ObR w' F'' o' loc H) := by
  cases o with
  | box t fs =>
    obtain ⟨b, row, G', hl, hr, hls, hb, hG⟩ := h
    have hj' : j + n ≤ fs.length := hf
    have hlen := hls.length
    refine (?_ : _)
    · skip
      obtain ⟨c1, c23, G1, G23, hc, h1, h23, hd1, hG1⟩ := (by rw [list_split3 fs j n] at hls; exact hls.split :
        ∃ us1 us2 G1 G2, row.toList = us1 ++ us2 ∧ LsR w F (fs.take j) us1 G1 ∧ LsR w F ((fs.drop j).take n ++ fs.drop (j + n)) us2 G2 ∧ Dj G1 G2 ∧ ∀ n, G' n ↔ G1 n ∨ G2 n)
      obtain ⟨c2, c3, G2, G3, hc', h2, h3, hd2, hG2⟩ := h23.split
      subst hc'
      have l1 : c1.length = j := by rw [h1.length, List.length_take]; omega
      have l2 : c2.length = n := by rw [h2.length, List.length_take, List.length_drop]; omega
      have e2 : seg row j n = c2 := by unfold seg; rw [hc, ← l1, List.drop_left, ← l2, List.take_left]
      have e1 : row.toList.take j = c1 := by rw [hc, ← l1, List.take_left]
      have e3 : row.toList.drop (j + n) = c3 := by rw [hc, ← List.drop_drop, ← l1, List.drop_left, ← l2, List.drop_left]
      have hsz : j + n ≤ row.size := by rw [← Array.length_toList, hlen]; exact hj'
      have hnb2 : ¬ G2 b := fun h => hb ((hG1 b).2 (.inr ((hG2 b).2 (.inl h))))
      have hnb13 : ¬ (G1 b ∨ G3 b) := fun h => hb (h.elim (fun h => (hG1 b).2 (.inl h)) fun h => (hG1 b).2 (.inr ((hG2 b).2 (.inr h))))
      refine ⟨b, 0, row, G2, fun n => G1 n ∨ G3 n, (fs.drop j).take n, hl, hr, by simpa [ix] using hsz, by simp only [ix, Nat.zero_add]; rw [e2]; exact h2, ?_, ?_, hnb2, hnb13, ?_, ?_⟩
      · intro n
        rw [hG, hG1, hG2]
        constructor
        · rintro (h | h | h | h)
          · exact .inl h
          · exact .inr (.inr (.inl h))
          · exact .inr (.inl h)
          · exact .inr (.inr (.inr h))
        · rintro (h | h | h | h)
          · exact .inl h
          · exact .inr (.inr (.inl h))
          · exact .inr (.inl h)
          · exact .inr (.inr (.inr h))
      · rintro n hn (h | h)
        · exact hd1 n h ((hG2 n).2 (.inl hn))
        · exact hd2 n hn h
      · intro v hv1 hn
        have hv1' : fs[j]? = some v := hv1
        rw [hn]
        apply List.ext_getElem?
        intro q
        rw [List.getElem?_take, List.getElem?_drop]
        cases q with
        | zero => simpa using hv1'
        | succ q => simp
      · intro vs hvn R K r hw
        subst hvn
        have hj : Nat.ble (j + vs.length) fs.length = true := Nat.ble_eq_true_of_le hj'
        have hw' : (bif Nat.ble (j + vs.length) fs.length then K (.box t (setAt j vs fs)) else none) = some r := hw
        rw [hj] at hw'
        refine ⟨.box t (setAt j vs fs), hw', trivial, fun R' K' => ?_, ?_⟩
        · show (bif Nat.ble (j + vs.length) fs.length then K' (.box t (setAt j vs fs)) else none) = _
          rw [hj]; rfl
        intro w' F' us row' Gm' hr' hs hu hm' hdm hbe
        simp only [ix, Nat.zero_add] at hs
        refine (hm'.beside (K := fun n => n = b ∨ (G1 n ∨ G3 n)) hdm (Ψ := fun F'' H => ObR w' F'' (.box t (setAt j vs fs)) loc H) ?_)
        intro F'' H hF'' hH hls'
        have hst : Stay w F w' F'' (fun n => G1 n ∨ G3 n) := (hbe.sub hF'').stay (fun c hc => hc) hnb13
        have k1 := h1.keep (hst.mono fun n hn => .inl hn)
        have k3 := h3.keep (hst.mono fun n hn => .inr hn)
        have hdH : ∀ n, H n → ¬ (n = b ∨ (G1 n ∨ G3 n)) := fun n hn => hdm n (hH n hn)
        have d1 : Dj G1 H := fun n h1 h2 => hdH n h2 (.inr (.inl h1))
        have d3 : Dj (fun n => G1 n ∨ H n) G3 := by
          rintro n (h | h) h'
          · exact hd1 n h ((hG2 n).2 (.inr h'))
          · exact hdH n h (.inr (.inr h'))
        have hall := (k1.append hls' d1).append k3 d3
        refine ⟨b, row', fun n => (G1 n ∨ H n) ∨ G3 n, hl, hr', ?_, ?_, ?_⟩
        · rw [hs.2, hu, e1, e3]
          exact hall
        · rintro ((h | h) | h)
          · exact hnb13 (.inl h)
          · exact hdH b h (.inl rfl)
          · exact hnb13 (.inr h)
        · intro n
          constructor
          · rintro (h | h | h | h)
            · exact .inr (.inl (.inr h))
            · exact .inl h
            · exact .inr (.inl (.inl h))
            · exact .inr (.inr h)
          · rintro (h | (h | h) | h)
            · exact .inr (.inl h)
            · exact .inr (.inr (.inl h))
            · exact .inl h
            · exact .inr (.inr (.inr h))
  | arr τ l =>
    obtain ⟨hi, hfit'⟩ := (hf : i < l.length ∧ j + n ≤ τ.size)
    have hx : l[i]? = some l[i] := List.getElem?_eq_getElem hi
    generalize l[i] = x at hx
    refine (?_ : _)
    · refine (?_ : _)
      · skip
        cases loc with
        | none => rw [h.1] at hx; simp at hx
        | some p =>
          obtain ⟨b, off⟩ := p
          obtain ⟨row, Gs, hr, hs, hxs, he, hd, hb, hG⟩ := h
          have hfit : j + n ≤ (τ.leaves x).length := by rw [Ty.leaves_length]; exact hfit'
          have hls := LR.leaves τ x _ _ (hxs i x hx)
          have hmul : i * τ.size + τ.size ≤ l.length * τ.size := by
            have : (i + 1) * τ.size ≤ l.length * τ.size := Nat.mul_le_mul_right _ hi
            rwa [Nat.succ_mul] at this
          have hseg : off + i * τ.size + τ.size ≤ row.size := by omega
          obtain ⟨c1, c23, G1, G23, hc, h1, h23, hd1, hG1⟩ := (by rw [list_split3 (τ.leaves x) j n] at hls; exact hls.split :
            ∃ us1 us2 G1 G2, seg row (off + i * τ.size) τ.size = us1 ++ us2 ∧ LsR w F ((τ.leaves x).take j) us1 G1 ∧ LsR w F (((τ.leaves x).drop j).take n ++ (τ.leaves x).drop (j + n)) us2 G2 ∧ Dj G1 G2 ∧ ∀ n, Gs i n ↔ G1 n ∨ G2 n)
          obtain ⟨c2, c3, G2, G3, hc', h2, h3, hd2, hG2⟩ := h23.split
          subst hc'
          have l1 : c1.length = j := by rw [h1.length, List.length_take]; omega
          have l2 : c2.length = n := by rw [h2.length, List.length_take, List.length_drop]; omega
          have e1 : (seg row (off + i * τ.size) τ.size).take j = c1 := by rw [hc, ← l1, List.take_left]
          have e3 : (seg row (off + i * τ.size) τ.size).drop (j + n) = c3 := by rw [hc, ← List.drop_drop, ← l1, List.drop_left, ← l2, List.drop_left]
          have e2 : seg row (off + (i * τ.size + j)) n = c2 := by
            have : ((seg row (off + i * τ.size) τ.size).drop j).take n = c2 := by rw [hc, ← l1, List.drop_left, ← l2, List.take_left]
            rw [← this]
            apply List.ext_getElem?
            intro q
            rw [seg_get, List.getElem?_take, List.getElem?_drop, seg_get]
            by_cases hq : q < n
            · rw [if_pos hq, if_pos hq, if_pos (by omega)]
              congr 1; omega
            · rw [if_neg hq, if_neg hq]
          have hnbi : ∀ n, Gs i n → n ≠ b := fun n hn e => hb i (e ▸ hn)
          have in1 : ∀ n, G1 n → Gs i n := fun n h => (hG1 n).2 (.inl h)
          have in2 : ∀ n, G2 n → Gs i n := fun n h => (hG1 n).2 (.inr ((hG2 n).2 (.inl h)))
          have in3 : ∀ n, G3 n → Gs i n := fun n h => (hG1 n).2 (.inr ((hG2 n).2 (.inr h)))
          let Gr : Bs := fun n => (G1 n ∨ G3 n) ∨ ∃ q, q ≠ i ∧ Gs q n
          have hGrb : ¬ Gr b := by
            rintro ((h | h) | ⟨q, _, h⟩)
            · exact hb i (in1 b h)
            · exact hb i (in3 b h)
            · exact hb q h
          refine ⟨b, off, row, G2, Gr, ((τ.leaves x).drop j).take n, rfl, hr, by simp only [ix]; omega, by simp only [ix]; rw [e2]; exact h2, ?_, ?_, fun h => hb i (in2 b h), hGrb, ?_, ?_⟩
          · intro n
            rw [hG]
            constructor
            · rintro (h | ⟨q, h⟩)
              · exact .inl h
              · by_cases hq : q = i
                · subst hq
                  rcases (hG1 n).1 h with h | h
                  · exact .inr (.inr (.inl (.inl h)))
                  · rcases (hG2 n).1 h with h | h
                    · exact .inr (.inl h)
                    · exact .inr (.inr (.inl (.inr h)))
                · exact .inr (.inr (.inr ⟨q, hq, h⟩))
            · rintro (h | h | (h | h) | ⟨q, _, h⟩)
              · exact .inl h
              · exact .inr ⟨i, in2 n h⟩
              · exact .inr ⟨i, in1 n h⟩
              · exact .inr ⟨i, in3 n h⟩
              · exact .inr ⟨q, h⟩
          · rintro n hn ((h | h) | ⟨q, hq, h⟩)
            · exact hd1 n h ((hG2 n).2 (.inl hn))
            · exact hd2 n hn h
            · exact hd i q (Ne.symm hq) n (in2 n hn) h
          · intro v hv1 hn
            have hv1' : ((l[i]?).bind fun x => (τ.leaves x)[j]?) = some v := hv1
            rw [hx] at hv1'
            rw [hn]
            apply List.ext_getElem?
            intro q
            rw [List.getElem?_take, List.getElem?_drop]
            cases q with
            | zero => simpa using hv1'
            | succ q => simp
          · intro vs hvn R K r hw
            subst hvn
            have hw' : ((l[i]?).bind fun x => match τ.ofAll (setAt j vs (τ.leaves x)) with | some y => K (.arr τ (l.set i y)) | none => none) = some r := hw
            rw [hx] at hw'
            have hw2 : (match τ.ofAll (setAt j vs (τ.leaves x)) with | some y => K (.arr τ (l.set i y)) | none => none) = some r := hw'
            cases hy : τ.ofAll (setAt j vs (τ.leaves x)) with
            | none => rw [hy] at hw2; cases hw2
            | some y =>
            rw [hy] at hw2
            refine ⟨.arr τ (l.set i y), hw2, ⟨rfl, by simp⟩, fun R' K' => ?_, ?_⟩
            · show ((l[i]?).bind fun x => match τ.ofAll (setAt j vs (τ.leaves x)) with | some y => K' (.arr τ (l.set i y)) | none => none) = _
              rw [hx]
              show (match τ.ofAll (setAt j vs (τ.leaves x)) with | some y => K' (.arr τ (l.set i y)) | none => none) = _
              rw [hy]
            intro w' F' us row' Gm' hr' hsp hu hm' hdm hbe
            simp only [ix] at hsp
            rw [← Nat.add_assoc] at hsp
            have hstR : ∀ F'' : Bs, (∀ n, F'' n → F' n) → Stay w F w' F'' Gr := fun F'' hF'' => (hbe.sub hF'').stay (fun c hc => hc) hGrb
            -- the element, written
            have hel : Lets F' (fun n => Gm' n ∨ (G1 n ∨ G3 n)) (fun F'' H => LR w' F'' τ y (seg row' (off + i * τ.size) τ.size) H) := by
              have hd13 : Dj Gm' (fun n => G1 n ∨ G3 n) := fun n hn h => hdm n hn (.inr (.inl h))
              refine Lets.bind (Φ := fun F'' H => LsR w' F'' (setAt j vs (τ.leaves x)) (seg row' (off + i * τ.size) τ.size) H) (hm'.beside hd13 ?_) ?_
              · intro F'' H hF'' hH hls'
                have k1 := h1.keep ((hstR F'' hF'').mono fun n hn => .inl (.inl hn))
                have k3 := h3.keep ((hstR F'' hF'').mono fun n hn => .inl (.inr hn))
                have d1 : Dj G1 H := fun n h1 h2 => hd13 n (hH n h2) (.inl h1)
                have d3 : Dj (fun n => G1 n ∨ H n) G3 := by
                  rintro n (h | h) h'
                  · exact hd1 n h ((hG2 n).2 (.inr h'))
                  · exact hd13 n (hH n h) (.inr h')
                have hall := (k1.append hls' d1).append k3 d3
                rw [seg_in hsp (by rw [hu]; exact hfit') hseg, hu, e1, e3]
                unfold setAt
                exact hall.iff fun n => by
                  constructor
                  · rintro (h | h | h)
                    · exact .inl (.inr h)
                    · exact .inl (.inl h)
                    · exact .inr h
                  · rintro ((h | h) | h)
                    · exact .inr (.inl h)
                    · exact .inl h
                    · exact .inr (.inr h)
              · intro F'' H _ _ hls'
                exact ofAll_sound hy hls'
            let K0 : Bs := fun n => n = b ∨ ∃ q, q ≠ i ∧ Gs q n
            have hdK : Dj (fun n => Gm' n ∨ (G1 n ∨ G3 n)) K0 := by
              rintro n (h | h | h) (h' | ⟨q, hq, h'⟩)
              · exact hdm n h (.inl h')
              · exact hdm n h (.inr (.inr ⟨q, hq, h'⟩))
              · exact hnbi n (in1 n h) h'
              · exact hd i q (Ne.symm hq) n (in1 n h) h'
              · exact hnbi n (in3 n h) h'
              · exact hd i q (Ne.symm hq) n (in3 n h) h'
            refine (Lets.beside (Ψ := fun F'' H => ObR w' F'' (.arr τ (l.set i y)) (some (b, off)) H) hel hdK ?_).iff ?_
            · intro F'' H hF'' hH hly
              refine ⟨row', fun q => if q = i then H else Gs q, hr', by rw [hsp.size, List.length_set]; exact hs, ?_, ?_, ?_, ?_, ?_⟩
              · intro q z hq
                by_cases hqi : q = i
                · subst hqi
                  rw [List.getElem?_set_self hi] at hq
                  injection hq with hq
                  subst hq
                  simpa using hly
                · rw [List.getElem?_set_ne (Ne.symm hqi)] at hq
                  simp only [hqi, if_false]
                  have hql : q < l.length := (List.getElem?_eq_some_iff.1 hq).1
                  rw [seg_out hsp]
                  · exact LR.keep τ _ _ _ (hxs q z hq) ((hstR F'' hF'').mono fun n hn => .inr ⟨q, hqi, hn⟩)
                  · rw [hu]
                    rcases Nat.lt_or_gt_of_ne hqi with hlt | hgt
                    · have : (q + 1) * τ.size ≤ i * τ.size := Nat.mul_le_mul_right _ hlt
                      rw [Nat.succ_mul] at this
                      exact .inl (by omega)
                    · have : (i + 1) * τ.size ≤ q * τ.size := Nat.mul_le_mul_right _ hgt
                      rw [Nat.succ_mul] at this
                      exact .inr (by omega)
              · intro q hq
                rw [List.length_set] at hq
                have : q ≠ i := by omega
                simp only [this, if_false]
                exact he q hq
              · intro p q hpq
                by_cases hp : p = i
                · subst hp
                  simp only [if_true, Ne.symm hpq, if_false]
                  exact fun n hn hn' => hdK n (hH n hn) (.inr ⟨q, Ne.symm hpq, hn'⟩)
                · by_cases hq : q = i
                  · subst hq
                    simp only [hp, if_false, if_true]
                    exact fun n hn hn' => hdK n (hH n hn') (.inr ⟨p, hp, hn⟩)
                  · simp only [hp, hq, if_false]
                    exact hd p q hpq
              · intro q
                by_cases hq : q = i
                · simp only [hq, if_true]
                  exact fun h => hdK b (hH b h) (.inl rfl)
                · simp only [hq, if_false]
                  exact hb q
              · intro n
                constructor
                · rintro (h | h | ⟨q, hq, h⟩)
                  · exact .inr ⟨i, by simpa using h⟩
                  · exact .inl h
                  · exact .inr ⟨q, by simpa [hq] using h⟩
                · rintro (h | ⟨q, h⟩)
                  · exact .inr (.inl h)
                  · by_cases hq : q = i
                    · simp only [hq, if_true] at h
                      exact .inl h
                    · simp only [hq, if_false] at h
                      exact .inr (.inr ⟨q, hq, h⟩)
            · intro n
              constructor
              · rintro (h | h | (h | h) | h)
                · exact .inl (.inl h)
                · exact .inr (.inl h)
                · exact .inl (.inr (.inl h))
                · exact .inl (.inr (.inr h))
                · exact .inr (.inr h)
              · rintro ((h | h | h) | (h | h))
                · exact .inl h
                · exact .inr (.inr (.inl (.inl h)))
                · exact .inr (.inr (.inl (.inr h)))
                · exact .inr (.inl h)
                · exact .inr (.inr (.inr h))

end Go.Lf
