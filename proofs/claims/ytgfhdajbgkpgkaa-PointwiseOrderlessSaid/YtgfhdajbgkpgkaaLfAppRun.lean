import Derived.Test.YtgfhdajbgkpgkaaLfAppend
import Derived.Laws.AppendOwn
set_option linter.unusedVariables false
/-! Lf: append, in memory. -/
namespace Go.Lf
section
variable {P : Program} {w : World} {F : Bs} {G : Bs} {τ : Ty}

theorem src_of {tx e' : TypeId} {ux : Value} {l : List τ.den} {cs : List Value} (hk : P.underlying tx = some (.slice e')) (hc : Cells w ux l.length τ.size cs) (hel : ElR w F τ l cs G) : _root_.Go.Src P τ.size tx ux l.length cs w := by
  obtain ⟨ad, cap, hu, _, hlen, hd⟩ := hc
  subst hu
  rcases hd with h0 | ⟨b, o, had, hcell⟩
  · have hl : l = [] := List.eq_nil_of_length_eq_zero h0
    subst hl
    have hcs : cs = [] := List.eq_nil_of_length_eq_zero (by simpa using hlen)
    subst hcs
    cases ad with
    | none => exact _root_.Go.Src.ofNil w hk cap
    | some a => exact _root_.Go.Src.ofSlice w hk a 0 cap [] (by simp) (fun j u h => by simp at h) (fun u h => by cases h)
  · subst had
    exact _root_.Go.Src.ofSlice w hk _ _ cap cs hlen (fun j u h => by rw [add_none]; exact hcell j u h) hel.one

theorem run_append_zero {t tx ty e : TypeId} {i : TypeInfo} (ht : P.underlying t = some (.slice e)) (hi : P.info? e = some i) (base : Option Addr) {x : Value} (hs : _root_.Go.Src P i.size tx x 0 [] w) :
    (Builtin.append_ #[t, tx] ty #[.slice base 0 0, x]).run P w = .ok (.slice base 0 0) w := by
  rcases hs.kind with ⟨e', hk⟩ | hk <;> cases base <;> simp [Builtin.append_, run_underlying ht, run_underlying hk, sizeOf, typeInfo, hi, hs.len, hs.cells, storeCells]

/-- What an append comes to. -/
inductive Appended (w : World) (ad : Option Addr) (n m cap sz : Nat) (olds news : List Value) : Option Addr → Nat → World → Prop
  | nothing : n + m = 0 → cap = 0 → Appended w ad n m cap sz olds news ad 0 w
  | room {b o : Nat} : ad = some ⟨b, o, none⟩ → n + m ≤ cap → Appended w ad n m cap sz olds news ad cap (w.setCells b (o + n * sz) news)
  | grown {w' : World} {cap' : Nat} {row : Array Value} {e : TypeId} {rest : List Value} : n + m ≤ cap' → row.toList = olds ++ news ++ rest → row.size = cap' * sz → w' = w.drew.alloc (.cells row e) → Appended w ad n m cap sz olds news (some ⟨w.heap.size, 0, none⟩) cap' w'

theorem append_run {t tx ty e : TypeId} {i : TypeInfo} {z : Value} {sz bytes : Nat} (ht : P.underlying t = some (.slice e)) (hi : P.info? e = some i) (hsz : i.size = sz) (hby : i.bytes = bytes) (hz : i.zero = some z) (hzs : z.cells.size = sz) (hb0 : 0 < bytes)
    {ad : Option Addr} {n m cap : Nat} {x : Value} {olds news : List Value} (hx : _root_.Go.Src P sz tx x m news w) (ho : Cells w (.slice ad n cap) n sz olds)
    (hs : (n = 0 ∧ cap = 0) ∨ ∃ b o row, ad = some ⟨b, o, none⟩ ∧ Row w b row ∧ n ≤ cap ∧ o + cap * sz ≤ row.size) (hfit : (n + m) * bytes ≤ 140737488355328) :
    ∃ ad' cap' w', (Builtin.append_ #[t, tx] ty #[.slice ad n cap, x]).run P w = .ok (.slice ad' (n + m) cap') w' ∧ Appended w ad n m cap sz olds news ad' cap' w' := by
  subst hsz
  have hnl := hx.newsLen
  by_cases hg : cap < n + m
  · -- a new row
    have h1 : (n + m) * 1 ≤ (n + m) * bytes := Nat.mul_le_mul_left _ hb0
    have hold : (Builtin.firstCells i.size n (.slice ad n cap)).run P w.drew = .ok olds.toArray w.drew := by
      obtain ⟨ad', cap', hu, _, hlen, hd⟩ := ho
      injection hu with e1 e2 e3; subst e1; subst e3
      rcases hd with h0 | ⟨b, o, had, hcell⟩
      · subst h0
        have : olds = [] := List.eq_nil_of_length_eq_zero (by simpa using hlen)
        subst this
        cases ad with
        | none => simp [Builtin.firstCells]
        | some a => simp [Builtin.firstCells, loadCells, loadCellsFrom]
      · subst had
        exact run_firstCells_some w.drew i.size n _ n cap olds hlen fun j v h => by rw [add_none]; simpa using hcell j v h
    have := run_append_grow_src (P := P) w t tx ty e i z ht hi hz ad n cap olds hold x m news hx hg (by omega) (growslice_fits hg (by rw [hby]; exact hfit))
    have hcap := grownCap_ge w (n + m) cap e
    refine ⟨_, _, _, this, .grown (rest := (Builtin.zeroCells z.cells (grownCap w (n + m) cap e - (n + m))).toList) hcap (by simp) ?_ rfl⟩
    have hol : olds.length = n * i.size := by obtain ⟨_, _, _, _, h, _⟩ := ho; exact h
    simp only [Array.size_append, List.size_toArray, List.length_append, hol, hnl, Builtin.zeroCells, Array.size_map, Array.size_range, hzs]
    rw [← Nat.add_mul, ← Nat.add_mul]
    congr 1
    omega
  · rcases hs with ⟨h0, hc⟩ | ⟨b, o, row, had, hrow, hnc, hle⟩
    · subst h0; subst hc
      have hm : m = 0 := by omega
      subst hm
      have : news = [] := List.eq_nil_of_length_eq_zero (by simpa using hnl)
      subst this
      exact ⟨_, _, _, run_append_zero ht hi ad hx, .nothing rfl rfl⟩
    · subst had
      have hfits : o + n * i.size + news.length ≤ row.size := by
        have : (n + m) * i.size ≤ cap * i.size := Nat.mul_le_mul_right _ (by omega)
        rw [Nat.add_mul] at this
        omega
      have := run_append_room_src (P := P) w t tx ty e i ht hi b o n cap x m news hx (by omega) (fun j hj => cell_some hrow (by omega)) (fun j _ => frozen_row hrow _)
      exact ⟨_, _, _, this, .room rfl (by omega)⟩
end
end Go.Lf
