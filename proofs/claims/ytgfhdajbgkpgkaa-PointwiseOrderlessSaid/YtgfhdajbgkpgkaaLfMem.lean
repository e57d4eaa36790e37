import Derived.Test.YtgfhdajbgkpgkaaLfPath
import Derived.Deep.AppendSrc
set_option linter.unusedVariables false
/-! Lf: memory, step by step. -/
namespace Go.Lf

theorem add_none (b o n : Nat) : (⟨b, o, none⟩ : Addr).add n = ⟨b, o + n, none⟩ := by
  unfold Addr.add
  split
  · rename_i h; subst h; rfl
  · rfl

/-- Everything but the heap is as it was. -/
structure Apart (w w' : World) : Prop where
  os : w'.os = w.os
  tape : w'.tape = w.tape
  output : w'.output = w.output

theorem Apart.refl (w : World) : Apart w w := ⟨rfl, rfl, rfl⟩
theorem Apart.trans {a b c : World} (h : Apart a b) (k : Apart b c) : Apart a c := ⟨k.os.trans h.os, k.tape.trans h.tape, k.output.trans h.output⟩

theorem setCells_apart (b : Nat) : ∀ (us : List Value) (o : Nat) (w : World), Apart w (w.setCells b o us)
  | [], _, w => Apart.refl w
  | u :: us, o, w => Apart.trans (b := w.setCell ⟨b, o, none⟩ u) ⟨rfl, rfl, rfl⟩ (setCells_apart b us (o + 1) _)

theorem setCells_size (b : Nat) : ∀ (us : List Value) (o : Nat) (w : World), (w.setCells b o us).heap.size = w.heap.size
  | [], _, _ => rfl
  | u :: us, o, w => by
    show ((w.setCell ⟨b, o, none⟩ u).setCells b (o + 1) us).heap.size = _
    rw [setCells_size b us]; exact World.size_setCell _ _ _

theorem setCell_other (w : World) (a : Addr) (u : Value) (c : Nat) (h : c ≠ a.block) : (w.setCell a u).heap[c]? = w.heap[c]? :=
  RowKit.Below.heap_setCell w a u c h

theorem setCells_other (b : Nat) : ∀ (us : List Value) (o : Nat) (w : World) (c : Nat), c ≠ b → (w.setCells b o us).heap[c]? = w.heap[c]?
  | [], _, _, _, _ => rfl
  | u :: us, o, w, c, h => by
    show ((w.setCell ⟨b, o, none⟩ u).setCells b (o + 1) us).heap[c]? = _
    rw [setCells_other b us (o + 1) _ c h]
    exact setCell_other w ⟨b, o, none⟩ u c h

theorem setCell_row {w : World} {b : Nat} {row : Array Value} (h : Row w b row) (o : Nat) (u : Value) : Row (w.setCell ⟨b, o, none⟩ u) b (row.setIfInBounds o u) := by
  obtain ⟨t, h⟩ := h
  refine ⟨t, ?_⟩
  simp only [World.setCell]
  rw [Array.getElem?_modify]
  simp [h]

theorem Spliced.nil (row : Array Value) {a : Nat} (h : a ≤ row.size) : Spliced row row a [] := by
  refine ⟨by simpa using h, ?_⟩
  simp

theorem setCells_row (b : Nat) : ∀ (us : List Value) (o : Nat) (w : World) (row : Array Value), Row w b row → o + us.length ≤ row.size →
    ∃ row', Row (w.setCells b o us) b row' ∧ Spliced row row' o us
  | [], o, w, row, h, hs => ⟨row, h, Spliced.nil row (by simpa using hs)⟩
  | u :: us, o, w, row, h, hs => by
    have hs' : o + (us.length + 1) ≤ row.size := hs
    obtain ⟨row', hr, hsp⟩ := setCells_row b us (o + 1) (w.setCell ⟨b, o, none⟩ u) _ (setCell_row h o u) (by simp; omega)
    refine ⟨row', hr, hs, ?_⟩
    apply List.ext_getElem?
    intro q
    rw [hsp.get, List.append_assoc, List.getElem?_append, List.getElem?_append]
    simp only [List.length_take, Array.length_toList, List.getElem?_take, List.getElem?_drop, List.length_cons]
    have hm : min o row.size = o := by omega
    rw [hm]
    have hset : ∀ q, (row.setIfInBounds o u).toList[q]? = if q = o then some u else row.toList[q]? := by
      intro q
      rw [Array.toList_setIfInBounds, List.getElem?_set]
      by_cases h : o = q
      · subst h
        have : o < row.toList.length := by rw [Array.length_toList]; omega
        simp
        omega
      · have : ¬ q = o := fun e => h e.symm
        simp [h, this]
    rw [hset]
    by_cases h1 : q < o
    · have : q < o + 1 := by omega
      have h2 : ¬ q = o := by omega
      simp [h1, this, h2]
    · simp only [h1, if_false]
      by_cases h2 : q = o
      · subst h2
        simp
      · have h3 : ¬ q < o + 1 := by omega
        simp only [h3, if_false, h2]
        by_cases h4 : q < o + 1 + us.length
        · have h5 : q - o < us.length + 1 := by omega
          simp only [h4, if_true, h5]
          have : q - o = (q - (o + 1)) + 1 := by omega
          rw [this, List.getElem?_cons_succ]
        · have h5 : ¬ q - o < us.length + 1 := by omega
          simp only [h4, if_false, h5]
          congr 1; omega

theorem frozen_row {w : World} {b : Nat} {row : Array Value} (h : Row w b row) (i : Nat) : w.frozen? ⟨b, i, none⟩ = false := by
  obtain ⟨t, h⟩ := h
  simp [World.frozen?, h]

theorem cell_some {w : World} {b i : Nat} {row : Array Value} (h : Row w b row) (hi : i < row.size) : (w.cell? ⟨b, i, none⟩).isSome = true := by
  rw [cell_of_row h.s (Array.getElem?_eq_getElem hi)]
  rfl

/-- Cells of an owned row are stored. -/
theorem run_store_row {P : Program} {w : World} {b o : Nat} {row : Array Value} {us : List Value} (h : Row w b row) (hs : o + us.length ≤ row.size) (h1 : ∀ u ∈ us, u.oneCell' = true) :
    (storeCells ⟨b, o, none⟩ us).run P w = .ok () (w.setCells b o us) := by
  have := run_storeCells_cells (P := P) b o us 0 w (fun j hj => cell_some h (by omega)) (fun j _ => frozen_row h _) h1
  simpa using this

/-- Cells are loaded. -/
theorem run_load_seg {P : Program} {w : World} {b o n : Nat} {row : Array Value} (h : RowS w b row) (hs : o + n ≤ row.size) :
    (loadCells ⟨b, o, none⟩ n).run P w = .ok (seg row o n).toArray w := by
  have := run_loadCells_list (P := P) w ⟨b, o, none⟩ (seg row o n) (fun j v hv => by
    rw [add_none]
    exact cell_of_row h (row_of_seg hv))
  rwa [seg_length hs] at this

theorem oneCell_leaf {w : World} {F : Bs} {v : V} {u : Value} {G : Bs} (h : LfR w F v u G) (hv : v ≠ .undef) : u.oneCell' = true := by
  cases v with
  | undef => exact absurd rfl hv
  | int => rw [h.1]; rfl
  | bool => rw [h.1]; rfl
  | nilp => rw [h.1]; rfl
  | nils => obtain ⟨⟨ad, hu⟩, _⟩ := h; rw [hu]; rfl
  | sl τ l => obtain ⟨_, ad, cap, hu, _⟩ := h; injection hu with hu; rw [hu]; rfl
  | ow τ l => obtain ⟨u', hu, ⟨ad, cap, hu', _⟩, _⟩ := h; injection hu with hu; rw [hu, hu']; rfl
  | bx τ x => obtain ⟨b, row, G', hu, _⟩ := h; injection hu with hu; rw [hu]; rfl
  | _ => exact h.elim

theorem alloc_old (w : World) (o : Obj) {c : Nat} (h : c < w.heap.size) : (w.alloc o).heap[c]? = w.heap[c]? := heap_alloc_old w o c h
theorem alloc_row (w : World) (row : Array Value) (t : TypeId) : Row (w.alloc (.cells row t)) w.heap.size row := ⟨t, heap_alloc_new w _⟩

end Go.Lf
