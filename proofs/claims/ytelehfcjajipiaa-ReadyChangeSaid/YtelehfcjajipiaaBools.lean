/-
  A row of bools that a law keeps in memory: as a function of the index.
-/
import Derived.Test.YtelehfcjajipiaaBase
namespace Go.Proofs.Ytelehfcjajipiaa
open Go.RowKit

/-- N cells: cell i holds the bool f i. -/
def boolCells (n : Nat) (f : Nat → Bool) : Array Value := ((List.range n).map (fun i => Value.bool (f i))).toArray
theorem boolCells_size (n : Nat) (f : Nat → Bool) : (boolCells n f).size = n := by simp [boolCells]
theorem boolCells_get {n i : Nat} (f : Nat → Bool) (h : i < n) : (boolCells n f)[i]? = some (.bool (f i)) := by simp [boolCells, h]
theorem boolCells_congr {n : Nat} {f g : Nat → Bool} (h : ∀ i, i < n → f i = g i) : boolCells n f = boolCells n g := by
  unfold boolCells
  congr 1
  apply List.map_congr_left
  intro i hi
  rw [h i (List.mem_range.1 hi)]
theorem boolCells_set {n i : Nat} (f : Nat → Bool) (h : i < n) (b : Bool) : (boolCells n f).setIfInBounds i (.bool b) = boolCells n (fun j => if j = i then b else f j) := by
  apply Array.ext_getElem?
  intro j
  rw [Array.getElem?_setIfInBounds]
  by_cases e : i = j
  · subst e
    rw [if_pos rfl, if_pos (by rw [boolCells_size]; exact h), boolCells_get _ h, if_pos rfl]
  · rw [if_neg e]
    by_cases hj : j < n
    · have e' : ¬ j = i := fun x => e x.symm
      rw [boolCells_get _ hj, boolCells_get _ hj]
      simp [e']
    · rw [Array.getElem?_eq_none (by rw [boolCells_size]; omega), Array.getElem?_eq_none (by rw [boolCells_size]; omega)]
theorem bools_cell {w : World} {b n i : Nat} {f : Nat → Bool} {t : TypeId} (h : w.heap[b]? = some (.cells (boolCells n f) t (0, 0))) (hi : i < n) : w.cell? ⟨b, i, none⟩ = some (.bool (f i)) := by
  rw [cell_blk h, boolCells_get _ hi]
theorem bools_set {w : World} {b n i : Nat} {f : Nat → Bool} {t : TypeId} (h : w.heap[b]? = some (.cells (boolCells n f) t (0, 0))) (hi : i < n) (x : Bool) :
    (w.setCell ⟨b, i, none⟩ (.bool x)).heap[b]? = some (.cells (boolCells n (fun j => if j = i then x else f j)) t (0, 0)) := by
  rw [← boolCells_set f hi]
  exact blk_set h _

end Go.Proofs.Ytelehfcjajipiaa
