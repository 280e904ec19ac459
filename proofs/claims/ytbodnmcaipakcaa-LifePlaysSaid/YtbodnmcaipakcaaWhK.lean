/-
  slices.SortFunc(.., cmp.Compare) at ints.
-/
import Derived.Test.YtbodnmcaipakcaaWhJ
import Derived.Shelf.SlSortCmp.NoneTotal
namespace Go.Proofs.Ytbodnmcaipakcaa
open Go.RowKit Go.ChangeMaps Go.MapKept Go.Shelf Go.Maps Go.Lib Go.Sort

/-- What cmp.Compare tells. -/
def cfI (x y : Int) : Int := if x < y then -1 else if y < x then 1 else 0
theorem nan_int (x : Int) (w : World) : Calls Try.prog 45 #[.int .i64 x] w fun e w' => e = .returned (.bool false) ∧ w = w' := by
  have hx : (x != x) = false := by simp
  go_enter Try.func45, Try.ntmps45
  go_wp2
  go_ret
  exact ⟨rfl, rfl⟩
theorem cmp_int (x y : Int) (w : World) : Calls Try.prog 38 #[.int .i64 x, .int .i64 y] w fun e w' => e = .returned (.int .i64 (cfI x y)) ∧ w = w' := by
  have hx := nan_int x w
  have hy := nan_int y w
  have HX := Box.mk hx
  have HY := Box.mk hy
  have HC : Box (cfI x y = if x < y then -1 else if y < x then 1 else 0) := ⟨rfl⟩
  clear hx hy
  go_enter Try.func38, Try.ntmps38
  by_cases h1 : x < y
  · have hc : cfI x y = -1 := by rw [HC.out, if_pos h1]
    rw [hc]
    clear hc
    go_wp2_with (first | (go_at_call 45; (with_reducible refine HX.out.mono ?_); rintro e w1 ⟨rfl, rfl⟩) | (go_at_call 45; (with_reducible refine HY.out.mono ?_); rintro e w1 ⟨rfl, rfl⟩))
    go_ret
    exact ⟨rfl, rfl⟩
  · by_cases h2 : y < x
    · have hc : cfI x y = 1 := by rw [HC.out, if_neg h1, if_pos h2]
      rw [hc]
      clear hc
      go_wp2_with (first | (go_at_call 45; (with_reducible refine HX.out.mono ?_); rintro e w1 ⟨rfl, rfl⟩) | (go_at_call 45; (with_reducible refine HY.out.mono ?_); rintro e w1 ⟨rfl, rfl⟩))
      go_ret
      exact ⟨rfl, rfl⟩
    · have hc : cfI x y = 0 := by rw [HC.out, if_neg h1, if_neg h2]
      rw [hc]
      clear hc
      go_wp2_with (first | (go_at_call 45; (with_reducible refine HX.out.mono ?_); rintro e w1 ⟨rfl, rfl⟩) | (go_at_call 45; (with_reducible refine HY.out.mono ?_); rintro e w1 ⟨rfl, rfl⟩))
      go_ret
      exact ⟨rfl, rfl⟩

theorem ltI (x y : Int) : ltOf cfI x y = decide (x < y) := by
  unfold ltOf cfI
  by_cases h1 : x < y
  · simp [h1]
  · by_cases h2 : y < x <;> simp [h1, h2]
theorem swoI : SWO (ltOf cfI) where
  irrefl x := by rw [ltI]; simp
  trans x y z h1 h2 := by rw [ltI] at *; simp at *; omega
  ntrans x y z h1 h2 := by rw [ltI] at *; simp at *; omega
/-- The row, sorted. -/
def srt (ss : List Int) : List Int := ss.mergeSort fun x y => !(ltOf cfI) y x
theorem cmpLays (blk size : Nat) (w : World) : CmpLays1 Try.prog 38 #[] (Value.int .i64) cfI blk 0 size w :=
  CmpReads.lays fun m os dk _ x y => (cmp_int x y _).mono fun e w' ⟨he, hw⟩ => ⟨he, 0, hw.symm⟩
theorem sort_call (blk cap : Nat) (ss : List Int) (w : World) (hH : Holds (Value.int .i64) w blk 0 ss.toArray) (hblk : blk < w.heap.size) (hsz : ss.length < 4611686018427387904) :
    Calls Try.prog 37 #[.slice (some ⟨blk, 0, none⟩) ss.length cap, .func (.func 38) #[] #[]] w fun e w' => e = .returned (.tuple #[]) ∧ ∃ n os, w' = sortWorld (Value.int .i64) w blk 0 n (srt ss).toArray os :=
  Any.slices_SortFunc_total Try.sortF (Value.int .i64) (fun _ => rfl) cfI swoI 38 #[] blk 0 cap ss.toArray w (enters_of Try.func38 (by kernel_rfl) rfl) (cmpLays blk _ w) hH hblk (by simpa using hsz) (fun x y h1 h2 => by rw [ltI] at h1 h2; simp at h1 h2; omega)
theorem srt_mem (ss : List Int) (x : Int) : x ∈ srt ss ↔ x ∈ ss := (List.mergeSort_perm ss _).mem_iff
theorem srt_len (ss : List Int) : (srt ss).length = ss.length := (List.mergeSort_perm ss _).length_eq
theorem srt_sorted (ss : List Int) : (srt ss).Pairwise (· ≤ ·) := by
  have h := List.pairwise_mergeSort (le := fun x y => !(ltOf cfI) y x) (fun a b c h1 h2 => by rw [ltI] at *; simp at *; omega) (fun a b => by simp only [ltI]; simp; omega) ss
  exact h.imp fun {a b} h => by rw [ltI] at h; simpa using h

theorem sort_blk {w : World} {blk : Nat} {cs : Array Value} {T : TypeId} (h : w.heap[blk]? = some (.cells cs T (0, 0))) (n : Nat) (d : Array Int) (os : Array Obj) :
    (sortWorld (Value.int .i64) w blk 0 n d os).heap[blk]? = some (.cells (putCells (Value.int .i64) 0 d cs) T (0, 0)) ∧ Fr (fun k => k = blk) w (sortWorld (Value.int .i64) w blk 0 n d os) := by
  have hlt := lt_blk h
  have hsz : (w.heap.modify blk (onCells (putCells (Value.int .i64) 0 d))).size = w.heap.size := by simp
  have hh : (sortWorld (Value.int .i64) w blk 0 n d os).heap = w.heap.modify blk (onCells (putCells (Value.int .i64) 0 d)) ++ os := rfl
  refine ⟨?_, ⟨rfl, rfl, rfl, ?_, fun k hk hne => ?_⟩⟩
  · rw [hh, Array.getElem?_append_left (by omega), Array.getElem?_modify, if_pos rfl, h]
    rfl
  · rw [hh, Array.size_append]; omega
  · rw [hh, Array.getElem?_append_left (by omega), Array.getElem?_modify, if_neg (fun e => hne e.symm)]
theorem put_row (d : List Int) (cs : Array Value) (hle : d.length ≤ cs.size) : (putCells (Value.int .i64) 0 d.toArray cs).size = cs.size ∧ ∀ j (hj : j < d.length), (putCells (Value.int .i64) 0 d.toArray cs)[j]? = some (.int .i64 d[j]) := by
  refine ⟨by simp [putCells], fun j hj => ?_⟩
  unfold putCells
  rw [Array.getElem?_mapIdx, Array.getElem?_eq_getElem (by omega)]
  simp [hj]
/-- slices.SortFunc at a row of ints. -/
theorem sort_any (blk cap : Nat) (ss : List Int) (cs : Array Value) (w : World) (h : w.heap[blk]? = some (.cells cs 3 (0, 0))) (hc : ∀ j (hj : j < ss.length), cs[j]? = some (.int .i64 ss[j])) (hsz : ss.length < 4611686018427387904) :
    Calls Try.prog 37 #[.slice (some ⟨blk, 0, none⟩) ss.length cap, .func (.func 38) #[] #[]] w fun e w' => e = .returned (.tuple #[]) ∧ Fr (fun k => k = blk) w w' ∧ ∃ cs', w'.heap[blk]? = some (.cells cs' 3 (0, 0)) ∧ cs'.size = cs.size ∧ ∀ j (hj : j < (srt ss).length), cs'[j]? = some (.int .i64 (srt ss)[j]) := by
  have hle : ss.length ≤ cs.size := by
    rcases Nat.lt_or_ge cs.size ss.length with g | g
    · have := hc cs.size g
      simp at this
    · exact g
  refine (sort_call blk cap ss w (fun j hj => ?_) (lt_blk h) hsz).mono fun e w' hx => ?_
  · have hj' : j < ss.length := by simpa using hj
    rw [Nat.zero_add]
    refine ⟨(cell_blk h j).trans ((hc j hj').trans ?_), free_blk h j⟩
    simp [hj']
  · obtain ⟨e1, n, os, rfl⟩ := hx
    obtain ⟨h1, h2⟩ := sort_blk h n (srt ss).toArray os
    obtain ⟨h3, h4⟩ := put_row (srt ss) cs (by rw [srt_len]; exact hle)
    exact ⟨e1, h2, _, h1, h3, h4⟩

end Go.Proofs.Ytbodnmcaipakcaa
