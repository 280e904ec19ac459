/-
  Go's lists, plainly: who is collected, who is dropped.
-/
import Derived.Test.YtbodnmcaipakcaaWhK
namespace Go.Proofs.Ytbodnmcaipakcaa
open Go.RowKit Go.ChangeMaps Go.MapKept

theorem sorted_eq {l1 l2 : List Int} (h1 : l1.Pairwise (· < ·)) (h2 : l2.Pairwise (· < ·)) (hm : ∀ x, x ∈ l1 ↔ x ∈ l2) : l1 = l2 := by
  induction l1 generalizing l2 with
  | nil =>
    cases l2 with
    | nil => rfl
    | cons b r => exact absurd ((hm b).2 (List.mem_cons_self ..)) (by simp)
  | cons a r ih =>
    cases l2 with
    | nil => exact absurd ((hm a).1 (List.mem_cons_self ..)) (by simp)
    | cons b s =>
      rw [List.pairwise_cons] at h1 h2
      have hab : a = b := by
        have e1 := (hm a).1 (List.mem_cons_self ..)
        have e2 := (hm b).2 (List.mem_cons_self ..)
        rw [List.mem_cons] at e1 e2
        rcases e1 with e1 | e1
        · exact e1
        · rcases e2 with e2 | e2
          · exact e2.symm
          · have g1 := h1.1 b e2
            have g2 := h2.1 a e1
            omega
      subst hab
      congr 1
      refine ih h1.2 h2.2 fun x => ?_
      have hx := hm x
      rw [List.mem_cons, List.mem_cons] at hx
      constructor
      · intro h
        rcases hx.1 (.inr h) with e | e
        · have := h1.1 x h; omega
        · exact e
      · intro h
        rcases hx.2 (.inr h) with e | e
        · have := h2.1 x h; omega
        · exact e
theorem srt_eq {ss : List Int} {L : List Nat} (hn : ss.Nodup) (hm : ∀ x, x ∈ ss ↔ x ∈ ints' L) (hL : L.Pairwise (· < ·)) : srt ss = ints' L := by
  refine sorted_eq ?_ ?_ fun x => (srt_mem ss x).trans (hm x)
  · have hn' : (srt ss).Nodup := (List.mergeSort_perm ss _).nodup_iff.2 hn
    have h2 := List.nodup_iff_pairwise_ne.1 hn'
    exact ((srt_sorted ss).and h2).imp fun {a b} h => by have := h.1; have := h.2; omega
  · unfold ints'
    rw [List.pairwise_map]
    exact hL.imp fun {a b} h => by omega
/-- Who is collected, the range standing where it stands. -/
def Picked (M : WM) (a : Nat) (left : Int → Bool) (ss : List Int) : Prop := ss.Nodup ∧ ∀ x, x ∈ ss ↔ left x = false ∧ ∃ s, M.all x = some s ∧ s.at' = a
theorem Picked.done {M : WM} {a : Nat} {left : Int → Bool} {ss : List Int} (h : Picked M a left ss) (hl : ∀ x, (M.all x).isSome = true → left x = false) (hids : ∀ i, 1000 ≤ i → M.f i = none) : srt ss = ints' (M.due a) := by
  refine srt_eq h.1 (fun x => ?_) (due_sorted M a)
  rw [h.2, ints'_mem, due_mem hids]
  constructor
  · rintro ⟨_, s, h1, h2⟩
    obtain ⟨e1, e2⟩ := all_some h1
    exact ⟨by omega, s, e2, h2⟩
  · rintro ⟨h0, s, h1, h2⟩
    have hx : M.all x = some s := by unfold WM.all; rw [if_pos h0]; exact h1
    exact ⟨hl x (by rw [hx]; rfl), s, hx, h2⟩
theorem Picked.take {M : WM} {a : Nat} {left : Int → Bool} {ss : List Int} {x : Int} {s : Spot} (h : Picked M a left ss) (hx : M.all x = some s) (hl : left x = true) (ha : s.at' = a) : Picked M a (fun y => left y && !decide (y = x)) (ss ++ [x]) := by
  have hnx : x ∉ ss := fun hc => by have := ((h.2 x).1 hc).1; rw [hl] at this; cases this
  refine ⟨List.nodup_append.2 ⟨h.1, by simp, fun y hy z hz e => ?_⟩, fun y => ?_⟩
  · rw [List.mem_singleton] at hz
    subst hz; subst e
    exact hnx hy
  · rw [List.mem_append, h.2, List.mem_singleton]
    by_cases e : y = x
    · subst e
      simp [hx, ha]
    · simp [e]
theorem Picked.pass {M : WM} {a : Nat} {left : Int → Bool} {ss : List Int} {x : Int} {s : Spot} (h : Picked M a left ss) (hx : M.all x = some s) (ha : s.at' ≠ a) : Picked M a (fun y => left y && !decide (y = x)) ss := by
  refine ⟨h.1, fun y => ?_⟩
  rw [h.2]
  by_cases e : y = x
  · subst e
    simp [hx, ha]
  · simp [e]
/-- Without the first j of the list. -/
def WM.without (M : WM) (L : List Nat) (j : Nat) : WM := ⟨M.now, fun i => if i ∈ L.take j then none else M.f i⟩
theorem without_zero (M : WM) (L : List Nat) : M.without L 0 = M := by
  cases M
  simp [WM.without]
theorem without_next {M : WM} {L : List Nat} {j : Nat} (hj : j < L.length) : (M.without L j).drop L[j] = M.without L (j + 1) := by
  unfold WM.without WM.drop updF
  congr 1
  funext i
  simp only
  have hm : i ∈ L.take (j + 1) ↔ i ∈ L.take j ∨ i = L[j] := by rw [List.take_succ_eq_append_getElem hj, List.mem_append, List.mem_singleton]
  by_cases e : i = L[j]
  · rw [if_pos e, if_pos (hm.2 (.inr e))]
  · rw [if_neg e]
    by_cases h : i ∈ L.take j
    · rw [if_pos h, if_pos (hm.2 (.inl h))]
    · rw [if_neg h, if_neg (fun hc => (hm.1 hc).elim h e)]
theorem without_here {M : WM} {L : List Nat} {j : Nat} (hj : j < L.length) (hL : L.Pairwise (· < ·)) : (M.without L j).f L[j] = M.f L[j] := by
  show (if _ then none else _) = _
  rw [if_neg]
  intro hc
  obtain ⟨k, hk, e⟩ := List.getElem_of_mem hc
  rw [List.getElem_take] at e
  rw [List.length_take] at hk
  have := (List.pairwise_iff_getElem.1 hL) k j (by omega) hj (by omega)
  omega
theorem without_all {M : WM} {a : Nat} (hall : ∀ i s, M.f i = some s → a ≤ s.at') (hids : ∀ i, 1000 ≤ i → M.f i = none) {j : Nat} (hj : (M.due a).length ≤ j) : (M.moved a).without (M.due a) j = M.gone a :=
  gone_least hall hids rfl fun i => by
    show (if _ then none else _) = _
    rw [List.take_of_length_le hj]

end Go.Proofs.Ytbodnmcaipakcaa
