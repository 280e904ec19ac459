/-
  ReadyGoes' plain law: who goes leaves the others as they stand; gone it may come again.
-/
import Derived.Test.YtelehfcjajipiaaOrderP
namespace Go.Proofs.Ytelehfcjajipiaa
open Go.RowKit

/-- Nobody stands in two rows. -/
def Uniq (r : Nat → List Int) : Prop := ∀ p q, p < 101 → q < 101 → ∀ x, x ∈ r p → x ∈ r q → p = q

theorem Uniq.ord (z : List Int) (k : Nat) : Uniq (ordR z k) := by
  intro p q _ _ x hp hq
  obtain ⟨i, _, h1, rfl⟩ := mem_ordR.1 hp
  obtain ⟨j, _, h2, e⟩ := mem_ordR.1 hq
  obtain rfl : i = j := by omega
  omega
theorem Uniq.go {r : Nat → List Int} (h : Uniq r) (x : Int) : Uniq (goR r x) := by
  have key : ∀ p y, y ∈ goR r x p → y ∈ r p := by
    intro p y hy
    cases hp : prio r x with
    | none => simp only [goR, hp] at hy; exact hy
    | some p0 =>
      simp only [goR, hp] at hy
      unfold upd at hy
      split at hy
      · rename_i e; subst e; exact (List.mem_filter.1 hy).1
      · exact hy
  exact fun p q h1 h2 y hy1 hy2 => h p q h1 h2 y (key _ _ hy1) (key _ _ hy2)
theorem Uniq.come {r : Nat → List Int} (h : Uniq r) (x pr : Int) : Uniq (come r x pr) := by
  unfold Proofs.Ytelehfcjajipiaa.come
  split
  · rename_i hc
    have hn : prio r x = none := by
      unfold comeC at hc
      split at hc
      · split at hc
        · omega
        · rename_i h2; simpa using h2
      · omega
    have hno := prio_none.1 hn
    intro p q h1 h2 y hy1 hy2
    unfold upd at hy1 hy2
    split at hy1 <;> split at hy2
    · omega
    · rename_i e1 e2
      rcases List.mem_append.1 hy1 with g | g
      · exact h p q h1 h2 y (by rw [e1]; exact g) hy2
      · rw [List.mem_singleton.1 g] at hy2; exact absurd hy2 (hno q h2)
    · rename_i e1 e2
      rcases List.mem_append.1 hy2 with g | g
      · exact h p q h1 h2 y hy1 (by rw [e2]; exact g)
      · rw [List.mem_singleton.1 g] at hy1; exact absurd hy1 (hno p h1)
    · exact h p q h1 h2 y hy1 hy2
  · exact h

theorem less_append (x : Int) (a b : List Int) : less x (a ++ b) = less x a ++ less x b := List.filter_append ..
theorem less_cat {r : Nat → List Int} {x : Int} : ∀ n, less x (cat r n) = cat (fun i => less x (r i)) n
  | 0 => rfl
  | n + 1 => by rw [cat, cat, less_append, less_cat n]
/-- Who goes is taken out of all; the others stand as they stood. -/
theorem allQ_go {r : Nat → List Int} (h : Uniq r) (x : Int) : allQ (goR r x) = less x (allQ r) := by
  rw [allQ, allQ, less_cat]
  apply cat_congr
  intro i hi
  cases hp : prio r x with
  | none => simp only [goR, hp]; exact (less_none (prio_none.1 hp i hi)).symm
  | some p =>
    simp only [goR, hp]
    obtain ⟨h1, h2⟩ := prio_spec hp
    by_cases e : i = p
    · subst e; rw [upd_same]
    · rw [upd_ne _ _ e]
      exact (less_none (fun hm => e (h i p hi h1 x hm h2))).symm
theorem mem_allQ {r : Nat → List Int} {x : Int} : x ∈ allQ r ↔ (prio r x).isSome = true := by
  rw [allQ, mem_cat]
  constructor
  · rintro ⟨i, h1, h2⟩
    cases hp : prio r x with
    | none => exact absurd h2 (prio_none.1 hp i h1)
    | some p => rfl
  · intro h
    cases hp : prio r x with
    | none => rw [hp] at h; simp at h
    | some p => exact ⟨p, prio_spec hp⟩
theorem less_lt {x : Int} {l : List Int} : (less x l).length < l.length ↔ x ∈ l := by
  induction l with
  | nil => simp [less]
  | cons y l ih =>
    have hle : (less x l).length ≤ l.length := List.length_filter_le _ _
    simp only [less, List.filter_cons]
    by_cases e : y = x
    · subst e
      simp only [beq_self_eq_true, Bool.not_true, Bool.false_eq_true, if_false, List.length_cons, List.mem_cons, true_or, iff_true]
      simp only [less] at hle
      omega
    · have : (y == x) = false := by simpa using e
      simp only [this, Bool.not_false, if_true, List.length_cons, List.mem_cons]
      simp only [less] at ih
      have e' : ¬ x = y := fun h => e h.symm
      simp only [e', false_or]
      exact ⟨fun h => ih.1 (by omega), fun h => by have := ih.2 h; omega⟩
/-- Gone it is no member. -/
theorem prio_go {r : Nat → List Int} (h : Uniq r) (x : Int) : prio (goR r x) x = none := by
  have : x ∉ allQ (goR r x) := by rw [allQ_go h]; simp [less]
  cases hp : prio (goR r x) x with
  | none => rfl
  | some p => exact absurd (mem_allQ.2 (by rw [hp]; rfl)) this
theorem come_again {r : Nat → List Int} (h : Uniq r) {x : Int} (h0 : 0 ≤ x) (h1 : x ≤ 63) : comeC (goR r x) x 50 = 0 ∧ comeC (come (goR r x) x 50) x 50 = 7 := by
  have hm : mayB x 50 = true := mayB_iff.2 ⟨h0, h1, by omega, by omega⟩
  have hc : comeC (goR r x) x 50 = 0 := by simp [comeC, hm, prio_go h]
  refine ⟨hc, ?_⟩
  have hs : (prio (come (goR r x) x 50) x).isSome = true := by
    rw [← mem_allQ, allQ, mem_cat]
    refine ⟨50, by omega, ?_⟩
    rw [come, if_pos hc]
    rw [show (50 : Int).toNat = 50 from rfl, upd_same]
    simp
  simp [comeC, hm, hs]
theorem goC_all (r : Nat → List Int) (x : Int) (h : Uniq r) : (goC r x = 0 ∧ (allQ (goR r x)).length < (allQ r).length) ∨ (goC r x = 6 ∧ (allQ (goR r x)).length = (allQ r).length) := by
  have hl := @less_lt x (allQ r)
  have hle : (less x (allQ r)).length ≤ (allQ r).length := List.length_filter_le _ _
  rw [allQ_go h]
  unfold goC
  split
  · rename_i hs; exact Or.inl ⟨rfl, hl.2 (mem_allQ.2 hs)⟩
  · rename_i hs
    refine Or.inr ⟨rfl, ?_⟩
    have : ¬ (less x (allQ r)).length < (allQ r).length := fun h => hs (mem_allQ.1 (hl.1 h))
    omega

/-- How many of the first j stand in the list without x. -/
def cnt (x : Int) (l : List Int) (j : Nat) : Nat := (less x (l.take j)).length
theorem cnt_zero (x : Int) (l : List Int) : cnt x l 0 = 0 := rfl
theorem cnt_eq {x : Int} {l : List Int} {j : Nat} (h : j < l.length) (e : zv l j = x) : cnt x l (j + 1) = cnt x l j := by
  rw [cnt, less_snoc_drop h (by rw [← getD_in h]; simpa [zv] using e), cnt]
theorem cnt_ne {x : Int} {l : List Int} {j : Nat} (h : j < l.length) (e : ¬ zv l j = x) : cnt x l (j + 1) = cnt x l j + 1 ∧ cnt x l j < (less x l).length ∧ zv (less x l) (cnt x l j) = zv l j := by
  have hb : (l[j] == x) = false := by rw [← getD_in h]; simpa [zv] using e
  refine ⟨by rw [cnt, less_snoc_keep h hb, cnt]; simp, ?_⟩
  have hsplit : less x l = less x (l.take j) ++ (l[j] :: less x (l.drop (j + 1))) := by
    have : l = l.take j ++ l[j] :: l.drop (j + 1) := by rw [← List.drop_eq_getElem_cons h, List.take_append_drop]
    have e0 : less x l = less x (l.take j ++ l[j] :: l.drop (j + 1)) := congrArg (less x) this
    have e2 : less x (l[j] :: l.drop (j + 1)) = l[j] :: less x (l.drop (j + 1)) := by unfold less; rw [List.filter_cons, if_pos (by rw [hb]; rfl)]
    rw [e0, less_append, e2]
  have hlt : cnt x l j < (less x l).length := by
    rw [hsplit, List.length_append, List.length_cons, cnt]
    omega
  refine ⟨hlt, ?_⟩
  rw [zv, zv, getD_in hlt, getD_in h]
  simp only [hsplit, cnt]
  simp
theorem cnt_full (x : Int) (l : List Int) : cnt x l l.length = (less x l).length := by rw [cnt, List.take_length]

/-- A row of numbers that the law holds, read lazily. -/
theorem RowAt.get {w : World} {G : Nat → Prop} {ao : Option Addr} {n cap : Nat} {l : List Int} (h : RowAt w G (.slice ao n cap) n 1 (ints l)) (hn : 0 < n) :
    ∃ b off, ao = some ⟨b, off, none⟩ ∧ G b ∧ b < w.heap.size ∧ ∀ j, j < l.length → w.cell? ⟨b, off + j, none⟩ = some (.int .i64 (zv l j)) := by
  obtain ⟨_, h⟩ := h
  rcases h with ⟨_, h0⟩ | ⟨b, off, cap', hv, _, _, hg, hb, hc⟩
  · omega
  · injection hv with e1 e2 e3
    exact ⟨b, off, e1, hg, hb, fun j hj => by rw [hc j _ (ints_get hj), zv, getD_in hj]⟩

end Go.Proofs.Ytelehfcjajipiaa
