/-
  move, plainly: the levels that are done, the timers of a level that are done.
-/
import Derived.Test.YtbodnmcaipakcaaWhF
namespace Go.Proofs.Ytbodnmcaipakcaa
open Go.RowKit Go.ChangeMaps Go.MapKept

/-- Levels from k on are done; at the level below, all of the place q but those of the list. -/
def LevR (M : WM) (n k : Nat) (todo : Nat → Nat → Prop) (X : WM) : Prop :=
  X.now = n ∧ (∀ i, M.f i = none → X.f i = none) ∧ ∀ i s, M.f i = some s → X.f i = some (spotOf s.at' n) ∨ (X.f i = some s ∧ ((k ≤ s.lv ∧ ¬ todo s.lv i) → (partN M.now s.lv = partN n s.lv ∨ s.pl ≠ partN n s.lv)))
theorem LevR.start (M : WM) (n : Nat) (hs : ∀ i s, M.f i = some s → s.lv < 16) : LevR M n 16 (fun _ _ => False) ⟨n, M.f⟩ :=
  ⟨rfl, fun _ h => h, fun i s h => .inr ⟨h, fun hk => by have := hs i s h; omega⟩⟩
theorem LevR.done {M X : WM} {n : Nat} (h : LevR M n 0 (fun _ _ => False) X) : MoveR M n X :=
  ⟨h.1, h.2.1, fun i s hi => (h.2.2 i s hi).imp id fun g => ⟨g.1, g.2 ⟨by omega, fun h => h⟩⟩⟩
/-- A level where the part stays. -/
theorem LevR.skip {M X : WM} {n k : Nat} (h : LevR M n (k + 1) (fun _ _ => False) X) (he : partN M.now k = partN n k) : LevR M n k (fun _ _ => False) X :=
  ⟨h.1, h.2.1, fun i s hi => (h.2.2 i s hi).imp id fun g => ⟨g.1, fun hk => by
    by_cases e : s.lv = k
    · rw [e]; exact .inl he
    · exact g.2 ⟨by omega, fun h => h⟩⟩⟩
/-- What is still to do: the list's rest. -/
def Todo (k : Nat) (ss : List Int) (j : Nat) : Nat → Nat → Prop := fun l i => l = k ∧ (i : Int) ∈ ss.drop j
theorem LevR.begin {M X : WM} {n k : Nat} {ss : List Int} (h : LevR M n (k + 1) (fun _ _ => False) X) (hss : ∀ x, x ∈ ss ↔ (X.row k (partN n k) x).isSome = true) : LevR M n k (Todo k ss 0) X :=
  ⟨h.1, h.2.1, fun i s hi => (h.2.2 i s hi).imp id fun g => ⟨g.1, fun hk => by
    by_cases e : s.lv = k
    · refine .inr fun hpl => hk.2 ⟨e, ?_⟩
      rw [List.drop_zero, hss]
      have hl : Lies X k (partN n k) i s := ⟨g.1, e, by rw [hpl, e]⟩
      rw [row_of_lies hl]; rfl
    · exact g.2 ⟨by omega, fun h => h⟩⟩⟩
theorem LevR.end' {M X : WM} {n k : Nat} {ss : List Int} {j : Nat} (h : LevR M n k (Todo k ss j) X) (hj : ss.length ≤ j) : LevR M n k (fun _ _ => False) X :=
  ⟨h.1, h.2.1, fun i s hi => (h.2.2 i s hi).imp id fun g => ⟨g.1, fun hk => g.2 ⟨hk.1, fun ht => by
    have := ht.2
    rw [List.drop_eq_nil_of_le hj] at this
    cases this⟩⟩⟩
/-- One that was there is there still, its time the same. -/
theorem LevR.there {M X : WM} {n k : Nat} {t : Nat → Nat → Prop} (h : LevR M n k t X) {i : Nat} (hi : M.f i ≠ none) : ∃ s s', M.f i = some s ∧ X.f i = some s' ∧ s'.at' = s.at' := by
  cases hs : M.f i with
  | none => exact absurd hs hi
  | some s =>
    rcases h.2.2 i s hs with g | ⟨g, _⟩
    · exact ⟨s, _, rfl, g, rfl⟩
    · exact ⟨s, s, rfl, g, rfl⟩
theorem LevR.was {M X : WM} {n k : Nat} {t : Nat → Nat → Prop} (h : LevR M n k t X) {i : Nat} (hi : X.f i ≠ none) : M.f i ≠ none := fun e => hi (h.2.1 i e)
/-- The next of the list. -/
theorem LevR.step {M X : WM} {n k : Nat} {ss : List Int} {j i : Nat} {s s' : Spot} (h : LevR M n k (Todo k ss j) X) (hj : j < ss.length) (hi : ss[j] = (i : Int)) (hm : M.f i = some s) (ha : s'.at' = s.at') : LevR M n k (Todo k ss (j + 1)) ((X.drop i).put i s'.at') := by
  have hf : ∀ y, ((X.drop i).put i s'.at').f y = if y = i then some (spotOf s'.at' X.now) else X.f y := fun y => by
    show updF (updF X.f i none) i _ y = _
    unfold updF
    by_cases e : y = i
    · simp [e, WM.drop]
    · simp [e]
  refine ⟨h.1, fun y hy => ?_, fun y t hy => ?_⟩
  · rw [hf]
    have : y ≠ i := fun e => by rw [e, hm] at hy; cases hy
    rw [if_neg this]; exact h.2.1 y hy
  · rw [hf]
    by_cases e : y = i
    · rw [if_pos e]
      subst e
      rw [hm] at hy
      cases hy
      left
      rw [ha, h.1]
    · rw [if_neg e]
      refine (h.2.2 y t hy).imp id fun g => ⟨g.1, fun hk => g.2 ⟨hk.1, fun ht => hk.2 ⟨ht.1, ?_⟩⟩⟩
      have := ht.2
      rw [List.drop_eq_getElem_cons hj, List.mem_cons] at this
      rcases this with g | g
      · exact absurd (by omega) e
      · exact g

end Go.Proofs.Ytbodnmcaipakcaa
