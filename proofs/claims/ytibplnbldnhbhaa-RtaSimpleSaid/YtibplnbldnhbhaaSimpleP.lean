/-
  RtaSimple's plain law: one task alone, and one of two.
-/
import Derived.Test.YtibplnbldnhbhaaRtaI
namespace Go.Proofs.Ytibplnbldnhbhaa.rtaSimple
open Go.RowKit Go.Proofs.Ytibplnbldnhbhaa

theorem ok_one {a : WorkM} (h : a.ok = true) : okTasks [a] = true := by simp [okTasks, h]
theorem ok_two {a b : WorkM} (h : a.ok = true) (h2 : b.ok = true) : okTasks [a, b] = true := by simp [okTasks, h, h2]
theorem time_one {a : WorkM} (h : a.ok = true) : timeM [a] [] 0 = some a.cost := by
  have hk := WorkM.ok_iff.1 h
  have hw : ∀ s, wanted [a] [] 0 s = a.cost := fun s => by
    show a.cost + 0 + (0 + if 0 ≠ 0 ∧ a.prio ≤ a.prio then _ else 0) = a.cost
    simp
  exact time_found (fun t h1 h2 => by have h1 : a.cost ≤ t := h1; omega) (Nat.le_refl _) (show a.cost ≤ a.dead by omega) (hw _)
theorem Time_one {a : WorkM} (h : a.ok = true) : TimeM [a] [] 0 = some a.cost := by
  have : TimeM [a] [] 0 = timeM [a] [] 0 := by simp [TimeM, ok_one h, okLoads]
  rw [this, time_one h]
theorem all_one {a : WorkM} (h : a.ok = true) : allM ([] ++ [a]) [] = true := by
  have h2 : okTasks ([] ++ [a]) = true := ok_one h
  have h3 : timeM ([] ++ [a]) [] 0 = some a.cost := time_one h
  have h4 : List.range ([] ++ [a] : List WorkM).length = [0] := rfl
  simp only [allM, h2, h4]
  simp only [List.nil_append] at h3
  simp [okLoads, h3]
theorem wanted_two (a b : WorkM) (s : Nat) : wanted [a, b] [] 0 s = a.cost + if b.prio ≤ a.prio then up s b.period * b.cost else 0 := by
  show a.cost + 0 + (0 + (if 0 ≠ 0 ∧ a.prio ≤ a.prio then _ else 0) + if 1 ≠ 0 ∧ b.prio ≤ a.prio then up s b.period * b.cost else 0) = _
  simp
theorem Time_two (a b : WorkM) (h : a.ok = true) (h2 : b.ok = true) : TimeM [a, b] [] 0 = timeM [a, b] [] 0 := by
  simp [TimeM, ok_two h h2, okLoads]
theorem time_first {a b : WorkM} (h : a.ok = true) (h2 : b.ok = true) (hp : a.prio < b.prio) : TimeM [a, b] [] 0 = some a.cost := by
  have hk := WorkM.ok_iff.1 h
  rw [Time_two a b h h2]
  exact time_found (fun t h1 h2 => by have h1 : a.cost ≤ t := h1; omega) (Nat.le_refl _) (show a.cost ≤ a.dead by omega) (by rw [wanted_two, if_neg (by omega)]; rfl)
theorem time_second {a b : WorkM} (h : a.ok = true) (h2 : b.ok = true) (hp : ¬ a.prio < b.prio) : ∀ R, TimeM [a, b] [] 0 = some R → a.cost + b.cost ≤ R := by
  intro R hR
  have hk := WorkM.ok_iff.1 h
  have hk2 := WorkM.ok_iff.1 h2
  rw [Time_two a b h h2] at hR
  have ht := isTime [a, b] [] 0
  rw [hR] at ht
  obtain ⟨t1, _, t3, _⟩ := ht
  have t1 : a.cost ≤ R := t1
  rw [wanted_two, if_pos (by omega)] at t3
  have hu : 1 ≤ up R b.period := by
    have := up_lt (n := R) (b := b.period) (by omega)
    rcases Nat.eq_zero_or_pos (up R b.period) with e | e
    · rw [e] at this; omega
    · exact e
  have : 1 * b.cost ≤ up R b.period * b.cost := Nat.mul_le_mul_right _ hu
  omega

end Go.Proofs.Ytibplnbldnhbhaa.rtaSimple
