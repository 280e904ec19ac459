/-
  Records of ticks: whether one may be: the walks of the small functions.
-/
import Derived.Test.YtimeodjfihpgeaaDoorStV
import Derived.Test.YtimeodjfihpgeaaDoorTrA
namespace Go.Proofs.YtimeodjfihpgeaaDoor
open Go.RowKit

set_option maxHeartbeats 1000000 in
theorem in_any (n l m : Int) (w : World) : Calls Tryd.prog 34 #[.int .i64 n, .int .i64 l, .int .i64 m] w fun e w' => e = .returned (.bool (decide (l ≤ n ∧ n ≤ m))) ∧ w = w' := by
  by_cases h1 : l ≤ n
  · by_cases h2 : n ≤ m
    · have e : decide (l ≤ n ∧ n ≤ m) = true := by simp [h1, h2]
      rw [e]
      clear e
      go_enter Tryd.func34, Tryd.ntmps34
      go_wp2
      go_ret
      exact ⟨rfl, rfl⟩
    · have e : decide (l ≤ n ∧ n ≤ m) = false := by simp [h2]
      rw [e]
      clear e
      go_enter Tryd.func34, Tryd.ntmps34
      go_wp2
      go_ret
      exact ⟨rfl, rfl⟩
  · have e : decide (l ≤ n ∧ n ≤ m) = false := by simp [h1]
    rw [e]
    clear e
    go_enter Tryd.func34, Tryd.ntmps34
    go_wp2
    go_ret
    exact ⟨rfl, rfl⟩
set_option maxHeartbeats 1000000 in
theorem mayWho_any (n : Int) (w : World) : Calls Tryd.prog 19 #[.int .i64 n] w fun e w' => e = .returned (.bool (whoB n)) ∧ w = w' := by
  have H1 := Box.mk (in_any n (-1) 31 w)
  have H2 := Box.mk (in_any n 100 115 w)
  unfold whoB
  generalize decide (-1 ≤ n ∧ n ≤ 31) = p at H1 ⊢
  generalize decide (100 ≤ n ∧ n ≤ 115) = q at H2 ⊢
  cases p
  · go_enter Tryd.func19, Tryd.ntmps19
    go_wp2_with (first
      | (go_at_call 34; (with_reducible refine H1.out.mono ?_); rintro e w1 ⟨rfl, rfl⟩)
      | (go_at_call 34; (with_reducible refine H2.out.mono ?_); rintro e w1 ⟨rfl, rfl⟩))
    go_ret
    exact ⟨rfl, rfl⟩
  · go_enter Tryd.func19, Tryd.ntmps19
    go_wp2_with (first
      | (go_at_call 34; (with_reducible refine H1.out.mono ?_); rintro e w1 ⟨rfl, rfl⟩)
      | (go_at_call 34; (with_reducible refine H2.out.mono ?_); rintro e w1 ⟨rfl, rfl⟩))
    go_ret
    exact ⟨rfl, rfl⟩
/-- A fate's value. -/
def fateV (f : Int × Int × Int) : Value := .agg #[.int .i64 f.1, .int .i64 f.2.1, .int .i64 f.2.2]
theorem mayFate_any (i k v : Int) (w : World) : Calls Tryd.prog 23 #[.agg #[.int .i64 i, .int .i64 k, .int .i64 v]] w fun e w' => e = .returned (.bool (fateB (i, k, v))) ∧ Below w.heap.size w w' := by
  have HB := Box.mk ((Below.refl w.heap.size w).alloc (Nat.le_refl _) (.cells #[.int .i64 i, .int .i64 k, .int .i64 v] 36))
  have H1 := Box.mk (fun w => in_any i 0 65535 w)
  have H2 := Box.mk (fun w => in_any v 0 255 w)
  have H3 := Box.mk (fun w => in_any v 1 3 w)
  have HE : Box (fateB (i, k, v) = (decide (0 ≤ i ∧ i ≤ 65535) && ((decide (k = 1) && decide (0 ≤ v ∧ v ≤ 255)) || (decide (k = 2) && decide (1 ≤ v ∧ v ≤ 3))))) := ⟨by unfold fateB; simp only [Bool.decide_and]⟩
  rw [HE.out]
  clear HE
  generalize decide (0 ≤ i ∧ i ≤ 65535) = p at H1 ⊢
  generalize decide (0 ≤ v ∧ v ≤ 255) = q at H2 ⊢
  generalize decide (1 ≤ v ∧ v ≤ 3) = r at H3 ⊢
  by_cases h1 : k = 1
  · subst h1
    cases p <;> cases q
    all_goals
      go_enter Tryd.func23, Tryd.ntmps23
      go_wp2_with (first
        | (go_at_call 34; (with_reducible refine (H1.out _).mono ?_); rintro e w1 ⟨rfl, rfl⟩)
        | (go_at_call 34; (with_reducible refine (H2.out _).mono ?_); rintro e w1 ⟨rfl, rfl⟩)
        | (go_at_call 34; (with_reducible refine (H3.out _).mono ?_); rintro e w1 ⟨rfl, rfl⟩))
      go_ret
      exact ⟨by simp, HB.out⟩
  · by_cases h2 : k = 2
    · subst h2
      cases p <;> cases r
      all_goals
        go_enter Tryd.func23, Tryd.ntmps23
        go_wp2_with (first
          | (go_at_call 34; (with_reducible refine (H1.out _).mono ?_); rintro e w1 ⟨rfl, rfl⟩)
          | (go_at_call 34; (with_reducible refine (H2.out _).mono ?_); rintro e w1 ⟨rfl, rfl⟩)
          | (go_at_call 34; (with_reducible refine (H3.out _).mono ?_); rintro e w1 ⟨rfl, rfl⟩))
        go_ret
        exact ⟨by simp, HB.out⟩
    · have e1 : (k == 1) = false := by simp [h1]
      have e2 : (k == 2) = false := by simp [h2]
      have e3 : decide (k = 1) = false := by simp [h1]
      have e4 : decide (k = 2) = false := by simp [h2]
      rw [e3, e4]
      clear e3 e4
      cases p
      all_goals
        go_enter Tryd.func23, Tryd.ntmps23
        go_wp2_with (go_at_call 34; (with_reducible refine (H1.out _).mono ?_); rintro e w1 ⟨rfl, rfl⟩)
        go_ret
        exact ⟨by simp, HB.out⟩
set_option maxHeartbeats 1000000 in
theorem may1_any (i k v : Int) (w : World) : Calls Tryd.prog 22 #[.agg #[.int .i64 i, .int .i64 k, .int .i64 v]] w fun e w' => e = .returned (.bool (!fateB (i, k, v))) ∧ Below w.heap.size w w' := by
  have HB := Box.mk ((Below.refl w.heap.size w).alloc (Nat.le_refl _) (.cells #[.int .i64 i, .int .i64 k, .int .i64 v] 36))
  have H1 := Box.mk (fun w => mayFate_any i k v w)
  generalize fateB (i, k, v) = p at H1 ⊢
  go_enter Tryd.func22, Tryd.ntmps22
  go_wp2_with (go_at_call 23; (with_reducible refine (H1.out _).mono ?_); rintro e w1 ⟨rfl, hb⟩; have HB1 := Box.mk hb; clear hb)
  go_ret
  exact ⟨rfl, HB.out.trans (HB1.out.mono (by simp))⟩

end Go.Proofs.YtimeodjfihpgeaaDoor
