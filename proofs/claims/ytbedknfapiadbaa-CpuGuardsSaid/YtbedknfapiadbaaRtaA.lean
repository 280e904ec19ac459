/-
  The walks of small functions: a quotient rounded up, whether a task or a server may be (the program's and the document's).
-/
import Derived.Test.YtbedknfapiadbaaProg
import Derived.Test.YtbedknfapiadbaaRtaM
namespace Go.Proofs.Ytbedknfapiadbaa
open Go.RowKit

theorem ret_b {a b : Bool} (h : a = b) : Ending.returned (.bool a) = .returned (.bool b) := by rw [h]
theorem ret_n {k : IntKind} {a b : Int} (h : a = b) : Ending.returned (.int k a) = .returned (.int k b) := by rw [h]

theorem u64w {x : Int} (h0 : 0 ≤ x) (h : x ≤ 4611686018427387905) : IntKind.u64.wrap x = x := by
  simp only [IntKind.wrap, IntKind.bits, IntKind.signed]
  simp
  omega
theorem divc (n b : Nat) : (n : Int) / (b : Int) = ((n / b : Nat) : Int) := by simp

set_option maxHeartbeats 400000 in
theorem tickUp_any (n b : Nat) (w : World) (hn : n ≤ 4611686018427387904) (hb : b ≤ 4611686018427387904) :
    Calls Try.prog 62 #[.int .u64 n, .int .u64 b] w fun e w' => e = .returned (.int .u64 (up n b)) ∧ w' = w := by
  by_cases h0 : b = 0
  · subst h0
    go_enter Try.func62, Try.ntmps62
    go_wp2
    go_ret
    exact ⟨rfl, rfl⟩
  · have hb1 : (1 : Int) ≤ b := by omega
    have hb0 : ((b : Int) == 0) = false := by simp; omega
    have hd : n / b ≤ n := Nat.div_le_self _ _
    obtain ⟨Q, hQ⟩ : ∃ Q, n / b = Q := ⟨_, rfl⟩
    have hdiv : (n : Int) / (b : Int) = (Q : Int) := by rw [divc, hQ]
    by_cases hm : n % b = 0
    · have hm' : (((n : Int) % b) == 0) = true := by simp; omega
      have HU : Hid (up n b = Q) := by show _ = _; rw [up, if_neg h0, if_pos hm, hQ]
      rw [hQ] at hd
      clear hm h0 hQ
      go_enter Try.func62, Try.ntmps62
      go_wp2
      go_ret
      rw [HU.out]
      exact ⟨rfl, rfl⟩
    · have hm' : (((n : Int) % b) == 0) = false := by simp; omega
      have HU : Hid (up n b = Q + 1) := by show _ = _; rw [up, if_neg h0, if_neg hm, hQ]
      rw [hQ] at hd
      clear hm h0 hQ
      go_enter Try.func62, Try.ntmps62
      go_wp2
      go_ret
      rw [HU.out]
      exact ⟨rfl, rfl⟩

set_option maxHeartbeats 400000 in
theorem refUp_any (n b : Nat) (w : World) (hn : n ≤ 4611686018427387904) (hb : b ≤ 4611686018427387904) :
    Calls Try.prog 32 #[.int .u64 n, .int .u64 b] w fun e w' => e = .returned (.int .u64 (up n b)) ∧ w' = w := by
  by_cases h0 : b = 0
  · subst h0
    go_enter Try.func32, Try.ntmps32
    go_wp2
    go_ret
    exact ⟨rfl, rfl⟩
  · have hb1 : (1 : Int) ≤ b := by omega
    have hb0 : ((b : Int) == 0) = false := by simp; omega
    have hd : n / b ≤ n := Nat.div_le_self _ _
    have h1 := Nat.div_add_mod n b
    rw [Nat.mul_comm] at h1
    have hle : n / b * b ≤ n := Nat.div_mul_le_self n b
    obtain ⟨Q, hQ⟩ : ∃ Q, n / b = Q := ⟨_, rfl⟩
    obtain ⟨M, hM⟩ : ∃ M, Q * b = M := ⟨_, rfl⟩
    have hdiv : (n : Int) / (b : Int) = (Q : Int) := by rw [divc, hQ]
    have hmul : (Q : Int) * (b : Int) = (M : Int) := by rw [← Int.natCast_mul, hM]
    rw [hQ, hM] at h1 hle
    by_cases hm : n % b = 0
    · have HU : Hid (up n b = Q) := by show _ = _; rw [up, if_neg h0, if_pos hm, hQ]
      have hc : ¬ M < n := by omega
      rw [hQ] at hd
      clear hm h0 h1 hQ hM
      go_enter Try.func32, Try.ntmps32
      go_wp2
      go_ret
      rw [HU.out]
      exact ⟨rfl, rfl⟩
    · have HU : Hid (up n b = Q + 1) := by show _ = _; rw [up, if_neg h0, if_neg hm, hQ]
      have hc : M < n := by omega
      rw [hQ] at hd
      clear hm h0 h1 hQ hM
      go_enter Try.func32, Try.ntmps32
      go_wp2
      go_ret
      rw [HU.out]
      exact ⟨rfl, rfl⟩

abbrev servV (s : ServM) : Value := .agg #[.int .i64 s.budget, .int .u64 s.period]
abbrev workV (t : WorkM) : Value := .agg #[.int .i64 t.prio, .int .u64 t.cost, .int .u64 t.period, .int .u64 t.dead]

set_option maxHeartbeats 1000000 in
theorem sporMay_any (s : ServM) (w : World) :
    Calls Try.prog 40 #[servV s] w fun e w' => e = .returned (.bool s.may) ∧ Below w.heap.size w w' := by
  obtain ⟨b, p⟩ := s
  go_enter Try.func40, Try.ntmps40
  go_wp2
  all_goals
    go_ret
    exact ⟨ret_b (by rw [Bool.eq_iff_iff]; simp [ServM.may, *]; try omega), (Below.refl _ _).alloc (Nat.le_refl _) _⟩

set_option maxHeartbeats 1000000 in
theorem refSporMay_any (s : ServM) (w : World) :
    Calls Try.prog 24 #[servV s] w fun e w' => e = .returned (.bool s.may) ∧ Below w.heap.size w w' := by
  obtain ⟨b, p⟩ := s
  go_enter Try.func24, Try.ntmps24
  go_wp2
  all_goals
    go_ret
    exact ⟨ret_b (by rw [Bool.eq_iff_iff]; simp [ServM.may, *]; try omega), (Below.refl _ _).alloc (Nat.le_refl _) _⟩

set_option maxHeartbeats 4000000 in
theorem rtaMay_any (t : WorkM) (w : World) :
    Calls Try.prog 26 #[workV t] w fun e w' => e = .returned (.bool t.ok) ∧ Below w.heap.size w w' := by
  obtain ⟨p, c, pe, d⟩ := t
  go_enter Try.func26, Try.ntmps26
  go_wp2
  all_goals
    go_ret
    exact ⟨ret_b (by rw [Bool.eq_iff_iff]; simp [WorkM.ok, *]; try omega), (Below.refl _ _).alloc (Nat.le_refl _) _⟩

set_option maxHeartbeats 4000000 in
theorem refMay_any (t : WorkM) (w : World) :
    Calls Try.prog 21 #[workV t] w fun e w' => e = .returned (.bool t.ok) ∧ Below w.heap.size w w' := by
  obtain ⟨p, c, pe, d⟩ := t
  go_enter Try.func21, Try.ntmps21
  go_wp2
  all_goals
    go_ret
    exact ⟨ret_b (by rw [Bool.eq_iff_iff]; simp [WorkM.ok, *]; try omega), (Below.refl _ _).alloc (Nat.le_refl _) _⟩

end Go.Proofs.Ytbedknfapiadbaa
