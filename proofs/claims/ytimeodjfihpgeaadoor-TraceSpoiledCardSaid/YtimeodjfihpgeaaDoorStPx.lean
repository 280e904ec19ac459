/-
  The plain law of numbers written out: which words are numbers.
-/
import Derived.Test.YtimeodjfihpgeaaDoorStMx
namespace Go.Proofs.YtimeodjfihpgeaaDoor
open Go.RowKit

theorem digB_of {i : Nat} (h : i < 10) : digB (UInt8.ofNat (48 + i)) ∧ (UInt8.ofNat (48 + i)).toNat - 48 = i := by
  have e : (UInt8.ofNat (48 + i)).toNat = 48 + i := by
    rw [UInt8.toNat_ofNat']
    exact Nat.mod_eq_of_lt (by omega)
  unfold digB
  omega
theorem dec_val (u : Nat) : valN (Lib.decDigits u) = u ∧ (∀ c ∈ Lib.decDigits u, digB c) ∧ (0 < u → (Lib.decDigits u)[0]? ≠ some 48) := by
  induction u using Nat.strongRecOn with
  | _ u ih =>
    by_cases h : u < 10
    · rw [Lib.decDigits, dif_pos h]
      have hd := digB_of h
      refine ⟨?_, ?_, ?_⟩
      · show 0 * 10 + _ = u
        rw [hd.2]; omega
      · intro c hc
        obtain rfl : c = _ := List.mem_singleton.1 hc
        exact hd.1
      · intro hu e
        have e1 := Option.some.inj e
        have := hd.2
        rw [e1] at this
        have h48 : (48 : UInt8).toNat = 48 := rfl
        omega
    · rw [Lib.decDigits, dif_neg h]
      obtain ⟨i1, i2, i3⟩ := ih (u / 10) (by omega)
      have hd := digB_of (i := u % 10) (by omega)
      refine ⟨?_, ?_, ?_⟩
      · rw [valN_snoc, i1, hd.2]; omega
      · intro c hc
        rcases List.mem_append.1 hc with h1 | h1
        · exact i2 c h1
        · obtain rfl : c = _ := List.mem_singleton.1 h1
          exact hd.1
      · intro _ e
        have hl : 0 < (Lib.decDigits (u / 10)).length := by rw [Lib.decDigits_length]; exact Lib.nDigits_pos _
        rw [List.getElem?_append_left hl] at e
        exact i3 (by omega) e
theorem nDigits_le : ∀ (m u : Nat), u < 10 ^ (m + 1) → Lib.nDigits u ≤ m + 1
  | 0, u, h => by rw [Lib.nDigits_small (by simpa using h)]; omega
  | m + 1, u, h => by
    by_cases hu : u < 10
    · rw [Lib.nDigits_small hu]; omega
    · rw [Lib.nDigits_big hu]
      rw [Nat.pow_succ] at h
      have := nDigits_le m (u / 10) (by omega)
      omega
theorem numV_bad {l : Bs} {c : UInt8} (hc : c ∈ l) (h : ¬ digB c) : numV l = none := numV_none fun hok => h (hok.2.2.2.1 c hc)
theorem numV_dec (u : Nat) : numV (Lib.decDigits u) = if u ≤ 2147483647 then some u else none := by
  obtain ⟨h1, h2, h3⟩ := dec_val u
  have hp := Lib.nDigits_pos u
  split
  · rename_i hu
    have hok : numOk (Lib.decDigits u) := by
      refine ⟨by rw [Lib.decDigits_length]; exact hp, by rw [Lib.decDigits_length]; exact nDigits_le 9 u (by omega), ?_, h2, by rw [h1]; exact hu⟩
      rintro ⟨hl, hh⟩
      by_cases h0 : u = 0
      · subst h0
        rw [Lib.decDigits_length, Lib.nDigits_small (by decide)] at hl
        omega
      · exact h3 (by omega) hh
    rw [numV_some hok, h1]
  · rename_i hu
    exact numV_none fun hok => hu (by have := hok.2.2.2.2; rw [h1] at this; exact this)
/-- The number of a numeral. -/
theorem numV_itoa (n : Int) : numV (Lib.itoa n) = if 0 ≤ n ∧ n ≤ 2147483647 then some n.toNat else none := by
  by_cases hn : n < 0
  · rw [if_neg (by omega)]
    refine numV_bad (c := 45) ?_ (by decide)
    unfold Lib.itoa
    rw [if_pos hn]
    exact List.mem_cons_self ..
  · have e : Lib.itoa n = Lib.decDigits n.toNat := by unfold Lib.itoa; rw [if_neg hn]
    rw [e, numV_dec]
    by_cases h : n ≤ 2147483647
    · rw [if_pos (by omega), if_pos ⟨by omega, h⟩]
    · rw [if_neg (by omega), if_neg (by omega)]
theorem itoa_pos (n : Int) : 1 ≤ (Lib.itoa n).length := by
  unfold Lib.itoa
  split
  · simp
  · rw [Lib.decDigits_length]; exact Lib.nDigits_pos _
theorem numV_zero (n : Int) : numV (48 :: Lib.itoa n) = none := numV_none fun hok => hok.2.2.1 ⟨by have := itoa_pos n; simp; omega, rfl⟩
theorem numV_ahead (c : UInt8) (h : ¬ digB c) (l : Bs) : numV (c :: l) = none := numV_bad (List.mem_cons_self ..) h
theorem numV_behind (c : UInt8) (h : ¬ digB c) (l : Bs) : numV (l ++ [c]) = none := numV_bad (c := c) (by simp) h

end Go.Proofs.YtimeodjfihpgeaaDoor
