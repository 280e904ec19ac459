/-
  The walk of the document's 'May'.
-/
import Derived.Test.YtanlodaimbocoaaDoorStG
namespace Go.Proofs.YtanlodaimbocoaaDoor
open Go.RowKit

theorem badN_true {v : Int} (h : v < 0 ∨ 2147483647 < v) : badN v = true := by unfold badN; simp [h]
theorem badN_false {v : Int} (h0 : 0 ≤ v) (h1 : v ≤ 2147483647) : badN v = false := by unfold badN; simp; omega
theorem any_take {z : List Int} {i : Nat} (hi : i < z.length) : (z.take (i + 1)).any badN = ((z.take i).any badN || badN z[i]) := by
  rw [List.take_succ_eq_append_getElem hi, List.any_append]; simp
set_option maxHeartbeats 8000000 in
theorem rmay_any (name : Bs) (ao : Option Addr) (n cap : Nat) (z : List Int) (w : World) (h : NumsAt w ao n z) : Calls Tryd.prog 22 #[.agg #[strv name, .slice ao n cap]] w fun e w' => e = .returned (.bool (mayB name z)) ∧ Below w.heap.size w w' := by
  have HB := Box.mk ((Below.refl w.heap.size w).alloc (Nat.le_refl _) (.cells #[strv name, .slice ao n cap] 25))
  have HN := Box.mk (fun w => rnums_any name w)
  have HZ := Box.mk (h.later HB.out)
  have hzn := h.1
  have HZN := Box.mk hzn
  have hn6 := h.2.1
  have HX1 : Box ((w.alloc (.cells #[strv name, .slice ao n cap] 25)).heap[w.heap.size]? = some (.cells #[strv name, .slice ao n cap] 25 (0, 0))) := ⟨blk_new _ _⟩
  obtain ⟨kk, ok, hT, hM⟩ : ∃ (kk : Nat) (ok : Bool), numT (namesF name) = .tuple #[.int .i64 kk, .bool ok] ∧ mayB name z = (ok && decide (kk = n) && !z.any badN) := by
    unfold mayB
    cases hN : namesF name with
    | none => exact ⟨0, false, rfl, by simp⟩
    | some k => exact ⟨k, true, rfl, by rw [hzn]; simp⟩
  rw [hT] at HN
  have HM := Box.mk hM
  clear h hzn hT hM
  go_enter Tryd.func22, Tryd.ntmps22
  go_upto_region 1 with fail
  generalize w.alloc (.cells #[strv name, .slice ao n cap] 25) = V at HB HX1 HZ ⊢
  have c0 : V.cell? ⟨w.heap.size, 0, none⟩ = some (strv name) := (cell_blk HX1.out 0).trans rfl
  have c1 : V.cell? ⟨w.heap.size, 1, none⟩ = some (.slice ao n cap) := (cell_blk HX1.out 1).trans rfl
  go_upto_block 0 with (go_at_call 14; (with_reducible refine (HN.out _).mono ?_); rintro e w1 ⟨rfl, rfl⟩)
  go_wp2
  go_loop [4, 5] (fun s4 s5 => ∃ (i : Nat) (b : Bool), i ≤ n ∧ s5 = .int .i64 i ∧ s4 = .bool b ∧ Box (b = (ok && !(z.take i).any badN))) (fun _ s5 => n - (intOf s5).toNat)
  case atStart => exact ⟨0, ok, by omega, rfl, rfl, ⟨by simp⟩⟩
  case round =>
    obtain ⟨i, b, hi, rfl, rfl, HX⟩ := hrel
    by_cases hlt : i < n
    · have hii : (i : Int) < n := by omega
      obtain ⟨bb, off, rfl, hb, hc⟩ := HZ.out.2.2 (by omega)
      have hiz : i < z.length := by rw [HZN.out]; exact hlt
      have cx := hc i hiz
      have HA := Box.mk (any_take hiz)
      generalize z[i] = v at cx HA
      clear hc hiz
      cases hbv : b with
      | false =>
        have HX2 : Box (false = (ok && !(z.take (i + 1)).any badN)) := ⟨by
          have := HX.out
          rw [hbv] at this
          rw [HA.out]
          cases ok with
          | false => rfl
          | true =>
            cases hq : (z.take i).any badN with
            | true => rfl
            | false => rw [hq] at this; cases this⟩
        subst hbv
        go_wp2
        go_round
        case rel => exact ⟨i + 1, false, by omega, by go_num, rfl, HX2⟩
        case measure => simp [intOf] <;> omega
      | true =>
        have HX0 : Box (ok = true ∧ (z.take i).any badN = false) := ⟨by
          have := HX.out
          rw [hbv] at this
          simpa using this.symm⟩
        subst hbv
        by_cases h1 : 0 ≤ v
        · by_cases h2 : v ≤ 2147483647
          · have HX2 : Box (true = (ok && !(z.take (i + 1)).any badN)) := ⟨by rw [HA.out, HX0.out.1, HX0.out.2, badN_false h1 h2]; rfl⟩
            go_wp2
            go_round
            case rel => exact ⟨i + 1, true, by omega, by go_num, rfl, HX2⟩
            case measure => simp [intOf] <;> omega
          · have HX2 : Box (false = (ok && !(z.take (i + 1)).any badN)) := ⟨by rw [HA.out, badN_true (.inr (by omega))]; simp⟩
            go_wp2
            go_round
            case rel => exact ⟨i + 1, false, by omega, by go_num, rfl, HX2⟩
            case measure => simp [intOf] <;> omega
        · have HX2 : Box (false = (ok && !(z.take (i + 1)).any badN)) := ⟨by rw [HA.out, badN_true (.inl (by omega))]; simp⟩
          go_wp2
          go_round
          case rel => exact ⟨i + 1, false, by omega, by go_num, rfl, HX2⟩
          case measure => simp [intOf] <;> omega
    · have hii : ¬ (i : Int) < n := by omega
      obtain rfl : i = n := by omega
      have HX2 : Box (b = (ok && !z.any badN)) := ⟨by rw [HX.out, List.take_of_length_le (by rw [HZN.out]; omega)]⟩
      clear HX
      cases hbv : b with
      | false =>
        have HE : Box (mayB name z = false) := ⟨by
          have := HX2.out
          rw [hbv] at this
          rw [HM.out]
          cases ok with
          | false => rfl
          | true => simp at this; simp [this]⟩
        subst hbv
        go_wp2
        go_ret
        exact ⟨by rw [HE.out]; rfl, HB.out⟩
      | true =>
        have HX0 : Box (ok = true ∧ z.any badN = false) := ⟨by
          have := HX2.out
          rw [hbv] at this
          simpa using this.symm⟩
        subst hbv
        by_cases hkn : kk = i
        · have hb1 : ((kk : Int) == (i : Int)) = true := by simp [hkn]
          have HE : Box (mayB name z = true) := ⟨by rw [HM.out, HX0.out.1, HX0.out.2]; simp [hkn]⟩
          clear hkn
          go_wp2
          go_ret
          exact ⟨by rw [HE.out]; rfl, HB.out⟩
        · have hb1 : ((kk : Int) == (i : Int)) = false := beq_eq_false_iff_ne.2 (by omega)
          have HE : Box (mayB name z = false) := ⟨by rw [HM.out]; simp [hkn]⟩
          clear hkn
          go_wp2
          go_ret
          exact ⟨by rw [HE.out]; rfl, HB.out⟩

end Go.Proofs.YtanlodaimbocoaaDoor
