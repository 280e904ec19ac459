/-
  The walk of the document's 'Number'.
-/
import Derived.Test.YtimeodjfihpgeaaDoorStD
namespace Go.Proofs.YtimeodjfihpgeaaDoor
open Go.RowKit

set_option maxHeartbeats 8000000 in
set_option maxRecDepth 100000 in
theorem rnumber_any (s : ByteArray) (hs : s.size ≤ 1000000) (w : World) :
    Calls Tryd.prog 41 #[.string s] w fun e w' => e = .returned (numT (numV s.data.toList)) ∧ w = w' := by
  have HL := Box.mk (bts_size s)
  by_cases h1 : s.size < 1
  · have hN : Box (numV s.data.toList = none) := ⟨numV_none fun hok => by have := hok.1; rw [← HL.out] at this; omega⟩
    have h1i : (s.size : Int) < 1 := by omega
    go_enter Tryd.func41, Tryd.ntmps41
    go_wp2
    go_ret2
    exact ⟨by rw [hN.out]; rfl, rfl⟩
  · have h1i : ¬ (s.size : Int) < 1 := by omega
    by_cases h2 : 10 < s.size
    · have hN : Box (numV s.data.toList = none) := ⟨numV_none fun hok => by have := hok.2.1; rw [← HL.out] at this; omega⟩
      have h2i : (10 : Int) < s.size := by omega
      go_enter Tryd.func41, Tryd.ntmps41
      go_wp2
      go_ret2
      exact ⟨by rw [hN.out]; rfl, rfl⟩
    · have h2i : ¬ (10 : Int) < s.size := by omega
      have h0s : 0 < s.size := by omega
      have hh := head_bts h0s
      have hsi : (0 : Int) < s.size := by omega
      by_cases h3 : 1 < s.size ∧ (s[0]'h0s).toNat = 48
      · have hN : Box (numV s.data.toList = none) := ⟨numV_none fun hok => hok.2.2.1 ⟨by rw [← HL.out]; exact h3.1, by rw [hh]; congr 1; exact UInt8.toNat_inj.1 h3.2⟩⟩
        have h3i : (1 : Int) < s.size := by omega
        have h3b : (((s[0]'h0s).toNat : Int) == 48) = true := by simp [h3.2]
        clear hh h3
        go_enter Tryd.func41, Tryd.ntmps41
        go_wp2
        go_ret2
        exact ⟨by rw [hN.out]; rfl, rfl⟩
      · have HH : Box (¬ (1 < s.data.toList.length ∧ s.data.toList[0]? = some 48)) := ⟨fun h => h3 ⟨by rw [HL.out]; exact h.1, by
          rw [hh] at h
          have := h.2
          injection this with this
          rw [this]; rfl⟩⟩
        clear hh
        have hdec : (s.size = 1 ∧ ¬ (1 : Int) < s.size) ∨ (((1 : Int) < s.size) ∧ ((((s[0]'h0s).toNat : Int) == 48) = false)) := by
          by_cases h4 : s.size = 1
          · exact .inl ⟨h4, by omega⟩
          · exact .inr ⟨by omega, beq_eq_false_iff_ne.2 (fun e => h3 ⟨by omega, by omega⟩)⟩
        clear h3
        go_enter Tryd.func41, Tryd.ntmps41
        rcases hdec with ⟨q1, q2⟩ | ⟨q1, q2⟩
        all_goals
          go_upto_block 0 with fail
          go_wp2
          go_loop [4, 5] (fun s4 s5 => ∃ (i n : Nat), s5 = .int .i64 i ∧ s4 = .int .i64 n ∧ i ≤ s.size ∧ n < 10000000000 ∧ Box (valN (s.data.toList.take i) = n ∧ ∀ c ∈ s.data.toList.take i, digB c)) (fun _ s5 => s.size - (intOf s5).toNat)
          case atStart => exact ⟨0, 0, rfl, rfl, by omega, by omega, ⟨rfl, fun c h => by simp at h⟩⟩
          case round =>
            obtain ⟨i, n, rfl, rfl, hps, hn, HV⟩ := hrel
            by_cases hp : i < s.size
            · have hpi : (i : Int) < s.size := by omega
              have hl : i < s.data.toList.length := by rw [← bts_size]; exact hp
              have hdr : s.data.toList.drop i = s[i]'hp :: s.data.toList.drop (i + 1) := by rw [List.drop_eq_getElem_cons hl, bts_get hp]
              obtain ⟨t1, t2, t3, t4⟩ := take_snoc hdr
              have hc255 : (s[i]'hp).toNat < 256 := (s[i]'hp).toNat_lt
              have HND : Box (¬ digB (s[i]'hp) → numV s.data.toList = none) := ⟨fun hr => numV_none fun hok => hr (hok.2.2.2.1 _ t2)⟩
              have HV2 : Box (digB (s[i]'hp) → (valN (s.data.toList.take (i + 1)) = n * 10 + ((s[i]'hp).toNat - 48) ∧ ∀ c ∈ s.data.toList.take (i + 1), digB c) ∧ n * 10 + ((s[i]'hp).toNat - 48) < 10000000000) := ⟨fun hdg => by
                have e1 : valN (s.data.toList.take (i + 1)) = n * 10 + ((s[i]'hp).toNat - 48) ∧ ∀ c ∈ s.data.toList.take (i + 1), digB c := by
                  refine ⟨by rw [t1, valN_snoc, HV.out.1], fun d hd => ?_⟩
                  rw [t1] at hd
                  rcases List.mem_append.1 hd with h | h
                  · exact HV.out.2 d h
                  · rw [List.mem_singleton] at h; subst h; exact hdg
                refine ⟨e1, ?_⟩
                have h5 := valN_lt (i + 1) (l := s.data.toList.take (i + 1)) (by rw [List.length_take, ← HL.out]; omega) e1.2
                rw [e1.1] at h5
                have h6 : 10 ^ (i + 1) ≤ 10 ^ 10 := Nat.pow_le_pow_right (by decide) (by omega)
                have h7 : (10 : Nat) ^ 10 = 10000000000 := by decide
                omega⟩
              clear HV hl hdr t1 t2 t3 t4
              unfold digB at HND HV2
              by_cases hr1 : (s[i]'hp).toNat < 48
              · have hN := Box.mk (HND.out (by omega))
                have hri : ((s[i]'hp).toNat : Int) < 48 := by omega
                go_wp2
                go_ret2
                exact ⟨by rw [hN.out]; rfl, rfl⟩
              · by_cases hr2 : 57 < (s[i]'hp).toNat
                · have hN := Box.mk (HND.out (by omega))
                  have hri : ¬ ((s[i]'hp).toNat : Int) < 48 := by omega
                  have hri2 : (57 : Int) < ((s[i]'hp).toNat : Int) := by omega
                  go_wp2
                  go_ret2
                  exact ⟨by rw [hN.out]; rfl, rfl⟩
                · obtain ⟨HV3, hlt⟩ := HV2.out ⟨by omega, by omega⟩
                  have HV3 := Box.mk HV3
                  have hri : ¬ ((s[i]'hp).toNat : Int) < 48 := by omega
                  have hri2 : ¬ (57 : Int) < ((s[i]'hp).toNat : Int) := by omega
                  clear HV2 HND
                  go_wp2
                  go_round
                  case rel => exact ⟨i + 1, n * 10 + ((s[i]'hp).toNat - 48), by go_num, by go_num, by omega, hlt, HV3⟩
                  case measure => simp [intOf] <;> omega
            · have hpi : ¬ (i : Int) < s.size := by omega
              obtain rfl : i = s.size := by omega
              have HV2 : Box (valN s.data.toList = n ∧ (∀ c ∈ s.data.toList, digB c)) := ⟨by
                have := HV.out
                rwa [List.take_of_length_le (by rw [← HL.out]; omega)] at this⟩
              clear HV
              by_cases hbig : 2147483647 < n
              · have hN : Box (numV s.data.toList = none) := ⟨numV_none fun hok => by have := hok.2.2.2.2; rw [HV2.out.1] at this; omega⟩
                have hbi : (2147483647 : Int) < n := by omega
                clear HV2
                go_wp2
                go_ret2
                exact ⟨by rw [hN.out]; rfl, rfl⟩
              · have hN : Box (numV s.data.toList = some n) := ⟨by
                  rw [← HV2.out.1]
                  exact numV_some ⟨by rw [← HL.out]; omega, by rw [← HL.out]; omega, HH.out, HV2.out.2, by rw [HV2.out.1]; omega⟩⟩
                have hbi : ¬ (2147483647 : Int) < n := by omega
                clear HV2
                go_wp2
                go_ret2
                exact ⟨by rw [hN.out]; rfl, rfl⟩

end Go.Proofs.YtimeodjfihpgeaaDoor
