/-
  The walks of both functions 'Number'.
-/
import Derived.Test.YtimeodjfihpgeaaDoorStC
namespace Go.Proofs.YtimeodjfihpgeaaDoor
open Go.RowKit

abbrev digB (c : UInt8) : Prop := 48 ≤ c.toNat ∧ c.toNat ≤ 57
def valN (l : Bs) : Nat := l.foldl (fun n c => n * 10 + (c.toNat - 48)) 0
theorem valN_snoc (l : Bs) (c : UInt8) : valN (l ++ [c]) = valN l * 10 + (c.toNat - 48) := by simp [valN, List.foldl_append]
theorem valN_lt : ∀ (n : Nat) {l : Bs}, l.length = n → (∀ c ∈ l, digB c) → valN l < 10 ^ n
  | 0, l, h, _ => by obtain rfl := List.length_eq_zero_iff.1 h; decide
  | n + 1, l, h, hd => by
    have hne : l ≠ [] := fun e => by rw [e] at h; cases h
    rw [← List.dropLast_concat_getLast hne, valN_snoc]
    have h1 := valN_lt n (l := l.dropLast) (by rw [List.length_dropLast, h]; rfl) (fun c hc => hd c (List.dropLast_subset l hc))
    have h2 := hd _ (List.getLast_mem hne)
    rw [Nat.pow_succ]
    omega
/-- The number of a word. -/
def numOk (l : Bs) : Prop := 1 ≤ l.length ∧ l.length ≤ 10 ∧ ¬ (1 < l.length ∧ l[0]? = some 48) ∧ (∀ c ∈ l, digB c) ∧ valN l ≤ 2147483647
open Classical in
noncomputable def numV (l : Bs) : Option Nat := if numOk l then some (valN l) else none
theorem numV_none {l : Bs} (h : ¬ numOk l) : numV l = none := by unfold numV; rw [if_neg h]
theorem numV_some {l : Bs} (h : numOk l) : numV l = some (valN l) := by unfold numV; rw [if_pos h]
def numT : Option Nat → Value
  | some n => .tuple #[.int .i64 n, .bool true]
  | none => .tuple #[.int .i64 0, .bool false]
theorem take_snoc {l : Bs} {i : Nat} {c : UInt8} {r : Bs} (h : l.drop i = c :: r) : l.take (i + 1) = l.take i ++ [c] ∧ c ∈ l ∧ i < l.length ∧ l[i]? = some c := by
  have hi : i < l.length := by
    rcases Nat.lt_or_ge i l.length with h1 | h1
    · exact h1
    · rw [List.drop_eq_nil_of_le h1] at h; cases h
  rw [List.drop_eq_getElem_cons hi] at h
  injection h with h1 h2
  subst h1
  exact ⟨by rw [List.take_succ_eq_append_getElem hi], List.getElem_mem hi, hi, List.getElem?_eq_getElem hi⟩
theorem head_bts {s : ByteArray} (h : 0 < s.size) : s.data.toList[0]? = some (s[0]'h) := by
  rw [List.getElem?_eq_getElem (by rw [← bts_size]; exact h), bts_get h]

set_option maxHeartbeats 8000000 in
set_option maxRecDepth 100000 in
theorem number_any (s : ByteArray) (hs : s.size ≤ 1000000) (w : World) :
    Calls Tryd.prog 37 #[.string s] w fun e w' => e = .returned (numT (numV s.data.toList)) ∧ Below w.heap.size w w' := by
  have HL := Box.mk (bts_size s)
  go_enter Tryd.func37, Tryd.ntmps37
  go_upto_block 0 with fail
  go_wp2
  go_loopw [4, 5, 6] (fun s4 _ _ wr => ∃ (pos n : Nat), s4 = .int .i64 n ∧ Box (wr.heap[w.heap.size]? = some (.stringIter s pos)) ∧ Box (Below w.heap.size w wr) ∧ pos ≤ s.size ∧ pos ≤ 10 ∧ n < 10000000000 ∧ Box (valN (s.data.toList.take pos) = n ∧ (∀ c ∈ s.data.toList.take pos, digB c) ∧ ¬ (1 < pos ∧ s.data.toList[0]? = some 48))) (fun _ _ _ wr => s.size - wr.iterPos w.heap.size)
  case atStart =>
    exact ⟨0, 0, rfl, ⟨World.iter_heap w s 0⟩, ⟨(Below.refl _ w).alloc (Nat.le_refl _) _⟩, by omega, by omega, by omega, ⟨rfl, fun c h => by simp at h, by omega⟩⟩
  case round =>
    obtain ⟨pos, n, rfl, HIT, HB, hps, hp10, hn, HV⟩ := hrel
    have hit := HIT.out
    by_cases hp : pos < s.size
    · have hnx : ∀ ty, (Instr.next (.pointer (some ⟨w.heap.size, 0, none⟩)) true ty).run Tryd.prog wr = _ := fun ty => Lib.run_next_any_at wr w.heap.size s pos ty hit hp
      have hru := rune_at hp
      have hdl := decode_le s pos
      have HIT2 := Box.mk (Lib.iterAt_heap wr w.heap.size s pos (pos + (Utf8.decode s pos).2) hit)
      have HB2 := Box.mk (Lib.below_iterAt HB.out (Nat.le_refl _) s (pos + (Utf8.decode s pos).2))
      have h0s : 0 < s.size := by omega
      have hh := head_bts h0s
      generalize hd : Utf8.decode s pos = d at hnx hru hdl HIT2 HB2
      obtain ⟨r, m⟩ := d
      simp only at hnx hru hdl HIT2 HB2
      have HIP := Box.mk (show wr.iterPos w.heap.size = pos by simp [World.iterPos, hit])
      clear hit hd HB HIT
      go_upto_region 5 with fail
      generalize wr.iterAt w.heap.size s (pos + m) = V at HIT2 HB2 ⊢
      clear hnx
      have HIP2 := Box.mk (show V.iterPos w.heap.size = pos + m by simp [World.iterPos, HIT2.out])
      have HND : Box (¬ (48 ≤ r ∧ r ≤ 57) → numV s.data.toList = none) := ⟨fun hr => numV_none fun hok => by
        rcases hru with ⟨c, _, e, h2⟩ | ⟨h1, h2, k, hk, hc, h3⟩
        · have := hok.2.2.2.1 c (take_snoc h2).2.1
          injection e with e1 e2
          unfold digB at this
          omega
        · obtain ⟨c, k, rfl⟩ : ∃ c k', k = c :: k' := by cases k with
            | nil => simp at hk; omega
            | cons c k => exact ⟨c, k, rfl⟩
          have h5 := hok.2.2.2.1 c (take_snoc h3).2.1
          have h6 := hc c (List.mem_cons_self ..)
          unfold digB at h5
          omega⟩
      by_cases hr1 : r < 48
      · have hN := Box.mk (HND.out (by omega))
        have hri : (r : Int) < 48 := by omega
        go_wp2
        go_ret2
        exact ⟨by rw [hN.out]; rfl, HB2.out⟩
      · by_cases hr2 : 57 < r
        · have hN := Box.mk (HND.out (by omega))
          have hri : ¬ (r : Int) < 48 := by omega
          have hri2 : (57 : Int) < r := by omega
          go_wp2
          go_ret2
          exact ⟨by rw [hN.out]; rfl, HB2.out⟩
        · obtain ⟨c, rfl, rfl, hdr⟩ : ∃ c : UInt8, r = c.toNat ∧ m = 1 ∧ s.data.toList.drop pos = c :: s.data.toList.drop (pos + 1) := by
            rcases hru with ⟨c, _, e, h2⟩ | ⟨h1, _⟩
            · injection e with e1 e2; exact ⟨c, e1, e2, h2⟩
            · omega
          obtain ⟨t1, t2, t3, t4⟩ := take_snoc hdr
          have HT := Box.mk t3
          have HZ : Box (c.toNat = 48 → (s[0]'h0s).toNat = 48 ∨ True) := ⟨fun _ => .inr trivial⟩
          have hri : ¬ (c.toNat : Int) < 48 := by omega
          have hri2 : ¬ (57 : Int) < (c.toNat : Int) := by omega
          by_cases h10 : 10 ≤ pos
          · have hN : Box (numV s.data.toList = none) := ⟨numV_none fun hok => by have := hok.2.1; omega⟩
            have hpi : (10 : Int) ≤ pos := by omega
            clear hdr t1 t2 t3 t4 hh
            go_wp2
            go_ret2
            exact ⟨by rw [hN.out]; rfl, HB2.out⟩
          · have hpi : ¬ (10 : Int) ≤ pos := by omega
            by_cases hbad : 0 < pos ∧ (s[0]'h0s).toNat = 48
            · have hN : Box (numV s.data.toList = none) := ⟨numV_none fun hok => hok.2.2.1 ⟨by omega, by rw [hh]; congr 1; exact UInt8.toNat_inj.1 hbad.2⟩⟩
              have hp0 : (0 : Int) < pos := by omega
              have hb0 : (((s[0]'h0s).toNat : Int) == 48) = true := by simp [hbad.2]
              have hsi : (0 : Int) < s.size := by omega
              clear hdr t1 t2 t3 t4 hh hbad
              go_wp2
              go_ret2
              exact ⟨by rw [hN.out]; rfl, HB2.out⟩
            · have HV2 : Box (valN (s.data.toList.take (pos + 1)) = n * 10 + (c.toNat - 48) ∧ (∀ c ∈ s.data.toList.take (pos + 1), digB c) ∧ ¬ (1 < pos + 1 ∧ s.data.toList[0]? = some 48)) := ⟨by
                refine ⟨by rw [t1, valN_snoc, HV.out.1], fun d hd => ?_, fun h => hbad ⟨by omega, ?_⟩⟩
                · rw [t1] at hd
                  rcases List.mem_append.1 hd with h | h
                  · exact HV.out.2.1 d h
                  · rw [List.mem_singleton] at h; subst h; exact ⟨by omega, by omega⟩
                · rw [hh] at h
                  have := h.2
                  injection this with this
                  rw [this]; rfl⟩
              have hlt : n * 10 + (c.toNat - 48) < 10000000000 := by
                have h5 := valN_lt (pos + 1) (l := s.data.toList.take (pos + 1)) (by rw [List.length_take, ← HL.out]; omega) HV2.out.2.1
                rw [HV2.out.1] at h5
                have h6 : 10 ^ (pos + 1) ≤ 10 ^ 10 := Nat.pow_le_pow_right (by decide) (by omega)
                have h7 : (10 : Nat) ^ 10 = 10000000000 := by decide
                omega
              have hc255 : c.toNat < 256 := c.toNat_lt
              clear HV HND HT HZ t1 t2 t3 t4 hdr hru
              by_cases hp0 : pos = 0
              · subst hp0
                clear hh hbad
                go_wp2
                go_roundw
                case rel => exact ⟨0 + 1, n * 10 + (c.toNat - 48), by go_num, HIT2, HB2, by omega, by omega, hlt, HV2⟩
                case measure => simp only [HIP.out, HIP2.out] <;> omega
              · have hb0 : (((s[0]'h0s).toNat : Int) == 48) = false := beq_eq_false_iff_ne.2 (by omega)
                have hpp : (0 : Int) < pos := by omega
                have hsi : (0 : Int) < s.size := by omega
                clear hh hbad
                go_wp2
                go_roundw
                case rel => exact ⟨pos + 1, n * 10 + (c.toNat - 48), by go_num, HIT2, HB2, by omega, by omega, hlt, HV2⟩
                case measure => simp only [HIP.out, HIP2.out] <;> omega
    · have hnx : ∀ ty, (Instr.next (.pointer (some ⟨w.heap.size, 0, none⟩)) true ty).run Tryd.prog wr = _ := fun ty => Lib.run_next_end_at wr w.heap.size s pos ty hit hp
      obtain rfl : pos = s.size := by omega
      have HV2 : Box (valN s.data.toList = n ∧ (∀ c ∈ s.data.toList, digB c) ∧ ¬ (1 < s.data.toList.length ∧ s.data.toList[0]? = some 48)) := ⟨by
        have := HV.out
        rw [List.take_of_length_le (by rw [← HL.out]; omega)] at this
        rw [← HL.out]; exact this⟩
      clear HV hit
      by_cases h0 : s.data.toList = []
      · have hN : Box (numV s.data.toList = none) := ⟨numV_none fun hok => by have := hok.1; rw [h0] at this; simp at this⟩
        have he : s = ⟨#[]⟩ := by rw [← Lib.mk_data s, h0]
        subst he
        go_wp2
        go_ret2
        exact ⟨by rw [hN.out]; rfl, HB.out⟩
      · have hse : s.toList.isEmpty = false := by rw [Lib.toList_data]; simpa using h0
        by_cases hbig : 2147483647 < n
        · have hN : Box (numV s.data.toList = none) := ⟨numV_none fun hok => by have := hok.2.2.2.2; rw [HV2.out.1] at this; omega⟩
          have hbi : (2147483647 : Int) < n := by omega
          clear HV2 h0
          go_wp2
          go_ret2
          exact ⟨by rw [hN.out]; rfl, HB.out⟩
        · have hN : Box (numV s.data.toList = some n) := ⟨by
            rw [← HV2.out.1]
            refine numV_some ⟨?_, by rw [← HL.out]; omega, HV2.out.2.2, HV2.out.2.1, by rw [HV2.out.1]; omega⟩
            cases hl : s.data.toList with
            | nil => exact absurd hl h0
            | cons a b => simp⟩
          have hbi : ¬ (2147483647 : Int) < n := by omega
          clear HV2 h0
          go_wp2
          go_ret2
          exact ⟨by rw [hN.out]; rfl, HB.out⟩

end Go.Proofs.YtimeodjfihpgeaaDoor
