/-
  Records of ticks: numbers behind marks: the walks of 'marked', and of the document's 'each'.
-/
import Derived.Test.YtimeodjfihpgeaaDoorTrD
namespace Go.Proofs.YtimeodjfihpgeaaDoor
open Go.RowKit

theorem marks_snoc (m : Bs) (l : List Int) (n : Int) : marksB m (l ++ [n]) = marksB m l ++ (m ++ Lib.itoa n) := by simp [marksB]
theorem marks_len {m : Bs} : ∀ {l : List Int}, (∀ v ∈ l, 0 ≤ v ∧ v ≤ 2147483647) → (marksB m l).length ≤ (m.length + 21) * l.length
  | [], _ => by simp [marksB]
  | n :: l, h => by
    have h1 := h n (List.mem_cons_self ..)
    have h2 : (Lib.itoa n).length ≤ 21 := Lib.itoa_length_le n (by omega) (by omega)
    have h3 := marks_len (m := m) (l := l) (fun v hv => h v (List.mem_cons_of_mem _ hv))
    rw [show marksB m (n :: l) = (m ++ Lib.itoa n) ++ marksB m l from by simp [marksB], List.length_append, List.length_append, List.length_cons, Nat.mul_succ]
    omega
set_option maxHeartbeats 8000000 in
theorem marked_any (m : Bs) (hm : m.length ≤ 10) (ao : Option Addr) (n cap : Nat) (z : List Int) (w : World) (h : NumsAt w ao n z) (hz : ∀ v ∈ z, 0 ≤ v ∧ v ≤ 2147483647) (ht : Tab w) : Calls Tryd.prog 16 #[strv m, .slice ao n cap] w fun e w' => e = .returned (strv (marksB m z)) ∧ Below w.heap.size w w' := by
  have H := Box.mk h
  have hn := h.2.1
  have HZ := Box.mk hz
  have HT := Box.mk ht
  clear h hz ht
  go_enter Tryd.func16, Tryd.ntmps16
  go_upto_block 0 with fail
  go_wp2
  go_loopw [5, 7, 10] (fun s5 _ s10 wr => ∃ (i : Nat) (k : Bs), i ≤ n ∧ s10 = .int .i64 i ∧ s5 = .string ⟨k.toArray⟩ ∧ Box (k = marksB m (z.take i)) ∧ k.length ≤ 31 * i ∧ Box (Below w.heap.size w wr)) (fun _ _ s10 _ => n - (intOf s10).toNat)
  case atStart => exact ⟨0, [], by omega, rfl, rfl, ⟨by simp [marksB]⟩, by simp, ⟨Below.refl _ _⟩⟩
  case round =>
    obtain ⟨i, k, hi, rfl, rfl, HK, hk, HB⟩ := hrel
    by_cases hlt : i < n
    · obtain ⟨b, off, rfl, hb, hc⟩ := H.out.2.2 (by omega)
      have hiz : i < z.length := by rw [H.out.1]; exact hlt
      have cx : wr.cell? ⟨b, off + i, none⟩ = some (.int .i64 z[i]) := (HB.out.cell (p := ⟨b, off + i, none⟩) hb).trans (hc i hiz)
      have hvb := HZ.out _ (List.getElem_mem hiz)
      have HI := Box.mk (itoa_any z[i] (by omega) (by omega) wr (HT.out.on HB.out))
      have hl : (Lib.itoa z[i]).length ≤ 21 := Lib.itoa_length_le _ (by omega) (by omega)
      have HK2 : Box (k ++ (m ++ Lib.itoa z[i]) = marksB m (z.take (i + 1))) := ⟨by rw [HK.out, List.take_succ_eq_append_getElem hiz, marks_snoc]⟩
      have hii : (i : Int) < n := by omega
      have hi0 : (0 : Int) ≤ i := by omega
      generalize z[i] = v at cx HI HK2 hl
      generalize Lib.itoa v = l at HI HK2 hl
      clear hc hiz HK hvb
      have hs1 : (⟨k.toArray⟩ : ByteArray).size ≤ 100000000 := by rw [bts_size]; simp; omega
      have hs2 : (⟨m.toArray⟩ : ByteArray).size ≤ 10 := by rw [bts_size]; simp; omega
      have hs3 : (⟨l.toArray⟩ : ByteArray).size ≤ 21 := by rw [bts_size]; simp; omega
      have hs4 : (⟨m.toArray⟩ ++ ⟨l.toArray⟩ : ByteArray).size ≤ 31 := by simp only [ByteArray.size_append]; omega
      have hs5 : (⟨k.toArray⟩ ++ ⟨m.toArray⟩ : ByteArray).size ≤ 100000010 := by simp only [ByteArray.size_append]; omega
      go_wp2_with (go_at_call 33; (with_reducible refine HI.out.mono ?_); rintro e w1 ⟨rfl, hb1⟩; have HB1 := Box.mk (below_step HB.out hb1); clear hb1)
      go_roundw
      case rel => exact ⟨i + 1, k ++ (m ++ l), by omega, by go_num, by simp only [strb_app, ByteArray.append_assoc], HK2, by simp only [List.length_append]; omega, HB1⟩
      case measure => simp [intOf] <;> omega
    · obtain rfl : n = i := by omega
      have hii : ¬ (n : Int) < n := by omega
      have HE : Box (k = marksB m z) := ⟨by rw [HK.out, List.take_of_length_le (by have := H.out.1; omega)]⟩
      clear HK
      go_wp2
      go_ret
      exact ⟨by rw [← HE.out]; rfl, HB.out⟩
set_option maxHeartbeats 8000000 in
theorem each_any (m : Bs) (hm : m.length ≤ 10) (ao : Option Addr) (n cap : Nat) (z : List Int) (w : World) (h : NumsAt w ao n z) (hz : ∀ v ∈ z, 0 ≤ v ∧ v ≤ 2147483647) : Calls Tryd.prog 18 #[strv m, .slice ao n cap] w fun e w' => e = .returned (strv (marksB m z)) ∧ Below w.heap.size w w' := by
  have H := Box.mk h
  have hn := h.2.1
  have HZ := Box.mk hz
  skip
  clear h hz
  go_enter Tryd.func18, Tryd.ntmps18
  go_upto_block 0 with fail
  go_wp2
  go_loopw [5, 6] (fun s5 s6 wr => ∃ (i : Nat) (k : Bs), i ≤ n ∧ s6 = .int .i64 i ∧ s5 = .string ⟨k.toArray⟩ ∧ Box (k = marksB m (z.take i)) ∧ k.length ≤ 31 * i ∧ Box (Below w.heap.size w wr)) (fun _ s6 _ => n - (intOf s6).toNat)
  case atStart => exact ⟨0, [], by omega, rfl, rfl, ⟨by simp [marksB]⟩, by simp, ⟨Below.refl _ _⟩⟩
  case round =>
    obtain ⟨i, k, hi, rfl, rfl, HK, hk, HB⟩ := hrel
    by_cases hlt : i < n
    · obtain ⟨b, off, rfl, hb, hc⟩ := H.out.2.2 (by omega)
      have hiz : i < z.length := by rw [H.out.1]; exact hlt
      have cx : wr.cell? ⟨b, off + i, none⟩ = some (.int .i64 z[i]) := (HB.out.cell (p := ⟨b, off + i, none⟩) hb).trans (hc i hiz)
      have hvb := HZ.out _ (List.getElem_mem hiz)
      have HI := Box.mk (digits_any z[i] (by omega) (by omega) wr)
      have hl : (Lib.itoa z[i]).length ≤ 21 := Lib.itoa_length_le _ (by omega) (by omega)
      have HK2 : Box (k ++ (m ++ Lib.itoa z[i]) = marksB m (z.take (i + 1))) := ⟨by rw [HK.out, List.take_succ_eq_append_getElem hiz, marks_snoc]⟩
      have hii : (i : Int) < n := by omega
      have hi0 : (0 : Int) ≤ i := by omega
      generalize z[i] = v at cx HI HK2 hl
      generalize Lib.itoa v = l at HI HK2 hl
      clear hc hiz HK hvb
      have hs1 : (⟨k.toArray⟩ : ByteArray).size ≤ 100000000 := by rw [bts_size]; simp; omega
      have hs2 : (⟨m.toArray⟩ : ByteArray).size ≤ 10 := by rw [bts_size]; simp; omega
      have hs3 : (⟨l.toArray⟩ : ByteArray).size ≤ 21 := by rw [bts_size]; simp; omega
      have hs4 : (⟨m.toArray⟩ ++ ⟨l.toArray⟩ : ByteArray).size ≤ 31 := by simp only [ByteArray.size_append]; omega
      have hs5 : (⟨k.toArray⟩ ++ ⟨m.toArray⟩ : ByteArray).size ≤ 100000010 := by simp only [ByteArray.size_append]; omega
      go_wp2_with (go_at_call 17; (with_reducible refine HI.out.mono ?_); rintro e w1 ⟨rfl, hb1⟩; have HB1 := Box.mk (below_step HB.out hb1); clear hb1)
      go_roundw
      case rel => exact ⟨i + 1, k ++ (m ++ l), by omega, by go_num, by simp only [strb_app, ByteArray.append_assoc], HK2, by simp only [List.length_append]; omega, HB1⟩
      case measure => simp [intOf] <;> omega
    · obtain rfl : n = i := by omega
      have hii : ¬ (n : Int) < n := by omega
      have HE : Box (k = marksB m z) := ⟨by rw [HK.out, List.take_of_length_le (by have := H.out.1; omega)]⟩
      clear HK
      go_wp2
      go_ret
      exact ⟨by rw [← HE.out]; rfl, HB.out⟩

end Go.Proofs.YtimeodjfihpgeaaDoor
