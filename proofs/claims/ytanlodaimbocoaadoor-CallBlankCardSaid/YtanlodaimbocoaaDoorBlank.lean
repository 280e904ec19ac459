/-
  The law of blanks.
-/
import Derived.Test.YtanlodaimbocoaaDoorStQ
import Derived.Test.YtanlodaimbocoaaDoorStR
import Derived.Test.YtanlodaimbocoaaDoorArgs
import Derived.Test.YtanlodaimbocoaaDoorTie
import Derived.Test.YtanlodaimbocoaaDoorCards
import Derived.SevenTiedAt
import Derived.ChangeMaps5
import Derived.Deep.RegionHeld3
namespace Go.Proofs.YtanlodaimbocoaaDoor.callBlank
open Go Go.ChangeShapes Go.WideShapes Go.ChangeAt Go.RowKit Go.Proofs.YtanlodaimbocoaaDoor

theorem below_step {w u v : World} (h : Below w.heap.size w u) (hb : Below u.heap.size u v) : Below w.heap.size w v := h.trans (hb.mono h.size)
theorem below_drew {n : Nat} {a b : World} : Below n a b.drew ↔ Below n a b := ⟨fun h => ⟨h.os, h.tape, h.output, h.size, h.block⟩, fun h => ⟨h.os, h.tape, h.output, h.size, h.block⟩⟩
theorem parN_len (l : Bs) : (parN l).length ≤ l.length := by
  unfold parN
  split
  · rename_i p h
    unfold parseV at h
    split at h
    · cases h
    · rename_i x r hw
      have hx := (words_mem (l := l) (x := x) (by rw [hw]; exact List.mem_cons_self ..)).2.2
      split at h
      · split at h
        · injection h with h
          subst h
          exact hx
        · cases h
      · cases h
  · simp
theorem parse_words {a b : Bs} (h : words a = words b) : parseV a = parseV b := by unfold parseV; rw [h]
theorem words_blank {k : Bs} (h : ∀ c ∈ k, blankB c = true) : words k = [] := by
  have := words_aheads (k := k) h []
  rwa [List.append_nil] at this
theorem words_within {x y : Bs} (hx : ∀ c ∈ x, blankB c = true) (hy : ∀ c ∈ y, blankB c = true) (a : Bs) : words (x ++ a ++ y) = words a := by
  rw [words_behinds hy, words_aheads hx]
theorem parse_blanks {x y : Bs} (hx : ∀ c ∈ x, blankB c = true) (hy : ∀ c ∈ y, blankB c = true) (h1 : x.length ≤ 100) (h2 : y.length ≤ 100) (w : World) :
    Calls Tryd.prog 9 #[.string (⟨x.toArray⟩ ++ ⟨y.toArray⟩)] w fun e w' => e = .returned (.tuple #[.agg #[.string ⟨#[]⟩, .slice none 0 0], .int .i64 9]) ∧ Below w.heap.size w w' := by
  rw [← str_app]
  have hw : words (x ++ y) = [] := words_blank fun c hc => (List.mem_append.1 hc).elim (hx c) (hy c)
  have hp : parseV (x ++ y) = none := by unfold parseV; rw [hw]
  have := parse_any ⟨(x ++ y).toArray⟩ (by rw [bts_size]; simp; omega) w
  rw [show (⟨(x ++ y).toArray⟩ : ByteArray).data.toList = x ++ y from by simp, hp] at this
  exact this
theorem words_blanks {x y : Bs} (hx : ∀ c ∈ x, blankB c = true) (hy : ∀ c ∈ y, blankB c = true) (h1 : x.length ≤ 100) (h2 : y.length ≤ 100) (w : World) :
    Calls Tryd.prog 16 #[.string (⟨x.toArray⟩ ++ ⟨y.toArray⟩)] w fun e w' => ∃ a c, e = .returned (.slice a 0 c) ∧ Below w.heap.size w w' := by
  rw [← str_app]
  have hw : words (x ++ y) = [] := words_blank fun c hc => (List.mem_append.1 hc).elim (hx c) (hy c)
  have := words_u ⟨(x ++ y).toArray⟩ (by rw [bts_size]; simp; omega) w
  rw [show (⟨(x ++ y).toArray⟩ : ByteArray).data.toList = x ++ y from by simp, hw] at this
  exact this.mono fun e w' ⟨a, c, h, _, hb⟩ => ⟨a, c, h, hb⟩
theorem parse_within {x y : Bs} (hx : ∀ c ∈ x, blankB c = true) (hy : ∀ c ∈ y, blankB c = true) (h1 : x.length ≤ 100) (h2 : y.length ≤ 100) (s : ByteArray) (h3 : s.size ≤ 300) : ∃ (nm : Bs) (z : List Int) (n : Nat) (k : Int), nm.length ≤ 300 ∧ n ≤ 300 ∧
    Box (∀ w, Calls Tryd.prog 9 #[.string s] w fun e w' => ∃ ao c, e = .returned (.tuple #[.agg #[strv nm, .slice ao n c], .int .i64 k]) ∧ NumsAt w' ao n z ∧ Below w.heap.size w w') ∧
    Box (∀ w, Calls Tryd.prog 9 #[.string (⟨x.toArray⟩ ++ s ++ ⟨y.toArray⟩)] w fun e w' => ∃ ao c, e = .returned (.tuple #[.agg #[strv nm, .slice ao n c], .int .i64 k]) ∧ NumsAt w' ao n z ∧ Below w.heap.size w w') := by
  have l1 := parN_len s.data.toList
  have l2 := parZ_len s.data.toList
  rw [← bts_size] at l1 l2
  refine ⟨_, _, _, _, Nat.le_trans l1 h3, Nat.le_trans l2 h3, ⟨parse_u s (by omega)⟩, ⟨fun w => ?_⟩⟩
  have hd : (⟨x.toArray⟩ ++ s ++ ⟨y.toArray⟩ : ByteArray).data.toList = x ++ s.data.toList ++ y := by simp [ByteArray.data_append]
  have hz : (⟨x.toArray⟩ ++ s ++ ⟨y.toArray⟩ : ByteArray).size ≤ 100000 := by rw [bts_size, hd]; simp only [List.length_append]; rw [← bts_size]; omega
  have := parse_u _ hz w
  rw [hd] at this
  have hp := parse_words (words_within hx hy s.data.toList)
  unfold parN parZ parK at *
  rw [hp] at this
  exact this

set_option maxHeartbeats 16000000 in
set_option maxRecDepth 100000 in
theorem walk (a0 : Option Addr) (n0 c0 : Nat) (z0 : List Int) (a1 : Option Addr) (n1 c1 : Nat) (z1 : List Int) (s : ByteArray) (W : World) (q0 : ArgInts .u8 W a0 n0 z0) (q1 : ArgInts .u8 W a1 n1 z1) (q2 : s.size ≤ maxLen) (ht : Tab W) : Calls Tryd.prog 7 #[.slice a0 n0 c0, .slice a1 n1 c1, .string s] W fun e w' => e = .returned (.bool true) ∧ Below W.heap.size W w' := by
  have HA := Box.mk (awake21_any W ht)
  have HT := Box.mk ht
  have Q0 := Box.mk q0
  have Q1 := Box.mk q1
  clear q0 q1 q2 ht
  by_cases h1 : 100 < n0
  · go_enter Tryd.func7, Tryd.ntmps7
    go_wp2_with (go_at_call 8; (with_reducible refine HA.out.mono ?_); rintro e w1 ⟨rfl, hb⟩; have HB1 := Box.mk hb; clear hb)
    go_ret
    exact ⟨rfl, HB1.out⟩
  by_cases h2 : 100 < n1
  · go_enter Tryd.func7, Tryd.ntmps7
    go_wp2_with (go_at_call 8; (with_reducible refine HA.out.mono ?_); rintro e w1 ⟨rfl, hb⟩; have HB1 := Box.mk hb; clear hb)
    go_ret
    exact ⟨rfl, HB1.out⟩
  by_cases h3 : 300 < s.size
  · go_enter Tryd.func7, Tryd.ntmps7
    go_wp2_with (go_at_call 8; (with_reducible refine HA.out.mono ?_); rintro e w1 ⟨rfl, hb⟩; have HB1 := Box.mk hb; clear hb)
    go_ret
    exact ⟨rfl, HB1.out⟩
  go_enter Tryd.func7, Tryd.ntmps7
  go_upto_block 0 with (go_at_call 8; (with_reducible refine HA.out.mono ?_); rintro e w1 ⟨rfl, hb⟩; have HB1 := Box.mk hb; clear hb)
  go_wp2
  go_loopw [7, 9] (fun s7 s9 wr => ∃ (i : Nat) (k : Bs), i ≤ n0 ∧ s9 = .int .i64 i ∧ s7 = .string ⟨k.toArray⟩ ∧ k.length = i ∧ Box (∀ c ∈ k, blankB c = true) ∧ Box (Below w1.heap.size w1 wr)) (fun _ s9 _ => n0 - (intOf s9).toNat)
  case atStart => exact ⟨0, [], by omega, rfl, rfl, rfl, ⟨fun c h => by cases h⟩, ⟨Below.refl _ _⟩⟩
  case round =>
    obtain ⟨i, k, hi, rfl, rfl, hk, HK, HB⟩ := hrel
    by_cases hin : i < n0
    · obtain ⟨b, off, rfl, hbl, hc⟩ := Q0.out.get (by omega)
      have hzz := Q0.out.u8 i
      have hci := hc i hin
      clear hc
      generalize zv z0 i = y at hci hzz
      obtain ⟨y, rfl⟩ : ∃ m : Nat, y = m := ⟨y.toNat, by omega⟩
      have e0 : wr.cell? ⟨b, off + i, none⟩ = some (.int .u8 y) := (HB.out.cell (p := ⟨b, off + i, none⟩) (Nat.lt_of_lt_of_le hbl HB1.out.size)).trans ((HB1.out.cell (p := ⟨b, off + i, none⟩) hbl).trans hci)
      have hbl2 : b < wr.heap.size := Nat.lt_of_lt_of_le hbl (Nat.le_trans HB1.out.size HB.out.size)
      have hki : (i : Int) < n0 := by omega
      have hk0 : (0 : Int) ≤ i := by omega
      have hkl : (⟨k.toArray⟩ : ByteArray).size ≤ 100 := by rw [bts_size]; simp; omega
      clear hci hbl
      rcases (show y % 4 = 0 ∨ y % 4 = 1 ∨ y % 4 = 2 ∨ y % 4 = 3 by omega) with hr | hr | hr | hr
      · have hr1 : (y : Int) % 4 = 0 := by omega
        have hr2 : (y : Int).tmod 4 = 0 := by rw [Int.tmod_eq_emod_of_nonneg (by omega)]; omega
        clear hr
        go_wp2
        go_roundw
        case rel => exact ⟨i + 1, k ++ [32], by omega, by go_num, (str_app k [32]).symm, by simp; omega, ⟨fun c hc => by rcases List.mem_append.1 hc with h | h; exact HK.out c h; obtain rfl := List.mem_singleton.1 h; decide⟩, ⟨HB.out.alloc HB.out.size _⟩⟩
        case measure => simp [intOf] <;> omega
      · have hr1 : (y : Int) % 4 = 1 := by omega
        have hr2 : (y : Int).tmod 4 = 1 := by rw [Int.tmod_eq_emod_of_nonneg (by omega)]; omega
        clear hr
        go_wp2
        go_roundw
        case rel => exact ⟨i + 1, k ++ [9], by omega, by go_num, (str_app k [9]).symm, by simp; omega, ⟨fun c hc => by rcases List.mem_append.1 hc with h | h; exact HK.out c h; obtain rfl := List.mem_singleton.1 h; decide⟩, ⟨HB.out.alloc HB.out.size _⟩⟩
        case measure => simp [intOf] <;> omega
      · have hr1 : (y : Int) % 4 = 2 := by omega
        have hr2 : (y : Int).tmod 4 = 2 := by rw [Int.tmod_eq_emod_of_nonneg (by omega)]; omega
        clear hr
        go_wp2
        go_roundw
        case rel => exact ⟨i + 1, k ++ [10], by omega, by go_num, (str_app k [10]).symm, by simp; omega, ⟨fun c hc => by rcases List.mem_append.1 hc with h | h; exact HK.out c h; obtain rfl := List.mem_singleton.1 h; decide⟩, ⟨HB.out.alloc HB.out.size _⟩⟩
        case measure => simp [intOf] <;> omega
      · have hr1 : (y : Int) % 4 = 3 := by omega
        have hr2 : (y : Int).tmod 4 = 3 := by rw [Int.tmod_eq_emod_of_nonneg (by omega)]; omega
        clear hr
        go_wp2
        go_roundw
        case rel => exact ⟨i + 1, k ++ [13], by omega, by go_num, (str_app k [13]).symm, by simp; omega, ⟨fun c hc => by rcases List.mem_append.1 hc with h | h; exact HK.out c h; obtain rfl := List.mem_singleton.1 h; decide⟩, ⟨HB.out.alloc HB.out.size _⟩⟩
        case measure => simp [intOf] <;> omega
    · obtain rfl : i = n0 := by omega
      have hni : ¬ (i : Int) < i := by omega
      have HKx := HK
      have HBx := Box.mk (below_step HB1.out HB.out)
      have hkx : k.length ≤ 100 := by omega
      clear HK HB HB1 hk hni HA Q0
      rename Bs => kx
      rename World => V
      go_upto_block 2 with fail
      go_wp2
      go_loopw [8, 10] (fun s8 s10 wr => ∃ (i : Nat) (k : Bs), i ≤ n1 ∧ s10 = .int .i64 i ∧ s8 = .string ⟨k.toArray⟩ ∧ k.length = i ∧ Box (∀ c ∈ k, blankB c = true) ∧ Box (Below V.heap.size V wr)) (fun _ s10 _ => n1 - (intOf s10).toNat)
      case atStart => exact ⟨0, [], by omega, rfl, rfl, rfl, ⟨fun c h => by cases h⟩, ⟨Below.refl _ _⟩⟩
      case round =>
        obtain ⟨i, k, hi, rfl, rfl, hk, HK, HB⟩ := hrel
        by_cases hin : i < n1
        · obtain ⟨b, off, rfl, hbl, hc⟩ := Q1.out.get (by omega)
          have hzz := Q1.out.u8 i
          have hci := hc i hin
          clear hc
          generalize zv z1 i = y at hci hzz
          obtain ⟨y, rfl⟩ : ∃ m : Nat, y = m := ⟨y.toNat, by omega⟩
          have e0 : wr.cell? ⟨b, off + i, none⟩ = some (.int .u8 y) := (HB.out.cell (p := ⟨b, off + i, none⟩) (Nat.lt_of_lt_of_le hbl HBx.out.size)).trans ((HBx.out.cell (p := ⟨b, off + i, none⟩) hbl).trans hci)
          have hbl2 : b < wr.heap.size := Nat.lt_of_lt_of_le hbl (Nat.le_trans HBx.out.size HB.out.size)
          have hki : (i : Int) < n1 := by omega
          have hk0 : (0 : Int) ≤ i := by omega
          have hkl : (⟨k.toArray⟩ : ByteArray).size ≤ 100 := by rw [bts_size]; simp; omega
          clear hci hbl
          rcases (show y % 4 = 0 ∨ y % 4 = 1 ∨ y % 4 = 2 ∨ y % 4 = 3 by omega) with hr | hr | hr | hr
          · have hr1 : (y : Int) % 4 = 0 := by omega
            have hr2 : (y : Int).tmod 4 = 0 := by rw [Int.tmod_eq_emod_of_nonneg (by omega)]; omega
            clear hr
            go_wp2
            go_roundw
            case rel => exact ⟨i + 1, k ++ [32], by omega, by go_num, (str_app k [32]).symm, by simp; omega, ⟨fun c hc => by rcases List.mem_append.1 hc with h | h; exact HK.out c h; obtain rfl := List.mem_singleton.1 h; decide⟩, ⟨HB.out.alloc HB.out.size _⟩⟩
            case measure => simp [intOf] <;> omega
          · have hr1 : (y : Int) % 4 = 1 := by omega
            have hr2 : (y : Int).tmod 4 = 1 := by rw [Int.tmod_eq_emod_of_nonneg (by omega)]; omega
            clear hr
            go_wp2
            go_roundw
            case rel => exact ⟨i + 1, k ++ [9], by omega, by go_num, (str_app k [9]).symm, by simp; omega, ⟨fun c hc => by rcases List.mem_append.1 hc with h | h; exact HK.out c h; obtain rfl := List.mem_singleton.1 h; decide⟩, ⟨HB.out.alloc HB.out.size _⟩⟩
            case measure => simp [intOf] <;> omega
          · have hr1 : (y : Int) % 4 = 2 := by omega
            have hr2 : (y : Int).tmod 4 = 2 := by rw [Int.tmod_eq_emod_of_nonneg (by omega)]; omega
            clear hr
            go_wp2
            go_roundw
            case rel => exact ⟨i + 1, k ++ [10], by omega, by go_num, (str_app k [10]).symm, by simp; omega, ⟨fun c hc => by rcases List.mem_append.1 hc with h | h; exact HK.out c h; obtain rfl := List.mem_singleton.1 h; decide⟩, ⟨HB.out.alloc HB.out.size _⟩⟩
            case measure => simp [intOf] <;> omega
          · have hr1 : (y : Int) % 4 = 3 := by omega
            have hr2 : (y : Int).tmod 4 = 3 := by rw [Int.tmod_eq_emod_of_nonneg (by omega)]; omega
            clear hr
            go_wp2
            go_roundw
            case rel => exact ⟨i + 1, k ++ [13], by omega, by go_num, (str_app k [13]).symm, by simp; omega, ⟨fun c hc => by rcases List.mem_append.1 hc with h | h; exact HK.out c h; obtain rfl := List.mem_singleton.1 h; decide⟩, ⟨HB.out.alloc HB.out.size _⟩⟩
            case measure => simp [intOf] <;> omega
        · obtain rfl : i = n1 := by omega
          have hni : ¬ (i : Int) < i := by omega
          have HKy := HK
          have hky : k.length ≤ 100 := by omega
          have HBy := Box.mk (below_step HBx.out HB.out)
          clear HK HB HBx hk hni
          obtain ⟨nm, z, n, kk, hnm, hn3, HP, HP3⟩ := parse_within HKx.out HKy.out hkx hky s (by omega)
          have HP1 := Box.mk (fun w => parse_blanks HKx.out HKy.out hkx hky w)
          have HW1 := Box.mk (fun w => words_blanks HKx.out HKy.out hkx hky w)
          have hs1 : (⟨kx.toArray⟩ ++ ⟨k.toArray⟩ : ByteArray).size ≤ 1000 := by simp only [ByteArray.size_append]; rw [bts_size, bts_size]; simp; omega
          have hs2 : (⟨kx.toArray⟩ ++ s : ByteArray).size ≤ 1000 := by simp only [ByteArray.size_append]; rw [bts_size]; simp; omega
          have hs3 : (⟨kx.toArray⟩ ++ s ++ ⟨k.toArray⟩ : ByteArray).size ≤ 1000 := by simp only [ByteArray.size_append]; rw [bts_size, bts_size ⟨k.toArray⟩]; simp; omega
          rename World => V1
          go_upto_region 16 with (go_at_call 9; (with_reducible refine (HP1.out _).mono ?_); rintro e w2 ⟨rfl, hb⟩; have HB2 := Box.mk (below_step HBy.out hb); clear hb)
          have HB3 : Box (Below W.heap.size W (w2.alloc (.cells #[.string ⟨#[]⟩, .slice none 0 0] 25))) := ⟨HB2.out.alloc HB2.out.size _⟩
          generalize w2.alloc (.cells #[.string ⟨#[]⟩, .slice none 0 0] 25) = V2 at HB3 ⊢
          clear HB2 HBy HP1
          go_upto_region 17 with (go_at_call 9; (with_reducible refine (HP.out _).mono ?_); rintro e w3 ⟨ao, c, rfl, hn, hb⟩; have HB4 := Box.mk (below_step HB3.out hb); have HN4 := Box.mk hn; clear hb hn)
          obtain ⟨V3, B, hV, hB, HX, HBV, HNV⟩ := keep_blk HB4.out HN4.out (.cells #[strv nm, .slice ao n c] 25)
          rw [← hV, ← hB]
          clear hV hB HB4 HN4 HB3 HP
          go_upto_region 18 with (go_at_call 9; (with_reducible refine (HP3.out _).mono ?_); rintro e w4 ⟨ao', c', rfl, hn, hb⟩; have HB5 := Box.mk hb; have HN5 := Box.mk hn; clear hb hn)
          obtain ⟨V4, B', hV2, hB', HX2, HBV2, HNV2⟩ := keep_blk HB5.out HN5.out (.cells #[strv nm, .slice ao' n c'] 25)
          rw [← hV2, ← hB']
          have HNV := Box.mk (HNV.out.later HBV2.out)
          have HX := Box.mk ((HBV2.out.block B (lt_blk HX.out)).trans HX.out)
          have HBV := Box.mk (below_step HBV.out HBV2.out)
          have HTV := HT.out.on HBV.out
          have HT1 : Box (∀ w', Below V4.heap.size V4 w' → Calls Tryd.prog 19 #[.agg #[strv nm, .slice ao n c]] w' fun e w'' => e = .returned (strv (textV nm z)) ∧ Below w'.heap.size w' w'') := ⟨fun w' hb => text_any nm ao n c z w' (HNV.out.later hb) (HTV.on hb) (by omega) (by omega)⟩
          have HT2 : Box (∀ w', Below V4.heap.size V4 w' → Calls Tryd.prog 19 #[.agg #[strv nm, .slice ao' n c']] w' fun e w'' => e = .returned (strv (textV nm z)) ∧ Below w'.heap.size w' w'') := ⟨fun w' hb => text_any nm ao' n c' z w' (HNV2.out.later hb) (HTV.on hb) (by omega) (by omega)⟩
          have HC : Box (∀ w', Below V4.heap.size V4 w' → w'.cell? ⟨B, 0, none⟩ = some (strv nm) ∧ w'.cell? ⟨B, 1, none⟩ = some (.slice ao n c) ∧ w'.cell? ⟨B', 0, none⟩ = some (strv nm) ∧ w'.cell? ⟨B', 1, none⟩ = some (.slice ao' n c')) := ⟨fun w' hb => by
            have h5 := (hb.block B (lt_blk HX.out)).trans HX.out
            have h6 := (hb.block B' (lt_blk HX2.out)).trans HX2.out
            exact ⟨(cell_blk h5 0).trans rfl, (cell_blk h5 1).trans rfl, (cell_blk h6 0).trans rfl, (cell_blk h6 1).trans rfl⟩⟩
          have hbr := Below.refl V4.heap.size V4
          have hbd := hbr.drew
          obtain ⟨f0, f1, f2, f3⟩ := HC.out V4 hbr
          clear HX HX2 HTV hV2 hB' HB5 HN5 HBV2 HP3 HKx HKy
          generalize textV nm z = tx at HT1 HT2
          have hs0 : ¬ 9223372036854775807 < kx.length + k.length := by omega
          go_region_held3 (fun w' => w'.cell? ⟨B, 0, none⟩ = some (strv nm) ∧ w'.cell? ⟨B, 1, none⟩ = some (.slice ao n c) ∧ w'.cell? ⟨B', 0, none⟩ = some (strv nm) ∧ w'.cell? ⟨B', 1, none⟩ = some (.slice ao' n c') ∧ Below V4.heap.size V4 w') (simp [*, below_drew])
            (first
              | (go_at_call 16; (with_reducible refine (HW1.out _).mono ?_); rintro e w5 ⟨wa, wc, rfl, hb⟩; have hb7 := below_step (w := V4) (by first | assumption | exact hbr.drew) hb; obtain ⟨g0, g1, g2, g3⟩ := HC.out w5 hb7)
              | (go_at_call 19; (with_reducible refine (HT1.out _ (by first | assumption | exact hbr.drew)).mono ?_); rintro e w5 ⟨rfl, hb⟩; have hb7 := below_step (w := V4) (by first | assumption | exact hbr.drew) hb; obtain ⟨g0, g1, g2, g3⟩ := HC.out w5 hb7)
              | (go_at_call 19; (with_reducible refine (HT2.out _ (by first | assumption | exact hbr.drew)).mono ?_); rintro e w5 ⟨rfl, hb⟩; have hb7 := below_step (w := V4) (by first | assumption | exact hbr.drew) hb; obtain ⟨g0, g1, g2, g3⟩ := HC.out w5 hb7))
          go_wp2
          go_ret
          exact ⟨rfl, below_step HBV.out (by assumption)⟩

/-! The row's step. -/
theorem own : ownKnob Tryd.prog.godebug = none := by kernel_rfl
theorem laidOut : laidOutB Tryd.prog = true := by kernel_rfl

set_option maxRecDepth 100000 in
theorem lifted (os : Os) (started : os.Started) (H : Type) (enc : TypeId × Value → H) :
    ReturnsInHanded {} Tryd.checked os 7 .any (fun w args => (Rows.callBlankSpec.pre enc Tryd.prog Tryd.f7 [] false w args ∧ laidMetH Tryd.prog laids w) ∧ sizedMet enc Tryd.prog Tryd.f7 (OpenSpec.ofChange Rows.callBlankSpec) false w args) (Rows.callBlankSpec.post enc Tryd.prog Tryd.f7 false true false false) := by
  refine returnsInHanded_of_change_and (C := Tryd.checked) (X := fun w _ => laidMetH Tryd.prog laids w) (fun _ _ _ hh h => h.of_heap hh) own started (by kernel_rfl) Tryd.func7
    (ChangeSpec.witness_at (enc := enc) (C := Tryd.checked) (os := os) (X := fun w _ => laidMetH Tryd.prog laids w) false (laidWorld os) #[.slice none 0 0, .slice none 0 0, .string ⟨#[]⟩] 8 rfl (by kernel_rfl) (by kernel_rfl) (by kernel_rfl) (by kernel_rfl) (by kernel_rfl) (laidWorld_met os _)) ?_
  intro W base args ds gs before hval0 hW hcnd _ hL _
  have hval : ∀ (j : Nat) t v, Tryd.f7.params[j]? = some t → args[j]? = some v → Value.okWide Tryd.prog W .any base t v := hval0
  have hW' := hW
  obtain ⟨p, q, hA0, hV, rfl, hfz, hnd⟩ := hW
  have hA : DataW.TrodAll enc Tryd.prog W 0 (fun _ => true) true Tryd.f7.params.toList args.toList ds p := hA0
  rw [Tryd.params7] at hA hval
  obtain ⟨v0, vs0, d0, ds0, p0, q0, hargs, rfl, rfl, h0, r0⟩ := trodAll_cons hA
  obtain ⟨v1, vs1, d1, ds1, p1, q1, rfl, rfl, rfl, h1, r1⟩ := trodAll_cons r0
  obtain ⟨v2, vs2, d2, ds2, p2, q2, rfl, rfl, rfl, h2, r2⟩ := trodAll_cons r1
  obtain ⟨rfl, rfl, rfl⟩ := trodAll_nil r2
  obtain rfl : args = #[v0, v1, v2] := by cases args; simp_all
  obtain ⟨rfl, rfl⟩ := trodVars_none hV
  obtain ⟨a0, len0, cap0, rfl⟩ := okWide_slice Tryd.underlying36 (hval 0 36 v0 rfl rfl)
  have k0 := h0
  have lt0 : ∀ x ∈ p0, x.block < W.heap.size := by obtain ⟨m, hm⟩ := k0; exact DataW.trod_lt m _ _ _ hm
  obtain ⟨z0, w0⟩ : ∃ zs, ArgInts .u8 W a0 len0 zs := by
    obtain ⟨fuel, hf⟩ := h0
    rcases open_ints Tryd.underlying36 Tryd.underlying5 (by kernel_rfl) hf with ⟨hcs, _⟩ | ⟨x, l, c, zs, hcs, _, hl, hm, hz, _, hcell, hwz⟩
    · simp [Value.cells] at hcs
      obtain ⟨rfl, rfl, rfl⟩ := hcs
      exact ⟨[], rfl, by omega, by simp, fun h => by omega⟩
    · simp [Value.cells] at hcs
      obtain ⟨rfl, rfl, rfl⟩ := hcs
      exact ⟨zs.take len0, argInts_of_ints hl hm (by simpa using hz) hcell hwz⟩
  obtain ⟨a1, len1, cap1, rfl⟩ := okWide_slice Tryd.underlying36 (hval 1 36 v1 rfl rfl)
  have k1 := h1
  have lt1 : ∀ x ∈ p1, x.block < W.heap.size := by obtain ⟨m, hm⟩ := k1; exact DataW.trod_lt m _ _ _ hm
  obtain ⟨z1, w1⟩ : ∃ zs, ArgInts .u8 W a1 len1 zs := by
    obtain ⟨fuel, hf⟩ := h1
    rcases open_ints Tryd.underlying36 Tryd.underlying5 (by kernel_rfl) hf with ⟨hcs, _⟩ | ⟨x, l, c, zs, hcs, _, hl, hm, hz, _, hcell, hwz⟩
    · simp [Value.cells] at hcs
      obtain ⟨rfl, rfl, rfl⟩ := hcs
      exact ⟨[], rfl, by omega, by simp, fun h => by omega⟩
    · simp [Value.cells] at hcs
      obtain ⟨rfl, rfl, rfl⟩ := hcs
      exact ⟨zs.take len1, argInts_of_ints hl hm (by simpa using hz) hcell hwz⟩
  obtain ⟨x2, rfl, rfl, rfl, w2⟩ := Go.ChangeMaps.open_string Tryd.underlying9 (hval 2 9 v2 rfl rfl) h2
  clear hA0 hval0
  refine (walk a0 len0 cap0 z0 a1 len1 cap1 z1 x2 W w0 w1 w2 (tab_of_laids hL)).mono fun e W' ⟨he, bel⟩ => ?_
  subst he
  exact ⟨_, rfl, _, _, _, [], _, [], hW', trodAll_mk1 (shut_bool Tryd.underlying4 _), (trodAll_cons_mk (Below.trod laidOut (by kernel_rfl) (of_decide_eq_true (by kernel_rfl)) k0 bel lt0) (trodAll_cons_mk (Below.trod laidOut (by kernel_rfl) (of_decide_eq_true (by kernel_rfl)) k1 bel lt1) (trodAll_cons_mk (Go.ChangeMaps.shut_string Tryd.underlying9 w2) trodAll_mk0))), rfl, bel.frame _, fun h => by cases h⟩

theorem over : Rows.callBlankRow.holds Tryd.pinned (OpenSpec.ofChange Rows.callBlankSpec) :=
  OpenClaim.holds_of_wide 7 Tryd.f7 rfl rfl rfl rfl rfl rfl rfl ⟨rfl, rfl, rfl, rfl, rfl⟩ rfl rfl rfl rfl rfl (by kernel_rfl) Tryd.func7 (by kernel_rfl)
    (of_decide_eq_true (by kernel_rfl)) (by unfold Func.isWrapper; first | (rw [if_pos (by decide +kernel)]; kernel_rfl) | (rw [if_neg (by decide +kernel)]; exact ⟨rfl, rfl⟩))
    (fun os started H enc _ => lifted os started H enc)

/-- The statement. -/
theorem proved : Rows.CallBlankCardSaid :=
  Claim7.holds_tied_plain_at .later [] [.data, .data, .data] true (true, "c1b01954ffc0753169e2318a28d598a11c4203c1182dc2c9381d645921c02716") true
    over (fun _ h => by cases h) (by kernel_rfl) (fun _ h => by cases h) callBlank_row_tie rfl ⟨rfl, rfl⟩ (by kernel_rfl) rfl
    (fun f fn hf hfn => by
      obtain rfl : f = 7 := Option.some.inj ((show Tryd.prog.funcNamed "linchpin/linchpinlaw21.CallBlank" = some 7 by kernel_rfl).symm.trans hf) |>.symm
      obtain rfl : fn = Tryd.f7 := (Option.some.inj (Tryd.func7.symm.trans hfn)).symm
      exact ⟨by kernel_rfl, fun j t ht => by
        rw [Tryd.params7] at ht
        rcases j with _ | j
        · obtain rfl : 36 = t := by simpa using ht
          exact (show Tryd.prog.wantsStandIn 36 = false by kernel_rfl)
        rcases j with _ | j
        · obtain rfl : 36 = t := by simpa using ht
          exact (show Tryd.prog.wantsStandIn 36 = false by kernel_rfl)
        rcases j with _ | j
        · obtain rfl : 9 = t := by simpa using ht
          exact (show Tryd.prog.wantsStandIn 9 = false by kernel_rfl)
        simp at ht⟩)
    (by kernel_rfl)
#print axioms proved

end Go.Proofs.YtanlodaimbocoaaDoor.callBlank
