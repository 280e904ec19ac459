/-
  The walks of both functions 'May'.
-/
import Derived.Test.YtanlodaimbocoaaDoorStF
namespace Go.Proofs.YtanlodaimbocoaaDoor
open Go.RowKit

/-- A row of numbers. -/
def NumsAt (w : World) (ao : Option Addr) (n : Nat) (z : List Int) : Prop := z.length = n ∧ n ≤ 1000000 ∧ (0 < n → ∃ b off, ao = some ⟨b, off, none⟩ ∧ b < w.heap.size ∧ ∀ i (hi : i < z.length), w.cell? ⟨b, off + i, none⟩ = some (.int .i64 z[i]))
theorem NumsAt.later {w w' : World} {ao : Option Addr} {n : Nat} {z : List Int} (h : NumsAt w ao n z) (hb : Below w.heap.size w w') : NumsAt w' ao n z :=
  ⟨h.1, h.2.1, fun h0 => by
    obtain ⟨b, off, e, hl, hc⟩ := h.2.2 h0
    exact ⟨b, off, e, Nat.lt_of_lt_of_le hl hb.size, fun i hi => (hb.cell (p := ⟨b, off + i, none⟩) hl).trans (hc i hi)⟩⟩
def badN (v : Int) : Bool := decide (v < 0 ∨ 2147483647 < v)
set_option maxHeartbeats 1000000 in
theorem may1_any (v : Int) (w : World) : Calls Tryd.prog 30 #[.int .i64 v] w fun e w' => e = .returned (.bool (badN v)) ∧ w = w' := by
  by_cases h1 : v < 0
  · have e : badN v = true := by unfold badN; simp [h1]
    rw [e]
    clear e
    go_enter Tryd.func30, Tryd.ntmps30
    go_wp2
    go_ret
    exact ⟨rfl, rfl⟩
  · by_cases h2 : 2147483647 < v
    · have e : badN v = true := by unfold badN; simp [h2]
      rw [e]
      clear e
      go_enter Tryd.func30, Tryd.ntmps30
      go_wp2
      go_ret
      exact ⟨rfl, rfl⟩
    · have e : badN v = false := by unfold badN; simp [h2]; omega
      rw [e]
      clear e
      go_enter Tryd.func30, Tryd.ntmps30
      go_wp2
      go_ret
      exact ⟨rfl, rfl⟩
set_option maxHeartbeats 4000000 in
theorem index_any (ao : Option Addr) (n cap : Nat) (z : List Int) (w : World) (h : NumsAt w ao n z) : Calls Tryd.prog 35 #[.slice ao n cap, .func (.func 30) #[] #[]] w fun e w' => ∃ r : Int, e = .returned (.int .i64 r) ∧ (0 ≤ r ↔ z.any badN = true) ∧ w = w' := by
  have H := Box.mk h
  have hn := h.2.1
  clear h
  go_enter Tryd.func35, Tryd.ntmps35
  go_upto_block 0 with fail
  go_wp2
  go_loopw [5, 8] (fun _ s8 wr => ∃ i : Nat, i ≤ n ∧ s8 = .int .i64 i ∧ wr = w ∧ Box (∀ j (hj : j < z.length), j < i → badN z[j] = false)) (fun _ s8 _ => n - (intOf s8).toNat)
  case atStart => exact ⟨0, by omega, rfl, rfl, ⟨fun j _ h => by omega⟩⟩
  case round =>
    obtain ⟨i, hi, rfl, rfl, HX⟩ := hrel
    by_cases hlt : i < n
    · obtain ⟨b, off, rfl, hb, hc⟩ := H.out.2.2 (by omega)
      have hiz : i < z.length := by rw [H.out.1]; exact hlt
      have cx := hc i hiz
      have HM := Box.mk (fun w => may1_any z[i] w)
      have HX2 : Box (badN z[i] = false → ∀ j (hj : j < z.length), j < i + 1 → badN z[j] = false) := ⟨fun h j hj hji => by
        by_cases e : j = i
        · subst e; exact h
        · exact HX.out j hj (by omega)⟩
      have HA : Box (badN z[i] = true → z.any badN = true) := ⟨fun h => List.any_eq_true.2 ⟨_, List.getElem_mem hiz, h⟩⟩
      have hii : (i : Int) < n := by omega
      generalize z[i] = v at cx HM HX2 HA
      clear hc hiz HX
      cases hv : badN v with
      | true =>
        rw [hv] at HM
        have HE := Box.mk (HA.out hv)
        clear HA HX2 hv
        go_wp2_with (go_at_call 30; (with_reducible refine (HM.out _).mono ?_); rintro e w1 ⟨rfl, rfl⟩)
        go_ret
        exact ⟨i, rfl, ⟨fun _ => HE.out, fun _ => by omega⟩, rfl⟩
      | false =>
        rw [hv] at HM
        have HE := Box.mk (HX2.out hv)
        clear HA HX2 hv
        go_wp2_with (go_at_call 30; (with_reducible refine (HM.out _).mono ?_); rintro e w1 ⟨rfl, rfl⟩)
        go_roundw
        case rel => exact ⟨i + 1, by omega, by go_num, by first | rfl | trivial, HE⟩
        case measure => simp [intOf] <;> omega
    · have hii : ¬ (i : Int) < n := by omega
      have HE : Box (¬ z.any badN = true) := ⟨fun h => by
        obtain ⟨v, hv, hb⟩ := List.any_eq_true.1 h
        obtain ⟨j, hj, rfl⟩ := List.getElem_of_mem hv
        rw [HX.out j hj (by have := H.out.1; omega)] at hb
        cases hb⟩
      clear HX
      go_wp2
      go_ret
      exact ⟨-1, rfl, ⟨fun h => by omega, fun h => absurd (List.any_eq_true.2 h) HE.out⟩, rfl⟩
set_option maxHeartbeats 4000000 in
theorem contains_any (ao : Option Addr) (n cap : Nat) (z : List Int) (w : World) (h : NumsAt w ao n z) : Calls Tryd.prog 29 #[.slice ao n cap, .func (.func 30) #[] #[]] w fun e w' => e = .returned (.bool (z.any badN)) ∧ w = w' := by
  have HI := Box.mk (index_any ao n cap z w h)
  clear h
  go_enter Tryd.func29, Tryd.ntmps29
  go_wp2_with (go_at_call 35; (with_reducible refine HI.out.mono ?_); rintro e w1 ⟨r, rfl, hr, rfl⟩; have HR := Box.mk hr; clear hr)
  go_ret
  refine ⟨?_, rfl⟩
  show Ending.returned (.bool (decide (0 ≤ r))) = .returned (.bool (z.any badN))
  congr 2
  rw [Bool.eq_iff_iff, decide_eq_true_eq]
  exact HR.out

/-- Whether a command may be. -/
def mayB (name : Bs) (z : List Int) : Bool := decide (namesF name = some z.length) && !z.any badN
set_option maxHeartbeats 4000000 in
theorem may_any (name : Bs) (hx : sok name) (ao : Option Addr) (n cap : Nat) (z : List Int) (w : World) (h : NumsAt w ao n z) : Calls Tryd.prog 21 #[.agg #[strv name, .slice ao n cap]] w fun e w' => e = .returned (.bool (mayB name z)) ∧ Below w.heap.size w w' := by
  have hbl : Below w.heap.size w (w.alloc (.cells #[strv name, .slice ao n cap] 25)) := (Below.refl _ w).alloc (Nat.le_refl _) _
  have HB := Box.mk hbl
  have HN := Box.mk (fun w => nums_any name hx w)
  have HK : Box (∀ w', Below w.heap.size w w' → Calls Tryd.prog 29 #[.slice ao n cap, .func (.func 30) #[] #[]] w' fun e w'' => e = .returned (.bool (z.any badN)) ∧ w' = w'') := ⟨fun w' hb => contains_any ao n cap z w' (h.later hb)⟩
  have hzn := h.1
  have HX1 : Box ((w.alloc (.cells #[strv name, .slice ao n cap] 25)).heap[w.heap.size]? = some (.cells #[strv name, .slice ao n cap] 25 (0, 0))) := ⟨blk_new _ _⟩
  clear h hbl hx
  cases hN : namesF name with
  | none =>
    rw [hN] at HN
    have HE : Box (mayB name z = false) := ⟨by unfold mayB; rw [hN]; simp⟩
    clear hN
    go_enter Tryd.func21, Tryd.ntmps21
    go_upto_region 1 with fail
    generalize hV : w.alloc (.cells #[strv name, .slice ao n cap] 25) = V at HB HX1 ⊢
    have HVS : Box (V.heap.size = w.heap.size + 1) := ⟨by rw [← hV]; simp⟩
    clear hV
    have c0 : V.cell? ⟨w.heap.size, 0, none⟩ = some (strv name) := (cell_blk HX1.out 0).trans rfl
    go_wp2_with (go_at_call 13; (with_reducible refine (HN.out _).mono ?_); rintro e w1 ⟨he, hb⟩; (obtain rfl : e = .returned (.tuple #[.int .i64 0, .bool false]) := he); have HB1 := Box.mk hb; clear hb)
    go_ret
    exact ⟨by rw [HE.out]; rfl, HB.out.trans (HB1.out.mono (by have := HVS.out; omega))⟩
  | some k =>
    rw [hN] at HN
    have HE : Box (mayB name z = (decide (k = n) && !z.any badN)) := ⟨by
      unfold mayB; rw [hN, hzn]; simp⟩
    clear hN
    go_enter Tryd.func21, Tryd.ntmps21
    go_upto_region 1 with fail
    generalize hV : w.alloc (.cells #[strv name, .slice ao n cap] 25) = V at HB HX1 ⊢
    have HVS : Box (V.heap.size = w.heap.size + 1) := ⟨by rw [← hV]; simp⟩
    clear hV
    have c0 : V.cell? ⟨w.heap.size, 0, none⟩ = some (strv name) := (cell_blk HX1.out 0).trans rfl
    by_cases hkn : k = n
    · have hb1 : ((k : Int) == (n : Int)) = true := by simp [hkn]
      have HE2 : Box (mayB name z = !z.any badN) := ⟨by rw [HE.out]; simp [hkn]⟩
      clear hkn HE
      go_wp2_with (first
        | (go_at_call 13; (with_reducible refine (HN.out _).mono ?_); rintro e w1 ⟨he, hb⟩; (obtain rfl : e = .returned (.tuple #[.int .i64 k, .bool true]) := he); have HB1 := Box.mk hb; have c1 : World.cell? w1 ⟨w.heap.size, 1, none⟩ = some (.slice ao n cap) := (cell_blk (by rw [hb.block w.heap.size (lt_blk HX1.out)]; exact HX1.out) 1).trans rfl; clear hb)
        | (go_at_call 29; refine (HK.out _ (HB.out.trans (HB1.out.mono (by have := HVS.out; omega)))).mono ?_; rintro e w2 ⟨rfl, rfl⟩))
      go_ret
      exact ⟨by rw [HE2.out]; rfl, HB.out.trans (HB1.out.mono (by have := HVS.out; omega))⟩
    · have hb1 : ((k : Int) == (n : Int)) = false := beq_eq_false_iff_ne.2 (by omega)
      have HE2 : Box (mayB name z = false) := ⟨by rw [HE.out]; simp [hkn]⟩
      clear hkn HE
      go_wp2_with (first
        | (go_at_call 13; (with_reducible refine (HN.out _).mono ?_); rintro e w1 ⟨he, hb⟩; (obtain rfl : e = .returned (.tuple #[.int .i64 k, .bool true]) := he); have HB1 := Box.mk hb; have c1 : World.cell? w1 ⟨w.heap.size, 1, none⟩ = some (.slice ao n cap) := (cell_blk (by rw [hb.block w.heap.size (lt_blk HX1.out)]; exact HX1.out) 1).trans rfl; clear hb))
      go_ret
      exact ⟨by rw [HE2.out]; rfl, HB.out.trans (HB1.out.mono (by have := HVS.out; omega))⟩

end Go.Proofs.YtanlodaimbocoaaDoor
