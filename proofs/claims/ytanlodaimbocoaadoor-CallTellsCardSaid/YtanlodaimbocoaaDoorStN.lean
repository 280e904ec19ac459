/-
  The walks of the document's 'Text', 'Same', and 'Texts'.
-/
import Derived.Test.YtanlodaimbocoaaDoorStM
import Derived.BigQuiet
namespace Go.Proofs.YtanlodaimbocoaaDoor
open Go.RowKit

set_option maxHeartbeats 16000000 in
set_option maxRecDepth 100000 in
theorem rtext_any (name : Bs) (ao : Option Addr) (n cap : Nat) (z : List Int) (w : World) (h : NumsAt w ao n z) (hx : name.length ≤ 100000) (hz : n ≤ 10000) : Calls Tryd.prog 20 #[.agg #[strv name, .slice ao n cap]] w fun e w' => e = .returned (strv (textV name z)) ∧ Below w.heap.size w w' := by
  have HB := Box.mk ((Below.refl w.heap.size w).alloc (Nat.le_refl _) (.cells #[strv name, .slice ao n cap] 25))
  have HZ := Box.mk (h.later HB.out)
  have HZN := Box.mk h.1
  have HX1 : Box ((w.alloc (.cells #[strv name, .slice ao n cap] 25)).heap[w.heap.size]? = some (.cells #[strv name, .slice ao n cap] 25 (0, 0))) := ⟨blk_new _ _⟩
  have HM : Box (∀ w', NumsAt w' ao n z → Calls Tryd.prog 22 #[.agg #[strv name, .slice ao n cap]] w' fun e w'' => e = .returned (.bool (mayB name z)) ∧ Below w'.heap.size w' w'') := ⟨fun w' h => rmay_any name ao n cap z w' h⟩
  clear h
  go_enter Tryd.func20, Tryd.ntmps20
  go_upto_region 1 with fail
  generalize hV : w.alloc (.cells #[strv name, .slice ao n cap] 25) = V at HB HX1 HZ ⊢
  have HVS : Box (w.heap.size < V.heap.size) := ⟨lt_blk HX1.out⟩
  clear hV
  have c0 : V.cell? ⟨w.heap.size, 0, none⟩ = some (strv name) := (cell_blk HX1.out 0).trans rfl
  have c1 : V.cell? ⟨w.heap.size, 1, none⟩ = some (.slice ao n cap) := (cell_blk HX1.out 1).trans rfl
  have HM := Box.mk (HM.out V HZ.out)
  cases hmb : mayB name z with
  | false =>
    rw [hmb] at HM
    have HE : Box (textV name z = []) := ⟨by unfold textV; rw [hmb]; rfl⟩
    clear hmb
    go_wp2_with (go_at_call 22; (with_reducible refine HM.out.mono ?_); rintro e w1 ⟨rfl, hb⟩; have HB1 := Box.mk hb; clear hb)
    go_ret
    exact ⟨by rw [HE.out]; rfl, HB.out.trans (HB1.out.mono (by have := HVS.out; omega))⟩
  | true =>
    rw [hmb] at HM
    have HE : Box (textV name z = name ++ Lib.joinTail [32] (z.map Lib.itoa)) := ⟨by unfold textV; rw [hmb, if_pos rfl, Lib.join_cons]⟩
    have HBN := Box.mk (may_bounds hmb)
    clear hmb
    go_upto_region 3 with (go_at_call 22; (with_reducible refine HM.out.mono ?_); rintro e w1 ⟨rfl, hb⟩; have HB1 := Box.mk hb; clear hb)
    have HX2 : Box (w1.heap[w.heap.size]? = some (.cells #[strv name, .slice ao n cap] 25 (0, 0))) := ⟨by rw [HB1.out.block _ HVS.out]; exact HX1.out⟩
    have HBa : Box (Below w.heap.size w w1) := ⟨HB.out.trans (HB1.out.mono (by have := HVS.out; omega))⟩
    have HZ1 := Box.mk (HZ.out.later HB1.out)
    clear HB HB1 HZ HX1 HVS c0 c1
    have c0 : World.cell? w1 ⟨w.heap.size, 0, none⟩ = some (strv name) := (cell_blk HX2.out 0).trans rfl
    go_upto_block 0 with fail
    clear c0
    go_wp2
    go_loopw [3, 4] (fun s3 s4 wr => ∃ (i : Nat) (s : Bs), i ≤ n ∧ s4 = .int .i64 i ∧ s3 = strv s ∧ s.length ≤ 100000 + 22 * i ∧ Box (s = name ++ Lib.joinTail [32] ((z.take i).map Lib.itoa)) ∧ Box (Below w1.heap.size w1 wr)) (fun _ s4 _ => n - (intOf s4).toNat)
    case atStart => exact ⟨0, name, by omega, rfl, rfl, by omega, ⟨by simp [Lib.joinTail]⟩, ⟨Below.refl _ _⟩⟩
    case round =>
      obtain ⟨i, s, hin, rfl, rfl, hsl, HS, HB⟩ := hrel
      have HX3 : Box (wr.heap[w.heap.size]? = some (.cells #[strv name, .slice ao n cap] 25 (0, 0))) := ⟨by rw [HB.out.block _ (lt_blk HX2.out)]; exact HX2.out⟩
      have c1 : World.cell? wr ⟨w.heap.size, 1, none⟩ = some (.slice ao n cap) := (cell_blk HX3.out 1).trans rfl
      by_cases hlt : i < n
      · have hii : (i : Int) < n := by omega
        have hiz : i < z.length := by rw [HZN.out]; exact hlt
        obtain ⟨b, off, rfl, hbl, hc⟩ := HZ1.out.2.2 (by omega)
        have cx := (HB.out.cell (p := ⟨b, off + i, none⟩) hbl).trans (hc i hiz)
        have hvb := HBN.out _ (List.getElem_mem hiz)
        have HI := Box.mk (digits_any z[i] (by omega) (by omega) wr)
        have hil := itoa_len hvb.1 hvb.2
        have HTK : Box (s ++ ([32] ++ Lib.itoa z[i]) = name ++ Lib.joinTail [32] ((z.take (i + 1)).map Lib.itoa)) := ⟨by
          rw [HS.out, List.take_succ_eq_append_getElem hiz, List.map_append]
          simp [Lib.joinTail, List.append_assoc]⟩
        generalize z[i] = v at cx HI HTK hil
        generalize Lib.itoa v = l at HI HTK hil
        clear hc hvb
        go_wp2_with (go_at_call 23; (with_reducible refine HI.out.mono ?_); rintro e w3 ⟨rfl, hb⟩; have HBv := Box.mk hb; clear hb)
        have HB3 : Box (Below w1.heap.size w1 w3) := ⟨HB.out.trans (HBv.out.mono HB.out.size)⟩
        have hl2 : (s ++ ([32] ++ l)).length ≤ 100000 + 22 * (i + 1) := by simp only [List.length_append, List.length_cons, List.length_nil]; omega
        go_roundw
        case rel => exact ⟨i + 1, s ++ ([32] ++ l), by omega, by go_num, by rw [← List.append_assoc, str_app (s ++ [32]) l, strb_app], hl2, HTK, HB3⟩
        case measure => simp [intOf] <;> omega
      · have hii : ¬ (i : Int) < n := by omega
        obtain rfl : i = n := by omega
        have HS2 : Box (s = textV name z) := ⟨by rw [HE.out, HS.out, List.take_of_length_le (by rw [HZN.out]; exact Nat.le_refl _)]⟩
        go_wp2
        go_ret
        exact ⟨by rw [← HS2.out]; rfl, HBa.out.trans (HB.out.mono HBa.out.size)⟩

set_option maxHeartbeats 8000000 in
theorem rsame_call (name : Bs) (ao ao' : Option Addr) (n c c' : Nat) (z : List Int) (w : World) (h1 : NumsAt w ao n z) (h2 : NumsAt w ao' n z) :
    Calls Tryd.prog 18 #[.agg #[strv name, .slice ao n c], .agg #[strv name, .slice ao' n c']] w fun e w' => e = .returned (.bool true) ∧ Below w.heap.size w w' := by
  have HB := Box.mk (((Below.refl w.heap.size w).alloc (Nat.le_refl _) (.cells #[strv name, .slice ao n c] 25)).alloc (by simp) (.cells #[strv name, .slice ao' n c'] 25))
  have HX1 : Box (((w.alloc (.cells #[strv name, .slice ao n c] 25)).alloc (.cells #[strv name, .slice ao' n c'] 25)).heap[w.heap.size]? = some (.cells #[strv name, .slice ao n c] 25 (0, 0))) := ⟨blk_alloc (blk_new _ _)⟩
  have HX2 : Box (((w.alloc (.cells #[strv name, .slice ao n c] 25)).alloc (.cells #[strv name, .slice ao' n c'] 25)).heap[w.heap.size + 1]? = some (.cells #[strv name, .slice ao' n c'] 25 (0, 0))) := ⟨by
    have := blk_new (w.alloc (.cells #[strv name, .slice ao n c] 25)) (.cells #[strv name, .slice ao' n c'] 25)
    rwa [show (w.alloc (.cells #[strv name, .slice ao n c] 25)).heap.size = w.heap.size + 1 from by simp] at this⟩
  have H1 := Box.mk (h1.later HB.out)
  have H2 := Box.mk (h2.later HB.out)
  have hn6 := h1.2.1
  have hnn : ((n : Int) != (n : Int)) = false := by simp
  have HZN := Box.mk h1.1
  clear h1 h2
  go_enter Tryd.func18, Tryd.ntmps18
  go_upto_region 1 with fail
  generalize (w.alloc (.cells #[strv name, .slice ao n c] 25)).alloc (.cells #[strv name, .slice ao' n c'] 25) = V at HB HX1 HX2 H1 H2 ⊢
  have a0 : V.cell? ⟨w.heap.size, 0, none⟩ = some (strv name) := (cell_blk HX1.out 0).trans rfl
  have a1 : V.cell? ⟨w.heap.size, 1, none⟩ = some (.slice ao n c) := (cell_blk HX1.out 1).trans rfl
  have b0 : V.cell? ⟨w.heap.size + 1, 0, none⟩ = some (strv name) := (cell_blk HX2.out 0).trans rfl
  have b1 : V.cell? ⟨w.heap.size + 1, 1, none⟩ = some (.slice ao' n c') := (cell_blk HX2.out 1).trans rfl
  go_upto_block 0 with fail
  clear a0 a1 b0 b1 hnn
  go_wp2
  go_loopw [5] (fun s5 wr => ∃ k : Nat, k ≤ n ∧ s5 = .int .i64 k ∧ Box (Below V.heap.size V wr)) (fun s5 _ => n - (intOf s5).toNat)
  case atStart => exact ⟨0, by omega, rfl, ⟨Below.refl _ _⟩⟩
  case round =>
    obtain ⟨k, hk, rfl, HBR⟩ := hrel
    have a1 := (HBR.out.cell (p := ⟨w.heap.size, 1, none⟩) (lt_blk HX1.out)).trans ((cell_blk HX1.out 1).trans rfl)
    have b1 := (HBR.out.cell (p := ⟨w.heap.size + 1, 1, none⟩) (lt_blk HX2.out)).trans ((cell_blk HX2.out 1).trans rfl)
    simp only [List.getElem?_toArray, List.getElem?_cons_succ, List.getElem?_cons_zero] at a1 b1
    by_cases hlt : k < n
    · have hkz : k < z.length := by rw [HZN.out]; exact hlt
      obtain ⟨b, off, rfl, hbl, hc⟩ := H1.out.2.2 (by omega)
      obtain ⟨b', off', rfl, hbl', hc'⟩ := H2.out.2.2 (by omega)
      have d0 := (HBR.out.cell (p := ⟨b, off + k, none⟩) hbl).trans (hc k hkz)
      have d1 := (HBR.out.cell (p := ⟨b', off' + k, none⟩) hbl').trans (hc' k hkz)
      generalize z[k] = y at d0 d1
      have hyy : (y != y) = false := by simp
      have hki : (k : Int) < n := by omega
      have hk0 : (0 : Int) ≤ k := by omega
      clear hc hc' hkz
      go_wp2
      go_quiet (fail)
      go_wp2
      go_roundw
      case rel => exact ⟨k + 1, by omega, by go_num, ⟨by first | exact HBR.out | exact HBR.out.trans (Below.mono ⟨rfl, rfl, rfl, Nat.le_refl _, fun _ _ => rfl⟩ HBR.out.size)⟩⟩
      case measure => simp [intOf] <;> omega
    · have hki : ¬ (k : Int) < n := by omega
      go_wp2
      go_ret
      exact ⟨rfl, HB.out.trans (HBR.out.mono HB.out.size)⟩

set_option maxHeartbeats 8000000 in
theorem texts_any (ao ao' : Option Addr) (n m c c' : Nat) (W : List Bs) (w : World) (hn : n = W.length) (hm : m = n) (h1 : VRow w ao (strV W)) (h2 : VRow w ao' (strV W)) (h6 : n ≤ 1000000) :
    Calls Tryd.prog 15 #[.slice ao n c, .slice ao' m c'] w fun e w' => e = .returned (.bool true) ∧ Below w.heap.size w w' := by
  subst hm
  have H1 := Box.mk h1
  have H2 := Box.mk h2
  have HN := Box.mk hn
  have hnn : ((m : Int) != (m : Int)) = false := by simp
  clear h1 h2 hn
  go_enter Tryd.func15, Tryd.ntmps15
  go_upto_block 0 with fail
  clear hnn
  go_wp2
  go_loopw [5] (fun s5 wr => ∃ k : Nat, k ≤ m ∧ s5 = .int .i64 k ∧ Box (Below w.heap.size w wr)) (fun s5 _ => m - (intOf s5).toNat)
  case atStart => exact ⟨0, by omega, rfl, ⟨Below.refl _ _⟩⟩
  case round =>
    obtain ⟨k, hk, rfl, HBR⟩ := hrel
    by_cases hlt : k < m
    · have hkz : k < (strV W).length := by rw [strV_len, ← HN.out]; omega
      obtain ⟨b, off, rfl, hbl, hc⟩ := H1.out (by omega)
      obtain ⟨b', off', rfl, hbl', hc'⟩ := H2.out (by omega)
      have d0 := (HBR.out.cell (p := ⟨b, off + k, none⟩) hbl).trans (hc k hkz)
      have d1 := (HBR.out.cell (p := ⟨b', off' + k, none⟩) hbl').trans (hc' k hkz)
      have e : (strV W)[k] = strv (W[k]'(by rw [← HN.out]; exact hlt)) := by simp [strV]
      rw [e] at d0 d1
      generalize (W[k]'(by rw [← HN.out]; exact hlt)) = y at d0 d1
      have hyy : (y != y) = false := by simp
      have hki : (k : Int) < m := by omega
      have hk0 : (0 : Int) ≤ k := by omega
      clear hc hc' hkz e
      go_wp2
      go_quiet (fail)
      go_wp2
      go_roundw
      case rel => exact ⟨k + 1, by omega, by go_num, ⟨by first | exact HBR.out | exact HBR.out.trans (Below.mono ⟨rfl, rfl, rfl, Nat.le_refl _, fun _ _ => rfl⟩ HBR.out.size)⟩⟩
      case measure => simp [intOf] <;> omega
    · have hki : ¬ (k : Int) < m := by omega
      go_wp2
      go_ret
      exact ⟨rfl, HBR.out⟩

end Go.Proofs.YtanlodaimbocoaaDoor
