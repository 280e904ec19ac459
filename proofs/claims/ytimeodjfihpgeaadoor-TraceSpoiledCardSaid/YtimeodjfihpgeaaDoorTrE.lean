/-
  Records of ticks: whether one may be: the walk of the document's 'May'.
-/
import Derived.Test.YtimeodjfihpgeaaDoorTrD
namespace Go.Proofs.YtimeodjfihpgeaaDoor
open Go.RowKit

theorem who_ranges (v : Int) : (v < -1 ∧ whoB v = false) ∨ (-1 ≤ v ∧ v ≤ 31 ∧ whoB v = true) ∨ (31 < v ∧ v < 100 ∧ whoB v = false) ∨ (100 ≤ v ∧ v ≤ 115 ∧ whoB v = true) ∨ (115 < v ∧ whoB v = false) := by
  have e : whoB v = true ↔ (-1 ≤ v ∧ v ≤ 31) ∨ (100 ≤ v ∧ v ≤ 115) := by unfold whoB; simp only [Bool.or_eq_true, decide_eq_true_eq]
  have f : whoB v = false ↔ ¬ ((-1 ≤ v ∧ v ≤ 31) ∨ (100 ≤ v ∧ v ≤ 115)) := by rw [← e]; simp
  rw [e, f]
  omega
theorem fateB_iff (i k v : Int) : fateB (i, k, v) = true ↔ (0 ≤ i ∧ i ≤ 65535) ∧ ((k = 1 ∧ 0 ≤ v ∧ v ≤ 255) ∨ (k = 2 ∧ 1 ≤ v ∧ v ≤ 3)) := by
  unfold fateB; simp only [Bool.and_eq_true, Bool.or_eq_true, decide_eq_true_eq]
theorem fateB_no {i k v : Int} (h : ¬ ((0 ≤ i ∧ i ≤ 65535) ∧ ((k = 1 ∧ 0 ≤ v ∧ v ≤ 255) ∨ (k = 2 ∧ 1 ≤ v ∧ v ≤ 3)))) : fateB (i, k, v) = false := by
  rw [← Bool.not_eq_true, fateB_iff]; exact h
set_option maxHeartbeats 16000000 in
theorem trmay_any (t : Tk) (a1 : Option Addr) (n1 c1 : Nat) (a2 : Option Addr) (n2 c2 : Nat) (a3 : Option Addr) (n3 c3 : Nat) (a4 : Option Addr) (n4 c4 : Nat) (w : World) (h : TkAt w t a1 n1 a2 n2 a3 n3 a4 n4) : Calls Tryd.prog 11 #[.agg #[.int .i64 t.who, .slice a1 n1 c1, .slice a2 n2 c2, .slice a3 n3 c3, .slice a4 n4 c4]] w fun e w' => e = .returned (.bool (mayT t)) ∧ Below w.heap.size w w' := by
  have hbl : Below w.heap.size w (w.alloc (.cells #[.int .i64 t.who, .slice a1 n1 c1, .slice a2 n2 c2, .slice a3 n3 c3, .slice a4 n4 c4] 27)) := (Below.refl _ w).alloc (Nat.le_refl _) _
  have HB := Box.mk hbl
  have HT := Box.mk (h.later hbl)
  have HX1 : Box ((w.alloc (.cells #[.int .i64 t.who, .slice a1 n1 c1, .slice a2 n2 c2, .slice a3 n3 c3, .slice a4 n4 c4] 27)).heap[w.heap.size]? = some (.cells #[.int .i64 t.who, .slice a1 n1 c1, .slice a2 n2 c2, .slice a3 n3 c3, .slice a4 n4 c4] 27 (0, 0))) := ⟨blk_new _ _⟩
  have hn4 := h.fs.2.1
  have HL := Box.mk h.fs.1
  obtain ⟨M, HM⟩ : ∃ M, Box (M = mayT t) := ⟨_, ⟨rfl⟩⟩
  rw [← HM.out]
  unfold mayT at HM
  have HW := Box.mk (who_ranges t.who)
  clear h hbl
  generalize hV : w.alloc (.cells #[.int .i64 t.who, .slice a1 n1 c1, .slice a2 n2 c2, .slice a3 n3 c3, .slice a4 n4 c4] 27) = V at HB HT HX1
  have HVS : Box (V.heap.size = w.heap.size + 1) := ⟨by rw [← hV]; simp⟩
  have H1 : Box (∀ w', Below V.heap.size V w' → Calls Tryd.prog 24 #[.slice a1 n1 c1] w' fun e w'' => e = .returned (.bool (risingF (-1) t.dn)) ∧ Below w'.heap.size w' w'') := ⟨fun w' hb => rrising_any a1 n1 c1 t.dn w' (HT.out.dn.later hb)⟩
  have H2 : Box (∀ w', Below V.heap.size V w' → Calls Tryd.prog 24 #[.slice a2 n2 c2] w' fun e w'' => e = .returned (.bool (risingF (-1) t.ct)) ∧ Below w'.heap.size w' w'') := ⟨fun w' hb => rrising_any a2 n2 c2 t.ct w' (HT.out.ct.later hb)⟩
  have H3 : Box (∀ w', Below V.heap.size V w' → Calls Tryd.prog 24 #[.slice a3 n3 c3] w' fun e w'' => e = .returned (.bool (risingF (-1) t.ms)) ∧ Below w'.heap.size w' w'') := ⟨fun w' hb => rrising_any a3 n3 c3 t.ms w' (HT.out.ms.later hb)⟩
  have H4 : Box (∀ w', Below V.heap.size V w' → FatesAt w' a4 n4 t.fs) := ⟨fun w' hb => HT.out.fs.later hb⟩
  have HC : Box (∀ w', Below V.heap.size V w' → w'.cell? ⟨w.heap.size, 0, none⟩ = some (.int .i64 t.who) ∧ w'.cell? ⟨w.heap.size, 1, none⟩ = some (.slice a1 n1 c1) ∧ w'.cell? ⟨w.heap.size, 2, none⟩ = some (.slice a2 n2 c2) ∧ w'.cell? ⟨w.heap.size, 3, none⟩ = some (.slice a3 n3 c3) ∧ w'.cell? ⟨w.heap.size, 4, none⟩ = some (.slice a4 n4 c4)) := ⟨fun w' hb => by
    have h5 := (hb.block w.heap.size (lt_blk HX1.out)).trans HX1.out
    exact ⟨(cell_blk h5 0).trans rfl, (cell_blk h5 1).trans rfl, (cell_blk h5 2).trans rfl, (cell_blk h5 3).trans rfl, (cell_blk h5 4).trans rfl⟩⟩
  clear HT HX1
  generalize whoB t.who = p0 at HW HM
  generalize risingF (-1) t.dn = p1 at H1 HM
  generalize risingF (-1) t.ct = p2 at H2 HM
  generalize risingF (-1) t.ms = p3 at H3 HM
  generalize t.who = who at HC HW hV ⊢
  generalize t.fs = fs at H4 HL HM
  obtain ⟨y0, y1, y2, y3, y4⟩ := HC.out V (Below.refl _ _)
  go_enter Tryd.func11, Tryd.ntmps11
  go_upto_region 1 with fail
  try rw [hV]
  clear hV
  have HBW : Box (∀ w', Below V.heap.size V w' → Below w.heap.size w w') := ⟨fun w' hb => HB.out.trans (hb.mono (by have := HVS.out; omega))⟩
  clear HB
  have HBr : Box (Below V.heap.size V V) := ⟨Below.refl _ _⟩
  rcases HW.out with ⟨q1, rfl⟩ | hq | ⟨q1, q2, rfl⟩ | hq | ⟨q1, rfl⟩
  · clear HW
    have z1 : ¬ -1 ≤ who := by omega
    have z2 : ¬ 100 ≤ who := by omega
    go_wp2
    go_ret
    exact ⟨by rw [HM.out]; rfl, HBW.out _ (Below.refl _ _)⟩
  · obtain ⟨q1, q2, rfl⟩ := hq
    clear HW
    cases p1 with
    | false =>
      go_wp2_with (first
        | (go_at_call 24; (with_reducible refine (H1.out _ (by first | exact Below.refl _ _ | assumption)).mono ?_); rintro e w1 ⟨rfl, hb⟩; have hb1 := below_step (w := V) (by first | exact Below.refl _ _ | assumption) hb; obtain ⟨x10, x11, x12, x13, x14⟩ := HC.out _ hb1; clear hb)
        | (go_at_call 24; (with_reducible refine (H2.out _ (by first | exact Below.refl _ _ | assumption)).mono ?_); rintro e w2 ⟨rfl, hb⟩; have hb2 := below_step (w := V) (by first | exact Below.refl _ _ | assumption) hb; obtain ⟨x20, x21, x22, x23, x24⟩ := HC.out _ hb2; clear hb)
        | (go_at_call 24; (with_reducible refine (H3.out _ (by first | exact Below.refl _ _ | assumption)).mono ?_); rintro e w3 ⟨rfl, hb⟩; have hb3 := below_step (w := V) (by first | exact Below.refl _ _ | assumption) hb; obtain ⟨x30, x31, x32, x33, x34⟩ := HC.out _ hb3; clear hb))
      go_ret
      exact ⟨by rw [HM.out]; rfl, HBW.out _ (by assumption)⟩
    | true =>
    cases p2 with
    | false =>
      go_wp2_with (first
        | (go_at_call 24; (with_reducible refine (H1.out _ (by first | exact Below.refl _ _ | assumption)).mono ?_); rintro e w1 ⟨rfl, hb⟩; have hb1 := below_step (w := V) (by first | exact Below.refl _ _ | assumption) hb; obtain ⟨x10, x11, x12, x13, x14⟩ := HC.out _ hb1; clear hb)
        | (go_at_call 24; (with_reducible refine (H2.out _ (by first | exact Below.refl _ _ | assumption)).mono ?_); rintro e w2 ⟨rfl, hb⟩; have hb2 := below_step (w := V) (by first | exact Below.refl _ _ | assumption) hb; obtain ⟨x20, x21, x22, x23, x24⟩ := HC.out _ hb2; clear hb)
        | (go_at_call 24; (with_reducible refine (H3.out _ (by first | exact Below.refl _ _ | assumption)).mono ?_); rintro e w3 ⟨rfl, hb⟩; have hb3 := below_step (w := V) (by first | exact Below.refl _ _ | assumption) hb; obtain ⟨x30, x31, x32, x33, x34⟩ := HC.out _ hb3; clear hb))
      go_ret
      exact ⟨by rw [HM.out]; rfl, HBW.out _ (by assumption)⟩
    | true =>
    cases p3 with
    | false =>
      go_wp2_with (first
        | (go_at_call 24; (with_reducible refine (H1.out _ (by first | exact Below.refl _ _ | assumption)).mono ?_); rintro e w1 ⟨rfl, hb⟩; have hb1 := below_step (w := V) (by first | exact Below.refl _ _ | assumption) hb; obtain ⟨x10, x11, x12, x13, x14⟩ := HC.out _ hb1; clear hb)
        | (go_at_call 24; (with_reducible refine (H2.out _ (by first | exact Below.refl _ _ | assumption)).mono ?_); rintro e w2 ⟨rfl, hb⟩; have hb2 := below_step (w := V) (by first | exact Below.refl _ _ | assumption) hb; obtain ⟨x20, x21, x22, x23, x24⟩ := HC.out _ hb2; clear hb)
        | (go_at_call 24; (with_reducible refine (H3.out _ (by first | exact Below.refl _ _ | assumption)).mono ?_); rintro e w3 ⟨rfl, hb⟩; have hb3 := below_step (w := V) (by first | exact Below.refl _ _ | assumption) hb; obtain ⟨x30, x31, x32, x33, x34⟩ := HC.out _ hb3; clear hb))
      go_ret
      exact ⟨by rw [HM.out]; rfl, HBW.out _ (by assumption)⟩
    | true =>
      have HM2 : Box (M = fs.all fateB) := ⟨HM.out⟩
      go_upto_block 0 with (first
        | (go_at_call 24; (with_reducible refine (H1.out _ (by first | exact Below.refl _ _ | assumption)).mono ?_); rintro e w1 ⟨rfl, hb⟩; have hb1 := below_step (w := V) (by first | exact Below.refl _ _ | assumption) hb; obtain ⟨x10, x11, x12, x13, x14⟩ := HC.out _ hb1; clear hb)
        | (go_at_call 24; (with_reducible refine (H2.out _ (by first | exact Below.refl _ _ | assumption)).mono ?_); rintro e w2 ⟨rfl, hb⟩; have hb2 := below_step (w := V) (by first | exact Below.refl _ _ | assumption) hb; obtain ⟨x20, x21, x22, x23, x24⟩ := HC.out _ hb2; clear hb)
        | (go_at_call 24; (with_reducible refine (H3.out _ (by first | exact Below.refl _ _ | assumption)).mono ?_); rintro e w3 ⟨rfl, hb⟩; have hb3 := below_step (w := V) (by first | exact Below.refl _ _ | assumption) hb; obtain ⟨x30, x31, x32, x33, x34⟩ := HC.out _ hb3; clear hb))
      have HBU : Box (Below V.heap.size V w3) := ⟨hb3⟩
      go_wp2
      go_loopw [4, 5, 6, 7] (fun s4 _ _ _ wr => ∃ i : Nat, i ≤ n4 ∧ s4 = .int .i64 i ∧ Box (M = (fs.drop i).all fateB) ∧ Box (Below V.heap.size V wr)) (fun s4 _ _ _ _ => n4 - (intOf s4).toNat)
      case atStart => exact ⟨0, by omega, rfl, ⟨HM2.out⟩, HBU⟩
      case round =>
        obtain ⟨i, hi, rfl, HX, HBX⟩ := hrel
        obtain ⟨z0, z1, z2, z3, z4⟩ := HC.out wr HBX.out
        by_cases hlt : i < n4
        · obtain ⟨b, off, p, k, v, rfl, hb, hd, f0, f1, f2⟩ := (H4.out wr HBX.out).at hlt
          have hii : (i : Int) < n4 := by omega
          have hi0 : (0 : Int) ≤ i := by omega
          have HX2 : Box (M = (fateB (p, k, v) && (fs.drop (i + 1)).all fateB)) := ⟨by rw [HX.out, hd]; rfl⟩
          have hbw : w.heap.size < wr.heap.size := Nat.lt_of_lt_of_le (by have := HVS.out; omega) HBX.out.size
          have HBN : Box (Below V.heap.size V (wr.alloc (.cells #[.int .i64 p, .int .i64 k, .int .i64 v] 36))) := ⟨HBX.out.alloc HBX.out.size _⟩
          clear hd HX
          by_cases hk1 : k = 1
          · subst hk1
            by_cases hv0 : 0 ≤ v
            · by_cases hv1 : v ≤ 255
              · by_cases hp0 : p < 0
                · have HE : Box (M = false) := ⟨by rw [HX2.out, fateB_no (by omega)]; rfl⟩
                  go_wp2
                  go_ret
                  exact ⟨by rw [HE.out]; rfl, HBW.out _ HBN.out⟩
                by_cases hp1 : 65535 < p
                · have HE : Box (M = false) := ⟨by rw [HX2.out, fateB_no (by omega)]; rfl⟩
                  go_wp2
                  go_ret
                  exact ⟨by rw [HE.out]; rfl, HBW.out _ HBN.out⟩
                have HE : Box (M = (fs.drop (i + 1)).all fateB) := ⟨by rw [HX2.out, (fateB_iff p _ v).2 (by omega)]; simp⟩
                go_wp2
                go_roundw
                case rel => exact ⟨i + 1, by omega, by go_num, HE, HBN⟩
                case measure => simp [intOf] <;> omega
              · by_cases hp0 : p < 0
                · have HE : Box (M = false) := ⟨by rw [HX2.out, fateB_no (by omega)]; rfl⟩
                  go_wp2
                  go_ret
                  exact ⟨by rw [HE.out]; rfl, HBW.out _ HBN.out⟩
                by_cases hp1 : 65535 < p
                · have HE : Box (M = false) := ⟨by rw [HX2.out, fateB_no (by omega)]; rfl⟩
                  go_wp2
                  go_ret
                  exact ⟨by rw [HE.out]; rfl, HBW.out _ HBN.out⟩
                have HE : Box (M = false) := ⟨by rw [HX2.out, fateB_no (by omega)]; rfl⟩
                go_wp2
                go_ret
                exact ⟨by rw [HE.out]; rfl, HBW.out _ HBN.out⟩
            · by_cases hp0 : p < 0
              · have HE : Box (M = false) := ⟨by rw [HX2.out, fateB_no (by omega)]; rfl⟩
                go_wp2
                go_ret
                exact ⟨by rw [HE.out]; rfl, HBW.out _ HBN.out⟩
              by_cases hp1 : 65535 < p
              · have HE : Box (M = false) := ⟨by rw [HX2.out, fateB_no (by omega)]; rfl⟩
                go_wp2
                go_ret
                exact ⟨by rw [HE.out]; rfl, HBW.out _ HBN.out⟩
              have HE : Box (M = false) := ⟨by rw [HX2.out, fateB_no (by omega)]; rfl⟩
              go_wp2
              go_ret
              exact ⟨by rw [HE.out]; rfl, HBW.out _ HBN.out⟩
          have hk1b : (k == 1) = false := by simp [hk1]
          by_cases hk2 : k = 2
          · subst hk2
            by_cases hv0 : 1 ≤ v
            · by_cases hv1 : v ≤ 3
              · by_cases hp0 : p < 0
                · have HE : Box (M = false) := ⟨by rw [HX2.out, fateB_no (by omega)]; rfl⟩
                  go_wp2
                  go_ret
                  exact ⟨by rw [HE.out]; rfl, HBW.out _ HBN.out⟩
                by_cases hp1 : 65535 < p
                · have HE : Box (M = false) := ⟨by rw [HX2.out, fateB_no (by omega)]; rfl⟩
                  go_wp2
                  go_ret
                  exact ⟨by rw [HE.out]; rfl, HBW.out _ HBN.out⟩
                have HE : Box (M = (fs.drop (i + 1)).all fateB) := ⟨by rw [HX2.out, (fateB_iff p _ v).2 (by omega)]; simp⟩
                go_wp2
                go_roundw
                case rel => exact ⟨i + 1, by omega, by go_num, HE, HBN⟩
                case measure => simp [intOf] <;> omega
              · by_cases hp0 : p < 0
                · have HE : Box (M = false) := ⟨by rw [HX2.out, fateB_no (by omega)]; rfl⟩
                  go_wp2
                  go_ret
                  exact ⟨by rw [HE.out]; rfl, HBW.out _ HBN.out⟩
                by_cases hp1 : 65535 < p
                · have HE : Box (M = false) := ⟨by rw [HX2.out, fateB_no (by omega)]; rfl⟩
                  go_wp2
                  go_ret
                  exact ⟨by rw [HE.out]; rfl, HBW.out _ HBN.out⟩
                have HE : Box (M = false) := ⟨by rw [HX2.out, fateB_no (by omega)]; rfl⟩
                go_wp2
                go_ret
                exact ⟨by rw [HE.out]; rfl, HBW.out _ HBN.out⟩
            · by_cases hp0 : p < 0
              · have HE : Box (M = false) := ⟨by rw [HX2.out, fateB_no (by omega)]; rfl⟩
                go_wp2
                go_ret
                exact ⟨by rw [HE.out]; rfl, HBW.out _ HBN.out⟩
              by_cases hp1 : 65535 < p
              · have HE : Box (M = false) := ⟨by rw [HX2.out, fateB_no (by omega)]; rfl⟩
                go_wp2
                go_ret
                exact ⟨by rw [HE.out]; rfl, HBW.out _ HBN.out⟩
              have HE : Box (M = false) := ⟨by rw [HX2.out, fateB_no (by omega)]; rfl⟩
              go_wp2
              go_ret
              exact ⟨by rw [HE.out]; rfl, HBW.out _ HBN.out⟩
          have hk2b : (k == 2) = false := by simp [hk2]
          by_cases hp0 : p < 0
          · have HE : Box (M = false) := ⟨by rw [HX2.out, fateB_no (by omega)]; rfl⟩
            go_wp2
            go_ret
            exact ⟨by rw [HE.out]; rfl, HBW.out _ HBN.out⟩
          by_cases hp1 : 65535 < p
          · have HE : Box (M = false) := ⟨by rw [HX2.out, fateB_no (by omega)]; rfl⟩
            go_wp2
            go_ret
            exact ⟨by rw [HE.out]; rfl, HBW.out _ HBN.out⟩
          have HE : Box (M = false) := ⟨by rw [HX2.out, fateB_no (by omega)]; rfl⟩
          go_wp2
          go_ret
          exact ⟨by rw [HE.out]; rfl, HBW.out _ HBN.out⟩
        · have hii : ¬ (i : Int) < n4 := by omega
          have HE : Box (M = true) := ⟨by rw [HX.out, List.drop_eq_nil_of_le (by have := HL.out; omega)]; rfl⟩
          clear HX
          go_wp2
          go_ret
          exact ⟨by rw [HE.out]; rfl, HBW.out _ HBX.out⟩
  · clear HW
    have z1 : -1 ≤ who := by omega
    have z2 : ¬ who ≤ 31 := by omega
    have z3 : ¬ 100 ≤ who := by omega
    go_wp2
    go_ret
    exact ⟨by rw [HM.out]; rfl, HBW.out _ (Below.refl _ _)⟩
  · obtain ⟨q1, q2, rfl⟩ := hq
    clear HW
    have z1 : -1 ≤ who := by omega
    have z2 : ¬ who ≤ 31 := by omega
    cases p1 with
    | false =>
      go_wp2_with (first
        | (go_at_call 24; (with_reducible refine (H1.out _ (by first | exact Below.refl _ _ | assumption)).mono ?_); rintro e w1 ⟨rfl, hb⟩; have hb1 := below_step (w := V) (by first | exact Below.refl _ _ | assumption) hb; obtain ⟨x10, x11, x12, x13, x14⟩ := HC.out _ hb1; clear hb)
        | (go_at_call 24; (with_reducible refine (H2.out _ (by first | exact Below.refl _ _ | assumption)).mono ?_); rintro e w2 ⟨rfl, hb⟩; have hb2 := below_step (w := V) (by first | exact Below.refl _ _ | assumption) hb; obtain ⟨x20, x21, x22, x23, x24⟩ := HC.out _ hb2; clear hb)
        | (go_at_call 24; (with_reducible refine (H3.out _ (by first | exact Below.refl _ _ | assumption)).mono ?_); rintro e w3 ⟨rfl, hb⟩; have hb3 := below_step (w := V) (by first | exact Below.refl _ _ | assumption) hb; obtain ⟨x30, x31, x32, x33, x34⟩ := HC.out _ hb3; clear hb))
      go_ret
      exact ⟨by rw [HM.out]; rfl, HBW.out _ (by assumption)⟩
    | true =>
    cases p2 with
    | false =>
      go_wp2_with (first
        | (go_at_call 24; (with_reducible refine (H1.out _ (by first | exact Below.refl _ _ | assumption)).mono ?_); rintro e w1 ⟨rfl, hb⟩; have hb1 := below_step (w := V) (by first | exact Below.refl _ _ | assumption) hb; obtain ⟨x10, x11, x12, x13, x14⟩ := HC.out _ hb1; clear hb)
        | (go_at_call 24; (with_reducible refine (H2.out _ (by first | exact Below.refl _ _ | assumption)).mono ?_); rintro e w2 ⟨rfl, hb⟩; have hb2 := below_step (w := V) (by first | exact Below.refl _ _ | assumption) hb; obtain ⟨x20, x21, x22, x23, x24⟩ := HC.out _ hb2; clear hb)
        | (go_at_call 24; (with_reducible refine (H3.out _ (by first | exact Below.refl _ _ | assumption)).mono ?_); rintro e w3 ⟨rfl, hb⟩; have hb3 := below_step (w := V) (by first | exact Below.refl _ _ | assumption) hb; obtain ⟨x30, x31, x32, x33, x34⟩ := HC.out _ hb3; clear hb))
      go_ret
      exact ⟨by rw [HM.out]; rfl, HBW.out _ (by assumption)⟩
    | true =>
    cases p3 with
    | false =>
      go_wp2_with (first
        | (go_at_call 24; (with_reducible refine (H1.out _ (by first | exact Below.refl _ _ | assumption)).mono ?_); rintro e w1 ⟨rfl, hb⟩; have hb1 := below_step (w := V) (by first | exact Below.refl _ _ | assumption) hb; obtain ⟨x10, x11, x12, x13, x14⟩ := HC.out _ hb1; clear hb)
        | (go_at_call 24; (with_reducible refine (H2.out _ (by first | exact Below.refl _ _ | assumption)).mono ?_); rintro e w2 ⟨rfl, hb⟩; have hb2 := below_step (w := V) (by first | exact Below.refl _ _ | assumption) hb; obtain ⟨x20, x21, x22, x23, x24⟩ := HC.out _ hb2; clear hb)
        | (go_at_call 24; (with_reducible refine (H3.out _ (by first | exact Below.refl _ _ | assumption)).mono ?_); rintro e w3 ⟨rfl, hb⟩; have hb3 := below_step (w := V) (by first | exact Below.refl _ _ | assumption) hb; obtain ⟨x30, x31, x32, x33, x34⟩ := HC.out _ hb3; clear hb))
      go_ret
      exact ⟨by rw [HM.out]; rfl, HBW.out _ (by assumption)⟩
    | true =>
      have HM2 : Box (M = fs.all fateB) := ⟨HM.out⟩
      go_upto_block 0 with (first
        | (go_at_call 24; (with_reducible refine (H1.out _ (by first | exact Below.refl _ _ | assumption)).mono ?_); rintro e w1 ⟨rfl, hb⟩; have hb1 := below_step (w := V) (by first | exact Below.refl _ _ | assumption) hb; obtain ⟨x10, x11, x12, x13, x14⟩ := HC.out _ hb1; clear hb)
        | (go_at_call 24; (with_reducible refine (H2.out _ (by first | exact Below.refl _ _ | assumption)).mono ?_); rintro e w2 ⟨rfl, hb⟩; have hb2 := below_step (w := V) (by first | exact Below.refl _ _ | assumption) hb; obtain ⟨x20, x21, x22, x23, x24⟩ := HC.out _ hb2; clear hb)
        | (go_at_call 24; (with_reducible refine (H3.out _ (by first | exact Below.refl _ _ | assumption)).mono ?_); rintro e w3 ⟨rfl, hb⟩; have hb3 := below_step (w := V) (by first | exact Below.refl _ _ | assumption) hb; obtain ⟨x30, x31, x32, x33, x34⟩ := HC.out _ hb3; clear hb))
      have HBU : Box (Below V.heap.size V w3) := ⟨hb3⟩
      go_wp2
      go_loopw [4, 5, 6, 7] (fun s4 _ _ _ wr => ∃ i : Nat, i ≤ n4 ∧ s4 = .int .i64 i ∧ Box (M = (fs.drop i).all fateB) ∧ Box (Below V.heap.size V wr)) (fun s4 _ _ _ _ => n4 - (intOf s4).toNat)
      case atStart => exact ⟨0, by omega, rfl, ⟨HM2.out⟩, HBU⟩
      case round =>
        obtain ⟨i, hi, rfl, HX, HBX⟩ := hrel
        obtain ⟨z0, z1, z2, z3, z4⟩ := HC.out wr HBX.out
        by_cases hlt : i < n4
        · obtain ⟨b, off, p, k, v, rfl, hb, hd, f0, f1, f2⟩ := (H4.out wr HBX.out).at hlt
          have hii : (i : Int) < n4 := by omega
          have hi0 : (0 : Int) ≤ i := by omega
          have HX2 : Box (M = (fateB (p, k, v) && (fs.drop (i + 1)).all fateB)) := ⟨by rw [HX.out, hd]; rfl⟩
          have hbw : w.heap.size < wr.heap.size := Nat.lt_of_lt_of_le (by have := HVS.out; omega) HBX.out.size
          have HBN : Box (Below V.heap.size V (wr.alloc (.cells #[.int .i64 p, .int .i64 k, .int .i64 v] 36))) := ⟨HBX.out.alloc HBX.out.size _⟩
          clear hd HX
          by_cases hk1 : k = 1
          · subst hk1
            by_cases hv0 : 0 ≤ v
            · by_cases hv1 : v ≤ 255
              · by_cases hp0 : p < 0
                · have HE : Box (M = false) := ⟨by rw [HX2.out, fateB_no (by omega)]; rfl⟩
                  go_wp2
                  go_ret
                  exact ⟨by rw [HE.out]; rfl, HBW.out _ HBN.out⟩
                by_cases hp1 : 65535 < p
                · have HE : Box (M = false) := ⟨by rw [HX2.out, fateB_no (by omega)]; rfl⟩
                  go_wp2
                  go_ret
                  exact ⟨by rw [HE.out]; rfl, HBW.out _ HBN.out⟩
                have HE : Box (M = (fs.drop (i + 1)).all fateB) := ⟨by rw [HX2.out, (fateB_iff p _ v).2 (by omega)]; simp⟩
                go_wp2
                go_roundw
                case rel => exact ⟨i + 1, by omega, by go_num, HE, HBN⟩
                case measure => simp [intOf] <;> omega
              · by_cases hp0 : p < 0
                · have HE : Box (M = false) := ⟨by rw [HX2.out, fateB_no (by omega)]; rfl⟩
                  go_wp2
                  go_ret
                  exact ⟨by rw [HE.out]; rfl, HBW.out _ HBN.out⟩
                by_cases hp1 : 65535 < p
                · have HE : Box (M = false) := ⟨by rw [HX2.out, fateB_no (by omega)]; rfl⟩
                  go_wp2
                  go_ret
                  exact ⟨by rw [HE.out]; rfl, HBW.out _ HBN.out⟩
                have HE : Box (M = false) := ⟨by rw [HX2.out, fateB_no (by omega)]; rfl⟩
                go_wp2
                go_ret
                exact ⟨by rw [HE.out]; rfl, HBW.out _ HBN.out⟩
            · by_cases hp0 : p < 0
              · have HE : Box (M = false) := ⟨by rw [HX2.out, fateB_no (by omega)]; rfl⟩
                go_wp2
                go_ret
                exact ⟨by rw [HE.out]; rfl, HBW.out _ HBN.out⟩
              by_cases hp1 : 65535 < p
              · have HE : Box (M = false) := ⟨by rw [HX2.out, fateB_no (by omega)]; rfl⟩
                go_wp2
                go_ret
                exact ⟨by rw [HE.out]; rfl, HBW.out _ HBN.out⟩
              have HE : Box (M = false) := ⟨by rw [HX2.out, fateB_no (by omega)]; rfl⟩
              go_wp2
              go_ret
              exact ⟨by rw [HE.out]; rfl, HBW.out _ HBN.out⟩
          have hk1b : (k == 1) = false := by simp [hk1]
          by_cases hk2 : k = 2
          · subst hk2
            by_cases hv0 : 1 ≤ v
            · by_cases hv1 : v ≤ 3
              · by_cases hp0 : p < 0
                · have HE : Box (M = false) := ⟨by rw [HX2.out, fateB_no (by omega)]; rfl⟩
                  go_wp2
                  go_ret
                  exact ⟨by rw [HE.out]; rfl, HBW.out _ HBN.out⟩
                by_cases hp1 : 65535 < p
                · have HE : Box (M = false) := ⟨by rw [HX2.out, fateB_no (by omega)]; rfl⟩
                  go_wp2
                  go_ret
                  exact ⟨by rw [HE.out]; rfl, HBW.out _ HBN.out⟩
                have HE : Box (M = (fs.drop (i + 1)).all fateB) := ⟨by rw [HX2.out, (fateB_iff p _ v).2 (by omega)]; simp⟩
                go_wp2
                go_roundw
                case rel => exact ⟨i + 1, by omega, by go_num, HE, HBN⟩
                case measure => simp [intOf] <;> omega
              · by_cases hp0 : p < 0
                · have HE : Box (M = false) := ⟨by rw [HX2.out, fateB_no (by omega)]; rfl⟩
                  go_wp2
                  go_ret
                  exact ⟨by rw [HE.out]; rfl, HBW.out _ HBN.out⟩
                by_cases hp1 : 65535 < p
                · have HE : Box (M = false) := ⟨by rw [HX2.out, fateB_no (by omega)]; rfl⟩
                  go_wp2
                  go_ret
                  exact ⟨by rw [HE.out]; rfl, HBW.out _ HBN.out⟩
                have HE : Box (M = false) := ⟨by rw [HX2.out, fateB_no (by omega)]; rfl⟩
                go_wp2
                go_ret
                exact ⟨by rw [HE.out]; rfl, HBW.out _ HBN.out⟩
            · by_cases hp0 : p < 0
              · have HE : Box (M = false) := ⟨by rw [HX2.out, fateB_no (by omega)]; rfl⟩
                go_wp2
                go_ret
                exact ⟨by rw [HE.out]; rfl, HBW.out _ HBN.out⟩
              by_cases hp1 : 65535 < p
              · have HE : Box (M = false) := ⟨by rw [HX2.out, fateB_no (by omega)]; rfl⟩
                go_wp2
                go_ret
                exact ⟨by rw [HE.out]; rfl, HBW.out _ HBN.out⟩
              have HE : Box (M = false) := ⟨by rw [HX2.out, fateB_no (by omega)]; rfl⟩
              go_wp2
              go_ret
              exact ⟨by rw [HE.out]; rfl, HBW.out _ HBN.out⟩
          have hk2b : (k == 2) = false := by simp [hk2]
          by_cases hp0 : p < 0
          · have HE : Box (M = false) := ⟨by rw [HX2.out, fateB_no (by omega)]; rfl⟩
            go_wp2
            go_ret
            exact ⟨by rw [HE.out]; rfl, HBW.out _ HBN.out⟩
          by_cases hp1 : 65535 < p
          · have HE : Box (M = false) := ⟨by rw [HX2.out, fateB_no (by omega)]; rfl⟩
            go_wp2
            go_ret
            exact ⟨by rw [HE.out]; rfl, HBW.out _ HBN.out⟩
          have HE : Box (M = false) := ⟨by rw [HX2.out, fateB_no (by omega)]; rfl⟩
          go_wp2
          go_ret
          exact ⟨by rw [HE.out]; rfl, HBW.out _ HBN.out⟩
        · have hii : ¬ (i : Int) < n4 := by omega
          have HE : Box (M = true) := ⟨by rw [HX.out, List.drop_eq_nil_of_le (by have := HL.out; omega)]; rfl⟩
          clear HX
          go_wp2
          go_ret
          exact ⟨by rw [HE.out]; rfl, HBW.out _ HBX.out⟩
  · clear HW
    have z1 : -1 ≤ who := by omega
    have z2 : ¬ who ≤ 31 := by omega
    have z3 : 100 ≤ who := by omega
    have z4 : ¬ who ≤ 115 := by omega
    go_wp2
    go_ret
    exact ⟨by rw [HM.out]; rfl, HBW.out _ (Below.refl _ _)⟩

end Go.Proofs.YtimeodjfihpgeaaDoor
