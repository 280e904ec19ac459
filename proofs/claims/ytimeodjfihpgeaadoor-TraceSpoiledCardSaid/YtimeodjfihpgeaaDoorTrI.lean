/-
  Records of ticks: whether two are the same: the walks of the laws' compares.
-/
import Derived.Test.YtimeodjfihpgeaaDoorTrD
import Derived.Deep.RegionHeld3
namespace Go.Proofs.YtimeodjfihpgeaaDoor
open Go.RowKit

theorem dec_ne_len {α : Type} [DecidableEq α] {a b : List α} (h : a.length ≠ b.length) : decide (a = b) = false := decide_eq_false fun e => h (by rw [e])
theorem dec_cons {α : Type} [DecidableEq α] {x y : α} {a b : List α} (h : x = y) : decide (x :: a = y :: b) = decide (a = b) := by subst h; simp
theorem dec_cons_ne {α : Type} [DecidableEq α] {x y : α} {a b : List α} (h : x ≠ y) : decide (x :: a = y :: b) = false := by simp [h]
set_option maxHeartbeats 4000000 in
theorem ints_any (a1 : Option Addr) (n1 c1 : Nat) (z1 : List Int) (a2 : Option Addr) (n2 c2 : Nat) (z2 : List Int) (w : World) (h1 : NumsAt w a1 n1 z1) (h2 : NumsAt w a2 n2 z2) : Calls Tryd.prog 40 #[.slice a1 n1 c1, .slice a2 n2 c2] w fun e w' => e = .returned (.bool (decide (z1 = z2))) ∧ Below w.heap.size w w' := by
  have H1 := Box.mk h1
  have H2 := Box.mk h2
  have hn := h1.2.1
  clear h1 h2
  by_cases hnn : n1 = n2
  · subst hnn
    obtain ⟨R, HR⟩ : ∃ R, Box (R = decide (z1 = z2)) := ⟨_, ⟨rfl⟩⟩
    rw [← HR.out]
    have hnb : ((n1 : Int) != n1) = false := by simp
    go_enter Tryd.func40, Tryd.ntmps40
    go_upto_block 0 with fail
    go_wp2
    go_loopw [5] (fun s5 wr => ∃ i : Nat, i ≤ n1 ∧ s5 = .int .i64 i ∧ Box (R = decide (z1.drop i = z2.drop i)) ∧ Box (Below w.heap.size w wr)) (fun s5 _ => n1 - (intOf s5).toNat)
    case atStart => exact ⟨0, by omega, rfl, ⟨by rw [HR.out]; rfl⟩, ⟨Below.refl _ _⟩⟩
    case round =>
      obtain ⟨i, hi, rfl, HX, HB⟩ := hrel
      by_cases hlt : i < n1
      · obtain ⟨b, off, rfl, hb, hc⟩ := (H1.out.later HB.out).2.2 (by omega)
        obtain ⟨b', off', rfl, hb', hc'⟩ := (H2.out.later HB.out).2.2 (by omega)
        have hi1 : i < z1.length := by rw [H1.out.1]; exact hlt
        have hi2 : i < z2.length := by rw [H2.out.1]; exact hlt
        have cx := hc i hi1
        have cy := hc' i hi2
        have HX2 : Box (R = decide (z1[i] :: z1.drop (i + 1) = z2[i] :: z2.drop (i + 1))) := ⟨by rw [HX.out, drop_at hi1, drop_at hi2]⟩
        have hii : (i : Int) < n1 := by omega
        have hi0 : (0 : Int) ≤ i := by omega
        generalize z1[i] = x at cx HX2
        generalize z2[i] = y at cy HX2
        clear hc hc' hi1 hi2 HX
        by_cases hxy : x = y
        · subst hxy
          have HE := Box.mk (HX2.out.trans (dec_cons rfl))
          have hq : (x != x) = false := by simp
          go_upto_region 6 with fail
          refine wp_region_held_drew (S := (fun w' => w'.cell? ⟨b, off + i, none⟩ = some (.int .i64 x) ∧ w'.cell? ⟨b', off' + i, none⟩ = some (.int .i64 x))) (by kernel_rfl) ?_ (fun hHeld => ?_)
          · simp [*]
          refine wpAnyH_take (i := 0) (v := ?v1_0) rfl (by kernel_rfl) (by kernel_rfl) (by kernel_rfl) (fun _ _ _ h => h) ?y1_0 (by assumption) ?r1_0
          case y1_0 => first | (refine Or.inr ⟨by rfl, ?_⟩; with_reducible rfl) | (refine Or.inl ⟨by rfl, ?_⟩; intro w hSw; (try dsimp only at hSw); (try simp only [List.getElem_toArray, List.getElem_cons_succ, List.getElem_cons_zero]); go_simp; all_goals (with_reducible rfl))
          try simp only [Act.put, List.setIfInBounds_toArray, List.set_cons_zero, List.set_cons_succ, List.getElem_toArray, List.getElem_cons_succ, List.getElem_cons_zero]
          refine wpAnyH_take (i := 1) (v := ?v1_1) rfl (by kernel_rfl) (by kernel_rfl) (by kernel_rfl) (fun _ _ _ h => h) ?y1_1 (by assumption) ?r1_1
          case y1_1 => first | (refine Or.inr ⟨by rfl, ?_⟩; with_reducible rfl) | (refine Or.inl ⟨by rfl, ?_⟩; intro w hSw; (try dsimp only at hSw); (try simp only [List.getElem_toArray, List.getElem_cons_succ, List.getElem_cons_zero]); go_simp; all_goals (with_reducible rfl))
          try simp only [Act.put, List.setIfInBounds_toArray, List.set_cons_zero, List.set_cons_succ, List.getElem_toArray, List.getElem_cons_succ, List.getElem_cons_zero]
          refine wpAnyH_take (i := 2) (v := ?v1_2) rfl (by kernel_rfl) (by kernel_rfl) (by kernel_rfl) (fun _ _ _ h => h) ?y1_2 (by assumption) ?r1_2
          case y1_2 => first | (refine Or.inr ⟨by rfl, ?_⟩; with_reducible rfl) | (refine Or.inl ⟨by rfl, ?_⟩; intro w hSw; (try dsimp only at hSw); (try simp only [List.getElem_toArray, List.getElem_cons_succ, List.getElem_cons_zero]); go_simp; all_goals (with_reducible rfl))
          try simp only [Act.put, List.setIfInBounds_toArray, List.set_cons_zero, List.set_cons_succ, List.getElem_toArray, List.getElem_cons_succ, List.getElem_cons_zero]
          refine wpAnyH_take (i := 3) (v := ?v1_3) rfl (by kernel_rfl) (by kernel_rfl) (by kernel_rfl) (fun _ _ _ h => h) ?y1_3 (by assumption) ?r1_3
          case y1_3 => first | (refine Or.inr ⟨by rfl, ?_⟩; with_reducible rfl) | (refine Or.inl ⟨by rfl, ?_⟩; intro w hSw; (try dsimp only at hSw); (try simp only [List.getElem_toArray, List.getElem_cons_succ, List.getElem_cons_zero]); go_simp; all_goals (with_reducible rfl))
          try simp only [Act.put, List.setIfInBounds_toArray, List.set_cons_zero, List.set_cons_succ, List.getElem_toArray, List.getElem_cons_succ, List.getElem_cons_zero]
          refine wpAnyH_take (i := 4) (v := ?v1_4) rfl (by kernel_rfl) (by kernel_rfl) (by kernel_rfl) (fun _ _ _ h => h) ?y1_4 (by assumption) ?r1_4
          case y1_4 => first | (refine Or.inr ⟨by rfl, ?_⟩; with_reducible rfl) | (refine Or.inl ⟨by rfl, ?_⟩; intro w hSw; (try dsimp only at hSw); (try simp only [List.getElem_toArray, List.getElem_cons_succ, List.getElem_cons_zero]); go_simp; all_goals (with_reducible rfl))
          try simp only [Act.put, List.setIfInBounds_toArray, List.set_cons_zero, List.set_cons_succ, List.getElem_toArray, List.getElem_cons_succ, List.getElem_cons_zero]
          refine wpAnyH_take (i := 5) (v := ?v1_5) rfl (by kernel_rfl) (by kernel_rfl) (by kernel_rfl) (fun _ _ _ h => h) ?y1_5 (by assumption) ?r1_5
          case y1_5 => first | (refine Or.inr ⟨by rfl, ?_⟩; with_reducible rfl) | (refine Or.inl ⟨by rfl, ?_⟩; intro w hSw; (try dsimp only at hSw); (try simp only [List.getElem_toArray, List.getElem_cons_succ, List.getElem_cons_zero]); go_simp; all_goals (with_reducible rfl))
          try simp only [Act.put, List.setIfInBounds_toArray, List.set_cons_zero, List.set_cons_succ, List.getElem_toArray, List.getElem_cons_succ, List.getElem_cons_zero]
          refine wpAnyH_take (i := 6) (v := ?v1_6) rfl (by kernel_rfl) (by kernel_rfl) (by kernel_rfl) (fun _ _ _ h => h) ?y1_6 (by assumption) ?r1_6
          case y1_6 => first | (refine Or.inr ⟨by rfl, ?_⟩; with_reducible rfl) | (refine Or.inl ⟨by rfl, ?_⟩; intro w hSw; (try dsimp only at hSw); (try simp only [List.getElem_toArray, List.getElem_cons_succ, List.getElem_cons_zero]); go_simp; all_goals (with_reducible rfl))
          try simp only [Act.put, List.setIfInBounds_toArray, List.set_cons_zero, List.set_cons_succ, List.getElem_toArray, List.getElem_cons_succ, List.getElem_cons_zero]
          refine wpAnyH_take (i := 7) (v := ?v1_7) rfl (by kernel_rfl) (by kernel_rfl) (by kernel_rfl) (fun _ _ _ h => h) ?y1_7 (by assumption) ?r1_7
          case y1_7 => first | (refine Or.inr ⟨by rfl, ?_⟩; with_reducible rfl) | (refine Or.inl ⟨by rfl, ?_⟩; intro w hSw; (try dsimp only at hSw); (try simp only [List.getElem_toArray, List.getElem_cons_succ, List.getElem_cons_zero]); go_simp; all_goals (with_reducible rfl))
          try simp only [Act.put, List.setIfInBounds_toArray, List.set_cons_zero, List.set_cons_succ, List.getElem_toArray, List.getElem_cons_succ, List.getElem_cons_zero]
          refine wpAnyH_take (i := 8) (v := ?v1_8) rfl (by kernel_rfl) (by kernel_rfl) (by kernel_rfl) (fun _ _ _ h => h) ?y1_8 (by assumption) ?r1_8
          case y1_8 => first | (refine Or.inr ⟨by rfl, ?_⟩; with_reducible rfl) | (refine Or.inl ⟨by rfl, ?_⟩; intro w hSw; (try dsimp only at hSw); (try simp only [List.getElem_toArray, List.getElem_cons_succ, List.getElem_cons_zero]); go_simp; all_goals (with_reducible rfl))
          try simp only [Act.put, List.setIfInBounds_toArray, List.set_cons_zero, List.set_cons_succ, List.getElem_toArray, List.getElem_cons_succ, List.getElem_cons_zero]
          refine wpAnyH_done (by kernel_rfl) ?_ _
          go_wp2
          go_roundw
          case rel => exact ⟨i + 1, by omega, by go_num, HE, ⟨HB.out.drew⟩⟩
          case measure => simp [intOf] <;> omega
        · have HE := Box.mk (HX2.out.trans (dec_cons_ne hxy))
          have hq : (x != y) = true := by simp [hxy]
          go_upto_region 6 with fail
          refine wp_region_held_drew (S := (fun w' => w'.cell? ⟨b, off + i, none⟩ = some (.int .i64 x) ∧ w'.cell? ⟨b', off' + i, none⟩ = some (.int .i64 y))) (by kernel_rfl) ?_ (fun hHeld => ?_)
          · simp [*]
          refine wpAnyH_take (i := 0) (v := ?v2_0) rfl (by kernel_rfl) (by kernel_rfl) (by kernel_rfl) (fun _ _ _ h => h) ?y2_0 (by assumption) ?r2_0
          case y2_0 => first | (refine Or.inr ⟨by rfl, ?_⟩; with_reducible rfl) | (refine Or.inl ⟨by rfl, ?_⟩; intro w hSw; (try dsimp only at hSw); (try simp only [List.getElem_toArray, List.getElem_cons_succ, List.getElem_cons_zero]); go_simp; all_goals (with_reducible rfl))
          try simp only [Act.put, List.setIfInBounds_toArray, List.set_cons_zero, List.set_cons_succ, List.getElem_toArray, List.getElem_cons_succ, List.getElem_cons_zero]
          refine wpAnyH_take (i := 1) (v := ?v2_1) rfl (by kernel_rfl) (by kernel_rfl) (by kernel_rfl) (fun _ _ _ h => h) ?y2_1 (by assumption) ?r2_1
          case y2_1 => first | (refine Or.inr ⟨by rfl, ?_⟩; with_reducible rfl) | (refine Or.inl ⟨by rfl, ?_⟩; intro w hSw; (try dsimp only at hSw); (try simp only [List.getElem_toArray, List.getElem_cons_succ, List.getElem_cons_zero]); go_simp; all_goals (with_reducible rfl))
          try simp only [Act.put, List.setIfInBounds_toArray, List.set_cons_zero, List.set_cons_succ, List.getElem_toArray, List.getElem_cons_succ, List.getElem_cons_zero]
          refine wpAnyH_take (i := 2) (v := ?v2_2) rfl (by kernel_rfl) (by kernel_rfl) (by kernel_rfl) (fun _ _ _ h => h) ?y2_2 (by assumption) ?r2_2
          case y2_2 => first | (refine Or.inr ⟨by rfl, ?_⟩; with_reducible rfl) | (refine Or.inl ⟨by rfl, ?_⟩; intro w hSw; (try dsimp only at hSw); (try simp only [List.getElem_toArray, List.getElem_cons_succ, List.getElem_cons_zero]); go_simp; all_goals (with_reducible rfl))
          try simp only [Act.put, List.setIfInBounds_toArray, List.set_cons_zero, List.set_cons_succ, List.getElem_toArray, List.getElem_cons_succ, List.getElem_cons_zero]
          refine wpAnyH_take (i := 3) (v := ?v2_3) rfl (by kernel_rfl) (by kernel_rfl) (by kernel_rfl) (fun _ _ _ h => h) ?y2_3 (by assumption) ?r2_3
          case y2_3 => first | (refine Or.inr ⟨by rfl, ?_⟩; with_reducible rfl) | (refine Or.inl ⟨by rfl, ?_⟩; intro w hSw; (try dsimp only at hSw); (try simp only [List.getElem_toArray, List.getElem_cons_succ, List.getElem_cons_zero]); go_simp; all_goals (with_reducible rfl))
          try simp only [Act.put, List.setIfInBounds_toArray, List.set_cons_zero, List.set_cons_succ, List.getElem_toArray, List.getElem_cons_succ, List.getElem_cons_zero]
          refine wpAnyH_take (i := 4) (v := ?v2_4) rfl (by kernel_rfl) (by kernel_rfl) (by kernel_rfl) (fun _ _ _ h => h) ?y2_4 (by assumption) ?r2_4
          case y2_4 => first | (refine Or.inr ⟨by rfl, ?_⟩; with_reducible rfl) | (refine Or.inl ⟨by rfl, ?_⟩; intro w hSw; (try dsimp only at hSw); (try simp only [List.getElem_toArray, List.getElem_cons_succ, List.getElem_cons_zero]); go_simp; all_goals (with_reducible rfl))
          try simp only [Act.put, List.setIfInBounds_toArray, List.set_cons_zero, List.set_cons_succ, List.getElem_toArray, List.getElem_cons_succ, List.getElem_cons_zero]
          refine wpAnyH_take (i := 5) (v := ?v2_5) rfl (by kernel_rfl) (by kernel_rfl) (by kernel_rfl) (fun _ _ _ h => h) ?y2_5 (by assumption) ?r2_5
          case y2_5 => first | (refine Or.inr ⟨by rfl, ?_⟩; with_reducible rfl) | (refine Or.inl ⟨by rfl, ?_⟩; intro w hSw; (try dsimp only at hSw); (try simp only [List.getElem_toArray, List.getElem_cons_succ, List.getElem_cons_zero]); go_simp; all_goals (with_reducible rfl))
          try simp only [Act.put, List.setIfInBounds_toArray, List.set_cons_zero, List.set_cons_succ, List.getElem_toArray, List.getElem_cons_succ, List.getElem_cons_zero]
          refine wpAnyH_take (i := 6) (v := ?v2_6) rfl (by kernel_rfl) (by kernel_rfl) (by kernel_rfl) (fun _ _ _ h => h) ?y2_6 (by assumption) ?r2_6
          case y2_6 => first | (refine Or.inr ⟨by rfl, ?_⟩; with_reducible rfl) | (refine Or.inl ⟨by rfl, ?_⟩; intro w hSw; (try dsimp only at hSw); (try simp only [List.getElem_toArray, List.getElem_cons_succ, List.getElem_cons_zero]); go_simp; all_goals (with_reducible rfl))
          try simp only [Act.put, List.setIfInBounds_toArray, List.set_cons_zero, List.set_cons_succ, List.getElem_toArray, List.getElem_cons_succ, List.getElem_cons_zero]
          refine wpAnyH_take (i := 7) (v := ?v2_7) rfl (by kernel_rfl) (by kernel_rfl) (by kernel_rfl) (fun _ _ _ h => h) ?y2_7 (by assumption) ?r2_7
          case y2_7 => first | (refine Or.inr ⟨by rfl, ?_⟩; with_reducible rfl) | (refine Or.inl ⟨by rfl, ?_⟩; intro w hSw; (try dsimp only at hSw); (try simp only [List.getElem_toArray, List.getElem_cons_succ, List.getElem_cons_zero]); go_simp; all_goals (with_reducible rfl))
          try simp only [Act.put, List.setIfInBounds_toArray, List.set_cons_zero, List.set_cons_succ, List.getElem_toArray, List.getElem_cons_succ, List.getElem_cons_zero]
          refine wpAnyH_take (i := 8) (v := ?v2_8) rfl (by kernel_rfl) (by kernel_rfl) (by kernel_rfl) (fun _ _ _ h => h) ?y2_8 (by assumption) ?r2_8
          case y2_8 => first | (refine Or.inr ⟨by rfl, ?_⟩; with_reducible rfl) | (refine Or.inl ⟨by rfl, ?_⟩; intro w hSw; (try dsimp only at hSw); (try simp only [List.getElem_toArray, List.getElem_cons_succ, List.getElem_cons_zero]); go_simp; all_goals (with_reducible rfl))
          try simp only [Act.put, List.setIfInBounds_toArray, List.set_cons_zero, List.set_cons_succ, List.getElem_toArray, List.getElem_cons_succ, List.getElem_cons_zero]
          refine wpAnyH_done (by kernel_rfl) ?_ _
          go_wp2
          go_ret
          exact ⟨by rw [HE.out]; rfl, HB.out.drew⟩
      · have hii : ¬ (i : Int) < n1 := by omega
        have HE : Box (R = true) := ⟨by rw [HX.out, List.drop_eq_nil_of_le (by have := H1.out.1; omega), List.drop_eq_nil_of_le (by have := H2.out.1; omega)]; rfl⟩
        clear HX
        go_wp2
        go_ret
        exact ⟨by rw [HE.out]; rfl, HB.out⟩
  · have HE : Box (decide (z1 = z2) = false) := ⟨dec_ne_len (by rw [H1.out.1, H2.out.1]; exact hnn)⟩
    rw [HE.out]
    have hnb : ((n1 : Int) != n2) = true := by simp; omega
    go_enter Tryd.func40, Tryd.ntmps40
    go_wp2
    go_ret
    exact ⟨rfl, Below.refl _ _⟩
set_option maxHeartbeats 4000000 in
theorem fsame_any (a1 : Option Addr) (n1 c1 : Nat) (z1 : List (Int × Int × Int)) (a2 : Option Addr) (n2 c2 : Nat) (z2 : List (Int × Int × Int)) (w : World) (h1 : FatesAt w a1 n1 z1) (h2 : FatesAt w a2 n2 z2) : Calls Tryd.prog 30 #[.slice a1 n1 c1, .slice a2 n2 c2] w fun e w' => e = .returned (.bool (decide (z1 = z2))) ∧ Below w.heap.size w w' := by
  have H1 := Box.mk h1
  have H2 := Box.mk h2
  have hn := h1.2.1
  clear h1 h2
  by_cases hnn : n1 = n2
  · subst hnn
    obtain ⟨R, HR⟩ : ∃ R, Box (R = decide (z1 = z2)) := ⟨_, ⟨rfl⟩⟩
    rw [← HR.out]
    have hnb : ((n1 : Int) != n1) = false := by simp
    go_enter Tryd.func30, Tryd.ntmps30
    go_upto_block 0 with fail
    go_wp2
    go_loopw [5] (fun s5 wr => ∃ i : Nat, i ≤ n1 ∧ s5 = .int .i64 i ∧ Box (R = decide (z1.drop i = z2.drop i)) ∧ Box (Below w.heap.size w wr)) (fun s5 _ => n1 - (intOf s5).toNat)
    case atStart => exact ⟨0, by omega, rfl, ⟨by rw [HR.out]; rfl⟩, ⟨Below.refl _ _⟩⟩
    case round =>
      obtain ⟨i, hi, rfl, HX, HB⟩ := hrel
      by_cases hlt : i < n1
      · obtain ⟨b, off, p, k, v, rfl, hb, hd, c0, c1', c2'⟩ := (H1.out.later HB.out).at hlt
        obtain ⟨b', off', p', k', v', rfl, hb', hd', d0, d1, d2⟩ := (H2.out.later HB.out).at hlt
        have HX2 : Box (R = decide ((p, k, v) :: z1.drop (i + 1) = (p', k', v') :: z2.drop (i + 1))) := ⟨by rw [HX.out, hd, hd']⟩
        have hii : (i : Int) < n1 := by omega
        have hi0 : (0 : Int) ≤ i := by omega
        clear hd hd' HX
        by_cases hxy : (p, k, v) = (p', k', v')
        · have HE := Box.mk (HX2.out.trans (dec_cons hxy))
          injection hxy with q1 q2
          injection q2 with q2 q3
          subst q1; subst q2; subst q3
          have hq1 : (p == p) = true := by simp
          have hq2 : (k == k) = true := by simp
          have hq3 : (v == v) = true := by simp
          go_upto_region 6 with fail
          refine wp_region_held_drew (S := (fun w' => w'.cell? ⟨b, off + i * 3, none⟩ = some (.int .i64 p) ∧ w'.cell? ⟨b, off + i * 3 + 1, none⟩ = some (.int .i64 k) ∧ w'.cell? ⟨b, off + i * 3 + 2, none⟩ = some (.int .i64 v) ∧ w'.cell? ⟨b', off' + i * 3, none⟩ = some (.int .i64 p) ∧ w'.cell? ⟨b', off' + i * 3 + 1, none⟩ = some (.int .i64 k) ∧ w'.cell? ⟨b', off' + i * 3 + 2, none⟩ = some (.int .i64 v))) (by kernel_rfl) ?_ (fun hHeld => ?_)
          · simp [*]
          refine wpAnyH_take (i := 0) (v := ?v3_0) rfl (by kernel_rfl) (by kernel_rfl) (by kernel_rfl) (fun _ _ _ h => h) ?y3_0 (by assumption) ?r3_0
          case y3_0 => first | (refine Or.inr ⟨by rfl, ?_⟩; with_reducible rfl) | (refine Or.inl ⟨by rfl, ?_⟩; intro w hSw; (try dsimp only at hSw); (try simp only [List.getElem_toArray, List.getElem_cons_succ, List.getElem_cons_zero]); go_simp; all_goals (with_reducible rfl))
          try simp only [Act.put, List.setIfInBounds_toArray, List.set_cons_zero, List.set_cons_succ, List.getElem_toArray, List.getElem_cons_succ, List.getElem_cons_zero]
          refine wpAnyH_take (i := 1) (v := ?v3_1) rfl (by kernel_rfl) (by kernel_rfl) (by kernel_rfl) (fun _ _ _ h => h) ?y3_1 (by assumption) ?r3_1
          case y3_1 => first | (refine Or.inr ⟨by rfl, ?_⟩; with_reducible rfl) | (refine Or.inl ⟨by rfl, ?_⟩; intro w hSw; (try dsimp only at hSw); (try simp only [List.getElem_toArray, List.getElem_cons_succ, List.getElem_cons_zero]); go_simp; all_goals (with_reducible rfl))
          try simp only [Act.put, List.setIfInBounds_toArray, List.set_cons_zero, List.set_cons_succ, List.getElem_toArray, List.getElem_cons_succ, List.getElem_cons_zero]
          refine wpAnyH_take (i := 2) (v := ?v3_2) rfl (by kernel_rfl) (by kernel_rfl) (by kernel_rfl) (fun _ _ _ h => h) ?y3_2 (by assumption) ?r3_2
          case y3_2 => first | (refine Or.inr ⟨by rfl, ?_⟩; with_reducible rfl) | (refine Or.inl ⟨by rfl, ?_⟩; intro w hSw; (try dsimp only at hSw); (try simp only [List.getElem_toArray, List.getElem_cons_succ, List.getElem_cons_zero]); go_simp; all_goals (with_reducible rfl))
          try simp only [Act.put, List.setIfInBounds_toArray, List.set_cons_zero, List.set_cons_succ, List.getElem_toArray, List.getElem_cons_succ, List.getElem_cons_zero]
          refine wpAnyH_take (i := 3) (v := ?v3_3) rfl (by kernel_rfl) (by kernel_rfl) (by kernel_rfl) (fun _ _ _ h => h) ?y3_3 (by assumption) ?r3_3
          case y3_3 => first | (refine Or.inr ⟨by rfl, ?_⟩; with_reducible rfl) | (refine Or.inl ⟨by rfl, ?_⟩; intro w hSw; (try dsimp only at hSw); (try simp only [List.getElem_toArray, List.getElem_cons_succ, List.getElem_cons_zero]); go_simp; all_goals (with_reducible rfl))
          try simp only [Act.put, List.setIfInBounds_toArray, List.set_cons_zero, List.set_cons_succ, List.getElem_toArray, List.getElem_cons_succ, List.getElem_cons_zero]
          refine wpAnyH_take (i := 4) (v := ?v3_4) rfl (by kernel_rfl) (by kernel_rfl) (by kernel_rfl) (fun _ _ _ h => h) ?y3_4 (by assumption) ?r3_4
          case y3_4 => first | (refine Or.inr ⟨by rfl, ?_⟩; with_reducible rfl) | (refine Or.inl ⟨by rfl, ?_⟩; intro w hSw; (try dsimp only at hSw); (try simp only [List.getElem_toArray, List.getElem_cons_succ, List.getElem_cons_zero]); go_simp; all_goals (with_reducible rfl))
          try simp only [Act.put, List.setIfInBounds_toArray, List.set_cons_zero, List.set_cons_succ, List.getElem_toArray, List.getElem_cons_succ, List.getElem_cons_zero]
          refine wpAnyH_take (i := 5) (v := ?v3_5) rfl (by kernel_rfl) (by kernel_rfl) (by kernel_rfl) (fun _ _ _ h => h) ?y3_5 (by assumption) ?r3_5
          case y3_5 => first | (refine Or.inr ⟨by rfl, ?_⟩; with_reducible rfl) | (refine Or.inl ⟨by rfl, ?_⟩; intro w hSw; (try dsimp only at hSw); (try simp only [List.getElem_toArray, List.getElem_cons_succ, List.getElem_cons_zero]); go_simp; all_goals (with_reducible rfl))
          try simp only [Act.put, List.setIfInBounds_toArray, List.set_cons_zero, List.set_cons_succ, List.getElem_toArray, List.getElem_cons_succ, List.getElem_cons_zero]
          refine wpAnyH_take (i := 6) (v := ?v3_6) rfl (by kernel_rfl) (by kernel_rfl) (by kernel_rfl) (fun _ _ _ h => h) ?y3_6 (by assumption) ?r3_6
          case y3_6 => first | (refine Or.inr ⟨by rfl, ?_⟩; with_reducible rfl) | (refine Or.inl ⟨by rfl, ?_⟩; intro w hSw; (try dsimp only at hSw); (try simp only [List.getElem_toArray, List.getElem_cons_succ, List.getElem_cons_zero]); go_simp; all_goals (with_reducible rfl))
          try simp only [Act.put, List.setIfInBounds_toArray, List.set_cons_zero, List.set_cons_succ, List.getElem_toArray, List.getElem_cons_succ, List.getElem_cons_zero]
          refine wpAnyH_take (i := 7) (v := ?v3_7) rfl (by kernel_rfl) (by kernel_rfl) (by kernel_rfl) (fun _ _ _ h => h) ?y3_7 (by assumption) ?r3_7
          case y3_7 => first | (refine Or.inr ⟨by rfl, ?_⟩; with_reducible rfl) | (refine Or.inl ⟨by rfl, ?_⟩; intro w hSw; (try dsimp only at hSw); (try simp only [List.getElem_toArray, List.getElem_cons_succ, List.getElem_cons_zero]); go_simp; all_goals (with_reducible rfl))
          try simp only [Act.put, List.setIfInBounds_toArray, List.set_cons_zero, List.set_cons_succ, List.getElem_toArray, List.getElem_cons_succ, List.getElem_cons_zero]
          refine wpAnyH_take (i := 8) (v := ?v3_8) rfl (by kernel_rfl) (by kernel_rfl) (by kernel_rfl) (fun _ _ _ h => h) ?y3_8 (by assumption) ?r3_8
          case y3_8 => first | (refine Or.inr ⟨by rfl, ?_⟩; with_reducible rfl) | (refine Or.inl ⟨by rfl, ?_⟩; intro w hSw; (try dsimp only at hSw); (try simp only [List.getElem_toArray, List.getElem_cons_succ, List.getElem_cons_zero]); go_simp; all_goals (with_reducible rfl))
          try simp only [Act.put, List.setIfInBounds_toArray, List.set_cons_zero, List.set_cons_succ, List.getElem_toArray, List.getElem_cons_succ, List.getElem_cons_zero]
          refine wpAnyH_done (by kernel_rfl) ?_ _
          go_wp2
          go_roundw
          case rel => exact ⟨i + 1, by omega, by go_num, HE, ⟨HB.out.drew⟩⟩
          case measure => simp [intOf] <;> omega
        · have HE := Box.mk (HX2.out.trans (dec_cons_ne hxy))
          by_cases e1 : p = p'
          · subst e1
            by_cases e2 : k = k'
            · subst e2
              have e3 : ¬ v = v' := fun e => hxy (by rw [e])
              clear hxy
              go_upto_region 6 with fail
              refine wp_region_held_drew (S := (fun w' => w'.cell? ⟨b, off + i * 3, none⟩ = some (.int .i64 p) ∧ w'.cell? ⟨b, off + i * 3 + 1, none⟩ = some (.int .i64 k) ∧ w'.cell? ⟨b, off + i * 3 + 2, none⟩ = some (.int .i64 v) ∧ w'.cell? ⟨b', off' + i * 3, none⟩ = some (.int .i64 p) ∧ w'.cell? ⟨b', off' + i * 3 + 1, none⟩ = some (.int .i64 k) ∧ w'.cell? ⟨b', off' + i * 3 + 2, none⟩ = some (.int .i64 v'))) (by kernel_rfl) ?_ (fun hHeld => ?_)
              · simp [*]
              refine wpAnyH_take (i := 0) (v := ?v4_0) rfl (by kernel_rfl) (by kernel_rfl) (by kernel_rfl) (fun _ _ _ h => h) ?y4_0 (by assumption) ?r4_0
              case y4_0 => first | (refine Or.inr ⟨by rfl, ?_⟩; with_reducible rfl) | (refine Or.inl ⟨by rfl, ?_⟩; intro w hSw; (try dsimp only at hSw); (try simp only [List.getElem_toArray, List.getElem_cons_succ, List.getElem_cons_zero]); go_simp; all_goals (with_reducible rfl))
              try simp only [Act.put, List.setIfInBounds_toArray, List.set_cons_zero, List.set_cons_succ, List.getElem_toArray, List.getElem_cons_succ, List.getElem_cons_zero]
              refine wpAnyH_take (i := 1) (v := ?v4_1) rfl (by kernel_rfl) (by kernel_rfl) (by kernel_rfl) (fun _ _ _ h => h) ?y4_1 (by assumption) ?r4_1
              case y4_1 => first | (refine Or.inr ⟨by rfl, ?_⟩; with_reducible rfl) | (refine Or.inl ⟨by rfl, ?_⟩; intro w hSw; (try dsimp only at hSw); (try simp only [List.getElem_toArray, List.getElem_cons_succ, List.getElem_cons_zero]); go_simp; all_goals (with_reducible rfl))
              try simp only [Act.put, List.setIfInBounds_toArray, List.set_cons_zero, List.set_cons_succ, List.getElem_toArray, List.getElem_cons_succ, List.getElem_cons_zero]
              refine wpAnyH_take (i := 2) (v := ?v4_2) rfl (by kernel_rfl) (by kernel_rfl) (by kernel_rfl) (fun _ _ _ h => h) ?y4_2 (by assumption) ?r4_2
              case y4_2 => first | (refine Or.inr ⟨by rfl, ?_⟩; with_reducible rfl) | (refine Or.inl ⟨by rfl, ?_⟩; intro w hSw; (try dsimp only at hSw); (try simp only [List.getElem_toArray, List.getElem_cons_succ, List.getElem_cons_zero]); go_simp; all_goals (with_reducible rfl))
              try simp only [Act.put, List.setIfInBounds_toArray, List.set_cons_zero, List.set_cons_succ, List.getElem_toArray, List.getElem_cons_succ, List.getElem_cons_zero]
              refine wpAnyH_take (i := 3) (v := ?v4_3) rfl (by kernel_rfl) (by kernel_rfl) (by kernel_rfl) (fun _ _ _ h => h) ?y4_3 (by assumption) ?r4_3
              case y4_3 => first | (refine Or.inr ⟨by rfl, ?_⟩; with_reducible rfl) | (refine Or.inl ⟨by rfl, ?_⟩; intro w hSw; (try dsimp only at hSw); (try simp only [List.getElem_toArray, List.getElem_cons_succ, List.getElem_cons_zero]); go_simp; all_goals (with_reducible rfl))
              try simp only [Act.put, List.setIfInBounds_toArray, List.set_cons_zero, List.set_cons_succ, List.getElem_toArray, List.getElem_cons_succ, List.getElem_cons_zero]
              refine wpAnyH_take (i := 4) (v := ?v4_4) rfl (by kernel_rfl) (by kernel_rfl) (by kernel_rfl) (fun _ _ _ h => h) ?y4_4 (by assumption) ?r4_4
              case y4_4 => first | (refine Or.inr ⟨by rfl, ?_⟩; with_reducible rfl) | (refine Or.inl ⟨by rfl, ?_⟩; intro w hSw; (try dsimp only at hSw); (try simp only [List.getElem_toArray, List.getElem_cons_succ, List.getElem_cons_zero]); go_simp; all_goals (with_reducible rfl))
              try simp only [Act.put, List.setIfInBounds_toArray, List.set_cons_zero, List.set_cons_succ, List.getElem_toArray, List.getElem_cons_succ, List.getElem_cons_zero]
              refine wpAnyH_take (i := 5) (v := ?v4_5) rfl (by kernel_rfl) (by kernel_rfl) (by kernel_rfl) (fun _ _ _ h => h) ?y4_5 (by assumption) ?r4_5
              case y4_5 => first | (refine Or.inr ⟨by rfl, ?_⟩; with_reducible rfl) | (refine Or.inl ⟨by rfl, ?_⟩; intro w hSw; (try dsimp only at hSw); (try simp only [List.getElem_toArray, List.getElem_cons_succ, List.getElem_cons_zero]); go_simp; all_goals (with_reducible rfl))
              try simp only [Act.put, List.setIfInBounds_toArray, List.set_cons_zero, List.set_cons_succ, List.getElem_toArray, List.getElem_cons_succ, List.getElem_cons_zero]
              refine wpAnyH_take (i := 6) (v := ?v4_6) rfl (by kernel_rfl) (by kernel_rfl) (by kernel_rfl) (fun _ _ _ h => h) ?y4_6 (by assumption) ?r4_6
              case y4_6 => first | (refine Or.inr ⟨by rfl, ?_⟩; with_reducible rfl) | (refine Or.inl ⟨by rfl, ?_⟩; intro w hSw; (try dsimp only at hSw); (try simp only [List.getElem_toArray, List.getElem_cons_succ, List.getElem_cons_zero]); go_simp; all_goals (with_reducible rfl))
              try simp only [Act.put, List.setIfInBounds_toArray, List.set_cons_zero, List.set_cons_succ, List.getElem_toArray, List.getElem_cons_succ, List.getElem_cons_zero]
              refine wpAnyH_take (i := 7) (v := ?v4_7) rfl (by kernel_rfl) (by kernel_rfl) (by kernel_rfl) (fun _ _ _ h => h) ?y4_7 (by assumption) ?r4_7
              case y4_7 => first | (refine Or.inr ⟨by rfl, ?_⟩; with_reducible rfl) | (refine Or.inl ⟨by rfl, ?_⟩; intro w hSw; (try dsimp only at hSw); (try simp only [List.getElem_toArray, List.getElem_cons_succ, List.getElem_cons_zero]); go_simp; all_goals (with_reducible rfl))
              try simp only [Act.put, List.setIfInBounds_toArray, List.set_cons_zero, List.set_cons_succ, List.getElem_toArray, List.getElem_cons_succ, List.getElem_cons_zero]
              refine wpAnyH_take (i := 8) (v := ?v4_8) rfl (by kernel_rfl) (by kernel_rfl) (by kernel_rfl) (fun _ _ _ h => h) ?y4_8 (by assumption) ?r4_8
              case y4_8 => first | (refine Or.inr ⟨by rfl, ?_⟩; with_reducible rfl) | (refine Or.inl ⟨by rfl, ?_⟩; intro w hSw; (try dsimp only at hSw); (try simp only [List.getElem_toArray, List.getElem_cons_succ, List.getElem_cons_zero]); go_simp; all_goals (with_reducible rfl))
              try simp only [Act.put, List.setIfInBounds_toArray, List.set_cons_zero, List.set_cons_succ, List.getElem_toArray, List.getElem_cons_succ, List.getElem_cons_zero]
              refine wpAnyH_done (by kernel_rfl) ?_ _
              go_wp2
              go_ret
              exact ⟨by rw [HE.out]; rfl, HB.out.drew⟩
            · clear hxy
              go_upto_region 6 with fail
              refine wp_region_held_drew (S := (fun w' => w'.cell? ⟨b, off + i * 3, none⟩ = some (.int .i64 p) ∧ w'.cell? ⟨b, off + i * 3 + 1, none⟩ = some (.int .i64 k) ∧ w'.cell? ⟨b, off + i * 3 + 2, none⟩ = some (.int .i64 v) ∧ w'.cell? ⟨b', off' + i * 3, none⟩ = some (.int .i64 p) ∧ w'.cell? ⟨b', off' + i * 3 + 1, none⟩ = some (.int .i64 k') ∧ w'.cell? ⟨b', off' + i * 3 + 2, none⟩ = some (.int .i64 v'))) (by kernel_rfl) ?_ (fun hHeld => ?_)
              · simp [*]
              refine wpAnyH_take (i := 0) (v := ?v5_0) rfl (by kernel_rfl) (by kernel_rfl) (by kernel_rfl) (fun _ _ _ h => h) ?y5_0 (by assumption) ?r5_0
              case y5_0 => first | (refine Or.inr ⟨by rfl, ?_⟩; with_reducible rfl) | (refine Or.inl ⟨by rfl, ?_⟩; intro w hSw; (try dsimp only at hSw); (try simp only [List.getElem_toArray, List.getElem_cons_succ, List.getElem_cons_zero]); go_simp; all_goals (with_reducible rfl))
              try simp only [Act.put, List.setIfInBounds_toArray, List.set_cons_zero, List.set_cons_succ, List.getElem_toArray, List.getElem_cons_succ, List.getElem_cons_zero]
              refine wpAnyH_take (i := 1) (v := ?v5_1) rfl (by kernel_rfl) (by kernel_rfl) (by kernel_rfl) (fun _ _ _ h => h) ?y5_1 (by assumption) ?r5_1
              case y5_1 => first | (refine Or.inr ⟨by rfl, ?_⟩; with_reducible rfl) | (refine Or.inl ⟨by rfl, ?_⟩; intro w hSw; (try dsimp only at hSw); (try simp only [List.getElem_toArray, List.getElem_cons_succ, List.getElem_cons_zero]); go_simp; all_goals (with_reducible rfl))
              try simp only [Act.put, List.setIfInBounds_toArray, List.set_cons_zero, List.set_cons_succ, List.getElem_toArray, List.getElem_cons_succ, List.getElem_cons_zero]
              refine wpAnyH_take (i := 2) (v := ?v5_2) rfl (by kernel_rfl) (by kernel_rfl) (by kernel_rfl) (fun _ _ _ h => h) ?y5_2 (by assumption) ?r5_2
              case y5_2 => first | (refine Or.inr ⟨by rfl, ?_⟩; with_reducible rfl) | (refine Or.inl ⟨by rfl, ?_⟩; intro w hSw; (try dsimp only at hSw); (try simp only [List.getElem_toArray, List.getElem_cons_succ, List.getElem_cons_zero]); go_simp; all_goals (with_reducible rfl))
              try simp only [Act.put, List.setIfInBounds_toArray, List.set_cons_zero, List.set_cons_succ, List.getElem_toArray, List.getElem_cons_succ, List.getElem_cons_zero]
              refine wpAnyH_take (i := 3) (v := ?v5_3) rfl (by kernel_rfl) (by kernel_rfl) (by kernel_rfl) (fun _ _ _ h => h) ?y5_3 (by assumption) ?r5_3
              case y5_3 => first | (refine Or.inr ⟨by rfl, ?_⟩; with_reducible rfl) | (refine Or.inl ⟨by rfl, ?_⟩; intro w hSw; (try dsimp only at hSw); (try simp only [List.getElem_toArray, List.getElem_cons_succ, List.getElem_cons_zero]); go_simp; all_goals (with_reducible rfl))
              try simp only [Act.put, List.setIfInBounds_toArray, List.set_cons_zero, List.set_cons_succ, List.getElem_toArray, List.getElem_cons_succ, List.getElem_cons_zero]
              refine wpAnyH_take (i := 4) (v := ?v5_4) rfl (by kernel_rfl) (by kernel_rfl) (by kernel_rfl) (fun _ _ _ h => h) ?y5_4 (by assumption) ?r5_4
              case y5_4 => first | (refine Or.inr ⟨by rfl, ?_⟩; with_reducible rfl) | (refine Or.inl ⟨by rfl, ?_⟩; intro w hSw; (try dsimp only at hSw); (try simp only [List.getElem_toArray, List.getElem_cons_succ, List.getElem_cons_zero]); go_simp; all_goals (with_reducible rfl))
              try simp only [Act.put, List.setIfInBounds_toArray, List.set_cons_zero, List.set_cons_succ, List.getElem_toArray, List.getElem_cons_succ, List.getElem_cons_zero]
              refine wpAnyH_take (i := 5) (v := ?v5_5) rfl (by kernel_rfl) (by kernel_rfl) (by kernel_rfl) (fun _ _ _ h => h) ?y5_5 (by assumption) ?r5_5
              case y5_5 => first | (refine Or.inr ⟨by rfl, ?_⟩; with_reducible rfl) | (refine Or.inl ⟨by rfl, ?_⟩; intro w hSw; (try dsimp only at hSw); (try simp only [List.getElem_toArray, List.getElem_cons_succ, List.getElem_cons_zero]); go_simp; all_goals (with_reducible rfl))
              try simp only [Act.put, List.setIfInBounds_toArray, List.set_cons_zero, List.set_cons_succ, List.getElem_toArray, List.getElem_cons_succ, List.getElem_cons_zero]
              refine wpAnyH_take (i := 6) (v := ?v5_6) rfl (by kernel_rfl) (by kernel_rfl) (by kernel_rfl) (fun _ _ _ h => h) ?y5_6 (by assumption) ?r5_6
              case y5_6 => first | (refine Or.inr ⟨by rfl, ?_⟩; with_reducible rfl) | (refine Or.inl ⟨by rfl, ?_⟩; intro w hSw; (try dsimp only at hSw); (try simp only [List.getElem_toArray, List.getElem_cons_succ, List.getElem_cons_zero]); go_simp; all_goals (with_reducible rfl))
              try simp only [Act.put, List.setIfInBounds_toArray, List.set_cons_zero, List.set_cons_succ, List.getElem_toArray, List.getElem_cons_succ, List.getElem_cons_zero]
              refine wpAnyH_take (i := 7) (v := ?v5_7) rfl (by kernel_rfl) (by kernel_rfl) (by kernel_rfl) (fun _ _ _ h => h) ?y5_7 (by assumption) ?r5_7
              case y5_7 => first | (refine Or.inr ⟨by rfl, ?_⟩; with_reducible rfl) | (refine Or.inl ⟨by rfl, ?_⟩; intro w hSw; (try dsimp only at hSw); (try simp only [List.getElem_toArray, List.getElem_cons_succ, List.getElem_cons_zero]); go_simp; all_goals (with_reducible rfl))
              try simp only [Act.put, List.setIfInBounds_toArray, List.set_cons_zero, List.set_cons_succ, List.getElem_toArray, List.getElem_cons_succ, List.getElem_cons_zero]
              refine wpAnyH_take (i := 8) (v := ?v5_8) rfl (by kernel_rfl) (by kernel_rfl) (by kernel_rfl) (fun _ _ _ h => h) ?y5_8 (by assumption) ?r5_8
              case y5_8 => first | (refine Or.inr ⟨by rfl, ?_⟩; with_reducible rfl) | (refine Or.inl ⟨by rfl, ?_⟩; intro w hSw; (try dsimp only at hSw); (try simp only [List.getElem_toArray, List.getElem_cons_succ, List.getElem_cons_zero]); go_simp; all_goals (with_reducible rfl))
              try simp only [Act.put, List.setIfInBounds_toArray, List.set_cons_zero, List.set_cons_succ, List.getElem_toArray, List.getElem_cons_succ, List.getElem_cons_zero]
              refine wpAnyH_done (by kernel_rfl) ?_ _
              go_wp2
              go_ret
              exact ⟨by rw [HE.out]; rfl, HB.out.drew⟩
          · clear hxy
            go_upto_region 6 with fail
            refine wp_region_held_drew (S := (fun w' => w'.cell? ⟨b, off + i * 3, none⟩ = some (.int .i64 p) ∧ w'.cell? ⟨b, off + i * 3 + 1, none⟩ = some (.int .i64 k) ∧ w'.cell? ⟨b, off + i * 3 + 2, none⟩ = some (.int .i64 v) ∧ w'.cell? ⟨b', off' + i * 3, none⟩ = some (.int .i64 p') ∧ w'.cell? ⟨b', off' + i * 3 + 1, none⟩ = some (.int .i64 k') ∧ w'.cell? ⟨b', off' + i * 3 + 2, none⟩ = some (.int .i64 v'))) (by kernel_rfl) ?_ (fun hHeld => ?_)
            · simp [*]
            refine wpAnyH_take (i := 0) (v := ?v6_0) rfl (by kernel_rfl) (by kernel_rfl) (by kernel_rfl) (fun _ _ _ h => h) ?y6_0 (by assumption) ?r6_0
            case y6_0 => first | (refine Or.inr ⟨by rfl, ?_⟩; with_reducible rfl) | (refine Or.inl ⟨by rfl, ?_⟩; intro w hSw; (try dsimp only at hSw); (try simp only [List.getElem_toArray, List.getElem_cons_succ, List.getElem_cons_zero]); go_simp; all_goals (with_reducible rfl))
            try simp only [Act.put, List.setIfInBounds_toArray, List.set_cons_zero, List.set_cons_succ, List.getElem_toArray, List.getElem_cons_succ, List.getElem_cons_zero]
            refine wpAnyH_take (i := 1) (v := ?v6_1) rfl (by kernel_rfl) (by kernel_rfl) (by kernel_rfl) (fun _ _ _ h => h) ?y6_1 (by assumption) ?r6_1
            case y6_1 => first | (refine Or.inr ⟨by rfl, ?_⟩; with_reducible rfl) | (refine Or.inl ⟨by rfl, ?_⟩; intro w hSw; (try dsimp only at hSw); (try simp only [List.getElem_toArray, List.getElem_cons_succ, List.getElem_cons_zero]); go_simp; all_goals (with_reducible rfl))
            try simp only [Act.put, List.setIfInBounds_toArray, List.set_cons_zero, List.set_cons_succ, List.getElem_toArray, List.getElem_cons_succ, List.getElem_cons_zero]
            refine wpAnyH_take (i := 2) (v := ?v6_2) rfl (by kernel_rfl) (by kernel_rfl) (by kernel_rfl) (fun _ _ _ h => h) ?y6_2 (by assumption) ?r6_2
            case y6_2 => first | (refine Or.inr ⟨by rfl, ?_⟩; with_reducible rfl) | (refine Or.inl ⟨by rfl, ?_⟩; intro w hSw; (try dsimp only at hSw); (try simp only [List.getElem_toArray, List.getElem_cons_succ, List.getElem_cons_zero]); go_simp; all_goals (with_reducible rfl))
            try simp only [Act.put, List.setIfInBounds_toArray, List.set_cons_zero, List.set_cons_succ, List.getElem_toArray, List.getElem_cons_succ, List.getElem_cons_zero]
            refine wpAnyH_take (i := 3) (v := ?v6_3) rfl (by kernel_rfl) (by kernel_rfl) (by kernel_rfl) (fun _ _ _ h => h) ?y6_3 (by assumption) ?r6_3
            case y6_3 => first | (refine Or.inr ⟨by rfl, ?_⟩; with_reducible rfl) | (refine Or.inl ⟨by rfl, ?_⟩; intro w hSw; (try dsimp only at hSw); (try simp only [List.getElem_toArray, List.getElem_cons_succ, List.getElem_cons_zero]); go_simp; all_goals (with_reducible rfl))
            try simp only [Act.put, List.setIfInBounds_toArray, List.set_cons_zero, List.set_cons_succ, List.getElem_toArray, List.getElem_cons_succ, List.getElem_cons_zero]
            refine wpAnyH_take (i := 4) (v := ?v6_4) rfl (by kernel_rfl) (by kernel_rfl) (by kernel_rfl) (fun _ _ _ h => h) ?y6_4 (by assumption) ?r6_4
            case y6_4 => first | (refine Or.inr ⟨by rfl, ?_⟩; with_reducible rfl) | (refine Or.inl ⟨by rfl, ?_⟩; intro w hSw; (try dsimp only at hSw); (try simp only [List.getElem_toArray, List.getElem_cons_succ, List.getElem_cons_zero]); go_simp; all_goals (with_reducible rfl))
            try simp only [Act.put, List.setIfInBounds_toArray, List.set_cons_zero, List.set_cons_succ, List.getElem_toArray, List.getElem_cons_succ, List.getElem_cons_zero]
            refine wpAnyH_take (i := 5) (v := ?v6_5) rfl (by kernel_rfl) (by kernel_rfl) (by kernel_rfl) (fun _ _ _ h => h) ?y6_5 (by assumption) ?r6_5
            case y6_5 => first | (refine Or.inr ⟨by rfl, ?_⟩; with_reducible rfl) | (refine Or.inl ⟨by rfl, ?_⟩; intro w hSw; (try dsimp only at hSw); (try simp only [List.getElem_toArray, List.getElem_cons_succ, List.getElem_cons_zero]); go_simp; all_goals (with_reducible rfl))
            try simp only [Act.put, List.setIfInBounds_toArray, List.set_cons_zero, List.set_cons_succ, List.getElem_toArray, List.getElem_cons_succ, List.getElem_cons_zero]
            refine wpAnyH_take (i := 6) (v := ?v6_6) rfl (by kernel_rfl) (by kernel_rfl) (by kernel_rfl) (fun _ _ _ h => h) ?y6_6 (by assumption) ?r6_6
            case y6_6 => first | (refine Or.inr ⟨by rfl, ?_⟩; with_reducible rfl) | (refine Or.inl ⟨by rfl, ?_⟩; intro w hSw; (try dsimp only at hSw); (try simp only [List.getElem_toArray, List.getElem_cons_succ, List.getElem_cons_zero]); go_simp; all_goals (with_reducible rfl))
            try simp only [Act.put, List.setIfInBounds_toArray, List.set_cons_zero, List.set_cons_succ, List.getElem_toArray, List.getElem_cons_succ, List.getElem_cons_zero]
            refine wpAnyH_take (i := 7) (v := ?v6_7) rfl (by kernel_rfl) (by kernel_rfl) (by kernel_rfl) (fun _ _ _ h => h) ?y6_7 (by assumption) ?r6_7
            case y6_7 => first | (refine Or.inr ⟨by rfl, ?_⟩; with_reducible rfl) | (refine Or.inl ⟨by rfl, ?_⟩; intro w hSw; (try dsimp only at hSw); (try simp only [List.getElem_toArray, List.getElem_cons_succ, List.getElem_cons_zero]); go_simp; all_goals (with_reducible rfl))
            try simp only [Act.put, List.setIfInBounds_toArray, List.set_cons_zero, List.set_cons_succ, List.getElem_toArray, List.getElem_cons_succ, List.getElem_cons_zero]
            refine wpAnyH_take (i := 8) (v := ?v6_8) rfl (by kernel_rfl) (by kernel_rfl) (by kernel_rfl) (fun _ _ _ h => h) ?y6_8 (by assumption) ?r6_8
            case y6_8 => first | (refine Or.inr ⟨by rfl, ?_⟩; with_reducible rfl) | (refine Or.inl ⟨by rfl, ?_⟩; intro w hSw; (try dsimp only at hSw); (try simp only [List.getElem_toArray, List.getElem_cons_succ, List.getElem_cons_zero]); go_simp; all_goals (with_reducible rfl))
            try simp only [Act.put, List.setIfInBounds_toArray, List.set_cons_zero, List.set_cons_succ, List.getElem_toArray, List.getElem_cons_succ, List.getElem_cons_zero]
            refine wpAnyH_done (by kernel_rfl) ?_ _
            go_wp2
            go_ret
            exact ⟨by rw [HE.out]; rfl, HB.out.drew⟩
      · have hii : ¬ (i : Int) < n1 := by omega
        have HE : Box (R = true) := ⟨by rw [HX.out, List.drop_eq_nil_of_le (by have := H1.out.1; omega), List.drop_eq_nil_of_le (by have := H2.out.1; omega)]; rfl⟩
        clear HX
        go_wp2
        go_ret
        exact ⟨by rw [HE.out]; rfl, HB.out⟩
  · have HE : Box (decide (z1 = z2) = false) := ⟨dec_ne_len (by rw [H1.out.1, H2.out.1]; exact hnn)⟩
    rw [HE.out]
    have hnb : ((n1 : Int) != n2) = true := by simp; omega
    go_enter Tryd.func30, Tryd.ntmps30
    go_wp2
    go_ret
    exact ⟨rfl, Below.refl _ _⟩
theorem four_cases (p0 p1 p2 p3 : Bool) : p0 = false ∨ (p0 = true ∧ p1 = false) ∨ (p0 = true ∧ p1 = true ∧ p2 = false) ∨ (p0 = true ∧ p1 = true ∧ p2 = true) := by
  cases p0 <;> cases p1 <;> cases p2 <;> simp
set_option maxHeartbeats 8000000 in
theorem rsame17_any (x1 : Int) (a1 : Option Addr) (n1 c1 : Nat) (a2 : Option Addr) (n2 c2 : Nat) (a3 : Option Addr) (n3 c3 : Nat) (x2 : Int) (b1 : Option Addr) (m1 d1 : Nat) (b2 : Option Addr) (m2 d2 : Nat) (b3 : Option Addr) (m3 d3 : Nat) (z1 z2 z3 y1 y2 y3 : List Int) (w : World) (h1 : NumsAt w a1 n1 z1) (h2 : NumsAt w a2 n2 z2) (h3 : NumsAt w a3 n3 z3) (g1 : NumsAt w b1 m1 y1) (g2 : NumsAt w b2 m2 y2) (g3 : NumsAt w b3 m3 y3) :
    Calls Tryd.prog 29 #[.agg #[.int .i64 x1, .slice a1 n1 c1, .slice a2 n2 c2, .slice a3 n3 c3], .agg #[.int .i64 x2, .slice b1 m1 d1, .slice b2 m2 d2, .slice b3 m3 d3]] w fun e w' => e = .returned (.bool (decide (x1 = x2) && (decide (z1 = y1) && (decide (z2 = y2) && decide (z3 = y3))))) ∧ Below w.heap.size w w' := by
  obtain ⟨R, HR⟩ : ∃ R, Box (R = (decide (x1 = x2) && (decide (z1 = y1) && (decide (z2 = y2) && decide (z3 = y3))))) := ⟨_, ⟨rfl⟩⟩
  rw [← HR.out]
  have hbl : Below w.heap.size w (w.alloc (.cells #[.int .i64 x1, .slice a1 n1 c1, .slice a2 n2 c2, .slice a3 n3 c3] 24)) := (Below.refl _ w).alloc (Nat.le_refl _) _
  have hbl2 : Below w.heap.size w ((w.alloc (.cells #[.int .i64 x1, .slice a1 n1 c1, .slice a2 n2 c2, .slice a3 n3 c3] 24)).alloc (.cells #[.int .i64 x2, .slice b1 m1 d1, .slice b2 m2 d2, .slice b3 m3 d3] 24)) := hbl.alloc hbl.size _
  have HB := Box.mk hbl2
  have HX1 : Box (((w.alloc (.cells #[.int .i64 x1, .slice a1 n1 c1, .slice a2 n2 c2, .slice a3 n3 c3] 24)).alloc (.cells #[.int .i64 x2, .slice b1 m1 d1, .slice b2 m2 d2, .slice b3 m3 d3] 24)).heap[w.heap.size]? = some (.cells #[.int .i64 x1, .slice a1 n1 c1, .slice a2 n2 c2, .slice a3 n3 c3] 24 (0, 0))) := ⟨blk_alloc (blk_new _ _)⟩
  have HX2 : Box (((w.alloc (.cells #[.int .i64 x1, .slice a1 n1 c1, .slice a2 n2 c2, .slice a3 n3 c3] 24)).alloc (.cells #[.int .i64 x2, .slice b1 m1 d1, .slice b2 m2 d2, .slice b3 m3 d3] 24)).heap[w.heap.size + 1]? = some (.cells #[.int .i64 x2, .slice b1 m1 d1, .slice b2 m2 d2, .slice b3 m3 d3] 24 (0, 0))) := ⟨by have := blk_new (w.alloc (.cells #[.int .i64 x1, .slice a1 n1 c1, .slice a2 n2 c2, .slice a3 n3 c3] 24)) (.cells #[.int .i64 x2, .slice b1 m1 d1, .slice b2 m2 d2, .slice b3 m3 d3] 24); simpa using this⟩
  go_enter Tryd.func29, Tryd.ntmps29
  go_upto_region 1 with fail
  generalize hV : (w.alloc (.cells #[.int .i64 x1, .slice a1 n1 c1, .slice a2 n2 c2, .slice a3 n3 c3] 24)).alloc (.cells #[.int .i64 x2, .slice b1 m1 d1, .slice b2 m2 d2, .slice b3 m3 d3] 24) = V at HB HX1 HX2 hbl2 ⊢
  have HVS : Box (V.heap.size = w.heap.size + 2) := ⟨by rw [← hV]; simp⟩
  clear hV hbl
  have HBW : Box (∀ w', Below V.heap.size V w' → Below w.heap.size w w') := ⟨fun w' hb => HB.out.trans (hb.mono (by have := HVS.out; omega))⟩
  have HC : Box (∀ w', Below V.heap.size V w' → w'.cell? ⟨w.heap.size, 0, none⟩ = some (.int .i64 x1) ∧ w'.cell? ⟨w.heap.size, 1, none⟩ = some (.slice a1 n1 c1) ∧ w'.cell? ⟨w.heap.size, 2, none⟩ = some (.slice a2 n2 c2) ∧ w'.cell? ⟨w.heap.size, 3, none⟩ = some (.slice a3 n3 c3) ∧
      w'.cell? ⟨w.heap.size + 1, 0, none⟩ = some (.int .i64 x2) ∧ w'.cell? ⟨w.heap.size + 1, 1, none⟩ = some (.slice b1 m1 d1) ∧ w'.cell? ⟨w.heap.size + 1, 2, none⟩ = some (.slice b2 m2 d2) ∧ w'.cell? ⟨w.heap.size + 1, 3, none⟩ = some (.slice b3 m3 d3)) := ⟨fun w' hb => by
    have h5 := (hb.block _ (lt_blk HX1.out)).trans HX1.out
    have h6 := (hb.block _ (lt_blk HX2.out)).trans HX2.out
    exact ⟨(cell_blk h5 0).trans rfl, (cell_blk h5 1).trans rfl, (cell_blk h5 2).trans rfl, (cell_blk h5 3).trans rfl, (cell_blk h6 0).trans rfl, (cell_blk h6 1).trans rfl, (cell_blk h6 2).trans rfl, (cell_blk h6 3).trans rfl⟩⟩
  have H1 : Box (∀ w', Below V.heap.size V w' → Calls Tryd.prog 40 #[.slice a1 n1 c1, .slice b1 m1 d1] w' fun e w'' => e = .returned (.bool (decide (z1 = y1))) ∧ Below w'.heap.size w' w'') := ⟨fun w' hb => ints_any a1 n1 c1 z1 b1 m1 d1 y1 w' (h1.later (HBW.out _ hb)) (g1.later (HBW.out _ hb))⟩
  have H2 : Box (∀ w', Below V.heap.size V w' → Calls Tryd.prog 40 #[.slice a2 n2 c2, .slice b2 m2 d2] w' fun e w'' => e = .returned (.bool (decide (z2 = y2))) ∧ Below w'.heap.size w' w'') := ⟨fun w' hb => ints_any a2 n2 c2 z2 b2 m2 d2 y2 w' (h2.later (HBW.out _ hb)) (g2.later (HBW.out _ hb))⟩
  have H3 : Box (∀ w', Below V.heap.size V w' → Calls Tryd.prog 40 #[.slice a3 n3 c3, .slice b3 m3 d3] w' fun e w'' => e = .returned (.bool (decide (z3 = y3))) ∧ Below w'.heap.size w' w'') := ⟨fun w' hb => ints_any a3 n3 c3 z3 b3 m3 d3 y3 w' (h3.later (HBW.out _ hb)) (g3.later (HBW.out _ hb))⟩
  clear h1 h2 h3 g1 g2 g3 HX1 HX2 HVS HB hbl2
  obtain ⟨u0, u1, u2', u3, v0, v1, v2, v3⟩ := HC.out V (Below.refl _ _)
  have HBr : Box (Below V.heap.size V V) := ⟨Below.refl _ _⟩
  have hbr := HBr.out
  by_cases hxx : x1 = x2
  · subst hxx
    have hxd : decide (x1 = x1) = true := by simp
    rw [hxd] at HR
    have hxb : (x1 == x1) = true := by simp
    clear hxd
    generalize decide (z1 = y1) = p1 at H1 HR
    generalize decide (z2 = y2) = p2 at H2 HR
    generalize decide (z3 = y3) = p3 at H3 HR
    cases p1
    · go_wp2_with (first
        | (go_at_call 40; (with_reducible refine (H1.out _ (by first | exact Below.refl _ _ | assumption)).mono ?_); rintro e w1 ⟨rfl, hb⟩; have hb1 := below_step (w := V) (by first | exact Below.refl _ _ | assumption) hb; obtain ⟨x10, x11, x12, x13, y10, y11, y12, y13⟩ := HC.out _ hb1; clear hb)
        | (go_at_call 40; (with_reducible refine (H2.out _ (by first | exact Below.refl _ _ | assumption)).mono ?_); rintro e w2 ⟨rfl, hb⟩; have hb2 := below_step (w := V) (by first | exact Below.refl _ _ | assumption) hb; obtain ⟨x20, x21, x22, x23, y20, y21, y22, y23⟩ := HC.out _ hb2; clear hb)
        | (go_at_call 40; (with_reducible refine (H3.out _ (by first | exact Below.refl _ _ | assumption)).mono ?_); rintro e w3 ⟨rfl, hb⟩; have hb3 := below_step (w := V) (by first | exact Below.refl _ _ | assumption) hb; obtain ⟨x30, x31, x32, x33, y30, y31, y32, y33⟩ := HC.out _ hb3; clear hb))
      go_ret
      exact ⟨by rw [HR.out]; rfl, HBW.out _ (by assumption)⟩
    cases p2
    · go_wp2_with (first
        | (go_at_call 40; (with_reducible refine (H1.out _ (by first | exact Below.refl _ _ | assumption)).mono ?_); rintro e w1 ⟨rfl, hb⟩; have hb1 := below_step (w := V) (by first | exact Below.refl _ _ | assumption) hb; obtain ⟨x10, x11, x12, x13, y10, y11, y12, y13⟩ := HC.out _ hb1; clear hb)
        | (go_at_call 40; (with_reducible refine (H2.out _ (by first | exact Below.refl _ _ | assumption)).mono ?_); rintro e w2 ⟨rfl, hb⟩; have hb2 := below_step (w := V) (by first | exact Below.refl _ _ | assumption) hb; obtain ⟨x20, x21, x22, x23, y20, y21, y22, y23⟩ := HC.out _ hb2; clear hb)
        | (go_at_call 40; (with_reducible refine (H3.out _ (by first | exact Below.refl _ _ | assumption)).mono ?_); rintro e w3 ⟨rfl, hb⟩; have hb3 := below_step (w := V) (by first | exact Below.refl _ _ | assumption) hb; obtain ⟨x30, x31, x32, x33, y30, y31, y32, y33⟩ := HC.out _ hb3; clear hb))
      go_ret
      exact ⟨by rw [HR.out]; rfl, HBW.out _ (by assumption)⟩
    · go_wp2_with (first
        | (go_at_call 40; (with_reducible refine (H1.out _ (by first | exact Below.refl _ _ | assumption)).mono ?_); rintro e w1 ⟨rfl, hb⟩; have hb1 := below_step (w := V) (by first | exact Below.refl _ _ | assumption) hb; obtain ⟨x10, x11, x12, x13, y10, y11, y12, y13⟩ := HC.out _ hb1; clear hb)
        | (go_at_call 40; (with_reducible refine (H2.out _ (by first | exact Below.refl _ _ | assumption)).mono ?_); rintro e w2 ⟨rfl, hb⟩; have hb2 := below_step (w := V) (by first | exact Below.refl _ _ | assumption) hb; obtain ⟨x20, x21, x22, x23, y20, y21, y22, y23⟩ := HC.out _ hb2; clear hb)
        | (go_at_call 40; (with_reducible refine (H3.out _ (by first | exact Below.refl _ _ | assumption)).mono ?_); rintro e w3 ⟨rfl, hb⟩; have hb3 := below_step (w := V) (by first | exact Below.refl _ _ | assumption) hb; obtain ⟨x30, x31, x32, x33, y30, y31, y32, y33⟩ := HC.out _ hb3; clear hb))
      go_ret
      exact ⟨by rw [HR.out]; rfl, HBW.out _ (by assumption)⟩
  · have hxd : decide (x1 = x2) = false := by simp [hxx]
    rw [hxd] at HR
    have hxb : (x1 == x2) = false := by simp [hxx]
    clear hxd
    go_wp2
    go_ret
    exact ⟨by rw [HR.out]; rfl, HBW.out _ hbr⟩

end Go.Proofs.YtimeodjfihpgeaaDoor

