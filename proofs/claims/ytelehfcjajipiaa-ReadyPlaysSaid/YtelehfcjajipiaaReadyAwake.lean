/-
  The law's own first look ('awake') holds: it answers true, whatever the world.
-/
import Derived.Test.YtelehfcjajipiaaReadyP
namespace Go.Proofs.Ytelehfcjajipiaa
open Go.RowKit

def aw0 : Nat → List Int := fun _ => []
def aw1 : Nat → List Int := come aw0 3 5
def aw2 : Nat → List Int := come aw1 1 5
def aw3 : Nat → List Int := come aw2 2 4
theorem aw_f : firstV aw3 = .tuple #[.int .i64 2, .int .i64 4, .int .i64 0] := by kernel_rfl
theorem aw_c : comeC aw3 1 9 = 7 := by kernel_rfl
theorem aw_r : come aw3 1 9 = aw3 := by unfold come; rw [if_neg (by rw [aw_c]; decide)]
theorem aw_g : goC aw3 9 = 6 := by kernel_rfl
theorem aw_a : allQ aw3 = [2, 3, 1] := by kernel_rfl
theorem aw_l3 : ∀ i, (aw3 i).length ≤ 3 := come_len (come_len (come_len (n := 0) (fun _ => Nat.le_refl _) _ _) _ _) _ _

set_option maxHeartbeats 2000000 in
theorem awake_any (w : World) :
    Calls Try.prog 8 #[] w fun e w' => e = .returned (.bool true) ∧ Below w.heap.size w w' := by
  go_enter Try.func8, Try.ntmps8
  go_wp2_with fail
  refine (new_st w _ (Below.refl _ _)).mono ?_
  rintro e w1 ⟨rfl, h1⟩
  have H1 := Lib.hid h1
  clear h1
  go_wp2_with fail
  refine (come_st w _ aw0 3 5 _ H1.out (fun _ => by simp [aw0])).mono ?_
  rintro e w2 ⟨rfl, h2⟩
  have H2 : Hid (QSt w w2 w.heap.size aw1) := h2
  clear h2
  go_wp2_with fail
  refine (come_st w _ aw1 1 5 _ H2.out (fun i => Nat.le_trans (come_len (n := 0) (fun _ => Nat.le_refl _) _ _ i) (by decide))).mono ?_
  rintro e w3 ⟨rfl, h3⟩
  have H3 : Hid (QSt w w3 w.heap.size aw2) := h3
  clear h3
  go_wp2_with fail
  refine (come_st w _ aw2 2 4 _ H3.out (fun i => Nat.le_trans (come_len (come_len (n := 0) (fun _ => Nat.le_refl _) _ _) _ _ i) (by decide))).mono ?_
  rintro e w4 ⟨rfl, h4⟩
  have H4 : Hid (QSt w w4 w.heap.size aw3) := h4
  clear h4
  go_wp2_with fail
  refine (first_st w _ aw3 _ H4.out).mono ?_
  rw [aw_f]
  rintro e w5 ⟨rfl, rfl⟩
  go_wp2_with fail
  refine (allF w _ aw3 _ H4.out (fun i => Nat.le_trans (aw_l3 i) (by decide))).mono ?_
  rw [aw_a]
  rintro e w6 ⟨ao, cap, F, rfl, ho6, h6, hF6, hw6, hb6⟩
  have H6 := Lib.hid h6
  have HF := Lib.hid hF6
  have HW := Lib.hid hw6
  have HR := Lib.hid (RowAt.of_owns ho6)
  have hlt6 : ∀ g, (Value.slice ao 3 cap).ownBlock = some g → g < w6.heap.size ∧ w4.heap.size ≤ g := fun g e => ⟨(ownsRow_lt ho6 e).2, (ownsRow_lt ho6 e).1⟩
  have HLt := Lib.hid hlt6
  clear h6 ho6 hb6 hlt6 hF6 hw6
  obtain ⟨_, hrow⟩ := HR.out
  rcases hrow with ⟨_, h0⟩ | ⟨b, off, cap', hv, _, _, hg, hb, hc⟩
  · simp at h0
  · injection hv with hv1 hv2 hv3
    subst hv1
    subst hv3
    have c1 : w6.cell? ⟨b, off + 1, none⟩ = some (.int .i64 3) := hc 1 _ rfl
    have c2 : w6.cell? ⟨b, off + 2, none⟩ = some (.int .i64 1) := hc 2 _ rfl
    have hbF : ¬ F b := fun hF => by
      have := (HLt.out b hg).2
      have := (HF.out b hF).2
      omega
    clear hc hg
    go_wp2_with fail
    refine (comeF w _ aw3 1 9 _ F H6.out (fun k hk => (HF.out k hk).1) HW.out (fun i => Nat.le_trans (aw_l3 i) (by decide))).mono ?_
    rw [aw_c, aw_r]
    rintro e w7 ⟨rfl, h7, hf7⟩
    have H7 := Lib.hid h7
    have d1 : w7.cell? ⟨b, off + 1, none⟩ = some (.int .i64 3) := (hf7.cell hb hbF).trans c1
    have d2 : w7.cell? ⟨b, off + 2, none⟩ = some (.int .i64 1) := (hf7.cell hb hbF).trans c2
    clear h7 hf7
    go_wp2_with (go_at_call 12; refine (go_st w _ aw3 9 _ H7.out).mono ?_; rw [aw_g]; rintro e w8 ⟨rfl, h8⟩)
    go_ret
    exact ⟨rfl, h8.below⟩

end Go.Proofs.Ytelehfcjajipiaa
