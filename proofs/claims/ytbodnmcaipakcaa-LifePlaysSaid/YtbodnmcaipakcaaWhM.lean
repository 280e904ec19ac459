/-
  Go where it tells no timer: a time out of bounds, a time that is past.
-/
import Derived.Test.YtbodnmcaipakcaaWhL
namespace Go.Proofs.Ytbodnmcaipakcaa
open Go.RowKit Go.ChangeMaps Go.MapKept

theorem may_wh (t : Nat) (ht : t ≤ 18446744073709551615) (w : World) : Calls Try.prog 23 #[.int .u64 t] w fun e w' => e = .returned (.bool (decide ((t : Int) < 4611686018427387904))) ∧ w = w' := by
  go_enter Try.func23, Try.ntmps23
  go_wp2
  go_ret
  exact ⟨rfl, rfl⟩
theorem wgo_big (p t : Nat) (w : World) (ht : t ≤ 18446744073709551615) (hb : 4611686018427387904 ≤ t) :
    Calls Try.prog 28 #[.pointer (some ⟨p, 0, none⟩), .int .u64 t] w fun e w' => e = .returned (.tuple #[.slice none 0 0, .int .i64 2]) ∧ w = w' := by
  have hm := may_wh t ht w
  rw [show decide ((t : Int) < 4611686018427387904) = false from decide_eq_false (by omega)] at hm
  have HM := Box.mk hm
  clear hm
  go_enter Try.func28, Try.ntmps28
  go_wp2_with (go_at_call 23; (with_reducible refine HM.out.mono ?_); rintro e w1 ⟨rfl, rfl⟩)
  go_ret2
  exact ⟨rfl, rfl⟩
theorem wgo_past (p t : Nat) (M : WM) (F : Nat → Prop) (w : World) (h : WAt w p M F) (ht : t < M.now) :
    Calls Try.prog 28 #[.pointer (some ⟨p, 0, none⟩), .int .u64 t] w fun e w' => e = .returned (.tuple #[.slice none 0 0, .int .i64 1]) ∧ w = w' := by
  obtain ⟨ab, rb, h⟩ := h
  have htm := h.time
  have c257 := (cell_blk h.blk 257).trans wcells_now
  have hm := may_wh t (by omega) w
  rw [show decide ((t : Int) < 4611686018427387904) = true from decide_eq_true (by omega)] at hm
  have HM := Box.mk hm
  obtain ⟨now, hnow⟩ : ∃ now, M.now = now := ⟨_, rfl⟩
  rw [hnow] at c257 htm ht
  have hlt : (t : Int) < (now : Int) := by omega
  clear hm h hnow
  go_enter Try.func28, Try.ntmps28
  go_wp2_with (go_at_call 23; (with_reducible refine HM.out.mono ?_); rintro e w1 ⟨rfl, rfl⟩)
  go_ret2
  exact ⟨rfl, rfl⟩

end Go.Proofs.Ytbodnmcaipakcaa
