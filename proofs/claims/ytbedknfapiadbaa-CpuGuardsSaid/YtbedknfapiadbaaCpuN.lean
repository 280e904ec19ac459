/-
  The walks of spor's New and of cpu's New, where all may be.
-/
import Derived.Test.YtbedknfapiadbaaCpuM
import Derived.Test.YtbedknfapiadbaaRtaEc
namespace Go.Proofs.Ytbedknfapiadbaa
open Go.RowKit

set_option maxHeartbeats 2000000 in
theorem sporNew_any (s : ServM) (w : World) (hs : s.may = true) :
    Calls Try.prog 28 #[.agg #[.int .i64 s.budget, .int .u64 s.period]] w fun e w' => ∃ b, e = .returned (.tuple #[.pointer (some ⟨b, 0, none⟩), .int .i64 0]) ∧ w.heap.size ≤ b ∧
      w'.heap[b]? = some (.cells #[.int .i64 s.budget, .int .u64 s.period, .slice none 0 0, .int .u64 (0 : Nat)] 94 (0, 0)) ∧ Below w.heap.size w w' := by
  go_enter Try.func28, Try.ntmps28
  go_upto_region 3 with (go_at_call 40; refine (sporMay_any s _).mono ?_; rw [hs]; rintro e w1 ⟨rfl, hb1⟩)
  have hbx := blk_new w (.cells #[.int .i64 s.budget, .int .u64 s.period] 41)
  have e0 := (hb1.cell (p := ⟨w.heap.size, 0, none⟩) (by simp)).trans (cell_blk hbx 0)
  have e1 := (hb1.cell (p := ⟨w.heap.size, 1, none⟩) (by simp)).trans (cell_blk hbx 1)
  simp only [List.getElem?_toArray, List.getElem?_cons_zero, List.getElem?_cons_succ] at e0 e1
  have HB := Box.mk (((Below.refl w.heap.size w).alloc (Nat.le_refl _) (.cells #[.int .i64 s.budget, .int .u64 s.period] 41)).trans (hb1.mono (by simp)))
  clear hb1 hbx
  go_wp2
  go_ret2
  exact ⟨w1.heap.size, rfl, HB.out.size, blk_new _ _, HB.out.alloc HB.out.size _⟩

end Go.Proofs.Ytbedknfapiadbaa
