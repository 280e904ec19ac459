/-
  Tasks and loads that came in.
-/
import Derived.Test.YtibplnbldnhbhaaRtaH
namespace Go.Proofs.Ytibplnbldnhbhaa
open Go.RowKit

theorem u64_wf {z : Int} (h : (Lit.int .u64 z).wf = true) : 0 ≤ z := by
  simp [Lit.wf, IntKind.min, IntKind.max, IntKind.signed, IntKind.bits] at h
  omega

def argTasks (n : Nat) (f : Nat → Nat → Int) : List WorkM := (List.range n).map (fun i => ⟨f i 0, (f i 1).toNat, (f i 2).toNat, (f i 3).toNat⟩)
def argLoads (n : Nat) (f : Nat → Nat → Int) : List ServM := (List.range n).map (fun i => ⟨f i 0, (f i 1).toNat⟩)
theorem argTasks_len (n : Nat) (f : Nat → Nat → Int) : (argTasks n f).length = n := by simp [argTasks]
theorem argLoads_len (n : Nat) (f : Nat → Nat → Int) : (argLoads n f).length = n := by simp [argLoads]
theorem argTasks_get {n : Nat} {f : Nat → Nat → Int} {i : Nat} (h : i < n) : wk (argTasks n f) i = ⟨f i 0, (f i 1).toNat, (f i 2).toNat, (f i 3).toNat⟩ := by
  rw [wk_in (by rw [argTasks_len]; exact h)]
  simp [argTasks]
theorem argLoads_get {n : Nat} {f : Nat → Nat → Int} {i : Nat} (h : i < n) : sv (argLoads n f) i = ⟨f i 0, (f i 1).toNat⟩ := by
  rw [sv_in (by rw [argLoads_len]; exact h)]
  simp [argLoads]

theorem tasks_of_arg {w : World} {a : Option Addr} {n : Nat} {f : Nat → Nat → Int} (h : ArgStructs [.i64, .u64, .u64, .u64] w a n f) : ∃ ts, ts.length = n ∧ TasksAt w a ts := by
  obtain ⟨h1, hw, h2⟩ := h
  refine ⟨argTasks n f, argTasks_len n f, by rw [argTasks_len]; exact h1, fun hn => ?_⟩
  rw [argTasks_len] at hn
  obtain ⟨b, off, e, hb, hc⟩ := h2 hn
  refine ⟨b, off, e, hb, fun i hi => ?_⟩
  rw [argTasks_len] at hi
  rw [argTasks_get hi]
  have u1 := u64_wf (hw i hi 1 .u64 rfl)
  have u2 := u64_wf (hw i hi 2 .u64 rfl)
  have u3 := u64_wf (hw i hi 3 .u64 rfl)
  simp only [Int.toNat_of_nonneg u1, Int.toNat_of_nonneg u2, Int.toNat_of_nonneg u3]
  exact ⟨hc i hi 0 .i64 rfl, hc i hi 1 .u64 rfl, hc i hi 2 .u64 rfl, hc i hi 3 .u64 rfl⟩
theorem loads_of_arg {w : World} {a : Option Addr} {n : Nat} {f : Nat → Nat → Int} (h : ArgStructs [.i64, .u64] w a n f) : ∃ ls, ls.length = n ∧ LoadsAt w a ls := by
  obtain ⟨h1, hw, h2⟩ := h
  refine ⟨argLoads n f, argLoads_len n f, by rw [argLoads_len]; exact h1, fun hn => ?_⟩
  rw [argLoads_len] at hn
  obtain ⟨b, off, e, hb, hc⟩ := h2 hn
  refine ⟨b, off, e, hb, fun i hi => ?_⟩
  rw [argLoads_len] at hi
  rw [argLoads_get hi]
  have u1 := u64_wf (hw i hi 1 .u64 rfl)
  simp only [Int.toNat_of_nonneg u1]
  exact ⟨hc i hi 0 .i64 rfl, hc i hi 1 .u64 rfl⟩

end Go.Proofs.Ytibplnbldnhbhaa
