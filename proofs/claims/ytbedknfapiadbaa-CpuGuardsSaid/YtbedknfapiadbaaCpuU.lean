/-
  For the laws of a processor: arguments, the documents' guards, a block of the law's own that is written.
-/
import Derived.Test.YtbedknfapiadbaaCpuS
import Derived.Test.YtbedknfapiadbaaRtaFc
import Derived.Test.YtbedknfapiadbaaArgsS
import Derived.Laws.MakeOwn
namespace Go.Proofs.Ytbedknfapiadbaa
open Go.RowKit

theorem u64_wf {z : Int} (h : (Lit.int .u64 z).wf = true) : 0 ≤ z := by
  simp [Lit.wf, IntKind.min, IntKind.max, IntKind.signed, IntKind.bits] at h
  omega

def argTasks (n : Nat) (f : Nat → Nat → Int) : List WorkM := (List.range n).map (fun i => ⟨f i 0, (f i 1).toNat, (f i 2).toNat, (f i 3).toNat⟩)
def argLoads (n : Nat) (f : Nat → Nat → Int) : List ServM := (List.range n).map (fun i => ⟨f i 0, (f i 1).toNat⟩)
theorem argTasks_len (n : Nat) (f : Nat → Nat → Int) : (argTasks n f).length = n := by simp [argTasks]
theorem argLoads_len (n : Nat) (f : Nat → Nat → Int) : (argLoads n f).length = n := by simp [argLoads]
theorem argTasks_get {n : Nat} {f : Nat → Nat → Int} {i : Nat} (h : i < n) : wk (argTasks n f) i = ⟨f i 0, (f i 1).toNat, (f i 2).toNat, (f i 3).toNat⟩ := by
  rw [wk_in (by rw [argTasks_len]; exact h)]
  simp [argTasks]
theorem argLoads_get {n : Nat} {f : Nat → Nat → Int} {i : Nat} (h : i < n) : sv (argLoads n f) i = ⟨f i 0, (f i 1).toNat⟩ := by
  rw [sv_in (by rw [argLoads_len]; exact h)]
  simp [argLoads]

theorem tasks_of_arg {w : World} {a : Option Addr} {n : Nat} {f : Nat → Nat → Int} (h : ArgStructs [.i64, .u64, .u64, .u64] w a n f) : ∃ ts, ts.length = n ∧ TasksAt w a ts := by
  obtain ⟨h1, hw, h2⟩ := h
  refine ⟨argTasks n f, argTasks_len n f, by rw [argTasks_len]; exact h1, fun hn => ?_⟩
  rw [argTasks_len] at hn
  obtain ⟨b, off, e, hb, hc⟩ := h2 hn
  refine ⟨b, off, e, hb, fun i hi => ?_⟩
  rw [argTasks_len] at hi
  rw [argTasks_get hi]
  have u1 := u64_wf (hw i hi 1 .u64 rfl)
  have u2 := u64_wf (hw i hi 2 .u64 rfl)
  have u3 := u64_wf (hw i hi 3 .u64 rfl)
  simp only [Int.toNat_of_nonneg u1, Int.toNat_of_nonneg u2, Int.toNat_of_nonneg u3]
  exact ⟨hc i hi 0 .i64 rfl, hc i hi 1 .u64 rfl, hc i hi 2 .u64 rfl, hc i hi 3 .u64 rfl⟩
theorem loads_of_arg {w : World} {a : Option Addr} {n : Nat} {f : Nat → Nat → Int} (h : ArgStructs [.i64, .u64] w a n f) : ∃ ls, ls.length = n ∧ LoadsAt w a ls := by
  obtain ⟨h1, hw, h2⟩ := h
  refine ⟨argLoads n f, argLoads_len n f, by rw [argLoads_len]; exact h1, fun hn => ?_⟩
  rw [argLoads_len] at hn
  obtain ⟨b, off, e, hb, hc⟩ := h2 hn
  refine ⟨b, off, e, hb, fun i hi => ?_⟩
  rw [argLoads_len] at hi
  rw [argLoads_get hi]
  have u1 := u64_wf (hw i hi 1 .u64 rfl)
  simp only [Int.toNat_of_nonneg u1]
  exact ⟨hc i hi 0 .i64 rfl, hc i hi 1 .u64 rfl⟩


theorem Tasks_n (ao : Option Addr) (cap n : Nat) (ts : List WorkM) (hn : ts.length = n) (w : World) (h : TasksAt w ao ts) :
    Calls Try.prog 23 #[.slice ao n cap] w fun e w' => e = .returned (.bool (okTasks ts)) ∧ Below w.heap.size w w' := by
  subst hn; exact refTasks_any ao cap ts w h
theorem Loads_n (ao : Option Addr) (cap n : Nat) (ls : List ServM) (hn : ls.length = n) (w : World) (h : LoadsAt w ao ls) :
    Calls Try.prog 10 #[.slice ao n cap] w fun e w' => e = .returned (.bool (okLoads ls)) ∧ Below w.heap.size w w' := by
  subst hn; exact refLoads_any ao cap ls w h

set_option maxHeartbeats 1000000 in
theorem may17_all (ao : Option Addr) (n cap : Nat) (ts : List WorkM) (hn : ts.length = n) (bo : Option Addr) (m cap2 : Nat) (ls : List ServM) (hm : ls.length = m) (w : World) (hT : TasksAt w ao ts) (hL : LoadsAt w bo ls) :
    Calls Try.prog 16 #[.slice ao n cap, .slice bo m cap2] w fun e w' => e = .returned (.bool (okTasks ts && okLoads ls)) ∧ Below w.heap.size w w' := by
  have hq := Tasks_n ao cap n ts hn w hT
  have HL : Box (∀ w', Below w.heap.size w w' → Calls Try.prog 10 #[.slice bo m cap2] w' fun e w'' => e = .returned (.bool (okLoads ls)) ∧ Below w'.heap.size w' w'') := ⟨fun w' hb => Loads_n bo cap2 m ls hm w' (hL.later hb)⟩
  cases ht : okTasks ts with
  | false =>
    rw [ht] at hq
    have HQ := Box.mk hq
    clear hq ht hT hL HL
    go_enter Try.func16, Try.ntmps16
    go_wp2_with (go_at_call 23; refine HQ.out.mono ?_; rintro e w1 ⟨rfl, hb1⟩)
    go_ret
    exact ⟨rfl, hb1⟩
  | true =>
    rw [ht] at hq
    have HQ := Box.mk hq
    clear hq ht hT hL
    go_enter Try.func16, Try.ntmps16
    go_wp2_with (first
      | (go_at_call 23; refine HQ.out.mono ?_; rintro e w1 ⟨rfl, hb1⟩)
      | (go_at_call 10; refine (HL.out _ hb1).mono ?_; rintro e w2 ⟨rfl, hb2⟩))
    go_ret
    exact ⟨rfl, hb1.trans (hb2.mono hb1.size)⟩

theorem CSt.set {w0 w : World} {c : Nat} {M : CpuM} {X : List (Nat × Obj)} {B : Nat} {vs : Array Value} {T : TypeId} (h : CSt w0 w c M ((B, .cells vs T (0, 0)) :: X)) (hB : w0.heap.size ≤ B) (hX : ∀ p ∈ X, p.1 ≠ B) (i : Nat) (v : Value) :
    CSt w0 (w.setCell ⟨B, i, none⟩ v) c M ((B, .cells (vs.setIfInBounds i v) T (0, 0)) :: X) := by
  obtain ⟨y, h1, h2, h3, h4, h5⟩ := h
  have hf : Fr (fun k => k = B) w (w.setCell ⟨B, i, none⟩ v) := Fr.setCell (F := fun k => k = B) (Fr.refl _ w) (p := ⟨B, i, none⟩) (.inl rfl) v
  obtain ⟨hb, ho⟩ := h5 _ (List.mem_cons_self ..)
  refine ⟨y, h1, h2.fr hf (fun k hk e => hk (e ▸ ho)), h3, h4.trans (hf.below h4.size (fun k _ e => by omega)), fun p hp => ?_⟩
  rcases List.mem_cons.1 hp with rfl | hp
  · exact ⟨blk_set hb v, ho⟩
  · exact ⟨hf.blk (h5 p (List.mem_cons_of_mem _ hp)).1 (hX p hp), (h5 p (List.mem_cons_of_mem _ hp)).2⟩

/-- The numbers of a row, as it lies. -/
def rowV (k : IntKind) (l : List Int) : Array Value := (l.map (fun z => Value.int k z)).toArray
theorem rowV_get {k : IntKind} {l : List Int} {i : Nat} (h : i < l.length) : (rowV k l)[i]? = some (.int k (zv l i)) := by
  simp [rowV, zv, h]
theorem rowV_set (k : IntKind) (l : List Int) (i : Nat) (v : Int) : (rowV k l).setIfInBounds i (.int k v) = rowV k (l.set i v) := by
  simp [rowV, List.map_set]
theorem made_row (k : IntKind) (n : Nat) : madeCells (Value.int k 0).cells (n * 1) = rowV k (List.replicate n 0) := by
  have hc : (Value.int k 0).cells = #[Value.int k 0] := by simp [Value.cells]
  rw [hc]
  apply Array.ext
  · simp [madeCells, rowV]
  · intro i h1 h2
    simp [madeCells, rowV, Nat.mod_one]
theorem make_row {P : Program} {t e : TypeId} {k : IntKind} {i : TypeInfo} (ht : P.underlying t = some (.slice e)) (hi : P.info? e = some i) (hz : i.zero = some (.int k 0)) (hs : i.size = 1) (hb : i.bytes = 8) (n : Nat) (hn : n ≤ 1000000) (w : World) :
    (Instr.makeSlice t (.int .i64 (n : Int)) (.int .i64 (n : Int))).run P w = .ok (.slice (some ⟨w.heap.size, 0, none⟩) n n) (w.alloc (.cells (rowV k (List.replicate n 0)) e)) := by
  have hr := run_make (P := P) w t e i _ ht hi hz .i64 .i64 n n (by omega) (Int.le_refl _) (by rw [hb]; omega) (by omega)
  simp only [Int.toNat_natCast, hs] at hr
  rw [made_row] at hr
  exact hr
theorem Try.infoI : (Try.prog.info? 3).map (fun i => (i.zero, i.size, i.bytes)) = some (some (.int .i64 0), 1, 8) := by kernel_rfl
theorem Try.infoU : (Try.prog.info? 32).map (fun i => (i.zero, i.size, i.bytes)) = some (some (.int .u64 0), 1, 8) := by kernel_rfl
theorem makeInts (n : Nat) (hn : n ≤ 1000000) (w : World) : (Instr.makeSlice 34 (.int .i64 (n : Int)) (.int .i64 (n : Int))).run Try.prog w = .ok (.slice (some ⟨w.heap.size, 0, none⟩) n n) (w.alloc (.cells (rowV .i64 (List.replicate n 0)) 3)) := by
  obtain ⟨i0, hi, hz0, hz1, hz2⟩ := info_parts Try.infoI
  exact make_row Try.underlying34 hi hz0 hz1 hz2 n hn w
theorem makeU64s (n : Nat) (hn : n ≤ 1000000) (w : World) : (Instr.makeSlice 30 (.int .i64 (n : Int)) (.int .i64 (n : Int))).run Try.prog w = .ok (.slice (some ⟨w.heap.size, 0, none⟩) n n) (w.alloc (.cells (rowV .u64 (List.replicate n 0)) 32)) := by
  obtain ⟨i0, hi, hz0, hz1, hz2⟩ := info_parts Try.infoU
  exact make_row Try.underlying30 hi hz0 hz1 hz2 n hn w

end Go.Proofs.Ytbedknfapiadbaa
