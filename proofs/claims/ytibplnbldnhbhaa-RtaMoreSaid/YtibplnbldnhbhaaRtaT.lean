/-
  More contracts with their answers decided; a load in a block of its own.
-/
import Derived.Test.YtibplnbldnhbhaaRtaS
import Derived.Test.YtibplnbldnhbhaaRtaN
import Derived.Test.YtibplnbldnhbhaaArgsB
namespace Go.Proofs.Ytibplnbldnhbhaa
open Go.RowKit

theorem Small_x (ao : Option Addr) (cap n : Nat) (ts : List WorkM) (hn : ts.length = n) (bo : Option Addr) (cap2 m : Nat) (w : World) (h : TasksAt w ao ts) (v : Bool) (hv : smallM ts m = v) :
    Calls Try.prog 10 #[.slice ao n cap, .slice bo m cap2] w fun e w' => e = .returned (.bool v) ∧ w = w' := by
  subst hv; exact Small_n ao cap n ts hn bo cap2 m w h
theorem Tasks_x (ao : Option Addr) (cap n : Nat) (ts : List WorkM) (hn : ts.length = n) (w : World) (h : TasksAt w ao ts) (v : Bool) (hv : okTasks ts = v) :
    Calls Try.prog 11 #[.slice ao n cap] w fun e w' => e = .returned (.bool v) ∧ Below w.heap.size w w' := by
  subst hv; exact Tasks_n ao cap n ts hn w h
theorem Loads_x (ao : Option Addr) (cap n : Nat) (ls : List ServM) (hn : ls.length = n) (w : World) (h : LoadsAt w ao ls) (v : Bool) (hv : okLoads ls = v) :
    Calls Try.prog 12 #[.slice ao n cap] w fun e w' => e = .returned (.bool v) ∧ Below w.heap.size w w' := by
  subst hv; exact Loads_n ao cap n ls hn w h

/-- A load in a block of its own. -/
def BS (w : World) (p : Nat) (a : ServM) : Prop := p < w.heap.size ∧ w.cell? ⟨p, 0, none⟩ = some (.int .i64 a.budget) ∧ w.cell? ⟨p, 1, none⟩ = some (.int .u64 a.period)
theorem BS.later {w w' : World} {p : Nat} {a : ServM} (h : BS w p a) (hb : Below w.heap.size w w') : BS w' p a := by
  obtain ⟨h0, c0, c1⟩ := h
  exact ⟨Nat.lt_of_lt_of_le h0 hb.size, (hb.cell (p := ⟨p, 0, none⟩) h0).trans c0, (hb.cell (p := ⟨p, 1, none⟩) h0).trans c1⟩
abbrev scells (a : ServM) : Array Value := #[.int .i64 a.budget, .int .u64 a.period]
theorem BS.new (w : World) (a : ServM) (T : TypeId) : BS (w.alloc (.cells (scells a) T)) w.heap.size a := by
  have h := blk_new w (.cells (scells a) T)
  exact ⟨lt_blk h, cell_blk h 0, cell_blk h 1⟩

/-- A task and a load, and a span, in a law's argument. -/
abbrev moreV (t : WorkM) (s : ServM) (p : Nat) : Value := .agg #[.int .i64 t.prio, .int .u64 t.cost, .int .u64 t.period, .int .u64 t.dead, .int .i64 s.budget, .int .u64 s.period, .int .u64 p]
theorem more_of {f : Nat → Int} (h : ∀ (j : Nat) (k : IntKind), ([.i64, .u64, .u64, .u64, .i64, .u64, .u64] : List IntKind)[j]? = some k → (Lit.int k (f j)).wf = true) :
    ∃ (a : WorkM) (s : ServM) (p : Nat), Value.agg ((([.i64, .u64, .u64, .u64, .i64, .u64, .u64] : List IntKind).zipIdx.map (fun x => Value.int x.1 (f x.2))).toArray) = moreV a s p := by
  have u1 := u64_wf (h 1 .u64 rfl)
  have u2 := u64_wf (h 2 .u64 rfl)
  have u3 := u64_wf (h 3 .u64 rfl)
  have u5 := u64_wf (h 5 .u64 rfl)
  have u6 := u64_wf (h 6 .u64 rfl)
  refine ⟨⟨f 0, (f 1).toNat, (f 2).toNat, (f 3).toNat⟩, ⟨f 4, (f 5).toNat⟩, (f 6).toNat, ?_⟩
  simp only [moreV, Int.toNat_of_nonneg u1, Int.toNat_of_nonneg u2, Int.toNat_of_nonneg u3, Int.toNat_of_nonneg u5, Int.toNat_of_nonneg u6]
  rfl

/-- With more tasks, or loads, an answer time is there only where it was, and is no less. -/
theorem TimeM_some {ts : List WorkM} {ls : List ServM} {i R : Nat} (h : TimeM ts ls i = some R) : timeM ts ls i = some R ∧ i < ts.length := by
  unfold TimeM at h
  split at h
  · rename_i hc
    simp at hc
    exact ⟨by simpa using h, by omega⟩
  · cases h
theorem TimeM_in {ts : List WorkM} {ls : List ServM} {i : Nat} (h1 : okTasks ts = true) (h2 : okLoads ls = true) (hi : i < ts.length) : TimeM ts ls i = timeM ts ls i := by
  unfold TimeM
  rw [if_pos (by simp [h1, h2, hi])]
  simp
theorem more_time {ts : List WorkM} {ls : List ServM} {t : WorkM} {i b : Nat} (h1 : okTasks ts = true) (h2 : okLoads ls = true) (hi : i < ts.length) (h : TimeM (ts ++ [t]) ls i = some b) : ∃ a, TimeM ts ls i = some a ∧ a ≤ b := by
  rw [TimeM_in h1 h2 hi]
  exact time_mono (by rw [wk_snoc hi]; exact Nat.le_refl _) (by rw [wk_snoc hi]; exact Nat.le_refl _) (fun s => wanted_more hi) (TimeM_some h).1
theorem load_time {ts : List WorkM} {ls : List ServM} {s : ServM} {i b : Nat} (h1 : okTasks ts = true) (h2 : okLoads ls = true) (hi : i < ts.length) (h : TimeM ts (ls ++ [s]) i = some b) : ∃ a, TimeM ts ls i = some a ∧ a ≤ b := by
  rw [TimeM_in h1 h2 hi]
  exact time_mono (Nat.le_refl _) (Nat.le_refl _) (fun s => wanted_load) (TimeM_some h).1
theorem time_bds {ts : List WorkM} {ls : List ServM} {i a : Nat} (h : TimeM ts ls i = some a) : (wk ts i).cost ≤ a ∧ a ≤ (wk ts i).dead ∧ wanted ts ls i a = a := by
  have h2 := isTime ts ls i
  rw [(TimeM_some h).1] at h2
  exact ⟨h2.1, h2.2.1, h2.2.2.1⟩

/-! The same where the law has just built the slice. -/
theorem Small_new1 (t : WorkM) (v : Bool) (hv : smallM [t] 0 = v) (w : World) :
    Calls Try.prog 10 #[.slice (some ⟨w.heap.size, 0, none⟩) 1 1, .slice none 0 0] (w.alloc (.cells #[.int .i64 t.prio, .int .u64 t.cost, .int .u64 t.period, .int .u64 t.dead] 26)) fun e w' => e = .returned (.bool v) ∧ Below w.heap.size w w' :=
  (Small_x (some ⟨w.heap.size, 0, none⟩) 1 1 [t] rfl none 0 0 _ (TasksAt.blk (blk_new w (.cells #[.int .i64 t.prio, .int .u64 t.cost, .int .u64 t.period, .int .u64 t.dead] 26)) rfl (by simp)) v hv).mono fun e w' h => ⟨h.1, h.2 ▸ (Below.refl _ _).alloc (Nat.le_refl _) _⟩
theorem Small_new2 (t u : WorkM) (v : Bool) (hv : smallM [t, u] 0 = v) (w : World) :
    Calls Try.prog 10 #[.slice (some ⟨w.heap.size, 0, none⟩) 2 2, .slice none 0 0] (w.alloc (.cells #[.int .i64 t.prio, .int .u64 t.cost, .int .u64 t.period, .int .u64 t.dead, .int .i64 u.prio, .int .u64 u.cost, .int .u64 u.period, .int .u64 u.dead] 26)) fun e w' => e = .returned (.bool v) ∧ Below w.heap.size w w' :=
  (Small_x (some ⟨w.heap.size, 0, none⟩) 2 2 [t, u] rfl none 0 0 _ (TasksAt.blk (blk_new w (.cells #[.int .i64 t.prio, .int .u64 t.cost, .int .u64 t.period, .int .u64 t.dead, .int .i64 u.prio, .int .u64 u.cost, .int .u64 u.period, .int .u64 u.dead] 26)) rfl (by simp)) v hv).mono fun e w' h => ⟨h.1, h.2 ▸ (Below.refl _ _).alloc (Nat.le_refl _) _⟩
theorem Loads_new1 (s : ServM) (v : Bool) (hv : okLoads [s] = v) (w : World) :
    Calls Try.prog 12 #[.slice (some ⟨w.heap.size, 0, none⟩) 1 1] (w.alloc (.cells #[.int .i64 s.budget, .int .u64 s.period] 28)) fun e w' => e = .returned (.bool v) ∧ Below w.heap.size w w' :=
  (Loads_x (some ⟨w.heap.size, 0, none⟩) 1 1 [s] rfl _ (LoadsAt.blk (blk_new w (.cells #[.int .i64 s.budget, .int .u64 s.period] 28)) rfl (by simp)) v hv).mono fun e w' h => ⟨h.1, ((Below.refl _ _).alloc (Nat.le_refl _) _).trans (h.2.mono (by simp))⟩
theorem Time_new1 (t : WorkM) (R : Nat) (hR : TimeM [t] [] 0 = some R) (w : World) :
    Calls Try.prog 14 #[.slice (some ⟨w.heap.size, 0, none⟩) 1 1, .slice none 0 0, .int .i64 0] (w.alloc (.cells #[.int .i64 t.prio, .int .u64 t.cost, .int .u64 t.period, .int .u64 t.dead] 26)) fun e w' => e = .returned (.tuple #[.int .u64 R, .bool true]) ∧ Below w.heap.size w w' :=
  (Time_x (some ⟨w.heap.size, 0, none⟩) 1 1 [t] rfl none 0 0 [] rfl _ (TasksAt.blk (blk_new w (.cells #[.int .i64 t.prio, .int .u64 t.cost, .int .u64 t.period, .int .u64 t.dead] 26)) rfl (by simp)) (LoadsAt.none _) 0 R hR).mono fun e w' h => ⟨h.1, ((Below.refl _ _).alloc (Nat.le_refl _) _).trans (h.2.mono (by simp))⟩
theorem Time_new2 (t u : WorkM) (R : Nat) (hR : TimeM [t, u] [] 0 = some R) (w : World) :
    Calls Try.prog 14 #[.slice (some ⟨w.heap.size, 0, none⟩) 2 2, .slice none 0 0, .int .i64 0] (w.alloc (.cells #[.int .i64 t.prio, .int .u64 t.cost, .int .u64 t.period, .int .u64 t.dead, .int .i64 u.prio, .int .u64 u.cost, .int .u64 u.period, .int .u64 u.dead] 26)) fun e w' => e = .returned (.tuple #[.int .u64 R, .bool true]) ∧ Below w.heap.size w w' :=
  (Time_x (some ⟨w.heap.size, 0, none⟩) 2 2 [t, u] rfl none 0 0 [] rfl _ (TasksAt.blk (blk_new w (.cells #[.int .i64 t.prio, .int .u64 t.cost, .int .u64 t.period, .int .u64 t.dead, .int .i64 u.prio, .int .u64 u.cost, .int .u64 u.period, .int .u64 u.dead] 26)) rfl (by simp)) (LoadsAt.none _) 0 R hR).mono fun e w' h => ⟨h.1, ((Below.refl _ _).alloc (Nat.le_refl _) _).trans (h.2.mono (by simp))⟩
theorem Time_new2n (t u : WorkM) (hR : TimeM [t, u] [] 0 = none) (w : World) :
    Calls Try.prog 14 #[.slice (some ⟨w.heap.size, 0, none⟩) 2 2, .slice none 0 0, .int .i64 0] (w.alloc (.cells #[.int .i64 t.prio, .int .u64 t.cost, .int .u64 t.period, .int .u64 t.dead, .int .i64 u.prio, .int .u64 u.cost, .int .u64 u.period, .int .u64 u.dead] 26)) fun e w' => e = .returned (.tuple #[.int .u64 0, .bool false]) ∧ Below w.heap.size w w' :=
  (Time_y (some ⟨w.heap.size, 0, none⟩) 2 2 [t, u] rfl none 0 0 [] rfl _ (TasksAt.blk (blk_new w (.cells #[.int .i64 t.prio, .int .u64 t.cost, .int .u64 t.period, .int .u64 t.dead, .int .i64 u.prio, .int .u64 u.cost, .int .u64 u.period, .int .u64 u.dead] 26)) rfl (by simp)) (LoadsAt.none _) 0 hR).mono fun e w' h => ⟨h.1, ((Below.refl _ _).alloc (Nat.le_refl _) _).trans (h.2.mono (by simp))⟩
theorem Admit_none (t : WorkM) (v : Bool) (hv : allM ([] ++ [t]) [] = v) (w : World) :
    Calls Try.prog 17 #[.slice none 0 0, .slice none 0 0, .agg #[.int .i64 t.prio, .int .u64 t.cost, .int .u64 t.period, .int .u64 t.dead]] w fun e w' => e = .returned (.bool v) ∧ Below w.heap.size w w' :=
  Admit_x none 0 0 [] rfl none 0 0 [] rfl w (TasksAt.none _) (LoadsAt.none _) t (by simp) v hv

end Go.Proofs.Ytibplnbldnhbhaa
