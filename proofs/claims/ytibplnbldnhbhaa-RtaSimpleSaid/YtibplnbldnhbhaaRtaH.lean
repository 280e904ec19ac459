/-
  The contracts once more with the lengths as numbers of their own; tasks and loads that the law itself has built; the law's own first look.
-/
import Derived.Test.YtibplnbldnhbhaaRtaG
namespace Go.Proofs.Ytibplnbldnhbhaa
open Go.RowKit

section
variable (ao : Option Addr) (cap n : Nat) (ts : List WorkM) (hn : ts.length = n) (bo : Option Addr) (cap2 m : Nat) (ls : List ServM) (hm : ls.length = m) (w : World) (h : TasksAt w ao ts) (h2 : LoadsAt w bo ls)
include hn hm h h2
theorem Time_n (i : Int) : Calls Try.prog 14 #[.slice ao n cap, .slice bo m cap2, .int .i64 i] w fun e w' => e = .returned (timeV (TimeM ts ls i)) ∧ Below w.heap.size w w' := by
  subst hn; subst hm; exact Time_any ao cap ts bo cap2 ls i w h h2
theorem All_n : Calls Try.prog 18 #[.slice ao n cap, .slice bo m cap2] w fun e w' => e = .returned (.bool (allM ts ls)) ∧ Below w.heap.size w w' := by
  subst hn; subst hm; exact All_any ao cap ts bo cap2 ls w h h2
theorem Admit_n (t : WorkM) (hl : ts.length ≤ 1000000) : Calls Try.prog 17 #[.slice ao n cap, .slice bo m cap2, workV t] w fun e w' => e = .returned (.bool (allM (ts ++ [t]) ls)) ∧ Below w.heap.size w w' := by
  subst hn; subst hm; exact admit_any ao cap ts bo cap2 ls t w h h2 hl
theorem Wants_n (i s : Nat) (hs : WantOk ts ls i s) : Calls Try.prog 15 #[.slice ao n cap, .slice bo m cap2, .int .i64 i, .int .u64 s] w fun e w' => e = .returned (.int .u64 (wanted ts ls i s)) ∧ ∃ n, w' = w.drewN n := by
  subst hn; subst hm; exact wants_any ao cap ts bo cap2 ls i s w h h2 hs
end
theorem Small_n (ao : Option Addr) (cap n : Nat) (ts : List WorkM) (hn : ts.length = n) (bo : Option Addr) (cap2 m : Nat) (w : World) (h : TasksAt w ao ts) :
    Calls Try.prog 10 #[.slice ao n cap, .slice bo m cap2] w fun e w' => e = .returned (.bool (smallM ts m)) ∧ w = w' := by
  subst hn; exact small_any ao cap ts bo m cap2 w h
theorem Tasks_n (ao : Option Addr) (cap n : Nat) (ts : List WorkM) (hn : ts.length = n) (w : World) (h : TasksAt w ao ts) :
    Calls Try.prog 11 #[.slice ao n cap] w fun e w' => e = .returned (.bool (okTasks ts)) ∧ Below w.heap.size w w' := by
  subst hn; exact refTasks_any ao cap ts w h
theorem Loads_n (ao : Option Addr) (cap n : Nat) (ls : List ServM) (hn : ls.length = n) (w : World) (h : LoadsAt w ao ls) :
    Calls Try.prog 12 #[.slice ao n cap] w fun e w' => e = .returned (.bool (okLoads ls)) ∧ Below w.heap.size w w' := by
  subst hn; exact refLoads_any ao cap ls w h
theorem Extra_n (ao : Option Addr) (cap n : Nat) (ls : List ServM) (hn : ls.length = n) (s : Nat) (w : World) (h : LoadsAt w ao ls) (hok : okLoads ls = true) (hs : s ≤ 1073741824) :
    Calls Try.prog 19 #[.slice ao n cap, .int .u64 s] w fun e w' => e = .returned (.int .u64 (min s (taken ls s))) ∧ Below w.heap.size w w' := by
  subst hn; exact extra_any ao cap ls s w h hok hs

def lcells (ls : List ServM) : List Value := ls.flatMap (fun s => [.int .i64 s.budget, .int .u64 s.period])
theorem lcells_len (ls : List ServM) : (lcells ls).length = ls.length * 2 := by
  induction ls with
  | nil => rfl
  | cons t ls ih =>
    have : lcells (t :: ls) = [.int .i64 t.budget, .int .u64 t.period] ++ lcells ls := rfl
    rw [this, List.length_append, ih]
    simp
    omega
theorem lcells_get {ls : List ServM} : ∀ {i : Nat}, i < ls.length → (lcells ls)[i * 2]? = some (.int .i64 (sv ls i).budget) ∧ (lcells ls)[i * 2 + 1]? = some (.int .u64 (sv ls i).period) := by
  induction ls with
  | nil => intro i hi; simp at hi
  | cons t ls ih =>
    intro i hi
    have e : lcells (t :: ls) = [.int .i64 t.budget, .int .u64 t.period] ++ lcells ls := rfl
    cases i with
    | zero => rw [e]; exact ⟨rfl, rfl⟩
    | succ i =>
      obtain ⟨a, b⟩ := ih (i := i) (by simpa using hi)
      have hw : sv (t :: ls) (i + 1) = sv ls i := by simp [sv, List.getD]
      rw [hw, e]
      have sh : ∀ j, ([.int .i64 t.budget, .int .u64 t.period] ++ lcells ls)[(i + 1) * 2 + j]? = (lcells ls)[i * 2 + j]? := by
        intro j
        rw [List.getElem?_append_right (by simp; omega)]
        congr 1
        simp
        omega
      exact ⟨(sh 0).trans a, (sh 1).trans b⟩

/-- A block that the law has built. -/
theorem TasksAt.blk {w : World} {b : Nat} {ts : List WorkM} {cs : Array Value} {T : TypeId} (h : w.heap[b]? = some (.cells cs T (0, 0))) (e : cs.toList = wcells ts) (hn : ts.length ≤ 1000000) : TasksAt w (some ⟨b, 0, none⟩) ts := by
  refine ⟨by omega, fun _ => ⟨b, 0, rfl, lt_blk h, fun i hi => ?_⟩⟩
  obtain ⟨c0, c1, c2, c3⟩ := wcells_get hi
  rw [← e] at c0 c1 c2 c3
  simp only [Array.getElem?_toList] at c0 c1 c2 c3
  simp only [cell_blk h, Nat.zero_add]
  exact ⟨c0, c1, c2, c3⟩
theorem LoadsAt.blk {w : World} {b : Nat} {ls : List ServM} {cs : Array Value} {T : TypeId} (h : w.heap[b]? = some (.cells cs T (0, 0))) (e : cs.toList = lcells ls) (hn : ls.length ≤ 1000000) : LoadsAt w (some ⟨b, 0, none⟩) ls := by
  refine ⟨by omega, fun _ => ⟨b, 0, rfl, lt_blk h, fun i hi => ?_⟩⟩
  obtain ⟨c0, c1⟩ := lcells_get hi
  rw [← e] at c0 c1
  simp only [Array.getElem?_toList] at c0 c1
  simp only [cell_blk h, Nat.zero_add]
  exact ⟨c0, c1⟩
theorem TasksAt.none (w : World) : TasksAt w none [] := ⟨by simp, fun h => absurd h (by simp)⟩
theorem LoadsAt.none (w : World) : LoadsAt w none [] := ⟨by simp, fun h => absurd h (by simp)⟩

def awT : List WorkM := [⟨1, 1, 4, 4⟩, ⟨2, 2, 6, 6⟩]
def awL : List ServM := [⟨2, 10⟩]
theorem aw_0 : timeV (TimeM awT [] 0) = .tuple #[.int .u64 1, .bool true] := by kernel_rfl
theorem aw_1 : timeV (TimeM awT [] 1) = .tuple #[.int .u64 3, .bool true] := by kernel_rfl
theorem aw_all : allM awT [] = true := by kernel_rfl
theorem aw_adm : allM (awT ++ [⟨3, 6, 12, 7⟩]) [] = false := by kernel_rfl
theorem aw_ok : okLoads awL = true := by kernel_rfl
theorem aw_ex : min ((11 : Nat) : Int) ((taken awL 11 : Nat) : Int) = 4 := by kernel_rfl

set_option maxHeartbeats 4000000 in
theorem awake_any (w : World) :
    Calls Try.prog 9 #[] w fun e w' => e = .returned (.bool true) ∧ Below w.heap.size w w' := by
  go_enter Try.func9, Try.ntmps9
  go_wp2_with fail
  have hT : TasksAt (w.alloc (.cells #[.int .i64 1, .int .u64 1, .int .u64 4, .int .u64 4, .int .i64 2, .int .u64 2, .int .u64 6, .int .u64 6] 26)) (some ⟨w.heap.size, 0, none⟩) awT := TasksAt.blk (blk_new _ _) rfl (by decide)
  have hB : Below w.heap.size w (w.alloc (.cells #[.int .i64 1, .int .u64 1, .int .u64 4, .int .u64 4, .int .i64 2, .int .u64 2, .int .u64 6, .int .u64 6] 26)) := (Below.refl _ _).alloc (Nat.le_refl _) _
  have HT := Lib.hid hT
  have HB := Lib.hid hB
  clear hT hB
  have hQ := Time_n (some ⟨w.heap.size, 0, none⟩) 2 2 awT rfl none 0 0 [] rfl _ HT.out (LoadsAt.none _) 0
  rw [aw_0] at hQ
  refine hQ.mono ?_
  clear hQ
  rintro e w1 ⟨rfl, hb1⟩
  have HB1 := Lib.hid (HB.out.trans (hb1.mono HB.out.size))
  have HT1 := Lib.hid (HT.out.later hb1)
  clear hb1
  go_wp2_with fail
  have hQ := Time_n (some ⟨w.heap.size, 0, none⟩) 2 2 awT rfl none 0 0 [] rfl _ HT1.out (LoadsAt.none _) 1
  rw [aw_1] at hQ
  refine hQ.mono ?_
  clear hQ
  rintro e w2 ⟨rfl, hb2⟩
  have HB2 := Lib.hid (HB1.out.trans (hb2.mono HB1.out.size))
  have HT2 := Lib.hid (HT1.out.later hb2)
  clear hb2
  go_wp2_with fail
  have hQ := All_n (some ⟨w.heap.size, 0, none⟩) 2 2 awT rfl none 0 0 [] rfl _ HT2.out (LoadsAt.none _)
  rw [aw_all] at hQ
  refine hQ.mono ?_
  clear hQ
  rintro e w3 ⟨rfl, hb3⟩
  have HB3 := Lib.hid (HB2.out.trans (hb3.mono HB2.out.size))
  have HT3 := Lib.hid (HT2.out.later hb3)
  clear hb3
  go_wp2_with fail
  have hQ := Admit_n (some ⟨w.heap.size, 0, none⟩) 2 2 awT rfl none 0 0 [] rfl _ HT3.out (LoadsAt.none _) ⟨3, 6, 12, 7⟩ (by decide)
  rw [aw_adm] at hQ
  refine hQ.mono ?_
  clear hQ
  rintro e w4 ⟨rfl, hb4⟩
  have HB4 := Lib.hid (HB3.out.trans (hb4.mono HB3.out.size))
  clear hb4
  go_wp2_with fail
  have hQ := Extra_n (some ⟨w4.heap.size, 0, none⟩) 1 1 awL rfl 11 _ (LoadsAt.blk (blk_new w4 (.cells #[.int .i64 2, .int .u64 10] 28)) rfl (by decide)) aw_ok (by decide)
  rw [aw_ex] at hQ
  refine hQ.mono ?_
  clear hQ
  rintro e w5 ⟨rfl, hb5⟩
  go_wp2
  go_ret
  exact ⟨rfl, (HB4.out.alloc HB4.out.size _).trans (hb5.mono (HB4.out.alloc HB4.out.size _).size)⟩

end Go.Proofs.Ytibplnbldnhbhaa
