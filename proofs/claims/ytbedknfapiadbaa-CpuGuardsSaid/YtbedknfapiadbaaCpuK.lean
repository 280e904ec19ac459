/-
  The walk of cpu's Job.
-/
import Derived.Test.YtbedknfapiadbaaCpuJ
namespace Go.Proofs.Ytbedknfapiadbaa
open Go.RowKit

def CpuM.jobOf (M : CpuM) (i : Int) : Option JobM := if 0 ≤ i then match M.tasks[i.toNat]? with | some t => t.job | none => none else none
def jobR : Option JobM → Value
  | some j => .tuple #[.int .u64 j.ran, .int .u64 j.dead, .bool true]
  | none => .tuple #[.int .u64 0, .int .u64 0, .bool false]

set_option maxHeartbeats 4000000 in
theorem job_any (y : Lay) (M : CpuM) (i : Int) (w : World) (h : CpuAt w y M) :
    Calls Try.prog 20 #[.pointer (some ⟨y.c, 0, none⟩), .int .i64 i] w fun e w' => e = .returned (jobR (M.jobOf i)) ∧ Below w.heap.size w w' := by
  have c0 := h.c0
  have hs := h.tarr.small
  obtain ⟨n, hn⟩ : ∃ n, M.tasks.length = n := ⟨_, rfl⟩
  have H := Box.mk h
  rw [hn] at c0 hs
  by_cases hin : 0 ≤ i ∧ i < n
  · obtain ⟨k, rfl⟩ : ∃ k : Nat, i = k := ⟨i.toNat, by omega⟩
    have hk : k < n := by omega
    have HIS := Box.mk (is_any y M k w h true (decide_eq_true (by rw [hn]; exact hin)))
    obtain ⟨t, ht⟩ : ∃ t, M.tasks[k]? = some t := ⟨M.tasks[k]'(by omega), by simp [hn, hk]⟩
    obtain ⟨g, hg, _, hnc, hc, hcell⟩ := h.tarr.get (i := k) (by omega)
    obtain ⟨_, htb, hja⟩ := h.task k t ht
    have e4 := cell_blk htb 4
    simp only [List.getElem?_toArray, List.getElem?_cons_zero, List.getElem?_cons_succ] at e4
    rw [hg] at c0
    rw [hn] at hnc
    have hki : (k : Int) < n := by omega
    have hk0 : (0 : Int) ≤ k := by omega
    cases hj : t.job with
    | none =>
      have HV : Box (M.jobOf k = none) := ⟨by unfold CpuM.jobOf; rw [if_pos (by omega)]; simp [ht, hj]⟩
      rw [hj] at e4
      simp only [jobV] at e4
      clear h hn hs ht hg htb hja hin hj
      go_enter Try.func20, Try.ntmps20
      go_wp2_with (go_at_call 34; refine HIS.out.mono ?_; rintro e w1 ⟨rfl, rfl⟩)
      go_ret3
      rw [HV.out]
      exact ⟨rfl, Below.refl _ _⟩
    | some j =>
      have HV : Box (M.jobOf k = some j) := ⟨by unfold CpuM.jobOf; rw [if_pos (by omega)]; simp [ht, hj]⟩
      rw [hj] at e4 hja
      simp only [jobV] at e4
      have j1 := cell_blk hja.2 1
      have j2 := cell_blk hja.2 2
      simp only [List.getElem?_toArray, List.getElem?_cons_zero, List.getElem?_cons_succ] at j1 j2
      clear h hn hs ht hg htb hja hin hj
      go_enter Try.func20, Try.ntmps20
      go_upto_region 3 with (go_at_call 34; refine HIS.out.mono ?_; rintro e w1 ⟨rfl, rfl⟩)
      go_quiet (fail)
      go_wp2
      go_ret3
      rw [HV.out]
      exact ⟨rfl, by first | exact same_drawn _ | exact Below.refl _ _⟩
  · have HIS := Box.mk (is_any y M i w h false (decide_eq_false (by rw [hn]; exact hin)))
    have HV : Box (M.jobOf i = none) := ⟨by
      unfold CpuM.jobOf
      by_cases h0 : 0 ≤ i
      · rw [if_pos h0, List.getElem?_eq_none (by omega)]
      · rw [if_neg h0]⟩
    clear h hn hs hin
    go_enter Try.func20, Try.ntmps20
    go_wp2_with (go_at_call 34; refine HIS.out.mono ?_; rintro e w1 ⟨rfl, rfl⟩)
    go_ret3
    rw [HV.out]
    exact ⟨rfl, Below.refl _ _⟩

/-- 'Release': which code, and what it leaves where the time is in reach. -/
inductive RelK where
  | arg | state | denied | go (t : TaskM) (k : Nat)
def CpuM.relK (M : CpuM) (i : Int) (d : Nat) : RelK :=
  if 0 ≤ i ∧ d ≠ 0 then match M.tasks[i.toNat]? with
    | some t => match t.job with
      | some _ => .state
      | none => if t.begun = true ∧ M.now - t.last < t.wk.period then .denied else .go t i.toNat
    | none => .arg
  else .arg
def CpuM.released (M : CpuM) (t : TaskM) (k d : Nat) : CpuM :=
  { M with tasks := M.tasks.set k ⟨t.wk, some ⟨d, 0, M.now + t.wk.dead, false⟩, true, M.now⟩, rows := come M.rows k t.wk.prio }
/-- What Release answers and leaves. -/
def RelPost (w : World) (y : Lay) (M : CpuM) (i : Int) (d : Nat) (e : Ending) (w' : World) : Prop :=
  match M.relK i d with
  | .arg => e = .returned (.int .i64 1) ∧ CPost w y M w'
  | .state => e = .returned (.int .i64 12) ∧ CPost w y M w'
  | .denied => e = .returned (.int .i64 11) ∧ CPost w y M w'
  | .go t k => e = .returned (.int .i64 (comeC M.rows k t.wk.prio)) ∧ CPost w y (M.released t k d) w'
theorem CPost.later {w w1 w2 : World} {y : Lay} {M : CpuM} (h : CPost w y M w1) (hb : Below w1.heap.size w1 w2) : CPost w y M w2 := by
  obtain ⟨y1, a, b, c, d⟩ := h
  exact ⟨y1, a, b.later hb, c.trans ((Fr.of_below (F := fun _ => False) hb).mono (fun _ _ h => h.elim)), d.1, fun k hk => Nat.lt_of_lt_of_le (d.2 k hk) hb.size⟩

end Go.Proofs.Ytbedknfapiadbaa
