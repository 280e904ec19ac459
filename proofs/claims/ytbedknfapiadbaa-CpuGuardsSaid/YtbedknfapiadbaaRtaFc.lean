/-
  The walks of the document's guards, of 'slices.Clone' at tasks, of 'Extra' and 'Admit'.
-/
import Derived.Test.YtbedknfapiadbaaRtaEc
import Derived.Lib.SliceRun
import Derived.Deep.RegionLaw
namespace Go.Proofs.Ytbedknfapiadbaa
open Go.RowKit

set_option maxHeartbeats 1000000 in
theorem refTasks_any (ao : Option Addr) (cap : Nat) (ts : List WorkM) (w : World) (h : TasksAt w ao ts) :
    Calls Try.prog 23 #[.slice ao ts.length cap] w fun e w' => e = .returned (.bool (okTasks ts)) ∧ Below w.heap.size w w' := by
  have H := Lib.hid h
  have hn := h.1
  clear h
  go_enter Try.func23, Try.ntmps23
  go_wp2
  go_loopw [3] (fun i wr => ∃ k : Nat, k ≤ ts.length ∧ i = .int .i64 k ∧ Below w.heap.size w wr ∧ ∀ j, j < k → (wk ts j).ok = true) (fun i _ => ts.length - (intOf i).toNat)
  case atStart => exact ⟨0, Nat.zero_le _, rfl, Below.refl _ _, fun j hj => by omega⟩
  case round =>
    obtain ⟨k, hk, rfl, hb, hx⟩ := hrel
    have HB := Lib.hid hb
    have HX := Lib.hid hx
    clear hb hx
    by_cases hlt : k < ts.length
    · obtain ⟨b, off, rfl, hbl, hc⟩ := (H.out.later HB.out).2 (by omega)
      obtain ⟨c0, c1, c2, c3⟩ := hc k hlt
      clear hc
      by_cases hq : (wk ts k).ok = true
      · go_wp2_with (go_at_call 21; refine (refMay_any (wk ts k) _).mono ?_; rintro e w1 ⟨rfl, hb1⟩)
        go_roundw
        case rel => exact ⟨k + 1, by omega, by go_num, HB.out.trans (hb1.mono HB.out.size), fun j hj => by
          by_cases e : j = k
          · rw [e]; exact hq
          · exact HX.out j (by omega)⟩
        case measure => simp [intOf] <;> omega
      · have hq' : (wk ts k).ok = false := by simpa using hq
        have HO : Box (okTasks ts = false) := ⟨by
          cases ho : okTasks ts with
          | false => rfl
          | true => exact absurd (work_get ho hlt) hq⟩
        clear hq
        go_wp2_with (go_at_call 21; refine (refMay_any (wk ts k) _).mono ?_; rintro e w1 ⟨rfl, hb1⟩)
        go_ret
        rw [HO.out]
        exact ⟨rfl, HB.out.trans (hb1.mono HB.out.size)⟩
    · have HO : Box (decide (ts.length ≤ 32) = okTasks ts) := ⟨by
        have : ts.all WorkM.ok = true := all_tasks.2 (fun ⟨j, hj, hb⟩ => by rw [HX.out j (by omega)] at hb; simp at hb)
        simp [okTasks, this]⟩
      go_wp2
      go_ret
      rw [← HO.out]
      exact ⟨ret_b (by simp; omega), HB.out⟩

set_option maxHeartbeats 1000000 in
theorem refLoads_any (ao : Option Addr) (cap : Nat) (ls : List ServM) (w : World) (h : LoadsAt w ao ls) :
    Calls Try.prog 10 #[.slice ao ls.length cap] w fun e w' => e = .returned (.bool (okLoads ls)) ∧ Below w.heap.size w w' := by
  have H := Lib.hid h
  have hn := h.1
  clear h
  go_enter Try.func10, Try.ntmps10
  go_wp2
  go_loopw [3] (fun i wr => ∃ k : Nat, k ≤ ls.length ∧ i = .int .i64 k ∧ Below w.heap.size w wr ∧ ∀ j, j < k → (sv ls j).ok = true) (fun i _ => ls.length - (intOf i).toNat)
  case atStart => exact ⟨0, Nat.zero_le _, rfl, Below.refl _ _, fun j hj => by omega⟩
  case round =>
    obtain ⟨k, hk, rfl, hb, hx⟩ := hrel
    have HB := Lib.hid hb
    have HX := Lib.hid hx
    clear hb hx
    by_cases hlt : k < ls.length
    · obtain ⟨b, off, rfl, hbl, hc⟩ := (H.out.later HB.out).2 (by omega)
      obtain ⟨c0, c1⟩ := hc k hlt
      have HC1 := Lib.hid c1
      clear hc
      have HOf : Box ((sv ls k).ok = false → okLoads ls = false) := ⟨fun hq => by
        cases ho : okLoads ls with
        | false => rfl
        | true => rw [serv_get ho hlt] at hq; exact absurd hq (by simp)⟩
      by_cases hm : (sv ls k).may = true
      · by_cases hp : 1073741824 < (sv ls k).period
        · have HO : Box (okLoads ls = false) := ⟨HOf.out (by simp [ServM.ok, hm]; omega)⟩
          go_wp2_with (go_at_call 24; refine (refSporMay_any (sv ls k) _).mono ?_; rintro e w1 ⟨rfl, hb1⟩; have d1 : w1.cell? ⟨b, off + k * 2 + 1, none⟩ = some (.int .u64 (sv ls k).period) := (hb1.cell (p := ⟨b, off + k * 2 + 1, none⟩) hbl).trans HC1.out)
          go_ret
          rw [HO.out]
          exact ⟨rfl, HB.out.trans (hb1.mono HB.out.size)⟩
        · have HO : Box ((sv ls k).ok = true) := ⟨by simp [ServM.ok, hm]; omega⟩
          go_wp2_with (go_at_call 24; refine (refSporMay_any (sv ls k) _).mono ?_; rintro e w1 ⟨rfl, hb1⟩; have d1 : w1.cell? ⟨b, off + k * 2 + 1, none⟩ = some (.int .u64 (sv ls k).period) := (hb1.cell (p := ⟨b, off + k * 2 + 1, none⟩) hbl).trans HC1.out)
          go_roundw
          case rel => exact ⟨k + 1, by omega, by go_num, HB.out.trans (hb1.mono HB.out.size), fun j hj => by
            by_cases e : j = k
            · rw [e]; exact HO.out
            · exact HX.out j (by omega)⟩
          case measure => simp [intOf] <;> omega
      · have hm' : (sv ls k).may = false := by simpa using hm
        have HO : Box (okLoads ls = false) := ⟨HOf.out (by simp [ServM.ok, hm'])⟩
        clear hm
        go_wp2_with (go_at_call 24; refine (refSporMay_any (sv ls k) _).mono ?_; rintro e w1 ⟨rfl, hb1⟩)
        go_ret
        rw [HO.out]
        exact ⟨rfl, HB.out.trans (hb1.mono HB.out.size)⟩
    · have HO : Box (decide (ls.length ≤ 16) = okLoads ls) := ⟨by
        have : ls.all ServM.ok = true := all_loads.2 (fun ⟨j, hj, hb⟩ => by rw [HX.out j (by omega)] at hb; simp at hb)
        simp [okLoads, this]⟩
      go_wp2
      go_ret
      rw [← HO.out]
      exact ⟨ret_b (by simp; omega), HB.out⟩

/-- Whether a task's period is one that is gone through. -/
def smallW (t : WorkM) : Bool := !(decide (2000 < t.period) && decide (t.period ≤ 1073741824))
def smallM (ts : List WorkM) (n : Nat) : Bool := ts.all smallW && (decide (ts.length ≤ 40) && decide (n ≤ 40))
theorem smallM_iff {ts : List WorkM} {n : Nat} : smallM ts n = true ↔ (∀ k, k < ts.length → smallW (wk ts k) = true) ∧ ts.length ≤ 40 ∧ n ≤ 40 := by
  simp only [smallM, Bool.and_eq_true, decide_eq_true_eq, List.all_eq_true]
  constructor
  · rintro ⟨h1, h2⟩
    exact ⟨fun k hk => by rw [wk_in hk]; exact h1 _ (List.getElem_mem hk), h2⟩
  · rintro ⟨h1, h2⟩
    refine ⟨fun t ht => ?_, h2⟩
    obtain ⟨k, hk, rfl⟩ := List.mem_iff_getElem.1 ht
    have := h1 k hk
    rwa [wk_in hk] at this

set_option maxHeartbeats 1000000 in
theorem small_any (ao : Option Addr) (cap : Nat) (ts : List WorkM) (bo : Option Addr) (n cap2 : Nat) (w : World) (h : TasksAt w ao ts) :
    Calls Try.prog 17 #[.slice ao ts.length cap, .slice bo n cap2] w fun e w' => e = .returned (.bool (smallM ts n)) ∧ w = w' := by
  have H := Lib.hid h
  have hn := h.1
  clear h
  go_enter Try.func17, Try.ntmps17
  go_wp2
  go_loop [5] (fun i => ∃ k : Nat, k ≤ ts.length ∧ i = .int .i64 k ∧ ∀ j, j < k → smallW (wk ts j) = true) (fun i => ts.length - (intOf i).toNat)
  case atStart => exact ⟨0, Nat.zero_le _, rfl, fun j hj => by omega⟩
  case round =>
    obtain ⟨k, hk, rfl, hx⟩ := hrel
    have HX := Lib.hid hx
    clear hx
    by_cases hlt : k < ts.length
    · obtain ⟨b, off, rfl, hbl, hc⟩ := H.out.2 (by omega)
      obtain ⟨c0, c1, c2, c3⟩ := hc k hlt
      have HOf : Box (smallW (wk ts k) = false → smallM ts n = false) := ⟨fun hq => by
        cases ho : smallM ts n with
        | false => rfl
        | true => rw [(smallM_iff.1 ho).1 k hlt] at hq; exact absurd hq (by simp)⟩
      clear hc c0 c1 c3
      by_cases h1 : 2000 < (wk ts k).period
      · by_cases h2 : (wk ts k).period ≤ 1073741824
        · have HO : Box (smallM ts n = false) := ⟨HOf.out (by simp [smallW, h1, h2])⟩
          go_wp2
          go_ret
          rw [HO.out]
          exact ⟨rfl, rfl⟩
        · have HO : Box (smallW (wk ts k) = true) := ⟨by simp [smallW]; omega⟩
          go_wp2
          go_round
          case rel => exact ⟨k + 1, by omega, by go_num, fun j hj => by
            by_cases e : j = k
            · rw [e]; exact HO.out
            · exact HX.out j (by omega)⟩
          case measure => simp [intOf] <;> omega
      · have HO : Box (smallW (wk ts k) = true) := ⟨by simp [smallW, h1]⟩
        go_wp2
        go_round
        case rel => exact ⟨k + 1, by omega, by go_num, fun j hj => by
          by_cases e : j = k
          · rw [e]; exact HO.out
          · exact HX.out j (by omega)⟩
        case measure => simp [intOf] <;> omega
    · have HO : Box (smallM ts n = (decide (ts.length ≤ 40) && decide (n ≤ 40))) := ⟨by
        rw [Bool.eq_iff_iff, smallM_iff]
        simp only [Bool.and_eq_true, decide_eq_true_eq]
        exact ⟨fun h => h.2, fun h => ⟨fun j hj => HX.out j (by omega), h⟩⟩⟩
      by_cases h40 : ts.length ≤ 40
      · go_wp2
        go_ret
        rw [HO.out]
        exact ⟨ret_b (by simp [h40]; omega), rfl⟩
      · go_wp2
        go_ret
        rw [HO.out]
        exact ⟨ret_b (by simp [h40]), rfl⟩


end Go.Proofs.Ytbedknfapiadbaa
