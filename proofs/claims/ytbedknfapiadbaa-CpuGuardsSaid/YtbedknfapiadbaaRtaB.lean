/-
  The walks that go over lists of tasks and loads: whether they may be; what loads take; what is wanted of a span.
-/
import Derived.Test.YtbedknfapiadbaaRtaA
import Derived.Test.YtbedknfapiadbaaArgs
import Derived.Deep.QuietTactic
import Derived.BigQuiet
namespace Go.Proofs.Ytbedknfapiadbaa
open Go.RowKit

/-- Tasks, as they lie in memory. -/
def TasksAt (w : World) (ao : Option Addr) (ts : List WorkM) : Prop :=
  ts.length ≤ 9223372036854775807 ∧ (0 < ts.length → ∃ b off, ao = some ⟨b, off, none⟩ ∧ b < w.heap.size ∧ ∀ i, i < ts.length →
    w.cell? ⟨b, off + i * 4, none⟩ = some (.int .i64 (wk ts i).prio) ∧ w.cell? ⟨b, off + i * 4 + 1, none⟩ = some (.int .u64 (wk ts i).cost) ∧
    w.cell? ⟨b, off + i * 4 + 2, none⟩ = some (.int .u64 (wk ts i).period) ∧ w.cell? ⟨b, off + i * 4 + 3, none⟩ = some (.int .u64 (wk ts i).dead))
/-- Loads, as they lie in memory. -/
def LoadsAt (w : World) (ao : Option Addr) (ls : List ServM) : Prop :=
  ls.length ≤ 9223372036854775807 ∧ (0 < ls.length → ∃ b off, ao = some ⟨b, off, none⟩ ∧ b < w.heap.size ∧ ∀ i, i < ls.length →
    w.cell? ⟨b, off + i * 2, none⟩ = some (.int .i64 (sv ls i).budget) ∧ w.cell? ⟨b, off + i * 2 + 1, none⟩ = some (.int .u64 (sv ls i).period))

theorem TasksAt.later {w w' : World} {ao : Option Addr} {ts : List WorkM} (h : TasksAt w ao ts) (hb : Below w.heap.size w w') : TasksAt w' ao ts := by
  refine ⟨h.1, fun hn => ?_⟩
  obtain ⟨b, off, e, hl, hc⟩ := h.2 hn
  refine ⟨b, off, e, Nat.lt_of_lt_of_le hl hb.size, fun i hi => ?_⟩
  obtain ⟨c0, c1, c2, c3⟩ := hc i hi
  exact ⟨(hb.cell (p := ⟨b, _, none⟩) hl).trans c0, (hb.cell (p := ⟨b, _, none⟩) hl).trans c1, (hb.cell (p := ⟨b, _, none⟩) hl).trans c2, (hb.cell (p := ⟨b, _, none⟩) hl).trans c3⟩
theorem LoadsAt.later {w w' : World} {ao : Option Addr} {ls : List ServM} (h : LoadsAt w ao ls) (hb : Below w.heap.size w w') : LoadsAt w' ao ls := by
  refine ⟨h.1, fun hn => ?_⟩
  obtain ⟨b, off, e, hl, hc⟩ := h.2 hn
  refine ⟨b, off, e, Nat.lt_of_lt_of_le hl hb.size, fun i hi => ?_⟩
  obtain ⟨c0, c1⟩ := hc i hi
  exact ⟨(hb.cell (p := ⟨b, _, none⟩) hl).trans c0, (hb.cell (p := ⟨b, _, none⟩) hl).trans c1⟩
theorem Below.same_drawn {w : World} (n : Nat) : Below w.heap.size w (w.drewN n) := ⟨rfl, rfl, rfl, Nat.le_refl _, fun _ _ => rfl⟩

set_option maxHeartbeats 400000 in
theorem mayTasks1_any (t : WorkM) (w : World) :
    Calls Try.prog 50 #[workV t] w fun e w' => e = .returned (.bool (!t.ok)) ∧ Below w.heap.size w w' := by
  go_enter Try.func50, Try.ntmps50
  go_wp2_with (go_at_call 26; refine (rtaMay_any t _).mono ?_; rintro e w1 ⟨rfl, hb⟩)
  go_ret
  exact ⟨rfl, ((Below.refl _ _).alloc (Nat.le_refl _) _).trans (hb.mono (by simp))⟩

set_option maxHeartbeats 400000 in
theorem mayLoads1_any (s : ServM) (w : World) :
    Calls Try.prog 52 #[servV s] w fun e w' => e = .returned (.bool (!s.ok)) ∧ Below w.heap.size w w' := by
  obtain ⟨b, p⟩ := s
  by_cases hm : ServM.may ⟨b, p⟩ = true
  · go_enter Try.func52, Try.ntmps52
    go_wp2_with (go_at_call 40; refine (sporMay_any ⟨b, p⟩ _).mono ?_; rintro e w1 ⟨rfl, hb⟩; have hc : w1.cell? ⟨w.heap.size, 1, none⟩ = some (.int .u64 p) := (hb.cell (p := ⟨w.heap.size, 1, none⟩) (by simp)).trans (World.cell?_alloc_at _ _ _ _ rfl))
    go_ret
    exact ⟨ret_b (by rw [Bool.eq_iff_iff]; simp [ServM.ok, hm]; omega), ((Below.refl _ _).alloc (Nat.le_refl _) _).trans (hb.mono (by simp))⟩
  · have hm' : ServM.may ⟨b, p⟩ = false := by simpa using hm
    clear hm
    go_enter Try.func52, Try.ntmps52
    go_wp2_with (go_at_call 40; refine (sporMay_any ⟨b, p⟩ _).mono ?_; rintro e w1 ⟨rfl, hb⟩)
    go_ret
    exact ⟨ret_b (by simp [ServM.ok, hm']), ((Below.refl _ _).alloc (Nat.le_refl _) _).trans (hb.mono (by simp))⟩

/-- What a search with a predicate answers: a place, or -1. -/
def Found (n : Nat) (bad : Nat → Bool) (w : World) (e : Ending) (w' : World) : Prop :=
  ∃ r : Int, e = .returned (.int .i64 r) ∧ (decide (0 ≤ r) = true ↔ ∃ k, k < n ∧ bad k = true) ∧ Below w.heap.size w w'

set_option maxHeartbeats 1000000 in
theorem indexTasks_any (ao : Option Addr) (cap : Nat) (ts : List WorkM) (w : World) (h : TasksAt w ao ts) :
    Calls Try.prog 59 #[.slice ao ts.length cap, .func (.func 50) #[] #[]] w (Found ts.length (fun k => !(wk ts k).ok) w) := by
  have H := Lib.hid h
  have hn := h.1
  clear h
  go_enter Try.func59, Try.ntmps59
  go_wp2
  go_loopw [8] (fun i wr => ∃ k : Nat, k ≤ ts.length ∧ i = .int .i64 k ∧ Below w.heap.size w wr ∧ ∀ j, j < k → (wk ts j).ok = true) (fun i _ => ts.length - (intOf i).toNat)
  case atStart => exact ⟨0, Nat.zero_le _, rfl, Below.refl _ _, fun j hj => by omega⟩
  case round =>
    obtain ⟨k, hk, rfl, hb, hx⟩ := hrel
    have HB := Lib.hid hb
    have HX := Lib.hid hx
    clear hb hx
    by_cases hlt : k < ts.length
    · obtain ⟨b, off, rfl, hbl, hc⟩ := (H.out.later HB.out).2 (by omega)
      obtain ⟨c0, c1, c2, c3⟩ := hc k hlt
      clear hc
      by_cases hq : (wk ts k).ok = true
      · go_wp2_with (go_at_call 50; refine (mayTasks1_any (wk ts k) _).mono ?_; rintro e w1 ⟨rfl, hb1⟩)
        go_roundw
        case rel => exact ⟨k + 1, by omega, by go_num, HB.out.trans (hb1.mono HB.out.size), fun j hj => by
          by_cases e : j = k
          · rw [e]; exact hq
          · exact HX.out j (by omega)⟩
        case measure => simp [intOf] <;> omega
      · have hq' : (wk ts k).ok = false := by simpa using hq
        clear hq
        go_wp2_with (go_at_call 50; refine (mayTasks1_any (wk ts k) _).mono ?_; rintro e w1 ⟨rfl, hb1⟩)
        go_ret
        exact ⟨k, rfl, by simp; exact ⟨k, hlt, hq'⟩, HB.out.trans (hb1.mono HB.out.size)⟩
    · go_wp2
      go_ret
      exact ⟨-1, rfl, by simp; exact fun j hj => HX.out j (by omega), HB.out⟩

set_option maxHeartbeats 1000000 in
theorem indexLoads_any (ao : Option Addr) (cap : Nat) (ls : List ServM) (w : World) (h : LoadsAt w ao ls) :
    Calls Try.prog 60 #[.slice ao ls.length cap, .func (.func 52) #[] #[]] w (Found ls.length (fun k => !(sv ls k).ok) w) := by
  have H := Lib.hid h
  have hn := h.1
  clear h
  go_enter Try.func60, Try.ntmps60
  go_wp2
  go_loopw [8] (fun i wr => ∃ k : Nat, k ≤ ls.length ∧ i = .int .i64 k ∧ Below w.heap.size w wr ∧ ∀ j, j < k → (sv ls j).ok = true) (fun i _ => ls.length - (intOf i).toNat)
  case atStart => exact ⟨0, Nat.zero_le _, rfl, Below.refl _ _, fun j hj => by omega⟩
  case round =>
    obtain ⟨k, hk, rfl, hb, hx⟩ := hrel
    have HB := Lib.hid hb
    have HX := Lib.hid hx
    clear hb hx
    by_cases hlt : k < ls.length
    · obtain ⟨b, off, rfl, hbl, hc⟩ := (H.out.later HB.out).2 (by omega)
      obtain ⟨c0, c1⟩ := hc k hlt
      clear hc
      by_cases hq : (sv ls k).ok = true
      · go_wp2_with (go_at_call 52; refine (mayLoads1_any (sv ls k) _).mono ?_; rintro e w1 ⟨rfl, hb1⟩)
        go_roundw
        case rel => exact ⟨k + 1, by omega, by go_num, HB.out.trans (hb1.mono HB.out.size), fun j hj => by
          by_cases e : j = k
          · rw [e]; exact hq
          · exact HX.out j (by omega)⟩
        case measure => simp [intOf] <;> omega
      · have hq' : (sv ls k).ok = false := by simpa using hq
        clear hq
        go_wp2_with (go_at_call 52; refine (mayLoads1_any (sv ls k) _).mono ?_; rintro e w1 ⟨rfl, hb1⟩)
        go_ret
        exact ⟨k, rfl, by simp; exact ⟨k, hlt, hq'⟩, HB.out.trans (hb1.mono HB.out.size)⟩
    · go_wp2
      go_ret
      exact ⟨-1, rfl, by simp; exact fun j hj => HX.out j (by omega), HB.out⟩

theorem all_tasks {ts : List WorkM} : (ts.all WorkM.ok = true) ↔ ¬ ∃ k, k < ts.length ∧ (!(wk ts k).ok) = true := by
  rw [List.all_eq_true]
  constructor
  · rintro h ⟨k, hk, hb⟩
    have := wk_in hk
    rw [this, h _ (List.getElem_mem hk)] at hb
    simp at hb
  · intro h t ht
    obtain ⟨k, hk, rfl⟩ := List.mem_iff_getElem.1 ht
    have := wk_in hk
    cases hc : ts[k].ok with
    | true => rfl
    | false => exact absurd ⟨k, hk, by rw [this, hc]; rfl⟩ h
theorem all_loads {ls : List ServM} : (ls.all ServM.ok = true) ↔ ¬ ∃ k, k < ls.length ∧ (!(sv ls k).ok) = true := by
  rw [List.all_eq_true]
  constructor
  · rintro h ⟨k, hk, hb⟩
    have := sv_in hk
    rw [this, h _ (List.getElem_mem hk)] at hb
    simp at hb
  · intro h t ht
    obtain ⟨k, hk, rfl⟩ := List.mem_iff_getElem.1 ht
    have := sv_in hk
    cases hc : ls[k].ok with
    | true => rfl
    | false => exact absurd ⟨k, hk, by rw [this, hc]; rfl⟩ h

set_option maxHeartbeats 400000 in
theorem containsTasks_any (ao : Option Addr) (cap : Nat) (ts : List WorkM) (w : World) (h : TasksAt w ao ts) :
    Calls Try.prog 49 #[.slice ao ts.length cap, .func (.func 50) #[] #[]] w fun e w' => e = .returned (.bool (!ts.all WorkM.ok)) ∧ Below w.heap.size w w' := by
  have H := Lib.hid h
  clear h
  go_enter Try.func49, Try.ntmps49
  go_wp2_with (go_at_call 59; refine (indexTasks_any _ _ ts _ H.out).mono ?_; rintro e w1 ⟨r, rfl, hr, hb⟩; have HR := Lib.hid hr; clear hr)
  go_ret
  refine ⟨ret_b ?_, hb⟩
  rw [Bool.eq_iff_iff, HR.out, Bool.not_eq_true', ← Bool.not_eq_true, all_tasks]
  simp

set_option maxHeartbeats 400000 in
theorem containsLoads_any (ao : Option Addr) (cap : Nat) (ls : List ServM) (w : World) (h : LoadsAt w ao ls) :
    Calls Try.prog 51 #[.slice ao ls.length cap, .func (.func 52) #[] #[]] w fun e w' => e = .returned (.bool (!ls.all ServM.ok)) ∧ Below w.heap.size w w' := by
  have H := Lib.hid h
  clear h
  go_enter Try.func51, Try.ntmps51
  go_wp2_with (go_at_call 60; refine (indexLoads_any _ _ ls _ H.out).mono ?_; rintro e w1 ⟨r, rfl, hr, hb⟩; have HR := Lib.hid hr; clear hr)
  go_ret
  refine ⟨ret_b ?_, hb⟩
  rw [Bool.eq_iff_iff, HR.out, Bool.not_eq_true', ← Bool.not_eq_true, all_loads]
  simp

set_option maxHeartbeats 400000 in
theorem mayTasks_any (ao : Option Addr) (cap : Nat) (ts : List WorkM) (w : World) (h : TasksAt w ao ts) :
    Calls Try.prog 37 #[.slice ao ts.length cap] w fun e w' => e = .returned (.bool (okTasks ts)) ∧ Below w.heap.size w w' := by
  have H := Lib.hid h
  clear h
  by_cases hl : ts.length ≤ 32
  · go_enter Try.func37, Try.ntmps37
    go_wp2_with (go_at_call 49; refine (containsTasks_any _ _ ts _ H.out).mono ?_; rintro e w1 ⟨rfl, hb⟩)
    go_ret
    exact ⟨ret_b (by simp [okTasks, hl]), hb⟩
  · go_enter Try.func37, Try.ntmps37
    go_wp2
    go_ret
    exact ⟨ret_b (by simp [okTasks, hl]), Below.refl _ _⟩

set_option maxHeartbeats 400000 in
theorem mayLoads_any (ao : Option Addr) (cap : Nat) (ls : List ServM) (w : World) (h : LoadsAt w ao ls) :
    Calls Try.prog 38 #[.slice ao ls.length cap] w fun e w' => e = .returned (.bool (okLoads ls)) ∧ Below w.heap.size w w' := by
  have H := Lib.hid h
  clear h
  by_cases hl : ls.length ≤ 16
  · go_enter Try.func38, Try.ntmps38
    go_wp2_with (go_at_call 51; refine (containsLoads_any _ _ ls _ H.out).mono ?_; rintro e w1 ⟨rfl, hb⟩)
    go_ret
    exact ⟨ret_b (by simp [okLoads, hl]), hb⟩
  · go_enter Try.func38, Try.ntmps38
    go_wp2
    go_ret
    exact ⟨ret_b (by simp [okLoads, hl]), Below.refl _ _⟩

end Go.Proofs.Ytbedknfapiadbaa
