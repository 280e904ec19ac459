/-
  The walks of a task's answer time, of all tasks', and the document's guards.
-/
import Derived.Test.YtbedknfapiadbaaRtaD
namespace Go.Proofs.Ytbedknfapiadbaa
open Go.RowKit

/-- A time and whether there is one. -/
def timeV (o : Option Nat) : Value := .tuple #[.int .u64 (o.getD 0), .bool o.isSome]

structure SetOk (ts : List WorkM) (ls : List ServM) : Prop where
  okt : okTasks ts = true
  okl : okLoads ls = true
theorem SetOk.want {ts : List WorkM} {ls : List ServM} (h : SetOk ts ls) {i s : Nat} (hi : i < ts.length) (hs : s ≤ (wk ts i).dead) : WantOk ts ls i s := by
  have h2 := WorkM.ok_iff.1 (work_get h.okt hi)
  exact ⟨h.okt, h.okl, by omega, hi⟩

theorem time_over {ts : List WorkM} {ls : List ServM} {i R : Nat} (h : ∀ t, (wk ts i).cost ≤ t → t < R → wanted ts ls i t ≠ t) (hd : (wk ts i).dead < wanted ts ls i R) : timeM ts ls i = none := by
  refine IsTime.eq (o := none) (fun t h1 h2 => ?_)
  rcases Nat.lt_or_ge t R with g | g
  · exact h t h1 g
  · have := wanted_mono (ts := ts) (ls := ls) (i := i) g
    omega
theorem time_found {ts : List WorkM} {ls : List ServM} {i R : Nat} (h : ∀ t, (wk ts i).cost ≤ t → t < R → wanted ts ls i t ≠ t) (hc : (wk ts i).cost ≤ R) (hd : R ≤ (wk ts i).dead) (he : wanted ts ls i R = R) : timeM ts ls i = some R :=
  IsTime.eq (o := some R) ⟨hc, hd, he, h⟩
theorem time_step {ts : List WorkM} {ls : List ServM} {i R : Nat} (h : ∀ t, (wk ts i).cost ≤ t → t < R → wanted ts ls i t ≠ t) (hn : wanted ts ls i R ≠ R) : ∀ t, (wk ts i).cost ≤ t → t < wanted ts ls i R → wanted ts ls i t ≠ t := by
  intro t h1 h2
  rcases Nat.lt_trichotomy t R with g | g | g
  · exact h t h1 g
  · rw [g]; exact hn
  · have := wanted_mono (ts := ts) (ls := ls) (i := i) (Nat.le_of_lt g)
    omega
theorem wanted_cost (ts : List WorkM) (ls : List ServM) (i s : Nat) : (wk ts i).cost ≤ wanted ts ls i s := by unfold wanted wantedK; omega

set_option maxHeartbeats 4000000 in
theorem time_any (ao : Option Addr) (cap : Nat) (ts : List WorkM) (bo : Option Addr) (cap2 : Nat) (ls : List ServM) (i : Nat) (w : World) (h : TasksAt w ao ts) (h2 : LoadsAt w bo ls) (hs : SetOk ts ls) (hi : i < ts.length) :
    Calls Try.prog 39 #[.slice ao ts.length cap, .slice bo ls.length cap2, .int .i64 i] w fun e w' => e = .returned (timeV (timeM ts ls i)) ∧ Below w.heap.size w w' := by
  have H := Lib.hid h
  have H2 := Lib.hid h2
  have HS := Lib.hid hs
  have hn := h.1
  obtain ⟨b, off, rfl, hbl, hc⟩ := h.2 (by omega)
  obtain ⟨i0, i1, i2, i3⟩ := hc i hi
  have hok := WorkM.ok_iff.1 (work_get hs.okt hi)
  have hcd : (wk ts i).cost ≤ (wk ts i).dead := by omega
  have hd30 : (wk ts i).dead ≤ 1073741824 := by omega
  have HI3 := Lib.hid i3
  have hii : (i : Int) < (ts.length : Int) := by omega
  clear h h2 hs hc i0 i2 hok i3
  go_enter Try.func39, Try.ntmps39
  go_wp2
  go_loopw [8] (fun r wr => ∃ R : Nat, r = .int .u64 R ∧ (wk ts i).cost ≤ R ∧ R ≤ (wk ts i).dead ∧ R ≤ wanted ts ls i R ∧ (∀ t, (wk ts i).cost ≤ t → t < R → wanted ts ls i t ≠ t) ∧ Below w.heap.size w wr) (fun r _ => (wk ts i).dead + 1 - (intOf r).toNat)
  case atStart => exact ⟨_, rfl, Nat.le_refl _, hcd, wanted_cost _ _ _ _, fun t h1 h2 => by omega, Below.refl _ _⟩
  case round =>
    obtain ⟨R, rfl, hcR, hRd, hRw, hall, hb⟩ := hrel
    have HA := Lib.hid hall
    have HB := Lib.hid hb
    have HW := Lib.hid (wanted_any _ cap ts _ cap2 ls i R wr (H.out.later HB.out) (H2.out.later HB.out) (HS.out.want hi hRd))
    clear hall hb i1
    obtain ⟨N, hN⟩ : ∃ N, wanted ts ls i R = N := ⟨_, rfl⟩
    have HN : Box (wanted ts ls i R = N) := ⟨hN⟩
    rw [hN] at hRw HW
    clear hN
    by_cases hgt : (wk ts i).dead < N
    · have HT : Box (timeM ts ls i = none) := ⟨time_over HA.out (by rw [HN.out]; exact hgt)⟩
      go_wp2_with (go_at_call 53; refine HW.out.mono ?_; rintro e w1 ⟨rfl, hb1⟩; have i3' : w1.cell? ⟨b, off + i * 4 + 3, none⟩ = some (.int .u64 (wk ts i).dead) := ((HB.out.trans (hb1.mono HB.out.size)).cell (p := ⟨b, off + i * 4 + 3, none⟩) hbl).trans HI3.out)
      go_ret2
      rw [HT.out]
      exact ⟨rfl, HB.out.trans (hb1.mono HB.out.size)⟩
    · by_cases heq : N = R
      · have HT : Box (timeM ts ls i = some R) := ⟨time_found HA.out hcR hRd (by rw [HN.out, heq])⟩
        have he' : ((N : Int) == (R : Int)) = true := by simp [heq]
        clear heq
        go_wp2_with (go_at_call 53; refine HW.out.mono ?_; rintro e w1 ⟨rfl, hb1⟩; have i3' : w1.cell? ⟨b, off + i * 4 + 3, none⟩ = some (.int .u64 (wk ts i).dead) := ((HB.out.trans (hb1.mono HB.out.size)).cell (p := ⟨b, off + i * 4 + 3, none⟩) hbl).trans HI3.out)
        go_ret2
        rw [HT.out]
        exact ⟨rfl, HB.out.trans (hb1.mono HB.out.size)⟩
      · have he' : ((N : Int) == (R : Int)) = false := by simp; omega
        have HST : Box (∀ t, (wk ts i).cost ≤ t → t < N → wanted ts ls i t ≠ t) := ⟨by
          have := time_step HA.out (by rw [HN.out]; exact heq)
          rw [HN.out] at this
          exact this⟩
        have HWM : Box (N ≤ wanted ts ls i N) := ⟨by
          have := wanted_mono (ts := ts) (ls := ls) (i := i) (s := R) (s' := N) (by omega)
          rw [HN.out] at this
          exact this⟩
        have hRN : R < N := by omega
        clear heq
        go_wp2_with (go_at_call 53; refine HW.out.mono ?_; rintro e w1 ⟨rfl, hb1⟩; have i3' : w1.cell? ⟨b, off + i * 4 + 3, none⟩ = some (.int .u64 (wk ts i).dead) := ((HB.out.trans (hb1.mono HB.out.size)).cell (p := ⟨b, off + i * 4 + 3, none⟩) hbl).trans HI3.out)
        go_roundw
        case rel => exact ⟨N, rfl, by omega, by omega, HWM.out, HST.out, HB.out.trans (hb1.mono HB.out.size)⟩
        case measure => simp [intOf] <;> omega

set_option maxHeartbeats 4000000 in
theorem allM_iff {ts : List WorkM} {ls : List ServM} (h : SetOk ts ls) : allM ts ls = true ↔ ∀ i, i < ts.length → (timeM ts ls i).isSome = true := by
  simp [allM, h.okt, h.okl]

set_option maxHeartbeats 4000000 in
theorem All_any (ao : Option Addr) (cap : Nat) (ts : List WorkM) (bo : Option Addr) (cap2 : Nat) (ls : List ServM) (w : World) (h : TasksAt w ao ts) (h2 : LoadsAt w bo ls) :
    Calls Try.prog 27 #[.slice ao ts.length cap, .slice bo ls.length cap2] w fun e w' => e = .returned (.bool (allM ts ls)) ∧ Below w.heap.size w w' := by
  have H := Lib.hid h
  have H2 := Lib.hid h2
  have hn := h.1
  clear h h2
  by_cases ht : okTasks ts = true
  · by_cases hl : okLoads ls = true
    · have HS : Box (SetOk ts ls) := ⟨⟨ht, hl⟩⟩
      go_enter Try.func27, Try.ntmps27
      go_wp2_with fail
      go_step3
      go_wp2_with (first | (go_at_call 37; refine (mayTasks_any _ _ ts _ H.out).mono ?_; rintro e w1 ⟨rfl, hb1⟩) | (go_at_call 38; refine (mayLoads_any _ _ ls _ (H2.out.later hb1)).mono ?_; rintro e w2 ⟨rfl, hb2⟩))
      have HB2 : Hid (Below w.heap.size w w2) := hb1.trans (hb2.mono hb1.size)
      clear hb1 hb2
      go_step3
      go_wp2_with fail
      go_loopw [18] (fun i wr => ∃ k : Nat, k ≤ ts.length ∧ i = .int .i64 k ∧ (∀ j, j < k → (timeM ts ls j).isSome = true) ∧ Below w.heap.size w wr) (fun i _ => ts.length - (intOf i).toNat)
      case atStart => exact ⟨0, Nat.zero_le _, rfl, fun j hj => by omega, HB2.out⟩
      case round =>
        obtain ⟨k, hk, rfl, hall, hb⟩ := hrel
        have HA := Lib.hid hall
        have HB := Lib.hid hb
        clear hall hb
        by_cases hlt : k < ts.length
        · have HW := Lib.hid (time_any _ cap ts _ cap2 ls k wr (H.out.later HB.out) (H2.out.later HB.out) HS.out hlt)
          cases ho : timeM ts ls k with
          | some R =>
            rw [ho] at HW
            have HO : Box (timeM ts ls k = some R) := ⟨ho⟩
            clear ho
            go_wp2_with (go_at_call 39; refine HW.out.mono ?_; unfold timeV; rintro e w3 ⟨rfl, hb3⟩)
            go_roundw
            case rel => exact ⟨k + 1, by omega, by go_num, fun j hj => by
              by_cases e : j = k
              · rw [e, HO.out]; rfl
              · exact HA.out j (by omega), HB.out.trans (hb3.mono HB.out.size)⟩
            case measure => simp [intOf] <;> omega
          | none =>
            rw [ho] at HW
            have HO : Box (allM ts ls = false) := ⟨by
              cases ha : allM ts ls with
              | false => rfl
              | true =>
                have := (allM_iff HS.out).1 ha k hlt
                rw [ho] at this
                simp at this⟩
            clear ho
            go_wp2_with (go_at_call 39; refine HW.out.mono ?_; unfold timeV; rintro e w3 ⟨rfl, hb3⟩)
            try rw [Exit.noGoto_ret]
            go_ret
            rw [HO.out]
            exact ⟨rfl, HB.out.trans (hb3.mono HB.out.size)⟩
        · have HO : Box (allM ts ls = true) := ⟨(allM_iff HS.out).2 (fun i hi => HA.out i (by omega))⟩
          go_wp2
          try rw [Exit.noGoto_ret]
          go_ret
          rw [HO.out]
          exact ⟨rfl, HB.out⟩
    · have hl' : okLoads ls = false := by simpa using hl
      have HT : Box (allM ts ls = false) := ⟨by simp [allM, hl']⟩
      clear hl
      go_enter Try.func27, Try.ntmps27
      go_wp2_with fail
      go_step3
      go_wp2_with (first | (go_at_call 37; refine (mayTasks_any _ _ ts _ H.out).mono ?_; rintro e w1 ⟨rfl, hb1⟩) | (go_at_call 38; refine (mayLoads_any _ _ ls _ (H2.out.later hb1)).mono ?_; rintro e w2 ⟨rfl, hb2⟩))
      try rw [Exit.noGoto_ret]
      go_ret
      rw [HT.out]
      exact ⟨rfl, hb1.trans (hb2.mono hb1.size)⟩
  · have ht' : okTasks ts = false := by simpa using ht
    have HT : Box (allM ts ls = false) := ⟨by simp [allM, ht']⟩
    clear ht
    go_enter Try.func27, Try.ntmps27
    go_wp2_with fail
    go_step3
    go_wp2_with (go_at_call 37; refine (mayTasks_any _ _ ts _ H.out).mono ?_; rintro e w1 ⟨rfl, hb1⟩)
    try rw [Exit.noGoto_ret]
    go_ret
    rw [HT.out]
    exact ⟨rfl, hb1⟩

end Go.Proofs.Ytbedknfapiadbaa
