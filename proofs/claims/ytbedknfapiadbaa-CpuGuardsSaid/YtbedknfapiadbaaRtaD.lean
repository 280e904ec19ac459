/-
  The walks of what is wanted of a span: the program's and the document's.
-/
import Derived.Test.YtbedknfapiadbaaRtaC
import Derived.Deep.DeepCutAuto
import Derived.Deep.RegionWith
namespace Go.Proofs.Ytbedknfapiadbaa
open Go.RowKit

theorem quiet_more {P : Program} {f : FuncId} {args : Array Value} {w : World} {a n : Nat} {v : Value}
    (h : Calls P f args (w.drewN (a + n)) fun e w' => e = .returned v ∧ w' = w.drewN (a + n)) :
    Calls P f args (w.drewN (a + n)) fun e w'' => e = .returned v ∧ ∃ m, w'' = w.drewN (a + m) :=
  h.mono fun _ _ ⟨he, hm⟩ => ⟨he, n, hm⟩

theorem quiet_less {P : Program} {f : FuncId} {args : Array Value} {w : World} {n : Nat} {v : Value}
    (h : Calls P f args (w.drewN n) fun e w' => e = .returned v ∧ ∃ m, w' = (w.drewN n).drewN m) :
    Calls P f args (w.drewN n) fun e w'' => e = .returned v ∧ ∃ m, w'' = w.drewN m :=
  h.mono fun _ _ ⟨he, m, hm⟩ => ⟨he, n + m, by rw [hm, drewN_add]⟩
/-- Where tasks and loads may be, and the span is small, nothing wraps. -/
structure WantOk (ts : List WorkM) (ls : List ServM) (i s : Nat) : Prop where
  okt : okTasks ts = true
  okl : okLoads ls = true
  span : s ≤ 2147483648
  lt : i < ts.length
theorem WantOk.take {ts : List WorkM} {ls : List ServM} {i s : Nat} (h : WantOk ts ls i s) : TakeOk ls s := ⟨h.okl, h.span⟩
theorem taken_le {ls : List ServM} {s : Nat} (h : TakeOk ls s) : taken ls s ≤ 34359741568 := by
  have h1 := takenK_le h.ok s ls.length (Nat.le_refl _)
  have h4 := (okLoads_iff.1 h.ok).1
  have h5 := h.span
  have h6 : ls.length * (s + 200) ≤ 16 * 2147483848 := Nat.mul_le_mul h4 (by omega)
  unfold taken
  omega
theorem WantOk.bd {ts : List WorkM} {ls : List ServM} {i s k : Nat} (h : WantOk ts ls i s) (hk : k ≤ ts.length) : wantedK ts ls i s k ≤ 1099511627776 := by
  have h1 := restK_le (B := 1073741824) (fun k hk => work_bd h.okt hk) i s k hk
  have h2 := taken_le h.take
  have h3 := (work_bd h.okt h.lt).1
  have h4 := (okTasks_iff.1 h.okt).1
  have h5 := h.span
  have h6 : k * (s + 1073741824) ≤ 32 * 3221225472 := Nat.mul_le_mul (by omega) (by omega)
  unfold wantedK
  omega
theorem WantOk.one {ts : List WorkM} {ls : List ServM} {i s k : Nat} (h : WantOk ts ls i s) (hk : k < ts.length) :
    (wk ts k).period ≤ 4611686018427387904 ∧ (wk ts k).cost ≤ 4611686018427387904 ∧ up s (wk ts k).period * (wk ts k).cost ≤ 3221225472 := by
  have h2 := WorkM.ok_iff.1 (work_get h.okt hk)
  have h3 := up_mul (n := s) (b := (wk ts k).period) (c := (wk ts k).cost) (by omega)
  have h5 := h.span
  refine ⟨by omega, by omega, by omega⟩
theorem wantedK_yes {ts : List WorkM} {ls : List ServM} {i s k : Nat} (h : k ≠ i) (hp : (wk ts k).prio ≤ (wk ts i).prio) : wantedK ts ls i s (k + 1) = wantedK ts ls i s k + up s (wk ts k).period * (wk ts k).cost := by
  unfold wantedK
  rw [restK, if_pos ⟨h, hp⟩]
  omega
theorem wantedK_no {ts : List WorkM} {ls : List ServM} {i s k : Nat} (h : ¬ (k ≠ i ∧ (wk ts k).prio ≤ (wk ts i).prio)) : wantedK ts ls i s (k + 1) = wantedK ts ls i s k := by
  unfold wantedK
  rw [restK, if_neg h]
  rfl

set_option maxHeartbeats 4000000 in
theorem wanted_any (ao : Option Addr) (cap : Nat) (ts : List WorkM) (bo : Option Addr) (cap2 : Nat) (ls : List ServM) (i s : Nat) (w : World) (h : TasksAt w ao ts) (h2 : LoadsAt w bo ls) (hs : WantOk ts ls i s) :
    Calls Try.prog 53 #[.slice ao ts.length cap, .slice bo ls.length cap2, .int .i64 i, .int .u64 s] w fun e w' => e = .returned (.int .u64 (wanted ts ls i s)) ∧ Below w.heap.size w w' := by
  have H := Lib.hid h
  have H2 := Lib.hid h2
  have HS := Lib.hid hs
  have hs1 : s ≤ 4611686018427387904 := by have := hs.span; omega
  have hn := h.1
  have hi := hs.lt
  obtain ⟨b, off, rfl, hbl, hc⟩ := h.2 (by omega)
  obtain ⟨i0, i1, i2, i3⟩ := hc i hi
  have hib := hs.one hi
  have hic : (wk ts i).cost ≤ 1073741824 := (work_bd hs.okt hi).1
  have htl := taken_le hs.take
  have hii : (i : Int) < (ts.length : Int) := by omega
  have HI1 := Lib.hid i1
  have HI0 := Lib.hid i0
  clear h h2 hs hc i2 i3 hib i0
  go_enter Try.func53, Try.ntmps53
  go_upto_region 1 with (fail)
  go_cut [9] (fun s9 wx => s9 = .int .u64 (wantedK ts ls i s 0) ∧ Below w.heap.size w wx)
  case first =>
    go_region_with (go_at_call 61; refine (taken_any _ _ ls s _ (H2.out.later (Below.same_drawn 1)) HS.out.take).mono ?_; rintro e w1 ⟨rfl, hb1⟩; have i1' : w1.cell? ⟨b, off + i * 4 + 1, none⟩ = some (.int .u64 (wk ts i).cost) := (hb1.cell (p := ⟨b, off + i * 4 + 1, none⟩) hbl).trans HI1.out)
    all_goals
      go_wp2_with fail
      go_meet
      exact ⟨by rw [IntWalk.u64_in _ ⟨by omega, by omega⟩]; rfl, (Below.same_drawn 1).trans hb1⟩
  case rest =>
    obtain ⟨rfl, hbc⟩ := hcut
    have HBC := Lib.hid hbc
    clear hbc i1
    go_wp2
    go_loopw [9, 23] (fun u j wr => ∃ k : Nat, k ≤ ts.length ∧ j = .int .i64 k ∧ u = .int .u64 (wantedK ts ls i s k) ∧ Below w.heap.size w wr) (fun _ j _ => ts.length - (intOf j).toNat)
    case atStart => exact ⟨0, Nat.zero_le _, rfl, rfl, HBC.out⟩
    case round =>
      obtain ⟨k, hk, rfl, rfl, hb⟩ := hrel
      have HB := Lib.hid hb
      clear hb
      by_cases hlt : k < ts.length
      · obtain ⟨b', off', he, _, hc⟩ := (H.out.later HB.out).2 (by omega)
        simp only [Option.some.injEq, Addr.mk.injEq, and_true] at he
        obtain ⟨rfl, rfl⟩ := he
        obtain ⟨c0, c1, c2, c3⟩ := hc k hlt
        obtain ⟨j0, _, _, _⟩ := hc i hi
        obtain ⟨g1, g2, g3⟩ := HS.out.one hlt
        have g4 := HS.out.bd hk
        have hkl : k < ts.length := hlt
        clear hc
        have hbw := HB.out.size
        have hblr : b < wr.heap.size := by omega
        by_cases hki : k = i
        · have HT : Hid (wantedK ts ls i s (k + 1) = wantedK ts ls i s k) := wantedK_no (fun h => h.1 hki)
          have hkk : ((k : Int) != (i : Int)) = false := by simp [hki]
          have hkk2 : ((k : Int) == (i : Int)) = true := by simp [hki]
          clear hki
          go_wp2
          go_quiet (fail)
          go_wp2
          go_roundw
          case rel => exact ⟨k + 1, by omega, by go_num, by rw [HT.out], HB.out.trans ((((Below.refl _ _).alloc (Nat.le_refl _) _).mono HB.out.size).trans ⟨rfl, rfl, rfl, Nat.le_refl _, fun _ _ => rfl⟩)⟩
          case measure => simp [intOf] <;> omega
        · have hkk : ((k : Int) != (i : Int)) = true := by simp; omega
          have hkk2 : ((k : Int) == (i : Int)) = false := by simp; omega
          by_cases hp : (wk ts k).prio ≤ (wk ts i).prio
          · have HT := Lib.hid (wantedK_yes (ls := ls) (s := s) hki hp)
            generalize (wk ts k).period = p at *
            generalize (wk ts k).cost = c at *
            generalize wantedK ts ls i s k = T at *
            obtain ⟨M, hM⟩ : ∃ M, up s p * c = M := ⟨_, rfl⟩
            rw [hM] at g3 HT
            have hmul : ((up s p : Nat) : Int) * (c : Int) = (M : Int) := by rw [← Int.natCast_mul, hM]
            clear hM hki
            go_wp2
            go_quiet (fail)
            go_wp2
            go_quiet ((go_at_call 62; exact quiet_more (tickUp_any s p _ hs1 g1)))
            go_wp2
            go_roundw
            case rel => exact ⟨k + 1, by omega, by go_num, by rw [HT.out]; go_num, HB.out.trans ((((Below.refl _ _).alloc (Nat.le_refl _) _).mono HB.out.size).trans ⟨rfl, rfl, rfl, Nat.le_refl _, fun _ _ => rfl⟩)⟩
            case measure => simp [intOf] <;> omega
          · have HT : Hid (wantedK ts ls i s (k + 1) = wantedK ts ls i s k) := wantedK_no (fun h => hp h.2)
            clear hki
            go_wp2
            go_quiet (fail)
            go_wp2
            go_roundw
            case rel => exact ⟨k + 1, by omega, by go_num, by rw [HT.out], HB.out.trans ((((Below.refl _ _).alloc (Nat.le_refl _) _).mono HB.out.size).trans ⟨rfl, rfl, rfl, Nat.le_refl _, fun _ _ => rfl⟩)⟩
            case measure => simp [intOf] <;> omega
      · obtain rfl : k = ts.length := by omega
        go_wp2
        go_ret
        exact ⟨rfl, HB.out⟩

set_option maxHeartbeats 4000000 in
theorem wants_any (ao : Option Addr) (cap : Nat) (ts : List WorkM) (bo : Option Addr) (cap2 : Nat) (ls : List ServM) (i s : Nat) (w : World) (h : TasksAt w ao ts) (h2 : LoadsAt w bo ls) (hs : WantOk ts ls i s) :
    Calls Try.prog 45 #[.slice ao ts.length cap, .slice bo ls.length cap2, .int .i64 i, .int .u64 s] w fun e w' => e = .returned (.int .u64 (wanted ts ls i s)) ∧ ∃ n, w' = w.drewN n := by
  have H := Lib.hid h
  have H2 := Lib.hid h2
  have HS := Lib.hid hs
  have hs1 : s ≤ 4611686018427387904 := by have := hs.span; omega
  have hn := h.1
  have hi := hs.lt
  obtain ⟨b, off, rfl, hbl, hc⟩ := h.2 (by omega)
  obtain ⟨i0, i1, i2, i3⟩ := hc i hi
  have hic : (wk ts i).cost ≤ 1073741824 := (work_bd hs.okt hi).1
  have htl := taken_le hs.take
  have hii : (i : Int) < (ts.length : Int) := by omega
  have HC := Lib.hid hc
  clear h h2 hs hc i2 i3 i0
  have hw0 : Hid (((wk ts i).cost : Int) + (taken ls s : Int) = ((wantedK ts ls i s 0 : Nat) : Int)) := by show _ = _; rfl
  go_enter Try.func45, Try.ntmps45
  go_upto_region 1 with (fail)
  go_cut [9] (fun s9 wx => s9 = .int .u64 (wantedK ts ls i s 0) ∧ ∃ d, wx = w.drewN d)
  case first =>
    go_quiet ((go_at_call 57; exact quiet_less (load_any _ _ ls s _ (H2.out.later (Below.same_drawn _)) HS.out.take)))
    go_wp2_with fail
    go_meet
    exact ⟨by rw [← hw0.out]; try rw [IntWalk.u64_in _ ⟨by omega, by omega⟩], _, rfl⟩
  case rest =>
    obtain ⟨rfl, d0, hwc⟩ := hcut
    have HWC : Box (wc = w.drewN d0) := ⟨hwc⟩
    clear hwc i1
    go_wp2
    go_loopw [9, 10] (fun u j wr => ∃ k d : Nat, k ≤ ts.length ∧ j = .int .i64 k ∧ u = .int .u64 (wantedK ts ls i s k) ∧ wr = w.drewN d) (fun _ j _ => ts.length - (intOf j).toNat)
    case atStart => exact ⟨0, d0, Nat.zero_le _, rfl, rfl, HWC.out⟩
    case round =>
      obtain ⟨k, d, hk, rfl, rfl, hwr⟩ := hrel
      have HW : Box (wr = w.drewN d) := ⟨hwr⟩
      by_cases hlt : k < ts.length
      · obtain ⟨c0, c1, c2, c3⟩ := HC.out k hlt
        obtain ⟨j0, _, _, _⟩ := HC.out i hi
        have e0 : wr.cell? ⟨b, off + k * 4, none⟩ = some (.int .i64 (wk ts k).prio) := by rw [hwr]; exact c0
        have e1 : wr.cell? ⟨b, off + k * 4 + 1, none⟩ = some (.int .u64 (wk ts k).cost) := by rw [hwr]; exact c1
        have e2 : wr.cell? ⟨b, off + k * 4 + 2, none⟩ = some (.int .u64 (wk ts k).period) := by rw [hwr]; exact c2
        have ei : wr.cell? ⟨b, off + i * 4, none⟩ = some (.int .i64 (wk ts i).prio) := by rw [hwr]; exact j0
        obtain ⟨g1, g2, g3⟩ := HS.out.one hlt
        have g4 := HS.out.bd hk
        have hkk0 : (k : Int) < (ts.length : Int) := by omega
        clear c0 c1 c2 c3 j0 hwr
        by_cases hki : k = i
        · have HT : Hid (wantedK ts ls i s (k + 1) = wantedK ts ls i s k) := wantedK_no (fun h => h.1 hki)
          have hkk : ((k : Int) != (i : Int)) = false := by simp [hki]
          have hkk2 : ((k : Int) == (i : Int)) = true := by simp [hki]
          clear hki
          go_wp2
          go_quiet (fail)
          go_wp2
          go_roundw
          case rel => exact ⟨k + 1, _, by omega, by go_num, by rw [HT.out], by rw [HW.out]; exact drewN_add _ _ _⟩
          case measure => simp [intOf] <;> omega
        · have hkk : ((k : Int) != (i : Int)) = true := by simp; omega
          have hkk2 : ((k : Int) == (i : Int)) = false := by simp; omega
          by_cases hp : (wk ts k).prio ≤ (wk ts i).prio
          · have HT := Lib.hid (wantedK_yes (ls := ls) (s := s) hki hp)
            generalize (wk ts k).period = p at *
            generalize (wk ts k).cost = c at *
            generalize wantedK ts ls i s k = T at *
            obtain ⟨M, hM⟩ : ∃ M, up s p * c = M := ⟨_, rfl⟩
            rw [hM] at g3 HT
            have hmul : ((up s p : Nat) : Int) * (c : Int) = (M : Int) := by rw [← Int.natCast_mul, hM]
            clear hM hki
            go_wp2
            go_quiet (fail)
            go_wp2
            go_quiet ((go_at_call 32; exact quiet_more (refUp_any s p _ hs1 g1)))
            go_wp2
            go_roundw
            case rel => exact ⟨k + 1, _, by omega, by go_num, by rw [HT.out]; go_num, by rw [HW.out]; exact drewN_add _ _ _⟩
            case measure => simp [intOf] <;> omega
          · have HT : Hid (wantedK ts ls i s (k + 1) = wantedK ts ls i s k) := wantedK_no (fun h => hp h.2)
            clear hki
            go_wp2
            go_quiet (fail)
            go_wp2
            go_roundw
            case rel => exact ⟨k + 1, _, by omega, by go_num, by rw [HT.out], by rw [HW.out]; exact drewN_add _ _ _⟩
            case measure => simp [intOf] <;> omega
      · obtain rfl : k = ts.length := by omega
        clear hwr
        go_wp2
        go_ret
        exact ⟨rfl, d, HW.out⟩

end Go.Proofs.Ytbedknfapiadbaa
