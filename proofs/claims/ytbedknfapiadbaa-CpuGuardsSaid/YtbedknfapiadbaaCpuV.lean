/-
  The walks of the document's answer times.
-/
import Derived.Test.YtbedknfapiadbaaCpuU
namespace Go.Proofs.Ytbedknfapiadbaa
open Go.RowKit

set_option maxHeartbeats 4000000 in
theorem refTime_any (ao : Option Addr) (n cap : Nat) (ts : List WorkM) (hn : ts.length = n) (bo : Option Addr) (m cap2 : Nat) (ls : List ServM) (hm : ls.length = m) (i : Nat) (w : World) (h : TasksAt w ao ts) (h2 : LoadsAt w bo ls) (hs : SetOk ts ls) (hi : i < n) :
    Calls Try.prog 33 #[.slice ao n cap, .slice bo m cap2, .int .i64 i] w fun e w' => e = .returned (timeV (timeM ts ls i)) ∧ Below w.heap.size w w' := by
  have H := Box.mk h
  have H2 := Box.mk h2
  have HS := Box.mk hs
  have hnn := h.1
  have HT := Box.mk (Tasks_n ao cap n ts hn w h)
  have HLD : Box (∀ w', Below w.heap.size w w' → Calls Try.prog 10 #[.slice bo m cap2] w' fun e w'' => e = .returned (.bool true) ∧ Below w'.heap.size w' w'') := ⟨fun w' hb => by
    have := Loads_n bo cap2 m ls hm w' (h2.later hb)
    rwa [hs.okl] at this⟩
  have hT := HT.out
  rw [hs.okt] at hT
  have HT := Box.mk hT
  obtain ⟨b, off, rfl, hbl, hc⟩ := h.2 (by omega)
  obtain ⟨i0, i1, i2, i3⟩ := hc i (by omega)
  have hok := WorkM.ok_iff.1 (work_get hs.okt (show i < ts.length by omega))
  have hcd : (wk ts i).cost ≤ (wk ts i).dead := by omega
  have hd30 : (wk ts i).dead ≤ 1073741824 := by omega
  have HI1 := Box.mk i1
  have HI3 := Box.mk i3
  have hii : (i : Int) < (n : Int) := by omega
  have hni : ¬ n ≤ i := by omega
  have HWA : Box (∀ (R : Nat) (wr : World), Below w.heap.size w wr → R ≤ (wk ts i).dead → Calls Try.prog 45 #[.slice (some ⟨b, off, none⟩) n cap, .slice bo m cap2, .int .i64 i, .int .u64 R] wr fun e w' => e = .returned (.int .u64 (wanted ts ls i R)) ∧ Below wr.heap.size wr w') := ⟨fun R wr hb hR => by
    subst hn
    subst hm
    refine (wants_any _ cap ts _ cap2 ls i R wr (h.later hb) (h2.later hb) (hs.want hi hR)).mono fun e w' hx => ?_
    obtain ⟨e1, k, rfl⟩ := hx
    exact ⟨e1, Below.same_drawn _⟩⟩
  have HNN := Box.mk hn
  clear h h2 hs hc i0 i2 hok i3 i1 hT hn hm
  go_enter Try.func33, Try.ntmps33
  go_upto_region 3 with (first
    | (go_at_call 23; refine HT.out.mono ?_; rintro e w1 ⟨rfl, hb1⟩)
    | (go_at_call 10; refine (HLD.out _ hb1).mono ?_; rintro e w2 ⟨rfl, hb2⟩))
  have HB2 := Box.mk (hb1.trans (hb2.mono hb1.size))
  have i1 := (HB2.out.cell (p := ⟨b, off + i * 4 + 1, none⟩) hbl).trans HI1.out
  clear hb1 hb2
  go_wp2
  go_loopw [8, 9] (fun r _ wr => ∃ R : Nat, r = .int .u64 R ∧ (wk ts i).cost ≤ R ∧ R ≤ wanted ts ls i R ∧ (∀ t, (wk ts i).cost ≤ t → t < R → wanted ts ls i t ≠ t) ∧ Below w.heap.size w wr) (fun r _ _ => (wk ts i).dead + 1 - (intOf r).toNat)
  case atStart => exact ⟨_, rfl, Nat.le_refl _, wanted_cost _ _ _ _, fun t h1 h2 => by omega, HB2.out⟩
  case round =>
    obtain ⟨R, rfl, hcR, hRw, hall, hb⟩ := hrel
    have HA := Box.mk hall
    have HB := Box.mk hb
    have i3 := (HB.out.cell (p := ⟨b, off + i * 4 + 3, none⟩) hbl).trans HI3.out
    clear hall hb i1
    by_cases hRd : R ≤ (wk ts i).dead
    · have HW := Box.mk (HWA.out R wr HB.out hRd)
      have hRdi : (R : Int) ≤ (wk ts i).dead := by omega
      obtain ⟨N, hN⟩ : ∃ N, wanted ts ls i R = N := ⟨_, rfl⟩
      have HN : Box (wanted ts ls i R = N) := ⟨hN⟩
      rw [hN] at hRw HW
      clear hN
      by_cases heq : N = R
      · have HT : Box (timeM ts ls i = some R) := ⟨time_found HA.out hcR hRd (by rw [HN.out, heq])⟩
        have he' : ((N : Int) == (R : Int)) = true := by simp [heq]
        clear heq
        go_wp2_with (go_at_call 45; (with_reducible refine HW.out.mono ?_); rintro e w1 ⟨rfl, hb1⟩)
        go_ret2
        rw [HT.out]
        exact ⟨rfl, HB.out.trans (hb1.mono HB.out.size)⟩
      · have he' : ((N : Int) == (R : Int)) = false := by simp; omega
        have HST : Box (∀ t, (wk ts i).cost ≤ t → t < N → wanted ts ls i t ≠ t) := ⟨by
          have := time_step HA.out (by rw [HN.out]; exact heq)
          rw [HN.out] at this
          exact this⟩
        have HWM : Box (N ≤ wanted ts ls i N) := ⟨by
          have := wanted_mono (ts := ts) (ls := ls) (i := i) (s := R) (s' := N) (by omega)
          rw [HN.out] at this
          exact this⟩
        have hRN : R < N := by omega
        clear heq
        go_wp2_with (go_at_call 45; (with_reducible refine HW.out.mono ?_); rintro e w1 ⟨rfl, hb1⟩)
        go_roundw
        case rel => exact ⟨N, rfl, by omega, HWM.out, HST.out, HB.out.trans (hb1.mono HB.out.size)⟩
        case measure => simp [intOf] <;> omega
    · have hRdi : ¬ (R : Int) ≤ (wk ts i).dead := by omega
      have HT : Box (timeM ts ls i = none) := ⟨IsTime.eq (o := none) (fun t h1 h2 => HA.out t h1 (by omega))⟩
      go_wp2
      go_ret2
      rw [HT.out]
      exact ⟨rfl, HB.out⟩

set_option maxHeartbeats 4000000 in
theorem refAll_any (ao : Option Addr) (n cap : Nat) (ts : List WorkM) (hn : ts.length = n) (bo : Option Addr) (m cap2 : Nat) (ls : List ServM) (hm : ls.length = m) (w : World) (h : TasksAt w ao ts) (h2 : LoadsAt w bo ls) (hs : SetOk ts ls) :
    Calls Try.prog 18 #[.slice ao n cap, .slice bo m cap2] w fun e w' => e = .returned (.bool (allM ts ls)) ∧ Below w.heap.size w w' := by
  have HS := Box.mk hs
  have hnn := h.1
  have hT := Tasks_n ao cap n ts hn w h
  rw [hs.okt] at hT
  have HT := Box.mk hT
  have HLD : Box (∀ w', Below w.heap.size w w' → Calls Try.prog 10 #[.slice bo m cap2] w' fun e w'' => e = .returned (.bool true) ∧ Below w'.heap.size w' w'') := ⟨fun w' hb => by
    have := Loads_n bo cap2 m ls hm w' (h2.later hb)
    rwa [hs.okl] at this⟩
  have HTI : Box (∀ (k : Nat) (wr : World), k < n → Below w.heap.size w wr → Calls Try.prog 33 #[.slice ao n cap, .slice bo m cap2, .int .i64 k] wr fun e w' => e = .returned (timeV (timeM ts ls k)) ∧ Below wr.heap.size wr w') := ⟨fun k wr hk hb => refTime_any ao n cap ts hn bo m cap2 ls hm k wr (h.later hb) (h2.later hb) hs hk⟩
  have HNN := Box.mk hn
  rw [hn] at hnn
  clear h h2 hs hT hn hm
  go_enter Try.func18, Try.ntmps18
  go_upto_region 3 with (first
    | (go_at_call 23; refine HT.out.mono ?_; rintro e w1 ⟨rfl, hb1⟩)
    | (go_at_call 10; refine (HLD.out _ hb1).mono ?_; rintro e w2 ⟨rfl, hb2⟩))
  have HB2 := Box.mk (hb1.trans (hb2.mono hb1.size))
  clear hb1 hb2
  go_wp2
  go_loopw [5, 6, 7] (fun i _ _ wr => ∃ k : Nat, k ≤ n ∧ i = .int .i64 k ∧ (∀ j, j < k → (timeM ts ls j).isSome = true) ∧ Below w.heap.size w wr) (fun i _ _ _ => n - (intOf i).toNat)
  case atStart => exact ⟨0, Nat.zero_le _, rfl, fun j hj => by omega, HB2.out⟩
  case round =>
    obtain ⟨k, hk, rfl, hx, hb⟩ := hrel
    have HX := Box.mk hx
    have HB := Box.mk hb
    clear hx hb
    by_cases hlt : k < n
    · have hlti : (k : Int) < n := by omega
      have hti := HTI.out k wr hlt HB.out
      cases hR : timeM ts ls k with
      | none =>
        rw [hR] at hti
        simp only [timeV, Option.getD, Option.isSome] at hti
        have HTK := Box.mk hti
        have HF : Box (allM ts ls = false) := ⟨Bool.eq_false_iff.2 (fun h => by
          have := (allM_iff HS.out).1 h k (by rw [HNN.out]; exact hlt)
          rw [hR] at this
          simp at this)⟩
        clear hti hR
        go_wp2_with (go_at_call 33; (with_reducible refine HTK.out.mono ?_); rintro e w3 ⟨rfl, hb3⟩)
        go_ret
        rw [HF.out]
        exact ⟨rfl, HB.out.trans (hb3.mono HB.out.size)⟩
      | some R =>
        rw [hR] at hti
        simp only [timeV, Option.getD, Option.isSome] at hti
        have HTK := Box.mk hti
        have HR := Box.mk hR
        clear hti hR
        go_wp2_with (go_at_call 33; (with_reducible refine HTK.out.mono ?_); rintro e w3 ⟨rfl, hb3⟩)
        go_roundw
        case rel => exact ⟨k + 1, by omega, by go_num, fun j hj => by
          by_cases e : j = k
          · rw [e, HR.out]; rfl
          · exact HX.out j (by omega), HB.out.trans (hb3.mono HB.out.size)⟩
        case measure => simp [intOf] <;> omega
    · have HF : Box (allM ts ls = true) := ⟨(allM_iff HS.out).2 (fun j hj => HX.out j (by rw [HNN.out] at hj; omega))⟩
      go_wp2
      go_ret
      rw [HF.out]
      exact ⟨rfl, HB.out⟩

set_option maxHeartbeats 2000000 in
theorem wake_big (y : Lay) (M : CpuM) (i : Int) (n : Nat) (w : World) (h : CpuAt w y M) (hw : ∀ s ∈ M.servers, s.work ≤ 1048576) (hn : n ≤ 18446744073709551615) :
    Calls Try.prog 12 #[.pointer (some ⟨y.c, 0, none⟩), .int .i64 i, .int .u64 n] w fun e w' => e = .returned (.int .i64 (M.wakeC i)) ∧ CPost w y (M.wake i n) w' := by
  have c1 := h.c1
  have hs := h.sarr.small
  obtain ⟨m, hm⟩ : ∃ m, M.servers.length = m := ⟨_, rfl⟩
  have H := Box.mk h
  rw [hm] at c1 hs
  by_cases h0 : i < 0
  · have HV : Box (M.wakeC i = 1 ∧ M.wake i n = M) := ⟨⟨by unfold CpuM.wakeC; rw [if_neg (by omega)], by unfold CpuM.wake; rw [if_neg (by omega)]⟩⟩
    clear h hm hw
    go_enter Try.func12, Try.ntmps12
    go_wp2
    go_ret
    rw [HV.out.1, HV.out.2]
    exact ⟨rfl, CPost.refl H.out⟩
  · obtain ⟨k, rfl⟩ : ∃ k : Nat, i = k := ⟨i.toNat, by omega⟩
    by_cases hk : k < m
    · obtain ⟨s, hsv⟩ : ∃ s, M.servers[k]? = some s := ⟨M.servers[k]'(by omega), by simp [hm, hk]⟩
      have hsw := hw s (List.mem_of_getElem? hsv)
      have HV : Box (M.wakeC k = 0 ∧ M.wake k n = { M with servers := M.servers.set k (s.wake n) }) := ⟨⟨by unfold CpuM.wakeC; rw [if_pos (by omega)], by unfold CpuM.wake; rw [if_pos (by omega)]; simp [hsv]⟩⟩
      obtain ⟨g, hg, _, hnc, hc, hcell⟩ := h.sarr.get (i := k) (by omega)
      obtain ⟨ho, hblk, hbud⟩ := h.srv k s hsv
      have HBK := Box.mk hblk
      have e1 := cell_blk hblk 1
      simp only [List.getElem?_toArray, List.getElem?_cons_zero, List.getElem?_cons_succ] at e1
      have f1 := free_blk hblk 1
      have HBU := Box.mk hbud
      have HO := Box.mk ho
      rw [hg] at c1
      rw [hm] at hnc
      obtain ⟨W, hW⟩ : ∃ W, s.work = W := ⟨_, rfl⟩
      have HWK : Box (s.wake n = ⟨s.bud, W + min n (1048576 - W)⟩) := ⟨by rw [← hW]; rfl⟩
      rw [hW] at e1 hsw
      have hsub : IntKind.u64.wrap (1048576 - (W : Int)) = ((1048576 - W : Nat) : Int) := by rw [IntWalk.u64_in _ (by omega)]; omega
      obtain ⟨D, hD⟩ : ∃ D, 1048576 - W = D := ⟨_, rfl⟩
      rw [hD] at hsub HWK
      obtain ⟨Z, hZ⟩ : ∃ Z, W + min n D = Z := ⟨_, rfl⟩
      have hz : (W : Int) + (if D < n then (D : Int) else (n : Int)) = (Z : Int) := by rw [← hZ]; split <;> omega
      rw [hZ] at HWK
      have HZ := Box.mk hz
      have hZb : Z ≤ 1048576 := by omega
      clear h hm hsv hg h0 hw hD hZ hblk hbud ho hW hz
      go_enter Try.func12, Try.ntmps12
      go_upto_region 4 with fail
      go_region
      rw [HZ.out, show IntKind.u64.wrap (Z : Int) = (Z : Int) from IntWalk.u64_in _ (by omega)]
      have HE := Box.mk (wake_end H.out (s' := s.wake n) HO.out HBK.out HBU.out (Z := Z) (by rw [HWK.out]) (by rw [HWK.out]))
      generalize (w.setCell ⟨y.sp k, 1, none⟩ (.int .u64 Z)).drew = V at HE ⊢
      go_wp2
      all_goals
        go_ret
        rw [HV.out.1, HV.out.2]
        exact ⟨rfl, HE.out⟩
    · have HV : Box (M.wakeC k = 1 ∧ M.wake k n = M) := ⟨⟨by unfold CpuM.wakeC; rw [if_neg (by omega)], by unfold CpuM.wake; rw [if_pos (by omega)]; simp [hm, hk]⟩⟩
      clear h hm h0 hw
      go_enter Try.func12, Try.ntmps12
      go_wp2
      go_ret
      rw [HV.out.1, HV.out.2]
      exact ⟨rfl, CPost.refl H.out⟩

theorem cwake_big (w0 w : World) (c : Nat) (M : CpuM) (X : List (Nat × Obj)) (h : CSt w0 w c M X) (i : Int) (n : Nat) (hw : ∀ s ∈ M.servers, s.work ≤ 1048576) (hn : n ≤ 18446744073709551615) : Calls Try.prog 12 #[.pointer (some ⟨c, 0, none⟩), .int .i64 i, .int .u64 n] w fun e w' => e = .returned (.int .i64 (M.wakeC i)) ∧ CSt w0 w' c (M.wake i n) X := by
  obtain ⟨y, rfl, h2, h3, h4, h5⟩ := h
  exact (wake_big y M i n w h2 hw hn).mono fun e w' hx => ⟨hx.1, CSt.post h2 h3 h4 h5 hx.2⟩

end Go.Proofs.Ytbedknfapiadbaa
