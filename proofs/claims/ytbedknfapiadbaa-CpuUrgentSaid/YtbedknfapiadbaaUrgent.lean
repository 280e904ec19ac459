/-
  CpuUrgent: as long as a job is there, and no server runs, the most urgent one runs; of alike ones the one that was released first. No condition but the statement's.
-/
import Derived.Test.YtbedknfapiadbaaCpuU
import Derived.Test.YtbedknfapiadbaaUrgentP
import Derived.Test.YtbedknfapiadbaaRows
import Derived.Deep.DeepCutAuto
import Derived.Deep.CutBlock
import Derived.BigQuiet
namespace Go.Proofs.Ytbedknfapiadbaa.cpuUrgent
open Go.ChangeShapes Go.WideShapes Go.ChangeAt Go.RowKit Go.Proofs.Ytbedknfapiadbaa

theorem tailC {w0 w : World} {c : Nat} {M : CpuM} {p : Nat × Obj} {X : List (Nat × Obj)} (h : CSt w0 w c M (p :: X)) : CSt w0 w c M X := by
  obtain ⟨y, h1, h2, h3, h4, h5⟩ := h
  exact ⟨y, h1, h2, h3, h4, fun q hq => h5 q (List.mem_cons_of_mem _ hq)⟩

set_option maxHeartbeats 16000000 in
set_option maxRecDepth 100000 in
theorem walk (a0 : Option Addr) (n cap0 : Nat) (z0 : Nat → Nat → Int) (a1 : Option Addr) (m cap1 : Nat) (z1 : List Int) (w : World) (g0 : ArgStructs [.i64, .u64, .u64, .u64] w a0 n z0) (g1 : ArgInts .u8 w a1 m z1) :
    Calls Try.prog 8 #[.slice a0 n cap0, .slice a1 m cap1] w fun e w' => e = .returned (.bool true) ∧ Below w.heap.size w w' := by
  obtain ⟨ts, hn, hT⟩ := tasks_of_arg g0
  have HT := Box.mk hT
  have HG := Box.mk g1
  have hnn := g0.1
  have hmm := g1.2.1
  have HN := Box.mk hn
  clear g0 g1 hT hn
  go_enter Try.func8, Try.ntmps8
  go_upto_region 3 with (go_at_call 9; refine (awake17_any _).mono ?_; rintro e w1 ⟨rfl, hb1⟩)
  have HB1 := Box.mk hb1
  clear hb1
  have hMAY := may17_all a0 n cap0 ts HN.out none 0 0 [] rfl w1 (HT.out.later HB1.out) ⟨by simp, fun h => absurd h (by simp)⟩
  have hol : okLoads [] = true := by rfl
  rw [hol, Bool.and_true] at hMAY
  clear hol
  by_cases hok : okTasks ts = true
  · rw [hok] at hMAY
    have HMAY := Box.mk hMAY
    have HOK := Box.mk hok
    clear hMAY hok
    have hn32 : n ≤ 32 := by rw [← HN.out]; exact (okTasks_iff.1 HOK.out).1
    by_cases hm0 : m = 0
    · have hz : ((m : Int) == 0) = true := by simp [hm0]
      clear hm0
      go_wp2_with (go_at_call 16; refine HMAY.out.mono ?_; rintro e w2 ⟨rfl, hb2⟩)
      go_ret
      exact ⟨rfl, HB1.out.trans (hb2.mono HB1.out.size)⟩
    · have hz : ((m : Int) == 0) = false := beq_eq_false_iff_ne.2 (by omega)
      by_cases hn0 : n = 0
      · have hzn : ((n : Int) == 0) = true := by simp [hn0]
        clear hm0 hn0
        go_wp2_with (go_at_call 16; refine HMAY.out.mono ?_; rintro e w2 ⟨rfl, hb2⟩)
        go_ret
        exact ⟨rfl, HB1.out.trans (hb2.mono HB1.out.size)⟩
      · have hzn : ((n : Int) == 0) = false := beq_eq_false_iff_ne.2 (by omega)
        have HTK : Box (∀ w', Below w.heap.size w w' → Calls Try.prog 23 #[.slice a0 n cap0] w' fun e w'' => e = .returned (.bool true) ∧ Below w'.heap.size w' w'') := ⟨fun w' hb => by
          have := Tasks_n a0 cap0 n ts HN.out w' (HT.out.later hb)
          rwa [HOK.out] at this⟩
        go_upto_region 5 with (first
          | (go_at_call 16; refine HMAY.out.mono ?_; rintro e w2 ⟨rfl, hb2⟩; have HB2 := Box.mk (HB1.out.trans (hb2.mono HB1.out.size)); clear hb2)
          | (go_at_call 23; refine (HTK.out _ HB2.out).mono ?_; rintro e w3 ⟨rfl, hb3⟩; have HB3 := Box.mk (HB2.out.trans (hb3.mono HB2.out.size)); clear hb3))
        have HNW := Box.mk (cpuNew_any a0 n cap0 ts HN.out none 0 0 [] rfl w3 (HT.out.later HB3.out) ⟨by simp, fun h => absurd h (by simp)⟩ HOK.out rfl)
        clear hz hzn
        have hmk := makeInts n (by omega)
        go_upto_region 6 with (go_at_call 11; refine HNW.out.mono ?_; rintro e w4 ⟨c, y, rfl, hns⟩; have HS := Box.mk (CSt.of_new hns HB3.out); clear hns)
        clear HNW HTK HMAY HB2 HB3
        go_upto_region 9 with fail
        have HSA := Box.mk (HS.out.alloc (.cells (rowV .i64 (List.replicate n 0)) 3))
        have HBB : Box (w.heap.size ≤ w4.heap.size) := ⟨HS.out.below.size⟩
        generalize w4.alloc (.cells (rowV .i64 (List.replicate n 0)) 3) = V at HSA ⊢
        generalize w4.heap.size = B at HSA HBB ⊢
        clear HS hmk
        obtain ⟨b1, off1, rfl, hbw1, hcell1⟩ := HG.out.get (by omega)
        have HC1 := Box.mk hcell1
        clear hcell1
        go_wp2
        go_loopw [8, 9, 10, 11, 12, 13, 14, 15, 16] (fun i _ _ _ _ _ _ _ _ wr => ∃ (t : Nat) (M : CpuM) (wh : List Int), t ≤ 100 ∧ i = .int .i64 t ∧ M.now = t ∧ UInv ts M wh M.now ∧ CSt w wr c M [(B, .cells (rowV .i64 wh) 3 (0, 0))]) (fun i _ _ _ _ _ _ _ _ _ => 100 - (intOf i).toNat)
        case atStart => exact ⟨0, newM ts [], List.replicate n 0, by omega, rfl, rfl, (by rw [← HN.out]; exact UInv.start HOK.out), HSA.out⟩
        case round =>
          obtain ⟨t, M, wh, ht, rfl, hnow, hu, hs⟩ := hrel
          have HU := Box.mk hu
          have HNOW := Box.mk hnow
          have HS := Box.mk hs
          clear hu hnow hs
          by_cases hlt : t < 100
          · obtain ⟨K, hK⟩ : ∃ K, t % m = K := ⟨_, rfl⟩
            have hKm : K < m := hK ▸ Nat.mod_lt _ (by omega)
            have hrem1 : (t : Int) % (m : Int) = (K : Int) := by rw [← hK]; simp
            have xz := (HS.out.below.cell (p := ⟨b1, off1 + K, none⟩) hbw1).trans (HC1.out K hKm)
            have hx8 := HG.out.u8 K
            obtain ⟨x, hx⟩ : ∃ x : Nat, zv z1 K = x := ⟨(zv z1 K).toNat, by omega⟩
            rw [hx] at xz hx8
            obtain ⟨J, hJ⟩ : ∃ J, x % n = J := ⟨_, rfl⟩
            have hJn : J < n := hJ ▸ Nat.mod_lt _ (by omega)
            have hrem2 : (x : Int) % (n : Int) = (J : Int) := by rw [← hJ]; simp
            have hti : (t : Int) < 100 := by omega
            clear hK hx hJ
            go_upto_region 13 with fail
            rw [hrem2]
            clear hrem1 hrem2 xz hKm hx8
            obtain ⟨q4, hq4⟩ : ∃ q, t % 4 = q := ⟨_, rfl⟩
            have hrem4 : (t : Int) % 4 = (q4 : Int) := by omega
            obtain ⟨D, hD⟩ : ∃ D, 1 + q4 = D := ⟨_, rfl⟩
            have hDi : (1 : Int) + (q4 : Int) = (D : Int) := by omega
            have hq44 : q4 < 4 := by omega
            clear hq4
            have hfa := HU.out.inv.facts (by rw [HNOW.out]; omega)
            have hRL : (M.relC J D ≠ 0 ∧ M.rel J D = M) ∨ (M.relC J D = 0 ∧ (M.rel J D).now = M.now ∧ UInv ts (M.rel J D) (wh.set J M.now) (M.now + 1)) := UInv.rel HU.out J D
            have hre := crelease_st w _ c _ _ HS.out J D hfa.1 hfa.2.1 hfa.2.2
            clear hfa
            generalize hC : M.relC J D = C at hre
            have HRE := Box.mk hre
            clear hre
            go_upto_if 73 with (go_at_call 19; refine HRE.out.mono ?_; rintro e w5 ⟨rfl, hs⟩; have HS5 := Box.mk hs; clear hs)
            clear HRE
            go_cut [] (fun wx => ∃ M' wh', M'.now = t ∧ UInv ts M' wh' (t + 1) ∧ CSt w wx c M' [(B, .cells (rowV .i64 wh') 3 (0, 0))])
            case first =>
              rcases hRL with ⟨hc0, hm0⟩ | ⟨hc0, hn1, hu1⟩
              · have hcz : (C == 0) = false := beq_eq_false_iff_ne.2 (hC ▸ hc0)
                rw [hm0] at HS5
                clear hc0 hm0 hC
                go_wp2
                go_meet
                exact ⟨M, wh, HNOW.out, HU.out.more (by rw [HNOW.out]; omega), HS5.out⟩
              · have hcz : (C == 0) = true := beq_iff_eq.2 (hC ▸ hc0)
                have HU1 := Box.mk hu1
                have HN1 := Box.mk hn1
                clear hc0 hu1 hn1 hC
                have hwl : J < wh.length := by rw [HU.out.whl, HN.out]; exact hJn
                have yb := cell_blk (HS5.out.blk (List.mem_cons_self ..)) J
                rw [rowV_get hwl] at yb
                have yf := free_blk (HS5.out.blk (List.mem_cons_self ..)) J
                go_wp2
                go_meet
                have e1 := HS5.out.set HBB.out (by simp) J (.int .i64 t)
                rw [rowV_set] at e1
                have e2 := HU1.out
                rw [HNOW.out] at e2
                exact ⟨_, _, HN1.out.trans HNOW.out, e2, e1⟩
            case rest =>
              obtain ⟨M', wh', hnow', hu', hs'⟩ := hcut
              have HU' := Box.mk hu'
              have HNOW' := Box.mk hnow'
              have HS' := Box.mk hs'
              clear hu' hnow' hs' HU HS5 HNOW hRL hC
              obtain ⟨b0, off0, rfl, hbl0, hc0⟩ := HT.out.2 (by rw [HN.out]; omega)
              have HC0 := Box.mk hc0
              clear hc0
              go_upto_region 16 with fail
              go_wp2
              go_loopw [10, 11, 12, 13, 14] (fun b k _ _ _ wx => ∃ (k' : Nat) (X : Int), k' ≤ n ∧ k = .int .i64 k' ∧ b = .int .i64 X ∧ Box (bestK ts M' wh' k' = X) ∧ CSt w wx c M' [(B, .cells (rowV .i64 wh') 3 (0, 0))]) (fun _ k _ _ _ _ => n - (intOf k).toNat)
              case atStart => exact ⟨0, -1, by omega, rfl, rfl, ⟨rfl⟩, HS'.out⟩
              case round =>
                obtain ⟨k, X, hk, rfl, rfl, HX, hs⟩ := hrel
                have HS := Box.mk hs
                clear hs
                by_cases hkn : k < n
                · have hkni : (k : Int) < n := by omega
                  have HBS := Box.mk (best_spec ts M' wh' k)
                  have HSTEP : Box (bestK ts M' wh' (k + 1) = if M'.there k = true ∧ (X < 0 ∨ (wk ts k).prio < (wk ts X.toNat).prio ∨ ((wk ts k).prio = (wk ts X.toNat).prio ∧ zv wh' k < zv wh' X.toNat)) then (k : Int) else X) := ⟨by rw [bestK, HX.out]⟩
                  have hjb := cjob_st w _ c _ _ HS.out k
                  cases hjo : M'.jobOf k with
                  | none =>
                    simp only [hjo, jobR] at hjb
                    have HJB := Box.mk hjb
                    have HNX : Box (bestK ts M' wh' (k + 1) = X) := ⟨by rw [HSTEP.out, if_neg (by unfold CpuM.there; rw [hjo]; simp)]⟩
                    clear hjb hjo
                    go_upto_region 20 with (go_at_call 20; refine HJB.out.mono ?_; rintro e w6 ⟨rfl, hs⟩; have HS := Box.mk hs; clear hs)
                    go_quiet (fail)
                    go_wp2
                    go_roundw
                    case rel => exact ⟨k + 1, X, by omega, by go_num, rfl, HNX, HS.out.later (Below.same_drawn _)⟩
                    case measure => simp [intOf] <;> omega
                  | some j =>
                    simp only [hjo, jobR] at hjb
                    have HJB := Box.mk hjb
                    have HTH : Box (M'.there k = true) := ⟨by unfold CpuM.there; rw [hjo]; rfl⟩
                    clear hjb hjo
                    have hwk' : k < wh'.length := by rw [HU'.out.whl, HN.out]; exact hkn
                    rcases HBS.out with ⟨hb1, -⟩ | ⟨i, hik, hb1, -, -⟩
                    · obtain rfl : X = -1 := HX.out.symm.trans hb1
                      have HNX : Box (bestK ts M' wh' (k + 1) = k) := ⟨by rw [HSTEP.out, if_pos ⟨HTH.out, .inl (by omega)⟩]⟩
                      clear hb1
                      go_upto_region 20 with (go_at_call 20; refine HJB.out.mono ?_; rintro e w6 ⟨rfl, hs⟩; have HS := Box.mk hs; clear hs)
                      go_quiet (fail)
                      go_wp2
                      go_roundw
                      case rel => exact ⟨k + 1, k, by omega, by go_num, rfl, HNX, HS.out.later (Below.same_drawn _)⟩
                      case measure => simp [intOf] <;> omega
                    · obtain rfl : X = i := HX.out.symm.trans hb1
                      clear hb1
                      have hwi' : i < wh'.length := by omega
                      have hin : i < n := by omega
                      have hini : (i : Int) < n := by omega
                      have HSTEP2 : Box (bestK ts M' wh' (k + 1) = if ((wk ts k).prio < (wk ts i).prio ∨ ((wk ts k).prio = (wk ts i).prio ∧ zv wh' k < zv wh' i)) then (k : Int) else i) := ⟨by
                        rw [HSTEP.out]
                        simp only [Int.toNat_natCast]
                        by_cases hc : (wk ts k).prio < (wk ts i).prio ∨ ((wk ts k).prio = (wk ts i).prio ∧ zv wh' k < zv wh' i)
                        · rw [if_pos hc, if_pos ⟨HTH.out, .inr hc⟩]
                        · rw [if_neg hc, if_neg (fun h => hc (h.2.resolve_left (by omega)))]⟩
                      clear HBS HTH
                      go_upto_region 20 with (go_at_call 20; refine HJB.out.mono ?_; rintro e w6 ⟨rfl, hs⟩; have HS := Box.mk hs; clear hs)
                      have hii : ¬ (i : Int) < 0 := by omega
                      have d0 := (HS.out.below.cell (p := ⟨b0, off0 + k * 4, none⟩) hbl0).trans (HC0.out k (by rw [HN.out]; omega)).1
                      have d1 := (HS.out.below.cell (p := ⟨b0, off0 + i * 4, none⟩) hbl0).trans (HC0.out i (by rw [HN.out]; omega)).1
                      have yk : _root_.Go.World.cell? _ ⟨B, k, none⟩ = _ := cell_blk (HS.out.blk (List.mem_cons_self ..)) k
                      have yi : _root_.Go.World.cell? _ ⟨B, i, none⟩ = _ := cell_blk (HS.out.blk (List.mem_cons_self ..)) i
                      rw [rowV_get hwk'] at yk
                      rw [rowV_get hwi'] at yi
                      generalize (wk ts k).prio = P at d0 HSTEP2
                      generalize (wk ts i).prio = Q at d1 HSTEP2
                      generalize zv wh' k = Y at yk HSTEP2
                      generalize zv wh' i = Z at yi HSTEP2
                      clear HSTEP
                      by_cases h1 : P < Q
                      · have HNX : Box (bestK ts M' wh' (k + 1) = k) := ⟨by rw [HSTEP2.out, if_pos (.inl h1)]⟩
                        go_quiet (fail)
                        go_wp2
                        go_roundw
                        case rel => exact ⟨k + 1, k, by omega, by go_num, rfl, HNX, HS.out.later (Below.same_drawn _)⟩
                        case measure => simp [intOf] <;> omega
                      · by_cases h2 : P = Q
                        · by_cases h3 : Y < Z
                          · have HNX : Box (bestK ts M' wh' (k + 1) = k) := ⟨by rw [HSTEP2.out, if_pos (.inr ⟨h2, h3⟩)]⟩
                            have h2b : (P == Q) = true := by simp [h2]
                            clear h2
                            go_quiet (fail)
                            go_wp2
                            go_roundw
                            case rel => exact ⟨k + 1, k, by omega, by go_num, rfl, HNX, HS.out.later (Below.same_drawn _)⟩
                            case measure => simp [intOf] <;> omega
                          · have HNX : Box (bestK ts M' wh' (k + 1) = i) := ⟨by rw [HSTEP2.out, if_neg (fun h => h.elim h1 (fun h => h3 h.2))]⟩
                            have h2b : (P == Q) = true := by simp [h2]
                            clear h2
                            go_quiet (fail)
                            go_wp2
                            go_roundw
                            case rel => exact ⟨k + 1, i, by omega, by go_num, rfl, HNX, HS.out.later (Below.same_drawn _)⟩
                            case measure => simp [intOf] <;> omega
                        · have HNX : Box (bestK ts M' wh' (k + 1) = i) := ⟨by rw [HSTEP2.out, if_neg (fun h => h.elim h1 (fun h => h2 h.1))]⟩
                          have h2b : (P == Q) = false := by simp [h2]
                          clear h2
                          go_quiet (fail)
                          go_wp2
                          go_roundw
                          case rel => exact ⟨k + 1, i, by omega, by go_num, rfl, HNX, HS.out.later (Below.same_drawn _)⟩
                          case measure => simp [intOf] <;> omega
                · obtain rfl : k = n := by omega
                  have HTK := Box.mk (ctick_st w _ c _ _ HS.out (HU'.out.inv.ok (by rw [HNOW'.out]; omega)))
                  go_upto_region 23 with (go_at_call 14; refine HTK.out.mono ?_; rintro e w6 ⟨M1, who, nd, nc, a1, c1, a2, c2, a3, c3, hran, rfl, hs⟩; obtain rfl : who = X := (HU'.out.best hran).trans (by rw [HN.out]; exact HX.out); have HU2 := Box.mk (HU'.out.tick hran); obtain ⟨n3, hn3⟩ : ∃ n3, (lateIds (M'.now + 1) M1.tasks M1.tasks.length).length = n3 := ⟨_, rfl⟩; rw [hn3]; have HS := Box.mk hs; clear hs hran hn3)
                  have hs7 := HS.out.alloc (.cells #[.int .i64 who, .slice a1 nd c1, .slice a2 nc c2, .slice a3 n3 c3] 36)
                  generalize hV7 : w6.alloc (.cells #[.int .i64 who, .slice a1 nd c1, .slice a2 nc c2, .slice a3 n3 c3] 36) = V7 at hs7 ⊢
                  clear hV7
                  generalize w6.heap.size = B7 at hs7 ⊢
                  have HS := Box.mk hs7
                  clear hs7
                  have x0 := cell_blk (HS.out.blk (List.mem_cons_self ..)) 0
                  simp only [List.getElem?_toArray, List.getElem?_cons_zero, List.getElem?_cons_succ] at x0
                  go_wp2
                  go_roundw
                  case rel => exact ⟨t + 1, _, _, by omega, by go_num, by show M'.now + 1 = _; rw [HNOW'.out], by have := HU2.out; rw [HNOW'.out] at this ⊢; exact this, tailC HS.out⟩
                  case measure => simp [intOf] <;> omega
          · obtain rfl : t = 100 := by omega
            go_wp2
            go_ret
            exact ⟨rfl, HS.out.below⟩
  · have hok : okTasks ts = false := by simpa using hok
    rw [hok] at hMAY
    have HMAY := Box.mk hMAY
    clear hMAY
    go_wp2_with (go_at_call 16; refine HMAY.out.mono ?_; rintro e w2 ⟨rfl, hb2⟩)
    go_ret
    exact ⟨rfl, HB1.out.trans (hb2.mono HB1.out.size)⟩

/-! The row's step. -/
theorem own : ownKnob Try.prog.godebug = none := by kernel_rfl
theorem laidOut : laidOutB Try.prog = true := by kernel_rfl

set_option maxRecDepth 100000 in
theorem lifted (os : Os) (started : os.Started) (H : Type) (enc : TypeId × Value → H) :
    ReturnsInHanded {} Try.checked os 8 .any (Rows.cpuUrgentSpec.pre6 enc Try.prog Try.f8 Rows.cpuUrgentRow.domain false) (Rows.cpuUrgentSpec.post enc Try.prog Try.f8 false true false false) := by
  refine returnsInHanded_of_change (C := Try.checked) own started (by kernel_rfl) Try.func8
    (ChangeSpec.witness6 (enc := enc) (C := Try.checked) false ⟨#[], #[.slice none 0 0, .slice none 0 0], []⟩ 8 (by kernel_rfl) (by kernel_rfl) (by kernel_rfl) (by kernel_rfl)) ?_
  intro W base args ds gs before hval0 hW hcnd _
  have hval : ∀ (j : Nat) t v, Try.f8.params[j]? = some t → args[j]? = some v → Value.okWide Try.prog W .any base t v := hval0
  have hW' := hW
  obtain ⟨p, q, hA0, hV, rfl, hfz, hnd⟩ := hW
  have hA : DataW.TrodAll enc Try.prog W 0 (fun _ => true) true Try.f8.params.toList args.toList ds p := hA0
  rw [Try.params8] at hA hval
  obtain ⟨v0, vs0, d0, ds0, p0, q0, hargs, rfl, rfl, h0, r0⟩ := trodAll_cons hA
  obtain ⟨v1, vs1, d1, ds1, p1, q1, rfl, rfl, rfl, h1, r1⟩ := trodAll_cons r0
  obtain ⟨rfl, rfl, rfl⟩ := trodAll_nil r1
  obtain rfl : args = #[v0, v1] := by cases args; simp_all
  obtain ⟨rfl, rfl⟩ := trodVars_none hV
  obtain ⟨a0, len0, cap0, rfl⟩ := okWide_slice Try.underlying45 (hval 0 45 v0 rfl rfl)
  have k0 := h0
  have lt0 : ∀ x ∈ p0, x.block < W.heap.size := by obtain ⟨m, hm⟩ := k0; exact DataW.trod_lt m _ _ _ hm
  obtain ⟨z0, w0⟩ := open_structs (ks := [.i64, .u64, .u64, .u64]) Try.underlying45 Try.underlying53 (by kernel_rfl) (by kernel_rfl) (by kernel_rfl) (by decide) h0
  obtain ⟨a1, len1, cap1, rfl⟩ := okWide_slice Try.underlying23 (hval 1 23 v1 rfl rfl)
  have k1 := h1
  have lt1 : ∀ x ∈ p1, x.block < W.heap.size := by obtain ⟨m, hm⟩ := k1; exact DataW.trod_lt m _ _ _ hm
  obtain ⟨z1, w1⟩ : ∃ zs, ArgInts .u8 W a1 len1 zs := by
    obtain ⟨fuel, hf⟩ := h1
    rcases open_ints Try.underlying23 Try.underlying5 (by kernel_rfl) hf with ⟨hcs, _⟩ | ⟨x, l, c, zs, hcs, _, hl, hm, hz, _, hcell, hwz⟩
    · simp [Value.cells] at hcs
      obtain ⟨rfl, rfl, rfl⟩ := hcs
      exact ⟨[], rfl, by omega, by simp, fun h => by omega⟩
    · simp [Value.cells] at hcs
      obtain ⟨rfl, rfl, rfl⟩ := hcs
      exact ⟨zs.take len1, argInts_of_ints hl hm (by simpa using hz) hcell hwz⟩
  clear hA0 hval0
  refine (walk a0 len0 cap0 z0 a1 len1 cap1 z1 W w0 w1).mono fun e W' ⟨he, bel⟩ => ?_
  subst he
  exact ⟨_, rfl, _, _, _, [], _, [], hW', trodAll_mk1 (shut_bool Try.underlying4 _), (trodAll_cons_mk (Below.trod laidOut (by kernel_rfl) (of_decide_eq_true (by kernel_rfl)) k0 bel lt0) (trodAll_cons_mk (Below.trod laidOut (by kernel_rfl) (of_decide_eq_true (by kernel_rfl)) k1 bel lt1) trodAll_mk0)), rfl, bel.frame _, fun h => by cases h⟩

theorem over : Rows.cpuUrgentRow.holds Try.pinned (OpenSpec.ofChange Rows.cpuUrgentSpec) :=
  OpenClaim.holds_of_wide 8 Try.f8 rfl rfl rfl rfl rfl rfl rfl ⟨rfl, rfl, rfl, rfl, rfl⟩ rfl rfl rfl rfl rfl (by kernel_rfl) Try.func8 (by kernel_rfl)
    (of_decide_eq_true (by kernel_rfl)) (by unfold Func.isWrapper; first | (rw [if_pos (by decide +kernel)]; kernel_rfl) | (rw [if_neg (by decide +kernel)]; exact ⟨rfl, rfl⟩))
    (fun os started H enc _ => lifted os started H enc)

/-- The statement. -/
theorem proved : Rows.CpuUrgentSaid := over
#print axioms proved

end Go.Proofs.Ytbedknfapiadbaa.cpuUrgent
