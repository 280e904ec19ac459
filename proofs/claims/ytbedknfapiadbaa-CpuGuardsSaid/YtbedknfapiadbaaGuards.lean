/-
  CpuGuards: if all tasks have an answer time, no job ever misses its time, however much work servers are given, and whatever jobs want, whenever they are released. No condition but the statement's.
-/
import Derived.Test.YtbedknfapiadbaaCpuV
import Derived.Test.YtbedknfapiadbaaGuardP
import Derived.Test.YtbedknfapiadbaaRows
import Derived.Deep.DeepCutAuto
import Derived.Deep.CutBlock
import Derived.BigQuiet
namespace Go.Proofs.Ytbedknfapiadbaa.cpuGuards
open Go.ChangeShapes Go.WideShapes Go.ChangeAt Go.RowKit Go.Proofs.Ytbedknfapiadbaa

theorem tailC {w0 w : World} {c : Nat} {M : CpuM} {p : Nat × Obj} {X : List (Nat × Obj)} (h : CSt w0 w c M (p :: X)) : CSt w0 w c M X := by
  obtain ⟨y, h1, h2, h3, h4, h5⟩ := h
  exact ⟨y, h1, h2, h3, h4, fun q hq => h5 q (List.mem_cons_of_mem _ hq)⟩

set_option maxHeartbeats 16000000 in
set_option maxRecDepth 100000 in
theorem walk (a0 : Option Addr) (n cap0 : Nat) (z0 : Nat → Nat → Int) (a1 : Option Addr) (m cap1 : Nat) (z1 : Nat → Nat → Int) (a2 : Option Addr) (q cap2 : Nat) (z2 : Nat → Nat → Int) (w : World) (g0 : ArgStructs [.i64, .u64, .u64, .u64] w a0 n z0) (g1 : ArgStructs [.i64, .u64] w a1 m z1) (g2 : ArgStructs [.i64, .i64, .u64] w a2 q z2) :
    Calls Try.prog 5 #[.slice a0 n cap0, .slice a1 m cap1, .slice a2 q cap2] w fun e w' => e = .returned (.bool true) ∧ Below w.heap.size w w' := by
  obtain ⟨ts, hn, hT⟩ := tasks_of_arg g0
  obtain ⟨ls, hm, hL⟩ := loads_of_arg g1
  have HT := Box.mk hT
  have HL := Box.mk hL
  have HG := Box.mk g2
  have hnn := g0.1
  have hmm := g1.1
  have hqq := g2.1
  have HN := Box.mk hn
  have HM := Box.mk hm
  clear g0 g1 g2 hT hL hn hm
  go_enter Try.func5, Try.ntmps5
  go_upto_region 3 with (go_at_call 9; refine (awake17_any _).mono ?_; rintro e w1 ⟨rfl, hb1⟩)
  have HB1 := Box.mk hb1
  clear hb1
  have hSM : Calls Try.prog 17 #[.slice a0 n cap0, .slice a1 m cap1] w1 fun e w' => e = .returned (.bool (smallM ts m)) ∧ w1 = w' := by
    have := small_any a0 cap0 ts a1 m cap1 w1 (HT.out.later HB1.out)
    rwa [HN.out] at this
  have hMAY := may17_all a0 n cap0 ts HN.out a1 m cap1 ls HM.out w1 (HT.out.later HB1.out) (HL.out.later HB1.out)
  have HEND : ∀ b1 b2 : Bool, True := fun _ _ => trivial
  clear HEND
  by_cases hsm : smallM ts m = true
  · rw [hsm] at hSM
    have HSM := Box.mk hSM
    clear hSM hsm
    by_cases hok : (okTasks ts && okLoads ls) = true
    · rw [hok] at hMAY
      have HMAY := Box.mk hMAY
      clear hMAY
      rw [Bool.and_eq_true] at hok
      have HSET : Box (SetOk ts ls) := ⟨⟨hok.1, hok.2⟩⟩
      have HOT := Box.mk hok.1
      have HOL := Box.mk hok.2
      clear hok
      have hAL : Box (∀ w', Below w.heap.size w w' → Calls Try.prog 18 #[.slice a0 n cap0, .slice a1 m cap1] w' fun e w'' => e = .returned (.bool (allM ts ls)) ∧ Below w'.heap.size w' w'') := ⟨fun w' hb => refAll_any a0 n cap0 ts HN.out a1 m cap1 ls HM.out w' (HT.out.later hb) (HL.out.later hb) HSET.out⟩
      cases hall : allM ts ls with
      | false =>
        rw [hall] at hAL
        clear hall
        go_wp2_with (first
          | (go_at_call 17; refine HSM.out.mono ?_; rintro e w2 ⟨rfl, rfl⟩)
          | (go_at_call 16; refine HMAY.out.mono ?_; rintro e w3 ⟨rfl, hb3⟩; have HB3 := Box.mk (HB1.out.trans (hb3.mono HB1.out.size)))
          | (go_at_call 18; refine (hAL.out _ HB3.out).mono ?_; rintro e w4 ⟨rfl, hb4⟩))
        go_ret
        exact ⟨rfl, HB3.out.trans (hb4.mono HB3.out.size)⟩
      | true =>
        rw [hall] at hAL
        have HALL : Box (∀ i, i < ts.length → ∃ R, timeM ts ls i = some R) := ⟨fun i hi => Option.isSome_iff_exists.1 ((allM_iff HSET.out).1 hall i hi)⟩
        clear hall
        go_upto_region 5 with (first
          | (go_at_call 17; refine HSM.out.mono ?_; rintro e w2 ⟨rfl, rfl⟩)
          | (go_at_call 16; refine HMAY.out.mono ?_; rintro e w3 ⟨rfl, hb3⟩; have HB3 := Box.mk (HB1.out.trans (hb3.mono HB1.out.size)))
          | (go_at_call 18; refine (hAL.out _ HB3.out).mono ?_; rintro e w4 ⟨rfl, hb4⟩; have HB4 := Box.mk (HB3.out.trans (hb4.mono HB3.out.size))))
        have HNW := Box.mk (cpuNew_any a0 n cap0 ts HN.out a1 m cap1 ls HM.out w4 (HT.out.later HB4.out) (HL.out.later HB4.out) HOT.out HOL.out)
        clear hb3 hb4 hAL HMAY HSM
        go_upto_region 6 with (go_at_call 11; refine HNW.out.mono ?_; rintro e w5 ⟨c, y, rfl, hns⟩; have HS := Box.mk (CSt.of_new hns HB4.out); clear hns)
        clear HNW HB3 HB4
        go_wp2
        go_loopw [9, 10, 11, 12, 13, 14, 15, 16] (fun i _ _ _ _ _ _ _ wr => ∃ (k : Nat) (M : CpuM) (H : Nat → List Nat), k ≤ q ∧ k ≤ 80 ∧ i = .int .i64 k ∧ M.now ≤ 30 * k ∧ GAll ts ls M H ∧ CSt w wr c M []) (fun i _ _ _ _ _ _ _ _ => 80 - (intOf i).toNat)
        case atStart => exact ⟨0, newM ts ls, _, by omega, by omega, rfl, Nat.le_refl _, GAll.start HOT.out HOL.out, HS.out⟩
        case round =>
          clear HS
          obtain ⟨k, M, H, hk, hk80, rfl, hnow, hga, hs⟩ := hrel
          have HGA := Box.mk hga
          have HS := Box.mk hs
          clear hga hs
          by_cases hkq : k < q
          · have hkqi : (k : Int) < q := by omega
            by_cases hk8 : k < 80
            · have hk8i : (k : Int) < 80 := by omega
              have hg2 := HG.out.2.1 k hkq
              obtain ⟨b2, off2, rfl, hbl2, hc2⟩ := HG.out.2.2 (by omega)
              have d0 := (HS.out.below.cell (p := ⟨b2, off2 + k * 3 + 0, none⟩) hbl2).trans (hc2 k hkq 0 .i64 rfl)
              have d1 := (HS.out.below.cell (p := ⟨b2, off2 + k * 3 + 1, none⟩) hbl2).trans (hc2 k hkq 1 .i64 rfl)
              have d2 := (HS.out.below.cell (p := ⟨b2, off2 + k * 3 + 2, none⟩) hbl2).trans (hc2 k hkq 2 .u64 rfl)
              have hu2 := u64_wf (hg2 2 .u64 rfl)
              have hu3 : z2 k 2 ≤ 18446744073709551615 := by
                have := hg2 2 .u64 rfl
                simp [Lit.wf, IntKind.min, IntKind.max, IntKind.signed, IntKind.bits] at this
                omega
              obtain ⟨nn, hnn2⟩ : ∃ nn : Nat, z2 k 2 = nn := ⟨(z2 k 2).toNat, by omega⟩
              rw [hnn2] at d2 hu3
              have hnb : nn ≤ 18446744073709551615 := by omega
              generalize z2 k 0 = kd at d0
              generalize z2 k 1 = id at d1
              simp only [Nat.add_zero] at d0
              clear hc2 hg2 hu2 hu3 hnn2
              go_upto_region 12 with fail
              have hs1 := HS.out.alloc (.cells #[.int .i64 kd, .int .i64 id, .int .u64 nn] 48)
              generalize World.alloc _ (.cells #[.int .i64 kd, .int .i64 id, .int .u64 nn] 48) = V1 at hs1 ⊢
              generalize wr.heap.size = B at hs1 ⊢
              have HS1 := Box.mk hs1
              clear hs1 d0 d1 d2
              have x0 : _root_.Go.World.cell? _ ⟨B, 0, none⟩ = _ := cell_blk (HS1.out.blk (List.mem_cons_self ..)) 0
              have x1 : _root_.Go.World.cell? _ ⟨B, 1, none⟩ = _ := cell_blk (HS1.out.blk (List.mem_cons_self ..)) 1
              have x2 : _root_.Go.World.cell? _ ⟨B, 2, none⟩ = _ := cell_blk (HS1.out.blk (List.mem_cons_self ..)) 2
              simp only [List.getElem?_toArray, List.getElem?_cons_zero, List.getElem?_cons_succ] at x0 x1 x2
              by_cases hk0 : kd = 0
              · have hz0 : (kd == 0) = true := by simp [hk0]
                clear hk0
                have hfa := HGA.out.inv.facts (by omega)
                have hre := crelease_st w _ c _ _ HS1.out id nn hfa.1 hfa.2.1 hfa.2.2
                have HGR := Box.mk (HGA.out.rel id nn)
                have hrn : (M.rel id nn).now = M.now := by
                  rcases HGA.out.inv.relOf id nn with ⟨_, _, hm⟩ | ⟨_, _, _, _, _, _, _, hm⟩ | ⟨_, _, _, _, _, _, _, _, hm⟩ | ⟨_, _, _, _, _, _, _, _, hm⟩ <;> rw [hm]
                clear hfa
                by_cases hst : M.relC id nn = 12
                · obtain ⟨j, hj⟩ : ∃ j, (M.rel id nn).jobOf id = some j := by
                    rcases HGA.out.inv.relOf id nn with ⟨_, hc, _⟩ | ⟨k', t', rfl, ht', _, hj', _, hm⟩ | ⟨_, _, _, _, _, _, _, hc, _⟩ | ⟨_, _, _, _, _, _, _, hc, _⟩
                    · rw [hc] at hst; simp at hst
                    · obtain ⟨j, hj⟩ := Option.isSome_iff_exists.1 hj'
                      refine ⟨j, ?_⟩
                      rw [hm]
                      unfold CpuM.jobOf
                      rw [if_pos (by omega)]
                      simp [ht', hj]
                    · rw [hc] at hst; simp at hst
                    · rw [hc] at hst; simp at hst
                  rw [hst] at hre
                  have HRE := Box.mk hre
                  have HRN := Box.mk hrn
                  have HJ := Box.mk hj
                  clear hre hst hrn hj
                  go_upto_region 14 with (go_at_call 19; (with_reducible refine HRE.out.mono ?_); rintro e w6 ⟨rfl, hs⟩; have HS2 := Box.mk hs; clear hs)
                  have y1 : _root_.Go.World.cell? _ ⟨B, 1, none⟩ = _ := cell_blk (HS2.out.blk (List.mem_cons_self ..)) 1
                  simp only [List.getElem?_toArray, List.getElem?_cons_zero, List.getElem?_cons_succ] at y1
                  have hjb := cjob_st w _ c _ _ HS2.out id
                  simp only [HJ.out, jobR] at hjb
                  have HJB := Box.mk hjb
                  clear hjb
                  go_wp2_with (go_at_call 20; (with_reducible refine HJB.out.mono ?_); rintro e w7 ⟨rfl, hs⟩; have HS3 := Box.mk hs; clear hs)
                  go_roundw
                  case rel => exact ⟨k + 1, _, _, by omega, by omega, by go_num, by rw [HRN.out]; omega, HGR.out, tailC HS3.out⟩
                  case measure => simp [intOf] <;> omega
                · have hsz : (M.relC id nn == 12) = false := beq_eq_false_iff_ne.2 hst
                  generalize M.relC id nn = C at hre hsz
                  have HRE := Box.mk hre
                  have HRN := Box.mk hrn
                  clear hre hst hrn
                  go_wp2_with (go_at_call 19; (with_reducible refine HRE.out.mono ?_); rintro e w6 ⟨rfl, hs⟩; have HS2 := Box.mk hs; clear hs)
                  go_roundw
                  case rel => exact ⟨k + 1, _, _, by omega, by omega, by go_num, by rw [HRN.out]; omega, HGR.out, tailC HS2.out⟩
                  case measure => simp [intOf] <;> omega
              · have hz0 : (kd == 0) = false := beq_eq_false_iff_ne.2 hk0
                clear hk0
                by_cases hk1 : kd = 1
                · have hz1 : (kd == 1) = true := by simp [hk1]
                  clear hk1
                  have HWK := Box.mk (cwake_big w _ c _ _ HS1.out id nn (fun s hs => (HGA.out.inv.srv s hs).2.2) hnb)
                  have HGW := Box.mk (HGA.out.wake id nn)
                  have HWN := Box.mk (wake_len M id nn).2.2
                  go_wp2_with (go_at_call 12; (with_reducible refine HWK.out.mono ?_); rintro e w6 ⟨rfl, hs⟩; have HS2 := Box.mk hs; clear hs)
                  go_roundw
                  case rel => exact ⟨k + 1, _, _, by omega, by omega, by go_num, by rw [HWN.out]; omega, HGW.out, tailC HS2.out⟩
                  case measure => simp [intOf] <;> omega
                · have hz1 : (kd == 1) = false := beq_eq_false_iff_ne.2 hk1
                  clear hk1
                  obtain ⟨mn, hmn⟩ : ∃ mn, min nn 30 = mn := ⟨_, rfl⟩
                  have hmi : (if (30 : Int) < nn then (30 : Int) else (nn : Int)) = (mn : Int) := by rw [← hmn]; split <;> omega
                  have hm30 : mn ≤ 30 := by omega
                  clear hmn
                  go_upto_region 19 with fail
                  go_wp2
                  go_loopw [14, 15, 16] (fun u _ _ wx => ∃ (j : Nat) (M' : CpuM) (H' : Nat → List Nat), j ≤ mn ∧ u = .int .u64 j ∧ M'.now ≤ 30 * k + j ∧ GAll ts ls M' H' ∧ CSt w wx c M' [(B, .cells #[.int .i64 kd, .int .i64 id, .int .u64 nn] 48 (0, 0))]) (fun u _ _ _ => 30 - (intOf u).toNat)
                  case atStart => exact ⟨0, M, H, by omega, rfl, by omega, HGA.out, HS1.out⟩
                  case round =>
                    clear HGA HS1 x0 x1 x2
                    obtain ⟨j, M', H', hj, rfl, hnow', hga', hs'⟩ := hrel
                    have HGA := Box.mk hga'
                    have HS1 := Box.mk hs'
                    clear hga' hs'
                    have x2 : _root_.Go.World.cell? _ ⟨B, 2, none⟩ = _ := cell_blk (HS1.out.blk (List.mem_cons_self ..)) 2
                    simp only [List.getElem?_toArray, List.getElem?_cons_zero, List.getElem?_cons_succ] at x2
                    by_cases hjm : j < mn
                    · have hjmi : (j : Int) < mn := by omega
                      have HTK := Box.mk (ctick_st w _ c _ _ HS1.out (HGA.out.inv.ok (by omega)))
                      go_upto_region 22 with fail
                      go_cut [15, 16] (fun s14 s15 wx => ∃ (B7 : Nat) (who : Int) (a1 : Option Addr) (n1 c1 : Nat) (a2 : Option Addr) (n2 c2 : Nat) (a3 : Option Addr) (c3 : Nat) (M2 : CpuM) (H2 : Nat → List Nat), s14 = .pointer (some ⟨B7, 0, none⟩) ∧ s15 = .int .i64 0 ∧ M2.now ≤ 30 * k + j + 1 ∧ GAll ts ls M2 H2 ∧
                        CSt w wx c M2 ((B7, .cells #[.int .i64 who, .slice a1 n1 c1, .slice a2 n2 c2, .slice a3 0 c3] 36 (0, 0)) :: [(B, .cells #[.int .i64 kd, .int .i64 id, .int .u64 nn] 48 (0, 0))]))
                      case first =>
                        go_wp2_with (go_at_call 14; (with_reducible refine HTK.out.mono ?_); rintro e w6 ⟨M1, who, nd, nc, a1, c1, a2, c2, a3, c3, hran, rfl, hs⟩; obtain ⟨⟨H2, hg2⟩, hl0⟩ := HGA.out.tick HALL.out hran; have hn2 : (lateIds (M'.now + 1) M1.tasks M1.tasks.length).length = 0 := (by rw [hl0]; rfl); rw [hn2]; have HG2 := Box.mk hg2; have HS := Box.mk hs; clear hs hran hn2 hl0 hg2)
                        go_meet
                        exact ⟨_, who, a1, nd, c1, a2, nc, c2, a3, c3, _, H2, rfl, rfl, by show M'.now + 1 ≤ _; omega, HG2.out, HS.out.alloc _⟩
                      case rest =>
                        obtain ⟨B7, who, a1, n1, c1, a2, n2, c2, a3, c3, M2, H2, rfl, rfl, hnow2, hg2, hs⟩ := hcut
                        have HS := Box.mk hs
                        have HG2 := Box.mk hg2
                        clear hs hg2 HTK
                        have y3 := cell_blk (HS.out.blk (List.mem_cons_self ..)) 3
                        simp only [List.getElem?_toArray, List.getElem?_cons_zero, List.getElem?_cons_succ] at y3
                        go_wp2
                        go_roundw
                        case rel => exact ⟨j + 1, M2, H2, by omega, by go_num, by omega, HG2.out, tailC HS.out⟩
                        case measure => simp [intOf] <;> omega
                    · have hjmi : ¬ (j : Int) < mn := by omega
                      go_wp2
                      go_roundw
                      case rel => exact ⟨k + 1, M', H', by omega, by omega, by go_num, by omega, HGA.out, tailC HS1.out⟩
                      case measure => simp [intOf] <;> omega
            · have hk8i : ¬ (k : Int) < 80 := by omega
              go_wp2
              go_ret
              exact ⟨rfl, HS.out.below⟩
          · have hkqi : ¬ (k : Int) < q := by omega
            go_wp2
            go_ret
            exact ⟨rfl, HS.out.below⟩
    · have hok : (okTasks ts && okLoads ls) = false := by simpa using hok
      rw [hok] at hMAY
      have HMAY := Box.mk hMAY
      clear hMAY
      go_wp2_with (first
        | (go_at_call 17; refine HSM.out.mono ?_; rintro e w2 ⟨rfl, rfl⟩)
        | (go_at_call 16; refine HMAY.out.mono ?_; rintro e w3 ⟨rfl, hb3⟩; have HB3 := Box.mk (HB1.out.trans (hb3.mono HB1.out.size))))
      go_ret
      exact ⟨rfl, HB3.out⟩
  · have hsm : smallM ts m = false := by simpa using hsm
    rw [hsm] at hSM
    have HSM := Box.mk hSM
    clear hSM hMAY
    go_wp2_with (go_at_call 17; refine HSM.out.mono ?_; rintro e w2 ⟨rfl, rfl⟩)
    go_ret
    exact ⟨rfl, HB1.out⟩

/-! The row's step. -/
theorem own : ownKnob Try.prog.godebug = none := by kernel_rfl
theorem laidOut : laidOutB Try.prog = true := by kernel_rfl

set_option maxRecDepth 100000 in
theorem lifted (os : Os) (started : os.Started) (H : Type) (enc : TypeId × Value → H) :
    ReturnsInHanded {} Try.checked os 5 .any (Rows.cpuGuardsSpec.pre6 enc Try.prog Try.f5 Rows.cpuGuardsRow.domain false) (Rows.cpuGuardsSpec.post enc Try.prog Try.f5 false true false false) := by
  refine returnsInHanded_of_change (C := Try.checked) own started (by kernel_rfl) Try.func5
    (ChangeSpec.witness6 (enc := enc) (C := Try.checked) false ⟨#[], #[.slice none 0 0, .slice none 0 0, .slice none 0 0], []⟩ 8 (by kernel_rfl) (by kernel_rfl) (by kernel_rfl) (by kernel_rfl)) ?_
  intro W base args ds gs before hval0 hW hcnd _
  have hval : ∀ (j : Nat) t v, Try.f5.params[j]? = some t → args[j]? = some v → Value.okWide Try.prog W .any base t v := hval0
  have hW' := hW
  obtain ⟨p, q, hA0, hV, rfl, hfz, hnd⟩ := hW
  have hA : DataW.TrodAll enc Try.prog W 0 (fun _ => true) true Try.f5.params.toList args.toList ds p := hA0
  rw [Try.params5] at hA hval
  obtain ⟨v0, vs0, d0, ds0, p0, q0, hargs, rfl, rfl, h0, r0⟩ := trodAll_cons hA
  obtain ⟨v1, vs1, d1, ds1, p1, q1, rfl, rfl, rfl, h1, r1⟩ := trodAll_cons r0
  obtain ⟨v2, vs2, d2, ds2, p2, q2, rfl, rfl, rfl, h2, r2⟩ := trodAll_cons r1
  obtain ⟨rfl, rfl, rfl⟩ := trodAll_nil r2
  obtain rfl : args = #[v0, v1, v2] := by cases args; simp_all
  obtain ⟨rfl, rfl⟩ := trodVars_none hV
  obtain ⟨a0, len0, cap0, rfl⟩ := okWide_slice Try.underlying45 (hval 0 45 v0 rfl rfl)
  have k0 := h0
  have lt0 : ∀ x ∈ p0, x.block < W.heap.size := by obtain ⟨m, hm⟩ := k0; exact DataW.trod_lt m _ _ _ hm
  obtain ⟨z0, w0⟩ := open_structs (ks := [.i64, .u64, .u64, .u64]) Try.underlying45 Try.underlying53 (by kernel_rfl) (by kernel_rfl) (by kernel_rfl) (by decide) h0
  obtain ⟨a1, len1, cap1, rfl⟩ := okWide_slice Try.underlying22 (hval 1 22 v1 rfl rfl)
  have k1 := h1
  have lt1 : ∀ x ∈ p1, x.block < W.heap.size := by obtain ⟨m, hm⟩ := k1; exact DataW.trod_lt m _ _ _ hm
  obtain ⟨z1, w1⟩ := open_structs (ks := [.i64, .u64]) Try.underlying22 Try.underlying41 (by kernel_rfl) (by kernel_rfl) (by kernel_rfl) (by decide) h1
  obtain ⟨a2, len2, cap2, rfl⟩ := okWide_slice Try.underlying46 (hval 2 46 v2 rfl rfl)
  have k2 := h2
  have lt2 : ∀ x ∈ p2, x.block < W.heap.size := by obtain ⟨m, hm⟩ := k2; exact DataW.trod_lt m _ _ _ hm
  obtain ⟨z2, w2⟩ := open_structs (ks := [.i64, .i64, .u64]) Try.underlying46 Try.underlying48 (by kernel_rfl) (by kernel_rfl) (by kernel_rfl) (by decide) h2
  clear hA0 hval0
  refine (walk a0 len0 cap0 z0 a1 len1 cap1 z1 a2 len2 cap2 z2 W w0 w1 w2).mono fun e W' ⟨he, bel⟩ => ?_
  subst he
  exact ⟨_, rfl, _, _, _, [], _, [], hW', trodAll_mk1 (shut_bool Try.underlying4 _), (trodAll_cons_mk (Below.trod laidOut (by kernel_rfl) (of_decide_eq_true (by kernel_rfl)) k0 bel lt0) (trodAll_cons_mk (Below.trod laidOut (by kernel_rfl) (of_decide_eq_true (by kernel_rfl)) k1 bel lt1) (trodAll_cons_mk (Below.trod laidOut (by kernel_rfl) (of_decide_eq_true (by kernel_rfl)) k2 bel lt2) trodAll_mk0))), rfl, bel.frame _, fun h => by cases h⟩

theorem over : Rows.cpuGuardsRow.holds Try.pinned (OpenSpec.ofChange Rows.cpuGuardsSpec) :=
  OpenClaim.holds_of_wide 5 Try.f5 rfl rfl rfl rfl rfl rfl rfl ⟨rfl, rfl, rfl, rfl, rfl⟩ rfl rfl rfl rfl rfl (by kernel_rfl) Try.func5 (by kernel_rfl)
    (of_decide_eq_true (by kernel_rfl)) (by unfold Func.isWrapper; first | (rw [if_pos (by decide +kernel)]; kernel_rfl) | (rw [if_neg (by decide +kernel)]; exact ⟨rfl, rfl⟩))
    (fun os started H enc _ => lifted os started H enc)

/-- The statement. -/
theorem proved : Rows.CpuGuardsSaid := over
#print axioms proved

end Go.Proofs.Ytbedknfapiadbaa.cpuGuards
