/-
  CpuOften: released as often as may be a task's jobs are a period apart at least; ahead of that one is refused, by whichever code. No condition but the statement's.
-/
import Derived.Test.YtbedknfapiadbaaOftenP
import Derived.Test.YtbedknfapiadbaaArgsS
import Derived.Test.YtbedknfapiadbaaRtaFc
import Derived.Test.YtbedknfapiadbaaRows
namespace Go.Proofs.Ytbedknfapiadbaa.cpuOften
open Go.ChangeShapes Go.WideShapes Go.ChangeAt Go.RowKit Go.Proofs.Ytbedknfapiadbaa

theorem CSt.of_new2 {w0 w w' : World} {c n m B : Nat} {O : Obj} {y : Lay} {ts : List WorkM} {ls : List ServM} (h : NSt w w' c y ts ls n m) (hb : Below w0.heap.size w0 w) (hB : w.heap[B]? = some O) : CSt w0 w' c (newM ts ls) [(B, O)] :=
  ⟨y, h.hc, h.at', fun b hbn => Nat.le_trans hb.size (h.low b hbn), hb.trans (h.bel.mono hb.size), fun p hp => by
    simp only [List.mem_singleton] at hp
    subst hp
    have hl := lt_blk hB
    refine ⟨by show w'.heap[B]? = _; rw [h.bel.block B hl]; exact hB, ?_⟩
    show y.own B = none
    cases e : y.own B with
    | none => rfl
    | some x => exact absurd (h.low B (by rw [e]; simp)) (by omega)⟩
theorem tailC {w0 w : World} {c : Nat} {M : CpuM} {p : Nat × Obj} {X : List (Nat × Obj)} (h : CSt w0 w c M (p :: X)) : CSt w0 w c M X := by
  obtain ⟨y, h1, h2, h3, h4, h5⟩ := h
  exact ⟨y, h1, h2, h3, h4, fun q hq => h5 q (List.mem_cons_of_mem _ hq)⟩

set_option maxHeartbeats 16000000 in
set_option maxRecDepth 100000 in
theorem walkV (t : WorkM) (a : Option Addr) (n cap : Nat) (z : Nat → Bool) (w : World) (ha : ArgBools w a n z) :
    Calls Try.prog 7 #[workV t, .slice a n cap] w fun e w' => e = .returned (.bool true) ∧ Below w.heap.size w w' := by
  have HA := Box.mk ha
  have hn63 := ha.1
  clear ha
  go_enter Try.func7, Try.ntmps7
  go_upto_region 3 with (go_at_call 9; refine (awake17_any _).mono ?_; rintro e w1 ⟨rfl, hb1⟩)
  have hbx := blk_new w (.cells #[.int .i64 t.prio, .int .u64 t.cost, .int .u64 t.period, .int .u64 t.dead] 53)
  have hb2 : w1.heap[w.heap.size]? = _ := (hb1.block w.heap.size (by simp)).trans hbx
  have HB1 := Box.mk (((Below.refl w.heap.size w).alloc (Nat.le_refl _) (.cells #[.int .i64 t.prio, .int .u64 t.cost, .int .u64 t.period, .int .u64 t.dead] 53)).trans (hb1.mono (by simp)))
  have HBX := Box.mk hb2
  have x0 := cell_blk hb2 0
  have x1 := cell_blk hb2 1
  have x2 := cell_blk hb2 2
  have x3 := cell_blk hb2 3
  simp only [List.getElem?_toArray, List.getElem?_cons_zero, List.getElem?_cons_succ] at x0 x1 x2 x3
  clear hb1 hbx hb2
  have hbl := lt_blk HBX.out
  have hm := refMay_any t w1
  by_cases hok : t.ok = true
  · rw [hok] at hm
    have HM := Box.mk hm
    clear hm
    have HOK := Box.mk hok
    have hk := WorkM.ok_iff.1 hok
    by_cases hp : t.period ≤ 300
    · have hpi : ¬ (300 : Int) < t.period := by omega
      by_cases hn0 : n = 0
      · have hz : ((n : Int) == 0) = true := by simp [hn0]
        clear hn0 hk
        go_wp2_with (go_at_call 21; refine HM.out.mono ?_; rintro e w2 ⟨rfl, hb2⟩; have y2 := (hb2.cell (p := ⟨w.heap.size, 2, none⟩) (lt_blk HBX.out)).trans x2)
        go_ret
        exact ⟨rfl, HB1.out.trans (hb2.mono HB1.out.size)⟩
      · have hz : ((n : Int) == 0) = false := beq_eq_false_iff_ne.2 (by omega)
        go_upto_region 5 with (go_at_call 21; refine HM.out.mono ?_; rintro e w2 ⟨rfl, hb2⟩; have y2 := (hb2.cell (p := ⟨w.heap.size, 2, none⟩) (lt_blk HBX.out)).trans x2)
        have HB2 := Box.mk (HB1.out.trans (hb2.mono HB1.out.size))
        have hbx2 := (hb2.block w.heap.size (lt_blk HBX.out)).trans HBX.out
        have HBX2 := Box.mk hbx2
        have y0 := cell_blk hbx2 0
        have y1 := cell_blk hbx2 1
        have y3 := cell_blk hbx2 3
        simp only [List.getElem?_toArray, List.getElem?_cons_zero, List.getElem?_cons_succ] at y0 y1 y3
        have hTA : TasksAt (w2.alloc (.cells #[.int .i64 t.prio, .int .u64 t.cost, .int .u64 t.period, .int .u64 t.dead] 53)) (some ⟨w2.heap.size, 0, none⟩) [t] := TasksAt.one (blk_new _ _)
        have HNW := Box.mk (cpuNew_any (some ⟨w2.heap.size, 0, none⟩) 1 1 [t] rfl none 0 0 [] rfl _ hTA ⟨by simp, fun h => absurd h (by simp)⟩ (by simp [okTasks, hok]) rfl)
        have hB3 := HB2.out.alloc HB2.out.size (.cells #[.int .i64 t.prio, .int .u64 t.cost, .int .u64 t.period, .int .u64 t.dead] 53)
        have HB3 := Box.mk hB3
        have HBX3 := Box.mk (blk_alloc (o := .cells #[.int .i64 t.prio, .int .u64 t.cost, .int .u64 t.period, .int .u64 t.dead] 53) hbx2)
        clear hb2 hbx2 hTA hB3 x0 x1 x2 x3 hp HM
        go_upto_region 6 with (go_at_call 11; refine HNW.out.mono ?_; rintro e w3 ⟨c, y, rfl, hns⟩; have HS := Box.mk (CSt.of_new2 hns HB3.out HBX3.out); clear hns)
        clear y0 y1 y2 y3 HB2 HBX2 HB3 HBX3 HNW hbl HBX HB1
        obtain ⟨b, off, rfl, hbw, hcell⟩ := HA.out.2 (by omega)
        go_upto_region 11 with fail
        go_wp2
        go_loopw [7, 8, 9, 10, 11, 12, 13, 14] (fun l e i _ _ _ _ _ wr => ∃ (k last : Nat) (ever : Bool), k ≤ 600 ∧ l = .int .u64 last ∧ e = .bool ever ∧ i = .int .u64 k ∧ ∃ M, OInv t M k ever last ∧ CSt w wr c M [(w.heap.size, .cells #[.int .i64 t.prio, .int .u64 t.cost, .int .u64 t.period, .int .u64 t.dead] 53)]) (fun _ _ i _ _ _ _ _ _ => 600 - (intOf i).toNat)
        case atStart => exact ⟨0, 0, false, by omega, rfl, rfl, rfl, _, OInv.start t, HS.out⟩
        case round =>
          obtain ⟨k, last, ever, hk6, rfl, rfl, rfl, M, ho, hs⟩ := hrel
          have HO := Box.mk ho
          have hla := ho.lt
          have hnow := ho.now
          clear ho
          by_cases hlt : k < 600
          · obtain ⟨K, hK⟩ : ∃ K, k % n = K := ⟨_, rfl⟩
            have hKn : K < n := hK ▸ Nat.mod_lt _ (by omega)
            have hrem : (k : Int) % (n : Int) = (K : Int) := by rw [← hK]; simp
            have xz := (hs.below.cell (p := ⟨b, off + K, none⟩) hbw).trans (hcell K hKn)
            have hlti : (k : Int) < 600 := by omega
            clear hK
            have HS := Box.mk hs
            clear hs
            cases hzb : z K with
            | false =>
              rw [hzb] at xz
              have HTK := Box.mk (ctick_st w _ c _ _ HS.out (HO.out.ok HOK.out (by omega)))
              go_wp2_with (go_at_call 14; refine HTK.out.mono ?_; rintro e w6 ⟨M1, who, nd, nc, a1, c1, a2, c2, a3, c3, hran, rfl, hs⟩; have HO2 := Box.mk (HO.out.tick HOK.out hran); have HS := Box.mk hs; clear hs hran)
              go_roundw
              case rel => exact ⟨k + 1, last, ever, by omega, rfl, rfl, by go_num, _, HO2.out, HS.out⟩
              case measure => simp [intOf] <;> omega
            | true =>
              rw [hzb] at xz
              have z1 := cell_blk (HS.out.blk (List.mem_cons_self ..)) 1
              have z2 := cell_blk (HS.out.blk (List.mem_cons_self ..)) 2
              simp only [List.getElem?_toArray, List.getElem?_cons_zero, List.getElem?_cons_succ] at z1 z2
              have HJB := Box.mk (cjob_st w _ c _ _ HS.out 0)
              have hcl : t.cost ≤ 1073741824 := by have := (WorkM.ok_iff.1 HOK.out); omega
              have hcl2 : t.period ≤ 1073741824 := by have := (WorkM.ok_iff.1 HOK.out); omega
              rcases HO.out.rel HOK.out with ⟨r, dd, hj, hrc, hrl⟩ | ⟨hj, rfl, hd, hrc, hrl⟩ | ⟨hj, hd, hrc, hrl⟩
              · rw [hj] at HJB
                clear hj
                go_upto_region 15 with (go_at_call 20; refine HJB.out.mono ?_; rintro e w5 ⟨rfl, hs⟩; have HS := Box.mk hs; clear hs)
                have z1 := cell_blk (HS.out.blk (List.mem_cons_self ..)) 1
                have z2 := cell_blk (HS.out.blk (List.mem_cons_self ..)) 2
                simp only [List.getElem?_toArray, List.getElem?_cons_zero, List.getElem?_cons_succ] at z1 z2
                have HRE := Box.mk (crelease_st w _ c _ _ HS.out 0 (t.cost + 1) (HO.out.facts HOK.out (by omega)).1 (HO.out.facts HOK.out (by omega)).2.1 (HO.out.facts HOK.out (by omega)).2.2)
                rw [hrc, hrl] at HRE
                clear hrc hrl
                go_upto_region 16 with (go_at_call 19; refine HRE.out.mono ?_; rintro e w6 ⟨rfl, hs⟩; have HS := Box.mk hs; clear hs)
                have z1 := cell_blk (HS.out.blk (List.mem_cons_self ..)) 1
                have z2 := cell_blk (HS.out.blk (List.mem_cons_self ..)) 2
                simp only [List.getElem?_toArray, List.getElem?_cons_zero, List.getElem?_cons_succ] at z1 z2
                have HTK := Box.mk (ctick_st w _ c _ _ HS.out (HO.out.ok HOK.out (by omega)))
                go_wp2_with (go_at_call 14; refine HTK.out.mono ?_; rintro e w6 ⟨M1, who, nd, nc, a1, c1, a2, c2, a3, c3, hran, rfl, hs⟩; have HO2 := Box.mk (HO.out.tick HOK.out hran); have HS := Box.mk hs; clear hs hran)
                go_roundw
                case rel => exact ⟨k + 1, last, ever, by omega, rfl, rfl, by go_num, _, HO2.out, HS.out⟩
                case measure => simp [intOf] <;> omega
              · rw [hj] at HJB
                clear hj
                have hd2 : ¬ (t.period : Int) ≤ (k : Int) - last := by omega
                have hsl : (last : Int) ≤ k := by omega
                clear hd
                go_upto_region 15 with (go_at_call 20; refine HJB.out.mono ?_; rintro e w5 ⟨rfl, hs⟩; have HS := Box.mk hs; clear hs)
                have z1 := cell_blk (HS.out.blk (List.mem_cons_self ..)) 1
                have z2 := cell_blk (HS.out.blk (List.mem_cons_self ..)) 2
                simp only [List.getElem?_toArray, List.getElem?_cons_zero, List.getElem?_cons_succ] at z1 z2
                have HRE := Box.mk (crelease_st w _ c _ _ HS.out 0 (t.cost + 1) (HO.out.facts HOK.out (by omega)).1 (HO.out.facts HOK.out (by omega)).2.1 (HO.out.facts HOK.out (by omega)).2.2)
                rw [hrc, hrl] at HRE
                clear hrc hrl
                go_upto_region 16 with (go_at_call 19; refine HRE.out.mono ?_; rintro e w6 ⟨rfl, hs⟩; have HS := Box.mk hs; clear hs)
                have z1 := cell_blk (HS.out.blk (List.mem_cons_self ..)) 1
                have z2 := cell_blk (HS.out.blk (List.mem_cons_self ..)) 2
                simp only [List.getElem?_toArray, List.getElem?_cons_zero, List.getElem?_cons_succ] at z1 z2
                have HTK := Box.mk (ctick_st w _ c _ _ HS.out (HO.out.ok HOK.out (by omega)))
                go_wp2_with (go_at_call 14; refine HTK.out.mono ?_; rintro e w6 ⟨M1, who, nd, nc, a1, c1, a2, c2, a3, c3, hran, rfl, hs⟩; have HO2 := Box.mk (HO.out.tick HOK.out hran); have HS := Box.mk hs; clear hs hran)
                go_roundw
                case rel => exact ⟨k + 1, last, true, by omega, rfl, rfl, by go_num, _, HO2.out, HS.out⟩
                case measure => simp [intOf] <;> omega
              · rw [hj] at HJB
                clear hj
                have HRL := Box.mk hrl
                clear hrl
                have hsl : (last : Int) ≤ k := by omega
                cases hev : ever with
                | false =>
                  subst hev
                  go_upto_region 15 with (go_at_call 20; refine HJB.out.mono ?_; rintro e w5 ⟨rfl, hs⟩; have HS := Box.mk hs; clear hs)
                  have z1 := cell_blk (HS.out.blk (List.mem_cons_self ..)) 1
                  have z2 := cell_blk (HS.out.blk (List.mem_cons_self ..)) 2
                  simp only [List.getElem?_toArray, List.getElem?_cons_zero, List.getElem?_cons_succ] at z1 z2
                  have HRE := Box.mk (crelease_st w _ c _ _ HS.out 0 (t.cost + 1) (HO.out.facts HOK.out (by omega)).1 (HO.out.facts HOK.out (by omega)).2.1 (HO.out.facts HOK.out (by omega)).2.2)
                  rw [hrc] at HRE
                  clear hrc
                  go_upto_region 16 with (go_at_call 19; refine HRE.out.mono ?_; rintro e w6 ⟨rfl, hs⟩; have HS := Box.mk hs; clear hs)
                  have z1 := cell_blk (HS.out.blk (List.mem_cons_self ..)) 1
                  have z2 := cell_blk (HS.out.blk (List.mem_cons_self ..)) 2
                  simp only [List.getElem?_toArray, List.getElem?_cons_zero, List.getElem?_cons_succ] at z1 z2
                  have HO := Box.mk HRL.out
                  have HTK := Box.mk (ctick_st w _ c _ _ HS.out (HO.out.ok HOK.out (by omega)))
                  go_wp2_with (go_at_call 14; refine HTK.out.mono ?_; rintro e w6 ⟨M1, who, nd, nc, a1, c1, a2, c2, a3, c3, hran, rfl, hs⟩; have HO2 := Box.mk (HO.out.tick HOK.out hran); have HS := Box.mk hs; clear hs hran)
                  go_roundw
                  case rel => exact ⟨k + 1, k, true, by omega, rfl, rfl, by go_num, _, HO2.out, HS.out⟩
                  case measure => simp [intOf] <;> omega
                | true =>
                  subst hev
                  have hd2 : (t.period : Int) ≤ (k : Int) - last := by have := hd rfl; omega
                  clear hd
                  go_upto_region 15 with (go_at_call 20; refine HJB.out.mono ?_; rintro e w5 ⟨rfl, hs⟩; have HS := Box.mk hs; clear hs)
                  have z1 := cell_blk (HS.out.blk (List.mem_cons_self ..)) 1
                  have z2 := cell_blk (HS.out.blk (List.mem_cons_self ..)) 2
                  simp only [List.getElem?_toArray, List.getElem?_cons_zero, List.getElem?_cons_succ] at z1 z2
                  have HRE := Box.mk (crelease_st w _ c _ _ HS.out 0 (t.cost + 1) (HO.out.facts HOK.out (by omega)).1 (HO.out.facts HOK.out (by omega)).2.1 (HO.out.facts HOK.out (by omega)).2.2)
                  rw [hrc] at HRE
                  clear hrc
                  go_upto_region 16 with (go_at_call 19; refine HRE.out.mono ?_; rintro e w6 ⟨rfl, hs⟩; have HS := Box.mk hs; clear hs)
                  have z1 := cell_blk (HS.out.blk (List.mem_cons_self ..)) 1
                  have z2 := cell_blk (HS.out.blk (List.mem_cons_self ..)) 2
                  simp only [List.getElem?_toArray, List.getElem?_cons_zero, List.getElem?_cons_succ] at z1 z2
                  have HO := Box.mk HRL.out
                  have HTK := Box.mk (ctick_st w _ c _ _ HS.out (HO.out.ok HOK.out (by omega)))
                  go_wp2_with (go_at_call 14; refine HTK.out.mono ?_; rintro e w6 ⟨M1, who, nd, nc, a1, c1, a2, c2, a3, c3, hran, rfl, hs⟩; have HO2 := Box.mk (HO.out.tick HOK.out hran); have HS := Box.mk hs; clear hs hran)
                  go_roundw
                  case rel => exact ⟨k + 1, k, true, by omega, rfl, rfl, by go_num, _, HO2.out, HS.out⟩
                  case measure => simp [intOf] <;> omega
          · obtain rfl : k = 600 := by omega
            have HS := Box.mk hs
            clear hs
            have HNO := Box.mk (cnow_st w _ c _ _ HS.out)
            rw [hnow] at HNO
            clear hnow
            go_wp2_with (go_at_call 22; refine HNO.out.mono ?_; rintro e w6 ⟨rfl, hs⟩; have HS := Box.mk hs; clear hs)
            go_ret
            exact ⟨rfl, HS.out.below⟩
    · have hpi : (300 : Int) < t.period := by omega
      clear hk
      go_wp2_with (go_at_call 21; refine HM.out.mono ?_; rintro e w2 ⟨rfl, hb2⟩; have y2 := (hb2.cell (p := ⟨w.heap.size, 2, none⟩) (lt_blk HBX.out)).trans x2)
      go_ret
      exact ⟨rfl, HB1.out.trans (hb2.mono HB1.out.size)⟩
  · have hok : t.ok = false := by simpa using hok
    rw [hok] at hm
    have HM := Box.mk hm
    clear hm
    go_wp2_with (go_at_call 21; refine HM.out.mono ?_; rintro e w2 ⟨rfl, hb2⟩; have y2 := (hb2.cell (p := ⟨w.heap.size, 2, none⟩) (lt_blk HBX.out)).trans x2)
    go_ret
    exact ⟨rfl, HB1.out.trans (hb2.mono HB1.out.size)⟩

theorem u64_wf {z : Int} (h : (Lit.int .u64 z).wf = true) : 0 ≤ z := by
  simp [Lit.wf, IntKind.min, IntKind.max, IntKind.signed, IntKind.bits] at h
  omega
theorem work_of {f : Nat → Int} (h : ∀ (j : Nat) (k : IntKind), ([.i64, .u64, .u64, .u64] : List IntKind)[j]? = some k → (Lit.int k (f j)).wf = true) :
    ∃ a : WorkM, Value.agg ((([.i64, .u64, .u64, .u64] : List IntKind).zipIdx.map (fun x => Value.int x.1 (f x.2))).toArray) = workV a := by
  have u1 := u64_wf (h 1 .u64 rfl)
  have u2 := u64_wf (h 2 .u64 rfl)
  have u3 := u64_wf (h 3 .u64 rfl)
  refine ⟨⟨f 0, (f 1).toNat, (f 2).toNat, (f 3).toNat⟩, ?_⟩
  simp only [workV, Int.toNat_of_nonneg u1, Int.toNat_of_nonneg u2, Int.toNat_of_nonneg u3]
  rfl

theorem walk (z0 : Nat → Int) (a1 : Option Addr) (n1 cap1 : Nat) (z1 : Nat → Bool) (w : World) (g0 : ∀ (j : Nat) (k : IntKind), ([.i64, .u64, .u64, .u64] : List IntKind)[j]? = some k → (Lit.int k (z0 j)).wf = true) (g1 : ArgBools w a1 n1 z1) :
    Calls Try.prog 7 #[.agg ((([.i64, .u64, .u64, .u64] : List IntKind).zipIdx.map (fun x => Value.int x.1 (z0 x.2))).toArray), .slice a1 n1 cap1] w fun e w' => e = .returned (.bool true) ∧ Below w.heap.size w w' := by
  obtain ⟨a, ea⟩ := work_of g0
  rw [ea]
  exact walkV a a1 n1 cap1 z1 w g1

/-! The row's step. -/
theorem own : ownKnob Try.prog.godebug = none := by kernel_rfl
theorem laidOut : laidOutB Try.prog = true := by kernel_rfl

set_option maxRecDepth 100000 in
theorem lifted (os : Os) (started : os.Started) (H : Type) (enc : TypeId × Value → H) :
    ReturnsInHanded {} Try.checked os 7 .any (Rows.cpuOftenSpec.pre6 enc Try.prog Try.f7 Rows.cpuOftenRow.domain false) (Rows.cpuOftenSpec.post enc Try.prog Try.f7 false true false false) := by
  refine returnsInHanded_of_change (C := Try.checked) own started (by kernel_rfl) Try.func7
    (ChangeSpec.witness6 (enc := enc) (C := Try.checked) false ⟨#[], #[.agg #[.int .i64 0, .int .u64 0, .int .u64 0, .int .u64 0], .slice none 0 0], []⟩ 8 (by kernel_rfl) (by kernel_rfl) (by kernel_rfl) (by kernel_rfl)) ?_
  intro W base args ds gs before hval0 hW hcnd _
  have hval : ∀ (j : Nat) t v, Try.f7.params[j]? = some t → args[j]? = some v → Value.okWide Try.prog W .any base t v := hval0
  have hW' := hW
  obtain ⟨p, q, hA0, hV, rfl, hfz, hnd⟩ := hW
  have hA : DataW.TrodAll enc Try.prog W 0 (fun _ => true) true Try.f7.params.toList args.toList ds p := hA0
  rw [Try.params7] at hA hval
  obtain ⟨v0, vs0, d0, ds0, p0, q0, hargs, rfl, rfl, h0, r0⟩ := trodAll_cons hA
  obtain ⟨v1, vs1, d1, ds1, p1, q1, rfl, rfl, rfl, h1, r1⟩ := trodAll_cons r0
  obtain ⟨rfl, rfl, rfl⟩ := trodAll_nil r1
  obtain rfl : args = #[v0, v1] := by cases args; simp_all
  obtain ⟨rfl, rfl⟩ := trodVars_none hV
  have k0 := h0
  have lt0 : ∀ x ∈ p0, x.block < W.heap.size := by obtain ⟨m, hm⟩ := k0; exact DataW.trod_lt m _ _ _ hm
  obtain ⟨z0, rfl, w0⟩ := open_struct (ks := [.i64, .u64, .u64, .u64]) Try.underlying53 (by kernel_rfl) (by kernel_rfl) (by kernel_rfl) (by decide) (hval 0 53 v0 rfl rfl) h0
  obtain ⟨a1, len1, cap1, rfl⟩ := okWide_slice Try.underlying57 (hval 1 57 v1 rfl rfl)
  have k1 := h1
  have lt1 : ∀ x ∈ p1, x.block < W.heap.size := by obtain ⟨m, hm⟩ := k1; exact DataW.trod_lt m _ _ _ hm
  obtain ⟨z1, w1⟩ := open_boolsA Try.underlying57 Try.underlying4 (by kernel_rfl) h1
  clear hA0 hval0
  refine (walk z0 a1 len1 cap1 z1 W w0 w1).mono fun e W' ⟨he, bel⟩ => ?_
  subst he
  exact ⟨_, rfl, _, _, _, [], _, [], hW', trodAll_mk1 (shut_bool Try.underlying4 _), (trodAll_cons_mk (Below.trod laidOut (by kernel_rfl) (of_decide_eq_true (by kernel_rfl)) k0 bel lt0) (trodAll_cons_mk (Below.trod laidOut (by kernel_rfl) (of_decide_eq_true (by kernel_rfl)) k1 bel lt1) trodAll_mk0)), rfl, bel.frame _, fun h => by cases h⟩

theorem over : Rows.cpuOftenRow.holds Try.pinned (OpenSpec.ofChange Rows.cpuOftenSpec) :=
  OpenClaim.holds_of_wide 7 Try.f7 rfl rfl rfl rfl rfl rfl rfl ⟨rfl, rfl, rfl, rfl, rfl⟩ rfl rfl rfl rfl rfl (by kernel_rfl) Try.func7 (by kernel_rfl)
    (of_decide_eq_true (by kernel_rfl)) (by unfold Func.isWrapper; first | (rw [if_pos (by decide +kernel)]; kernel_rfl) | (rw [if_neg (by decide +kernel)]; exact ⟨rfl, rfl⟩))
    (fun os started H enc _ => lifted os started H enc)

/-- The statement. -/
theorem proved : Rows.CpuOftenSaid := over
#print axioms proved

end Go.Proofs.Ytbedknfapiadbaa.cpuOften
