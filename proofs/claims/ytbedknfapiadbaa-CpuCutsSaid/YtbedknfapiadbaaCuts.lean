/-
  CpuCuts: a job that wants more than its cost is cut off when it has had that; one that wants no more is done when it has had what it wants; then it is there no more. No condition but the statement's.
-/
import Derived.Test.YtbedknfapiadbaaCutsP
import Derived.Test.YtbedknfapiadbaaRtaFc
import Derived.Test.YtbedknfapiadbaaRows
namespace Go.Proofs.Ytbedknfapiadbaa.cpuCuts
open Go.ChangeShapes Go.WideShapes Go.ChangeAt Go.RowKit Go.Proofs.Ytbedknfapiadbaa

set_option maxHeartbeats 4000000 in
theorem may17_any (ao : Option Addr) (cap : Nat) (t : WorkM) (w : World) (hT : TasksAt w ao [t]) (ht : t.ok = true) :
    Calls Try.prog 16 #[.slice ao 1 cap, .slice none 0 0] w fun e w' => e = .returned (.bool true) ∧ Below w.heap.size w w' := by
  have hot : okTasks [t] = true := by simp [okTasks, ht]
  have hol : okLoads [] = true := by rfl
  have hq := refTasks_any ao cap [t] w hT
  rw [hot] at hq
  have HQ : Box (Calls Try.prog 23 #[.slice ao 1 cap] w fun e w' => e = .returned (.bool true) ∧ Below w.heap.size w w') := ⟨hq⟩
  have HL : Box (∀ w, Calls Try.prog 10 #[.slice none 0 0] w fun e w' => e = .returned (.bool true) ∧ Below w.heap.size w w') := ⟨fun w => by
    have := refLoads_any none 0 [] w ⟨by simp, fun h => absurd h (by simp)⟩
    rwa [hol] at this⟩
  clear hq hot hol hT ht
  go_enter Try.func16, Try.ntmps16
  go_wp2_with (first
    | (go_at_call 23; refine HQ.out.mono ?_; rintro e w1 ⟨rfl, hb1⟩)
    | (go_at_call 10; refine (HL.out _).mono ?_; rintro e w2 ⟨rfl, hb2⟩))
  go_ret
  exact ⟨rfl, hb1.trans (hb2.mono hb1.size)⟩

theorem CSt.of_new2 {w0 w w' : World} {c n m B : Nat} {O : Obj} {y : Lay} {ts : List WorkM} {ls : List ServM} (h : NSt w w' c y ts ls n m) (hb : Below w0.heap.size w0 w) (hB : w.heap[B]? = some O) : CSt w0 w' c (newM ts ls) [(B, O)] :=
  ⟨y, h.hc, h.at', fun b hbn => Nat.le_trans hb.size (h.low b hbn), hb.trans (h.bel.mono hb.size), fun p hp => by
    simp only [List.mem_singleton] at hp
    subst hp
    have hl := lt_blk hB
    refine ⟨by show w'.heap[B]? = _; rw [h.bel.block B hl]; exact hB, ?_⟩
    show y.own B = none
    cases e : y.own B with
    | none => rfl
    | some x => exact absurd (h.low B (by rw [e]; simp)) (by omega)⟩
theorem tailC {w0 w : World} {c : Nat} {M : CpuM} {p : Nat × Obj} {X : List (Nat × Obj)} (h : CSt w0 w c M (p :: X)) : CSt w0 w c M X := by
  obtain ⟨y, h1, h2, h3, h4, h5⟩ := h
  exact ⟨y, h1, h2, h3, h4, fun q hq => h5 q (List.mem_cons_of_mem _ hq)⟩
/-- The state behind k ticks. -/
def cS (t : WorkM) (d N k : Nat) : CpuM := if k < N then cM t d k else cE t k

set_option maxHeartbeats 16000000 in
set_option maxRecDepth 100000 in
theorem walkV (t : WorkM) (d : Nat) (hd : d ≤ 65535) (w : World) :
    Calls Try.prog 6 #[workV t, .int .u16 d] w fun e w' => e = .returned (.bool true) ∧ Below w.heap.size w w' := by
  go_enter Try.func6, Try.ntmps6
  go_upto_region 3 with (go_at_call 9; refine (awake17_any _).mono ?_; rintro e w1 ⟨rfl, hb1⟩)
  have hbx := blk_new w (.cells #[.int .i64 t.prio, .int .u64 t.cost, .int .u64 t.period, .int .u64 t.dead] 53)
  have hb2 : w1.heap[w.heap.size]? = _ := (hb1.block w.heap.size (by simp)).trans hbx
  have HB1 := Box.mk (((Below.refl w.heap.size w).alloc (Nat.le_refl _) (.cells #[.int .i64 t.prio, .int .u64 t.cost, .int .u64 t.period, .int .u64 t.dead] 53)).trans (hb1.mono (by simp)))
  have HBX := Box.mk hb2
  have x0 := cell_blk hb2 0
  have x1 := cell_blk hb2 1
  have x2 := cell_blk hb2 2
  have x3 := cell_blk hb2 3
  simp only [List.getElem?_toArray, List.getElem?_cons_zero, List.getElem?_cons_succ] at x0 x1 x2 x3
  clear hb1 hbx hb2
  have hbl := lt_blk HBX.out
  have hm := refMay_any t w1
  by_cases hok : t.ok = true
  · rw [hok] at hm
    have HM := Box.mk hm
    clear hm
    have HOK := Box.mk hok
    have hk := WorkM.ok_iff.1 hok
    by_cases hp : t.period ≤ 2000
    · by_cases hd0 : d = 0
      · have hz : ((d : Int) == 0) = true := by simp [hd0]
        clear hd0 hk
        go_wp2_with (go_at_call 21; refine HM.out.mono ?_; rintro e w2 ⟨rfl, hb2⟩; have y2 := (hb2.cell (p := ⟨w.heap.size, 2, none⟩) (lt_blk HBX.out)).trans x2)
        go_ret
        exact ⟨rfl, HB1.out.trans (hb2.mono HB1.out.size)⟩
      · have hz : ((d : Int) == 0) = false := beq_eq_false_iff_ne.2 (by omega)
        have hpi : ¬ (2000 : Int) < t.period := by omega
        go_upto_region 5 with (go_at_call 21; refine HM.out.mono ?_; rintro e w2 ⟨rfl, hb2⟩; have y2 := (hb2.cell (p := ⟨w.heap.size, 2, none⟩) (lt_blk HBX.out)).trans x2)
        have HB2 := Box.mk (HB1.out.trans (hb2.mono HB1.out.size))
        have hbx2 := (hb2.block w.heap.size (lt_blk HBX.out)).trans HBX.out
        have HBX2 := Box.mk hbx2
        have y0 := cell_blk hbx2 0
        have y1 := cell_blk hbx2 1
        have y3 := cell_blk hbx2 3
        simp only [List.getElem?_toArray, List.getElem?_cons_zero, List.getElem?_cons_succ] at y0 y1 y3
        have hTA : TasksAt (w2.alloc (.cells #[.int .i64 t.prio, .int .u64 t.cost, .int .u64 t.period, .int .u64 t.dead] 53)) (some ⟨w2.heap.size, 0, none⟩) [t] := TasksAt.one (blk_new _ _)
        have HNW := Box.mk (cpuNew_any (some ⟨w2.heap.size, 0, none⟩) 1 1 [t] rfl none 0 0 [] rfl _ hTA ⟨by simp, fun h => absurd h (by simp)⟩ (by simp [okTasks, hok]) rfl)
        have hB3 := HB2.out.alloc HB2.out.size (.cells #[.int .i64 t.prio, .int .u64 t.cost, .int .u64 t.period, .int .u64 t.dead] 53)
        have HB3 := Box.mk hB3
        have HBX3 := Box.mk (blk_alloc (o := .cells #[.int .i64 t.prio, .int .u64 t.cost, .int .u64 t.period, .int .u64 t.dead] 53) hbx2)
        obtain ⟨hr1, hr2⟩ := c_rel hok hd0
        clear hb2 hbx2 hTA hB3 x0 x1 x2 x3 hp
        go_upto_region 6 with (go_at_call 11; refine HNW.out.mono ?_; rintro e w3 ⟨c, y, rfl, hns⟩; have HS := Box.mk (CSt.of_new2 hns HB3.out HBX3.out); clear hns)
        have HRE := Box.mk (crelease_st w w3 c _ _ HS.out 0 d (fun t' ht => by simp [newM, newTask] at ht; subst ht; exact ⟨by show t.dead ≤ _; omega, Nat.le_refl _⟩) (by show 0 ≤ _; omega) (fun p => by simp [newM]))
        rw [hr1, hr2] at HRE
        clear hr1 hr2 y0 y1 y2 y3
        go_upto_region 8 with (go_at_call 19; refine HRE.out.mono ?_; rintro e w4 ⟨rfl, hs⟩; have HS := Box.mk hs; clear hs)
        have z1 := cell_blk (HS.out.blk (List.mem_cons_self ..)) 1
        simp only [List.getElem?_toArray, List.getElem?_cons_zero, List.getElem?_cons_succ] at z1
        obtain ⟨N, hN⟩ : ∃ N, min d t.cost = N := ⟨_, rfl⟩
        have hNe : (if t.cost < d then (t.cost : Int) else (d : Int)) = (N : Int) := by subst hN; split <;> omega
        have hN1 : 1 ≤ N := by omega
        have hN2 : N ≤ 65535 := by omega
        have hs0 : CSt w w4 c (cS t d N 0) [(w.heap.size, .cells #[.int .i64 t.prio, .int .u64 t.cost, .int .u64 t.period, .int .u64 t.dead] 53)] := by
          have := HS.out
          unfold cS
          rwa [if_pos (by omega)]
        have HS0 := Box.mk hs0
        have HNB := Box.mk hN
        clear hs0 HS HRE hN hk
        go_upto_region 9 with fail
        go_wp2
        go_loopw [8, 9, 10, 11] (fun i _ _ _ wr => ∃ k : Nat, k ≤ N ∧ i = .int .u64 ((k : Int) + 1) ∧ CSt w wr c (cS t d N k) [(w.heap.size, .cells #[.int .i64 t.prio, .int .u64 t.cost, .int .u64 t.period, .int .u64 t.dead] 53)]) (fun i _ _ _ _ => N + 1 - (intOf i).toNat)
        case atStart => exact ⟨0, Nat.zero_le _, rfl, HS0.out⟩
        case round =>
          obtain ⟨k, hk, rfl, hs⟩ := hrel
          by_cases hlt : k < N
          · have he : cS t d N k = cM t d k := if_pos hlt
            rw [he] at hs
            clear he
            have HTK := Box.mk (ctick_st w _ c _ _ hs (c_ok HOK.out (by omega)))
            clear hs
            have hlt2 : k < min d t.cost := by rw [HNB.out]; exact hlt
            by_cases hl : k + 1 < N
            · have hl2 : k + 1 < min d t.cost := by rw [HNB.out]; exact hl
              go_upto_region 13 with (go_at_call 14; refine HTK.out.mono ?_; rintro e w5 ⟨M1, who, nd, nc, a1, c1, a2, c2, a3, c3, hran, rfl, hs⟩; obtain ⟨q1, q2, q3, _⟩ := c_tick HOK.out hlt2 hran; obtain ⟨q5, q6, q7⟩ := q3 hl2; have q2' : (lateIds ((cM t d k).now + 1) M1.tasks M1.tasks.length).length = 0 := q2; rw [q2']; have hs' : CSt w w5 c (M1.after (k + 1)) _ := hs; rw [q7] at hs'; subst q1; subst q5; subst q6; have HS := Box.mk hs'; clear hs hs' q7 q3 q2 q2' hran)
              have hs6 := HS.out.alloc (.cells #[.int .i64 0, .slice a1 0 c1, .slice a2 0 c2, .slice a3 0 c3] 36)
              generalize hV6 : w5.alloc (.cells #[.int .i64 0, .slice a1 0 c1, .slice a2 0 c2, .slice a3 0 c3] 36) = V6 at hs6 ⊢
              clear hV6
              generalize w5.heap.size = B6 at hs6 ⊢
              have HS := Box.mk hs6
              clear hs6
              have x0 := cell_blk (HS.out.blk (List.mem_cons_self ..)) 0
              have x1 := cell_blk (HS.out.blk (List.mem_cons_self ..)) 1
              have x2 := cell_blk (HS.out.blk (List.mem_cons_self ..)) 2
              have x3 := cell_blk (HS.out.blk (List.mem_cons_self ..)) 3
              simp only [List.getElem?_toArray, List.getElem?_cons_zero, List.getElem?_cons_succ] at x0 x1 x2 x3
              have hn1 : (k : Int) + 1 < N := by omega
              have hn2 : ((k : Int) + 1 == N) = false := beq_eq_false_iff_ne.2 (by omega)
              have he : cM t d (k + 1) = cS t d N (k + 1) := (if_pos hl).symm
              clear hl2
              go_wp2
              go_roundw
              case rel => exact ⟨k + 1, by omega, by go_num, by rw [← he]; exact tailC HS.out⟩
              case measure => simp [intOf] <;> omega
            · have hl2 : k + 1 = min d t.cost := by rw [HNB.out]; omega
              have hn1 : ¬ (k : Int) + 1 < N := by omega
              have hn2 : ((k : Int) + 1 == N) = true := beq_iff_eq.2 (by omega)
              have he : cE t (k + 1) = cS t d N (k + 1) := (if_neg hl).symm
              by_cases hdc : d ≤ t.cost
              · have hdc2 : (d : Int) ≤ t.cost := by omega
                go_upto_region 13 with (go_at_call 14; refine HTK.out.mono ?_; rintro e w5 ⟨M1, who, nd, nc, a1, c1, a2, c2, a3, c3, hran, rfl, hs⟩; obtain ⟨q1, q2, _, q3⟩ := c_tick HOK.out hlt2 hran; obtain ⟨q7, q8⟩ := q3 hl2; obtain ⟨_, q5, q6⟩ : d ≤ t.cost ∧ nd = 1 ∧ nc = 0 := q8.resolve_right (fun h => h.1 hdc); have q2' : (lateIds ((cM t d k).now + 1) M1.tasks M1.tasks.length).length = 0 := q2; rw [q2']; have hs' : CSt w w5 c (M1.after (k + 1)) _ := hs; rw [q7, he] at hs'; subst q1; subst q5; subst q6; have HS := Box.mk hs'; clear hs hs' q8 q7 q3 q2 q2' hran)
                have hs6 := HS.out.alloc (.cells #[.int .i64 0, .slice a1 1 c1, .slice a2 0 c2, .slice a3 0 c3] 36)
                generalize hV6 : w5.alloc (.cells #[.int .i64 0, .slice a1 1 c1, .slice a2 0 c2, .slice a3 0 c3] 36) = V6 at hs6 ⊢
                clear hV6
                generalize w5.heap.size = B6 at hs6 ⊢
                have HS := Box.mk hs6
                clear hs6
                have x0 := cell_blk (HS.out.blk (List.mem_cons_self ..)) 0
                have x1 := cell_blk (HS.out.blk (List.mem_cons_self ..)) 1
                have x2 := cell_blk (HS.out.blk (List.mem_cons_self ..)) 2
                have x3 := cell_blk (HS.out.blk (List.mem_cons_self ..)) 3
                simp only [List.getElem?_toArray, List.getElem?_cons_zero, List.getElem?_cons_succ] at x0 x1 x2 x3
                have z1 := cell_blk (HS.out.blk (List.mem_cons_of_mem _ (List.mem_cons_self ..))) 1
                simp only [List.getElem?_toArray, List.getElem?_cons_zero, List.getElem?_cons_succ] at z1
                clear hl2 hlt2
                go_wp2
                go_roundw
                case rel => exact ⟨k + 1, by omega, by go_num, tailC HS.out⟩
                case measure => simp [intOf] <;> omega
              · have hdc2 : ¬ (d : Int) ≤ t.cost := by omega
                go_upto_region 13 with (go_at_call 14; refine HTK.out.mono ?_; rintro e w5 ⟨M1, who, nd, nc, a1, c1, a2, c2, a3, c3, hran, rfl, hs⟩; obtain ⟨q1, q2, _, q3⟩ := c_tick HOK.out hlt2 hran; obtain ⟨q7, q8⟩ := q3 hl2; obtain ⟨_, q5, q6⟩ : ¬ d ≤ t.cost ∧ nd = 0 ∧ nc = 1 := q8.resolve_left (fun h => hdc h.1); have q2' : (lateIds ((cM t d k).now + 1) M1.tasks M1.tasks.length).length = 0 := q2; rw [q2']; have hs' : CSt w w5 c (M1.after (k + 1)) _ := hs; rw [q7, he] at hs'; subst q1; subst q5; subst q6; have HS := Box.mk hs'; clear hs hs' q8 q7 q3 q2 q2' hran)
                have hs6 := HS.out.alloc (.cells #[.int .i64 0, .slice a1 0 c1, .slice a2 1 c2, .slice a3 0 c3] 36)
                generalize hV6 : w5.alloc (.cells #[.int .i64 0, .slice a1 0 c1, .slice a2 1 c2, .slice a3 0 c3] 36) = V6 at hs6 ⊢
                clear hV6
                generalize w5.heap.size = B6 at hs6 ⊢
                have HS := Box.mk hs6
                clear hs6
                have x0 := cell_blk (HS.out.blk (List.mem_cons_self ..)) 0
                have x1 := cell_blk (HS.out.blk (List.mem_cons_self ..)) 1
                have x2 := cell_blk (HS.out.blk (List.mem_cons_self ..)) 2
                have x3 := cell_blk (HS.out.blk (List.mem_cons_self ..)) 3
                simp only [List.getElem?_toArray, List.getElem?_cons_zero, List.getElem?_cons_succ] at x0 x1 x2 x3
                have z1 := cell_blk (HS.out.blk (List.mem_cons_of_mem _ (List.mem_cons_self ..))) 1
                simp only [List.getElem?_toArray, List.getElem?_cons_zero, List.getElem?_cons_succ] at z1
                clear hl2 hlt2
                go_wp2
                go_roundw
                case rel => exact ⟨k + 1, by omega, by go_num, tailC HS.out⟩
                case measure => simp [intOf] <;> omega
          · obtain rfl : k = N := by omega
            have he : cS t d k k = cE t k := if_neg (by omega)
            rw [he] at hs
            clear he HNW HM HB2 HBX2 HB3 HBX3
            have HS := Box.mk hs
            have HJB := Box.mk (cjob_st w _ c _ _ hs 0)
            rw [show jobR ((cE t k).jobOf 0) = .tuple #[.int .u64 0, .int .u64 0, .bool false] from rfl] at HJB
            clear hs
            go_upto_region 19 with (go_at_call 20; refine HJB.out.mono ?_; rintro e w5 ⟨rfl, hs⟩; have HS := Box.mk hs; clear hs)
            have HTK := Box.mk (ctick_st w _ c _ _ HS.out (c_okE HOK.out (by omega)))
            go_upto_region 20 with (go_at_call 14; refine HTK.out.mono ?_; rintro e w6 ⟨M1, who, nd, nc, a1, c1, a2, c2, a3, c3, hran, rfl, hs⟩; obtain rfl := c_end HOK.out hran; obtain ⟨n3, hn3⟩ : ∃ n3, (lateIds ((cE t k).now + 1) M1.tasks M1.tasks.length).length = n3 := ⟨_, rfl⟩; rw [hn3]; have HS := Box.mk hs; clear hs hran hn3)
            have hs7 := HS.out.alloc (.cells #[.int .i64 (-1), .slice a1 nd c1, .slice a2 nc c2, .slice a3 n3 c3] 36)
            generalize hV7 : w6.alloc (.cells #[.int .i64 (-1), .slice a1 nd c1, .slice a2 nc c2, .slice a3 n3 c3] 36) = V7 at hs7 ⊢
            clear hV7
            generalize w6.heap.size = B7 at hs7 ⊢
            have HS := Box.mk hs7
            clear hs7
            have x0 := cell_blk (HS.out.blk (List.mem_cons_self ..)) 0
            have y0 := cell_blk (HS.out.blk (List.mem_cons_of_mem _ (List.mem_cons_self ..))) 0
            have y1 := cell_blk (HS.out.blk (List.mem_cons_of_mem _ (List.mem_cons_self ..))) 1
            have y2 := cell_blk (HS.out.blk (List.mem_cons_of_mem _ (List.mem_cons_self ..))) 2
            have y3 := cell_blk (HS.out.blk (List.mem_cons_of_mem _ (List.mem_cons_self ..))) 3
            simp only [List.getElem?_toArray, List.getElem?_cons_zero, List.getElem?_cons_succ] at x0 y0 y1 y2 y3
            have HB7 := Box.mk (HS.out.below.alloc HS.out.below.size (.cells #[.int .i64 t.prio, .int .u64 t.cost, .int .u64 t.period, .int .u64 t.dead] 53))
            have HM := Box.mk (may17_any (some ⟨V7.heap.size, 0, none⟩) 1 t (V7.alloc (.cells #[.int .i64 t.prio, .int .u64 t.cost, .int .u64 t.period, .int .u64 t.dead] 53)) (TasksAt.one (blk_new _ _)) HOK.out)
            go_wp2_with (go_at_call 16; refine HM.out.mono ?_; rintro e w8 ⟨rfl, hb8⟩)
            go_ret
            exact ⟨rfl, HB7.out.trans (hb8.mono HB7.out.size)⟩
    · have hpi : (2000 : Int) < t.period := by omega
      clear hk
      go_wp2_with (go_at_call 21; refine HM.out.mono ?_; rintro e w2 ⟨rfl, hb2⟩; have y2 := (hb2.cell (p := ⟨w.heap.size, 2, none⟩) (lt_blk HBX.out)).trans x2)
      go_ret
      exact ⟨rfl, HB1.out.trans (hb2.mono HB1.out.size)⟩
  · have hok : t.ok = false := by simpa using hok
    rw [hok] at hm
    have HM := Box.mk hm
    clear hm
    go_wp2_with (go_at_call 21; refine HM.out.mono ?_; rintro e w2 ⟨rfl, hb2⟩; have y2 := (hb2.cell (p := ⟨w.heap.size, 2, none⟩) (lt_blk HBX.out)).trans x2)
    go_ret
    exact ⟨rfl, HB1.out.trans (hb2.mono HB1.out.size)⟩

theorem u64_wf {z : Int} (h : (Lit.int .u64 z).wf = true) : 0 ≤ z := by
  simp [Lit.wf, IntKind.min, IntKind.max, IntKind.signed, IntKind.bits] at h
  omega
theorem work_of {f : Nat → Int} (h : ∀ (j : Nat) (k : IntKind), ([.i64, .u64, .u64, .u64] : List IntKind)[j]? = some k → (Lit.int k (f j)).wf = true) :
    ∃ a : WorkM, Value.agg ((([.i64, .u64, .u64, .u64] : List IntKind).zipIdx.map (fun x => Value.int x.1 (f x.2))).toArray) = workV a := by
  have u1 := u64_wf (h 1 .u64 rfl)
  have u2 := u64_wf (h 2 .u64 rfl)
  have u3 := u64_wf (h 3 .u64 rfl)
  refine ⟨⟨f 0, (f 1).toNat, (f 2).toNat, (f 3).toNat⟩, ?_⟩
  simp only [workV, Int.toNat_of_nonneg u1, Int.toNat_of_nonneg u2, Int.toNat_of_nonneg u3]
  rfl

theorem walk (z0 : Nat → Int) (x1 : Int) (w : World) (g0 : ∀ (j : Nat) (k : IntKind), ([.i64, .u64, .u64, .u64] : List IntKind)[j]? = some k → (Lit.int k (z0 j)).wf = true) (g1 : (Lit.int .u16 x1).wf = true) :
    Calls Try.prog 6 #[.agg ((([.i64, .u64, .u64, .u64] : List IntKind).zipIdx.map (fun x => Value.int x.1 (z0 x.2))).toArray), .int .u16 x1] w fun e w' => e = .returned (.bool true) ∧ Below w.heap.size w w' := by
  obtain ⟨a, ea⟩ := work_of g0
  have hx : 0 ≤ x1 ∧ x1 ≤ 65535 := by
    simp [Lit.wf, IntKind.min, IntKind.max, IntKind.signed, IntKind.bits] at g1
    omega
  obtain ⟨d, rfl⟩ : ∃ d : Nat, x1 = d := ⟨x1.toNat, by omega⟩
  rw [ea]
  exact walkV a d (by omega) w

/-! The row's step. -/
theorem own : ownKnob Try.prog.godebug = none := by kernel_rfl
theorem laidOut : laidOutB Try.prog = true := by kernel_rfl

set_option maxRecDepth 100000 in
theorem lifted (os : Os) (started : os.Started) (H : Type) (enc : TypeId × Value → H) :
    ReturnsInHanded {} Try.checked os 6 .any (Rows.cpuCutsSpec.pre6 enc Try.prog Try.f6 Rows.cpuCutsRow.domain false) (Rows.cpuCutsSpec.post enc Try.prog Try.f6 false true false false) := by
  refine returnsInHanded_of_change (C := Try.checked) own started (by kernel_rfl) Try.func6
    (ChangeSpec.witness6 (enc := enc) (C := Try.checked) false ⟨#[], #[.agg #[.int .i64 0, .int .u64 0, .int .u64 0, .int .u64 0], .int .u16 0], []⟩ 8 (by kernel_rfl) (by kernel_rfl) (by kernel_rfl) (by kernel_rfl)) ?_
  intro W base args ds gs before hval0 hW hcnd _
  have hval : ∀ (j : Nat) t v, Try.f6.params[j]? = some t → args[j]? = some v → Value.okWide Try.prog W .any base t v := hval0
  have hW' := hW
  obtain ⟨p, q, hA0, hV, rfl, hfz, hnd⟩ := hW
  have hA : DataW.TrodAll enc Try.prog W 0 (fun _ => true) true Try.f6.params.toList args.toList ds p := hA0
  rw [Try.params6] at hA hval
  obtain ⟨v0, vs0, d0, ds0, p0, q0, hargs, rfl, rfl, h0, r0⟩ := trodAll_cons hA
  obtain ⟨v1, vs1, d1, ds1, p1, q1, rfl, rfl, rfl, h1, r1⟩ := trodAll_cons r0
  obtain ⟨rfl, rfl, rfl⟩ := trodAll_nil r1
  obtain rfl : args = #[v0, v1] := by cases args; simp_all
  obtain ⟨rfl, rfl⟩ := trodVars_none hV
  have k0 := h0
  have lt0 : ∀ x ∈ p0, x.block < W.heap.size := by obtain ⟨m, hm⟩ := k0; exact DataW.trod_lt m _ _ _ hm
  obtain ⟨z0, rfl, w0⟩ := open_struct (ks := [.i64, .u64, .u64, .u64]) Try.underlying53 (by kernel_rfl) (by kernel_rfl) (by kernel_rfl) (by decide) (hval 0 53 v0 rfl rfl) h0
  obtain ⟨x1, rfl, rfl, rfl, w1⟩ := open_int Try.underlying54 (hval 1 54 v1 rfl rfl) h1
  clear hA0 hval0
  refine (walk z0 x1 W w0 w1).mono fun e W' ⟨he, bel⟩ => ?_
  subst he
  exact ⟨_, rfl, _, _, _, [], _, [], hW', trodAll_mk1 (shut_bool Try.underlying4 _), (trodAll_cons_mk (Below.trod laidOut (by kernel_rfl) (of_decide_eq_true (by kernel_rfl)) k0 bel lt0) (trodAll_cons_mk (shut_int Try.underlying54 w1) trodAll_mk0)), rfl, bel.frame _, fun h => by cases h⟩

theorem over : Rows.cpuCutsRow.holds Try.pinned (OpenSpec.ofChange Rows.cpuCutsSpec) :=
  OpenClaim.holds_of_wide 6 Try.f6 rfl rfl rfl rfl rfl rfl rfl ⟨rfl, rfl, rfl, rfl, rfl⟩ rfl rfl rfl rfl rfl (by kernel_rfl) Try.func6 (by kernel_rfl)
    (of_decide_eq_true (by kernel_rfl)) (by unfold Func.isWrapper; first | (rw [if_pos (by decide +kernel)]; kernel_rfl) | (rw [if_neg (by decide +kernel)]; exact ⟨rfl, rfl⟩))
    (fun os started H enc _ => lifted os started H enc)

/-- The statement. -/
theorem proved : Rows.CpuCutsSaid := over
#print axioms proved

end Go.Proofs.Ytbedknfapiadbaa.cpuCuts
