/-
  The walk of cpu's Release.
-/
import Derived.Test.YtbedknfapiadbaaCpuK
namespace Go.Proofs.Ytbedknfapiadbaa
open Go.RowKit

theorem CPost.of_fr {w w' : World} {y : Lay} {M : CpuM} (h : CpuAt w y M) (hf : Fr (fun _ => False) w w') : CPost w y M w' :=
  ⟨y, rfl, h.fr hf (fun _ _ h => h), hf.mono (fun _ _ h => h.elim), fun _ _ => rfl, fun k hk => Nat.lt_of_lt_of_le (h.lt k hk) hf.size⟩

/-- The job's block is made, the task points to it. -/
theorem CpuAt.start {w : World} {y : Lay} {M : CpuM} (h : CpuAt w y M) {k d dd now : Nat} {t : TaskM} (ht : M.tasks[k]? = some t) :
    ∃ own', CpuAt ((((w.setCell ⟨y.tp k, 4, none⟩ (.pointer (some ⟨w.heap.size, 0, none⟩))).setCell ⟨y.tp k, 5, none⟩ (.bool true)).setCell ⟨y.tp k, 6, none⟩ (.int .u64 now)).alloc (.cells #[.int .u64 d, .int .u64 0, .int .u64 dd, .bool false] 88)) { y with own := own', jp := upd y.jp k w.heap.size } { M with tasks := M.tasks.set k ⟨t.wk, some ⟨d, 0, dd, false⟩, true, now⟩ } ∧ Fr (fun k => y.own k ≠ none) w ((((w.setCell ⟨y.tp k, 4, none⟩ (.pointer (some ⟨w.heap.size, 0, none⟩))).setCell ⟨y.tp k, 5, none⟩ (.bool true)).setCell ⟨y.tp k, 6, none⟩ (.int .u64 now)).alloc (.cells #[.int .u64 d, .int .u64 0, .int .u64 dd, .bool false] 88)) ∧ Same w ((((w.setCell ⟨y.tp k, 4, none⟩ (.pointer (some ⟨w.heap.size, 0, none⟩))).setCell ⟨y.tp k, 5, none⟩ (.bool true)).setCell ⟨y.tp k, 6, none⟩ (.int .u64 now)).alloc (.cells #[.int .u64 d, .int .u64 0, .int .u64 dd, .bool false] 88)) y.own own' := by
  obtain ⟨ho, htb, _⟩ := h.task k t ht
  have h1 := blk_set (i := 4) htb (.pointer (some ⟨w.heap.size, 0, none⟩))
  have h2 := blk_set (i := 5) h1 (.bool true)
  have h3 := blk_set (i := 6) h2 (.int .u64 now)
  simp only [List.setIfInBounds_toArray, List.set_cons_succ, List.set_cons_zero] at h1 h2 h3
  have hsz : (((w.setCell ⟨y.tp k, 4, none⟩ (.pointer (some ⟨w.heap.size, 0, none⟩))).setCell ⟨y.tp k, 5, none⟩ (.bool true)).setCell ⟨y.tp k, 6, none⟩ (.int .u64 now)).heap.size = w.heap.size := by simp [World.setCell]
  have hj := blk_new (((w.setCell ⟨y.tp k, 4, none⟩ (.pointer (some ⟨w.heap.size, 0, none⟩))).setCell ⟨y.tp k, 5, none⟩ (.bool true)).setCell ⟨y.tp k, 6, none⟩ (.int .u64 now)) (.cells #[.int .u64 d, .int .u64 0, .int .u64 dd, .bool false] 88)
  rw [hsz] at hj
  have h4 := blk_alloc (o := .cells #[.int .u64 d, .int .u64 0, .int .u64 dd, .bool false] 88) h3
  have hf : Fr (fun b => b = y.tp k) w ((((w.setCell ⟨y.tp k, 4, none⟩ (.pointer (some ⟨w.heap.size, 0, none⟩))).setCell ⟨y.tp k, 5, none⟩ (.bool true)).setCell ⟨y.tp k, 6, none⟩ (.int .u64 now)).alloc (.cells #[.int .u64 d, .int .u64 0, .int .u64 dd, .bool false] 88)) :=
    ((((Fr.refl _ w).setCell (F := fun b => b = y.tp k) (p := ⟨y.tp k, 4, none⟩) (.inl rfl) _).setCell (F := fun b => b = y.tp k) (p := ⟨y.tp k, 5, none⟩) (.inl rfl) _).setCell (F := fun b => b = y.tp k) (p := ⟨y.tp k, 6, none⟩) (.inl rfl) _).alloc _
  generalize ((((w.setCell ⟨y.tp k, 4, none⟩ (.pointer (some ⟨w.heap.size, 0, none⟩))).setCell ⟨y.tp k, 5, none⟩ (.bool true)).setCell ⟨y.tp k, 6, none⟩ (.int .u64 now)).alloc (.cells #[.int .u64 d, .int .u64 0, .int .u64 dd, .bool false] 88)) = V at h4 hj hf ⊢
  let own' : Nat → Option Own := fun b => if b = w.heap.size then some (.job k) else y.own b
  have hs : Same w V y.own own' := by
    refine ⟨fun b hb => by simp only [own', if_neg (show ¬ b = w.heap.size by omega)], fun b hb => ?_⟩
    by_cases e : b = w.heap.size
    · subst e; exact lt_blk hj
    · simp only [own', if_neg e] at hb
      exact Nat.lt_of_lt_of_le (h.lt b hb) hf.size
  refine ⟨own', h.task_upd (i := k) (p' := w.heap.size) (t' := ⟨t.wk, some ⟨d, 0, dd, false⟩, true, now⟩) (own' := own') (hf.mono (fun b _ e => by subst e; exact .inl ho)) hs (fun _ => h4) (fun _ => ⟨by simp [own'], hj⟩), hf.mono (fun b _ e => by subst e; rw [ho]; simp), hs⟩

set_option maxHeartbeats 8000000 in
set_option maxRecDepth 100000 in
theorem release_any (y : Lay) (M : CpuM) (i : Int) (d : Nat) (w : World) (h : CpuAt w y M) (hwk : ∀ t ∈ M.tasks, t.wk.dead ≤ 1073741824 ∧ t.last ≤ M.now) (hnow : M.now ≤ 2305843009213693952) (hlen : ∀ p, (M.rows p).length ≤ 1000000) :
    Calls Try.prog 19 #[.pointer (some ⟨y.c, 0, none⟩), .int .i64 i, .int .u64 d] w (RelPost w y M i d) := by
  have c0 := h.c0
  have hs := h.tarr.small
  obtain ⟨n, hn⟩ : ∃ n, M.tasks.length = n := ⟨_, rfl⟩
  have H := Box.mk h
  rw [hn] at c0 hs
  by_cases hin : 0 ≤ i ∧ i < n
  · obtain ⟨k, rfl⟩ : ∃ k : Nat, i = k := ⟨i.toNat, by omega⟩
    have hk : k < n := by omega
    have HIS := Box.mk (is_any y M k w h true (decide_eq_true (by rw [hn]; exact hin)))
    by_cases hd0 : d = 0
    · have HV : Box (M.relK k d = .arg) := ⟨by unfold CpuM.relK; rw [if_neg (by simp [hd0])]⟩
      have hz : ((d : Int) == 0) = true := by simp [hd0]
      clear h hn hs hin hd0 hwk hlen
      go_enter Try.func19, Try.ntmps19
      go_wp2_with (go_at_call 34; refine HIS.out.mono ?_; rintro e w1 ⟨rfl, rfl⟩)
      go_ret
      unfold RelPost
      rw [HV.out]
      exact ⟨rfl, CPost.refl H.out⟩
    · have hz : ((d : Int) == 0) = false := beq_eq_false_iff_ne.2 (by omega)
      obtain ⟨t, ht⟩ : ∃ t, M.tasks[k]? = some t := ⟨M.tasks[k]'(by omega), by simp [hn, hk]⟩
      have HT := Box.mk ht
      have hwt := hwk t (List.mem_of_getElem? ht)
      obtain ⟨g, hg, _, hnc, hc, hcell⟩ := h.tarr.get (i := k) (by omega)
      obtain ⟨_, htb, _⟩ := h.task k t ht
      have e3 := cell_blk htb 3
      simp only [List.getElem?_toArray, List.getElem?_cons_zero, List.getElem?_cons_succ] at e3
      have hc3 := h.c3
      rw [hg] at c0
      rw [hn] at hnc
      have HTA := Box.mk (tadd_any M.now t.wk.dead (by omega))
      obtain ⟨D, hD⟩ : ∃ D, M.now + t.wk.dead = D := ⟨_, rfl⟩
      have HD := Box.mk hD
      rw [hD] at HTA
      have HIN : Box (0 ≤ (k : Int) ∧ d ≠ 0) := ⟨⟨by omega, hd0⟩⟩
      clear h hn hs hg htb hin hwk hD hd0
      go_enter Try.func19, Try.ntmps19
      go_upto_region 4 with (go_at_call 34; refine HIS.out.mono ?_; rintro e w1 ⟨rfl, rfl⟩)
      go_quiet ((go_at_call 35; exact Calls.quiet_of_same ((HTA.out _).mono (fun _ _ h => ⟨h.1, h.2.symm⟩))))
      go_upto_region 5 with fail
      have HA1 := Box.mk (H.out.fr (F := fun _ => False) ((Fr.refl _ w).drewN nq) (fun _ _ h => h))
      have HF1 : Box (Fr (fun _ => False) w (w.drewN nq)) := ⟨(Fr.refl _ w).drewN nq⟩
      clear c0 e3 hc3 hcell
      generalize w.drewN nq = V at HA1 HF1 ⊢
      have htb := (HA1.out.task k t HT.out).2.1
      have e2 := cell_blk htb 2
      have e0 := cell_blk htb 0
      have e4 := cell_blk htb 4
      have e5 := cell_blk htb 5
      have e6 := cell_blk htb 6
      have f4 := free_blk htb 4
      have f5 := free_blk htb 5
      have f6 := free_blk htb 6
      have hc3 := HA1.out.c3
      simp only [List.getElem?_toArray, List.getElem?_cons_zero, List.getElem?_cons_succ] at e0 e2 e4 e5 e6
      cases hj : t.job with
      | some j =>
        have HV : Box (M.relK k d = .state) := ⟨by unfold CpuM.relK; rw [if_pos HIN.out]; simp [HT.out, hj]⟩
        rw [hj] at e4
        simp only [jobV] at e4
        clear htb hj ht hwt hlen
        go_wp2
        go_ret
        unfold RelPost
        rw [HV.out]
        exact ⟨rfl, CPost.of_fr H.out HF1.out⟩
      | none =>
        rw [hj] at e4
        simp only [jobV] at e4
        have hsub : IntKind.u64.wrap ((M.now : Int) - (t.last : Int)) = ((M.now - t.last : Nat) : Int) := by rw [IntWalk.u64_in _ (by omega)]; omega
        obtain ⟨L, hL⟩ : ∃ L, M.now - t.last = L := ⟨_, rfl⟩
        rw [hL] at hsub
        by_cases hbg : t.begun = true
        · rw [hbg] at e5
          by_cases hlp : L < t.wk.period
          · have HV : Box (M.relK k d = .denied) := ⟨by unfold CpuM.relK; rw [if_pos HIN.out]; simp [HT.out, hj, hbg, hL, hlp]⟩
            have hli : (L : Int) < t.wk.period := by omega
            clear htb hj ht hwt hlen hlp hbg hL
            go_upto_region 7 with fail
            go_quiet (fail)
            go_wp2
            go_ret
            unfold RelPost
            rw [HV.out]
            exact ⟨rfl, CPost.of_fr H.out (HF1.out.drewN _)⟩
          · have HV : Box (M.relK k d = .go t k) := ⟨by unfold CpuM.relK; rw [if_pos HIN.out]; simp [HT.out, hj, hbg, hL, hlp]⟩
            have hli : ¬ (L : Int) < t.wk.period := by omega
            clear hj ht hwt hlp hbg hL
            go_upto_region 7 with fail
            go_quiet (fail)
            go_upto_region 11 with fail
            have HA2 := Box.mk (HA1.out.fr (F := fun _ => False) ((Fr.refl _ V).drewN nq) (fun _ _ h => h))
            have HF2 := Box.mk (HF1.out.drewN nq)
            clear e0 e2 e4 e5 e6 f4 f5 f6 hc3 htb hsub
            generalize V.drewN nq = V2 at HA2 HF2 ⊢
            have htb := (HA2.out.task k t HT.out).2.1
            have e4 := cell_blk htb 4
            have e5 := cell_blk htb 5
            have e6 := cell_blk htb 6
            have f4 := free_blk htb 4
            have f5 := free_blk htb 5
            have f6 := free_blk htb 6
            have hc3 := HA2.out.c3
            have hcl := lt_blk HA2.out.cpu.2
            have htl := lt_blk htb
            simp only [List.getElem?_toArray, List.getElem?_cons_zero, List.getElem?_cons_succ] at e4 e5 e6
            have hst := HA2.out.start (d := d) (dd := D) (now := M.now) HT.out
            clear htb
            go_upto_region 12 with fail
            clear e4 e5 e6 f4 f5 f6 hc3 hcl htl
            generalize (((V2.setCell ⟨y.tp k, 4, none⟩ (.pointer (some ⟨V2.heap.size, 0, none⟩))).setCell ⟨y.tp k, 5, none⟩ (.bool true)).setCell ⟨y.tp k, 6, none⟩ (.int .u64 M.now)).alloc (.cells #[.int .u64 d, .int .u64 0, .int .u64 D, .bool false] 88) = V3 at hst ⊢
            obtain ⟨own3, ha3, hf3, hs3⟩ := hst
            have HA3 := Box.mk ha3
            have HF3 := Box.mk hf3
            have HS3 := Box.mk hs3
            have c2 := ha3.c2
            have t0 := cell_blk (ha3.task k ⟨t.wk, some ⟨d, 0, D, false⟩, true, M.now⟩ (by show (M.tasks.set k _)[k]? = _; rw [List.getElem?_set, if_pos rfl, if_pos (List.getElem?_eq_some_iff.1 HT.out).1])).2.1 0
            simp only [List.getElem?_toArray, List.getElem?_cons_zero] at t0 c2
            have hq3 : QRep V3.drew y.q M.rows (fun b => own3 b = some .queue) := ha3.queue.fr (G := fun _ => False) ((Fr.refl _ V3).drew) (fun _ _ h => h)
            have HCM := Box.mk (come_any y.q M.rows _ k t.wk.prio V3.drew hq3 hlen)
            clear ha3 hf3 hs3 hq3
            go_region_with (go_at_call 36; refine HCM.out.mono ?_; rintro e w5 ⟨rfl, hq5⟩; have HQ5 := Box.mk hq5; clear hq5)
            all_goals
              go_wp2
              go_ret
              unfold RelPost
              rw [HV.out]
              have ha4 := HA3.out.fr (F := fun _ => False) ((Fr.refl _ V3).drew) (fun _ _ h => h)
              obtain ⟨own5, ha5, hf5, hs5⟩ := ha4.q_call HQ5.out
              have hz2 := HF2.out.size
              have hz3 := HF3.out.size
              refine ⟨rfl, { y with own := own5, jp := upd y.jp k V2.heap.size }, rfl, ?_, ?_, fun b hb => (hs5.1 b (Nat.lt_of_lt_of_le hb (Nat.le_trans hz2 hz3))).trans (HS3.out.1 b (Nat.lt_of_lt_of_le hb hz2)), hs5.2⟩
              · unfold CpuM.released
                rw [HD.out]
                exact ha5
              · refine ((HF2.out.mono (fun _ _ h => h.elim)).trans HF3.out).drew.trans' (F := fun b => y.own b ≠ none) hf5 (fun b hb e => ?_)
                have e : own3 b = some .queue := e
                rw [HS3.out.1 b (Nat.lt_of_lt_of_le hb hz2)] at e
                rw [e]; simp
        · have hbf : t.begun = false := Bool.eq_false_iff.2 hbg
          rw [hbf] at e5
          have HV : Box (M.relK k d = .go t k) := ⟨by unfold CpuM.relK; rw [if_pos HIN.out]; simp [HT.out, hj, hbf]⟩
          clear hj ht hwt hbg hbf hL
          go_upto_region 7 with fail
          go_quiet (fail)
          go_upto_region 11 with fail
          have HA2 := Box.mk (HA1.out.fr (F := fun _ => False) ((Fr.refl _ V).drewN nq) (fun _ _ h => h))
          have HF2 := Box.mk (HF1.out.drewN nq)
          clear e0 e2 e4 e5 e6 f4 f5 f6 hc3 htb hsub
          generalize V.drewN nq = V2 at HA2 HF2 ⊢
          have htb := (HA2.out.task k t HT.out).2.1
          have e4 := cell_blk htb 4
          have e5 := cell_blk htb 5
          have e6 := cell_blk htb 6
          have f4 := free_blk htb 4
          have f5 := free_blk htb 5
          have f6 := free_blk htb 6
          have hc3 := HA2.out.c3
          have hcl := lt_blk HA2.out.cpu.2
          have htl := lt_blk htb
          simp only [List.getElem?_toArray, List.getElem?_cons_zero, List.getElem?_cons_succ] at e4 e5 e6
          have hst := HA2.out.start (d := d) (dd := D) (now := M.now) HT.out
          clear htb
          go_upto_region 12 with fail
          clear e4 e5 e6 f4 f5 f6 hc3 hcl htl
          generalize (((V2.setCell ⟨y.tp k, 4, none⟩ (.pointer (some ⟨V2.heap.size, 0, none⟩))).setCell ⟨y.tp k, 5, none⟩ (.bool true)).setCell ⟨y.tp k, 6, none⟩ (.int .u64 M.now)).alloc (.cells #[.int .u64 d, .int .u64 0, .int .u64 D, .bool false] 88) = V3 at hst ⊢
          obtain ⟨own3, ha3, hf3, hs3⟩ := hst
          have HA3 := Box.mk ha3
          have HF3 := Box.mk hf3
          have HS3 := Box.mk hs3
          have c2 := ha3.c2
          have t0 := cell_blk (ha3.task k ⟨t.wk, some ⟨d, 0, D, false⟩, true, M.now⟩ (by show (M.tasks.set k _)[k]? = _; rw [List.getElem?_set, if_pos rfl, if_pos (List.getElem?_eq_some_iff.1 HT.out).1])).2.1 0
          simp only [List.getElem?_toArray, List.getElem?_cons_zero] at t0 c2
          have hq3 : QRep V3.drew y.q M.rows (fun b => own3 b = some .queue) := ha3.queue.fr (G := fun _ => False) ((Fr.refl _ V3).drew) (fun _ _ h => h)
          have HCM := Box.mk (come_any y.q M.rows _ k t.wk.prio V3.drew hq3 hlen)
          clear ha3 hf3 hs3 hq3
          go_region_with (go_at_call 36; refine HCM.out.mono ?_; rintro e w5 ⟨rfl, hq5⟩; have HQ5 := Box.mk hq5; clear hq5)
          all_goals
            go_wp2
            go_ret
            unfold RelPost
            rw [HV.out]
            have ha4 := HA3.out.fr (F := fun _ => False) ((Fr.refl _ V3).drew) (fun _ _ h => h)
            obtain ⟨own5, ha5, hf5, hs5⟩ := ha4.q_call HQ5.out
            have hz2 := HF2.out.size
            have hz3 := HF3.out.size
            refine ⟨rfl, { y with own := own5, jp := upd y.jp k V2.heap.size }, rfl, ?_, ?_, fun b hb => (hs5.1 b (Nat.lt_of_lt_of_le hb (Nat.le_trans hz2 hz3))).trans (HS3.out.1 b (Nat.lt_of_lt_of_le hb hz2)), hs5.2⟩
            · unfold CpuM.released
              rw [HD.out]
              exact ha5
            · refine ((HF2.out.mono (fun _ _ h => h.elim)).trans HF3.out).drew.trans' (F := fun b => y.own b ≠ none) hf5 (fun b hb e => ?_)
              have e : own3 b = some .queue := e
              rw [HS3.out.1 b (Nat.lt_of_lt_of_le hb hz2)] at e
              rw [e]; simp
  · have HIS := Box.mk (is_any y M i w h false (decide_eq_false (by rw [hn]; exact hin)))
    have HV : Box (M.relK i d = .arg) := ⟨by
      unfold CpuM.relK
      by_cases h0 : 0 ≤ i ∧ d ≠ 0
      · rw [if_pos h0, List.getElem?_eq_none (by omega)]
      · rw [if_neg h0]⟩
    clear h hn hs hin hwk hlen
    go_enter Try.func19, Try.ntmps19
    go_wp2_with (go_at_call 34; refine HIS.out.mono ?_; rintro e w1 ⟨rfl, rfl⟩)
    go_ret
    unfold RelPost
    rw [HV.out]
    exact ⟨rfl, CPost.refl H.out⟩

end Go.Proofs.Ytbedknfapiadbaa
