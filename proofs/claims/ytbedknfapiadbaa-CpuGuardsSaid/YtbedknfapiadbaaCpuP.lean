/-
  The walk of cpu's New, where all may be.
-/
import Derived.Test.YtbedknfapiadbaaCpuO
namespace Go.Proofs.Ytbedknfapiadbaa
open Go.RowKit

set_option maxHeartbeats 8000000 in
set_option maxRecDepth 100000 in
theorem cpuNew_any (ao : Option Addr) (n cap : Nat) (ts : List WorkM) (hn : ts.length = n) (bo : Option Addr) (m cap2 : Nat) (ls : List ServM) (hm : ls.length = m) (w : World) (hT : TasksAt w ao ts) (hL : LoadsAt w bo ls) (hot : okTasks ts = true) (hol : okLoads ls = true) :
    Calls Try.prog 11 #[.slice ao n cap, .slice bo m cap2] w fun e w' => ∃ c y, e = .returned (.tuple #[.pointer (some ⟨c, 0, none⟩), .int .i64 0]) ∧ NSt w w' c y ts ls n m := by
  have HT := Box.mk hT
  have HL := Box.mk hL
  have HN := Box.mk hn
  have HM := Box.mk hm
  have HOT := Box.mk hot
  have HOL := Box.mk hol
  have hn32 : n ≤ 32 := by rw [← hn]; exact (okTasks_iff.1 hot).1
  have hm16 : m ≤ 16 := by rw [← hm]; exact (okLoads_iff.1 hol).1
  obtain ⟨i0, hi, hz0, hz1, hz2⟩ := info_parts Try.infoTP
  obtain ⟨i1, hj, hy0, hy1, hy2⟩ := info_parts Try.infoSP
  obtain ⟨y0, hst⟩ := NSt.start w
  have HST := Box.mk hst
  clear hT hL hn hm hot hol hst
  go_enter Try.func11, Try.ntmps11
  go_wp2_with (go_at_call 25; refine (new_any _).mono ?_; rintro e w1 ⟨rfl, rfl⟩)
  go_loopw [8, 21] (fun _ i wr => ∃ (k : Nat) (y : Lay), k ≤ n ∧ i = .int .i64 k ∧ NSt w wr (w.heap.size + 1) y (ts.take k) [] k 0) (fun _ i _ => n - (intOf i).toNat)
  case atStart => exact ⟨0, y0, Nat.zero_le _, rfl, HST.out⟩
  case round =>
    obtain ⟨k, y, hk, rfl, hns⟩ := hrel
    have HNS := Box.mk hns
    clear hns
    by_cases hlt : k < n
    · have htk : k < ts.length := by rw [HN.out]; exact hlt
      obtain ⟨b, off, rfl, hbl, hc⟩ := HT.out.2 (by omega)
      obtain ⟨c0, c1, c2, c3⟩ := hc k htk
      have d0 := (HNS.out.bel.cell (p := ⟨b, off + k * 4, none⟩) hbl).trans c0
      have d1 := (HNS.out.bel.cell (p := ⟨b, off + k * 4 + 1, none⟩) hbl).trans c1
      have d2 := (HNS.out.bel.cell (p := ⟨b, off + k * 4 + 2, none⟩) hbl).trans c2
      have d3 := (HNS.out.bel.cell (p := ⟨b, off + k * 4 + 3, none⟩) hbl).trans c3
      have HTK : Box (ts.take (k + 1) = ts.take k ++ [wk ts k]) := ⟨by rw [List.take_succ_eq_append_getElem htk, wk_in htk]⟩
      have hok := work_get HOT.out htk
      clear hc c0 c1 c2 c3 htk
      generalize wk ts k = t at d0 d1 d2 d3 HTK hok
      have HK := Box.mk hok
      clear hok
      go_upto_region 9 with (go_at_call 26; refine (rtaMay_any t _).mono ?_; rw [HK.out]; rintro e w2 ⟨rfl, hb2⟩; have HB2 := Box.mk hb2; clear hb2)
      have hbx := blk_new wr (.cells #[.int .i64 t.prio, .int .u64 t.cost, .int .u64 t.period, .int .u64 t.dead] 53)
      have hwb : Below wr.heap.size wr w2 := ((Below.refl _ _).alloc (Nat.le_refl _) (.cells #[.int .i64 t.prio, .int .u64 t.cost, .int .u64 t.period, .int .u64 t.dead] 53)).trans (HB2.out.mono (by simp))
      have hb2 : w2.heap[wr.heap.size]? = _ := (HB2.out.block wr.heap.size (by simp)).trans hbx
      have x0 := cell_blk hb2 0
      have x1 := cell_blk hb2 1
      have x2 := cell_blk hb2 2
      have x3 := cell_blk hb2 3
      simp only [List.getElem?_toArray, List.getElem?_cons_zero, List.getElem?_cons_succ] at x0 x1 x2 x3
      have HN2 := Box.mk (HNS.out.later hwb)
      have hcb := HN2.out.at'.cpu.2
      rw [HN2.out.hc] at hcb
      have hcc := cell_blk hcb 0
      have hcf := free_blk hcb 0
      have hcl := lt_blk hcb
      have hbl2 := lt_blk hb2
      have hcl2 : w.heap.size < w2.heap.size := by omega
      have hlT : (newM (ts.take k) []).tasks.length = k := by show ((ts.take k).map newTask).length = k; rw [List.length_map]; exact HN2.out.hn
      rw [hlT] at hcc
      simp only [List.getElem?_toArray, List.getElem?_cons_zero] at hcc
      have HROW := Box.mk (((HN2.out.rowT.alloc (.cells #[.int .i64 t.prio, .int .u64 t.cost, .int .u64 t.period, .int .u64 t.dead, .pointer none, .bool false, .int .u64 0] 72)).alloc (.cells #[.pointer (some ⟨w2.heap.size, 0, none⟩)] 69)))
      have hnw := blk_new (w2.alloc (.cells #[.int .i64 t.prio, .int .u64 t.cost, .int .u64 t.period, .int .u64 t.dead, .pointer none, .bool false, .int .u64 0] 72)) (.cells #[.pointer (some ⟨w2.heap.size, 0, none⟩)] 69)
      rw [show (w2.alloc (.cells #[.int .i64 t.prio, .int .u64 t.cost, .int .u64 t.period, .int .u64 t.dead, .pointer none, .bool false, .int .u64 0] 72)).heap.size = w2.heap.size + 1 from by simp] at hnw
      have HNW := Box.mk hnw
      have HONE : Box (∀ u ∈ ([.pointer (some ⟨w2.heap.size, 0, none⟩)] : List Value), u.oneCell' = true) := ⟨by simp [Value.oneCell']⟩
      have HCC := Box.mk hcc
      have HCF := Box.mk hcf
      have hws := HN2.out.bel.size
      clear hbx hwb hb2 hcb hcf hlT hnw
      go_region_law (refine step_append_lies _ rfl (.tmp 32) (.tmp 36) 65 rfl w.heap.size 69 i0 (.pointer none) 1 8 Try.underlying65 hi hz0 hz1 hz2 rfl (by decide) (.slice y.ta k y.tc) k (ptrs y.tp k) (by simp [Act.eval, Act.put]) (ownsRow_fr HROW.out (fun _ _ => rfl)) ⟨w2.heap.size + 1, 0, none⟩ 1 1 [.pointer (some ⟨w2.heap.size, 0, none⟩)] (by simp [Act.eval, Act.put]) rfl (World.news_of_block (cs := #[.pointer (some ⟨w2.heap.size, 0, none⟩)]) HNW.out) HONE.out (by decide) (by unfold maxLen; omega) (by omega) (by simp; omega) (w2.heap.size + 2) (by simp) ?_; intro g c3 w3 ho3 hg3 hat3 _; have HE := Box.mk (HN2.out.task ho3 hg3 hat3); have hfr3 : Fr (fun b => (Value.slice y.ta k y.tc).ownBlock = some b) w2 w3 := Fr.grown ((((Fr.refl _ w2).alloc _).alloc _).drew) hg3 (fun b e => .inl e); have hcn : ¬ (Value.slice y.ta k y.tc).ownBlock = some (w.heap.size + 1) := (fun e => by have h1 := HN2.out.rowOwn _ e; have h2 := HN2.out.at'.cpu.1; rw [HN2.out.hc, h1] at h2; simp at h2); have q1 := (hfr3.cell (p := ⟨w.heap.size + 1, 0, none⟩) hcl hcn).trans HCC.out; have q2 := (hfr3.frozen (p := ⟨w.heap.size + 1, 0, none⟩) hcl hcn).trans HCF.out; clear ho3 hg3 hat3 hfr3 hcn)
      all_goals
        obtain ⟨y', hy'⟩ := HE.out
        go_wp2
        go_roundw
        case rel => exact ⟨k + 1, y', by omega, by go_num, by rw [HTK.out]; exact hy'⟩
        case measure => simp [intOf] <;> omega
    · obtain rfl : n = k := by omega
      have HTA : Box (ts.take n = ts) := ⟨by rw [← HN.out]; exact List.take_length⟩
      have hns := HNS.out
      rw [HTA.out] at hns
      have HNS := Box.mk hns
      clear hns
      rename World => V0
      have hal := All_any none 0 [] bo cap2 ls V0 ⟨by simp, fun h => absurd h (by simp)⟩ (HL.out.later HNS.out.bel)
      have hat : allM [] ls = true := by simp [allM, okTasks, HOL.out]
      rw [hat, HM.out] at hal
      simp only [List.length_nil] at hal
      have HAL := Box.mk hal
      clear hal hat
      go_wp2_with (go_at_call 27; refine HAL.out.mono ?_; rintro e w2 ⟨rfl, hb2⟩; have HNS := Box.mk (HNS.out.later hb2); clear hb2)
      clear HAL
      go_loopw [10, 11, 12, 46] (fun _ _ _ i wr => ∃ (k : Nat) (y : Lay), k ≤ m ∧ i = .int .i64 k ∧ NSt w wr (w.heap.size + 1) y ts (ls.take k) n k) (fun _ _ _ i _ => m - (intOf i).toNat)
      case atStart => exact ⟨0, y, Nat.zero_le _, rfl, HNS.out⟩
      case round =>
        clear HNS HST
        obtain ⟨k, y, hk, rfl, hns⟩ := hrel
        have HNS := Box.mk hns
        clear hns
        by_cases hlt : k < m
        · have hlk : k < ls.length := by rw [HM.out]; exact hlt
          obtain ⟨b, off, rfl, hbl, hc⟩ := HL.out.2 (by omega)
          obtain ⟨c0, c1⟩ := hc k hlk
          have d0 := (HNS.out.bel.cell (p := ⟨b, off + k * 2, none⟩) hbl).trans c0
          have d1 := (HNS.out.bel.cell (p := ⟨b, off + k * 2 + 1, none⟩) hbl).trans c1
          have HTK : Box (ls.take (k + 1) = ls.take k ++ [sv ls k]) := ⟨by rw [List.take_succ_eq_append_getElem hlk, sv_in hlk]⟩
          have hok := ServM.ok_iff.1 (serv_get HOL.out hlk)
          clear hc c0 c1 hlk
          generalize sv ls k = s at d0 d1 HTK hok
          have HK : Box (s.may = true) := ⟨ServM.may_iff.2 ⟨hok.1, hok.2.1, hok.2.2.1, by omega⟩⟩
          clear hok
          go_upto_region 19 with (go_at_call 28; refine (sporNew_any s _ HK.out).mono ?_; rintro e w2 ⟨bb, rfl, hbb, hbu, hb2⟩; have HB2 := Box.mk hb2; have HBB := Box.mk hbb; have HBU := Box.mk hbu; clear hb2 hbb hbu)
          have hwb : Below wr.heap.size wr w2 := ((Below.refl _ _).alloc (Nat.le_refl _) (.cells #[.int .i64 s.budget, .int .u64 s.period] 41)).trans (HB2.out.mono (by simp))
          have hb1 : wr.heap.size ≤ bb := by have := HBB.out; simp at this; omega
          have HN2 := Box.mk (HNS.out.later hwb)
          have hcb := HN2.out.at'.cpu.2
          rw [HN2.out.hc] at hcb
          have hcc := cell_blk hcb 1
          have hcf := free_blk hcb 1
          have hcl := lt_blk hcb
          have hcl2 : w.heap.size < w2.heap.size := by omega
          have hlT : (newM ts (ls.take k)).servers.length = k := by show ((ls.take k).map newSrv).length = k; rw [List.length_map]; exact HN2.out.hm
          rw [hlT] at hcc
          simp only [List.getElem?_toArray, List.getElem?_cons_zero, List.getElem?_cons_succ] at hcc
          have HROW := Box.mk (((HN2.out.rowS.alloc (.cells #[.pointer (some ⟨bb, 0, none⟩), .int .u64 0] 78)).alloc (.cells #[.pointer (some ⟨w2.heap.size, 0, none⟩)] 76)))
          have hnw := blk_new (w2.alloc (.cells #[.pointer (some ⟨bb, 0, none⟩), .int .u64 0] 78)) (.cells #[.pointer (some ⟨w2.heap.size, 0, none⟩)] 76)
          rw [show (w2.alloc (.cells #[.pointer (some ⟨bb, 0, none⟩), .int .u64 0] 78)).heap.size = w2.heap.size + 1 from by simp] at hnw
          have HNW := Box.mk hnw
          have HONE : Box (∀ u ∈ ([.pointer (some ⟨w2.heap.size, 0, none⟩)] : List Value), u.oneCell' = true) := ⟨by simp [Value.oneCell']⟩
          have HCC := Box.mk hcc
          have HCF := Box.mk hcf
          have HWB := Box.mk hwb
          have HB1 := Box.mk hb1
          have hws := HN2.out.bel.size
          clear hwb hcb hcf hlT hnw hb1
          go_wp2_with (at_builtin; refine wpList_append_lies _ rfl (.tmp 62) (.tmp 66) 66 rfl w.heap.size 76 i1 (.pointer none) 1 8 Try.underlying66 hj hy0 hy1 hy2 rfl (by decide) (.slice y.sa k y.sc) k (ptrs y.sp k) rfl HROW.out ⟨w2.heap.size + 1, 0, none⟩ 1 1 [.pointer (some ⟨w2.heap.size, 0, none⟩)] rfl rfl (World.news_of_block (cs := #[.pointer (some ⟨w2.heap.size, 0, none⟩)]) HNW.out) HONE.out (by decide) ?b1 ?b2 ?b3 (w2.heap.size + 2) ?b4 ?next)
          case b1 => unfold maxLen; omega
          case b2 => omega
          case b3 => simp; omega
          case b4 => simp
          case next =>
            intro g c3 w3 ho3 hg3 hat3 _
            have hg4 : (((w2.alloc (.cells #[.pointer (some ⟨bb, 0, none⟩), .int .u64 0] 78)).alloc (.cells #[.pointer (some ⟨w2.heap.size, 0, none⟩)] 76)).drew).grownBy w3 (Value.slice y.sa k y.sc).ownBlock := ⟨hg3.os, hg3.tape, hg3.output, hg3.size, hg3.block⟩
            have HE := Box.mk (HNS.out.srv HWB.out HB1.out HBU.out ho3 hg4 hat3)
            have hfr3 : Fr (fun b => (Value.slice y.sa k y.sc).ownBlock = some b) w2 w3 := Fr.grown (((Fr.refl _ w2).alloc _).alloc _) hg3 (fun b e => .inl e)
            have hcn : ¬ (Value.slice y.sa k y.sc).ownBlock = some (w.heap.size + 1) := HN2.out.rowS_ne
            have q1 := (hfr3.cell (p := ⟨w.heap.size + 1, 1, none⟩) hcl hcn).trans HCC.out
            have q2 := (hfr3.frozen (p := ⟨w.heap.size + 1, 1, none⟩) hcl hcn).trans HCF.out
            clear ho3 hg3 hg4 hat3 hfr3 hcn
            obtain ⟨y', hy'⟩ := HE.out
            go_wp2
            go_roundw
            case rel => exact ⟨k + 1, y', by omega, by go_num, by rw [HTK.out]; exact hy'⟩
            case measure => simp [intOf] <;> omega
        · obtain rfl : m = k := by omega
          have HTB : Box (ls.take m = ls) := ⟨by rw [← HM.out]; exact List.take_length⟩
          go_wp2
          go_ret2
          exact ⟨_, y, rfl, by have := HNS.out; rwa [HTB.out] at this⟩

end Go.Proofs.Ytbedknfapiadbaa
