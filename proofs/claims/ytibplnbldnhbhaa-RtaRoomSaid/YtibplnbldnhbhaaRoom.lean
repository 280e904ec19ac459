/-
  RtaRoom: whoever is let in leaves all done in time; whoever isn't would have left somebody not so; more cost is let in only where less is. No condition but the statement's.
-/
import Derived.Test.YtibplnbldnhbhaaRtaN
import Derived.Test.YtibplnbldnhbhaaRtaI
import Derived.Test.YtibplnbldnhbhaaRtaS
import Derived.Test.YtibplnbldnhbhaaRows
import Derived.Deep.DeepCutAuto
import Derived.Deep.CutBlock
import Derived.Deep.RegionLawGrows
namespace Go.Proofs.Ytibplnbldnhbhaa.rtaRoom
open Go.ChangeShapes Go.WideShapes Go.ChangeAt Go.RowKit Go.Proofs.Ytibplnbldnhbhaa

set_option maxHeartbeats 2000000 in
set_option maxRecDepth 100000 in
theorem walkV (ao : Option Addr) (n cap : Nat) (ts : List WorkM) (hn : ts.length = n) (bo : Option Addr) (m cap2 : Nat) (ls : List ServM) (hm : ls.length = m) (t : WorkM) (w : World) (hT : TasksAt w ao ts) (hL : LoadsAt w bo ls) :
    Calls Try.prog 7 #[.slice ao n cap, .slice bo m cap2, .agg #[.int .i64 t.prio, .int .u64 t.cost, .int .u64 t.period, .int .u64 t.dead]] w fun e w' => e = .returned (.bool true) ∧ Below w.heap.size w w' := by
  have HT := Lib.hid hT
  have HL := Lib.hid hL
  have HN := Lib.hid hn
  have HM := Lib.hid hm
  clear hT hL hn hm
  go_enter Try.func7, Try.ntmps7
  go_upto_region 3 with (go_at_call 9; refine (awake_any _).mono ?_; rintro e w1 ⟨rfl, hb1⟩)
  have HX1 := Lib.hid ((BX.new w t 26).later hb1)
  have HB1 := Lib.hid (((Below.refl w.heap.size w).alloc (Nat.le_refl _) (.cells (bcells t) 26)).trans (hb1.mono (by simp)))
  clear hb1
  obtain ⟨_, x0, x1, x2, x3⟩ := HX1.out
  by_cases hs : smallM ts m = true
  · have HS := Lib.hid hs
    by_cases hs2 : smallM [t] 0 = true
    · have HS2 := Lib.hid hs2
      have HLen : Box (ts.length ≤ 1000000) := ⟨by have := (smallM_iff.1 hs).2.1; omega⟩
      obtain ⟨ok, hok⟩ : ∃ v, allM (ts ++ [t]) ls = v := ⟨_, rfl⟩
      have HOK := Lib.hid hok
      clear hs hs2 hok
      have HTB : Box (TasksAt (w1.alloc (.cells #[.int .i64 t.prio, .int .u64 t.cost, .int .u64 t.period, .int .u64 t.dead] 26)) (some ⟨w1.heap.size, 0, none⟩) [t]) := ⟨TasksAt.blk (blk_new w1 (.cells (bcells t) 26)) rfl (by simp)⟩
      go_upto_region 6 with (first
        | (go_at_call 10; with_reducible refine (Small_n ao cap n ts HN.out _ cap2 m _ (HT.out.later HB1.out)).mono ?_; rintro e w2 ⟨rfl, rfl⟩; rw [HS.out])
        | (go_at_call 10; with_reducible refine (Small_n (some ⟨w1.heap.size, 0, none⟩) 1 1 [t] rfl none 0 0 _ HTB.out).mono ?_; rintro e w2 ⟨rfl, rfl⟩; rw [HS2.out])
        | (go_at_call 17; with_reducible refine (Admit_x ao cap n ts HN.out bo cap2 m ls HM.out _ (HT.out.later (HB1.out.alloc HB1.out.size _)) (HL.out.later (HB1.out.alloc HB1.out.size _)) t HLen.out ok HOK.out).mono ?_; rintro e w2 ⟨rfl, hb2⟩))
      have HX2 := Lib.hid ((HX1.out.later ((Below.refl _ _).alloc (Nat.le_refl _) _)).later hb2)
      have HB2 := Lib.hid ((HB1.out.alloc HB1.out.size _).trans (hb2.mono (HB1.out.alloc HB1.out.size (.cells #[.int .i64 t.prio, .int .u64 t.cost, .int .u64 t.period, .int .u64 t.dead] 26)).size))
      clear hb2 x0 x1 x2 x3 HTB HX1 HB1
      obtain ⟨_, x0, x1, x2, x3⟩ := HX2.out
      have HSR : Box (SrcAt w2 ao n (wcells ts)) := ⟨HN.out ▸ (HT.out.later HB2.out).src⟩
      have HWL : Box ((wcells ts).length = n * 4) := ⟨HN.out ▸ wcells_len ts⟩
      have HNL : n ≤ 1000000 := HN.out ▸ HLen.out
      obtain ⟨i0, hi, hz0, hz1, hz2⟩ := info_parts Try.infoWork
      go_cut [8] (fun s8 wx => ∃ g c3, s8 = .slice (some ⟨g, 0, none⟩) (n + 1) c3 ∧ TasksAt wx (some ⟨g, 0, none⟩) (ts ++ [t]) ∧ Below w2.heap.size w2 wx)
      case first =>
        go_region_law (first
          | (refine step_append_row _ rfl (.tmp 26) (.tmp 27) 22 rfl w2.heap.size 26 i0 (.agg #[.int .i64 0, .int .u64 0, .int .u64 0, .int .u64 0]) 4 32 Try.underlying22 hi hz0 hz1 hz2 rfl (by decide) (.slice (some ⟨w2.heap.size, 0, none⟩) 0 0) 0 [] (by simp [Act.eval]) (ownA w2 26 4) ao n cap (wcells ts) (by simp [Act.eval]) HWL.out (HSR.out.later (belA w2 26)) wcells_one (by unfold maxLen; omega) (by omega) (belA w2 26).size n (by simp) (some (w2.heap.size)) rfl ?_; intro a1 c1 w3 ho3 hg3 _; have HM := Lib.hid (Mid.of (xs := wcells ts) (by simpa using ho3) (belA w2 26) hg3 (fun k e => by simp at e; omega)); have hx3 := HX2.out.later HM.out.bel; obtain ⟨_, x0, x1, x2, x3⟩ := hx3; clear ho3 hg3)
          | (refine step_append_row _ rfl (.tmp 26) (.tmp 27) 22 rfl w2.heap.size 26 i0 (.agg #[.int .i64 0, .int .u64 0, .int .u64 0, .int .u64 0]) 4 32 Try.underlying22 hi hz0 hz1 hz2 rfl (by decide) (.slice (some ⟨w2.heap.size, 0, none⟩) 0 0) 0 [] (by simp [Act.eval]) (ownB w2 26 4 (.cells #[.int .i64 t.prio, .int .u64 t.cost, .int .u64 t.period, .int .u64 t.dead] 26)) ao n cap (wcells ts) (by simp [Act.eval]) HWL.out (HSR.out.later (belB w2 26 (.cells #[.int .i64 t.prio, .int .u64 t.cost, .int .u64 t.period, .int .u64 t.dead] 26))) wcells_one (by unfold maxLen; omega) (by omega) (belB w2 26 (.cells #[.int .i64 t.prio, .int .u64 t.cost, .int .u64 t.period, .int .u64 t.dead] 26)).size n (by simp) (some (w2.heap.size)) rfl ?_; intro a1 c1 w3 ho3 hg3 _; have HM := Lib.hid (Mid.of (xs := wcells ts) (by simpa using ho3) (belB w2 26 (.cells #[.int .i64 t.prio, .int .u64 t.cost, .int .u64 t.period, .int .u64 t.dead] 26)) hg3 (fun k e => by simp at e; omega)); have hx3 := HX2.out.later HM.out.bel; obtain ⟨_, x0, x1, x2, x3⟩ := hx3; have hblk := Lib.hid (grown_blk hg3 (rowB w2 26 (.cells #[.int .i64 t.prio, .int .u64 t.cost, .int .u64 t.period, .int .u64 t.dead] 26)) (by simp)); clear ho3 hg3)
          | (refine step_append_row _ rfl (.tmp 26) (.tmp 27) 22 rfl w2.heap.size 26 i0 (.agg #[.int .i64 0, .int .u64 0, .int .u64 0, .int .u64 0]) 4 32 Try.underlying22 hi hz0 hz1 hz2 rfl (by decide) (.slice (some ⟨w2.heap.size + 1, 0, none⟩) 0 0) 0 [] (by simp [Act.eval]) (ownC w2 26 4 (.cells #[.int .i64 t.prio, .int .u64 t.cost, .int .u64 t.period, .int .u64 t.dead] 26)) ao n cap (wcells ts) (by simp [Act.eval]) HWL.out (HSR.out.later (belC w2 26 (.cells #[.int .i64 t.prio, .int .u64 t.cost, .int .u64 t.period, .int .u64 t.dead] 26))) wcells_one (by unfold maxLen; omega) (by omega) (belC w2 26 (.cells #[.int .i64 t.prio, .int .u64 t.cost, .int .u64 t.period, .int .u64 t.dead] 26)).size n (by simp) (some (w2.heap.size + 1)) rfl ?_; intro a1 c1 w3 ho3 hg3 _; have HM := Lib.hid (Mid.of (xs := wcells ts) (by simpa using ho3) (belC w2 26 (.cells #[.int .i64 t.prio, .int .u64 t.cost, .int .u64 t.period, .int .u64 t.dead] 26)) hg3 (fun k e => by simp at e; omega)); have hx3 := HX2.out.later HM.out.bel; obtain ⟨_, x0, x1, x2, x3⟩ := hx3; have hblk := Lib.hid (grown_blk hg3 (rowC w2 26 (.cells #[.int .i64 t.prio, .int .u64 t.cost, .int .u64 t.period, .int .u64 t.dead] 26)) (by simp)); clear ho3 hg3)
          | (refine step_append_lies _ rfl (.tmp 28) (.tmp 30) 22 rfl w2.heap.size 26 i0 (.agg #[.int .i64 0, .int .u64 0, .int .u64 0, .int .u64 0]) 4 32 Try.underlying22 hi hz0 hz1 hz2 rfl (by decide) (.slice a1 n c1) n (wcells ts) (by simp [Act.eval]) (HM.out.own.alloc _) ⟨w3.heap.size, 0, none⟩ 1 1 [.int .i64 t.prio, .int .u64 t.cost, .int .u64 t.period, .int .u64 t.dead] (by simp [Act.eval]) rfl (World.news_of_block (cs := #[.int .i64 t.prio, .int .u64 t.cost, .int .u64 t.period, .int .u64 t.dead]) (blk_new _ _)) (by simp [Value.oneCell']) (by omega) (by unfold maxLen; omega) (by omega) ((Nat.le_trans HM.out.bel.size (by simp))) _ rfl ?_; intro g c3 w4 ho4 hg4 _ _; have HE := Lib.hid (HM.out.fin rfl ((Below.refl _ _).alloc (Nat.le_refl _) _) ho4 hg4); clear ho4 hg4)
          | (refine step_append_lies _ rfl (.tmp 28) (.tmp 30) 22 rfl w2.heap.size 26 i0 (.agg #[.int .i64 0, .int .u64 0, .int .u64 0, .int .u64 0]) 4 32 Try.underlying22 hi hz0 hz1 hz2 rfl (by decide) (.slice a1 n c1) n (wcells ts) (by simp [Act.eval]) HM.out.own ⟨w2.heap.size + 1, 0, none⟩ 1 1 [.int .i64 t.prio, .int .u64 t.cost, .int .u64 t.period, .int .u64 t.dead] (by simp [Act.eval]) rfl (World.news_of_block (cs := #[.int .i64 t.prio, .int .u64 t.cost, .int .u64 t.period, .int .u64 t.dead]) hblk.out) (by simp [Value.oneCell']) (by omega) (by unfold maxLen; omega) (by omega) (HM.out.bel.size) _ rfl ?_; intro g c3 w4 ho4 hg4 _ _; have HE := Lib.hid (HM.out.fin rfl (Below.refl _ _) ho4 hg4); clear ho4 hg4)
          | (refine step_append_lies _ rfl (.tmp 28) (.tmp 30) 22 rfl w2.heap.size 26 i0 (.agg #[.int .i64 0, .int .u64 0, .int .u64 0, .int .u64 0]) 4 32 Try.underlying22 hi hz0 hz1 hz2 rfl (by decide) (.slice a1 n c1) n (wcells ts) (by simp [Act.eval]) HM.out.own ⟨w2.heap.size, 0, none⟩ 1 1 [.int .i64 t.prio, .int .u64 t.cost, .int .u64 t.period, .int .u64 t.dead] (by simp [Act.eval]) rfl (World.news_of_block (cs := #[.int .i64 t.prio, .int .u64 t.cost, .int .u64 t.period, .int .u64 t.dead]) hblk.out) (by simp [Value.oneCell']) (by omega) (by unfold maxLen; omega) (by omega) (HM.out.bel.size) _ rfl ?_; intro g c3 w4 ho4 hg4 _ _; have HE := Lib.hid (HM.out.fin rfl (Below.refl _ _) ho4 hg4); clear ho4 hg4))
        all_goals
          go_wp2_with fail
          go_meet
          exact ⟨_, _, rfl, TasksAt.of_own (n := n + 1) (by simp [HN.out]) (by rw [wcells_snoc]; exact HE.out.own) (by omega), HE.out.bel⟩
      case rest =>
        obtain ⟨g, c3, rfl, hTA, hBA⟩ := hcut
        have HTA := Lib.hid hTA
        have HBA := Lib.hid (HB2.out.trans (hBA.mono HB2.out.size))
        have hx3 := HX2.out.later hBA
        have HX3 := Lib.hid hx3
        obtain ⟨_, y0, y1, y2, y3⟩ := hx3
        clear x0 x1 x2 x3 hTA hBA hi hz0 hz1 hz2 HSR HWL
        have HN1 : Box ((ts ++ [t]).length = n + 1) := ⟨by simp [HN.out]⟩
        cases ok with
        | false =>
          go_wp2_with (go_at_call 18; with_reducible refine (All_x _ _ (n + 1) (ts ++ [t]) HN1.out bo cap2 m ls HM.out _ HTA.out (HL.out.later HBA.out) false HOK.out).mono ?_; rintro e w4 ⟨rfl, hb4⟩)
          go_ret
          exact ⟨rfl, HBA.out.trans (hb4.mono HBA.out.size)⟩
        | true =>
          have HOK2 : Box (allM ts ls = true) := ⟨room_all HOK.out⟩
          by_cases hc : 2 ≤ t.cost
          · have HOK3 : Box (allM (ts ++ [⟨t.prio, t.cost - 1, t.period, t.dead⟩]) ls = true) := ⟨room_less hc HOK.out⟩
            have hwr : IntKind.u64.wrap ((t.cost : Int) - 1) = ((t.cost - 1 : Nat) : Int) := by
              have hok := WorkM.ok_iff.1 (okTasks_snoc (allM_iff2.1 HOK.out).1).2.1
              rw [show ((t.cost - 1 : Nat) : Int) = (t.cost : Int) - 1 from by omega]
              exact u64w (by omega) (by omega)
            generalize t.cost - 1 = C at HOK3 hwr
            have hc2 : ¬ (t.cost : Int) < 2 := by omega
            go_upto_region 9 with (first
              | (go_at_call 18; with_reducible refine (All_x _ _ (n + 1) (ts ++ [t]) HN1.out bo cap2 m ls HM.out _ HTA.out (HL.out.later HBA.out) true HOK.out).mono ?_; rintro e w4 ⟨rfl, hb4⟩; have HB4 := Lib.hid (HBA.out.trans (hb4.mono HBA.out.size)); have hx4 := HX3.out.later hb4; clear hb4)
              | (go_at_call 18; with_reducible refine (All_x ao cap n ts HN.out bo cap2 m ls HM.out _ (HT.out.later HB4.out) (HL.out.later HB4.out) true HOK2.out).mono ?_; rintro e w5 ⟨rfl, hb5⟩; have HB5 := Lib.hid (HB4.out.trans (hb5.mono HB4.out.size)); have HX5 := Lib.hid (hx4.later hb5); clear hb5 hx4))
            obtain ⟨_, x0, x1, x2, x3⟩ := HX5.out
            have hb6 := HB5.out.alloc HB5.out.size (.cells #[.int .i64 t.prio, .int .u64 C, .int .u64 t.period, .int .u64 t.dead] 26)
            have HB6 := Lib.hid hb6
            go_wp2_with (go_at_call 17; refine (Admit_x ao cap n ts HN.out bo cap2 m ls HM.out _ (HT.out.later HB6.out) (HL.out.later HB6.out) ⟨t.prio, C, t.period, t.dead⟩ HLen.out true HOK3.out).mono ?_; rintro e w6 ⟨rfl, hb7⟩)
            go_ret
            exact ⟨rfl, HB6.out.trans (hb7.mono HB6.out.size)⟩
          · have hc2 : (t.cost : Int) < 2 := by omega
            go_upto_region 9 with (first
              | (go_at_call 18; with_reducible refine (All_x _ _ (n + 1) (ts ++ [t]) HN1.out bo cap2 m ls HM.out _ HTA.out (HL.out.later HBA.out) true HOK.out).mono ?_; rintro e w4 ⟨rfl, hb4⟩; have HB4 := Lib.hid (HBA.out.trans (hb4.mono HBA.out.size)); have hx4 := HX3.out.later hb4; clear hb4)
              | (go_at_call 18; with_reducible refine (All_x ao cap n ts HN.out bo cap2 m ls HM.out _ (HT.out.later HB4.out) (HL.out.later HB4.out) true HOK2.out).mono ?_; rintro e w5 ⟨rfl, hb5⟩; have HB5 := Lib.hid (HB4.out.trans (hb5.mono HB4.out.size)); have HX5 := Lib.hid (hx4.later hb5); clear hb5 hx4))
            obtain ⟨_, x0, x1, x2, x3⟩ := HX5.out
            go_wp2
            go_ret
            exact ⟨rfl, HB5.out⟩
    · go_wp2_with (first
        | (go_at_call 10; with_reducible refine (Small_n ao cap n ts HN.out _ cap2 m _ (HT.out.later HB1.out)).mono ?_; rintro e w2 ⟨rfl, rfl⟩; rw [HS.out])
        | (go_at_call 10; with_reducible refine (Small_n (some ⟨w1.heap.size, 0, none⟩) 1 1 [t] rfl none 0 0 _ (TasksAt.blk (blk_new w1 (.cells (bcells t) 26)) rfl (by simp))).mono ?_; rintro e w2 ⟨rfl, rfl⟩; rw [Bool.eq_false_iff.2 hs2]))
      go_ret
      exact ⟨rfl, HB1.out.alloc HB1.out.size _⟩
  · go_wp2_with (go_at_call 10; with_reducible refine (Small_n ao cap n ts HN.out _ cap2 m _ (HT.out.later HB1.out)).mono ?_; rintro e w2 ⟨rfl, rfl⟩; rw [Bool.eq_false_iff.2 hs])
    go_ret
    exact ⟨rfl, HB1.out⟩
theorem walk (a0 : Option Addr) (len0 cap0 : Nat) (z0 : Nat → Nat → Int) (a1 : Option Addr) (len1 cap1 : Nat) (z1 : Nat → Nat → Int) (z2 : Nat → Int) (w : World) (g0 : ArgStructs [.i64, .u64, .u64, .u64] w a0 len0 z0) (g1 : ArgStructs [.i64, .u64] w a1 len1 z1)
    (g2 : ∀ (j : Nat) (k : IntKind), ([.i64, .u64, .u64, .u64] : List IntKind)[j]? = some k → (Lit.int k (z2 j)).wf = true) :
    Calls Try.prog 7 #[.slice a0 len0 cap0, .slice a1 len1 cap1, .agg ((([.i64, .u64, .u64, .u64] : List IntKind).zipIdx.map (fun x => Value.int x.1 (z2 x.2))).toArray)] w fun e w' => e = .returned (.bool true) ∧ Below w.heap.size w w' := by
  obtain ⟨ts, hn, hT⟩ := tasks_of_arg g0
  obtain ⟨ls, hm, hL⟩ := loads_of_arg g1
  obtain ⟨t, e⟩ := work_of g2
  rw [e]
  exact walkV a0 len0 cap0 ts hn a1 len1 cap1 ls hm t w hT hL


/-! The row's step. -/
theorem own : ownKnob Try.prog.godebug = none := by kernel_rfl
theorem laidOut : laidOutB Try.prog = true := by kernel_rfl

set_option maxRecDepth 100000 in
theorem lifted (os : Os) (started : os.Started) (H : Type) (enc : TypeId × Value → H) :
    ReturnsInHanded {} Try.checked os 7 .any (Rows.rtaRoomSpec.pre6 enc Try.prog Try.f7 Rows.rtaRoomRow.domain false) (Rows.rtaRoomSpec.post enc Try.prog Try.f7 false true false false) := by
  refine returnsInHanded_of_change (C := Try.checked) own started (by kernel_rfl) Try.func7
    (ChangeSpec.witness6 (enc := enc) (C := Try.checked) false ⟨#[], #[.slice none 0 0, .slice none 0 0, .agg #[.int .i64 0, .int .u64 0, .int .u64 0, .int .u64 0]], []⟩ 8 (by kernel_rfl) (by kernel_rfl) (by kernel_rfl) (by kernel_rfl)) ?_
  intro W base args ds gs before hval0 hW hcnd _
  have hval : ∀ (j : Nat) t v, Try.f7.params[j]? = some t → args[j]? = some v → Value.okWide Try.prog W .any base t v := hval0
  have hW' := hW
  obtain ⟨p, q, hA0, hV, rfl, hfz, hnd⟩ := hW
  have hA : DataW.TrodAll enc Try.prog W 0 (fun _ => true) true Try.f7.params.toList args.toList ds p := hA0
  rw [Try.params7] at hA hval
  obtain ⟨v0, vs0, d0, ds0, p0, q0, hargs, rfl, rfl, h0, r0⟩ := trodAll_cons hA
  obtain ⟨v1, vs1, d1, ds1, p1, q1, rfl, rfl, rfl, h1, r1⟩ := trodAll_cons r0
  obtain ⟨v2, vs2, d2, ds2, p2, q2, rfl, rfl, rfl, h2, r2⟩ := trodAll_cons r1
  obtain ⟨rfl, rfl, rfl⟩ := trodAll_nil r2
  obtain rfl : args = #[v0, v1, v2] := by cases args; simp_all
  obtain ⟨rfl, rfl⟩ := trodVars_none hV
  obtain ⟨a0, len0, cap0, rfl⟩ := okWide_slice Try.underlying22 (hval 0 22 v0 rfl rfl)
  have k0 := h0
  have lt0 : ∀ x ∈ p0, x.block < W.heap.size := by obtain ⟨m, hm⟩ := k0; exact DataW.trod_lt m _ _ _ hm
  obtain ⟨z0, w0⟩ := open_structs (ks := [.i64, .u64, .u64, .u64]) Try.underlying22 Try.underlying26 (by kernel_rfl) (by kernel_rfl) (by kernel_rfl) (by decide) h0
  obtain ⟨a1, len1, cap1, rfl⟩ := okWide_slice Try.underlying23 (hval 1 23 v1 rfl rfl)
  have k1 := h1
  have lt1 : ∀ x ∈ p1, x.block < W.heap.size := by obtain ⟨m, hm⟩ := k1; exact DataW.trod_lt m _ _ _ hm
  obtain ⟨z1, w1⟩ := open_structs (ks := [.i64, .u64]) Try.underlying23 Try.underlying28 (by kernel_rfl) (by kernel_rfl) (by kernel_rfl) (by decide) h1
  have k2 := h2
  have lt2 : ∀ x ∈ p2, x.block < W.heap.size := by obtain ⟨m, hm⟩ := k2; exact DataW.trod_lt m _ _ _ hm
  obtain ⟨z2, rfl, w2⟩ := open_struct (ks := [.i64, .u64, .u64, .u64]) Try.underlying26 (by kernel_rfl) (by kernel_rfl) (by kernel_rfl) (by decide) (hval 2 26 v2 rfl rfl) h2
  clear hA0 hval0
  refine (walk a0 len0 cap0 z0 a1 len1 cap1 z1 z2 W w0 w1 w2).mono fun e W' ⟨he, bel⟩ => ?_
  subst he
  exact ⟨_, rfl, _, _, _, [], _, [], hW', trodAll_mk1 (shut_bool Try.underlying4 _), (trodAll_cons_mk (Below.trod laidOut (by kernel_rfl) (of_decide_eq_true (by kernel_rfl)) k0 bel lt0) (trodAll_cons_mk (Below.trod laidOut (by kernel_rfl) (of_decide_eq_true (by kernel_rfl)) k1 bel lt1) (trodAll_cons_mk (Below.trod laidOut (by kernel_rfl) (of_decide_eq_true (by kernel_rfl)) k2 bel lt2) trodAll_mk0))), rfl, bel.frame _, fun h => by cases h⟩

theorem over : Rows.rtaRoomRow.holds Try.pinned (OpenSpec.ofChange Rows.rtaRoomSpec) :=
  OpenClaim.holds_of_wide 7 Try.f7 rfl rfl rfl rfl rfl rfl rfl ⟨rfl, rfl, rfl, rfl, rfl⟩ rfl rfl rfl rfl rfl (by kernel_rfl) Try.func7 (by kernel_rfl)
    (of_decide_eq_true (by kernel_rfl)) (by unfold Func.isWrapper; first | (rw [if_pos (by decide +kernel)]; kernel_rfl) | (rw [if_neg (by decide +kernel)]; exact ⟨rfl, rfl⟩))
    (fun os started H enc _ => lifted os started H enc)

/-- The statement. -/
theorem proved : Rows.RtaRoomSaid := over
#print axioms proved

end Go.Proofs.Ytibplnbldnhbhaa.rtaRoom
