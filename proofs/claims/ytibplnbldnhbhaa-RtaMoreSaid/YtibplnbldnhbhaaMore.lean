/-
  RtaMore: a task that is added makes no other one's answer time less; nor does a load; an answer time is at least the cost, at most the time by which a job must be done. No condition but the statement's.
-/
import Derived.Test.YtibplnbldnhbhaaRtaT
import Derived.Test.YtibplnbldnhbhaaRows
import Derived.Deep.DeepCutAuto
import Derived.Deep.CutBlock
import Derived.Deep.RegionLawGrows
namespace Go.Proofs.Ytibplnbldnhbhaa.rtaMore
open Go.ChangeShapes Go.WideShapes Go.ChangeAt Go.RowKit Go.Proofs.Ytibplnbldnhbhaa

set_option maxHeartbeats 8000000 in
set_option maxRecDepth 100000 in
theorem walkV (ao : Option Addr) (n cap : Nat) (ts : List WorkM) (hn : ts.length = n) (bo : Option Addr) (m cap2 : Nat) (ls : List ServM) (hm : ls.length = m) (t : WorkM) (s : ServM) (sp : Nat) (w : World) (hT : TasksAt w ao ts) (hL : LoadsAt w bo ls) :
    Calls Try.prog 3 #[.slice ao n cap, .slice bo m cap2, moreV t s sp] w fun e w' => e = .returned (.bool true) ∧ Below w.heap.size w w' := by
  have HT := Lib.hid hT
  have HL := Lib.hid hL
  have HN : Box (ts.length = n) := ⟨hn⟩
  have HM : Box (ls.length = m) := ⟨hm⟩
  have hnn := hn ▸ hT.1
  have hmm := hm ▸ hL.1
  clear hT hL hn hm
  go_enter Try.func3, Try.ntmps3
  go_upto_region 3 with (go_at_call 9; refine (awake_any _).mono ?_; rintro e w1 ⟨rfl, hb1⟩)
  have HB1 := Lib.hid (((Below.refl w.heap.size w).alloc (Nat.le_refl _) (.cells #[.int .i64 t.prio, .int .u64 t.cost, .int .u64 t.period, .int .u64 t.dead, .int .i64 s.budget, .int .u64 s.period, .int .u64 sp] 30)).trans (hb1.mono (by simp)))
  have hbk := blk_new w (.cells #[.int .i64 t.prio, .int .u64 t.cost, .int .u64 t.period, .int .u64 t.dead, .int .i64 s.budget, .int .u64 s.period, .int .u64 sp] 30)
  have m0 := (hb1.cell (p := ⟨w.heap.size, 0, none⟩) (by simp)).trans (cell_blk hbk 0)
  have m1 := (hb1.cell (p := ⟨w.heap.size, 1, none⟩) (by simp)).trans (cell_blk hbk 1)
  have m2 := (hb1.cell (p := ⟨w.heap.size, 2, none⟩) (by simp)).trans (cell_blk hbk 2)
  have m3 := (hb1.cell (p := ⟨w.heap.size, 3, none⟩) (by simp)).trans (cell_blk hbk 3)
  have m4 := (hb1.cell (p := ⟨w.heap.size, 4, none⟩) (by simp)).trans (cell_blk hbk 4)
  have m5 := (hb1.cell (p := ⟨w.heap.size, 5, none⟩) (by simp)).trans (cell_blk hbk 5)
  have hlt0 : w.heap.size < w1.heap.size := Nat.lt_of_lt_of_le (by simp) hb1.size
  clear hb1 hbk
  go_upto_region 5 with fail
  have HX := Lib.hid ((BX.new w1 t 26).later ((Below.refl _ _).alloc (Nat.le_refl _) (.cells #[.int .i64 s.budget, .int .u64 s.period] 28)))
  have hy := BS.new (w1.alloc (.cells #[.int .i64 t.prio, .int .u64 t.cost, .int .u64 t.period, .int .u64 t.dead] 26)) s 28
  rw [show (w1.alloc (.cells #[.int .i64 t.prio, .int .u64 t.cost, .int .u64 t.period, .int .u64 t.dead] 26)).heap.size = w1.heap.size + 1 from by simp] at hy
  have HY := Lib.hid hy
  have HB := Lib.hid ((HB1.out.alloc HB1.out.size (.cells #[.int .i64 t.prio, .int .u64 t.cost, .int .u64 t.period, .int .u64 t.dead] 26)).alloc (by have := HB1.out.size; simp; omega) (.cells #[.int .i64 s.budget, .int .u64 s.period] 28))
  clear hy m0 m1 m2 m3 m4 m5 hlt0
  generalize (w1.alloc (.cells #[.int .i64 t.prio, .int .u64 t.cost, .int .u64 t.period, .int .u64 t.dead] 26)).alloc (.cells #[.int .i64 s.budget, .int .u64 s.period] 28) = V at HX HY HB ⊢
  obtain ⟨_, x0, x1, x2, x3⟩ := HX.out
  obtain ⟨_, y0, y1⟩ := HY.out
  obtain ⟨v1, h1⟩ : ∃ v, smallM ts m = v := ⟨_, rfl⟩
  cases v1 with
  | false =>
    go_wp2_with (first
          | (go_at_call 10; (with_reducible refine (Small_x ao cap n ts HN.out bo cap2 m _ (HT.out.later HB.out) false h1).mono ?_); rintro e w2 ⟨rfl, rfl⟩))
    go_ret
    exact ⟨rfl, HB.out⟩
  | true =>
    obtain ⟨v2, h2⟩ : ∃ v, smallM [t] 0 = v := ⟨_, rfl⟩
    cases v2 with
    | false =>
      go_wp2_with (first
              | (go_at_call 10; (with_reducible refine (Small_x ao cap n ts HN.out bo cap2 m _ (HT.out.later HB.out) true h1).mono ?_); rintro e w2 ⟨rfl, rfl⟩)
              | (go_at_call 10; refine (Small_new1 t false h2 _).mono ?_; rintro e w2 ⟨rfl, hb2⟩; have HX := Lib.hid (HX.out.later hb2); have HY := Lib.hid (HY.out.later hb2); have HB := Lib.hid (HB.out.trans (hb2.mono HB.out.size)); clear hb2; obtain ⟨_, x0, x1, x2, x3⟩ := HX.out; obtain ⟨_, y0, y1⟩ := HY.out))
      go_ret
      exact ⟨rfl, HB.out⟩
    | true =>
      obtain ⟨v3, h3⟩ : ∃ v, okTasks ts = v := ⟨_, rfl⟩
      cases v3 with
      | false =>
        go_wp2_with (first
                  | (go_at_call 10; (with_reducible refine (Small_x ao cap n ts HN.out bo cap2 m _ (HT.out.later HB.out) true h1).mono ?_); rintro e w2 ⟨rfl, rfl⟩)
                  | (go_at_call 10; refine (Small_new1 t true h2 _).mono ?_; rintro e w2 ⟨rfl, hb2⟩; have HX := Lib.hid (HX.out.later hb2); have HY := Lib.hid (HY.out.later hb2); have HB := Lib.hid (HB.out.trans (hb2.mono HB.out.size)); clear hb2; obtain ⟨_, x0, x1, x2, x3⟩ := HX.out; obtain ⟨_, y0, y1⟩ := HY.out)
                  | (go_at_call 11; (with_reducible refine (Tasks_x ao cap n ts HN.out _ (HT.out.later HB.out) false h3).mono ?_); rintro e w2 ⟨rfl, hb2⟩; have HX := Lib.hid (HX.out.later hb2); have HY := Lib.hid (HY.out.later hb2); have HB := Lib.hid (HB.out.trans (hb2.mono HB.out.size)); clear hb2; obtain ⟨_, x0, x1, x2, x3⟩ := HX.out; obtain ⟨_, y0, y1⟩ := HY.out))
        go_ret
        exact ⟨rfl, HB.out⟩
      | true =>
        obtain ⟨v4, h4⟩ : ∃ v, okLoads ls = v := ⟨_, rfl⟩
        cases v4 with
        | false =>
          go_wp2_with (first
                      | (go_at_call 10; (with_reducible refine (Small_x ao cap n ts HN.out bo cap2 m _ (HT.out.later HB.out) true h1).mono ?_); rintro e w2 ⟨rfl, rfl⟩)
                      | (go_at_call 10; refine (Small_new1 t true h2 _).mono ?_; rintro e w2 ⟨rfl, hb2⟩; have HX := Lib.hid (HX.out.later hb2); have HY := Lib.hid (HY.out.later hb2); have HB := Lib.hid (HB.out.trans (hb2.mono HB.out.size)); clear hb2; obtain ⟨_, x0, x1, x2, x3⟩ := HX.out; obtain ⟨_, y0, y1⟩ := HY.out)
                      | (go_at_call 11; (with_reducible refine (Tasks_x ao cap n ts HN.out _ (HT.out.later HB.out) true h3).mono ?_); rintro e w2 ⟨rfl, hb2⟩; have HX := Lib.hid (HX.out.later hb2); have HY := Lib.hid (HY.out.later hb2); have HB := Lib.hid (HB.out.trans (hb2.mono HB.out.size)); clear hb2; obtain ⟨_, x0, x1, x2, x3⟩ := HX.out; obtain ⟨_, y0, y1⟩ := HY.out)
                      | (go_at_call 12; (with_reducible refine (Loads_x bo cap2 m ls HM.out _ (HL.out.later HB.out) false h4).mono ?_); rintro e w2 ⟨rfl, hb2⟩; have HX := Lib.hid (HX.out.later hb2); have HY := Lib.hid (HY.out.later hb2); have HB := Lib.hid (HB.out.trans (hb2.mono HB.out.size)); clear hb2; obtain ⟨_, x0, x1, x2, x3⟩ := HX.out; obtain ⟨_, y0, y1⟩ := HY.out))
          go_ret
          exact ⟨rfl, HB.out⟩
        | true =>
          obtain ⟨v5, h5⟩ : ∃ v, t.ok = v := ⟨_, rfl⟩
          cases v5 with
          | false =>
            go_wp2_with (first
                          | (go_at_call 10; (with_reducible refine (Small_x ao cap n ts HN.out bo cap2 m _ (HT.out.later HB.out) true h1).mono ?_); rintro e w2 ⟨rfl, rfl⟩)
                          | (go_at_call 10; refine (Small_new1 t true h2 _).mono ?_; rintro e w2 ⟨rfl, hb2⟩; have HX := Lib.hid (HX.out.later hb2); have HY := Lib.hid (HY.out.later hb2); have HB := Lib.hid (HB.out.trans (hb2.mono HB.out.size)); clear hb2; obtain ⟨_, x0, x1, x2, x3⟩ := HX.out; obtain ⟨_, y0, y1⟩ := HY.out)
                          | (go_at_call 11; (with_reducible refine (Tasks_x ao cap n ts HN.out _ (HT.out.later HB.out) true h3).mono ?_); rintro e w2 ⟨rfl, hb2⟩; have HX := Lib.hid (HX.out.later hb2); have HY := Lib.hid (HY.out.later hb2); have HB := Lib.hid (HB.out.trans (hb2.mono HB.out.size)); clear hb2; obtain ⟨_, x0, x1, x2, x3⟩ := HX.out; obtain ⟨_, y0, y1⟩ := HY.out)
                          | (go_at_call 12; (with_reducible refine (Loads_x bo cap2 m ls HM.out _ (HL.out.later HB.out) true h4).mono ?_); rintro e w2 ⟨rfl, hb2⟩; have HX := Lib.hid (HX.out.later hb2); have HY := Lib.hid (HY.out.later hb2); have HB := Lib.hid (HB.out.trans (hb2.mono HB.out.size)); clear hb2; obtain ⟨_, x0, x1, x2, x3⟩ := HX.out; obtain ⟨_, y0, y1⟩ := HY.out)
                          | (go_at_call 13; (with_reducible refine (refMay_x t false h5 _).mono ?_); rintro e w2 ⟨rfl, hb2⟩; have HX := Lib.hid (HX.out.later hb2); have HY := Lib.hid (HY.out.later hb2); have HB := Lib.hid (HB.out.trans (hb2.mono HB.out.size)); clear hb2; obtain ⟨_, x0, x1, x2, x3⟩ := HX.out; obtain ⟨_, y0, y1⟩ := HY.out))
            go_ret
            exact ⟨rfl, HB.out⟩
          | true =>
            obtain ⟨v6, h6⟩ : ∃ v, okLoads [s] = v := ⟨_, rfl⟩
            cases v6 with
            | false =>
              go_wp2_with (first
                              | (go_at_call 10; (with_reducible refine (Small_x ao cap n ts HN.out bo cap2 m _ (HT.out.later HB.out) true h1).mono ?_); rintro e w2 ⟨rfl, rfl⟩)
                              | (go_at_call 10; refine (Small_new1 t true h2 _).mono ?_; rintro e w2 ⟨rfl, hb2⟩; have HX := Lib.hid (HX.out.later hb2); have HY := Lib.hid (HY.out.later hb2); have HB := Lib.hid (HB.out.trans (hb2.mono HB.out.size)); clear hb2; obtain ⟨_, x0, x1, x2, x3⟩ := HX.out; obtain ⟨_, y0, y1⟩ := HY.out)
                              | (go_at_call 11; (with_reducible refine (Tasks_x ao cap n ts HN.out _ (HT.out.later HB.out) true h3).mono ?_); rintro e w2 ⟨rfl, hb2⟩; have HX := Lib.hid (HX.out.later hb2); have HY := Lib.hid (HY.out.later hb2); have HB := Lib.hid (HB.out.trans (hb2.mono HB.out.size)); clear hb2; obtain ⟨_, x0, x1, x2, x3⟩ := HX.out; obtain ⟨_, y0, y1⟩ := HY.out)
                              | (go_at_call 12; (with_reducible refine (Loads_x bo cap2 m ls HM.out _ (HL.out.later HB.out) true h4).mono ?_); rintro e w2 ⟨rfl, hb2⟩; have HX := Lib.hid (HX.out.later hb2); have HY := Lib.hid (HY.out.later hb2); have HB := Lib.hid (HB.out.trans (hb2.mono HB.out.size)); clear hb2; obtain ⟨_, x0, x1, x2, x3⟩ := HX.out; obtain ⟨_, y0, y1⟩ := HY.out)
                              | (go_at_call 13; (with_reducible refine (refMay_x t true h5 _).mono ?_); rintro e w2 ⟨rfl, hb2⟩; have HX := Lib.hid (HX.out.later hb2); have HY := Lib.hid (HY.out.later hb2); have HB := Lib.hid (HB.out.trans (hb2.mono HB.out.size)); clear hb2; obtain ⟨_, x0, x1, x2, x3⟩ := HX.out; obtain ⟨_, y0, y1⟩ := HY.out)
                              | (go_at_call 12; refine (Loads_new1 s false h6 _).mono ?_; rintro e w2 ⟨rfl, hb2⟩; have HX := Lib.hid (HX.out.later hb2); have HY := Lib.hid (HY.out.later hb2); have HB := Lib.hid (HB.out.trans (hb2.mono HB.out.size)); clear hb2; obtain ⟨_, x0, x1, x2, x3⟩ := HX.out; obtain ⟨_, y0, y1⟩ := HY.out))
              go_ret
              exact ⟨rfl, HB.out⟩
            | true =>
              by_cases hn31 : n ≤ 31
              · by_cases hm15 : m ≤ 15
                · go_upto_region 7 with (first
                                    | (go_at_call 10; (with_reducible refine (Small_x ao cap n ts HN.out bo cap2 m _ (HT.out.later HB.out) true h1).mono ?_); rintro e w2 ⟨rfl, rfl⟩)
                                    | (go_at_call 10; refine (Small_new1 t true h2 _).mono ?_; rintro e w2 ⟨rfl, hb2⟩; have HX := Lib.hid (HX.out.later hb2); have HY := Lib.hid (HY.out.later hb2); have HB := Lib.hid (HB.out.trans (hb2.mono HB.out.size)); clear hb2; obtain ⟨_, x0, x1, x2, x3⟩ := HX.out; obtain ⟨_, y0, y1⟩ := HY.out)
                                    | (go_at_call 11; (with_reducible refine (Tasks_x ao cap n ts HN.out _ (HT.out.later HB.out) true h3).mono ?_); rintro e w2 ⟨rfl, hb2⟩; have HX := Lib.hid (HX.out.later hb2); have HY := Lib.hid (HY.out.later hb2); have HB := Lib.hid (HB.out.trans (hb2.mono HB.out.size)); clear hb2; obtain ⟨_, x0, x1, x2, x3⟩ := HX.out; obtain ⟨_, y0, y1⟩ := HY.out)
                                    | (go_at_call 12; (with_reducible refine (Loads_x bo cap2 m ls HM.out _ (HL.out.later HB.out) true h4).mono ?_); rintro e w2 ⟨rfl, hb2⟩; have HX := Lib.hid (HX.out.later hb2); have HY := Lib.hid (HY.out.later hb2); have HB := Lib.hid (HB.out.trans (hb2.mono HB.out.size)); clear hb2; obtain ⟨_, x0, x1, x2, x3⟩ := HX.out; obtain ⟨_, y0, y1⟩ := HY.out)
                                    | (go_at_call 13; (with_reducible refine (refMay_x t true h5 _).mono ?_); rintro e w2 ⟨rfl, hb2⟩; have HX := Lib.hid (HX.out.later hb2); have HY := Lib.hid (HY.out.later hb2); have HB := Lib.hid (HB.out.trans (hb2.mono HB.out.size)); clear hb2; obtain ⟨_, x0, x1, x2, x3⟩ := HX.out; obtain ⟨_, y0, y1⟩ := HY.out)
                                    | (go_at_call 12; refine (Loads_new1 s true h6 _).mono ?_; rintro e w2 ⟨rfl, hb2⟩; have HX := Lib.hid (HX.out.later hb2); have HY := Lib.hid (HY.out.later hb2); have HB := Lib.hid (HB.out.trans (hb2.mono HB.out.size)); clear hb2; obtain ⟨_, x0, x1, x2, x3⟩ := HX.out; obtain ⟨_, y0, y1⟩ := HY.out))
                  have HS : Box (SetOk ts ls) := ⟨⟨h3, h4⟩⟩
                  have HMT : Box (∀ (i b : Nat), i < n → TimeM (ts ++ [t]) ls i = some b → ∃ a, TimeM ts ls i = some a ∧ a ≤ b) := ⟨fun i b hi h => more_time h3 h4 (by rw [HN.out]; exact hi) h⟩
                  have HLT : Box (∀ (i b : Nat), i < n → TimeM ts (ls ++ [s]) i = some b → ∃ a, TimeM ts ls i = some a ∧ a ≤ b) := ⟨fun i b hi h => load_time h3 h4 (by rw [HN.out]; exact hi) h⟩
                  clear h1 h2 h3 h4 h5 h6
                  rename World => W
                  have HSR : Box (SrcAt W ao n (wcells ts)) := ⟨HN.out ▸ (HT.out.later HB.out).src⟩
                  have HWL : Box ((wcells ts).length = n * 4) := ⟨HN.out ▸ wcells_len ts⟩
                  go_cut [9] (fun s9 wx => ∃ g c3, s9 = .slice (some ⟨g, 0, none⟩) (n + 1) c3 ∧ TasksAt wx (some ⟨g, 0, none⟩) (ts ++ [t]) ∧ Below W.heap.size W wx)
                  case first =>
                    obtain ⟨i0, hi, hz0, hz1, hz2⟩ := info_parts Try.infoWork
                    go_region_law (first
                      | (refine step_append_row _ rfl (.tmp 65) (.tmp 66) 22 rfl W.heap.size 26 i0 (.agg #[.int .i64 0, .int .u64 0, .int .u64 0, .int .u64 0]) 4 32 Try.underlying22 hi hz0 hz1 hz2 rfl (by decide) (.slice (some ⟨W.heap.size, 0, none⟩) 0 0) 0 [] (by simp [Act.eval]) (ownA W 26 4) ao n cap ((wcells ts)) (by simp [Act.eval]) HWL.out (HSR.out.later (belA W 26)) wcells_one (by unfold maxLen; omega) (by omega) (belA W 26).size n (by simp) (some (W.heap.size)) rfl ?_; intro a1 c1 w3 ho3 hg3 _; have HM2 := Lib.hid (Mid.of (xs := (wcells ts)) (by simpa using ho3) (belA W 26) hg3 (fun k e => by simp at e; omega)); have hx3 := HX.out.later HM2.out.bel; obtain ⟨_, x0, x1, x2, x3⟩ := hx3; clear ho3 hg3)
                      | (refine step_append_row _ rfl (.tmp 65) (.tmp 66) 22 rfl W.heap.size 26 i0 (.agg #[.int .i64 0, .int .u64 0, .int .u64 0, .int .u64 0]) 4 32 Try.underlying22 hi hz0 hz1 hz2 rfl (by decide) (.slice (some ⟨W.heap.size, 0, none⟩) 0 0) 0 [] (by simp [Act.eval]) (ownB W 26 4 (.cells #[.int .i64 t.prio, .int .u64 t.cost, .int .u64 t.period, .int .u64 t.dead] 26)) ao n cap ((wcells ts)) (by simp [Act.eval]) HWL.out (HSR.out.later (belB W 26 (.cells #[.int .i64 t.prio, .int .u64 t.cost, .int .u64 t.period, .int .u64 t.dead] 26))) wcells_one (by unfold maxLen; omega) (by omega) (belB W 26 (.cells #[.int .i64 t.prio, .int .u64 t.cost, .int .u64 t.period, .int .u64 t.dead] 26)).size n (by simp) (some (W.heap.size)) rfl ?_; intro a1 c1 w3 ho3 hg3 _; have HM2 := Lib.hid (Mid.of (xs := (wcells ts)) (by simpa using ho3) (belB W 26 (.cells #[.int .i64 t.prio, .int .u64 t.cost, .int .u64 t.period, .int .u64 t.dead] 26)) hg3 (fun k e => by simp at e; omega)); have hx3 := HX.out.later HM2.out.bel; obtain ⟨_, x0, x1, x2, x3⟩ := hx3; have hblk := Lib.hid (grown_blk hg3 (rowB W 26 (.cells #[.int .i64 t.prio, .int .u64 t.cost, .int .u64 t.period, .int .u64 t.dead] 26)) (by simp)); clear ho3 hg3)
                      | (refine step_append_row _ rfl (.tmp 65) (.tmp 66) 22 rfl W.heap.size 26 i0 (.agg #[.int .i64 0, .int .u64 0, .int .u64 0, .int .u64 0]) 4 32 Try.underlying22 hi hz0 hz1 hz2 rfl (by decide) (.slice (some ⟨W.heap.size + 1, 0, none⟩) 0 0) 0 [] (by simp [Act.eval]) (ownC W 26 4 (.cells #[.int .i64 t.prio, .int .u64 t.cost, .int .u64 t.period, .int .u64 t.dead] 26)) ao n cap ((wcells ts)) (by simp [Act.eval]) HWL.out (HSR.out.later (belC W 26 (.cells #[.int .i64 t.prio, .int .u64 t.cost, .int .u64 t.period, .int .u64 t.dead] 26))) wcells_one (by unfold maxLen; omega) (by omega) (belC W 26 (.cells #[.int .i64 t.prio, .int .u64 t.cost, .int .u64 t.period, .int .u64 t.dead] 26)).size n (by simp) (some (W.heap.size + 1)) rfl ?_; intro a1 c1 w3 ho3 hg3 _; have HM2 := Lib.hid (Mid.of (xs := (wcells ts)) (by simpa using ho3) (belC W 26 (.cells #[.int .i64 t.prio, .int .u64 t.cost, .int .u64 t.period, .int .u64 t.dead] 26)) hg3 (fun k e => by simp at e; omega)); have hx3 := HX.out.later HM2.out.bel; obtain ⟨_, x0, x1, x2, x3⟩ := hx3; have hblk := Lib.hid (grown_blk hg3 (rowC W 26 (.cells #[.int .i64 t.prio, .int .u64 t.cost, .int .u64 t.period, .int .u64 t.dead] 26)) (by simp)); clear ho3 hg3)
                      | (refine step_append_lies _ rfl (.tmp 67) (.tmp 69) 22 rfl W.heap.size 26 i0 (.agg #[.int .i64 0, .int .u64 0, .int .u64 0, .int .u64 0]) 4 32 Try.underlying22 hi hz0 hz1 hz2 rfl (by decide) (.slice a1 n c1) n ((wcells ts)) (by simp [Act.eval]) (HM2.out.own.alloc _) ⟨w3.heap.size, 0, none⟩ 1 1 [.int .i64 t.prio, .int .u64 t.cost, .int .u64 t.period, .int .u64 t.dead] (by simp [Act.eval]) rfl (World.news_of_block (cs := #[.int .i64 t.prio, .int .u64 t.cost, .int .u64 t.period, .int .u64 t.dead]) (blk_new _ _)) (by simp [Value.oneCell']) (by omega) (by unfold maxLen; omega) (by omega) ((Nat.le_trans HM2.out.bel.size (by simp))) _ rfl ?_; intro g c3 w4 ho4 hg4 _ _; have HE := Lib.hid (HM2.out.fin rfl ((Below.refl _ _).alloc (Nat.le_refl _) _) ho4 hg4); clear ho4 hg4)
                      | (refine step_append_lies _ rfl (.tmp 67) (.tmp 69) 22 rfl W.heap.size 26 i0 (.agg #[.int .i64 0, .int .u64 0, .int .u64 0, .int .u64 0]) 4 32 Try.underlying22 hi hz0 hz1 hz2 rfl (by decide) (.slice a1 n c1) n ((wcells ts)) (by simp [Act.eval]) HM2.out.own ⟨W.heap.size + 1, 0, none⟩ 1 1 [.int .i64 t.prio, .int .u64 t.cost, .int .u64 t.period, .int .u64 t.dead] (by simp [Act.eval]) rfl (World.news_of_block (cs := #[.int .i64 t.prio, .int .u64 t.cost, .int .u64 t.period, .int .u64 t.dead]) hblk.out) (by simp [Value.oneCell']) (by omega) (by unfold maxLen; omega) (by omega) (HM2.out.bel.size) _ rfl ?_; intro g c3 w4 ho4 hg4 _ _; have HE := Lib.hid (HM2.out.fin rfl (Below.refl _ _) ho4 hg4); clear ho4 hg4)
                      | (refine step_append_lies _ rfl (.tmp 67) (.tmp 69) 22 rfl W.heap.size 26 i0 (.agg #[.int .i64 0, .int .u64 0, .int .u64 0, .int .u64 0]) 4 32 Try.underlying22 hi hz0 hz1 hz2 rfl (by decide) (.slice a1 n c1) n ((wcells ts)) (by simp [Act.eval]) HM2.out.own ⟨W.heap.size, 0, none⟩ 1 1 [.int .i64 t.prio, .int .u64 t.cost, .int .u64 t.period, .int .u64 t.dead] (by simp [Act.eval]) rfl (World.news_of_block (cs := #[.int .i64 t.prio, .int .u64 t.cost, .int .u64 t.period, .int .u64 t.dead]) hblk.out) (by simp [Value.oneCell']) (by omega) (by unfold maxLen; omega) (by omega) (HM2.out.bel.size) _ rfl ?_; intro g c3 w4 ho4 hg4 _ _; have HE := Lib.hid (HM2.out.fin rfl (Below.refl _ _) ho4 hg4); clear ho4 hg4))
                    all_goals
                      go_wp2_with fail
                      go_meet
                      exact ⟨_, _, rfl, TasksAt.of_own (n := n + 1) (by simp [HN.out]) (by rw [wcells_snoc]; exact HE.out.own) (by omega), HE.out.bel⟩
                  case rest =>
                    obtain ⟨g, c3, rfl, hTA, hBA⟩ := hcut
                    have HTA := Lib.hid hTA
                    have HB := Lib.hid (HB.out.trans (hBA.mono HB.out.size))
                    have HY := Lib.hid (HY.out.later hBA)
                    clear x0 x1 x2 x3 y0 y1 hTA hBA HSR HWL HX
                    rename World => W
                    have HSR : Box (SrcAt W bo m (lcells ls)) := ⟨HM.out ▸ (HL.out.later HB.out).src⟩
                    have HWL : Box ((lcells ls).length = m * 2) := ⟨HM.out ▸ lcells_len ls⟩
                    obtain ⟨_, y0, y1⟩ := HY.out
                    go_upto_region 8 with fail
                    go_cut [10] (fun s10 wx => ∃ g c3, s10 = .slice (some ⟨g, 0, none⟩) (m + 1) c3 ∧ LoadsAt wx (some ⟨g, 0, none⟩) (ls ++ [s]) ∧ Below W.heap.size W wx)
                    case first =>
                      obtain ⟨i0, hi, hz0, hz1, hz2⟩ := info_parts Try.infoServ
                      go_region_law (first
                        | (refine step_append_row _ rfl (.tmp 71) (.tmp 72) 23 rfl W.heap.size 28 i0 (.agg #[.int .i64 0, .int .u64 0]) 2 16 Try.underlying23 hi hz0 hz1 hz2 rfl (by decide) (.slice (some ⟨W.heap.size, 0, none⟩) 0 0) 0 [] (by simp [Act.eval]) (ownA W 28 2) bo m cap2 ((lcells ls)) (by simp [Act.eval]) HWL.out (HSR.out.later (belA W 28)) lcells_one (by unfold maxLen; omega) (by omega) (belA W 28).size m (by simp) (some (W.heap.size)) rfl ?_; intro a1 c1 w3 ho3 hg3 _; have HM2 := Lib.hid (Mid.of (xs := (lcells ls)) (by simpa using ho3) (belA W 28) hg3 (fun k e => by simp at e; omega)); have hx3 := HY.out.later HM2.out.bel; obtain ⟨_, y0, y1⟩ := hx3; clear ho3 hg3)
                        | (refine step_append_row _ rfl (.tmp 71) (.tmp 72) 23 rfl W.heap.size 28 i0 (.agg #[.int .i64 0, .int .u64 0]) 2 16 Try.underlying23 hi hz0 hz1 hz2 rfl (by decide) (.slice (some ⟨W.heap.size, 0, none⟩) 0 0) 0 [] (by simp [Act.eval]) (ownB W 28 2 (.cells #[.int .i64 s.budget, .int .u64 s.period] 28)) bo m cap2 ((lcells ls)) (by simp [Act.eval]) HWL.out (HSR.out.later (belB W 28 (.cells #[.int .i64 s.budget, .int .u64 s.period] 28))) lcells_one (by unfold maxLen; omega) (by omega) (belB W 28 (.cells #[.int .i64 s.budget, .int .u64 s.period] 28)).size m (by simp) (some (W.heap.size)) rfl ?_; intro a1 c1 w3 ho3 hg3 _; have HM2 := Lib.hid (Mid.of (xs := (lcells ls)) (by simpa using ho3) (belB W 28 (.cells #[.int .i64 s.budget, .int .u64 s.period] 28)) hg3 (fun k e => by simp at e; omega)); have hx3 := HY.out.later HM2.out.bel; obtain ⟨_, y0, y1⟩ := hx3; have hblk := Lib.hid (grown_blk hg3 (rowB W 28 (.cells #[.int .i64 s.budget, .int .u64 s.period] 28)) (by simp)); clear ho3 hg3)
                        | (refine step_append_row _ rfl (.tmp 71) (.tmp 72) 23 rfl W.heap.size 28 i0 (.agg #[.int .i64 0, .int .u64 0]) 2 16 Try.underlying23 hi hz0 hz1 hz2 rfl (by decide) (.slice (some ⟨W.heap.size + 1, 0, none⟩) 0 0) 0 [] (by simp [Act.eval]) (ownC W 28 2 (.cells #[.int .i64 s.budget, .int .u64 s.period] 28)) bo m cap2 ((lcells ls)) (by simp [Act.eval]) HWL.out (HSR.out.later (belC W 28 (.cells #[.int .i64 s.budget, .int .u64 s.period] 28))) lcells_one (by unfold maxLen; omega) (by omega) (belC W 28 (.cells #[.int .i64 s.budget, .int .u64 s.period] 28)).size m (by simp) (some (W.heap.size + 1)) rfl ?_; intro a1 c1 w3 ho3 hg3 _; have HM2 := Lib.hid (Mid.of (xs := (lcells ls)) (by simpa using ho3) (belC W 28 (.cells #[.int .i64 s.budget, .int .u64 s.period] 28)) hg3 (fun k e => by simp at e; omega)); have hx3 := HY.out.later HM2.out.bel; obtain ⟨_, y0, y1⟩ := hx3; have hblk := Lib.hid (grown_blk hg3 (rowC W 28 (.cells #[.int .i64 s.budget, .int .u64 s.period] 28)) (by simp)); clear ho3 hg3)
                        | (refine step_append_lies _ rfl (.tmp 73) (.tmp 75) 23 rfl W.heap.size 28 i0 (.agg #[.int .i64 0, .int .u64 0]) 2 16 Try.underlying23 hi hz0 hz1 hz2 rfl (by decide) (.slice a1 m c1) m ((lcells ls)) (by simp [Act.eval]) (HM2.out.own.alloc _) ⟨w3.heap.size, 0, none⟩ 1 1 [.int .i64 s.budget, .int .u64 s.period] (by simp [Act.eval]) rfl (World.news_of_block (cs := #[.int .i64 s.budget, .int .u64 s.period]) (blk_new _ _)) (by simp [Value.oneCell']) (by omega) (by unfold maxLen; omega) (by omega) ((Nat.le_trans HM2.out.bel.size (by simp))) _ rfl ?_; intro g c3 w4 ho4 hg4 _ _; have HE := Lib.hid (HM2.out.fin rfl ((Below.refl _ _).alloc (Nat.le_refl _) _) ho4 hg4); clear ho4 hg4)
                        | (refine step_append_lies _ rfl (.tmp 73) (.tmp 75) 23 rfl W.heap.size 28 i0 (.agg #[.int .i64 0, .int .u64 0]) 2 16 Try.underlying23 hi hz0 hz1 hz2 rfl (by decide) (.slice a1 m c1) m ((lcells ls)) (by simp [Act.eval]) HM2.out.own ⟨W.heap.size + 1, 0, none⟩ 1 1 [.int .i64 s.budget, .int .u64 s.period] (by simp [Act.eval]) rfl (World.news_of_block (cs := #[.int .i64 s.budget, .int .u64 s.period]) hblk.out) (by simp [Value.oneCell']) (by omega) (by unfold maxLen; omega) (by omega) (HM2.out.bel.size) _ rfl ?_; intro g c3 w4 ho4 hg4 _ _; have HE := Lib.hid (HM2.out.fin rfl (Below.refl _ _) ho4 hg4); clear ho4 hg4)
                        | (refine step_append_lies _ rfl (.tmp 73) (.tmp 75) 23 rfl W.heap.size 28 i0 (.agg #[.int .i64 0, .int .u64 0]) 2 16 Try.underlying23 hi hz0 hz1 hz2 rfl (by decide) (.slice a1 m c1) m ((lcells ls)) (by simp [Act.eval]) HM2.out.own ⟨W.heap.size, 0, none⟩ 1 1 [.int .i64 s.budget, .int .u64 s.period] (by simp [Act.eval]) rfl (World.news_of_block (cs := #[.int .i64 s.budget, .int .u64 s.period]) hblk.out) (by simp [Value.oneCell']) (by omega) (by unfold maxLen; omega) (by omega) (HM2.out.bel.size) _ rfl ?_; intro g c3 w4 ho4 hg4 _ _; have HE := Lib.hid (HM2.out.fin rfl (Below.refl _ _) ho4 hg4); clear ho4 hg4))
                      all_goals
                        go_wp2_with fail
                        go_meet
                        exact ⟨_, _, rfl, LoadsAt.of_owns (n := m + 1) (by simp [HM.out]) (by rw [lcells_snoc]; exact HE.out.own) (by omega), HE.out.bel⟩
                    case rest =>
                      obtain ⟨g2, c4, rfl, hLA, hBA⟩ := hcut
                      have HLA := Lib.hid hLA
                      have HTA := Lib.hid (HTA.out.later hBA)
                      have HB := Lib.hid (HB.out.trans (hBA.mono HB.out.size))
                      clear y0 y1 hLA hBA HSR HWL HY
                      rename World => W
                      have HN1 : Box ((ts ++ [t]).length = n + 1) := ⟨by simp [HN.out]⟩
                      have HM1 : Box ((ls ++ [s]).length = m + 1) := ⟨by simp [HM.out]⟩
                      go_wp2
                      go_loopw [11, 12, 13, 14, 15, 16, 17] (fun i _ _ _ _ _ _ wr => ∃ j : Nat, j ≤ n ∧ i = .int .i64 j ∧ Below W.heap.size W wr) (fun i _ _ _ _ _ _ _ => n - (intOf i).toNat)
                      case atStart => exact ⟨0, Nat.zero_le _, rfl, Below.refl _ _⟩
                      case round =>
                        obtain ⟨j, hj, rfl, hb⟩ := hrel
                        have HTA := Lib.hid (HTA.out.later hb)
                        have HLA := Lib.hid (HLA.out.later hb)
                        have HU := Lib.hid hb
                        have HB := Lib.hid (HB.out.trans (hb.mono HB.out.size))
                        clear hb
                        by_cases hlt : j < n
                        · obtain ⟨o1, e1⟩ : ∃ o, TimeM ts ls (j : Int) = o := ⟨_, rfl⟩
                          obtain ⟨o2, e2⟩ : ∃ o, TimeM (ts ++ [t]) ls (j : Int) = o := ⟨_, rfl⟩
                          obtain ⟨o3, e3⟩ : ∃ o, TimeM ts (ls ++ [s]) (j : Int) = o := ⟨_, rfl⟩
                          have E1 := Lib.hid e1
                          have E2 := Lib.hid e2
                          have E3 := Lib.hid e3
                          have F2 : Box (∀ b, o2 = some b → ∃ a, o1 = some a ∧ a ≤ b) := ⟨fun b h => e1 ▸ HMT.out j b hlt (e2.trans h)⟩
                          have F3 : Box (∀ b, o3 = some b → ∃ a, o1 = some a ∧ a ≤ b) := ⟨fun b h => e1 ▸ HLT.out j b hlt (e3.trans h)⟩
                          clear e1 e2 e3
                          cases o1 with
                          | none =>
                            obtain rfl : o2 = none := by cases o2 with | none => rfl | some b => obtain ⟨a, h, _⟩ := F2.out b rfl; cases h
                            obtain rfl : o3 = none := by cases o3 with | none => rfl | some b => obtain ⟨a, h, _⟩ := F3.out b rfl; cases h
                            clear F2 F3
                            go_wp2_with (first
                              | (go_at_call 14; (with_reducible refine (Time_y ao _ n ts HN.out bo _ m ls HM.out _ (HT.out.later HB.out) (HL.out.later HB.out) _ E1.out).mono ?_); rintro e w5 ⟨rfl, hb5⟩; have HTA := Lib.hid (HTA.out.later hb5); have HLA := Lib.hid (HLA.out.later hb5); have HU := Lib.hid (HU.out.trans (hb5.mono HU.out.size)); have HB := Lib.hid (HB.out.trans (hb5.mono HB.out.size)); clear hb5)
                              | (go_at_call 14; (with_reducible refine (Time_y _ _ (n + 1) (ts ++ [t]) HN1.out bo _ m ls HM.out _ HTA.out (HL.out.later HB.out) _ E2.out).mono ?_); rintro e w5 ⟨rfl, hb5⟩; have HTA := Lib.hid (HTA.out.later hb5); have HLA := Lib.hid (HLA.out.later hb5); have HU := Lib.hid (HU.out.trans (hb5.mono HU.out.size)); have HB := Lib.hid (HB.out.trans (hb5.mono HB.out.size)); clear hb5)
                              | (go_at_call 14; (with_reducible refine (Time_y ao _ n ts HN.out _ _ (m + 1) (ls ++ [s]) HM1.out _ (HT.out.later HB.out) HLA.out _ E3.out).mono ?_); rintro e w5 ⟨rfl, hb5⟩; have HTA := Lib.hid (HTA.out.later hb5); have HLA := Lib.hid (HLA.out.later hb5); have HU := Lib.hid (HU.out.trans (hb5.mono HU.out.size)); have HB := Lib.hid (HB.out.trans (hb5.mono HB.out.size)); clear hb5))
                            go_roundw
                            case rel => exact ⟨j + 1, by omega, by go_num, HU.out⟩
                            case measure => simp [intOf] <;> omega
                          | some a =>
                            obtain ⟨hb1, hb2, hb3⟩ := time_bds E1.out
                            obtain ⟨C, hC⟩ : ∃ C, (wk ts j).cost = C := ⟨_, rfl⟩
                            obtain ⟨D, hD⟩ : ∃ D, (wk ts j).dead = D := ⟨_, rfl⟩
                            obtain ⟨b, off, rfl, hbl, hc⟩ := HT.out.2 (by rw [HN.out]; omega)
                            obtain ⟨_, c1, _, cd⟩ := hc j (by rw [HN.out]; exact hlt)
                            rw [hC] at hb1 c1
                            rw [hD] at hb2 cd
                            have HWO : Box (WantOk ts ls j a) := ⟨HS.out.want (by rw [HN.out]; exact hlt) (by rw [hD]; exact hb2)⟩
                            have HB3 := Lib.hid hb3
                            have HC1 := Lib.hid c1
                            have HCD := Lib.hid cd
                            have hCi : ¬ (a : Int) < C := by omega
                            have hDi : (a : Int) ≤ D := by omega
                            clear hc hC hD hb3 c1 cd
                            cases o2 with
                            | none =>
                              cases o3 with
                              | none =>
                                clear F2 F3
                                go_wp2_with (first
                                  | (go_at_call 14; (with_reducible refine (Time_x (some ⟨b, off, none⟩) _ n ts HN.out bo _ m ls HM.out _ (HT.out.later HB.out) (HL.out.later HB.out) _ a E1.out).mono ?_); rintro e w5 ⟨rfl, hb5⟩; have HTA := Lib.hid (HTA.out.later hb5); have HLA := Lib.hid (HLA.out.later hb5); have HU := Lib.hid (HU.out.trans (hb5.mono HU.out.size)); have HB := Lib.hid (HB.out.trans (hb5.mono HB.out.size)); clear hb5)
                                  | (go_at_call 14; (with_reducible refine (Time_y _ _ (n + 1) (ts ++ [t]) HN1.out bo _ m ls HM.out _ HTA.out (HL.out.later HB.out) _ E2.out).mono ?_); rintro e w5 ⟨rfl, hb5⟩; have HTA := Lib.hid (HTA.out.later hb5); have HLA := Lib.hid (HLA.out.later hb5); have HU := Lib.hid (HU.out.trans (hb5.mono HU.out.size)); have HB := Lib.hid (HB.out.trans (hb5.mono HB.out.size)); clear hb5)
                                  | (go_at_call 14; (with_reducible refine (Time_y (some ⟨b, off, none⟩) _ n ts HN.out _ _ (m + 1) (ls ++ [s]) HM1.out _ (HT.out.later HB.out) HLA.out _ E3.out).mono ?_); rintro e w5 ⟨rfl, hb5⟩; have HTA := Lib.hid (HTA.out.later hb5); have HLA := Lib.hid (HLA.out.later hb5); have HU := Lib.hid (HU.out.trans (hb5.mono HU.out.size)); have HB := Lib.hid (HB.out.trans (hb5.mono HB.out.size)); clear hb5; have c1 := (HB.out.cell (p := ⟨b, off + j * 4 + 1, none⟩) hbl).trans HC1.out; have cd := (HB.out.cell (p := ⟨b, off + j * 4 + 3, none⟩) hbl).trans HCD.out)
                                  | (go_at_call 15; have hW := Wants_n (some ⟨b, off, none⟩) cap n ts HN.out bo cap2 m ls HM.out _ (HT.out.later HB.out) (HL.out.later HB.out) j a HWO.out; rw [HB3.out] at hW; refine hW.mono ?_; clear hW; rintro e w6 ⟨rfl, d6, rfl⟩; have HU := Lib.hid (HU.out.trans ((Below.same_drawn d6).mono HU.out.size))))
                                go_roundw
                                case rel => exact ⟨j + 1, by omega, by go_num, HU.out⟩
                                case measure => simp [intOf] <;> omega
                              | some d =>
                                obtain ⟨a', h, hd⟩ := F3.out d rfl
                                obtain rfl : a = a' := by simpa using h
                                have hdi : ¬ (d : Int) < a := by omega
                                clear F2 F3 h hd
                                go_wp2_with (first
                                  | (go_at_call 14; (with_reducible refine (Time_x (some ⟨b, off, none⟩) _ n ts HN.out bo _ m ls HM.out _ (HT.out.later HB.out) (HL.out.later HB.out) _ a E1.out).mono ?_); rintro e w5 ⟨rfl, hb5⟩; have HTA := Lib.hid (HTA.out.later hb5); have HLA := Lib.hid (HLA.out.later hb5); have HU := Lib.hid (HU.out.trans (hb5.mono HU.out.size)); have HB := Lib.hid (HB.out.trans (hb5.mono HB.out.size)); clear hb5)
                                  | (go_at_call 14; (with_reducible refine (Time_y _ _ (n + 1) (ts ++ [t]) HN1.out bo _ m ls HM.out _ HTA.out (HL.out.later HB.out) _ E2.out).mono ?_); rintro e w5 ⟨rfl, hb5⟩; have HTA := Lib.hid (HTA.out.later hb5); have HLA := Lib.hid (HLA.out.later hb5); have HU := Lib.hid (HU.out.trans (hb5.mono HU.out.size)); have HB := Lib.hid (HB.out.trans (hb5.mono HB.out.size)); clear hb5)
                                  | (go_at_call 14; (with_reducible refine (Time_x (some ⟨b, off, none⟩) _ n ts HN.out _ _ (m + 1) (ls ++ [s]) HM1.out _ (HT.out.later HB.out) HLA.out _ d E3.out).mono ?_); rintro e w5 ⟨rfl, hb5⟩; have HTA := Lib.hid (HTA.out.later hb5); have HLA := Lib.hid (HLA.out.later hb5); have HU := Lib.hid (HU.out.trans (hb5.mono HU.out.size)); have HB := Lib.hid (HB.out.trans (hb5.mono HB.out.size)); clear hb5; have c1 := (HB.out.cell (p := ⟨b, off + j * 4 + 1, none⟩) hbl).trans HC1.out; have cd := (HB.out.cell (p := ⟨b, off + j * 4 + 3, none⟩) hbl).trans HCD.out)
                                  | (go_at_call 15; have hW := Wants_n (some ⟨b, off, none⟩) cap n ts HN.out bo cap2 m ls HM.out _ (HT.out.later HB.out) (HL.out.later HB.out) j a HWO.out; rw [HB3.out] at hW; refine hW.mono ?_; clear hW; rintro e w6 ⟨rfl, d6, rfl⟩; have HU := Lib.hid (HU.out.trans ((Below.same_drawn d6).mono HU.out.size))))
                                go_roundw
                                case rel => exact ⟨j + 1, by omega, by go_num, HU.out⟩
                                case measure => simp [intOf] <;> omega
                            | some c =>
                              obtain ⟨a', h, hd⟩ := F2.out c rfl
                              obtain rfl : a = a' := by simpa using h
                              have hci : ¬ (c : Int) < a := by omega
                              clear F2 h hd
                              cases o3 with
                              | none =>
                                clear F3
                                go_wp2_with (first
                                  | (go_at_call 14; (with_reducible refine (Time_x (some ⟨b, off, none⟩) _ n ts HN.out bo _ m ls HM.out _ (HT.out.later HB.out) (HL.out.later HB.out) _ a E1.out).mono ?_); rintro e w5 ⟨rfl, hb5⟩; have HTA := Lib.hid (HTA.out.later hb5); have HLA := Lib.hid (HLA.out.later hb5); have HU := Lib.hid (HU.out.trans (hb5.mono HU.out.size)); have HB := Lib.hid (HB.out.trans (hb5.mono HB.out.size)); clear hb5)
                                  | (go_at_call 14; (with_reducible refine (Time_x _ _ (n + 1) (ts ++ [t]) HN1.out bo _ m ls HM.out _ HTA.out (HL.out.later HB.out) _ c E2.out).mono ?_); rintro e w5 ⟨rfl, hb5⟩; have HTA := Lib.hid (HTA.out.later hb5); have HLA := Lib.hid (HLA.out.later hb5); have HU := Lib.hid (HU.out.trans (hb5.mono HU.out.size)); have HB := Lib.hid (HB.out.trans (hb5.mono HB.out.size)); clear hb5)
                                  | (go_at_call 14; (with_reducible refine (Time_y (some ⟨b, off, none⟩) _ n ts HN.out _ _ (m + 1) (ls ++ [s]) HM1.out _ (HT.out.later HB.out) HLA.out _ E3.out).mono ?_); rintro e w5 ⟨rfl, hb5⟩; have HTA := Lib.hid (HTA.out.later hb5); have HLA := Lib.hid (HLA.out.later hb5); have HU := Lib.hid (HU.out.trans (hb5.mono HU.out.size)); have HB := Lib.hid (HB.out.trans (hb5.mono HB.out.size)); clear hb5; have c1 := (HB.out.cell (p := ⟨b, off + j * 4 + 1, none⟩) hbl).trans HC1.out; have cd := (HB.out.cell (p := ⟨b, off + j * 4 + 3, none⟩) hbl).trans HCD.out)
                                  | (go_at_call 15; have hW := Wants_n (some ⟨b, off, none⟩) cap n ts HN.out bo cap2 m ls HM.out _ (HT.out.later HB.out) (HL.out.later HB.out) j a HWO.out; rw [HB3.out] at hW; refine hW.mono ?_; clear hW; rintro e w6 ⟨rfl, d6, rfl⟩; have HU := Lib.hid (HU.out.trans ((Below.same_drawn d6).mono HU.out.size))))
                                go_roundw
                                case rel => exact ⟨j + 1, by omega, by go_num, HU.out⟩
                                case measure => simp [intOf] <;> omega
                              | some d =>
                                obtain ⟨a', h, hd⟩ := F3.out d rfl
                                obtain rfl : a = a' := by simpa using h
                                have hdi : ¬ (d : Int) < a := by omega
                                clear F3 h hd
                                go_wp2_with (first
                                  | (go_at_call 14; (with_reducible refine (Time_x (some ⟨b, off, none⟩) _ n ts HN.out bo _ m ls HM.out _ (HT.out.later HB.out) (HL.out.later HB.out) _ a E1.out).mono ?_); rintro e w5 ⟨rfl, hb5⟩; have HTA := Lib.hid (HTA.out.later hb5); have HLA := Lib.hid (HLA.out.later hb5); have HU := Lib.hid (HU.out.trans (hb5.mono HU.out.size)); have HB := Lib.hid (HB.out.trans (hb5.mono HB.out.size)); clear hb5)
                                  | (go_at_call 14; (with_reducible refine (Time_x _ _ (n + 1) (ts ++ [t]) HN1.out bo _ m ls HM.out _ HTA.out (HL.out.later HB.out) _ c E2.out).mono ?_); rintro e w5 ⟨rfl, hb5⟩; have HTA := Lib.hid (HTA.out.later hb5); have HLA := Lib.hid (HLA.out.later hb5); have HU := Lib.hid (HU.out.trans (hb5.mono HU.out.size)); have HB := Lib.hid (HB.out.trans (hb5.mono HB.out.size)); clear hb5)
                                  | (go_at_call 14; (with_reducible refine (Time_x (some ⟨b, off, none⟩) _ n ts HN.out _ _ (m + 1) (ls ++ [s]) HM1.out _ (HT.out.later HB.out) HLA.out _ d E3.out).mono ?_); rintro e w5 ⟨rfl, hb5⟩; have HTA := Lib.hid (HTA.out.later hb5); have HLA := Lib.hid (HLA.out.later hb5); have HU := Lib.hid (HU.out.trans (hb5.mono HU.out.size)); have HB := Lib.hid (HB.out.trans (hb5.mono HB.out.size)); clear hb5; have c1 := (HB.out.cell (p := ⟨b, off + j * 4 + 1, none⟩) hbl).trans HC1.out; have cd := (HB.out.cell (p := ⟨b, off + j * 4 + 3, none⟩) hbl).trans HCD.out)
                                  | (go_at_call 15; have hW := Wants_n (some ⟨b, off, none⟩) cap n ts HN.out bo cap2 m ls HM.out _ (HT.out.later HB.out) (HL.out.later HB.out) j a HWO.out; rw [HB3.out] at hW; refine hW.mono ?_; clear hW; rintro e w6 ⟨rfl, d6, rfl⟩; have HU := Lib.hid (HU.out.trans ((Below.same_drawn d6).mono HU.out.size))))
                                go_roundw
                                case rel => exact ⟨j + 1, by omega, by go_num, HU.out⟩
                                case measure => simp [intOf] <;> omega
                        · go_wp2
                          go_ret
                          exact ⟨rfl, HB.out⟩
                · go_wp2_with (first
                                    | (go_at_call 10; (with_reducible refine (Small_x ao cap n ts HN.out bo cap2 m _ (HT.out.later HB.out) true h1).mono ?_); rintro e w2 ⟨rfl, rfl⟩)
                                    | (go_at_call 10; refine (Small_new1 t true h2 _).mono ?_; rintro e w2 ⟨rfl, hb2⟩; have HX := Lib.hid (HX.out.later hb2); have HY := Lib.hid (HY.out.later hb2); have HB := Lib.hid (HB.out.trans (hb2.mono HB.out.size)); clear hb2; obtain ⟨_, x0, x1, x2, x3⟩ := HX.out; obtain ⟨_, y0, y1⟩ := HY.out)
                                    | (go_at_call 11; (with_reducible refine (Tasks_x ao cap n ts HN.out _ (HT.out.later HB.out) true h3).mono ?_); rintro e w2 ⟨rfl, hb2⟩; have HX := Lib.hid (HX.out.later hb2); have HY := Lib.hid (HY.out.later hb2); have HB := Lib.hid (HB.out.trans (hb2.mono HB.out.size)); clear hb2; obtain ⟨_, x0, x1, x2, x3⟩ := HX.out; obtain ⟨_, y0, y1⟩ := HY.out)
                                    | (go_at_call 12; (with_reducible refine (Loads_x bo cap2 m ls HM.out _ (HL.out.later HB.out) true h4).mono ?_); rintro e w2 ⟨rfl, hb2⟩; have HX := Lib.hid (HX.out.later hb2); have HY := Lib.hid (HY.out.later hb2); have HB := Lib.hid (HB.out.trans (hb2.mono HB.out.size)); clear hb2; obtain ⟨_, x0, x1, x2, x3⟩ := HX.out; obtain ⟨_, y0, y1⟩ := HY.out)
                                    | (go_at_call 13; (with_reducible refine (refMay_x t true h5 _).mono ?_); rintro e w2 ⟨rfl, hb2⟩; have HX := Lib.hid (HX.out.later hb2); have HY := Lib.hid (HY.out.later hb2); have HB := Lib.hid (HB.out.trans (hb2.mono HB.out.size)); clear hb2; obtain ⟨_, x0, x1, x2, x3⟩ := HX.out; obtain ⟨_, y0, y1⟩ := HY.out)
                                    | (go_at_call 12; refine (Loads_new1 s true h6 _).mono ?_; rintro e w2 ⟨rfl, hb2⟩; have HX := Lib.hid (HX.out.later hb2); have HY := Lib.hid (HY.out.later hb2); have HB := Lib.hid (HB.out.trans (hb2.mono HB.out.size)); clear hb2; obtain ⟨_, x0, x1, x2, x3⟩ := HX.out; obtain ⟨_, y0, y1⟩ := HY.out))
                  go_ret
                  exact ⟨rfl, HB.out⟩
              · go_wp2_with (first
                                | (go_at_call 10; (with_reducible refine (Small_x ao cap n ts HN.out bo cap2 m _ (HT.out.later HB.out) true h1).mono ?_); rintro e w2 ⟨rfl, rfl⟩)
                                | (go_at_call 10; refine (Small_new1 t true h2 _).mono ?_; rintro e w2 ⟨rfl, hb2⟩; have HX := Lib.hid (HX.out.later hb2); have HY := Lib.hid (HY.out.later hb2); have HB := Lib.hid (HB.out.trans (hb2.mono HB.out.size)); clear hb2; obtain ⟨_, x0, x1, x2, x3⟩ := HX.out; obtain ⟨_, y0, y1⟩ := HY.out)
                                | (go_at_call 11; (with_reducible refine (Tasks_x ao cap n ts HN.out _ (HT.out.later HB.out) true h3).mono ?_); rintro e w2 ⟨rfl, hb2⟩; have HX := Lib.hid (HX.out.later hb2); have HY := Lib.hid (HY.out.later hb2); have HB := Lib.hid (HB.out.trans (hb2.mono HB.out.size)); clear hb2; obtain ⟨_, x0, x1, x2, x3⟩ := HX.out; obtain ⟨_, y0, y1⟩ := HY.out)
                                | (go_at_call 12; (with_reducible refine (Loads_x bo cap2 m ls HM.out _ (HL.out.later HB.out) true h4).mono ?_); rintro e w2 ⟨rfl, hb2⟩; have HX := Lib.hid (HX.out.later hb2); have HY := Lib.hid (HY.out.later hb2); have HB := Lib.hid (HB.out.trans (hb2.mono HB.out.size)); clear hb2; obtain ⟨_, x0, x1, x2, x3⟩ := HX.out; obtain ⟨_, y0, y1⟩ := HY.out)
                                | (go_at_call 13; (with_reducible refine (refMay_x t true h5 _).mono ?_); rintro e w2 ⟨rfl, hb2⟩; have HX := Lib.hid (HX.out.later hb2); have HY := Lib.hid (HY.out.later hb2); have HB := Lib.hid (HB.out.trans (hb2.mono HB.out.size)); clear hb2; obtain ⟨_, x0, x1, x2, x3⟩ := HX.out; obtain ⟨_, y0, y1⟩ := HY.out)
                                | (go_at_call 12; refine (Loads_new1 s true h6 _).mono ?_; rintro e w2 ⟨rfl, hb2⟩; have HX := Lib.hid (HX.out.later hb2); have HY := Lib.hid (HY.out.later hb2); have HB := Lib.hid (HB.out.trans (hb2.mono HB.out.size)); clear hb2; obtain ⟨_, x0, x1, x2, x3⟩ := HX.out; obtain ⟨_, y0, y1⟩ := HY.out))
                go_ret
                exact ⟨rfl, HB.out⟩

theorem walk (a0 : Option Addr) (len0 cap0 : Nat) (z0 : Nat → Nat → Int) (a1 : Option Addr) (len1 cap1 : Nat) (z1 : Nat → Nat → Int) (z2 : Nat → Int) (w : World) (g0 : ArgStructs [.i64, .u64, .u64, .u64] w a0 len0 z0) (g1 : ArgStructs [.i64, .u64] w a1 len1 z1)
    (g2 : ∀ (j : Nat) (k : IntKind), ([.i64, .u64, .u64, .u64, .i64, .u64, .u64] : List IntKind)[j]? = some k → (Lit.int k (z2 j)).wf = true) :
    Calls Try.prog 3 #[.slice a0 len0 cap0, .slice a1 len1 cap1, .agg ((([.i64, .u64, .u64, .u64, .i64, .u64, .u64] : List IntKind).zipIdx.map (fun x => Value.int x.1 (z2 x.2))).toArray)] w fun e w' => e = .returned (.bool true) ∧ Below w.heap.size w w' := by
  obtain ⟨ts, hn, hT⟩ := tasks_of_arg g0
  obtain ⟨ls, hm, hL⟩ := loads_of_arg g1
  obtain ⟨t, s, p, e⟩ := more_of g2
  rw [e]
  exact walkV a0 len0 cap0 ts hn a1 len1 cap1 ls hm t s p w hT hL

/-! The row's step. -/
theorem own : ownKnob Try.prog.godebug = none := by kernel_rfl
theorem laidOut : laidOutB Try.prog = true := by kernel_rfl

set_option maxRecDepth 100000 in
theorem lifted (os : Os) (started : os.Started) (H : Type) (enc : TypeId × Value → H) :
    ReturnsInHanded {} Try.checked os 3 .any (Rows.rtaMoreSpec.pre6 enc Try.prog Try.f3 Rows.rtaMoreRow.domain false) (Rows.rtaMoreSpec.post enc Try.prog Try.f3 false true false false) := by
  refine returnsInHanded_of_change (C := Try.checked) own started (by kernel_rfl) Try.func3
    (ChangeSpec.witness6 (enc := enc) (C := Try.checked) false ⟨#[], #[.slice none 0 0, .slice none 0 0, .agg #[.int .i64 0, .int .u64 0, .int .u64 0, .int .u64 0, .int .i64 0, .int .u64 0, .int .u64 0]], []⟩ 8 (by kernel_rfl) (by kernel_rfl) (by kernel_rfl) (by kernel_rfl)) ?_
  intro W base args ds gs before hval0 hW hcnd _
  have hval : ∀ (j : Nat) t v, Try.f3.params[j]? = some t → args[j]? = some v → Value.okWide Try.prog W .any base t v := hval0
  have hW' := hW
  obtain ⟨p, q, hA0, hV, rfl, hfz, hnd⟩ := hW
  have hA : DataW.TrodAll enc Try.prog W 0 (fun _ => true) true Try.f3.params.toList args.toList ds p := hA0
  rw [Try.params3] at hA hval
  obtain ⟨v0, vs0, d0, ds0, p0, q0, hargs, rfl, rfl, h0, r0⟩ := trodAll_cons hA
  obtain ⟨v1, vs1, d1, ds1, p1, q1, rfl, rfl, rfl, h1, r1⟩ := trodAll_cons r0
  obtain ⟨v2, vs2, d2, ds2, p2, q2, rfl, rfl, rfl, h2, r2⟩ := trodAll_cons r1
  obtain ⟨rfl, rfl, rfl⟩ := trodAll_nil r2
  obtain rfl : args = #[v0, v1, v2] := by cases args; simp_all
  obtain ⟨rfl, rfl⟩ := trodVars_none hV
  obtain ⟨a0, len0, cap0, rfl⟩ := okWide_slice Try.underlying22 (hval 0 22 v0 rfl rfl)
  have k0 := h0
  have lt0 : ∀ x ∈ p0, x.block < W.heap.size := by obtain ⟨m, hm⟩ := k0; exact DataW.trod_lt m _ _ _ hm
  obtain ⟨z0, w0⟩ := open_structs (ks := [.i64, .u64, .u64, .u64]) Try.underlying22 Try.underlying26 (by kernel_rfl) (by kernel_rfl) (by kernel_rfl) (by decide) h0
  obtain ⟨a1, len1, cap1, rfl⟩ := okWide_slice Try.underlying23 (hval 1 23 v1 rfl rfl)
  have k1 := h1
  have lt1 : ∀ x ∈ p1, x.block < W.heap.size := by obtain ⟨m, hm⟩ := k1; exact DataW.trod_lt m _ _ _ hm
  obtain ⟨z1, w1⟩ := open_structs (ks := [.i64, .u64]) Try.underlying23 Try.underlying28 (by kernel_rfl) (by kernel_rfl) (by kernel_rfl) (by decide) h1
  have k2 := h2
  have lt2 : ∀ x ∈ p2, x.block < W.heap.size := by obtain ⟨m, hm⟩ := k2; exact DataW.trod_lt m _ _ _ hm
  obtain ⟨z2, rfl, w2⟩ := open_flat (ks := [.i64, .u64, .u64, .u64, .i64, .u64, .u64]) Try.underlying30 (by kernel_rfl) (by kernel_rfl) (hval 2 30 v2 rfl rfl) h2
  clear hA0 hval0
  refine (walk a0 len0 cap0 z0 a1 len1 cap1 z1 z2 W w0 w1 w2).mono fun e W' ⟨he, bel⟩ => ?_
  subst he
  exact ⟨_, rfl, _, _, _, [], _, [], hW', trodAll_mk1 (shut_bool Try.underlying4 _), (trodAll_cons_mk (Below.trod laidOut (by kernel_rfl) (of_decide_eq_true (by kernel_rfl)) k0 bel lt0) (trodAll_cons_mk (Below.trod laidOut (by kernel_rfl) (of_decide_eq_true (by kernel_rfl)) k1 bel lt1) (trodAll_cons_mk (Below.trod laidOut (by kernel_rfl) (of_decide_eq_true (by kernel_rfl)) k2 bel lt2) trodAll_mk0))), rfl, bel.frame _, fun h => by cases h⟩

theorem over : Rows.rtaMoreRow.holds Try.pinned (OpenSpec.ofChange Rows.rtaMoreSpec) :=
  OpenClaim.holds_of_wide 3 Try.f3 rfl rfl rfl rfl rfl rfl rfl ⟨rfl, rfl, rfl, rfl, rfl⟩ rfl rfl rfl rfl rfl (by kernel_rfl) Try.func3 (by kernel_rfl)
    (of_decide_eq_true (by kernel_rfl)) (by unfold Func.isWrapper; first | (rw [if_pos (by decide +kernel)]; kernel_rfl) | (rw [if_neg (by decide +kernel)]; exact ⟨rfl, rfl⟩))
    (fun os started H enc _ => lifted os started H enc)

/-- The statement. -/
theorem proved : Rows.RtaMoreSaid := over
#print axioms proved

end Go.Proofs.Ytibplnbldnhbhaa.rtaMore
