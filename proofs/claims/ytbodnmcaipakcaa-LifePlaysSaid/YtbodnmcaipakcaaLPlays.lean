/-
  LifePlays: of any cost it is told whether it may be; whatever is opened, answered, and called off, whenever: each answer, all outcomes, and who is open, is what the document says. No condition but the statement's.
-/
import Derived.Test.YtbodnmcaipakcaaLrE
import Derived.Test.YtbodnmcaipakcaaArgsS
import Derived.Test.YtbodnmcaipakcaaRows
import Derived.Deep.RegionHeld3
import Derived.Deep.RegionWith
namespace Go.Proofs.Ytbodnmcaipakcaa.lifePlays
open Go.ChangeShapes Go.WideShapes Go.ChangeAt Go.RowKit Go.Proofs.Ytbodnmcaipakcaa

abbrev dO (kd x : Int) (u : Nat) (st : Int) : Obj := .cells #[.int .i64 kd, .int .i64 x, .int .u64 u, .int .i64 st] 43
section
variable {w0 w : World} {p cost now : Nat} {d : Int → Option Nat} {fs : List FateM} {q nw : Nat} {L : List Tm} {fr : List FateM} {X : List (Nat × Obj)} {Bd : Nat} {kd x : Int} {u : Nat} {st : Int}
theorem P2.d0 (h : P2 w0 w p cost now d fs q nw L fr ((Bd, dO kd x u st) :: X)) : w.cell? ⟨Bd, 0, none⟩ = some (.int .i64 kd) := (cell_blk (h.blk (List.mem_cons_self ..)) 0).trans rfl
theorem P2.d1 (h : P2 w0 w p cost now d fs q nw L fr ((Bd, dO kd x u st) :: X)) : w.cell? ⟨Bd, 1, none⟩ = some (.int .i64 x) := (cell_blk (h.blk (List.mem_cons_self ..)) 1).trans rfl
theorem P2.d2 (h : P2 w0 w p cost now d fs q nw L fr ((Bd, dO kd x u st) :: X)) : w.cell? ⟨Bd, 2, none⟩ = some (.int .u64 u) := (cell_blk (h.blk (List.mem_cons_self ..)) 2).trans rfl
theorem P2.d3 (h : P2 w0 w p cost now d fs q nw L fr ((Bd, dO kd x u st) :: X)) : w.cell? ⟨Bd, 3, none⟩ = some (.int .i64 st) := (cell_blk (h.blk (List.mem_cons_self ..)) 3).trans rfl
end
theorem wrap_nat (k : Int) : ∃ n : Nat, IntKind.u64.wrap k = (n : Int) ∧ n ≤ 18446744073709551615 := by
  have h := wf_wrap .u64 k
  simp [Lit.wf, IntKind.min, IntKind.max, IntKind.signed, IntKind.bits] at h
  exact ⟨(IntKind.u64.wrap k).toNat, by omega, by omega⟩
theorem rsame_any2 (ao ao' : Option Addr) (fs : List FateM) (n n' c c' : Nat) (w : World) (hn : n = fs.length) (hn2 : n' = fs.length) (h1 : FAt w ao fs) (h2 : FAt w ao' fs) (h6 : n ≤ 1000000) :
    Calls Try.prog 21 #[.slice ao n c, .slice ao' n' c'] w fun e w' => e = .returned (.bool true) ∧ Below w.heap.size w w' := by
  obtain rfl : n = n' := hn.trans hn2.symm
  exact rsame_any ao ao' fs n c c' w hn h1 h2 h6
theorem late_len {d : Int → Option Nat} {L : List Tm} {lim : Nat} {l : List Int} (hr : RelB d L) (hl : LateL d lim l) : l.length ≤ L.length := by
  have := nodup_sub_len (late_nodup hl) (m := L.map Tm.id) (fun x hx => by
    obtain ⟨a, ha, _⟩ := (hl.2 x).1 hx
    exact List.mem_map.2 ⟨_, (hr.mem ⟨x, a⟩).2 ha, rfl⟩)
  simpa using this
theorem p2_gobadP (w0 w : World) (p cost now : Nat) (d : Int → Option Nat) (fs : List FateM) (q nw : Nat) (L : List Tm) (fr : List FateM) (X : List (Nat × Obj)) (h : P2 w0 w p cost now d fs q nw L fr X) (t : Nat) (ht : t ≤ 18446744073709551615) (c : Int) (hc : (4611686018427387904 ≤ t ∧ c = 2) ∨ (t < now ∧ c = 1)) : Calls Try.prog 13 #[.pointer (some ⟨p, 0, none⟩), .int .u64 t] w fun e w' => e = .returned (.tuple #[.slice none 0 0, .int .i64 c]) ∧ P2 w0 w' p cost now d fs q nw L fr X :=
  (p2_gobad w0 w p cost now d fs q nw L fr X h t ht c hc).mono fun e w' hx => ⟨hx.1, hx.2 ▸ h⟩
theorem p2_rgobadP (w0 w : World) (p cost now : Nat) (d : Int → Option Nat) (fs : List FateM) (q nw : Nat) (L : List Tm) (fr : List FateM) (X : List (Nat × Obj)) (h : P2 w0 w p cost now d fs q nw L fr X) (t : Nat) (c : Int) (hc : (4611686018427387904 ≤ t ∧ c = 2) ∨ (t < nw ∧ c = 1)) (h2 : nw < 4611686018427387904) : Calls Try.prog 20 #[.pointer (some ⟨q, 0, none⟩), .int .u64 t] w fun e w' => e = .returned (.tuple #[.slice none 0 0, .int .i64 c]) ∧ P2 w0 w' p cost now d fs q nw L fr X :=
  (p2_rgobad w0 w p cost now d fs q nw L fr X h t c hc h2).mono fun e w' hx => ⟨hx.1, hx.2 ▸ h⟩
theorem pcons {w0 w : World} {p cost now : Nat} {d : Int → Option Nat} {fs : List FateM} {q nw : Nat} {L : List Tm} {fr : List FateM} {b : Nat × Obj} {Y : List (Nat × Obj)} (h : P2 w0 w p cost now d fs q nw L fr ([b] ++ Y)) : P2 w0 w p cost now d fs q nw L fr (b :: Y) := h
theorem row_FAt {w0 w : World} {p cost now : Nat} {d : Int → Option Nat} {fs : List FateM} {q nw : Nat} {L : List Tm} {fr : List FateM} {b : Nat × Obj} {Y : List (Nat × Obj)} (h : P2 w0 w p cost now d fs q nw L fr (b :: Y)) {fo : Option Addr} {R : List FateM}
    (hrow : ∀ j (hj : j < R.length), ∃ b cur, fo = some ⟨b, 0, none⟩ ∧ (b, Obj.cells cur 35 (0, 0)) ∈ Y ∧ cur[j * 3]? = some (.int .i64 R[j].id) ∧ cur[j * 3 + 1]? = some (.int .i64 R[j].kind) ∧ cur[j * 3 + 2]? = some (.int .i64 R[j].why)) : FAt w fo R := fun h0 => by
  obtain ⟨b, cur, rfl, hm, _⟩ := hrow 0 h0
  have hb := h.blk (x := (b, Obj.cells cur 35 (0, 0))) (List.mem_cons_of_mem _ hm)
  refine ⟨b, 0, rfl, lt_blk hb, fun j hj => ?_⟩
  obtain ⟨b', cur', e, hm', f0, f1, f2⟩ := hrow j hj
  injection e with e
  injection e with e
  subst e
  have hb' := h.blk (x := (b, Obj.cells cur' 35 (0, 0))) (List.mem_cons_of_mem _ hm')
  rw [Nat.zero_add]
  exact ⟨(cell_blk hb' _).trans f0, (cell_blk hb' _).trans f1, (cell_blk hb' _).trans f2⟩
theorem hasV_form (d : Int → Option Nat) (x : Int) : ∃ (t : Nat) (b : Bool), hasV d x = .tuple #[.int .u64 t, .bool b] ∧ (d x).isSome = b ∧ (d x).getD 0 = t := by
  unfold hasV
  cases d x with
  | none => exact ⟨0, false, rfl, rfl, rfl⟩
  | some a => exact ⟨a, true, rfl, rfl, rfl⟩
theorem fsO_len (d : Int → Option Nat) (fs : List FateM) (f : FateM) : (fsO d fs f).length ≤ fs.length + 1 := by
  unfold fsO; split
  · simp
  · omega
theorem ansF_len (d : Int → Option Nat) (fs : List FateM) (id st : Int) (b : Bool) : (ansF d fs id st b).length ≤ fs.length + 1 := by
  unfold ansF; split
  · omega
  · exact fsO_len _ _ _
theorem cntD_big (d : Int → Option Nat) : cntD d ≤ 65536 := Nat.le_trans (List.length_filter_le ..) (by simp)

set_option maxHeartbeats 32000000 in
set_option maxRecDepth 100000 in
theorem walkN (cost : Nat) (a0 : Option Addr) (n cap0 : Nat) (z : Nat → Nat → Int) (w : World) (hcs : cost ≤ 18446744073709551615) (g0 : ArgStructs [.i64, .i64, .u64, .i64] w a0 n z) :
    Calls Try.prog 8 #[.int .u64 cost, .slice a0 n cap0] w fun e w' => e = .returned (.bool true) ∧ Below w.heap.size w w' := by
  have hn63 := g0.1
  have HA := Box.mk g0
  clear g0
  by_cases hbad : cost < 1 ∨ 1000 < cost
  · have HNW := Box.mk (fun w => bnew_bad cost w hbad)
    have hbi : (cost : Int) < 1 ∨ (¬ (cost : Int) < 1 ∧ (1000 : Int) < cost) := by omega
    clear hbad
    rcases hbi with h1 | ⟨h1, h2⟩
    all_goals
      go_enter Try.func8, Try.ntmps8
      go_upto_region 3 with (go_at_call 9; refine (awake19_any _).mono ?_; rintro e w1 ⟨rfl, hb1⟩; have HB1 := Box.mk hb1; clear hb1)
      go_wp2_with (go_at_call 10; (with_reducible refine (HNW.out _).mono ?_); rintro e w2 ⟨rfl, rfl⟩)
      go_ret
      exact ⟨rfl, HB1.out⟩
  have hc2 : 1 ≤ cost ∧ cost ≤ 1000 := by omega
  have hci : ¬ (cost : Int) < 1 := by omega
  have hci2 : ¬ (1000 : Int) < (cost : Int) := by omega
  clear hbad
  have HNW := Box.mk (fun w1 (hb : Below w.heap.size w w1) => ls_new cost w1 hc2 w hb [] (fun q hq => by cases hq))
  go_enter Try.func8, Try.ntmps8
  go_upto_region 3 with (go_at_call 9; refine (awake19_any _).mono ?_; rintro e w1 ⟨rfl, hb1⟩; have HB1 := Box.mk hb1; clear hb1)
  go_upto_region 8 with (go_at_call 10; (with_reducible refine (HNW.out _ HB1.out).mono ?_); rintro e w2 ⟨p, rfl, hs⟩; have HS := Box.mk (P2.new hs); clear hs)
  clear HNW HB1 hci hci2
  rename World => w2
  go_upto_region 9 with fail
  generalize w2.alloc (.cells #[.int .u64 cost, .int .u64 0, .slice none 0 0, .slice none 0 0] 55) = w3 at HS ⊢
  generalize w2.heap.size = q at HS ⊢
  have HR0 := Box.mk RelB.start
  go_wp2
  go_loopw [8, 9, 10, 11, 12, 13, 14, 15, 16, 17, 18, 19, 20] (fun s8 _ _ _ _ _ _ _ _ _ _ _ _ wr => ∃ (k now : Nat) (d : Int → Option Nat) (fs : List FateM) (L : List Tm), k ≤ n ∧ k ≤ 150 ∧ s8 = .int .i64 k ∧ fs.length ≤ k ∧ Box (RelB d L) ∧ Box (P2 w wr p cost now d fs q now L fs [])) (fun s8 _ _ _ _ _ _ _ _ _ _ _ _ _ => n - (intOf s8).toNat)
  case atStart => exact ⟨0, 0, _, _, _, by omega, by omega, rfl, by simp, HR0, HS⟩
  case round =>
    clear HS HR0
    obtain ⟨k, now, d, fs, L, hkn, hk150, rfl, hfl, HREL, HS⟩ := hrel
    by_cases hgo : k < n ∧ k < 150
    · obtain ⟨hlt, hlt2⟩ := hgo
      obtain ⟨b, off, rfl, hbl, hcell⟩ := HA.out.2.2 (by omega)
      have c0 := (HS.out.below.cell (p := ⟨b, off + (k * 4 + 0), none⟩) hbl).trans (hcell k hlt 0 .i64 rfl)
      have c1 := (HS.out.below.cell (p := ⟨b, off + (k * 4 + 1), none⟩) hbl).trans (hcell k hlt 1 .i64 rfl)
      have c2 := (HS.out.below.cell (p := ⟨b, off + (k * 4 + 2), none⟩) hbl).trans (hcell k hlt 2 .u64 rfl)
      have c3 := (HS.out.below.cell (p := ⟨b, off + (k * 4 + 3), none⟩) hbl).trans (hcell k hlt 3 .i64 rfl)
      simp only [← Nat.add_assoc, Nat.add_zero] at c0 c1 c2 c3
      have HKW : Box (kwf (z k 1)) := ⟨HA.out.2.1 k hlt 1 .i64 rfl⟩
      have hu := HA.out.2.1 k hlt 2 .u64 rfl
      simp [Lit.wf, IntKind.min, IntKind.max, IntKind.signed, IntKind.bits] at hu
      obtain ⟨u, hun⟩ : ∃ u : Nat, z k 2 = u := ⟨(z k 2).toNat, by omega⟩
      rw [hun] at c2 hu
      have hu64 : u ≤ 18446744073709551615 := by omega
      generalize z k 0 = kd at c0
      generalize z k 1 = x at c1 HKW
      generalize z k 3 = st at c3
      clear hcell hun hu
      go_upto_region 13 with fail
      obtain ⟨Bd, hBd⟩ : ∃ Bd, wr.heap.size = Bd := ⟨_, rfl⟩
      have HS2 := HS.out.alloc (dO kd x u st) Bd hBd
      generalize hV : wr.alloc (.cells #[.int .i64 kd, .int .i64 x, .int .u64 u, .int .i64 st] 43) = V at HS2 ⊢
      rw [hBd]
      clear c0 c1 c2 c3 HS hBd hV hbl
      have HS := Box.mk HS2
      clear HS2
      have d0 := P2.d0 HS.out
      have d1 := P2.d1 HS.out
      have d2 := P2.d2 HS.out
      have d3 := P2.d3 HS.out
      have r1 := HS.out.cells.1
      have HFC := Box.mk HS.out.facts
      have HHD : Box (∀ x a, d x = some a → 0 ≤ x ∧ x ≤ 65535) := ⟨fun x a h => ⟨(HFC.out.2.2.2 x a h).1, (HFC.out.2.2.2 x a h).2.1⟩⟩
      have HLEN : Box (L.length = cntD d ∧ L.length ≤ 65536) := ⟨HREL.out.len HHD.out, by rw [HREL.out.len HHD.out]; exact cntD_big d⟩
      have HNOW : Box (now < 4611686018427387904) := ⟨HFC.out.2.2.1⟩
      go_upto_block 2 with fail
      go_cut [10, 11, 12, 13, 14, 15] (fun s10 s11 _ _ _ _ wx => ∃ (now2 : Nat) (d2 : Int → Option Nat) (fs2 : List FateM) (L2 : List Tm) (c : Int), s10 = .int .i64 c ∧ s11 = .int .i64 c ∧ fs2.length ≤ k + 1 ∧ Box (RelB d2 L2) ∧ Box (P2 w wx p cost now2 d2 fs2 q now2 L2 fs2 [(Bd, dO kd x u st)]))
      case first =>
        as_aux_lemma =>
        by_cases hk0 : kd = 0
        · have e0 : (kd == 0) = true := by simp [hk0]
          clear hk0
          obtain ⟨at0, hat0, hat64⟩ := wrap_nat ((now : Int) + (u : Int))
          obtain ⟨c, hc⟩ : ∃ c, openD cost now d x at0 = c := ⟨_, rfl⟩
          have HC := Box.mk hc
          clear hc
          go_upto_region 19 with fail
          go_region_held3 (fun w' => w'.cell? ⟨Bd, 0, none⟩ = some (.int .i64 kd) ∧ w'.cell? ⟨Bd, 1, none⟩ = some (.int .i64 x) ∧ w'.cell? ⟨Bd, 2, none⟩ = some (.int .u64 u) ∧ w'.cell? ⟨Bd, 3, none⟩ = some (.int .i64 st) ∧ w'.cell? ⟨q, 1, none⟩ = some (.int .u64 now)) (simp [*])
            ((go_at_call 11; refine (p2_open w _ p cost now d fs q now L fs _ (by first | exact HS.out | exact HS.out.drew) x at0 HKW.out hat64 c HC.out).mono ?_; rintro e w4 ⟨rfl, hs⟩; have d0 := P2.d0 hs; have d1 := P2.d1 hs; have d2 := P2.d2 hs; have d3 := P2.d3 hs; have r1 := hs.cells.1; have HS := Box.mk hs; clear hs))
          all_goals
            go_upto_region 20 with fail
            go_region_held3 (fun w' => w'.cell? ⟨Bd, 0, none⟩ = some (.int .i64 kd) ∧ w'.cell? ⟨Bd, 1, none⟩ = some (.int .i64 x) ∧ w'.cell? ⟨Bd, 2, none⟩ = some (.int .u64 u) ∧ w'.cell? ⟨Bd, 3, none⟩ = some (.int .i64 st) ∧ w'.cell? ⟨q, 1, none⟩ = some (.int .u64 now)) (simp [*])
              ((go_at_call 17; refine (p2_ropen w _ p cost now _ fs q now L fs _ (by first | exact HS.out | exact HS.out.drew) d HREL.out HHD.out ⟨hc2.2, HNOW.out⟩ x at0 c HC.out).mono ?_; rintro e w5 ⟨rfl, L2, hrel, hs⟩; have d0 := P2.d0 hs; have d1 := P2.d1 hs; have d2 := P2.d2 hs; have d3 := P2.d3 hs; have r1 := hs.cells.1; have HREL2 := Box.mk hrel; have HS := Box.mk hs; clear hs hrel))
          all_goals
            go_wp2
            go_meet
            exact ⟨now, _, fs, _, c, rfl, rfl, by omega, HREL2, HS⟩
        · have e0 : (kd == 0) = false := beq_eq_false_iff_ne.2 hk0
          by_cases hk12 : kd = 1 ∨ kd = 2
          · obtain ⟨b, h1, h2⟩ : ∃ b : Bool, (kd == 1) = !b ∧ (kd == 2) = b := by
              rcases hk12 with rfl | rfl
              · exact ⟨false, rfl, rfl⟩
              · exact ⟨true, rfl, rfl⟩
            have HAL := Box.mk (ansF_len d fs x st b)
            have hfl9 : fs.length ≤ 900000 := by omega
            clear hk0 hk12
            cases b with
            | false =>
              simp only [Bool.not_false] at h1
              go_upto_region 24 with (go_at_call 12; refine (p2_answer w _ p cost now d fs q now L fs _ HS.out x st false HKW.out hfl9).mono ?_; rintro e w4 ⟨rfl, hs⟩; have d0 := P2.d0 hs; have d1 := P2.d1 hs; have d2 := P2.d2 hs; have d3 := P2.d3 hs; have r1 := hs.cells.1; have HS := Box.mk hs; clear hs)
              go_wp2_with (go_at_call 18; refine (p2_ranswer w _ p cost now _ _ q now L fs _ HS.out d HREL.out (by have := HLEN.out.2; omega) (by omega) x st false).mono ?_; rintro e w5 ⟨rfl, L2, hrel, hs⟩; have HREL2 := Box.mk hrel; have HS := Box.mk hs; clear hs hrel)
              go_meet
              exact ⟨now, _, _, _, _, rfl, rfl, by have := HAL.out; omega, HREL2, HS⟩
            | true =>
              simp only [Bool.not_true] at h1
              go_upto_region 24 with (go_at_call 12; refine (p2_answer w _ p cost now d fs q now L fs _ HS.out x st true HKW.out hfl9).mono ?_; rintro e w4 ⟨rfl, hs⟩; have d0 := P2.d0 hs; have d1 := P2.d1 hs; have d2 := P2.d2 hs; have d3 := P2.d3 hs; have r1 := hs.cells.1; have HS := Box.mk hs; clear hs)
              go_wp2_with (go_at_call 18; refine (p2_ranswer w _ p cost now _ _ q now L fs _ HS.out d HREL.out (by have := HLEN.out.2; omega) (by omega) x st true).mono ?_; rintro e w5 ⟨rfl, L2, hrel, hs⟩; have HREL2 := Box.mk hrel; have HS := Box.mk hs; clear hs hrel)
              go_meet
              exact ⟨now, _, _, _, _, rfl, rfl, by have := HAL.out; omega, HREL2, HS⟩
          · have e1 : (kd == 1) = false := beq_eq_false_iff_ne.2 (fun h => hk12 (.inl h))
            have e2 : (kd == 2) = false := beq_eq_false_iff_ne.2 (fun h => hk12 (.inr h))
            by_cases hk3 : kd = 3
            · have e3 : (kd == 3) = true := by simp [hk3]
              have HAL := Box.mk (fsO_len d fs ⟨x, 2, 3⟩)
              have hfl9 : fs.length ≤ 900000 := by omega
              clear hk0 hk12 hk3
              go_upto_region 27 with (go_at_call 14; refine (p2_cancel w _ p cost now d fs q now L fs _ HS.out x HKW.out hfl9).mono ?_; rintro e w4 ⟨rfl, hs⟩; have d0 := P2.d0 hs; have d1 := P2.d1 hs; have d2 := P2.d2 hs; have d3 := P2.d3 hs; have r1 := hs.cells.1; have HS := Box.mk hs; clear hs)
              go_wp2_with (go_at_call 19; refine (p2_rcancel w _ p cost now _ _ q now L fs _ HS.out d HREL.out (by have := HLEN.out.2; omega) (by omega) x).mono ?_; rintro e w5 ⟨rfl, L2, hrel, hs⟩; have HREL2 := Box.mk hrel; have HS := Box.mk hs; clear hs hrel)
              go_meet
              exact ⟨now, _, _, _, _, rfl, rfl, by have := HAL.out; omega, HREL2, HS⟩
            · have e3 : (kd == 3) = false := beq_eq_false_iff_ne.2 hk3
              by_cases hk4 : kd = 4
              · have e4 : (kd == 4) = true := by simp [hk4]
                clear hk0 hk12 hk3 hk4
                obtain ⟨t, hat0, hat64⟩ := wrap_nat ((now : Int) + (u : Int))
                have HDD : Box (∀ x a, d x = some a → 0 ≤ x ∧ x ≤ 65535 ∧ cost ≤ a ∧ a ≤ 4611686018427387904) := ⟨fun x a h => ⟨(HFC.out.2.2.2 x a h).1, (HFC.out.2.2.2 x a h).2.1, by have := (HFC.out.2.2.2 x a h).2.2.1; omega, by have := (HFC.out.2.2.2 x a h).2.2.2; omega⟩⟩
                by_cases hgb : (4611686018427387904 ≤ t) ∨ t < now
                · obtain ⟨c, hc⟩ : ∃ c : Int, (4611686018427387904 ≤ t ∧ c = 2) ∨ (t < now ∧ c = 1) := by
                    rcases hgb with h | h
                    · exact ⟨2, .inl ⟨h, rfl⟩⟩
                    · exact ⟨1, .inr ⟨h, rfl⟩⟩
                  have HC := Box.mk hc
                  have HSM := Box.mk (fun w => rsame_any none none [] 0 0 0 w rfl (fun h => absurd h (by simp)) (fun h => absurd h (by simp)) (by omega))
                  clear hgb hc
                  go_upto_region 29 with fail
                  go_region_held3 (fun w' => w'.cell? ⟨Bd, 0, none⟩ = some (.int .i64 kd) ∧ w'.cell? ⟨Bd, 1, none⟩ = some (.int .i64 x) ∧ w'.cell? ⟨Bd, 2, none⟩ = some (.int .u64 u) ∧ w'.cell? ⟨Bd, 3, none⟩ = some (.int .i64 st) ∧ w'.cell? ⟨q, 1, none⟩ = some (.int .u64 now)) (simp [*])
                    ((go_at_call 13; refine (p2_gobadP w _ p cost now d fs q now L fs _ (by first | exact HS.out | exact HS.out.drew) t hat64 c HC.out).mono ?_; rintro e w4 ⟨rfl, hs⟩; have d0 := P2.d0 hs; have d1 := P2.d1 hs; have d2 := P2.d2 hs; have d3 := P2.d3 hs; have r1 := hs.cells.1; have HS := Box.mk hs; clear hs))
                  all_goals
                    go_upto_region 30 with fail
                    go_region_held3 (fun w' => w'.cell? ⟨Bd, 0, none⟩ = some (.int .i64 kd) ∧ w'.cell? ⟨Bd, 1, none⟩ = some (.int .i64 x) ∧ w'.cell? ⟨Bd, 2, none⟩ = some (.int .u64 u) ∧ w'.cell? ⟨Bd, 3, none⟩ = some (.int .i64 st) ∧ w'.cell? ⟨q, 1, none⟩ = some (.int .u64 now)) (simp [*])
                      ((go_at_call 20; refine (p2_rgobadP w _ p cost now d fs q now L fs _ (by first | exact HS.out | exact HS.out.drew) t c HC.out HNOW.out).mono ?_; rintro e w5 ⟨rfl, hs⟩; have d0 := P2.d0 hs; have d1 := P2.d1 hs; have d2 := P2.d2 hs; have d3 := P2.d3 hs; have r1 := hs.cells.1; have HS := Box.mk hs; clear hs))
                  all_goals
                    go_wp2_with (go_at_call 21; refine (HSM.out _).mono ?_; rintro e w6 ⟨rfl, hb⟩; have HS := Box.mk (HS.out.later hb); clear hb)
                    go_meet
                    exact ⟨now, d, fs, L, c, rfl, rfl, by omega, HREL, HS⟩
                · have hge : now ≤ t := by omega
                  have hlt6 : t < 4611686018427387904 := by omega
                  have hfl9 : fs.length ≤ 900000 := by omega
                  clear hgb
                  go_upto_region 29 with fail
                  go_region_held3 (fun w' => w'.cell? ⟨Bd, 0, none⟩ = some (.int .i64 kd) ∧ w'.cell? ⟨Bd, 1, none⟩ = some (.int .i64 x) ∧ w'.cell? ⟨Bd, 2, none⟩ = some (.int .u64 u) ∧ w'.cell? ⟨Bd, 3, none⟩ = some (.int .i64 st) ∧ w'.cell? ⟨q, 1, none⟩ = some (.int .u64 now)) (simp [*])
                    ((go_at_call 13; refine (p2_go w _ p cost now d fs q now L fs _ (by first | exact HS.out | exact HS.out.drew) t hge hlt6 hfl9).mono ?_; rintro e w4 ⟨fo, N, fc, l, Y, rfl, hl, hN, hs, hrow⟩; have hs := pcons hs; have d0 := P2.d0 hs; have d1 := P2.d1 hs; have d2 := P2.d2 hs; have d3 := P2.d3 hs; have r1 := hs.cells.1; have HS := Box.mk hs; have HL := Box.mk hl; have HN := Box.mk hN; have HROW := Box.mk hrow; clear hs hl hN hrow))
                  all_goals
                    go_upto_region 30 with fail
                    go_region_with (go_at_call 20; refine (p2_rgo w _ p cost t _ _ q now L fs _ (by first | exact HS.out | exact HS.out.drew) d HREL.out HDD.out HLEN.out.2 hfl9 hc2.2 t hge hlt6 l HL.out).mono ?_; rintro e w5 ⟨fo2, N2, fc2, L2, rfl, hN2, hrel, hown, hs⟩; have HS := Box.mk hs; have HREL2 := Box.mk hrel; have HOWN := Box.mk (FAt.own2 hN2 hown); have HN2 := Box.mk hN2; clear hs hrel hown hN2)
                  all_goals
                    have HSM := Box.mk (rsame_any2 fo fo2 (fs ++ timeF l) N N2 fc fc2 _ HN.out HN2.out (row_FAt HS.out HROW.out) HOWN.out (by rw [HN.out, List.length_append]; have h1 := late_len HREL.out HL.out; have h2 := HLEN.out.2; simp only [timeF, List.length_map]; omega))
                    go_wp2_with (go_at_call 21; refine HSM.out.mono ?_; rintro e w6 ⟨rfl, hb⟩; have HS := Box.mk (HS.out.later hb); clear hb)
                    go_meet
                    exact ⟨t, _, [], L2, 0, rfl, rfl, by simp, HREL2, ⟨HS.out.sub (fun x hx => by rw [List.mem_singleton] at hx; subst hx; exact List.mem_cons_self ..)⟩⟩

              · have e4 : (kd == 4) = false := beq_eq_false_iff_ne.2 hk4
                obtain ⟨c, hc⟩ : ∃ c, openD cost now d x u = c := ⟨_, rfl⟩
                have HC := Box.mk hc
                clear hc hk0 hk12 hk3 hk4
                go_upto_region 17 with (go_at_call 11; refine (p2_open w _ p cost now d fs q now L fs _ HS.out x u HKW.out hu64 c HC.out).mono ?_; rintro e w4 ⟨rfl, hs⟩; have d0 := P2.d0 hs; have d1 := P2.d1 hs; have d2 := P2.d2 hs; have d3 := P2.d3 hs; have r1 := hs.cells.1; have HS := Box.mk hs; clear hs)
                go_wp2_with (go_at_call 17; refine (p2_ropen w _ p cost now _ fs q now L fs _ HS.out d HREL.out HHD.out ⟨hc2.2, HNOW.out⟩ x u c HC.out).mono ?_; rintro e w5 ⟨rfl, L2, hrel, hs⟩; have HREL2 := Box.mk hrel; have HS := Box.mk hs; clear hs hrel)
                go_meet
                exact ⟨now, _, fs, _, c, rfl, rfl, by omega, HREL2, HS⟩
      case rest =>
        as_aux_lemma =>
        clear HREL HS HFC HHD HLEN HNOW d0 d1 d2 d3 r1
        obtain ⟨now2, dd, fs2, L2, c, rfl, rfl, hfl2, HREL2, HS2⟩ := hcut
        have e1' := P2.d1 HS2.out
        obtain ⟨ta, ok, hhv, hok, hta⟩ := hasV_form dd x
        have HOK := Box.mk hok
        have HTA := Box.mk hta
        have HP := p2_has w _ p cost now2 dd fs2 q now2 L2 fs2 _ HS2.out x HKW.out
        rw [hhv] at HP
        have HP := Box.mk HP
        have HDF := Box.mk HS2.out.facts
        have HTB : Box (ta ≤ 4611686018427387904) := ⟨by
          rw [← HTA.out]
          cases hd : dd x with
          | none => simp
          | some a => have := (HDF.out.2.2.2 x a hd).2.2.2; simp; omega⟩
        have HLEN2 : Box (L2.length = cntD dd ∧ L2.length ≤ 65536) := ⟨by
          have e := HREL2.out.len (fun x a h => ⟨(HDF.out.2.2.2 x a h).1, (HDF.out.2.2.2 x a h).2.1⟩)
          exact ⟨e, by rw [e]; exact cntD_big dd⟩⟩
        have hL6 := HLEN2.out.2
        clear hhv hok hta
        go_upto_region 36 with (go_at_call 16; refine HP.out.mono ?_; rintro e w7 ⟨rfl, hs⟩; have HS3 := Box.mk hs; clear hs)
        clear HS2 HP e1'
        go_upto_block 3 with fail
        go_cut [18, 19, 20] (fun s18 s19 _ wx => ∃ (wa : Nat) (b : Bool), s18 = .int .u64 wa ∧ s19 = .bool b ∧ Box (wa = ta ∧ b = ok) ∧ Box (P2 w wx p cost now2 dd fs2 q now2 L2 fs2 [(Bd, dO kd x u st)]))
        case first =>
          go_wp2
          go_loopw [18, 19, 20] (fun s18 s19 s20 wr => ∃ (j wa : Nat) (b : Bool), j ≤ L2.length ∧ s20 = .int .i64 j ∧ s18 = .int .u64 wa ∧ s19 = .bool b ∧ Box ((wa = 0 ∧ b = false ∧ ∀ i (hi : i < L2.length), i < j → L2[i].id ≠ x) ∨ (b = true ∧ ∃ i, ∃ hi : i < L2.length, L2[i].id = x ∧ L2[i].at' = wa)) ∧ Box (P2 w wr p cost now2 dd fs2 q now2 L2 fs2 [(Bd, dO kd x u st)])) (fun _ _ s20 _ => L2.length - (intOf s20).toNat)
          case atStart => exact ⟨0, 0, false, by omega, rfl, rfl, rfl, ⟨.inl ⟨rfl, rfl, fun i _ h => by omega⟩⟩, HS3⟩
          case round =>
            clear HS3
            obtain ⟨j, wa, b, hj, rfl, rfl, rfl, HX, HS⟩ := hrel
            have e1' := P2.d1 HS.out
            obtain ⟨r1, al, cl, r2, hcl⟩ := HS.out.cells
            by_cases hjl : j < L2.length
            · have hji : (j : Int) < L2.length := by omega
              have hj0 : (0 : Int) ≤ j := by omega
              obtain ⟨g, off, rfl, m0, m1⟩ := hcl j hjl
              have HSQ := Box.mk (fun m => HS.out.later (w' := World.drewN _ m) ⟨rfl, rfl, rfl, Nat.le_refl _, fun _ _ => rfl⟩)
              by_cases hq : L2[j].id = x
              · have HX3 : Box (∃ i, ∃ hi : i < L2.length, L2[i].id = x ∧ L2[i].at' = L2[j].at') := ⟨⟨j, hjl, hq, rfl⟩⟩
                have hqb : (L2[j].id == x) = true := by simp [hq]
                generalize L2[j].at' = y at m1 HX3
                generalize L2[j].id = v at m0 hqb
                clear hcl hq
                go_wp2
                go_quiet (fail)
                go_wp2
                go_roundw
                case rel => exact ⟨j + 1, y, true, by omega, by go_num, rfl, rfl, ⟨.inr ⟨rfl, HX3.out⟩⟩, ⟨HSQ.out _⟩⟩
                case measure => simp [intOf] <;> omega
              · have HX2 : Box ((wa = 0 ∧ b = false ∧ ∀ i (hi : i < L2.length), i < j + 1 → L2[i].id ≠ x) ∨ (b = true ∧ ∃ i, ∃ hi : i < L2.length, L2[i].id = x ∧ L2[i].at' = wa)) := ⟨by
                  rcases HX.out with ⟨h1, h2, h3⟩ | h
                  · refine .inl ⟨h1, h2, fun i hi hij => ?_⟩
                    by_cases e : i = j
                    · subst e; exact hq
                    · exact h3 i hi (by omega)
                  · exact .inr h⟩
                have hqb : (L2[j].id == x) = false := beq_eq_false_iff_ne.2 hq
                generalize L2[j].id = v at m0 hqb
                clear hcl hq m1
                go_wp2
                go_quiet (fail)
                go_wp2
                go_roundw
                case rel => exact ⟨j + 1, wa, b, by omega, by go_num, rfl, rfl, HX2, ⟨HSQ.out _⟩⟩
                case measure => simp [intOf] <;> omega
            · have hji : ¬ (j : Int) < L2.length := by omega
              have HE : Box (wa = ta ∧ b = ok) := ⟨by
                rcases HX.out with ⟨h1, h2, h3⟩ | ⟨h1, i, hi, h2, h3⟩
                · have hn : dd x = none := by cases hd : dd x with
                    | none => rfl
                    | some a =>
                      obtain ⟨i, hi, e⟩ := List.getElem_of_mem ((HREL2.out.mem ⟨x, a⟩).2 hd)
                      exact absurd (by rw [e]) (h3 i hi (by omega))
                  have t1 := HTA.out
                  have t2 := HOK.out
                  rw [hn] at t1 t2
                  exact ⟨by rw [h1, ← t1]; rfl, by rw [h2, ← t2]; rfl⟩
                · have hs := (HREL2.out.mem _).1 (List.getElem_mem hi)
                  rw [h2, h3] at hs
                  have t1 := HTA.out
                  have t2 := HOK.out
                  rw [hs] at t1 t2
                  exact ⟨by rw [← t1]; rfl, by rw [h1, ← t2]; rfl⟩⟩
              clear hcl HX
              go_wp2
              go_meet
              exact ⟨wa, b, rfl, rfl, HE, HS⟩
        case rest =>
          obtain ⟨wa, b, rfl, rfl, HE, HS⟩ := hcut
          obtain ⟨rfl, rfl⟩ := HE.out
          clear HE HS3
          rename World => V8
          have HQ : Box (∀ m, P2 w (World.drewN V8 m) p cost now2 dd fs2 q now2 L2 fs2 [(Bd, dO kd x u st)]) := ⟨fun m => HS.out.later ⟨rfl, rfl, rfl, Nat.le_refl _, fun _ _ => rfl⟩⟩
          have HN2 := fun m => p2_count w _ p cost now2 dd fs2 q now2 L2 fs2 _ (HQ.out m)
          rw [← HLEN2.out.1] at HN2
          have HN2 := Box.mk HN2
          obtain ⟨r1, al, cl, r2, -⟩ := HS.out.cells
          have t1 : (c != c) = false := by simp
          have t2 : ((L2.length : Int) != (L2.length : Int)) = false := by simp
          have t3 : ((wa : Int) != (wa : Int)) = false := by simp
          have t4 : (b != b) = false := by simp
          go_upto_region 44 with fail
          go_quiet ((go_at_call 15; exact Calls.quiet_of_same ((HN2.out _).mono (fun _ _ h => ⟨h.1, h.2.symm⟩))))
          go_wp2
          go_roundw
          case rel => exact ⟨k + 1, now2, dd, fs2, L2, by omega, by omega, by go_num, hfl2, HREL2, ⟨(HQ.out _).sub (fun x hx => by cases hx)⟩⟩
          case measure => simp [intOf] <;> omega
    · have hex : ((k : Int) < n ∧ ¬ (k : Int) < 150) ∨ ¬ (k : Int) < n := by omega
      clear hgo
      rcases hex with ⟨x1, x2⟩ | x1
      all_goals
        go_wp2
        go_ret
        exact ⟨rfl, HS.out.below⟩
theorem walk (x0 : Int) (a1 : Option Addr) (len1 cap1 : Nat) (z1 : Nat → Nat → Int) (w : World) (g0 : (Lit.int .u64 x0).wf = true) (g1 : ArgStructs [.i64, .i64, .u64, .i64] w a1 len1 z1) :
    Calls Try.prog 8 #[.int .u64 x0, .slice a1 len1 cap1] w fun e w' => e = .returned (.bool true) ∧ Below w.heap.size w w' := by
  simp [Lit.wf, IntKind.min, IntKind.max, IntKind.signed, IntKind.bits] at g0
  obtain ⟨a, rfl⟩ : ∃ a : Nat, x0 = a := ⟨x0.toNat, by omega⟩
  exact walkN a a1 len1 cap1 z1 w (by omega) g1

/-! The row's step. -/
theorem own : ownKnob Try.prog.godebug = none := by kernel_rfl
theorem laidOut : laidOutB Try.prog = true := by kernel_rfl

set_option maxRecDepth 100000 in
theorem lifted (os : Os) (started : os.Started) (H : Type) (enc : TypeId × Value → H) :
    ReturnsInHanded {} Try.checked os 8 .any (Rows.lifePlaysSpec.pre6 enc Try.prog Try.f8 Rows.lifePlaysRow.domain false) (Rows.lifePlaysSpec.post enc Try.prog Try.f8 false true false false) := by
  refine returnsInHanded_of_change (C := Try.checked) own started (by kernel_rfl) Try.func8
    (ChangeSpec.witness6 (enc := enc) (C := Try.checked) false ⟨#[], #[.int .u64 0, .slice none 0 0], []⟩ 8 (by kernel_rfl) (by kernel_rfl) (by kernel_rfl) (by kernel_rfl)) ?_
  intro W base args ds gs before hval0 hW hcnd _
  have hval : ∀ (j : Nat) t v, Try.f8.params[j]? = some t → args[j]? = some v → Value.okWide Try.prog W .any base t v := hval0
  have hW' := hW
  obtain ⟨p, q, hA0, hV, rfl, hfz, hnd⟩ := hW
  have hA : DataW.TrodAll enc Try.prog W 0 (fun _ => true) true Try.f8.params.toList args.toList ds p := hA0
  rw [Try.params8] at hA hval
  obtain ⟨v0, vs0, d0, ds0, p0, q0, hargs, rfl, rfl, h0, r0⟩ := trodAll_cons hA
  obtain ⟨v1, vs1, d1, ds1, p1, q1, rfl, rfl, rfl, h1, r1⟩ := trodAll_cons r0
  obtain ⟨rfl, rfl, rfl⟩ := trodAll_nil r1
  obtain rfl : args = #[v0, v1] := by cases args; simp_all
  obtain ⟨rfl, rfl⟩ := trodVars_none hV
  obtain ⟨x0, rfl, rfl, rfl, w0⟩ := open_int Try.underlying28 (hval 0 28 v0 rfl rfl) h0
  obtain ⟨a1, len1, cap1, rfl⟩ := okWide_slice Try.underlying40 (hval 1 40 v1 rfl rfl)
  have k1 := h1
  have lt1 : ∀ x ∈ p1, x.block < W.heap.size := by obtain ⟨m, hm⟩ := k1; exact DataW.trod_lt m _ _ _ hm
  obtain ⟨z1, w1⟩ := open_structs (ks := [.i64, .i64, .u64, .i64]) Try.underlying40 Try.underlying43 (by kernel_rfl) (by kernel_rfl) (by kernel_rfl) (by decide) h1
  clear hA0 hval0
  refine (walk x0 a1 len1 cap1 z1 W w0 w1).mono fun e W' ⟨he, bel⟩ => ?_
  subst he
  exact ⟨_, rfl, _, _, _, [], _, [], hW', trodAll_mk1 (shut_bool Try.underlying4 _), (trodAll_cons_mk (shut_int Try.underlying28 w0) (trodAll_cons_mk (Below.trod laidOut (by kernel_rfl) (of_decide_eq_true (by kernel_rfl)) k1 bel lt1) trodAll_mk0)), rfl, bel.frame _, fun h => by cases h⟩

theorem over : Rows.lifePlaysRow.holds Try.pinned (OpenSpec.ofChange Rows.lifePlaysSpec) :=
  OpenClaim.holds_of_wide 8 Try.f8 rfl rfl rfl rfl rfl rfl rfl ⟨rfl, rfl, rfl, rfl, rfl⟩ rfl rfl rfl rfl rfl (by kernel_rfl) Try.func8 (by kernel_rfl)
    (of_decide_eq_true (by kernel_rfl)) (by unfold Func.isWrapper; first | (rw [if_pos (by decide +kernel)]; kernel_rfl) | (rw [if_neg (by decide +kernel)]; exact ⟨rfl, rfl⟩))
    (fun os started H enc _ => lifted os started H enc)

/-- The statement. -/
theorem proved : Rows.LifePlaysSaid := over
#print axioms proved

end Go.Proofs.Ytbodnmcaipakcaa.lifePlays
