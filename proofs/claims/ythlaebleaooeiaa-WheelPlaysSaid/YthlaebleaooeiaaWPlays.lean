/-
  WheelPlays: whatever is set and cancelled, and however the time goes on, to the horizon and beyond: each answer, and all timers, are what the document says. No condition but the statement's.
-/
import Derived.Test.YthlaebleaooeiaaRwF
import Derived.Test.YthlaebleaooeiaaArgsS
import Derived.Test.YthlaebleaooeiaaRows
import Derived.Deep.RegionHeld3
namespace Go.Proofs.Ythlaebleaooeiaa.wheelPlays
open Go.ChangeShapes Go.WideShapes Go.ChangeAt Go.RowKit Go.Proofs.Ythlaebleaooeiaa

abbrev dO (kd x : Int) (u : Nat) : Obj := .cells #[.int .i64 kd, .int .i64 x, .int .u64 u] 50
section
variable {w0 w : World} {p now : Nat} {g : Nat → Option Nat} {q : Nat} {L : List Tm} {rn Bd : Nat} {kd x : Int} {u : Nat} {X : List (Nat × Obj)}
theorem PS.d0 (h : PS w0 w p now g q L rn ((Bd, dO kd x u) :: X)) : w.cell? ⟨Bd, 0, none⟩ = some (.int .i64 kd) := (cell_blk (h.blk (List.mem_cons_self ..)) 0).trans rfl
theorem PS.d1 (h : PS w0 w p now g q L rn ((Bd, dO kd x u) :: X)) : w.cell? ⟨Bd, 1, none⟩ = some (.int .i64 x) := (cell_blk (h.blk (List.mem_cons_self ..)) 1).trans rfl
theorem PS.d2 (h : PS w0 w p now g q L rn ((Bd, dO kd x u) :: X)) : w.cell? ⟨Bd, 2, none⟩ = some (.int .u64 u) := (cell_blk (h.blk (List.mem_cons_self ..)) 2).trans rfl
end
theorem atTV_form (g : Nat → Option Nat) (x : Int) : ∃ (t : Nat) (c : Int), atTV g x = .tuple #[.int .u64 t, .int .i64 c] := by
  unfold atTV
  cases gI g x <;> exact ⟨_, _, rfl⟩
theorem tup_inj {t t' : Nat} {c c' : Int} (h : Value.tuple #[.int .u64 t, .int .i64 c] = .tuple #[.int .u64 t', .int .i64 c']) : t = t' ∧ c = c' := by
  simp at h
  omega
theorem wrap_nat (k : Int) : ∃ n : Nat, IntKind.u64.wrap k = (n : Int) ∧ n ≤ 18446744073709551615 := by
  have h := wf_wrap .u64 k
  simp [Lit.wf, IntKind.min, IntKind.max, IntKind.signed, IntKind.bits] at h
  exact ⟨(IntKind.u64.wrap k).toNat, by omega, by omega⟩
theorem wrap_le {k : Int} {n : Nat} (h : IntKind.u64.wrap k = (n : Int)) : n ≤ 18446744073709551615 := by
  obtain ⟨m, h1, h2⟩ := wrap_nat k
  rw [h1] at h
  omega
theorem atTV_le {g : Nat → Option Nat} {now : Nat} {x : Int} {t : Nat} {c : Int} (hg : ∀ i a, g i = some a → i < 1000 ∧ now < a ∧ a < 4611686018427387904) (h : atTV g x = .tuple #[.int .u64 t, .int .i64 c]) : t ≤ 18446744073709551615 := by
  unfold atTV gI at h
  split at h
  · rename_i a e
    split at e
    · have := hg _ _ e
      have := tup_inj h
      omega
    · cases e
  · have := tup_inj (t := 0) h
    omega

set_option maxHeartbeats 32000000 in
set_option maxRecDepth 100000 in
theorem walk (a0 : Option Addr) (n cap0 : Nat) (z : Nat → Nat → Int) (w : World) (ha : ArgStructs [.i64, .i64, .u64] w a0 n z) :
    Calls Try.prog 7 #[.slice a0 n cap0] w fun e w' => e = .returned (.bool true) ∧ Below w.heap.size w w' := by
  have hn63 := ha.1
  have HA := Box.mk ha
  clear ha
  go_enter Try.func7, Try.ntmps7
  go_upto_region 3 with (go_at_call 8; refine (awake04_any _).mono ?_; rintro e w1 ⟨rfl, hb1⟩; have HB1 := Box.mk hb1; have HNW := Box.mk (wt_new w1); clear hb1)
  go_upto_region 5 with (go_at_call 9; (with_reducible refine HNW.out.mono ?_); rintro e w2 ⟨p, F, rfl, h1, hF, h2⟩; have HS := Box.mk (PS.new HB1.out h1 hF h2); clear h1 h2 hF)
  clear HNW HB1
  rename World => w2
  generalize w2.alloc (.cells #[.slice none 0 0, .int .u64 0] 48) = w3 at HS ⊢
  generalize w2.heap.size = q at HS ⊢
  have HR0 := Box.mk RelT.start
  go_wp2
  go_loopw [5, 6, 7, 8, 9, 10, 11, 12, 13, 14, 15] (fun s5 _ _ _ _ _ _ _ _ _ _ wr => ∃ (k now : Nat) (g : Nat → Option Nat) (L : List Tm), k ≤ n ∧ k ≤ 120 ∧ s5 = .int .i64 k ∧ Box (RelT g L) ∧ Box (PS w wr p now g q L now [])) (fun s5 _ _ _ _ _ _ _ _ _ _ _ => n - (intOf s5).toNat)
  case atStart => exact ⟨0, 0, _, _, by omega, by omega, rfl, HR0, HS⟩
  case round =>
    clear HS HR0
    obtain ⟨k, now, g, L, hkn, hk120, rfl, HREL, HS⟩ := hrel
    by_cases hgo : k < n ∧ k < 120
    · obtain ⟨hlt, hlt2⟩ := hgo
      obtain ⟨b, off, rfl, hbl, hcell⟩ := HA.out.2.2 (by omega)
      have c0 := (HS.out.below.cell (p := ⟨b, off + (k * 3 + 0), none⟩) hbl).trans (hcell k hlt 0 .i64 rfl)
      have c1 := (HS.out.below.cell (p := ⟨b, off + (k * 3 + 1), none⟩) hbl).trans (hcell k hlt 1 .i64 rfl)
      have c2 := (HS.out.below.cell (p := ⟨b, off + (k * 3 + 2), none⟩) hbl).trans (hcell k hlt 2 .u64 rfl)
      simp only [← Nat.add_assoc, Nat.add_zero] at c0 c1 c2
      have HKW : Box (kwf (z k 1)) := ⟨HA.out.2.1 k hlt 1 .i64 rfl⟩
      have hu := HA.out.2.1 k hlt 2 .u64 rfl
      simp [Lit.wf, IntKind.min, IntKind.max, IntKind.signed, IntKind.bits] at hu
      obtain ⟨u, hun⟩ : ∃ u : Nat, z k 2 = u := ⟨(z k 2).toNat, by omega⟩
      rw [hun] at c2 hu
      have hu64 : u ≤ 18446744073709551615 := by omega
      generalize z k 0 = kd at c0
      generalize z k 1 = x at c1 HKW
      clear hcell hun hu
      have hun : True := trivial
      go_upto_region 9 with fail
      obtain ⟨Bd, hBd⟩ : ∃ Bd, wr.heap.size = Bd := ⟨_, rfl⟩
      have HS2 := HS.out.alloc (dO kd x u) Bd hBd
      generalize hV : wr.alloc (.cells #[.int .i64 kd, .int .i64 x, .int .u64 u] 50) = V at HS2 ⊢
      rw [hBd]
      clear c0 c1 c2 HS hBd hV hbl
      have HS := Box.mk HS2
      clear HS2
      have d0 := PS.d0 HS.out
      have d1 := PS.d1 HS.out
      have d2 := PS.d2 HS.out
      have r1 := HS.out.cells.1
      have HG1 : Box (∀ i a, g i = some a → i < 1000) := ⟨fun i a h => (HS.out.facts.2 i a h).1⟩
      have HNOW : Box (now < 4611686018427387904) := ⟨HS.out.facts.1⟩
      go_upto_block 2 with fail
      go_cut [] (fun wx => ∃ (now2 : Nat) (g2 : Nat → Option Nat) (L2 : List Tm), Box (RelT g2 L2) ∧ Box (PS w wx p now2 g2 q L2 now2 [(Bd, dO kd x u)]))
      case first =>
        by_cases hk0 : kd = 0
        · have e0 : (kd == 0) = true := by simp [hk0]
          clear hk0
          obtain ⟨at0, hat0⟩ : ∃ at0 : Nat, IntKind.u64.wrap ((now : Int) + (u : Int)) = at0 := (wrap_nat _).imp fun _ h => h.1
          obtain ⟨c, hc⟩ : ∃ c, setC now x at0 = c := ⟨_, rfl⟩
          have HC := Box.mk hc
          have hcn : (c != c) = false := by simp
          have hat64 : at0 ≤ 18446744073709551615 := (wrap_le hat0)
          clear hc hun
          go_upto_region 13 with fail
          go_region_held3 (fun w' => w'.cell? ⟨Bd, 0, none⟩ = some (.int .i64 kd) ∧ w'.cell? ⟨Bd, 1, none⟩ = some (.int .i64 x) ∧ w'.cell? ⟨Bd, 2, none⟩ = some (.int .u64 u) ∧ w'.cell? ⟨q, 1, none⟩ = some (.int .u64 now)) (simp [*])
            (first
              | (go_at_call 10; refine (ps_set w _ p now _ q _ now _ (by first | exact HS.out | exact HS.out.drew) x at0 HKW.out (by omega) c HC.out).mono ?_; rintro e w4 ⟨rfl, hs⟩; have d0 := PS.d0 hs; have d1 := PS.d1 hs; have d2 := PS.d2 hs; have r1 := hs.cells.1; have HS := Box.mk hs; clear hs)
              | (go_at_call 16; refine (ps_rset w _ p now _ q _ now _ (by first | exact HS.out | exact HS.out.drew) x at0 g HREL.out HG1.out c HC.out).mono ?_; rintro e w5 ⟨rfl, L2, hrel, hs⟩; have d0 := PS.d0 hs; have d1 := PS.d1 hs; have d2 := PS.d2 hs; have r1 := hs.cells.1; have HREL2 := Box.mk hrel; have HS := Box.mk hs; clear hs hrel))
          all_goals
            go_wp2
            go_meet
            exact ⟨now, _, _, HREL2, HS⟩
        · by_cases hk1 : kd = 1
          · have e0 : (kd == 0) = false := by simp [hk1]
            have e1 : (kd == 1) = true := by simp [hk1]
            clear hk0 hk1
            have hcn : (canC g x != canC g x) = false := by simp
            go_upto_region 16 with fail
            go_region_held3 (fun w' => w'.cell? ⟨Bd, 0, none⟩ = some (.int .i64 kd) ∧ w'.cell? ⟨Bd, 1, none⟩ = some (.int .i64 x) ∧ w'.cell? ⟨Bd, 2, none⟩ = some (.int .u64 u) ∧ w'.cell? ⟨q, 1, none⟩ = some (.int .u64 now)) (simp [*])
              (first
                | (go_at_call 15; refine (ps_cancel w _ p now _ q _ now _ (by first | exact HS.out | exact HS.out.drew) x HKW.out).mono ?_; rintro e w4 ⟨rfl, hs⟩; have d0 := PS.d0 hs; have d1 := PS.d1 hs; have d2 := PS.d2 hs; have r1 := hs.cells.1; have HS := Box.mk hs; clear hs)
                | (go_at_call 17; refine (ps_rcancel w _ p now _ q _ now _ (by first | exact HS.out | exact HS.out.drew) x g HREL.out HG1.out).mono ?_; rintro e w5 ⟨rfl, L2, hrel, hs⟩; have d0 := PS.d0 hs; have d1 := PS.d1 hs; have d2 := PS.d2 hs; have r1 := hs.cells.1; have HREL2 := Box.mk hrel; have HS := Box.mk hs; clear hs hrel))
            all_goals
              go_wp2
              go_meet
              exact ⟨now, _, _, HREL2, HS⟩
          · by_cases hk2 : kd = 2
            · have e0 : (kd == 0) = false := by simp [hk2]
              have e1 : (kd == 1) = false := by simp [hk2]
              have e2 : (kd == 2) = true := by simp [hk2]
              clear hk0 hk1 hk2
              obtain ⟨t, ht64, HT⟩ : ∃ t : Nat, t ≤ 18446744073709551615 ∧ IntKind.u64.wrap ((now : Int) + (u : Int)) = (t : Int) := by obtain ⟨m, h1, h2⟩ := wrap_nat ((now : Int) + (u : Int)); exact ⟨m, h2, h1⟩
              have hsum := HT
              clear HT hun
              have HSQ := Box.mk (fun m => HS.out.later (w' := V.drewN m) ⟨rfl, rfl, rfl, Nat.le_refl _, fun _ _ => rfl⟩)
              go_upto_region 22 with fail
              go_quiet (fail)
              go_upto_region 23 with fail
              have HS := Box.mk (HSQ.out nq)
              generalize V.drewN nq = V2 at HS ⊢
              clear hsum d0 d1 d2 r1 HSQ
              by_cases hbig : 4611686018427387904 ≤ t
              · have HA := Box.mk (wgo_big p t)
                have HB := Box.mk (rwgo_big q t)
                have HRI := Box.mk (fun w => rints_any (fun _ => False) (fun _ => False) none none 0 0 0 [] w ⟨rfl, .inl ⟨rfl, rfl⟩⟩ ⟨rfl, .inl ⟨rfl, rfl⟩⟩ (by omega))
                go_wp2_with (first
                  | (go_at_call 11; refine (HA.out _ ht64 hbig).mono ?_; rintro e w4 ⟨rfl, rfl⟩)
                  | (go_at_call 18; refine (HB.out _ hbig).mono ?_; rintro e w5 ⟨rfl, rfl⟩)
                  | (go_at_call 12; refine (HRI.out _).mono ?_; rintro e w6 ⟨rfl, hb⟩; have HS := Box.mk (HS.out.later hb); clear hb))
                go_meet
                exact ⟨now, g, L, HREL, HS⟩
              · by_cases hpast : t < now
                · have HA := Box.mk (ps_past w _ p now g q L now _ HS.out t hpast)
                  have HB := Box.mk (ps_rpast w _ p now g q L now _ HS.out t hpast HNOW.out)
                  have HRI := Box.mk (fun w => rints_any (fun _ => False) (fun _ => False) none none 0 0 0 [] w ⟨rfl, .inl ⟨rfl, rfl⟩⟩ ⟨rfl, .inl ⟨rfl, rfl⟩⟩ (by omega))
                  go_wp2_with (first
                    | (go_at_call 11; refine HA.out.mono ?_; rintro e w4 ⟨rfl, rfl⟩)
                    | (go_at_call 18; refine HB.out.mono ?_; rintro e w5 ⟨rfl, rfl⟩)
                    | (go_at_call 12; refine (HRI.out _).mono ?_; rintro e w6 ⟨rfl, hb⟩; have HS := Box.mk (HS.out.later hb); clear hb))
                  go_meet
                  exact ⟨now, g, L, HREL, HS⟩
                · have HA := Box.mk (ps_go w _ p now g q L now _ HS.out t (by omega) (by omega))
                  go_upto_region 24 with (go_at_call 11; refine HA.out.mono ?_; rintro e w4 ⟨va, out, vc, rfl, hgo, hs, hrow, hql⟩; have HB := Box.mk (ps_rgo w _ p t _ q _ now _ hs t g HREL.out HG1.out out hgo (by omega) (by omega)); have HROW := Box.mk hrow; have HQL := Box.mk hql; have HOL := Box.mk (got_len hgo HG1.out); clear hgo hs hrow hql)
                  go_upto_region 25 with (go_at_call 18; refine HB.out.mono ?_; rintro e w5 ⟨ao, co, L2, rfl, hrel, hs, hrow, hf⟩; have HREL2 := Box.mk hrel; have HS := Box.mk hs; have HRI := Box.mk (rints_any _ _ _ _ _ _ _ (ints' out) _ (HROW.out.later hf (fun k hk e => by have := (HROW.out.lt hk).1; have := HQL.out; omega)).rowAt hrow.rowAt (by have := HOL.out; omega)); clear hrel hs hrow hf)
                  go_wp2_with (go_at_call 12; refine HRI.out.mono ?_; rintro e w6 ⟨rfl, hb⟩; have HS := Box.mk (HS.out.later hb); clear hb)
                  go_meet
                  exact ⟨t, _, L2, HREL2, HS⟩
            · by_cases hk4 : kd = 4
              · have e0 : (kd == 0) = false := by simp [hk4]
                have e1 : (kd == 1) = false := by simp [hk4]
                have e2 : (kd == 2) = false := by simp [hk4]
                have e4 : (kd == 4) = true := by simp [hk4]
                clear hk0 hk1 hk2 hk4
                clear hun
                go_upto_region 23 with fail
                clear d0 d1 d2 r1
                by_cases hbig : 4611686018427387904 ≤ u
                · have HA := Box.mk (wgo_big p u)
                  have HB := Box.mk (rwgo_big q u)
                  have HRI := Box.mk (fun w => rints_any (fun _ => False) (fun _ => False) none none 0 0 0 [] w ⟨rfl, .inl ⟨rfl, rfl⟩⟩ ⟨rfl, .inl ⟨rfl, rfl⟩⟩ (by omega))
                  go_wp2_with (first
                    | (go_at_call 11; refine (HA.out _ hu64 hbig).mono ?_; rintro e w4 ⟨rfl, rfl⟩)
                    | (go_at_call 18; refine (HB.out _ hbig).mono ?_; rintro e w5 ⟨rfl, rfl⟩)
                    | (go_at_call 12; refine (HRI.out _).mono ?_; rintro e w6 ⟨rfl, hb⟩; have HS := Box.mk (HS.out.later hb); clear hb))
                  go_meet
                  exact ⟨now, g, L, HREL, HS⟩
                · by_cases hpast : u < now
                  · have HA := Box.mk (ps_past w _ p now g q L now _ HS.out u hpast)
                    have HB := Box.mk (ps_rpast w _ p now g q L now _ HS.out u hpast HNOW.out)
                    have HRI := Box.mk (fun w => rints_any (fun _ => False) (fun _ => False) none none 0 0 0 [] w ⟨rfl, .inl ⟨rfl, rfl⟩⟩ ⟨rfl, .inl ⟨rfl, rfl⟩⟩ (by omega))
                    go_wp2_with (first
                      | (go_at_call 11; refine HA.out.mono ?_; rintro e w4 ⟨rfl, rfl⟩)
                      | (go_at_call 18; refine HB.out.mono ?_; rintro e w5 ⟨rfl, rfl⟩)
                      | (go_at_call 12; refine (HRI.out _).mono ?_; rintro e w6 ⟨rfl, hb⟩; have HS := Box.mk (HS.out.later hb); clear hb))
                    go_meet
                    exact ⟨now, g, L, HREL, HS⟩
                  · have HA := Box.mk (ps_go w _ p now g q L now _ HS.out u (by omega) (by omega))
                    go_upto_region 24 with (go_at_call 11; refine HA.out.mono ?_; rintro e w4 ⟨va, out, vc, rfl, hgo, hs, hrow, hql⟩; have HB := Box.mk (ps_rgo w _ p u _ q _ now _ hs u g HREL.out HG1.out out hgo (by omega) (by omega)); have HROW := Box.mk hrow; have HQL := Box.mk hql; have HOL := Box.mk (got_len hgo HG1.out); clear hgo hs hrow hql)
                    go_upto_region 25 with (go_at_call 18; refine HB.out.mono ?_; rintro e w5 ⟨ao, co, L2, rfl, hrel, hs, hrow, hf⟩; have HREL2 := Box.mk hrel; have HS := Box.mk hs; have HRI := Box.mk (rints_any _ _ _ _ _ _ _ (ints' out) _ (HROW.out.later hf (fun k hk e => by have := (HROW.out.lt hk).1; have := HQL.out; omega)).rowAt hrow.rowAt (by have := HOL.out; omega)); clear hrel hs hrow hf)
                    go_wp2_with (go_at_call 12; refine HRI.out.mono ?_; rintro e w6 ⟨rfl, hb⟩; have HS := Box.mk (HS.out.later hb); clear hb)
                    go_meet
                    exact ⟨u, _, L2, HREL2, HS⟩
              · have e0 : (kd == 0) = false := by simp [hk0]
                have e1 : (kd == 1) = false := by simp [hk1]
                have e2 : (kd == 2) = false := by simp [hk2]
                have e4 : (kd == 4) = false := by simp [hk4]
                clear hk0 hk1 hk2 hk4
                obtain ⟨at0, hat0⟩ : ∃ at0 : Nat, (u : Int) = at0 := ⟨u, rfl⟩
                obtain ⟨c, hc⟩ : ∃ c, setC now x at0 = c := ⟨_, rfl⟩
                have HC := Box.mk hc
                have hcn : (c != c) = false := by simp
                have hat64 : at0 ≤ 18446744073709551615 := (by omega)
                clear hc hun
                go_upto_region 10 with fail
                go_region_held3 (fun w' => w'.cell? ⟨Bd, 0, none⟩ = some (.int .i64 kd) ∧ w'.cell? ⟨Bd, 1, none⟩ = some (.int .i64 x) ∧ w'.cell? ⟨Bd, 2, none⟩ = some (.int .u64 u) ∧ w'.cell? ⟨q, 1, none⟩ = some (.int .u64 now)) (simp [*])
                  (first
                    | (go_at_call 10; refine (ps_set w _ p now _ q _ now _ (by first | exact HS.out | exact HS.out.drew) x at0 HKW.out (by omega) c HC.out).mono ?_; rintro e w4 ⟨rfl, hs⟩; have d0 := PS.d0 hs; have d1 := PS.d1 hs; have d2 := PS.d2 hs; have r1 := hs.cells.1; have HS := Box.mk hs; clear hs)
                    | (go_at_call 16; refine (ps_rset w _ p now _ q _ now _ (by first | exact HS.out | exact HS.out.drew) x at0 g HREL.out HG1.out c HC.out).mono ?_; rintro e w5 ⟨rfl, L2, hrel, hs⟩; have d0 := PS.d0 hs; have d1 := PS.d1 hs; have d2 := PS.d2 hs; have r1 := hs.cells.1; have HREL2 := Box.mk hrel; have HS := Box.mk hs; clear hs hrel))
                all_goals
                  go_wp2
                  go_meet
                  exact ⟨now, _, _, HREL2, HS⟩
      case rest =>
        obtain ⟨now2, g2, L2, HREL2, HS2⟩ := hcut
        have e1' := PS.d1 HS2.out
        obtain ⟨ta, ca, hat⟩ := atTV_form g2 x
        have HAT := Box.mk hat
        have HP := ps_at w _ p now2 g2 q L2 now2 _ HS2.out x HKW.out
        rw [hat] at HP
        have HP := Box.mk HP
        have HF2 := Box.mk HS2.out.facts
        have hta : Box (ta ≤ 18446744073709551615) := ⟨atTV_le HF2.out.2 hat⟩
        clear hat d0 d1 d2 r1 HREL HS HG1 HNOW
        go_upto_region 28 with (go_at_call 19; refine HP.out.mono ?_; rintro e w7 ⟨rfl, hs⟩; have HS3 := Box.mk hs; have e1' := PS.d1 hs; clear hs)
        clear HS2
        have HP2 := Box.mk (ps_rat w _ p now2 g2 q L2 now2 _ HS3.out x)
        go_upto_region 29 with (go_at_call 20; refine HP2.out.mono ?_; rintro e w8 ⟨⟨t', c', rfl, hav⟩, hs⟩; obtain ⟨rfl, rfl⟩ := tup_inj (HAT.out.symm.trans (HREL2.out.at hav)); have HS4 := Box.mk hs; clear hs hav)
        clear HS3 HP2 HP HAT e1'
        have HQ : Box (∀ m, PS w (World.drewN _ m) p now2 g2 q L2 now2 [(Bd, dO kd x u)]) := ⟨fun m => HS4.out.later ⟨rfl, rfl, rfl, Nat.le_refl _, fun _ _ => rfl⟩⟩
        have HN1 := Box.mk (fun m => ps_now w _ p now2 g2 q L2 now2 _ (HQ.out m))
        have HN2 := fun m => ps_len w _ p now2 g2 q L2 now2 _ (HQ.out m)
        have hll : cntT g2 = L2.length := (HREL2.out.len (fun i a h => (HF2.out.2 i a h).1)).symm
        rw [hll] at HN2
        have HN2 := Box.mk HN2
        clear hll
        obtain ⟨r1', al, cl, r0'⟩ := HS4.out.cells
        have t1 : ((ta : Int) != (ta : Int)) = false := by simp
        have t2 : (ca != ca) = false := by simp
        have t3 : ((now2 : Int) != (now2 : Int)) = false := by simp
        have t4 : ((L2.length : Int) != (L2.length : Int)) = false := by simp
        go_quiet ((first
          | (go_at_call 14; exact Calls.quiet_of_same ((HN1.out _).mono (fun _ _ h => ⟨h.1, h.2.symm⟩)))
          | (go_at_call 13; exact Calls.quiet_of_same ((HN2.out _).mono (fun _ _ h => ⟨h.1, h.2.symm⟩)))))
        go_wp2
        go_roundw
        case rel => exact ⟨k + 1, now2, g2, L2, by omega, by omega, by go_num, HREL2, ⟨(HQ.out _).sub (fun x hx => by cases hx)⟩⟩
        case measure => simp [intOf] <;> omega
    · by_cases hlt : k < n
      · have hlt2 : ¬ (k : Int) < 120 := by omega
        have hlti : (k : Int) < n := by omega
        go_wp2
        go_ret
        exact ⟨rfl, HS.out.below⟩
      · have hlti : ¬ (k : Int) < n := by omega
        go_wp2
        go_ret
        exact ⟨rfl, HS.out.below⟩


/-! The row's step. -/
theorem own : ownKnob Try.prog.godebug = none := by kernel_rfl
theorem laidOut : laidOutB Try.prog = true := by kernel_rfl

set_option maxRecDepth 100000 in
theorem lifted (os : Os) (started : os.Started) (H : Type) (enc : TypeId × Value → H) :
    ReturnsInHanded {} Try.checked os 7 .any (Rows.wheelPlaysSpec.pre6 enc Try.prog Try.f7 Rows.wheelPlaysRow.domain false) (Rows.wheelPlaysSpec.post enc Try.prog Try.f7 false true false false) := by
  refine returnsInHanded_of_change (C := Try.checked) own started (by kernel_rfl) Try.func7
    (ChangeSpec.witness6 (enc := enc) (C := Try.checked) false ⟨#[], #[.slice none 0 0], []⟩ 8 (by kernel_rfl) (by kernel_rfl) (by kernel_rfl) (by kernel_rfl)) ?_
  intro W base args ds gs before hval0 hW hcnd _
  have hval : ∀ (j : Nat) t v, Try.f7.params[j]? = some t → args[j]? = some v → Value.okWide Try.prog W .any base t v := hval0
  have hW' := hW
  obtain ⟨p, q, hA0, hV, rfl, hfz, hnd⟩ := hW
  have hA : DataW.TrodAll enc Try.prog W 0 (fun _ => true) true Try.f7.params.toList args.toList ds p := hA0
  rw [Try.params7] at hA hval
  obtain ⟨v0, vs0, d0, ds0, p0, q0, hargs, rfl, rfl, h0, r0⟩ := trodAll_cons hA
  obtain ⟨rfl, rfl, rfl⟩ := trodAll_nil r0
  obtain rfl : args = #[v0] := by cases args; simp_all
  obtain ⟨rfl, rfl⟩ := trodVars_none hV
  obtain ⟨a0, len0, cap0, rfl⟩ := okWide_slice Try.underlying44 (hval 0 44 v0 rfl rfl)
  have k0 := h0
  have lt0 : ∀ x ∈ p0, x.block < W.heap.size := by obtain ⟨m, hm⟩ := k0; exact DataW.trod_lt m _ _ _ hm
  obtain ⟨z0, w0⟩ := open_structs (ks := [.i64, .i64, .u64]) Try.underlying44 Try.underlying50 (by kernel_rfl) (by kernel_rfl) (by kernel_rfl) (by decide) h0
  clear hA0 hval0
  refine (walk a0 len0 cap0 z0 W w0).mono fun e W' ⟨he, bel⟩ => ?_
  subst he
  exact ⟨_, rfl, _, _, _, [], _, [], hW', trodAll_mk1 (shut_bool Try.underlying4 _), (trodAll_cons_mk (Below.trod laidOut (by kernel_rfl) (of_decide_eq_true (by kernel_rfl)) k0 bel lt0) trodAll_mk0), rfl, bel.frame _, fun h => by cases h⟩

theorem over : Rows.wheelPlaysRow.holds Try.pinned (OpenSpec.ofChange Rows.wheelPlaysSpec) :=
  OpenClaim.holds_of_wide 7 Try.f7 rfl rfl rfl rfl rfl rfl rfl ⟨rfl, rfl, rfl, rfl, rfl⟩ rfl rfl rfl rfl rfl (by kernel_rfl) Try.func7 (by kernel_rfl)
    (of_decide_eq_true (by kernel_rfl)) (by unfold Func.isWrapper; first | (rw [if_pos (by decide +kernel)]; kernel_rfl) | (rw [if_neg (by decide +kernel)]; exact ⟨rfl, rfl⟩))
    (fun os started H enc _ => lifted os started H enc)

/-- The statement. -/
theorem proved : Rows.WheelPlaysSaid := over
#print axioms proved

end Go.Proofs.Ythlaebleaooeiaa.wheelPlays
