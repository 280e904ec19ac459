/-
  CpuServes: servers run no more in any span than their budgets let, whatever work they have; while nobody has work, and no job is there, nobody runs. No condition but the statement's.
-/
import Derived.Test.YtbedknfapiadbaaCpuU
import Derived.Test.YtbedknfapiadbaaServP
import Derived.Test.YtbedknfapiadbaaRows
import Derived.Deep.DeepCutAuto
import Derived.Deep.CutBlock
import Derived.BigQuiet
import Derived.Deep.RegionHeld3
namespace Go.Proofs.Ytbedknfapiadbaa.cpuServes
open Go.ChangeShapes Go.WideShapes Go.ChangeAt Go.RowKit Go.Proofs.Ytbedknfapiadbaa

set_option maxHeartbeats 1000000 in
theorem refMost_any (s : ServM) (span : Nat) (hs : s.ok = true) (hsp : span ≤ 150) (w : World) :
    Calls Try.prog 15 #[.agg #[.int .i64 s.budget, .int .u64 s.period], .int .u64 span] w fun e w' => e = .returned (.int .u64 (min (up span s.period * s.budget.toNat) span : Nat)) ∧ Below w.heap.size w w' := by
  have hk := ServM.ok_iff.1 hs
  have hm := refSporMay_any s
  rw [show s.may = true from ServM.may_iff.2 (by omega)] at hm
  have HM := Box.mk hm
  have HU := Box.mk (refUp_any span s.period)
  have hup : up span s.period ≤ 151 := by
    have := up_mul (n := span) (b := s.period) (c := 1) (by omega)
    omega
  obtain ⟨bu, pe⟩ := s
  simp only at *
  obtain ⟨b, rfl⟩ : ∃ b : Nat, bu = b := ⟨bu.toNat, by omega⟩
  simp only [Int.toNat_natCast]
  obtain ⟨U, hU⟩ : ∃ U, up span pe = U := ⟨_, rfl⟩
  rw [hU] at hup HU ⊢
  obtain ⟨X, hX⟩ : ∃ X, U * b = X := ⟨_, rfl⟩
  have hXi : (U : Int) * (b : Int) = (X : Int) := by rw [← Int.natCast_mul, hX]
  have hXb : X ≤ 151 * 200 := by rw [← hX]; exact Nat.mul_le_mul hup (by omega)
  rw [hX]
  have hb2 : b ≤ 200 := by omega
  have hp2 : pe ≤ 1073741824 := by omega
  have hXb2 : X ≤ 30200 := hXb
  clear hm hs hU hX hXb hk hup
  go_enter Try.func15, Try.ntmps15
  by_cases hlt : span < X
  · have hc : (span : Int) < X := by omega
    have HMIN : Box (min X span = span) := ⟨by omega⟩
    go_upto_region 3 with (go_at_call 24; refine (HM.out _).mono ?_; rintro e w1 ⟨rfl, hb1⟩)
    have hb' := (hb1.block w.heap.size (by simp)).trans (blk_new w (.cells #[.int .i64 b, .int .u64 pe] 41))
    have y0 := cell_blk hb' 0
    have y1 := cell_blk hb' 1
    simp only [List.getElem?_toArray, List.getElem?_cons_zero, List.getElem?_cons_succ] at y0 y1
    have hmw : IntKind.u64.wrap ((U : Int) * (b : Int)) = (X : Int) := by rw [hXi, IntWalk.u64_in _ (by omega)]
    have hcw : IntKind.u64.wrap (b : Int) = (b : Int) := IntWalk.u64_in _ (by omega)
    go_quiet ((go_at_call 32; exact Calls.quiet_of_same (HU.out _ (by omega) (by omega))))
    go_wp2
    go_ret
    rw [HMIN.out]
    exact ⟨rfl, (((Below.refl w.heap.size w).alloc (Nat.le_refl _) _).trans (hb1.mono (by simp))).trans ((Below.same_drawn _).mono (Nat.le_trans (by simp) hb1.size))⟩
  · have hc : ¬ (span : Int) < X := by omega
    have HMIN : Box (min X span = X) := ⟨by omega⟩
    go_upto_region 3 with (go_at_call 24; refine (HM.out _).mono ?_; rintro e w1 ⟨rfl, hb1⟩)
    have hb' := (hb1.block w.heap.size (by simp)).trans (blk_new w (.cells #[.int .i64 b, .int .u64 pe] 41))
    have y0 := cell_blk hb' 0
    have y1 := cell_blk hb' 1
    simp only [List.getElem?_toArray, List.getElem?_cons_zero, List.getElem?_cons_succ] at y0 y1
    have hmw : IntKind.u64.wrap ((U : Int) * (b : Int)) = (X : Int) := by rw [hXi, IntWalk.u64_in _ (by omega)]
    have hcw : IntKind.u64.wrap (b : Int) = (b : Int) := IntWalk.u64_in _ (by omega)
    go_quiet ((go_at_call 32; exact Calls.quiet_of_same (HU.out _ (by omega) (by omega))))
    go_wp2
    go_ret
    rw [HMIN.out]
    exact ⟨rfl, (((Below.refl w.heap.size w).alloc (Nat.le_refl _) _).trans (hb1.mono (by simp))).trans ((Below.same_drawn _).mono (Nat.le_trans (by simp) hb1.size))⟩
theorem below_drew {n : Nat} {a b : World} : Below n a b.drew ↔ Below n a b := ⟨fun h => ⟨h.os, h.tape, h.output, h.size, h.block⟩, fun h => ⟨h.os, h.tape, h.output, h.size, h.block⟩⟩
theorem tailC {w0 w : World} {c : Nat} {M : CpuM} {p : Nat × Obj} {X : List (Nat × Obj)} (h : CSt w0 w c M (p :: X)) : CSt w0 w c M X := by
  obtain ⟨y, h1, h2, h3, h4, h5⟩ := h
  exact ⟨y, h1, h2, h3, h4, fun q hq => h5 q (List.mem_cons_of_mem _ hq)⟩

/-- What was counted. -/
def HadOk (bg n : Nat) (H : Nat → List Nat) (hd : List Int) : Prop := hd.length = n ∧ ∀ k, k < n → zv hd k = (((H k).filter (fun u => decide (bg ≤ u))).length : Nat)
theorem HadOk.start (bg n : Nat) : HadOk bg n (fun _ => []) (List.replicate n 0) := ⟨by simp, fun k hk => by simp [zv, hk]⟩
theorem HadOk.early {bg n : Nat} {H : Nat → List Nat} {hd : List Int} (h : HadOk bg n H hd) {t : Nat} (i : Nat) (ht : t < bg) : HadOk bg n (upd H i (H i ++ [t])) hd := by
  refine ⟨h.1, fun k hk => ?_⟩
  rw [h.2 k hk]
  by_cases e : k = i
  · subst e; rw [upd_same, List.filter_append, List.filter_cons_of_neg (by simp; omega)]; simp
  · rw [upd_ne _ _ e]
theorem HadOk.count {bg n : Nat} {H : Nat → List Nat} {hd : List Int} (h : HadOk bg n H hd) {t i : Nat} (hi : i < n) (ht : bg ≤ t) {v : Int} (hv : v = zv hd i + 1) : HadOk bg n (upd H i (H i ++ [t])) (hd.set i v) := by
  refine ⟨by rw [List.length_set]; exact h.1, fun k hk => ?_⟩
  have hz : zv (hd.set i v) k = if k = i then v else zv hd k := by
    unfold zv List.getD
    rw [set_get (by rw [h.1]; exact hi)]
    split <;> rfl
  rw [hz]
  by_cases e : k = i
  · subst e
    rw [if_pos rfl, upd_same, List.filter_append, List.filter_cons_of_pos (by simp; omega), hv, h.2 k hk]
    simp
  · rw [if_neg e, upd_ne _ _ e, h.2 k hk]

set_option maxHeartbeats 16000000 in
set_option maxRecDepth 100000 in
theorem walk (a0 : Option Addr) (n cap0 : Nat) (z0 : Nat → Nat → Int) (a1 : Option Addr) (m cap1 : Nat) (z1 : List Int) (x2 : Int) (w : World) (g0 : ArgStructs [.i64, .u64] w a0 n z0) (g1 : ArgInts .u8 w a1 m z1) (g2 : (Lit.int .u8 x2).wf = true) :
    Calls Try.prog 3 #[.slice a0 n cap0, .slice a1 m cap1, .int .u8 x2] w fun e w' => e = .returned (.bool true) ∧ Below w.heap.size w w' := by
  obtain ⟨ls, hn, hL⟩ := loads_of_arg g0
  have hx2 := u8_wf g2
  obtain ⟨fr, rfl⟩ : ∃ f : Nat, x2 = f := ⟨x2.toNat, by omega⟩
  have HL := Box.mk hL
  have HG := Box.mk g1
  have hnn := g0.1
  have hmm := g1.2.1
  have HN := Box.mk hn
  clear g0 g1 g2 hL hn
  go_enter Try.func3, Try.ntmps3
  go_upto_region 3 with (go_at_call 9; refine (awake17_any _).mono ?_; rintro e w1 ⟨rfl, hb1⟩)
  have HB1 := Box.mk hb1
  clear hb1
  have hMAY := Loads_n a0 cap0 n ls HN.out w1 (HL.out.later HB1.out)
  by_cases hok : okLoads ls = true
  · rw [hok] at hMAY
    have HMAY := Box.mk hMAY
    have HOK := Box.mk hok
    clear hMAY hok
    have hn16 : n ≤ 16 := by rw [← HN.out]; exact (okLoads_iff.1 HOK.out).1
    by_cases hm0 : m = 0
    · have hz : ((m : Int) == 0) = true := by simp [hm0]
      clear hm0
      go_wp2_with (go_at_call 10; refine HMAY.out.mono ?_; rintro e w2 ⟨rfl, hb2⟩)
      go_ret
      exact ⟨rfl, HB1.out.trans (hb2.mono HB1.out.size)⟩
    · have hz : ((m : Int) == 0) = false := beq_eq_false_iff_ne.2 (by omega)
      go_upto_region 5 with (go_at_call 10; refine HMAY.out.mono ?_; rintro e w2 ⟨rfl, hb2⟩; have HB2 := Box.mk (HB1.out.trans (hb2.mono HB1.out.size)); clear hb2)
      have HNW := Box.mk (cpuNew_any none 0 0 [] rfl a0 n cap0 ls HN.out w2 ⟨by simp, fun h => absurd h (by simp)⟩ (HL.out.later HB2.out) rfl HOK.out)
      clear hz
      go_upto_region 6 with (go_at_call 11; refine HNW.out.mono ?_; rintro e w4 ⟨c, y, rfl, hns⟩; have HS := Box.mk (CSt.of_new hns HB2.out); clear hns)
      clear HNW HMAY HB2
      obtain ⟨bg, hbg⟩ : ∃ b, fr % 150 = b := ⟨_, rfl⟩
      have hrem0 : (fr : Int) % 150 = (bg : Int) := by omega
      have hbg1 : bg < 150 := by omega
      clear hbg
      have hmk := makeU64s n (by omega)
      go_upto_region 10 with fail
      rw [hrem0]
      have HSA := Box.mk (HS.out.alloc (.cells (rowV .u64 (List.replicate n 0)) 32))
      have HBB : Box (w.heap.size ≤ w4.heap.size) := ⟨HS.out.below.size⟩
      generalize w4.alloc (.cells (rowV .u64 (List.replicate n 0)) 32) = V at HSA ⊢
      generalize w4.heap.size = B at HSA HBB ⊢
      clear HS hmk hrem0
      obtain ⟨b1, off1, rfl, hbw1, hcell1⟩ := HG.out.get (by omega)
      have HC1 := Box.mk hcell1
      clear hcell1
      go_wp2
      go_loopw [11, 12, 13, 14, 15] (fun i _ _ _ _ wr => ∃ (t : Nat) (M : CpuM) (H : Nat → List Nat) (hd : List Int), t ≤ 150 ∧ i = .int .i64 t ∧ M.now = t ∧ SH M ls H ∧ HadOk bg n H hd ∧ CSt w wr c M [(B, .cells (rowV .u64 hd) 32 (0, 0))]) (fun i _ _ _ _ _ => 150 - (intOf i).toNat)
      case atStart => exact ⟨0, newM [] ls, fun _ => [], List.replicate n 0, by omega, rfl, rfl, SH.start HOK.out, HadOk.start _ _, HSA.out⟩
      case round =>
        obtain ⟨t, M, H, hd, ht, rfl, hnow, hsh, hhd, hs⟩ := hrel
        have HSH := Box.mk hsh
        have HHD := Box.mk hhd
        have HNOW := Box.mk hnow
        have HS := Box.mk hs
        clear hsh hhd hnow hs
        by_cases hlt : t < 150
        · have hti : (t : Int) < 150 := by omega
          go_upto_region 14 with fail
          go_wp2
          go_loopw [12, 13] (fun a k wx => ∃ (k' : Nat) (av : Bool) (M' : CpuM), k' ≤ n ∧ k = .int .i64 k' ∧ a = .bool av ∧ M'.now = t ∧ SH M' ls H ∧ (av = false → ∀ (j : Nat) (s : SrvM), j < k' → M'.servers[j]? = some s → s.work = 0) ∧ CSt w wx c M' [(B, .cells (rowV .u64 hd) 32 (0, 0))]) (fun _ k _ => n - (intOf k).toNat)
          case atStart => exact ⟨0, false, M, by omega, rfl, rfl, HNOW.out, HSH.out, fun _ j s hj => by omega, HS.out⟩
          case round =>
            obtain ⟨k, av, M', hk, rfl, rfl, hnow', hsh', hav', hs'⟩ := hrel
            have HNOW' := Box.mk hnow'
            have HSH' := Box.mk hsh'
            have HAV' := Box.mk hav'
            have HS := Box.mk hs'
            clear hnow' hsh' hav' hs'
            by_cases hkn : k < n
            · have hkni : (k : Int) < n := by omega
              obtain ⟨T1, hT1⟩ : ∃ T, t + k = T := ⟨_, rfl⟩
              have hT1i : (t : Int) + (k : Int) = (T1 : Int) := by omega
              obtain ⟨K, hK⟩ : ∃ K, T1 % m = K := ⟨_, rfl⟩
              have hKm : K < m := hK ▸ Nat.mod_lt _ (by omega)
              have hrem1 : (T1 : Int) % (m : Int) = (K : Int) := by rw [← hK]; simp
              have xz := (HS.out.below.cell (p := ⟨b1, off1 + K, none⟩) hbw1).trans (HC1.out K hKm)
              have hx8 := HG.out.u8 K
              obtain ⟨x, hx⟩ : ∃ x : Nat, zv z1 K = x := ⟨(zv z1 K).toNat, by omega⟩
              rw [hx] at xz hx8
              obtain ⟨q, hq⟩ : ∃ q, x % 3 = q := ⟨_, rfl⟩
              have hrem2 : (x : Int) % 3 = (q : Int) := by omega
              have hq3 : q < 3 := by omega
              have HWK := Box.mk (cwake_st w _ c _ _ HS.out k q (fun s hs => (HSH'.out.inv.srv s hs).2.2) (by omega))
              have hTs : T1 ≤ 166 := by omega
              clear hK hx hq hT1
              go_upto_region 18 with (go_at_call 12; (try rw [hrem2]); (with_reducible refine HWK.out.mono ?_); rintro e w5 ⟨rfl, hs⟩; have HS5 := Box.mk hs; clear hs)
              clear hrem1 hrem2 hT1i xz hKm hx8 HWK
              have HSH5 := Box.mk (HSH'.out.wake k q)
              have HNOW5 : Box ((M'.wake k q).now = t) := ⟨(wake_len M' k q).2.2.trans HNOW'.out⟩
              have HW5 : Box (∀ (j : Nat) (s : SrvM), j < k → (M'.wake k q).servers[j]? = some s → av = false → s.work = 0) := ⟨fun j s hj hs hv => by
                obtain ⟨s0, e0, _, e1⟩ := wake_get hs
                rw [if_neg (by omega)] at e1
                rw [e1]
                exact HAV'.out hv j s0 hj e0⟩
              generalize M'.wake k q = M5 at HS5 HSH5 HNOW5 HW5
              cases av with
              | true =>
                go_wp2
                go_roundw
                case rel => exact ⟨k + 1, true, M5, by omega, by go_num, rfl, HNOW5.out, HSH5.out, fun e => absurd e (by simp), HS5.out⟩
                case measure => simp [intOf] <;> omega
              | false =>
                have hwo := cwork_st w _ c _ _ HS5.out k
                obtain ⟨W, hW⟩ : ∃ W, M5.work k = W := ⟨_, rfl⟩
                rw [hW] at hwo
                have HWO := Box.mk hwo
                have HWE := Box.mk hW
                clear hwo hW
                by_cases hW0 : W = 0
                · subst hW0
                  go_wp2_with (go_at_call 13; (with_reducible refine HWO.out.mono ?_); rintro e w6 ⟨rfl, hs⟩; have HS6 := Box.mk hs; clear hs)
                  go_roundw
                  case rel => exact ⟨k + 1, false, M5, by omega, by go_num, rfl, HNOW5.out, HSH5.out, fun _ j s hj hs => by
                    by_cases e : j = k
                    · subst e
                      have := HWE.out
                      unfold CpuM.work at this
                      rw [if_pos (by omega)] at this
                      simp only [Int.toNat_natCast, hs] at this
                      exact this
                    · exact HW5.out j s (by omega) hs (by first | rfl | trivial), HS6.out⟩
                  case measure => simp [intOf] <;> omega
                · have hWp : (0 : Int) < W := by omega
                  go_wp2_with (go_at_call 13; (with_reducible refine HWO.out.mono ?_); rintro e w6 ⟨rfl, hs⟩; have HS6 := Box.mk hs; clear hs)
                  go_roundw
                  case rel => exact ⟨k + 1, true, M5, by omega, by go_num, by simp; omega, HNOW5.out, HSH5.out, fun e => absurd e (by simp), HS6.out⟩
                  case measure => simp [intOf] <;> omega
            · obtain rfl : n = k := by omega
              have HTK := Box.mk (ctick_st w _ c _ _ HS.out (HSH'.out.inv.ok (by rw [HNOW'.out]; omega)))
              go_upto_region 19 with fail
              go_cut [14, 15] (fun s14 s15 wx => ∃ (B7 : Nat) (who : Int) (a1 : Option Addr) (c1 : Nat) (a2 : Option Addr) (c2 : Nat) (a3 : Option Addr) (c3 : Nat) (M2 : CpuM), s14 = .pointer (some ⟨B7, 0, none⟩) ∧ s15 = .int .i64 0 ∧ M2.now = t + 1 ∧
                Box ((who = -1 ∧ SH M2 ls H) ∨ (∃ i : Nat, who = 100 + i ∧ i < n ∧ av = true ∧ SH M2 ls (upd H i (H i ++ [t])))) ∧
                CSt w wx c M2 ((B7, .cells #[.int .i64 who, .slice a1 0 c1, .slice a2 0 c2, .slice a3 0 c3] 36 (0, 0)) :: [(B, .cells (rowV .u64 hd) 32 (0, 0))]))
              case first =>
                go_wp2_with (go_at_call 14; (with_reducible refine HTK.out.mono ?_); rintro e w6 ⟨M1, who, nd, nc, a1, c1, a2, c2, a3, c3, hran, rfl, hs⟩; obtain ⟨rfl, rfl, ht0, htk⟩ := HSH'.out.tick hran; have hn2 : (lateIds (M'.now + 1) M1.tasks M1.tasks.length).length = 0 := (by rw [ht0]; rfl); rw [hn2]; have HTT := Box.mk htk; have HM1 := Box.mk hran.now; have HS := Box.mk hs; clear hs hran hn2 htk ht0)
                go_meet
                refine ⟨_, who, a1, c1, a2, c2, a3, c3, _, rfl, rfl, ?_, ⟨?_⟩, HS.out.alloc _⟩
                · show M'.now + 1 = t + 1
                  rw [HNOW'.out]
                · rcases HTT.out with ⟨e1, e2, _⟩ | ⟨i, e1, e2, e3, ⟨s, e4, e5⟩, _⟩
                  · exact .inl ⟨e1, e2⟩
                  · rw [HN.out] at e2
                    refine .inr ⟨i, e1, e2, ?_, by rw [HNOW'.out] at e3 ⊢; exact e3⟩
                    cases hv : av with
                    | true => rfl
                    | false => exact absurd (HAV'.out hv i s e2 e4) (by omega)
              case rest =>
                obtain ⟨B7, who, a1, c1, a2, c2, a3, c3, M2, rfl, rfl, hnow2, HC, hs⟩ := hcut
                have HS := Box.mk hs
                have HNOW2 := Box.mk hnow2
                clear hs hnow2 HTK
                have x0 := cell_blk (HS.out.blk (List.mem_cons_self ..)) 0
                have x1 := cell_blk (HS.out.blk (List.mem_cons_self ..)) 1
                have x2 := cell_blk (HS.out.blk (List.mem_cons_self ..)) 2
                have x3 := cell_blk (HS.out.blk (List.mem_cons_self ..)) 3
                simp only [List.getElem?_toArray, List.getElem?_cons_zero, List.getElem?_cons_succ] at x0 x1 x2 x3
                rcases HC.out with ⟨rfl, hsh2⟩ | ⟨i, rfl, hin, rfl, hsh2⟩
                · have HSH2 := Box.mk hsh2
                  clear hsh2 HC
                  cases av with
                  | true =>
                    go_wp2
                    go_roundw
                    case rel => exact ⟨t + 1, M2, H, hd, by omega, by go_num, HNOW2.out, HSH2.out, HHD.out, tailC HS.out⟩
                    case measure => simp [intOf] <;> omega
                  | false =>
                    go_wp2
                    go_roundw
                    case rel => exact ⟨t + 1, M2, H, hd, by omega, by go_num, HNOW2.out, HSH2.out, HHD.out, tailC HS.out⟩
                    case measure => simp [intOf] <;> omega
                · have HSH2 := Box.mk hsh2
                  clear hsh2 HC
                  have hge : (100 : Int) ≤ 100 + (i : Int) := by omega
                  by_cases hbt : bg ≤ t
                  · have hbti : (bg : Int) ≤ t := by omega
                    have hhl : i < hd.length := by rw [HHD.out.1]; exact hin
                    have yb : _root_.Go.World.cell? _ ⟨B, i, none⟩ = _ := cell_blk (HS.out.blk (List.mem_cons_of_mem _ (List.mem_cons_self ..))) i
                    rw [rowV_get hhl] at yb
                    have yf : _root_.Go.World.frozen? _ ⟨B, i, none⟩ = _ := free_blk (HS.out.blk (List.mem_cons_of_mem _ (List.mem_cons_self ..))) i
                    have hzb : 0 ≤ zv hd i ∧ zv hd i ≤ 150 := by
                      rw [HHD.out.2 i hin]
                      obtain ⟨s0, hs0⟩ : ∃ s, M.servers[i]? = some s := ⟨M.servers[i]'(by rw [HSH.out.len, HN.out]; exact hin), by simp [HSH.out.len, HN.out, hin]⟩
                      have hho := (HSH.out.srv i s0 hs0).2
                      have := sorted_len ((H i).filter (fun u => decide (bg ≤ u))) 0 M.now (hho.sorted.sublist List.filter_sublist) (fun u hu => ⟨Nat.zero_le _, hho.lt u (List.mem_filter.1 hu).1⟩)
                      have hn := HNOW.out
                      omega
                    have HHD2 := Box.mk (HHD.out.count (t := t) hin hbt rfl)
                    generalize zv hd i = Z at yb hzb HHD2
                    have hsub : (100 : Int) + (i : Int) - 100 = (i : Int) := by omega
                    have hini : (i : Int) < n := by omega
                    go_upto_region 23 with fail
                    go_wp2
                    go_roundw
                    case rel =>
                      have e1 := (tailC HS.out).set HBB.out (by simp) i (.int .u64 (Z + 1))
                      rw [rowV_set] at e1
                      exact ⟨t + 1, M2, _, _, by omega, by go_num, HNOW2.out, HSH2.out, HHD2.out, e1⟩
                    case measure => simp [intOf] <;> omega
                  · have hbti : ¬ (bg : Int) ≤ t := by omega
                    have HHD2 := Box.mk (HHD.out.early (t := t) i (by omega))
                    go_wp2
                    go_roundw
                    case rel => exact ⟨t + 1, M2, _, _, by omega, by go_num, HNOW2.out, HSH2.out, HHD2.out, tailC HS.out⟩
                    case measure => simp [intOf] <;> omega
        · have HT150 : Box (t = 150) := ⟨by omega⟩
          have hti : ¬ (t : Int) < 150 := by omega
          have hcnt : Box (∀ k, k < n → zv hd k ≤ (min (up (150 - bg) (sv ls k).period * (sv ls k).budget.toNat) (150 - bg) : Nat) ∧ 0 ≤ zv hd k) := ⟨fun k hk => by
            rw [HHD.out.2 k hk]
            obtain ⟨s0, hs0⟩ : ∃ s, M.servers[k]? = some s := ⟨M.servers[k]'(by rw [HSH.out.len, HN.out]; exact hk), by simp [HSH.out.len, HN.out, hk]⟩
            obtain ⟨hls, hho⟩ := HSH.out.srv k s0 hs0
            have hso := (HSH.out.inv.srv s0 (mem_get hs0)).1.s
            have hm := hho.most hso bg (by rw [HNOW.out, HT150.out]; omega)
            have hsv : sv ls k = s0.bud.s := by simp [sv, List.getD, hls]
            rw [hsv]
            rw [HNOW.out, HT150.out] at hm
            omega⟩
          have hbs : (150 : Int) - (bg : Int) = ((150 - bg : Nat) : Int) := by omega
          obtain ⟨sp, hsp⟩ : ∃ sp, 150 - bg = sp := ⟨_, rfl⟩
          rw [hsp] at hbs hcnt
          have hsp1 : sp ≤ 150 := by omega
          clear hsp
          go_upto_region 24 with fail
          go_wp2
          go_loopw [16] (fun k wx => ∃ k' : Nat, k' ≤ n ∧ k = .int .i64 k' ∧ CSt w wx c M [(B, .cells (rowV .u64 hd) 32 (0, 0))]) (fun k _ => n - (intOf k).toNat)
          case atStart => exact ⟨0, by omega, rfl, HS.out⟩
          case round =>
            obtain ⟨k, hk, rfl, hs⟩ := hrel
            have HS := Box.mk hs
            clear hs
            by_cases hkn : k < n
            · have hkni : (k : Int) < n := by omega
              obtain ⟨b0, off0, rfl, hbl0, hc0⟩ := HL.out.2 (by rw [HN.out]; omega)
              obtain ⟨d0, d1⟩ := hc0 k (by rw [HN.out]; exact hkn)
              have d0 := (HS.out.below.cell (p := ⟨b0, off0 + k * 2, none⟩) hbl0).trans d0
              have d1 := (HS.out.below.cell (p := ⟨b0, off0 + k * 2 + 1, none⟩) hbl0).trans d1
              clear hc0
              have hhl : k < hd.length := by rw [HHD.out.1]; exact hkn
              have yb : _root_.Go.World.cell? _ ⟨B, k, none⟩ = _ := cell_blk (HS.out.blk (List.mem_cons_self ..)) k
              rw [rowV_get hhl] at yb
              obtain ⟨hc1, hc2⟩ := hcnt.out k hkn
              have HMO := Box.mk (refMost_any (sv ls k) sp (serv_get HOK.out (by rw [HN.out]; exact hkn)) hsp1)
              generalize (min (up sp (sv ls k).period * (sv ls k).budget.toNat) sp : Nat) = Q at hc1 HMO
              generalize sv ls k = sk at d0 d1 HMO
              obtain ⟨bu, pe⟩ := sk
              simp only at d0 d1 HMO
              generalize zv hd k = Z at yb hc1 hc2
              have hle : ¬ (Q : Int) < Z := by omega
              have hw1 : IntKind.i64.wrap (sp : Int) = (sp : Int) := IntWalk.i64_in _ (by omega)
              have hw2 : IntKind.u64.wrap (sp : Int) = (sp : Int) := IntWalk.u64_in _ (by omega)
              have hBl := lt_blk (HS.out.blk (List.mem_cons_self ..))
              have hb0l : b0 < wr.heap.size := Nat.lt_of_lt_of_le hbl0 HS.out.below.size
              simp only at hBl
              clear hc1 hc2
              have hbr := Below.refl wr.heap.size wr
              go_upto_region 27 with fail
              go_region_held3 (fun w' => w'.cell? ⟨B, k, none⟩ = some (.int .u64 Z) ∧ w'.cell? ⟨b0, off0 + k * 2, none⟩ = some (.int .i64 bu) ∧ w'.cell? ⟨b0, off0 + k * 2 + 1, none⟩ = some (.int .u64 pe) ∧ Below wr.heap.size wr w') (simp [*, below_drew])
                (first | (go_at_call 15; refine (HMO.out _).mono ?_; rintro e w6 ⟨rfl, hb6⟩; have hb7 : Below wr.heap.size wr w6 := (Below.trans (by first | assumption | exact hbr.drew) (hb6.mono (by first | exact Nat.le_refl _ | (refine Below.size (a := wr) ?_; assumption)))); have e1 := (hb7.cell (p := ⟨B, k, none⟩) hBl).trans yb; have e2 := (hb7.cell (p := ⟨b0, off0 + k * 2, none⟩) hb0l).trans d0; have e3 := (hb7.cell (p := ⟨b0, off0 + k * 2 + 1, none⟩) hb0l).trans d1))
              go_wp2
              go_roundw
              case rel => exact ⟨k + 1, by omega, by go_num, HS.out.later (by assumption)⟩
              case measure => simp [intOf] <;> omega
            · obtain rfl : n = k := by omega
              go_wp2
              go_ret
              exact ⟨rfl, HS.out.below⟩
  · have hok : okLoads ls = false := by simpa using hok
    rw [hok] at hMAY
    have HMAY := Box.mk hMAY
    clear hMAY
    go_wp2_with (go_at_call 10; refine HMAY.out.mono ?_; rintro e w2 ⟨rfl, hb2⟩)
    go_ret
    exact ⟨rfl, HB1.out.trans (hb2.mono HB1.out.size)⟩

/-! The row's step. -/
theorem own : ownKnob Try.prog.godebug = none := by kernel_rfl
theorem laidOut : laidOutB Try.prog = true := by kernel_rfl

set_option maxRecDepth 100000 in
theorem lifted (os : Os) (started : os.Started) (H : Type) (enc : TypeId × Value → H) :
    ReturnsInHanded {} Try.checked os 3 .any (Rows.cpuServesSpec.pre6 enc Try.prog Try.f3 Rows.cpuServesRow.domain false) (Rows.cpuServesSpec.post enc Try.prog Try.f3 false true false false) := by
  refine returnsInHanded_of_change (C := Try.checked) own started (by kernel_rfl) Try.func3
    (ChangeSpec.witness6 (enc := enc) (C := Try.checked) false ⟨#[], #[.slice none 0 0, .slice none 0 0, .int .u8 0], []⟩ 8 (by kernel_rfl) (by kernel_rfl) (by kernel_rfl) (by kernel_rfl)) ?_
  intro W base args ds gs before hval0 hW hcnd _
  have hval : ∀ (j : Nat) t v, Try.f3.params[j]? = some t → args[j]? = some v → Value.okWide Try.prog W .any base t v := hval0
  have hW' := hW
  obtain ⟨p, q, hA0, hV, rfl, hfz, hnd⟩ := hW
  have hA : DataW.TrodAll enc Try.prog W 0 (fun _ => true) true Try.f3.params.toList args.toList ds p := hA0
  rw [Try.params3] at hA hval
  obtain ⟨v0, vs0, d0, ds0, p0, q0, hargs, rfl, rfl, h0, r0⟩ := trodAll_cons hA
  obtain ⟨v1, vs1, d1, ds1, p1, q1, rfl, rfl, rfl, h1, r1⟩ := trodAll_cons r0
  obtain ⟨v2, vs2, d2, ds2, p2, q2, rfl, rfl, rfl, h2, r2⟩ := trodAll_cons r1
  obtain ⟨rfl, rfl, rfl⟩ := trodAll_nil r2
  obtain rfl : args = #[v0, v1, v2] := by cases args; simp_all
  obtain ⟨rfl, rfl⟩ := trodVars_none hV
  obtain ⟨a0, len0, cap0, rfl⟩ := okWide_slice Try.underlying22 (hval 0 22 v0 rfl rfl)
  have k0 := h0
  have lt0 : ∀ x ∈ p0, x.block < W.heap.size := by obtain ⟨m, hm⟩ := k0; exact DataW.trod_lt m _ _ _ hm
  obtain ⟨z0, w0⟩ := open_structs (ks := [.i64, .u64]) Try.underlying22 Try.underlying41 (by kernel_rfl) (by kernel_rfl) (by kernel_rfl) (by decide) h0
  obtain ⟨a1, len1, cap1, rfl⟩ := okWide_slice Try.underlying23 (hval 1 23 v1 rfl rfl)
  have k1 := h1
  have lt1 : ∀ x ∈ p1, x.block < W.heap.size := by obtain ⟨m, hm⟩ := k1; exact DataW.trod_lt m _ _ _ hm
  obtain ⟨z1, w1⟩ : ∃ zs, ArgInts .u8 W a1 len1 zs := by
    obtain ⟨fuel, hf⟩ := h1
    rcases open_ints Try.underlying23 Try.underlying5 (by kernel_rfl) hf with ⟨hcs, _⟩ | ⟨x, l, c, zs, hcs, _, hl, hm, hz, _, hcell, hwz⟩
    · simp [Value.cells] at hcs
      obtain ⟨rfl, rfl, rfl⟩ := hcs
      exact ⟨[], rfl, by omega, by simp, fun h => by omega⟩
    · simp [Value.cells] at hcs
      obtain ⟨rfl, rfl, rfl⟩ := hcs
      exact ⟨zs.take len1, argInts_of_ints hl hm (by simpa using hz) hcell hwz⟩
  obtain ⟨x2, rfl, rfl, rfl, w2⟩ := open_int Try.underlying5 (hval 2 5 v2 rfl rfl) h2
  clear hA0 hval0
  refine (walk a0 len0 cap0 z0 a1 len1 cap1 z1 x2 W w0 w1 w2).mono fun e W' ⟨he, bel⟩ => ?_
  subst he
  exact ⟨_, rfl, _, _, _, [], _, [], hW', trodAll_mk1 (shut_bool Try.underlying4 _), (trodAll_cons_mk (Below.trod laidOut (by kernel_rfl) (of_decide_eq_true (by kernel_rfl)) k0 bel lt0) (trodAll_cons_mk (Below.trod laidOut (by kernel_rfl) (of_decide_eq_true (by kernel_rfl)) k1 bel lt1) (trodAll_cons_mk (shut_int Try.underlying5 w2) trodAll_mk0))), rfl, bel.frame _, fun h => by cases h⟩

theorem over : Rows.cpuServesRow.holds Try.pinned (OpenSpec.ofChange Rows.cpuServesSpec) :=
  OpenClaim.holds_of_wide 3 Try.f3 rfl rfl rfl rfl rfl rfl rfl ⟨rfl, rfl, rfl, rfl, rfl⟩ rfl rfl rfl rfl rfl (by kernel_rfl) Try.func3 (by kernel_rfl)
    (of_decide_eq_true (by kernel_rfl)) (by unfold Func.isWrapper; first | (rw [if_pos (by decide +kernel)]; kernel_rfl) | (rw [if_neg (by decide +kernel)]; exact ⟨rfl, rfl⟩))
    (fun os started H enc _ => lifted os started H enc)

/-- The statement. -/
theorem proved : Rows.CpuServesSaid := over
#print axioms proved

end Go.Proofs.Ytbedknfapiadbaa.cpuServes
