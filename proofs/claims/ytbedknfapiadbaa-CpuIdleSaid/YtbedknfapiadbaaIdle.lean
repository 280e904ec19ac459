/-
  CpuIdle: work that is given to servers is done at last, each tick of it by its own server, once no more is given. No condition but the statement's.
-/
import Derived.Test.YtbedknfapiadbaaCpuU
import Derived.Test.YtbedknfapiadbaaIdleP
import Derived.Test.YtbedknfapiadbaaRows
import Derived.Deep.DeepCutAuto
import Derived.Deep.CutBlock
import Derived.BigQuiet
namespace Go.Proofs.Ytbedknfapiadbaa.cpuIdle
open Go.ChangeShapes Go.WideShapes Go.ChangeAt Go.RowKit Go.Proofs.Ytbedknfapiadbaa

theorem tailC {w0 w : World} {c : Nat} {M : CpuM} {p : Nat × Obj} {X : List (Nat × Obj)} (h : CSt w0 w c M (p :: X)) : CSt w0 w c M X := by
  obtain ⟨y, h1, h2, h3, h4, h5⟩ := h
  exact ⟨y, h1, h2, h3, h4, fun q hq => h5 q (List.mem_cons_of_mem _ hq)⟩

set_option maxHeartbeats 16000000 in
set_option maxRecDepth 100000 in
theorem walk (a0 : Option Addr) (n cap0 : Nat) (z0 : Nat → Nat → Int) (a1 : Option Addr) (m cap1 : Nat) (z1 : List Int) (w : World) (g0 : ArgStructs [.i64, .u64] w a0 n z0) (g1 : ArgInts .u8 w a1 m z1) :
    Calls Try.prog 4 #[.slice a0 n cap0, .slice a1 m cap1] w fun e w' => e = .returned (.bool true) ∧ Below w.heap.size w w' := by
  obtain ⟨ls, hn, hL⟩ := loads_of_arg g0
  have HL := Box.mk hL
  have HG := Box.mk g1
  have hnn := g0.1
  have hmm := g1.2.1
  have HN := Box.mk hn
  clear g0 g1 hL hn
  go_enter Try.func4, Try.ntmps4
  go_upto_region 3 with (go_at_call 9; refine (awake17_any _).mono ?_; rintro e w1 ⟨rfl, hb1⟩)
  have HB1 := Box.mk hb1
  clear hb1
  have hMAY := may17_all none 0 0 [] rfl a0 n cap0 ls HN.out w1 ⟨by simp, fun h => absurd h (by simp)⟩ (HL.out.later HB1.out)
  rw [show okTasks [] = true from rfl, Bool.true_and] at hMAY
  by_cases hok : okLoads ls = true
  · rw [hok] at hMAY
    have HMAY := Box.mk hMAY
    have HOK := Box.mk hok
    clear hMAY hok
    by_cases hn0 : n = 0
    · have hz : ((n : Int) == 0) = true := by simp [hn0]
      clear hn0
      go_wp2_with (go_at_call 16; refine HMAY.out.mono ?_; rintro e w2 ⟨rfl, hb2⟩)
      go_ret
      exact ⟨rfl, HB1.out.trans (hb2.mono HB1.out.size)⟩
    · have hz : ((n : Int) == 0) = false := beq_eq_false_iff_ne.2 (by omega)
      by_cases hn3 : n ≤ 3
      · have hn3i : ¬ (3 : Int) < n := by omega
        go_upto_region 5 with (go_at_call 16; refine HMAY.out.mono ?_; rintro e w2 ⟨rfl, hb2⟩; have HB2 := Box.mk (HB1.out.trans (hb2.mono HB1.out.size)); clear hb2)
        have HNW := Box.mk (cpuNew_any none 0 0 [] rfl a0 n cap0 ls HN.out w2 ⟨by simp, fun h => absurd h (by simp)⟩ (HL.out.later HB2.out) rfl HOK.out)
        clear hz hn3i
        go_upto_region 6 with (go_at_call 11; refine HNW.out.mono ?_; rintro e w4 ⟨c, y, rfl, hns⟩; have HS := Box.mk (CSt.of_new hns HB2.out); clear hns)
        clear HNW HMAY HB2
        have hmk := makeInts n (by omega)
        go_upto_region 9 with fail
        have HSA := Box.mk (HS.out.alloc (.cells (rowV .i64 (List.replicate n 0)) 3))
        have HBB : Box (w.heap.size ≤ w4.heap.size) := ⟨HS.out.below.size⟩
        generalize w4.alloc (.cells (rowV .i64 (List.replicate n 0)) 3) = V at HSA ⊢
        generalize w4.heap.size = B at HSA HBB ⊢
        obtain ⟨b0, off0, rfl, hbl0, hc0⟩ := HL.out.2 (by rw [HN.out]; omega)
        have HC0 := Box.mk hc0
        clear HS hmk hc0
        go_wp2
        go_loopw [8] (fun k wx => ∃ (k' : Nat) (M : CpuM) (wt : List Int), k' ≤ n ∧ k = .int .i64 k' ∧ IStart ls M wt k' ∧ CSt w wx c M [(B, .cells (rowV .i64 wt) 3 (0, 0))]) (fun k _ => n - (intOf k).toNat)
        case atStart => exact ⟨0, newM [] ls, List.replicate n 0, by omega, rfl, by rw [← HN.out]; exact IStart.start HOK.out, HSA.out⟩
        case round =>
          obtain ⟨k, M, wt, hk, rfl, hi, hs⟩ := hrel
          have HI := Box.mk hi
          have HS := Box.mk hs
          clear hi hs
          by_cases hkn : k < n
          · have hkni : (k : Int) < n := by omega
            have d1 := (HS.out.below.cell (p := ⟨b0, off0 + k * 2 + 1, none⟩) hbl0).trans (HC0.out k (by rw [HN.out]; exact hkn)).2
            have hwl : k < wt.length := by rw [HI.out.wl, HN.out]; exact hkn
            by_cases hp : (sv ls k).period ≤ 60
            · have HPE := Box.mk hp
              have hpi : ¬ (60 : Int) < (sv ls k).period := by omega
              generalize (sv ls k).period = pe at d1 hpi
              clear hp
              by_cases hkm : k < m
              · have hkmi : (k : Int) < m := by omega
                obtain ⟨b1, off1, rfl, hbw1, hcell1⟩ := HG.out.get (by omega)
                have xz := (HS.out.below.cell (p := ⟨b1, off1 + k, none⟩) hbw1).trans (hcell1 k hkm)
                have hx8 := HG.out.u8 k
                obtain ⟨x, hx⟩ : ∃ x : Nat, zv z1 k = x := ⟨(zv z1 k).toNat, by omega⟩
                rw [hx] at xz hx8
                obtain ⟨q, hq⟩ : ∃ q, x % 40 = q := ⟨_, rfl⟩
                have hrem : (x : Int) % 40 = (q : Int) := by omega
                have hq39 : q ≤ 39 := by omega
                clear hx hq hcell1
                have yb : _root_.Go.World.cell? _ ⟨B, k, none⟩ = _ := cell_blk (HS.out.blk (List.mem_cons_self ..)) k
                rw [rowV_get hwl] at yb
                have yf : _root_.Go.World.frozen? _ ⟨B, k, none⟩ = _ := free_blk (HS.out.blk (List.mem_cons_self ..)) k
                generalize zv wt k = Z at yb
                go_upto_region 16 with fail
                rw [hrem]
                have e1 := HS.out.set HBB.out (by simp) k (.int .i64 q)
                rw [rowV_set] at e1
                have HS2 := Box.mk e1
                clear e1 yb yf hrem xz hx8
                generalize World.setCell _ ⟨B, k, none⟩ (.int .i64 (q : Int)) = V2 at HS2 ⊢
                have yb : _root_.Go.World.cell? V2 ⟨B, k, none⟩ = _ := cell_blk (HS2.out.blk (List.mem_cons_self ..)) k
                rw [rowV_get (by rw [List.length_set]; exact hwl), zv_set hwl, if_pos rfl] at yb
                have HWK := Box.mk (cwake_st w _ c _ _ HS2.out k q (fun s hs => (HI.out.sh.inv.srv s hs).2.2) (by omega))
                have HI2 := Box.mk (HI.out.give (by rw [HN.out]; exact hkn) HPE.out hq39)
                go_wp2_with (go_at_call 12; (with_reducible refine HWK.out.mono ?_); rintro e w5 ⟨rfl, hs⟩; have HS5 := Box.mk hs; clear hs)
                go_roundw
                case rel => exact ⟨k + 1, _, _, by omega, by go_num, HI2.out, HS5.out⟩
                case measure => simp [intOf] <;> omega
              · have hkmi : ¬ (k : Int) < m := by omega
                go_wp2
                go_roundw
                case rel => exact ⟨k + 1, M, wt, by omega, by go_num, HI.out.skip HPE.out, HS.out⟩
                case measure => simp [intOf] <;> omega
            · have hpi : (60 : Int) < (sv ls k).period := by omega
              generalize (sv ls k).period = pe at d1 hpi
              clear hp
              go_wp2
              go_ret
              exact ⟨rfl, HS.out.below⟩
          · obtain rfl : n = k := by omega
            obtain ⟨hst, hw117⟩ := IInv.start (by rw [HN.out]; exact HI.out) (by rw [HN.out]; exact hn3)
            have HST := Box.mk hst
            clear hst
            generalize totW M = W0 at HST hw117
            go_wp2
            go_loopw [9, 10, 11] (fun k _ _ wx => ∃ (t : Nat) (M : CpuM) (H : Nat → List Nat) (wt : List Int) (R L : Nat), t ≤ 7400 ∧ k = .int .i64 t ∧ M.now = t ∧ IInv ls M H wt W0 R L ∧ CSt w wx c M [(B, .cells (rowV .i64 wt) 3 (0, 0))]) (fun k _ _ _ => 7400 - (intOf k).toNat)
            case atStart => exact ⟨0, M, _, wt, 0, 0, by omega, rfl, HI.out.now, HST.out, HS.out⟩
            case round =>
              clear HI HS HST HSA
              obtain ⟨t, M, H, wt, R, L, ht, rfl, hnow, hii, hs⟩ := hrel
              have HII := Box.mk hii
              have HNOW := Box.mk hnow
              have HS := Box.mk hs
              clear hii hnow hs
              by_cases hlt : t < 7400
              · have hti : (t : Int) < 7400 := by omega
                have HTK := Box.mk (ctick_st w _ c _ _ HS.out (HII.out.sh.inv.ok (by rw [HNOW.out]; omega)))
                go_upto_region 20 with fail
                go_cut [10, 11] (fun s14 s15 wx => ∃ (B7 : Nat) (who : Int) (a1 : Option Addr) (c1 : Nat) (a2 : Option Addr) (c2 : Nat) (a3 : Option Addr) (c3 : Nat) (M2 : CpuM), s14 = .pointer (some ⟨B7, 0, none⟩) ∧ s15 = .int .i64 0 ∧ M2.now = t + 1 ∧
                  Box ((who = -1 ∧ IInv ls M2 H wt W0 R L) ∨ (∃ i : Nat, who = 100 + i ∧ i < n ∧ 0 < zv wt i ∧ zv wt i ≤ 39 ∧ ∃ H' R' L', IInv ls M2 H' (wt.set i (zv wt i - 1)) W0 R' L')) ∧
                  CSt w wx c M2 ((B7, .cells #[.int .i64 who, .slice a1 0 c1, .slice a2 0 c2, .slice a3 0 c3] 36 (0, 0)) :: [(B, .cells (rowV .i64 wt) 3 (0, 0))]))
                case first =>
                  go_wp2_with (go_at_call 14; (with_reducible refine HTK.out.mono ?_); rintro e w6 ⟨M1, who, nd, nc, a1, c1, a2, c2, a3, c3, hran, rfl, hs⟩; obtain ⟨rfl, rfl, ht0, htk⟩ := HII.out.tick hran; have hn2 : (lateIds (M.now + 1) M1.tasks M1.tasks.length).length = 0 := (by rw [ht0]; rfl); rw [hn2]; have HTT := Box.mk htk; have HM1 := Box.mk hran.now; have HS := Box.mk hs; clear hs hran hn2 htk ht0)
                  go_meet
                  refine ⟨_, who, a1, c1, a2, c2, a3, c3, _, rfl, rfl, ?_, ⟨?_⟩, HS.out.alloc _⟩
                  · show M.now + 1 = t + 1
                    rw [HNOW.out]
                  · rcases HTT.out with ⟨e1, e2⟩ | ⟨i, e1, e2, e3, e4, e5⟩
                    · exact .inl ⟨e1, e2⟩
                    · rw [HN.out] at e2
                      exact .inr ⟨i, e1, e2, e3, e4, _, _, _, e5⟩
                case rest =>
                  obtain ⟨B7, who, a1, c1, a2, c2, a3, c3, M2, rfl, rfl, hnow2, HC, hs⟩ := hcut
                  have HS := Box.mk hs
                  have HNOW2 := Box.mk hnow2
                  clear hs hnow2 HTK
                  have x0 := cell_blk (HS.out.blk (List.mem_cons_self ..)) 0
                  simp only [List.getElem?_toArray, List.getElem?_cons_zero, List.getElem?_cons_succ] at x0
                  rcases HC.out with ⟨rfl, hsh2⟩ | ⟨i, rfl, hin, hz0, hz39, H', R', L', hsh2⟩
                  · have HSH2 := Box.mk hsh2
                    clear hsh2 HC
                    go_wp2
                    go_roundw
                    case rel => exact ⟨t + 1, M2, H, wt, R, L, by omega, by go_num, HNOW2.out, HSH2.out, tailC HS.out⟩
                    case measure => simp [intOf] <;> omega
                  · have HSH2 := Box.mk hsh2
                    clear hsh2 HC
                    have hge : (100 : Int) ≤ 100 + (i : Int) := by omega
                    have hhl : i < wt.length := by rw [HII.out.wl, HN.out]; exact hin
                    have yb : _root_.Go.World.cell? _ ⟨B, i, none⟩ = _ := cell_blk (HS.out.blk (List.mem_cons_of_mem _ (List.mem_cons_self ..))) i
                    rw [rowV_get hhl] at yb
                    have yf : _root_.Go.World.frozen? _ ⟨B, i, none⟩ = _ := free_blk (HS.out.blk (List.mem_cons_of_mem _ (List.mem_cons_self ..))) i
                    generalize zv wt i = Z at yb hz0 hz39 HSH2
                    have hsub : (100 : Int) + (i : Int) - 100 = (i : Int) := by omega
                    have hini : (i : Int) < n := by omega
                    go_upto_region 24 with fail
                    go_wp2
                    go_roundw
                    case rel =>
                      have e1 := (tailC HS.out).set HBB.out (by simp) i (.int .i64 (Z - 1))
                      rw [rowV_set] at e1
                      exact ⟨t + 1, M2, _, _, _, _, by omega, by go_num, HNOW2.out, HSH2.out, e1⟩
                    case measure => simp [intOf] <;> omega
              · have hti : ¬ (t : Int) < 7400 := by omega
                have HDONE : Box (∀ k, k < n → zv wt k = 0 ∧ M.work k = 0) := ⟨fun k hk => HII.out.done hw117 (by rw [HNOW.out]; omega) k (by rw [HN.out]; exact hk)⟩
                go_wp2
                go_loopw [12] (fun k wx => ∃ k' : Nat, k' ≤ n ∧ k = .int .i64 k' ∧ CSt w wx c M [(B, .cells (rowV .i64 wt) 3 (0, 0))]) (fun k _ => n - (intOf k).toNat)
                case atStart => exact ⟨0, by omega, rfl, HS.out⟩
                case round =>
                  obtain ⟨k, hk, rfl, hs⟩ := hrel
                  have HS := Box.mk hs
                  clear hs
                  by_cases hkn : k < n
                  · have hkni : (k : Int) < n := by omega
                    obtain ⟨e1, e2⟩ := HDONE.out k hkn
                    have hhl : k < wt.length := by rw [HII.out.wl, HN.out]; exact hkn
                    have yb : _root_.Go.World.cell? _ ⟨B, k, none⟩ = _ := cell_blk (HS.out.blk (List.mem_cons_self ..)) k
                    rw [rowV_get hhl, e1] at yb
                    have hwo := cwork_st w _ c _ _ HS.out k
                    rw [e2] at hwo
                    have HWO := Box.mk hwo
                    clear hwo e1 e2
                    go_wp2_with (go_at_call 13; (with_reducible refine HWO.out.mono ?_); rintro e w6 ⟨rfl, hs⟩; have HS6 := Box.mk hs; clear hs)
                    go_roundw
                    case rel => exact ⟨k + 1, by omega, by go_num, HS6.out⟩
                    case measure => simp [intOf] <;> omega
                  · obtain rfl : n = k := by omega
                    go_wp2
                    go_ret
                    exact ⟨rfl, HS.out.below⟩
      · have hn3i : (3 : Int) < n := by omega
        go_wp2_with (go_at_call 16; refine HMAY.out.mono ?_; rintro e w2 ⟨rfl, hb2⟩)
        go_ret
        exact ⟨rfl, HB1.out.trans (hb2.mono HB1.out.size)⟩
  · have hok : okLoads ls = false := by simpa using hok
    rw [hok] at hMAY
    have HMAY := Box.mk hMAY
    clear hMAY
    go_wp2_with (go_at_call 16; refine HMAY.out.mono ?_; rintro e w2 ⟨rfl, hb2⟩)
    go_ret
    exact ⟨rfl, HB1.out.trans (hb2.mono HB1.out.size)⟩

/-! The row's step. -/
theorem own : ownKnob Try.prog.godebug = none := by kernel_rfl
theorem laidOut : laidOutB Try.prog = true := by kernel_rfl

set_option maxRecDepth 100000 in
theorem lifted (os : Os) (started : os.Started) (H : Type) (enc : TypeId × Value → H) :
    ReturnsInHanded {} Try.checked os 4 .any (Rows.cpuIdleSpec.pre6 enc Try.prog Try.f4 Rows.cpuIdleRow.domain false) (Rows.cpuIdleSpec.post enc Try.prog Try.f4 false true false false) := by
  refine returnsInHanded_of_change (C := Try.checked) own started (by kernel_rfl) Try.func4
    (ChangeSpec.witness6 (enc := enc) (C := Try.checked) false ⟨#[], #[.slice none 0 0, .slice none 0 0], []⟩ 8 (by kernel_rfl) (by kernel_rfl) (by kernel_rfl) (by kernel_rfl)) ?_
  intro W base args ds gs before hval0 hW hcnd _
  have hval : ∀ (j : Nat) t v, Try.f4.params[j]? = some t → args[j]? = some v → Value.okWide Try.prog W .any base t v := hval0
  have hW' := hW
  obtain ⟨p, q, hA0, hV, rfl, hfz, hnd⟩ := hW
  have hA : DataW.TrodAll enc Try.prog W 0 (fun _ => true) true Try.f4.params.toList args.toList ds p := hA0
  rw [Try.params4] at hA hval
  obtain ⟨v0, vs0, d0, ds0, p0, q0, hargs, rfl, rfl, h0, r0⟩ := trodAll_cons hA
  obtain ⟨v1, vs1, d1, ds1, p1, q1, rfl, rfl, rfl, h1, r1⟩ := trodAll_cons r0
  obtain ⟨rfl, rfl, rfl⟩ := trodAll_nil r1
  obtain rfl : args = #[v0, v1] := by cases args; simp_all
  obtain ⟨rfl, rfl⟩ := trodVars_none hV
  obtain ⟨a0, len0, cap0, rfl⟩ := okWide_slice Try.underlying22 (hval 0 22 v0 rfl rfl)
  have k0 := h0
  have lt0 : ∀ x ∈ p0, x.block < W.heap.size := by obtain ⟨m, hm⟩ := k0; exact DataW.trod_lt m _ _ _ hm
  obtain ⟨z0, w0⟩ := open_structs (ks := [.i64, .u64]) Try.underlying22 Try.underlying41 (by kernel_rfl) (by kernel_rfl) (by kernel_rfl) (by decide) h0
  obtain ⟨a1, len1, cap1, rfl⟩ := okWide_slice Try.underlying23 (hval 1 23 v1 rfl rfl)
  have k1 := h1
  have lt1 : ∀ x ∈ p1, x.block < W.heap.size := by obtain ⟨m, hm⟩ := k1; exact DataW.trod_lt m _ _ _ hm
  obtain ⟨z1, w1⟩ : ∃ zs, ArgInts .u8 W a1 len1 zs := by
    obtain ⟨fuel, hf⟩ := h1
    rcases open_ints Try.underlying23 Try.underlying5 (by kernel_rfl) hf with ⟨hcs, _⟩ | ⟨x, l, c, zs, hcs, _, hl, hm, hz, _, hcell, hwz⟩
    · simp [Value.cells] at hcs
      obtain ⟨rfl, rfl, rfl⟩ := hcs
      exact ⟨[], rfl, by omega, by simp, fun h => by omega⟩
    · simp [Value.cells] at hcs
      obtain ⟨rfl, rfl, rfl⟩ := hcs
      exact ⟨zs.take len1, argInts_of_ints hl hm (by simpa using hz) hcell hwz⟩
  clear hA0 hval0
  refine (walk a0 len0 cap0 z0 a1 len1 cap1 z1 W w0 w1).mono fun e W' ⟨he, bel⟩ => ?_
  subst he
  exact ⟨_, rfl, _, _, _, [], _, [], hW', trodAll_mk1 (shut_bool Try.underlying4 _), (trodAll_cons_mk (Below.trod laidOut (by kernel_rfl) (of_decide_eq_true (by kernel_rfl)) k0 bel lt0) (trodAll_cons_mk (Below.trod laidOut (by kernel_rfl) (of_decide_eq_true (by kernel_rfl)) k1 bel lt1) trodAll_mk0)), rfl, bel.frame _, fun h => by cases h⟩

theorem over : Rows.cpuIdleRow.holds Try.pinned (OpenSpec.ofChange Rows.cpuIdleSpec) :=
  OpenClaim.holds_of_wide 4 Try.f4 rfl rfl rfl rfl rfl rfl rfl ⟨rfl, rfl, rfl, rfl, rfl⟩ rfl rfl rfl rfl rfl (by kernel_rfl) Try.func4 (by kernel_rfl)
    (of_decide_eq_true (by kernel_rfl)) (by unfold Func.isWrapper; first | (rw [if_pos (by decide +kernel)]; kernel_rfl) | (rw [if_neg (by decide +kernel)]; exact ⟨rfl, rfl⟩))
    (fun os started H enc _ => lifted os started H enc)

/-- The statement. -/
theorem proved : Rows.CpuIdleSaid := over
#print axioms proved

end Go.Proofs.Ytbedknfapiadbaa.cpuIdle
