/-
  ReadyGoes: for every two slices of bytes the law answers true, and what it was handed reads as it did. No condition.
-/
import Derived.Test.YtelehfcjajipiaaGoesP
import Derived.Test.YtelehfcjajipiaaReadyAwake
import Derived.Test.YtelehfcjajipiaaRows
import Derived.BigQuiet
import Derived.Deep.QuietTactic
namespace Go.Proofs.Ytelehfcjajipiaa.readyGoes
open Go.ChangeShapes Go.WideShapes Go.ChangeAt Go.RowKit

/-- What holds at the head of each round. -/
def GInv (w wr : World) (q n : Nat) (i : Nat) : Prop := ∃ r, QSt w wr q r ∧ Uniq r ∧ ∀ j, (r j).length ≤ 64 + i

set_option maxHeartbeats 8000000 in
set_option maxRecDepth 100000 in
theorem walk (a0 : Option Addr) (n cap0 : Nat) (z : List Int) (a1 : Option Addr) (m cap1 : Nat) (y : List Int) (w : World) (ha : ArgInts .u8 w a0 n z) (hb : ArgInts .u8 w a1 m y) :
    Calls Try.prog 4 #[.slice a0 n cap0, .slice a1 m cap1] w fun e w' => e = .returned (.bool true) ∧ Below w.heap.size w w' := by
  have HA := Lib.hid ha
  have HB := Lib.hid hb
  have hn63 : n ≤ 9223372036854775807 := ha.2.1
  have hm63 : m ≤ 9223372036854775807 := hb.2.1
  clear ha hb
  by_cases hbig : 64 < n
  · go_enter Try.func4, Try.ntmps4
    go_wp2_with (go_at_call 8; refine (awake_any _).mono ?_; rintro e w1 ⟨rfl, hb1⟩)
    go_ret
    exact ⟨rfl, hb1⟩
  by_cases hbig2 : 60 < m
  · go_enter Try.func4, Try.ntmps4
    go_wp2_with (go_at_call 8; refine (awake_any _).mono ?_; rintro e w1 ⟨rfl, hb1⟩)
    go_ret
    exact ⟨rfl, hb1⟩
  have hn : n ≤ 64 := by omega
  have hm : m ≤ 60 := by omega
  go_enter Try.func4, Try.ntmps4
  go_wp2_with (first | (go_at_call 8; refine (awake_any _).mono ?_; rintro e w1 ⟨rfl, hb1⟩) | (go_at_call 9; refine (new_st w _ hb1).mono ?_; rintro e w2 ⟨rfl, hq2⟩))
  have HQ2 := Lib.hid hq2
  clear hq2
  go_loopw [6] (fun i wr => ∃ k : Nat, k ≤ n ∧ i = .int .i64 k ∧ QSt w wr w1.heap.size (ordR z k)) (fun i _ => n - (intOf i).toNat)
  case atStart => exact ⟨0, Nat.zero_le _, rfl, HQ2.out⟩
  case round =>
    obtain ⟨k, hk, rfl, hq⟩ := hrel
    have HQ := Lib.hid hq
    clear hq
    by_cases hlt : k < n
    · obtain ⟨b, off, rfl, hb, hc⟩ := HA.out.get (by omega)
      have hz := HA.out.u8 k
      have hz0 := hz.1
      have hz1 := hz.2
      have hcell : wr.cell? ⟨b, off + k, none⟩ = some (.int .u8 (zv z k)) := (HQ.out.below.cell (p := ⟨b, off + k, none⟩) hb).trans (hc k hlt)
      have HO := Lib.hid (ordR_come (z := z) (k := k) (by omega))
      clear hc hz
      go_wp2_with fail
      refine (come_st w _ (ordR z k) k (zv z k % 101) _ HQ.out (fun i => Nat.le_trans (ordR_len z k i) (by omega))).mono ?_
      rw [show zv z k % 101 = zp z k from rfl, HO.out.1, HO.out.2]
      rintro e w3 ⟨rfl, hq3⟩
      go_wp2
      go_roundw
      case rel => exact ⟨k + 1, by omega, by go_num, hq3⟩
      case measure => simp [intOf] <;> omega
    · obtain rfl : k = n := by omega
      go_wp2
      go_loopw [7] (fun i wr => ∃ t : Nat, t ≤ m ∧ i = .int .i64 t ∧ GInv w wr w1.heap.size k t) (fun i _ => m - (intOf i).toNat)
      case atStart => exact ⟨0, Nat.zero_le _, rfl, ordR z k, HQ.out, Uniq.ord z k, fun j => Nat.le_trans (ordR_len z k j) (by omega)⟩
      case round =>
        obtain ⟨t, ht, rfl, hG⟩ := hrel
        have HGI := Lib.hid hG
        clear hG
        by_cases hstop : t < m ∧ 0 < k
        · obtain ⟨hltt, hk0⟩ := hstop
          obtain ⟨b, off, rfl, hb, hc⟩ := HB.out.get (by omega)
          have hy := HB.out.u8 t
          have hy0 := hy.1
          have hy1 := hy.2
          obtain ⟨r, hq, hu, hl⟩ := HGI.out
          have hcell : wr.cell? ⟨b, off + t, none⟩ = some (.int .u8 (zv y t)) := (hq.below.cell (p := ⟨b, off + t, none⟩) hb).trans (hc t hltt)
          have HR := Lib.hid hq
          have HU := Lib.hid hu
          have HL := Lib.hid hl
          clear hq hu hl hy hc
          have hX0 : 0 ≤ zv y t % (k : Int) := Int.emod_nonneg _ (by omega)
          have hX1 : zv y t % (k : Int) < k := Int.emod_lt_of_pos _ (by omega)
          have hk1 : (1 : Int) ≤ k := by omega
          have hHL : ∀ i, (r i).length ≤ 1000000 := fun i => Nat.le_trans (HL.out i) (by omega)
          have HHL := Lib.hid hHL
          clear hHL
          go_wp2_with fail
          generalize zv y t % (k : Int) = X at hX0 hX1 ⊢
          obtain ⟨A, hA⟩ : ∃ A, allQ r = A := ⟨_, rfl⟩
          obtain ⟨B, hB⟩ : ∃ B, allQ (goR r X) = B := ⟨_, rfl⟩
          have hAB : B = less X A := by rw [← hB, allQ_go HU.out, hA]
          have HAB := Lib.hid hAB
          have hgl := goC_all r X HU.out
          rw [hA, hB] at hgl
          have HAg := Lib.hid (come_again HU.out hX0 (by omega))
          have hlA : A.length ≤ 101000000 := by rw [← hA]; exact cat_len HHL.out 101
          have hlB : B.length ≤ A.length := by rw [hAB]; exact List.length_filter_le _ _
          have hQ := allF w _ r _ HR.out HHL.out
          rw [hA] at hQ
          have HLg := Lib.hid (fun i => Nat.le_trans (goR_len HL.out X i) (by omega : 64 + t ≤ 1000000))
          have HBq := Lib.hid hB
          clear hAB hA hB
          refine hQ.mono ?_
          clear hQ
          rintro e w3 ⟨ao, cp, F, rfl, ho3, h3, hF3, hw3, hb3⟩
          have H3 := Lib.hid h3
          have HF := Lib.hid hF3
          have HW3 := Lib.hid hw3
          have HO3 := Lib.hid ho3
          clear h3 hF3 hw3 ho3 hb3
          go_wp2_with fail
          have hQ := goF w _ r X _ F H3.out (fun k hk => (HF.out k hk).1) HW3.out
          refine hQ.mono ?_
          clear hQ
          rintro e w4 ⟨rfl, hq4, hf4⟩
          have HQ4 := Lib.hid hq4
          have HF4 := Lib.hid hf4
          clear hq4 hf4
          go_wp2_with fail
          have hQ := allF w _ (goR r X) _ HQ4.out HLg.out
          rw [HBq.out] at hQ
          refine hQ.mono ?_
          clear hQ
          rintro e w5 ⟨ao5, cp5, F5, rfl, ho5, h5, hF5, hw5, hb5⟩
          have HA5 : Hid (RowAt w5 (fun k => (Value.slice ao A.length cp).ownBlock = some k) (.slice ao A.length cp) A.length 1 (ints A)) := by
            refine ((RowAt.of_owns HO3.out).fr HF4.out (fun k e hF => ?_)).fr (Fr.of_below (F := fun _ => False) hb5) (fun _ _ h => h)
            have := (ownsRow_lt HO3.out e).1
            have := (HF.out k hF).2
            omega
          have HB5 : Hid (RowAt w5 (fun k => (Value.slice ao5 B.length cp5).ownBlock = some k) (.slice ao5 B.length cp5) B.length 1 (ints B)) := RowAt.of_owns ho5
          have HQ5 : Hid (QSt w w5 w1.heap.size (goR r X)) := QSt.later HQ4.out hb5
          clear ho5 h5 hF5 hw5 hb5
          rcases hgl with ⟨hgc, hgl⟩ | ⟨hgc, hgl⟩
          · rw [hgc]
            clear hgc
            go_wp2
            go_loopw [12, 13] (fun c i wi => ∃ j : Nat, j ≤ A.length ∧ i = .int .i64 j ∧ c = .int .i64 (cnt X A j) ∧ Below w5.heap.size w5 wi) (fun _ i _ => A.length - (intOf i).toNat)
            case atStart => exact ⟨0, Nat.zero_le _, rfl, rfl, Below.refl _ _⟩
            case round =>
              obtain ⟨j, hj, rfl, rfl, hbi⟩ := hrel
              have HBI := Lib.hid hbi
              clear hbi
              by_cases hlj : j < A.length
              · obtain ⟨b3, o3, rfl, _, hb3, hc3⟩ := HA5.out.get (by omega)
                have hcj : wr.cell? ⟨b3, o3 + j, none⟩ = some (.int .i64 (zv A j)) := (HBI.out.cell (p := ⟨b3, o3 + j, none⟩) hb3).trans (hc3 j hlj)
                have hcb : cnt X A j ≤ j := by unfold cnt; exact less_len X A j
                by_cases he : zv A j = X
                · have he' : (zv A j == X) = true := by simpa using he
                  have HC : Hid (cnt X A (j + 1) = cnt X A j) := cnt_eq hlj he
                  clear hc3 he
                  go_wp2
                  go_roundw
                  case rel => exact ⟨j + 1, by omega, by go_num, by rw [HC.out], HBI.out⟩
                  case measure => simp [intOf] <;> omega
                · have he' : (zv A j == X) = false := by simpa using he
                  obtain ⟨hc1, hc2, hcz⟩ := cnt_ne hlj he
                  have HC := Lib.hid hc1
                  rw [← HAB.out] at hc2 hcz
                  obtain ⟨b5, o5, rfl, _, hb5, hc5⟩ := HB5.out.get (by omega)
                  have hcB : wr.cell? ⟨b5, o5 + cnt X A j, none⟩ = some (.int .i64 (zv A j)) := by rw [← hcz]; exact (HBI.out.cell (p := ⟨b5, o5 + cnt X A j, none⟩) hb5).trans (hc5 _ hc2)
                  have hi1 : ((cnt X A j : Nat) : Int) < (B.length : Int) := by omega
                  have hi2 : decide (B.length ≤ cnt X A j) = false := by simp; omega
                  have hi3 : (j : Int) < (A.length : Int) := by omega
                  clear hc3 hc5 hc1 hcz he hc2
                  go_wp2
                  go_quiet (fail)
                  go_wp2
                  go_roundw
                  case rel => exact ⟨j + 1, by omega, by go_num, by rw [HC.out]; go_num, HBI.out.trans ⟨rfl, rfl, rfl, Nat.le_refl _, fun _ _ => rfl⟩⟩
                  case measure => simp [intOf] <;> omega
              · obtain rfl : j = A.length := by omega
                have hcf : cnt X A A.length = B.length := by rw [cnt_full, HAB.out]
                have hcmp : B.length < A.length := hgl
                have HQ6 : Hid (QSt w wr w1.heap.size (goR r X)) := QSt.later HQ5.out HBI.out
                by_cases h4 : (t : Int) % 4 = 3
                · have h4' : ((t : Int) % 4 == 3) = true := by simpa using h4
                  clear h4
                  go_wp2_with fail
                  refine (come_st w _ (goR r X) X 50 _ HQ6.out HLg.out).mono ?_
                  rw [HAg.out.1]
                  rintro e w7 ⟨rfl, hq7⟩
                  have HQ7 := Lib.hid hq7
                  clear hq7
                  go_wp2_with fail
                  refine (come_st w _ (come (goR r X) X 50) X 50 _ HQ7.out (fun i => Nat.le_trans (come_len (goR_len HL.out X) X 50 i) (by omega))).mono ?_
                  rw [HAg.out.2]
                  rintro e w8 ⟨rfl, hq8⟩
                  go_wp2
                  go_roundw
                  case rel => exact ⟨t + 1, by omega, by go_num, _, hq8, ((HU.out.go X).come X 50).come X 50, fun i => by rw [come, if_neg (by rw [HAg.out.2]; decide)]; exact Nat.le_trans (come_len (goR_len HL.out X) X 50 i) (by omega)⟩
                  case measure => simp [intOf] <;> omega
                · have h4' : ((t : Int) % 4 == 3) = false := by simpa using h4
                  clear h4
                  go_wp2
                  go_roundw
                  case rel => exact ⟨t + 1, by omega, by go_num, _, HQ6.out, HU.out.go X, fun i => Nat.le_trans (goR_len HL.out X i) (by omega)⟩
                  case measure => simp [intOf] <;> omega
          · rw [hgc]
            clear hgc
            have Hgl := Lib.hid hgl
            clear hgl
            go_wp2
            go_loopw [12, 13] (fun c i wi => ∃ j : Nat, j ≤ A.length ∧ i = .int .i64 j ∧ c = .int .i64 (cnt X A j) ∧ Below w5.heap.size w5 wi) (fun _ i _ => A.length - (intOf i).toNat)
            case atStart => exact ⟨0, Nat.zero_le _, rfl, rfl, Below.refl _ _⟩
            case round =>
              obtain ⟨j, hj, rfl, rfl, hbi⟩ := hrel
              have HBI := Lib.hid hbi
              clear hbi
              by_cases hlj : j < A.length
              · obtain ⟨b3, o3, rfl, _, hb3, hc3⟩ := HA5.out.get (by omega)
                have hcj : wr.cell? ⟨b3, o3 + j, none⟩ = some (.int .i64 (zv A j)) := (HBI.out.cell (p := ⟨b3, o3 + j, none⟩) hb3).trans (hc3 j hlj)
                have hcb : cnt X A j ≤ j := by unfold cnt; exact less_len X A j
                by_cases he : zv A j = X
                · have he' : (zv A j == X) = true := by simpa using he
                  have HC : Hid (cnt X A (j + 1) = cnt X A j) := cnt_eq hlj he
                  clear hc3 he
                  go_wp2
                  go_roundw
                  case rel => exact ⟨j + 1, by omega, by go_num, by rw [HC.out], HBI.out⟩
                  case measure => simp [intOf] <;> omega
                · have he' : (zv A j == X) = false := by simpa using he
                  obtain ⟨hc1, hc2, hcz⟩ := cnt_ne hlj he
                  have HC := Lib.hid hc1
                  rw [← HAB.out] at hc2 hcz
                  obtain ⟨b5, o5, rfl, _, hb5, hc5⟩ := HB5.out.get (by omega)
                  have hcB : wr.cell? ⟨b5, o5 + cnt X A j, none⟩ = some (.int .i64 (zv A j)) := by rw [← hcz]; exact (HBI.out.cell (p := ⟨b5, o5 + cnt X A j, none⟩) hb5).trans (hc5 _ hc2)
                  have hi1 : ((cnt X A j : Nat) : Int) < (B.length : Int) := by omega
                  have hi2 : decide (B.length ≤ cnt X A j) = false := by simp; omega
                  have hi3 : (j : Int) < (A.length : Int) := by omega
                  clear hc3 hc5 hc1 hcz he hc2
                  go_wp2
                  go_quiet (fail)
                  go_wp2
                  go_roundw
                  case rel => exact ⟨j + 1, by omega, by go_num, by rw [HC.out]; go_num, HBI.out.trans ⟨rfl, rfl, rfl, Nat.le_refl _, fun _ _ => rfl⟩⟩
                  case measure => simp [intOf] <;> omega
              · obtain rfl : j = A.length := by omega
                have hcf : cnt X A A.length = B.length := by rw [cnt_full, HAB.out]
                have hcmp : ¬ B.length < A.length := by have := Hgl.out; omega
                have HQ6 : Hid (QSt w wr w1.heap.size (goR r X)) := QSt.later HQ5.out HBI.out
                by_cases h4 : (t : Int) % 4 = 3
                · have h4' : ((t : Int) % 4 == 3) = true := by simpa using h4
                  clear h4
                  go_wp2_with fail
                  refine (come_st w _ (goR r X) X 50 _ HQ6.out HLg.out).mono ?_
                  rw [HAg.out.1]
                  rintro e w7 ⟨rfl, hq7⟩
                  have HQ7 := Lib.hid hq7
                  clear hq7
                  go_wp2_with fail
                  refine (come_st w _ (come (goR r X) X 50) X 50 _ HQ7.out (fun i => Nat.le_trans (come_len (goR_len HL.out X) X 50 i) (by omega))).mono ?_
                  rw [HAg.out.2]
                  rintro e w8 ⟨rfl, hq8⟩
                  go_wp2
                  go_roundw
                  case rel => exact ⟨t + 1, by omega, by go_num, _, hq8, ((HU.out.go X).come X 50).come X 50, fun i => by rw [come, if_neg (by rw [HAg.out.2]; decide)]; exact Nat.le_trans (come_len (goR_len HL.out X) X 50 i) (by omega)⟩
                  case measure => simp [intOf] <;> omega
                · have h4' : ((t : Int) % 4 == 3) = false := by simpa using h4
                  clear h4
                  go_wp2
                  go_roundw
                  case rel => exact ⟨t + 1, by omega, by go_num, _, HQ6.out, HU.out.go X, fun i => Nat.le_trans (goR_len HL.out X i) (by omega)⟩
                  case measure => simp [intOf] <;> omega
        · by_cases hltt : t < m
          · obtain rfl : k = 0 := by omega
            clear hstop
            go_wp2
            go_ret
            exact ⟨rfl, by obtain ⟨r, hq, _⟩ := HGI.out; exact hq.below⟩
          · clear hstop
            go_wp2
            go_ret
            exact ⟨rfl, by obtain ⟨r, hq, _⟩ := HGI.out; exact hq.below⟩

/-! The row's step. -/
theorem own : ownKnob Try.prog.godebug = none := by kernel_rfl
theorem laidOut : laidOutB Try.prog = true := by kernel_rfl

set_option maxRecDepth 100000 in
theorem lifted (os : Os) (started : os.Started) (H : Type) (enc : TypeId × Value → H) :
    ReturnsInHanded {} Try.checked os 4 .any (Rows.readyGoesSpec.pre6 enc Try.prog Try.f4 Rows.readyGoesRow.domain false) (Rows.readyGoesSpec.post enc Try.prog Try.f4 false true false false) := by
  refine returnsInHanded_of_change (C := Try.checked) own started (by kernel_rfl) Try.func4
    (ChangeSpec.witness6 (enc := enc) (C := Try.checked) false ⟨#[], #[.slice none 0 0, .slice none 0 0], []⟩ 8 (by kernel_rfl) (by kernel_rfl) (by kernel_rfl) (by kernel_rfl)) ?_
  intro W base args ds gs before hval0 hW hcnd _
  have hval : ∀ (j : Nat) t v, Try.f4.params[j]? = some t → args[j]? = some v → Value.okWide Try.prog W .any base t v := hval0
  have hW' := hW
  obtain ⟨p, q, hA0, hV, rfl, hfz, hnd⟩ := hW
  have hA : DataW.TrodAll enc Try.prog W 0 (fun _ => true) true Try.f4.params.toList args.toList ds p := hA0
  rw [Try.params4] at hA hval
  obtain ⟨v0, vs0, d0, ds0, p0, q0, hargs, rfl, rfl, h0, r0⟩ := trodAll_cons hA
  obtain ⟨v1, vs1, d1, ds1, p1, q1, rfl, rfl, rfl, h1, r1⟩ := trodAll_cons r0
  obtain ⟨rfl, rfl, rfl⟩ := trodAll_nil r1
  obtain rfl : args = #[v0, v1] := by cases args; simp_all
  obtain ⟨rfl, rfl⟩ := trodVars_none hV
  obtain ⟨a0, len0, cap0, rfl⟩ := okWide_slice Try.underlying22 (hval 0 22 v0 rfl rfl)
  have k0 := h0
  have lt0 : ∀ x ∈ p0, x.block < W.heap.size := by obtain ⟨m, hm⟩ := k0; exact DataW.trod_lt m _ _ _ hm
  obtain ⟨z0, w0⟩ : ∃ zs, ArgInts .u8 W a0 len0 zs := by
    obtain ⟨fuel, hf⟩ := h0
    rcases open_ints Try.underlying22 Try.underlying5 (by kernel_rfl) hf with ⟨hcs, _⟩ | ⟨x, l, c, zs, hcs, _, hl, hm, hz, _, hcell, hwz⟩
    · simp [Value.cells] at hcs
      obtain ⟨rfl, rfl, rfl⟩ := hcs
      exact ⟨[], rfl, by omega, by simp, fun h => by omega⟩
    · simp [Value.cells] at hcs
      obtain ⟨rfl, rfl, rfl⟩ := hcs
      exact ⟨zs.take len0, argInts_of_ints hl hm (by simpa using hz) hcell hwz⟩
  obtain ⟨a1, len1, cap1, rfl⟩ := okWide_slice Try.underlying22 (hval 1 22 v1 rfl rfl)
  have k1 := h1
  have lt1 : ∀ x ∈ p1, x.block < W.heap.size := by obtain ⟨m, hm⟩ := k1; exact DataW.trod_lt m _ _ _ hm
  obtain ⟨z1, w1⟩ : ∃ zs, ArgInts .u8 W a1 len1 zs := by
    obtain ⟨fuel, hf⟩ := h1
    rcases open_ints Try.underlying22 Try.underlying5 (by kernel_rfl) hf with ⟨hcs, _⟩ | ⟨x, l, c, zs, hcs, _, hl, hm, hz, _, hcell, hwz⟩
    · simp [Value.cells] at hcs
      obtain ⟨rfl, rfl, rfl⟩ := hcs
      exact ⟨[], rfl, by omega, by simp, fun h => by omega⟩
    · simp [Value.cells] at hcs
      obtain ⟨rfl, rfl, rfl⟩ := hcs
      exact ⟨zs.take len1, argInts_of_ints hl hm (by simpa using hz) hcell hwz⟩
  clear hA0 hval0
  refine (walk a0 len0 cap0 z0 a1 len1 cap1 z1 W w0 w1).mono fun e W' ⟨he, bel⟩ => ?_
  subst he
  exact ⟨_, rfl, _, _, _, [], _, [], hW', trodAll_mk1 (shut_bool Try.underlying4 _), (trodAll_cons_mk (Below.trod laidOut (by kernel_rfl) (of_decide_eq_true (by kernel_rfl)) k0 bel lt0) (trodAll_cons_mk (Below.trod laidOut (by kernel_rfl) (of_decide_eq_true (by kernel_rfl)) k1 bel lt1) trodAll_mk0)), rfl, bel.frame _, fun h => by cases h⟩

theorem over : Rows.readyGoesRow.holds Try.pinned (OpenSpec.ofChange Rows.readyGoesSpec) :=
  OpenClaim.holds_of_wide 4 Try.f4 rfl rfl rfl rfl rfl rfl rfl ⟨rfl, rfl, rfl, rfl, rfl⟩ rfl rfl rfl rfl rfl (by kernel_rfl) Try.func4 (by kernel_rfl)
    (of_decide_eq_true (by kernel_rfl)) (by unfold Func.isWrapper; first | (rw [if_pos (by decide +kernel)]; kernel_rfl) | (rw [if_neg (by decide +kernel)]; exact ⟨rfl, rfl⟩))
    (fun os started H enc _ => lifted os started H enc)

/-- The statement. -/
theorem proved : Rows.ReadyGoesSaid := over
#print axioms proved

end Go.Proofs.Ytelehfcjajipiaa.readyGoes
