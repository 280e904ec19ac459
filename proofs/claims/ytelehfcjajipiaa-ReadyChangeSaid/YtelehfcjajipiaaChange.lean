/-
  ReadyChange: for every slice of bytes and every two bytes the law answers true, and what it was handed reads as it did. No condition.
-/
import Derived.Test.YtelehfcjajipiaaChangeP
import Derived.Test.YtelehfcjajipiaaReadyAwake
import Derived.Test.YtelehfcjajipiaaRows
import Derived.BigQuiet
import Derived.Deep.QuietTactic
namespace Go.Proofs.Ytelehfcjajipiaa.readyChange
open Go.ChangeShapes Go.WideShapes Go.ChangeAt Go.RowKit

set_option maxHeartbeats 8000000 in
set_option maxRecDepth 100000 in
theorem walk (a0 : Option Addr) (n cap0 : Nat) (z : List Int) (x y : Int) (w : World) (ha : ArgInts .u8 w a0 n z) (hx : (Lit.int .u8 x).wf = true) (hy : (Lit.int .u8 y).wf = true) :
    Calls Try.prog 7 #[.slice a0 n cap0, .int .u8 x, .int .u8 y] w fun e w' => e = .returned (.bool true) ∧ Below w.heap.size w w' := by
  have HA := Lib.hid ha
  have hn63 : n ≤ 9223372036854775807 := ha.2.1
  have hx0 := (u8_wf hx).1
  have hx1 := (u8_wf hx).2
  have hy0 := (u8_wf hy).1
  have hy1 := (u8_wf hy).2
  clear ha hx hy
  by_cases hbig : 40 < n
  · go_enter Try.func7, Try.ntmps7
    go_wp2_with (go_at_call 8; refine (awake_any _).mono ?_; rintro e w1 ⟨rfl, hb1⟩)
    go_ret
    exact ⟨rfl, hb1⟩
  by_cases hzero : n = 0
  · subst hzero
    go_enter Try.func7, Try.ntmps7
    go_wp2_with (go_at_call 8; refine (awake_any _).mono ?_; rintro e w1 ⟨rfl, hb1⟩)
    go_ret
    exact ⟨rfl, hb1⟩
  have hn : n ≤ 40 := by omega
  have hpos : 0 < n := by omega
  have hne : ((n : Int) == 0) = false := by simp; omega
  obtain ⟨b, off, rfl, hb, hc⟩ := HA.out.get hpos
  have HC := Lib.hid hc
  have hk0 : 0 ≤ x % (n : Int) := Int.emod_nonneg _ (by omega)
  have hk1 : x % (n : Int) < n := Int.emod_lt_of_pos _ (by omega)
  have hn1 : (1 : Int) ≤ n := by omega
  obtain ⟨k, hkx⟩ : ∃ k : Nat, x % (n : Int) = k := ⟨(x % (n : Int)).toNat, by omega⟩
  have hp0 : 0 ≤ y % 9 := by omega
  have hp9 : y % 9 < 9 := by omega
  obtain ⟨p, hpy⟩ : ∃ p, y % 9 = p := ⟨_, rfl⟩
  rw [hkx] at hk0 hk1
  rw [hpy] at hp0 hp9
  have hk : k < n := by omega
  have HP : Box (CPlain z n k p) := ⟨CPlain.of hn hk hp0 hp9⟩
  obtain ⟨A, hA⟩ : ∃ A, allQ (ordQ z n) = A := ⟨_, rfl⟩
  obtain ⟨L, hL⟩ : ∃ L, allQ (chg (ordQ z n) k p) = L := ⟨_, rfl⟩
  have HAe : Box (allQ (ordQ z n) = A) := ⟨hA⟩
  have HLe : Box (allQ (chg (ordQ z n) k p) = L) := ⟨hL⟩
  have hlen : L.length = A.length := by rw [← hL, ← hA]; exact HP.out.len
  have HLA : Box (L.length = A.length) := ⟨hlen⟩
  have hAl : L.length ≤ 4141 := by rw [← hL]; exact cat_len HP.out.uniq 101
  have HM : Box (∀ v, v ∈ L → ∃ m : Nat, v = m ∧ m < n) := ⟨by rw [← hL]; exact HP.out.mem⟩
  have HS : Box (zq z k = p → L = A) := ⟨fun h => by rw [← hL, ← hA]; exact HP.out.same h⟩
  have HO : Box (zq z k ≠ p → atF L k L.length = cntF z p L k L.length) := ⟨fun h => by rw [← hL]; exact HP.out.other h⟩
  clear hA hL hlen hc hzero
  go_enter Try.func7, Try.ntmps7
  go_wp2_with (first | (go_at_call 8; refine (awake_any _).mono ?_; rintro e w1 ⟨rfl, hb1⟩) | (go_at_call 9; refine (new_st w _ hb1).mono ?_; rintro e w2 ⟨rfl, hq2⟩))
  have HQ2 := Lib.hid hq2
  clear hq2
  go_loopw [8] (fun i wr => ∃ j : Nat, j ≤ n ∧ i = .int .i64 j ∧ QSt w wr w1.heap.size (ordQ z j)) (fun i _ => n - (intOf i).toNat)
  case atStart => exact ⟨0, Nat.zero_le _, rfl, HQ2.out⟩
  case round =>
    obtain ⟨j, hj, rfl, hq⟩ := hrel
    have HQ := Lib.hid hq
    clear hq
    by_cases hlt : j < n
    · have hz := HA.out.u8 j
      have hz0 := hz.1
      have hz1 := hz.2
      have hcell : wr.cell? ⟨b, off + j, none⟩ = some (.int .u8 (zv z j)) := (HQ.out.below.cell (p := ⟨b, off + j, none⟩) hb).trans (HC.out j hlt)
      have HOc := Lib.hid (ordQ_come (z := z) (k := j) (by omega))
      clear hz hkx hpy
      go_wp2_with fail
      refine (come_st w _ (ordQ z j) j (zv z j % 9) _ HQ.out (fun i => Nat.le_trans (ordQ_len z j i) (by omega))).mono ?_
      rw [show zv z j % 9 = zq z j from rfl, HOc.out.1, HOc.out.2]
      rintro e w3 ⟨rfl, hq3⟩
      go_wp2
      go_roundw
      case rel => exact ⟨j + 1, by omega, by go_num, hq3⟩
      case measure => simp [intOf] <;> omega
    · obtain rfl : j = n := by omega
      have hAL : ∀ i, (ordQ z j i).length ≤ 1000000 := fun i => Nat.le_trans (ordQ_len z j i) (by omega)
      have HAL := Lib.hid hAL
      have hLL : ∀ i, (chg (ordQ z j) k p i).length ≤ 1000000 := fun i => Nat.le_trans (HP.out.uniq i) (by omega)
      have HLL := Lib.hid hLL
      clear hAL hLL
      go_wp2_with fail
      have hQ := allF w _ (ordQ z j) _ HQ.out HAL.out
      rw [HAe.out] at hQ
      refine hQ.mono ?_
      clear hQ
      rintro e w3 ⟨ao, cp, F, rfl, ho3, h3, hF3, hw3, hb3⟩
      have H3 := Lib.hid h3
      have HF := Lib.hid hF3
      have HW3 := Lib.hid hw3
      have HO3 := Lib.hid ho3
      clear h3 hF3 hw3 ho3 hb3
      go_wp2_with fail
      have hQ := change_st w _ (ordQ z j) k p _ F H3.out (fun k hk => (HF.out k hk).1) HW3.out HAL.out
      rw [HP.out.code] at hQ
      refine hQ.mono ?_
      clear hQ
      rintro e w4 ⟨rfl, hq4, hf4⟩
      have HQ4 := Lib.hid hq4
      have HF4 := Lib.hid hf4
      clear hq4 hf4
      go_wp2_with fail
      have hQ := allF w _ (chg (ordQ z j) k p) _ HQ4.out HLL.out
      rw [HLe.out] at hQ
      refine hQ.mono ?_
      clear hQ
      rintro e w5 ⟨ao5, cp5, F5, rfl, ho5, h5, hF5, hw5, hb5⟩
      have HA5 : Hid (RowAt w5 (fun k => (Value.slice ao A.length cp).ownBlock = some k) (.slice ao A.length cp) A.length 1 (ints A)) := by
        refine ((RowAt.of_owns HO3.out).fr HF4.out (fun k e hF => ?_)).fr (Fr.of_below (F := fun _ => False) hb5) (fun _ _ h => h)
        have := (ownsRow_lt HO3.out e).1
        have := (HF.out k hF).2
        omega
      have HB5 : Hid (RowAt w5 (fun k => (Value.slice ao5 L.length cp5).ownBlock = some k) (.slice ao5 L.length cp5) L.length 1 (ints L)) := RowAt.of_owns ho5
      have HW5 : Hid (Below w.heap.size w w5) := hw5
      clear ho5 h5 hF5 hw5 hb5
      have hlen := HLA.out
      rw [← hlen]
      clear hlen
      go_wp2
      go_loop [13, 14, 15] (fun a c i => ∃ t : Nat, t ≤ L.length ∧ i = .int .i64 t ∧ a = .int .i64 (atF L k t) ∧ c = .int .i64 (cntF z p L k t)) (fun _ _ i => L.length - (intOf i).toNat)
      case atStart => exact ⟨0, Nat.zero_le _, rfl, rfl, rfl⟩
      case round =>
        obtain ⟨t, ht, rfl, rfl, rfl⟩ := hrel
        have hc2 := cntF_le z p L k t
        by_cases htl : t < L.length
        · obtain ⟨m, hm, hmn⟩ := HM.out (zv L t) (by rw [zv, getD_in htl]; exact List.getElem_mem htl)
          obtain ⟨b5, o5, rfl, _, hb5, hc5⟩ := HB5.out.get (by omega)
          have c3 : w5.cell? ⟨b5, o5 + t, none⟩ = some (.int .i64 m) := by rw [← hm]; exact hc5 t htl
          have c4 : w5.cell? ⟨b, off + m, none⟩ = some (.int .u8 (zv z m)) := (HW5.out.cell (p := ⟨b, off + m, none⟩) hb).trans (HC.out m hmn)
          have hz := HA.out.u8 m
          have hz0 := hz.1
          have hz1 := hz.2
          clear hz hc5 hkx hpy
          by_cases hmk : m = k
          · subst hmk
            have HT : Hid (atF L m (t + 1) = t ∧ cntF z p L m (t + 1) = cntF z p L m t) := ⟨by rw [atF, if_pos hm], by rw [cntF, if_neg (fun h => h.1 hm)]⟩
            clear hm
            go_wp2
            go_round
            case rel => exact ⟨t + 1, by omega, by go_num, by rw [HT.out.1], by rw [HT.out.2]⟩
            case measure => simp [intOf] <;> omega
          · have hmk' : ((m : Int) == (k : Int)) = false := by simp; omega
            have hne : zv L t ≠ k := by rw [hm]; omega
            have HT0 : Hid (atF L k (t + 1) = atF L k t) := by show _ = _; rw [atF, if_neg hne]
            by_cases hle : zq z m ≤ p
            · have HT1 : Hid (cntF z p L k (t + 1) = cntF z p L k t + 1) := by show _ = _; rw [cntF, if_pos ⟨hne, by rw [hm, Int.toNat_natCast]; exact hle⟩]
              rcases Int.lt_or_eq_of_le hle with h | h
              · have hq1 : zv z m % 9 < p := h
                clear hm hne hle h
                go_wp2
                go_round
                case rel => exact ⟨t + 1, by omega, by go_num, by rw [HT0.out], by rw [HT1.out]; go_num⟩
                case measure => simp [intOf] <;> omega
              · have hq1 : zv z m % 9 = p := h
                clear hm hne hle h
                go_wp2
                go_round
                case rel => exact ⟨t + 1, by omega, by go_num, by rw [HT0.out], by rw [HT1.out]; go_num⟩
                case measure => simp [intOf] <;> omega
            · have HT1 : Hid (cntF z p L k (t + 1) = cntF z p L k t) := by show _ = _; rw [cntF, if_neg (fun g => hle (by have := g.2; rw [hm, Int.toNat_natCast] at this; exact this))]
              have hq1 : p < zv z m % 9 := by have : ¬ zv z m % 9 ≤ p := hle; omega
              have hq2 : ¬ zv z m % 9 < p := by omega
              have hq3 : (zv z m % 9 == p) = false := by simp; omega
              clear hm hne hle hq1
              go_wp2
              go_round
              case rel => exact ⟨t + 1, by omega, by go_num, by rw [HT0.out], by rw [HT1.out]⟩
              case measure => simp [intOf] <;> omega
        · obtain rfl : t = L.length := by omega
          have c4 : w5.cell? ⟨b, off + k, none⟩ = some (.int .u8 (zv z k)) := (HW5.out.cell (p := ⟨b, off + k, none⟩) hb).trans (HC.out k hk)
          have hz := HA.out.u8 k
          have hz0 := hz.1
          have hz1 := hz.2
          clear hz hkx hpy
          by_cases hs : zq z k = p
          · have hs' : (p == zv z k % 9) = true := beq_iff_eq.2 hs.symm
            have hAe := HS.out hs
            clear hs
            subst hAe
            go_wp2
            go_loopw [16] (fun i wi => ∃ t : Nat, t ≤ L.length ∧ i = .int .i64 t ∧ Below w5.heap.size w5 wi) (fun i _ => L.length - (intOf i).toNat)
            case atStart => exact ⟨0, Nat.zero_le _, rfl, Below.refl _ _⟩
            case round =>
              obtain ⟨t, ht, rfl, hbi⟩ := hrel
              have HBI := Lib.hid hbi
              clear hbi
              by_cases htl : t < L.length
              · obtain ⟨b3, o3, rfl, _, hb3, hc3⟩ := HA5.out.get (by omega)
                obtain ⟨b5, o5, rfl, _, hb5, hc5⟩ := HB5.out.get (by omega)
                have d3 : wr.cell? ⟨b3, o3 + t, none⟩ = some (.int .i64 (zv L t)) := (HBI.out.cell (p := ⟨b3, o3 + t, none⟩) hb3).trans (hc3 t htl)
                have d5 : wr.cell? ⟨b5, o5 + t, none⟩ = some (.int .i64 (zv L t)) := (HBI.out.cell (p := ⟨b5, o5 + t, none⟩) hb5).trans (hc5 t htl)
                have hi3 : (t : Int) < (L.length : Int) := by omega
                clear hc3 hc5
                go_wp2
                go_quiet (fail)
                go_wp2
                go_roundw
                case rel => exact ⟨t + 1, by omega, by go_num, HBI.out.trans ⟨rfl, rfl, rfl, Nat.le_refl _, fun _ _ => rfl⟩⟩
                case measure => simp [intOf] <;> omega
              · go_wp2
                go_ret
                exact ⟨rfl, HW5.out.trans (HBI.out.mono HW5.out.size)⟩
          · have hs' : (p == zv z k % 9) = false := beq_eq_false_iff_ne.2 (fun e => hs e.symm)
            have hat := HO.out hs
            have HAT := Lib.hid hat
            clear hs hat
            go_wp2
            go_ret
            exact ⟨ret_bool (by rw [HAT.out]; simp), HW5.out⟩

/-! The row's step. -/
theorem own : ownKnob Try.prog.godebug = none := by kernel_rfl
theorem laidOut : laidOutB Try.prog = true := by kernel_rfl

set_option maxRecDepth 100000 in
theorem lifted (os : Os) (started : os.Started) (H : Type) (enc : TypeId × Value → H) :
    ReturnsInHanded {} Try.checked os 7 .any (Rows.readyChangeSpec.pre6 enc Try.prog Try.f7 Rows.readyChangeRow.domain false) (Rows.readyChangeSpec.post enc Try.prog Try.f7 false true false false) := by
  refine returnsInHanded_of_change (C := Try.checked) own started (by kernel_rfl) Try.func7
    (ChangeSpec.witness6 (enc := enc) (C := Try.checked) false ⟨#[], #[.slice none 0 0, .int .u8 0, .int .u8 0], []⟩ 8 (by kernel_rfl) (by kernel_rfl) (by kernel_rfl) (by kernel_rfl)) ?_
  intro W base args ds gs before hval0 hW hcnd _
  have hval : ∀ (j : Nat) t v, Try.f7.params[j]? = some t → args[j]? = some v → Value.okWide Try.prog W .any base t v := hval0
  have hW' := hW
  obtain ⟨p, q, hA0, hV, rfl, hfz, hnd⟩ := hW
  have hA : DataW.TrodAll enc Try.prog W 0 (fun _ => true) true Try.f7.params.toList args.toList ds p := hA0
  rw [Try.params7] at hA hval
  obtain ⟨v0, vs0, d0, ds0, p0, q0, hargs, rfl, rfl, h0, r0⟩ := trodAll_cons hA
  obtain ⟨v1, vs1, d1, ds1, p1, q1, rfl, rfl, rfl, h1, r1⟩ := trodAll_cons r0
  obtain ⟨v2, vs2, d2, ds2, p2, q2, rfl, rfl, rfl, h2, r2⟩ := trodAll_cons r1
  obtain ⟨rfl, rfl, rfl⟩ := trodAll_nil r2
  obtain rfl : args = #[v0, v1, v2] := by cases args; simp_all
  obtain ⟨rfl, rfl⟩ := trodVars_none hV
  obtain ⟨a0, len0, cap0, rfl⟩ := okWide_slice Try.underlying22 (hval 0 22 v0 rfl rfl)
  have k0 := h0
  have lt0 : ∀ x ∈ p0, x.block < W.heap.size := by obtain ⟨m, hm⟩ := k0; exact DataW.trod_lt m _ _ _ hm
  obtain ⟨z0, w0⟩ : ∃ zs, ArgInts .u8 W a0 len0 zs := by
    obtain ⟨fuel, hf⟩ := h0
    rcases open_ints Try.underlying22 Try.underlying5 (by kernel_rfl) hf with ⟨hcs, _⟩ | ⟨x, l, c, zs, hcs, _, hl, hm, hz, _, hcell, hwz⟩
    · simp [Value.cells] at hcs
      obtain ⟨rfl, rfl, rfl⟩ := hcs
      exact ⟨[], rfl, by omega, by simp, fun h => by omega⟩
    · simp [Value.cells] at hcs
      obtain ⟨rfl, rfl, rfl⟩ := hcs
      exact ⟨zs.take len0, argInts_of_ints hl hm (by simpa using hz) hcell hwz⟩
  obtain ⟨x1, rfl, rfl, rfl, w1⟩ := open_int Try.underlying5 (hval 1 5 v1 rfl rfl) h1
  obtain ⟨x2, rfl, rfl, rfl, w2⟩ := open_int Try.underlying5 (hval 2 5 v2 rfl rfl) h2
  clear hA0 hval0
  refine (walk a0 len0 cap0 z0 x1 x2 W w0 w1 w2).mono fun e W' ⟨he, bel⟩ => ?_
  subst he
  exact ⟨_, rfl, _, _, _, [], _, [], hW', trodAll_mk1 (shut_bool Try.underlying4 _), (trodAll_cons_mk (Below.trod laidOut (by kernel_rfl) (of_decide_eq_true (by kernel_rfl)) k0 bel lt0) (trodAll_cons_mk (shut_int Try.underlying5 w1) (trodAll_cons_mk (shut_int Try.underlying5 w2) trodAll_mk0))), rfl, bel.frame _, fun h => by cases h⟩

theorem over : Rows.readyChangeRow.holds Try.pinned (OpenSpec.ofChange Rows.readyChangeSpec) :=
  OpenClaim.holds_of_wide 7 Try.f7 rfl rfl rfl rfl rfl rfl rfl ⟨rfl, rfl, rfl, rfl, rfl⟩ rfl rfl rfl rfl rfl (by kernel_rfl) Try.func7 (by kernel_rfl)
    (of_decide_eq_true (by kernel_rfl)) (by unfold Func.isWrapper; first | (rw [if_pos (by decide +kernel)]; kernel_rfl) | (rw [if_neg (by decide +kernel)]; exact ⟨rfl, rfl⟩))
    (fun os started H enc _ => lifted os started H enc)

/-- The statement. -/
theorem proved : Rows.ReadyChangeSaid := over
#print axioms proved

end Go.Proofs.Ytelehfcjajipiaa.readyChange
