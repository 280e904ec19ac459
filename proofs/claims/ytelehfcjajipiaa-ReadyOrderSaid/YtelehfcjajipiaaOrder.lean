/-
  ReadyOrder: for every slice of bytes the law answers true, and what it was handed reads as it did. No condition.
-/
import Derived.Test.YtelehfcjajipiaaOrderP
import Derived.Test.YtelehfcjajipiaaReadyAwake
import Derived.Test.YtelehfcjajipiaaRows
import Derived.ProofKit
import Derived.OpenShut
import Derived.ShutString
import Derived.ChangeOld
namespace Go.Proofs.Ytelehfcjajipiaa.readyOrder
open Go.ChangeShapes Go.WideShapes Go.ChangeAt Go.RowKit

set_option maxHeartbeats 4000000 in
set_option maxRecDepth 100000 in
theorem walk (a0 : Option Addr) (n cap0 : Nat) (z : List Int) (w : World) (ha : ArgInts .u8 w a0 n z) :
    Calls Try.prog 3 #[.slice a0 n cap0] w fun e w' => e = .returned (.bool true) ∧ Below w.heap.size w w' := by
  have HA := Lib.hid ha
  have hn63 : n ≤ 9223372036854775807 := ha.2.1
  clear ha
  by_cases hbig : 64 < n
  · go_enter Try.func3, Try.ntmps3
    go_wp2_with (go_at_call 8; refine (awake_any _).mono ?_; rintro e w1 ⟨rfl, hb1⟩)
    go_ret
    exact ⟨rfl, hb1⟩
  · have hn : n ≤ 64 := by omega
    go_enter Try.func3, Try.ntmps3
    go_wp2_with (first | (go_at_call 8; refine (awake_any _).mono ?_; rintro e w1 ⟨rfl, hb1⟩) | (go_at_call 9; refine (new_st w _ hb1).mono ?_; rintro e w2 ⟨rfl, hq2⟩))
    have HQ2 := Lib.hid hq2
    clear hq2
    go_loopw [4] (fun i wr => ∃ k : Nat, k ≤ n ∧ i = .int .i64 k ∧ QSt w wr w1.heap.size (ordR z k)) (fun i _ => n - (intOf i).toNat)
    case atStart => exact ⟨0, Nat.zero_le _, rfl, HQ2.out⟩
    case round =>
      obtain ⟨k, hk, rfl, hq⟩ := hrel
      have HQ := Lib.hid hq
      clear hq
      by_cases hlt : k < n
      · obtain ⟨b, off, rfl, hb, hc⟩ := HA.out.get (by omega)
        have hz := HA.out.u8 k
        have hz0 := hz.1
        have hz1 := hz.2
        have hcell : wr.cell? ⟨b, off + k, none⟩ = some (.int .u8 (zv z k)) := (HQ.out.below.cell (p := ⟨b, off + k, none⟩) hb).trans (hc k hlt)
        have HO := Lib.hid (ordR_come (z := z) (k := k) (by omega))
        clear hc hz
        go_wp2_with fail
        refine (come_st w _ (ordR z k) k (zv z k % 101) _ HQ.out (fun i => Nat.le_trans (ordR_len z k i) (by omega))).mono ?_
        rw [show zv z k % 101 = zp z k from rfl, HO.out.1, HO.out.2]
        rintro e w3 ⟨rfl, hq3⟩
        go_wp2
        go_roundw
        case rel => exact ⟨k + 1, by omega, by go_num, hq3⟩
        case measure => simp [intOf] <;> omega
      · obtain rfl : k = n := by omega
        go_wp2
        go_loopw [5, 6] (fun l i wr => ∃ (t : Nat) (r : Nat → List Int) (la : Int), t ≤ k ∧ i = .int .i64 t ∧ l = .int .i64 la ∧ OInv z k r t la ∧ QSt w wr w1.heap.size r) (fun _ i _ => k - (intOf i).toNat)
        case atStart => exact ⟨0, ordR z k, -1, Nat.zero_le _, rfl, rfl, OInv.start z k, HQ.out⟩
        case round =>
          obtain ⟨t, r, la, ht, rfl, rfl, hoi, hq⟩ := hrel
          have HR := Lib.hid hq
          have HI := Lib.hid hoi
          clear hq hoi
          by_cases hltt : t < k
          · obtain ⟨p, m, hp, hm, hzm, hfv, hgc, hnx, hla⟩ := HI.out.next hltt
            obtain ⟨b, off, rfl, hb, hc⟩ := HA.out.get (by omega)
            have hz := HA.out.u8 m
            have hz0 := hz.1
            have hz1 := hz.2
            have HZ : Hid (zv z m % 101 = p) := hzm
            have HF := Lib.hid hfv
            have HG := Lib.hid hgc
            have HN := Lib.hid hnx
            have HB := Lib.hid HR.out.below
            have hcm : wr.cell? ⟨b, off + m, none⟩ = some (.int .u8 (zv z m)) := (HB.out.cell (p := ⟨b, off + m, none⟩) hb).trans (hc m hm)
            rcases hla with rfl | ⟨j, rfl, hj, hjp⟩
            · clear hc hz hzm hfv hgc hnx
              go_wp2_with fail
              refine (first_st w _ r _ HR.out).mono ?_
              rw [HF.out]
              rintro e w3 ⟨rfl, rfl⟩
              have hzm := HZ.out
              go_wp2_with (go_at_call 12; refine (go_st w _ r m _ HR.out).mono ?_; rw [HG.out]; rintro e w4 ⟨rfl, hq4⟩)
              go_roundw
              case rel => exact ⟨t + 1, _, _, by omega, by go_num, rfl, HN.out, hq4⟩
              case measure => simp [intOf] <;> omega
            · have HC := Lib.hid (hc j hj)
              have hy := HA.out.u8 j
              have hy0 := hy.1
              have hy1 := hy.2
              rcases hjp with hjp | ⟨hjp, hjm⟩
              · clear hc hz hzm hfv hgc hnx hy
                have hlt1 : zv z j % 101 < (p : Int) := hjp
                clear hjp
                go_wp2_with fail
                refine (first_st w _ r _ HR.out).mono ?_
                rw [HF.out]
                rintro e w3 ⟨rfl, rfl⟩
                have hzm := HZ.out
                go_wp2_with (go_at_call 12; refine (go_st w _ r m _ HR.out).mono ?_; rw [HG.out]; rintro e w4 ⟨rfl, hq4⟩; have hcj : w4.cell? ⟨b, off + j, none⟩ = some (.int .u8 (zv z j)) := (hq4.below.cell (p := ⟨b, off + j, none⟩) hb).trans HC.out)
                go_roundw
                case rel => exact ⟨t + 1, _, _, by omega, by go_num, rfl, HN.out, hq4⟩
                case measure => simp [intOf] <;> omega
              · clear hc hz hzm hfv hgc hnx hy
                have HJ : Hid (zv z j % 101 = p) := hjp
                clear hjp
                go_wp2_with fail
                refine (first_st w _ r _ HR.out).mono ?_
                rw [HF.out]
                rintro e w3 ⟨rfl, rfl⟩
                have hzm := HZ.out
                have hjp := HJ.out
                go_wp2_with (go_at_call 12; refine (go_st w _ r m _ HR.out).mono ?_; rw [HG.out]; rintro e w4 ⟨rfl, hq4⟩; have hcj : w4.cell? ⟨b, off + j, none⟩ = some (.int .u8 (zv z j)) := (hq4.below.cell (p := ⟨b, off + j, none⟩) hb).trans HC.out)
                go_roundw
                case rel => exact ⟨t + 1, _, _, by omega, by go_num, rfl, HN.out, hq4⟩
                case measure => simp [intOf] <;> omega
          · obtain rfl : t = k := by omega
            have HS := Lib.hid HI.out.stop
            have HL := Lib.hid HI.out.row
            go_wp2_with fail
            refine (first_st w _ r _ HR.out).mono ?_
            rw [HS.out.1]
            rintro e w3 ⟨rfl, rfl⟩
            go_wp2_with (go_at_call 13; refine (all_st w _ r _ HR.out (fun i => Nat.le_trans (HL.out i) (by omega))).mono ?_; rw [HS.out.2]; rintro e w4 ⟨ao, cap, rfl, _, hq4, _⟩)
            go_ret
            exact ⟨rfl, hq4.below⟩

/-! The row's step. -/
theorem own : ownKnob Try.prog.godebug = none := by kernel_rfl
theorem laidOut : laidOutB Try.prog = true := by kernel_rfl

set_option maxRecDepth 100000 in
theorem lifted (os : Os) (started : os.Started) (H : Type) (enc : TypeId × Value → H) :
    ReturnsInHanded {} Try.checked os 3 .any (Rows.readyOrderSpec.pre6 enc Try.prog Try.f3 Rows.readyOrderRow.domain false) (Rows.readyOrderSpec.post enc Try.prog Try.f3 false true false false) := by
  refine returnsInHanded_of_change (C := Try.checked) own started (by kernel_rfl) Try.func3
    (ChangeSpec.witness6 (enc := enc) (C := Try.checked) false ⟨#[], #[.slice none 0 0], []⟩ 8 (by kernel_rfl) (by kernel_rfl) (by kernel_rfl) (by kernel_rfl)) ?_
  intro W base args ds gs before hval0 hW hcnd _
  have hval : ∀ (j : Nat) t v, Try.f3.params[j]? = some t → args[j]? = some v → Value.okWide Try.prog W .any base t v := hval0
  have hW' := hW
  obtain ⟨p, q, hA0, hV, rfl, hfz, hnd⟩ := hW
  have hA : DataW.TrodAll enc Try.prog W 0 (fun _ => true) true Try.f3.params.toList args.toList ds p := hA0
  rw [Try.params3] at hA hval
  obtain ⟨v0, vs0, d0, ds0, p0, q0, hargs, rfl, rfl, h0, r0⟩ := trodAll_cons hA
  obtain ⟨rfl, rfl, rfl⟩ := trodAll_nil r0
  obtain rfl : args = #[v0] := by cases args; simp_all
  obtain ⟨rfl, rfl⟩ := trodVars_none hV
  obtain ⟨a0, len0, cap0, rfl⟩ := okWide_slice Try.underlying22 (hval 0 22 v0 rfl rfl)
  have k0 := h0
  have lt0 : ∀ x ∈ p0, x.block < W.heap.size := by obtain ⟨m, hm⟩ := k0; exact DataW.trod_lt m _ _ _ hm
  obtain ⟨z0, w0⟩ : ∃ zs, ArgInts .u8 W a0 len0 zs := by
    obtain ⟨fuel, hf⟩ := h0
    rcases open_ints Try.underlying22 Try.underlying5 (by kernel_rfl) hf with ⟨hcs, _⟩ | ⟨x, l, c, zs, hcs, _, hl, hm, hz, _, hcell, hwz⟩
    · simp [Value.cells] at hcs
      obtain ⟨rfl, rfl, rfl⟩ := hcs
      exact ⟨[], rfl, by omega, by simp, fun h => by omega⟩
    · simp [Value.cells] at hcs
      obtain ⟨rfl, rfl, rfl⟩ := hcs
      exact ⟨zs.take len0, argInts_of_ints hl hm (by simpa using hz) hcell hwz⟩
  clear hA0 hval0
  refine (walk a0 len0 cap0 z0 W w0).mono fun e W' ⟨he, bel⟩ => ?_
  subst he
  exact ⟨_, rfl, _, _, _, [], _, [], hW', trodAll_mk1 (shut_bool Try.underlying4 _), (trodAll_cons_mk (Below.trod laidOut (by kernel_rfl) (of_decide_eq_true (by kernel_rfl)) k0 bel lt0) trodAll_mk0), rfl, bel.frame _, fun h => by cases h⟩

theorem over : Rows.readyOrderRow.holds Try.pinned (OpenSpec.ofChange Rows.readyOrderSpec) :=
  OpenClaim.holds_of_wide 3 Try.f3 rfl rfl rfl rfl rfl rfl rfl ⟨rfl, rfl, rfl, rfl, rfl⟩ rfl rfl rfl rfl rfl (by kernel_rfl) Try.func3 (by kernel_rfl)
    (of_decide_eq_true (by kernel_rfl)) (by unfold Func.isWrapper; first | (rw [if_pos (by decide +kernel)]; kernel_rfl) | (rw [if_neg (by decide +kernel)]; exact ⟨rfl, rfl⟩))
    (fun os started H enc _ => lifted os started H enc)

/-- The statement. -/
theorem proved : Rows.ReadyOrderSaid := over
#print axioms proved

end Go.Proofs.Ytelehfcjajipiaa.readyOrder
