/-
  ReadyPlays: whoever comes, goes, and changes: each answer, the first, and all as they stand, are what the document says. No condition but the statement's.
-/
import Derived.Test.YtelehfcjajipiaaRefC
import Derived.Test.YtelehfcjajipiaaReadyAwake
import Derived.Test.YtelehfcjajipiaaArgs
import Derived.Test.YtelehfcjajipiaaRows
namespace Go.Proofs.Ytelehfcjajipiaa.readyPlays
open Go.ChangeShapes Go.WideShapes Go.ChangeAt Go.RowKit Go.Proofs.Ytelehfcjajipiaa

set_option maxHeartbeats 16000000 in
set_option maxRecDepth 100000 in
theorem walk (a0 : Option Addr) (n cap0 : Nat) (z : Nat → Nat → Int) (w : World) (ha : ArgStructs [.i64, .i64, .i64] w a0 n z) :
    Calls Try.prog 6 #[.slice a0 n cap0] w fun e w' => e = .returned (.bool true) ∧ Below w.heap.size w w' := by
  have hn63 := ha.1
  have HA := Box.mk ha
  clear ha
  go_enter Try.func6, Try.ntmps6
  go_upto_region 4 with (first
    | (go_at_call 8; refine (awake_any _).mono ?_; rintro e w1 ⟨rfl, hb1⟩)
    | (go_at_call 9; refine (new_any _).mono ?_; rintro e w2 ⟨rfl, rfl⟩))
  have HP := Box.mk (P0.start w1)
  have HB1 := Box.mk hb1
  clear hb1
  go_wp2
  go_loopw [5, 6, 7, 8, 9, 10, 11, 12, 13, 14] (fun i _ _ _ _ _ _ _ _ _ wr => ∃ (k : Nat) (r : Nat → List Int), k ≤ n ∧ k ≤ 120 ∧ i = .int .i64 k ∧ Good r k ∧ P0 w1 wr w1.heap.size (w1.heap.size + 1) r r) (fun i _ _ _ _ _ _ _ _ _ _ => n - (intOf i).toNat)
  case atStart => exact ⟨0, _, Nat.zero_le _, by omega, rfl, Good.start, HP.out⟩
  case round =>
    obtain ⟨k, r, hk, hk2, rfl, hg, hp0⟩ := hrel
    have HG := Box.mk hg
    have HK : Box (k ≤ 100000) := ⟨by omega⟩
    have HLN : Box (∀ i, (r i).length ≤ 1000000) := ⟨fun i => Nat.le_trans (hg.len i) (by omega)⟩
    have HP0 := Box.mk hp0
    clear hg hp0
    by_cases hgo : k < n ∧ k < 120
    · obtain ⟨hlt, hlt2⟩ := hgo
      have HK2 : Box (k + 1 ≤ 100000) := ⟨by omega⟩
      obtain ⟨b, off, rfl, hbl, hcell⟩ := HA.out.2.2 (by omega)
      have c0 := ((HB1.out.trans (HP0.out.below.mono HB1.out.size)).cell (p := ⟨b, off + (k * 3 + 0), none⟩) hbl).trans (hcell k hlt 0 .i64 rfl)
      have c1 := ((HB1.out.trans (HP0.out.below.mono HB1.out.size)).cell (p := ⟨b, off + (k * 3 + 1), none⟩) hbl).trans (hcell k hlt 1 .i64 rfl)
      have c2 := ((HB1.out.trans (HP0.out.below.mono HB1.out.size)).cell (p := ⟨b, off + (k * 3 + 2), none⟩) hbl).trans (hcell k hlt 2 .i64 rfl)
      simp only [← Nat.add_assoc, Nat.add_zero] at c0 c1 c2
      generalize z k 0 = kd at c0
      generalize z k 1 = x at c1
      generalize z k 2 = pr at c2
      clear hcell
      go_upto_region 11 with fail
      have HS := Box.mk (HP0.out.swap (.cells #[.int .i64 kd, .int .i64 x, .int .i64 pr] 38))
      clear c0 c1 c2 HP0 HA hbl
      generalize wr.alloc (.cells #[.int .i64 kd, .int .i64 x, .int .i64 pr] 38) = V at HS ⊢
      generalize wr.heap.size = B at HS ⊢
      have d0 := cell_blk HS.out.blk 0
      have d1 := cell_blk HS.out.blk 1
      have d2 := cell_blk HS.out.blk 2
      simp only [List.getElem?_toArray, List.getElem?_cons_zero, List.getElem?_cons_succ] at d0 d1 d2
      by_cases hk0 : kd = 0
      · have e0 : (kd == 0) = true := by simp [hk0]
        clear hk0
        obtain ⟨v, hv⟩ : ∃ v, comeC r x pr = v := ⟨_, rfl⟩
        obtain ⟨r2, hr2⟩ : ∃ r2, come r x pr = r2 := ⟨_, rfl⟩
        have HV := Box.mk hv
        have HR := Box.mk hr2
        have HG2 : Box (Good r2 (k + 1)) := ⟨hr2 ▸ HG.out.come x pr⟩
        obtain ⟨fa, fb, fc, hfv⟩ : ∃ a b c, firstV r2 = .tuple #[.int .i64 a, .int .i64 b, .int .i64 c] := by
          unfold firstV; cases first r2 <;> exact ⟨_, _, _, rfl⟩
        have HFV := Box.mk hfv
        have HLN2 : Box (∀ i, (r2 i).length ≤ 1000000) := ⟨fun i => Nat.le_trans (HG2.out.len i) (by omega)⟩
        obtain ⟨l, hl⟩ : ∃ l, allQ r2 = l := ⟨_, rfl⟩
        obtain ⟨ln, hln⟩ : ∃ ln, l.length = ln := ⟨_, rfl⟩
        have HL := Box.mk hl
        have HLn := Box.mk hln
        have hln6 : ln ≤ 1000000 := by
          rw [← hln, ← hl, ← ids_all, ids_len]
          exact Nat.le_trans HG2.out.all (by omega)
        clear hv hr2 hfv hl hln
        go_wp2_with (first
          | (go_at_call 10; refine (qcome_ps w1 _ w1.heap.size (w1.heap.size + 1) r r B (.cells #[.int .i64 kd, .int .i64 x, .int .i64 pr] 38) HS.out x pr HLN.out v HV.out r2 HR.out).mono ?_; rintro e w2 ⟨rfl, hs2⟩; have HS := Box.mk hs2; clear hs2; have d0 := cell_blk HS.out.blk 0; have d1 := cell_blk HS.out.blk 1; have d2 := cell_blk HS.out.blk 2; simp only [List.getElem?_toArray, List.getElem?_cons_zero, List.getElem?_cons_succ] at d0 d1 d2)
          | (go_at_call 14; refine (rcome_ps w1 _ w1.heap.size (w1.heap.size + 1) r2 r B (.cells #[.int .i64 kd, .int .i64 x, .int .i64 pr] 38) HS.out x pr k HG.out HK.out v HV.out r2 HR.out).mono ?_; rintro e w2 ⟨rfl, hs2⟩; have HS := Box.mk hs2; clear hs2; have d0 := cell_blk HS.out.blk 0; have d1 := cell_blk HS.out.blk 1; have d2 := cell_blk HS.out.blk 2; simp only [List.getElem?_toArray, List.getElem?_cons_zero, List.getElem?_cons_succ] at d0 d1 d2)
          | (go_at_call 11; refine (qfirst_ps w1 _ w1.heap.size (w1.heap.size + 1) r2 r2 B (.cells #[.int .i64 kd, .int .i64 x, .int .i64 pr] 38) HS.out _ HFV.out).mono ?_; rintro e w2 ⟨rfl, hs2⟩; have HS := Box.mk hs2; clear hs2)
          | (go_at_call 18; refine (rfirst_ps w1 _ w1.heap.size (w1.heap.size + 1) r2 r2 B (.cells #[.int .i64 kd, .int .i64 x, .int .i64 pr] 38) HS.out _ HFV.out).mono ?_; rintro e w2 ⟨rfl, hs2⟩; have HS := Box.mk hs2; clear hs2)
          | (go_at_call 13; refine (qall_ps w1 _ w1.heap.size (w1.heap.size + 1) r2 r2 B (.cells #[.int .i64 kd, .int .i64 x, .int .i64 pr] 38) HS.out HLN2.out l HL.out ln HLn.out).mono ?_; rintro e w2 ⟨ao, ca, rfl, hrow, hs2⟩; have HS := Box.mk hs2; have HRow := Box.mk hrow; clear hs2 hrow)
          | (go_at_call 20; refine (rall_ps w1 _ w1.heap.size (w1.heap.size + 1) r2 r2 B (.cells #[.int .i64 kd, .int .i64 x, .int .i64 pr] 38) HS.out (k + 1) HG2.out HK2.out l HL.out ln HLn.out).mono ?_; rintro e w3 ⟨ao2, ca2, rfl, hrow2, hs3, hb3⟩; have HRow := Box.mk (HRow.out.fr (Fr.of_below (F := fun _ => False) hb3) (fun _ _ h => h)); have HRow2 := Box.mk hrow2; have HS := Box.mk hs3; clear hs3 hrow2 hb3)
          | (go_at_call 19; refine (rints_any _ _ ao ao2 ln ca ca2 l _ HRow.out HRow2.out hln6).mono ?_; rintro e w4 ⟨rfl, hb4⟩; have HS := Box.mk (HS.out.later hb4); clear hb4))
        go_roundw
        case rel => exact ⟨k + 1, r2, by omega, by omega, by go_num, HG2.out, HS.out.zero⟩
        case measure => simp [intOf] <;> omega
      · have e0 : (kd == 0) = false := by simp [hk0]
        clear hk0
        by_cases hk1 : kd = 1
        · have e1 : (kd == 1) = true := by simp [hk1]
          clear hk1
          obtain ⟨v, hv⟩ : ∃ v, goC r x = v := ⟨_, rfl⟩
          obtain ⟨r2, hr2⟩ : ∃ r2, goR r x = r2 := ⟨_, rfl⟩
          have HV := Box.mk hv
          have HR := Box.mk hr2
          have HG2 : Box (Good r2 (k + 1)) := ⟨hr2 ▸ (HG.out.go x).mono (Nat.le_succ k)⟩
          obtain ⟨fa, fb, fc, hfv⟩ : ∃ a b c, firstV r2 = .tuple #[.int .i64 a, .int .i64 b, .int .i64 c] := by
            unfold firstV; cases first r2 <;> exact ⟨_, _, _, rfl⟩
          have HFV := Box.mk hfv
          have HLN2 : Box (∀ i, (r2 i).length ≤ 1000000) := ⟨fun i => Nat.le_trans (HG2.out.len i) (by omega)⟩
          obtain ⟨l, hl⟩ : ∃ l, allQ r2 = l := ⟨_, rfl⟩
          obtain ⟨ln, hln⟩ : ∃ ln, l.length = ln := ⟨_, rfl⟩
          have HL := Box.mk hl
          have HLn := Box.mk hln
          have hln6 : ln ≤ 1000000 := by
            rw [← hln, ← hl, ← ids_all, ids_len]
            exact Nat.le_trans HG2.out.all (by omega)
          clear hv hr2 hfv hl hln
          go_wp2_with (first
            | (go_at_call 12; refine (qgo_ps w1 _ w1.heap.size (w1.heap.size + 1) r r B (.cells #[.int .i64 kd, .int .i64 x, .int .i64 pr] 38) HS.out x v HV.out r2 HR.out).mono ?_; rintro e w2 ⟨rfl, hs2⟩; have HS := Box.mk hs2; clear hs2; have d0 := cell_blk HS.out.blk 0; have d1 := cell_blk HS.out.blk 1; have d2 := cell_blk HS.out.blk 2; simp only [List.getElem?_toArray, List.getElem?_cons_zero, List.getElem?_cons_succ] at d0 d1 d2)
            | (go_at_call 15; refine (rgo_ps w1 _ w1.heap.size (w1.heap.size + 1) r2 r B (.cells #[.int .i64 kd, .int .i64 x, .int .i64 pr] 38) HS.out x k HG.out HK.out v HV.out r2 HR.out).mono ?_; rintro e w2 ⟨rfl, hs2⟩; have HS := Box.mk hs2; clear hs2; have d0 := cell_blk HS.out.blk 0; have d1 := cell_blk HS.out.blk 1; have d2 := cell_blk HS.out.blk 2; simp only [List.getElem?_toArray, List.getElem?_cons_zero, List.getElem?_cons_succ] at d0 d1 d2)
            | (go_at_call 11; refine (qfirst_ps w1 _ w1.heap.size (w1.heap.size + 1) r2 r2 B (.cells #[.int .i64 kd, .int .i64 x, .int .i64 pr] 38) HS.out _ HFV.out).mono ?_; rintro e w2 ⟨rfl, hs2⟩; have HS := Box.mk hs2; clear hs2)
            | (go_at_call 18; refine (rfirst_ps w1 _ w1.heap.size (w1.heap.size + 1) r2 r2 B (.cells #[.int .i64 kd, .int .i64 x, .int .i64 pr] 38) HS.out _ HFV.out).mono ?_; rintro e w2 ⟨rfl, hs2⟩; have HS := Box.mk hs2; clear hs2)
            | (go_at_call 13; refine (qall_ps w1 _ w1.heap.size (w1.heap.size + 1) r2 r2 B (.cells #[.int .i64 kd, .int .i64 x, .int .i64 pr] 38) HS.out HLN2.out l HL.out ln HLn.out).mono ?_; rintro e w2 ⟨ao, ca, rfl, hrow, hs2⟩; have HS := Box.mk hs2; have HRow := Box.mk hrow; clear hs2 hrow)
            | (go_at_call 20; refine (rall_ps w1 _ w1.heap.size (w1.heap.size + 1) r2 r2 B (.cells #[.int .i64 kd, .int .i64 x, .int .i64 pr] 38) HS.out (k + 1) HG2.out HK2.out l HL.out ln HLn.out).mono ?_; rintro e w3 ⟨ao2, ca2, rfl, hrow2, hs3, hb3⟩; have HRow := Box.mk (HRow.out.fr (Fr.of_below (F := fun _ => False) hb3) (fun _ _ h => h)); have HRow2 := Box.mk hrow2; have HS := Box.mk hs3; clear hs3 hrow2 hb3)
            | (go_at_call 19; refine (rints_any _ _ ao ao2 ln ca ca2 l _ HRow.out HRow2.out hln6).mono ?_; rintro e w4 ⟨rfl, hb4⟩; have HS := Box.mk (HS.out.later hb4); clear hb4))
          go_roundw
          case rel => exact ⟨k + 1, r2, by omega, by omega, by go_num, HG2.out, HS.out.zero⟩
          case measure => simp [intOf] <;> omega
        · have e1 : (kd == 1) = false := by simp [hk1]
          clear hk1
          obtain ⟨v, hv⟩ : ∃ v, chgC r x pr = v := ⟨_, rfl⟩
          obtain ⟨r2, hr2⟩ : ∃ r2, chg r x pr = r2 := ⟨_, rfl⟩
          have HV := Box.mk hv
          have HR := Box.mk hr2
          have HG2 : Box (Good r2 (k + 1)) := ⟨hr2 ▸ HG.out.chg x pr⟩
          obtain ⟨fa, fb, fc, hfv⟩ : ∃ a b c, firstV r2 = .tuple #[.int .i64 a, .int .i64 b, .int .i64 c] := by
            unfold firstV; cases first r2 <;> exact ⟨_, _, _, rfl⟩
          have HFV := Box.mk hfv
          have HLN2 : Box (∀ i, (r2 i).length ≤ 1000000) := ⟨fun i => Nat.le_trans (HG2.out.len i) (by omega)⟩
          obtain ⟨l, hl⟩ : ∃ l, allQ r2 = l := ⟨_, rfl⟩
          obtain ⟨ln, hln⟩ : ∃ ln, l.length = ln := ⟨_, rfl⟩
          have HL := Box.mk hl
          have HLn := Box.mk hln
          have hln6 : ln ≤ 1000000 := by
            rw [← hln, ← hl, ← ids_all, ids_len]
            exact Nat.le_trans HG2.out.all (by omega)
          clear hv hr2 hfv hl hln
          go_wp2_with (first
            | (go_at_call 16; refine (qchange_ps w1 _ w1.heap.size (w1.heap.size + 1) r r B (.cells #[.int .i64 kd, .int .i64 x, .int .i64 pr] 38) HS.out x pr HLN.out v HV.out r2 HR.out).mono ?_; rintro e w2 ⟨rfl, hs2⟩; have HS := Box.mk hs2; clear hs2; have d0 := cell_blk HS.out.blk 0; have d1 := cell_blk HS.out.blk 1; have d2 := cell_blk HS.out.blk 2; simp only [List.getElem?_toArray, List.getElem?_cons_zero, List.getElem?_cons_succ] at d0 d1 d2)
            | (go_at_call 17; refine (rchange_ps w1 _ w1.heap.size (w1.heap.size + 1) r2 r B (.cells #[.int .i64 kd, .int .i64 x, .int .i64 pr] 38) HS.out x pr k HG.out HK.out v HV.out r2 HR.out).mono ?_; rintro e w2 ⟨rfl, hs2⟩; have HS := Box.mk hs2; clear hs2; have d0 := cell_blk HS.out.blk 0; have d1 := cell_blk HS.out.blk 1; have d2 := cell_blk HS.out.blk 2; simp only [List.getElem?_toArray, List.getElem?_cons_zero, List.getElem?_cons_succ] at d0 d1 d2)
            | (go_at_call 11; refine (qfirst_ps w1 _ w1.heap.size (w1.heap.size + 1) r2 r2 B (.cells #[.int .i64 kd, .int .i64 x, .int .i64 pr] 38) HS.out _ HFV.out).mono ?_; rintro e w2 ⟨rfl, hs2⟩; have HS := Box.mk hs2; clear hs2)
            | (go_at_call 18; refine (rfirst_ps w1 _ w1.heap.size (w1.heap.size + 1) r2 r2 B (.cells #[.int .i64 kd, .int .i64 x, .int .i64 pr] 38) HS.out _ HFV.out).mono ?_; rintro e w2 ⟨rfl, hs2⟩; have HS := Box.mk hs2; clear hs2)
            | (go_at_call 13; refine (qall_ps w1 _ w1.heap.size (w1.heap.size + 1) r2 r2 B (.cells #[.int .i64 kd, .int .i64 x, .int .i64 pr] 38) HS.out HLN2.out l HL.out ln HLn.out).mono ?_; rintro e w2 ⟨ao, ca, rfl, hrow, hs2⟩; have HS := Box.mk hs2; have HRow := Box.mk hrow; clear hs2 hrow)
            | (go_at_call 20; refine (rall_ps w1 _ w1.heap.size (w1.heap.size + 1) r2 r2 B (.cells #[.int .i64 kd, .int .i64 x, .int .i64 pr] 38) HS.out (k + 1) HG2.out HK2.out l HL.out ln HLn.out).mono ?_; rintro e w3 ⟨ao2, ca2, rfl, hrow2, hs3, hb3⟩; have HRow := Box.mk (HRow.out.fr (Fr.of_below (F := fun _ => False) hb3) (fun _ _ h => h)); have HRow2 := Box.mk hrow2; have HS := Box.mk hs3; clear hs3 hrow2 hb3)
            | (go_at_call 19; refine (rints_any _ _ ao ao2 ln ca ca2 l _ HRow.out HRow2.out hln6).mono ?_; rintro e w4 ⟨rfl, hb4⟩; have HS := Box.mk (HS.out.later hb4); clear hb4))
          go_roundw
          case rel => exact ⟨k + 1, r2, by omega, by omega, by go_num, HG2.out, HS.out.zero⟩
          case measure => simp [intOf] <;> omega
    · by_cases hl : k < n
      · have hl2 : ¬ k < 120 := fun h => hgo ⟨hl, h⟩
        go_wp2
        go_ret
        exact ⟨rfl, HB1.out.trans (HP0.out.below.mono HB1.out.size)⟩
      · go_wp2
        go_ret
        exact ⟨rfl, HB1.out.trans (HP0.out.below.mono HB1.out.size)⟩


/-! The row's step. -/
theorem own : ownKnob Try.prog.godebug = none := by kernel_rfl
theorem laidOut : laidOutB Try.prog = true := by kernel_rfl

set_option maxRecDepth 100000 in
theorem lifted (os : Os) (started : os.Started) (H : Type) (enc : TypeId × Value → H) :
    ReturnsInHanded {} Try.checked os 6 .any (Rows.readyPlaysSpec.pre6 enc Try.prog Try.f6 Rows.readyPlaysRow.domain false) (Rows.readyPlaysSpec.post enc Try.prog Try.f6 false true false false) := by
  refine returnsInHanded_of_change (C := Try.checked) own started (by kernel_rfl) Try.func6
    (ChangeSpec.witness6 (enc := enc) (C := Try.checked) false ⟨#[], #[.slice none 0 0], []⟩ 8 (by kernel_rfl) (by kernel_rfl) (by kernel_rfl) (by kernel_rfl)) ?_
  intro W base args ds gs before hval0 hW hcnd _
  have hval : ∀ (j : Nat) t v, Try.f6.params[j]? = some t → args[j]? = some v → Value.okWide Try.prog W .any base t v := hval0
  have hW' := hW
  obtain ⟨p, q, hA0, hV, rfl, hfz, hnd⟩ := hW
  have hA : DataW.TrodAll enc Try.prog W 0 (fun _ => true) true Try.f6.params.toList args.toList ds p := hA0
  rw [Try.params6] at hA hval
  obtain ⟨v0, vs0, d0, ds0, p0, q0, hargs, rfl, rfl, h0, r0⟩ := trodAll_cons hA
  obtain ⟨rfl, rfl, rfl⟩ := trodAll_nil r0
  obtain rfl : args = #[v0] := by cases args; simp_all
  obtain ⟨rfl, rfl⟩ := trodVars_none hV
  obtain ⟨a0, len0, cap0, rfl⟩ := okWide_slice Try.underlying35 (hval 0 35 v0 rfl rfl)
  have k0 := h0
  have lt0 : ∀ x ∈ p0, x.block < W.heap.size := by obtain ⟨m, hm⟩ := k0; exact DataW.trod_lt m _ _ _ hm
  obtain ⟨z0, w0⟩ := open_structs (ks := [.i64, .i64, .i64]) Try.underlying35 Try.underlying38 (by kernel_rfl) (by kernel_rfl) (by kernel_rfl) (by decide) h0
  clear hA0 hval0
  refine (walk a0 len0 cap0 z0 W w0).mono fun e W' ⟨he, bel⟩ => ?_
  subst he
  exact ⟨_, rfl, _, _, _, [], _, [], hW', trodAll_mk1 (shut_bool Try.underlying4 _), (trodAll_cons_mk (Below.trod laidOut (by kernel_rfl) (of_decide_eq_true (by kernel_rfl)) k0 bel lt0) trodAll_mk0), rfl, bel.frame _, fun h => by cases h⟩

theorem over : Rows.readyPlaysRow.holds Try.pinned (OpenSpec.ofChange Rows.readyPlaysSpec) :=
  OpenClaim.holds_of_wide 6 Try.f6 rfl rfl rfl rfl rfl rfl rfl ⟨rfl, rfl, rfl, rfl, rfl⟩ rfl rfl rfl rfl rfl (by kernel_rfl) Try.func6 (by kernel_rfl)
    (of_decide_eq_true (by kernel_rfl)) (by unfold Func.isWrapper; first | (rw [if_pos (by decide +kernel)]; kernel_rfl) | (rw [if_neg (by decide +kernel)]; exact ⟨rfl, rfl⟩))
    (fun os started H enc _ => lifted os started H enc)

/-- The statement. -/
theorem proved : Rows.ReadyPlaysSaid := over
#print axioms proved

end Go.Proofs.Ytelehfcjajipiaa.readyPlays
