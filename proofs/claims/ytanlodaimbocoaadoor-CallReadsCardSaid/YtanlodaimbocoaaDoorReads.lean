/-
  The law of reading: what a line says is what the document's list says.
-/
import Derived.Test.YtanlodaimbocoaaDoorStQ
import Derived.Test.YtanlodaimbocoaaDoorStR
import Derived.Test.YtanlodaimbocoaaDoorArgs
import Derived.Test.YtanlodaimbocoaaDoorTie
import Derived.Test.YtanlodaimbocoaaDoorCards
import Derived.SevenTiedAt
import Derived.ChangeMaps5
namespace Go.Proofs.YtanlodaimbocoaaDoor.callReads
open Go Go.ChangeShapes Go.WideShapes Go.ChangeAt Go.RowKit Go.Proofs.YtanlodaimbocoaaDoor

set_option maxHeartbeats 16000000 in
set_option maxRecDepth 100000 in
theorem walk (s x : ByteArray) (W : World) (w0 : s.size ≤ maxLen) (w1 : x.size ≤ maxLen) (ht : Tab W) : Calls Tryd.prog 3 #[.string s, .string x] W fun e w' => e = .returned (.bool true) ∧ Below W.heap.size W w' := by
  have HA := Box.mk (awake21_any W ht)
  clear w0 w1 ht
  by_cases h1 : 500 < s.size
  · go_enter Tryd.func3, Tryd.ntmps3
    go_wp2_with (go_at_call 8; (with_reducible refine HA.out.mono ?_); rintro e w1 ⟨rfl, hb⟩; have HB := Box.mk hb; clear hb)
    go_ret
    exact ⟨rfl, HB.out⟩
  by_cases h2 : 500 < x.size
  · go_enter Tryd.func3, Tryd.ntmps3
    go_wp2_with (go_at_call 8; (with_reducible refine HA.out.mono ?_); rintro e w1 ⟨rfl, hb⟩; have HB := Box.mk hb; clear hb)
    go_ret
    exact ⟨rfl, HB.out⟩
  obtain ⟨nm, z, n, k, HP, HRP⟩ := parse_both s (by omega)
  obtain ⟨WS, N, HNW, HW, HRW⟩ := words_both s (by omega)
  obtain ⟨m, o, HN, HRN⟩ := number_both x (by omega)
  obtain ⟨m2, o2, HM, HRM⟩ := nums_both x (by omega)
  go_enter Tryd.func3, Tryd.ntmps3
  go_upto_region 6 with (first
    | (go_at_call 8; (with_reducible refine HA.out.mono ?_); rintro e w1 ⟨rfl, hb⟩; have HB1 := Box.mk hb; clear hb)
    | (go_at_call 9; (with_reducible refine (HP.out _).mono ?_); rintro e w2 ⟨ao, c, rfl, hn, hb⟩; have HB2 := Box.mk (HB1.out.trans (hb.mono HB1.out.size)); have HN2 := Box.mk hn; clear hb hn))
  obtain ⟨V, B, hV, hB, HX, HBV, HNV⟩ := keep_blk HB2.out HN2.out (.cells #[strv nm, .slice ao n c] 25)
  rw [← hV, ← hB]
  clear hV hB HB1 HB2 HN2 HP HA
  go_upto_region 7 with (go_at_call 10; (with_reducible refine (HRP.out _).mono ?_); rintro e w3 ⟨ao', c', rfl, hn, hb⟩; have HB3 := Box.mk hb; have HN3 := Box.mk hn; clear hb hn)
  obtain ⟨V2, B', hV2, hB', HX2, HBV2, HNV2⟩ := keep_blk HB3.out HN3.out (.cells #[strv nm, .slice ao' n c'] 25)
  rw [← hV2, ← hB']
  have HX := Box.mk ((HBV2.out.block B (lt_blk HX.out)).trans HX.out)
  have HNV := Box.mk (HNV.out.later HBV2.out)
  have HBV := Box.mk (HBV.out.trans (HBV2.out.mono HBV.out.size))
  clear hV2 hB' HB3 HN3 HRP HBV2
  go_wp2_with (first
    | (go_at_call 11; (with_reducible refine (HN.out _).mono ?_); rintro e w4 ⟨rfl, hb⟩; have HB4 := Box.mk hb; clear hb)
    | (go_at_call 12; (with_reducible refine (HRN.out _).mono ?_); rintro e w5 ⟨rfl, rfl⟩)
    | (go_at_call 13; (with_reducible refine (HM.out _).mono ?_); rintro e w6 ⟨rfl, hb⟩; have HB6 := Box.mk (HB4.out.trans (hb.mono HB4.out.size)); clear hb)
    | (go_at_call 14; (with_reducible refine (HRM.out _).mono ?_); rintro e w7 ⟨rfl, rfl⟩)
    | (go_at_call 16; (with_reducible refine (HW.out _).mono ?_); rintro e w8 ⟨wa, wc, rfl, hv, hb⟩; have HB8 := Box.mk (HB6.out.trans (hb.mono HB6.out.size)); have HV8 := Box.mk hv; clear hb hv)
    | (go_at_call 17; (with_reducible refine (HRW.out _).mono ?_); rintro e w9 ⟨wa', wc', rfl, hv, hb⟩; have HB9 := Box.mk (HB8.out.trans (hb.mono HB8.out.size)); have HV9 := Box.mk hv; have HV89 := Box.mk (HV8.out.later hb); clear hb hv)
    | (go_at_call 15; (with_reducible refine (texts_any _ _ _ _ _ _ WS _ HNW.out.1 rfl HV89.out HV9.out HNW.out.2).mono ?_); rintro e wx ⟨rfl, hb⟩; have HBx := Box.mk (HB9.out.trans (hb.mono HB9.out.size)); clear hb;
       have HX5 := Box.mk ((HBx.out.block B (lt_blk HX.out)).trans HX.out); have HX6 := Box.mk ((HBx.out.block B' (lt_blk HX2.out)).trans HX2.out);
       have c0 : World.cell? wx ⟨B, 0, none⟩ = some (strv nm) := (cell_blk HX5.out 0).trans rfl; have c1 : World.cell? wx ⟨B, 1, none⟩ = some (.slice ao n c) := (cell_blk HX5.out 1).trans rfl;
       have d0 : World.cell? wx ⟨B', 0, none⟩ = some (strv nm) := (cell_blk HX6.out 0).trans rfl; have d1 : World.cell? wx ⟨B', 1, none⟩ = some (.slice ao' n c') := (cell_blk HX6.out 1).trans rfl;
       have HS1 := Box.mk (HNV.out.later HBx.out); have HS2 := Box.mk (HNV2.out.later HBx.out))
    | (go_at_call 18; (with_reducible refine (rsame_call _ _ _ _ _ _ z _ HS1.out HS2.out).mono ?_); rintro e wy ⟨rfl, hb⟩; have HBy := Box.mk (HBx.out.trans (hb.mono HBx.out.size)); clear hb))
  go_ret
  exact ⟨rfl, HBV.out.trans (HBy.out.mono HBV.out.size)⟩

/-! The row's step. -/
theorem own : ownKnob Tryd.prog.godebug = none := by kernel_rfl
theorem laidOut : laidOutB Tryd.prog = true := by kernel_rfl

set_option maxRecDepth 100000 in
theorem lifted (os : Os) (started : os.Started) (H : Type) (enc : TypeId × Value → H) :
    ReturnsInHanded {} Tryd.checked os 3 .any (fun w args => (Rows.callReadsSpec.pre enc Tryd.prog Tryd.f3 [] false w args ∧ laidMetH Tryd.prog laids w) ∧ sizedMet enc Tryd.prog Tryd.f3 (OpenSpec.ofChange Rows.callReadsSpec) false w args) (Rows.callReadsSpec.post enc Tryd.prog Tryd.f3 false true false false) := by
  refine returnsInHanded_of_change_and (C := Tryd.checked) (X := fun w _ => laidMetH Tryd.prog laids w) (fun _ _ _ hh h => h.of_heap hh) own started (by kernel_rfl) Tryd.func3
    (ChangeSpec.witness_at (enc := enc) (C := Tryd.checked) (os := os) (X := fun w _ => laidMetH Tryd.prog laids w) false (laidWorld os) #[.string ⟨#[]⟩, .string ⟨#[]⟩] 8 rfl (by kernel_rfl) (by kernel_rfl) (by kernel_rfl) (by kernel_rfl) (by kernel_rfl) (laidWorld_met os _)) ?_
  intro W base args ds gs before hval0 hW hcnd _ hL _
  have hval : ∀ (j : Nat) t v, Tryd.f3.params[j]? = some t → args[j]? = some v → Value.okWide Tryd.prog W .any base t v := hval0
  have hW' := hW
  obtain ⟨p, q, hA0, hV, rfl, hfz, hnd⟩ := hW
  have hA : DataW.TrodAll enc Tryd.prog W 0 (fun _ => true) true Tryd.f3.params.toList args.toList ds p := hA0
  rw [Tryd.params3] at hA hval
  obtain ⟨v0, vs0, d0, ds0, p0, q0, hargs, rfl, rfl, h0, r0⟩ := trodAll_cons hA
  obtain ⟨v1, vs1, d1, ds1, p1, q1, rfl, rfl, rfl, h1, r1⟩ := trodAll_cons r0
  obtain ⟨rfl, rfl, rfl⟩ := trodAll_nil r1
  obtain rfl : args = #[v0, v1] := by cases args; simp_all
  obtain ⟨rfl, rfl⟩ := trodVars_none hV
  obtain ⟨x0, rfl, rfl, rfl, w0⟩ := Go.ChangeMaps.open_string Tryd.underlying9 (hval 0 9 v0 rfl rfl) h0
  obtain ⟨x1, rfl, rfl, rfl, w1⟩ := Go.ChangeMaps.open_string Tryd.underlying9 (hval 1 9 v1 rfl rfl) h1
  clear hA0 hval0
  refine (walk x0 x1 W w0 w1 (tab_of_laids hL)).mono fun e W' ⟨he, bel⟩ => ?_
  subst he
  exact ⟨_, rfl, _, _, _, [], _, [], hW', trodAll_mk1 (shut_bool Tryd.underlying4 _), (trodAll_cons_mk (Go.ChangeMaps.shut_string Tryd.underlying9 w0) (trodAll_cons_mk (Go.ChangeMaps.shut_string Tryd.underlying9 w1) trodAll_mk0)), rfl, bel.frame _, fun h => by cases h⟩

theorem over : Rows.callReadsRow.holds Tryd.pinned (OpenSpec.ofChange Rows.callReadsSpec) :=
  OpenClaim.holds_of_wide 3 Tryd.f3 rfl rfl rfl rfl rfl rfl rfl ⟨rfl, rfl, rfl, rfl, rfl⟩ rfl rfl rfl rfl rfl (by kernel_rfl) Tryd.func3 (by kernel_rfl)
    (of_decide_eq_true (by kernel_rfl)) (by unfold Func.isWrapper; first | (rw [if_pos (by decide +kernel)]; kernel_rfl) | (rw [if_neg (by decide +kernel)]; exact ⟨rfl, rfl⟩))
    (fun os started H enc _ => lifted os started H enc)

/-- The statement. -/
theorem proved : Rows.CallReadsCardSaid :=
  Claim7.holds_tied_plain_at .later [] [.data, .data, .data] true (true, "c1b01954ffc0753169e2318a28d598a11c4203c1182dc2c9381d645921c02716") true
    over (fun _ h => by cases h) (by kernel_rfl) (fun _ h => by cases h) callReads_row_tie rfl ⟨rfl, rfl⟩ (by kernel_rfl) rfl
    (fun f fn hf hfn => by
      obtain rfl : f = 3 := Option.some.inj ((show Tryd.prog.funcNamed "linchpin/linchpinlaw21.CallReads" = some 3 by kernel_rfl).symm.trans hf) |>.symm
      obtain rfl : fn = Tryd.f3 := (Option.some.inj (Tryd.func3.symm.trans hfn)).symm
      exact ⟨by kernel_rfl, fun j t ht => by
        rw [Tryd.params3] at ht
        rcases j with _ | j
        · obtain rfl : 9 = t := by simpa using ht
          exact (show Tryd.prog.wantsStandIn 9 = false by kernel_rfl)
        rcases j with _ | j
        · obtain rfl : 9 = t := by simpa using ht
          exact (show Tryd.prog.wantsStandIn 9 = false by kernel_rfl)
        simp at ht⟩)
    (by kernel_rfl)
#print axioms proved

end Go.Proofs.YtanlodaimbocoaaDoor.callReads
