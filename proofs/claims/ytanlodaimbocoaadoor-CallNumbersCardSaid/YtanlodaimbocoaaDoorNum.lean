/-
  The law of numbers: which numerals are numbers.
-/
import Derived.Test.YtanlodaimbocoaaDoorStP
import Derived.Test.YtanlodaimbocoaaDoorStR
import Derived.Test.YtanlodaimbocoaaDoorArgs
import Derived.Test.YtanlodaimbocoaaDoorTie
import Derived.Test.YtanlodaimbocoaaDoorCards
import Derived.SevenTiedAt
namespace Go.Proofs.YtanlodaimbocoaaDoor.callNumbers
open Go Go.ChangeShapes Go.WideShapes Go.ChangeAt Go.RowKit Go.Proofs.YtanlodaimbocoaaDoor

/-- What 'Number' tells of a numeral. -/
theorem number_none {l : Bs} (h : numV l = none) (hl : l.length ≤ 1000000) (w : World) : Calls Tryd.prog 11 #[.string ⟨l.toArray⟩] w fun e w' => e = .returned (.tuple #[.int .i64 0, .bool false]) ∧ Below w.heap.size w w' := by
  refine (number_any ⟨l.toArray⟩ (by rw [bts_size]; simpa using hl) w).mono fun e w' hx => ⟨?_, hx.2⟩
  rw [hx.1]
  show _ = _
  rw [show (⟨l.toArray⟩ : ByteArray).data.toList = l from by simp, h]
  rfl
theorem num_str {l : Bs} {s : ByteArray} (hs : strv l = .string s) (h : numV l = none) (hl : l.length ≤ 1000000) (w : World) : Calls Tryd.prog 11 #[.string s] w fun e w' => e = .returned (.tuple #[.int .i64 0, .bool false]) ∧ Below w.heap.size w w' := by
  rw [← hs]
  exact number_none h hl w
theorem number_some {l : Bs} {n : Nat} (h : numV l = some n) (hl : l.length ≤ 1000000) (w : World) : Calls Tryd.prog 11 #[.string ⟨l.toArray⟩] w fun e w' => e = .returned (.tuple #[.int .i64 n, .bool true]) ∧ Below w.heap.size w w' := by
  refine (number_any ⟨l.toArray⟩ (by rw [bts_size]; simpa using hl) w).mono fun e w' hx => ⟨?_, hx.2⟩
  rw [hx.1]
  show _ = _
  rw [show (⟨l.toArray⟩ : ByteArray).data.toList = l from by simp, h]
  rfl

set_option maxHeartbeats 8000000 in
set_option maxRecDepth 100000 in
theorem walk (n : Int) (W : World) (w0 : (Lit.int .i64 n).wf = true) (ht : Tab W) : Calls Tryd.prog 6 #[.int .i64 n] W fun e w' => e = .returned (.bool true) ∧ Below W.heap.size W w' := by
  have HA := Box.mk (awake21_any W ht)
  by_cases h1 : n < -1099511627776
  · go_enter Tryd.func6, Tryd.ntmps6
    go_wp2_with (go_at_call 8; (with_reducible refine HA.out.mono ?_); rintro e w1 ⟨rfl, hb⟩; have HB := Box.mk hb; clear hb)
    go_ret
    exact ⟨rfl, HB.out⟩
  by_cases h2 : 1099511627776 < n
  · go_enter Tryd.func6, Tryd.ntmps6
    go_wp2_with (go_at_call 8; (with_reducible refine HA.out.mono ?_); rintro e w1 ⟨rfl, hb⟩; have HB := Box.mk hb; clear hb)
    go_ret
    exact ⟨rfl, HB.out⟩
  have HD := Box.mk (fun w => digits_any n (by omega) (by omega) w)
  have hl : (Lib.itoa n).length ≤ 21 := Lib.itoa_length_le n (by omega) (by omega)
  have N1 := Box.mk (fun w => num_str (str_app [48] (Lib.itoa n)) (numV_zero n) (by simp; omega) w)
  have N2 := Box.mk (fun w => num_str (str_app [43] (Lib.itoa n)) (numV_ahead 43 (by decide) (Lib.itoa n)) (by simp; omega) w)
  have N3 := Box.mk (fun w => num_str (str_app (Lib.itoa n) [120]) (numV_behind 120 (by decide) (Lib.itoa n)) (by simp; omega) w)
  have N4 := Box.mk (fun w => num_str (str_app (Lib.itoa n) [32]) (numV_behind 32 (by decide) (Lib.itoa n)) (by simp; omega) w)
  by_cases h3 : 0 ≤ n ∧ n ≤ 2147483647
  · have N0 := Box.mk (fun w => number_some (l := Lib.itoa n) (n := n.toNat) (by rw [numV_itoa, if_pos h3]) (by omega) w)
    obtain ⟨k, rfl⟩ : ∃ k : Nat, n = k := ⟨n.toNat, by omega⟩
    rw [Int.toNat_natCast] at N0
    generalize Lib.itoa (k : Int) = L at *
    go_enter Tryd.func6, Tryd.ntmps6
    go_wp2_with (first
      | (go_at_call 8; (with_reducible refine HA.out.mono ?_); rintro e w1 ⟨rfl, hb⟩; have HB1 := Box.mk hb; clear hb)
      | (go_at_call 23; (with_reducible refine (HD.out _).mono ?_); rintro e w2 ⟨rfl, hb⟩; have HB2 := Box.mk (HB1.out.trans (hb.mono HB1.out.size)); clear hb)
      | (go_at_call 11; (with_reducible refine (N0.out _).mono ?_); rintro e w3 ⟨rfl, hb⟩; have HB3 := Box.mk (HB2.out.trans (hb.mono HB2.out.size)); clear hb)
      | (go_at_call 11; (with_reducible refine (N1.out _).mono ?_); rintro e w4 ⟨rfl, hb⟩; have HB4 := Box.mk (HB3.out.trans (hb.mono HB3.out.size)); clear hb)
      | (go_at_call 11; (with_reducible refine (N2.out _).mono ?_); rintro e w5 ⟨rfl, hb⟩; have HB5 := Box.mk (HB4.out.trans (hb.mono HB4.out.size)); clear hb)
      | (go_at_call 11; (with_reducible refine (N3.out _).mono ?_); rintro e w6 ⟨rfl, hb⟩; have HB6 := Box.mk (HB5.out.trans (hb.mono HB5.out.size)); clear hb)
      | (go_at_call 11; (with_reducible refine (N4.out _).mono ?_); rintro e w7 ⟨rfl, hb⟩; have HB7 := Box.mk (HB6.out.trans (hb.mono HB6.out.size)); clear hb))
    go_ret
    exact ⟨rfl, HB7.out⟩
  · have N0 := Box.mk (fun w => number_none (l := Lib.itoa n) (by rw [numV_itoa, if_neg h3]) (by omega) w)
    generalize Lib.itoa n = L at *
    rcases (show n < 0 ∨ 2147483647 < n by omega) with hn | hn
    · clear h3
      have h4 : ¬ 0 ≤ n := by omega
      go_enter Tryd.func6, Tryd.ntmps6
      go_wp2_with (first
        | (go_at_call 8; (with_reducible refine HA.out.mono ?_); rintro e w1 ⟨rfl, hb⟩; have HB1 := Box.mk hb; clear hb)
        | (go_at_call 23; (with_reducible refine (HD.out _).mono ?_); rintro e w2 ⟨rfl, hb⟩; have HB2 := Box.mk (HB1.out.trans (hb.mono HB1.out.size)); clear hb)
        | (go_at_call 11; (with_reducible refine (N0.out _).mono ?_); rintro e w3 ⟨rfl, hb⟩; have HB3 := Box.mk (HB2.out.trans (hb.mono HB2.out.size)); clear hb)
        | (go_at_call 11; (with_reducible refine (N1.out _).mono ?_); rintro e w4 ⟨rfl, hb⟩; have HB4 := Box.mk (HB3.out.trans (hb.mono HB3.out.size)); clear hb)
        | (go_at_call 11; (with_reducible refine (N2.out _).mono ?_); rintro e w5 ⟨rfl, hb⟩; have HB5 := Box.mk (HB4.out.trans (hb.mono HB4.out.size)); clear hb)
        | (go_at_call 11; (with_reducible refine (N3.out _).mono ?_); rintro e w6 ⟨rfl, hb⟩; have HB6 := Box.mk (HB5.out.trans (hb.mono HB5.out.size)); clear hb)
        | (go_at_call 11; (with_reducible refine (N4.out _).mono ?_); rintro e w7 ⟨rfl, hb⟩; have HB7 := Box.mk (HB6.out.trans (hb.mono HB6.out.size)); clear hb))
      go_ret
      exact ⟨rfl, HB7.out⟩
    · clear h3
      have h4 : 0 ≤ n := by omega
      have h5 : ¬ n ≤ 2147483647 := by omega
      go_enter Tryd.func6, Tryd.ntmps6
      go_wp2_with (first
        | (go_at_call 8; (with_reducible refine HA.out.mono ?_); rintro e w1 ⟨rfl, hb⟩; have HB1 := Box.mk hb; clear hb)
        | (go_at_call 23; (with_reducible refine (HD.out _).mono ?_); rintro e w2 ⟨rfl, hb⟩; have HB2 := Box.mk (HB1.out.trans (hb.mono HB1.out.size)); clear hb)
        | (go_at_call 11; (with_reducible refine (N0.out _).mono ?_); rintro e w3 ⟨rfl, hb⟩; have HB3 := Box.mk (HB2.out.trans (hb.mono HB2.out.size)); clear hb)
        | (go_at_call 11; (with_reducible refine (N1.out _).mono ?_); rintro e w4 ⟨rfl, hb⟩; have HB4 := Box.mk (HB3.out.trans (hb.mono HB3.out.size)); clear hb)
        | (go_at_call 11; (with_reducible refine (N2.out _).mono ?_); rintro e w5 ⟨rfl, hb⟩; have HB5 := Box.mk (HB4.out.trans (hb.mono HB4.out.size)); clear hb)
        | (go_at_call 11; (with_reducible refine (N3.out _).mono ?_); rintro e w6 ⟨rfl, hb⟩; have HB6 := Box.mk (HB5.out.trans (hb.mono HB5.out.size)); clear hb)
        | (go_at_call 11; (with_reducible refine (N4.out _).mono ?_); rintro e w7 ⟨rfl, hb⟩; have HB7 := Box.mk (HB6.out.trans (hb.mono HB6.out.size)); clear hb))
      go_ret
      exact ⟨rfl, HB7.out⟩

/-! The row's step. -/
theorem own : ownKnob Tryd.prog.godebug = none := by kernel_rfl
theorem laidOut : laidOutB Tryd.prog = true := by kernel_rfl

set_option maxRecDepth 100000 in
theorem lifted (os : Os) (started : os.Started) (H : Type) (enc : TypeId × Value → H) :
    ReturnsInHanded {} Tryd.checked os 6 .any (fun w args => (Rows.callNumbersSpec.pre enc Tryd.prog Tryd.f6 [] false w args ∧ laidMetH Tryd.prog laids w) ∧ sizedMet enc Tryd.prog Tryd.f6 (OpenSpec.ofChange Rows.callNumbersSpec) false w args) (Rows.callNumbersSpec.post enc Tryd.prog Tryd.f6 false true false false) := by
  refine returnsInHanded_of_change_and (C := Tryd.checked) (X := fun w _ => laidMetH Tryd.prog laids w) (fun _ _ _ hh h => h.of_heap hh) own started (by kernel_rfl) Tryd.func6
    (ChangeSpec.witness_at (enc := enc) (C := Tryd.checked) (os := os) (X := fun w _ => laidMetH Tryd.prog laids w) false (laidWorld os) #[.int .i64 0] 8 rfl (by kernel_rfl) (by kernel_rfl) (by kernel_rfl) (by kernel_rfl) (by kernel_rfl) (laidWorld_met os _)) ?_
  intro W base args ds gs before hval0 hW hcnd _ hL _
  have hval : ∀ (j : Nat) t v, Tryd.f6.params[j]? = some t → args[j]? = some v → Value.okWide Tryd.prog W .any base t v := hval0
  have hW' := hW
  obtain ⟨p, q, hA0, hV, rfl, hfz, hnd⟩ := hW
  have hA : DataW.TrodAll enc Tryd.prog W 0 (fun _ => true) true Tryd.f6.params.toList args.toList ds p := hA0
  rw [Tryd.params6] at hA hval
  obtain ⟨v0, vs0, d0, ds0, p0, q0, hargs, rfl, rfl, h0, r0⟩ := trodAll_cons hA
  obtain ⟨rfl, rfl, rfl⟩ := trodAll_nil r0
  obtain rfl : args = #[v0] := by cases args; simp_all
  obtain ⟨rfl, rfl⟩ := trodVars_none hV
  obtain ⟨x0, rfl, rfl, rfl, w0⟩ := open_int Tryd.underlying3 (hval 0 3 v0 rfl rfl) h0
  clear hA0 hval0
  refine (walk x0 W w0 (tab_of_laids hL)).mono fun e W' ⟨he, bel⟩ => ?_
  subst he
  exact ⟨_, rfl, _, _, _, [], _, [], hW', trodAll_mk1 (shut_bool Tryd.underlying4 _), (trodAll_cons_mk (shut_int Tryd.underlying3 w0) trodAll_mk0), rfl, bel.frame _, fun h => by cases h⟩

theorem over : Rows.callNumbersRow.holds Tryd.pinned (OpenSpec.ofChange Rows.callNumbersSpec) :=
  OpenClaim.holds_of_wide 6 Tryd.f6 rfl rfl rfl rfl rfl rfl rfl ⟨rfl, rfl, rfl, rfl, rfl⟩ rfl rfl rfl rfl rfl (by kernel_rfl) Tryd.func6 (by kernel_rfl)
    (of_decide_eq_true (by kernel_rfl)) (by unfold Func.isWrapper; first | (rw [if_pos (by decide +kernel)]; kernel_rfl) | (rw [if_neg (by decide +kernel)]; exact ⟨rfl, rfl⟩))
    (fun os started H enc _ => lifted os started H enc)

/-- The statement. -/
theorem proved : Rows.CallNumbersCardSaid :=
  Claim7.holds_tied_plain_at .later [] [.data, .data, .data] true (true, "c1b01954ffc0753169e2318a28d598a11c4203c1182dc2c9381d645921c02716") true
    over (fun _ h => by cases h) (by kernel_rfl) (fun _ h => by cases h) callNumbers_row_tie rfl ⟨rfl, rfl⟩ (by kernel_rfl) rfl
    (fun f fn hf hfn => by
      obtain rfl : f = 6 := Option.some.inj ((show Tryd.prog.funcNamed "linchpin/linchpinlaw21.CallNumbers" = some 6 by kernel_rfl).symm.trans hf) |>.symm
      obtain rfl : fn = Tryd.f6 := (Option.some.inj (Tryd.func6.symm.trans hfn)).symm
      exact ⟨by kernel_rfl, fun j t ht => by
        rw [Tryd.params6] at ht
        rcases j with _ | j
        · obtain rfl : 3 = t := by simpa using ht
          exact (show Tryd.prog.wantsStandIn 3 = false by kernel_rfl)
        simp at ht⟩)
    (by kernel_rfl)
#print axioms proved

end Go.Proofs.YtanlodaimbocoaaDoor.callNumbers
