/-
  RtaSimple: one task alone is done in its cost; of two the more urgent one is done as if it were alone; without room nobody is let in. No condition but the statement's.
-/
import Derived.Test.YtibplnbldnhbhaaSimpleP
import Derived.Test.YtibplnbldnhbhaaRtaT
import Derived.Test.YtibplnbldnhbhaaRows
import Derived.Deep.DeepCutAuto
import Derived.Deep.CutBlock
import Derived.Deep.QuietTactic
import Derived.BigQuiet
namespace Go.Proofs.Ytibplnbldnhbhaa.rtaSimple
open Go.ChangeShapes Go.WideShapes Go.ChangeAt Go.RowKit Go.Proofs.Ytibplnbldnhbhaa

/-- What stands through the law: both tasks in their blocks, and nothing older changed. -/
structure Sit (w0 : World) (p P : Nat) (a b : WorkM) (w : World) : Prop where
  a : BX w p a
  b : BX w P b
  bel : Below w0.heap.size w0 w
theorem Sit.later {w0 w w' : World} {p P : Nat} {a b : WorkM} (h : Sit w0 p P a b w) (hb : Below w.heap.size w w') : Sit w0 p P a b w' := ⟨h.a.later hb, h.b.later hb, h.bel.trans (hb.mono h.bel.size)⟩

set_option maxHeartbeats 8000000 in
set_option maxRecDepth 100000 in
theorem walkV (a b : WorkM) (w : World) :
    Calls Try.prog 4 #[workV a, workV b] w fun e w' => e = .returned (.bool true) ∧ Below w.heap.size w w' := by
  go_enter Try.func4, Try.ntmps4
  go_upto_region 3 with (go_at_call 9; refine (awake_any _).mono ?_; rintro e w1 ⟨rfl, hb1⟩)
  have hs1 : (w.alloc (.cells (bcells a) 26)).heap.size = w.heap.size + 1 := by simp
  have HA1 := Lib.hid (((BX.new w a 26).later ((Below.refl _ _).alloc (Nat.le_refl _) (.cells (bcells b) 26))).later hb1)
  have hbb := (BX.new (w.alloc (.cells (bcells a) 26)) b 26).later hb1
  rw [hs1] at hbb
  have HB1 := Lib.hid hbb
  have HW1 := Lib.hid ((((Below.refl w.heap.size w).alloc (Nat.le_refl _) (.cells (bcells a) 26)).alloc (by simp) (.cells (bcells b) 26)).trans (hb1.mono (by simp; omega)))
  clear hbb hb1 hs1
  obtain ⟨P, hP⟩ : ∃ P, w.heap.size + 1 = P := ⟨_, rfl⟩
  rw [hP] at HB1 ⊢
  clear hP
  have HX := Sit.mk HA1.out HB1.out HW1.out
  clear HA1 HB1 HW1
  obtain ⟨_, x0, x1, x2, x3⟩ := HX.a
  obtain ⟨_, y0, y1, y2, y3⟩ := HX.b
  obtain ⟨av, haf⟩ : ∃ v, a.ok = v := ⟨_, rfl⟩
  obtain ⟨bv, hbf⟩ : ∃ v, b.ok = v := ⟨_, rfl⟩
  cases av with
  | false =>
    go_upto_region 4 with (go_at_call 13; (first | with_reducible refine (refMay_x a false haf _).mono ?_ | with_reducible refine (refMay_x b false hbf _).mono ?_); rintro e w3 ⟨rfl, hb3⟩; have HX := HX.later hb3; clear hb3; obtain ⟨_, x0, x1, x2, x3⟩ := HX.a; obtain ⟨_, y0, y1, y2, y3⟩ := HX.b)
    cases bv with
    | false =>
      go_region_with (first
        | (go_at_call 16; (first | with_reducible refine (rtaMay_x a false haf _).mono ?_ | with_reducible refine (rtaMay_x b false hbf _).mono ?_); rintro e w3 ⟨rfl, hb3⟩; (first | have HX := HX.later hb3 | have HX := HX.later (undrew hb3)); clear hb3; obtain ⟨_, x0, x1, x2, x3⟩ := HX.a; obtain ⟨_, y0, y1, y2, y3⟩ := HX.b)
        | (go_at_call 13; (first | with_reducible refine (refMay_x a false haf _).mono ?_ | with_reducible refine (refMay_x b false hbf _).mono ?_); rintro e w3 ⟨rfl, hb3⟩; (first | have HX := HX.later hb3 | have HX := HX.later (undrew hb3)); clear hb3; obtain ⟨_, x0, x1, x2, x3⟩ := HX.a; obtain ⟨_, y0, y1, y2, y3⟩ := HX.b))
      all_goals
        go_wp2_with fail
        go_ret
        exact ⟨rfl, HX.bel⟩
    | true =>
      go_region_with (first
        | (go_at_call 16; (first | with_reducible refine (rtaMay_x a false haf _).mono ?_ | with_reducible refine (rtaMay_x b true hbf _).mono ?_); rintro e w3 ⟨rfl, hb3⟩; (first | have HX := HX.later hb3 | have HX := HX.later (undrew hb3)); clear hb3; obtain ⟨_, x0, x1, x2, x3⟩ := HX.a; obtain ⟨_, y0, y1, y2, y3⟩ := HX.b)
        | (go_at_call 13; (first | with_reducible refine (refMay_x a false haf _).mono ?_ | with_reducible refine (refMay_x b true hbf _).mono ?_); rintro e w3 ⟨rfl, hb3⟩; (first | have HX := HX.later hb3 | have HX := HX.later (undrew hb3)); clear hb3; obtain ⟨_, x0, x1, x2, x3⟩ := HX.a; obtain ⟨_, y0, y1, y2, y3⟩ := HX.b))
      all_goals
        go_wp2_with fail
        go_ret
        exact ⟨rfl, HX.bel⟩
  | true =>
    cases bv with
    | false =>
      go_upto_region 4 with (go_at_call 13; (first | with_reducible refine (refMay_x a true haf _).mono ?_ | with_reducible refine (refMay_x b false hbf _).mono ?_); rintro e w3 ⟨rfl, hb3⟩; have HX := HX.later hb3; clear hb3; obtain ⟨_, x0, x1, x2, x3⟩ := HX.a; obtain ⟨_, y0, y1, y2, y3⟩ := HX.b)
      go_region_with (first
        | (go_at_call 16; (first | with_reducible refine (rtaMay_x a true haf _).mono ?_ | with_reducible refine (rtaMay_x b false hbf _).mono ?_); rintro e w3 ⟨rfl, hb3⟩; (first | have HX := HX.later hb3 | have HX := HX.later (undrew hb3)); clear hb3; obtain ⟨_, x0, x1, x2, x3⟩ := HX.a; obtain ⟨_, y0, y1, y2, y3⟩ := HX.b)
        | (go_at_call 13; (first | with_reducible refine (refMay_x a true haf _).mono ?_ | with_reducible refine (refMay_x b false hbf _).mono ?_); rintro e w3 ⟨rfl, hb3⟩; (first | have HX := HX.later hb3 | have HX := HX.later (undrew hb3)); clear hb3; obtain ⟨_, x0, x1, x2, x3⟩ := HX.a; obtain ⟨_, y0, y1, y2, y3⟩ := HX.b))
      all_goals
        go_wp2_with fail
        go_ret
        exact ⟨rfl, HX.bel⟩
    | true =>
      obtain ⟨sv, hsm⟩ : ∃ v, smallM [a, b] 0 = v := ⟨_, rfl⟩
      cases sv with
      | false =>
        go_upto_region 4 with (first | (go_at_call 13; (first | with_reducible refine (refMay_x a true haf _).mono ?_ | with_reducible refine (refMay_x b true hbf _).mono ?_); rintro e w3 ⟨rfl, hb3⟩; have HX := HX.later hb3; clear hb3; obtain ⟨_, x0, x1, x2, x3⟩ := HX.a; obtain ⟨_, y0, y1, y2, y3⟩ := HX.b) | (go_at_call 10; refine (Small_new2 a b false hsm _).mono ?_; rintro e w4 ⟨rfl, hb4⟩; have HX := HX.later hb4; clear hb4; obtain ⟨_, x0, x1, x2, x3⟩ := HX.a; obtain ⟨_, y0, y1, y2, y3⟩ := HX.b))
        go_region_with (first
          | (go_at_call 16; (first | with_reducible refine (rtaMay_x a true haf _).mono ?_ | with_reducible refine (rtaMay_x b true hbf _).mono ?_); rintro e w3 ⟨rfl, hb3⟩; (first | have HX := HX.later hb3 | have HX := HX.later (undrew hb3)); clear hb3; obtain ⟨_, x0, x1, x2, x3⟩ := HX.a; obtain ⟨_, y0, y1, y2, y3⟩ := HX.b)
          | (go_at_call 13; (first | with_reducible refine (refMay_x a true haf _).mono ?_ | with_reducible refine (refMay_x b true hbf _).mono ?_); rintro e w3 ⟨rfl, hb3⟩; (first | have HX := HX.later hb3 | have HX := HX.later (undrew hb3)); clear hb3; obtain ⟨_, x0, x1, x2, x3⟩ := HX.a; obtain ⟨_, y0, y1, y2, y3⟩ := HX.b))
        all_goals
          go_wp2_with fail
          go_ret
          exact ⟨rfl, HX.bel⟩
      | true =>
        have HT1 : Box (TimeM [a] [] 0 = some a.cost) := ⟨Time_one haf⟩
        have HAD : Box (allM ([] ++ [a]) [] = true) := ⟨all_one haf⟩
        obtain ⟨o, ho⟩ : ∃ o, TimeM [a, b] [] 0 = o := ⟨_, rfl⟩
        have HT2 := Lib.hid ho
        have HF : Box (a.prio < b.prio → o = some a.cost) := ⟨fun h => ho ▸ time_first haf hbf h⟩
        have HG : Box (¬ a.prio < b.prio → ∀ R, o = some R → a.cost + b.cost ≤ R) := ⟨fun h R hR => time_second haf hbf h R (ho.trans hR)⟩
        have hka := WorkM.ok_iff.1 haf
        have hkb := WorkM.ok_iff.1 hbf
        have hc1 : a.cost ≤ 1073741824 := by omega
        have hc2 : b.cost ≤ 1073741824 := by omega
        clear ho hka hkb
        go_upto_region 5 with (first | (go_at_call 13; (first | with_reducible refine (refMay_x a true haf _).mono ?_ | with_reducible refine (refMay_x b true hbf _).mono ?_); rintro e w3 ⟨rfl, hb3⟩; have HX := HX.later hb3; clear hb3; obtain ⟨_, x0, x1, x2, x3⟩ := HX.a; obtain ⟨_, y0, y1, y2, y3⟩ := HX.b) | (go_at_call 10; refine (Small_new2 a b true hsm _).mono ?_; rintro e w4 ⟨rfl, hb4⟩; have HX := HX.later hb4; clear hb4; obtain ⟨_, x0, x1, x2, x3⟩ := HX.a; obtain ⟨_, y0, y1, y2, y3⟩ := HX.b))
        go_upto_region 8 with (first
          | (go_at_call 14; refine (Time_new1 a a.cost HT1.out _).mono ?_; rintro e w5 ⟨rfl, hb5⟩; have HX := HX.later hb5; clear hb5; obtain ⟨_, x0, x1, x2, x3⟩ := HX.a; obtain ⟨_, y0, y1, y2, y3⟩ := HX.b)
          | (go_at_call 17; refine (Admit_none a true HAD.out _).mono ?_; rintro e w6 ⟨rfl, hb6⟩; have HX := HX.later hb6; clear hb6; obtain ⟨_, x0, x1, x2, x3⟩ := HX.a; obtain ⟨_, y0, y1, y2, y3⟩ := HX.b))
        cases o with
        | none =>
          have hp : ¬ a.prio < b.prio := fun h => by have := HF.out h; simp at this
          go_wp2_with (go_at_call 14; refine (Time_new2n a b HT2.out _).mono ?_; rintro e w7 ⟨rfl, hb7⟩; have HX := HX.later hb7; clear hb7; obtain ⟨_, x0, x1, x2, x3⟩ := HX.a; obtain ⟨_, y0, y1, y2, y3⟩ := HX.b)
          go_ret
          exact ⟨rfl, HX.bel⟩
        | some R =>
          by_cases hp : a.prio < b.prio
          · obtain rfl : R = a.cost := by have := HF.out hp; simpa using this
            go_wp2_with (go_at_call 14; refine (Time_new2 a b (a.cost) HT2.out _).mono ?_; rintro e w7 ⟨rfl, hb7⟩; have HX := HX.later hb7; clear hb7; obtain ⟨_, x0, x1, x2, x3⟩ := HX.a; obtain ⟨_, y0, y1, y2, y3⟩ := HX.b)
            go_ret
            exact ⟨rfl, HX.bel⟩
          · have hge := HG.out (by omega) R rfl
            have hgi : (a.cost : Int) + b.cost ≤ R := by omega
            go_wp2_with (go_at_call 14; refine (Time_new2 a b (R) HT2.out _).mono ?_; rintro e w7 ⟨rfl, hb7⟩; have HX := HX.later hb7; clear hb7; obtain ⟨_, x0, x1, x2, x3⟩ := HX.a; obtain ⟨_, y0, y1, y2, y3⟩ := HX.b)
            go_ret
            exact ⟨rfl, HX.bel⟩

theorem walk (z0 z1 : Nat → Int) (w : World) (g0 : ∀ (j : Nat) (k : IntKind), ([.i64, .u64, .u64, .u64] : List IntKind)[j]? = some k → (Lit.int k (z0 j)).wf = true) (g1 : ∀ (j : Nat) (k : IntKind), ([.i64, .u64, .u64, .u64] : List IntKind)[j]? = some k → (Lit.int k (z1 j)).wf = true) :
    Calls Try.prog 4 #[.agg ((([.i64, .u64, .u64, .u64] : List IntKind).zipIdx.map (fun x => Value.int x.1 (z0 x.2))).toArray), .agg ((([.i64, .u64, .u64, .u64] : List IntKind).zipIdx.map (fun x => Value.int x.1 (z1 x.2))).toArray)] w fun e w' => e = .returned (.bool true) ∧ Below w.heap.size w w' := by
  obtain ⟨a, ea⟩ := work_of g0
  obtain ⟨b, eb⟩ := work_of g1
  rw [ea, eb]
  exact walkV a b w

/-! The row's step. -/
theorem own : ownKnob Try.prog.godebug = none := by kernel_rfl
theorem laidOut : laidOutB Try.prog = true := by kernel_rfl

set_option maxRecDepth 100000 in
theorem lifted (os : Os) (started : os.Started) (H : Type) (enc : TypeId × Value → H) :
    ReturnsInHanded {} Try.checked os 4 .any (Rows.rtaSimpleSpec.pre6 enc Try.prog Try.f4 Rows.rtaSimpleRow.domain false) (Rows.rtaSimpleSpec.post enc Try.prog Try.f4 false true false false) := by
  refine returnsInHanded_of_change (C := Try.checked) own started (by kernel_rfl) Try.func4
    (ChangeSpec.witness6 (enc := enc) (C := Try.checked) false ⟨#[], #[.agg #[.int .i64 0, .int .u64 0, .int .u64 0, .int .u64 0], .agg #[.int .i64 0, .int .u64 0, .int .u64 0, .int .u64 0]], []⟩ 8 (by kernel_rfl) (by kernel_rfl) (by kernel_rfl) (by kernel_rfl)) ?_
  intro W base args ds gs before hval0 hW hcnd _
  have hval : ∀ (j : Nat) t v, Try.f4.params[j]? = some t → args[j]? = some v → Value.okWide Try.prog W .any base t v := hval0
  have hW' := hW
  obtain ⟨p, q, hA0, hV, rfl, hfz, hnd⟩ := hW
  have hA : DataW.TrodAll enc Try.prog W 0 (fun _ => true) true Try.f4.params.toList args.toList ds p := hA0
  rw [Try.params4] at hA hval
  obtain ⟨v0, vs0, d0, ds0, p0, q0, hargs, rfl, rfl, h0, r0⟩ := trodAll_cons hA
  obtain ⟨v1, vs1, d1, ds1, p1, q1, rfl, rfl, rfl, h1, r1⟩ := trodAll_cons r0
  obtain ⟨rfl, rfl, rfl⟩ := trodAll_nil r1
  obtain rfl : args = #[v0, v1] := by cases args; simp_all
  obtain ⟨rfl, rfl⟩ := trodVars_none hV
  have k0 := h0
  have lt0 : ∀ x ∈ p0, x.block < W.heap.size := by obtain ⟨m, hm⟩ := k0; exact DataW.trod_lt m _ _ _ hm
  obtain ⟨z0, rfl, w0⟩ := open_struct (ks := [.i64, .u64, .u64, .u64]) Try.underlying26 (by kernel_rfl) (by kernel_rfl) (by kernel_rfl) (by decide) (hval 0 26 v0 rfl rfl) h0
  have k1 := h1
  have lt1 : ∀ x ∈ p1, x.block < W.heap.size := by obtain ⟨m, hm⟩ := k1; exact DataW.trod_lt m _ _ _ hm
  obtain ⟨z1, rfl, w1⟩ := open_struct (ks := [.i64, .u64, .u64, .u64]) Try.underlying26 (by kernel_rfl) (by kernel_rfl) (by kernel_rfl) (by decide) (hval 1 26 v1 rfl rfl) h1
  clear hA0 hval0
  refine (walk z0 z1 W w0 w1).mono fun e W' ⟨he, bel⟩ => ?_
  subst he
  exact ⟨_, rfl, _, _, _, [], _, [], hW', trodAll_mk1 (shut_bool Try.underlying4 _), (trodAll_cons_mk (Below.trod laidOut (by kernel_rfl) (of_decide_eq_true (by kernel_rfl)) k0 bel lt0) (trodAll_cons_mk (Below.trod laidOut (by kernel_rfl) (of_decide_eq_true (by kernel_rfl)) k1 bel lt1) trodAll_mk0)), rfl, bel.frame _, fun h => by cases h⟩

theorem over : Rows.rtaSimpleRow.holds Try.pinned (OpenSpec.ofChange Rows.rtaSimpleSpec) :=
  OpenClaim.holds_of_wide 4 Try.f4 rfl rfl rfl rfl rfl rfl rfl ⟨rfl, rfl, rfl, rfl, rfl⟩ rfl rfl rfl rfl rfl (by kernel_rfl) Try.func4 (by kernel_rfl)
    (of_decide_eq_true (by kernel_rfl)) (by unfold Func.isWrapper; first | (rw [if_pos (by decide +kernel)]; kernel_rfl) | (rw [if_neg (by decide +kernel)]; exact ⟨rfl, rfl⟩))
    (fun os started H enc _ => lifted os started H enc)

/-- The statement. -/
theorem proved : Rows.RtaSimpleSaid := over
#print axioms proved

end Go.Proofs.Ytibplnbldnhbhaa.rtaSimple
