/-
  RtaLeast: for all tasks and loads the law answers true, and what it was handed reads as it did. No condition.
-/
import Derived.Test.YtibplnbldnhbhaaRtaI
import Derived.Test.YtibplnbldnhbhaaRows
import Derived.Deep.DeepCutAuto
import Derived.Deep.CutBlock
namespace Go.Proofs.Ytibplnbldnhbhaa.rtaLeast
open Go.ChangeShapes Go.WideShapes Go.ChangeAt Go.RowKit Go.Proofs.Ytibplnbldnhbhaa

/-- What the inner loop looks at. -/
def badM (o : Option Nat) (is : Bool) (t : Nat) : Bool := (is && (!o.isSome || decide (t < o.getD 0))) || (o.isSome && decide (t = o.getD 0) && !is)
theorem least {ts : List WorkM} {ls : List ServM} {i t : Nat} (hc : (wk ts i).cost ≤ t) (hd : t ≤ (wk ts i).dead) : 
    (∀ R, timeM ts ls i = some R → (t < R → wanted ts ls i t ≠ t) ∧ (t = R → wanted ts ls i t = t)) ∧ (timeM ts ls i = none → wanted ts ls i t ≠ t) := by
  have h := isTime ts ls i
  cases e : timeM ts ls i with
  | none => rw [e] at h; exact ⟨fun R h => absurd h (by simp), fun _ => h t hc hd⟩
  | some R =>
    rw [e] at h
    refine ⟨fun R' h' => ?_, fun h => absurd h (by simp)⟩
    obtain rfl : R = R' := by simpa using h'
    exact ⟨fun h1 => h.2.2.2 t hc h1, fun h1 => by rw [h1]; exact h.2.2.1⟩

set_option maxHeartbeats 8000000 in
set_option maxRecDepth 100000 in
theorem walk (a0 : Option Addr) (n cap0 : Nat) (z0 : Nat → Nat → Int) (a1 : Option Addr) (m cap1 : Nat) (z1 : Nat → Nat → Int) (w : World) (g0 : ArgStructs [.i64, .u64, .u64, .u64] w a0 n z0) (g1 : ArgStructs [.i64, .u64] w a1 m z1) :
    Calls Try.prog 5 #[.slice a0 n cap0, .slice a1 m cap1] w fun e w' => e = .returned (.bool true) ∧ Below w.heap.size w w' := by
  obtain ⟨ts, hn, hT⟩ := tasks_of_arg g0
  obtain ⟨ls, hm, hL⟩ := loads_of_arg g1
  have HT := Lib.hid hT
  have HL := Lib.hid hL
  have hnn := g0.1
  have hmm := g1.1
  have HN : Box (ts.length = n) := ⟨hn⟩
  have HM : Box (ls.length = m) := ⟨hm⟩
  clear g0 g1 hT hL hn hm
  go_enter Try.func5, Try.ntmps5
  go_upto_region 3 with (go_at_call 9; refine (awake_any _).mono ?_; rintro e w1 ⟨rfl, hb1⟩)
  have HB1 := Lib.hid hb1
  clear hb1
  by_cases h6 : n ≤ 6
  · by_cases h6m : m ≤ 6
    · by_cases hok : okTasks ts = true
      · by_cases hol : okLoads ls = true
        · have HS : Box (SetOk ts ls) := ⟨⟨hok, hol⟩⟩
          go_wp2_with (first | (go_at_call 11; refine (Tasks_n _ _ n ts HN.out _ (HT.out.later HB1.out)).mono ?_; rintro e w2 ⟨rfl, hb2⟩; rw [hok]) | (go_at_call 12; refine (Loads_n _ _ m ls HM.out _ ((HL.out.later HB1.out).later hb2)).mono ?_; rintro e w3 ⟨rfl, hb3⟩; rw [hol]))
          clear hok hol
          have HB3 := Lib.hid (HB1.out.trans ((hb2.mono HB1.out.size).trans (hb3.mono (Nat.le_trans HB1.out.size hb2.size))))
          clear hb2 hb3
          have HTx := HT
          go_loop [5] (fun i => ∃ k : Nat, k ≤ n ∧ i = .int .i64 k) (fun i => n - (intOf i).toNat)
          case atStart => exact ⟨0, Nat.zero_le _, rfl⟩
          case round =>
            obtain ⟨k, hk, rfl⟩ := hrel
            by_cases hlt : k < n
            · obtain ⟨b, off, rfl, hbl, hc⟩ := HT.out.2 (by rw [HN.out]; omega)
              obtain ⟨c0, c1, c2, c3⟩ := hc k (by rw [HN.out]; exact hlt)
              have c2' : w3.cell? ⟨b, off + k * 4 + 2, none⟩ = some (.int .u64 (wk ts k).period) := (HB3.out.cell (p := ⟨b, off + k * 4 + 2, none⟩) hbl).trans c2
              clear hc c0 c1 c3 c2
              by_cases h3 : (wk ts k).period ≤ 300
              · go_wp2
                go_round
                case rel => exact ⟨k + 1, by omega, by go_num⟩
                case measure => simp [intOf] <;> omega
              · go_wp2
                go_ret
                exact ⟨rfl, HB3.out⟩
            · go_wp2
              go_loopw [6, 7, 8, 9, 10] (fun i _ _ _ _ wr => ∃ k : Nat, k ≤ n ∧ i = .int .i64 k ∧ Below w.heap.size w wr) (fun i _ _ _ _ _ => n - (intOf i).toNat)
              case atStart => exact ⟨0, Nat.zero_le _, rfl, HB3.out⟩
              case round =>
                obtain ⟨i, hi, rfl, hb⟩ := hrel
                have HB := Lib.hid hb
                clear hb
                by_cases hil : i < n
                · obtain ⟨b, off, e0, hbl, hc⟩ := HT.out.2 (by rw [HN.out]; omega)
                  obtain ⟨c0, c1, c2, c3⟩ := hc i (by rw [HN.out]; exact hil)
                  have HIL : Box (i < ts.length) := ⟨by rw [HN.out]; exact hil⟩
                  have HTM : Box (TimeM ts ls i = timeM ts ls i) := ⟨by simp [TimeM, HS.out.okt, HS.out.okl, HIL.out]⟩
                  have hok := WorkM.ok_iff.1 (work_get HS.out.okt HIL.out)
                  have HI1 := Lib.hid c1
                  have HI3 := Lib.hid c3
                  have hcd : (wk ts i).cost ≤ (wk ts i).dead := by omega
                  have hd30 : (wk ts i).dead ≤ 1073741824 := by omega
                  clear hc c0 c1 c2 c3 hok
                  subst e0
                  have hTime := Time_n _ cap0 n ts HN.out a1 cap1 m ls HM.out wr (HT.out.later HB.out) (HL.out.later HB.out) i
                  rw [HTM.out] at hTime
                  obtain ⟨o, ho⟩ : ∃ o, timeM ts ls i = o := ⟨_, rfl⟩
                  have HO : Box (timeM ts ls i = o) := ⟨ho⟩
                  rw [ho] at hTime
                  clear ho
                  cases o with
                  | none =>
                    rw [show timeV none = .tuple #[.int .u64 0, .bool false] from rfl] at hTime
                    have HTI := Lib.hid hTime
                    clear hTime
                    go_wp2_with (go_at_call 14; refine HTI.out.mono ?_; rintro e w4 ⟨rfl, hb4⟩; have i1' : w4.cell? ⟨b, off + i * 4 + 1, none⟩ = some (.int .u64 (wk ts i).cost) := ((HB.out.trans (hb4.mono HB.out.size)).cell (p := ⟨b, off + i * 4 + 1, none⟩) hbl).trans HI1.out)
                    have HB4 := Lib.hid (HB.out.trans (hb4.mono HB.out.size))
                    clear hb4 i1'
                    go_loopw [9, 10] (fun t _ wr => ∃ T : Nat, t = .int .u64 T ∧ (wk ts i).cost ≤ T ∧ T ≤ (wk ts i).dead + 1 ∧ Below w.heap.size w wr) (fun t _ _ => (wk ts i).dead + 1 - (intOf t).toNat)
                    case atStart => exact ⟨_, rfl, Nat.le_refl _, by omega, HB4.out⟩
                    case round =>
                      obtain ⟨T, rfl, hT1, hT2, hb5⟩ := hrel
                      have HB5 := Lib.hid hb5
                      clear hb5
                      have i3' := (HB5.out.cell (p := ⟨b, off + i * 4 + 3, none⟩) hbl).trans HI3.out
                      by_cases hTd : T ≤ (wk ts i).dead
                      · have hle := least (ts := ts) (ls := ls) (i := i) hT1 hTd
                        have hW := Wants_n (some ⟨b, off, none⟩) cap0 n ts HN.out a1 cap1 m ls HM.out _ (HT.out.later HB5.out) (HL.out.later HB5.out) i T (HS.out.want HIL.out hTd)
                        obtain ⟨V, hV⟩ : ∃ V, wanted ts ls i T = V := ⟨_, rfl⟩
                        rw [hV, HO.out] at hle
                        rw [hV] at hW
                        clear hV
                        have HW := Lib.hid hW
                        clear hW
                        · have hv := hle.2 rfl
                          have he : ((V : Int) == (T : Int)) = false := beq_eq_false_iff_ne.2 (by omega)
                          clear hle hv
                          go_wp2_with (go_at_call 15; refine HW.out.mono ?_; rintro e w6 ⟨rfl, d6, rfl⟩)
                          go_roundw
                          case rel => exact ⟨T + 1, by go_num, by omega, by omega, HB5.out.trans ((Below.same_drawn d6).mono HB5.out.size)⟩
                          case measure => simp [intOf] <;> omega
                      · clear HTI
                        go_wp2
                        go_roundw
                        case rel => exact ⟨i + 1, by omega, by go_num, HB5.out⟩
                        case measure => simp [intOf] <;> omega
                  | some R =>
                    rw [show timeV (some R) = .tuple #[.int .u64 R, .bool true] from rfl] at hTime
                    have HTI := Lib.hid hTime
                    clear hTime
                    go_wp2_with (go_at_call 14; refine HTI.out.mono ?_; rintro e w4 ⟨rfl, hb4⟩; have i1' : w4.cell? ⟨b, off + i * 4 + 1, none⟩ = some (.int .u64 (wk ts i).cost) := ((HB.out.trans (hb4.mono HB.out.size)).cell (p := ⟨b, off + i * 4 + 1, none⟩) hbl).trans HI1.out)
                    have HB4 := Lib.hid (HB.out.trans (hb4.mono HB.out.size))
                    clear hb4 i1'
                    go_loopw [9, 10] (fun t _ wr => ∃ T : Nat, t = .int .u64 T ∧ (wk ts i).cost ≤ T ∧ T ≤ (wk ts i).dead + 1 ∧ Below w.heap.size w wr) (fun t _ _ => (wk ts i).dead + 1 - (intOf t).toNat)
                    case atStart => exact ⟨_, rfl, Nat.le_refl _, by omega, HB4.out⟩
                    case round =>
                      obtain ⟨T, rfl, hT1, hT2, hb5⟩ := hrel
                      have HB5 := Lib.hid hb5
                      clear hb5
                      have i3' := (HB5.out.cell (p := ⟨b, off + i * 4 + 3, none⟩) hbl).trans HI3.out
                      by_cases hTd : T ≤ (wk ts i).dead
                      · have hle := least (ts := ts) (ls := ls) (i := i) hT1 hTd
                        have hW := Wants_n (some ⟨b, off, none⟩) cap0 n ts HN.out a1 cap1 m ls HM.out _ (HT.out.later HB5.out) (HL.out.later HB5.out) i T (HS.out.want HIL.out hTd)
                        obtain ⟨V, hV⟩ : ∃ V, wanted ts ls i T = V := ⟨_, rfl⟩
                        rw [hV, HO.out] at hle
                        rw [hV] at hW
                        clear hV
                        have HW := Lib.hid hW
                        clear hW
                        rcases Nat.lt_trichotomy T R with g | g | g
                        · have hv := (hle.1 R rfl).1 g
                          have he : ((V : Int) == (T : Int)) = false := beq_eq_false_iff_ne.2 (by omega)
                          have hr : ((T : Int) == (R : Int)) = false := beq_eq_false_iff_ne.2 (by omega)
                          clear hle hv
                          go_wp2_with (go_at_call 15; refine HW.out.mono ?_; rintro e w6 ⟨rfl, d6, rfl⟩)
                          go_roundw
                          case rel => exact ⟨T + 1, by go_num, by omega, by omega, HB5.out.trans ((Below.same_drawn d6).mono HB5.out.size)⟩
                          case measure => simp [intOf] <;> omega
                        · have hv := (hle.1 R rfl).2 g
                          have he : ((V : Int) == (T : Int)) = true := beq_iff_eq.2 (by omega)
                          have hr : ((T : Int) == (R : Int)) = true := beq_iff_eq.2 (by omega)
                          have hlt' : ¬ T < R := by omega
                          clear hle hv g
                          go_wp2_with (go_at_call 15; refine HW.out.mono ?_; rintro e w6 ⟨rfl, d6, rfl⟩)
                          go_roundw
                          case rel => exact ⟨T + 1, by go_num, by omega, by omega, HB5.out.trans ((Below.same_drawn d6).mono HB5.out.size)⟩
                          case measure => simp [intOf] <;> omega
                        · have hr : ((T : Int) == (R : Int)) = false := beq_eq_false_iff_ne.2 (by omega)
                          have hlt' : ¬ T < R := by omega
                          clear hle
                          by_cases hv : V = T
                          · have he : ((V : Int) == (T : Int)) = true := beq_iff_eq.2 (by omega)
                            clear hv
                            go_wp2_with (go_at_call 15; refine HW.out.mono ?_; rintro e w6 ⟨rfl, d6, rfl⟩)
                            go_roundw
                            case rel => exact ⟨T + 1, by go_num, by omega, by omega, HB5.out.trans ((Below.same_drawn d6).mono HB5.out.size)⟩
                            case measure => simp [intOf] <;> omega
                          · have he : ((V : Int) == (T : Int)) = false := beq_eq_false_iff_ne.2 (by omega)
                            clear hv
                            go_wp2_with (go_at_call 15; refine HW.out.mono ?_; rintro e w6 ⟨rfl, d6, rfl⟩)
                            go_roundw
                            case rel => exact ⟨T + 1, by go_num, by omega, by omega, HB5.out.trans ((Below.same_drawn d6).mono HB5.out.size)⟩
                            case measure => simp [intOf] <;> omega
                      · clear HTI
                        go_wp2
                        go_roundw
                        case rel => exact ⟨i + 1, by omega, by go_num, HB5.out⟩
                        case measure => simp [intOf] <;> omega
                · go_wp2
                  go_ret
                  exact ⟨rfl, HB.out⟩
        · go_wp2_with (first | (go_at_call 11; refine (Tasks_n _ _ n ts HN.out _ (HT.out.later HB1.out)).mono ?_; rintro e w2 ⟨rfl, hb2⟩; rw [hok]) | (go_at_call 12; refine (Loads_n _ _ m ls HM.out _ ((HL.out.later HB1.out).later hb2)).mono ?_; rintro e w3 ⟨rfl, hb3⟩; rw [Bool.eq_false_iff.2 hol]))
          go_ret
          exact ⟨rfl, HB1.out.trans ((hb2.mono HB1.out.size).trans (hb3.mono (Nat.le_trans HB1.out.size hb2.size)))⟩
      · go_wp2_with (go_at_call 11; refine (Tasks_n _ _ n ts HN.out _ (HT.out.later HB1.out)).mono ?_; rintro e w2 ⟨rfl, hb2⟩; rw [Bool.eq_false_iff.2 hok])
        go_ret
        exact ⟨rfl, HB1.out.trans (hb2.mono HB1.out.size)⟩
    · go_wp2
      go_ret
      exact ⟨rfl, HB1.out⟩
  · go_wp2
    go_ret
    exact ⟨rfl, HB1.out⟩

/-! The row's step. -/
theorem own : ownKnob Try.prog.godebug = none := by kernel_rfl
theorem laidOut : laidOutB Try.prog = true := by kernel_rfl

set_option maxRecDepth 100000 in
theorem lifted (os : Os) (started : os.Started) (H : Type) (enc : TypeId × Value → H) :
    ReturnsInHanded {} Try.checked os 5 .any (Rows.rtaLeastSpec.pre6 enc Try.prog Try.f5 Rows.rtaLeastRow.domain false) (Rows.rtaLeastSpec.post enc Try.prog Try.f5 false true false false) := by
  refine returnsInHanded_of_change (C := Try.checked) own started (by kernel_rfl) Try.func5
    (ChangeSpec.witness6 (enc := enc) (C := Try.checked) false ⟨#[], #[.slice none 0 0, .slice none 0 0], []⟩ 8 (by kernel_rfl) (by kernel_rfl) (by kernel_rfl) (by kernel_rfl)) ?_
  intro W base args ds gs before hval0 hW hcnd _
  have hval : ∀ (j : Nat) t v, Try.f5.params[j]? = some t → args[j]? = some v → Value.okWide Try.prog W .any base t v := hval0
  have hW' := hW
  obtain ⟨p, q, hA0, hV, rfl, hfz, hnd⟩ := hW
  have hA : DataW.TrodAll enc Try.prog W 0 (fun _ => true) true Try.f5.params.toList args.toList ds p := hA0
  rw [Try.params5] at hA hval
  obtain ⟨v0, vs0, d0, ds0, p0, q0, hargs, rfl, rfl, h0, r0⟩ := trodAll_cons hA
  obtain ⟨v1, vs1, d1, ds1, p1, q1, rfl, rfl, rfl, h1, r1⟩ := trodAll_cons r0
  obtain ⟨rfl, rfl, rfl⟩ := trodAll_nil r1
  obtain rfl : args = #[v0, v1] := by cases args; simp_all
  obtain ⟨rfl, rfl⟩ := trodVars_none hV
  obtain ⟨a0, len0, cap0, rfl⟩ := okWide_slice Try.underlying22 (hval 0 22 v0 rfl rfl)
  have k0 := h0
  have lt0 : ∀ x ∈ p0, x.block < W.heap.size := by obtain ⟨m, hm⟩ := k0; exact DataW.trod_lt m _ _ _ hm
  obtain ⟨z0, w0⟩ := open_structs (ks := [.i64, .u64, .u64, .u64]) Try.underlying22 Try.underlying26 (by kernel_rfl) (by kernel_rfl) (by kernel_rfl) (by decide) h0
  obtain ⟨a1, len1, cap1, rfl⟩ := okWide_slice Try.underlying23 (hval 1 23 v1 rfl rfl)
  have k1 := h1
  have lt1 : ∀ x ∈ p1, x.block < W.heap.size := by obtain ⟨m, hm⟩ := k1; exact DataW.trod_lt m _ _ _ hm
  obtain ⟨z1, w1⟩ := open_structs (ks := [.i64, .u64]) Try.underlying23 Try.underlying28 (by kernel_rfl) (by kernel_rfl) (by kernel_rfl) (by decide) h1
  clear hA0 hval0
  refine (walk a0 len0 cap0 z0 a1 len1 cap1 z1 W w0 w1).mono fun e W' ⟨he, bel⟩ => ?_
  subst he
  exact ⟨_, rfl, _, _, _, [], _, [], hW', trodAll_mk1 (shut_bool Try.underlying4 _), (trodAll_cons_mk (Below.trod laidOut (by kernel_rfl) (of_decide_eq_true (by kernel_rfl)) k0 bel lt0) (trodAll_cons_mk (Below.trod laidOut (by kernel_rfl) (of_decide_eq_true (by kernel_rfl)) k1 bel lt1) trodAll_mk0)), rfl, bel.frame _, fun h => by cases h⟩

theorem over : Rows.rtaLeastRow.holds Try.pinned (OpenSpec.ofChange Rows.rtaLeastSpec) :=
  OpenClaim.holds_of_wide 5 Try.f5 rfl rfl rfl rfl rfl rfl rfl ⟨rfl, rfl, rfl, rfl, rfl⟩ rfl rfl rfl rfl rfl (by kernel_rfl) Try.func5 (by kernel_rfl)
    (of_decide_eq_true (by kernel_rfl)) (by unfold Func.isWrapper; first | (rw [if_pos (by decide +kernel)]; kernel_rfl) | (rw [if_neg (by decide +kernel)]; exact ⟨rfl, rfl⟩))
    (fun os started H enc _ => lifted os started H enc)

/-- The statement. -/
theorem proved : Rows.RtaLeastSaid := over
#print axioms proved

end Go.Proofs.Ytibplnbldnhbhaa.rtaLeast
