/-
  RtaFull: for all tasks the law answers true, and what it was handed reads as it did. No condition.
-/
import Derived.Test.YtibplnbldnhbhaaRtaI
import Derived.Test.YtibplnbldnhbhaaRows
import Derived.Deep.DeepCutAuto
import Derived.Deep.QuietTactic
import Derived.BigQuiet
import Derived.Deep.CutBlock
namespace Go.Proofs.Ytibplnbldnhbhaa.rtaFull
open Go.ChangeShapes Go.WideShapes Go.ChangeAt Go.RowKit Go.Proofs.Ytibplnbldnhbhaa

def prodK (ts : List WorkM) : Nat → Nat
  | 0 => 1
  | k + 1 => prodK ts k * (wk ts k).period
def sumK (A : Nat) (ts : List WorkM) : Nat → Nat
  | 0 => 0
  | k + 1 => sumK A ts k + A / (wk ts k).period * (wk ts k).cost
theorem prodK_dvd {ts : List WorkM} {j : Nat} : ∀ {k}, j < k → (wk ts j).period ∣ prodK ts k
  | 0, h => absurd h (by omega)
  | k + 1, h => by
    show _ ∣ prodK ts k * (wk ts k).period
    by_cases e : j = k
    · subst e; exact Nat.dvd_mul_left _ _
    · exact Nat.dvd_trans (prodK_dvd (by omega)) (Nat.dvd_mul_right _ _)
theorem max_prio (ts : List WorkM) : ∀ k, 0 < k → ∃ i, i < k ∧ ∀ j, j < k → (wk ts j).prio ≤ (wk ts i).prio
  | 0, h => absurd h (by omega)
  | 1, _ => ⟨0, by omega, fun j hj => by obtain rfl : j = 0 := by omega
                                         exact Int.le_refl _⟩
  | k + 2, _ => by
    obtain ⟨i, h1, h2⟩ := max_prio ts (k + 1) (by omega)
    by_cases h : (wk ts (k + 1)).prio ≤ (wk ts i).prio
    · refine ⟨i, by omega, fun j hj => ?_⟩
      by_cases e : j = k + 1
      · subst e; exact h
      · exact h2 j (by omega)
    · refine ⟨k + 1, by omega, fun j hj => ?_⟩
      by_cases e : j = k + 1
      · subst e; exact Int.le_refl _
      · have := h2 j (by omega); omega
theorem part {A R i n : Nat} {ts : List WorkM} (hA : ∀ j, j < n → (wk ts j).period ∣ A) (hi : ∀ j, j < n → (wk ts j).prio ≤ (wk ts i).prio) (hp : ∀ j, j < n → 0 < (wk ts j).period) (hR : R ≤ (wk ts i).period) :
    ∀ k, k ≤ n → R * sumK A ts k ≤ A * (restK ts i R k + if i < k then (wk ts i).cost else 0)
  | 0, _ => by simp [sumK]
  | k + 1, hk => by
    have ih := part hA hi hp hR k (by omega)
    obtain ⟨q, hq⟩ := hA k (by omega)
    have hpk := hp k (by omega)
    have hdiv : A / (wk ts k).period = q := by rw [hq]; exact Nat.mul_div_cancel_left q hpk
    show R * (sumK A ts k + A / (wk ts k).period * (wk ts k).cost) ≤ A * (restK ts i R k + (if k ≠ i ∧ (wk ts k).prio ≤ (wk ts i).prio then up R (wk ts k).period * (wk ts k).cost else 0) + _)
    rw [hdiv, Nat.mul_add]
    by_cases e : k = i
    · subst e
      rw [if_neg (by simp), if_pos (by omega)]
      rw [if_neg (by omega)] at ih
      have h1 : R * (q * (wk ts k).cost) ≤ A * (wk ts k).cost := by
        rw [← Nat.mul_assoc]
        refine Nat.mul_le_mul_right _ ?_
        rw [hq]
        exact Nat.mul_le_mul_right _ hR
      rw [Nat.mul_add, Nat.mul_add, Nat.mul_zero]
      rw [Nat.mul_add, Nat.mul_zero] at ih
      omega
    · rw [if_pos ⟨e, hi k (by omega)⟩]
      have e2 : (if i < k + 1 then (wk ts i).cost else 0) = (if i < k then (wk ts i).cost else 0) := by
        by_cases g : i < k
        · rw [if_pos g, if_pos (by omega)]
        · rw [if_neg g, if_neg (by omega)]
      rw [e2]
      have h1 : R * (q * (wk ts k).cost) ≤ A * (up R (wk ts k).period * (wk ts k).cost) := by
        have h2 : R * q ≤ A * up R (wk ts k).period := by
          calc R * q ≤ up R (wk ts k).period * (wk ts k).period * q := Nat.mul_le_mul_right _ (up_lt hpk)
            _ = A * up R (wk ts k).period := by rw [hq, Nat.mul_assoc, Nat.mul_comm]
        rw [← Nat.mul_assoc, ← Nat.mul_assoc]
        exact Nat.mul_le_mul_right _ h2
      rw [Nat.mul_add, Nat.mul_add]
      rw [Nat.mul_add] at ih
      omega
theorem full {ts : List WorkM} (h : allM ts [] = true) : sumK (prodK ts ts.length) ts ts.length ≤ prodK ts ts.length := by
  by_cases h0 : ts.length = 0
  · rw [h0]; exact Nat.zero_le _
  · obtain ⟨i, hi, hmx⟩ := max_prio ts ts.length (by omega)
    simp only [allM, Bool.and_eq_true, List.all_eq_true, List.mem_range] at h
    have hs := h.2.2 i hi
    have ht := isTime ts [] i
    cases e : timeM ts [] i with
    | none => rw [e] at hs; simp at hs
    | some R =>
      rw [e] at ht
      obtain ⟨t1, t2, t3, _⟩ := ht
      have hok : ∀ j, j < ts.length → _ := fun j hj => WorkM.ok_iff.1 (work_get h.1 hj)
      have oki := hok i hi
      have hp := part (A := prodK ts ts.length) (R := R) (i := i) (n := ts.length) (ts := ts) (fun j hj => prodK_dvd hj) hmx (fun j hj => by have := hok j hj; omega) (by omega) ts.length (Nat.le_refl _)
      rw [if_pos hi] at hp
      have hw : restK ts i R ts.length + (wk ts i).cost = R := by
        have : wanted ts [] i R = (wk ts i).cost + 0 + restK ts i R ts.length := rfl
        omega
      rw [hw, Nat.mul_comm (prodK ts ts.length)] at hp
      exact Nat.le_of_mul_le_mul_left hp (by omega)

theorem prod_bd {ts : List WorkM} : ∀ k, (∀ j, j < k → (wk ts j).period ≤ 300) → prodK ts k ≤ 300 ^ k
  | 0, _ => by simp [prodK]
  | k + 1, h => by
    rw [Nat.pow_succ]
    exact Nat.mul_le_mul (prod_bd k (fun j hj => h j (by omega))) (h k (by omega))
theorem pow_bd {k : Nat} (h : k < 6) : 300 ^ k ≤ 2430000000000 := by
  have : 300 ^ k ≤ 300 ^ 5 := Nat.pow_le_pow_right (by omega) (by omega)
  simpa using this
theorem sum_bd {A : Nat} {ts : List WorkM} (hA : A ≤ 729000000000000) : ∀ k, (∀ j, j < k → (wk ts j).cost ≤ 300) → sumK A ts k ≤ k * 218700000000000000
  | 0, _ => by simp [sumK]
  | k + 1, h => by
    have h1 := sum_bd hA k (fun j hj => h j (by omega))
    have h2 : A / (wk ts k).period * (wk ts k).cost ≤ 729000000000000 * 300 := Nat.mul_le_mul (Nat.le_trans (Nat.div_le_self _ _) hA) (h k (by omega))
    show sumK A ts k + _ ≤ _
    omega

set_option maxHeartbeats 8000000 in
set_option maxRecDepth 100000 in
theorem walk (a0 : Option Addr) (n cap0 : Nat) (z0 : Nat → Nat → Int) (w : World) (g0 : ArgStructs [.i64, .u64, .u64, .u64] w a0 n z0) :
    Calls Try.prog 6 #[.slice a0 n cap0] w fun e w' => e = .returned (.bool true) ∧ Below w.heap.size w w' := by
  obtain ⟨ts, hn, hT⟩ := tasks_of_arg g0
  have HT := Lib.hid hT
  have hnn := g0.1
  have HN : Box (ts.length = n) := ⟨hn⟩
  clear g0 hT hn
  go_enter Try.func6, Try.ntmps6
  go_upto_region 3 with (go_at_call 9; refine (awake_any _).mono ?_; rintro e w1 ⟨rfl, hb1⟩)
  have HB1 := Lib.hid hb1
  clear hb1
  by_cases h6 : n ≤ 6
  · by_cases hok : okTasks ts = true
    · have HOK : Box (okTasks ts = true) := ⟨hok⟩
      go_wp2_with (go_at_call 11; refine (Tasks_n _ _ n ts HN.out _ (HT.out.later HB1.out)).mono ?_; rintro e w2 ⟨rfl, hb2⟩; rw [hok])
      clear hok
      have HB2 := Lib.hid (HB1.out.trans (hb2.mono HB1.out.size))
      clear hb2
      go_loop [3, 4] (fun s i => ∃ k P : Nat, k ≤ n ∧ i = .int .i64 k ∧ s = .int .u64 P ∧ P = prodK ts k ∧ ∀ j, j < k → (wk ts j).period ≤ 300) (fun _ i => n - (intOf i).toNat)
      case atStart => exact ⟨0, 1, Nat.zero_le _, rfl, rfl, rfl, fun j hj => by omega⟩
      case round =>
        obtain ⟨k, P, hk, rfl, rfl, hP, hall⟩ := hrel
        have HP : Box (P = prodK ts k) := ⟨hP⟩
        have HA := Lib.hid hall
        have hPb : P ≤ 300 ^ k := by rw [hP]; exact prod_bd k hall
        clear hP hall
        by_cases hlt : k < n
        · have hPb2 : P ≤ 2430000000000 := Nat.le_trans hPb (pow_bd (by omega))
          clear hPb
          obtain ⟨b, off, rfl, hbl, hc⟩ := HT.out.2 (by rw [HN.out]; omega)
          obtain ⟨c0, c1, c2, c3⟩ := hc k (by rw [HN.out]; exact hlt)
          have c2' : w2.cell? ⟨b, off + k * 4 + 2, none⟩ = some (.int .u64 (wk ts k).period) := (HB2.out.cell (p := ⟨b, off + k * 4 + 2, none⟩) hbl).trans c2
          clear hc c0 c1 c3 c2
          by_cases h3 : (wk ts k).period ≤ 300
          · have hM : P * (wk ts k).period ≤ 2430000000000 * 300 := Nat.mul_le_mul hPb2 h3
            obtain ⟨M, hMe⟩ : ∃ M, P * (wk ts k).period = M := ⟨_, rfl⟩
            have hmul : (P : Int) * ((wk ts k).period : Int) = (M : Int) := by rw [← Int.natCast_mul, hMe]
            have HM : Box (M = prodK ts (k + 1)) := ⟨by rw [← hMe, HP.out]; rfl⟩
            have H3 : Box ((wk ts k).period ≤ 300) := ⟨h3⟩
            rw [hMe] at hM
            clear hMe
            go_wp2
            go_round
            case rel => exact ⟨k + 1, M, by omega, by go_num, by go_num, HM.out, fun j hj => by
              by_cases e : j = k
              · rw [e]; exact H3.out
              · exact HA.out j (by omega)⟩
            case measure => simp [intOf] <;> omega
          · go_wp2
            go_ret
            exact ⟨rfl, HB2.out⟩
        · obtain rfl : k = n := by omega
          have hPb3 : P ≤ 729000000000000 := by
            have : 300 ^ k ≤ 300 ^ 6 := Nat.pow_le_pow_right (by omega) h6
            have h2 : 300 ^ 6 = 729000000000000 := by decide
            omega
          clear hPb
          have HC : Hid (∀ j, j < k → 0 < (wk ts j).period ∧ (wk ts j).cost ≤ 300) := fun j hj => by
            have h1 := WorkM.ok_iff.1 (work_get HOK.out (show j < ts.length by rw [HN.out]; exact hj))
            have h2 := HA.out j hj
            omega
          go_wp2
          go_loopw [5, 6] (fun s i wr => ∃ j S : Nat, j ≤ k ∧ i = .int .i64 j ∧ s = .int .u64 S ∧ S = sumK P ts j ∧ Below w.heap.size w wr) (fun _ i _ => k - (intOf i).toNat)
          case atStart => exact ⟨0, 0, Nat.zero_le _, rfl, rfl, rfl, HB2.out⟩
          case round =>
            obtain ⟨j, S, hj, rfl, rfl, hS, hb⟩ := hrel
            have HS : Box (S = sumK P ts j) := ⟨hS⟩
            have HB := Lib.hid hb
            have hSb : S ≤ j * 218700000000000000 := by rw [hS]; exact sum_bd hPb3 j (fun i hi => (HC.out i (by omega)).2)
            clear hS hb
            by_cases hlt2 : j < k
            · obtain ⟨b, off, rfl, hbl, hc⟩ := HT.out.2 (by rw [HN.out]; omega)
              obtain ⟨c0, c1, c2, c3⟩ := hc j (by rw [HN.out]; exact hlt2)
              have c1' := (HB.out.cell (p := ⟨b, off + j * 4 + 1, none⟩) hbl).trans c1
              have c2' := (HB.out.cell (p := ⟨b, off + j * 4 + 2, none⟩) hbl).trans c2
              have hcj := HC.out j hlt2
              clear hc c0 c1 c3 c2
              obtain ⟨T, hTe⟩ : ∃ T, (wk ts j).period = T := ⟨_, rfl⟩
              obtain ⟨C, hCe⟩ : ∃ C, (wk ts j).cost = C := ⟨_, rfl⟩
              obtain ⟨Q, hQ⟩ : ∃ Q, P / T = Q := ⟨_, rfl⟩
              obtain ⟨M, hM⟩ : ∃ M, Q * C = M := ⟨_, rfl⟩
              have HSn : Box (S + M = sumK P ts (j + 1)) := ⟨by rw [← hM, ← hQ, HS.out, ← hTe, ← hCe]; rfl⟩
              rw [hTe] at c2' hcj
              rw [hCe] at c1' hcj
              have hT0 : (1 : Int) ≤ T := by omega
              have hTz : ((T : Int) == 0) = false := beq_eq_false_iff_ne.2 (by omega)
              have hQb : Q ≤ 729000000000000 := by rw [← hQ]; exact Nat.le_trans (Nat.div_le_self _ _) hPb3
              have hMb : M ≤ 729000000000000 * 300 := by rw [← hM]; exact Nat.mul_le_mul hQb hcj.2
              have hdiv : (P : Int) / (T : Int) = (Q : Int) := by rw [divc, hQ]
              have hmul : (Q : Int) * (C : Int) = (M : Int) := by rw [← Int.natCast_mul, hM]
              have hSi : (S : Int) ≤ 1312200000000000000 := by omega
              have hQi : (Q : Int) ≤ 729000000000000 := by omega
              have hMi : (M : Int) ≤ 218700000000000000 := by omega
              have hPi : (P : Int) ≤ 729000000000000 := by omega
              clear hTe hCe hQ hM hcj
              go_wp2
              go_quiet (fail)
              go_wp2
              go_roundw
              case rel => exact ⟨j + 1, S + M, by omega, by go_num, by go_num, HSn.out, by first | exact HB.out | exact HB.out.trans ((Below.same_drawn _).mono HB.out.size)⟩
              case measure => simp [intOf] <;> omega
            · obtain rfl : j = k := by omega
              have HF : Box (allM ts [] = true → S ≤ P) := ⟨fun h => by rw [HS.out, HP.out, ← HN.out]; exact full h⟩
              have hQ := All_n a0 cap0 j ts HN.out none 0 0 [] rfl _ (HT.out.later HB.out) (LoadsAt.none _)
              by_cases hle : S ≤ P
              · clear hQ
                go_wp2
                go_ret
                exact ⟨rfl, HB.out⟩
              · have hf : allM ts [] = false := Bool.eq_false_iff.2 (fun h => hle (HF.out h))
                rw [hf] at hQ
                have HQ := Lib.hid hQ
                clear hQ hf
                go_wp2_with (go_at_call 18; refine HQ.out.mono ?_; rintro e w4 ⟨rfl, hb4⟩)
                go_ret
                exact ⟨rfl, HB.out.trans (hb4.mono HB.out.size)⟩
    · go_wp2_with (go_at_call 11; refine (Tasks_n _ _ n ts HN.out _ (HT.out.later HB1.out)).mono ?_; rintro e w2 ⟨rfl, hb2⟩; rw [Bool.eq_false_iff.2 hok])
      go_ret
      exact ⟨rfl, HB1.out.trans (hb2.mono HB1.out.size)⟩
  · go_wp2
    go_ret
    exact ⟨rfl, HB1.out⟩

/-! The row's step. -/
theorem own : ownKnob Try.prog.godebug = none := by kernel_rfl
theorem laidOut : laidOutB Try.prog = true := by kernel_rfl

set_option maxRecDepth 100000 in
theorem lifted (os : Os) (started : os.Started) (H : Type) (enc : TypeId × Value → H) :
    ReturnsInHanded {} Try.checked os 6 .any (Rows.rtaFullSpec.pre6 enc Try.prog Try.f6 Rows.rtaFullRow.domain false) (Rows.rtaFullSpec.post enc Try.prog Try.f6 false true false false) := by
  refine returnsInHanded_of_change (C := Try.checked) own started (by kernel_rfl) Try.func6
    (ChangeSpec.witness6 (enc := enc) (C := Try.checked) false ⟨#[], #[.slice none 0 0], []⟩ 8 (by kernel_rfl) (by kernel_rfl) (by kernel_rfl) (by kernel_rfl)) ?_
  intro W base args ds gs before hval0 hW hcnd _
  have hval : ∀ (j : Nat) t v, Try.f6.params[j]? = some t → args[j]? = some v → Value.okWide Try.prog W .any base t v := hval0
  have hW' := hW
  obtain ⟨p, q, hA0, hV, rfl, hfz, hnd⟩ := hW
  have hA : DataW.TrodAll enc Try.prog W 0 (fun _ => true) true Try.f6.params.toList args.toList ds p := hA0
  rw [Try.params6] at hA hval
  obtain ⟨v0, vs0, d0, ds0, p0, q0, hargs, rfl, rfl, h0, r0⟩ := trodAll_cons hA
  obtain ⟨rfl, rfl, rfl⟩ := trodAll_nil r0
  obtain rfl : args = #[v0] := by cases args; simp_all
  obtain ⟨rfl, rfl⟩ := trodVars_none hV
  obtain ⟨a0, len0, cap0, rfl⟩ := okWide_slice Try.underlying22 (hval 0 22 v0 rfl rfl)
  have k0 := h0
  have lt0 : ∀ x ∈ p0, x.block < W.heap.size := by obtain ⟨m, hm⟩ := k0; exact DataW.trod_lt m _ _ _ hm
  obtain ⟨z0, w0⟩ := open_structs (ks := [.i64, .u64, .u64, .u64]) Try.underlying22 Try.underlying26 (by kernel_rfl) (by kernel_rfl) (by kernel_rfl) (by decide) h0
  clear hA0 hval0
  refine (walk a0 len0 cap0 z0 W w0).mono fun e W' ⟨he, bel⟩ => ?_
  subst he
  exact ⟨_, rfl, _, _, _, [], _, [], hW', trodAll_mk1 (shut_bool Try.underlying4 _), (trodAll_cons_mk (Below.trod laidOut (by kernel_rfl) (of_decide_eq_true (by kernel_rfl)) k0 bel lt0) trodAll_mk0), rfl, bel.frame _, fun h => by cases h⟩

theorem over : Rows.rtaFullRow.holds Try.pinned (OpenSpec.ofChange Rows.rtaFullSpec) :=
  OpenClaim.holds_of_wide 6 Try.f6 rfl rfl rfl rfl rfl rfl rfl ⟨rfl, rfl, rfl, rfl, rfl⟩ rfl rfl rfl rfl rfl (by kernel_rfl) Try.func6 (by kernel_rfl)
    (of_decide_eq_true (by kernel_rfl)) (by unfold Func.isWrapper; first | (rw [if_pos (by decide +kernel)]; kernel_rfl) | (rw [if_neg (by decide +kernel)]; exact ⟨rfl, rfl⟩))
    (fun os started H enc _ => lifted os started H enc)

/-- The statement. -/
theorem proved : Rows.RtaFullSaid := over
#print axioms proved

end Go.Proofs.Ytibplnbldnhbhaa.rtaFull
