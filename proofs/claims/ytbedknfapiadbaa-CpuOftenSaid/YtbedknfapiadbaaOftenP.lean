/-
  CpuOften, plainly: one task, released again and again.
-/
import Derived.Test.YtbedknfapiadbaaCutsP
namespace Go.Proofs.Ytbedknfapiadbaa
open Go.RowKit

/-- The processor of one task at time t. -/
structure OInv (wk : WorkM) (M : CpuM) (t : Nat) (ever : Bool) (last : Nat) : Prop where
  srv : M.servers = []
  now : M.now = t
  lt : last ≤ t
  job : (M.tasks = [⟨wk, none, ever, last⟩] ∧ M.rows = fun _ => []) ∨ ∃ j : JobM, M.tasks = [⟨wk, some j, ever, last⟩] ∧ M.rows = cR wk ∧ j.ran ≤ t
theorem OInv.start (wk : WorkM) : OInv wk (newM [wk] []) 0 false 0 := ⟨rfl, rfl, Nat.le_refl _, .inl ⟨rfl, rfl⟩⟩
theorem cE_nil {wk : WorkM} (h : wk.ok = true) : goR (cR wk) 0 = fun _ => [] := by
  have hk := WorkM.ok_iff.1 h
  have hp : prio (cR wk) 0 = some wk.prio.toNat := by
    rw [cR_eq h]
    exact prio_of (by omega) (by rw [upd_same]; simp) (fun i hi => by rw [upd_ne _ _ (by omega)]; simp)
  funext i
  unfold goR
  rw [hp]
  show upd (cR wk) wk.prio.toNat (less 0 (cR wk wk.prio.toNat)) i = []
  by_cases e : i = wk.prio.toNat
  · subst e; rw [upd_same, cR_eq h, upd_same]; rfl
  · rw [upd_ne _ _ e, cR_eq h, upd_ne _ _ e]
theorem nil_first : first (fun _ => []) = none := by
  cases hf : first (fun _ => []) with
  | none => rfl
  | some p => exact absurd rfl (first_some hf).2.1
theorem OInv.ok {wk : WorkM} {M : CpuM} {t last : Nat} {ever : Bool} (h : OInv wk M t ever last) (hw : wk.ok = true) (ht : t ≤ 1073741824) : CpuOk M := by
  obtain ⟨h1, h2, h3, h4⟩ := h
  refine ⟨by rw [h1]; simp, by omega, by rw [h1]; simp, by rcases h4 with ⟨a, _⟩ | ⟨j, a, _⟩ <;> rw [a] <;> simp, fun p hp => ?_⟩
  rcases h4 with ⟨_, b⟩ | ⟨j, a, b, c⟩
  · rw [b, nil_first] at hp; cases hp
  · rw [b, cR_first hw] at hp
    simp only [Option.some.injEq] at hp
    subst hp
    exact ⟨0, _, j, by rw [b]; exact cR_head hw, by rw [a]; rfl, rfl, by omega⟩
theorem late_keeps (t : TaskM) (n : Nat) : ∃ j, (t.late n) = ⟨t.wk, j, t.begun, t.last⟩ ∧ (t.job = none → j = none) ∧ (∀ x, t.job = some x → ∃ m, j = some ⟨x.demand, x.ran, x.dead, m⟩) := by
  obtain ⟨wk, job, b, l⟩ := t
  unfold TaskM.late
  split
  · cases job with
    | none => exact ⟨none, rfl, fun _ => rfl, fun x h => by cases h⟩
    | some j => exact ⟨_, rfl, fun h => (by cases h), fun x h => (by cases h; exact ⟨_, rfl⟩)⟩
  · exact ⟨job, rfl, fun h => h, fun x h => by simp at h; exact ⟨x.missed, by simp [h]⟩⟩
theorem OInv.tick {wk : WorkM} {M M1 : CpuM} {t last nd nc : Nat} {ever : Bool} {who : Int} (h : OInv wk M t ever last) (hw : wk.ok = true) (hr : RanM M M1 who nd nc) : OInv wk (M1.after (M.now + 1)) (t + 1) ever last := by
  obtain ⟨h1, h2, h3, h4⟩ := h
  have hs1 : (serveL M.now M.servers).1 = [] := by rw [h1]; rfl
  have hs2 : (serveL M.now M.servers).2 = none := by rw [h1]; rfl
  rcases hr with ⟨i, a, _⟩ | ⟨_, a, _, e, _⟩ | ⟨_, p, i, a, b, _, c⟩
  · rw [hs2] at a; cases a
  · subst e
    rw [hs1]
    rcases h4 with ⟨b, c⟩ | ⟨j, b, c, _⟩
    · refine ⟨rfl, by simp [CpuM.after, h2], by omega, .inl ⟨?_, c⟩⟩
      obtain ⟨j', e, f, _⟩ := late_keeps ⟨wk, none, ever, last⟩ (M.now + 1)
      simp [CpuM.after, b, e, f rfl]
    · rw [c, cR_first hw] at a; cases a
  · rw [hs1] at c
    obtain ⟨t', j, ht, hj, c⟩ := c
    rcases h4 with ⟨_, b2⟩ | ⟨j2, a2, b2, c2⟩
    · rw [b2, nil_first] at a; cases a
    · have ht : M.tasks[i]? = some t' := ht
      rw [a2] at ht
      obtain rfl : i = 0 := by
        cases i with
        | zero => rfl
        | succ i => simp at ht
      simp only [List.getElem?_cons_zero, Option.some.injEq] at ht
      subst ht
      simp only [Option.some.injEq] at hj
      subst hj
      have hend : ∀ M1 : CpuM, M1 = { ({ M with servers := [] } : CpuM) with tasks := M.tasks.set 0 { (⟨wk, some j2, ever, last⟩ : TaskM) with job := none }, rows := goR M.rows 0 } → OInv wk (M1.after (M.now + 1)) (t + 1) ever last := by
        rintro _ rfl
        refine ⟨rfl, by simp [CpuM.after, h2], by omega, .inl ⟨?_, by show goR M.rows 0 = _; rw [b2]; exact cE_nil hw⟩⟩
        obtain ⟨j', e, f, _⟩ := late_keeps ⟨wk, none, ever, last⟩ (M.now + 1)
        simp [CpuM.after, a2, e, f rfl]
      rcases c with ⟨_, c, _⟩ | ⟨_, _, c, _⟩ | ⟨_, _, c, _⟩
      · exact hend _ c
      · exact hend _ c
      · subst c
        obtain ⟨j', e, _, f⟩ := late_keeps ⟨wk, some j2.step, ever, last⟩ (M.now + 1)
        obtain ⟨m, f⟩ := f _ rfl
        refine ⟨rfl, by simp [CpuM.after, h2], by omega, .inr ⟨⟨j2.step.demand, j2.step.ran, j2.step.dead, m⟩, ?_, b2, by simp [JobM.step]; omega⟩⟩
        simp [CpuM.after, a2, e, f]
/-- What the law's own look says of a release. -/
theorem OInv.rel {wk : WorkM} {M : CpuM} {t last : Nat} {ever : Bool} (h : OInv wk M t ever last) (hw : wk.ok = true) :
    (∃ r dd, jobR (M.jobOf 0) = .tuple #[.int .u64 r, .int .u64 dd, .bool true] ∧ M.relC 0 (wk.cost + 1) = 12 ∧ M.rel 0 (wk.cost + 1) = M) ∨
    (jobR (M.jobOf 0) = .tuple #[.int .u64 0, .int .u64 0, .bool false] ∧ ever = true ∧ t - last < wk.period ∧ M.relC 0 (wk.cost + 1) = 11 ∧ M.rel 0 (wk.cost + 1) = M) ∨
    (jobR (M.jobOf 0) = .tuple #[.int .u64 0, .int .u64 0, .bool false] ∧ (ever = true → ¬ t - last < wk.period) ∧ M.relC 0 (wk.cost + 1) = 0 ∧ OInv wk (M.rel 0 (wk.cost + 1)) t true t) := by
  obtain ⟨h1, h2, h3, h4⟩ := h
  rcases h4 with ⟨a, b⟩ | ⟨j, a, b, c⟩
  · have hj : M.jobOf 0 = none := by simp [CpuM.jobOf, a]
    by_cases hc : ever = true ∧ t - last < wk.period
    · have hk : M.relK 0 (wk.cost + 1) = .denied := by simp [CpuM.relK, a, h2, hc.1, hc.2]
      exact .inr (.inl ⟨by rw [hj]; rfl, hc.1, hc.2, by unfold CpuM.relC; rw [hk], by unfold CpuM.rel; rw [hk]⟩)
    · have hk : M.relK 0 (wk.cost + 1) = .go ⟨wk, none, ever, last⟩ 0 := by
        unfold CpuM.relK
        rw [if_pos ⟨by omega, by omega⟩]
        simp only [a, Int.toNat_zero, List.getElem?_cons_zero, h2]
        rw [if_neg hc]
      refine .inr (.inr ⟨by rw [hj]; rfl, fun e f => hc ⟨e, f⟩, ?_, ?_⟩)
      · unfold CpuM.relC; rw [hk]
        show comeC M.rows _ _ = 0
        rw [b]
        exact cR_comeC hw
      · unfold CpuM.rel; rw [hk]
        refine ⟨h1, h2, Nat.le_refl _, .inr ⟨⟨wk.cost + 1, 0, M.now + wk.dead, false⟩, ?_, ?_, Nat.zero_le _⟩⟩
        · simp [CpuM.released, a, h2]
        · show come M.rows _ _ = _
          rw [b]; rfl
  · have hj : M.jobOf 0 = some j := by simp [CpuM.jobOf, a]
    have hk : M.relK 0 (wk.cost + 1) = .state := by simp [CpuM.relK, a]
    exact .inl ⟨_, _, by rw [hj]; rfl, by unfold CpuM.relC; rw [hk], by unfold CpuM.rel; rw [hk]⟩
theorem OInv.facts {wk : WorkM} {M : CpuM} {t last : Nat} {ever : Bool} (h : OInv wk M t ever last) (hw : wk.ok = true) (ht : t ≤ 1000) :
    (∀ x ∈ M.tasks, x.wk.dead ≤ 1073741824 ∧ x.last ≤ M.now) ∧ M.now ≤ 2305843009213693952 ∧ ∀ p, (M.rows p).length ≤ 1000000 := by
  have hk := WorkM.ok_iff.1 hw
  obtain ⟨h1, h2, h3, h4⟩ := h
  have hx : ∀ x ∈ M.tasks, x.wk = wk ∧ x.last = last := by
    intro x hx
    rcases h4 with ⟨a, _⟩ | ⟨j, a, _⟩ <;> rw [a] at hx <;> simp at hx <;> subst hx <;> exact ⟨rfl, rfl⟩
  refine ⟨fun x hm => ⟨by rw [(hx x hm).1]; omega, by rw [(hx x hm).2]; omega⟩, by omega, fun p => ?_⟩
  rcases h4 with ⟨_, b⟩ | ⟨j, _, b, _⟩
  · rw [b]; simp
  · rw [b]
    exact Nat.le_trans (come_len (r := fun _ => []) (n := 0) (fun _ => Nat.le_refl _) 0 wk.prio p) (by decide)

end Go.Proofs.Ytbedknfapiadbaa
