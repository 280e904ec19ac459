/-
  CpuCuts, plainly: one task, its job tick by tick.
-/
import Derived.Test.YtbedknfapiadbaaCpuS
namespace Go.Proofs.Ytbedknfapiadbaa
open Go.RowKit

def cR (wk : WorkM) : Nat → List Int := come (fun _ => []) 0 wk.prio
def cM (wk : WorkM) (d t : Nat) : CpuM := ⟨[⟨wk, some ⟨d, t, wk.dead, false⟩, true, 0⟩], [], cR wk, t⟩
def cE (wk : WorkM) (t : Nat) : CpuM := ⟨[⟨wk, none, true, 0⟩], [], goR (cR wk) 0, t⟩
theorem cR_comeC {wk : WorkM} (h : wk.ok = true) : comeC (fun _ => []) 0 wk.prio = 0 := by
  have hk := WorkM.ok_iff.1 h
  have hm : mayB 0 wk.prio = true := mayB_iff.2 ⟨by omega, by omega, by omega, by omega⟩
  have hp : prio (fun _ => []) 0 = none := prio_none.2 (fun i _ hx => by cases hx)
  unfold comeC
  rw [if_pos hm, hp]
  rfl
theorem cR_eq {wk : WorkM} (h : wk.ok = true) : cR wk = upd (fun _ => []) wk.prio.toNat [0] := by
  unfold cR come
  rw [if_pos (cR_comeC h)]
  rfl
theorem cR_first {wk : WorkM} (h : wk.ok = true) : first (cR wk) = some wk.prio.toNat := by
  have hk := WorkM.ok_iff.1 h
  rw [cR_eq h]
  exact first_of (by omega) (by rw [upd_same]; simp) (fun i hi => upd_ne _ _ (by omega))
theorem cR_head {wk : WorkM} (h : wk.ok = true) : (cR wk wk.prio.toNat).head?.getD 0 = ((0 : Nat) : Int) := by rw [cR_eq h, upd_same]; rfl
theorem cE_first {wk : WorkM} (h : wk.ok = true) : first (goR (cR wk) 0) = none := by
  have hk := WorkM.ok_iff.1 h
  have hp : prio (cR wk) 0 = some wk.prio.toNat := by
    rw [cR_eq h]
    exact prio_of (by omega) (by rw [upd_same]; simp) (fun i hi => by rw [upd_ne _ _ (by omega)]; simp)
  have hg : ∀ i, goR (cR wk) 0 i = [] := by
    intro i
    unfold goR
    rw [hp]
    show upd (cR wk) wk.prio.toNat (less 0 (cR wk wk.prio.toNat)) i = []
    by_cases e : i = wk.prio.toNat
    · subst e; rw [upd_same, cR_eq h, upd_same]; rfl
    · rw [upd_ne _ _ e, cR_eq h, upd_ne _ _ e]
  cases hf : first (goR (cR wk) 0) with
  | none => rfl
  | some p => exact absurd (hg p) (first_some hf).2.1
theorem c_rel {wk : WorkM} (h : wk.ok = true) {d : Nat} (hd : d ≠ 0) : (newM [wk] []).rel 0 d = cM wk d 0 ∧ (newM [wk] []).relC 0 d = 0 := by
  have hk : (newM [wk] []).relK 0 d = .go (newTask wk) 0 := by
    unfold CpuM.relK
    rw [if_pos ⟨by omega, hd⟩]
    rfl
  constructor
  · unfold CpuM.rel
    rw [hk]
    show CpuM.mk _ _ _ _ = CpuM.mk _ _ _ _
    simp [newM, newTask, CpuM.released, cM, cR]
  · unfold CpuM.relC
    rw [hk]
    exact cR_comeC h
theorem c_ok {wk : WorkM} (h : wk.ok = true) {d t : Nat} (ht : t ≤ 1073741824) : CpuOk (cM wk d t) := by
  refine ⟨(fun s hs => by cases hs), by show t + 1 < _; omega, by show 0 ≤ 1000; omega, by show 1 ≤ 1000; omega, fun p hp => ?_⟩
  have hp : first (cR wk) = some p := hp
  rw [cR_first h] at hp
  simp only [Option.some.injEq] at hp
  subst hp
  exact ⟨0, _, _, cR_head h, rfl, rfl, by show t < _; omega⟩
theorem c_okE {wk : WorkM} (h : wk.ok = true) {t : Nat} (ht : t ≤ 1073741824) : CpuOk (cE wk t) := by
  refine ⟨(fun s hs => by cases hs), by show t + 1 < _; omega, by show 0 ≤ 1000; omega, by show 1 ≤ 1000; omega, fun p hp => ?_⟩
  have hp : first (goR (cR wk) 0) = some p := hp
  rw [cE_first h] at hp
  cases hp
theorem c_end {wk : WorkM} (h : wk.ok = true) {t nd nc : Nat} {who : Int} {M1 : CpuM} (hr : RanM (cE wk t) M1 who nd nc) : who = -1 := by
  rcases hr with ⟨i, h1, _⟩ | ⟨_, _, h1, _⟩ | ⟨_, p, i, h1, _⟩
  · simp [cE, serveL] at h1
  · exact h1
  · have h1 : first (goR (cR wk) 0) = some p := h1
    rw [cE_first h] at h1; cases h1
/-- A tick of the job. -/
theorem c_tick {wk : WorkM} (h : wk.ok = true) {d t nd nc : Nat} {who : Int} {M1 : CpuM} (ht : t < min d wk.cost) (hr : RanM (cM wk d t) M1 who nd nc) :
    who = 0 ∧ (lateIds (t + 1) M1.tasks M1.tasks.length).length = 0 ∧ (t + 1 < min d wk.cost → nd = 0 ∧ nc = 0 ∧ M1.after (t + 1) = cM wk d (t + 1)) ∧
      (t + 1 = min d wk.cost → M1.after (t + 1) = cE wk (t + 1) ∧ ((d ≤ wk.cost ∧ nd = 1 ∧ nc = 0) ∨ (¬ d ≤ wk.cost ∧ nd = 0 ∧ nc = 1))) := by
  have hk := WorkM.ok_iff.1 h
  obtain ⟨hw, hwk⟩ := hr.work (i := 0) (by rfl) (cR_first h) (cR_head h)
  obtain ⟨t', j, h1, h2, h3⟩ := hwk
  have e : t' = ⟨wk, some ⟨d, t, wk.dead, false⟩, true, 0⟩ := by
    have : some t' = some _ := h1.symm.trans (show _ = some (⟨wk, some ⟨d, t, wk.dead, false⟩, true, 0⟩ : TaskM) from rfl)
    simpa using this
  subst e
  simp only [Option.some.injEq] at h2
  subst h2
  refine ⟨by simpa using hw, ?_⟩
  simp only at h3
  rcases h3 with ⟨a, rfl, rfl, rfl⟩ | ⟨a, b, rfl, rfl, rfl⟩ | ⟨a, b, rfl, rfl, rfl⟩
  · refine ⟨by simp [cM, lateIds, TaskM.isLate], fun h => by omega, fun _ => ⟨rfl, .inl ⟨by omega, rfl, rfl⟩⟩⟩
  · refine ⟨by simp [cM, lateIds, TaskM.isLate], fun h => by omega, fun _ => ⟨rfl, .inr ⟨by omega, rfl, rfl⟩⟩⟩
  · have hl : ¬ wk.dead ≤ t + 1 := by omega
    refine ⟨by simp [cM, lateIds, TaskM.isLate, JobM.step, hl], fun _ => ⟨rfl, rfl, ?_⟩, fun h => by omega⟩
    simp [cM, CpuM.after, TaskM.late, TaskM.isLate, JobM.step, hl, serveL]

end Go.Proofs.Ytbedknfapiadbaa
