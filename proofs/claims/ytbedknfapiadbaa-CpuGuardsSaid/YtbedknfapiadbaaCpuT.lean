/-
  A processor's state, plainly: what holds all along, whatever is released and woken, tick by tick.
-/
import Derived.Test.YtbedknfapiadbaaCpuS
namespace Go.Proofs.Ytbedknfapiadbaa
open Go.RowKit

theorem nodup_len : ∀ (n : Nat) (l : List Int), l.Nodup → (∀ x ∈ l, 0 ≤ x ∧ x < n) → l.length ≤ n := by
  intro n
  induction n with
  | zero =>
    intro l _ h
    cases l with
    | nil => simp
    | cons x l => have := h x (List.mem_cons_self ..); omega
  | succ n ih =>
    intro l hn h
    have h2 := ih (l.erase (n : Int)) (hn.erase _) (fun x hx => by
      have h3 := (hn.mem_erase_iff).1 hx
      have h4 := h x h3.2
      have h5 := h3.1
      omega)
    rw [List.length_erase] at h2
    split at h2 <;> omega

/-- What holds of a processor all along. -/
structure CInv (M : CpuM) : Prop where
  nt : M.tasks.length ≤ 32
  wk : ∀ t ∈ M.tasks, t.wk.ok = true
  rows : ∀ (p : Nat) (x : Int), x ∈ M.rows p ↔ ∃ (i : Nat) (t : TaskM), x = i ∧ M.tasks[i]? = some t ∧ t.job.isSome = true ∧ p = t.wk.prio.toNat
  nodup : ∀ p, (M.rows p).Nodup
  last : ∀ t ∈ M.tasks, t.last ≤ M.now
  ran : ∀ t ∈ M.tasks, ∀ j, t.job = some j → j.ran < t.wk.cost ∧ j.ran < j.demand
  ns : M.servers.length ≤ 16
  srv : ∀ s ∈ M.servers, SrvOk M.now s

theorem mem_get {α : Type} {l : List α} {i : Nat} {t : α} (h : l[i]? = some t) : t ∈ l := List.mem_of_getElem? h
theorem get_lt {α : Type} {l : List α} {i : Nat} {t : α} (h : l[i]? = some t) : i < l.length := (List.getElem?_eq_some_iff.1 h).1
theorem set_get {α : Type} {l : List α} {i : Nat} {a : α} (hi : i < l.length) (k : Nat) : (l.set i a)[k]? = if k = i then some a else l[k]? := by
  rw [List.getElem?_set]
  by_cases e : i = k
  · subst e; simp [hi]
  · rw [if_neg e, if_neg (fun x => e x.symm)]
theorem set_mem {α : Type} {l : List α} {i : Nat} {a x : α} (h : x ∈ l.set i a) : x = a ∨ x ∈ l := (List.mem_or_eq_of_mem_set h).symm

theorem CInv.pr {M : CpuM} (h : CInv M) {i : Nat} {t : TaskM} (ht : M.tasks[i]? = some t) : 0 ≤ t.wk.prio ∧ t.wk.prio ≤ 100 := by
  have := WorkM.ok_iff.1 (h.wk t (mem_get ht))
  omega
theorem CInv.prio_there {M : CpuM} (h : CInv M) {i : Nat} {t : TaskM} (ht : M.tasks[i]? = some t) (hj : t.job.isSome = true) : prio M.rows i = some t.wk.prio.toNat := by
  have hp := h.pr ht
  refine prio_of (by omega) ((h.rows _ _).2 ⟨i, t, rfl, ht, hj, rfl⟩) (fun q hq hx => ?_)
  obtain ⟨i', t', e, ht', _, hp'⟩ := (h.rows _ _).1 hx
  obtain rfl : i = i' := by omega
  rw [ht] at ht'
  simp only [Option.some.injEq] at ht'
  subst ht'
  omega
theorem CInv.prio_not {M : CpuM} (h : CInv M) {i : Nat} (hj : ∀ t, M.tasks[i]? = some t → t.job = none) : prio M.rows i = none := by
  refine prio_none.2 (fun q _ hx => ?_)
  obtain ⟨i', t', e, ht', hs, _⟩ := (h.rows _ _).1 hx
  obtain rfl : i = i' := by omega
  rw [hj t' ht'] at hs
  simp at hs
theorem CInv.len {M : CpuM} (h : CInv M) (p : Nat) : (M.rows p).length ≤ 32 := by
  refine Nat.le_trans (nodup_len M.tasks.length _ (h.nodup p) (fun x hx => ?_)) h.nt
  obtain ⟨i, t, rfl, ht, _⟩ := (h.rows _ _).1 hx
  have := get_lt ht
  omega
theorem CInv.facts {M : CpuM} (h : CInv M) (hn : M.now ≤ 2305843009213693952) : (∀ t ∈ M.tasks, t.wk.dead ≤ 1073741824 ∧ t.last ≤ M.now) ∧ M.now ≤ 2305843009213693952 ∧ ∀ p, (M.rows p).length ≤ 1000000 :=
  ⟨fun t ht => ⟨by have := WorkM.ok_iff.1 (h.wk t ht); omega, h.last t ht⟩, hn, fun p => Nat.le_trans (h.len p) (by decide)⟩
/-- Who is the first. -/
theorem CInv.first_is {M : CpuM} (h : CInv M) {p : Nat} (hp : first M.rows = some p) : ∃ (i : Nat) (t : TaskM) (j : JobM), (M.rows p).head?.getD 0 = (i : Int) ∧ (i : Int) ∈ M.rows p ∧ M.tasks[i]? = some t ∧ t.job = some j ∧ p = t.wk.prio.toNat := by
  obtain ⟨_, hne, _⟩ := first_some hp
  obtain ⟨x, l, hx⟩ : ∃ x l, M.rows p = x :: l := by
    cases hr : M.rows p with
    | nil => exact absurd hr hne
    | cons x l => exact ⟨x, l, rfl⟩
  obtain ⟨i, t, rfl, ht, hj, hpp⟩ := (h.rows p x).1 (by rw [hx]; simp)
  obtain ⟨j, hj⟩ := Option.isSome_iff_exists.1 hj
  exact ⟨i, t, j, by rw [hx]; rfl, by rw [hx]; simp, ht, hj, hpp⟩
theorem CInv.ok {M : CpuM} (h : CInv M) (hn : M.now + 1 < 4611686018427387904) : CpuOk M := by
  refine ⟨h.srv, hn, by have := h.ns; omega, by have := h.nt; omega, fun p hp => ?_⟩
  obtain ⟨i, t, j, h1, _, h2, h3, _⟩ := h.first_is hp
  have h4 := h.ran t (mem_get h2) j h3
  have h5 := WorkM.ok_iff.1 (h.wk t (mem_get h2))
  exact ⟨i, t, j, h1, h2, h3, by omega⟩

theorem CInv.start {ts : List WorkM} {ls : List ServM} (h : okTasks ts = true) (hl : okLoads ls = true) : CInv (newM ts ls) := by
  obtain ⟨h1, h2⟩ := okTasks_iff.1 h
  obtain ⟨h3, h4⟩ := okLoads_iff.1 hl
  have hx : ∀ t ∈ (newM ts ls).tasks, ∃ w ∈ ts, t = newTask w := fun t ht => by
    obtain ⟨w, hw, rfl⟩ := List.mem_map.1 ht
    exact ⟨w, hw, rfl⟩
  refine ⟨by simp [newM]; omega, fun t ht => ?_, fun p x => ⟨fun hx => (by cases hx), ?_⟩, fun p => List.nodup_nil, fun t ht => ?_, fun t ht j hj => ?_, by simp [newM]; omega, fun s hs => ?_⟩
  · obtain ⟨w, hw, rfl⟩ := hx t ht; exact h2 w hw
  · rintro ⟨i, t, _, ht, hj, _⟩
    obtain ⟨w, _, rfl⟩ := hx t (mem_get ht)
    simp [newTask] at hj
  · obtain ⟨w, _, rfl⟩ := hx t ht; exact Nat.le_refl _
  · obtain ⟨w, _, rfl⟩ := hx t ht; simp [newTask] at hj
  · obtain ⟨w, hw, rfl⟩ := List.mem_map.1 hs
    have := ServM.ok_iff.1 (h4 w hw)
    exact ⟨⟨h4 w hw, by show ((0 : Nat) : Int) ≤ w.budget; omega⟩, Nat.le_refl _, Nat.zero_le _⟩

/-- What becomes of the tasks where no task's work, nor whether its job is there, turns. -/
theorem CInv.keep {M : CpuM} (h : CInv M) {M' : CpuM} (hl : M'.tasks.length = M.tasks.length) (hr : M'.rows = M.rows)
    (ht : ∀ (i : Nat) (t' : TaskM), M'.tasks[i]? = some t' → ∃ t, M.tasks[i]? = some t ∧ t'.wk = t.wk ∧ t'.job.isSome = t.job.isSome ∧ t'.last ≤ M'.now ∧ ∀ j, t'.job = some j → j.ran < t.wk.cost ∧ j.ran < j.demand)
    (hs : M'.servers.length ≤ 16 ∧ ∀ s ∈ M'.servers, SrvOk M'.now s) : CInv M' := by
  have hm : ∀ t' ∈ M'.tasks, ∃ t ∈ M.tasks, t'.wk = t.wk ∧ t'.job.isSome = t.job.isSome ∧ t'.last ≤ M'.now ∧ ∀ j, t'.job = some j → j.ran < t.wk.cost ∧ j.ran < j.demand := fun t' hm => by
    obtain ⟨i, hi⟩ := List.mem_iff_getElem?.1 hm
    obtain ⟨t, h1, h2⟩ := ht i t' hi
    exact ⟨t, mem_get h1, h2⟩
  refine ⟨by rw [hl]; exact h.nt, fun t' hm' => ?_, fun p x => ?_, fun p => by rw [hr]; exact h.nodup p, fun t' hm' => ?_, fun t' hm' j hj => ?_, hs.1, hs.2⟩
  · obtain ⟨t, h1, h2, _⟩ := hm t' hm'; rw [h2]; exact h.wk t h1
  · rw [hr, h.rows]
    constructor
    · rintro ⟨i, t, rfl, h1, h2, h3⟩
      have hi : i < M'.tasks.length := by rw [hl]; exact get_lt h1
      obtain ⟨t0, g1, g2, g3, _⟩ := ht i M'.tasks[i] (by simp [hi])
      rw [h1] at g1
      simp only [Option.some.injEq] at g1
      subst g1
      exact ⟨i, M'.tasks[i], rfl, by simp [hi], by rw [g3]; exact h2, by rw [g2]; exact h3⟩
    · rintro ⟨i, t', rfl, h1, h2, h3⟩
      obtain ⟨t, g1, g2, g3, _⟩ := ht i t' h1
      exact ⟨i, t, rfl, g1, by rw [← g3]; exact h2, by rw [← g2]; exact h3⟩
  · obtain ⟨t, _, _, _, h4, _⟩ := hm t' hm'; exact h4
  · obtain ⟨t, _, h2, _, _, h5⟩ := hm t' hm'; rw [h2]; exact h5 j hj

theorem serveL_len (now : Nat) (S : List SrvM) : (serveL now S).1.length = S.length := by
  induction S with
  | nil => rfl
  | cons s l ih => rw [serveL]; split; simp [ih]; split <;> simp [ih]
theorem BudM.use_now (b : BudM) (t : Nat) : (b.use t).now = t ∧ (b.use t).s = b.s := by unfold BudM.use; split <;> exact ⟨rfl, rfl⟩
theorem serveL_ok {now : Nat} {S : List SrvM} (h : ∀ s ∈ S, SrvOk now s) : ∀ s ∈ (serveL now S).1, SrvOk now s := by
  induction S with
  | nil => intro s hs; cases hs
  | cons s l ih =>
    have h1 := h s (List.mem_cons_self ..)
    have h2 := ih (fun x hx => h x (List.mem_cons_of_mem _ hx))
    have hu : ∀ n, n ≤ 1048576 → SrvOk now ⟨s.bud.use now, n⟩ := fun n hn => ⟨h1.1.use now, by rw [(BudM.use_now s.bud now).1]; exact Nat.le_refl _, hn⟩
    intro x hx
    rw [serveL] at hx
    split at hx
    · rcases List.mem_cons.1 hx with rfl | hx
      · exact h1
      · exact h2 x hx
    · split at hx
      · rcases List.mem_cons.1 hx with rfl | hx
        · exact hu _ h1.2.2
        · exact h2 x hx
      · rcases List.mem_cons.1 hx with rfl | hx
        · exact hu _ (by have := h1.2.2; omega)
        · exact h x (List.mem_cons_of_mem _ hx)
theorem SrvOk.mono {n m : Nat} {s : SrvM} (h : SrvOk n s) (hm : n ≤ m) : SrvOk m s := ⟨h.1, Nat.le_trans h.2.1 hm, h.2.2⟩

theorem CInv.serve {M : CpuM} (h : CInv M) : CInv { M with servers := (serveL M.now M.servers).1 } :=
  h.keep rfl rfl (fun i t ht => ⟨t, ht, rfl, rfl, h.last t (mem_get ht), fun j hj => h.ran t (mem_get ht) j hj⟩) ⟨by show (serveL _ _).1.length ≤ 16; rw [serveL_len]; exact h.ns, serveL_ok h.srv⟩
theorem CInv.wake {M : CpuM} (h : CInv M) (i : Int) (n : Nat) : CInv (M.wake i n) := by
  unfold CpuM.wake
  split
  · split
    · rename_i s hs
      refine h.keep rfl rfl (fun i t ht => ⟨t, ht, rfl, rfl, h.last t (mem_get ht), fun j hj => h.ran t (mem_get ht) j hj⟩) ⟨by simp; exact h.ns, fun x hx => ?_⟩
      rcases set_mem hx with rfl | hx
      · have := h.srv s (mem_get hs)
        exact ⟨this.1, this.2.1, by have := this.2.2; unfold SrvM.wake; simp only; omega⟩
      · exact h.srv x hx
    · exact h
  · exact h
theorem late_is (t : TaskM) (n : Nat) : (t.late n).wk = t.wk ∧ (t.late n).last = t.last ∧ (t.late n).begun = t.begun ∧ (t.late n).job.isSome = t.job.isSome ∧ ∀ j, (t.late n).job = some j → ∃ j0, t.job = some j0 ∧ j.ran = j0.ran ∧ j.demand = j0.demand ∧ j.dead = j0.dead := by
  unfold TaskM.late
  split
  · refine ⟨rfl, rfl, rfl, by cases t.job <;> rfl, fun j hj => ?_⟩
    cases hj0 : t.job with
    | none => simp [hj0] at hj
    | some j0 => simp [hj0] at hj; subst hj; exact ⟨j0, rfl, rfl, rfl, rfl⟩
  · exact ⟨rfl, rfl, rfl, rfl, fun j hj => ⟨j, hj, rfl, rfl, rfl⟩⟩
theorem after_get {M : CpuM} {n i : Nat} {t' : TaskM} (h : (M.after n).tasks[i]? = some t') : ∃ t, M.tasks[i]? = some t ∧ t' = t.late n := by
  simp only [CpuM.after, List.getElem?_map] at h
  cases ht : M.tasks[i]? with
  | none => simp [ht] at h
  | some t => simp [ht] at h; exact ⟨t, rfl, h.symm⟩
theorem CInv.after {M : CpuM} (h : CInv M) : CInv (M.after (M.now + 1)) := by
  refine h.keep (by simp [CpuM.after]) rfl (fun i t' ht => ?_) ⟨h.ns, fun s hs => (h.srv s hs).mono (Nat.le_succ _)⟩
  obtain ⟨t, h1, rfl⟩ := after_get ht
  obtain ⟨a, b, _, c, d⟩ := late_is t (M.now + 1)
  refine ⟨t, h1, a, c, by rw [b]; exact Nat.le_trans (h.last t (mem_get h1)) (Nat.le_succ _), fun j hj => ?_⟩
  obtain ⟨j0, e1, e2, e3, _⟩ := d j hj
  rw [e2, e3]
  exact h.ran t (mem_get h1) j0 e1
theorem CInv.goRows {M : CpuM} (h : CInv M) {i : Nat} {t : TaskM} (ht : M.tasks[i]? = some t) (hj : t.job.isSome = true) : goR M.rows i = upd M.rows t.wk.prio.toNat (less i (M.rows t.wk.prio.toNat)) := by
  unfold goR; rw [h.prio_there ht hj]
theorem CInv.go {M : CpuM} (h : CInv M) {i : Nat} {t : TaskM} (ht : M.tasks[i]? = some t) (hj : t.job.isSome = true) : CInv { M with tasks := M.tasks.set i { t with job := none }, rows := goR M.rows i } := by
  have hi := get_lt ht
  have hm : ∀ x ∈ M.tasks.set i { t with job := none }, x ∈ M.tasks ∨ x = { t with job := none } := fun x hx => (set_mem hx).symm
  refine ⟨by simp; exact h.nt, fun x hx => ?_, fun p x => ?_, fun p => ?_, fun x hx => ?_, fun x hx j hj => ?_, h.ns, h.srv⟩
  · rcases hm x hx with hx | rfl
    · exact h.wk x hx
    · exact h.wk t (mem_get ht)
  · show x ∈ goR M.rows i p ↔ _
    have hmem : x ∈ goR M.rows i p ↔ x ∈ M.rows p ∧ x ≠ i := by
      rw [h.goRows ht hj]
      by_cases e : p = t.wk.prio.toNat
      · subst e; rw [upd_same]; simp [less]
      · rw [upd_ne _ _ e]
        refine ⟨fun hx => ⟨hx, fun ex => ?_⟩, fun hx => hx.1⟩
        subst ex
        obtain ⟨i', t', e1, ht', _, hp⟩ := (h.rows _ _).1 hx
        obtain rfl : i = i' := by omega
        rw [ht] at ht'
        simp only [Option.some.injEq] at ht'
        subst ht'
        exact e hp
    rw [hmem, h.rows]
    constructor
    · rintro ⟨⟨k, t', rfl, h1, h2, h3⟩, hne⟩
      exact ⟨k, t', rfl, by show (M.tasks.set i _)[k]? = _; rw [set_get hi, if_neg (by omega)]; exact h1, h2, h3⟩
    · rintro ⟨k, t', rfl, h1, h2, h3⟩
      have h1 : (M.tasks.set i { t with job := none })[k]? = some t' := h1
      rw [set_get hi] at h1
      by_cases hne : k = i
      · rw [if_pos hne] at h1; simp only [Option.some.injEq] at h1; subst h1; simp at h2
      · rw [if_neg hne] at h1
        exact ⟨⟨k, t', rfl, h1, h2, h3⟩, by omega⟩
  · show (goR M.rows i p).Nodup
    rw [h.goRows ht hj]
    by_cases e : p = t.wk.prio.toNat
    · subst e; rw [upd_same]; exact (h.nodup _).filter _
    · rw [upd_ne _ _ e]; exact h.nodup p
  · rcases hm x hx with hx | rfl
    · exact h.last x hx
    · exact h.last t (mem_get ht)
  · rcases hm x hx with hx | rfl
    · exact h.ran x hx j hj
    · simp at hj
theorem CInv.step {M : CpuM} (h : CInv M) {i : Nat} {t : TaskM} {j : JobM} (ht : M.tasks[i]? = some t) (hj : t.job = some j) (h1 : j.ran + 1 ≠ j.demand) (h2 : j.ran + 1 ≠ t.wk.cost) : CInv { M with tasks := M.tasks.set i { t with job := some j.step } } := by
  have hi := get_lt ht
  refine h.keep (by simp) rfl (fun k t' hk => ?_) ⟨h.ns, h.srv⟩
  replace hk : (M.tasks.set i { t with job := some j.step })[k]? = some t' := hk
  rw [set_get hi] at hk
  by_cases e : k = i
  · rw [if_pos e] at hk
    subst e
    simp only [Option.some.injEq] at hk
    subst hk
    have := h.ran t (mem_get ht) j hj
    refine ⟨t, ht, rfl, by rw [hj]; rfl, h.last t (mem_get ht), fun j' hj' => ?_⟩
    simp only [Option.some.injEq] at hj'
    subst hj'
    simp [JobM.step]
    omega
  · rw [if_neg e] at hk
    exact ⟨t', hk, rfl, rfl, h.last t' (mem_get hk), fun j hj => h.ran t' (mem_get hk) j hj⟩
theorem CInv.worked {M M1 : CpuM} {i nd nc : Nat} (h : CInv M) (hw : Worked M M1 i nd nc) : CInv M1 := by
  obtain ⟨t, j, ht, hj, ⟨_, rfl, _⟩ | ⟨_, _, rfl, _⟩ | ⟨h1, h2, rfl, _⟩⟩ := hw
  · exact h.go ht (by rw [hj]; rfl)
  · exact h.go ht (by rw [hj]; rfl)
  · exact h.step ht hj h1 h2
theorem RanM.now {M M1 : CpuM} {who : Int} {nd nc : Nat} (hr : RanM M M1 who nd nc) : M1.now = M.now := by
  rcases hr with ⟨i, _, _, rfl, _⟩ | ⟨_, _, _, rfl, _⟩ | ⟨_, p, i, _, _, _, hw⟩
  · rfl
  · rfl
  · exact hw.len.2
theorem CInv.tick {M M1 : CpuM} {who : Int} {nd nc : Nat} (h : CInv M) (hr : RanM M M1 who nd nc) : CInv (M1.after (M.now + 1)) := by
  rw [← hr.now]
  rcases hr with ⟨i, _, _, rfl, _⟩ | ⟨_, _, _, rfl, _⟩ | ⟨_, p, i, _, _, _, hw⟩
  · exact h.serve.after
  · exact h.serve.after
  · exact (h.serve.worked hw).after

/-- What Release does. -/
inductive Rel (M : CpuM) (i : Int) (d : Nat) : Prop
  | arg (h : ¬ (0 ≤ i ∧ i < M.tasks.length ∧ d ≠ 0)) (hc : M.relC i d = 1) (hm : M.rel i d = M)
  | state (k : Nat) (t : TaskM) (hi : i = k) (ht : M.tasks[k]? = some t) (hd : d ≠ 0) (hj : t.job.isSome = true) (hc : M.relC i d = 12) (hm : M.rel i d = M)
  | denied (k : Nat) (t : TaskM) (hi : i = k) (ht : M.tasks[k]? = some t) (hd : d ≠ 0) (hj : t.job = none) (hb : t.begun = true ∧ M.now - t.last < t.wk.period) (hc : M.relC i d = 11) (hm : M.rel i d = M)
  | go (k : Nat) (t : TaskM) (hi : i = k) (ht : M.tasks[k]? = some t) (hd : d ≠ 0) (hj : t.job = none) (hb : ¬ (t.begun = true ∧ M.now - t.last < t.wk.period)) (hc : M.relC i d = 0)
      (hm : M.rel i d = { M with tasks := M.tasks.set k ⟨t.wk, some ⟨d, 0, M.now + t.wk.dead, false⟩, true, M.now⟩, rows := Go.Proofs.Ytbedknfapiadbaa.upd M.rows t.wk.prio.toNat (M.rows t.wk.prio.toNat ++ [(k : Int)]) })
theorem CInv.relOf {M : CpuM} (h : CInv M) (i : Int) (d : Nat) : Rel M i d := by
  by_cases h0 : 0 ≤ i ∧ d ≠ 0
  · obtain ⟨k, rfl⟩ : ∃ k : Nat, i = k := ⟨i.toNat, by omega⟩
    cases ht : M.tasks[k]? with
    | none =>
      have hk : M.relK k d = .arg := by unfold CpuM.relK; rw [if_pos h0]; simp [ht]
      have := List.getElem?_eq_none_iff.1 ht
      exact .arg (by omega) (by unfold CpuM.relC; rw [hk]) (by unfold CpuM.rel; rw [hk])
    | some t =>
      cases hj : t.job with
      | some j =>
        have hk : M.relK k d = .state := by unfold CpuM.relK; rw [if_pos h0]; simp [ht, hj]
        exact .state k t rfl ht h0.2 (by rw [hj]; rfl) (by unfold CpuM.relC; rw [hk]) (by unfold CpuM.rel; rw [hk])
      | none =>
        by_cases hb : t.begun = true ∧ M.now - t.last < t.wk.period
        · have hk : M.relK k d = .denied := by unfold CpuM.relK; rw [if_pos h0]; simp [ht, hj, hb.1, hb.2]
          exact .denied k t rfl ht h0.2 hj hb (by unfold CpuM.relC; rw [hk]) (by unfold CpuM.rel; rw [hk])
        · have hk : M.relK k d = .go t k := by
            unfold CpuM.relK
            rw [if_pos h0]
            simp only [Int.toNat_natCast, ht, hj]
            rw [if_neg hb]
          have hc : comeC M.rows k t.wk.prio = 0 := by
            have := get_lt ht
            have h2 := h.nt
            have h3 := h.pr ht
            unfold comeC
            rw [if_pos (mayB_iff.2 ⟨by omega, by omega, by omega, by omega⟩), h.prio_not (fun t' ht' => by rw [ht] at ht'; simp only [Option.some.injEq] at ht'; subst ht'; exact hj)]
            rfl
          refine .go k t rfl ht h0.2 hj hb (by unfold CpuM.relC; rw [hk]; exact hc) ?_
          unfold CpuM.rel
          rw [hk]
          show CpuM.released M t k d = _
          unfold CpuM.released come
          rw [if_pos hc]
  · have hk : M.relK i d = .arg := by unfold CpuM.relK; rw [if_neg h0]
    exact .arg (by omega) (by unfold CpuM.relC; rw [hk]) (by unfold CpuM.rel; rw [hk])
theorem CInv.rel {M : CpuM} (h : CInv M) (i : Int) (d : Nat) : CInv (M.rel i d) := by
  rcases h.relOf i d with ⟨_, _, hm⟩ | ⟨_, _, _, _, _, _, _, hm⟩ | ⟨_, _, _, _, _, _, _, _, hm⟩ | ⟨k, t, hi, ht, hd, hj, hb, hc, hm⟩
  · rw [hm]; exact h
  · rw [hm]; exact h
  · rw [hm]; exact h
  · rw [hm]
    have hk := get_lt ht
    have hok := WorkM.ok_iff.1 (h.wk t (mem_get ht))
    have hnot : ∀ p, (k : Int) ∉ M.rows p := fun p hx => by
      obtain ⟨k', t', e, ht', hs, _⟩ := (h.rows _ _).1 hx
      obtain rfl : k = k' := by omega
      rw [ht] at ht'
      simp only [Option.some.injEq] at ht'
      subst ht'
      rw [hj] at hs
      simp at hs
    have hm : ∀ x ∈ M.tasks.set k ⟨t.wk, some ⟨d, 0, M.now + t.wk.dead, false⟩, true, M.now⟩, x ∈ M.tasks ∨ x = ⟨t.wk, some ⟨d, 0, M.now + t.wk.dead, false⟩, true, M.now⟩ := fun x hx => (set_mem hx).symm
    refine ⟨by simp; exact h.nt, fun x hx => ?_, fun p x => ?_, fun p => ?_, fun x hx => ?_, fun x hx j hj => ?_, h.ns, h.srv⟩
    · rcases hm x hx with hx | rfl
      · exact h.wk x hx
      · exact h.wk t (mem_get ht)
    · show x ∈ Go.Proofs.Ytbedknfapiadbaa.upd M.rows t.wk.prio.toNat (M.rows t.wk.prio.toNat ++ [(k : Int)]) p ↔ _
      have hmem : x ∈ Go.Proofs.Ytbedknfapiadbaa.upd M.rows t.wk.prio.toNat (M.rows t.wk.prio.toNat ++ [(k : Int)]) p ↔ x ∈ M.rows p ∨ (x = k ∧ p = t.wk.prio.toNat) := by
        by_cases e : p = t.wk.prio.toNat
        · subst e; rw [upd_same]; simp
        · rw [upd_ne _ _ e]; simp [e]
      rw [hmem, h.rows]
      constructor
      · rintro (⟨i', t', rfl, h1, h2, h3⟩ | ⟨rfl, h3⟩)
        · refine ⟨i', t', rfl, ?_, h2, h3⟩
          show (M.tasks.set k _)[i']? = _
          rw [set_get hk, if_neg (fun e => by subst e; rw [ht] at h1; simp only [Option.some.injEq] at h1; subst h1; rw [hj] at h2; simp at h2)]
          exact h1
        · refine ⟨k, ⟨t.wk, some ⟨d, 0, M.now + t.wk.dead, false⟩, true, M.now⟩, rfl, ?_, rfl, h3⟩
          show (M.tasks.set k _)[k]? = _
          rw [set_get hk, if_pos rfl]
      · rintro ⟨i', t', rfl, h1, h2, h3⟩
        replace h1 : (M.tasks.set k _)[i']? = some t' := h1
        rw [set_get hk] at h1
        by_cases e : i' = k
        · rw [if_pos e] at h1
          subst e
          simp only [Option.some.injEq] at h1
          subst h1
          exact .inr ⟨rfl, h3⟩
        · rw [if_neg e] at h1
          exact .inl ⟨i', t', rfl, h1, h2, h3⟩
    · show (Go.Proofs.Ytbedknfapiadbaa.upd M.rows t.wk.prio.toNat (M.rows t.wk.prio.toNat ++ [(k : Int)]) p).Nodup
      by_cases e : p = t.wk.prio.toNat
      · subst e
        rw [upd_same, List.nodup_append]
        refine ⟨h.nodup _, by simp, fun a ha b hb => ?_⟩
        simp only [List.mem_singleton] at hb
        subst hb
        exact fun e => hnot _ (e ▸ ha)
      · rw [upd_ne _ _ e]; exact h.nodup p
    · rcases hm x hx with hx | rfl
      · exact h.last x hx
      · exact Nat.le_refl _
    · rcases hm x hx with hx | rfl
      · exact h.ran x hx j hj
      · simp only [Option.some.injEq] at hj
        subst hj
        exact ⟨by show 0 < t.wk.cost; omega, by show 0 < d; omega⟩

end Go.Proofs.Ytbedknfapiadbaa
