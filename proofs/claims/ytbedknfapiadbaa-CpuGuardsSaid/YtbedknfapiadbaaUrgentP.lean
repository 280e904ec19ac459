/-
  CpuUrgent, plainly: of the jobs that are there the most urgent one, of alike ones the first, runs.
-/
import Derived.Test.YtbedknfapiadbaaCpuT
namespace Go.Proofs.Ytbedknfapiadbaa
open Go.RowKit

theorem goR_sub (r : Nat → List Int) (x : Int) (p : Nat) : (goR r x p).Sublist (r p) := by
  unfold goR
  cases prio r x with
  | none => exact List.Sublist.refl _
  | some q =>
    show (upd r q (less x (r q)) p).Sublist (r p)
    by_cases e : p = q
    · subst e; rw [upd_same]; exact List.filter_sublist
    · rw [upd_ne _ _ e]; exact List.Sublist.refl _
/-- What a tick keeps of each task. -/
theorem RanM.keeps {M M1 : CpuM} {who : Int} {nd nc : Nat} (hr : RanM M M1 who nd nc) (n : Nat) :
    M1.servers = (serveL M.now M.servers).1 ∧ M1.tasks.length = M.tasks.length ∧ (∀ p, (M1.rows p).Sublist (M.rows p)) ∧
    ∀ (i : Nat) (t' : TaskM), (M1.after n).tasks[i]? = some t' → ∃ t, M.tasks[i]? = some t ∧ t'.wk = t.wk ∧ t'.last = t.last ∧ t'.begun = t.begun ∧ (t'.job.isSome = true → t.job.isSome = true) := by
  have hx : M1.servers = (serveL M.now M.servers).1 ∧ M1.tasks.length = M.tasks.length ∧ (∀ p, (M1.rows p).Sublist (M.rows p)) ∧
      ∀ (i : Nat) (t' : TaskM), M1.tasks[i]? = some t' → ∃ t, M.tasks[i]? = some t ∧ t'.wk = t.wk ∧ t'.last = t.last ∧ t'.begun = t.begun ∧ (t'.job.isSome = true → t.job.isSome = true) := by
    have hset : ∀ (i : Nat) (t : TaskM) (o : Option JobM), M.tasks[i]? = some t → t.job.isSome = true → ∀ (k : Nat) (t' : TaskM), (M.tasks.set i { t with job := o })[k]? = some t' → ∃ t, M.tasks[k]? = some t ∧ t'.wk = t.wk ∧ t'.last = t.last ∧ t'.begun = t.begun ∧ (t'.job.isSome = true → t.job.isSome = true) := by
      intro i t o ht hj k t' hk
      rw [set_get (get_lt ht)] at hk
      by_cases e : k = i
      · rw [if_pos e] at hk
        subst e
        simp only [Option.some.injEq] at hk
        subst hk
        exact ⟨t, ht, rfl, rfl, rfl, fun _ => hj⟩
      · rw [if_neg e] at hk
        exact ⟨t', hk, rfl, rfl, rfl, fun h => h⟩
    rcases hr with ⟨i, _, _, rfl, _⟩ | ⟨_, _, _, rfl, _⟩ | ⟨_, p, i, _, _, _, hw⟩
    · exact ⟨rfl, rfl, fun _ => List.Sublist.refl _, fun i t' h => ⟨t', h, rfl, rfl, rfl, fun h => h⟩⟩
    · exact ⟨rfl, rfl, fun _ => List.Sublist.refl _, fun i t' h => ⟨t', h, rfl, rfl, rfl, fun h => h⟩⟩
    · obtain ⟨t, j, ht, hj, ⟨_, rfl, _⟩ | ⟨_, _, rfl, _⟩ | ⟨_, _, rfl, _⟩⟩ := hw
      · exact ⟨rfl, by simp, fun p => goR_sub _ _ _, hset i t none ht (by rw [hj]; rfl)⟩
      · exact ⟨rfl, by simp, fun p => goR_sub _ _ _, hset i t none ht (by rw [hj]; rfl)⟩
      · exact ⟨rfl, by simp, fun p => List.Sublist.refl _, hset i t (some j.step) ht (by rw [hj]; rfl)⟩
  refine ⟨hx.1, hx.2.1, hx.2.2.1, fun i t' ht => ?_⟩
  obtain ⟨t1, h1, rfl⟩ := after_get ht
  obtain ⟨a, b, c, d, _⟩ := late_is t1 n
  obtain ⟨t, e1, e2, e3, e4, e5⟩ := hx.2.2.2 i t1 h1
  exact ⟨t, e1, a.trans e2, b.trans e3, c.trans e4, fun h => e5 (d ▸ h)⟩

/-- Whether a task's job is there. -/
def CpuM.there (M : CpuM) (k : Nat) : Bool := (M.jobOf k).isSome
theorem there_iff {M : CpuM} {k : Nat} : M.there k = true ↔ ∃ t, M.tasks[k]? = some t ∧ t.job.isSome = true := by
  unfold CpuM.there CpuM.jobOf
  rw [if_pos (by omega)]
  simp only [Int.toNat_natCast]
  cases M.tasks[k]? with
  | none => simp
  | some t => simp

/-- The state at a step's begin (strict), or behind its release. -/
structure UInv (ts : List WorkM) (M : CpuM) (wh : List Int) (N : Nat) : Prop where
  inv : CInv M
  srv : M.servers = []
  wks : M.tasks.map (·.wk) = ts
  whl : wh.length = ts.length
  when : ∀ (i : Nat) (t : TaskM), M.tasks[i]? = some t → t.job.isSome = true → zv wh i = t.last ∧ t.last < N
  sorted : ∀ p, (M.rows p).Pairwise (fun x y => zv wh x.toNat < zv wh y.toNat)
theorem UInv.len {ts : List WorkM} {M : CpuM} {wh : List Int} {N : Nat} (h : UInv ts M wh N) : M.tasks.length = ts.length := by rw [← h.wks]; simp
theorem UInv.wkOf {ts : List WorkM} {M : CpuM} {wh : List Int} {N : Nat} (h : UInv ts M wh N) {i : Nat} {t : TaskM} (ht : M.tasks[i]? = some t) : wk ts i = t.wk := by
  have hi := get_lt ht
  have : ts[i]? = some t.wk := by rw [← h.wks]; simp [ht]
  simp [wk, List.getD, this]
theorem UInv.start {ts : List WorkM} (h : okTasks ts = true) : UInv ts (newM ts []) (List.replicate ts.length 0) 0 := by
  refine ⟨CInv.start h rfl, rfl, ?_, by simp, fun i t ht hj => ?_, fun p => List.Pairwise.nil⟩
  · simp [newM, newTask, Function.comp_def]
  · obtain ⟨w, _, rfl⟩ := List.mem_map.1 (mem_get ht)
    simp [newTask] at hj

/-- The best of the first K. -/
def bestK (ts : List WorkM) (M : CpuM) (wh : List Int) : Nat → Int
  | 0 => -1
  | k + 1 => if M.there k = true ∧ (bestK ts M wh k < 0 ∨ (wk ts k).prio < (wk ts (bestK ts M wh k).toNat).prio ∨ ((wk ts k).prio = (wk ts (bestK ts M wh k).toNat).prio ∧ zv wh k < zv wh (bestK ts M wh k).toNat)) then (k : Int) else bestK ts M wh k
theorem best_spec (ts : List WorkM) (M : CpuM) (wh : List Int) (K : Nat) :
    (bestK ts M wh K = -1 ∧ ∀ k, k < K → ¬ M.there k = true) ∨
    ∃ i : Nat, i < K ∧ bestK ts M wh K = i ∧ M.there i = true ∧ ∀ k, k < K → M.there k = true → (wk ts i).prio < (wk ts k).prio ∨ ((wk ts i).prio = (wk ts k).prio ∧ zv wh i ≤ zv wh k) := by
  induction K with
  | zero => exact .inl ⟨rfl, fun k hk => by omega⟩
  | succ K ih =>
    rw [bestK]
    rcases ih with ⟨h1, h2⟩ | ⟨i, h0, h1, h2, h3⟩
    · by_cases ht : M.there K = true
      · rw [if_pos ⟨ht, .inl (by omega)⟩]
        refine .inr ⟨K, by omega, rfl, ht, fun k hk hk2 => ?_⟩
        by_cases e : k = K
        · subst e; exact .inr ⟨rfl, Int.le_refl _⟩
        · exact absurd hk2 (h2 k (by omega))
      · rw [if_neg (fun h => ht h.1)]
        refine .inl ⟨h1, fun k hk => ?_⟩
        by_cases e : k = K
        · subst e; exact ht
        · exact h2 k (by omega)
    · rw [h1]
      simp only [Int.toNat_natCast]
      by_cases hc : M.there K = true ∧ ((i : Int) < 0 ∨ (wk ts K).prio < (wk ts i).prio ∨ ((wk ts K).prio = (wk ts i).prio ∧ zv wh K < zv wh i))
      · rw [if_pos hc]
        refine .inr ⟨K, by omega, rfl, hc.1, fun k hk hk2 => ?_⟩
        by_cases e : k = K
        · subst e; exact .inr ⟨rfl, Int.le_refl _⟩
        · have := h3 k (by omega) hk2
          have := hc.2
          omega
      · rw [if_neg hc]
        refine .inr ⟨i, by omega, rfl, h2, fun k hk hk2 => ?_⟩
        by_cases e : k = K
        · subst e
          have : ¬ ((i : Int) < 0 ∨ (wk ts k).prio < (wk ts i).prio ∨ ((wk ts k).prio = (wk ts i).prio ∧ zv wh k < zv wh i)) := fun h => hc ⟨hk2, h⟩
          omega
        · exact h3 k (by omega) hk2
/-- Who runs is the best. -/
theorem UInv.best {ts : List WorkM} {M M1 : CpuM} {wh : List Int} {N nd nc : Nat} {who : Int} (h : UInv ts M wh N) (hr : RanM M M1 who nd nc) : who = bestK ts M wh ts.length := by
  have hs : (serveL M.now M.servers).2 = none := by rw [h.srv]; rfl
  rcases hr with ⟨i, a, _⟩ | ⟨_, a, e, _⟩ | ⟨_, p, i, a, b, e, _⟩
  · rw [hs] at a; cases a
  · have hn : ∀ k, ¬ M.there k = true := fun k hk => by
      obtain ⟨t, ht, hj⟩ := there_iff.1 hk
      have hp := h.inv.pr ht
      have := (h.inv.rows t.wk.prio.toNat k).2 ⟨k, t, rfl, ht, hj, rfl⟩
      rw [first_none a _ (by omega)] at this
      cases this
    rcases best_spec ts M wh ts.length with ⟨h1, _⟩ | ⟨i, _, _, h2, _⟩
    · rw [h1, e]
    · exact absurd h2 (hn i)
  · obtain ⟨i', t, j, h1, h2, h3, h4, h5⟩ := h.inv.first_is a
    obtain rfl : i = i' := by omega
    have hi : i < ts.length := by rw [← h.len]; exact get_lt h3
    have hti : M.there i = true := there_iff.2 ⟨t, h3, by rw [h4]; rfl⟩
    have hfirst : ∀ k, M.there k = true → (wk ts i).prio < (wk ts k).prio ∨ ((wk ts i).prio = (wk ts k).prio ∧ (i = k ∨ zv wh i < zv wh k)) := by
      intro k hk
      obtain ⟨t', ht', hj'⟩ := there_iff.1 hk
      have hm := (h.inv.rows t'.wk.prio.toNat k).2 ⟨k, t', rfl, ht', hj', rfl⟩
      have hp := h.inv.pr ht'
      have hp0 := h.inv.pr h3
      have hne : ¬ t'.wk.prio.toNat < p := fun hlt => by rw [(first_some a).2.2 _ hlt] at hm; cases hm
      rw [h.wkOf h3, h.wkOf ht']
      by_cases e : t'.wk.prio.toNat = p
      · right
        refine ⟨by omega, ?_⟩
        rw [e] at hm
        have hso := h.sorted p
        cases hrow : M.rows p with
        | nil => rw [hrow] at hm; cases hm
        | cons x l =>
          rw [hrow] at hm hso h1
          simp only [List.head?_cons, Option.getD_some] at h1
          subst h1
          rcases List.mem_cons.1 hm with e | e
          · left; omega
          · right
            have := (List.pairwise_cons.1 hso).1 _ e
            simpa using this
      · left; omega
    rcases best_spec ts M wh ts.length with ⟨_, h6⟩ | ⟨b, h6, h7, h8, h9⟩
    · exact absurd hti (h6 i hi)
    · rw [h7, e]
      have g1 := h9 i hi hti
      have g2 := hfirst b h8
      omega
theorem UInv.tick {ts : List WorkM} {M M1 : CpuM} {wh : List Int} {N nd nc : Nat} {who : Int} (h : UInv ts M wh N) (hr : RanM M M1 who nd nc) : UInv ts (M1.after (M.now + 1)) wh N := by
  obtain ⟨h1, h2, h3, h4⟩ := hr.keeps (M.now + 1)
  refine ⟨h.inv.tick hr, ?_, ?_, h.whl, fun i t ht hj => ?_, fun p => (h.sorted p).sublist (h3 p)⟩
  · show M1.servers = []
    rw [h1, h.srv]; rfl
  · apply List.ext_getElem?
    intro i
    rw [List.getElem?_map]
    cases ht : (M1.after (M.now + 1)).tasks[i]? with
    | none =>
      have : ts.length ≤ i := by
        have := List.getElem?_eq_none_iff.1 ht
        simp [CpuM.after] at this
        rw [← h.len]; omega
      simp [List.getElem?_eq_none this]
    | some t =>
      obtain ⟨t0, a, b, _⟩ := h4 i t ht
      have : ts[i]? = some t0.wk := by rw [← h.wks]; simp [a]
      simp [this, b]
  · obtain ⟨t0, a, b, c, _, d⟩ := h4 i t ht
    rw [c]
    exact h.when i t0 a (d hj)
theorem UInv.more {ts : List WorkM} {M : CpuM} {wh : List Int} {N N' : Nat} (h : UInv ts M wh N) (hn : N ≤ N') : UInv ts M wh N' :=
  ⟨h.inv, h.srv, h.wks, h.whl, fun i t a b => ⟨(h.when i t a b).1, by have := (h.when i t a b).2; omega⟩, h.sorted⟩
theorem zv_set {l : List Int} {k : Nat} {v : Int} (hk : k < l.length) (i : Nat) : zv (l.set k v) i = if i = k then v else zv l i := by
  unfold zv List.getD
  rw [set_get hk]
  split <;> rfl
/-- A release. -/
theorem UInv.rel {ts : List WorkM} {M : CpuM} {wh : List Int} (h : UInv ts M wh M.now) (k : Nat) (d : Nat) :
    (M.relC k d ≠ 0 ∧ M.rel k d = M) ∨ (M.relC k d = 0 ∧ (M.rel k d).now = M.now ∧ UInv ts (M.rel k d) (wh.set k M.now) (M.now + 1)) := by
  have hinv := h.inv.rel k d
  rcases h.inv.relOf k d with ⟨_, hc, hm⟩ | ⟨_, _, _, _, _, _, hc, hm⟩ | ⟨_, _, _, _, _, _, _, hc, hm⟩ | ⟨k', t, hi, ht, hd, hj, hb, hc, hm⟩
  · exact .inl ⟨by omega, hm⟩
  · exact .inl ⟨by omega, hm⟩
  · exact .inl ⟨by omega, hm⟩
  · obtain rfl : k = k' := by omega
    refine .inr ⟨hc, by rw [hm], ?_⟩
    rw [hm] at hinv ⊢
    have hk := get_lt ht
    have hkw : k < wh.length := by rw [h.whl, ← h.len]; exact hk
    have hnot : ∀ p, (k : Int) ∉ M.rows p := fun p hx => by
      obtain ⟨k', t', e, ht', hs, _⟩ := (h.inv.rows _ _).1 hx
      obtain rfl : k = k' := by omega
      rw [ht] at ht'
      simp only [Option.some.injEq] at ht'
      subst ht'
      rw [hj] at hs
      simp at hs
    have hold : ∀ p, ∀ x ∈ M.rows p, ∃ i : Nat, x = i ∧ i ≠ k ∧ zv wh i < M.now := fun p x hx => by
      obtain ⟨i, t', rfl, h1, h2, _⟩ := (h.inv.rows p x).1 hx
      exact ⟨i, rfl, fun e => hnot p (e ▸ hx), by have := h.when i t' h1 h2; omega⟩
    have hrow : ∀ p, (M.rows p).Pairwise (fun x y => zv (wh.set k M.now) x.toNat < zv (wh.set k M.now) y.toNat) := fun p => by
      refine List.Pairwise.imp_of_mem ?_ (h.sorted p)
      intro x y hx hy hxy
      obtain ⟨i, rfl, hi, _⟩ := hold p x hx
      obtain ⟨i', rfl, hi', _⟩ := hold p y hy
      rw [zv_set hkw, zv_set hkw, if_neg (by omega), if_neg (by omega)]
      exact hxy
    refine ⟨hinv, h.srv, ?_, by rw [List.length_set]; exact h.whl, fun i t' ht' hj' => ?_, fun p => ?_⟩
    · rw [← h.wks]
      apply List.ext_getElem?
      intro i
      simp only [List.getElem?_map]
      show Option.map _ ((M.tasks.set k _)[i]?) = _
      rw [set_get hk]
      by_cases e : i = k
      · subst e; simp [ht]
      · rw [if_neg e]
    · replace ht' : (M.tasks.set k _)[i]? = some t' := ht'
      rw [set_get hk] at ht'
      rw [zv_set hkw]
      by_cases e : i = k
      · rw [if_pos e] at ht' ⊢
        simp only [Option.some.injEq] at ht'
        subst ht'
        exact ⟨rfl, Nat.lt_succ_self _⟩
      · rw [if_neg e] at ht' ⊢
        have := h.when i t' ht' hj'
        exact ⟨this.1, by omega⟩
    · show (Go.Proofs.Ytbedknfapiadbaa.upd M.rows t.wk.prio.toNat (M.rows t.wk.prio.toNat ++ [(k : Int)]) p).Pairwise _
      by_cases e : p = t.wk.prio.toNat
      · subst e
        rw [upd_same, List.pairwise_append]
        refine ⟨hrow _, List.pairwise_singleton _ _, fun x hx y hy => ?_⟩
        simp only [List.mem_singleton] at hy
        subst hy
        obtain ⟨i, rfl, hi, hl⟩ := hold _ x hx
        rw [zv_set hkw, zv_set hkw, if_neg (by omega), if_pos (by omega)]
        exact hl
      · rw [upd_ne _ _ e]; exact hrow p

end Go.Proofs.Ytbedknfapiadbaa
