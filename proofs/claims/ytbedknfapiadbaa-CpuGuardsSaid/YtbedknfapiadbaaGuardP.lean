/-
  CpuGuards, plainly: whoever has an answer time is done in time. For each task: since the last moment at which no job as urgent was there, each tick was a server's, or such a job's.
-/
import Derived.Test.YtbedknfapiadbaaServP
namespace Go.Proofs.Ytbedknfapiadbaa
open Go.RowKit

def sumTo (f : Nat → Nat) : Nat → Nat
  | 0 => 0
  | k + 1 => sumTo f k + f k
theorem sumTo_le {f g : Nat → Nat} {n : Nat} (h : ∀ k, k < n → f k ≤ g k) : sumTo f n ≤ sumTo g n := by
  induction n with
  | zero => exact Nat.le_refl _
  | succ n ih =>
    have h1 := ih (fun k hk => h k (by omega))
    have h2 := h n (by omega)
    simp only [sumTo]; omega
theorem sumTo_lt {f g : Nat → Nat} {n k : Nat} (h : ∀ k, k < n → f k ≤ g k) (hk : k < n) (hlt : f k < g k) : sumTo f n < sumTo g n := by
  induction n with
  | zero => omega
  | succ n ih =>
    simp only [sumTo]
    by_cases e : k = n
    · subst e
      have := sumTo_le (f := f) (g := g) (n := k) (fun j hj => h j (by omega))
      omega
    · have := ih (fun j hj => h j (by omega)) (by omega)
      have := h n (by omega)
      omega
theorem sumTo_congr {f g : Nat → Nat} {n : Nat} (h : ∀ k, k < n → f k = g k) : sumTo f n = sumTo g n :=
  Nat.le_antisymm (sumTo_le (fun k hk => by rw [h k hk]; exact Nat.le_refl _)) (sumTo_le (fun k hk => by rw [h k hk]; exact Nat.le_refl _))
theorem sumTo_add (f g : Nat → Nat) (n : Nat) : sumTo (fun k => f k + g k) n = sumTo f n + sumTo g n := by
  induction n with
  | zero => rfl
  | succ n ih => simp only [sumTo, ih]; omega
theorem sumTo_one {f : Nat → Nat} {n i : Nat} (hi : i < n) : sumTo (upd f i (f i + 1)) n = sumTo f n + 1 := by
  induction n with
  | zero => omega
  | succ n ih =>
    simp only [sumTo]
    by_cases e : i = n
    · subst e
      have : sumTo (upd f i (f i + 1)) i = sumTo f i := sumTo_congr (fun k hk => upd_ne _ _ (by omega))
      rw [this, upd_same]; omega
    · have := ih (by omega)
      rw [this, upd_ne _ _ (fun e' => e e'.symm)]; omega
theorem sumTo_zero (n : Nat) : sumTo (fun _ => 0) n = 0 := by
  induction n with
  | zero => rfl
  | succ n ih => simp only [sumTo, ih]
theorem taken_sum (ls : List ServM) (R : Nat) : taken ls R = sumTo (fun j => up R (sv ls j).period * (sv ls j).budget.toNat) ls.length := by
  have : ∀ n, takenK ls R n = sumTo (fun j => up R (sv ls j).period * (sv ls j).budget.toNat) n := fun n => by
    induction n with
    | zero => rfl
    | succ n ih => simp only [takenK, sumTo, ih]
  exact this _
/-- Whether a task is as urgent. -/
def lvl (ts : List WorkM) (i k : Nat) : Prop := (wk ts k).prio ≤ (wk ts i).prio
instance (ts : List WorkM) (i k : Nat) : Decidable (lvl ts i k) := inferInstanceAs (Decidable (_ ≤ _))
theorem rest_sum (ts : List WorkM) (i R : Nat) (hi : i < ts.length) : (wk ts i).cost + restK ts i R ts.length = sumTo (fun k => if k = i then (wk ts i).cost else if lvl ts i k then up R (wk ts k).period * (wk ts k).cost else 0) ts.length := by
  have h1 : ∀ n, restK ts i R n = sumTo (fun k => if k = i then 0 else if lvl ts i k then up R (wk ts k).period * (wk ts k).cost else 0) n := fun n => by
    induction n with
    | zero => rfl
    | succ n ih =>
      simp only [restK, sumTo, ih]
      congr 1
      by_cases e : n = i
      · subst e; simp
      · by_cases hl : lvl ts i n
        · rw [if_pos ⟨e, hl⟩, if_neg e, if_pos hl]
        · rw [if_neg (fun h => hl h.2), if_neg e, if_neg hl]
  have h2 : sumTo (fun k => if k = i then (wk ts i).cost else 0) ts.length = (wk ts i).cost := by
    have h3 : ∀ n, i < n → sumTo (fun k => if k = i then (wk ts i).cost else 0) n = (wk ts i).cost := fun n hn => by
      induction n with
      | zero => omega
      | succ n ih =>
        simp only [sumTo]
        by_cases e : i = n
        · subst e
          have : sumTo (fun k => if k = i then (wk ts i).cost else 0) i = 0 := by
            rw [sumTo_congr (g := fun _ => 0) (fun k hk => if_neg (by omega)), sumTo_zero]
          rw [this, if_pos rfl]; omega
        · rw [ih (by omega), if_neg (fun e' => e e'.symm)]; rfl
    exact h3 _ hi
  rw [h1, ← h2, ← sumTo_add]
  rw [h2]
  apply sumTo_congr
  intro k _
  by_cases e : k = i <;> simp [e]

/-- Servers beside tasks. -/
structure SG (M : CpuM) (ls : List ServM) (H : Nat → List Nat) : Prop where
  len : M.servers.length = ls.length
  srv : ∀ (k : Nat) (s : SrvM), M.servers[k]? = some s → ls[k]? = some s.bud.s ∧ HOk s.bud (H k) M.now
theorem SG.start (ts : List WorkM) {ls : List ServM} (h : okLoads ls = true) : SG (newM ts ls) ls (fun _ => []) := by
  have := SH.start h
  exact ⟨this.len, this.srv⟩
theorem SG.wake {M : CpuM} {ls : List ServM} {H : Nat → List Nat} (h : SG M ls H) (i : Int) (n : Nat) : SG (M.wake i n) ls H := by
  obtain ⟨a, b, c⟩ := wake_len M i n
  refine ⟨by rw [a]; exact h.len, fun k s' hs => ?_⟩
  obtain ⟨s, h1, h2, _⟩ := wake_get hs
  rw [h2, c]
  exact h.srv k s h1
theorem SG.tick {M M1 : CpuM} {ls : List ServM} {H : Nat → List Nat} {who : Int} {nd nc : Nat} (hv : CInv M) (h : SG M ls H) (hr : RanM M M1 who nd nc) :
    (∃ i : Nat, (serveL M.now M.servers).2 = some i ∧ i < ls.length ∧ SG (M1.after (M.now + 1)) ls (upd H i (H i ++ [M.now]))) ∨
    ((serveL M.now M.servers).2 = none ∧ SG (M1.after (M.now + 1)) ls H) := by
  obtain ⟨p1, p2, p3⟩ := serveL_spec M.now M.servers
  obtain ⟨hsv, _⟩ := hr.keeps 0
  have hkeep : ∀ (k : Nat) (s s' : SrvM), M.servers[k]? = some s → (s'.bud = s.bud ∨ s'.bud = s.bud.at M.now) → ls[k]? = some s'.bud.s ∧ HOk s'.bud (H k) (M.now + 1) := by
    intro k s s' hs hb
    obtain ⟨a, b⟩ := h.srv k s hs
    rcases hb with hb | hb <;> rw [hb]
    · exact ⟨a, b.mono (Nat.le_succ _)⟩
    · exact ⟨a, (b.at (hv.srv s (mem_get hs)).2.1).mono (Nat.le_succ _)⟩
  have hlen : (M1.after (M.now + 1)).servers.length = ls.length := by
    show M1.servers.length = _
    rw [hsv, serveL_len]; exact h.len
  cases hs2 : (serveL M.now M.servers).2 with
  | some i =>
    have hi := p3 i hs2
    refine .inl ⟨i, rfl, by rw [← h.len]; exact hi, hlen, fun k s' hs' => ?_⟩
    replace hs' : M1.servers[k]? = some s' := hs'
    rw [hsv] at hs'
    obtain ⟨s, hs, ⟨q1, q2, q3⟩ | ⟨q1, q2, q3, q4⟩⟩ := p1 k s' hs'
    · have hne : k ≠ i := fun e => q1 (by rw [hs2, e])
      rw [upd_ne _ _ hne]
      exact hkeep k s s' hs q3
    · obtain rfl : i = k := by rw [hs2] at q1; simpa using q1
      subst q4
      rw [upd_same]
      have hso := hv.srv s (mem_get hs)
      obtain ⟨a1, a2⟩ := h.srv i s hs
      have hat := a2.at hso.2.1
      refine ⟨a1, hat.used rfl hso.1.s ?_⟩
      have := (hso.1.at M.now).len
      unfold BudM.left at q3 ⊢
      omega
  | none =>
    refine .inr ⟨rfl, hlen, fun k s' hs' => ?_⟩
    replace hs' : M1.servers[k]? = some s' := hs'
    rw [hsv] at hs'
    obtain ⟨s, hs, ⟨_, _, q3⟩ | ⟨q1, _⟩⟩ := p1 k s' hs'
    · exact hkeep k s s' hs q3
    · rw [hs2] at q1; cases q1

/-- How often a server has run since s. -/
def uses (H : Nat → List Nat) (s j : Nat) : Nat := ((H j).filter (fun u => decide (s ≤ u))).length

/-- For task i, since s. -/
structure GInv (ts : List WorkM) (M : CpuM) (H : Nat → List Nat) (nl i R s : Nat) (wf rl : Nat → Nat) : Prop where
  le : s ≤ M.now
  busy : M.now = s + sumTo (uses H s) nl + sumTo wf ts.length
  cost : ∀ (k : Nat) (t : TaskM), M.tasks[k]? = some t → lvl ts i k → match t.job with
    | none => wf k ≤ rl k * t.wk.cost
    | some j => wf k + (t.wk.cost - j.ran) ≤ rl k * t.wk.cost
  no : ∀ k, ¬ lvl ts i k → wf k = 0
  gap : ∀ (k : Nat) (t : TaskM), M.tasks[k]? = some t → lvl ts i k → 0 < rl k → s + (rl k - 1) * t.wk.period ≤ t.last ∧ t.begun = true
  soon : M.now = s ∨ (M.now < s + R ∧ ∃ (k : Nat) (t : TaskM), M.tasks[k]? = some t ∧ lvl ts i k ∧ t.job.isSome = true)

structure GAll (ts : List WorkM) (ls : List ServM) (M : CpuM) (H : Nat → List Nat) : Prop where
  inv : CInv M
  sg : SG M ls H
  wks : M.tasks.map (·.wk) = ts
  dead : ∀ t ∈ M.tasks, ∀ j, t.job = some j → j.dead = t.last + t.wk.dead
  each : ∀ i R, i < ts.length → timeM ts ls i = some R → ∃ s wf rl, GInv ts M H ls.length i R s wf rl
theorem wkOf {ts : List WorkM} {M : CpuM} (h : M.tasks.map (·.wk) = ts) {i : Nat} {t : TaskM} (ht : M.tasks[i]? = some t) : wk ts i = t.wk := by
  have hi := get_lt ht
  have : ts[i]? = some t.wk := by rw [← h]; simp [ht]
  simp [wk, List.getD, this]
theorem tasks_len {ts : List WorkM} {M : CpuM} (h : M.tasks.map (·.wk) = ts) : M.tasks.length = ts.length := by rw [← h]; simp

/-- At a moment where no job as urgent is there. -/
theorem GInv.idle {ts : List WorkM} {M : CpuM} {H : Nat → List Nat} {nl i R : Nat} (hH : ∀ j, j < nl → ∀ u ∈ H j, u < M.now) (hno : ∀ (k : Nat) (t : TaskM), M.tasks[k]? = some t → lvl ts i k → t.job = none) : GInv ts M H nl i R M.now (fun _ => 0) (fun _ => 0) := by
  refine ⟨Nat.le_refl _, ?_, fun k t ht hl => ?_, fun _ _ => rfl, fun k t ht hl h => absurd h (by simp), .inl rfl⟩
  · have e := (sumTo_congr (f := uses H M.now) (g := fun _ => 0) (n := nl) (fun j hj => by
      unfold uses
      rw [List.length_eq_zero_iff, List.filter_eq_nil_iff]
      intro u hu
      have := hH j hj u hu
      simp; omega)).trans (sumTo_zero nl)
    rw [e, sumTo_zero]; omega
  · rw [hno k t ht hl]; simp
theorem GAll.start {ts : List WorkM} {ls : List ServM} (h : okTasks ts = true) (hl : okLoads ls = true) : GAll ts ls (newM ts ls) (fun _ => []) := by
  have hx : ∀ t ∈ (newM ts ls).tasks, t.job = none := fun t ht => by
    obtain ⟨w, _, rfl⟩ := List.mem_map.1 ht; rfl
  refine ⟨CInv.start h hl, SG.start ts hl, by simp [newM, newTask, Function.comp_def], (fun t ht j hj => by rw [hx t ht] at hj; cases hj), fun i R _ _ => ⟨_, _, _, GInv.idle (fun j _ u hu => absurd hu (by simp)) (fun k t ht _ => hx t (mem_get ht))⟩⟩
theorem GAll.wake {ts : List WorkM} {ls : List ServM} {M : CpuM} {H : Nat → List Nat} (h : GAll ts ls M H) (i : Int) (n : Nat) : GAll ts ls (M.wake i n) H := by
  obtain ⟨_, b, c⟩ := wake_len M i n
  refine ⟨h.inv.wake i n, h.sg.wake i n, by rw [b]; exact h.wks, by rw [b]; exact h.dead, fun i' R hi hR => ?_⟩
  obtain ⟨s, wf, rl, g⟩ := h.each i' R hi hR
  exact ⟨s, wf, rl, by rw [c]; exact g.le, by rw [c]; exact g.busy, by rw [b]; exact g.cost, g.no, by rw [b]; exact g.gap, by rw [b, c]; exact g.soon⟩
theorem GAll.rel {ts : List WorkM} {ls : List ServM} {M : CpuM} {H : Nat → List Nat} (h : GAll ts ls M H) (i : Int) (d : Nat) : GAll ts ls (M.rel i d) H := by
  have hinv := h.inv.rel i d
  rcases h.inv.relOf i d with ⟨_, _, hm⟩ | ⟨_, _, _, _, _, _, _, hm⟩ | ⟨_, _, _, _, _, _, _, _, hm⟩ | ⟨k0, t0, hi, ht0, hd, hj0, hb, hc, hm⟩
  · rw [hm]; exact h
  · rw [hm]; exact h
  · rw [hm]; exact h
  · rw [hm] at hinv ⊢
    have hk0 := get_lt ht0
    have hget : ∀ (k : Nat) (t : TaskM), (M.tasks.set k0 ⟨t0.wk, some ⟨d, 0, M.now + t0.wk.dead, false⟩, true, M.now⟩)[k]? = some t → (k = k0 ∧ t = ⟨t0.wk, some ⟨d, 0, M.now + t0.wk.dead, false⟩, true, M.now⟩) ∨ (k ≠ k0 ∧ M.tasks[k]? = some t) := fun k t ht => by
      rw [set_get hk0] at ht
      by_cases e : k = k0
      · rw [if_pos e] at ht; simp only [Option.some.injEq] at ht; exact .inl ⟨e, ht.symm⟩
      · rw [if_neg e] at ht; exact .inr ⟨e, ht⟩
    have hok := WorkM.ok_iff.1 (h.inv.wk t0 (mem_get ht0))
    refine ⟨hinv, ⟨h.sg.len, h.sg.srv⟩, ?_, fun t ht j hj => ?_, fun i' R hi hR => ?_⟩
    · show (M.tasks.set k0 _).map _ = _
      rw [← h.wks]
      apply List.ext_getElem?
      intro k
      simp only [List.getElem?_map]
      rw [set_get hk0]
      by_cases e : k = k0
      · subst e; simp [ht0]
      · rw [if_neg e]
    · rcases set_mem ht with rfl | ht
      · simp only [Option.some.injEq] at hj; subst hj; rfl
      · exact h.dead t ht j hj
    · obtain ⟨s, wf, rl, g⟩ := h.each i' R hi hR
      by_cases hl0 : lvl ts i' k0
      · refine ⟨s, wf, upd rl k0 (rl k0 + 1), g.le, g.busy, fun k t ht hl => ?_, g.no, fun k t ht hl hpos => ?_, ?_⟩
        · rcases hget k t ht with ⟨rfl, rfl⟩ | ⟨hne, ht⟩
          · have h1 := g.cost k t0 ht0 hl
            rw [hj0] at h1
            simp only at h1
            rw [upd_same]
            show wf k + (t0.wk.cost - 0) ≤ (rl k + 1) * t0.wk.cost
            rw [Nat.succ_mul]; omega
          · rw [upd_ne _ _ hne]; exact g.cost k t ht hl
        · rcases hget k t ht with ⟨rfl, rfl⟩ | ⟨hne, ht⟩
          · rw [upd_same] at hpos ⊢
            refine ⟨?_, rfl⟩
            show s + (rl k + 1 - 1) * t0.wk.period ≤ M.now
            by_cases hz : rl k = 0
            · rw [hz]; simp; exact g.le
            · obtain ⟨h1, h2⟩ := g.gap k t0 ht0 hl (by omega)
              have h3 : ¬ M.now - t0.last < t0.wk.period := fun h3 => hb ⟨h2, h3⟩
              have h4 : (rl k + 1 - 1) * t0.wk.period = (rl k - 1) * t0.wk.period + t0.wk.period := by
                obtain ⟨r, hr⟩ : ∃ r, rl k = r + 1 := ⟨rl k - 1, by omega⟩
                rw [hr]
                simp only [Nat.add_sub_cancel]
                exact Nat.succ_mul _ _
              rw [h4]
              have h5 := h.inv.last t0 (mem_get ht0)
              omega
          · rw [upd_ne _ _ hne] at hpos ⊢; exact g.gap k t ht hl hpos
        · rcases g.soon with h1 | ⟨h1, k, t, h2, h3, h4⟩
          · exact .inl h1
          · refine .inr ⟨h1, k0, ⟨t0.wk, some ⟨d, 0, M.now + t0.wk.dead, false⟩, true, M.now⟩, ?_, hl0, rfl⟩
            show (M.tasks.set k0 _)[k0]? = _
            rw [set_get hk0, if_pos rfl]
      · refine ⟨s, wf, rl, g.le, g.busy, fun k t ht hl => ?_, g.no, fun k t ht hl hpos => ?_, ?_⟩
        · rcases hget k t ht with ⟨rfl, rfl⟩ | ⟨hne, ht⟩
          · exact absurd hl hl0
          · exact g.cost k t ht hl
        · rcases hget k t ht with ⟨rfl, rfl⟩ | ⟨hne, ht⟩
          · exact absurd hl hl0
          · exact g.gap k t ht hl hpos
        · rcases g.soon with h1 | ⟨h1, k, t, h2, h3, h4⟩
          · exact .inl h1
          · refine .inr ⟨h1, k, t, ?_, h3, h4⟩
            show (M.tasks.set k0 _)[k]? = _
            rw [set_get hk0, if_neg (fun e => hl0 (by rw [← e]; exact h3))]
            exact h2

theorem up_gap {r T R : Nat} (hT : 0 < T) (h : (r - 1) * T < R) : r ≤ up R T := by
  have h1 := up_lt (n := R) (b := T) hT
  have h2 : (r - 1) * T < up R T * T := by omega
  have h3 := Nat.lt_of_mul_lt_mul_right h2
  omega
/-- Not so long: what is wanted of the span. -/
theorem GInv.short {ts : List WorkM} {ls : List ServM} {M : CpuM} {H : Nat → List Nat} {i R s : Nat} {wf rl : Nat → Nat} (hi : i < ts.length) (hR : timeM ts ls i = some R) (hv : CInv M) (hg : SG M ls H) (hw : M.tasks.map (·.wk) = ts)
    (hlast : ∀ t ∈ M.tasks, t.last < M.now) (h1 : s ≤ M.now) (hb : M.now = s + sumTo (uses H s) ls.length + sumTo wf ts.length)
    (hc : ∀ (k : Nat) (t : TaskM), M.tasks[k]? = some t → lvl ts i k → match t.job with
      | none => wf k ≤ rl k * t.wk.cost
      | some j => wf k + (t.wk.cost - j.ran) ≤ rl k * t.wk.cost)
    (hn : ∀ k, ¬ lvl ts i k → wf k = 0) (hp : ∀ (k : Nat) (t : TaskM), M.tasks[k]? = some t → lvl ts i k → 0 < rl k → s + (rl k - 1) * t.wk.period ≤ t.last)
    (k0 : Nat) (t0 : TaskM) (j0 : JobM) (ht0 : M.tasks[k0]? = some t0) (hl0 : lvl ts i k0) (hj0 : t0.job = some j0) : M.now ≠ s + R := by
  intro hnow
  have ht := isTime ts ls i
  rw [hR] at ht
  obtain ⟨r1, r2, r3, _⟩ := ht
  have hlen := tasks_len hw
  obtain ⟨ti, hti⟩ : ∃ t, M.tasks[i]? = some t := ⟨M.tasks[i]'(by omega), by simp [hlen, hi]⟩
  have hoki := WorkM.ok_iff.1 (hv.wk ti (mem_get hti))
  rw [wkOf hw hti] at r1 r2
  have hS : sumTo (uses H s) ls.length ≤ taken ls R := by
    rw [taken_sum]
    refine sumTo_le (fun j hj => ?_)
    obtain ⟨sj, hsj⟩ : ∃ x, M.servers[j]? = some x := ⟨M.servers[j]'(by rw [hg.len]; exact hj), by simp [hg.len, hj]⟩
    obtain ⟨e1, e2⟩ := hg.srv j sj hsj
    have e3 := e2.most (hv.srv sj (mem_get hsj)).1.s s h1
    have e4 : sv ls j = sj.bud.s := by simp [sv, List.getD, e1]
    rw [e4]
    have e5 : M.now - s = R := by omega
    rw [e5] at e3
    unfold uses
    omega
  have hwk : ∀ k, k < ts.length → (wf k ≤ (if k = i then (wk ts i).cost else if lvl ts i k then up R (wk ts k).period * (wk ts k).cost else 0) ∧ (k = k0 → wf k < (if k = i then (wk ts i).cost else if lvl ts i k then up R (wk ts k).period * (wk ts k).cost else 0))) := by
    intro k hk
    obtain ⟨t, htk⟩ : ∃ t, M.tasks[k]? = some t := ⟨M.tasks[k]'(by omega), by simp [hlen, hk]⟩
    have hok := WorkM.ok_iff.1 (hv.wk t (mem_get htk))
    by_cases hl : lvl ts i k
    · have hrl : rl k ≤ up R t.wk.period := by
        by_cases hz : rl k = 0
        · omega
        · have h5 := hp k t htk hl (by omega)
          have h6 := hlast t (mem_get htk)
          exact up_gap (by omega) (by omega)
      have hm : rl k * t.wk.cost ≤ up R t.wk.period * t.wk.cost := Nat.mul_le_mul_right _ hrl
      have hbound : (if k = i then (wk ts i).cost else if lvl ts i k then up R (wk ts k).period * (wk ts k).cost else 0) = up R t.wk.period * t.wk.cost := by
        by_cases e : k = i
        · subst e
          rw [htk] at hti
          simp only [Option.some.injEq] at hti
          subst hti
          rw [if_pos rfl, wkOf hw htk, up_one (by omega) (by omega), Nat.one_mul]
        · rw [if_neg e, if_pos hl, wkOf hw htk]
      rw [hbound]
      have h7 := hc k t htk hl
      refine ⟨?_, fun e => ?_⟩
      · cases hj : t.job with
        | none => rw [hj] at h7; simp only at h7; omega
        | some j => rw [hj] at h7; simp only at h7; omega
      · subst e
        rw [ht0] at htk
        simp only [Option.some.injEq] at htk
        subst htk
        rw [hj0] at h7
        simp only at h7
        have := (hv.ran t0 (mem_get ht0) j0 hj0).1
        omega
    · have hki : k ≠ i := fun e => hl (by subst e; exact Int.le_refl _)
      rw [if_neg hki, if_neg hl, hn k hl]
      exact ⟨Nat.le_refl _, fun e => absurd (e ▸ hl0) hl⟩
  have hk0 : k0 < ts.length := by rw [← hlen]; exact get_lt ht0
  have hW := sumTo_lt (fun k hk => (hwk k hk).1) hk0 ((hwk k0 hk0).2 rfl)
  rw [← rest_sum ts i R hi] at hW
  have : wanted ts ls i R = (wk ts i).cost + taken ls R + restK ts i R ts.length := rfl
  omega

/-- What a tick keeps, and whom it lets run. -/
theorem RanM.keeps2 {M M1 : CpuM} {who : Int} {nd nc : Nat} (hv : CInv M) (hr : RanM M M1 who nd nc) (n : Nat) :
    ∀ (k : Nat) (t' : TaskM), (M1.after n).tasks[k]? = some t' → ∃ t, M.tasks[k]? = some t ∧ t'.wk = t.wk ∧ t'.last = t.last ∧ t'.begun = t.begun ∧ (who ≠ (k : Int) → t'.job.isSome = t.job.isSome) ∧
      ∀ j', t'.job = some j' → ∃ j, t.job = some j ∧ j'.dead = j.dead ∧ ((who ≠ (k : Int) ∧ j'.ran = j.ran) ∨ (who = (k : Int) ∧ j'.ran = j.ran + 1)) := by
  intro k t' ht'
  obtain ⟨t1, h1, rfl⟩ := after_get ht'
  obtain ⟨a, b, c, d, e⟩ := late_is t1 n
  have hsame : ∀ t, M.tasks[k]? = some t → t1 = t → who ≠ (k : Int) → ∃ t, M.tasks[k]? = some t ∧ (t1.late n).wk = t.wk ∧ (t1.late n).last = t.last ∧ (t1.late n).begun = t.begun ∧ (who ≠ (k : Int) → (t1.late n).job.isSome = t.job.isSome) ∧
      ∀ j', (t1.late n).job = some j' → ∃ j, t.job = some j ∧ j'.dead = j.dead ∧ ((who ≠ (k : Int) ∧ j'.ran = j.ran) ∨ (who = (k : Int) ∧ j'.ran = j.ran + 1)) := by
    rintro t ht rfl hw
    refine ⟨t1, ht, a, b, c, fun _ => d, fun j' hj' => ?_⟩
    obtain ⟨j0, e1, e2, _, e4⟩ := e j' hj'
    exact ⟨j0, e1, e4, .inl ⟨hw, e2⟩⟩
  have hnt := hv.nt
  rcases hr with ⟨i, _, hw, rfl, _⟩ | ⟨_, _, hw, rfl, _⟩ | ⟨_, p, i, _, _, hw, hwk⟩
  · have := get_lt h1
    simp only at this
    exact hsame t1 h1 rfl (by omega)
  · exact hsame t1 h1 rfl (by omega)
  · obtain ⟨t, j, ht, hj, hx⟩ := hwk
    replace ht : M.tasks[i]? = some t := ht
    have hset : ∃ o, M1.tasks = M.tasks.set i { t with job := o } ∧ (o = none ∨ o = some j.step) := by
      rcases hx with ⟨_, rfl, _⟩ | ⟨_, _, rfl, _⟩ | ⟨_, _, rfl, _⟩
      · exact ⟨none, rfl, .inl rfl⟩
      · exact ⟨none, rfl, .inl rfl⟩
      · exact ⟨_, rfl, .inr rfl⟩
    obtain ⟨o, ho, ho2⟩ := hset
    rw [ho, set_get (get_lt ht)] at h1
    by_cases ek : k = i
    · rw [if_pos ek] at h1
      subst ek
      simp only [Option.some.injEq] at h1
      refine ⟨t, ht, a.trans (by rw [← h1]), b.trans (by rw [← h1]), c.trans (by rw [← h1]), fun hne => absurd hw hne, fun j' hj' => ?_⟩
      obtain ⟨j0, e1, e2, _, e4⟩ := e j' hj'
      rw [← h1] at e1
      simp only at e1
      rcases ho2 with rfl | rfl
      · cases e1
      · simp only [Option.some.injEq] at e1
        subst e1
        exact ⟨j, hj, e4, .inr ⟨hw, e2⟩⟩
    · rw [if_neg ek] at h1
      exact hsame t1 h1 rfl (by omega)
/-- The one that runs is as urgent as whoever is there. -/
theorem CInv.first_le {M : CpuM} (h : CInv M) {p i k : Nat} {t tk : TaskM} (hp : first M.rows = some p) (hi : (M.rows p).head?.getD 0 = (i : Int)) (ht : M.tasks[i]? = some t) (hk : M.tasks[k]? = some tk) (hj : tk.job.isSome = true) : t.wk.prio ≤ tk.wk.prio := by
  obtain ⟨i', t', j', e1, _, e2, _, e3⟩ := h.first_is hp
  obtain rfl : i = i' := by omega
  rw [ht] at e2
  simp only [Option.some.injEq] at e2
  subst e2
  have hm := (h.rows tk.wk.prio.toNat k).2 ⟨k, tk, rfl, hk, hj, rfl⟩
  have h1 := h.pr ht
  have h2 := h.pr hk
  have hne : ¬ tk.wk.prio.toNat < p := fun hlt => by rw [(first_some hp).2.2 _ hlt] at hm; cases hm
  omega
theorem uses_run {H : Nat → List Nat} {s i0 now : Nat} (hs : s ≤ now) : uses (upd H i0 (H i0 ++ [now])) s = upd (uses H s) i0 (uses H s i0 + 1) := by
  funext j
  unfold uses
  by_cases e : j = i0
  · subst e
    rw [upd_same, upd_same, List.filter_append, List.filter_cons_of_pos (by simp; omega)]
    simp
  · rw [upd_ne _ _ e, upd_ne _ _ e]

theorem GAll.tick {ts : List WorkM} {ls : List ServM} {M M1 : CpuM} {H : Nat → List Nat} {who : Int} {nd nc : Nat} (h : GAll ts ls M H) (hall : ∀ i, i < ts.length → ∃ R, timeM ts ls i = some R) (hr : RanM M M1 who nd nc) :
    (∃ H', GAll ts ls (M1.after (M.now + 1)) H') ∧ lateIds (M.now + 1) M1.tasks M1.tasks.length = [] := by
  have hinv := h.inv.tick hr
  have hk2 := RanM.keeps2 h.inv hr (M.now + 1)
  have hlen1 : M1.tasks.length = M.tasks.length := (hr.keeps 0).2.1
  have hlen : (M1.after (M.now + 1)).tasks.length = M.tasks.length := by simp [CpuM.after, hlen1]
  have hwks : (M1.after (M.now + 1)).tasks.map (·.wk) = ts := by
    apply List.ext_getElem?
    intro k
    rw [List.getElem?_map]
    cases ht : (M1.after (M.now + 1)).tasks[k]? with
    | none =>
      have := List.getElem?_eq_none_iff.1 ht
      have h2 := tasks_len h.wks
      simp [List.getElem?_eq_none (show ts.length ≤ k by omega)]
    | some t =>
      obtain ⟨t0, a, b, _⟩ := hk2 k t ht
      have : ts[k]? = some t0.wk := by rw [← h.wks]; simp [a]
      simp [this, b]
  have hdead : ∀ t ∈ (M1.after (M.now + 1)).tasks, ∀ j, t.job = some j → j.dead = t.last + t.wk.dead := by
    intro t htm j hj
    obtain ⟨k, hk⟩ := List.mem_iff_getElem?.1 htm
    obtain ⟨t0, a, b, c, _, _, d⟩ := hk2 k t hk
    obtain ⟨j0, e1, e2, _⟩ := d j hj
    rw [e2, b, c]
    exact h.dead t0 (mem_get a) j0 e1
  obtain ⟨H', hsg', hH'⟩ : ∃ H', SG (M1.after (M.now + 1)) ls H' ∧ ((∃ i : Nat, (serveL M.now M.servers).2 = some i ∧ i < ls.length ∧ H' = upd H i (H i ++ [M.now])) ∨ ((serveL M.now M.servers).2 = none ∧ H' = H)) := by
    rcases SG.tick h.inv h.sg hr with ⟨i, a, b, c⟩ | ⟨a, b⟩
    · exact ⟨_, c, .inl ⟨i, a, b, rfl⟩⟩
    · exact ⟨_, b, .inr ⟨a, rfl⟩⟩
  have heach : ∀ i R, i < ts.length → timeM ts ls i = some R → ∃ s wf rl, GInv ts (M1.after (M.now + 1)) H' ls.length i R s wf rl := by
    intro i R hi hR
    obtain ⟨s, wf, rl, g⟩ := h.each i R hi hR
    by_cases hth : ∃ (k : Nat) (t : TaskM), (M1.after (M.now + 1)).tasks[k]? = some t ∧ lvl ts i k ∧ t.job.isSome = true
    · obtain ⟨k1, t1, ht1, hl1, hj1⟩ := hth
      obtain ⟨t10, a1, b1, _, _, _, d1⟩ := hk2 k1 t1 ht1
      have hj10 : t10.job.isSome = true := by
        obtain ⟨j, hj⟩ := Option.isSome_iff_exists.1 hj1
        obtain ⟨j0, e1, _⟩ := d1 j hj
        rw [e1]; rfl
      have hmain : ∃ wf', (M.now + 1 = s + sumTo (uses H' s) ls.length + sumTo wf' ts.length) ∧ (∀ k, ¬ lvl ts i k → wf' k = 0) ∧
          ∀ (k : Nat) (t : TaskM), (M1.after (M.now + 1)).tasks[k]? = some t → lvl ts i k → match t.job with
            | none => wf' k ≤ rl k * t.wk.cost
            | some j => wf' k + (t.wk.cost - j.ran) ≤ rl k * t.wk.cost := by
        have hcost : ∀ (k : Nat) (t : TaskM), (M1.after (M.now + 1)).tasks[k]? = some t → lvl ts i k → who ≠ (k : Int) → match t.job with
            | none => wf k ≤ rl k * t.wk.cost
            | some j => wf k + (t.wk.cost - j.ran) ≤ rl k * t.wk.cost := by
          intro k t htk hl hne
          obtain ⟨t0, a, b, _, _, c, d⟩ := hk2 k t htk
          have h1 := g.cost k t0 a hl
          cases hj : t.job with
          | none =>
            have := c hne
            rw [hj] at this
            have h0 : t0.job = none := by cases hx : t0.job with | none => rfl | some x => rw [hx] at this; simp at this
            rw [h0] at h1
            simp only at h1 ⊢
            rw [b]; exact h1
          | some j =>
            obtain ⟨j0, e1, _, ⟨_, e3⟩ | ⟨e3, _⟩⟩ := d j hj
            · rw [e1] at h1
              simp only at h1 ⊢
              rw [b, e3]; exact h1
            · exact absurd e3 hne
        rcases hr with ⟨i0, hs0, hw, rfl, _⟩ | ⟨hs0, hf, hw, rfl, _⟩ | ⟨hs0, p, k0, hf, hh, hw, hwk⟩
        · obtain ⟨i1, q1, q2, rfl⟩ : ∃ i : Nat, (serveL M.now M.servers).2 = some i ∧ i < ls.length ∧ H' = upd H i (H i ++ [M.now]) := by
            rcases hH' with hH' | ⟨q, _⟩
            · exact hH'
            · rw [hs0] at q; cases q
          refine ⟨wf, ?_, g.no, fun k t htk hl => hcost k t htk hl ?_⟩
          · rw [uses_run g.le, sumTo_one q2]
            have := g.busy
            omega
          · have h3 := get_lt htk
            rw [hlen] at h3
            have := h.inv.nt
            omega
        · have hp := h.inv.pr a1
          have hm := (h.inv.rows t10.wk.prio.toNat k1).2 ⟨k1, t10, rfl, a1, hj10, rfl⟩
          rw [first_none hf _ (by omega)] at hm
          cases hm
        · obtain rfl : H' = H := by
            rcases hH' with ⟨i1, q1, _⟩ | ⟨_, q⟩
            · rw [hs0] at q1; cases q1
            · exact q
          obtain ⟨t, j, ht, hj, hx⟩ := hwk
          replace ht : M.tasks[k0]? = some t := ht
          have hle := h.inv.first_le hf hh ht a1 hj10
          have hl0 : lvl ts i k0 := by
            unfold lvl at hl1 ⊢
            rw [wkOf h.wks ht]
            rw [wkOf h.wks a1] at hl1
            omega
          have hk0 : k0 < ts.length := by rw [← tasks_len h.wks]; exact get_lt ht
          refine ⟨upd wf k0 (wf k0 + 1), ?_, fun k hl => ?_, fun k t' htk hl => ?_⟩
          · rw [sumTo_one hk0]
            have := g.busy
            omega
          · rw [upd_ne _ _ (fun e => hl (by rw [e]; exact hl0))]; exact g.no k hl
          · by_cases e : k = k0
            · subst e
              rw [upd_same]
              obtain ⟨t0, a, b, _, _, _, d⟩ := hk2 k t' htk
              rw [ht] at a
              simp only [Option.some.injEq] at a
              subst a
              have h1 := g.cost k t ht hl
              rw [hj] at h1
              simp only at h1
              have h2 := (h.inv.ran t (mem_get ht) j hj).1
              cases hj' : t'.job with
              | none => simp only; rw [b]; omega
              | some j' =>
                obtain ⟨j0, e1, _, ⟨e3, _⟩ | ⟨_, e3⟩⟩ := d j' hj'
                · exact absurd hw e3
                · rw [hj] at e1
                  simp only [Option.some.injEq] at e1
                  subst e1
                  simp only
                  rw [b, e3]; omega
            · rw [upd_ne _ _ e]
              exact hcost k t' htk hl (by omega)
      obtain ⟨wf', hb', hn', hc'⟩ := hmain
      have hgap : ∀ (k : Nat) (t : TaskM), (M1.after (M.now + 1)).tasks[k]? = some t → lvl ts i k → 0 < rl k → s + (rl k - 1) * t.wk.period ≤ t.last ∧ t.begun = true := by
        intro k t htk hl hpos
        obtain ⟨t0, a, b, c, d, _⟩ := hk2 k t htk
        rw [b, c, d]
        exact g.gap k t0 a hl hpos
      have hle : s ≤ (M1.after (M.now + 1)).now := by show s ≤ M.now + 1; have := g.le; omega
      obtain ⟨j1, hj1'⟩ := Option.isSome_iff_exists.1 hj1
      have hsh := GInv.short hi hR hinv hsg' hwks (fun t htm => by
        obtain ⟨k, hk⟩ := List.mem_iff_getElem?.1 htm
        obtain ⟨t0, a, _, c, _⟩ := hk2 k t hk
        rw [c]
        show t0.last < M.now + 1
        have := h.inv.last t0 (mem_get a)
        omega) hle hb' hc' hn' (fun k t a b c => (hgap k t a b c).1) k1 t1 j1 ht1 hl1 hj1'
      refine ⟨s, wf', rl, hle, hb', hc', hn', hgap, .inr ⟨?_, k1, t1, ht1, hl1, hj1⟩⟩
      have hsh : M.now + 1 ≠ s + R := hsh
      show M.now + 1 < s + R
      have htime := isTime ts ls i
      rw [hR] at htime
      obtain ⟨ti, hti⟩ : ∃ t, M.tasks[i]? = some t := ⟨M.tasks[i]'(by rw [tasks_len h.wks]; exact hi), by simp [tasks_len h.wks, hi]⟩
      have hoki := WorkM.ok_iff.1 (h.inv.wk ti (mem_get hti))
      have hc1 := htime.1
      rw [wkOf h.wks hti] at hc1
      rcases g.soon with e | ⟨e, _⟩ <;> omega
    · refine ⟨_, _, _, GInv.idle (M := M1.after (M.now + 1)) (fun j hj u hu => ?_) (fun k t htk hl => ?_)⟩
      · obtain ⟨sj, hsj⟩ : ∃ x, (M1.after (M.now + 1)).servers[j]? = some x := ⟨(M1.after (M.now + 1)).servers[j]'(by rw [hsg'.len]; exact hj), by simp [hsg'.len, hj]⟩
        exact (hsg'.srv j sj hsj).2.lt u hu
      · cases hj : t.job with
        | none => rfl
        | some j => exact absurd ⟨k, t, htk, hl, by rw [hj]; rfl⟩ hth
  have hG : GAll ts ls (M1.after (M.now + 1)) H' := ⟨hinv, hsg', hwks, hdead, heach⟩
  refine ⟨⟨H', hG⟩, ?_⟩
  have hno : ∀ (k : Nat) (t : TaskM), M1.tasks[k]? = some t → t.isLate (M.now + 1) = false := by
    intro k t ht
    cases hj : t.job with
    | none => simp [TaskM.isLate, hj]
    | some j =>
      have htl : (M1.after (M.now + 1)).tasks[k]? = some (t.late (M.now + 1)) := by simp [CpuM.after, ht]
      have hkt : k < ts.length := by rw [← tasks_len hwks]; exact get_lt htl
      obtain ⟨R, hR⟩ := hall k hkt
      obtain ⟨s, wf, rl, g⟩ := heach k R hkt hR
      obtain ⟨a, b, _, d, e⟩ := late_is t (M.now + 1)
      have hsome : (t.late (M.now + 1)).job.isSome = true := by rw [d, hj]; rfl
      obtain ⟨j', hj'⟩ := Option.isSome_iff_exists.1 hsome
      obtain ⟨j0, e1, _, _, e4⟩ := e j' hj'
      rw [hj] at e1
      simp only [Option.some.injEq] at e1
      subst e1
      have hd := hdead _ (mem_get htl) j' hj'
      rw [e4] at hd
      have hlk : lvl ts k k := Int.le_refl _
      have h1 := g.cost k _ htl hlk
      rw [hj'] at h1
      simp only at h1
      have hran := (hinv.ran _ (mem_get htl) j' hj').1
      have hpos : 0 < rl k := by
        rcases Nat.eq_zero_or_pos (rl k) with e0 | e0
        · rw [e0] at h1; simp at h1; omega
        · exact e0
      have h2 := (g.gap k _ htl hlk hpos).1
      have htime := isTime ts ls k
      rw [hR] at htime
      have hRd := htime.2.1
      rw [wkOf hwks htl] at hRd
      have hlt : M.now + 1 < j.dead := by
        have hlast := hinv.last _ (mem_get htl)
        have h3 : s ≤ (t.late (M.now + 1)).last := by
          have := Nat.zero_le ((rl k - 1) * (t.late (M.now + 1)).wk.period)
          omega
        rcases g.soon with e | ⟨e, _⟩
        · replace e : M.now + 1 = s := e
          replace hlast : (t.late (M.now + 1)).last ≤ M.now + 1 := hlast
          obtain ⟨t0, a0, _, c0, _⟩ := hk2 k _ htl
          have := h.inv.last t0 (mem_get a0)
          omega
        · replace e : M.now + 1 < s + R := e
          omega
      simp [TaskM.isLate, hj]
      intro _
      omega
  have : ∀ n, lateIds (M.now + 1) M1.tasks n = [] := by
    intro n
    induction n with
    | zero => rfl
    | succ n ih =>
      rw [lateIds, ih]
      cases ht : M1.tasks[n]? with
      | none => simp
      | some t => simp [hno n t ht]
  exact this _

end Go.Proofs.Ytbedknfapiadbaa
