/-
  Servers alone, plainly: when each has run, and what of its budget is out.
-/
import Derived.Test.YtbedknfapiadbaaUrgentP
namespace Go.Proofs.Ytbedknfapiadbaa
open Go.RowKit

theorem dropWhile_filter (l : List Nat) (t : Nat) (h : l.Pairwise (· < ·)) : l.dropWhile (fun x => decide (x ≤ t)) = l.filter (fun x => decide (t < x)) := by
  induction l with
  | nil => rfl
  | cons x l ih =>
    obtain ⟨h1, h2⟩ := List.pairwise_cons.1 h
    by_cases hx : x ≤ t
    · rw [List.dropWhile_cons_of_pos (by simpa using hx), List.filter_cons_of_neg (by simp; omega)]
      exact ih h2
    · rw [List.dropWhile_cons_of_neg (by simpa using hx), List.filter_cons_of_pos (by simp; omega)]
      congr 1
      symm
      rw [List.filter_eq_self]
      intro y hy
      have := h1 y hy
      simp; omega

/-- A server's uses, and its budget. -/
structure HOk (b : BudM) (H : List Nat) (now : Nat) : Prop where
  back : b.back = (H.filter (fun u => decide (b.now < u + b.s.period))).map (· + b.s.period)
  sorted : H.Pairwise (· < ·)
  lt : ∀ u ∈ H, u < now
  win : ∀ t, (H.filter (fun u => decide (u ≤ t) && decide (t < u + b.s.period))).length ≤ b.s.budget.toNat
theorem HOk.at {b : BudM} {H : List Nat} {now : Nat} (h : HOk b H now) (hn : b.now ≤ now) : HOk (b.at now) H now := by
  refine ⟨?_, h.sorted, h.lt, h.win⟩
  show b.back.dropWhile _ = (H.filter (fun u => decide (now < u + b.s.period))).map (· + b.s.period)
  have hp : ((H.filter (fun u => decide (b.now < u + b.s.period))).map (· + b.s.period)).Pairwise (· < ·) := by
    rw [List.pairwise_map]
    exact (h.sorted.sublist List.filter_sublist).imp (fun hxy => by omega)
  rw [h.back, dropWhile_filter _ _ hp, List.filter_map, List.filter_filter]
  congr 1
  apply List.filter_congr
  intro u _
  by_cases e : now < u + b.s.period
  · have : b.now < u + b.s.period := by omega
    simp [e, this, Function.comp_def]
  · simp [e, Function.comp_def]
theorem HOk.used {b : BudM} {H : List Nat} {now : Nat} (h : HOk b H now) (hn : b.now = now) (hs : b.s.ok = true) (hl : 0 < b.left) : HOk b.used (H ++ [now]) (now + 1) := by
  have hk := ServM.ok_iff.1 hs
  have hb : b.back.length = (H.filter (fun u => decide (now < u + b.s.period))).length := by rw [h.back, hn]; simp
  unfold BudM.left at hl
  refine ⟨?_, ?_, fun u hu => ?_, fun t => ?_⟩
  · show b.back ++ [b.now + b.s.period] = ((H ++ [now]).filter (fun u => decide (b.now < u + b.s.period))).map (· + b.s.period)
    rw [List.filter_append, List.map_append, ← h.back, hn]
    congr 1
    rw [List.filter_cons_of_pos (by simp; omega)]
    rfl
  · rw [List.pairwise_append]
    exact ⟨h.sorted, List.pairwise_singleton _ _, fun x hx y hy => by simp at hy; subst hy; exact h.lt x hx⟩
  · rcases List.mem_append.1 hu with hu | hu
    · have := h.lt u hu; omega
    · simp at hu; omega
  · show ((H ++ [now]).filter (fun u => decide (u ≤ t) && decide (t < u + b.s.period))).length ≤ b.s.budget.toNat
    rw [List.filter_append, List.length_append]
    have h1 := h.win t
    by_cases ht : now ≤ t
    · have h2 : (H.filter (fun u => decide (u ≤ t) && decide (t < u + b.s.period))).length ≤ (H.filter (fun u => decide (now < u + b.s.period))).length := by
        rw [← List.countP_eq_length_filter, ← List.countP_eq_length_filter]
        apply List.countP_mono_left
        intro u _ hu
        simp at hu ⊢
        omega
      have h3 : ([now].filter (fun u => decide (u ≤ t) && decide (t < u + b.s.period))).length ≤ 1 := Nat.le_trans (List.length_filter_le _ _) (by simp)
      omega
    · have h3 : ([now].filter (fun u => decide (u ≤ t) && decide (t < u + b.s.period))).length = 0 := by
        rw [List.filter_cons_of_neg (by simp; omega)]; rfl
      omega
theorem HOk.mono {b : BudM} {H : List Nat} {n m : Nat} (h : HOk b H n) (hm : n ≤ m) : HOk b H m := ⟨h.back, h.sorted, fun u hu => Nat.lt_of_lt_of_le (h.lt u hu) hm, h.win⟩
/-- No more in a span than the budget lets. -/
theorem HOk.span {b : BudM} {H : List Nat} {now : Nat} (h : HOk b H now) (a n : Nat) : (H.filter (fun u => decide (a ≤ u) && decide (u < a + n * b.s.period))).length ≤ n * b.s.budget.toNat := by
  induction n with
  | zero =>
    have : H.filter (fun u => decide (a ≤ u) && decide (u < a + 0 * b.s.period)) = [] := by
      rw [List.filter_eq_nil_iff]
      intro u _
      simp
    rw [this]; simp
  | succ n ih =>
    have h1 := h.win (a + (n + 1) * b.s.period - 1)
    have h2 : (H.filter (fun u => decide (a ≤ u) && decide (u < a + (n + 1) * b.s.period))).length ≤
        (H.filter (fun u => decide (a ≤ u) && decide (u < a + n * b.s.period))).length + (H.filter (fun u => decide (u ≤ a + (n + 1) * b.s.period - 1) && decide (a + (n + 1) * b.s.period - 1 < u + b.s.period))).length := by
      have he : (n + 1) * b.s.period = n * b.s.period + b.s.period := Nat.succ_mul _ _
      generalize (n + 1) * b.s.period = X at *
      generalize n * b.s.period = Y at *
      clear ih h1
      generalize b.s.period = P at *
      clear h
      induction H with
      | nil => simp
      | cons u H ih =>
        simp only [List.filter_cons]
        by_cases c1 : (decide (a ≤ u) && decide (u < a + X)) = true
        · rw [if_pos c1]
          simp at c1
          by_cases c2 : u < a + Y
          · rw [if_pos (by simp; omega)]
            split <;> simp only [List.length_cons] <;> omega
          · rw [if_neg (by simp; omega), if_pos (by simp; omega)]
            simp only [List.length_cons]; omega
        · rw [if_neg c1]
          split <;> split <;> (try simp only [List.length_cons]) <;> omega
    have h3 : (n + 1) * b.s.budget.toNat = n * b.s.budget.toNat + b.s.budget.toNat := Nat.succ_mul _ _
    omega
theorem sorted_len (L : List Nat) (a e : Nat) (hs : L.Pairwise (· < ·)) (h : ∀ u ∈ L, a ≤ u ∧ u < e) : L.length ≤ e - a := by
  induction L generalizing a with
  | nil => simp
  | cons u L ih =>
    obtain ⟨h1, h2⟩ := List.pairwise_cons.1 hs
    have h3 := h u (List.mem_cons_self ..)
    have h4 := ih (u + 1) h2 (fun x hx => ⟨h1 x hx, (h x (List.mem_cons_of_mem _ hx)).2⟩)
    simp only [List.length_cons]
    omega
/-- What 'Most' says holds. -/
theorem HOk.most {b : BudM} {H : List Nat} {now : Nat} (h : HOk b H now) (hs : b.s.ok = true) (a : Nat) (ha : a ≤ now) : (H.filter (fun u => decide (a ≤ u))).length ≤ min (up (now - a) b.s.period * b.s.budget.toNat) (now - a) := by
  have hk := ServM.ok_iff.1 hs
  have h1 := h.span a (up (now - a) b.s.period)
  have h2 := up_lt (n := now - a) (b := b.s.period) (by omega)
  have h3 : H.filter (fun u => decide (a ≤ u)) = H.filter (fun u => decide (a ≤ u) && decide (u < a + up (now - a) b.s.period * b.s.period)) := by
    apply List.filter_congr
    intro u hu
    have := h.lt u hu
    have h4 : u < a + up (now - a) b.s.period * b.s.period := by omega
    simp [h4]
  have h4 := sorted_len (H.filter (fun u => decide (a ≤ u))) a now (h.sorted.sublist List.filter_sublist) (fun u hu => by
    have := List.mem_filter.1 hu
    simp at this
    exact ⟨this.2, h.lt u this.1⟩)
  rw [← h3] at h1
  omega

theorem serveL_spec (now : Nat) (S : List SrvM) :
    (∀ (k : Nat) (s' : SrvM), (serveL now S).1[k]? = some s' → ∃ s, S[k]? = some s ∧ (((serveL now S).2 ≠ some k ∧ s'.work = s.work ∧ (s'.bud = s.bud ∨ s'.bud = s.bud.at now)) ∨ ((serveL now S).2 = some k ∧ 0 < s.work ∧ (s.bud.at now).left ≠ 0 ∧ s' = ⟨(s.bud.at now).used, s.work - 1⟩))) ∧
    ((serveL now S).2 = none → ∀ s ∈ S, s.work = 0 ∨ (s.bud.at now).left = 0) ∧ (∀ i, (serveL now S).2 = some i → i < S.length) := by
  induction S with
  | nil => exact ⟨fun k s' h => absurd h (by simp [serveL]), ⟨fun _ s hs => absurd hs (by simp), fun i h => absurd h (by simp [serveL])⟩⟩
  | cons s l ih =>
    obtain ⟨i1, i2, i3⟩ := ih
    have huse : (s.bud.at now).left = 0 → s.bud.use now = s.bud.at now := fun h => by unfold BudM.use; rw [if_pos h]
    have huse2 : (s.bud.at now).left ≠ 0 → s.bud.use now = (s.bud.at now).used := fun h => by unfold BudM.use; rw [if_neg h]
    have hstep : ∀ (s0 : SrvM), (s0.work = s.work ∧ (s0.bud = s.bud ∨ s0.bud = s.bud.at now)) → (s.work = 0 ∨ (s.bud.at now).left = 0) →
        (∀ (k : Nat) (s' : SrvM), (s0 :: (serveL now l).1)[k]? = some s' → ∃ s1, (s :: l)[k]? = some s1 ∧ ((((serveL now l).2.map (· + 1)) ≠ some k ∧ s'.work = s1.work ∧ (s'.bud = s1.bud ∨ s'.bud = s1.bud.at now)) ∨ (((serveL now l).2.map (· + 1)) = some k ∧ 0 < s1.work ∧ (s1.bud.at now).left ≠ 0 ∧ s' = ⟨(s1.bud.at now).used, s1.work - 1⟩))) ∧
        (((serveL now l).2.map (· + 1)) = none → ∀ s1 ∈ s :: l, s1.work = 0 ∨ (s1.bud.at now).left = 0) ∧ (∀ i, ((serveL now l).2.map (· + 1)) = some i → i < (s :: l).length) := by
      intro s0 h0 h1
      refine ⟨fun k s' hk => ?_, fun hn s1 hs1 => ?_, fun i hi => ?_⟩
      · cases k with
        | zero =>
          simp at hk
          subst hk
          exact ⟨s, rfl, .inl ⟨by cases (serveL now l).2 <;> simp, h0⟩⟩
        | succ k =>
          simp at hk
          obtain ⟨s1, e1, e2⟩ := i1 k s' hk
          refine ⟨s1, by simpa using e1, ?_⟩
          rcases e2 with ⟨e2, e3⟩ | ⟨e2, e3⟩
          · exact .inl ⟨by cases hh : (serveL now l).2 <;> simp_all, e3⟩
          · exact .inr ⟨by rw [e2]; rfl, e3⟩
      · have hn' : (serveL now l).2 = none := by cases hh : (serveL now l).2 <;> simp_all
        rcases List.mem_cons.1 hs1 with rfl | hs1
        · exact h1
        · exact i2 hn' s1 hs1
      · cases hh : (serveL now l).2 with
        | none => simp [hh] at hi
        | some j => simp [hh] at hi; have := i3 j hh; simp; omega
    by_cases c1 : s.work = 0
    · have e : serveL now (s :: l) = (s :: (serveL now l).1, (serveL now l).2.map (· + 1)) := by rw [serveL, if_pos c1]
      rw [e]
      exact hstep s ⟨rfl, .inl rfl⟩ (.inl c1)
    · by_cases c2 : (s.bud.at now).left = 0
      · have e : serveL now (s :: l) = (⟨s.bud.use now, s.work⟩ :: (serveL now l).1, (serveL now l).2.map (· + 1)) := by rw [serveL, if_neg c1, if_pos c2]
        rw [e]
        exact hstep ⟨s.bud.use now, s.work⟩ ⟨rfl, .inr (huse c2)⟩ (.inr c2)
      · have e : serveL now (s :: l) = (⟨s.bud.use now, s.work - 1⟩ :: l, some 0) := by rw [serveL, if_neg c1, if_neg c2]
        rw [e]
        refine ⟨fun k s' hk => ?_, fun hn => by simp at hn, fun i hi => by simp at hi; subst hi; simp⟩
        cases k with
        | zero =>
          simp at hk
          subst hk
          exact ⟨s, rfl, .inr ⟨rfl, by omega, c2, by rw [huse2 c2]⟩⟩
        | succ k =>
          simp at hk
          exact ⟨s', by simpa using hk, .inl ⟨by simp, rfl, .inl rfl⟩⟩

/-- Servers alone: H k is when server k has run. -/
structure SH (M : CpuM) (ls : List ServM) (H : Nat → List Nat) : Prop where
  inv : CInv M
  tasks : M.tasks = []
  len : M.servers.length = ls.length
  srv : ∀ (k : Nat) (s : SrvM), M.servers[k]? = some s → ls[k]? = some s.bud.s ∧ HOk s.bud (H k) M.now
theorem SH.start {ls : List ServM} (h : okLoads ls = true) : SH (newM [] ls) ls (fun _ => []) := by
  refine ⟨CInv.start rfl h, rfl, by simp [newM], fun k s hs => ?_⟩
  simp only [newM, List.getElem?_map] at hs
  cases hk : ls[k]? with
  | none => simp [hk] at hs
  | some x =>
    simp [hk] at hs
    subst hs
    exact ⟨rfl, rfl, List.Pairwise.nil, (fun u hu => absurd hu (by simp)), fun t => (by simp)⟩
theorem wake_get {M : CpuM} {i : Int} {n k : Nat} {s' : SrvM} (h : (M.wake i n).servers[k]? = some s') : ∃ s, M.servers[k]? = some s ∧ s'.bud = s.bud ∧ s'.work = if i = k then s.work + min n (1048576 - s.work) else s.work := by
  unfold CpuM.wake at h
  split at h
  · rename_i hi
    split at h
    · rename_i s hs
      simp only at h
      rw [set_get (get_lt hs)] at h
      by_cases e : k = i.toNat
      · rw [if_pos e] at h
        simp only [Option.some.injEq] at h
        subst h
        subst e
        exact ⟨s, hs, rfl, by rw [if_pos (by omega)]; rfl⟩
      · rw [if_neg e] at h
        exact ⟨s', h, rfl, by rw [if_neg (by omega)]⟩
    · rename_i hs
      refine ⟨s', h, rfl, ?_⟩
      rw [if_neg (fun e => by subst e; simp [h] at hs)]
  · exact ⟨s', h, rfl, by rw [if_neg (by omega)]⟩
theorem wake_len (M : CpuM) (i : Int) (n : Nat) : (M.wake i n).servers.length = M.servers.length ∧ (M.wake i n).tasks = M.tasks ∧ (M.wake i n).now = M.now := by
  unfold CpuM.wake
  split
  · split <;> simp
  · simp
theorem SH.wake {M : CpuM} {ls : List ServM} {H : Nat → List Nat} (h : SH M ls H) (i : Int) (n : Nat) : SH (M.wake i n) ls H := by
  obtain ⟨a, b, c⟩ := wake_len M i n
  refine ⟨h.inv.wake i n, by rw [b]; exact h.tasks, by rw [a]; exact h.len, fun k s' hs => ?_⟩
  obtain ⟨s, h1, h2, _⟩ := wake_get hs
  rw [h2, c]
  exact h.srv k s h1
theorem SH.noRows {M : CpuM} {ls : List ServM} {H : Nat → List Nat} (h : SH M ls H) : first M.rows = none := by
  cases hf : first M.rows with
  | none => rfl
  | some p =>
    obtain ⟨i, t, j, _, _, ht, _⟩ := h.inv.first_is hf
    rw [h.tasks] at ht
    simp at ht
/-- A tick. -/
theorem SH.tick {M M1 : CpuM} {ls : List ServM} {H : Nat → List Nat} {who : Int} {nd nc : Nat} (h : SH M ls H) (hr : RanM M M1 who nd nc) :
    nd = 0 ∧ nc = 0 ∧ M1.tasks = [] ∧
    ((who = -1 ∧ SH (M1.after (M.now + 1)) ls H ∧ (∀ s ∈ M.servers, s.work = 0 ∨ (s.bud.at M.now).left = 0) ∧ ∀ (k : Nat) (s' : SrvM), (M1.after (M.now + 1)).servers[k]? = some s' → ∃ s, M.servers[k]? = some s ∧ s'.work = s.work) ∨
     (∃ i : Nat, who = 100 + i ∧ i < ls.length ∧ SH (M1.after (M.now + 1)) ls (upd H i (H i ++ [M.now])) ∧ (∃ s, M.servers[i]? = some s ∧ 0 < s.work) ∧ ∀ (k : Nat) (s' : SrvM), (M1.after (M.now + 1)).servers[k]? = some s' → ∃ s, M.servers[k]? = some s ∧ s'.work = if k = i then s.work - 1 else s.work)) := by
  have hinv := h.inv.tick hr
  have hnow := hr.now
  obtain ⟨p1, p2, p3⟩ := serveL_spec M.now M.servers
  have hkeep : ∀ (k : Nat) (s s' : SrvM), M.servers[k]? = some s → (s'.bud = s.bud ∨ s'.bud = s.bud.at M.now) → ls[k]? = some s'.bud.s ∧ HOk s'.bud (H k) (M.now + 1) := by
    intro k s s' hs hb
    obtain ⟨a, b⟩ := h.srv k s hs
    rcases hb with hb | hb <;> rw [hb]
    · exact ⟨a, b.mono (Nat.le_succ _)⟩
    · exact ⟨a, (b.at (h.inv.srv s (mem_get hs)).2.1).mono (Nat.le_succ _)⟩
  rcases hr with ⟨i, a, e, rfl, rfl, rfl⟩ | ⟨a, _, e, rfl, rfl, rfl⟩ | ⟨_, p, i, a, _⟩
  · have hi := p3 i a
    obtain ⟨s'0, hs'0⟩ : ∃ s', (serveL M.now M.servers).1[i]? = some s' := ⟨(serveL M.now M.servers).1[i]'(by rw [serveL_len]; exact hi), by simp [serveL_len, hi]⟩
    refine ⟨rfl, rfl, h.tasks, .inr ⟨i, e, by rw [← h.len]; exact hi, ⟨hinv, by simp [CpuM.after, h.tasks], by show (serveL M.now M.servers).1.length = _; rw [serveL_len]; exact h.len, fun k s' hs' => ?_⟩, ?_, fun k s' hs' => ?_⟩⟩
    · obtain ⟨s, hs, ⟨q1, q2, q3⟩ | ⟨q1, q2, q3, q4⟩⟩ := p1 k s' hs'
      · have hne : k ≠ i := fun e => q1 (by rw [a, e])
        rw [upd_ne _ _ hne]
        exact hkeep k s s' hs q3
      · obtain rfl : i = k := by rw [a] at q1; simpa using q1
        subst q4
        rw [upd_same]
        have hso := h.inv.srv s (mem_get hs)
        obtain ⟨a1, a2⟩ := h.srv i s hs
        have hat := a2.at hso.2.1
        refine ⟨a1, hat.used rfl hso.1.s ?_⟩
        have := (hso.1.at M.now).len
        unfold BudM.left at q3 ⊢
        omega
    · obtain ⟨s, hs, ⟨q1, _⟩ | ⟨_, q2, _⟩⟩ := p1 i s'0 hs'0
      · exact absurd a q1
      · exact ⟨s, hs, q2⟩
    · obtain ⟨s, hs, ⟨q1, q2, _⟩ | ⟨q1, q2, _, q4⟩⟩ := p1 k s' hs'
      · exact ⟨s, hs, by rw [if_neg (fun e => q1 (by rw [a, e])), q2]⟩
      · obtain rfl : i = k := by rw [a] at q1; simpa using q1
        exact ⟨s, hs, by rw [if_pos rfl, q4]⟩
  · refine ⟨rfl, rfl, h.tasks, .inl ⟨e, ⟨hinv, by simp [CpuM.after, h.tasks], by show (serveL M.now M.servers).1.length = _; rw [serveL_len]; exact h.len, fun k s' hs' => ?_⟩, p2 a, fun k s' hs' => ?_⟩⟩
    · obtain ⟨s, hs, ⟨_, _, q3⟩ | ⟨q1, _⟩⟩ := p1 k s' hs'
      · exact hkeep k s s' hs q3
      · rw [a] at q1; cases q1
    · obtain ⟨s, hs, ⟨_, q2, _⟩ | ⟨q1, _⟩⟩ := p1 k s' hs'
      · exact ⟨s, hs, q2⟩
      · rw [a] at q1; cases q1
  · rw [h.noRows] at a; cases a

end Go.Proofs.Ytbedknfapiadbaa
