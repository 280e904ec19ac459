/-
  More plain laws of answer times: what is wanted in another order, with more tasks and loads, and with less cost.
-/
import Derived.Test.YtibplnbldnhbhaaRtaM
namespace Go.Proofs.Ytibplnbldnhbhaa

/-- A sum. -/
def sumN (g : Nat → Nat) : Nat → Nat
  | 0 => 0
  | k + 1 => sumN g k + g k
theorem sumN_congr {g h : Nat → Nat} {n : Nat} (e : ∀ k, k < n → g k = h k) : sumN g n = sumN h n := by
  induction n with
  | zero => rfl
  | succ n ih => rw [sumN, sumN, ih (fun k hk => e k (by omega)), e n (by omega)]
theorem sumN_le {g h : Nat → Nat} {n : Nat} (e : ∀ k, k < n → g k ≤ h k) : sumN g n ≤ sumN h n := by
  induction n with
  | zero => exact Nat.le_refl _
  | succ n ih => rw [sumN, sumN]; exact Nat.add_le_add (ih (fun k hk => e k (by omega))) (e n (by omega))
theorem sumN_add (g : Nat → Nat) (a b : Nat) : sumN g (a + b) = sumN g a + sumN (fun k => g (a + k)) b := by
  induction b with
  | zero => rfl
  | succ b ih => rw [← Nat.add_assoc, sumN, sumN, ih, Nat.add_assoc]
theorem sumN_head (g : Nat → Nat) (n : Nat) : sumN g (n + 1) = g 0 + sumN (fun k => g (k + 1)) n := by
  rw [Nat.add_comm n 1, sumN_add]
  show (0 + g 0) + _ = _
  rw [Nat.zero_add]
  congr 1
  exact sumN_congr fun k _ => by rw [Nat.add_comm]
theorem sumN_rev (g : Nat → Nat) (n : Nat) : sumN (fun k => g (n - 1 - k)) n = sumN g n := by
  induction n with
  | zero => rfl
  | succ n ih =>
    rw [sumN_head, sumN, Nat.add_comm (sumN g n), ← ih]
    congr 1
    exact sumN_congr fun k hk => by congr 1; omega
theorem rot_mod {i k n : Nat} (hi : i < n) (hk : k < n) : (i + k) % n = if i + k < n then i + k else i + k - n := by
  split
  · exact Nat.mod_eq_of_lt (by assumption)
  · rw [Nat.mod_eq_sub_mod (by omega), Nat.mod_eq_of_lt (by omega)]
theorem sumN_rot (g : Nat → Nat) {k n : Nat} (hk : k < n) : sumN (fun j => g ((j + k) % n)) n = sumN g n := by
  have h1 := sumN_add (fun j => g ((j + k) % n)) (n - k) k
  have h2 := sumN_add g k (n - k)
  rw [show n - k + k = n from by omega] at h1
  rw [show k + (n - k) = n from by omega] at h2
  rw [h1, h2, Nat.add_comm]
  congr 1
  · exact sumN_congr fun j hj => by
      show g ((n - k + j + k) % n) = g j
      rw [rot_mod (by omega) hk, if_neg (by omega)]
      congr 1
      omega
  · exact sumN_congr fun j hj => by
      show g ((j + k) % n) = g (k + j)
      rw [rot_mod (by omega) hk, if_pos (by omega), Nat.add_comm]

theorem takenK_sum (ls : List ServM) (s k : Nat) : takenK ls s k = sumN (fun j => up s (sv ls j).period * (sv ls j).budget.toNat) k := by
  induction k with
  | zero => rfl
  | succ k ih => rw [takenK, sumN, ih]
/-- What task k wants of a span beside task i. -/
def term (ts : List WorkM) (i s k : Nat) : Nat := if k ≠ i ∧ (wk ts k).prio ≤ (wk ts i).prio then up s (wk ts k).period * (wk ts k).cost else 0
theorem restK_sum (ts : List WorkM) (i s k : Nat) : restK ts i s k = sumN (term ts i s) k := by
  induction k with
  | zero => rfl
  | succ k ih => rw [restK, sumN, ih]; rfl
theorem wanted_sum (ts : List WorkM) (ls : List ServM) (i s : Nat) : wanted ts ls i s = (wk ts i).cost + taken ls s + sumN (term ts i s) ts.length := by
  rw [wanted, wantedK, restK_sum]

/-! Another order. -/
def turned (ts : List WorkM) (k : Nat) : List WorkM := (List.range ts.length).map (fun i => wk ts ((i + k) % ts.length))
theorem turned_len (ts : List WorkM) (k : Nat) : (turned ts k).length = ts.length := by simp [turned]
theorem turned_get {ts : List WorkM} {k i : Nat} (hi : i < ts.length) : wk (turned ts k) i = wk ts ((i + k) % ts.length) := by
  rw [wk_in (by rw [turned_len]; exact hi)]
  simp [turned]
theorem back_get {ls : List ServM} {i : Nat} (hi : i < ls.length) : sv ls.reverse i = sv ls (ls.length - 1 - i) := by
  rw [sv_in (by simpa using hi), sv_in (by omega)]
  simp
theorem taken_back (ls : List ServM) (s : Nat) : taken ls.reverse s = taken ls s := by
  rw [taken, taken, takenK_sum, takenK_sum, List.length_reverse, ← sumN_rev (fun j => up s (sv ls j).period * (sv ls j).budget.toNat)]
  exact sumN_congr fun j hj => by rw [back_get hj]
theorem rot_lt {i k n : Nat} (hn : 0 < n) : (i + k) % n < n := Nat.mod_lt _ hn
theorem rot_inj {a b k n : Nat} (ha : a < n) (hb : b < n) (hk : k < n) : (a + k) % n = (b + k) % n ↔ a = b := by
  rw [rot_mod ha hk, rot_mod hb hk]
  constructor
  · intro h
    split at h <;> split at h <;> omega
  · rintro rfl; rfl
theorem wanted_turned {ts : List WorkM} {ls : List ServM} {k i s : Nat} (hk : k < ts.length) (hi : i < ts.length) : wanted (turned ts k) ls.reverse i s = wanted ts ls ((i + k) % ts.length) s := by
  rw [wanted_sum, wanted_sum, turned_get hi, taken_back, turned_len, ← sumN_rot (term ts ((i + k) % ts.length) s) hk]
  congr 1
  refine sumN_congr fun j hj => ?_
  unfold term
  rw [turned_get hi, turned_get hj]
  have := rot_inj hj hi hk
  by_cases e : j = i
  · simp [e]
  · have e2 : (j + k) % ts.length ≠ (i + k) % ts.length := fun h => e (this.1 h)
    simp [e, e2]
theorem timeM_turned {ts : List WorkM} {ls : List ServM} {k i : Nat} (hk : k < ts.length) (hi : i < ts.length) : timeM (turned ts k) ls.reverse i = timeM ts ls ((i + k) % ts.length) := by
  unfold timeM
  simp only [turned_get hi, wanted_turned hk hi]
theorem rot_onto {j k n : Nat} (hj : j < n) (hk : k < n) : ∃ i, i < n ∧ (i + k) % n = j := by
  by_cases h : k ≤ j
  · exact ⟨j - k, by omega, by rw [rot_mod (by omega) hk, if_pos (by omega)]; omega⟩
  · exact ⟨j + n - k, by omega, by rw [rot_mod (by omega) hk, if_neg (by omega)]; omega⟩
theorem wk_all {ts : List WorkM} {p : WorkM → Bool} : ts.all p = true ↔ ∀ i, i < ts.length → p (wk ts i) = true := by
  rw [List.all_eq_true]
  constructor
  · intro h i hi; rw [wk_in hi]; exact h _ (List.getElem_mem hi)
  · intro h t ht
    obtain ⟨i, hi, rfl⟩ := List.mem_iff_getElem.1 ht
    have := h i hi
    rwa [wk_in hi] at this
theorem okTasks_turned {ts : List WorkM} {k : Nat} (hk : k < ts.length) : okTasks (turned ts k) = okTasks ts := by
  rw [Bool.eq_iff_iff, okTasks, okTasks, Bool.and_eq_true, Bool.and_eq_true, turned_len, wk_all, wk_all, turned_len]
  refine and_congr_right fun _ => ⟨fun h j hj => ?_, fun h i hi => ?_⟩
  · obtain ⟨i, hi, rfl⟩ := rot_onto hj hk
    have := h i hi
    rwa [turned_get hi] at this
  · rw [turned_get hi]; exact h _ (rot_lt (by omega))
theorem okLoads_back (ls : List ServM) : okLoads ls.reverse = okLoads ls := by simp [okLoads]
theorem TimeM_turned {ts : List WorkM} {ls : List ServM} {k i : Nat} (hk : k < ts.length) (hi : i < ts.length) : TimeM (turned ts k) ls.reverse i = TimeM ts ls ((i + k) % ts.length : Nat) := by
  have := rot_lt (i := i) (k := k) (n := ts.length) (by omega)
  unfold TimeM
  rw [okTasks_turned hk, okLoads_back, turned_len]
  simp only [Int.toNat_natCast]
  rw [timeM_turned hk hi]
  have e1 : decide ((i : Int) < ts.length) = decide ((((i + k) % ts.length : Nat) : Int) < ts.length) := by
    rw [decide_eq_true (by omega), decide_eq_true (by omega)]
  have e2 : decide ((0 : Int) ≤ i) = decide ((0 : Int) ≤ (((i + k) % ts.length : Nat) : Int)) := by
    rw [decide_eq_true (by omega), decide_eq_true (by omega)]
  rw [e1, e2]
theorem allM_turned {ts : List WorkM} {ls : List ServM} {k : Nat} (hk : k < ts.length) : allM (turned ts k) ls.reverse = allM ts ls := by
  unfold allM
  rw [okTasks_turned hk, okLoads_back, turned_len]
  congr 2
  rw [Bool.eq_iff_iff, List.all_eq_true, List.all_eq_true]
  constructor
  · intro h j hj
    obtain ⟨i, hi, rfl⟩ := rot_onto (List.mem_range.1 hj) hk
    have := h i (List.mem_range.2 hi)
    rwa [timeM_turned hk hi] at this
  · intro h i hi
    rw [timeM_turned hk (List.mem_range.1 hi)]
    exact h _ (List.mem_range.2 (rot_lt (by have := List.mem_range.1 hi; omega)))

/-! More that is wanted. -/
theorem wanted_cost (ts : List WorkM) (ls : List ServM) (i s : Nat) : (wk ts i).cost ≤ wanted ts ls i s := by
  unfold wanted wantedK
  omega
theorem least_fix {ts : List WorkM} {ls : List ServM} {i : Nat} : ∀ n t, t ≤ n → (wk ts i).cost ≤ t → wanted ts ls i t ≤ t → ∃ u, u ≤ t ∧ (wk ts i).cost ≤ u ∧ wanted ts ls i u = u := by
  intro n
  induction n with
  | zero =>
    intro t ht hc hw
    exact ⟨t, Nat.le_refl _, hc, by omega⟩
  | succ n ih =>
    intro t ht hc hw
    by_cases e : wanted ts ls i t = t
    · exact ⟨t, Nat.le_refl _, hc, e⟩
    · obtain ⟨u, h1, h2, h3⟩ := ih (wanted ts ls i t) (by omega) (wanted_cost ts ls i t) (wanted_mono hw)
      exact ⟨u, by omega, h2, h3⟩
theorem time_mono {ts ts' : List WorkM} {ls ls' : List ServM} {i i' R' : Nat} (hc : (wk ts i).cost ≤ (wk ts' i').cost) (hd : (wk ts' i').dead ≤ (wk ts i).dead) (hw : ∀ s, wanted ts ls i s ≤ wanted ts' ls' i' s)
    (h : timeM ts' ls' i' = some R') : ∃ R, timeM ts ls i = some R ∧ R ≤ R' := by
  have h2 := isTime ts' ls' i'
  rw [h] at h2
  obtain ⟨a, b, c, _⟩ := h2
  have h3 := hw R'
  obtain ⟨u, u1, u2, u3⟩ := least_fix (ts := ts) (ls := ls) (i := i) R' R' (Nat.le_refl _) (by omega) (by omega)
  have h4 := isTime ts ls i
  cases e : timeM ts ls i with
  | none =>
    rw [e] at h4
    exact absurd u3 (h4 u u2 (by omega))
  | some R =>
    rw [e] at h4
    refine ⟨R, rfl, ?_⟩
    rcases Nat.lt_or_ge u R with g | g
    · exact absurd u3 (h4.2.2.2 u u2 g)
    · omega
theorem wk_snoc {ts : List WorkM} {w : WorkM} {i : Nat} (hi : i < ts.length) : wk (ts ++ [w]) i = wk ts i := by
  rw [wk_in (by simp; omega), wk_in hi, List.getElem_append_left hi]
theorem wk_last (ts : List WorkM) (w : WorkM) : wk (ts ++ [w]) ts.length = w := by
  rw [wk_in (by simp)]
  simp
theorem sv_snoc {ls : List ServM} {w : ServM} {i : Nat} (hi : i < ls.length) : sv (ls ++ [w]) i = sv ls i := by
  rw [sv_in (by simp; omega), sv_in hi, List.getElem_append_left hi]
theorem wanted_more {ts : List WorkM} {ls : List ServM} {w : WorkM} {i s : Nat} (hi : i < ts.length) : wanted ts ls i s ≤ wanted (ts ++ [w]) ls i s := by
  rw [wanted_sum, wanted_sum, wk_snoc hi, List.length_append]
  have : sumN (term (ts ++ [w]) i s) ts.length = sumN (term ts i s) ts.length := sumN_congr fun k hk => by unfold term; rw [wk_snoc hi, wk_snoc hk]
  show _ ≤ _ + (sumN (term (ts ++ [w]) i s) ts.length + term (ts ++ [w]) i s ts.length)
  omega
theorem taken_more {ls : List ServM} {x : ServM} {s : Nat} : taken ls s ≤ taken (ls ++ [x]) s := by
  rw [taken, taken, takenK_sum, takenK_sum, List.length_append]
  have : sumN (fun j => up s (sv (ls ++ [x]) j).period * (sv (ls ++ [x]) j).budget.toNat) ls.length = sumN (fun j => up s (sv ls j).period * (sv ls j).budget.toNat) ls.length :=
    sumN_congr fun k hk => by rw [sv_snoc hk]
  show _ ≤ sumN (fun j => up s (sv (ls ++ [x]) j).period * (sv (ls ++ [x]) j).budget.toNat) ls.length + _
  omega
theorem wanted_load {ts : List WorkM} {ls : List ServM} {x : ServM} {i s : Nat} : wanted ts ls i s ≤ wanted ts (ls ++ [x]) i s := by
  have := taken_more (ls := ls) (x := x) (s := s)
  rw [wanted_sum, wanted_sum]
  omega
theorem allM_iff2 {ts : List WorkM} {ls : List ServM} : allM ts ls = true ↔ okTasks ts = true ∧ okLoads ls = true ∧ ∀ i, i < ts.length → ∃ R, timeM ts ls i = some R := by
  simp only [allM, Bool.and_eq_true, List.all_eq_true, List.mem_range, Option.isSome_iff_exists]
theorem okTasks_snoc {ts : List WorkM} {w : WorkM} (h : okTasks (ts ++ [w]) = true) : okTasks ts = true ∧ w.ok = true ∧ ts.length ≤ 31 := by
  rw [okTasks_iff] at h
  rw [okTasks_iff]
  have h1 := h.1
  simp at h1
  exact ⟨⟨by omega, fun t ht => h.2 t (List.mem_append_left _ ht)⟩, h.2 w (by simp), by omega⟩
/-- Whoever is let in leaves all done in time. -/
theorem room_all {ts : List WorkM} {ls : List ServM} {w : WorkM} (h : allM (ts ++ [w]) ls = true) : allM ts ls = true := by
  rw [allM_iff2] at h ⊢
  obtain ⟨h1, h2, h3⟩ := h
  refine ⟨(okTasks_snoc h1).1, h2, fun i hi => ?_⟩
  obtain ⟨R, hR⟩ := h3 i (by simp; omega)
  obtain ⟨R', h4, _⟩ := time_mono (ts := ts) (ls := ls) (i := i) (by rw [wk_snoc hi]; exact Nat.le_refl _) (by rw [wk_snoc hi]; exact Nat.le_refl _) (fun s => wanted_more hi) hR
  exact ⟨R', h4⟩
/-- More cost is let in only where less is. -/
theorem room_less {ts : List WorkM} {ls : List ServM} {w : WorkM} (h2 : 2 ≤ w.cost) (h : allM (ts ++ [w]) ls = true) : allM (ts ++ [⟨w.prio, w.cost - 1, w.period, w.dead⟩]) ls = true := by
  rw [allM_iff2] at h ⊢
  obtain ⟨h1, h4, h3⟩ := h
  have hw := WorkM.ok_iff.1 (okTasks_snoc h1).2.1
  have h1' := okTasks_iff.1 h1
  have hg : ∀ i, i < ts.length + 1 → (wk (ts ++ [⟨w.prio, w.cost - 1, w.period, w.dead⟩]) i).prio = (wk (ts ++ [w]) i).prio ∧ (wk (ts ++ [⟨w.prio, w.cost - 1, w.period, w.dead⟩]) i).cost ≤ (wk (ts ++ [w]) i).cost ∧
      (wk (ts ++ [⟨w.prio, w.cost - 1, w.period, w.dead⟩]) i).period = (wk (ts ++ [w]) i).period ∧ (wk (ts ++ [⟨w.prio, w.cost - 1, w.period, w.dead⟩]) i).dead = (wk (ts ++ [w]) i).dead := by
    intro i hi
    by_cases e : i < ts.length
    · rw [wk_snoc e, wk_snoc e]; exact ⟨rfl, Nat.le_refl _, rfl, rfl⟩
    · obtain rfl : i = ts.length := by omega
      rw [wk_last, wk_last]
      exact ⟨rfl, Nat.sub_le _ _, rfl, rfl⟩
  refine ⟨okTasks_iff.2 ⟨by simpa using h1'.1, fun t ht => ?_⟩, h4, fun i hi => ?_⟩
  · rcases List.mem_append.1 ht with g | g
    · exact h1'.2 t (List.mem_append_left _ g)
    · simp at g
      subst g
      exact WorkM.ok_iff.2 ⟨hw.1, hw.2.1, show 1 ≤ w.cost - 1 by omega, show w.cost - 1 ≤ w.dead by omega, hw.2.2.2.2.1, hw.2.2.2.2.2⟩
  · have hi' : i < ts.length + 1 := by simpa using hi
    obtain ⟨R, hR⟩ := h3 i (by simpa using hi)
    obtain ⟨g1, g2, g3, g4⟩ := hg i hi'
    obtain ⟨R', h5, _⟩ := time_mono (ts := ts ++ [⟨w.prio, w.cost - 1, w.period, w.dead⟩]) (ls := ls) (i := i) g2 (Nat.le_of_eq g4.symm) (fun s => by
      rw [wanted_sum, wanted_sum, List.length_append, List.length_append]
      have : sumN (term (ts ++ [⟨w.prio, w.cost - 1, w.period, w.dead⟩]) i s) (ts.length + 1) ≤ sumN (term (ts ++ [w]) i s) (ts.length + 1) := sumN_le fun k hk => by
        obtain ⟨k1, k2, k3, k4⟩ := hg k hk
        unfold term
        rw [k1, g1, k3]
        split
        · exact Nat.mul_le_mul_left _ k2
        · exact Nat.le_refl _
      show _ + _ + sumN _ (ts.length + 1) ≤ _ + _ + sumN _ (ts.length + 1)
      omega) hR
    exact ⟨R', h5⟩

end Go.Proofs.Ytibplnbldnhbhaa
