/-
  Answer times, plainly: tasks and loads as lists, what is wanted of a span, the least number that is what is wanted of it. No program in sight.
-/
import Derived.Test.YtbedknfapiadbaaBase
namespace Go.Proofs.Ytbedknfapiadbaa

/-- A task. -/
structure WorkM where
  prio : Int
  cost : Nat
  period : Nat
  dead : Nat
deriving Inhabited
/-- A load. -/
structure ServM where
  budget : Int
  period : Nat
deriving Inhabited

/-- Task i, load i. -/
def wk (ts : List WorkM) (i : Nat) : WorkM := ts.getD i default
def sv (ls : List ServM) (i : Nat) : ServM := ls.getD i default
theorem wk_in {ts : List WorkM} {i : Nat} (h : i < ts.length) : wk ts i = ts[i] := by simp [wk, List.getD, h]
theorem sv_in {ls : List ServM} {i : Nat} (h : i < ls.length) : sv ls i = ls[i] := by simp [sv, List.getD, h]

def WorkM.ok (t : WorkM) : Bool := decide (0 ≤ t.prio) && (decide (t.prio ≤ 100) && (decide (1 ≤ t.cost) && (decide (t.cost ≤ t.dead) && (decide (t.dead ≤ t.period) && decide (t.period ≤ 1073741824)))))
theorem WorkM.ok_iff {t : WorkM} : t.ok = true ↔ 0 ≤ t.prio ∧ t.prio ≤ 100 ∧ 1 ≤ t.cost ∧ t.cost ≤ t.dead ∧ t.dead ≤ t.period ∧ t.period ≤ 1073741824 := by simp [WorkM.ok]
/-- spor.May -/
def ServM.may (s : ServM) : Bool := decide (1 ≤ s.budget) && (decide (s.budget ≤ 200) && (decide (s.budget ≤ s.period) && decide (s.period ≤ 1099511627776)))
theorem ServM.may_iff {s : ServM} : s.may = true ↔ 1 ≤ s.budget ∧ s.budget ≤ 200 ∧ s.budget ≤ s.period ∧ s.period ≤ 1099511627776 := by simp [ServM.may]
def ServM.ok (s : ServM) : Bool := s.may && decide (s.period ≤ 1073741824)
theorem ServM.ok_iff {s : ServM} : s.ok = true ↔ 1 ≤ s.budget ∧ s.budget ≤ 200 ∧ s.budget ≤ s.period ∧ s.period ≤ 1073741824 := by
  rw [ServM.ok, Bool.and_eq_true, ServM.may_iff]
  simp only [decide_eq_true_eq]
  omega
def okTasks (ts : List WorkM) : Bool := decide (ts.length ≤ 32) && ts.all WorkM.ok
def okLoads (ls : List ServM) : Bool := decide (ls.length ≤ 16) && ls.all ServM.ok
theorem okTasks_iff {ts : List WorkM} : okTasks ts = true ↔ ts.length ≤ 32 ∧ ∀ t, t ∈ ts → t.ok = true := by simp [okTasks]
theorem okLoads_iff {ls : List ServM} : okLoads ls = true ↔ ls.length ≤ 16 ∧ ∀ t, t ∈ ls → t.ok = true := by simp [okLoads]

/-- A quotient, rounded up. -/
def up (n b : Nat) : Nat := if b = 0 then 0 else if n % b = 0 then n / b else n / b + 1
theorem up_mono {n m b : Nat} (h : n ≤ m) : up n b ≤ up m b := by
  unfold up
  by_cases hb : b = 0
  · simp [hb]
  · rw [if_neg hb, if_neg hb]
    have hd := Nat.div_le_div_right (c := b) h
    have h1 := Nat.div_add_mod n b
    have h2 := Nat.div_add_mod m b
    split
    · split <;> omega
    · rename_i hn
      split
      · rename_i hm
        rcases Nat.lt_or_eq_of_le hd with g | g
        · omega
        · exfalso
          rw [g] at h1
          have := Nat.pos_of_ne_zero hn
          omega
      · omega
/-- A quotient rounded up, times no more than what it is divided by, is the number and that at most. -/
theorem up_mul {n b c : Nat} (h : c ≤ b) : up n b * c ≤ n + c := by
  unfold up
  by_cases hb : b = 0
  · simp [hb]
  · rw [if_neg hb]
    have h1 : n / b * c ≤ n := Nat.le_trans (Nat.mul_le_mul_left _ h) (Nat.div_mul_le_self n b)
    split
    · omega
    · rw [Nat.add_mul, Nat.one_mul]; omega
theorem up_one {n b : Nat} (h1 : 1 ≤ n) (hb : n ≤ b) : up n b = 1 := by
  unfold up
  rw [if_neg (by omega)]
  rcases Nat.lt_or_eq_of_le hb with h | h
  · rw [Nat.mod_eq_of_lt h, if_neg (by omega), Nat.div_eq_of_lt h]
  · subst h
    rw [Nat.mod_self, if_pos rfl, Nat.div_self (by omega)]
theorem up_lt {n b : Nat} (hb : 0 < b) : n ≤ up n b * b := by
  unfold up
  rw [if_neg (by omega)]
  have h1 := Nat.div_add_mod n b
  split
  · rw [Nat.mul_comm]; omega
  · rw [Nat.add_mul, Nat.mul_comm (n / b) b, Nat.one_mul]
    have := Nat.mod_lt n hb
    omega

/-- What loads take of a span: the first k of them. -/
def takenK (ls : List ServM) (span : Nat) : Nat → Nat
  | 0 => 0
  | k + 1 => takenK ls span k + up span (sv ls k).period * (sv ls k).budget.toNat
def taken (ls : List ServM) (span : Nat) : Nat := takenK ls span ls.length
/-- What the first k tasks want of a span, beside task i. -/
def restK (ts : List WorkM) (i span : Nat) : Nat → Nat
  | 0 => 0
  | k + 1 => restK ts i span k + if k ≠ i ∧ (wk ts k).prio ≤ (wk ts i).prio then up span (wk ts k).period * (wk ts k).cost else 0
/-- What is wanted of a span. -/
def wantedK (ts : List WorkM) (ls : List ServM) (i span k : Nat) : Nat := (wk ts i).cost + taken ls span + restK ts i span k
def wanted (ts : List WorkM) (ls : List ServM) (i span : Nat) : Nat := wantedK ts ls i span ts.length

theorem takenK_mono {ls : List ServM} {s s' : Nat} (h : s ≤ s') (k : Nat) : takenK ls s k ≤ takenK ls s' k := by
  induction k with
  | zero => exact Nat.le_refl _
  | succ k ih => exact Nat.add_le_add ih (Nat.mul_le_mul_right _ (up_mono h))
theorem restK_mono {ts : List WorkM} {i s s' : Nat} (h : s ≤ s') (k : Nat) : restK ts i s k ≤ restK ts i s' k := by
  induction k with
  | zero => exact Nat.le_refl _
  | succ k ih =>
    rw [restK, restK]
    refine Nat.add_le_add ih ?_
    split
    · exact Nat.mul_le_mul_right _ (up_mono h)
    · exact Nat.le_refl _
theorem wanted_mono {ts : List WorkM} {ls : List ServM} {i s s' : Nat} (h : s ≤ s') : wanted ts ls i s ≤ wanted ts ls i s' := by
  unfold wanted wantedK taken
  have := takenK_mono (ls := ls) h ls.length
  have := restK_mono (ts := ts) (i := i) h ts.length
  omega

theorem serv_get {ls : List ServM} (h : okLoads ls = true) {k : Nat} (hk : k < ls.length) : (sv ls k).ok = true := by
  have := sv_in hk
  rw [this]
  exact (okLoads_iff.1 h).2 _ (List.getElem_mem hk)
theorem work_get {ts : List WorkM} (h : okTasks ts = true) {k : Nat} (hk : k < ts.length) : (wk ts k).ok = true := by
  have := wk_in hk
  rw [this]
  exact (okTasks_iff.1 h).2 _ (List.getElem_mem hk)
theorem takenK_le {ls : List ServM} (h : okLoads ls = true) (s k : Nat) (hk : k ≤ ls.length) : takenK ls s k ≤ k * (s + 200) := by
  induction k with
  | zero => exact Nat.zero_le _
  | succ k ih =>
    have h1 := ih (by omega)
    have h2 := ServM.ok_iff.1 (serv_get h (k := k) (by omega))
    have h3 := up_mul (n := s) (b := (sv ls k).period) (c := (sv ls k).budget.toNat) (by omega)
    rw [takenK, Nat.add_mul, Nat.one_mul]
    omega
theorem restK_le {ts : List WorkM} {B : Nat} (h : ∀ k, k < ts.length → (wk ts k).cost ≤ B ∧ (wk ts k).cost ≤ (wk ts k).period) (i s k : Nat) (hk : k ≤ ts.length) : restK ts i s k ≤ k * (s + B) := by
  induction k with
  | zero => exact Nat.zero_le _
  | succ k ih =>
    have h1 := ih (by omega)
    have h2 := h k (by omega)
    have h3 := up_mul (n := s) h2.2
    rw [restK, Nat.add_mul, Nat.one_mul]
    split <;> omega
theorem work_bd {ts : List WorkM} (h : okTasks ts = true) {k : Nat} (hk : k < ts.length) : (wk ts k).cost ≤ 1073741824 ∧ (wk ts k).cost ≤ (wk ts k).period := by
  have h2 := WorkM.ok_iff.1 (work_get h hk)
  exact ⟨by omega, by omega⟩

/-- The least number from the cost on, up to the time by which a job must be done, that is what is wanted of it. -/
def timeM (ts : List WorkM) (ls : List ServM) (i : Nat) : Option Nat :=
  (List.range ((wk ts i).dead + 1)).find? (fun t => decide ((wk ts i).cost ≤ t) && decide (wanted ts ls i t = t))
/-- What that says. -/
def IsTime (ts : List WorkM) (ls : List ServM) (i : Nat) : Option Nat → Prop
  | some R => (wk ts i).cost ≤ R ∧ R ≤ (wk ts i).dead ∧ wanted ts ls i R = R ∧ ∀ t, (wk ts i).cost ≤ t → t < R → wanted ts ls i t ≠ t
  | none => ∀ t, (wk ts i).cost ≤ t → t ≤ (wk ts i).dead → wanted ts ls i t ≠ t
theorem isTime (ts : List WorkM) (ls : List ServM) (i : Nat) : IsTime ts ls i (timeM ts ls i) := by
  cases h : timeM ts ls i with
  | none =>
    intro t h1 h2 h3
    have := List.find?_eq_none.1 h t (List.mem_range.2 (by omega))
    exact this (by simp only [Bool.and_eq_true, decide_eq_true_eq]; exact ⟨h1, h3⟩)
  | some R =>
    unfold timeM at h
    have h1 := List.find?_some h
    have h2 := List.mem_of_find?_eq_some h
    simp only [Bool.and_eq_true, decide_eq_true_eq] at h1
    rw [List.mem_range] at h2
    refine ⟨h1.1, by omega, h1.2, fun t h3 h4 h5 => ?_⟩
    rw [List.find?_range_eq_some] at h
    have := h.2.2 t h4
    simp only [Bool.not_eq_true', Bool.and_eq_false_iff, decide_eq_false_iff_not] at this
    rcases this with g | g
    · exact g h3
    · exact g h5
theorem IsTime.eq {ts : List WorkM} {ls : List ServM} {i : Nat} {o : Option Nat} (h : IsTime ts ls i o) : timeM ts ls i = o := by
  have h2 := isTime ts ls i
  generalize timeM ts ls i = o' at h2
  cases o with
  | none =>
    cases o' with
    | none => rfl
    | some R' => exact absurd h2.2.2.1 (h R' h2.1 h2.2.1)
  | some R =>
    cases o' with
    | none => exact absurd h.2.2.1 (h2 R h.1 h.2.1)
    | some R' =>
      rcases Nat.lt_trichotomy R R' with e | e | e
      · exact absurd h.2.2.1 (h2.2.2.2 R h.1 e)
      · rw [e]
      · exact absurd h2.2.2.1 (h.2.2.2 R' h2.1 e)

def allM (ts : List WorkM) (ls : List ServM) : Bool := okTasks ts && (okLoads ls && (List.range ts.length).all (fun i => (timeM ts ls i).isSome))
def TimeM (ts : List WorkM) (ls : List ServM) (i : Int) : Option Nat := if okTasks ts && okLoads ls && decide (0 ≤ i) && decide (i < ts.length) then timeM ts ls i.toNat else none

end Go.Proofs.Ytbedknfapiadbaa
