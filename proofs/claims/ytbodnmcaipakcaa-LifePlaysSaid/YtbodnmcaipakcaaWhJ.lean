/-
  Go, plainly: whose time has come, in order.
-/
import Derived.Test.YtbodnmcaipakcaaWhI
namespace Go.Proofs.Ytbodnmcaipakcaa
open Go.RowKit Go.ChangeMaps Go.MapKept

/-- The wheel at time c, without those whose time has come. -/
def WM.gone (M : WM) (c : Nat) : WM := ⟨c, fun i => (M.f i).bind fun s => if s.at' ≤ c then none else some (spotOf s.at' c)⟩
theorem gone_some {M : WM} {c i : Nat} {s' : Spot} : (M.gone c).f i = some s' ↔ ∃ s, M.f i = some s ∧ c < s.at' ∧ s' = spotOf s.at' c := by
  show (M.f i).bind _ = _ ↔ _
  cases h : M.f i with
  | none => simp
  | some s =>
    simp only [Option.bind_some, Option.some.injEq, exists_eq_left']
    by_cases hc : s.at' ≤ c
    · rw [if_pos hc]; simp; omega
    · rw [if_neg hc]
      simp only [Option.some.injEq]
      constructor
      · intro e; exact ⟨by omega, e.symm⟩
      · intro e; exact e.2.symm
theorem wm_ext {A B : WM} (h1 : A.now = B.now) (h2 : ∀ i s, A.f i = some s ↔ B.f i = some s) : A = B := by
  have h3 : A.f = B.f := by
    funext i
    exact Option.ext (fun s => h2 i s)
  cases A; cases B
  simp only at h1 h3
  rw [h1, h3]
theorem WInv.gone_now {M : WM} (h : WInv M) : M.gone M.now = M := by
  refine wm_ext rfl fun i s => ?_
  rw [gone_some]
  constructor
  · rintro ⟨s0, h0, h1, rfl⟩
    rw [h0, ← (h.at' i s0 h0).2.2]
  · intro h0
    obtain ⟨h1, h2, h3⟩ := h.at' i s h0
    exact ⟨s, h0, h1, h3⟩
theorem gone_gone {M : WM} {c a : Nat} (hca : c ≤ a) : (M.gone c).gone a = M.gone a := by
  refine wm_ext rfl fun i s => ?_
  rw [gone_some, gone_some]
  constructor
  · rintro ⟨s0, h0, h1, rfl⟩
    obtain ⟨s1, h2, h3, rfl⟩ := gone_some.1 h0
    exact ⟨s1, h2, h1, rfl⟩
  · rintro ⟨s0, h0, h1, rfl⟩
    exact ⟨_, gone_some.2 ⟨s0, h0, by omega, rfl⟩, h1, rfl⟩
theorem WInv.gone {M : WM} (h : WInv M) {c : Nat} (hc : c < 4611686018427387904) : WInv (M.gone c) := by
  refine ⟨hc, fun i s hi => ?_, fun i hi => ?_⟩
  · obtain ⟨s0, h0, h1, rfl⟩ := gone_some.1 hi
    exact ⟨h1, (h.at' i s0 h0).2.1, rfl⟩
  · show (M.f i).bind _ = none
    rw [h.ids i hi]; rfl
/-- Nobody's time has come. -/
theorem moved_gone {M : WM} {a : Nat} (hall : ∀ i s, M.f i = some s → a < s.at') : M.moved a = M.gone a := by
  refine wm_ext rfl fun i s => ?_
  rw [gone_some]
  show (M.f i).map _ = some s ↔ _
  rw [Option.map_eq_some_iff]
  constructor
  · rintro ⟨s0, h0, rfl⟩; exact ⟨s0, h0, hall i s0 h0, rfl⟩
  · rintro ⟨s0, h0, _, rfl⟩; exact ⟨s0, h0, rfl⟩
/-- Whose time is a. -/
def WM.due (M : WM) (a : Nat) : List Nat := idsOf (fun i => match M.f i with | some s => decide (s.at' = a) | none => false)
theorem due_mem {M : WM} (hi : ∀ i, 1000 ≤ i → M.f i = none) {a i : Nat} : i ∈ M.due a ↔ ∃ s, M.f i = some s ∧ s.at' = a := by
  unfold WM.due
  rw [idsOf_mem]
  cases h : M.f i with
  | none => simp
  | some s =>
    have : i < 1000 := by
      rcases Nat.lt_or_ge i 1000 with g | g
      · exact g
      · rw [hi i g] at h; cases h
    simp [this]
theorem due_sorted (M : WM) (a : Nat) : (M.due a).Pairwise (· < ·) := List.Pairwise.filter _ List.pairwise_lt_range
/-- Moved to the least time, without those whose time it is. -/
theorem gone_least {M X : WM} {a : Nat} (hall : ∀ i s, M.f i = some s → a ≤ s.at') (hids : ∀ i, 1000 ≤ i → M.f i = none) (hn : X.now = a) (hf : ∀ i, X.f i = if i ∈ M.due a then none else (M.moved a).f i) : X = M.gone a := by
  refine wm_ext hn fun i s => ?_
  rw [gone_some, hf]
  by_cases hd : i ∈ M.due a
  · rw [if_pos hd]
    obtain ⟨s0, h0, e⟩ := (due_mem hids).1 hd
    constructor
    · intro h; cases h
    · rintro ⟨s1, h1, h2, _⟩
      rw [h0] at h1; cases h1; omega
  · rw [if_neg hd]
    show (M.f i).map _ = some s ↔ _
    rw [Option.map_eq_some_iff]
    constructor
    · rintro ⟨s0, h0, rfl⟩
      have h1 := hall i s0 h0
      have h2 : s0.at' ≠ a := fun e => hd ((due_mem hids).2 ⟨s0, h0, e⟩)
      exact ⟨s0, h0, by omega, rfl⟩
    · rintro ⟨s0, h0, _, rfl⟩; exact ⟨s0, h0, rfl⟩
/-- What Go tells up to time c. -/
def atOf (M : WM) (i : Nat) : Nat := match M.f i with | some s => s.at' | none => 0
def GoOut (M : WM) (c : Nat) (out : List Nat) : Prop :=
  out.Pairwise (fun i j => atOf M i < atOf M j ∨ (atOf M i = atOf M j ∧ i < j)) ∧ ∀ i, i ∈ out ↔ ∃ s, M.f i = some s ∧ s.at' ≤ c
theorem GoOut.start {M : WM} (h : WInv M) : GoOut M M.now [] :=
  ⟨List.Pairwise.nil, fun i => ⟨fun h => (by cases h), fun ⟨s, h1, h2⟩ => by have := (h.at' i s h1).1; omega⟩⟩
theorem GoOut.step {M : WM} {c a : Nat} {out : List Nat} (h : GoOut M c out) (hids : ∀ i, 1000 ≤ i → M.f i = none) (hca : c < a) (hall : ∀ i s, (M.gone c).f i = some s → a ≤ s.at') : GoOut M a (out ++ (M.gone c).due a) := by
  have hids' : ∀ i, 1000 ≤ i → (M.gone c).f i = none := fun i hi => by show (M.f i).bind _ = none; rw [hids i hi]; rfl
  have hd : ∀ i, i ∈ (M.gone c).due a ↔ ∃ s, M.f i = some s ∧ s.at' = a := fun i => by
    rw [due_mem hids']
    constructor
    · rintro ⟨s, h1, h2⟩
      obtain ⟨s0, h3, h4, rfl⟩ := gone_some.1 h1
      exact ⟨s0, h3, h2⟩
    · rintro ⟨s, h1, h2⟩
      exact ⟨_, gone_some.2 ⟨s, h1, by omega, rfl⟩, h2⟩
  refine ⟨List.pairwise_append.2 ⟨h.1, ?_, fun i hi j hj => ?_⟩, fun i => ?_⟩
  · refine (due_sorted (M.gone c) a).imp_of_mem fun {i j} hi hj hlt => .inr ⟨?_, hlt⟩
    obtain ⟨s1, e1, e2⟩ := (hd i).1 hi
    obtain ⟨s2, e3, e4⟩ := (hd j).1 hj
    simp only [atOf, e1, e3]; omega
  · obtain ⟨s1, e1, e2⟩ := (h.2 i).1 hi
    obtain ⟨s2, e3, e4⟩ := (hd j).1 hj
    left
    simp only [atOf, e1, e3]; omega
  · rw [List.mem_append, h.2, hd]
    constructor
    · rintro (⟨s, h1, h2⟩ | ⟨s, h1, h2⟩)
      · exact ⟨s, h1, by omega⟩
      · exact ⟨s, h1, by omega⟩
    · rintro ⟨s, h1, h2⟩
      by_cases e : s.at' ≤ c
      · exact .inl ⟨s, h1, e⟩
      · have := hall i _ (gone_some.2 ⟨s, h1, by omega, rfl⟩)
        have h3 : a ≤ s.at' := this
        exact .inr ⟨s, h1, by omega⟩
/-- The end: nobody more up to t. -/
theorem GoOut.finish {M : WM} {c t : Nat} {out : List Nat} (h : GoOut M c out) (hct : c ≤ t) (hall : ∀ i s, (M.gone c).f i = some s → t < s.at') : GoOut M t out ∧ (M.gone c).moved t = M.gone t := by
  refine ⟨⟨h.1, fun i => ?_⟩, by rw [moved_gone hall, gone_gone hct]⟩
  rw [h.2]
  constructor
  · rintro ⟨s, h1, h2⟩; exact ⟨s, h1, by omega⟩
  · rintro ⟨s, h1, h2⟩
    refine ⟨s, h1, ?_⟩
    rcases Nat.lt_or_ge c s.at' with g | g
    · have h3 : t < s.at' := hall i (spotOf s.at' c) (gone_some.2 ⟨s, h1, g, rfl⟩)
      omega
    · exact g

end Go.Proofs.Ytbodnmcaipakcaa
