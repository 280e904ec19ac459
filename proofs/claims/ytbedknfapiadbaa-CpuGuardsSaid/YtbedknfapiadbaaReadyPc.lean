/-
  Plain facts about a ready queue's rows: who is first, who is a member, what coming and going does. No program in sight.
-/
import Derived.Test.YtbedknfapiadbaaReadyD
import Derived.Test.YtbedknfapiadbaaArgs
namespace Go.Proofs.Ytbedknfapiadbaa
open Go.RowKit

theorem firstOf_some {r : Nat → List Int} : ∀ (n k p : Nat), firstOf r n k = some p → k ≤ p ∧ p < k + n ∧ r p ≠ [] ∧ ∀ i, k ≤ i → i < p → r i = [] := by
  intro n
  induction n with
  | zero => intro k p h; simp [firstOf] at h
  | succ n ih =>
    intro k p h
    rw [firstOf] at h
    split at h
    · rename_i he
      obtain ⟨h1, h2, h3, h4⟩ := ih _ _ h
      refine ⟨by omega, by omega, h3, fun i hi hp => ?_⟩
      by_cases e : i = k
      · rw [e]; exact he
      · exact h4 i (by omega) hp
    · rename_i he
      simp only [Option.some.injEq] at h
      subst h
      exact ⟨Nat.le_refl _, by omega, he, fun i h1 h2 => by omega⟩
theorem firstOf_none {r : Nat → List Int} : ∀ (n k : Nat), firstOf r n k = none → ∀ i, k ≤ i → i < k + n → r i = [] := by
  intro n
  induction n with
  | zero => intro k _ i h1 h2; omega
  | succ n ih =>
    intro k h i h1 h2
    rw [firstOf] at h
    split at h
    · rename_i he
      by_cases e : i = k
      · rw [e]; exact he
      · exact ih _ h i (by omega) (by omega)
    · simp at h
theorem first_some {r : Nat → List Int} {p : Nat} (h : first r = some p) : p < 101 ∧ r p ≠ [] ∧ ∀ i, i < p → r i = [] := by
  obtain ⟨_, h2, h3, h4⟩ := firstOf_some _ _ _ h
  exact ⟨by omega, h3, fun i hi => h4 i (Nat.zero_le _) hi⟩
theorem first_none {r : Nat → List Int} (h : first r = none) : ∀ i, i < 101 → r i = [] := fun i hi => firstOf_none _ _ h i (Nat.zero_le _) (by omega)
theorem first_of {r : Nat → List Int} {p : Nat} (hp : p < 101) (h : r p ≠ []) (hl : ∀ i, i < p → r i = []) : first r = some p := by
  cases hf : first r with
  | none => exact absurd (first_none hf p hp) h
  | some p' =>
    obtain ⟨h1, h2, h3⟩ := first_some hf
    rcases Nat.lt_trichotomy p p' with e | e | e
    · exact absurd (h3 p e) h
    · rw [e]
    · exact absurd (hl p' e) h2
theorem firstV_some {r : Nat → List Int} {p : Nat} (h : first r = some p) : firstV r = .tuple #[.int .i64 ((r p).head?.getD 0), .int .i64 p, .int .i64 0] := by simp [firstV, h]
theorem firstV_none {r : Nat → List Int} (h : first r = none) : firstV r = .tuple #[.int .i64 0, .int .i64 0, .int .i64 5] := by simp [firstV, h]

theorem prioOf_none {r : Nat → List Int} {x : Int} : ∀ (n k : Nat), prioOf r x n k = none ↔ ∀ i, k ≤ i → i < k + n → x ∉ r i := by
  intro n
  induction n with
  | zero => intro k; simp only [prioOf, true_iff]; intro i h1 h2; omega
  | succ n ih =>
    intro k
    rw [prioOf]
    split
    · rename_i hm
      simp only [reduceCtorEq, false_iff]
      exact fun h => h k (Nat.le_refl _) (by omega) hm
    · rename_i hm
      rw [ih]
      constructor
      · intro h i h1 h2
        by_cases e : i = k
        · rw [e]; exact hm
        · exact h i (by omega) (by omega)
      · intro h i h1 h2
        exact h i (by omega) (by omega)
theorem prio_none {r : Nat → List Int} {x : Int} : prio r x = none ↔ ∀ i, i < 101 → x ∉ r i := by
  rw [prio, prioOf_none]
  exact ⟨fun h i hi => h i (Nat.zero_le _) (by omega), fun h i _ hi => h i (by omega)⟩
theorem prioOf_least {r : Nat → List Int} {x : Int} : ∀ (n k p : Nat), prioOf r x n k = some p → ∀ i, k ≤ i → i < p → x ∉ r i := by
  intro n
  induction n with
  | zero => intro k p h; simp [prioOf] at h
  | succ n ih =>
    intro k p h i h1 h2
    rw [prioOf] at h
    split at h
    · simp only [Option.some.injEq] at h; omega
    · rename_i hm
      by_cases e : i = k
      · rw [e]; exact hm
      · exact ih _ _ h i (by omega) h2
theorem prio_of {r : Nat → List Int} {x : Int} {p : Nat} (hp : p < 101) (h : x ∈ r p) (hl : ∀ i, i < p → x ∉ r i) : prio r x = some p := by
  cases hf : prio r x with
  | none => exact absurd h (prio_none.1 hf p hp)
  | some p' =>
    obtain ⟨h1, h2⟩ := prio_spec hf
    have h3 := prioOf_least _ _ _ hf
    rcases Nat.lt_trichotomy p p' with e | e | e
    · exact absurd h (h3 p (Nat.zero_le _) e)
    · rw [e]
    · exact absurd h2 (hl p' e)

theorem come_len {r : Nat → List Int} {n : Nat} (h : ∀ i, (r i).length ≤ n) (id pr : Int) : ∀ i, (come r id pr i).length ≤ n + 1 := by
  intro i
  unfold come
  split
  · unfold upd
    split
    · have := h pr.toNat; simp; omega
    · have := h i; omega
  · have := h i; omega
theorem goR_len {r : Nat → List Int} {n : Nat} (h : ∀ i, (r i).length ≤ n) (id : Int) : ∀ i, (goR r id i).length ≤ n := by
  intro i
  cases hp : prio r id with
  | none => simp only [goR, hp]; exact h i
  | some p =>
    simp only [goR, hp]
    unfold upd
    split
    · have := h p; exact Nat.le_trans (List.length_filter_le _ _) this
    · exact h i

/-- A queue that the law itself has made: all its blocks lie behind what was there. -/
def QSt (w0 w : World) (q : Nat) (r : Nat → List Int) : Prop := ∃ F, QRep w q r F ∧ (∀ k, F k → w0.heap.size ≤ k) ∧ Below w0.heap.size w0 w

theorem QSt.below {w0 w : World} {q : Nat} {r : Nat → List Int} (h : QSt w0 w q r) : Below w0.heap.size w0 w := by obtain ⟨_, _, _, h⟩ := h; exact h
theorem QSt.new {w0 w : World} (h : Below w0.heap.size w0 w) : QSt w0 (w.alloc (.cells nilRows 92)) w.heap.size (fun _ => []) :=
  ⟨_, QRep.new w, fun k hk => by have := h.size; omega, h.alloc h.size _⟩
theorem QSt.later {w0 w w' : World} {q : Nat} {r : Nat → List Int} (h : QSt w0 w q r) (hb : Below w.heap.size w w') : QSt w0 w' q r := by
  obtain ⟨F, h1, h2, h3⟩ := h
  exact ⟨F, h1.fr (Fr.of_below (F := fun _ => False) hb) (fun _ _ h => h), h2, h3.trans (hb.mono h3.size)⟩
theorem QSt.post {w0 w w' : World} {q : Nat} {r r' : Nat → List Int} {F : Nat → Prop} (h1 : QRep w q r F) (h2 : ∀ k, F k → w0.heap.size ≤ k) (h3 : Below w0.heap.size w0 w)
    (hp : ∃ F', QRep w' q r' F' ∧ Fr F w w' ∧ Gro F F' w) : QSt w0 w' q r' := by
  obtain ⟨F', g1, g2, g3⟩ := hp
  refine ⟨F', g1, fun k hk => ?_, h3.trans (g2.below h3.size (fun k _ hk => h2 k hk))⟩
  rcases g3 k hk with h | h
  · exact h2 k h
  · exact Nat.le_trans h3.size h

theorem come_st (w0 : World) (q : Nat) (r : Nat → List Int) (id pr : Int) (w : World) (h : QSt w0 w q r) (hlen : ∀ i, (r i).length ≤ 1000000) :
    Calls Try.prog 36 #[.pointer (some ⟨q, 0, none⟩), .int .i64 id, .int .i64 pr] w fun e w' => e = .returned (.int .i64 (comeC r id pr)) ∧ QSt w0 w' q (come r id pr) := by
  obtain ⟨F, h1, h2, h3⟩ := h
  refine (come_any q r F id pr w h1 hlen).mono ?_
  rintro e w' ⟨rfl, hp⟩
  exact ⟨rfl, QSt.post h1 h2 h3 hp⟩
theorem go_st (w0 : World) (q : Nat) (r : Nat → List Int) (id : Int) (w : World) (h : QSt w0 w q r) :
    Calls Try.prog 44 #[.pointer (some ⟨q, 0, none⟩), .int .i64 id] w fun e w' => e = .returned (.int .i64 (goC r id)) ∧ QSt w0 w' q (goR r id) := by
  obtain ⟨F, h1, h2, h3⟩ := h
  refine (go_any q r F id w h1).mono ?_
  rintro e w' ⟨rfl, hp⟩
  exact ⟨rfl, QSt.post h1 h2 h3 hp⟩
theorem first_st (w0 : World) (q : Nat) (r : Nat → List Int) (w : World) (h : QSt w0 w q r) :
    Calls Try.prog 43 #[.pointer (some ⟨q, 0, none⟩)] w fun e w' => e = .returned (firstV r) ∧ w = w' := by
  obtain ⟨F, h1, h2, h3⟩ := h
  exact first_any q r F w h1
theorem new_st (w0 : World) (w : World) (h : Below w0.heap.size w0 w) :
    Calls Try.prog 25 #[] w fun e w' => e = .returned (.pointer (some ⟨w.heap.size, 0, none⟩)) ∧ QSt w0 w' w.heap.size (fun _ => []) := by
  refine (new_any w).mono ?_
  rintro e w' ⟨rfl, rfl⟩
  exact ⟨rfl, QSt.new h⟩
/-- The same three with the footprint named: what lies outside of it stays. -/
theorem comeF (w0 : World) (q : Nat) (r : Nat → List Int) (id pr : Int) (w : World) (F : Nat → Prop) (h1 : QRep w q r F) (h2 : ∀ k, F k → w0.heap.size ≤ k) (h3 : Below w0.heap.size w0 w) (hlen : ∀ i, (r i).length ≤ 1000000) :
    Calls Try.prog 36 #[.pointer (some ⟨q, 0, none⟩), .int .i64 id, .int .i64 pr] w fun e w' => e = .returned (.int .i64 (comeC r id pr)) ∧ QSt w0 w' q (come r id pr) ∧ Fr F w w' := by
  refine (come_any q r F id pr w h1 hlen).mono ?_
  rintro e w' ⟨rfl, hp⟩
  exact ⟨rfl, QSt.post h1 h2 h3 hp, by obtain ⟨_, _, h, _⟩ := hp; exact h⟩
theorem goF (w0 : World) (q : Nat) (r : Nat → List Int) (id : Int) (w : World) (F : Nat → Prop) (h1 : QRep w q r F) (h2 : ∀ k, F k → w0.heap.size ≤ k) (h3 : Below w0.heap.size w0 w) :
    Calls Try.prog 44 #[.pointer (some ⟨q, 0, none⟩), .int .i64 id] w fun e w' => e = .returned (.int .i64 (goC r id)) ∧ QSt w0 w' q (goR r id) ∧ Fr F w w' := by
  refine (go_any q r F id w h1).mono ?_
  rintro e w' ⟨rfl, hp⟩
  exact ⟨rfl, QSt.post h1 h2 h3 hp, by obtain ⟨_, _, h, _⟩ := hp; exact h⟩

end Go.Proofs.Ytbedknfapiadbaa
