/-
  ReadyOrder's plain law: rows filled by rising numbers come out by urgency, alike ones by rising numbers.
-/
import Derived.Test.YtelehfcjajipiaaReadyP
namespace Go.Proofs.Ytelehfcjajipiaa
open Go.RowKit

/-- Number i's urgency. -/
def zp (z : List Int) (i : Nat) : Int := zv z i % 101
theorem zp_bd (z : List Int) (i : Nat) : 0 ≤ zp z i ∧ zp z i < 101 := by unfold zp; omega
/-- The rows when the numbers below k have come. -/
def ordR (z : List Int) (k : Nat) : Nat → List Int := fun p => ((List.range k).filter (fun i => zp z i == (p : Int))).map Int.ofNat
theorem ordR_zero (z : List Int) : ordR z 0 = fun _ => [] := rfl
theorem mem_ordR {z : List Int} {k p : Nat} {x : Int} : x ∈ ordR z k p ↔ ∃ i : Nat, i < k ∧ zp z i = p ∧ x = i := by
  simp only [ordR, List.mem_map, List.mem_filter, List.mem_range, beq_iff_eq]
  constructor
  · rintro ⟨i, ⟨h1, h2⟩, rfl⟩; exact ⟨i, h1, h2, rfl⟩
  · rintro ⟨i, h1, h2, rfl⟩; exact ⟨i, ⟨h1, h2⟩, rfl⟩
theorem ordR_succ (z : List Int) (k : Nat) : ordR z (k + 1) = upd (ordR z k) (zp z k).toNat (ordR z k (zp z k).toNat ++ [(k : Int)]) := by
  funext p
  have hb := zp_bd z k
  unfold upd
  simp only [ordR, List.range_succ, List.filter_append, List.map_append]
  split
  · rename_i h
    subst h
    have hf : [k].filter (fun i => zp z i == ((zp z k).toNat : Int)) = [k] := by rw [List.filter_cons, if_pos (by simp; omega)]; rfl
    rw [hf]; rfl
  · rename_i h
    have hf : [k].filter (fun i => zp z i == (p : Int)) = [] := by rw [List.filter_cons, if_neg (by simp; omega)]; rfl
    rw [hf]; simp
theorem ordR_come {z : List Int} {k : Nat} (hk : k < 64) : comeC (ordR z k) k (zp z k) = 0 ∧ come (ordR z k) k (zp z k) = ordR z (k + 1) := by
  have hb := zp_bd z k
  have h1 : mayB k (zp z k) = true := mayB_iff.2 ⟨by omega, by omega, hb.1, hb.2⟩
  have h2 : prio (ordR z k) k = none := prio_none.2 fun i _ hm => by
    obtain ⟨j, hj, _, e⟩ := mem_ordR.1 hm
    omega
  have hc : comeC (ordR z k) k (zp z k) = 0 := by simp [comeC, h1, h2]
  exact ⟨hc, by rw [come, if_pos hc, ordR_succ]⟩
theorem ordR_len (z : List Int) (k : Nat) : ∀ i, (ordR z k i).length ≤ k := by
  intro i
  simp only [ordR, List.length_map]
  exact Nat.le_trans (List.length_filter_le _ _) (by simp)
theorem ordR_cat (z : List Int) (k : Nat) : (cat (ordR z k) 101).length = k := by
  induction k with
  | zero => rw [ordR_zero, show cat (fun _ => []) 101 = [] from cat_nil.2 (fun _ _ => rfl)]; rfl
  | succ k ih =>
    have hb := zp_bd z k
    have := cat_upd_len (r := ordR z k) (p := (zp z k).toNat) (l := ordR z k (zp z k).toNat ++ [(k : Int)]) (n := 101) (by omega)
    rw [← ordR_succ] at this
    simp at this
    omega
theorem ordR_asc (z : List Int) (k p : Nat) : (ordR z k p).Pairwise (· < ·) := by
  unfold ordR
  refine List.Pairwise.map _ (R := (· < ·)) (fun a b h => Int.ofNat_lt.2 h) ?_
  exact List.Pairwise.filter _ List.pairwise_lt_range

/-- What holds while one after the other is taken: t are gone, the last one was 'last'. -/
structure OInv (z : List Int) (n : Nat) (r : Nat → List Int) (t : Nat) (last : Int) : Prop where
  mem : ∀ p, p < 101 → ∀ x, x ∈ r p → ∃ i : Nat, x = i ∧ i < n ∧ zp z i = p
  asc : ∀ p, p < 101 → (r p).Pairwise (· < ·)
  len : (cat r 101).length + t = n
  row : ∀ i, (r i).length ≤ n
  last : last = -1 ∨ ∃ j : Nat, last = j ∧ j < n ∧ (∀ p : Nat, (p : Int) < zp z j → r p = []) ∧ (∀ p : Nat, (p : Int) = zp z j → ∀ x, x ∈ r p → (j : Int) < x)

theorem OInv.start (z : List Int) (n : Nat) : OInv z n (ordR z n) 0 (-1) where
  mem p _ x hx := by obtain ⟨i, h1, h2, h3⟩ := mem_ordR.1 hx; exact ⟨i, h3, h1, h2⟩
  asc p _ := ordR_asc z n p
  len := by rw [ordR_cat]; rfl
  row := ordR_len z n
  last := Or.inl rfl

theorem OInv.next {z : List Int} {n t : Nat} {r : Nat → List Int} {last : Int} (h : OInv z n r t last) (ht : t < n) :
    ∃ p m : Nat, p < 101 ∧ m < n ∧ zp z m = p ∧ firstV r = .tuple #[.int .i64 m, .int .i64 p, .int .i64 0] ∧ goC r m = 0 ∧ OInv z n (goR r m) (t + 1) m ∧
      (last = -1 ∨ ∃ j : Nat, last = j ∧ j < n ∧ (zp z j < p ∨ zp z j = p ∧ j < m)) := by
  cases hf : first r with
  | none =>
    have h1 := h.len
    rw [cat_nil.2 (first_none hf)] at h1
    simp at h1
    omega
  | some p =>
    obtain ⟨hp, hne, hlow⟩ := first_some hf
    cases hr : r p with
    | nil => exact absurd hr hne
    | cons x rest =>
      obtain ⟨m, rfl, hmn, hzm⟩ := h.mem p hp x (by simp [hr])
      have hasc := h.asc p hp
      rw [hr, List.pairwise_cons] at hasc
      have hpr : prio r m = some p := prio_of hp (by simp [hr]) (fun i hi => by simp [hlow i hi])
      have hless : less m (r p) = rest := by
        rw [hr, less, List.filter_cons]
        simp only [beq_self_eq_true, Bool.not_true, Bool.false_eq_true, if_false]
        exact less_none (fun hm => by have := hasc.1 _ hm; omega)
      have hgo : goR r m = upd r p rest := by simp [goR, hpr, hless]
      refine ⟨p, m, hp, hmn, hzm, by rw [firstV_some hf, hr]; rfl, by simp [goC, hpr], ?_, ?_⟩
      · rw [hgo]
        refine ⟨fun i hi x hx => ?_, fun i hi => ?_, ?_, fun i => ?_, Or.inr ⟨m, rfl, hmn, fun i hi => ?_, fun i hi x hx => ?_⟩⟩
        · by_cases e : i = p
          · subst e; rw [upd_same] at hx; exact h.mem _ hi x (by simp [hr, hx])
          · rw [upd_ne _ _ e] at hx; exact h.mem _ hi x hx
        · by_cases e : i = p
          · subst e; rw [upd_same]; exact hasc.2
          · rw [upd_ne _ _ e]; exact h.asc _ hi
        · have := cat_upd_len (r := r) (p := p) (l := rest) (n := 101) hp
          have h2 := h.len
          simp [hr] at this
          omega
        · by_cases e : i = p
          · subst e; rw [upd_same]; have := h.row i; simp [hr] at this; omega
          · rw [upd_ne _ _ e]; exact h.row i
        · rw [upd_ne _ _ (by omega)]; exact hlow i (by omega)
        · obtain rfl : i = p := by omega
          rw [upd_same] at hx
          exact hasc.1 x hx
      · rcases h.last with hl | ⟨j, hl, hjn, hj1, hj2⟩
        · exact Or.inl hl
        · refine Or.inr ⟨j, hl, hjn, ?_⟩
          rcases Int.lt_trichotomy (p : Int) (zp z j) with e | e | e
          · exact absurd (hj1 p e) hne
          · right
            have := hj2 p e m (by simp [hr])
            exact ⟨e.symm, by omega⟩
          · exact Or.inl e
theorem OInv.stop {z : List Int} {n : Nat} {r : Nat → List Int} {last : Int} (h : OInv z n r n last) : firstV r = .tuple #[.int .i64 0, .int .i64 0, .int .i64 5] ∧ allQ r = [] := by
  have hc : cat r 101 = [] := List.length_eq_zero_iff.1 (by have := h.len; omega)
  have hall := cat_nil.1 hc
  refine ⟨firstV_none ?_, hc⟩
  cases hf : first r with
  | none => rfl
  | some p => exact absurd (hall p (first_some hf).1) (first_some hf).2.1

end Go.Proofs.Ytelehfcjajipiaa
