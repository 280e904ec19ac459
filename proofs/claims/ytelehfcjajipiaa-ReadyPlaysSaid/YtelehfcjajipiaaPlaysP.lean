/-
  ReadyPlays' plain law: the document's list of members, and rows by urgency.
-/
import Derived.Test.YtelehfcjajipiaaGoesP
import Derived.Test.YtelehfcjajipiaaReadyF
namespace Go.Proofs.Ytelehfcjajipiaa.readyPlays
open Go.RowKit Go.Proofs.Ytelehfcjajipiaa

/-- A member of the document's list. -/
structure MemM where
  id : Int
  prio : Int
def rowM (r : Nat → List Int) (p : Nat) : List MemM := (r p).map (fun x => ⟨x, (p : Int)⟩)
def catM (r : Nat → List Int) : Nat → List MemM
  | 0 => []
  | n + 1 => catM r n ++ rowM r n
def fromM (r : Nat → List Int) (a : Nat) : Nat → List MemM
  | 0 => []
  | k + 1 => fromM r a k ++ rowM r (a + k)
def ids (L : List MemM) : List Int := L.map MemM.id
theorem ids_append (L M : List MemM) : ids (L ++ M) = ids L ++ ids M := by simp [ids]
theorem ids_rowM (r : Nat → List Int) (p : Nat) : ids (rowM r p) = r p := by
  simp only [ids, rowM, List.map_map]
  exact (List.map_congr_left (fun x _ => rfl)).trans (List.map_id' _)
theorem ids_catM (r : Nat → List Int) (n : Nat) : ids (catM r n) = cat r n := by
  induction n with
  | zero => rfl
  | succ n ih => rw [catM, ids_append, ih, ids_rowM, cat]
theorem ids_all (r : Nat → List Int) : ids (catM r 101) = allQ r := ids_catM r 101
theorem catM_congr {r s : Nat → List Int} {n : Nat} (h : ∀ i, i < n → r i = s i) : catM r n = catM s n := by
  induction n with
  | zero => rfl
  | succ n ih => rw [catM, catM, ih (fun i hi => h i (by omega)), rowM, rowM, h n (by omega)]
theorem fromM_congr {r s : Nat → List Int} {a k : Nat} (h : ∀ i, a ≤ i → r i = s i) : fromM r a k = fromM s a k := by
  induction k with
  | zero => rfl
  | succ k ih => rw [fromM, fromM, ih, rowM, rowM, h _ (by omega)]
theorem catM_add (r : Nat → List Int) (a k : Nat) : catM r (a + k) = catM r a ++ fromM r a k := by
  induction k with
  | zero => simp [fromM]
  | succ k ih => rw [← Nat.add_assoc, catM, ih, fromM, List.append_assoc]
theorem mem_rowM {r : Nat → List Int} {p : Nat} {m : MemM} (h : m ∈ rowM r p) : m.prio = p ∧ m.id ∈ r p := by
  simp only [rowM, List.mem_map] at h
  obtain ⟨x, hx, rfl⟩ := h
  exact ⟨rfl, hx⟩
theorem mem_catM {r : Nat → List Int} {n : Nat} {m : MemM} (h : m ∈ catM r n) : ∃ p : Nat, p < n ∧ m.prio = p ∧ m.id ∈ r p := by
  induction n with
  | zero => simp [catM] at h
  | succ n ih =>
    rcases List.mem_append.1 h with h | h
    · obtain ⟨p, hp, h2⟩ := ih h; exact ⟨p, by omega, h2⟩
    · exact ⟨n, by omega, mem_rowM h⟩
theorem mem_fromM {r : Nat → List Int} {a k : Nat} {m : MemM} (h : m ∈ fromM r a k) : (a : Int) ≤ m.prio := by
  induction k with
  | zero => simp [fromM] at h
  | succ k ih =>
    rcases List.mem_append.1 h with h | h
    · exact ih h
    · have := (mem_rowM h).1; omega

theorem cat_parts (r : Nat → List Int) {p N : Nat} (hp : p < N) : ∃ k, catM r N = catM r (p + 1) ++ fromM r (p + 1) k ∧ ∀ l, catM (upd r p l) N = catM r p ++ l.map (fun x => ⟨x, (p : Int)⟩) ++ fromM r (p + 1) k := by
  obtain ⟨k, rfl⟩ : ∃ k, N = (p + 1) + k := ⟨N - (p + 1), by omega⟩
  refine ⟨k, catM_add r (p + 1) k, fun l => ?_⟩
  rw [catM_add, catM, catM_congr (r := upd r p l) (s := r) (fun i hi => upd_ne _ _ (by omega)), fromM_congr (r := upd r p l) (s := r) (fun i hi => upd_ne _ _ (by omega)), rowM, upd_same]
/-- Where the document puts who comes. -/
theorem come_at {r : Nat → List Int} {x : Int} {p i N : Nat} (hp : p < N) (hi : i ≤ (catM r N).length) (h1 : ∀ (j : Nat) (hj : j < (catM r N).length), j < i → (catM r N)[j].prio ≤ p)
    (h2 : ∀ hl : i < (catM r N).length, (p : Int) < ((catM r N)[i]'hl).prio) :
    (catM r N).take i ++ [⟨x, (p : Int)⟩] ++ (catM r N).drop i = catM (upd r p (r p ++ [x])) N := by
  obtain ⟨k, hL, hU⟩ := cat_parts r hp
  have hlen : (catM r N).length = (catM r (p + 1)).length + (fromM r (p + 1) k).length := by rw [hL, List.length_append]
  have hA : i = (catM r (p + 1)).length := by
    rcases Nat.lt_trichotomy i (catM r (p + 1)).length with h | h | h
    · have hm : (catM r N)[i]'(by omega) ∈ catM r (p + 1) := by
        simp only [hL]
        rw [List.getElem_append_left h]
        exact List.getElem_mem _
      obtain ⟨q, hq, he, _⟩ := mem_catM hm
      have := h2 (by omega)
      omega
    · exact h
    · have hlt : (catM r (p + 1)).length < (catM r N).length := by omega
      have hm : (catM r N)[(catM r (p + 1)).length]'hlt ∈ fromM r (p + 1) k := by
        simp only [hL]
        rw [List.getElem_append_right (Nat.le_refl _)]
        exact List.getElem_mem _
      have := mem_fromM hm
      have := h1 _ hlt h
      omega
  subst hA
  rw [hU, hL, List.take_left, List.drop_left, catM]
  simp [rowM]

theorem goR_row {r : Nat → List Int} (h : Uniq r) (x : Int) {i : Nat} (hi : i < 101) : goR r x i = less x (r i) := by
  unfold goR
  cases hp : prio r x with
  | none => exact (less_none (prio_none.1 hp i hi)).symm
  | some p =>
    obtain ⟨h1, h2⟩ := prio_spec hp
    show upd r p (less x (r p)) i = _
    by_cases e : i = p
    · subst e; rw [upd_same]
    · rw [upd_ne _ _ e]
      exact (less_none (fun hx => e (h _ _ hi h1 x hx h2))).symm
theorem catM_go {r : Nat → List Int} (h : Uniq r) (x : Int) {n : Nat} (hn : n ≤ 101) : catM (goR r x) n = (catM r n).filter (fun m => !(m.id == x)) := by
  induction n with
  | zero => rfl
  | succ n ih =>
    rw [catM, catM, ih (by omega), List.filter_append]
    congr 1
    rw [rowM, rowM, goR_row h x (by omega), less, List.filter_map]
    rfl
theorem filter_at {x : Int} : ∀ {L : List MemM} {i : Nat} (hi : i < L.length), (ids L).Nodup → L[i].id = x → L.filter (fun m => !(m.id == x)) = L.take i ++ L.drop (i + 1)
  | m :: L, 0, _, hn, hx => by
    simp only [ids, List.map_cons, List.nodup_cons] at hn
    simp only [List.getElem_cons_zero] at hx
    simp only [List.take_zero, List.nil_append, List.drop_succ_cons, List.drop_zero]
    rw [List.filter_cons_of_neg (by simp [hx])]
    rw [List.filter_eq_self]
    intro a ha
    simp only [Bool.not_eq_true', beq_eq_false_iff_ne, ne_eq]
    intro e
    exact hn.1 (by rw [hx, ← e]; exact List.mem_map_of_mem ha)
  | m :: L, i + 1, hi, hn, hx => by
    simp only [ids, List.map_cons, List.nodup_cons] at hn
    simp only [List.getElem_cons_succ] at hx
    have hi' : i < L.length := by simpa using hi
    have hne : ¬ m.id = x := by
      intro e
      exact hn.1 (by rw [e, ← hx]; exact List.mem_map_of_mem (List.getElem_mem hi'))
    rw [List.filter_cons_of_pos (by simp [hne])]
    simp only [List.take_succ_cons, List.drop_succ_cons, List.cons_append]
    rw [filter_at hi' hn.2 hx]
/-- What the document leaves where somebody goes. -/
theorem go_at {r : Nat → List Int} (hu : Uniq r) (hn : (allQ r).Nodup) {x : Int} {i : Nat} (hi : i < (catM r 101).length) (hx : (catM r 101)[i].id = x) :
    (catM r 101).take i ++ (catM r 101).drop (i + 1) = catM (goR r x) 101 := by
  rw [catM_go hu x (Nat.le_refl _), filter_at hi (by rw [ids_all]; exact hn) hx]

theorem in_prio {r : Nat → List Int} {x : Int} : x ∈ allQ r ↔ (prio r x).isSome = true := by
  rw [allQ, mem_cat]
  cases hp : prio r x with
  | none =>
    have := prio_none.1 hp
    simp only [Option.isSome_none, Bool.false_eq_true, iff_false]
    rintro ⟨i, hi, h⟩
    exact this i hi h
  | some p => exact ⟨fun _ => rfl, fun _ => ⟨p, prio_spec hp⟩⟩
theorem find_in {r : Nat → List Int} {x : Int} : 0 ≤ idx x (ids (catM r 101)) ↔ (prio r x).isSome = true := by
  rw [idx_lt, ids_all, in_prio]
/-- Where somebody stands its urgency is its row. -/
theorem at_prio {r : Nat → List Int} (hu : Uniq r) {x : Int} {p i : Nat} (hp : prio r x = some p) (hi : i < (catM r 101).length) (hx : (catM r 101)[i].id = x) : (catM r 101)[i].prio = p := by
  obtain ⟨q, hq, h1, h2⟩ := mem_catM (List.getElem_mem hi)
  obtain ⟨h3, h4⟩ := prio_spec hp
  rw [hx] at h2
  rw [h1, hu _ _ hq h3 x h2 h4]
theorem catM_none {r : Nat → List Int} {N : Nat} (h : ∀ i, i < N → r i = []) : catM r N = [] := by
  rw [catM_congr (s := fun _ => []) h]
  clear h
  induction N with
  | zero => rfl
  | succ n ih => rw [catM, ih]; rfl
theorem catM_head {r : Nat → List Int} {p N : Nat} (hp : p < N) (h : ∀ i, i < p → r i = []) : ∃ M, catM r N = rowM r p ++ M := by
  obtain ⟨k, hL, _⟩ := cat_parts r hp
  have h0 : catM r p = [] := catM_none h
  exact ⟨fromM r (p + 1) k, by rw [hL, catM, h0, List.nil_append]⟩
/-- What the document's 'First' answers. -/
def firstL : List MemM → Value
  | [] => .tuple #[.int .i64 0, .int .i64 0, .int .i64 5]
  | m :: _ => .tuple #[.int .i64 m.id, .int .i64 m.prio, .int .i64 0]
theorem catM_first {r : Nat → List Int} : firstL (catM r 101) = firstV r := by
  cases hf : first r with
  | none => rw [catM_none (first_none hf), firstV_none hf]; rfl
  | some p =>
    obtain ⟨h1, h2, h3⟩ := first_some hf
    rw [firstV_some hf]
    obtain ⟨M, hM⟩ := catM_head (N := 101) h1 h3
    rw [hM]
    cases hr : r p with
    | nil => exact absurd hr h2
    | cons y l => simp [rowM, hr, firstL]

/-- What stands of the queue all along. -/
structure Good (r : Nat → List Int) (n : Nat) : Prop where
  uniq : Uniq r
  nd : (allQ r).Nodup
  len : ∀ i, (r i).length ≤ n
  all : (catM r 101).length ≤ n
theorem Good.start : Good (fun _ => []) 0 := by
  have h0 : catM (fun _ => []) 101 = [] := catM_none (fun _ _ => rfl)
  have h1 : allQ (fun _ => ([] : List Int)) = [] := by rw [← ids_all, h0]; rfl
  refine ⟨fun _ _ _ _ x hx => ?_, ?_, fun _ => Nat.le_refl _, ?_⟩
  · cases hx
  · rw [h1]; exact List.nodup_nil
  · rw [h0]; exact Nat.le_refl _
theorem Good.mono {r : Nat → List Int} {n m : Nat} (h : Good r n) (hm : n ≤ m) : Good r m := ⟨h.uniq, h.nd, fun i => Nat.le_trans (h.len i) hm, Nat.le_trans h.all hm⟩
theorem Good.go {r : Nat → List Int} {n : Nat} (h : Good r n) (x : Int) : Good (goR r x) n :=
  ⟨h.uniq.go x, by rw [allQ_go h.uniq]; exact h.nd.filter _, goR_len h.len x, by rw [catM_go h.uniq x (Nat.le_refl _)]; exact Nat.le_trans (List.length_filter_le _ _) h.all⟩
theorem Good.come {r : Nat → List Int} {n : Nat} (h : Good r n) (x pr : Int) : Good (come r x pr) (n + 1) := by
  by_cases hc : comeC r x pr = 0
  · have hm : mayB x pr = true := by
      unfold comeC at hc
      by_cases e : mayB x pr = true
      · exact e
      · rw [if_neg e] at hc; omega
    have hns : ¬ (prio r x).isSome = true := by
      intro e
      unfold comeC at hc
      rw [if_pos hm, if_pos e] at hc
      omega
    obtain ⟨_, _, h3, h4⟩ := mayB_iff.1 hm
    have hcm : Go.Proofs.Ytelehfcjajipiaa.come r x pr = upd r pr.toNat (r pr.toNat ++ [x]) := by unfold Go.Proofs.Ytelehfcjajipiaa.come; rw [if_pos hc]
    obtain ⟨k, hL, hU⟩ := cat_parts r (p := pr.toNat) (N := 101) (by omega)
    have hL2 : catM (Go.Proofs.Ytelehfcjajipiaa.come r x pr) 101 = catM r (pr.toNat + 1) ++ (⟨x, pr.toNat⟩ :: fromM r (pr.toNat + 1) k) := by
      rw [hcm, hU, catM]
      simp [rowM]
    refine ⟨h.uniq.come x pr, ?_, come_len h.len x pr, ?_⟩
    · rw [← ids_all, hL2, ids_append]
      have hnd := h.nd
      rw [← ids_all, hL, ids_append] at hnd
      have hx : x ∉ ids (catM r (pr.toNat + 1)) ++ ids (fromM r (pr.toNat + 1) k) := by
        rw [← ids_append, ← hL, ids_all]
        exact fun e => hns (in_prio.1 e)
      show (ids (catM r (pr.toNat + 1)) ++ x :: ids (fromM r (pr.toNat + 1) k)).Nodup
      rw [(List.perm_middle).nodup_iff, List.nodup_cons]
      exact ⟨hx, hnd⟩
    · rw [hL2]
      have := h.all
      rw [hL] at this
      simp only [List.length_append, List.length_cons] at this ⊢
      omega
  · have : Go.Proofs.Ytelehfcjajipiaa.come r x pr = r := by unfold Go.Proofs.Ytelehfcjajipiaa.come; rw [if_neg hc]
    rw [this]
    exact h.mono (by omega)
theorem gone_none {r : Nat → List Int} (hu : Uniq r) (x : Int) : prio (goR r x) x = none := by
  rw [prio_none]
  intro i hi
  rw [goR_row hu x (by omega)]
  simp [less]
theorem change_come {r : Nat → List Int} (hu : Uniq r) {x pr : Int} (hm : mayB x pr = true) : comeC (goR r x) x pr = 0 := by
  unfold comeC
  rw [if_pos hm, gone_none hu x]
  rfl
theorem Good.chg {r : Nat → List Int} {n : Nat} (h : Good r n) (x pr : Int) : Good (chg r x pr) (n + 1) := by
  unfold Go.Proofs.Ytelehfcjajipiaa.chg
  split
  · split
    · exact h.mono (by omega)
    · split
      · exact h.mono (by omega)
      · exact (h.go x).come x pr
  · exact h.mono (by omega)

end Go.Proofs.Ytelehfcjajipiaa.readyPlays
