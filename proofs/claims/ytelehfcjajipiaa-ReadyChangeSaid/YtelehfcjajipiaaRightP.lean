/-
  ReadyRight's plain law, and the law's own state: a queue, and a row of 64 bools beside it.
-/
import Derived.Test.YtelehfcjajipiaaGoesP
import Derived.Test.YtelehfcjajipiaaBools
namespace Go.Proofs.Ytelehfcjajipiaa
open Go.RowKit

theorem nodup_cat {r : Nat → List Int} : ∀ {n : Nat}, (∀ i, i < n → (r i).Nodup) → (∀ i j, i < n → j < n → ∀ x, x ∈ r i → x ∈ r j → i = j) → (cat r n).Nodup
  | 0, _, _ => by simp [cat]
  | n + 1, h1, h2 => by
    rw [cat, List.nodup_append]
    refine ⟨nodup_cat (fun i hi => h1 i (by omega)) (fun i j hi hj => h2 i j (by omega) (by omega)), h1 n (by omega), ?_⟩
    intro x hx y hy e
    subst e
    obtain ⟨i, hi, hm⟩ := mem_cat.1 hx
    have := h2 i n (by omega) (by omega) x hm hy
    omega

/-- What the law's row of bools tells of the queue. -/
structure RInv (r : Nat → List Int) (f : Nat → Bool) (t : Nat) : Prop where
  uniq : Uniq r
  nodup : ∀ p, p < 101 → (r p).Nodup
  range : ∀ x, x ∈ allQ r → 0 ≤ x ∧ x ≤ 63
  mem : ∀ i : Nat, i < 64 → f i = (prio r i).isSome
  len : ∀ j, (r j).length ≤ t

theorem RInv.start : RInv (fun _ => []) (fun _ => false) 0 where
  uniq := fun p q _ _ x hx _ => by simp at hx
  nodup := fun _ _ => List.nodup_nil
  range := fun x hx => by obtain ⟨i, _, h⟩ := mem_cat.1 hx; simp at h
  mem := fun i _ => by
    have : prio (fun _ => []) (i : Int) = none := prio_none.2 (fun _ _ => by simp)
    rw [this]; rfl
  len := fun _ => Nat.le_refl _
theorem RInv.mono {r : Nat → List Int} {f : Nat → Bool} {t t' : Nat} (h : RInv r f t) (ht : t ≤ t') : RInv r f t' := ⟨h.uniq, h.nodup, h.range, h.mem, fun j => Nat.le_trans (h.len j) ht⟩
theorem RInv.all {r : Nat → List Int} {f : Nat → Bool} {t : Nat} (h : RInv r f t) : (allQ r).Nodup := nodup_cat h.nodup h.uniq
theorem isSome_iff {r : Nat → List Int} {x : Int} {b : Bool} (h : x ∈ allQ r ↔ b = true) : b = (prio r x).isSome := by
  rw [Bool.eq_iff_iff, ← h]
  exact mem_allQ

theorem mem_come {r : Nat → List Int} {id pr : Int} (hc : comeC r id pr = 0) (hm : mayB id pr = true) (x : Int) : x ∈ allQ (come r id pr) ↔ x = id ∨ x ∈ allQ r := by
  have hb := mayB_iff.1 hm
  rw [come, if_pos hc, allQ, allQ, mem_cat, mem_cat]
  constructor
  · rintro ⟨i, h1, h2⟩
    unfold upd at h2
    split at h2
    · rename_i e
      rcases List.mem_append.1 h2 with g | g
      · exact Or.inr ⟨i, h1, by rw [e]; exact g⟩
      · exact Or.inl (List.mem_singleton.1 g)
    · exact Or.inr ⟨i, h1, h2⟩
  · rintro (rfl | ⟨i, h1, h2⟩)
    · exact ⟨pr.toNat, by omega, by rw [upd_same]; simp⟩
    · refine ⟨i, h1, ?_⟩
      unfold upd
      split
      · rename_i e; subst e; simp [h2]
      · exact h2
theorem RInv.come {r : Nat → List Int} {f : Nat → Bool} {t : Nat} (h : RInv r f t) {id : Nat} {pr : Int} (hm : mayB id pr = true) (hn : f id = false) :
    comeC r id pr = 0 ∧ RInv (come r id pr) (fun j => if j = id then true else f j) (t + 1) ∧ (allQ (come r id pr)).length = (allQ r).length + 1 := by
  have hb := mayB_iff.1 hm
  have hp : (prio r id).isSome = false := by rw [← h.mem id (by omega)]; exact hn
  have hc : comeC r id pr = 0 := by simp [comeC, hm, hp]
  have hno : prio r id = none := by simpa using hp
  refine ⟨hc, ⟨h.uniq.come id pr, fun p hp' => ?_, fun x hx => ?_, fun i hi => ?_, come_len h.len id pr⟩, ?_⟩
  · rw [Proofs.Ytelehfcjajipiaa.come, if_pos hc]
    unfold upd
    split
    · rename_i e
      subst e
      rw [List.nodup_append]
      refine ⟨h.nodup _ hp', by simp, fun x hx y hy e => ?_⟩
      rw [List.mem_singleton.1 hy] at e
      subst e
      exact prio_none.1 hno _ hp' hx
    · exact h.nodup p hp'
  · rcases (mem_come hc hm x).1 hx with e | e
    · omega
    · exact h.range x e
  · refine isSome_iff ?_
    rw [mem_come hc hm]
    by_cases e : i = id
    · simp [e]
    · have e2 : ¬ (i : Int) = (id : Int) := by omega
      simp only [e2, false_or, e, if_false]
      rw [h.mem i hi, mem_allQ]
  · have := cat_upd_len (r := r) (p := pr.toNat) (l := r pr.toNat ++ [(id : Int)]) (n := 101) (by omega)
    rw [Proofs.Ytelehfcjajipiaa.come, if_pos hc]
    simp only [allQ, List.length_append, List.length_singleton] at this ⊢
    omega
theorem RInv.come_no {r : Nat → List Int} {f : Nat → Bool} {t : Nat} (h : RInv r f t) {id : Nat} {pr : Int} (hm : mayB id pr = true) (hn : f id = true) : comeC r id pr = 7 ∧ Proofs.Ytelehfcjajipiaa.come r id pr = r := by
  have hb := mayB_iff.1 hm
  have hp : (prio r id).isSome = true := by rw [← h.mem id (by omega)]; exact hn
  have hc : comeC r id pr = 7 := by simp [comeC, hm, hp]
  exact ⟨hc, by rw [Proofs.Ytelehfcjajipiaa.come, if_neg (by rw [hc]; decide)]⟩
theorem come_bad {r : Nat → List Int} {id pr : Int} (hm : mayB id pr = false) : comeC r id pr = 1 ∧ come r id pr = r := by
  have hc : comeC r id pr = 1 := by simp [comeC, hm]
  exact ⟨hc, by rw [come, if_neg (by rw [hc]; decide)]⟩
theorem less_len_nodup {x : Int} {l : List Int} (hn : l.Nodup) (hx : x ∈ l) : (less x l).length + 1 = l.length := by
  induction l with
  | nil => simp at hx
  | cons y l ih =>
    rw [List.nodup_cons] at hn
    by_cases e : y = x
    · subst e
      have : less y (y :: l) = l := by
        unfold less
        rw [List.filter_cons, if_neg (by simp)]
        exact less_none hn.1
      rw [this]; rfl
    · have hm : x ∈ l := by
        rcases List.mem_cons.1 hx with g | g
        · exact absurd g.symm e
        · exact g
      have : less x (y :: l) = y :: less x l := by unfold less; rw [List.filter_cons, if_pos (by simpa using e)]
      rw [this, List.length_cons, List.length_cons, ih hn.2 hm]
theorem RInv.go {r : Nat → List Int} {f : Nat → Bool} {t : Nat} (h : RInv r f t) {id : Nat} (hi : id < 64) (hn : f id = true) :
    goC r id = 0 ∧ RInv (goR r id) (fun j => if j = id then false else f j) t ∧ (allQ (goR r id)).length + 1 = (allQ r).length := by
  have hp : (prio r id).isSome = true := by rw [← h.mem id hi]; exact hn
  have hmem : ∀ x, x ∈ allQ (goR r id) ↔ x ∈ allQ r ∧ ¬ x = (id : Int) := by
    intro x
    rw [allQ_go h.uniq]
    simp [less]
  refine ⟨by simp [goC, hp], ⟨h.uniq.go _, fun p hp' => ?_, fun x hx => h.range x ((hmem x).1 hx).1, fun i hi' => ?_, goR_len h.len _⟩, ?_⟩
  · cases hq : prio r id with
    | none => simp only [goR, hq]; exact h.nodup p hp'
    | some p0 =>
      simp only [goR, hq]
      unfold upd
      split
      · rename_i e; subst e; exact (h.nodup _ hp').filter _
      · exact h.nodup p hp'
  · refine isSome_iff ?_
    rw [hmem]
    by_cases e : i = id
    · simp [e]
    · have e2 : ¬ (i : Int) = (id : Int) := by omega
      simp only [e2, not_false_eq_true, and_true, e, if_false]
      rw [h.mem i hi', mem_allQ]
  · rw [allQ_go h.uniq]
    exact less_len_nodup h.all (mem_allQ.2 hp)
theorem RInv.go_no {r : Nat → List Int} {f : Nat → Bool} {t : Nat} (h : RInv r f t) {id : Int} (hn : ∀ i : Nat, i < 64 → id = i → f i = false) : goC r id = 6 ∧ goR r id = r := by
  have hp : prio r id = none := by
    cases hq : prio r id with
    | none => rfl
    | some p =>
      have hm : id ∈ allQ r := mem_allQ.2 (by rw [hq]; rfl)
      have hr := h.range id hm
      have h1 := hn id.toNat (by omega) (by omega)
      rw [h.mem _ (by omega)] at h1
      rw [show ((id.toNat : Nat) : Int) = id from by omega, hq] at h1
      simp at h1
  exact ⟨by simp [goC, hp], by simp [goR, hp]⟩

/-- The law's state in memory: a queue, and beside it a row of 64 bools in block bi. -/
def RSt (w0 w : World) (q bi : Nat) (r : Nat → List Int) (f : Nat → Bool) : Prop :=
  ∃ F, QRep w q r F ∧ (∀ k, F k → w0.heap.size ≤ k) ∧ Below w0.heap.size w0 w ∧ ¬ F bi ∧ w0.heap.size ≤ bi ∧ w.heap[bi]? = some (.cells (boolCells 64 f) 4 (0, 0))

theorem RSt.below {w0 w : World} {q bi : Nat} {r : Nat → List Int} {f : Nat → Bool} (h : RSt w0 w q bi r f) : Below w0.heap.size w0 w := by obtain ⟨_, _, _, h, _⟩ := h; exact h
theorem RSt.lt {w0 w : World} {q bi : Nat} {r : Nat → List Int} {f : Nat → Bool} (h : RSt w0 w q bi r f) : bi < w.heap.size := by obtain ⟨_, _, _, _, _, _, h⟩ := h; exact lt_blk h
theorem RSt.cell {w0 w : World} {q bi : Nat} {r : Nat → List Int} {f : Nat → Bool} (h : RSt w0 w q bi r f) {i : Nat} (hi : i < 64) : w.cell? ⟨bi, i, none⟩ = some (.bool (f i)) := by obtain ⟨_, _, _, _, _, _, h⟩ := h; exact bools_cell h hi
theorem RSt.free {w0 w : World} {q bi : Nat} {r : Nat → List Int} {f : Nat → Bool} (h : RSt w0 w q bi r f) (i : Nat) : w.frozen? ⟨bi, i, none⟩ = false := by obtain ⟨_, _, _, _, _, _, h⟩ := h; exact free_blk h i
theorem RSt.later {w0 w w' : World} {q bi : Nat} {r : Nat → List Int} {f : Nat → Bool} (h : RSt w0 w q bi r f) (hb : Below w.heap.size w w') : RSt w0 w' q bi r f := by
  obtain ⟨F, h1, h2, h3, h4, h5, h6⟩ := h
  exact ⟨F, h1.fr (Fr.of_below (F := fun _ => False) hb) (fun _ _ h => h), h2, h3.trans (hb.mono h3.size), h4, h5, by rw [hb.block bi (lt_blk h6)]; exact h6⟩
/-- A store outside of all that the law's state is. -/
theorem RSt.beside {w0 w w' : World} {q bi : Nat} {r : Nat → List Int} {f : Nat → Bool} (h : RSt w0 w q bi r f) {B : Nat} (hB : w.heap.size ≤ B) (hf : Fr (fun k => B ≤ k) w w') : RSt w0 w' q bi r f :=
  h.later (hf.below (Nat.le_refl _) (fun k hk hb => by omega))
theorem RSt.set {w0 w : World} {q bi : Nat} {r : Nat → List Int} {f : Nat → Bool} (h : RSt w0 w q bi r f) {i : Nat} (hi : i < 64) (b : Bool) : RSt w0 (w.setCell ⟨bi, i, none⟩ (.bool b)) q bi r (fun j => if j = i then b else f j) := by
  obtain ⟨F, h1, h2, h3, h4, h5, h6⟩ := h
  refine ⟨F, h1.fr (G := fun k => k = bi) ((Fr.refl (fun k => k = bi) w).setCell (p := ⟨bi, i, none⟩) (Or.inl rfl) (.bool b)) (fun k hk e => h4 (e ▸ hk)), h2, h3.setCell h5 _, h4, h5, bools_set h6 hi b⟩
theorem RSt.step {w0 w w' : World} {q bi : Nat} {r r' : Nat → List Int} {f : Nat → Bool} {F : Nat → Prop} (d : Obj) (h1 : QRep w q r F) (h2 : ∀ k, F k → w0.heap.size ≤ k) (h3 : Below w0.heap.size w0 w) (h4 : ¬ F bi) (h5 : w0.heap.size ≤ bi)
    (h6 : w.heap[bi]? = some (.cells (boolCells 64 f) 4 (0, 0))) (hp : ∃ F', QRep w' q r' F' ∧ Fr F (w.alloc d) w' ∧ Gro F F' (w.alloc d)) : RSt w0 w' q bi r' f ∧ w'.heap[w.heap.size]? = some d := by
  have hlt := h1.lt
  have hbi := lt_blk h6
  obtain ⟨F', g1, g2, g3⟩ := hp
  refine ⟨⟨F', g1, fun k hk => ?_, ?_, fun hk => ?_, h5, g2.blk (blk_alloc h6) h4⟩, g2.blk (blk_new w d) (fun hF => by have := hlt _ hF; omega)⟩
  · rcases g3 k hk with g | g
    · exact h2 k g
    · have := h3.size; simp at g; omega
  · exact (h3.alloc h3.size d).trans (g2.below (by have := h3.size; simp; omega) (fun k _ hk => h2 k hk))
  · rcases g3 _ hk with g | g
    · exact h4 g
    · simp at g; omega
theorem QRep.alloc {w : World} {q : Nat} {r : Nat → List Int} {F : Nat → Prop} (h : QRep w q r F) (d : Obj) : QRep (w.alloc d) q r F :=
  h.fr (G := fun _ => False) ((Fr.refl _ _).alloc d) (fun _ _ h => h)

/-- 'Come', 'Go' behind a new block d (the law's own copy of its step). -/
theorem come_r (w0 : World) (q bi : Nat) (r : Nat → List Int) (f : Nat → Bool) (x pr : Int) (w : World) (d : Obj) (h : RSt w0 w q bi r f) (hlen : ∀ i, (r i).length ≤ 1000000) :
    Calls Try.prog 10 #[.pointer (some ⟨q, 0, none⟩), .int .i64 x, .int .i64 pr] (w.alloc d) fun e w' => e = .returned (.int .i64 (comeC r x pr)) ∧ RSt w0 w' q bi (come r x pr) f ∧ w'.heap[w.heap.size]? = some d := by
  obtain ⟨F, h1, h2, h3, h4, h5, h6⟩ := h
  refine (come_any q r F x pr _ (h1.alloc d) hlen).mono ?_
  rintro e w' ⟨rfl, hp⟩
  exact ⟨rfl, RSt.step d h1 h2 h3 h4 h5 h6 hp⟩
theorem go_r (w0 : World) (q bi : Nat) (r : Nat → List Int) (f : Nat → Bool) (x : Int) (w : World) (d : Obj) (h : RSt w0 w q bi r f) :
    Calls Try.prog 12 #[.pointer (some ⟨q, 0, none⟩), .int .i64 x] (w.alloc d) fun e w' => e = .returned (.int .i64 (goC r x)) ∧ RSt w0 w' q bi (goR r x) f ∧ w'.heap[w.heap.size]? = some d := by
  obtain ⟨F, h1, h2, h3, h4, h5, h6⟩ := h
  refine (go_any q r F x _ (h1.alloc d)).mono ?_
  rintro e w' ⟨rfl, hp⟩
  exact ⟨rfl, RSt.step d h1 h2 h3 h4 h5 h6 hp⟩
theorem all_r (w0 : World) (q bi : Nat) (r : Nat → List Int) (f : Nat → Bool) (w : World) (h : RSt w0 w q bi r f) (hlen : ∀ i, (r i).length ≤ 1000000) :
    Calls Try.prog 13 #[.pointer (some ⟨q, 0, none⟩)] w fun e w' => ∃ ao cap, e = .returned (.slice ao (allQ r).length cap) ∧
      RowAt w' (fun k => (Value.slice ao (allQ r).length cap).ownBlock = some k) (.slice ao (allQ r).length cap) (allQ r).length 1 (ints (allQ r)) ∧ RSt w0 w' q bi r f := by
  obtain ⟨F, h1, h2, h3, h4, h5, h6⟩ := h
  refine (all_any q r F w h1 hlen).mono ?_
  rintro e w' ⟨v, rfl, ho, hb⟩
  obtain ⟨ao, cap, rfl⟩ := ownsRow_slice ho
  exact ⟨ao, cap, rfl, RowAt.of_owns ho, RSt.later ⟨F, h1, h2, h3, h4, h5, h6⟩ hb⟩

end Go.Proofs.Ytelehfcjajipiaa
