/-
  The processor's tasks turn, its queue, its time; the walk of cpu's late.
-/
import Derived.Test.YtbedknfapiadbaaCpuE
import Derived.Test.YtbedknfapiadbaaAppR
namespace Go.Proofs.Ytbedknfapiadbaa
open Go.RowKit

/-- Task i has turned; its job may lie elsewhere now. -/
theorem CpuAt.task_upd {w w' : World} {y : Lay} {M : CpuM} (h : CpuAt w y M) {i p' : Nat} {t' : TaskM} {own' : Nat → Option Own} (hf : Fr (fun k => y.own k = some (.task i) ∨ y.own k = some (.job i)) w w') (hs : Same w w' y.own own')
    (hb : i < M.tasks.length → w'.heap[y.tp i]? = some (.cells #[.int .i64 t'.wk.prio, .int .u64 t'.wk.cost, .int .u64 t'.wk.period, .int .u64 t'.wk.dead, jobV p' t'.job, .bool t'.begun, .int .u64 t'.last] 72 (0, 0)))
    (hj : i < M.tasks.length → JobAt w' own' i p' t'.job) :
    CpuAt w' { y with own := own', jp := upd y.jp i p' } { M with tasks := M.tasks.set i t' } := by
  have ne : ∀ {k : Nat} {x : Own}, y.own k = some x → x ≠ .task i → x ≠ .job i → ¬ (y.own k = some (.task i) ∨ y.own k = some (.job i)) := by
    intro k x e h1 h2 h3
    rw [e] at h3
    rcases h3 with h3 | h3 <;> simp at h3
    · exact h1 h3
    · exact h2 h3
  have old : ∀ {k : Nat} {x : Own}, y.own k = some x → own' k = some x := fun e => (hs.1 _ (h.lt _ (by rw [e]; simp))).trans e
  refine ⟨hs.2, ⟨old h.cpu.1, ?_⟩, ?_, h.sarr.fr h.lt hf hs (fun _ e => ne e (by simp) (by simp)), fun j t ht => ?_, fun j s hj => ⟨old (h.srv j s hj).1, hf.blk (h.srv j s hj).2.1 (ne (h.srv j s hj).1 (by simp) (by simp)), (h.srv j s hj).2.2.own hf hs (fun _ e => ne e (by simp) (by simp))⟩, h.queue.own hf hs (fun _ e => ne e (by simp) (by simp))⟩
  · show _ = some (Obj.cells #[.slice y.ta (M.tasks.set i t').length y.tc, _, _, _] _ _)
    rw [List.length_set]
    exact hf.blk h.cpu.2 (ne h.cpu.1 (by simp) (by simp))
  · show PRow _ _ _ _ _ (M.tasks.set i t').length _
    rw [List.length_set]
    exact h.tarr.fr h.lt hf hs (fun _ e => ne e (by simp) (by simp))
  · have ht' : (M.tasks.set i t')[j]? = some t := ht
    rw [List.getElem?_set] at ht'
    by_cases e : i = j
    · subst e
      rw [if_pos rfl] at ht'
      by_cases hl : i < M.tasks.length
      · rw [if_pos hl] at ht'
        simp only [Option.some.injEq] at ht'
        subst ht'
        obtain ⟨t0, ht0⟩ : ∃ t0, M.tasks[i]? = some t0 := ⟨M.tasks[i], by simp [hl]⟩
        refine ⟨old (h.task i t0 ht0).1, ?_, ?_⟩
        · show w'.heap[y.tp i]? = some (.cells #[_, _, _, _, jobV (upd y.jp i p' i) _, _, _] _ _)
          rw [upd_same]; exact hb hl
        · show JobAt w' own' i (upd y.jp i p' i) _
          rw [upd_same]; exact hj hl
      · rw [if_neg hl] at ht'; cases ht'
    · rw [if_neg e] at ht'
      obtain ⟨a, b, c⟩ := h.task j t ht'
      refine ⟨old a, ?_, ?_⟩
      · show w'.heap[y.tp j]? = some (.cells #[_, _, _, _, jobV (upd y.jp i p' j) _, _, _] _ _)
        rw [upd_ne _ _ (fun x => e x.symm)]
        exact hf.blk b (ne a (by simp; exact fun x => e x.symm) (by simp))
      · show JobAt w' own' j (upd y.jp i p' j) _
        rw [upd_ne _ _ (fun x => e x.symm)]
        exact c.fr hf hs (fun _ x => ne x (by simp) (by simp; exact fun x => e x.symm))
theorem upd_self {α : Type} (f : Nat → α) (i : Nat) : upd f i (f i) = f := by
  funext k
  unfold upd
  split
  · rename_i e; rw [e]
  · rfl
/-- Its job's block alone has turned. -/
theorem CpuAt.job_upd {w w' : World} {y : Lay} {M : CpuM} (h : CpuAt w y M) {i : Nat} {t : TaskM} {j j' : JobM} (ht : M.tasks[i]? = some t) (hj : t.job = some j) (hf : Fr (fun k => k = y.jp i) w w')
    (hb : w'.heap[y.jp i]? = some (.cells #[.int .u64 j'.demand, .int .u64 j'.ran, .int .u64 j'.dead, .bool j'.missed] 88 (0, 0))) :
    CpuAt w' y { M with tasks := M.tasks.set i { t with job := some j' } } := by
  obtain ⟨ho, hblk, hja⟩ := h.task i t ht
  rw [hj] at hja hblk
  obtain ⟨hjo, hjb⟩ := hja
  have hs : Same w w' y.own y.own := ⟨fun _ _ => rfl, fun b hb => Nat.lt_of_lt_of_le (h.lt b hb) hf.size⟩
  have hne : y.tp i ≠ y.jp i := by intro e; rw [e, hjo] at ho; simp at ho
  have := h.task_upd (i := i) (p' := y.jp i) (t' := { t with job := some j' }) (own' := y.own) (hf.mono (fun b _ e => by subst e; exact .inr hjo)) hs (fun _ => hf.blk hblk hne) (fun _ => ⟨hjo, hb⟩)
  rw [upd_self] at this
  exact this

/-- Who has missed its time: the tasks behind it, and their numbers, from i on. -/
def TaskM.isLate (t : TaskM) (now : Nat) : Bool := match t.job with | some j => !j.missed && decide (j.dead ≤ now) | none => false
def TaskM.late (t : TaskM) (now : Nat) : TaskM := if t.isLate now then { t with job := t.job.map (fun j => { j with missed := true }) } else t
def lateIds (now : Nat) (T : List TaskM) : Nat → List Int
  | 0 => []
  | k + 1 => lateIds now T k ++ match T[k]? with | some t => if t.isLate now then [(k : Int)] else [] | none => []
theorem lateIds_len (now : Nat) (T : List TaskM) (k : Nat) : (lateIds now T k).length ≤ k := by
  induction k with
  | zero => exact Nat.le_refl _
  | succ k ih =>
    rw [lateIds, List.length_append]
    have : ∀ o : Option TaskM, (match o with | some t => if t.isLate now then [(k : Int)] else [] | none => []).length ≤ 1 := by
      intro o; cases o with
      | none => simp
      | some t => simp only; split <;> simp
    have := this T[k]?
    omega
/-- The first k turned. -/
def lateT (now : Nat) (T : List TaskM) (k : Nat) : List TaskM := (T.take k).map (fun t => t.late now) ++ T.drop k
theorem lateT_zero (now : Nat) (T : List TaskM) : lateT now T 0 = T := rfl
theorem lateT_all (now : Nat) (T : List TaskM) : lateT now T T.length = T.map (fun t => t.late now) := by simp [lateT]
theorem lateT_len (now : Nat) (T : List TaskM) (k : Nat) : (lateT now T k).length = T.length := by simp [lateT]; omega
theorem lateT_get {now : Nat} {T : List TaskM} {k : Nat} {t : TaskM} (h : T[k]? = some t) : (lateT now T k)[k]? = some t := by
  have hk := (List.getElem?_eq_some_iff.1 h).1
  unfold lateT
  rw [List.getElem?_append_right (by rw [List.length_map, List.length_take]; omega)]
  simp only [List.length_map, List.length_take, Nat.min_eq_left (Nat.le_of_lt hk), Nat.sub_self, List.getElem?_drop, Nat.add_zero]
  exact h
theorem lateT_next {now : Nat} {T : List TaskM} {k : Nat} {t : TaskM} (h : T[k]? = some t) : lateT now T (k + 1) = (lateT now T k).set k (t.late now) := by
  obtain ⟨hk, e⟩ := List.getElem?_eq_some_iff.1 h
  unfold lateT
  rw [List.take_succ_eq_append_getElem hk, e, List.map_append, List.append_assoc]
  rw [List.set_append_right _ _ (by rw [List.length_map, List.length_take]; omega)]
  simp only [List.length_map, List.length_take, Nat.min_eq_left (Nat.le_of_lt hk), Nat.sub_self]
  rw [List.drop_eq_getElem_cons hk]
  rfl

end Go.Proofs.Ytbedknfapiadbaa
