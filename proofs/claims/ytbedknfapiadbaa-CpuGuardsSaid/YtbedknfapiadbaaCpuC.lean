/-
  The processor, as it lies in memory: every block has one owner; the walks of Now, is, Work and Wake.
-/
import Derived.Test.YtbedknfapiadbaaCpuB
import Derived.Test.YtbedknfapiadbaaReadyD
namespace Go.Proofs.Ytbedknfapiadbaa
open Go.RowKit

structure JobM where
  demand : Nat
  ran : Nat
  dead : Nat
  missed : Bool
structure TaskM where
  wk : WorkM
  job : Option JobM
  begun : Bool
  last : Nat
structure SrvM where
  bud : BudM
  work : Nat
structure CpuM where
  tasks : List TaskM
  servers : List SrvM
  rows : Nat → List Int
  now : Nat

/-- Whose a block is. -/
inductive Own where
  | cpu | tarr | task (i : Nat) | job (i : Nat) | sarr | srv (i : Nat) | bud (i : Nat) | queue
deriving DecidableEq
/-- Where everything lies. -/
structure Lay where
  c : Nat
  q : Nat
  ta : Option Addr
  tc : Nat
  sa : Option Addr
  sc : Nat
  tp : Nat → Nat
  jp : Nat → Nat
  sp : Nat → Nat
  bp : Nat → Nat
  own : Nat → Option Own

def jobV (p : Nat) : Option JobM → Value
  | none => .pointer none
  | some _ => .pointer (some ⟨p, 0, none⟩)
/-- A row of pointers. -/
def PRow (w : World) (own : Nat → Option Own) (x : Own) (a : Option Addr) (c n : Nat) (f : Nat → Nat) : Prop :=
  (a = none ∧ n = 0 ∧ c = 0) ∨ ∃ g, a = some ⟨g, 0, none⟩ ∧ own g = some x ∧ n ≤ c ∧ c ≤ 9223372036854775807 ∧ ∀ i, i < n → w.cell? ⟨g, i, none⟩ = some (.pointer (some ⟨f i, 0, none⟩))
def JobAt (w : World) (own : Nat → Option Own) (i p : Nat) : Option JobM → Prop
  | none => True
  | some j => own p = some (.job i) ∧ w.heap[p]? = some (.cells #[.int .u64 j.demand, .int .u64 j.ran, .int .u64 j.dead, .bool j.missed] 88 (0, 0))
structure CpuAt (w : World) (y : Lay) (M : CpuM) : Prop where
  lt : ∀ k, y.own k ≠ none → k < w.heap.size
  cpu : y.own y.c = some .cpu ∧ w.heap[y.c]? = some (.cells #[.slice y.ta M.tasks.length y.tc, .slice y.sa M.servers.length y.sc, .pointer (some ⟨y.q, 0, none⟩), .int .u64 M.now] 68 (0, 0))
  tarr : PRow w y.own .tarr y.ta y.tc M.tasks.length y.tp
  sarr : PRow w y.own .sarr y.sa y.sc M.servers.length y.sp
  task : ∀ (i : Nat) (t : TaskM), M.tasks[i]? = some t → y.own (y.tp i) = some (.task i) ∧
    w.heap[y.tp i]? = some (.cells #[.int .i64 t.wk.prio, .int .u64 t.wk.cost, .int .u64 t.wk.period, .int .u64 t.wk.dead, jobV (y.jp i) t.job, .bool t.begun, .int .u64 t.last] 72 (0, 0)) ∧ JobAt w y.own i (y.jp i) t.job
  srv : ∀ (i : Nat) (s : SrvM), M.servers[i]? = some s → y.own (y.sp i) = some (.srv i) ∧
    w.heap[y.sp i]? = some (.cells #[.pointer (some ⟨y.bp i, 0, none⟩), .int .u64 s.work] 78 (0, 0)) ∧ BudAt w (y.bp i) s.bud (fun k => y.own k = some (.bud i)) false
  queue : QRep w y.q M.rows (fun k => y.own k = some .queue)

/-- Of the blocks that were there: the same owner; of the new ones: whoever. -/
def Same (w w' : World) (own own' : Nat → Option Own) : Prop := (∀ k, k < w.heap.size → own' k = own k) ∧ ∀ k, own' k ≠ none → k < w'.heap.size

theorem PRow.fr {w w' : World} {own own' : Nat → Option Own} {x : Own} {a : Option Addr} {c n : Nat} {f : Nat → Nat} {F : Nat → Prop} (h : PRow w own x a c n f) (hl : ∀ k, own k ≠ none → k < w.heap.size) (hf : Fr F w w') (hs : Same w w' own own') (hF : ∀ k, own k = some x → ¬ F k) : PRow w' own' x a c n f := by
  rcases h with h | ⟨g, e, ho, h1, h2, h3⟩
  · exact .inl h
  · have hg := hl g (by rw [ho]; simp)
    exact .inr ⟨g, e, (hs.1 g hg).trans ho, h1, h2, fun i hi => (hf.cell (p := ⟨g, i, none⟩) hg (hF g ho)).trans (h3 i hi)⟩
theorem JobAt.fr {w w' : World} {own own' : Nat → Option Own} {i p : Nat} {j : Option JobM} {F : Nat → Prop} (h : JobAt w own i p j) (hf : Fr F w w') (hs : Same w w' own own') (hF : ∀ k, own k = some (.job i) → ¬ F k) : JobAt w' own' i p j := by
  cases j with
  | none => trivial
  | some j => exact ⟨(hs.1 p (lt_blk h.2)).trans h.1, hf.blk h.2 (hF p h.1)⟩
theorem BudAt.own {w w' : World} {own own' : Nat → Option Own} {i p : Nat} {b : BudM} {f : Bool} {F : Nat → Prop} (h : BudAt w p b (fun k => own k = some (.bud i)) f) (hf : Fr F w w') (hs : Same w w' own own') (hF : ∀ k, own k = some (.bud i) → ¬ F k) : BudAt w' p b (fun k => own' k = some (.bud i)) f :=
  (h.fr hf hF).mono (fun k hk => (hs.1 k (h.lt k hk)).trans hk) (fun k (hk : own' k = _) => hs.2 k (by rw [hk]; simp))
theorem QRep.mono {w : World} {q : Nat} {r : Nat → List Int} {F G : Nat → Prop} (h : QRep w q r F) (hG : ∀ k, F k → G k) (hl : ∀ k, G k → k < w.heap.size) : QRep w q r G := by
  obtain ⟨hm, _, vs, hs, hb, hr, hd⟩ := h
  exact ⟨hG q hm, hl, vs, hs, hb, fun i hi => ⟨(hr i hi).1, fun g hg => ⟨hG g ((hr i hi).2 g hg).1, ((hr i hi).2 g hg).2⟩⟩, hd⟩
theorem QRep.own {w w' : World} {own own' : Nat → Option Own} {q : Nat} {r : Nat → List Int} {F : Nat → Prop} (h : QRep w q r (fun k => own k = some .queue)) (hf : Fr F w w') (hs : Same w w' own own') (hF : ∀ k, own k = some .queue → ¬ F k) : QRep w' q r (fun k => own' k = some .queue) :=
  (h.fr hf hF).mono (fun k hk => (hs.1 k (h.lt k hk)).trans hk) (fun k (hk : own' k = _) => hs.2 k (by rw [hk]; simp))

/-- Nothing of it was touched. -/
theorem CpuAt.fr {w w' : World} {y : Lay} {M : CpuM} {F : Nat → Prop} (h : CpuAt w y M) (hf : Fr F w w') (hF : ∀ k, y.own k ≠ none → ¬ F k) : CpuAt w' y M := by
  have hs : Same w w' y.own y.own := ⟨fun _ _ => rfl, fun k hk => Nat.lt_of_lt_of_le (h.lt k hk) hf.size⟩
  have ne : ∀ {k : Nat} {x : Own}, y.own k = some x → ¬ F k := fun e => hF _ (by rw [e]; simp)
  exact ⟨hs.2, ⟨h.cpu.1, hf.blk h.cpu.2 (ne h.cpu.1)⟩, h.tarr.fr h.lt hf hs (fun _ e => ne e), h.sarr.fr h.lt hf hs (fun _ e => ne e),
    fun i t ht => ⟨(h.task i t ht).1, hf.blk (h.task i t ht).2.1 (ne (h.task i t ht).1), (h.task i t ht).2.2.fr hf hs (fun _ e => ne e)⟩,
    fun i s hs' => ⟨(h.srv i s hs').1, hf.blk (h.srv i s hs').2.1 (ne (h.srv i s hs').1), (h.srv i s hs').2.2.own hf hs (fun _ e => ne e)⟩, h.queue.own hf hs (fun _ e => ne e)⟩
theorem CpuAt.later {w w' : World} {y : Lay} {M : CpuM} (h : CpuAt w y M) (hb : Below w.heap.size w w') : CpuAt w' y M := h.fr (Fr.of_below (F := fun _ => False) hb) (fun _ _ h => h)

/-- Server i has turned. -/
theorem CpuAt.srv_upd {w w' : World} {y : Lay} {M : CpuM} (h : CpuAt w y M) {i : Nat} {s' : SrvM} {own' : Nat → Option Own} (hf : Fr (fun k => y.own k = some (.srv i) ∨ y.own k = some (.bud i)) w w') (hs : Same w w' y.own own')
    (hb : i < M.servers.length → w'.heap[y.sp i]? = some (.cells #[.pointer (some ⟨y.bp i, 0, none⟩), .int .u64 s'.work] 78 (0, 0))) (hu : i < M.servers.length → BudAt w' (y.bp i) s'.bud (fun k => own' k = some (.bud i)) false) :
    CpuAt w' { y with own := own' } { M with servers := M.servers.set i s' } := by
  have ne : ∀ {k : Nat} {x : Own}, y.own k = some x → x ≠ .srv i → x ≠ .bud i → ¬ (y.own k = some (.srv i) ∨ y.own k = some (.bud i)) := by
    intro k x e h1 h2 h3
    rw [e] at h3
    rcases h3 with h3 | h3 <;> simp at h3
    · exact h1 h3
    · exact h2 h3
  have old : ∀ {k : Nat} {x : Own}, y.own k = some x → own' k = some x := fun e => (hs.1 _ (h.lt _ (by rw [e]; simp))).trans e
  refine ⟨hs.2, ⟨old h.cpu.1, ?_⟩, h.tarr.fr h.lt hf hs (fun _ e => ne e (by simp) (by simp)), ?_, fun j t ht => ⟨old (h.task j t ht).1, hf.blk (h.task j t ht).2.1 (ne (h.task j t ht).1 (by simp) (by simp)), (h.task j t ht).2.2.fr hf hs (fun _ e => ne e (by simp) (by simp))⟩, fun j s hj => ?_, h.queue.own hf hs (fun _ e => ne e (by simp) (by simp))⟩
  · show _ = some (Obj.cells #[_, .slice y.sa (M.servers.set i s').length y.sc, _, _] _ _)
    rw [List.length_set]
    exact hf.blk h.cpu.2 (ne h.cpu.1 (by simp) (by simp))
  · show PRow _ _ _ _ _ (M.servers.set i s').length _
    rw [List.length_set]
    exact h.sarr.fr h.lt hf hs (fun _ e => ne e (by simp) (by simp))
  · have hj' : (M.servers.set i s')[j]? = some s := hj
    rw [List.getElem?_set] at hj'
    by_cases e : i = j
    · subst e
      rw [if_pos rfl] at hj'
      by_cases hl : i < M.servers.length
      · rw [if_pos hl] at hj'
        simp only [Option.some.injEq] at hj'
        subst hj'
        obtain ⟨s0, hs0⟩ : ∃ s0, M.servers[i]? = some s0 := ⟨M.servers[i], by simp [hl]⟩
        exact ⟨old (h.srv i s0 hs0).1, hb hl, hu hl⟩
      · rw [if_neg hl] at hj'; cases hj'
    · rw [if_neg e] at hj'
      obtain ⟨a, b, c⟩ := h.srv j s hj'
      exact ⟨old a, hf.blk b (ne a (by simp; exact fun x => e x.symm) (by simp)), c.own hf hs (fun _ x => ne x (by simp) (by simp; exact fun x => e x.symm))⟩

/-- What a call leaves of a processor. -/
def CPost (w : World) (y : Lay) (M' : CpuM) (w' : World) : Prop := ∃ y', y'.c = y.c ∧ CpuAt w' y' M' ∧ Fr (fun k => y.own k ≠ none) w w' ∧ Same w w' y.own y'.own
theorem CPost.refl {w : World} {y : Lay} {M : CpuM} (h : CpuAt w y M) : CPost w y M w := ⟨y, rfl, h, Fr.refl _ _, fun _ _ => rfl, h.lt⟩

end Go.Proofs.Ytbedknfapiadbaa
