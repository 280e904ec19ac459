/-
  A processor that gets a task more, or a server more.
-/
import Derived.Test.YtbedknfapiadbaaCpuL
namespace Go.Proofs.Ytbedknfapiadbaa
open Go.RowKit

/-- Pointers as cells. -/
def ptrs (f : Nat → Nat) (n : Nat) : List Value := (List.range n).map (fun i => .pointer (some ⟨f i, 0, none⟩))
theorem ptrs_len (f : Nat → Nat) (n : Nat) : (ptrs f n).length = n := by simp [ptrs]
theorem ptrs_get {f : Nat → Nat} {n i : Nat} (h : i < n) : (ptrs f n)[i]? = some (.pointer (some ⟨f i, 0, none⟩)) := by simp [ptrs, h]
theorem ptrs_snoc (f : Nat → Nat) (n p : Nat) : ptrs (upd f n p) (n + 1) = ptrs f n ++ [.pointer (some ⟨p, 0, none⟩)] := by
  unfold ptrs
  rw [List.range_succ, List.map_append]
  congr 1
  · refine List.map_congr_left (fun i hi => ?_)
    rw [upd_ne _ _ (by have := List.mem_range.1 hi; omega)]
  · simp [upd_same]
theorem PRow.of_owns {w : World} {own : Nat → Option Own} {x : Own} {base : Nat} {e : TypeId} {a : Option Addr} {c n : Nat} {f : Nat → Nat} (h : w.ownsRow base e 1 (.slice a n c) n (ptrs f n)) (hn : 0 < n) (ho : ∀ g, (Value.slice a n c).ownBlock = some g → own g = some x) : PRow w own x a c n f := by
  have hr := RowAt.of_owns h
  rcases h.2 with ⟨_, h0⟩ | ⟨g, cap, cur, hv, _⟩
  · omega
  · injection hv with e1 _ e3
    subst e1
    subst e3
    rcases hr.2 with ⟨_, h0⟩ | ⟨b, off, cap', hv', h1, h2, h3, h4, h5⟩
    · omega
    · injection hv' with e1 _ e3
      injection e1 with e1
      injection e1 with e1 e2
      subst e1
      subst e2
      subst e3
      exact .inr ⟨_, rfl, ho _ rfl, h1, h2, fun i hi => by have := h5 i _ (ptrs_get hi); rwa [Nat.zero_add] at this⟩

def newTask (w : WorkM) : TaskM := ⟨w, none, false, 0⟩
def newSrv (s : ServM) : SrvM := ⟨⟨s, [], 0⟩, 0⟩

/-- A task more. -/
theorem CpuAt.task_add {w w' : World} {y : Lay} {M : CpuM} (h : CpuAt w y M) {base n p c' : Nat} {a' : Option Addr} {t : WorkM} (hn : M.tasks.length = n) (hbase : base ≤ w.heap.size)
    (hrow : w.ownsRow base 69 1 (.slice y.ta n y.tc) n (ptrs y.tp n))
    (hf : Fr (fun b => b = y.c ∨ (Value.slice y.ta n y.tc).ownBlock = some b) w w')
    (hc : w'.heap[y.c]? = some (.cells #[.slice a' (n + 1) c', .slice y.sa M.servers.length y.sc, .pointer (some ⟨y.q, 0, none⟩), .int .u64 M.now] 68 (0, 0)))
    (hrow' : w'.ownsRow base 69 1 (.slice a' (n + 1) c') (n + 1) (ptrs y.tp n ++ [.pointer (some ⟨p, 0, none⟩)]))
    (hat : (Value.slice a' (n + 1) c').ownBlock = (Value.slice y.ta n y.tc).ownBlock ∨ ∃ g, (Value.slice a' (n + 1) c').ownBlock = some g ∧ w.heap.size ≤ g ∧ g ≠ p)
    (hp : w.heap.size ≤ p) (hb : w'.heap[p]? = some (.cells #[.int .i64 t.prio, .int .u64 t.cost, .int .u64 t.period, .int .u64 t.dead, .pointer none, .bool false, .int .u64 (0 : Nat)] 72 (0, 0))) :
    ∃ own', CpuAt w' { y with own := own', ta := a', tc := c', tp := upd y.tp n p } { M with tasks := M.tasks ++ [newTask t] } ∧ Same w w' y.own own' ∧ ∀ b, own' b ≠ none → y.own b ≠ none ∨ w.heap.size ≤ b := by
  subst hn
  let own' : Nat → Option Own := fun b => if b < w.heap.size then y.own b else if b = p then some (.task M.tasks.length) else if (Value.slice a' (M.tasks.length + 1) c').ownBlock = some b then some .tarr else none
  have hlt' := hrow'.lt
  have hs : Same w w' y.own own' := by
    refine ⟨fun b hb => by simp only [own', if_pos hb], fun b hbn => ?_⟩
    by_cases h1 : b < w.heap.size
    · exact Nat.lt_of_lt_of_le h1 hf.size
    · by_cases h2 : b = p
      · subst h2; exact lt_blk hb
      · by_cases h3 : (Value.slice a' (M.tasks.length + 1) c').ownBlock = some b
        · exact (hlt' b h3).2
        · simp only [own', if_neg h1, if_neg h2, if_neg h3] at hbn
          exact absurd rfl hbn
  have rowOwn : ∀ g, (Value.slice y.ta M.tasks.length y.tc).ownBlock = some g → y.own g = some .tarr := by
    intro g hg
    rcases h.tarr with ⟨e, _, _⟩ | ⟨g', e, ho, _⟩
    · rw [e] at hg; simp [Value.ownBlock] at hg
    · rw [e] at hg
      have : g' = g := by simpa [Value.ownBlock] using hg
      rw [← this]; exact ho
  have ne : ∀ {k : Nat} {x : Own}, y.own k = some x → x ≠ .cpu → x ≠ .tarr → ¬ (k = y.c ∨ (Value.slice y.ta M.tasks.length y.tc).ownBlock = some k) := by
    intro k x e h1 h2 h3
    rcases h3 with h3 | h3
    · subst h3; rw [h.cpu.1] at e; simp at e; exact h1 e.symm
    · rw [rowOwn k h3] at e; simp at e; exact h2 e.symm
  have old : ∀ {k : Nat} {x : Own}, y.own k = some x → own' k = some x := fun e => (hs.1 _ (h.lt _ (by rw [e]; simp))).trans e
  refine ⟨own', ⟨hs.2, ⟨old h.cpu.1, ?_⟩, ?_, h.sarr.fr h.lt hf hs (fun _ e => ne e (by simp) (by simp)), fun i t' ht => ?_, fun j s hj => ⟨old (h.srv j s hj).1, hf.blk (h.srv j s hj).2.1 (ne (h.srv j s hj).1 (by simp) (by simp)), (h.srv j s hj).2.2.own hf hs (fun _ e => ne e (by simp) (by simp))⟩, h.queue.own hf hs (fun _ e => ne e (by simp) (by simp))⟩, hs, fun b hbn => ?_⟩
  · show _ = some (Obj.cells #[.slice a' (M.tasks ++ [newTask t]).length c', _, _, _] _ _)
    rw [List.length_append]
    exact hc
  · show PRow w' own' .tarr a' c' (M.tasks ++ [newTask t]).length (upd y.tp M.tasks.length p)
    rw [List.length_append]
    refine PRow.of_owns (base := base) (e := 69) (by rw [show M.tasks.length + [newTask t].length = M.tasks.length + 1 from rfl, ptrs_snoc]; exact hrow') (Nat.succ_pos _) (fun g hg => ?_)
    have hg : (Value.slice a' (M.tasks.length + 1) c').ownBlock = some g := hg
    rcases hat with e | ⟨g', e, h1, h2⟩
    · exact old (rowOwn g (e.symm.trans hg))
    · rw [e] at hg
      simp only [Option.some.injEq] at hg
      subst hg
      simp only [own', if_neg (show ¬ g' < w.heap.size by omega), if_neg h2, if_pos e]
  · have ht : (M.tasks ++ [newTask t])[i]? = some t' := ht
    by_cases hi : i < M.tasks.length
    · rw [List.getElem?_append_left hi] at ht
      obtain ⟨a, b, c⟩ := h.task i t' ht
      refine ⟨?_, ?_, c.fr hf hs (fun _ x => ne x (by simp) (by simp))⟩
      · show own' (upd y.tp M.tasks.length p i) = _
        rw [upd_ne _ _ (by omega)]; exact old a
      · show w'.heap[upd y.tp M.tasks.length p i]? = _
        rw [upd_ne _ _ (by omega)]
        exact hf.blk b (ne a (by simp) (by simp))
    · have hi2 : i < (M.tasks ++ [newTask t]).length := (List.getElem?_eq_some_iff.1 ht).1
      obtain rfl : i = M.tasks.length := by simp at hi2; omega
      rw [List.getElem?_append_right (Nat.le_refl _)] at ht
      simp only [Nat.sub_self, List.getElem?_cons_zero, Option.some.injEq] at ht
      subst ht
      refine ⟨?_, ?_, trivial⟩
      · show own' (upd y.tp M.tasks.length p M.tasks.length) = _
        rw [upd_same]
        simp only [own', if_neg (show ¬ p < w.heap.size by omega), if_true]
      · show w'.heap[upd y.tp M.tasks.length p M.tasks.length]? = _
        rw [upd_same]; exact hb
  · by_cases h1 : b < w.heap.size
    · left
      have := hs.1 b h1
      rw [← this]; exact hbn
    · right; omega

/-- A server more. -/
theorem CpuAt.srv_add {w w' : World} {y : Lay} {M : CpuM} (h : CpuAt w y M) {base n p c' : Nat} {a' : Option Addr} {bb : Nat} {s : ServM} (hn : M.servers.length = n) (hbase : base ≤ w.heap.size)
    (hrow : w.ownsRow base 76 1 (.slice y.sa n y.sc) n (ptrs y.sp n))
    (hf : Fr (fun b => b = y.c ∨ (Value.slice y.sa n y.sc).ownBlock = some b) w w')
    (hc : w'.heap[y.c]? = some (.cells #[.slice y.ta M.tasks.length y.tc, .slice a' (n + 1) c', .pointer (some ⟨y.q, 0, none⟩), .int .u64 M.now] 68 (0, 0)))
    (hrow' : w'.ownsRow base 76 1 (.slice a' (n + 1) c') (n + 1) (ptrs y.sp n ++ [.pointer (some ⟨p, 0, none⟩)]))
    (hat : (Value.slice a' (n + 1) c').ownBlock = (Value.slice y.sa n y.sc).ownBlock ∨ ∃ g, (Value.slice a' (n + 1) c').ownBlock = some g ∧ w.heap.size ≤ g ∧ g ≠ p ∧ g ≠ bb)
    (hp : w.heap.size ≤ p) (hbb : w.heap.size ≤ bb) (hpb : p ≠ bb) (hb : w'.heap[p]? = some (.cells #[.pointer (some ⟨bb, 0, none⟩), .int .u64 (0 : Nat)] 78 (0, 0)))
    (hbu : w'.heap[bb]? = some (.cells #[.int .i64 s.budget, .int .u64 s.period, .slice none 0 0, .int .u64 (0 : Nat)] 94 (0, 0))) :
    ∃ own', CpuAt w' { y with own := own', sa := a', sc := c', sp := upd y.sp n p, bp := upd y.bp n bb } { M with servers := M.servers ++ [newSrv s] } ∧ Same w w' y.own own' ∧ ∀ b, own' b ≠ none → y.own b ≠ none ∨ w.heap.size ≤ b := by
  subst hn
  let own' : Nat → Option Own := fun b => if b < w.heap.size then y.own b else if b = p then some (.srv M.servers.length) else if b = bb then some (.bud M.servers.length) else if (Value.slice a' (M.servers.length + 1) c').ownBlock = some b then some .sarr else none
  have hlt' := hrow'.lt
  have hs : Same w w' y.own own' := by
    refine ⟨fun b hb => by simp only [own', if_pos hb], fun b hbn => ?_⟩
    by_cases h1 : b < w.heap.size
    · exact Nat.lt_of_lt_of_le h1 hf.size
    · by_cases h2 : b = p
      · subst h2; exact lt_blk hb
      · by_cases h4 : b = bb
        · subst h4; exact lt_blk hbu
        · by_cases h3 : (Value.slice a' (M.servers.length + 1) c').ownBlock = some b
          · exact (hlt' b h3).2
          · simp only [own', if_neg h1, if_neg h2, if_neg h3, if_neg h4] at hbn
            exact absurd rfl hbn
  have rowOwn : ∀ g, (Value.slice y.sa M.servers.length y.sc).ownBlock = some g → y.own g = some .sarr := by
    intro g hg
    rcases h.sarr with ⟨e, _, _⟩ | ⟨g', e, ho, _⟩
    · rw [e] at hg; simp [Value.ownBlock] at hg
    · rw [e] at hg
      have : g' = g := by simpa [Value.ownBlock] using hg
      rw [← this]; exact ho
  have ne : ∀ {k : Nat} {x : Own}, y.own k = some x → x ≠ .cpu → x ≠ .sarr → ¬ (k = y.c ∨ (Value.slice y.sa M.servers.length y.sc).ownBlock = some k) := by
    intro k x e h1 h2 h3
    rcases h3 with h3 | h3
    · subst h3; rw [h.cpu.1] at e; simp at e; exact h1 e.symm
    · rw [rowOwn k h3] at e; simp at e; exact h2 e.symm
  have old : ∀ {k : Nat} {x : Own}, y.own k = some x → own' k = some x := fun e => (hs.1 _ (h.lt _ (by rw [e]; simp))).trans e
  refine ⟨own', ⟨hs.2, ⟨old h.cpu.1, ?_⟩, h.tarr.fr h.lt hf hs (fun _ e => ne e (by simp) (by simp)), ?_, fun j t hj => ⟨old (h.task j t hj).1, hf.blk (h.task j t hj).2.1 (ne (h.task j t hj).1 (by simp) (by simp)), (h.task j t hj).2.2.fr hf hs (fun _ e => ne e (by simp) (by simp))⟩, fun i s' ht => ?_, h.queue.own hf hs (fun _ e => ne e (by simp) (by simp))⟩, hs, fun b hbn => ?_⟩
  · show _ = some (Obj.cells #[_, .slice a' (M.servers ++ [newSrv s]).length c', _, _] _ _)
    rw [List.length_append]
    exact hc
  · show PRow w' own' .sarr a' c' (M.servers ++ [newSrv s]).length (upd y.sp M.servers.length p)
    rw [List.length_append]
    refine PRow.of_owns (base := base) (e := 76) (by rw [show M.servers.length + [newSrv s].length = M.servers.length + 1 from rfl, ptrs_snoc]; exact hrow') (Nat.succ_pos _) (fun g hg => ?_)
    have hg : (Value.slice a' (M.servers.length + 1) c').ownBlock = some g := hg
    rcases hat with e | ⟨g', e, h1, h2, h3⟩
    · exact old (rowOwn g (e.symm.trans hg))
    · rw [e] at hg
      simp only [Option.some.injEq] at hg
      subst hg
      simp only [own', if_neg (show ¬ g' < w.heap.size by omega), if_neg h2, if_neg h3, if_pos e]
  · have ht : (M.servers ++ [newSrv s])[i]? = some s' := ht
    by_cases hi : i < M.servers.length
    · rw [List.getElem?_append_left hi] at ht
      obtain ⟨a, b, c⟩ := h.srv i s' ht
      refine ⟨?_, ?_, ?_⟩
      · show own' (upd y.sp M.servers.length p i) = _
        rw [upd_ne _ _ (by omega)]; exact old a
      · show w'.heap[upd y.sp M.servers.length p i]? = some (.cells #[.pointer (some ⟨upd y.bp M.servers.length bb i, 0, none⟩), _] _ _)
        rw [upd_ne _ _ (by omega), upd_ne _ _ (by omega)]
        exact hf.blk b (ne a (by simp) (by simp))
      · show BudAt w' (upd y.bp M.servers.length bb i) _ _ _
        rw [upd_ne _ _ (by omega)]
        exact c.own hf hs (fun _ x => ne x (by simp) (by simp))
    · have hi2 : i < (M.servers ++ [newSrv s]).length := (List.getElem?_eq_some_iff.1 ht).1
      obtain rfl : i = M.servers.length := by simp at hi2; omega
      rw [List.getElem?_append_right (Nat.le_refl _)] at ht
      simp only [Nat.sub_self, List.getElem?_cons_zero, Option.some.injEq] at ht
      subst ht
      refine ⟨?_, ?_, ?_⟩
      · show own' (upd y.sp M.servers.length p M.servers.length) = _
        rw [upd_same]
        simp only [own', if_neg (show ¬ p < w.heap.size by omega), if_true]
      · show w'.heap[upd y.sp M.servers.length p M.servers.length]? = some (.cells #[.pointer (some ⟨upd y.bp M.servers.length bb M.servers.length, 0, none⟩), _] _ _)
        rw [upd_same, upd_same]; exact hb
      · show BudAt w' (upd y.bp M.servers.length bb M.servers.length) _ _ _
        rw [upd_same]
        have hbo : own' bb = some (.bud M.servers.length) := by simp only [own', if_neg (show ¬ bb < w.heap.size by omega), if_neg (fun e : bb = p => hpb e.symm), if_true]
        exact ⟨hbo, fun k (hk : own' k = _) => hs.2 k (by rw [hk]; simp), none, 0, hbu, .inl ⟨rfl, rfl, rfl⟩, fun e => by cases e⟩
  · by_cases h1 : b < w.heap.size
    · left
      have := hs.1 b h1
      rw [← this]; exact hbn
    · right; omega

end Go.Proofs.Ytbedknfapiadbaa
