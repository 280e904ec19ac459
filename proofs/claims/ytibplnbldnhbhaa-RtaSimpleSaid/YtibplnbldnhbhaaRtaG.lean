/-
  The walks of 'slices.Clone' at tasks and of 'Admit'.
-/
import Derived.Test.YtibplnbldnhbhaaRtaF
namespace Go.Proofs.Ytibplnbldnhbhaa
open Go.RowKit

/-- Tasks as cells. -/
def wcells (ts : List WorkM) : List Value := ts.flatMap (fun t => [.int .i64 t.prio, .int .u64 t.cost, .int .u64 t.period, .int .u64 t.dead])
theorem wcells_len (ts : List WorkM) : (wcells ts).length = ts.length * 4 := by
  induction ts with
  | nil => rfl
  | cons t ts ih =>
    have : wcells (t :: ts) = [.int .i64 t.prio, .int .u64 t.cost, .int .u64 t.period, .int .u64 t.dead] ++ wcells ts := rfl
    rw [this, List.length_append, ih]
    simp
    omega
theorem wcells_get {ts : List WorkM} : ∀ {i : Nat}, i < ts.length → (wcells ts)[i * 4]? = some (.int .i64 (wk ts i).prio) ∧ (wcells ts)[i * 4 + 1]? = some (.int .u64 (wk ts i).cost) ∧
    (wcells ts)[i * 4 + 2]? = some (.int .u64 (wk ts i).period) ∧ (wcells ts)[i * 4 + 3]? = some (.int .u64 (wk ts i).dead) := by
  induction ts with
  | nil => intro i hi; simp at hi
  | cons t ts ih =>
    intro i hi
    have e : wcells (t :: ts) = [.int .i64 t.prio, .int .u64 t.cost, .int .u64 t.period, .int .u64 t.dead] ++ wcells ts := rfl
    cases i with
    | zero => rw [e]; exact ⟨rfl, rfl, rfl, rfl⟩
    | succ i =>
      obtain ⟨a, b, c, d⟩ := ih (i := i) (by simpa using hi)
      have hw : wk (t :: ts) (i + 1) = wk ts i := by simp [wk, List.getD]
      rw [hw, e]
      have sh : ∀ j, ([.int .i64 t.prio, .int .u64 t.cost, .int .u64 t.period, .int .u64 t.dead] ++ wcells ts)[(i + 1) * 4 + j]? = (wcells ts)[i * 4 + j]? := by
        intro j
        rw [List.getElem?_append_right (by simp; omega)]
        congr 1
        simp
        omega
      exact ⟨(sh 0).trans a, (sh 1).trans b, (sh 2).trans c, (sh 3).trans d⟩
theorem wcells_snoc (ts : List WorkM) (t : WorkM) : wcells (ts ++ [t]) = wcells ts ++ [.int .i64 t.prio, .int .u64 t.cost, .int .u64 t.period, .int .u64 t.dead] := by
  simp [wcells]
theorem TasksAt.cells {w : World} {b off : Nat} {ts : List WorkM} (h : ∀ i, i < ts.length →
    w.cell? ⟨b, off + i * 4, none⟩ = some (.int .i64 (wk ts i).prio) ∧ w.cell? ⟨b, off + i * 4 + 1, none⟩ = some (.int .u64 (wk ts i).cost) ∧
    w.cell? ⟨b, off + i * 4 + 2, none⟩ = some (.int .u64 (wk ts i).period) ∧ w.cell? ⟨b, off + i * 4 + 3, none⟩ = some (.int .u64 (wk ts i).dead)) :
    ∀ j u, (wcells ts)[j]? = some u → w.cell? ⟨b, off + j, none⟩ = some u := by
  intro j u hu
  have hj : j < ts.length * 4 := by have := (List.getElem?_eq_some_iff.1 hu).1; rwa [wcells_len] at this
  obtain ⟨i, r, hr, rfl⟩ : ∃ i r, r < 4 ∧ j = i * 4 + r := ⟨j / 4, j % 4, by omega, by omega⟩
  have hi : i < ts.length := by omega
  obtain ⟨a, b', c, d⟩ := wcells_get hi
  obtain ⟨a', b'', c', d'⟩ := h i hi
  match r, hr with
  | 0, _ => rw [Nat.add_zero] at hu ⊢; rw [a] at hu; rw [← hu]; exact a'
  | 1, _ => rw [b'] at hu; rw [← hu]; exact b''
  | 2, _ => rw [c] at hu; rw [← hu]; exact c'
  | 3, _ => rw [d] at hu; rw [← hu]; exact d'
theorem TasksAt.of_owns {w : World} {base : Nat} {ao : Option Addr} {cap : Nat} {ts : List WorkM} {e : TypeId} (h : w.ownsRow base e 4 (.slice ao ts.length cap) ts.length (wcells ts)) (hn : ts.length ≤ 9223372036854775807) : TasksAt w ao ts := by
  refine ⟨hn, fun h0 => ?_⟩
  have hr := RowAt.of_owns h
  rcases hr.2 with ⟨_, h1⟩ | ⟨b, off, cap', hv, _, _, _, hb, hc⟩
  · omega
  · injection hv with e1 _ _
    refine ⟨b, off, e1, hb, fun i hi => ?_⟩
    obtain ⟨c0, c1, c2, c3⟩ := wcells_get hi
    exact ⟨hc _ _ c0, hc _ _ c1, hc _ _ c2, hc _ _ c3⟩
theorem wcells_one {ts : List WorkM} : ∀ u ∈ wcells ts, u.oneCell' = true := by
  intro u hu
  obtain ⟨t, _, h⟩ := List.mem_flatMap.1 hu
  simp at h
  rcases h with rfl | rfl | rfl | rfl <;> rfl

theorem Try.infoWork : (Try.prog.info? 26).map (fun i => (i.zero, i.size, i.bytes)) = some (some (.agg #[.int .i64 0, .int .u64 0, .int .u64 0, .int .u64 0]), 4, 32) := by kernel_rfl

set_option maxHeartbeats 2000000 in
theorem clone_any (ao : Option Addr) (cap : Nat) (ts : List WorkM) (w : World) (h : TasksAt w ao ts) (hl : ts.length ≤ 1000000) :
    Calls Try.prog 26 #[.slice ao ts.length cap] w fun e w' => ∃ v, e = .returned v ∧ w'.ownsRow w.heap.size 26 4 v ts.length (wcells ts) ∧ Below w.heap.size w w' := by
  have H := Lib.hid h
  obtain ⟨i0, hi, hz0, hz1, hz2⟩ := info_parts Try.infoWork
  have hnil := fun (w : World) (a : Option Addr) (n c : Nat) => Lib.run_eql_slice_nil (P := Try.prog) w 22 26 a n c 0 0 Try.underlying22
  clear h
  cases ao with
  | none =>
    have h0 : ts.length = 0 := by
      rcases Nat.eq_zero_or_pos ts.length with h | h
      · exact h
      · obtain ⟨b, off, e, _⟩ := H.out.2 h
        simp at e
    have h1 : ts = [] := List.length_eq_zero_iff.1 h0
    subst h1
    go_enter Try.func26, Try.ntmps26
    go_wp2
    go_ret
    exact ⟨_, rfl, World.ownsRow_nil _ _ _ _, Below.refl _ _⟩
  | some a =>
    obtain ⟨ab, aof, asp⟩ := a
    have hnews : ∀ j u, (wcells ts)[j]? = some u → (w.alloc (.cells #[] 26)).cell? ((⟨ab, aof, asp⟩ : Addr).add j) = some u := by
      intro j u hu
      have hj : j < ts.length * 4 := by have := (List.getElem?_eq_some_iff.1 hu).1; rwa [wcells_len] at this
      obtain ⟨b, off, e, hb, hc⟩ := H.out.2 (by omega)
      simp only [Option.some.injEq] at e
      rw [e, show (⟨b, off, none⟩ : Addr).add j = ⟨b, off + j, none⟩ from by unfold Addr.add; split; (rename_i h; subst h; rfl); rfl]
      rw [World.cell?_alloc_past _ _ _ hb]
      exact TasksAt.cells hc j u hu
    have HN := Lib.hid hnews
    clear hnews
    go_enter Try.func26, Try.ntmps26
    go_wp2_with (at_builtin; refine wpList_append_own _ rfl (.tmp 5) (.tmp 6) 22 rfl w.heap.size 26 i0 (.agg #[.int .i64 0, .int .u64 0, .int .u64 0, .int .u64 0]) 4 32 Try.underlying22 hi hz0 hz1 hz2 rfl (by decide) (.slice (some ⟨w.heap.size, 0, none⟩) 0 0) 0 [] rfl (World.ownsRow_made _ _ _ (Nat.le_refl _) (Nat.zero_le _) rfl) ⟨ab, aof, asp⟩ ts.length cap (wcells ts) rfl (wcells_len ts) HN.out wcells_one ?b1 ?b2 (by simp) ?next)
    case b1 => unfold maxLen; omega
    case b2 => omega
    case next =>
      intro v' w1 hown hgr _
      go_wp2
      go_ret
      exact ⟨_, rfl, by simpa using hown, ((Below.refl _ _).alloc (Nat.le_refl _) _).grown hgr (by simp) (fun k e => by simp [Value.ownBlock] at e; omega)⟩

theorem All_len (ao : Option Addr) (cap n : Nat) (ts : List WorkM) (hn : ts.length = n) (bo : Option Addr) (cap2 : Nat) (ls : List ServM) (w : World) (h : TasksAt w ao ts) (h2 : LoadsAt w bo ls) :
    Calls Try.prog 18 #[.slice ao n cap, .slice bo ls.length cap2] w fun e w' => e = .returned (.bool (allM ts ls)) ∧ Below w.heap.size w w' := by
  subst hn
  exact All_any ao cap ts bo cap2 ls w h h2

/-- What 'Clone' leaves, the value written out. -/
theorem clone_lies (ao : Option Addr) (cap : Nat) (ts : List WorkM) (w : World) (h : TasksAt w ao ts) (hl : ts.length ≤ 1000000) :
    Calls Try.prog 26 #[.slice ao ts.length cap] w fun e w' => ∃ a1 c1, e = .returned (.slice a1 ts.length c1) ∧ w'.ownsRow 0 26 4 (.slice a1 ts.length c1) ts.length (wcells ts) ∧ Below w.heap.size w w' ∧
      ∀ k, (Value.slice a1 ts.length c1).ownBlock = some k → w.heap.size ≤ k := by
  refine (clone_any ao cap ts w h hl).mono ?_
  rintro e w' ⟨v, rfl, ho, hb⟩
  obtain ⟨a1, c1, rfl⟩ := ownsRow_slice ho
  exact ⟨a1, c1, rfl, ownsRow_mono ho (Nat.zero_le _), hb, fun k e => (ownsRow_lt ho e).1⟩

theorem admit_end {w W w1 w2 w3 : World} {a1 : Option Addr} {n c1 g c3 : Nat} {ts : List WorkM} {t : WorkM} {row : Option Nat} (hn : ts.length ≤ 1000000) (hW : Below w.heap.size w W) (h1 : Below W.heap.size W w1) (h2 : Below w1.heap.size w1 w2) (hrow : row = (Value.slice a1 n c1).ownBlock) (hob : ∀ k, (Value.slice a1 n c1).ownBlock = some k → W.heap.size ≤ k)
    (hg : w2.grownBy w3 row) (ho : w3.ownsRow 0 26 4 (.slice (some ⟨g, 0, none⟩) (ts.length + 1) c3) (ts.length + 1) (wcells ts ++ [.int .i64 t.prio, .int .u64 t.cost, .int .u64 t.period, .int .u64 t.dead])) :
    TasksAt w3 (some ⟨g, 0, none⟩) (ts ++ [t]) ∧ Below w.heap.size w w3 := by
  constructor
  · rw [← wcells_snoc, show ts.length + 1 = (ts ++ [t]).length from by simp] at ho
    exact TasksAt.of_owns ho (by simp; omega)
  · subst hrow
    have h12 : Below w.heap.size w w2 := hW.trans ((h1.mono hW.size).trans (h2.mono (Nat.le_trans hW.size h1.size)))
    exact h12.grown hg h12.size (fun k e => Nat.le_trans hW.size (hob k e))

set_option maxHeartbeats 4000000 in
theorem admit_any (ao : Option Addr) (cap : Nat) (ts : List WorkM) (bo : Option Addr) (cap2 : Nat) (ls : List ServM) (t : WorkM) (w : World) (h : TasksAt w ao ts) (h2 : LoadsAt w bo ls) (hl : ts.length ≤ 1000000) :
    Calls Try.prog 17 #[.slice ao ts.length cap, .slice bo ls.length cap2, workV t] w fun e w' => e = .returned (.bool (allM (ts ++ [t]) ls)) ∧ Below w.heap.size w w' := by
  have H := Lib.hid h
  have H2 := Lib.hid h2
  have HL := Lib.hid hl
  obtain ⟨i0, hi, hz0, hz1, hz2⟩ := info_parts Try.infoWork
  have HBW1 : Hid (Below w.heap.size w (w.alloc (.cells #[.int .i64 t.prio, .int .u64 t.cost, .int .u64 t.period, .int .u64 t.dead] 26)).drew) := ((Below.refl _ _).alloc (Nat.le_refl _) _).drew
  have HBW2 : Hid (Below w.heap.size w ((w.alloc (.cells #[.int .i64 t.prio, .int .u64 t.cost, .int .u64 t.period, .int .u64 t.dead] 26)).alloc (.cells #[.int .i64 t.prio, .int .u64 t.cost, .int .u64 t.period, .int .u64 t.dead] 26)).drew) := (((Below.refl _ _).alloc (Nat.le_refl _) _).alloc (by simp) _).drew
  have HBK : Hid (((w.alloc (.cells #[.int .i64 t.prio, .int .u64 t.cost, .int .u64 t.period, .int .u64 t.dead] 26)).alloc (.cells #[.int .i64 t.prio, .int .u64 t.cost, .int .u64 t.period, .int .u64 t.dead] 26)).drew.heap[w.heap.size + 1]? = some (.cells #[.int .i64 t.prio, .int .u64 t.cost, .int .u64 t.period, .int .u64 t.dead] 26 (0, 0))) := by
    have := blk_new (w.alloc (.cells #[.int .i64 t.prio, .int .u64 t.cost, .int .u64 t.period, .int .u64 t.dead] 26)) (.cells #[.int .i64 t.prio, .int .u64 t.cost, .int .u64 t.period, .int .u64 t.dead] 26)
    rw [show (w.alloc (.cells #[.int .i64 t.prio, .int .u64 t.cost, .int .u64 t.period, .int .u64 t.dead] 26)).heap.size = w.heap.size + 1 from by simp] at this
    exact this
  clear h h2
  go_enter Try.func17, Try.ntmps17
  go_wp2
  go_region_law (first
    | (go_simp; go_at_call 26; refine (clone_lies ao cap ts _ (H.out.later HBW1.out) HL.out).mono ?_; rintro e w1 ⟨a1, c1, rfl, ho1, hb1, hob1⟩; have HO1 := Lib.hid ho1; have HB1 := Lib.hid hb1; have HOB := Lib.hid hob1; have k0 := hb1.cell (p := ⟨w.heap.size, 0, none⟩) (by simp); have k1 := hb1.cell (p := ⟨w.heap.size, 1, none⟩) (by simp); have k2 := hb1.cell (p := ⟨w.heap.size, 2, none⟩) (by simp); have k3 := hb1.cell (p := ⟨w.heap.size, 3, none⟩) (by simp); clear ho1 hb1 hob1)
    | (go_simp; go_at_call 26; refine (clone_lies ao cap ts _ (H.out.later HBW2.out) HL.out).mono ?_; rintro e w1 ⟨a1, c1, rfl, ho1, hb1, hob1⟩; have HO1 := Lib.hid ho1; have HB1 := Lib.hid hb1; have HOB := Lib.hid hob1; have hblk : Hid (w1.heap[w.heap.size + 1]? = some (.cells #[.int .i64 t.prio, .int .u64 t.cost, .int .u64 t.period, .int .u64 t.dead] 26 (0, 0))) := (hb1.block (w.heap.size + 1) (by simp)).trans HBK.out; clear ho1 hb1 hob1)
    | (refine step_append_lies _ rfl (.tmp 8) (.tmp 10) 22 rfl 0 26 i0 (.agg #[.int .i64 0, .int .u64 0, .int .u64 0, .int .u64 0]) 4 32 Try.underlying22 hi hz0 hz1 hz2 rfl (by decide) (.slice a1 ts.length c1) ts.length (wcells ts) (by simp [Act.eval]) (HO1.out.alloc _) ⟨w1.heap.size, 0, none⟩ 1 1 [.int .i64 t.prio, .int .u64 t.cost, .int .u64 t.period, .int .u64 t.dead] (by simp [Act.eval]) rfl (World.news_of_block (cs := #[.int .i64 t.prio, .int .u64 t.cost, .int .u64 t.period, .int .u64 t.dead]) (blk_new _ _)) (by simp [Value.oneCell']) (by omega) (by unfold maxLen; omega) (by omega) (Nat.zero_le _) _ rfl ?_; intro g c3 w3 ho3 hg3 _ _; have HE := Lib.hid (admit_end (t := t) HL.out HBW1.out HB1.out ((Below.refl _ _).alloc (Nat.le_refl _) _) rfl HOB.out hg3 ho3); clear ho3 hg3)
    | (refine step_append_lies _ rfl (.tmp 8) (.tmp 10) 22 rfl 0 26 i0 (.agg #[.int .i64 0, .int .u64 0, .int .u64 0, .int .u64 0]) 4 32 Try.underlying22 hi hz0 hz1 hz2 rfl (by decide) (.slice a1 ts.length c1) ts.length (wcells ts) (by simp [Act.eval]) HO1.out ⟨w.heap.size + 1, 0, none⟩ 1 1 [.int .i64 t.prio, .int .u64 t.cost, .int .u64 t.period, .int .u64 t.dead] (by simp [Act.eval]) rfl (World.news_of_block (cs := #[.int .i64 t.prio, .int .u64 t.cost, .int .u64 t.period, .int .u64 t.dead]) hblk.out) (by simp [Value.oneCell']) (by omega) (by unfold maxLen; omega) (by omega) (Nat.zero_le _) _ rfl ?_; intro g c3 w3 ho3 hg3 _ _; have HE := Lib.hid (admit_end (t := t) HL.out HBW2.out HB1.out (Below.refl _ _) rfl HOB.out hg3 ho3); clear ho3 hg3)
    | (go_simp; go_at_call 18; refine (All_len _ _ _ (ts ++ [t]) (by simp) bo _ ls _ HE.out.1 (H2.out.later HE.out.2)).mono ?_; rintro e w4 ⟨rfl, hb4⟩))
  all_goals
    go_wp2
    go_ret
    exact ⟨rfl, HE.out.2.trans (hb4.mono HE.out.2.size)⟩

end Go.Proofs.Ytibplnbldnhbhaa
