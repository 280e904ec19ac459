/-
  Tasks and loads in blocks of their own, and as sources of an append.
-/
import Derived.Test.YtibplnbldnhbhaaAppR
import Derived.Test.YtibplnbldnhbhaaRtaI
namespace Go.Proofs.Ytibplnbldnhbhaa
open Go.RowKit

theorem work_of {f : Nat → Int} (h : ∀ (j : Nat) (k : IntKind), ([.i64, .u64, .u64, .u64] : List IntKind)[j]? = some k → (Lit.int k (f j)).wf = true) :
    ∃ a : WorkM, Value.agg ((([.i64, .u64, .u64, .u64] : List IntKind).zipIdx.map (fun x => Value.int x.1 (f x.2))).toArray) = workV a := by
  have u1 := u64_wf (h 1 .u64 rfl)
  have u2 := u64_wf (h 2 .u64 rfl)
  have u3 := u64_wf (h 3 .u64 rfl)
  refine ⟨⟨f 0, (f 1).toNat, (f 2).toNat, (f 3).toNat⟩, ?_⟩
  simp only [workV, Int.toNat_of_nonneg u1, Int.toNat_of_nonneg u2, Int.toNat_of_nonneg u3]
  rfl

theorem undrew {w w' : World} (h : Below w.drew.heap.size w.drew w') : Below w.heap.size w w' := (Below.same_drawn (w := w) 1).trans h

/-- A task in a block of its own. -/
def BX (w : World) (p : Nat) (a : WorkM) : Prop := p < w.heap.size ∧ w.cell? ⟨p, 0, none⟩ = some (.int .i64 a.prio) ∧ w.cell? ⟨p, 1, none⟩ = some (.int .u64 a.cost) ∧
  w.cell? ⟨p, 2, none⟩ = some (.int .u64 a.period) ∧ w.cell? ⟨p, 3, none⟩ = some (.int .u64 a.dead)
theorem BX.later {w w' : World} {p : Nat} {a : WorkM} (h : BX w p a) (hb : Below w.heap.size w w') : BX w' p a := by
  obtain ⟨h0, c0, c1, c2, c3⟩ := h
  exact ⟨Nat.lt_of_lt_of_le h0 hb.size, (hb.cell (p := ⟨p, 0, none⟩) h0).trans c0, (hb.cell (p := ⟨p, 1, none⟩) h0).trans c1, (hb.cell (p := ⟨p, 2, none⟩) h0).trans c2, (hb.cell (p := ⟨p, 3, none⟩) h0).trans c3⟩
abbrev bcells (a : WorkM) : Array Value := #[.int .i64 a.prio, .int .u64 a.cost, .int .u64 a.period, .int .u64 a.dead]
theorem BX.new (w : World) (a : WorkM) (T : TypeId) : BX (w.alloc (.cells (bcells a) T)) w.heap.size a := by
  have h := blk_new w (.cells (bcells a) T)
  exact ⟨lt_blk h, cell_blk h 0, cell_blk h 1, cell_blk h 2, cell_blk h 3⟩

theorem cadd (b off j : Nat) : (⟨b, off, none⟩ : Addr).add j = ⟨b, off + j, none⟩ := by
  unfold Addr.add
  split
  · rename_i h; subst h; rfl
  · rfl
theorem TasksAt.src {w : World} {ao : Option Addr} {ts : List WorkM} (h : TasksAt w ao ts) : SrcAt w ao ts.length (wcells ts) := by
  cases ao with
  | none =>
    have h0 : ts.length = 0 := by
      rcases Nat.eq_zero_or_pos ts.length with h' | h'
      · exact h'
      · obtain ⟨b, off, e, _⟩ := h.2 h'
        simp at e
    have h1 : ts = [] := List.length_eq_zero_iff.1 h0
    subst h1
    exact .inl ⟨rfl, rfl, rfl⟩
  | some a =>
    refine .inr ⟨a, rfl, fun j u hu => ?_⟩
    have hj : j < ts.length * 4 := by have := (List.getElem?_eq_some_iff.1 hu).1; rwa [wcells_len] at this
    obtain ⟨b, off, e, hb, hc⟩ := h.2 (by omega)
    simp only [Option.some.injEq] at e
    rw [e, cadd]
    exact ⟨hb, TasksAt.cells hc j u hu⟩
theorem LoadsAt.src {w : World} {ao : Option Addr} {ls : List ServM} (h : LoadsAt w ao ls) : SrcAt w ao ls.length (lcells ls) := by
  cases ao with
  | none =>
    have h0 : ls.length = 0 := by
      rcases Nat.eq_zero_or_pos ls.length with h' | h'
      · exact h'
      · obtain ⟨b, off, e, _⟩ := h.2 h'
        simp at e
    have h1 : ls = [] := List.length_eq_zero_iff.1 h0
    subst h1
    exact .inl ⟨rfl, rfl, rfl⟩
  | some a =>
    refine .inr ⟨a, rfl, fun j u hu => ?_⟩
    have hj : j < ls.length * 2 := by have := (List.getElem?_eq_some_iff.1 hu).1; rwa [lcells_len] at this
    obtain ⟨b, off, e, hb, hc⟩ := h.2 (by omega)
    simp only [Option.some.injEq] at e
    rw [e, cadd]
    refine ⟨hb, ?_⟩
    obtain ⟨i, r, hr, rfl⟩ : ∃ i r, r < 2 ∧ j = i * 2 + r := ⟨j / 2, j % 2, by omega, by omega⟩
    have hi : i < ls.length := by omega
    obtain ⟨c0, c1⟩ := lcells_get hi
    obtain ⟨d0, d1⟩ := hc i hi
    match r, hr with
    | 0, _ => rw [Nat.add_zero] at hu ⊢; rw [c0] at hu; rw [← hu]; exact d0
    | 1, _ => rw [c1] at hu; rw [← hu]; exact d1
theorem lcells_one {ls : List ServM} : ∀ u ∈ lcells ls, u.oneCell' = true := by
  intro u hu
  obtain ⟨t, _, h⟩ := List.mem_flatMap.1 hu
  simp at h
  rcases h with rfl | rfl <;> rfl
theorem lcells_snoc (ls : List ServM) (t : ServM) : lcells (ls ++ [t]) = lcells ls ++ [.int .i64 t.budget, .int .u64 t.period] := by
  simp [lcells]
theorem LoadsAt.of_owns {w : World} {base : Nat} {ao : Option Addr} {n cap : Nat} {ls : List ServM} {e : TypeId} (hn : ls.length = n) (h : w.ownsRow base e 2 (.slice ao n cap) n (lcells ls)) (hl : n ≤ 9223372036854775807) : LoadsAt w ao ls := by
  subst hn
  refine ⟨hl, fun h0 => ?_⟩
  have hr := RowAt.of_owns h
  rcases hr.2 with ⟨_, h1⟩ | ⟨b, off, cap', hv, _, _, _, hb, hc⟩
  · omega
  · injection hv with e1 _ _
    refine ⟨b, off, e1, hb, fun i hi => ?_⟩
    obtain ⟨c0, c1⟩ := lcells_get hi
    exact ⟨hc _ _ c0, hc _ _ c1⟩
theorem TasksAt.of_own {w : World} {base : Nat} {ao : Option Addr} {n cap : Nat} {ts : List WorkM} {e : TypeId} (hn : ts.length = n) (h : w.ownsRow base e 4 (.slice ao n cap) n (wcells ts)) (hl : n ≤ 9223372036854775807) : TasksAt w ao ts := by
  subst hn
  exact TasksAt.of_owns h hl
theorem Try.infoServ : (Try.prog.info? 28).map (fun i => (i.zero, i.size, i.bytes)) = some (some (.agg #[.int .i64 0, .int .u64 0]), 2, 16) := by kernel_rfl

theorem Admit_x (ao : Option Addr) (cap n : Nat) (ts : List WorkM) (hn : ts.length = n) (bo : Option Addr) (cap2 m : Nat) (ls : List ServM) (hm : ls.length = m) (w : World) (h : TasksAt w ao ts) (h2 : LoadsAt w bo ls) (t : WorkM) (hl : ts.length ≤ 1000000) (v : Bool) (hv : allM (ts ++ [t]) ls = v) :
    Calls Try.prog 17 #[.slice ao n cap, .slice bo m cap2, .agg #[.int .i64 t.prio, .int .u64 t.cost, .int .u64 t.period, .int .u64 t.dead]] w fun e w' => e = .returned (.bool v) ∧ Below w.heap.size w w' := by
  subst hv
  exact Admit_n ao cap n ts hn bo cap2 m ls hm w h h2 t hl
theorem rtaMay_x (t : WorkM) (v : Bool) (hv : t.ok = v) (w : World) : Calls Try.prog 16 #[.agg #[.int .i64 t.prio, .int .u64 t.cost, .int .u64 t.period, .int .u64 t.dead]] w fun e w' => e = .returned (.bool v) ∧ Below w.heap.size w w' := by
  subst hv
  exact rtaMay_any t w
theorem refMay_x (t : WorkM) (v : Bool) (hv : t.ok = v) (w : World) : Calls Try.prog 13 #[.agg #[.int .i64 t.prio, .int .u64 t.cost, .int .u64 t.period, .int .u64 t.dead]] w fun e w' => e = .returned (.bool v) ∧ Below w.heap.size w w' := by
  subst hv
  exact refMay_any t w

theorem All_x (ao : Option Addr) (cap n : Nat) (ts : List WorkM) (hn : ts.length = n) (bo : Option Addr) (cap2 m : Nat) (ls : List ServM) (hm : ls.length = m) (w : World) (h : TasksAt w ao ts) (h2 : LoadsAt w bo ls) (v : Bool) (hv : allM ts ls = v) :
    Calls Try.prog 18 #[.slice ao n cap, .slice bo m cap2] w fun e w' => e = .returned (.bool v) ∧ Below w.heap.size w w' := by
  subst hv
  exact All_n ao cap n ts hn bo cap2 m ls hm w h h2

theorem Time_x (ao : Option Addr) (cap n : Nat) (ts : List WorkM) (hn : ts.length = n) (bo : Option Addr) (cap2 m : Nat) (ls : List ServM) (hm : ls.length = m) (w : World) (h : TasksAt w ao ts) (h2 : LoadsAt w bo ls) (i : Int) (R : Nat) (hR : TimeM ts ls i = some R) :
    Calls Try.prog 14 #[.slice ao n cap, .slice bo m cap2, .int .i64 i] w fun e w' => e = .returned (.tuple #[.int .u64 R, .bool true]) ∧ Below w.heap.size w w' := by
  have := Time_n ao cap n ts hn bo cap2 m ls hm w h h2 i
  rwa [hR] at this
theorem Time_y (ao : Option Addr) (cap n : Nat) (ts : List WorkM) (hn : ts.length = n) (bo : Option Addr) (cap2 m : Nat) (ls : List ServM) (hm : ls.length = m) (w : World) (h : TasksAt w ao ts) (h2 : LoadsAt w bo ls) (i : Int) (hR : TimeM ts ls i = none) :
    Calls Try.prog 14 #[.slice ao n cap, .slice bo m cap2, .int .i64 i] w fun e w' => e = .returned (.tuple #[.int .u64 0, .bool false]) ∧ Below w.heap.size w w' := by
  have := Time_n ao cap n ts hn bo cap2 m ls hm w h h2 i
  rwa [hR] at this

end Go.Proofs.Ytibplnbldnhbhaa
