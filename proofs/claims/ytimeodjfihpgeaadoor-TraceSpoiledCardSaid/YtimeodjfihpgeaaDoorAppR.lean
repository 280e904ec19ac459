/-
  'append(v, x...)' at a step of a region that draws, x any row that came in, nil too; and 'append(append([]T{}, xs...), x)' told once.
-/
import Derived.Test.YtimeodjfihpgeaaDoorBase
import Derived.Deep.RegionLawGrows
namespace Go.Proofs.YtimeodjfihpgeaaDoor
open Go.RowKit

/-- A source of cells: nil, or a row. -/
def SrcAt (w : World) (ao : Option Addr) (m : Nat) (news : List Value) : Prop :=
  (ao = none ∧ m = 0 ∧ news = []) ∨ ∃ ad, ao = some ad ∧ ∀ j u, news[j]? = some u → (ad.add j).block < w.heap.size ∧ w.cell? (ad.add j) = some u
theorem SrcAt.later {w w' : World} {ao : Option Addr} {m : Nat} {news : List Value} (h : SrcAt w ao m news) (hb : Below w.heap.size w w') : SrcAt w' ao m news := by
  rcases h with h | ⟨ad, e, hc⟩
  · exact .inl h
  · exact .inr ⟨ad, e, fun j u hu => ⟨Nat.lt_of_lt_of_le (hc j u hu).1 hb.size, (hb.cell (hc j u hu).1).trans (hc j u hu).2⟩⟩

theorem run_append_owned_nil {P : Program} {w : World} (base : Nat) (t ty e : TypeId) (i : TypeInfo) (size : Nat) (ht : P.underlying t = some (.slice e)) (hi : P.info? e = some i)
    (v : Value) (n : Nat) (xs : List Value) (c : Nat) (hown : w.ownsRow base e size v n xs) :
    (Builtin.append_ #[t, t] ty #[v, .slice none 0 c]).run P w = .ok v w := by
  rcases hown.2 with ⟨rfl, rfl⟩ | ⟨g, cap, cur, rfl, _, _, hnc, _⟩
  · simp [Builtin.append_, run_underlying ht, sizeOf, typeInfo, hi, Builtin.lenOf, Builtin.firstCells]
  · simp [Builtin.append_, run_underlying ht, sizeOf, typeInfo, hi, Builtin.lenOf, Builtin.firstCells, hnc, storeCells]

theorem wp_append_row {P : Program} (w : World) {o : Oper} {a : Act} {K : Act → World → Prop} {Q : Exit → Act → World → Prop} (s x : Operand) (t : TypeId)
    (ho : o.op = .call { callee := .builtin .append, args := #[s, x], argTypes := #[t, t] })
    (base : Nat) (e : TypeId) (i : TypeInfo) (z : Value) (size bytes : Nat) (ht : P.underlying t = some (.slice e)) (hi : P.info? e = some i) (hz : i.zero = some z)
    (hsize : i.size = size) (hby : i.bytes = bytes) (hzs : z.cells.size = size) (hsz : 0 < size)
    (v : Value) (n : Nat) (xs : List Value) (hs : a.eval s = v) (hown : w.ownsRow base e size v n xs)
    (so : Option Addr) (m c : Nat) (news : List Value) (hx : a.eval x = .slice so m c) (hl : news.length = m * size) (hsrc : SrcAt w so m news) (h1 : ∀ u ∈ news, u.oneCell' = true)
    (h63 : n + m ≤ maxLen) (hbytes : (n + m) * bytes ≤ 140737488355328) (hbase : base ≤ w.heap.size)
    (N : Nat) (hN : n + m = N) (row : Option Nat) (hrow : v.ownBlock = row)
    (h : ∀ ao cap w', w'.ownsRow base e size (.slice ao N cap) N (xs ++ news) → w.grownBy w' row → ((Value.slice ao N cap).ownBlock = row ∨ (Value.slice ao N cap).ownBlock = some w.heap.size) →
      K (a.put o.dst (.slice ao N cap)) w') : o.wp P a w K Q := by
  subst hN
  subst hrow
  rcases hsrc with ⟨rfl, rfl, rfl⟩ | ⟨ad, rfl, hc⟩
  · have hr := run_append_owned_nil (P := P) (w := w) base t o.type e i size ht hi v n xs c hown
    obtain ⟨ao, cap, rfl⟩ := ownsRow_slice hown
    unfold Oper.wp execOp
    simp only [ho, resolve, invoke, builtin, Sem.run_bind, Sem.run_pure, Result.andThen_ok, List.map_toArray, List.map_cons, List.map_nil, hs, hx, hr]
    exact h ao cap w (by simpa using hown) ⟨rfl, rfl, rfl, Nat.le_refl _, fun _ _ _ => rfl⟩ (Or.inl rfl)
  · obtain ⟨v', w', hr, h2, h3, _, h5⟩ := run_append_own_at (P := P) w base t o.type e i z size bytes ht hi hz hsize hby hzs hsz v n xs hown ad m c news hl (fun j u hu => (hc j u hu).2) h1 h63 hbytes hbase
    obtain ⟨ao, cap, rfl⟩ := ownsRow_slice h2
    unfold Oper.wp execOp
    simp only [ho, resolve, invoke, builtin, Sem.run_bind, Sem.run_pure, Result.andThen_ok, List.map_toArray, List.map_cons, List.map_nil, hs, hx, hr]
    exact h ao cap w' h2 h3 h5

theorem step_append_row {P : Program} (w : World) {ops : Array Oper} {o : Oper} {a : Act} {K : Act → World → Prop} {Q : Exit → Act → World → Prop} {E : Prop} (hgd : o.guard = none) (s x : Operand) (t : TypeId)
    (ho : o.op = .call { callee := .builtin .append, args := #[s, x], argTypes := #[t, t] })
    (base : Nat) (e : TypeId) (i : TypeInfo) (z : Value) (size bytes : Nat) (ht : P.underlying t = some (.slice e)) (hi : P.info? e = some i) (hz : i.zero = some z)
    (hsize : i.size = size) (hby : i.bytes = bytes) (hzs : z.cells.size = size) (hsz : 0 < size)
    (v : Value) (n : Nat) (xs : List Value) (hs : a.eval s = v) (hown : w.ownsRow base e size v n xs)
    (so : Option Addr) (m c : Nat) (news : List Value) (hx : a.eval x = .slice so m c) (hl : news.length = m * size) (hsrc : SrcAt w so m news) (h1 : ∀ u ∈ news, u.oneCell' = true)
    (h63 : n + m ≤ maxLen) (hbytes : (n + m) * bytes ≤ 140737488355328) (hbase : base ≤ w.heap.size)
    (N : Nat) (hN : n + m = N) (row : Option Nat) (hrow : v.ownBlock = row)
    (h : ∀ ao cap w', w'.ownsRow base e size (.slice ao N cap) N (xs ++ news) → w.grownBy w' row → ((Value.slice ao N cap).ownBlock = row ∨ (Value.slice ao N cap).ownBlock = some w.heap.size) →
      K (a.put o.dst (.slice ao N cap)) w') :
    if Region.wanted o (yielded ops a.tmps) = true then Oper.wp P o a w K Q else E := by
  have hw : Region.wanted o (yielded ops a.tmps) = true := by simp [Region.wanted, hgd]
  rw [if_pos hw]
  exact wp_append_row w s x t ho base e i z size bytes ht hi hz hsize hby hzs hsz v n xs hs hown so m c news hx hl hsrc h1 h63 hbytes hbase N hN row hrow h

/-- The same at a plain region's list, guarded or not. -/
theorem wpList_append_rowg {P : Program} {w : World} {ops : Array Oper} {rest : List Oper} {o : Oper} {a : Act} {Q : Exit → Act → World → Prop} (hw : Region.wanted o (yielded ops a.tmps) = true) (s x : Operand) (t : TypeId)
    (ho : o.op = .call { callee := .builtin .append, args := #[s, x], argTypes := #[t, t] })
    (base : Nat) (e : TypeId) (i : TypeInfo) (z : Value) (size bytes : Nat) (ht : P.underlying t = some (.slice e)) (hi : P.info? e = some i) (hz : i.zero = some z)
    (hsize : i.size = size) (hby : i.bytes = bytes) (hzs : z.cells.size = size) (hsz : 0 < size)
    (v : Value) (n : Nat) (xs : List Value) (hs : a.eval s = v) (hown : w.ownsRow base e size v n xs)
    (so : Option Addr) (m c : Nat) (news : List Value) (hx : a.eval x = .slice so m c) (hl : news.length = m * size) (hsrc : SrcAt w so m news) (h1 : ∀ u ∈ news, u.oneCell' = true)
    (h63 : n + m ≤ maxLen) (hbytes : (n + m) * bytes ≤ 140737488355328) (hbase : base ≤ w.heap.size)
    (N : Nat) (hN : n + m = N) (row : Option Nat) (hrow : v.ownBlock = row)
    (h : ∀ ao cap w', w'.ownsRow base e size (.slice ao N cap) N (xs ++ news) → w.grownBy w' row → ((Value.slice ao N cap).ownBlock = row ∨ (Value.slice ao N cap).ownBlock = some w.heap.size) →
      wpList P ops Q rest (a.put o.dst (.slice ao N cap)) w') : wpList P ops Q (o :: rest) a w :=
  wpList_step fun K hK => by
    rw [if_pos hw]
    exact wp_append_row w s x t ho base e i z size bytes ht hi hz hsize hby hzs hsz v n xs hs hown so m c news hx hl hsrc h1 h63 hbytes hbase N hN row hrow (fun ao cap w' h2 h3 h4 => hK _ _ (h ao cap w' h2 h3 h4))

/-- Between the two appends: the copy's value, and what stands below. W: the world at the region's start. -/
structure Mid (W : World) (e : TypeId) (size : Nat) (a1 : Option Addr) (n c1 : Nat) (xs : List Value) (w : World) : Prop where
  own : w.ownsRow W.heap.size e size (.slice a1 n c1) n xs
  bel : Below W.heap.size W w
theorem Mid.base {W w : World} {e : TypeId} {size n c1 : Nat} {a1 : Option Addr} {xs : List Value} (h : Mid W e size a1 n c1 xs w) : W.heap.size ≤ w.heap.size := h.bel.size
theorem Mid.row {W w : World} {e : TypeId} {size n c1 : Nat} {a1 : Option Addr} {xs : List Value} (h : Mid W e size a1 n c1 xs w) {g : Nat} (hg : (Value.slice a1 n c1).ownBlock = some g) : W.heap.size ≤ g ∧ g < w.heap.size := h.own.lt g hg
theorem Mid.of {W V w : World} {e : TypeId} {size n c1 : Nat} {a1 : Option Addr} {xs : List Value} {row : Option Nat} (ho : w.ownsRow W.heap.size e size (.slice a1 n c1) n xs) (hV : Below W.heap.size W V) (hg : V.grownBy w row) (hr : ∀ k, row = some k → W.heap.size ≤ k) : Mid W e size a1 n c1 xs w :=
  ⟨ho, hV.grown hg hV.size hr⟩
theorem Mid.alloc {W w : World} {e : TypeId} {size n c1 : Nat} {a1 : Option Addr} {xs : List Value} (h : Mid W e size a1 n c1 xs w) (o : Obj) : Mid W e size a1 n c1 xs (w.alloc o) :=
  ⟨h.own.alloc _, h.bel.alloc h.bel.size o⟩
theorem Mid.drew {W w : World} {e : TypeId} {size n c1 : Nat} {a1 : Option Addr} {xs : List Value} (h : Mid W e size a1 n c1 xs w) : Mid W e size a1 n c1 xs w.drew :=
  ⟨ownsRow_fr h.own (fun _ _ => rfl), h.bel.drew⟩
theorem SrcAt.below {W w : World} {ao : Option Addr} {m : Nat} {news : List Value} (h : SrcAt W ao m news) (hb : Below W.heap.size W w) : SrcAt w ao m news := h.later hb
theorem Mid.again {W w w' : World} {e : TypeId} {size n N c1 c2 : Nat} {a1 a2 : Option Addr} {xs ys : List Value} {row : Option Nat} (h : Mid W e size a1 n c1 xs w) (hrow : (Value.slice a1 n c1).ownBlock = row) (ho : w'.ownsRow W.heap.size e size (.slice a2 N c2) N ys) (hg : w.grownBy w' row) : Mid W e size a2 N c2 ys w' :=
  Mid.of ho h.bel hg (fun k e => (h.own.lt k (hrow.trans e)).1)

section
variable (W : World) (e : TypeId) (size : Nat) (R : Obj)
theorem ownA : ((W.alloc (.cells #[] e)).drew).ownsRow W.heap.size e size (.slice (some ⟨W.heap.size, 0, none⟩) 0 0) 0 [] :=
  ⟨by simp, .inr ⟨W.heap.size, 0, #[], rfl, Nat.le_refl _, heap_alloc_new W _, Nat.le_refl _, Nat.zero_le _, by simp, by simp⟩⟩
theorem belA : Below W.heap.size W (W.alloc (.cells #[] e)).drew := ((Below.refl _ _).alloc (Nat.le_refl _) _).drew
theorem ownB : (((W.alloc (.cells #[] e)).alloc R).drew).ownsRow W.heap.size e size (.slice (some ⟨W.heap.size, 0, none⟩) 0 0) 0 [] :=
  ⟨by simp, .inr ⟨W.heap.size, 0, #[], rfl, Nat.le_refl _, blk_alloc (heap_alloc_new W _), Nat.le_refl _, Nat.zero_le _, by simp, by simp⟩⟩
theorem belB : Below W.heap.size W ((W.alloc (.cells #[] e)).alloc R).drew := (((Below.refl _ _).alloc (Nat.le_refl _) _).alloc (by simp) _).drew
theorem rowB : ((W.alloc (.cells #[] e)).alloc R).drew.heap[W.heap.size + 1]? = some R := by
  have := blk_new (W.alloc (.cells #[] e)) R
  rwa [show (W.alloc (.cells #[] e)).heap.size = W.heap.size + 1 from by simp] at this
theorem ownC : (((W.alloc R).alloc (.cells #[] e)).drew).ownsRow W.heap.size e size (.slice (some ⟨W.heap.size + 1, 0, none⟩) 0 0) 0 [] := by
  have := heap_alloc_new (W.alloc R) (.cells #[] e)
  rw [show (W.alloc R).heap.size = W.heap.size + 1 from by simp] at this
  exact ⟨by simp, .inr ⟨W.heap.size + 1, 0, #[], rfl, Nat.le_succ _, this, Nat.le_refl _, Nat.zero_le _, by simp, by simp⟩⟩
theorem belC : Below W.heap.size W ((W.alloc R).alloc (.cells #[] e)).drew := (((Below.refl _ _).alloc (Nat.le_refl _) _).alloc (by simp) _).drew
theorem rowC : ((W.alloc R).alloc (.cells #[] e)).drew.heap[W.heap.size]? = some R := blk_alloc (blk_new W R)
end
theorem grown_blk {V w : World} {row : Option Nat} {k : Nat} {R : Obj} (hg : V.grownBy w row) (h : V.heap[k]? = some R) (hn : row ≠ some k) : w.heap[k]? = some R := (hg.block k (lt_blk h) (fun e => hn e.symm)).trans h
theorem Mid.fin {W w V w' : World} {e : TypeId} {size n N c1 c2 : Nat} {a1 a2 : Option Addr} {xs ys : List Value} {row : Option Nat} (h : Mid W e size a1 n c1 xs w) (hrow : (Value.slice a1 n c1).ownBlock = row) (hB : Below w.heap.size w V)
    (ho : w'.ownsRow W.heap.size e size (.slice a2 N c2) N ys) (hg : V.grownBy w' row) : Mid W e size a2 N c2 ys w' :=
  Mid.of ho (h.bel.trans (hB.mono h.bel.size)) hg (fun k e => (h.own.lt k (hrow.trans e)).1)

end Go.Proofs.YtimeodjfihpgeaaDoor
