/-
  A wheel in a law: what stands all along, with the law's own blocks beside it.
-/
import Derived.Test.YthlaebleaooeiaaWhQ
namespace Go.Proofs.Ythlaebleaooeiaa
open Go.RowKit

/-- A wheel that the law has made at p, in a world behind w0; X: blocks that are known whole, none of the wheel's. -/
def WS (w0 w : World) (p now : Nat) (g : Nat → Option Nat) (X : List (Nat × Obj)) : Prop :=
  ∃ F, WT w p now g F ∧ (∀ b, F b → w0.heap.size ≤ b) ∧ Below w0.heap.size w0 w ∧ ∀ q ∈ X, w.heap[q.1]? = some q.2 ∧ ¬ F q.1
theorem WS.below {w0 w : World} {p now : Nat} {g : Nat → Option Nat} {X : List (Nat × Obj)} (h : WS w0 w p now g X) : Below w0.heap.size w0 w := by obtain ⟨_, _, _, h, _⟩ := h; exact h
theorem WS.blk {w0 w : World} {p now : Nat} {g : Nat → Option Nat} {X : List (Nat × Obj)} (h : WS w0 w p now g X) {q : Nat × Obj} (hq : q ∈ X) : w.heap[q.1]? = some q.2 := by obtain ⟨_, _, _, _, h⟩ := h; exact (h q hq).1
theorem WS.later {w0 w w' : World} {p now : Nat} {g : Nat → Option Nat} {X : List (Nat × Obj)} (h : WS w0 w p now g X) (hb : Below w.heap.size w w') : WS w0 w' p now g X := by
  obtain ⟨F, h1, h3, h4, h5⟩ := h
  exact ⟨F, h1.fr (Fr.of_below (F := fun _ => False) hb) (fun _ _ h => h), h3, h4.trans (hb.mono h4.size), fun q hq => ⟨by rw [hb.block q.1 (lt_blk (h5 q hq).1)]; exact (h5 q hq).1, (h5 q hq).2⟩⟩
theorem WS.facts {w0 w : World} {p now : Nat} {g : Nat → Option Nat} {X : List (Nat × Obj)} (h : WS w0 w p now g X) : now < 4611686018427387904 ∧ (∀ i a, g i = some a → i < 1000 ∧ now < a ∧ a < 4611686018427387904) := by obtain ⟨F, h1, _⟩ := h; exact h1.facts
theorem WS.tail {w0 w : World} {p now : Nat} {g : Nat → Option Nat} {q : Nat × Obj} {X : List (Nat × Obj)} (h : WS w0 w p now g (q :: X)) : WS w0 w p now g X := by
  obtain ⟨F, h1, h2, h3, h4⟩ := h
  exact ⟨F, h1, h2, h3, fun q hq => h4 q (List.mem_cons_of_mem _ hq)⟩
theorem WS.alloc {w0 w : World} {p now : Nat} {g : Nat → Option Nat} {X : List (Nat × Obj)} (h : WS w0 w p now g X) (O : Obj) : WS w0 (w.alloc O) p now g ((w.heap.size, O) :: X) := by
  have h' := h.later ((Below.refl _ _).alloc (Nat.le_refl _) O)
  obtain ⟨F, h1, h3, h4, h5⟩ := h
  refine ⟨F, h1.fr (Fr.of_below (F := fun _ => False) ((Below.refl _ _).alloc (Nat.le_refl _) O)) (fun _ _ h => h), h3, h'.below, fun q hq => ?_⟩
  rcases List.mem_cons.1 hq with e | e
  · subst e
    exact ⟨blk_new w O, fun hF => by have := h1.lt hF; omega⟩
  · exact ⟨blk_alloc (h5 q e).1, (h5 q e).2⟩
theorem WS.step {w0 w w' : World} {p now' : Nat} {g' : Nat → Option Nat} {X : List (Nat × Obj)} {F F' : Nat → Prop} (h2 : ∀ b, F b → w0.heap.size ≤ b) (h3 : Below w0.heap.size w0 w) (h4 : ∀ q ∈ X, w.heap[q.1]? = some q.2 ∧ ¬ F q.1) (hw : WT w' p now' g' F') (hf : Fr F w w') (hg : Gro F F' w) : WS w0 w' p now' g' X := by
  refine ⟨F', hw, fun b hb => ?_, h3.trans (hf.below h3.size (fun k _ e => h2 k e)), fun q hq => ⟨hf.blk (h4 q hq).1 (h4 q hq).2, fun hF => ?_⟩⟩
  · rcases hg b hb with e | e
    · exact h2 b e
    · have := h3.size; omega
  · rcases hg _ hF with e | e
    · exact (h4 q hq).2 e
    · have := lt_blk (h4 q hq).1; omega
theorem WS.new {w0 w w' : World} {p : Nat} {F : Nat → Prop} (hb : Below w0.heap.size w0 w) (h1 : WT w' p 0 (fun _ => none) F) (hF : ∀ k, F k → w.heap.size ≤ k) (h2 : Below w.heap.size w w') (X : List (Nat × Obj)) (hX : ∀ q ∈ X, w.heap[q.1]? = some q.2) : WS w0 w' p 0 (fun _ => none) X :=
  ⟨_, h1, fun b hb' => by have := hb.size; have := hF b hb'; omega, hb.trans (h2.mono hb.size), fun q hq => by
    have hl := lt_blk (hX q hq)
    exact ⟨by rw [h2.block q.1 hl]; exact hX q hq, fun hF' => by have := hF _ hF'; omega⟩⟩
/-- A row of numbers that a call has told: its block. -/
def RowB (va : Option Addr) (out : List Nat) (b : Nat) (O : Obj) : Prop := va = some ⟨b, 0, none⟩ ∧ ∃ cur, O = .cells cur 3 (0, 0) ∧ ∀ j (hj : j < out.length), cur[j]? = some (.int .i64 (out[j] : Nat))
theorem OutAt.row {B : Nat} {w : World} {v : Value} {out : List Nat} (h : OutAt B w v out) : ∃ va vc, v = .slice va out.length vc ∧ (out ≠ [] → ∃ b O, RowB va out b O ∧ w.heap[b]? = some O ∧ v.ownBlock = some b) := by
  obtain ⟨a, c, rfl, hown⟩ := h
  refine ⟨a, c, rfl, fun hne => ?_⟩
  obtain ⟨-, hnil | ⟨b, cap, cur, hv, hge, hblk, hnc, hcm, hcs, htk⟩⟩ := hown
  · exact absurd (List.length_eq_zero_iff.1 hnil.2) hne
  · injection hv with e1 _ e3
    subst e1
    refine ⟨b, _, ⟨rfl, cur, rfl, fun j hj => ?_⟩, hblk, rfl⟩
    have e2 : (cur.toList.take (out.length * 1))[j]? = ((ints' out).map (Value.int .i64))[j]? := by rw [htk]
    rw [List.getElem?_take, if_pos (by omega)] at e2
    rw [← Array.getElem?_toList, e2]
    simp [ints', hj]
section
variable (w0 w : World) (p now : Nat) (g : Nat → Option Nat) (X : List (Nat × Obj)) (h : WS w0 w p now g X)
include h
theorem ws_now : Calls Try.prog 14 #[.pointer (some ⟨p, 0, none⟩)] w fun e w' => e = .returned (.int .u64 now) ∧ w = w' := by
  obtain ⟨F, h1, _⟩ := h
  exact wt_now p now g F w h1
theorem ws_len : Calls Try.prog 13 #[.pointer (some ⟨p, 0, none⟩)] w fun e w' => e = .returned (.int .i64 (cntT g)) ∧ w = w' := by
  obtain ⟨F, h1, _⟩ := h
  exact wt_len p now g F w h1
theorem ws_at (id : Int) (hk : kwf id) : Calls Try.prog 19 #[.pointer (some ⟨p, 0, none⟩), .int .i64 id] w fun e w' => e = .returned (atTV g id) ∧ WS w0 w' p now g X := by
  have h0 := h
  obtain ⟨F, h1, _⟩ := h
  exact (wt_at p now g F w h1 id hk).mono fun e w' hx => ⟨hx.1, h0.later hx.2⟩
theorem ws_set (id : Int) (a : Nat) (hk : kwf id) (ha : a ≤ 18446744073709551615) (c : Int) (g' : Nat → Option Nat) (hc : setC now id a = c) (hg : setT now g id a = g') : Calls Try.prog 10 #[.pointer (some ⟨p, 0, none⟩), .int .i64 id, .int .u64 a] w fun e w' => e = .returned (.int .i64 c) ∧ WS w0 w' p now g' X := by
  subst hc; subst hg
  obtain ⟨F, h1, h2, h3, h4⟩ := h
  refine (wt_set p now g F w h1 id a hk ha).mono fun e w' hx => ?_
  obtain ⟨e1, F', hw, hf, hgr⟩ := hx
  exact ⟨e1, WS.step h2 h3 h4 hw hf hgr⟩
theorem ws_cancel (id : Int) (hk : kwf id) (c : Int) (g' : Nat → Option Nat) (hc : canC g id = c) (hg : canT g id = g') : Calls Try.prog 15 #[.pointer (some ⟨p, 0, none⟩), .int .i64 id] w fun e w' => e = .returned (.int .i64 c) ∧ WS w0 w' p now g' X := by
  subst hc; subst hg
  obtain ⟨F, h1, h2, h3, h4⟩ := h
  refine (wt_cancel p now g F w h1 id hk).mono fun e w' hx => ?_
  obtain ⟨e1, F', hw, hf, hgr⟩ := hx
  exact ⟨e1, WS.step h2 h3 h4 hw hf hgr⟩
theorem ws_go (t : Nat) (h1 : now ≤ t) (h2 : t < 4611686018427387904) : Calls Try.prog 11 #[.pointer (some ⟨p, 0, none⟩), .int .u64 t] w fun e w' => ∃ va out vc, e = .returned (.tuple #[.slice va (List.length out) vc, .int .i64 0]) ∧ GoT g t out ∧ WS w0 w' p t (goneT g t) X ∧ (out ≠ [] → ∃ b O, RowB va out b O ∧ WS w0 w' p t (goneT g t) ((b, O) :: X)) := by
  obtain ⟨F, hw, hF, hb, hX⟩ := h
  refine (wt_go p now g F w hw t h1 h2).mono fun e w' hx => ?_
  obtain ⟨v, out, e1, hgo, hrow, F', hw', hf, hgr, hdj⟩ := hx
  obtain ⟨va, vc, rfl, hr⟩ := hrow.row
  have hs := WS.step hF hb hX hw' hf hgr
  refine ⟨va, out, vc, e1, hgo, hs, fun hne => ?_⟩
  obtain ⟨b, O, h3, h4, h5⟩ := hr hne
  refine ⟨b, O, h3, ?_⟩
  have hs' := hs
  have hX' : ∀ q ∈ X, w'.heap[q.1]? = some q.2 ∧ ¬ F' q.1 := fun q hq => ⟨hs'.blk hq, fun hF => by
    rcases hgr _ hF with e | e
    · exact (hX q hq).2 e
    · have := lt_blk (hX q hq).1; omega⟩
  refine ⟨F', hw', fun c hc => ?_, hs'.below, fun q hq => ?_⟩
  · rcases hgr c hc with e | e
    · exact hF c e
    · have := hb.size; omega
  · rcases List.mem_cons.1 hq with e | e
    · subst e; exact ⟨h4, hdj _ h5⟩
    · exact hX' q e
theorem ws_go2 (t : Nat) (h1 : now ≤ t) (h2 : t < 4611686018427387904) : Calls Try.prog 11 #[.pointer (some ⟨p, 0, none⟩), .int .u64 t] w fun e w' => ∃ va out vc X', e = .returned (.tuple #[.slice va (List.length out) vc, .int .i64 0]) ∧ GoT g t out ∧ WS w0 w' p t (goneT g t) X' ∧ (∀ q ∈ X, q ∈ X') ∧ ∀ j (hj : j < List.length out), ∃ b cur, va = some ⟨b, 0, none⟩ ∧ (b, Obj.cells cur 3 (0, 0)) ∈ X' ∧ cur[j]? = some (.int .i64 (out[j] : Nat)) := by
  refine (ws_go w0 w p now g X h t h1 h2).mono fun e w' hx => ?_
  obtain ⟨va, out, vc, e1, hgo, hs, hrow⟩ := hx
  by_cases ho : out = []
  · subst ho
    exact ⟨va, [], vc, X, e1, hgo, hs, fun q hq => hq, fun j hj => absurd hj (by simp)⟩
  · obtain ⟨b, O, ⟨hb, cur, rfl, hc⟩, hs'⟩ := hrow ho
    exact ⟨va, out, vc, _, e1, hgo, hs', fun q hq => List.mem_cons_of_mem _ hq, fun j hj => ⟨b, cur, hb, List.mem_cons_self .., hc j hj⟩⟩
theorem ws_past (t : Nat) (h1 : t < now) : Calls Try.prog 11 #[.pointer (some ⟨p, 0, none⟩), .int .u64 t] w fun e w' => e = .returned (.tuple #[.slice none 0 0, .int .i64 1]) ∧ w = w' := by
  obtain ⟨F, hw, _⟩ := h
  exact wt_past p now g F w hw t h1
end
theorem got_eq {g : Nat → Option Nat} {t : Nat} {l m : List Nat} (h1 : GoT g t l) (h2 : GoT g t m) : l = m := by
  let f : Nat → Tm := fun i => ⟨i, tmT g i⟩
  have key : ∀ {x : List Nat}, GoT g t x → TSort (x.map f) := fun {x} hx => by
    rw [TSort, List.pairwise_map]
    exact hx.1.imp fun {a b} hab => by unfold Tm.lt; simp only [f]; omega
  have := tsort_eq (key h1) (key h2) (fun y => by
    rw [List.mem_map, List.mem_map]
    constructor
    · rintro ⟨i, hi, e⟩; exact ⟨i, (h2.2 i).2 ((h1.2 i).1 hi), e⟩
    · rintro ⟨i, hi, e⟩; exact ⟨i, (h1.2 i).2 ((h2.2 i).1 hi), e⟩)
  have inj : ∀ a b : Nat, f a = f b → a = b := fun a b e => by
    have : (a : Int) = (b : Int) := congrArg Tm.id e
    omega
  exact (List.map_inj_right inj).1 this

theorem setT_bad {now : Nat} {g : Nat → Option Nat} {id : Int} {a : Nat} {c : Int} (hc : setC now id a = c) (h : c ≠ 0) : setT now g id a = g := by
  unfold setT; rw [if_neg (by rw [hc]; exact h)]

/-- Two steps are one. -/
theorem got_append {g : Nat → Option Nat} {s t : Nat} {l m : List Nat} (hst : s ≤ t) (h1 : GoT g s l) (h2 : GoT (goneT g s) t m) : GoT g t (l ++ m) := by
  have htm : ∀ i, i ∈ m → tmT (goneT g s) i = tmT g i ∧ s < tmT g i := fun i hi => by
    obtain ⟨a, e1, _⟩ := (h2.2 i).1 hi
    have e2 := goneT_some.1 e1
    simp [tmT, e1, e2.1, e2.2]
  refine ⟨List.pairwise_append.2 ⟨h1.1, h2.1.imp_of_mem fun {a b} ha hb hab => ?_, fun a ha b hb => ?_⟩, fun i => ?_⟩
  · rw [(htm a ha).1, (htm b hb).1] at hab; exact hab
  · obtain ⟨x, e1, e2⟩ := (h1.2 a).1 ha
    have := (htm b hb).2
    left
    simp only [tmT, e1, Option.getD_some]
    unfold tmT at this
    omega
  · rw [List.mem_append, h1.2, h2.2]
    constructor
    · rintro (⟨a, e1, e2⟩ | ⟨a, e1, e2⟩)
      · exact ⟨a, e1, by omega⟩
      · exact ⟨a, (goneT_some.1 e1).1, e2⟩
    · rintro ⟨a, e1, e2⟩
      by_cases e : a ≤ s
      · exact .inl ⟨a, e1, e⟩
      · exact .inr ⟨a, goneT_some.2 ⟨e1, by omega⟩, e2⟩
theorem goneT_goneT {g : Nat → Option Nat} {s t : Nat} (h : s ≤ t) : goneT (goneT g s) t = goneT g t := by
  funext i
  refine Option.ext fun a => ?_
  rw [goneT_some, goneT_some, goneT_some]
  constructor
  · rintro ⟨⟨h1, _⟩, h2⟩; exact ⟨h1, h2⟩
  · rintro ⟨h1, h2⟩; exact ⟨⟨h1, by omega⟩, h2⟩
theorem cntT_none {g : Nat → Option Nat} (h : ∀ i, g i = none) : cntT g = 0 := by
  unfold cntT idsOf
  rw [List.filter_eq_nil_iff.2 (fun i _ => by rw [h i]; simp)]
  rfl

end Go.Proofs.Ythlaebleaooeiaa
