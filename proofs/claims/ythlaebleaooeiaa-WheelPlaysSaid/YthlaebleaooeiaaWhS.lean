/-
  A wheel in a law that writes blocks of its own.
-/
import Derived.Test.YthlaebleaooeiaaWhR
import Derived.Test.YthlaebleaooeiaaRowV
namespace Go.Proofs.Ythlaebleaooeiaa
open Go.RowKit

theorem WS.sub {w0 w : World} {p now : Nat} {g : Nat → Option Nat} {X Y : List (Nat × Obj)} (h : WS w0 w p now g X) (hY : ∀ q ∈ Y, q ∈ X) : WS w0 w p now g Y := by
  obtain ⟨F, h1, h2, h3, h4⟩ := h
  exact ⟨F, h1, h2, h3, fun q hq => h4 q (hY q hq)⟩
theorem WS.set {w0 w : World} {p now : Nat} {g : Nat → Option Nat} {X : List (Nat × Obj)} {B : Nat} {vs : Array Value} {T : TypeId} (h : WS w0 w p now g ((B, .cells vs T (0, 0)) :: X)) (hB : w0.heap.size ≤ B) (hX : ∀ q ∈ X, q.1 ≠ B) (i : Nat) (v : Value) :
    WS w0 (w.setCell ⟨B, i, none⟩ v) p now g ((B, .cells (vs.setIfInBounds i v) T (0, 0)) :: X) := by
  obtain ⟨F, h1, h3, h4, h5⟩ := h
  have hf : Fr (fun k => k = B) w (w.setCell ⟨B, i, none⟩ v) := Fr.setCell (F := fun k => k = B) (Fr.refl _ w) (p := ⟨B, i, none⟩) (.inl rfl) v
  obtain ⟨hb, ho⟩ := h5 _ (List.mem_cons_self ..)
  refine ⟨F, h1.fr hf (fun k hk e => ho (e ▸ hk)), h3, h4.trans (hf.below h4.size (fun k _ e => by omega)), fun q hq => ?_⟩
  rcases List.mem_cons.1 hq with rfl | hq
  · exact ⟨blk_set hb v, ho⟩
  · exact ⟨hf.blk (h5 q (List.mem_cons_of_mem _ hq)).1 (hX q hq), (h5 q (List.mem_cons_of_mem _ hq)).2⟩
theorem WS.alloc' {w0 w : World} {p now : Nat} {g : Nat → Option Nat} {X : List (Nat × Obj)} (h : WS w0 w p now g X) (O : Obj) (B : Nat) (hB : w.heap.size = B) : WS w0 (w.alloc O) p now g ((B, O) :: X) := by subst hB; exact h.alloc O
theorem WS.lt {w0 w : World} {p now : Nat} {g : Nat → Option Nat} {X : List (Nat × Obj)} (h : WS w0 w p now g X) {q : Nat × Obj} (hq : q ∈ X) : q.1 < w.heap.size := lt_blk (h.blk hq)
theorem got_len {g : Nat → Option Nat} {t : Nat} {out : List Nat} (h : GoT g t out) (hg : ∀ i a, g i = some a → i < 1000) : out.length ≤ 1000 := by
  have hn : out.Nodup := by
    rw [List.nodup_iff_pairwise_ne]
    exact h.1.imp fun {a b} h e => by subst e; omega
  have e := len_eq_of_mem (ints'_nodup hn) (ints'_nodup (idsOf_nodup (fun i => decide (i ∈ out)))) (fun x => by
    rw [ints'_mem, ints'_mem, idsOf_mem]
    constructor
    · rintro ⟨h0, hx⟩
      obtain ⟨a, h1, _⟩ := (h.2 _).1 hx
      exact ⟨h0, hg _ _ h1, by simpa using hx⟩
    · rintro ⟨h0, _, h2⟩
      exact ⟨h0, by simpa using h2⟩)
  have e2 : (ints' out).length = out.length := by simp [ints']
  rw [← e2, e]
  exact keysLen _
theorem ws_go3 (w0 w : World) (p now : Nat) (g : Nat → Option Nat) (X : List (Nat × Obj)) (h : WS w0 w p now g X) (t : Nat) (h1 : now ≤ t) (h2 : t < 4611686018427387904) : Calls Try.prog 11 #[.pointer (some ⟨p, 0, none⟩), .int .u64 t] w fun e w' => ∃ va out vc Y, e = .returned (.tuple #[.slice va (List.length out) vc, .int .i64 0]) ∧ GoT g t out ∧ WS w0 w' p t (goneT g t) (X ++ Y) ∧ (∀ q ∈ Y, w.heap.size ≤ q.1) ∧ ∀ j (hj : j < List.length out), ∃ b cur, va = some ⟨b, 0, none⟩ ∧ (b, Obj.cells cur 3 (0, 0)) ∈ Y ∧ cur[j]? = some (.int .i64 (out[j] : Nat)) := by
  obtain ⟨F, hw, hF, hb, hX⟩ := h
  refine (wt_go p now g F w hw t h1 h2).mono fun e w' hx => ?_
  obtain ⟨v, out, e1, hgo, hrow, F', hw', hf, hgr, hdj⟩ := hx
  have hs := WS.step hF hb hX hw' hf hgr
  have hro := hrow
  obtain ⟨va, vc, rfl, hr⟩ := hrow.row
  by_cases ho : out = []
  · subst ho
    exact ⟨va, [], vc, [], e1, hgo, by rw [List.append_nil]; exact hs, fun q hq => (by cases hq), fun j hj => absurd hj (by simp)⟩
  · obtain ⟨b, O, h3, h4, h5⟩ := hr ho
    have hbge : w.heap.size ≤ b := by
      obtain ⟨_, _, _, hown⟩ := hro
      exact (ownsRow_lt hown h5).1
    obtain ⟨hva, cur, rfl, hc⟩ := h3
    refine ⟨va, out, vc, [(b, .cells cur 3 (0, 0))], e1, hgo, ⟨F', hw', fun c hc => ?_, hs.below, fun q hq => ?_⟩, fun q hq => ?_, fun j hj => ⟨b, cur, hva, List.mem_cons_self .., hc j hj⟩⟩
    · rcases hgr c hc with e | e
      · exact hF c e
      · have := hb.size; omega
    · rcases List.mem_append.1 hq with e | e
      · exact ⟨hs.blk e, fun hF' => by
          rcases hgr _ hF' with e2 | e2
          · exact (hX q e).2 e2
          · have := lt_blk (hX q e).1; omega⟩
      · rw [List.mem_singleton] at e
        subst e
        exact ⟨h4, hdj _ h5⟩
    · rw [List.mem_singleton] at hq
      subst hq
      exact hbge

end Go.Proofs.Ythlaebleaooeiaa
