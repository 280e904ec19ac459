/-
  The document's queue: the walks of 'Come' and 'Go', each with a statement of three appends that draws its order.
-/
import Derived.Test.YtelehfcjajipiaaRefQ
import Derived.Deep.DeepCutAuto
import Derived.Deep.CutBlock
import Derived.Deep.RegionLawGrows
namespace Go.Proofs.Ytelehfcjajipiaa.readyPlays
open Go.RowKit Go.Proofs.Ytelehfcjajipiaa

theorem Try.infoMem : (Try.prog.info? 58).map (fun i => (i.zero, i.size, i.bytes)) = some (some (.agg #[.int .i64 0, .int .i64 0]), 2, 16) := by kernel_rfl

theorem store_end {W w : World} {p c : Nat} {L L' : List MemM} {G : Nat → Prop} {a : Option Addr} {n : Nat} (h : RQ W p L G) (hn : L'.length = n) (hm : Mid W 58 2 a n c (mcells L') w) :
    ∃ G', RQ (w.setCell ⟨p, 0, none⟩ (.slice a n c)) p L' G' ∧ Fr G W (w.setCell ⟨p, 0, none⟩ (.slice a n c)) ∧ Gro G G' W := by
  subst hn
  obtain ⟨a0, c0, hb, _⟩ := h.at'
  have hpl := lt_blk hb
  have hb' : w.heap[p]? = some (.cells #[.slice a0 L.length c0] 43 (0, 0)) := by rw [hm.bel.block p hpl]; exact hb
  have hrow := RowAt.of_owns hm.own
  have hlt := hm.own.lt
  refine ⟨fun k => k = p ∨ (Value.slice a L'.length c).ownBlock = some k, ⟨.inl rfl, ?_, a, c, ?_, ?_⟩, ?_, ?_⟩
  · rintro k (rfl | hk)
    · simpa [World.setCell] using lt_blk hb'
    · simpa [World.setCell] using (hlt k hk).2
  · have := blk_set (i := 0) hb' (.slice a L'.length c)
    simpa using this
  · rcases hrow.2 with ⟨h1, h2⟩ | ⟨g, off, cap, hv, h3, h4, h5, h6, h7⟩
    · injection h1 with e1 _ e3
      exact .inl ⟨e1, List.length_eq_zero_iff.1 h2, e3⟩
    · injection hv with e1 _ e3
      subst e1
      subst e3
      have hoff : off = 0 := by
        rcases hm.own.2 with ⟨e, _⟩ | ⟨g', cap', cur, e, _⟩
        · injection e with e _ _; cases e
        · injection e with e _ _; injection e with e; injection e
      subst hoff
      have hgp : g ≠ p := by have := (hlt g (by simpa using h5)).1; omega
      refine .inr ⟨g, rfl, .inr (by simpa using h5), hgp, h3, h4, fun j u hu => ?_⟩
      have h8 := h7 j u hu
      rw [Nat.zero_add] at h8
      exact (World.cell?_of_block (w := w) (blk_set_ne _ hgp)).trans h8
  · exact ((Fr.of_below (F := fun _ => False) hm.bel).mono (fun _ _ h => h.elim)).setCell (F := G) (.inl h.gp) _
  · rintro k (rfl | hk)
    · exact .inl h.gp
    · exact .inr (hlt k hk).1

/-- The two slices of a row. -/
theorem src_take {W : World} {g i : Nat} {L : List MemM} (hg : g < W.heap.size) (hc : ∀ j u, (mcells L)[j]? = some u → W.cell? ⟨g, j, none⟩ = some u) : SrcAt W (some ⟨g, 0, none⟩) i (mcells (L.take i)) := by
  refine .inr ⟨_, rfl, fun j u hu => ?_⟩
  have hadd : (⟨g, 0, none⟩ : Addr).add j = ⟨g, j, none⟩ := by unfold Addr.add; split; (rename_i h; subst h; rfl); simp
  rw [hadd]
  refine ⟨hg, hc j u ?_⟩
  have hL : mcells L = mcells (L.take i) ++ mcells (L.drop i) := by rw [← mcells_append, List.take_append_drop]
  have hj := (List.getElem?_eq_some_iff.1 hu).1
  rw [hL, List.getElem?_append_left hj]
  exact hu
theorem src_drop {W : World} {g i : Nat} {L : List MemM} (hg : g < W.heap.size) (hi : i ≤ L.length) (hc : ∀ j u, (mcells L)[j]? = some u → W.cell? ⟨g, j, none⟩ = some u) (A : Addr) (hA : i < L.length → A = ⟨g, i * 2, none⟩) : SrcAt W (some A) (L.length - i) (mcells (L.drop i)) := by
  refine .inr ⟨_, rfl, fun j u hu => ?_⟩
  have hj := (List.getElem?_eq_some_iff.1 hu).1
  rw [mcells_len, List.length_drop] at hj
  rw [hA (by omega)]
  have hadd : (⟨g, i * 2, none⟩ : Addr).add j = ⟨g, i * 2 + j, none⟩ := by unfold Addr.add; split; (rename_i h; subst h; rfl); rfl
  rw [hadd]
  refine ⟨hg, hc _ u ?_⟩
  have hL : mcells L = mcells (L.take i) ++ mcells (L.drop i) := by rw [← mcells_append, List.take_append_drop]
  have hlen : (mcells (L.take i)).length = i * 2 := by rw [mcells_len, List.length_take]; omega
  rw [hL, List.getElem?_append_right (by omega), hlen]
  simpa using hu

end Go.Proofs.Ytelehfcjajipiaa.readyPlays
