/-
  The walk of cpu's New, where all may be: its first loop.
-/
import Derived.Test.YtbedknfapiadbaaCpuN
import Derived.Deep.RegionLawGrows
namespace Go.Proofs.Ytbedknfapiadbaa
open Go.RowKit

theorem Try.infoTP : (Try.prog.info? 69).map (fun i => (i.zero, i.size, i.bytes)) = some (some (.pointer none), 1, 8) := by kernel_rfl
theorem Try.infoSP : (Try.prog.info? 76).map (fun i => (i.zero, i.size, i.bytes)) = some (some (.pointer none), 1, 8) := by kernel_rfl

def newM (T : List WorkM) (L : List ServM) : CpuM := ⟨T.map newTask, L.map newSrv, fun _ => [], 0⟩
/-- The processor as far as it is made. -/
structure NSt (w0 w : World) (c : Nat) (y : Lay) (T : List WorkM) (L : List ServM) (n m : Nat) : Prop where
  hc : y.c = c
  at' : CpuAt w y (newM T L)
  hn : T.length = n
  hm : L.length = m
  rowT : w.ownsRow w0.heap.size 69 1 (.slice y.ta n y.tc) n (ptrs y.tp n)
  rowS : w.ownsRow w0.heap.size 76 1 (.slice y.sa m y.sc) m (ptrs y.sp m)
  low : ∀ b, y.own b ≠ none → w0.heap.size ≤ b
  bel : Below w0.heap.size w0 w
theorem NSt.later {w0 w w' : World} {c n m : Nat} {y : Lay} {T : List WorkM} {L : List ServM} (h : NSt w0 w c y T L n m) (hb : Below w.heap.size w w') : NSt w0 w' c y T L n m :=
  ⟨h.hc, h.at'.later hb, h.hn, h.hm, ownsRow_fr h.rowT (fun g hg => hb.block g (h.rowT.lt g hg).2), ownsRow_fr h.rowS (fun g hg => hb.block g (h.rowS.lt g hg).2), h.low, h.bel.trans (hb.mono h.bel.size)⟩
theorem NSt.rowOwn {w0 w : World} {c n m : Nat} {y : Lay} {T : List WorkM} {L : List ServM} (h : NSt w0 w c y T L n m) : ∀ g, (Value.slice y.ta n y.tc).ownBlock = some g → y.own g = some .tarr := by
  intro g hg
  rcases h.at'.tarr with ⟨e, _, _⟩ | ⟨g', e, ho, _⟩
  · rw [e] at hg; simp [Value.ownBlock] at hg
  · rw [e] at hg
    have : g' = g := by simpa [Value.ownBlock] using hg
    rw [← this]; exact ho
theorem NSt.start (w : World) : ∃ y, NSt w ((w.alloc (.cells nilRows 92)).alloc (.cells #[.slice none 0 0, .slice none 0 0, .pointer (some ⟨w.heap.size, 0, none⟩), .int .u64 0] 68)) (w.heap.size + 1) y [] [] 0 0 := by
  have hs : (w.alloc (.cells nilRows 92)).heap.size = w.heap.size + 1 := by simp
  have hc := blk_new (w.alloc (.cells nilRows 92)) (.cells #[.slice none 0 0, .slice none 0 0, .pointer (some ⟨w.heap.size, 0, none⟩), .int .u64 0] 68)
  rw [hs] at hc
  have hf : Below (w.alloc (.cells nilRows 92)).heap.size (w.alloc (.cells nilRows 92)) ((w.alloc (.cells nilRows 92)).alloc (.cells #[.slice none 0 0, .slice none 0 0, .pointer (some ⟨w.heap.size, 0, none⟩), .int .u64 0] 68)) := (Below.refl _ _).alloc (Nat.le_refl _) _
  have hq := (QRep.new w).fr (Fr.of_below (F := fun _ => False) hf) (fun _ _ h => h)
  let own : Nat → Option Own := fun b => if b = w.heap.size + 1 then some .cpu else if b = w.heap.size then some .queue else none
  have hlt : ∀ b, own b ≠ none → b = w.heap.size + 1 ∨ b = w.heap.size := by
    intro b hb
    by_cases h1 : b = w.heap.size + 1
    · exact .inl h1
    · by_cases h2 : b = w.heap.size
      · exact .inr h2
      · simp only [own, if_neg h1, if_neg h2] at hb; exact absurd rfl hb
  have hsz : w.heap.size + 2 ≤ ((w.alloc (.cells nilRows 92)).alloc (.cells #[.slice none 0 0, .slice none 0 0, .pointer (some ⟨w.heap.size, 0, none⟩), .int .u64 0] 68)).heap.size := by simp
  refine ⟨⟨w.heap.size + 1, w.heap.size, none, 0, none, 0, id, id, id, id, own⟩, rfl, ⟨fun b hb => by rcases hlt b hb with e | e <;> omega, ⟨by simp [own], hc⟩, .inl ⟨rfl, rfl, rfl⟩, .inl ⟨rfl, rfl, rfl⟩, fun i t ht => by simp [newM] at ht, fun i s hs => by simp [newM] at hs, ?_⟩, rfl, rfl, World.ownsRow_nil _ _ _ _, World.ownsRow_nil _ _ _ _, fun b hb => by rcases hlt b hb with e | e <;> omega, ((Below.refl _ _).alloc (Nat.le_refl _) _).trans (hf.mono (by simp))⟩
  exact hq.mono (fun k hk => by subst hk; simp [own]) (fun k hk => by have hk : own k = some .queue := hk; rcases hlt k (by rw [hk]; simp) with e | e <;> omega)

/-- A round of the first loop, behind its store. -/
theorem NSt.task {w0 w w3 : World} {c n m g c3 : Nat} {y : Lay} {T : List WorkM} {L : List ServM} {t : WorkM} (h : NSt w0 w c y T L n m)
    (hown : w3.ownsRow w0.heap.size 69 1 (.slice (some ⟨g, 0, none⟩) (n + 1) c3) (n + 1) (ptrs y.tp n ++ [.pointer (some ⟨w.heap.size, 0, none⟩)]))
    (hgr : (((w.alloc (.cells #[.int .i64 t.prio, .int .u64 t.cost, .int .u64 t.period, .int .u64 t.dead, .pointer none, .bool false, .int .u64 0] 72)).alloc (.cells #[.pointer (some ⟨w.heap.size, 0, none⟩)] 69)).drew).grownBy w3 (Value.slice y.ta n y.tc).ownBlock)
    (hat : (Value.slice y.ta n y.tc).ownBlock = some g ∨ g = w.heap.size + 2) :
    ∃ y', NSt w0 (w3.setCell ⟨c, 0, none⟩ (.slice (some ⟨g, 0, none⟩) (n + 1) c3)) c y' (T ++ [t]) L (n + 1) m := by
  have hfg : Fr (fun b => (Value.slice y.ta n y.tc).ownBlock = some b) w w3 := Fr.grown ((((Fr.refl _ w).alloc _).alloc _).drew) hgr (fun b e => .inl e)
  have hcc := h.at'.cpu
  rw [h.hc] at hcc
  have hcn : ¬ (Value.slice y.ta n y.tc).ownBlock = some c := fun e => by rw [h.rowOwn c e] at hcc; simp at hcc
  have hc3 := hfg.blk hcc.2 hcn
  have hc4 := blk_set (i := 0) hc3 (.slice (some ⟨g, 0, none⟩) (n + 1) c3)
  simp only [List.setIfInBounds_toArray, List.set_cons_zero] at hc4
  have hcl := lt_blk hcc.2
  have hgc : g ≠ c := by
    rcases hat with e | e
    · intro x; subst x; exact hcn e
    · omega
  have hp1 : (((w.alloc (.cells #[.int .i64 t.prio, .int .u64 t.cost, .int .u64 t.period, .int .u64 t.dead, .pointer none, .bool false, .int .u64 0] 72)).alloc (.cells #[.pointer (some ⟨w.heap.size, 0, none⟩)] 69)).drew).heap[w.heap.size]? = some (.cells #[.int .i64 t.prio, .int .u64 t.cost, .int .u64 t.period, .int .u64 t.dead, .pointer none, .bool false, .int .u64 0] 72) := blk_alloc (blk_new w _)
  have hp2 := grown_blk hgr hp1 (fun e => by have := (h.rowT.lt _ e).2; omega)
  have hp3 : (w3.setCell ⟨c, 0, none⟩ (.slice (some ⟨g, 0, none⟩) (n + 1) c3)).heap[w.heap.size]? = _ := (blk_set_ne _ (by omega)).trans hp2
  have hf4 : Fr (fun b => b = y.c ∨ (Value.slice y.ta n y.tc).ownBlock = some b) w (w3.setCell ⟨c, 0, none⟩ (.slice (some ⟨g, 0, none⟩) (n + 1) c3)) := (hfg.mono (fun b _ e => .inr e)).setCell (F := fun b => b = y.c ∨ (Value.slice y.ta n y.tc).ownBlock = some b) (p := ⟨c, 0, none⟩) (.inl (.inl h.hc.symm)) _
  have hown2 : (w3.setCell ⟨c, 0, none⟩ (.slice (some ⟨g, 0, none⟩) (n + 1) c3)).ownsRow w0.heap.size 69 1 (.slice (some ⟨g, 0, none⟩) (n + 1) c3) (n + 1) (ptrs y.tp n ++ [.pointer (some ⟨w.heap.size, 0, none⟩)]) := ownsRow_fr hown (fun k hk => by
    have : k = g := by simpa [Value.ownBlock] using hk.symm
    subst this; exact blk_set_ne _ hgc)
  have hnT : (newM T L).tasks.length = n := by simp [newM, h.hn]
  obtain ⟨own', ha, hs, hl⟩ := h.at'.task_add (t := t) (p := w.heap.size) (a' := some ⟨g, 0, none⟩) (c' := c3) hnT h.bel.size h.rowT hf4 (by rw [h.hc]; exact hc4) hown2 (by
    rcases hat with e | e
    · exact .inl e.symm
    · exact .inr ⟨g, rfl, by omega, by omega⟩) (Nat.le_refl _) hp3
  refine ⟨{ y with own := own', ta := some ⟨g, 0, none⟩, tc := c3, tp := upd y.tp n w.heap.size }, h.hc, by simpa [newM] using ha, by simp [h.hn], h.hm, ?_, ?_, fun b hb => ?_, ?_⟩
  · show World.ownsRow _ _ _ _ _ _ (ptrs (upd y.tp n w.heap.size) (n + 1))
    rw [ptrs_snoc]; exact hown2
  · refine ownsRow_fr h.rowS (fun k hk => hf4.block k (h.rowS.lt k hk).2 (fun e => ?_))
    have hso : y.own k = some .sarr := by
      rcases h.at'.sarr with ⟨e1, _, _⟩ | ⟨g', e1, ho, _⟩
      · rw [e1] at hk; simp [Value.ownBlock] at hk
      · rw [e1] at hk
        have : g' = k := by simpa [Value.ownBlock] using hk
        rw [← this]; exact ho
    rcases e with e | e
    · subst e; rw [h.at'.cpu.1] at hso; simp at hso
    · rw [h.rowOwn k e] at hso; simp at hso
  · rcases hl b hb with e | e
    · exact h.low b e
    · have := h.bel.size; omega
  · exact h.bel.trans (hf4.below h.bel.size (fun k _ e => by
      rcases e with e | e
      · subst e; exact h.low _ (by rw [h.at'.cpu.1]; simp)
      · exact h.low _ (by rw [h.rowOwn k e]; simp)))

/-- A round of the second loop, behind its store. V: the world at the statement; bb: the budget that was made in this round. -/
theorem NSt.srv {w0 w V w3 : World} {c n m g c3 bb : Nat} {y : Lay} {T : List WorkM} {L : List ServM} {s : ServM} (h : NSt w0 w c y T L n m) (hV : Below w.heap.size w V) (hb1 : w.heap.size ≤ bb)
    (hbu : V.heap[bb]? = some (.cells #[.int .i64 s.budget, .int .u64 s.period, .slice none 0 0, .int .u64 (0 : Nat)] 94 (0, 0)))
    (hown : w3.ownsRow w0.heap.size 76 1 (.slice (some ⟨g, 0, none⟩) (m + 1) c3) (m + 1) (ptrs y.sp m ++ [.pointer (some ⟨V.heap.size, 0, none⟩)]))
    (hgr : (((V.alloc (.cells #[.pointer (some ⟨bb, 0, none⟩), .int .u64 0] 78)).alloc (.cells #[.pointer (some ⟨V.heap.size, 0, none⟩)] 76)).drew).grownBy w3 (Value.slice y.sa m y.sc).ownBlock)
    (hat : (Value.slice y.sa m y.sc).ownBlock = some g ∨ g = V.heap.size + 2) :
    ∃ y', NSt w0 (w3.setCell ⟨c, 1, none⟩ (.slice (some ⟨g, 0, none⟩) (m + 1) c3)) c y' T (L ++ [s]) n (m + 1) := by
  have hso : ∀ k, (Value.slice y.sa m y.sc).ownBlock = some k → y.own k = some .sarr := by
    intro k hk
    rcases h.at'.sarr with ⟨e1, _, _⟩ | ⟨g', e1, ho, _⟩
    · rw [e1] at hk; simp [Value.ownBlock] at hk
    · rw [e1] at hk
      have : g' = k := by simpa [Value.ownBlock] using hk
      rw [← this]; exact ho
  have hfV : Fr (fun b => (Value.slice y.sa m y.sc).ownBlock = some b) V w3 := Fr.grown ((((Fr.refl _ V).alloc _).alloc _).drew) hgr (fun b e => .inl e)
  have hfg : Fr (fun b => (Value.slice y.sa m y.sc).ownBlock = some b) w w3 := (Fr.of_below hV).trans hfV
  have hcc := h.at'.cpu
  rw [h.hc] at hcc
  have hcn : ¬ (Value.slice y.sa m y.sc).ownBlock = some c := fun e => by rw [hso c e] at hcc; simp at hcc
  have hc3 := hfg.blk hcc.2 hcn
  have hc4 := blk_set (i := 1) hc3 (.slice (some ⟨g, 0, none⟩) (m + 1) c3)
  simp only [List.setIfInBounds_toArray, List.set_cons_zero, List.set_cons_succ] at hc4
  have hcl := lt_blk hcc.2
  have hwV := hV.size
  have hbV := lt_blk hbu
  have hgc : g ≠ c := by
    rcases hat with e | e
    · intro x; subst x; exact hcn e
    · omega
  have hp1 : (((V.alloc (.cells #[.pointer (some ⟨bb, 0, none⟩), .int .u64 0] 78)).alloc (.cells #[.pointer (some ⟨V.heap.size, 0, none⟩)] 76)).drew).heap[V.heap.size]? = some (.cells #[.pointer (some ⟨bb, 0, none⟩), .int .u64 0] 78) := blk_alloc (blk_new V _)
  have hp2 := grown_blk hgr hp1 (fun e => by have := (h.rowS.lt _ e).2; omega)
  have hp3 : (w3.setCell ⟨c, 1, none⟩ (.slice (some ⟨g, 0, none⟩) (m + 1) c3)).heap[V.heap.size]? = _ := (blk_set_ne _ (by omega)).trans hp2
  have hb3 : (w3.setCell ⟨c, 1, none⟩ (.slice (some ⟨g, 0, none⟩) (m + 1) c3)).heap[bb]? = _ := (blk_set_ne _ (by omega)).trans (hfV.blk hbu (fun e => by have := (h.rowS.lt _ e).2; omega))
  have hf4 : Fr (fun b => b = y.c ∨ (Value.slice y.sa m y.sc).ownBlock = some b) w (w3.setCell ⟨c, 1, none⟩ (.slice (some ⟨g, 0, none⟩) (m + 1) c3)) := (hfg.mono (fun b _ e => .inr e)).setCell (F := fun b => b = y.c ∨ (Value.slice y.sa m y.sc).ownBlock = some b) (p := ⟨c, 1, none⟩) (.inl (.inl h.hc.symm)) _
  have hown2 : (w3.setCell ⟨c, 1, none⟩ (.slice (some ⟨g, 0, none⟩) (m + 1) c3)).ownsRow w0.heap.size 76 1 (.slice (some ⟨g, 0, none⟩) (m + 1) c3) (m + 1) (ptrs y.sp m ++ [.pointer (some ⟨V.heap.size, 0, none⟩)]) := ownsRow_fr hown (fun k hk => by
    have : k = g := by simpa [Value.ownBlock] using hk.symm
    subst this; exact blk_set_ne _ hgc)
  have hnT : (newM T L).servers.length = m := by simp [newM, h.hm]
  obtain ⟨own', ha, hs, hl⟩ := h.at'.srv_add (s := s) (p := V.heap.size) (bb := bb) (a' := some ⟨g, 0, none⟩) (c' := c3) hnT h.bel.size h.rowS hf4 (by rw [h.hc]; exact hc4) hown2 (by
    rcases hat with e | e
    · exact .inl e.symm
    · exact .inr ⟨g, rfl, by omega, by omega, by omega⟩) hwV hb1 (by omega) hp3 hb3
  refine ⟨{ y with own := own', sa := some ⟨g, 0, none⟩, sc := c3, sp := upd y.sp m V.heap.size, bp := upd y.bp m bb }, h.hc, by simpa [newM] using ha, h.hn, by simp [h.hm], ?_, ?_, fun b hb => ?_, ?_⟩
  · refine ownsRow_fr h.rowT (fun k hk => hf4.block k (h.rowT.lt k hk).2 (fun e => ?_))
    have hto := h.rowOwn k hk
    rcases e with e | e
    · subst e; rw [h.at'.cpu.1] at hto; simp at hto
    · rw [hso k e] at hto; simp at hto
  · show World.ownsRow _ _ _ _ _ _ (ptrs (upd y.sp m V.heap.size) (m + 1))
    rw [ptrs_snoc]; exact hown2
  · rcases hl b hb with e | e
    · exact h.low b e
    · have := h.bel.size; omega
  · exact h.bel.trans (hf4.below h.bel.size (fun k _ e => by
      rcases e with e | e
      · subst e; exact h.low _ (by rw [h.at'.cpu.1]; simp)
      · exact h.low _ (by rw [hso k e]; simp)))

theorem NSt.rowS_ne {w0 w : World} {c n m : Nat} {y : Lay} {T : List WorkM} {L : List ServM} (h : NSt w0 w c y T L n m) : ¬ (Value.slice y.sa m y.sc).ownBlock = some c := by
  intro e
  have hso : y.own c = some .sarr := by
    rcases h.at'.sarr with ⟨e1, _, _⟩ | ⟨g', e1, ho, _⟩
    · rw [e1] at e; simp [Value.ownBlock] at e
    · rw [e1] at e
      have : g' = c := by simpa [Value.ownBlock] using e
      rw [← this]; exact ho
  have h2 := h.at'.cpu.1
  rw [h.hc, hso] at h2
  simp at h2

end Go.Proofs.Ytbedknfapiadbaa
