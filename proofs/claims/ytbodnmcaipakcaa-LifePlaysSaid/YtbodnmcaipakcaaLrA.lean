/-
  The document's book: how it lies in memory; the walk of 'find'.
-/
import Derived.Test.YtbodnmcaipakcaaLiM
import Derived.Test.YtbodnmcaipakcaaTimL
import Derived.Deep.RegionLawGrows
namespace Go.Proofs.Ytbodnmcaipakcaa
open Go.RowKit

theorem same_drawn {w : World} (n : Nat) : Below w.heap.size w (w.drewN n) := ⟨rfl, rfl, rfl, Nat.le_refl _, fun _ _ => rfl⟩
theorem ret_int {k : IntKind} {a b : Int} (h : a = b) : Ending.returned (.int k a) = .returned (.int k b) := by rw [h]
theorem Try.infoTm : (Try.prog.info? 58).map (fun i => (i.zero, i.size, i.bytes)) = some (some (.agg #[.int .i64 0, .int .u64 0]), 2, 16) := by kernel_rfl

/-- The document's book at q: a, c: its list's row; fv: its outcomes' row. -/
structure RB (w : World) (q cost now : Nat) (L : List Tm) (fs : List FateM) (a : Option Addr) (c : Nat) (fv : Value) : Prop where
  blk : w.heap[q]? = some (.cells #[.int .u64 cost, .int .u64 now, .slice a L.length c, fv] 55 (0, 0))
  row : TRow w (fun k => k < w.heap.size ∧ ¬ fv.ownBlock = some k) q a c L
  out : w.ownsRow 0 35 3 fv fs.length (fcells fs)
  s : ¬ fv.ownBlock = some q
/-- Its blocks. -/
def RF (q : Nat) (a : Option Addr) (fv : Value) : Nat → Prop := fun k => k = q ∨ (∃ ad, a = some ad ∧ ad.block = k) ∨ fv.ownBlock = some k
section
variable {w : World} {q cost now : Nat} {L : List Tm} {fs : List FateM} {a : Option Addr} {c : Nat} {fv : Value}
theorem RB.lt (h : RB w q cost now L fs a c fv) {k : Nat} (hk : RF q a fv k) : k < w.heap.size := by
  rcases hk with rfl | ⟨ad, rfl, rfl⟩ | hk
  · exact lt_blk h.blk
  · rcases h.row with ⟨e, _⟩ | ⟨g, off, e, hg, _⟩
    · cases e
    · injection e with e; rw [e]; exact hg.1
  · exact (ownsRow_lt h.out hk).2
theorem RB.fr {w' : World} {G : Nat → Prop} (h : RB w q cost now L fs a c fv) (hf : Fr G w w') (hG : ∀ k, RF q a fv k → ¬ G k) : RB w' q cost now L fs a c fv := by
  refine ⟨hf.blk h.blk (hG _ (.inl rfl)), ?_, ownsRow_fr h.out (fun k hk => hf.block k (ownsRow_lt h.out hk).2 (hG k (.inr (.inr hk)))), h.s⟩
  rcases h.row with h1 | ⟨g, off, e, hg, hgp, h1, h2, h3⟩
  · exact .inl h1
  · exact .inr ⟨g, off, e, ⟨Nat.lt_of_lt_of_le hg.1 hf.size, hg.2⟩, hgp, h1, h2, fun j u hu => (hf.cell (p := ⟨g, off + j, none⟩) hg.1 (hG g (.inr (.inl ⟨_, e, rfl⟩)))).trans (h3 j u hu)⟩
theorem RB.later {w' : World} (h : RB w q cost now L fs a c fv) (hb : Below w.heap.size w w') : RB w' q cost now L fs a c fv := h.fr (Fr.of_below (F := fun _ => False) hb) (fun _ _ h => h)
theorem RB.c0 (h : RB w q cost now L fs a c fv) : w.cell? ⟨q, 0, none⟩ = some (.int .u64 cost) := (cell_blk h.blk 0).trans rfl
theorem RB.c1 (h : RB w q cost now L fs a c fv) : w.cell? ⟨q, 1, none⟩ = some (.int .u64 now) := (cell_blk h.blk 1).trans rfl
theorem RB.c2 (h : RB w q cost now L fs a c fv) : w.cell? ⟨q, 2, none⟩ = some (.slice a L.length c) := (cell_blk h.blk 2).trans rfl
theorem RB.c3 (h : RB w q cost now L fs a c fv) : w.cell? ⟨q, 3, none⟩ = some fv := (cell_blk h.blk 3).trans rfl
theorem RB.free (h : RB w q cost now L fs a c fv) (i : Nat) : w.frozen? ⟨q, i, none⟩ = false := free_blk h.blk i
theorem frq (w : World) (q i : Nat) (v : Value) : Fr (fun k => k = q) w (w.setCell ⟨q, i, none⟩ v) := Fr.setCell (F := fun k => k = q) (Fr.refl _ w) (p := ⟨q, i, none⟩) (.inl rfl) v
/-- A new list, in a row of the call's own. -/
theorem RB.setL {W : World} {L' : List Tm} {a0 : Option Addr} {c0 n : Nat} (h : RB W q cost now L fs a0 c0 fv) (hn : L'.length = n) (hm : Mid W 58 2 a n c (tcells L') w) :
    RB (w.setCell ⟨q, 2, none⟩ (.slice a n c)) q cost now L' fs a c fv ∧ Fr (fun k => k = q) W (w.setCell ⟨q, 2, none⟩ (.slice a n c)) ∧ Gro (RF q a0 fv) (RF q a fv) W := by
  subst hn
  have hpl := lt_blk h.blk
  have hb' : w.heap[q]? = some (.cells #[.int .u64 cost, .int .u64 now, .slice a0 L.length c0, fv] 55 (0, 0)) := by rw [hm.bel.block q hpl]; exact h.blk
  have hrow := RowAt.of_owns hm.own
  have hlt := hm.own.lt
  have hf := frq w q 2 (.slice a L'.length c)
  have hsz : (w.setCell ⟨q, 2, none⟩ (.slice a L'.length c)).heap.size = w.heap.size := by simp [World.setCell]
  have hfv : ∀ k, fv.ownBlock = some k → k < W.heap.size := fun k hk => (ownsRow_lt h.out hk).2
  refine ⟨⟨?_, ?_, ownsRow_fr h.out (fun k hk => ?_), h.s⟩, ?_, ?_⟩
  · have := blk_set (i := 2) hb' (.slice a L'.length c)
    simpa using this
  · rcases hrow.2 with ⟨h1, h2⟩ | ⟨g, off, cap, hv, h3, h4, h5, h6, h7⟩
    · injection h1 with e1 _ e3
      exact .inl ⟨e1, List.length_eq_zero_iff.1 h2, e3⟩
    · injection hv with e1 _ e3
      subst e1
      subst e3
      have hoff : off = 0 := by
        rcases hm.own.2 with ⟨e, _⟩ | ⟨g', cap', cur, e, _⟩
        · injection e with e _ _; cases e
        · injection e with e _ _; injection e with e; injection e
      subst hoff
      have hgW : W.heap.size ≤ g := (hlt g (by simpa using h5)).1
      have hgp : g ≠ q := by omega
      refine .inr ⟨g, 0, rfl, ⟨by rw [hsz]; exact h6, fun e => by have := hfv g e; omega⟩, hgp, h3, h4, fun j u hu => ?_⟩
      have h8 := h7 j u hu
      rw [Nat.zero_add] at h8 ⊢
      exact (World.cell?_of_block (w := w) (blk_set_ne _ hgp)).trans h8
  · have hk1 := hfv k hk
    rw [hf.block k (by have := hm.bel.size; omega) (fun e => h.s (e ▸ hk)), hm.bel.block k hk1]
  · exact ((Fr.of_below (F := fun _ => False) hm.bel).mono (fun _ _ h => h.elim)).trans hf
  · rintro k (rfl | ⟨ad, rfl, rfl⟩ | hk)
    · exact .inl (.inl rfl)
    · right
      rcases hrow.2 with ⟨h1, _⟩ | ⟨g, off, cap, hv, _, _, h5, _⟩
      · injection h1 with e _ _; cases e
      · injection hv with e1 _ _
        injection e1 with e1
        subst e1
        exact (hlt g (by simpa using h5)).1
    · exact .inl (.inr (.inr hk))
/-- The outcomes' row is another one. -/
theorem RB.setF {W : World} {fs' : List FateM} {fv' : Value} (h : RB W q cost now L fs a c fv) (hf : Fr (fun k => fv.ownBlock = some k) W w) (hr : w.ownsRow 0 35 3 fv' fs'.length (fcells fs')) (hat : ∀ k, fv'.ownBlock = some k → fv.ownBlock = some k ∨ W.heap.size ≤ k) :
    RB (w.setCell ⟨q, 3, none⟩ fv') q cost now L fs' a c fv' ∧ Fr (RF q a fv) W (w.setCell ⟨q, 3, none⟩ fv') ∧ Gro (RF q a fv) (RF q a fv') W := by
  have hb := hf.blk h.blk h.s
  have hf2 := frq w q 3 fv'
  have hql := lt_blk h.blk
  have h4 : ¬ fv'.ownBlock = some q := fun e => by
    rcases hat q e with e | e
    · exact h.s e
    · omega
  refine ⟨⟨by rw [blk_set hb]; simp, ?_, ownsRow_fr hr (fun k hk => hf2.block k (ownsRow_lt hr hk).2 (fun e => h4 (e ▸ hk))), h4⟩, (hf.mono (fun k _ e => .inr (.inr e))).trans (hf2.mono (fun k _ e => .inl e)), ?_⟩
  · rcases h.row with h1 | ⟨g, off, e, hg, hgp, h1, h2, h3⟩
    · exact .inl h1
    · refine .inr ⟨g, off, e, ⟨by have := hf.size; have := hf2.size; omega, fun e2 => ?_⟩, hgp, h1, h2, fun j u hu => ?_⟩
      · rcases hat g e2 with e3 | e3
        · exact hg.2 e3
        · omega
      · exact (hf2.cell (p := ⟨g, off + j, none⟩) (by have := hf.size; show g < w.heap.size; omega) hgp).trans ((hf.cell (p := ⟨g, off + j, none⟩) hg.1 hg.2).trans (h3 j u hu))
  · rintro k (rfl | hk | hk)
    · exact .inl (.inl rfl)
    · exact .inl (.inr (.inl hk))
    · rcases hat k hk with e | e
      · exact .inl (.inr (.inr e))
      · exact .inr e
/-- The time goes on. -/
theorem RB.setNow (h : RB w q cost now L fs a c fv) (t : Nat) : RB (w.setCell ⟨q, 1, none⟩ (.int .u64 t)) q cost t L fs a c fv := by
  have hf := frq w q 1 (.int .u64 t)
  refine ⟨by rw [blk_set h.blk]; simp, ?_, ownsRow_fr h.out (fun k hk => hf.block k (ownsRow_lt h.out hk).2 (fun e => h.s (e ▸ hk))), h.s⟩
  rcases h.row with h1 | ⟨g, off, e, hg, hgp, h1, h2, h3⟩
  · exact .inl h1
  · exact .inr ⟨g, off, e, ⟨Nat.lt_of_lt_of_le hg.1 hf.size, hg.2⟩, hgp, h1, h2, fun j u hu => (hf.cell (p := ⟨g, off + j, none⟩) hg.1 hgp).trans (h3 j u hu)⟩
end
/-- The two slices of a row, or of nil. -/
theorem TRow.slices {w : World} {G : Nat → Prop} {p : Nat} {a : Option Addr} {c : Nat} {L : List Tm} (h : TRow w G p a c L) (hlt : ∀ k, G k → k < w.heap.size) {P : Program} {t e : TypeId} {i : TypeInfo} (ht : P.underlying t = some (.slice e)) (hi : P.info? e = some i) (hz : i.size = 2) {k : Nat} (hk : k ≤ L.length) :
    ∃ a1 a2, (∀ w, (Instr.slice t (.slice a L.length c) none (some (.int .i64 (k : Int))) none).run P w = .ok (.slice a1 k c) w) ∧ (∀ w, (Instr.slice t (.slice a L.length c) (some (.int .i64 (k : Int))) none none).run P w = .ok (.slice a2 (L.length - k) (c - k)) w) ∧ SrcAt w a1 k (tcells (L.take k)) ∧ SrcAt w a2 (L.length - k) (tcells (L.drop k)) := by
  have he : P.elem t = e := by unfold Program.elem; rw [ht]
  have ht' : P.underlying t = some (.slice (P.elem t)) := by rw [he]; exact ht
  have hs : ∀ w, (sizeOf (P.elem t)).run P w = .ok 2 w := fun w => by rw [he]; simp [sizeOf, typeInfo, hi, hz]
  have hlc : L.length ≤ c := by
    rcases h with ⟨_, rfl, _⟩ | ⟨_, _, _, _, _, h, _⟩
    · simp
    · exact h
  have r1 : ∀ w, (Instr.slice t (.slice a L.length c) none (some (.int .i64 (k : Int))) none).run P w = .ok (sliced a 0 k c 2) w := fun w => by
    rw [run_slice_h w t a L.length c ht' .i64 k (by omega) (by omega), hs]
    simp [Result.andThen]
  have r2 : ∀ w, (Instr.slice t (.slice a L.length c) (some (.int .i64 (k : Int))) none none).run P w = .ok (sliced a k L.length c 2) w := fun w => by
    rw [run_slice_l w t a L.length c ht' .i64 k (by omega) (by omega), hs]
    simp [Result.andThen]
  refine ⟨_, _, r1, r2, ?_, ?_⟩
  · rcases h with ⟨rfl, rfl, rfl⟩ | ⟨g, off, rfl, hg, _, _, _, hc⟩
    · simp only [List.length_nil, Nat.le_zero] at hk
      subst hk
      exact .inl ⟨rfl, rfl, rfl⟩
    · have e : (if c = 0 then some (⟨g, off, none⟩ : Addr) else (some (⟨g, off, none⟩ : Addr)).map (·.add (0 * 2))) = some ⟨g, off, none⟩ := by
        split
        · rfl
        · simp [addr_add]
      rw [e]
      exact src_take (hlt g hg) hc
  · rcases h with ⟨rfl, rfl, rfl⟩ | ⟨g, off, rfl, hg, _, _, _, hc⟩
    · simp only [List.length_nil, Nat.le_zero] at hk
      subst hk
      exact .inl ⟨rfl, rfl, rfl⟩
    · have e : ∃ A, (if c = k then some (⟨g, off, none⟩ : Addr) else (some (⟨g, off, none⟩ : Addr)).map (·.add (k * 2))) = some A ∧ (k < L.length → A = ⟨g, off + k * 2, none⟩) := by
        split
        · exact ⟨_, rfl, fun h => by omega⟩
        · exact ⟨_, rfl, fun _ => addr_add _ _ _⟩
      obtain ⟨A, hA, hA2⟩ := e
      rw [hA]
      exact src_drop (hlt g hg) hk hc A hA2

/-- The row without its first. -/
theorem TRow.tail {w : World} {G : Nat → Prop} {p : Nat} {a : Option Addr} {c : Nat} {m : Tm} {L : List Tm} (h : TRow w G p a c (m :: L)) {P : Program} {t e : TypeId} {i : TypeInfo} (ht : P.underlying t = some (.slice e)) (hi : P.info? e = some i) (hz : i.size = 2) {n : Nat} (hn : (m :: L).length = n) :
    ∃ a2, (∀ w, (Instr.slice t (.slice a n c) (some (.int .i64 1)) none none).run P w = .ok (.slice a2 (n - 1) (c - 1)) w) ∧ TRow w G p a2 (c - 1) L ∧
      ∃ g off, a = some ⟨g, off, none⟩ ∧ w.cell? ⟨g, off, none⟩ = some (.int .i64 m.id) ∧ w.cell? ⟨g, off + 1, none⟩ = some (.int .u64 m.at') := by
  have he : P.elem t = e := by unfold Program.elem; rw [ht]
  have ht' : P.underlying t = some (.slice (P.elem t)) := by rw [he]; exact ht
  have hs : ∀ w, (sizeOf (P.elem t)).run P w = .ok 2 w := fun w => by rw [he]; simp [sizeOf, typeInfo, hi, hz]
  have h1n : 1 ≤ n := by rw [← hn]; simp
  have r2 : ∀ w, (Instr.slice t (.slice a n c) (some (.int .i64 1)) none none).run P w = .ok (sliced a 1 n c 2) w := fun w => by
    rw [run_slice_l w t a n c ht' .i64 1 (by omega) (by omega), hs]
    simp [Result.andThen]
  refine ⟨_, r2, ?_⟩
  rcases h with ⟨_, e0, _⟩ | ⟨g, off, rfl, hg, hgp, hlc, hcm, hc⟩
  · cases e0
  · have hd := tcells_get (L := m :: L) (i := 0) (by simp)
    refine ⟨?_, g, off, rfl, by simpa using hc 0 _ (by simpa using hd.1), by simpa using hc 1 _ (by simpa using hd.2)⟩
    have hL : L.length ≤ c - 1 := by simp only [List.length_cons] at hlc; omega
    by_cases ec : c = 1
    · have hL0 : L = [] := by
        apply List.eq_nil_of_length_eq_zero; omega
      refine .inr ⟨g, off, by rw [if_pos ec], hg, hgp, hL, by omega, fun j u hu => ?_⟩
      subst hL0
      simp [tcells] at hu
    · refine .inr ⟨g, off + 2, ?_, hg, hgp, hL, by omega, fun j u hu => ?_⟩
      · rw [if_neg ec]
        show some ((⟨g, off, none⟩ : Addr).add (1 * 2)) = _
        rw [addr_add]
      · have e1 : tcells (m :: L) = [.int .i64 m.id, .int .u64 m.at'] ++ tcells L := rfl
        have := hc (2 + j) u (by
          rw [e1, List.getElem?_append_right (by simp)]
          simpa using hu)
        rwa [← Nat.add_assoc] at this
def lenOf (v : Value) : Nat := match v with | .slice _ n _ => n | _ => 0
set_option maxHeartbeats 1000000 in
theorem rbfind_any (q cost now : Nat) (L : List Tm) (fs : List FateM) (a : Option Addr) (c : Nat) (fv : Value) (x r : Int) (w : World) (h : RB w q cost now L fs a c fv) (hr : FindR L x r) :
    Calls Try.prog 30 #[.pointer (some ⟨q, 0, none⟩), .int .i64 x] w fun e w' => e = .returned (.int .i64 r) ∧ w = w' := by
  have HF := Box.mk hr
  clear hr
  have hr := h.row
  have hc0 := h.c2
  clear h
  rcases hr with ⟨rfl, rfl, rfl⟩ | ⟨g, off, rfl, _, _, hlc, hcm, hcell⟩
  · have HR : Box (r = -1) := ⟨by rcases HF.out with ⟨k, _, hk, _⟩ | ⟨e, _⟩; (simp at hk); exact e⟩
    go_enter Try.func30, Try.ntmps30
    go_wp2
    refine wp_loop_rounds 1 ?_
    rw [rounds_succ]
    go_wp2
    go_ret
    exact ⟨ret_int HR.out.symm, rfl⟩
  · have HC := Box.mk hcell
    have hL63 : L.length ≤ 9223372036854775807 := by omega
    clear hcell hlc hcm
    go_enter Try.func30, Try.ntmps30
    go_wp2
    go_loop [5] (fun i => ∃ k : Nat, k ≤ L.length ∧ i = .int .i64 k ∧ Box (∀ j (hj : j < L.length), j < k → L[j].id ≠ x)) (fun i => L.length - (intOf i).toNat)
    case atStart => exact ⟨0, Nat.zero_le _, rfl, ⟨fun j _ h => by omega⟩⟩
    case round =>
      obtain ⟨k, hk, rfl, HX⟩ := hrel
      by_cases hlt : k < L.length
      · have hcl := HC.out _ _ (tcells_get hlt).1
        by_cases hq : x = L[k].id
        · have HR : Box (r = (k : Int)) := ⟨by
            rcases HF.out with ⟨k', e, hk', h1, h2⟩ | ⟨_, h1⟩
            · rcases Nat.lt_trichotomy k k' with g | g | g
              · exact absurd hq.symm (h2 k hlt g)
              · rw [e, g]
              · exact absurd h1 (HX.out k' hk' g)
            · exact absurd hq.symm (h1 _ (List.getElem_mem hlt))⟩
          have hq' : (L[k].id == x) = true := by simp [hq]
          clear hq
          generalize L[k].id = y at hcl hq'
          go_wp2
          go_ret
          exact ⟨ret_int HR.out.symm, rfl⟩
        · have HR : Box (∀ j (hj : j < L.length), j < k + 1 → L[j].id ≠ x) := ⟨fun j hj hjk => by
            by_cases e : j = k
            · subst e; exact fun h => hq h.symm
            · exact HX.out j hj (by omega)⟩
          have hq' : (L[k].id == x) = false := by simp; exact fun e => hq e.symm
          clear hq
          generalize L[k].id = y at hcl hq'
          go_wp2
          go_round
          case rel => exact ⟨k + 1, by omega, by go_num, HR⟩
          case measure => simp [intOf]; omega
      · have HR : Box (r = -1) := ⟨by
          rcases HF.out with ⟨k', e, hk', h1, h2⟩ | ⟨e, h1⟩
          · exact absurd h1 (HX.out k' hk' (by omega))
          · exact e⟩
        go_wp2
        go_ret
        exact ⟨ret_int HR.out.symm, rfl⟩


end Go.Proofs.Ytbodnmcaipakcaa
