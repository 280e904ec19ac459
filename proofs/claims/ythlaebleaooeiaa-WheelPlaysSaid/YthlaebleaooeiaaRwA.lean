/-
  The document's wheel: how its list lies in memory; the walks of 'find', 'At' and 'Cancel'.
-/
import Derived.Test.YthlaebleaooeiaaWhA
import Derived.Test.YthlaebleaooeiaaTimL
import Derived.Deep.RegionLawGrows
namespace Go.Proofs.Ythlaebleaooeiaa
open Go.RowKit

theorem same_drawn {w : World} (n : Nat) : Below w.heap.size w (w.drewN n) := ⟨rfl, rfl, rfl, Nat.le_refl _, fun _ _ => rfl⟩
theorem ret_int {k : IntKind} {a b : Int} (h : a = b) : Ending.returned (.int k a) = .returned (.int k b) := by rw [h]
theorem Try.infoTm : (Try.prog.info? 72).map (fun i => (i.zero, i.size, i.bytes)) = some (some (.agg #[.int .i64 0, .int .u64 0]), 2, 16) := by kernel_rfl
theorem Try.infoInt : (Try.prog.info? 3).map (fun i => (i.zero, i.size, i.bytes)) = some (some (.int .i64 0), 1, 8) := by kernel_rfl

/-- The document's wheel at p. -/
structure RW (w : World) (p : Nat) (L : List Tm) (now : Nat) (G : Nat → Prop) : Prop where
  gp : G p
  lt : ∀ k, G k → k < w.heap.size
  at' : ∃ a c, w.heap[p]? = some (.cells #[.slice a L.length c, .int .u64 now] 48 (0, 0)) ∧ TRow w G p a c L
theorem RW.fr {w w' : World} {p : Nat} {L : List Tm} {now : Nat} {G F : Nat → Prop} (h : RW w p L now G) (hf : Fr F w w') (hG : ∀ k, G k → ¬ F k) : RW w' p L now G := by
  obtain ⟨a, c, hb, hr⟩ := h.at'
  exact ⟨h.gp, fun k hk => Nat.lt_of_lt_of_le (h.lt k hk) hf.size, a, c, hf.blk hb (hG p h.gp), hr.fr h.lt hf (fun k hk _ => hG k hk)⟩
theorem RW.later {w w' : World} {p : Nat} {L : List Tm} {now : Nat} {G : Nat → Prop} (h : RW w p L now G) (hb : Below w.heap.size w w') : RW w' p L now G := h.fr (Fr.of_below (F := fun _ => False) hb) (fun _ _ h => h)
/-- A new one. -/
theorem RW.new (w : World) : RW (w.alloc (.cells #[.slice none 0 0, .int .u64 0] 48)) w.heap.size [] 0 (fun k => k = w.heap.size) :=
  ⟨rfl, fun k hk => by simp [hk], none, 0, blk_new _ _, .inl ⟨rfl, rfl, rfl⟩⟩
/-- What a call leaves of the document's wheel. -/
def RWPost (w : World) (p : Nat) (L' : List Tm) (now : Nat) (G : Nat → Prop) (w' : World) : Prop := ∃ G', RW w' p L' now G' ∧ Fr G w w' ∧ Gro G G' w
theorem rw_store {W w : World} {p c : Nat} {L L' : List Tm} {now : Nat} {G : Nat → Prop} {a : Option Addr} {n : Nat} (h : RW W p L now G) (hn : L'.length = n) (hm : Mid W 72 2 a n c (tcells L') w) :
    RWPost W p L' now G (w.setCell ⟨p, 0, none⟩ (.slice a n c)) := by
  subst hn
  obtain ⟨a0, c0, hb, _⟩ := h.at'
  have hpl := lt_blk hb
  have hb' : w.heap[p]? = some (.cells #[.slice a0 L.length c0, .int .u64 now] 48 (0, 0)) := by rw [hm.bel.block p hpl]; exact hb
  have hrow := RowAt.of_owns hm.own
  have hlt := hm.own.lt
  refine ⟨fun k => k = p ∨ (Value.slice a L'.length c).ownBlock = some k, ⟨.inl rfl, ?_, a, c, ?_, ?_⟩, ?_, ?_⟩
  · rintro k (rfl | hk)
    · simpa [World.setCell] using lt_blk hb'
    · simpa [World.setCell] using (hlt k hk).2
  · have := blk_set (i := 0) hb' (.slice a L'.length c)
    simpa using this
  · rcases hrow.2 with ⟨h1, h2⟩ | ⟨g, off, cap, hv, h3, h4, h5, h6, h7⟩
    · injection h1 with e1 _ e3
      exact .inl ⟨e1, List.length_eq_zero_iff.1 h2, e3⟩
    · injection hv with e1 _ e3
      subst e1
      subst e3
      have hoff : off = 0 := by
        rcases hm.own.2 with ⟨e, _⟩ | ⟨g', cap', cur, e, _⟩
        · injection e with e _ _; cases e
        · injection e with e _ _; injection e with e; injection e
      subst hoff
      have hgp : g ≠ p := by have := (hlt g (by simpa using h5)).1; omega
      refine .inr ⟨g, 0, rfl, .inr (by simpa using h5), hgp, h3, h4, fun j u hu => ?_⟩
      have h8 := h7 j u hu
      rw [Nat.zero_add] at h8 ⊢
      exact (World.cell?_of_block (w := w) (blk_set_ne _ hgp)).trans h8
  · exact ((Fr.of_below (F := fun _ => False) hm.bel).mono (fun _ _ h => h.elim)).setCell (F := G) (.inl h.gp) _
  · rintro k (rfl | hk)
    · exact .inl h.gp
    · exact .inr (hlt k hk).1

set_option maxHeartbeats 1000000 in
theorem rwfind_any (p : Nat) (L : List Tm) (now : Nat) (G : Nat → Prop) (x r : Int) (w : World) (h : RW w p L now G) (hr : FindR L x r) :
    Calls Try.prog 28 #[.pointer (some ⟨p, 0, none⟩), .int .i64 x] w fun e w' => e = .returned (.int .i64 r) ∧ w = w' := by
  have HF := Box.mk hr
  clear hr
  obtain ⟨a, c, hb, hr⟩ := h.at'
  have hc0 := cell_blk hb 0
  clear hb h
  simp only [List.getElem?_toArray, List.getElem?_cons_zero] at hc0
  rcases hr with ⟨rfl, rfl, rfl⟩ | ⟨g, off, rfl, _, _, hlc, hcm, hcell⟩
  · have HR : Box (r = -1) := ⟨by rcases HF.out with ⟨k, _, hk, _⟩ | ⟨e, _⟩; (simp at hk); exact e⟩
    go_enter Try.func28, Try.ntmps28
    go_wp2
    refine wp_loop_rounds 1 ?_
    rw [rounds_succ]
    go_wp2
    go_ret
    exact ⟨ret_int HR.out.symm, rfl⟩
  · have HC := Box.mk hcell
    have hL63 : L.length ≤ 9223372036854775807 := by omega
    clear hcell hlc hcm
    go_enter Try.func28, Try.ntmps28
    go_wp2
    go_loop [5] (fun i => ∃ k : Nat, k ≤ L.length ∧ i = .int .i64 k ∧ Box (∀ j (hj : j < L.length), j < k → L[j].id ≠ x)) (fun i => L.length - (intOf i).toNat)
    case atStart => exact ⟨0, Nat.zero_le _, rfl, ⟨fun j _ h => by omega⟩⟩
    case round =>
      obtain ⟨k, hk, rfl, HX⟩ := hrel
      by_cases hlt : k < L.length
      · have hcl := HC.out _ _ (tcells_get hlt).1
        by_cases hq : x = L[k].id
        · have HR : Box (r = (k : Int)) := ⟨by
            rcases HF.out with ⟨k', e, hk', h1, h2⟩ | ⟨_, h1⟩
            · rcases Nat.lt_trichotomy k k' with g | g | g
              · exact absurd hq.symm (h2 k hlt g)
              · rw [e, g]
              · exact absurd h1 (HX.out k' hk' g)
            · exact absurd hq.symm (h1 _ (List.getElem_mem hlt))⟩
          have hq' : (L[k].id == x) = true := by simp [hq]
          clear hq
          generalize L[k].id = y at hcl hq'
          go_wp2
          go_ret
          exact ⟨ret_int HR.out.symm, rfl⟩
        · have HR : Box (∀ j (hj : j < L.length), j < k + 1 → L[j].id ≠ x) := ⟨fun j hj hjk => by
            by_cases e : j = k
            · subst e; exact fun h => hq h.symm
            · exact HX.out j hj (by omega)⟩
          have hq' : (L[k].id == x) = false := by simp; exact fun e => hq e.symm
          clear hq
          generalize L[k].id = y at hcl hq'
          go_wp2
          go_round
          case rel => exact ⟨k + 1, by omega, by go_num, HR⟩
          case measure => simp [intOf]; omega
      · have HR : Box (r = -1) := ⟨by
          rcases HF.out with ⟨k', e, hk', h1, h2⟩ | ⟨e, h1⟩
          · exact absurd h1 (HX.out k' hk' (by omega))
          · exact e⟩
        go_wp2
        go_ret
        exact ⟨ret_int HR.out.symm, rfl⟩

/-- What At tells. -/
def atV (L : List Tm) (x : Int) (t : Nat) (c : Int) : Prop := (c = 0 ∧ ∃ m ∈ L, m.id = x ∧ m.at' = t) ∨ (c = 6 ∧ t = 0 ∧ ∀ m ∈ L, m.id ≠ x)
set_option maxHeartbeats 1000000 in
theorem rwat_any (p : Nat) (L : List Tm) (now : Nat) (G : Nat → Prop) (x : Int) (w : World) (h : RW w p L now G) :
    Calls Try.prog 20 #[.pointer (some ⟨p, 0, none⟩), .int .i64 x] w fun e w' => (∃ t c, e = .returned (.tuple #[.int .u64 (t : Nat), .int .i64 c]) ∧ atV L x t c) ∧ Below w.heap.size w w' := by
  obtain ⟨r, hr⟩ := findR_ex L x
  have HF := Box.mk (rwfind_any p L now G x r w h hr)
  obtain ⟨a, c, hb, hrow⟩ := h.at'
  have hc0 := cell_blk hb 0
  clear hb h
  simp only [List.getElem?_toArray, List.getElem?_cons_zero] at hc0
  rcases hr with ⟨k, rfl, hk, h1, _⟩ | ⟨rfl, h1⟩
  · rcases hrow with ⟨_, rfl, _⟩ | ⟨g, off, rfl, _, _, hlc, hcm, hcell⟩
    · simp at hk
    · have hcl := hcell _ _ (tcells_get hk).2
      rw [← Nat.add_assoc] at hcl
      have HE : Box (atV L x L[k].at' 0) := ⟨.inl ⟨rfl, _, List.getElem_mem hk, h1, rfl⟩⟩
      have hL63 : L.length ≤ 9223372036854775807 := by omega
      have hn0 : ¬ (k : Int) < 0 := by omega
      have hk0 : (0 : Int) ≤ k := by omega
      have hki : (k : Int) < L.length := by omega
      clear hcell hlc hcm h1
      generalize L[k].at' = y at hcl HE
      go_enter Try.func20, Try.ntmps20
      go_wp2_with (go_at_call 28; (with_reducible refine HF.out.mono ?_); rintro e w1 ⟨rfl, rfl⟩)
      go_ret2
      exact ⟨⟨y, 0, rfl, HE.out⟩, Below.refl _ _⟩
  · have HE : Box (atV L x 0 6) := ⟨.inr ⟨rfl, rfl, h1⟩⟩
    clear h1 hrow
    go_enter Try.func20, Try.ntmps20
    go_wp2_with (go_at_call 28; (with_reducible refine HF.out.mono ?_); rintro e w1 ⟨rfl, rfl⟩)
    go_ret2
    exact ⟨⟨0, 6, rfl, HE.out⟩, Below.refl _ _⟩

end Go.Proofs.Ythlaebleaooeiaa
