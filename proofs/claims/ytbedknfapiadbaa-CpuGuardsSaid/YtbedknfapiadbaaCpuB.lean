/-
  The walks of spor's Use, May and New.
-/
import Derived.Test.YtbedknfapiadbaaCpuA
namespace Go.Proofs.Ytbedknfapiadbaa
open Go.RowKit

theorem Try.infoU64 : (Try.prog.info? 32).map (fun i => (i.zero, i.size, i.bytes)) = some (some (.int .u64 0), 1, 8) := by kernel_rfl

/-- A budget's state when a unit was asked for. -/
def BudM.use (b : BudM) (t : Nat) : BudM := if (b.at t).left = 0 then b.at t else (b.at t).used
theorem BudM.Ok.use {b : BudM} (h : b.Ok) (t : Nat) : (b.use t).Ok := by
  unfold BudM.use
  split
  · exact h.at t
  · rename_i hne
    refine (h.at t).used ?_
    have := (h.at t).len
    unfold BudM.left at hne ⊢
    omega

theorem use_end {w w1 w3 : World} {p : Nat} {bu : Int} {pe no n S c3 B : Nat} {ba : List Nat} {a3 : Option Addr} {G : Nat → Prop} (hgp : G p) (hB1 : BudAt w1 p ⟨⟨bu, pe⟩, ba, no⟩ G true) (hF1 : Fr (fun k => k = p) w w1) (hb : Below w1.heap.size w1 w3)
    (hn : ba.length = n) (hS : no + pe = S) (hB : w1.heap.size ≤ B) (ho : w3.ownsRow B 32 1 (.slice a3 (n + 1) c3) (n + 1) (ucells ba ++ [.int .u64 S])) :
    BPost w p (BudM.used ⟨⟨bu, pe⟩, ba, no⟩) G false (w3.setCell ⟨p, 2, none⟩ (.slice a3 (n + 1) c3)) := by
  obtain ⟨a, c, hblk, hr, _⟩ := hB1.at'
  have hpl := lt_blk hblk
  have hb3 : w3.heap[p]? = some (.cells #[.int .i64 bu, .int .u64 pe, .slice a ba.length c, .int .u64 no] 94 (0, 0)) := by rw [hb.block p hpl]; exact hblk
  have hlt := ho.lt
  have hrow := RowAt.of_owns ho
  have hsz : (w3.setCell ⟨p, 2, none⟩ (.slice a3 (n + 1) c3)).heap.size = w3.heap.size := by simp [World.setCell]
  refine ⟨fun k => k = p ∨ (Value.slice a3 (n + 1) c3).ownBlock = some k, ⟨.inl rfl, ?_, a3, c3, ?_, ?_, fun e => by cases e⟩, ?_, ?_⟩
  · rintro k (rfl | hk)
    · rw [hsz]; exact lt_blk hb3
    · rw [hsz]; exact (hlt k hk).2
  · have := blk_set (i := 2) hb3 (.slice a3 (n + 1) c3)
    simp only [List.setIfInBounds_toArray, List.set_cons_succ, List.set_cons_zero] at this
    show _ = some (Obj.cells #[Value.int .i64 bu, Value.int .u64 pe, Value.slice a3 (ba ++ [no + pe]).length c3, Value.int .u64 no] 94 (0, 0))
    rw [show (ba ++ [no + pe]).length = n + 1 from by simp [hn]]
    exact this
  · show URow _ _ p a3 c3 (ba ++ [no + pe])
    rcases hrow.2 with ⟨_, h2⟩ | ⟨g, off, cap, hv, h3, h4, h5, h6, h7⟩
    · omega
    · injection hv with e1 _ e3
      subst e1
      subst e3
      have hgp2 : g ≠ p := by have := (hlt g h5).1; omega
      refine .inr ⟨g, off, rfl, .inr h5, hgp2, by simp [hn]; exact h3, h4, fun j u hu => ?_⟩
      have hu2 : (ucells ba ++ [Value.int .u64 S])[j]? = some u := by rw [← hu, ← hS]; simp
      exact (World.cell?_of_block (w := w3) (blk_set_ne _ hgp2)).trans (h7 j u hu2)
  · exact (hF1.mono (fun k _ e => e ▸ hgp)).trans (((Fr.of_below (F := fun _ => False) hb).mono (fun _ _ h => h.elim)).setCell (F := G) (p := ⟨p, 2, none⟩) (.inl hgp) _)
  · rintro k (rfl | hk)
    · exact .inl hgp
    · exact .inr (by have := (hlt k hk).1; have := hF1.size; omega)

set_option maxHeartbeats 4000000 in
theorem use_any (p : Nat) (M : BudM) (G : Nat → Prop) (f : Bool) (t : Nat) (w : World) (h : BudAt w p M G f) (hok : M.Ok) (ht : t < 4611686018427387904) (hle : M.now ≤ t) :
    Calls Try.prog 42 #[.pointer (some ⟨p, 0, none⟩), .int .u64 t] w fun e w' => e = .returned (.tuple #[.bool (decide (¬ (M.at t).left = 0)), .int .i64 0]) ∧ BPost w p (M.use t) G false w' := by
  have hs := ServM.ok_iff.1 hok.s
  have hln := hok.len
  have hlf := left_any p M G f t w h ht hle ⟨by omega, by omega⟩ (by omega)
  have hgp := h.gp
  have hM1 := hok.at t
  have hs1 : (M.at t).s = M.s := rfl
  have hn1 : (M.at t).now = t := rfl
  have HU : Box (M.use t = if (M.at t).left = 0 then M.at t else (M.at t).used) := ⟨rfl⟩
  generalize M.use t = M2 at HU ⊢
  generalize M.at t = M1 at hlf hM1 hs1 hn1 HU ⊢
  have HL := Box.mk hlf
  have H := Box.mk h
  clear hlf h
  by_cases h0 : M1.left = 0
  · have hd : decide (¬ M1.left = 0) = false := by simp [h0]
    have HE : Box (M2 = M1) := ⟨by rw [HU.out, if_pos h0]⟩
    clear HU
    go_enter Try.func42, Try.ntmps42
    go_wp2_with (go_at_call 54; refine HL.out.mono ?_; rw [h0]; rintro e w1 ⟨rfl, hb1, hf1⟩; have HB1 := Box.mk hb1; have HF1 := Box.mk hf1; clear hb1 hf1)
    go_ret2
    rw [hd, HE.out]
    exact ⟨rfl, G, HB1.out.any, HF1.out.mono (fun k _ e => e ▸ hgp), Gro.refl _ _⟩
  · have hd : decide (¬ M1.left = 0) = true := by simp [h0]
    have HE : Box (M2 = M1.used) := ⟨by rw [HU.out, if_neg h0]⟩
    clear HU
    obtain ⟨L, hL⟩ : ∃ L, M1.left = L := ⟨_, rfl⟩
    rw [hL] at h0
    have hle1 : M1.back.length ≤ 200 := by have := hM1.len; rw [hs1] at this; omega
    have HOK1 := Box.mk hM1
    go_enter Try.func42, Try.ntmps42
    have hz : (L == 0) = false := beq_eq_false_iff_ne.2 h0
    go_upto_region 4 with (go_at_call 54; refine HL.out.mono ?_; rw [hL]; rintro e w1 ⟨rfl, hb1, hf1⟩; have HB1 := Box.mk hb1; have HF1 := Box.mk hf1; clear hb1 hf1)
    obtain ⟨⟨bu, pe⟩, ba, no⟩ := M1
    simp only at hn1 hs1 hle1
    subst hn1
    obtain ⟨a, c, hblk, hr, hfull⟩ := HB1.out.at'
    have hc := hfull rfl
    simp only at hblk hr hc
    subst hc
    have hpe : (pe : Int) ≤ 1073741824 := by have := ServM.ok_iff.1 HOK1.out.s; simp only at this; omega
    have hpl := lt_blk hblk
    have d1 := cell_blk hblk 1
    have d2 := cell_blk hblk 2
    simp only [List.getElem?_toArray, List.getElem?_cons_zero, List.getElem?_cons_succ] at d1 d2
    have f2 := free_blk hblk 2
    obtain ⟨n, hn⟩ : ∃ n, ba.length = n := ⟨_, rfl⟩
    have HN := Box.mk hn
    rw [hn] at d2 hle1
    have hsum : IntKind.u64.wrap ((no : Int) + (pe : Int)) = ((no + pe : Nat) : Int) := by rw [IntWalk.u64_in _ (by omega)]; omega
    obtain ⟨S, hS⟩ : ∃ S, no + pe = S := ⟨_, rfl⟩
    have HS := Box.mk hS
    rw [hS] at hsum
    have HBK := Box.mk hblk
    have HD2 := Box.mk d2
    have HF2 := Box.mk f2
    obtain ⟨i0, hi, hz0, hz1, hz2⟩ := info_parts Try.infoU64
    have HR := Box.mk hr
    have hnone : a = none → n = 0 ∧ n = 0 := by
      intro e
      rcases HR.out with ⟨_, e2, _⟩ | ⟨_, _, e2, _⟩
      · rw [← HN.out, e2]; exact ⟨rfl, rfl⟩
      · rw [e] at e2; cases e2
    have holds : ∀ b, a = some b → ∀ j u, (ucells ba)[j]? = some u → w1.cell? (b.add j) = some u ∧ b.block < w1.heap.size := by
      intro b e j u hu
      rcases HR.out with ⟨e2, _⟩ | ⟨g, off, e2, hg, _, _, _, hcell⟩
      · rw [e2] at e; cases e
      · rw [e2] at e
        simp only [Option.some.injEq] at e
        subst e
        have hadd : (⟨g, off, none⟩ : Addr).add j = ⟨g, off + j, none⟩ := by unfold Addr.add; split; (rename_i h; subst h; rfl); rfl
        rw [hadd]
        exact ⟨hcell j u hu, HB1.out.lt g hg⟩
    have HNO := Box.mk hnone
    have HHO : Box (∀ b, a = some b → ∀ j u, (ucells ba)[j]? = some u → (w1.alloc (.cells #[.int .u64 S] 32)).drew.cell? (b.add j) = some u) := ⟨fun b e j u hu => by
      obtain ⟨h1, h2⟩ := holds b e j u hu
      have : (b.add j).block < w1.heap.size := by unfold Addr.add; split <;> exact h2
      exact ((((Below.refl w1.heap.size w1).alloc (Nat.le_refl _) (.cells #[.int .u64 S] 32)).drew).cell (p := b.add j) this).trans h1⟩
    have HLC : Box ((ucells ba).length = n * 1) := ⟨by rw [List.length_map, HN.out]; omega⟩
    have HOC : Box (∀ u ∈ ([.int .u64 S] : List Value), u.oneCell' = true) := ⟨by simp [Value.oneCell']⟩
    clear hblk hr hnone holds hfull hn hS
    go_region_law (refine step_append_grows rfl (.tmp 21) (.tmp 29) 30 rfl 32 i0 (.int .u64 0) 1 8 Try.underlying30 hi hz0 hz1 hz2 rfl (by decide) a n n (ucells ba) (by simp [Act.eval, Act.put]) HNO.out HLC.out HHO.out ⟨w1.heap.size, 0, none⟩ 1 1 [.int .u64 S] (by simp [Act.eval, Act.put, hsum]) rfl (World.news_of_block (cs := #[.int .u64 S]) (blk_new _ _)) HOC.out (by omega) (by unfold maxLen; omega) (by omega) ?_; intro v3 w3 ho3 hg3; have HO := Box.mk ho3; have HG := Box.mk hg3; have hb3 : Below w1.heap.size w1 w3 := (((Below.refl _ _).alloc (Nat.le_refl _) (.cells #[.int .u64 S] 32)).drew).grown hg3 (by simp) (fun k e => by cases e); have HB3 := Box.mk hb3; obtain ⟨a3, c3, hv3⟩ := ownsRow_slice ho3; subst hv3; have d23 := (hb3.cell (p := ⟨p, 2, none⟩) hpl).trans HD2.out; have f23 := (hb3.frozen (p := ⟨p, 2, none⟩) hpl).trans HF2.out; clear ho3 hg3 hb3)
    all_goals
      go_wp2
      go_ret2
      rw [hd, HE.out]
      exact ⟨rfl, use_end hgp HB1.out HF1.out HB3.out HN.out HS.out (by simp) HO.out⟩

end Go.Proofs.Ytbedknfapiadbaa
