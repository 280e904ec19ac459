/-
  The walk of cpu's Tick.
-/
import Derived.Test.YtbedknfapiadbaaCpuI
namespace Go.Proofs.Ytbedknfapiadbaa
open Go.RowKit

set_option maxHeartbeats 8000000 in
set_option maxRecDepth 100000 in
theorem tick_any (y : Lay) (M : CpuM) (w : World) (h : CpuAt w y M) (hok : CpuOk M) :
    Calls Try.prog 14 #[.pointer (some ⟨y.c, 0, none⟩)] w (TickPost w y M) := by
  have hf0 : Fr (fun _ => False) w ((w.alloc (.cells #[.int .i64 0, .slice none 0 0, .slice none 0 0, .slice none 0 0] 36)).alloc (.cells #[.func (Fn.func 30) #[.pointer (some ⟨y.c, 0, none⟩)] #[], .func (Fn.func 31) #[.pointer (some ⟨y.c, 0, none⟩)] #[]] 80)) := ((Fr.refl _ w).alloc _).alloc _
  have hB := blk_alloc (o := .cells #[.func (Fn.func 30) #[.pointer (some ⟨y.c, 0, none⟩)] #[], .func (Fn.func 31) #[.pointer (some ⟨y.c, 0, none⟩)] #[]] 80) (blk_new w (.cells #[.int .i64 0, .slice none 0 0, .slice none 0 0, .slice none 0 0] 36))
  have hF := blk_new (w.alloc (.cells #[.int .i64 0, .slice none 0 0, .slice none 0 0, .slice none 0 0] 36)) (.cells #[.func (Fn.func 30) #[.pointer (some ⟨y.c, 0, none⟩)] #[], .func (Fn.func 31) #[.pointer (some ⟨y.c, 0, none⟩)] #[]] 80)
  rw [show (w.alloc (.cells #[.int .i64 0, .slice none 0 0, .slice none 0 0, .slice none 0 0] 36)).heap.size = w.heap.size + 1 from by simp] at hF
  have ho1 : y.own (w.heap.size + 1) = none := by cases e : y.own (w.heap.size + 1) with | none => rfl | some x => exact absurd (h.lt _ (by rw [e]; simp)) (by omega)
  have ho0 : y.own w.heap.size = none := by cases e : y.own w.heap.size with | none => rfl | some x => exact absurd (h.lt _ (by rw [e]; simp)) (by omega)
  have HST := Box.mk (step_any y M (w.heap.size + 1) _ (h.fr hf0 (fun _ _ h => h)) hok hF ho1)
  have HO0 := Box.mk ho0
  have HB0 := Box.mk hB
  have HF0 := Box.mk hf0
  have H := Box.mk h
  clear h hok hf0 hB hF ho1 ho0
  go_enter Try.func14, Try.ntmps14
  go_wp2_with (go_at_call 29; refine HST.out.mono ?_; rintro e w5 ⟨M1, who, nd, nc, a1, c1, a2, c2, a3, c3, hran, rfl, y5, hyc, ha5, hf5, hs5⟩; have hb5 := hf5.blk HB0.out (fun e => e HO0.out); have HB5 := Box.mk hb5; have HRM := Box.mk hran; have HYC := Box.mk hyc; have HA5 := Box.mk ha5; have HF5 := Box.mk hf5; have HS5 := Box.mk hs5; have b0 := cell_blk hb5 0; have b1 := cell_blk hb5 1; have b2 := cell_blk hb5 2; have b3 := cell_blk hb5 3; have bf0 := free_blk hb5 0; have bf1 := free_blk hb5 1; have bf2 := free_blk hb5 2; have bf3 := free_blk hb5 3; simp only [List.getElem?_toArray, List.getElem?_cons_zero, List.getElem?_cons_succ] at b0 b1 b2 b3; clear hran hyc ha5 hf5 hs5 hb5)
  obtain ⟨B, hB⟩ : ∃ B, w.heap.size = B := ⟨_, rfl⟩
  have HBw := Box.mk hB
  rw [hB] at HB5 HO0 ⊢
  clear hB
  obtain ⟨ln, hln⟩ : ∃ ln, (lateIds (M.now + 1) M1.tasks M1.tasks.length).length = ln := ⟨_, rfl⟩
  have HLN := Box.mk hln
  rw [hln]
  clear hln
  have hz0 := blk_set (i := 0) HB5.out (.int .i64 who)
  have hz1 := blk_set (i := 1) hz0 (.slice a1 nd c1)
  have hz2 := blk_set (i := 2) hz1 (.slice a2 nc c2)
  have hz3 := blk_set (i := 3) hz2 (.slice a3 ln c3)
  simp only [List.setIfInBounds_toArray, List.set_cons_succ, List.set_cons_zero] at hz0 hz1 hz2 hz3
  have HFZ : Box (Fr (fun b => b = B) w5 ((((w5.setCell ⟨B, 0, none⟩ (.int .i64 who)).setCell ⟨B, 1, none⟩ (.slice a1 nd c1)).setCell ⟨B, 2, none⟩ (.slice a2 nc c2)).setCell ⟨B, 3, none⟩ (.slice a3 ln c3))) :=
    ⟨((((Fr.refl _ w5).setCell (F := fun b => b = B) (p := ⟨B, 0, none⟩) (.inl rfl) _).setCell (F := fun b => b = B) (p := ⟨B, 1, none⟩) (.inl rfl) _).setCell (F := fun b => b = B) (p := ⟨B, 2, none⟩) (.inl rfl) _).setCell (F := fun b => b = B) (p := ⟨B, 3, none⟩) (.inl rfl) _⟩
  have HZB := Box.mk hz3
  clear hz0 hz1 hz2 hz3
  generalize (((w5.setCell ⟨B, 0, none⟩ (.int .i64 who)).setCell ⟨B, 1, none⟩ (.slice a1 nd c1)).setCell ⟨B, 2, none⟩ (.slice a2 nc c2)).setCell ⟨B, 3, none⟩ (.slice a3 ln c3) = V6 at HFZ HZB ⊢
  have s0 := cell_blk HZB.out 0
  have s1 := cell_blk HZB.out 1
  have s2 := cell_blk HZB.out 2
  have s3 := cell_blk HZB.out 3
  simp only [List.getElem?_toArray, List.getElem?_cons_zero, List.getElem?_cons_succ] at s0 s1 s2 s3
  refine bodyPost_ret (v := .tuple #[.agg #[.int .i64 who, .slice a1 nd c1, .slice a2 nc c2, .slice a3 ln c3], .int .i64 0]) (by rw [results_cell_tmp rfl]; simp [go_sem, s0, s1, s2, s3]) rfl ?_
  have hs1 : Same w V6 y.own y5.own := ⟨fun b hb => HS5.out.1 b (Nat.lt_of_lt_of_le hb HF0.out.size), fun b hb => Nat.lt_of_lt_of_le (HS5.out.2 b hb) HFZ.out.size⟩
  have ho5 : y5.own B = none := by
    have := HBw.out
    rw [HS5.out.1 B (lt_blk (by rw [← this]; exact HB0.out)), HO0.out]
  refine ⟨M1, who, nd, nc, a1, c1, a2, c2, a3, c3, HRM.out, by rw [HLN.out], y5, HYC.out, HA5.out.fr HFZ.out (fun b hb e => by subst e; exact hb ho5), ?_, hs1⟩
  refine (HF0.out.mono (fun _ _ h => h.elim)).trans' (F := fun k => y.own k ≠ none) (Fr.trans (F := fun k => y.own k ≠ none ∨ k = B) (HF5.out.mono (fun b _ e => .inl e)) (HFZ.out.mono (fun b _ e => .inr e))) (fun b hb e => ?_)
  rcases e with e | e
  · exact e
  · have := HBw.out; omega

end Go.Proofs.Ytbedknfapiadbaa
