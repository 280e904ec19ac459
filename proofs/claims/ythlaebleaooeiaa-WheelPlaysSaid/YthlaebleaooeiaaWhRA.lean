/-
  The law's own first look (law04).
-/
import Derived.Test.YthlaebleaooeiaaWhR
namespace Go.Proofs.Ythlaebleaooeiaa
open Go.RowKit

def gA1 : Nat → Option Nat := updT (fun _ => none) 1 (some 70)
def gA2 : Nat → Option Nat := updT gA1 2 (some 5)
theorem gA_1 : setT 0 (fun _ => none) 1 70 = gA1 := by
  unfold setT; rw [if_pos (setC_zero.2 (by decide))]; rfl
theorem gA_2 : setT 0 gA1 2 5 = gA2 := by
  unfold setT; rw [if_pos (setC_zero.2 (by decide))]; rfl
theorem gA_some (i a : Nat) : gA2 i = some a ↔ (i = 2 ∧ a = 5) ∨ (i = 1 ∧ a = 70) := by
  unfold gA2 gA1 updT
  by_cases h1 : i = 2
  · subst h1; simp; omega
  · by_cases h2 : i = 1
    · subst h2; simp; omega
    · simp [h1, h2]
theorem gA_go1 {out : List Nat} (h : GoT gA2 5 out) : out = [2] := got_eq h ⟨List.pairwise_singleton _ _, fun i => by
  rw [List.mem_singleton]
  constructor
  · intro e; exact ⟨5, (gA_some i 5).2 (by omega), by omega⟩
  · rintro ⟨a, h1, h2⟩
    have := (gA_some i a).1 h1
    omega⟩
theorem gA_go2 {out : List Nat} (h : GoT (goneT gA2 5) 100 out) : out = [1] := got_eq h ⟨List.pairwise_singleton _ _, fun i => by
  rw [List.mem_singleton]
  constructor
  · intro e; exact ⟨70, goneT_some.2 ⟨(gA_some i 70).2 (by omega), by omega⟩, by omega⟩
  · rintro ⟨a, h1, h2⟩
    have := (gA_some i a).1 (goneT_some.1 h1).1
    have := (goneT_some.1 h1).2
    omega⟩
set_option maxHeartbeats 8000000 in
set_option maxRecDepth 100000 in
theorem awake04_any (w : World) :
    Calls Try.prog 8 #[] w fun e w' => e = .returned (.bool true) ∧ Below w.heap.size w w' := by
  have HNW := Box.mk (wt_new w)
  go_enter Try.func8, Try.ntmps8
  go_upto_region 4 with (go_at_call 9; (with_reducible refine HNW.out.mono ?_); rintro e w1 ⟨p, F, rfl, h1, hF, h2⟩; have HS := Box.mk (WS.new (Below.refl w.heap.size w) h1 hF h2 [] (fun q hq => by cases hq)); clear h1 h2 hF)
  clear HNW
  have HR := Box.mk (ws_set w w1 p 0 _ [] HS.out 1 70 (kwf_of (by omega) (by omega)) (by omega) 0 _ (by decide) gA_1)
  go_upto_region 5 with (go_at_call 10; refine HR.out.mono ?_; rintro e w2 ⟨rfl, hs⟩; have HS := Box.mk hs; clear hs)
  clear HR
  have HR := Box.mk (ws_set w w2 p 0 _ [] HS.out 2 5 (kwf_of (by omega) (by omega)) (by omega) 0 _ (by decide) gA_2)
  go_upto_region 6 with (go_at_call 10; refine HR.out.mono ?_; rintro e w3 ⟨rfl, hs⟩; have HS := Box.mk hs; clear hs)
  clear HR
  have HR := Box.mk (ws_go w w3 p 0 _ [] HS.out 5 (by omega) (by omega))
  go_upto_region 7 with (go_at_call 11; refine HR.out.mono ?_; rintro e w4 ⟨va, out, vc, rfl, hgo, -, hs⟩; obtain rfl := gA_go1 hgo; obtain ⟨b, O, hrow, hs⟩ := hs (by simp); have HS := Box.mk hs; have HA := Box.mk hrow; clear hs hgo hrow)
  clear HR
  have HR := Box.mk (ws_go w w4 p 5 _ _ HS.out 100 (by omega) (by omega))
  go_upto_region 8 with (go_at_call 11; refine HR.out.mono ?_; rintro e w5 ⟨vb, out, vd, rfl, hgo, -, hs⟩; obtain rfl := gA_go2 hgo; obtain ⟨b2, O2, hrow, hs⟩ := hs (by simp); have HS := Box.mk hs; have HB := Box.mk hrow; clear hs hgo hrow)
  clear HR
  obtain ⟨rfl, cur1, rfl, hc1⟩ := HA.out
  obtain ⟨rfl, cur2, rfl, hc2⟩ := HB.out
  have d2 := (cell_blk (HS.out.blk (List.mem_cons_self ..)) 0).trans (hc2 0 (by simp))
  have d1 := (cell_blk (HS.out.blk (List.mem_cons_of_mem _ (List.mem_cons_self ..))) 0).trans (hc1 0 (by simp))
  replace d1 : w5.cell? ⟨b, 0, none⟩ = some (.int .i64 2) := d1
  replace d2 : w5.cell? ⟨b2, 0, none⟩ = some (.int .i64 1) := d2
  have HR1 := Box.mk (ws_set w w5 p 100 _ _ HS.out 1 100 (kwf_of (by omega) (by omega)) (by omega) 1 _ (by decide) (setT_bad (c := 1) (by decide) (by decide)))
  have HR2 := Box.mk (fun w6 hs => ws_set w w6 p 100 (goneT (goneT gA2 5) 100) [(b2, .cells cur2 3 (0, 0)), (b, .cells cur1 3 (0, 0))] hs 1 4611686018427387904 (kwf_of (by omega) (by omega)) (by omega) 2 _ (by decide) (setT_bad (c := 2) (by decide) (by decide)))
  have HR3 := Box.mk (fun w6 hs => ws_now w w6 p 100 (goneT (goneT gA2 5) 100) [(b2, .cells cur2 3 (0, 0)), (b, .cells cur1 3 (0, 0))] hs)
  clear hc1 hc2
  have tok1 : True := trivial
  go_wp2_with (first
    | (go_at_call 10; have _t := tok1; refine HR1.out.mono ?_; rintro e w6 ⟨rfl, hs⟩; have HS := Box.mk hs; clear hs tok1; have tok2 : True := trivial)
    | (go_at_call 10; have _t := tok2; refine (HR2.out _ HS.out).mono ?_; rintro e w7 ⟨rfl, hs⟩; have HS := Box.mk hs; clear hs tok2)
    | (go_at_call 14; refine (HR3.out _ HS.out).mono ?_; rintro e w8 ⟨rfl, rfl⟩))
  go_ret
  exact ⟨rfl, HS.out.below⟩

end Go.Proofs.Ythlaebleaooeiaa
