/-
  The answers that the document fixes (law 21's awake).
-/
import Derived.Test.YtanlodaimbocoaaDoorStN
namespace Go.Proofs.YtanlodaimbocoaaDoor
open Go.RowKit

abbrev tickB : Bs := [116, 105, 99, 107]
theorem num5 : numV [53] = some 5 := numV_some (l := [53]) ⟨by decide, by decide, by decide, by decide, by decide⟩
theorem num05 : numV [48, 53] = none := numV_none fun h => h.2.2.1 ⟨by decide, rfl⟩
theorem parseA : parseV [32, 116, 105, 99, 107, 32, 32, 53, 32] = some (tickB, [5]) := by
  have e : words [32, 116, 105, 99, 107, 32, 32, 53, 32] = [tickB, [53]] := by decide
  have m : mayB tickB [5] = true := by decide
  unfold parseV
  rw [e]
  simp only [numsV, num5]
  exact if_pos m
theorem parseB : parseV [116, 105, 99, 107, 32, 48, 53] = none := by
  have e : words [116, 105, 99, 107, 32, 48, 53] = [tickB, [48, 53]] := by decide
  unfold parseV
  rw [e]
  simp only [numsV, num05]
theorem parseC : parseV [] = none := rfl
theorem itoa5 : Lib.itoa 5 = [53] := by
  unfold Lib.itoa
  rw [if_neg (by decide)]
  show Lib.decDigits 5 = _
  rw [Lib.decDigits, dif_pos (by decide)]
  rfl
theorem textA : textV tickB [5] = [116, 105, 99, 107, 32, 53] := by
  have m : mayB tickB [5] = true := by decide
  unfold textV
  rw [if_pos m]
  simp only [List.map_cons, List.map_nil, itoa5]
  rfl

theorem nums_of {w : World} {B : Nat} {ao : Option Addr} {n c : Nat} {z : List Int} (h : w.ownsRow B 3 1 (.slice ao n c) n (ints z)) (h6 : n ≤ 1000000 := by omega) : NumsAt w ao n z := by
  have hl := h.1
  simp only [List.length_map, Nat.mul_one] at hl
  refine ⟨hl, h6, fun h0 => ?_⟩
  obtain ⟨b, off, e, hb, hc⟩ := VRow.own h (by simpa [hl] using h0)
  exact ⟨b, off, e, hb, fun i hi => by have := hc i (by simpa using hi); simpa using this⟩
set_option maxHeartbeats 16000000 in
set_option maxRecDepth 100000 in
theorem awake21_any (w : World) (ht : Tab w) : Calls Tryd.prog 8 #[] w fun e w' => e = .returned (.bool true) ∧ Below w.heap.size w w' := by
  have HP1 := Box.mk (fun w => parse_any ⟨#[32, 116, 105, 99, 107, 32, 32, 53, 32]⟩ (by decide) w)
  have HP2 := Box.mk (fun w => parse_any ⟨#[116, 105, 99, 107, 32, 48, 53]⟩ (by decide) w)
  have HP3 := Box.mk (fun w => parse_any ⟨#[]⟩ (by decide) w)
  have HN := Box.mk (fun w => nums_any [115, 117, 98, 109, 105, 116] (by unfold sok maxLen; decide) w)
  have HW := Box.mk (fun w => words_any ⟨#[97, 32, 98]⟩ (by decide) w)
  have HT := Box.mk ht
  clear ht
  go_enter Tryd.func8, Tryd.ntmps8
  go_upto_region 2 with (go_at_call 9; (with_reducible refine (HP1.out _).mono ?_); rintro e w1 ⟨he, hb⟩; (obtain ⟨ao, c, rfl, hown⟩ : ∃ ao c, e = .returned (.tuple #[.agg #[strv tickB, .slice ao 1 c], .int .i64 0]) ∧ w1.ownsRow w.heap.size 3 1 (.slice ao 1 c) 1 (ints [5]) := by (have h := he; rw [parseA] at h; exact h)); have HB1 := Box.mk hb; have HNA := Box.mk (nums_of hown); clear he hb hown)
  obtain ⟨Bc, hBc⟩ : ∃ Bc, w1.heap.size = Bc := ⟨_, rfl⟩
  have HX : Box ((w1.alloc (.cells #[strv tickB, .slice ao 1 c] 25)).heap[Bc]? = some (.cells #[strv tickB, .slice ao 1 c] 25 (0, 0))) := ⟨by rw [← hBc]; exact blk_new _ _⟩
  have hal : Below w1.heap.size w1 (w1.alloc (.cells #[strv tickB, .slice ao 1 c] 25)) := (Below.refl _ _).alloc (Nat.le_refl _) _
  have HB2 : Box (Below w.heap.size w (w1.alloc (.cells #[strv tickB, .slice ao 1 c] 25))) := ⟨HB1.out.trans (hal.mono HB1.out.size)⟩
  have HN2 := Box.mk (HNA.out.later hal)
  generalize hV : w1.alloc (.cells #[.string ⟨tickB.toArray⟩, .slice ao 1 c] 25) = V
  have HX : Box (V.heap[Bc]? = some (.cells #[strv tickB, .slice ao 1 c] 25 (0, 0))) := ⟨by rw [← hV]; exact HX.out⟩
  have HB2 : Box (Below w.heap.size w V) := ⟨by rw [← hV]; exact HB2.out⟩
  have HN2 : Box (NumsAt V ao 1 [5]) := ⟨by rw [← hV]; exact HN2.out⟩
  rw [hBc]
  clear hV hal hBc HB1 HNA HP1
  have c0 : V.cell? ⟨Bc, 0, none⟩ = some (strv tickB) := (cell_blk HX.out 0).trans rfl
  go_upto_region 3 with (go_at_call 9; (with_reducible refine (HP2.out _).mono ?_); rintro e w2 ⟨he, hb⟩; (obtain rfl : e = .returned (.tuple #[.agg #[.string ⟨#[]⟩, .slice none 0 0], .int .i64 9]) := by (have h := he; rw [parseB] at h; exact h)); have HB3 := Box.mk hb; clear he hb)
  have HB4 : Box (Below V.heap.size V (w2.alloc (.cells #[.string ⟨#[]⟩, .slice none 0 0] 25))) := ⟨HB3.out.alloc HB3.out.size _⟩
  generalize w2.alloc (.cells #[.string ⟨#[]⟩, .slice none 0 0] 25) = V2 at HB4 ⊢
  go_upto_region 4 with (go_at_call 9; (with_reducible refine (HP3.out _).mono ?_); rintro e w3 ⟨he, hb⟩; (obtain rfl : e = .returned (.tuple #[.agg #[.string ⟨#[]⟩, .slice none 0 0], .int .i64 9]) := by (have h := he; rw [parseC] at h; exact h)); have HB5 := Box.mk hb; clear he hb)
  have HB6 : Box (Below V.heap.size V (w3.alloc (.cells #[.string ⟨#[]⟩, .slice none 0 0] 25))) := ⟨HB4.out.trans ((HB5.out.alloc HB5.out.size _).mono HB4.out.size)⟩
  generalize w3.alloc (.cells #[.string ⟨#[]⟩, .slice none 0 0] 25) = V3 at HB6 ⊢
  clear c0 HB3 HB4 HB5 HP2 HP3
  go_upto_region 5 with (go_at_call 13; (with_reducible refine (HN.out _).mono ?_); rintro e w4 ⟨he, hb⟩; (obtain rfl : e = .returned (.tuple #[.int .i64 7, .bool true]) := he); have HB7 := Box.mk hb; clear hb)
  have HB8 : Box (Below V.heap.size V w4) := ⟨HB6.out.trans (HB7.out.mono HB6.out.size)⟩
  have HX4 : Box (w4.heap[Bc]? = some (.cells #[strv tickB, .slice ao 1 c] 25 (0, 0))) := ⟨by rw [HB8.out.block Bc (lt_blk HX.out)]; exact HX.out⟩
  have HN4 := Box.mk (HN2.out.later HB8.out)
  have HB9 : Box (Below w.heap.size w w4) := ⟨HB2.out.trans (HB8.out.mono HB2.out.size)⟩
  have HTX := text_any tickB ao 1 c [5] w4 HN4.out (HT.out.on HB9.out) (by decide) (by decide)
  rw [textA] at HTX
  have HTX := Box.mk HTX
  obtain ⟨b, off, rfl, hbl, hc5⟩ := HN4.out.2.2 (by decide)
  have c5 : World.cell? w4 ⟨b, off, none⟩ = some (.int .i64 5) := hc5 0 (by decide)
  have c0 : World.cell? w4 ⟨Bc, 0, none⟩ = some (strv tickB) := (cell_blk HX4.out 0).trans rfl
  have c1 : World.cell? w4 ⟨Bc, 1, none⟩ = some (.slice (some ⟨b, off, none⟩) 1 c) := (cell_blk HX4.out 1).trans rfl
  clear hc5 HN HB6 HB7
  go_wp2_with (first
    | (go_at_call 19; (with_reducible refine HTX.out.mono ?_); rintro e w5 ⟨rfl, hb⟩; have HBt := Box.mk hb; clear hb)
    | (go_at_call 16; (with_reducible refine (HW.out _).mono ?_); rintro e w6 ⟨v, rfl, hso, hb⟩; (obtain ⟨wa, wc, rfl, _⟩ : ∃ wa wc, v = .slice wa 2 wc ∧ True := by (obtain ⟨wa, wc, hv, _⟩ := hso; exact ⟨wa, wc, hv, trivial⟩)); have HBu := Box.mk hb; clear hso hb))
  go_ret
  exact ⟨rfl, HB9.out.trans ((HBt.out.trans (HBu.out.mono HBt.out.size)).mono HB9.out.size)⟩

end Go.Proofs.YtanlodaimbocoaaDoor
