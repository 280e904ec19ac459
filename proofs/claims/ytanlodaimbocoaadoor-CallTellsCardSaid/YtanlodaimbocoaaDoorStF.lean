/-
  The walks of 'names', and of both functions 'Nums'.
-/
import Derived.Test.YtanlodaimbocoaaDoorStE
import Derived.Test.YtanlodaimbocoaaDoorMapS
namespace Go.Proofs.YtanlodaimbocoaaDoor
open Go.RowKit

def namesL : List (Bs × Nat) := [([116, 105, 99, 107], 1), ([114, 101, 108, 101, 97, 115, 101], 2), ([119, 97, 107, 101], 2), ([114, 97, 105, 115, 101], 1), ([109, 97, 115, 107], 1), ([117, 110, 109, 97, 115, 107], 1), ([103, 101, 116], 1), ([115, 104, 97, 114, 101], 1), ([100, 114, 111, 112], 1), ([115, 117, 98, 109, 105, 116], 7), ([115, 116, 97, 114, 116], 0), ([116, 97, 107, 101], 0), ([102, 105, 110, 105, 115, 104], 3), ([114, 101, 97, 112], 0), ([99, 97, 110, 99, 101, 108], 1), ([102, 114, 101, 101], 0), ([110, 111, 119], 0)]
def namesF : Bs → Option Nat := namesL.foldl (fun f p => atS f p.1 (some p.2)) (fun _ => none)
theorem namesF_none {x : Bs} (h : ∀ p ∈ namesL, x ≠ p.1) : namesF x = none := by
  unfold namesF
  have key : ∀ (L : List (Bs × Nat)) (f : Bs → Option Nat), f x = none → (∀ p ∈ L, x ≠ p.1) → (L.foldl (fun f p => atS f p.1 (some p.2)) f) x = none := by
    intro L
    induction L with
    | nil => intro f hf _; exact hf
    | cons p L ih =>
      intro f hf hL
      rw [List.foldl_cons]
      refine ih _ ?_ (fun q hq => hL q (List.mem_cons_of_mem _ hq))
      unfold atS
      rw [if_neg (hL p (List.mem_cons_self ..))]
      exact hf
  exact key _ _ rfl h
set_option maxHeartbeats 4000000 in
set_option maxRecDepth 100000 in
theorem names_any (w : World) : Calls Tryd.prog 25 #[] w fun e w' => ∃ b, e = .returned (.map (some b)) ∧ MapSt Tryd.prog 9 intE w' b 17 namesF ∧ Below w.heap.size w w' := by
  have h0 := MapSt.made w Tryd.prog 9 intE
  have f0 : Fr (fun k => k = w.heap.size) w (w.alloc (.map #[] 0)) := (Fr.refl _ w).alloc _
  have hmm := @run_makeMap Tryd.prog
  obtain ⟨w1, r1, h1, g1⟩ := h0.store (t := 46) Tryd.underlying9 Tryd.underlying46 (by decide) (x := [116, 105, 99, 107]) (by unfold sok maxLen; decide) 1
  replace r1 : (Instr.mapUpdate 46 (.map (some w.heap.size)) (.string ⟨#[116, 105, 99, 107]⟩) (.int .i64 1)).run Tryd.prog (w.alloc (.map #[] 0)) = .ok () w1 := r1
  have f1 := f0.trans g1
  obtain ⟨w2, r2, h2, g2⟩ := h1.store (t := 46) Tryd.underlying9 Tryd.underlying46 (by decide) (x := [114, 101, 108, 101, 97, 115, 101]) (by unfold sok maxLen; decide) 2
  replace r2 : (Instr.mapUpdate 46 (.map (some w.heap.size)) (.string ⟨#[114, 101, 108, 101, 97, 115, 101]⟩) (.int .i64 2)).run Tryd.prog w1 = .ok () w2 := r2
  have f2 := f1.trans g2
  obtain ⟨w3, r3, h3, g3⟩ := h2.store (t := 46) Tryd.underlying9 Tryd.underlying46 (by decide) (x := [119, 97, 107, 101]) (by unfold sok maxLen; decide) 2
  replace r3 : (Instr.mapUpdate 46 (.map (some w.heap.size)) (.string ⟨#[119, 97, 107, 101]⟩) (.int .i64 2)).run Tryd.prog w2 = .ok () w3 := r3
  have f3 := f2.trans g3
  obtain ⟨w4, r4, h4, g4⟩ := h3.store (t := 46) Tryd.underlying9 Tryd.underlying46 (by decide) (x := [114, 97, 105, 115, 101]) (by unfold sok maxLen; decide) 1
  replace r4 : (Instr.mapUpdate 46 (.map (some w.heap.size)) (.string ⟨#[114, 97, 105, 115, 101]⟩) (.int .i64 1)).run Tryd.prog w3 = .ok () w4 := r4
  have f4 := f3.trans g4
  obtain ⟨w5, r5, h5, g5⟩ := h4.store (t := 46) Tryd.underlying9 Tryd.underlying46 (by decide) (x := [109, 97, 115, 107]) (by unfold sok maxLen; decide) 1
  replace r5 : (Instr.mapUpdate 46 (.map (some w.heap.size)) (.string ⟨#[109, 97, 115, 107]⟩) (.int .i64 1)).run Tryd.prog w4 = .ok () w5 := r5
  have f5 := f4.trans g5
  obtain ⟨w6, r6, h6, g6⟩ := h5.store (t := 46) Tryd.underlying9 Tryd.underlying46 (by decide) (x := [117, 110, 109, 97, 115, 107]) (by unfold sok maxLen; decide) 1
  replace r6 : (Instr.mapUpdate 46 (.map (some w.heap.size)) (.string ⟨#[117, 110, 109, 97, 115, 107]⟩) (.int .i64 1)).run Tryd.prog w5 = .ok () w6 := r6
  have f6 := f5.trans g6
  obtain ⟨w7, r7, h7, g7⟩ := h6.store (t := 46) Tryd.underlying9 Tryd.underlying46 (by decide) (x := [103, 101, 116]) (by unfold sok maxLen; decide) 1
  replace r7 : (Instr.mapUpdate 46 (.map (some w.heap.size)) (.string ⟨#[103, 101, 116]⟩) (.int .i64 1)).run Tryd.prog w6 = .ok () w7 := r7
  have f7 := f6.trans g7
  obtain ⟨w8, r8, h8, g8⟩ := h7.store (t := 46) Tryd.underlying9 Tryd.underlying46 (by decide) (x := [115, 104, 97, 114, 101]) (by unfold sok maxLen; decide) 1
  replace r8 : (Instr.mapUpdate 46 (.map (some w.heap.size)) (.string ⟨#[115, 104, 97, 114, 101]⟩) (.int .i64 1)).run Tryd.prog w7 = .ok () w8 := r8
  have f8 := f7.trans g8
  obtain ⟨w9, r9, h9, g9⟩ := h8.store (t := 46) Tryd.underlying9 Tryd.underlying46 (by decide) (x := [100, 114, 111, 112]) (by unfold sok maxLen; decide) 1
  replace r9 : (Instr.mapUpdate 46 (.map (some w.heap.size)) (.string ⟨#[100, 114, 111, 112]⟩) (.int .i64 1)).run Tryd.prog w8 = .ok () w9 := r9
  have f9 := f8.trans g9
  obtain ⟨w10, r10, h10, g10⟩ := h9.store (t := 46) Tryd.underlying9 Tryd.underlying46 (by decide) (x := [115, 117, 98, 109, 105, 116]) (by unfold sok maxLen; decide) 7
  replace r10 : (Instr.mapUpdate 46 (.map (some w.heap.size)) (.string ⟨#[115, 117, 98, 109, 105, 116]⟩) (.int .i64 7)).run Tryd.prog w9 = .ok () w10 := r10
  have f10 := f9.trans g10
  obtain ⟨w11, r11, h11, g11⟩ := h10.store (t := 46) Tryd.underlying9 Tryd.underlying46 (by decide) (x := [115, 116, 97, 114, 116]) (by unfold sok maxLen; decide) 0
  replace r11 : (Instr.mapUpdate 46 (.map (some w.heap.size)) (.string ⟨#[115, 116, 97, 114, 116]⟩) (.int .i64 0)).run Tryd.prog w10 = .ok () w11 := r11
  have f11 := f10.trans g11
  obtain ⟨w12, r12, h12, g12⟩ := h11.store (t := 46) Tryd.underlying9 Tryd.underlying46 (by decide) (x := [116, 97, 107, 101]) (by unfold sok maxLen; decide) 0
  replace r12 : (Instr.mapUpdate 46 (.map (some w.heap.size)) (.string ⟨#[116, 97, 107, 101]⟩) (.int .i64 0)).run Tryd.prog w11 = .ok () w12 := r12
  have f12 := f11.trans g12
  obtain ⟨w13, r13, h13, g13⟩ := h12.store (t := 46) Tryd.underlying9 Tryd.underlying46 (by decide) (x := [102, 105, 110, 105, 115, 104]) (by unfold sok maxLen; decide) 3
  replace r13 : (Instr.mapUpdate 46 (.map (some w.heap.size)) (.string ⟨#[102, 105, 110, 105, 115, 104]⟩) (.int .i64 3)).run Tryd.prog w12 = .ok () w13 := r13
  have f13 := f12.trans g13
  obtain ⟨w14, r14, h14, g14⟩ := h13.store (t := 46) Tryd.underlying9 Tryd.underlying46 (by decide) (x := [114, 101, 97, 112]) (by unfold sok maxLen; decide) 0
  replace r14 : (Instr.mapUpdate 46 (.map (some w.heap.size)) (.string ⟨#[114, 101, 97, 112]⟩) (.int .i64 0)).run Tryd.prog w13 = .ok () w14 := r14
  have f14 := f13.trans g14
  obtain ⟨w15, r15, h15, g15⟩ := h14.store (t := 46) Tryd.underlying9 Tryd.underlying46 (by decide) (x := [99, 97, 110, 99, 101, 108]) (by unfold sok maxLen; decide) 1
  replace r15 : (Instr.mapUpdate 46 (.map (some w.heap.size)) (.string ⟨#[99, 97, 110, 99, 101, 108]⟩) (.int .i64 1)).run Tryd.prog w14 = .ok () w15 := r15
  have f15 := f14.trans g15
  obtain ⟨w16, r16, h16, g16⟩ := h15.store (t := 46) Tryd.underlying9 Tryd.underlying46 (by decide) (x := [102, 114, 101, 101]) (by unfold sok maxLen; decide) 0
  replace r16 : (Instr.mapUpdate 46 (.map (some w.heap.size)) (.string ⟨#[102, 114, 101, 101]⟩) (.int .i64 0)).run Tryd.prog w15 = .ok () w16 := r16
  have f16 := f15.trans g16
  obtain ⟨w17, r17, h17, g17⟩ := h16.store (t := 46) Tryd.underlying9 Tryd.underlying46 (by decide) (x := [110, 111, 119]) (by unfold sok maxLen; decide) 0
  replace r17 : (Instr.mapUpdate 46 (.map (some w.heap.size)) (.string ⟨#[110, 111, 119]⟩) (.int .i64 0)).run Tryd.prog w16 = .ok () w17 := r17
  have f17 := f16.trans g17
  have HE := Box.mk (And.intro h17 (f17.below (Nat.le_refl _) (fun k _ e => by omega)))
  clear h0 f0 h1 f1 h2 f2 h3 f3 h4 f4 h5 f5 h6 f6 h7 f7 h8 f8 h9 f9 h10 f10 h11 f11 h12 f12 h13 f13 h14 f14 h15 f15 h16 f16 h17 f17 g1 g2 g3 g4 g5 g6 g7 g8 g9 g10 g11 g12 g13 g14 g15 g16 g17
  go_enter Tryd.func25, Tryd.ntmps25
  go_wp2
  go_ret
  exact ⟨_, rfl, HE.out⟩

theorem zeroInt (w : World) : (zeroValue 3).run Tryd.prog w = .ok (.int .i64 0) w := by kernel_rfl
set_option maxHeartbeats 4000000 in
theorem nums_any (x : Bs) (hx : sok x) (w : World) : Calls Tryd.prog 13 #[strv x] w fun e w' => e = .returned (numT (namesF x)) ∧ Below w.heap.size w w' := by
  have HN := Box.mk (names_any w)
  go_enter Tryd.func13, Tryd.ntmps13
  go_wp2_with (go_at_call 25; (with_reducible refine HN.out.mono ?_); rintro e w1 ⟨b, rfl, hm, hb⟩; have hl := hm.look_ok (t := 46) (x := x) Tryd.underlying9 Tryd.underlying46 (zeroInt w1) hx; have HB := Box.mk hb; clear hm hb)
  go_ret2
  exact ⟨by cases namesF x <;> rfl, HB.out⟩

set_option maxHeartbeats 8000000 in
set_option maxRecDepth 100000 in
theorem rnums_any (x : Bs) (w : World) : Calls Tryd.prog 14 #[strv x] w fun e w' => e = .returned (numT (namesF x)) ∧ w = w' := by
  by_cases h0 : x = [115, 116, 97, 114, 116]
  · subst h0
    go_enter Tryd.func14, Tryd.ntmps14
    go_wp2
    go_ret2
    exact ⟨rfl, rfl⟩
  by_cases h1 : x = [116, 97, 107, 101]
  · subst h1
    clear h0
    go_enter Tryd.func14, Tryd.ntmps14
    go_wp2
    go_ret2
    exact ⟨rfl, rfl⟩
  by_cases h2 : x = [114, 101, 97, 112]
  · subst h2
    clear h0 h1
    go_enter Tryd.func14, Tryd.ntmps14
    go_wp2
    go_ret2
    exact ⟨rfl, rfl⟩
  by_cases h3 : x = [102, 114, 101, 101]
  · subst h3
    clear h0 h1 h2
    go_enter Tryd.func14, Tryd.ntmps14
    go_wp2
    go_ret2
    exact ⟨rfl, rfl⟩
  by_cases h4 : x = [110, 111, 119]
  · subst h4
    clear h0 h1 h2 h3
    go_enter Tryd.func14, Tryd.ntmps14
    go_wp2
    go_ret2
    exact ⟨rfl, rfl⟩
  by_cases h5 : x = [116, 105, 99, 107]
  · subst h5
    clear h0 h1 h2 h3 h4
    go_enter Tryd.func14, Tryd.ntmps14
    go_wp2
    go_ret2
    exact ⟨rfl, rfl⟩
  by_cases h6 : x = [114, 97, 105, 115, 101]
  · subst h6
    clear h0 h1 h2 h3 h4 h5
    go_enter Tryd.func14, Tryd.ntmps14
    go_wp2
    go_ret2
    exact ⟨rfl, rfl⟩
  by_cases h7 : x = [109, 97, 115, 107]
  · subst h7
    clear h0 h1 h2 h3 h4 h5 h6
    go_enter Tryd.func14, Tryd.ntmps14
    go_wp2
    go_ret2
    exact ⟨rfl, rfl⟩
  by_cases h8 : x = [117, 110, 109, 97, 115, 107]
  · subst h8
    clear h0 h1 h2 h3 h4 h5 h6 h7
    go_enter Tryd.func14, Tryd.ntmps14
    go_wp2
    go_ret2
    exact ⟨rfl, rfl⟩
  by_cases h9 : x = [103, 101, 116]
  · subst h9
    clear h0 h1 h2 h3 h4 h5 h6 h7 h8
    go_enter Tryd.func14, Tryd.ntmps14
    go_wp2
    go_ret2
    exact ⟨rfl, rfl⟩
  by_cases h10 : x = [115, 104, 97, 114, 101]
  · subst h10
    clear h0 h1 h2 h3 h4 h5 h6 h7 h8 h9
    go_enter Tryd.func14, Tryd.ntmps14
    go_wp2
    go_ret2
    exact ⟨rfl, rfl⟩
  by_cases h11 : x = [100, 114, 111, 112]
  · subst h11
    clear h0 h1 h2 h3 h4 h5 h6 h7 h8 h9 h10
    go_enter Tryd.func14, Tryd.ntmps14
    go_wp2
    go_ret2
    exact ⟨rfl, rfl⟩
  by_cases h12 : x = [99, 97, 110, 99, 101, 108]
  · subst h12
    clear h0 h1 h2 h3 h4 h5 h6 h7 h8 h9 h10 h11
    go_enter Tryd.func14, Tryd.ntmps14
    go_wp2
    go_ret2
    exact ⟨rfl, rfl⟩
  by_cases h13 : x = [114, 101, 108, 101, 97, 115, 101]
  · subst h13
    clear h0 h1 h2 h3 h4 h5 h6 h7 h8 h9 h10 h11 h12
    go_enter Tryd.func14, Tryd.ntmps14
    go_wp2
    go_ret2
    exact ⟨rfl, rfl⟩
  by_cases h14 : x = [119, 97, 107, 101]
  · subst h14
    clear h0 h1 h2 h3 h4 h5 h6 h7 h8 h9 h10 h11 h12 h13
    go_enter Tryd.func14, Tryd.ntmps14
    go_wp2
    go_ret2
    exact ⟨rfl, rfl⟩
  by_cases h15 : x = [102, 105, 110, 105, 115, 104]
  · subst h15
    clear h0 h1 h2 h3 h4 h5 h6 h7 h8 h9 h10 h11 h12 h13 h14
    go_enter Tryd.func14, Tryd.ntmps14
    go_wp2
    go_ret2
    exact ⟨rfl, rfl⟩
  by_cases h16 : x = [115, 117, 98, 109, 105, 116]
  · subst h16
    clear h0 h1 h2 h3 h4 h5 h6 h7 h8 h9 h10 h11 h12 h13 h14 h15
    go_enter Tryd.func14, Tryd.ntmps14
    go_wp2
    go_ret2
    exact ⟨rfl, rfl⟩
  have e : namesF x = none := namesF_none (by
    intro p hp
    simp only [namesL, List.mem_cons, List.not_mem_nil, or_false] at hp
    rcases hp with rfl | rfl | rfl | rfl | rfl | rfl | rfl | rfl | rfl | rfl | rfl | rfl | rfl | rfl | rfl | rfl | rfl
    all_goals assumption)
  rw [e]
  have e0 : (x == [115, 116, 97, 114, 116]) = false := beq_eq_false_iff_ne.2 h0
  have e1 : (x == [116, 97, 107, 101]) = false := beq_eq_false_iff_ne.2 h1
  have e2 : (x == [114, 101, 97, 112]) = false := beq_eq_false_iff_ne.2 h2
  have e3 : (x == [102, 114, 101, 101]) = false := beq_eq_false_iff_ne.2 h3
  have e4 : (x == [110, 111, 119]) = false := beq_eq_false_iff_ne.2 h4
  have e5 : (x == [116, 105, 99, 107]) = false := beq_eq_false_iff_ne.2 h5
  have e6 : (x == [114, 97, 105, 115, 101]) = false := beq_eq_false_iff_ne.2 h6
  have e7 : (x == [109, 97, 115, 107]) = false := beq_eq_false_iff_ne.2 h7
  have e8 : (x == [117, 110, 109, 97, 115, 107]) = false := beq_eq_false_iff_ne.2 h8
  have e9 : (x == [103, 101, 116]) = false := beq_eq_false_iff_ne.2 h9
  have e10 : (x == [115, 104, 97, 114, 101]) = false := beq_eq_false_iff_ne.2 h10
  have e11 : (x == [100, 114, 111, 112]) = false := beq_eq_false_iff_ne.2 h11
  have e12 : (x == [99, 97, 110, 99, 101, 108]) = false := beq_eq_false_iff_ne.2 h12
  have e13 : (x == [114, 101, 108, 101, 97, 115, 101]) = false := beq_eq_false_iff_ne.2 h13
  have e14 : (x == [119, 97, 107, 101]) = false := beq_eq_false_iff_ne.2 h14
  have e15 : (x == [102, 105, 110, 105, 115, 104]) = false := beq_eq_false_iff_ne.2 h15
  have e16 : (x == [115, 117, 98, 109, 105, 116]) = false := beq_eq_false_iff_ne.2 h16
  clear e h0 h1 h2 h3 h4 h5 h6 h7 h8 h9 h10 h11 h12 h13 h14 h15 h16
  go_enter Tryd.func14, Tryd.ntmps14
  go_wp2
  go_ret2
  exact ⟨rfl, rfl⟩

end Go.Proofs.YtanlodaimbocoaaDoor
