/-
  WheelFar: of two timers, however far, the earlier one goes off first, and the other one stays till its own time. No condition but the statement's.
-/
import Derived.Test.YthlaebleaooeiaaWhR
import Derived.Test.YthlaebleaooeiaaArgsS
import Derived.Test.YthlaebleaooeiaaRows
namespace Go.Proofs.Ythlaebleaooeiaa.wheelFar
open Go.ChangeShapes Go.WideShapes Go.ChangeAt Go.RowKit Go.Proofs.Ythlaebleaooeiaa

def g1 (a : Nat) : Nat → Option Nat := updT (fun _ => none) 1 (some a)
def g2 (a b : Nat) : Nat → Option Nat := updT (g1 a) 2 (some b)
theorem g2_some (a b i t : Nat) : g2 a b i = some t ↔ (i = 2 ∧ t = b) ∨ (i = 1 ∧ t = a) := by
  unfold g2 g1 updT
  by_cases h1 : i = 2
  · subst h1; simp; omega
  · by_cases h2 : i = 1
    · subst h2; simp; omega
    · simp [h1, h2]
theorem g2_tm1 (a b : Nat) : tmT (g2 a b) 1 = a := by simp [tmT, g2, g1, updT]
theorem g2_tm2 (a b : Nat) : tmT (g2 a b) 2 = b := by simp [tmT, g2, updT]
/-- What is told up to a time is what the list says. -/
theorem far_eq {g : Nat → Option Nat} {t : Nat} {out L : List Nat} (h : GoT g t out) (hs : L.Pairwise (fun i j => tmT g i < tmT g j ∨ (tmT g i = tmT g j ∧ i < j))) (hm : ∀ i, i ∈ L ↔ ∃ a, g i = some a ∧ a ≤ t) : out = L := got_eq h ⟨hs, hm⟩
theorem out0 {a b t : Nat} {out : List Nat} (h : GoT (g2 a b) t out) (h1 : t < a) (h2 : t < b) : out = [] := far_eq h List.Pairwise.nil fun i => by
  simp only [List.not_mem_nil, false_iff]
  rintro ⟨x, hx, hl⟩
  have := (g2_some a b i x).1 hx
  omega
theorem outA {a b t : Nat} {g : Nat → Option Nat} (hg : ∀ i x, g i = some x ↔ (g2 a b i = some x ∧ x ≥ a)) {out : List Nat} (h : GoT g t out) (h1 : a ≤ t) (h2 : t < b) : out = [1] := far_eq h (List.pairwise_singleton _ _) fun i => by
  rw [List.mem_singleton]
  constructor
  · rintro rfl; exact ⟨a, (hg _ _).2 ⟨(g2_some a b 1 a).2 (by omega), by omega⟩, h1⟩
  · rintro ⟨x, hx, hl⟩
    have := (g2_some a b i x).1 ((hg _ _).1 hx).1
    omega
theorem outB {a b t : Nat} {g : Nat → Option Nat} (hg : ∀ i x, g i = some x ↔ (g2 a b i = some x ∧ x ≥ b)) {out : List Nat} (h : GoT g t out) (h1 : b ≤ t) (h2 : t < a) : out = [2] := far_eq h (List.pairwise_singleton _ _) fun i => by
  rw [List.mem_singleton]
  constructor
  · rintro rfl; exact ⟨b, (hg _ _).2 ⟨(g2_some a b 2 b).2 (by omega), by omega⟩, h1⟩
  · rintro ⟨x, hx, hl⟩
    have := (g2_some a b i x).1 ((hg _ _).1 hx).1
    omega
theorem gone_ge {a b t : Nat} (i x : Nat) : goneT (g2 a b) t i = some x ↔ (g2 a b i = some x ∧ x ≥ t + 1) := by rw [goneT_some]; rfl
theorem outA2 {a b s t : Nat} {out : List Nat} (h : GoT (goneT (goneT (g2 a b) s) b) t out) (h0 : s < a) (h1 : b < a) (h2 : a ≤ t) : out = [1] := far_eq h (List.pairwise_singleton _ _) fun i => by
  rw [List.mem_singleton]
  constructor
  · rintro rfl; exact ⟨a, goneT_some.2 ⟨goneT_some.2 ⟨(g2_some a b 1 a).2 (by omega), h0⟩, h1⟩, h2⟩
  · rintro ⟨x, hx, hl⟩
    obtain ⟨e1, e2⟩ := goneT_some.1 hx
    have := (g2_some a b i x).1 (goneT_some.1 e1).1
    omega
theorem outB2 {a b s t : Nat} {out : List Nat} (h : GoT (goneT (goneT (g2 a b) s) a) t out) (h0 : s < b) (h1 : a < b) (h2 : b ≤ t) : out = [2] := far_eq h (List.pairwise_singleton _ _) fun i => by
  rw [List.mem_singleton]
  constructor
  · rintro rfl; exact ⟨b, goneT_some.2 ⟨goneT_some.2 ⟨(g2_some a b 2 b).2 (by omega), h0⟩, h1⟩, h2⟩
  · rintro ⟨x, hx, hl⟩
    obtain ⟨e1, e2⟩ := goneT_some.1 hx
    have := (g2_some a b i x).1 (goneT_some.1 e1).1
    omega
theorem out12 {a s : Nat} {out : List Nat} (h : GoT (goneT (g2 a a) s) a out) (h0 : s < a) : out = [1, 2] := far_eq h (by
    rw [List.pairwise_cons]
    refine ⟨fun j hj => ?_, List.pairwise_singleton _ _⟩
    rw [List.mem_singleton] at hj
    subst hj
    right
    have e1 : goneT (g2 a a) s 1 = some a := goneT_some.2 ⟨(g2_some a a 1 a).2 (by omega), h0⟩
    have e2 : goneT (g2 a a) s 2 = some a := goneT_some.2 ⟨(g2_some a a 2 a).2 (by omega), h0⟩
    simp [tmT, e1, e2]) fun i => by
  simp only [List.mem_cons, List.not_mem_nil, or_false]
  constructor
  · rintro (rfl | rfl)
    · exact ⟨a, goneT_some.2 ⟨(g2_some a a 1 a).2 (by omega), h0⟩, Nat.le_refl _⟩
    · exact ⟨a, goneT_some.2 ⟨(g2_some a a 2 a).2 (by omega), h0⟩, Nat.le_refl _⟩
  · rintro ⟨x, hx, hl⟩
    have := (g2_some a a i x).1 (goneT_some.1 hx).1
    omega
theorem outN {a s : Nat} {out : List Nat} (h : GoT (goneT (goneT (g2 a a) s) a) a out) : out = [] := far_eq h List.Pairwise.nil fun i => by
  simp only [List.not_mem_nil, false_iff]
  rintro ⟨x, hx, hl⟩
  have := (goneT_some.1 hx).2
  omega
theorem setG1 (a : Nat) (h1 : 0 < a) (h2 : a < 4611686018427387904) : setT 0 (fun _ => none) 1 a = g1 a := by
  unfold setT; rw [if_pos (setC_zero.2 (by omega))]; rfl
theorem setG2 (a b : Nat) (h1 : 0 < b) (h2 : b < 4611686018427387904) : setT 0 (g1 a) 2 b = g2 a b := by
  unfold setT; rw [if_pos (setC_zero.2 (by omega))]; rfl
/-- How a time stands. -/
theorem kinds (now i a : Nat) (hi : i ≤ 999) : (a ≤ now ∧ setC now i a = 1) ∨ (now < a ∧ 4611686018427387904 ≤ a ∧ setC now i a = 2) ∨ (now < a ∧ a < 4611686018427387904 ∧ setC now i a = 0) := by
  rcases Nat.lt_or_ge now a with h | h
  · rcases Nat.lt_or_ge a 4611686018427387904 with g | g
    · exact .inr (.inr ⟨h, g, setC_zero.2 (by omega)⟩)
    · refine .inr (.inl ⟨h, g, ?_⟩)
      unfold setC
      rw [if_neg (by omega), if_pos g]
  · refine .inl ⟨h, ?_⟩
    unfold setC
    rw [if_pos (by omega)]

set_option maxHeartbeats 16000000 in
set_option maxRecDepth 100000 in
theorem walkN (a b : Nat) (w : World) (ha : a ≤ 18446744073709551615) (hb : b ≤ 18446744073709551615) :
    Calls Try.prog 3 #[.int .u64 a, .int .u64 b] w fun e w' => e = .returned (.bool true) ∧ Below w.heap.size w w' := by
  have HK1 := Box.mk (kinds 0 1 a (by omega))
  have HK2 := Box.mk (kinds 0 2 b (by omega))
  go_enter Try.func3, Try.ntmps3
  go_upto_region 3 with (go_at_call 8; refine (awake04_any _).mono ?_; rintro e w1 ⟨rfl, hb1⟩; have HB1 := Box.mk hb1; have HNW := Box.mk (wt_new w1); clear hb1)
  go_upto_region 6 with (go_at_call 9; (with_reducible refine HNW.out.mono ?_); rintro e w2 ⟨p, F, rfl, h1, hF, h2⟩; have HS := Box.mk (WS.new HB1.out h1 hF h2 [] (fun q hq => by cases hq)); clear h1 h2 hF)
  clear HNW HB1
  obtain ⟨c1, hc1⟩ : ∃ c1, setC 0 1 a = c1 := ⟨_, rfl⟩
  obtain ⟨c2, hc2⟩ : ∃ c2, setC 0 2 b = c2 := ⟨_, rfl⟩
  rw [show ((1 : Nat) : Int) = 1 from rfl, hc1] at HK1
  rw [show ((2 : Nat) : Int) = 2 from rfl, hc2] at HK2
  by_cases hok : (0 < a ∧ a < 4611686018427387904) ∧ (0 < b ∧ b < 4611686018427387904)
  · obtain ⟨⟨a1, a2⟩, b1, b2⟩ := hok
    obtain rfl : c1 = 0 := by rcases HK1.out with h | h | h <;> omega
    obtain rfl : c2 = 0 := by rcases HK2.out with h | h | h <;> omega
    have HR := Box.mk (ws_set w _ p 0 _ [] HS.out 1 a (kwf_of (by omega) (by omega)) ha 0 _ hc1 (setG1 a a1 a2))
    have HC2 := Box.mk hc2
    clear HK1 HK2 hc1 hc2
    go_upto_region 7 with (go_at_call 10; refine HR.out.mono ?_; rintro e w3 ⟨rfl, hs⟩; have HS := Box.mk hs; clear hs)
    clear HR
    have HR := Box.mk (ws_set w _ p 0 _ [] HS.out 2 b (kwf_of (by omega) (by omega)) hb 0 _ HC2.out (setG2 a b b1 b2))
    clear HC2
    go_upto_region 10 with (go_at_call 10; refine HR.out.mono ?_; rintro e w4 ⟨rfl, hs⟩; have HS := Box.mk hs; clear hs)
    clear HR
    have HB0 := Box.mk HS.out.below
    rcases Nat.lt_trichotomy a b with hab | hab | hab
    · have HM : Box (((a - 1 : Nat) : Int) = min (a : Int) (b : Int) - 1 ∧ (a : Int) = min (a : Int) (b : Int) ∧ (b : Int) = max (a : Int) (b : Int)) := ⟨by omega⟩
      have hne : ((a : Int) == (b : Int)) = false := beq_eq_false_iff_ne.2 (by omega)
      have HR := ws_go w _ p 0 _ [] HS.out (a - 1) (by omega) (by omega)
      rw [HM.out.1] at HR
      have HR := Box.mk HR
      go_upto_region 11 with (go_at_call 11; refine HR.out.mono ?_; rintro e w5 ⟨va, out, vc, rfl, hgo, hs, -⟩; obtain rfl := out0 hgo (by omega) (by omega); have HS := Box.mk hs; clear hs hgo)
      clear HR
      have HR := ws_go w _ p _ _ [] HS.out a (by omega) (by omega)
      rw [HM.out.2.1] at HR
      have HR := Box.mk HR
      go_upto_region 12 with (go_at_call 11; refine HR.out.mono ?_; rintro e w6 ⟨vb, out, vd, rfl, hgo, -, hs⟩; obtain rfl := outA (a := a) (b := b) (fun i x => by rw [gone_ge, show a - 1 + 1 = a from by omega]) hgo (by omega) (by omega); obtain ⟨b1, O1, hrow, hs⟩ := hs (by simp); have HS := Box.mk hs; have HA := Box.mk hrow; clear hs hgo hrow)
      clear HR
      have HR := ws_go w _ p _ _ _ HS.out b (by omega) (by omega)
      rw [HM.out.2.2] at HR
      have HR := Box.mk HR
      go_upto_region 13 with (go_at_call 11; refine HR.out.mono ?_; rintro e w7 ⟨ve, out, vf, rfl, hgo, -, hs⟩; obtain rfl := outB2 hgo (by omega) (by omega) (by omega); obtain ⟨b2, O2, hrow, hs⟩ := hs (by simp); have HS := Box.mk hs; have HB := Box.mk hrow; clear hs hgo hrow)
      clear HR HM
      obtain ⟨rfl, cur1, rfl, hc1⟩ := HA.out
      obtain ⟨rfl, cur2, rfl, hc2⟩ := HB.out
      have d2 := (cell_blk (HS.out.blk (List.mem_cons_self ..)) 0).trans (hc2 0 (by simp))
      have d1 := (cell_blk (HS.out.blk (List.mem_cons_of_mem _ (List.mem_cons_self ..))) 0).trans (hc1 0 (by simp))
      replace d1 : World.cell? _ ⟨b1, 0, none⟩ = some (.int .i64 1) := d1
      replace d2 : World.cell? _ ⟨b2, 0, none⟩ = some (.int .i64 2) := d2
      clear hc1 hc2
      go_wp2
      go_ret
      exact ⟨rfl, HS.out.below⟩
    · subst hab
      have HM : Box (((a - 1 : Nat) : Int) = min (a : Int) (a : Int) - 1 ∧ (a : Int) = min (a : Int) (a : Int) ∧ (a : Int) = max (a : Int) (a : Int)) := ⟨by omega⟩
      have hne : ((a : Int) == (a : Int)) = true := by simp
      have HR := ws_go w _ p 0 _ [] HS.out (a - 1) (by omega) (by omega)
      rw [show ((a - 1 : Nat) : Int) = (a : Int) - 1 from by omega] at HR
      have HR := Box.mk HR
      go_upto_region 11 with (go_at_call 11; refine HR.out.mono ?_; rintro e w5 ⟨va, out, vc, rfl, hgo, hs, -⟩; obtain rfl := out0 hgo (by omega) (by omega); have HS := Box.mk hs; clear hs hgo)
      clear HR
      have HR := ws_go w _ p _ _ [] HS.out a (by omega) (by omega)
      have HR := Box.mk HR
      go_upto_region 12 with (go_at_call 11; refine HR.out.mono ?_; rintro e w6 ⟨vb, out, vd, rfl, hgo, -, hs⟩; obtain rfl := out12 hgo (by omega); obtain ⟨b1, O1, hrow, hs⟩ := hs (by simp); have HS := Box.mk hs; have HA := Box.mk hrow; clear hs hgo hrow)
      clear HR
      have HR := ws_go w _ p _ _ _ HS.out a (by omega) (by omega)
      have HR := Box.mk HR
      go_upto_region 13 with (go_at_call 11; refine HR.out.mono ?_; rintro e w7 ⟨ve, out, vf, rfl, hgo, hs, -⟩; obtain rfl := outN hgo; have HS := Box.mk hs; clear hs hgo)
      clear HR HM
      obtain ⟨rfl, cur1, rfl, hc1⟩ := HA.out
      have d1 := (cell_blk (HS.out.blk (List.mem_cons_self ..)) 0).trans (hc1 0 (by simp))
      have d2 := (cell_blk (HS.out.blk (List.mem_cons_self ..)) 1).trans (hc1 1 (by simp))
      replace d1 : World.cell? _ ⟨b1, 0, none⟩ = some (.int .i64 1) := d1
      replace d2 : World.cell? _ ⟨b1, 1, none⟩ = some (.int .i64 2) := d2
      clear hc1
      go_wp2
      go_ret
      exact ⟨rfl, HS.out.below⟩
    · have HM : Box (((b - 1 : Nat) : Int) = min (a : Int) (b : Int) - 1 ∧ (b : Int) = min (a : Int) (b : Int) ∧ (a : Int) = max (a : Int) (b : Int)) := ⟨by omega⟩
      have hne : ((a : Int) == (b : Int)) = false := beq_eq_false_iff_ne.2 (by omega)
      have HR := ws_go w _ p 0 _ [] HS.out (b - 1) (by omega) (by omega)
      rw [HM.out.1] at HR
      have HR := Box.mk HR
      go_upto_region 11 with (go_at_call 11; refine HR.out.mono ?_; rintro e w5 ⟨va, out, vc, rfl, hgo, hs, -⟩; obtain rfl := out0 hgo (by omega) (by omega); have HS := Box.mk hs; clear hs hgo)
      clear HR
      have HR := ws_go w _ p _ _ [] HS.out b (by omega) (by omega)
      rw [HM.out.2.1] at HR
      have HR := Box.mk HR
      go_upto_region 12 with (go_at_call 11; refine HR.out.mono ?_; rintro e w6 ⟨vb, out, vd, rfl, hgo, -, hs⟩; obtain rfl := outB (a := a) (b := b) (fun i x => by rw [gone_ge, show b - 1 + 1 = b from by omega]) hgo (by omega) (by omega); obtain ⟨b1, O1, hrow, hs⟩ := hs (by simp); have HS := Box.mk hs; have HA := Box.mk hrow; clear hs hgo hrow)
      clear HR
      have HR := ws_go w _ p _ _ _ HS.out a (by omega) (by omega)
      rw [HM.out.2.2] at HR
      have HR := Box.mk HR
      go_upto_region 13 with (go_at_call 11; refine HR.out.mono ?_; rintro e w7 ⟨ve, out, vf, rfl, hgo, -, hs⟩; obtain rfl := outA2 hgo (by omega) (by omega) (by omega); obtain ⟨b2, O2, hrow, hs⟩ := hs (by simp); have HS := Box.mk hs; have HB := Box.mk hrow; clear hs hgo hrow)
      clear HR HM
      obtain ⟨rfl, cur1, rfl, hc1⟩ := HA.out
      obtain ⟨rfl, cur2, rfl, hc2⟩ := HB.out
      have d2 := (cell_blk (HS.out.blk (List.mem_cons_self ..)) 0).trans (hc2 0 (by simp))
      have d1 := (cell_blk (HS.out.blk (List.mem_cons_of_mem _ (List.mem_cons_self ..))) 0).trans (hc1 0 (by simp))
      replace d1 : World.cell? _ ⟨b1, 0, none⟩ = some (.int .i64 2) := d1
      replace d2 : World.cell? _ ⟨b2, 0, none⟩ = some (.int .i64 1) := d2
      clear hc1 hc2
      go_wp2
      go_ret
      exact ⟨rfl, HS.out.below⟩
  · rcases HK1.out with ⟨a1, rfl⟩ | ⟨a1, a2, rfl⟩ | ⟨a1, a2, rfl⟩ <;> rcases HK2.out with ⟨b1, rfl⟩ | ⟨b1, b2, rfl⟩ | ⟨b1, b2, rfl⟩
    case neg.inr.inr.inr.inr => exact absurd ⟨⟨a1, a2⟩, b1, b2⟩ hok
    all_goals
      have HR := Box.mk (ws_set w _ p 0 _ [] HS.out 1 a (kwf_of (by omega) (by omega)) ha _ _ hc1 rfl)
      have HC2 := Box.mk hc2
      first
        | have eA : ((a : Int) < 4611686018427387904) = True := eq_true (by omega)
        | have eA : ((a : Int) < 4611686018427387904) = False := eq_false (by omega)
      first
        | have eB : ((b : Int) < 4611686018427387904) = True := eq_true (by omega)
        | have eB : ((b : Int) < 4611686018427387904) = False := eq_false (by omega)
      clear HK1 HK2 hc1 hc2 hok
      try clear a2
      try clear b2
      go_upto_region 7 with (go_at_call 10; refine HR.out.mono ?_; rintro e w3 ⟨rfl, hs⟩; have HS := Box.mk hs; clear hs)
      clear HR
      have HR := Box.mk (ws_set w _ p 0 _ [] HS.out 2 b (kwf_of (by omega) (by omega)) hb _ _ HC2.out rfl)
      clear HC2
      go_wp2_with (go_at_call 10; refine HR.out.mono ?_; rintro e w4 ⟨rfl, hs⟩; have HS := Box.mk hs; clear hs)
      go_ret
      exact ⟨rfl, HS.out.below⟩

theorem walk (x0 x1 : Int) (w : World) (g0 : (Lit.int .u64 x0).wf = true) (g1 : (Lit.int .u64 x1).wf = true) :
    Calls Try.prog 3 #[.int .u64 x0, .int .u64 x1] w fun e w' => e = .returned (.bool true) ∧ Below w.heap.size w w' := by
  simp [Lit.wf, IntKind.min, IntKind.max, IntKind.signed, IntKind.bits] at g0 g1
  obtain ⟨a, rfl⟩ : ∃ a : Nat, x0 = a := ⟨x0.toNat, by omega⟩
  obtain ⟨b, rfl⟩ : ∃ b : Nat, x1 = b := ⟨x1.toNat, by omega⟩
  exact walkN a b w (by omega) (by omega)

/-! The row's step. -/
theorem own : ownKnob Try.prog.godebug = none := by kernel_rfl
theorem laidOut : laidOutB Try.prog = true := by kernel_rfl

set_option maxRecDepth 100000 in
theorem lifted (os : Os) (started : os.Started) (H : Type) (enc : TypeId × Value → H) :
    ReturnsInHanded {} Try.checked os 3 .any (Rows.wheelFarSpec.pre6 enc Try.prog Try.f3 Rows.wheelFarRow.domain false) (Rows.wheelFarSpec.post enc Try.prog Try.f3 false true false false) := by
  refine returnsInHanded_of_change (C := Try.checked) own started (by kernel_rfl) Try.func3
    (ChangeSpec.witness6 (enc := enc) (C := Try.checked) false ⟨#[], #[.int .u64 0, .int .u64 0], []⟩ 8 (by kernel_rfl) (by kernel_rfl) (by kernel_rfl) (by kernel_rfl)) ?_
  intro W base args ds gs before hval0 hW hcnd _
  have hval : ∀ (j : Nat) t v, Try.f3.params[j]? = some t → args[j]? = some v → Value.okWide Try.prog W .any base t v := hval0
  have hW' := hW
  obtain ⟨p, q, hA0, hV, rfl, hfz, hnd⟩ := hW
  have hA : DataW.TrodAll enc Try.prog W 0 (fun _ => true) true Try.f3.params.toList args.toList ds p := hA0
  rw [Try.params3] at hA hval
  obtain ⟨v0, vs0, d0, ds0, p0, q0, hargs, rfl, rfl, h0, r0⟩ := trodAll_cons hA
  obtain ⟨v1, vs1, d1, ds1, p1, q1, rfl, rfl, rfl, h1, r1⟩ := trodAll_cons r0
  obtain ⟨rfl, rfl, rfl⟩ := trodAll_nil r1
  obtain rfl : args = #[v0, v1] := by cases args; simp_all
  obtain ⟨rfl, rfl⟩ := trodVars_none hV
  obtain ⟨x0, rfl, rfl, rfl, w0⟩ := open_int Try.underlying22 (hval 0 22 v0 rfl rfl) h0
  obtain ⟨x1, rfl, rfl, rfl, w1⟩ := open_int Try.underlying22 (hval 1 22 v1 rfl rfl) h1
  clear hA0 hval0
  refine (walk x0 x1 W w0 w1).mono fun e W' ⟨he, bel⟩ => ?_
  subst he
  exact ⟨_, rfl, _, _, _, [], _, [], hW', trodAll_mk1 (shut_bool Try.underlying4 _), (trodAll_cons_mk (shut_int Try.underlying22 w0) (trodAll_cons_mk (shut_int Try.underlying22 w1) trodAll_mk0)), rfl, bel.frame _, fun h => by cases h⟩

theorem over : Rows.wheelFarRow.holds Try.pinned (OpenSpec.ofChange Rows.wheelFarSpec) :=
  OpenClaim.holds_of_wide 3 Try.f3 rfl rfl rfl rfl rfl rfl rfl ⟨rfl, rfl, rfl, rfl, rfl⟩ rfl rfl rfl rfl rfl (by kernel_rfl) Try.func3 (by kernel_rfl)
    (of_decide_eq_true (by kernel_rfl)) (by unfold Func.isWrapper; first | (rw [if_pos (by decide +kernel)]; kernel_rfl) | (rw [if_neg (by decide +kernel)]; exact ⟨rfl, rfl⟩))
    (fun os started H enc _ => lifted os started H enc)

/-- The statement. -/
theorem proved : Rows.WheelFarSaid := over
#print axioms proved

end Go.Proofs.Ythlaebleaooeiaa.wheelFar
