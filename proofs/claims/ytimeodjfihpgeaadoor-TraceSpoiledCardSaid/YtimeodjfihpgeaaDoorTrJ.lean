/-
  Records of ticks: whether two are the same, whether one is small.
-/
import Derived.Test.YtimeodjfihpgeaaDoorTrI
namespace Go.Proofs.YtimeodjfihpgeaaDoor
open Go.RowKit

def sameB (t t' : Tk) : Bool := (decide (t.who = t'.who) && (decide (t.dn = t'.dn) && (decide (t.ct = t'.ct) && decide (t.ms = t'.ms)))) && decide (t.fs = t'.fs)
theorem sameB_iff (t t' : Tk) : sameB t t' = true ↔ t = t' := by
  unfold sameB
  simp only [Bool.and_eq_true, decide_eq_true_eq]
  constructor
  · rintro ⟨⟨h1, h2, h3, h4⟩, h5⟩
    cases t; cases t'
    simp only at h1 h2 h3 h4 h5
    subst h1; subst h2; subst h3; subst h4; subst h5
    rfl
  · rintro rfl
    exact ⟨⟨rfl, rfl, rfl, rfl⟩, rfl⟩
theorem sameB_self (t : Tk) : sameB t t = true := (sameB_iff t t).2 rfl
set_option maxHeartbeats 8000000 in
theorem tsame_any (t : Tk) (a1 : Option Addr) (n1 c1 : Nat) (a2 : Option Addr) (n2 c2 : Nat) (a3 : Option Addr) (n3 c3 : Nat) (a4 : Option Addr) (n4 c4 : Nat) (t' : Tk) (b1 : Option Addr) (m1 d1 : Nat) (b2 : Option Addr) (m2 d2 : Nat) (b3 : Option Addr) (m3 d3 : Nat) (b4 : Option Addr) (m4 d4 : Nat) (w : World) (h : TkAt w t a1 n1 a2 n2 a3 n3 a4 n4) (h' : TkAt w t' b1 m1 b2 m2 b3 m3 b4 m4) :
    Calls Tryd.prog 13 #[.agg #[.int .i64 t.who, .slice a1 n1 c1, .slice a2 n2 c2, .slice a3 n3 c3, .slice a4 n4 c4], .agg #[.int .i64 t'.who, .slice b1 m1 d1, .slice b2 m2 d2, .slice b3 m3 d3, .slice b4 m4 d4]] w fun e w' => e = .returned (.bool (sameB t t')) ∧ Below w.heap.size w w' := by
  obtain ⟨R, HR⟩ : ∃ R, Box (R = sameB t t') := ⟨_, ⟨rfl⟩⟩
  rw [← HR.out]
  unfold sameB at HR
  have hbl : Below w.heap.size w (w.alloc (.cells #[.int .i64 t.who, .slice a1 n1 c1, .slice a2 n2 c2, .slice a3 n3 c3, .slice a4 n4 c4] 27)) := (Below.refl _ w).alloc (Nat.le_refl _) _
  have hbl2 : Below w.heap.size w ((w.alloc (.cells #[.int .i64 t.who, .slice a1 n1 c1, .slice a2 n2 c2, .slice a3 n3 c3, .slice a4 n4 c4] 27)).alloc (.cells #[.int .i64 t'.who, .slice b1 m1 d1, .slice b2 m2 d2, .slice b3 m3 d3, .slice b4 m4 d4] 27)) := hbl.alloc hbl.size _
  have HB := Box.mk hbl2
  have HX1 : Box (((w.alloc (.cells #[.int .i64 t.who, .slice a1 n1 c1, .slice a2 n2 c2, .slice a3 n3 c3, .slice a4 n4 c4] 27)).alloc (.cells #[.int .i64 t'.who, .slice b1 m1 d1, .slice b2 m2 d2, .slice b3 m3 d3, .slice b4 m4 d4] 27)).heap[w.heap.size]? = some (.cells #[.int .i64 t.who, .slice a1 n1 c1, .slice a2 n2 c2, .slice a3 n3 c3, .slice a4 n4 c4] 27 (0, 0))) := ⟨blk_alloc (blk_new _ _)⟩
  have HX2 : Box (((w.alloc (.cells #[.int .i64 t.who, .slice a1 n1 c1, .slice a2 n2 c2, .slice a3 n3 c3, .slice a4 n4 c4] 27)).alloc (.cells #[.int .i64 t'.who, .slice b1 m1 d1, .slice b2 m2 d2, .slice b3 m3 d3, .slice b4 m4 d4] 27)).heap[w.heap.size + 1]? = some (.cells #[.int .i64 t'.who, .slice b1 m1 d1, .slice b2 m2 d2, .slice b3 m3 d3, .slice b4 m4 d4] 27 (0, 0))) := ⟨by have := blk_new (w.alloc (.cells #[.int .i64 t.who, .slice a1 n1 c1, .slice a2 n2 c2, .slice a3 n3 c3, .slice a4 n4 c4] 27)) (.cells #[.int .i64 t'.who, .slice b1 m1 d1, .slice b2 m2 d2, .slice b3 m3 d3, .slice b4 m4 d4] 27); simpa using this⟩
  go_enter Tryd.func13, Tryd.ntmps13
  go_upto_region 1 with fail
  generalize hV : ((w.alloc (.cells #[.int .i64 t.who, .slice a1 n1 c1, .slice a2 n2 c2, .slice a3 n3 c3, .slice a4 n4 c4] 27)).alloc (.cells #[.int .i64 t'.who, .slice b1 m1 d1, .slice b2 m2 d2, .slice b3 m3 d3, .slice b4 m4 d4] 27)) = V at HB HX1 HX2 hbl2 ⊢
  have HVS : Box (V.heap.size = w.heap.size + 2) := ⟨by rw [← hV]; simp⟩
  clear hV hbl
  have HBW : Box (∀ w', Below V.heap.size V w' → Below w.heap.size w w') := ⟨fun w' hb => HB.out.trans (hb.mono (by have := HVS.out; omega))⟩
  have HC : Box (∀ w', Below V.heap.size V w' → w'.cell? ⟨w.heap.size, 0, none⟩ = some (.int .i64 t.who) ∧ w'.cell? ⟨w.heap.size, 1, none⟩ = some (.slice a1 n1 c1) ∧ w'.cell? ⟨w.heap.size, 2, none⟩ = some (.slice a2 n2 c2) ∧ w'.cell? ⟨w.heap.size, 3, none⟩ = some (.slice a3 n3 c3) ∧ w'.cell? ⟨w.heap.size, 4, none⟩ = some (.slice a4 n4 c4) ∧ w'.cell? ⟨w.heap.size + 1, 0, none⟩ = some (.int .i64 t'.who) ∧ w'.cell? ⟨w.heap.size + 1, 1, none⟩ = some (.slice b1 m1 d1) ∧ w'.cell? ⟨w.heap.size + 1, 2, none⟩ = some (.slice b2 m2 d2) ∧ w'.cell? ⟨w.heap.size + 1, 3, none⟩ = some (.slice b3 m3 d3) ∧ w'.cell? ⟨w.heap.size + 1, 4, none⟩ = some (.slice b4 m4 d4)) := ⟨fun w' hb => by
    have h5 := (hb.block _ (lt_blk HX1.out)).trans HX1.out
    have h6 := (hb.block _ (lt_blk HX2.out)).trans HX2.out
    exact ⟨(cell_blk h5 0).trans rfl, (cell_blk h5 1).trans rfl, (cell_blk h5 2).trans rfl, (cell_blk h5 3).trans rfl, (cell_blk h5 4).trans rfl, (cell_blk h6 0).trans rfl, (cell_blk h6 1).trans rfl, (cell_blk h6 2).trans rfl, (cell_blk h6 3).trans rfl, (cell_blk h6 4).trans rfl⟩⟩
  have H1 : Box (∀ w', Below V.heap.size V w' → Calls Tryd.prog 29 #[.agg #[.int .i64 t.who, .slice a1 n1 c1, .slice a2 n2 c2, .slice a3 n3 c3], .agg #[.int .i64 t'.who, .slice b1 m1 d1, .slice b2 m2 d2, .slice b3 m3 d3]] w' fun e w'' => e = .returned (.bool (decide (t.who = t'.who) && (decide (t.dn = t'.dn) && (decide (t.ct = t'.ct) && decide (t.ms = t'.ms))))) ∧ Below w'.heap.size w' w'') := ⟨fun w' hb => rsame17_any t.who a1 n1 c1 a2 n2 c2 a3 n3 c3 t'.who b1 m1 d1 b2 m2 d2 b3 m3 d3 t.dn t.ct t.ms t'.dn t'.ct t'.ms w' (h.dn.later (HBW.out _ hb)) (h.ct.later (HBW.out _ hb)) (h.ms.later (HBW.out _ hb)) (h'.dn.later (HBW.out _ hb)) (h'.ct.later (HBW.out _ hb)) (h'.ms.later (HBW.out _ hb))⟩
  have H2 : Box (∀ w', Below V.heap.size V w' → Calls Tryd.prog 30 #[.slice a4 n4 c4, .slice b4 m4 d4] w' fun e w'' => e = .returned (.bool (decide (t.fs = t'.fs))) ∧ Below w'.heap.size w' w'') := ⟨fun w' hb => fsame_any a4 n4 c4 t.fs b4 m4 d4 t'.fs w' (h.fs.later (HBW.out _ hb)) (h'.fs.later (HBW.out _ hb))⟩
  clear h h' HX1 HX2 HVS HB hbl2
  obtain ⟨u0, u1, u2', u3, u4, v0, v1, v2, v3, v4⟩ := HC.out V (Below.refl _ _)
  generalize (decide (t.who = t'.who) && (decide (t.dn = t'.dn) && (decide (t.ct = t'.ct) && decide (t.ms = t'.ms)))) = p1 at H1 HR
  generalize decide (t.fs = t'.fs) = p2 at H2 HR
  cases p1
  · go_wp2_with (first
      | (go_at_call 29; (with_reducible refine (H1.out _ (by first | exact Below.refl _ _ | assumption)).mono ?_); rintro e w1 ⟨rfl, hb⟩; have hb1 := below_step (w := V) (by first | exact Below.refl _ _ | assumption) hb; obtain ⟨x0, x1, x2, x3, x4, y0, y1, y2, y3, y4⟩ := HC.out _ hb1; clear hb)
      | (go_at_call 30; (with_reducible refine (H2.out _ (by first | exact Below.refl _ _ | assumption)).mono ?_); rintro e w2 ⟨rfl, hb⟩; have hb2 := below_step (w := V) (by first | exact Below.refl _ _ | assumption) hb; clear hb))
    go_ret
    exact ⟨by rw [HR.out]; rfl, HBW.out _ (by assumption)⟩
  · go_wp2_with (first
      | (go_at_call 29; (with_reducible refine (H1.out _ (by first | exact Below.refl _ _ | assumption)).mono ?_); rintro e w1 ⟨rfl, hb⟩; have hb1 := below_step (w := V) (by first | exact Below.refl _ _ | assumption) hb; obtain ⟨x0, x1, x2, x3, x4, y0, y1, y2, y3, y4⟩ := HC.out _ hb1; clear hb)
      | (go_at_call 30; (with_reducible refine (H2.out _ (by first | exact Below.refl _ _ | assumption)).mono ?_); rintro e w2 ⟨rfl, hb⟩; have hb2 := below_step (w := V) (by first | exact Below.refl _ _ | assumption) hb; clear hb))
    go_ret
    exact ⟨by rw [HR.out]; rfl, HBW.out _ (by assumption)⟩

def smallB (n1 n2 n3 n4 : Nat) : Bool := decide (n1 ≤ 40 ∧ n2 ≤ 40 ∧ n3 ≤ 40 ∧ n4 ≤ 40)
set_option maxHeartbeats 4000000 in
theorem small_any (who : Int) (a1 : Option Addr) (n1 c1 : Nat) (a2 : Option Addr) (n2 c2 : Nat) (a3 : Option Addr) (n3 c3 : Nat) (a4 : Option Addr) (n4 c4 : Nat) (w : World) : Calls Tryd.prog 7 #[.agg #[.int .i64 who, .slice a1 n1 c1, .slice a2 n2 c2, .slice a3 n3 c3, .slice a4 n4 c4]] w fun e w' => e = .returned (.bool (smallB n1 n2 n3 n4)) ∧ Below w.heap.size w w' := by
  have HB := Box.mk ((Below.refl w.heap.size w).alloc (Nat.le_refl _) (.cells #[.int .i64 who, .slice a1 n1 c1, .slice a2 n2 c2, .slice a3 n3 c3, .slice a4 n4 c4] 27))
  obtain ⟨R, HR⟩ : ∃ R, Box (R = smallB n1 n2 n3 n4) := ⟨_, ⟨rfl⟩⟩
  rw [← HR.out]
  unfold smallB at HR
  rcases (show ¬ n1 ≤ 40 ∨ (n1 ≤ 40 ∧ ¬ n2 ≤ 40) ∨ (n1 ≤ 40 ∧ n2 ≤ 40 ∧ ¬ n3 ≤ 40) ∨ (n1 ≤ 40 ∧ n2 ≤ 40 ∧ n3 ≤ 40 ∧ ¬ n4 ≤ 40) ∨ (n1 ≤ 40 ∧ n2 ≤ 40 ∧ n3 ≤ 40 ∧ n4 ≤ 40) by omega) with q1 | ⟨q1, q2⟩ | ⟨q1, q2, q3⟩ | ⟨q1, q2, q3, q4⟩ | ⟨q1, q2, q3, q4⟩
  · have i1 : ¬ (n1 : Int) ≤ 40 := by omega
    have HE : Box (R = false) := ⟨by rw [HR.out]; exact decide_eq_false (by omega)⟩
    go_enter Tryd.func7, Tryd.ntmps7
    go_wp2
    go_ret
    exact ⟨by rw [HE.out]; rfl, HB.out⟩
  · have i1 : (n1 : Int) ≤ 40 := by omega
    have i2 : ¬ (n2 : Int) ≤ 40 := by omega
    have HE : Box (R = false) := ⟨by rw [HR.out]; exact decide_eq_false (by omega)⟩
    go_enter Tryd.func7, Tryd.ntmps7
    go_wp2
    go_ret
    exact ⟨by rw [HE.out]; rfl, HB.out⟩
  · have i1 : (n1 : Int) ≤ 40 := by omega
    have i2 : (n2 : Int) ≤ 40 := by omega
    have i3 : ¬ (n3 : Int) ≤ 40 := by omega
    have HE : Box (R = false) := ⟨by rw [HR.out]; exact decide_eq_false (by omega)⟩
    go_enter Tryd.func7, Tryd.ntmps7
    go_wp2
    go_ret
    exact ⟨by rw [HE.out]; rfl, HB.out⟩
  · have i1 : (n1 : Int) ≤ 40 := by omega
    have i2 : (n2 : Int) ≤ 40 := by omega
    have i3 : (n3 : Int) ≤ 40 := by omega
    have i4 : ¬ (n4 : Int) ≤ 40 := by omega
    have HE : Box (R = false) := ⟨by rw [HR.out]; exact decide_eq_false (by omega)⟩
    go_enter Tryd.func7, Tryd.ntmps7
    go_wp2
    go_ret
    exact ⟨by rw [HE.out]; rfl, HB.out⟩
  · have i1 : (n1 : Int) ≤ 40 := by omega
    have i2 : (n2 : Int) ≤ 40 := by omega
    have i3 : (n3 : Int) ≤ 40 := by omega
    have i4 : (n4 : Int) ≤ 40 := by omega
    have HE : Box (R = true) := ⟨by rw [HR.out]; exact decide_eq_true ⟨q1, q2, q3, q4⟩⟩
    go_enter Tryd.func7, Tryd.ntmps7
    go_wp2
    go_ret
    exact ⟨by rw [HE.out]; rfl, HB.out⟩

end Go.Proofs.YtimeodjfihpgeaaDoor
