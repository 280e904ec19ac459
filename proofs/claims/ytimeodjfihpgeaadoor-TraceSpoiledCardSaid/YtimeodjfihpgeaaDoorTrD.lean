/-
  Records of ticks: whether one may be: the walk of the program's 'May'.
-/
import Derived.Test.YtimeodjfihpgeaaDoorTrC
namespace Go.Proofs.YtimeodjfihpgeaaDoor
open Go.RowKit

/-- A row of outcomes. -/
def FatesAt (w : World) (ao : Option Addr) (n : Nat) (l : List (Int × Int × Int)) : Prop := l.length = n ∧ n ≤ 1000000 ∧ (0 < n → ∃ b off, ao = some ⟨b, off, none⟩ ∧ b < w.heap.size ∧
  ∀ i (hi : i < l.length), w.cell? ⟨b, off + i * 3, none⟩ = some (.int .i64 l[i].1) ∧ w.cell? ⟨b, off + i * 3 + 1, none⟩ = some (.int .i64 l[i].2.1) ∧ w.cell? ⟨b, off + i * 3 + 2, none⟩ = some (.int .i64 l[i].2.2))
theorem FatesAt.later {w w' : World} {ao : Option Addr} {n : Nat} {l : List (Int × Int × Int)} (h : FatesAt w ao n l) (hb : Below w.heap.size w w') : FatesAt w' ao n l :=
  ⟨h.1, h.2.1, fun h0 => by
    obtain ⟨b, off, e, hl, hc⟩ := h.2.2 h0
    exact ⟨b, off, e, Nat.lt_of_lt_of_le hl hb.size, fun i hi => ⟨(hb.cell (p := ⟨b, off + i * 3, none⟩) hl).trans (hc i hi).1, (hb.cell (p := ⟨b, off + i * 3 + 1, none⟩) hl).trans (hc i hi).2.1, (hb.cell (p := ⟨b, off + i * 3 + 2, none⟩) hl).trans (hc i hi).2.2⟩⟩⟩
theorem FatesAt.at {w : World} {ao : Option Addr} {n : Nat} {l : List (Int × Int × Int)} (h : FatesAt w ao n l) {i : Nat} (hi : i < n) : ∃ b off p k v, ao = some ⟨b, off, none⟩ ∧ b < w.heap.size ∧ l.drop i = (p, k, v) :: l.drop (i + 1) ∧
    w.cell? ⟨b, off + i * 3, none⟩ = some (.int .i64 p) ∧ w.cell? ⟨b, off + i * 3 + 1, none⟩ = some (.int .i64 k) ∧ w.cell? ⟨b, off + i * 3 + 2, none⟩ = some (.int .i64 v) := by
  obtain ⟨b, off, e, hl, hc⟩ := h.2.2 (by omega)
  have hi' : i < l.length := by rw [h.1]; exact hi
  exact ⟨b, off, l[i].1, l[i].2.1, l[i].2.2, e, hl, drop_at hi', hc i hi'⟩
set_option maxHeartbeats 4000000 in
theorem findex_any (ao : Option Addr) (n cap : Nat) (l : List (Int × Int × Int)) (w : World) (h : FatesAt w ao n l) : Calls Tryd.prog 35 #[.slice ao n cap, .func (.func 22) #[] #[]] w fun e w' => ∃ r : Int, e = .returned (.int .i64 r) ∧ Box (0 ≤ r ↔ l.all fateB = false) ∧ Below w.heap.size w w' := by
  have H := Box.mk h
  have hn := h.2.1
  have HM := Box.mk (fun (i k v : Int) w => may1_any i k v w)
  obtain ⟨R, HR⟩ : ∃ R, Box (R = l.all fateB) := ⟨_, ⟨rfl⟩⟩
  rw [← HR.out]
  clear h
  go_enter Tryd.func35, Tryd.ntmps35
  go_upto_block 0 with fail
  go_wp2
  go_loopw [5, 8] (fun _ s8 wr => ∃ i : Nat, i ≤ n ∧ s8 = .int .i64 i ∧ Box (R = (l.drop i).all fateB) ∧ Box (Below w.heap.size w wr)) (fun _ s8 _ => n - (intOf s8).toNat)
  case atStart => exact ⟨0, by omega, rfl, ⟨by rw [HR.out]; rfl⟩, ⟨Below.refl _ _⟩⟩
  case round =>
    obtain ⟨i, hi, rfl, HX, HB⟩ := hrel
    by_cases hlt : i < n
    · obtain ⟨b, off, p, k, v, rfl, hb, hd, c0, c1, c2⟩ := (H.out.later HB.out).at hlt
      have hii : (i : Int) < n := by omega
      have HX2 : Box (R = (fateB (p, k, v) && (l.drop (i + 1)).all fateB)) := ⟨by rw [HX.out, hd]; rfl⟩
      have HM := Box.mk (HM.out p k v)
      clear hd HX
      generalize fateB (p, k, v) = q at HM HX2
      cases q with
      | true =>
        go_wp2_with (go_at_call 22; (with_reducible refine (HM.out _).mono ?_); rintro e w1 ⟨rfl, hb1⟩; have HB1 := Box.mk (below_step HB.out hb1); clear hb1)
        go_roundw
        case rel => exact ⟨i + 1, by omega, by go_num, ⟨HX2.out⟩, HB1⟩
        case measure => simp [intOf] <;> omega
      | false =>
        have HE : Box (R = false) := ⟨HX2.out⟩
        go_wp2_with (go_at_call 22; (with_reducible refine (HM.out _).mono ?_); rintro e w1 ⟨rfl, hb1⟩; have HB1 := Box.mk (below_step HB.out hb1); clear hb1)
        go_ret
        exact ⟨i, rfl, ⟨⟨fun _ => HE.out, fun _ => by omega⟩⟩, HB1.out⟩
    · have hii : ¬ (i : Int) < n := by omega
      have HE : Box (R = true) := ⟨by rw [HX.out, List.drop_eq_nil_of_le (by have := H.out.1; omega)]; rfl⟩
      clear HX
      go_wp2
      go_ret
      exact ⟨-1, rfl, ⟨⟨fun h => by omega, fun h => by rw [HE.out] at h; cases h⟩⟩, HB.out⟩
set_option maxHeartbeats 4000000 in
theorem fcontains_any (ao : Option Addr) (n cap : Nat) (l : List (Int × Int × Int)) (w : World) (h : FatesAt w ao n l) : Calls Tryd.prog 21 #[.slice ao n cap, .func (.func 22) #[] #[]] w fun e w' => e = .returned (.bool (!l.all fateB)) ∧ Below w.heap.size w w' := by
  have HI := Box.mk (findex_any ao n cap l w h)
  clear h
  go_enter Tryd.func21, Tryd.ntmps21
  go_wp2_with (go_at_call 35; (with_reducible refine HI.out.mono ?_); rintro e w1 ⟨r, rfl, HR, hb⟩; have HB := Box.mk hb; clear hb)
  go_ret
  refine ⟨?_, HB.out⟩
  show Ending.returned (.bool (decide (0 ≤ r))) = .returned (.bool (!l.all fateB))
  congr 2
  rw [Bool.eq_iff_iff, decide_eq_true_eq, Bool.not_eq_true']
  exact HR.out

theorem who_cases (p0 p1 p2 p3 p4 : Bool) : p0 = false ∨ (p0 = true ∧ p1 = false) ∨ (p0 = true ∧ p1 = true ∧ p2 = false) ∨ (p0 = true ∧ p1 = true ∧ p2 = true ∧ p3 = false) ∨ (p0 = true ∧ p1 = true ∧ p2 = true ∧ p3 = true) := by
  cases p0 <;> cases p1 <;> cases p2 <;> cases p3 <;> simp
/-- Where a record lies. -/
structure TkAt (w : World) (t : Tk) (a1 : Option Addr) (n1 : Nat) (a2 : Option Addr) (n2 : Nat) (a3 : Option Addr) (n3 : Nat) (a4 : Option Addr) (n4 : Nat) : Prop where
  dn : NumsAt w a1 n1 t.dn
  ct : NumsAt w a2 n2 t.ct
  ms : NumsAt w a3 n3 t.ms
  fs : FatesAt w a4 n4 t.fs
theorem TkAt.later {w w' : World} {t : Tk} {a1 a2 a3 a4 : Option Addr} {n1 n2 n3 n4 : Nat} (h : TkAt w t a1 n1 a2 n2 a3 n3 a4 n4) (hb : Below w.heap.size w w') : TkAt w' t a1 n1 a2 n2 a3 n3 a4 n4 := ⟨h.dn.later hb, h.ct.later hb, h.ms.later hb, h.fs.later hb⟩
/-- A record's value. -/
@[reducible] def tkv (who : Int) (a1 : Option Addr) (n1 c1 : Nat) (a2 : Option Addr) (n2 c2 : Nat) (a3 : Option Addr) (n3 c3 : Nat) (a4 : Option Addr) (n4 c4 : Nat) : Array Value := #[.int .i64 who, .slice a1 n1 c1, .slice a2 n2 c2, .slice a3 n3 c3, .slice a4 n4 c4]

set_option maxHeartbeats 8000000 in
theorem tmay_any (t : Tk) (a1 : Option Addr) (n1 c1 : Nat) (a2 : Option Addr) (n2 c2 : Nat) (a3 : Option Addr) (n3 c3 : Nat) (a4 : Option Addr) (n4 c4 : Nat) (w : World) (h : TkAt w t a1 n1 a2 n2 a3 n3 a4 n4) : Calls Tryd.prog 10 #[.agg #[.int .i64 t.who, .slice a1 n1 c1, .slice a2 n2 c2, .slice a3 n3 c3, .slice a4 n4 c4]] w fun e w' => e = .returned (.bool (mayT t)) ∧ Below w.heap.size w w' := by
  have hbl : Below w.heap.size w (w.alloc (.cells #[.int .i64 t.who, .slice a1 n1 c1, .slice a2 n2 c2, .slice a3 n3 c3, .slice a4 n4 c4] 27)) := (Below.refl _ w).alloc (Nat.le_refl _) _
  have HB := Box.mk hbl
  have HT := Box.mk (h.later hbl)
  have HX1 : Box ((w.alloc (.cells #[.int .i64 t.who, .slice a1 n1 c1, .slice a2 n2 c2, .slice a3 n3 c3, .slice a4 n4 c4] 27)).heap[w.heap.size]? = some (.cells #[.int .i64 t.who, .slice a1 n1 c1, .slice a2 n2 c2, .slice a3 n3 c3, .slice a4 n4 c4] 27 (0, 0))) := ⟨blk_new _ _⟩
  have H0 := Box.mk (fun w => mayWho_any t.who w)
  have H1 := Box.mk (rising_any a1 n1 c1 t.dn _ HT.out.dn)
  have H2 := Box.mk (rising_any a2 n2 c2 t.ct _ HT.out.ct)
  have H3 := Box.mk (rising_any a3 n3 c3 t.ms _ HT.out.ms)
  have H4 := Box.mk (fcontains_any a4 n4 c4 t.fs _ HT.out.fs)
  unfold mayT
  clear h hbl HT
  generalize whoB t.who = p0 at H0 ⊢
  generalize risingF (-1) t.dn = p1 at H1 ⊢
  generalize risingF (-1) t.ct = p2 at H2 ⊢
  generalize risingF (-1) t.ms = p3 at H3 ⊢
  generalize t.fs.all fateB = p4 at H4 ⊢
  generalize t.who = who at H0 H1 H2 H3 H4 HB HX1 ⊢
  rcases who_cases p0 p1 p2 p3 p4 with rfl | ⟨rfl, rfl⟩ | ⟨rfl, rfl, rfl⟩ | ⟨rfl, rfl, rfl, rfl⟩ | ⟨rfl, rfl, rfl, rfl⟩
  all_goals
    go_enter Tryd.func10, Tryd.ntmps10
    go_upto_region 1 with fail
    generalize hV : w.alloc (.cells #[.int .i64 who, .slice a1 n1 c1, .slice a2 n2 c2, .slice a3 n3 c3, .slice a4 n4 c4] 27) = V at HB HX1 H1 H2 H3 H4 ⊢
    have HVS : Box (V.heap.size = w.heap.size + 1) := ⟨by rw [← hV]; simp⟩
    clear hV
    have e0 : V.cell? ⟨w.heap.size, 0, none⟩ = some (.int .i64 who) := (cell_blk HX1.out 0).trans rfl
    have e1 : V.cell? ⟨w.heap.size, 1, none⟩ = some (.slice a1 n1 c1) := (cell_blk HX1.out 1).trans rfl
    have e2 : V.cell? ⟨w.heap.size, 2, none⟩ = some (.slice a2 n2 c2) := (cell_blk HX1.out 2).trans rfl
    have e3 : V.cell? ⟨w.heap.size, 3, none⟩ = some (.slice a3 n3 c3) := (cell_blk HX1.out 3).trans rfl
    have e4 : V.cell? ⟨w.heap.size, 4, none⟩ = some (.slice a4 n4 c4) := (cell_blk HX1.out 4).trans rfl
    have HBV : Box (Below V.heap.size V V) := ⟨Below.refl _ _⟩
    go_wp2_with (first
      | (go_at_call 19; (with_reducible refine (H0.out _).mono ?_); rintro e w1 ⟨rfl, rfl⟩)
      | (go_at_call 20; (with_reducible refine H1.out.mono ?_); rintro e w1 ⟨rfl, rfl⟩)
      | (go_at_call 20; (with_reducible refine H2.out.mono ?_); rintro e w1 ⟨rfl, rfl⟩)
      | (go_at_call 20; (with_reducible refine H3.out.mono ?_); rintro e w1 ⟨rfl, rfl⟩)
      | (go_at_call 21; (with_reducible refine H4.out.mono ?_); rintro e w1 ⟨rfl, hb⟩; have HBV := Box.mk hb; clear hb))
    go_ret
    exact ⟨by first | rfl | simp, HB.out.trans (HBV.out.mono (by have := HVS.out; omega))⟩

end Go.Proofs.YtimeodjfihpgeaaDoor
